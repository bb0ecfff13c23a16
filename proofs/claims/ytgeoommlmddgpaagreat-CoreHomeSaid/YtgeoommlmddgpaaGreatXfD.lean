/- Part 4. -/
import Derived.Test.YtgeoommlmddgpaaGreatXfC
import Derived.Lib.Overlaps
import Derived.Laws.Externs
import Derived.Test.YtgeoommlmddgpaaGreatRows
set_option linter.unusedVariables false
set_option linter.unusedSimpArgs false
set_option maxRecDepth 100000
namespace Go.Proofs.YtgeoommlmddgpaaGreat.LtA
open Go Go.Proofs Go.Proofs.YtgeoommlmddgpaaGreat.AI Go.RowKit
def gOver:aC
 | [.slice (some ⟨a,off,none⟩) (_+1) _,.slice (some ⟨b,_,none⟩) _ _],hp=>match Nat.beq a b,hp.get a,hp.get b with
   | false,some (.cells _ cs1 false),some (.cells _ (_::_) false)=>match Nat.ble off cs1.length with
     | true=>some (.bool false,hp)
     | false=>none
   | _,_,_=>none
 | _,_=>none
theorem Mv:aq Tryz.prog 165 gOver:=by
 intro args hp v hp' he hk;unfold gOver at he;split at he
 case h_2=>cases he
 rename_i a off la ca b offb lb cb;split at he
 case h_2=>cases he
 rename_i t1 cs1 t2 y ys hab ha hb;split at he
 case h_2=>cases he
 rename_i hoff;cases he;refine ⟨hk,Nat.le_refl _,fun m h w args' hfr s ra=>.inl ?_⟩
 obtain ⟨v1,bs,e1,r1,r2⟩:=ra.of_cons;obtain ⟨v2,bs2,e2,r3,r4⟩:=r2.of_cons;have e3:=r4.of_nil
 subst e3;have ha':=bq hk h a _ ha
 have hb':=bq hk h b _ hb
 obtain ⟨_,_,ra1,oa,capa,q1,rfl,hla,hha⟩:=r1.of_slice;obtain ⟨_,_,rb1,ob,capb,q2,rfl,hlb,hhb⟩:=r3.of_slice;cases q1;cases q2;have ea:args' = #[.slice (some ⟨ra1,oa,none⟩) (la+1) capa,.slice (some ⟨rb1,ob,none⟩) lb capb]:=by cases args'; simp_all
 subst ea;rcases hha with hd | ⟨δ1,E1,hma,hoa,_⟩
 ·rw [ha'] at hd; cases hd
 rcases hhb with hd | ⟨δ2,E2,hmb,_,_⟩
 ·rw [hb'] at hd; cases hd
 obtain ⟨c1,f1,g1,g2,g3,g4,g5⟩:=cg.row (s:=s) ha' hma;obtain ⟨c2,f2,k1,k2,k3,k4,k5⟩:=cg.row (s:=s) hb' hmb;dsimp only at g1 g2 g3 k1 k2 k3
 have hne:ra1≠rb1:=by
  intro e;have:=s.inj a b _ _ hma hmb (by unfold rw?; rw [ha']; rfl) (by unfold aV; rw [hb']) e
  subst this;have hh:Nat.beq a a=true:=Nat.beq_refl a
  rw [hh] at hab;cases hab
 have hoa':oa = δ1+off:=by
  rcases hoa with h1 | h1
  ·exact h1
  ·omega
 have hle:off≤cs1.length:=Nat.le_of_ble_eq_true hoff
 have hfz:∀ j,j≤c1.size→w.frozen? ⟨ra1,j,none⟩=false:=fun j hj=>kO g1 (g5.1 rfl j hj)
 have hrun:=Lib.run_overlaps_apart w 24 4 78 Tryz.underlying24 7 (fun w=>by kernel_rfl) ⟨ra1,oa,none⟩ ⟨rb1,ob,none⟩ (la+1) capa lb capb hne t1 t2 c1.size c2.size
  (by unfold World.shape?; rw [g1]) (by unfold World.shape?; rw [k1]) (by simp at k2; omega) (hfz oa (by omega)) (hfz c1.size (Nat.le_refl _))
 refine ⟨.bool false,w,?_,m,dR.refl s,.flat rfl⟩
 rw [run_callFunc_extern Tryz.func165 (by kernel_rfl) (by kernel_rfl) (by kernel_rfl) (e:=Extern.SlicesOverlaps.overlaps #[24,24] #[4]) (by kernel_rfl),hrun]
 rfl
noncomputable def vx:Code:=(Tryz.f140.body).getD .skip
theorem KR:Tryz.f140.body=some vx:=by kernel_rfl
theorem WA:codeSafe Tryz.prog 95 vx=true:=by kernel_rfl
theorem ntmps63:Tryz.f140.ntmps=95:=by kernel_rfl
def bx(b off n c:Nat):Value:=.slice (some ⟨b,off,none⟩) n c
def cc(c len h:Nat):Nat:=if eJ c=1∧wide c=7 then c else if eJ c=0 then 3*(wide c % 1000000+1000000*(len+spareOf c-h)) else 3*7+2
section
variable (call:aG) (L X:List Value) (t2:TypeId) (n c c2 i x:Nat)
def N4(L:List Value)(X:List Value)(t2:TypeId)(n c c2 i:Nat):St:=⟨tmsOf [bx 0 0 n c,iN i,ae 1 1 c2] 0 .leaf,heapOf [.cells 78 L false,.cells t2 X false,.dead] aE,[]⟩
def hI(L:List Value)(X:List Value)(t2:TypeId):Hp:=heapOf [.cells 78 L false,.cells t2 X false,.dead] aE
theorem X5:(execE Tryz.prog call [(12,bx 0 (i*7) (n-i) (cc c n n)),(22,.bool true)] [] [(25,aW 3 (n+1),[.put 0 .dead,.push (.cells 78 (L++X) false)])] 60 vx (N4 L X t2 n c c2 i)).map (fun y=>(look2 1 [3] [6] (y.1,y.2.1),y.2.2)) =
 some ((.ret,[.cells 78 (L++X) false],[(6,aW 0 (n+1))],true),
  [(fstV ((aSlice Tryz.prog 24 (bx 0 0 n c) (some (iN i)) none none).map fun v=>(v,none)),bx 0 (i*7) (n-i) (cc c n n)),(some (.bool (Int.ofNat i==Int.ofNat n)),.bool true)],[],
  [(aAppend Tryz.prog (hI L X t2).get 3 [24,24] [bx 0 0 n c,ae 1 1 c2],(aW 3 (n+1),[.put 0 .dead,.push (.cells 78 (L++X) false)]))]):=by kernel_rfl
theorem X6(La Lb Z Z':List Value):(execE Tryz.prog call [(12,bx 0 (i*7) (n-i) (cc c n n)),(22,.bool false),(28,iN (n+1)),(30,iN n),(31,.bool true),(34,bx 0 0 i (cc c n i)),(37,iN (n+1)),(39,iN (n+1-i)),(43,bx 3 (i*7) (n+1-i) 22),(49,iN (i+1)),(50,bx 3 ((i+1)*7) (n-i) 22),(53,bx 0 (i*7) (n-i) (cc c n n))] []
  [(40,aW 3 (n+1),[.push (.cells 78 (La++Z) false)]),(45,iN 1,[.put 3 (.cells 78 (La++X++Z') false)]),(54,iN (n-i),[.put 3 (.cells 78 (La++X++Lb) false)])] 60 vx (N4 L X t2 n c c2 i)).map (fun y=>(look2 1 [3] [6] (y.1,y.2.1),y.2.2)) =
 some ((.ret,[.cells 78 (La++X++Lb) false],[(6,aW 0 (n+1))],true),
  [(fstV ((aSlice Tryz.prog 24 (bx 0 0 n c) (some (iN i)) none none).map fun v=>(v,none)),bx 0 (i*7) (n-i) (cc c n n)),
   (some (.bool (Int.ofNat i==Int.ofNat n)),.bool false),(some (.int .i64 (wrapF .i64 (Int.ofNat n+1))),iN (n+1)),
   (fstV ((aCap Tryz.prog 24 (bx 0 0 n c)).map fun v=>(v,none)),iN n),(some (.bool (decide (Int.ofNat (n+1)>Int.ofNat n))),.bool true),
   (fstV ((aSlice Tryz.prog 24 (bx 0 0 n c) none (some (iN i)) none).map fun v=>(v,none)),bx 0 0 i (cc c n i)),
   (some (.int .i64 (wrapF .i64 (Int.ofNat n+1))),iN (n+1)),(some (.int .i64 (wrapF .i64 (Int.ofNat (n+1)-Int.ofNat i))),iN (n+1-i)),
   (fstV ((aSlice Tryz.prog 24 (aW 3 (n+1)) (some (iN i)) none none).map fun v=>(v,none)),bx 3 (i*7) (n+1-i) 22),
   (some (.int .i64 (wrapF .i64 (Int.ofNat i+1))),iN (i+1)),
   (fstV ((aSlice Tryz.prog 24 (aW 3 (n+1)) (some (iN (i+1))) none none).map fun v=>(v,none)),bx 3 ((i+1)*7) (n-i) 22),
   (fstV ((aSlice Tryz.prog 24 (bx 0 0 n c) (some (iN i)) none none).map fun v=>(v,none)),bx 0 (i*7) (n-i) (cc c n n))],[],
  [(aAppend Tryz.prog (hI L X t2).get 3 [24,3] [bx 0 0 i (cc c n i),iN (n+1-i)],(aW 3 (n+1),[.push (.cells 78 (La++Z) false)])),
   (aCopy Tryz.prog ((hI L X t2).push (.cells 78 (La++Z) false)).get [24,24] [bx 3 (i*7) (n+1-i) 22,ae 1 1 c2],(iN 1,[.put 3 (.cells 78 (La++X++Z') false)])),
   (aCopy Tryz.prog (((hI L X t2).push (.cells 78 (La++Z) false)).put 3 (.cells 78 (La++X++Z') false)).get [24,24] [bx 3 ((i+1)*7) (n-i) 22,bx 0 (i*7) (n-i) (cc c n n)],(iN (n-i),[.put 3 (.cells 78 (La++X++Lb) false)]))]):=by kernel_rfl
theorem X7(M1 M2:List Value)(c1:Nat):(execE Tryz.prog call [(12,bx 0 (i*7) (n-i) (cc c n n)),(22,.bool false),(28,iN (n+1)),(30,iN (n+x)),(31,.bool false),(59,iN (n+1)),(60,bx 0 0 (n+1) c1),(65,iN (i+1)),(66,bx 0 ((i+1)*7) (n-i) (cc c1 (n+1) (n+1))),(72,iN (i+1)),(73,bx 0 ((i+1)*7) (n-i) (cc c1 (n+1) (n+1))),
  (76,bx 0 (i*7) (n+1-i) (cc c1 (n+1) (n+1))),(80,bx 0 (i*7) (n+1-i) (cc c1 (n+1) (n+1)))] [(67,.bool false,[])]
  [(77,iN (n-i),[.put 0 (.cells 78 M1 false)]),(82,iN 1,[.put 0 (.cells 78 M2 false)])] 60 vx (N4 L X t2 n c c2 i)).map (fun y=>(look2 1 [0] [6] (y.1,y.2.1),y.2.2)) =
 some ((.ret,[.cells 78 M2 false],[(6,bx 0 0 (n+1) c1)],true),
  [(fstV ((aSlice Tryz.prog 24 (bx 0 0 n c) (some (iN i)) none none).map fun v=>(v,none)),bx 0 (i*7) (n-i) (cc c n n)),
   (some (.bool (Int.ofNat i==Int.ofNat n)),.bool false),(some (.int .i64 (wrapF .i64 (Int.ofNat n+1))),iN (n+1)),
   (fstV ((aCap Tryz.prog 24 (bx 0 0 n c)).map fun v=>(v,none)),iN (n+x)),(some (.bool (decide (Int.ofNat (n+1)>Int.ofNat (n+x)))),.bool false),
   (some (.int .i64 (wrapF .i64 (Int.ofNat n+1))),iN (n+1)),
   (fstV ((aSlice Tryz.prog 24 (bx 0 0 n c) none (some (iN (n+1))) none).map fun v=>(v,none)),bx 0 0 (n+1) c1),
   (some (.int .i64 (wrapF .i64 (Int.ofNat i+1))),iN (i+1)),
   (fstV ((aSlice Tryz.prog 24 (bx 0 0 (n+1) c1) (some (iN (i+1))) none none).map fun v=>(v,none)),bx 0 ((i+1)*7) (n-i) (cc c1 (n+1) (n+1))),
   (some (.int .i64 (wrapF .i64 (Int.ofNat i+1))),iN (i+1)),
   (fstV ((aSlice Tryz.prog 24 (bx 0 0 (n+1) c1) (some (iN (i+1))) none none).map fun v=>(v,none)),bx 0 ((i+1)*7) (n-i) (cc c1 (n+1) (n+1))),
   (fstV ((aSlice Tryz.prog 24 (bx 0 0 (n+1) c1) (some (iN i)) none none).map fun v=>(v,none)),bx 0 (i*7) (n+1-i) (cc c1 (n+1) (n+1))),
   (fstV ((aSlice Tryz.prog 24 (bx 0 0 (n+1) c1) (some (iN i)) none none).map fun v=>(v,none)),bx 0 (i*7) (n+1-i) (cc c1 (n+1) (n+1)))],
  [(call 165 [ae 1 1 c2,bx 0 ((i+1)*7) (n-i) (cc c1 (n+1) (n+1))] (hI L X t2),(.bool false,hI L X t2))],
  [(aCopy Tryz.prog (hI L X t2).get [24,24] [bx 0 ((i+1)*7) (n-i) (cc c1 (n+1) (n+1)),bx 0 (i*7) (n+1-i) (cc c1 (n+1) (n+1))],(iN (n-i),[.put 0 (.cells 78 M1 false)])),
   (aCopy Tryz.prog ((hI L X t2).put 0 (.cells 78 M1 false)).get [24,24] [bx 0 (i*7) (n+1-i) (cc c1 (n+1) (n+1)),ae 1 1 c2],(iN 1,[.put 0 (.cells 78 M2 false)]))]):=by kernel_rfl
end
theorem qI{A B C D:List Value}{k:Nat}(hk:A.length=k)(hl:D.length=B.length):putL (A++B++C) k D=A++D++C:=by
 apply List.ext_getElem?
 intro j;rw [fU];by_cases h1:j<k
 ·rw [if_neg (by omega),List.append_assoc,List.append_assoc,List.getElem?_append_left (by omega),List.getElem?_append_left (by omega)]
 ·by_cases h2:j<k+D.length
  ·rw [if_pos ⟨by omega,h2,by simp; omega⟩,List.append_assoc A D C,List.getElem?_append_right (by omega),List.getElem?_append_left (by omega),hk]
  ·rw [if_neg (by omega),List.getElem?_append_right (by simp; omega),List.getElem?_append_right (by simp; omega)]
   congr 1; simp; omega
theorem Fk{b off n c l:Nat}(h:l≤n):fstV ((aSlice Tryz.prog 24 (bx b off n c) (some (iN l)) none none).map fun v=>(v,none))=some (bx b (off+l*7) (n-l) (cc c n n)):=by
 have h1:(0:Int)≤Int.ofNat l∧Int.ofNat l≤(n:Int):=⟨Int.natCast_nonneg l,by simpa using h⟩
 simp only [aSlice,bx,iN,Tryz.underlying24,kD,bound];rw [if_pos h1];simp [fstV,cc]
theorem eu{b n c l:Nat}(h:l≤n):fstV ((aSlice Tryz.prog 24 (bx b 0 n c) (some (iN l)) none none).map fun v=>(v,none))=some (bx b (l*7) (n-l) (cc c n n)):=by
 rw [Fk h,Nat.zero_add]
theorem Ph(n h:Nat):cc 22 n h=22:=by unfold cc; rw [if_pos (by decide)]
theorem qU{b n c l:Nat}(h:l≤n+spareOf c):fstV ((aSlice Tryz.prog 24 (bx b 0 n c) none (some (iN l)) none).map fun v=>(v,none))=some (bx b 0 l (cc c n l)):=by
 have h1:(0:Int)≤Int.ofNat l∧Int.ofNat l≤((n+spareOf c:Nat):Int):=⟨Int.natCast_nonneg l,Int.ofNat_le.2 h⟩
 simp only [aSlice,bx,iN,Tryz.underlying24,kD,bound];rw [if_pos h1];simp [fstV,cc]
theorem CR{b n c x:Nat}(h0:c % 3=0)(hx:c / 3 / 1000000=x):fstV ((aCap Tryz.prog 24 (bx b 0 n c)).map fun v=>(v,none))=some (iN (n+x)):=by
 simp only [aCap,bx,Tryz.underlying24,h0];have e:(↑n + ↑c / 3 / 1000000:Int)=Int.ofNat (n+x):=by
  rw [← hx];simp only [Int.ofNat_eq_natCast,Int.natCast_add,Int.natCast_ediv];rfl
 show some (Value.int .i64 (↑n + ↑c / 3 / 1000000))=_
 rw [e];rfl
theorem IS:∃ z,tzero Tryz.prog 78=some z∧z.length=7∧z.all isOne=true:=by
 have h:(tzero Tryz.prog 78).map (fun z=>(z.length,z.all isOne))=some (7,true):=by kernel_rfl
 obtain ⟨z,h1,h2⟩:=Option.map_eq_some_iff.1 h;simp only [Prod.mk.injEq] at h2;exact ⟨z,h1,h2.1,h2.2⟩
theorem wM{z:List Value}(hz:z.all isOne=true):∀ n,(repL z n).all isOne=true
 | 0=>rfl
 | n+1=>by simp only [repL,List.all_append,hz,wM hz n,Bool.and_self]
theorem qM(z:List Value):∀ a b,repL z (a+b)=repL z a++repL z b
 | 0,b=>by simp [repL]
 | a+1,b=>by rw [show a+1+b=(a+b)+1 by omega,repL,repL,qM z a b,List.append_assoc]
theorem vH{A B C:List Value}{k n:Nat}(hk:A.length=k)(hn:B.length=n):eA (A++B++C) k n=some B:=by
 have e:((A++B++C).drop k).take n=B:=by
  rw [List.append_assoc,List.drop_left' hk,List.take_left' hn]
 unfold eA;rw [e,if_pos hn]
theorem GB{get:Nat→Option af}{L X:List Value}{t2:TypeId}{n c2:Nat}(h0:get 0=some (.cells 78 L false))(h1:get 1=some (.cells t2 X false))(hL:L.length=n*7)(hX:X.length=7)(oX:X.all isOne=true)(hn:n<1000000) :
  aAppend Tryz.prog get 3 [24,24] [bx 0 0 n 22,ae 1 1 c2]=some (aW 3 (n+1),[.put 0 .dead,.push (.cells 78 (L++X) false)]):=by
 obtain ⟨i,hi,h7,pg⟩:=l7;obtain ⟨z,hz,hzl⟩:=ot;have hsrc:aSrc Tryz.prog get 7 z (.slice 78) (ae 1 1 c2)=some (X,1):=by
  unfold aSrc;simp only [ae,srcLen,srcCells,h1];rw [if_neg (by omega),if_neg (by omega),cx (n:=1*7) (by omega)]
  rfl
 have hg:eA L 0 (n*7)=some L:=cx hL
 unfold aAppend;simp only [Tryz.underlying24,hi,hz,h7,pg,hzl];rw [if_neg (by decide)]
 simp only [hsrc,oX,hX];rw [if_neg (by simp)]
 simp only [bx];rw [if_neg (by omega),if_neg (by omega)]
 simp only [h0,hg];rw [if_neg (by omega),if_pos (by decide),if_neg (by rw [hL]; omega)]
 rfl
theorem Ca{get:Nat→Option af}{L:List Value}{n i k cI:Nat}(h0:get 0=some (.cells 78 L false))(hL:L.length=n*7)(hi:i≤n)(hc:cI % 3=0∧cI / 3 / 1000000<k)(hn:n<1000000)(hk:i+k=n+1):∃ z,z.length=7 ∧
  aAppend Tryz.prog get 3 [24,3] [bx 0 0 i cI,iN k]=some (aW 3 (n+1),[.push (.cells 78 (L.take (i*7)++repL z k) false)]):=by
 obtain ⟨ii,hi',h7,pg⟩:=l7;obtain ⟨z,hz,hzl,hzo⟩:=IS;refine ⟨z,hzl,?_⟩
 have hsrc:aSrc Tryz.prog get 7 z (.int .i64) (iN k)=some (repL z k,k):=by
  unfold aSrc iN;simp only;rw [if_pos (by simp only [Int.ofNat_eq_natCast]; omega)]
  rfl
 have hg:eA L 0 (i*7)=some (L.take (i*7)):=by
  unfold eA;rw [List.drop_zero,if_pos (by rw [List.length_take]; omega)]
 have hu3:Tryz.prog.underlying 3=some (.int .i64):=by kernel_rfl
 unfold aAppend;simp only [Tryz.underlying24,hu3,hi',hz,h7,pg,hzl];rw [if_neg (by decide)]
 simp only [hsrc,wM hzo,dx,hzl];rw [if_neg (by simp)]
 simp only [bx];rw [if_neg (by omega),if_neg (by omega)]
 simp only [h0,hg];rw [if_pos hc,hk];rfl
theorem pq{get:Nat→Option af}{d doff dlen dc s soff slen sc m:Nat}{ty ty2:TypeId}{ro:Bool}{A B C A2 D C2:List Value}(hm:min slen dlen=m)(h0:0<m)(hd:get d=some (.cells ty (A++B++C) false))(hs:get s=some (.cells ty2 (A2++D++C2) ro))(hA:A.length=doff)(hB:B.length=m*7)(hA2:A2.length=soff)(hD:D.length=m*7)(oD:D.all isOne=true) :
  aCopy Tryz.prog get [24,24] [bx d doff dlen dc,bx s soff slen sc]=some (iN m,[.put d (.cells ty (A++D++C) false)]):=by
 have hsrc:srcCells get 7 m (bx s soff slen sc)=some D:=by
  unfold srcCells bx;simp only [hs];rw [if_neg (by omega),if_neg (by omega),vH hA2 hD]
 unfold aCopy;simp only [Tryz.underlying24,kD];have hl:srcLen (bx s soff slen sc)=some slen:=rfl
 rw [hl];simp only [bx,hm];have hsrc':srcCells get 7 m (.slice (some ⟨s,soff,none⟩) slen sc)=some D:=hsrc
 rw [hsrc'];simp only [oD,hD];rw [if_neg (by simp),if_neg (by omega)]
 simp only [hd];rw [if_pos (by simp; omega),qI hA (by omega)]
 rfl
theorem wrap_add{n:Nat}(h:n<1000000):(some (Value.int .i64 (wrapF .i64 (Int.ofNat n+1))))=some (iN (n+1)):=bz h
theorem F3{n i:Nat}(h:n<1000001)(hi:i≤n):(some (Value.int .i64 (wrapF .i64 (Int.ofNat n-Int.ofNat i))))=some (iN (n-i)):=by
 have e:Int.ofNat n-Int.ofNat i=Int.ofNat (n-i):=by simp only [Int.ofNat_eq_natCast]; omega
 rw [e,wrap64 (by have:=Int.natCast_nonneg (n-i); simp only [Int.ofNat_eq_natCast]; omega) (by simp only [Int.ofNat_eq_natCast]; omega)]
 rfl
def gIns:aC
 | [.slice (some ⟨b,0,none⟩) n c,.int .i64 (.ofNat i),.slice (some ⟨b2,0,none⟩) 1 c2],hp =>
   match Nat.beq c 22,Nat.beq b b2,hp.get b,hp.get b2 with
   | true,false,some (.cells ty L false),some (.cells t2 X false) =>
     match Nat.beq ty 78&&Nat.beq L.length (n*7)&&Nat.beq X.length 7&&Nat.ble i n&&Nat.blt n 1000000&&L.all inert&&X.all inert&&L.all isOne&&X.all isOne with
     | true=>some (bx hp.sz 0 (n+1) 23,heapOf ([.cells 78 (L.take (i*7)++X++L.drop (i*7)) false] ++ [.dead]) (killL [b,b2] hp))
     | false=>none
   | _,_,_,_=>none
 | _,_=>none
noncomputable def EI:Ext:=fh E5 [(165,gOver)]
theorem OB:ExtOk Tryz.prog EI:=bC BG (.cons Mv .nil)
noncomputable def cI:aG:=aCall Tryz.prog EI 5
theorem CN:ba Tryz.prog cI:=aQ OB follows 5
theorem G5(args:List Value)(hp:Hp):cI 165 args hp=gOver args hp:=rfl
theorem XW(v:Value)(O:List af)(g:Nat→Value):retVal Tryz.prog Tryz.f140 (av 95 g [(6,v)] O)=some v:=by kernel_rfl
theorem N'(L X:List Value)(t2:TypeId):(hI L X t2).get 0=some (.cells 78 L false):=by unfold hI; rw [ak]; rfl
theorem S2(L X:List Value)(t2:TypeId):(hI L X t2).get 1=some (.cells t2 X false):=by unfold hI; rw [ak]; rfl
theorem DH(L X:List Value)(t2:TypeId):(hI L X t2).sz=3:=rfl
def uP(R:List Value)(n:Nat)(e:Exit)(st:St):Prop:=(e = .normal∨e = .ret)∧st.df = []∧∃ c v0,v0=bx 0 0 (n+1) c∧retVal Tryz.prog Tryz.f140 st=some v0∧st.hp.get 0=some (.cells 78 R false)
section
variable {L X:List Value} {t2:TypeId} {n c c2 i x:Nat} {W:bh}
theorem tN{R:List Value}{c1:Nat}(g:Nat→Value):uP R n .ret (av 95 g [(6,bx 0 0 (n+1) c1)] [.cells 78 R false]) :=
 ⟨.inr rfl,rfl,c1,_,rfl,XW _ _ g,by show (heapOf _ aE).get 0=_; rw [ak]; rfl⟩
theorem xP(h:i≠n):some (Value.bool (Int.ofNat i==Int.ofNat n))=some (.bool false):=by
 have:(Int.ofNat i==Int.ofNat n)=false:=beq_false_of_ne (fun e=>h (Int.ofNat.inj e))
 rw [this]
theorem Dx{R:List Value}(hR:R.all inert=true)(i:Nat)(hi:i<1)(o:af)(ho : [af.cells 78 R false][i]? = some o):dw 0 o:=by
 have:i=0:=by omega
 subst this;simp at ho;subst ho;exact bb (by exact hR) 0
theorem HO(hL:L.length=n*7)(hX:X.length=7)(iL:L.all inert=true)(iX:X.all inert=true)(oX:X.all isOne=true)(hn:n<1000000) :
  ah Tryz.prog 95 W vx (N4 L X t2 n 22 c2 n) (uP (L++X) n):=by
 refine ah.aL CN follows 1 _ _ _ _ (X5 cI L X t2 n 22 c2 n) (Met.cons (eu (Nat.le_refl _)) (Met.cons (by rw [beq_self_eq_true]) Met.nil)) ay.nil (az.cons (GB (N' L X t2) (S2 L X t2) hL hX oX hn) az.nil) WA rfl rfl (Dx (by rw [List.all_append,iL,iX]; rfl)) fun g=>tN g
theorem nC(hL:L.length=n*7)(hi:i≤n):(L.take (i*7)).length=i*7:=by rw [List.length_take]; omega
theorem mR(hL:L.length=n*7)(hi:i≤n):(L.drop (i*7)).length=(n-i)*7:=by rw [List.length_drop,hL,Nat.sub_mul]
theorem kc{p:Value→Bool}(h:L.all p=true)(k:Nat):(L.take k).all p=true:=List.all_eq_true.2 fun v hv=>List.all_eq_true.1 h v (List.mem_of_mem_take hv)
theorem fO{p:Value→Bool}(h:L.all p=true)(k:Nat):(L.drop k).all p=true:=List.all_eq_true.2 fun v hv=>List.all_eq_true.1 h v (List.mem_of_mem_drop hv)
theorem DS(hL:L.length=n*7)(hX:X.length=7)(iL:L.all inert=true)(iX:X.all inert=true)(oL:L.all isOne=true)(oX:X.all isOne=true)(hn:n<1000000)(hi:i<n) :
  ah Tryz.prog 95 W vx (N4 L X t2 n 21 c2 i) (uP (L.take (i*7)++X++L.drop (i*7)) n):=by
 have hsp:spareOf 21=0:=rfl
 have hc:cc 21 n i % 3=0∧cc 21 n i / 3 / 1000000<n+1-i:=by
  unfold cc;rw [if_neg (by decide),if_pos (by decide),hsp]
  have:wide 21 % 1000000=7:=by decide
  rw [this];constructor <;> omega
 have ht:=nC hL (Nat.le_of_lt hi)
 have hd:=mR hL (Nat.le_of_lt hi)
 obtain ⟨z,hz,happ⟩:=Ca (get:=(hI L X t2).get) (k:=n+1-i) (N' L X t2) hL (Nat.le_of_lt hi) hc hn (by omega)
 have hrl:∀ k,(repL z k).length=k*7:=fun k=>by rw [dx,hz]
 refine ah.aL CN follows 1 _ _ _ _ (X6 cI L X t2 n 21 c2 i (L.take (i*7)) (L.drop (i*7)) (repL z (n+1-i)) (repL z (n-i))) ?_ ay.nil ?_ WA rfl rfl (Dx (by rw [List.all_append,List.all_append,kc iL,iX,fO iL]; rfl)) fun g=>tN g
 ·refine Met.cons (eu (Nat.le_of_lt hi)) (Met.cons (xP (by omega)) (Met.cons (wrap_add hn) (Met.cons (CR (x:=0) rfl rfl) (Met.cons (ag (decide_eq_true (by simp only [Int.ofNat_eq_natCast]; omega))) (Met.cons (qU (by omega)) (Met.cons (wrap_add hn) (Met.cons (F3 (by omega) (by omega)) (Met.cons ?_ (Met.cons (wrap_add (by omega)) (Met.cons ?_ (Met.cons (eu (Nat.le_of_lt hi)) Met.nil)))))))))))
  ·have:=eu (b:=3) (c:=22) (n:=n+1) (l:=i) (by omega)
   rw [Ph] at this; exact this
  ·have:=eu (b:=3) (c:=22) (n:=n+1) (l:=i+1) (by omega)
   rw [Ph,show n+1-(i+1)=n-i by omega] at this; exact this
 ·refine az.cons happ (az.cons ?_ (az.cons ?_ az.nil))
  ·have e:repL z (n+1-i)=repL z 1++repL z (n-i):=by rw [← qM,show 1+(n-i)=n+1-i by omega]
   have:=pq (get:=((hI L X t2).push (.cells 78 (L.take (i*7)++repL z (n+1-i)) false)).get) (d:=3) (doff:=i*7) (dlen:=n+1-i) (dc:=22) (s:=1) (soff:=0) (slen:=1) (sc:=c2) (m:=1) (ty:=78) (ty2:=t2) (ro:=false)
     (A:=L.take (i*7)) (B:=repL z 1) (C:=repL z (n-i)) (A2:=[]) (D:=X) (C2:=[]) (by omega) (by omega) (by rw [Hp.cy,DH,if_pos rfl,e,List.append_assoc]) (by rw [Hp.cy,DH,if_neg (by omega),S2]; simp) ht (hrl 1) rfl (by omega) oX
   exact this
  ·have:=pq (get:=(((hI L X t2).push (.cells 78 (L.take (i*7)++repL z (n+1-i)) false)).put 3 (.cells 78 (L.take (i*7)++X++repL z (n-i)) false)).get) (d:=3) (doff:=(i+1)*7) (dlen:=n-i) (dc:=22) (s:=0) (soff:=i*7) (slen:=n-i) (sc:=cc 21 n n) (m:=n-i) (ty:=78) (ty2:=78) (ro:=false)
      (A:=L.take (i*7)++X) (B:=repL z (n-i)) (C:=[]) (A2:=L.take (i*7)) (D:=L.drop (i*7)) (C2:=[]) (by omega) (by omega) (by rw [Hp.dy,if_pos rfl,List.append_nil]) (by rw [Hp.dy,if_neg (by omega),Hp.cy,DH,if_neg (by omega),N',List.append_nil,List.take_append_drop]) (by rw [List.length_append,ht,hX,Nat.succ_mul]) (hrl _) ht hd (fO oL _)
   rw [List.append_nil] at this;exact this
theorem DT{J:List Value}(hL:L.length=n*7)(hX:X.length=7)(hJ:J.length=7)(iL:L.all inert=true)(iX:X.all inert=true)(oL:L.all isOne=true)(oX:X.all isOne=true)(hn:n<1000000)(hi:i<n)(hx:0<x) :
  ah Tryz.prog 95 W vx (N4 (L++J) X t2 n (3*(7+1000000*x)) c2 i) (uP (L.take (i*7)++X++L.drop (i*7)) n):=by
 have ht:=nC hL (Nat.le_of_lt hi)
 have hd:=mR hL (Nat.le_of_lt hi)
 have ht1:=nC (i:=i+1) hL hi
 have Bz:=mR (i:=i+1) hL hi
 have hdt:((L.drop (i*7)).take 7).length=7:=by rw [List.length_take,hd]; omega
 have ed:L.drop (i*7)=(L.drop (i*7)).take 7++L.drop ((i+1)*7):=by
  have:=(List.take_append_drop 7 (L.drop (i*7))).symm
  rw [List.drop_drop,show i*7+7=(i+1)*7 by omega] at this
  exact this
 have et:L.take ((i+1)*7)=L.take (i*7)++(L.drop (i*7)).take 7:=by
  rw [show (i+1)*7=i*7+7 by omega,List.take_add]
 have hsp:spareOf (3*(7+1000000*x))=x:=by
  unfold spareOf;rw [show 3*(7+1000000*x) % 3=0 by omega]
  show 3*(7+1000000*x) / 3 / 1000000=x
  omega
 refine ah.aL CN follows 1 _ _ _ _ (X7 cI (L++J) X t2 n (3*(7+1000000*x)) c2 i x (L.take ((i+1)*7)++L.drop (i*7)) (L.take (i*7)++X++L.drop (i*7)) (cc (3*(7+1000000*x)) n (n+1))) ?_ ?_ ?_ WA rfl rfl (Dx (by rw [List.all_append,List.all_append,kc iL,iX,fO iL]; rfl)) fun g=>tN g
 ·have s1:∀ c,fstV ((aSlice Tryz.prog 24 (bx 0 0 (n+1) c) (some (iN (i+1))) none none).map fun v=>(v,none))=some (bx 0 ((i+1)*7) (n-i) (cc c (n+1) (n+1))):=fun c=>by
   have:=eu (b:=0) (c:=c) (n:=n+1) (l:=i+1) (by omega)
   rw [show n+1-(i+1)=n-i by omega] at this; exact this
  have s2:∀ c,fstV ((aSlice Tryz.prog 24 (bx 0 0 (n+1) c) (some (iN i)) none none).map fun v=>(v,none))=some (bx 0 (i*7) (n+1-i) (cc c (n+1) (n+1))):=fun c=>eu (by omega)
  exact Met.cons (eu (Nat.le_of_lt hi)) (Met.cons (xP (by omega)) (Met.cons (wrap_add hn) (Met.cons (CR (x:=x) (by omega) (by omega)) (Met.cons (ag (decide_eq_false (by simp only [Int.ofNat_eq_natCast]; omega))) (Met.cons (wrap_add hn) (Met.cons (qU (by rw [hsp]; omega)) (Met.cons (wrap_add (by omega)) (Met.cons (s1 _) (Met.cons (wrap_add (by omega)) (Met.cons (s1 _) (Met.cons (s2 _) (Met.cons (s2 _) Met.nil))))))))))))
 ·refine ay.cons ?_ ay.nil
  rw [G5];obtain ⟨y,ys,hy⟩:∃ y ys,L++J=y::ys:=by
    cases h:L++J with
    | nil=>have:=congrArg List.length h; rw [List.length_append,hL,hJ,List.length_nil] at this; omega
    | cons y ys=>exact ⟨y,ys,rfl⟩
  unfold gOver ae bx;simp only [N',S2,hy];rfl
 ·refine az.cons ?_ (az.cons ?_ az.nil)
  ·have:=pq (get:=(hI (L++J) X t2).get) (d:=0) (doff:=(i+1)*7) (dlen:=n-i) (dc:=cc (cc (3*(7+1000000*x)) n (n+1)) (n+1) (n+1)) (s:=0) (soff:=i*7) (slen:=n+1-i) (sc:=cc (cc (3*(7+1000000*x)) n (n+1)) (n+1) (n+1)) (m:=n-i) (ty:=78) (ty2:=78) (ro:=false)
      (A:=L.take ((i+1)*7)) (B:=L.drop ((i+1)*7)++J) (C:=[]) (A2:=L.take (i*7)) (D:=L.drop (i*7)) (C2:=J) (by omega) (by omega) (by rw [N',List.append_nil,← List.append_assoc,List.take_append_drop]) (by rw [N',List.take_append_drop]) ht1 (by rw [List.length_append,Bz,hJ]; omega) ht hd (fO oL _)
   rw [List.append_nil] at this;exact this
  ·have:=pq (get:=((hI (L++J) X t2).put 0 (.cells 78 (L.take ((i+1)*7)++L.drop (i*7)) false)).get) (d:=0) (doff:=i*7) (dlen:=n+1-i) (dc:=cc (cc (3*(7+1000000*x)) n (n+1)) (n+1) (n+1)) (s:=1) (soff:=0) (slen:=1) (sc:=c2) (m:=1) (ty:=78) (ty2:=t2) (ro:=false)
      (A:=L.take (i*7)) (B:=(L.drop (i*7)).take 7) (C:=L.drop (i*7)) (A2:=[]) (D:=X) (C2:=[]) (by omega) (by omega) (by rw [Hp.dy,if_pos rfl,et]) (by rw [Hp.dy,if_neg (by omega),S2]; simp) ht (by omega) rfl (by omega) oX
   exact this
end
theorem wT{m:BM}{h:HG}{b n c:Nat}{x:Value}(r:aj m h (bx b 0 n c) x):aj m h (bx b 0 n 23) x:=by
 obtain ⟨_,_,r1,o1,cap,q1,rfl,h0,hh⟩:=r.dM;cases q1;refine .slice (.of h0.1 (by decide)) ?_
 rcases hh with hd | ⟨δ,E,h1,h2,_⟩
 ·exact .inl hd
 ·exact .inr ⟨δ,E,h1,h2,(fun h=>absurd h (by decide)),(fun h=>absurd h (by decide))⟩
theorem T4:aq Tryz.prog 140 gIns:=nV follows Tryz.func140 KR (by kernel_rfl) fun args hp v hp' he hk=>by
 unfold gIns at he;split at he
 case h_2=>cases he
 rename_i b n c i b2 c2;split at he
 case h_2=>cases he
 rename_i ty L t2 X hc hbb hb hb2;split at he
 case h_2=>cases he
 rename_i hcond;cases he;simp only [Bool.and_eq_true] at hcond;obtain ⟨⟨⟨⟨⟨⟨⟨⟨k1,k2⟩,k3⟩,k4⟩,k5⟩,iL⟩,iX⟩,oL⟩,oX⟩:=hcond;have hc':=Nat.eq_of_beq_eq_true hc
 have hty:=Nat.eq_of_beq_eq_true k1
 have hL:=Nat.eq_of_beq_eq_true k2
 have hX:=Nat.eq_of_beq_eq_true k3
 have hin:=Nat.le_of_ble_eq_true k4
 have hn:n<1000000:=by simpa [Nat.blt_eq] using k5
 subst hc' hty;have hne:b≠b2:=fun e=>by subst e; rw [Nat.beq_refl] at hbb; cases hbb
 refine ⟨[b,b2],[.cells 78 (L.take (i*7)++X++L.drop (i*7)) false],rfl,fun b' hb'=>?_,fun m h w args' s ra=>?_⟩
 ·have:b'=b∨b'=b2:=by simpa using hb'
  rcases this with rfl | rfl
  ·exact ⟨_,hb,rfl⟩
  ·exact ⟨_,hb2,rfl⟩
 obtain ⟨v1,bs1,e1,r1,ra1⟩:=ra.of_cons;obtain ⟨v2,bs2,e2,r2,ra2⟩:=ra1.of_cons;obtain ⟨v3,bs3,e3,r3,ra3⟩:=ra2.of_cons;have e4:=ra3.of_nil
 subst e4;obtain ⟨_,_,rr,oo,cap,q1,rfl,hcap,hh⟩:=r1.dM;cases q1;have ev2:=r2.of_int
 subst ev2;obtain ⟨_,_,rr2,oo2,cap2,q2,rfl,hcap2,hh2⟩:=r3.dM;cases q2;have ea:args'.toList = [.slice (some ⟨rr,oo,none⟩) n cap,.int .i64 (.ofNat i),.slice (some ⟨rr2,oo2,none⟩) 1 cap2]:=by rw [e1,e2,e3]
 have gb:=bq hk h b _ hb
 have gb2:=bq hk h b2 _ hb2
 rcases hh with hd | ⟨δ,E,hm,hoff,hcok⟩
 ·rw [gb] at hd; cases hd
 rcases hh2 with hd | ⟨δ2,E2,hm2,hoff2,hcok2⟩
 ·rw [gb2] at hd; cases hd
 refine ⟨fun b' hb'=>?_,?_⟩
 ·have:b'=b∨b'=b2:=by simpa using hb'
  rcases this with rfl | rfl
  ·exact ⟨_,hm⟩
  ·exact ⟨_,hm2⟩
 have hE : δ + cap*7=E:=by have:=hcok.2 (by decide); simpa using this
 have hle:=hcap.1
 have hrow:∀ {o1 o2:af} (b':Nat) (x:Nat×Nat×Nat),canM m [b,b2] b'=some x→rw? (heapOf [o1,o2,.dead] aE).get b'=true→rowsOf m [b,b2] x.1:=by
  intro o1 o2 b' x hx _;unfold canM at hx;match b' with
  | 0=>exact ⟨b,by simp,x,hx,rfl⟩
  | 1=>exact ⟨b2,by simp,x,hx,rfl⟩
  | b'+2=>simp at hx
 have hargs:∀ (c0:Nat) {o1 o2:af},BE c0 n cap→yR c0 n cap (δ + 0) E→aD (canM m [b,b2]) (heapOf [o1,o2,.dead] aE).get [bx 0 0 n c0,iN i,ae 1 1 c2] args'.toList:=fun c0 o1 o2 h1 h2=>by
  rw [ea];exact .cons (.slice h1 (.inr ⟨δ,E,hm,hoff,h2⟩)) (.cons (.flat rfl) (.cons (.slice hcap2 (.inr ⟨δ2,E2,hm2,hoff2,hcok2⟩)) .nil))
 have hInert:∀ {R:List Value},R=L.take (i*7)++X++L.drop (i*7)→aA (.cells 78 R false)=true:=fun e=>by
  subst e;show List.all _ inert=true
  rw [List.all_append,List.all_append,kc iL,iX,fO iL]; rfl
 have fin:∀ {R:List Value} {e:Exit} {st:St},R=L.take (i*7)++X++L.drop (i*7)→uP R n e st→(e = .normal∨e = .ret)∧st.df = []∧∃ v0,retVal Tryz.prog Tryz.f140 st=some v0∧hU v0=true ∧
   (∀ b∈[0],∃ o,st.hp.get b=some o∧cR o=true∧mq o=true)∧(∀ m h x,aj m h (sh3 [0] hp.sz v0) x→aj m h (bx hp.sz 0 (n+1) 23) x)∧[.cells 78 (L.take (i*7)++X++L.drop (i*7)) false]=cH [0] hp.sz st.hp:=by
  intro R e st hR q;obtain ⟨p1,p2,c1,v0,rfl,p3,p4⟩:=q;refine ⟨p1,p2,_,p3,rfl,fun b' hb'=>?_,fun m h x hx=>?_,?_⟩
  ·have:b'=0:=by simpa using hb'
   subst this;exact ⟨_,p4,eY (hInert hR),rfl⟩
  ·have:sh3 [0] hp.sz (bx 0 0 (n+1) c1)=bx hp.sz 0 (n+1) c1:=by simp [sh3,sh2,sh1,jj,idxOf,bx]
   rw [this] at hx;exact wT hx
  ·subst hR
   simp only [cH,List.map_cons,List.map_nil,p4,Option.getD_some,cG (hInert rfl)]
 have dQ:∀ (o1 o2:af),(heapOf [o1,o2,.dead] aE).ok:=fun o1 o2=>bF _ _ iO
 by_cases hend:i=n
 ·subst hend
  obtain ⟨J,hJ,_,sS⟩:=mi s hk hne hb hb2 iL iX hm 0 (by rw [hL]; omega)
  have hJ0:=List.eq_nil_of_length_eq_zero hJ
  subst hJ0;rw [List.append_nil] at sS;refine ⟨[0],_,_,_,rfl,rfl,dQ _ _,sS,hrow,hargs 22 hcap hcok,by rw [ntmps63]; simp,fun W=>?_⟩
  rw [ntmps63];refine ah.mono (HO hL hX iL iX oX hn) fun e st q=>fin ?_ q
  rw [List.take_of_length_le (by omega),List.drop_of_length_le (by omega),List.append_nil]
 ·have hlt:i<n:=by omega
  by_cases hfull:cap=n
  ·obtain ⟨J,hJ,_,sS⟩:=mi s hk hne hb hb2 iL iX hm 0 (by rw [hL]; omega)
   have hJ0:=List.eq_nil_of_length_eq_zero hJ
   subst hJ0;rw [List.append_nil] at sS;refine ⟨[0],_,_,_,rfl,rfl,dQ _ _,sS,hrow,hargs 21 ⟨hle,fun _=>by omega⟩ ⟨fun _=>by omega,(fun h=>absurd h (by decide))⟩,by rw [ntmps63]; simp,fun W=>?_⟩
   rw [ntmps63];exact ah.mono (DS hL hX iL iX oL oX hn hlt) fun e st q=>fin rfl q
  ·obtain ⟨J,hJ,_,sS⟩:=mi s hk hne hb hb2 iL iX hm 7 (by rw [hL]; omega)
   refine ⟨[0],_,_,_,rfl,rfl,dQ _ _,sS,hrow,hargs (3*(7+1000000*(cap-n))) ⟨hle,fun _=>by omega⟩ ⟨fun _=>by omega,(fun h=>by omega)⟩,by rw [ntmps63]; simp,fun W=>?_⟩
   rw [ntmps63];exact ah.mono (DT hL hX hJ iL iX oL oX hn hlt (by omega)) fun e st q=>fin rfl q
noncomputable abbrev tK:Code:=.seq CE (.seq Ax (.seq (.seq CF (.block 0 (.loop xL))) CG))
theorem Fo{hp:Hp}{b1 b2:Nat}{o1 o2:af}(h1:hp.get b1=some o1)(h2:hp.get b2=some o2)(i1:aA o1=true)(i2:aA o2=true):dE [b1,b2] hp=heapOf [roBlk o1,roBlk o2,.dead] aE:=by
 unfold dE;simp [h1,h2,cG i1,cG i2]
theorem ntmps28:Tryz.f56.ntmps=26:=by kernel_rfl
def orFn(g k:aC):aC:=fun args hp=>match g args hp with
 | some r=>some r
 | none=>k args hp
theorem A5{P:Program}{f:FuncId}{g k:aC}(h1:aq P f g)(h2:aq P f k):aq P f (orFn g k):=by
 intro args hp v hp' he hk;unfold orFn at he;split at he
 ·rename_i h; cases he; exact h1 _ _ _ _ h hk
 ·exact h2 _ _ _ _ he hk
def p2:Value:=.pointer (some ⟨2,0,none⟩)
section
variable (o:af) (vs ms:List aa) (n c:Nat) (lt lo lr keep:Int)
abbrev B6:St:=⟨tmsOf [ae 0 n c,jz lt lo lr,.int .i64 keep] 0 .leaf,heapOf [o,.dead] aE,[]⟩
end
def cP(x:aa):Value:=.agg #[.bool x.n,.int .i64 x.t,.int .i64 x.o,.int .i64 x.r,.int .i64 x.d,.int .i64 x.i]
def pb(b off:Nat):Value:=.pointer (some ⟨b,off,none⟩)
section
variable (o:af) (vs ms:List aa) (n c:Nat) (lt lo lr keep:Int) (i:Nat) (x y:aa) (g:Nat→Value)
noncomputable def gV(b n c:Nat)(i:Nat):db:=(fstV ((aIndexAddr Tryz.prog 24 (ae b n c) (iN i)).map fun v=>(v,none)),pb b (i*7))
noncomputable def j4(G:Nat→Option af)(t:TypeId)(b off:Nat)(v:Value):db:=(aLoad Tryz.prog G t (pb b off),v)
end
theorem se(a b:Int):(dP a b==0)=(a==b):=by
 unfold dP;cases h1:decide (a<b) with
 | true=>simp at h1; rw [show (a==b)=false from beq_false_of_ne (by omega)]; rfl
 | false =>
   simp at h1;cases h2:decide (a>b) with
   | true=>simp at h2; rw [show (a==b)=false from beq_false_of_ne (by omega)]; rfl
   | false=>simp at h2; rw [show a=b by omega]; simp
theorem wQ(n:Bool)(t o r d i:Int):dD n t o r d i n t o r d i=true:=by unfold dD; simp
theorem qS(x:aa):gh x x=true:=by unfold gh; rw [wQ]; simp
theorem tB(us:List aa)(i:Nat):jq us us i=true:=by
 unfold jq;cases us[i]? with
 | none=>rfl
 | some u=>exact qS u
theorem uv(us:List aa):gy us us=true:=by
 unfold gy;rw [Bool.and_eq_true];exact ⟨decide_eq_true rfl,List.all_eq_true.2 fun i _=>tB us i⟩
section
variable {lt lo lr keep:Int} {vs:List aa}
theorem Bc(h:aF vs=true){i:Nat}{x:aa}(hx:vs[i]? = some x):cU x=true:=by
 have hi:i<vs.length:=(List.getElem?_eq_some_iff.1 hx).1
 have:=List.all_eq_true.1 h i (List.mem_range.2 hi)
 unfold rightAt at this;rw [hx] at this;exact (Bool.and_eq_true_iff.1 this).1
theorem nZ{x:aa}(h:cU x=true):x.id≥0∧x.id<64∧x.i=x.id∧dQ x.n x.t x.o x.r x.d x.i=true:=by
 unfold cU rV at h;rw [mQ] at h;simp only [Bool.and_eq_true,decide_eq_true_eq,beq_iff_eq] at h;exact h
end
section
variable {hp:Hp} {b:Nat} {us:List aa} {i:Nat} {p:aa}
end
theorem cq{o:af}(ho:aA o=true):∀ r:List af,∀ i,i<1→∀ o',(o::r)[i]? = some o'→dw 0 o':=by
 intro r i hi o' h;have:i=0:=by omega
 subst this;simp at h; subst h; exact bb ho 0
section
variable {vs ms:List aa} {hp:Hp} {s:Value}
end
end Go.Proofs.YtgeoommlmddgpaaGreat.LtA
namespace Go.Proofs.YtgeoommlmddgpaaGreat.LtA
open Go Go.Proofs Go.Proofs.YtgeoommlmddgpaaGreat.AI Go.RowKit Go.ChangeShapes
theorem LO:Tryz.prog.cellsOf 3=1:=by kernel_rfl
theorem LP:Tryz.prog.cellsOf 4=1:=by kernel_rfl
theorem CV:Tryz.prog.cellsOf 23=6:=by kernel_rfl
theorem zc:Tryz.prog.cellsOf 78=7:=by kernel_rfl
section
variable {H:Type} {enc:TypeId×Value→H} {W:World} {sp:Nat→Bool} {hd:Bool} {n:Nat} {cs:List Value} {x:DataW H×List MemPlace}
theorem IP(h:DataW.trod enc Tryz.prog W 0 sp hd n 78 cs=some x):∃ p:aa,cs=vc p:=by
 obtain ⟨hl,hf⟩:=mn Tryz.underlying78 h;rw [zc] at hl;match cs,hl with
 | [v0,v1,v2,v3,v4,v5,v6],_ =>
   obtain ⟨_,_,k0⟩:=hf 0 _ rfl;obtain ⟨_,_,k1⟩:=hf 1 _ rfl;obtain ⟨i0,e0⟩:=trod_int Tryz.underlying3 k0;obtain ⟨-,f1⟩:=mn Tryz.underlying23 k1;obtain ⟨_,_,k10⟩:=f1 0 _ rfl;obtain ⟨_,_,My⟩:=f1 1 _ rfl;obtain ⟨_,_,Mz⟩:=f1 2 _ rfl;obtain ⟨_,_,MA⟩:=f1 3 _ rfl;obtain ⟨_,_,MB⟩:=f1 4 _ rfl;obtain ⟨_,_,k15⟩:=f1 5 _ rfl;obtain ⟨b,e1⟩:=trod_bool Tryz.underlying4 k10;obtain ⟨i2,e2⟩:=trod_int Tryz.underlying3 My;obtain ⟨i3,e3⟩:=trod_int Tryz.underlying3 Mz;obtain ⟨i4,e4⟩:=trod_int Tryz.underlying3 MA;obtain ⟨i5,e5⟩:=trod_int Tryz.underlying3 MB;obtain ⟨i6,e6⟩:=trod_int Tryz.underlying3 k15;simp [LO,LP,CV] at e0 e1 e2 e3 e4 e5 e6;subst e0 e1 e2 e3 e4 e5 e6;exact ⟨⟨i0,b,i2,i3,i4,i5,i6⟩,rfl⟩
end
theorem zD{α : Type}{R:Nat→α→Prop}:∀ n,(∀ i,i<n→∃ p,R i p)→∃ ps:List α,ps.length=n∧∀ i p,ps[i]? = some p→R i p
 | 0,_=>⟨[],rfl,fun i p h=>by simp at h⟩
 | n+1,h=>by
   obtain ⟨ps,h1,h2⟩:=zD n (fun i hi=>h i (by omega))
   obtain ⟨q,hq⟩:=h n (by omega)
   refine ⟨ps ++ [q],by simp [h1],fun i p hp=>?_⟩
   by_cases hi:i<ps.length
   ·rw [List.getElem?_append_left hi] at hp; exact h2 i p hp
   ·rw [List.getElem?_append_right (by omega)] at hp
    have:i-ps.length=0:=by
      have:=(List.getElem?_eq_some_iff.1 hp).1
      simp at this; omega
    rw [this] at hp;simp at hp;subst hp;have:i=n:=by omega
    rw [this]; exact hq
theorem IQ{H:Type}{enc:TypeId×Value→H}{W:World}{sp:Nat→Bool}{hd:Bool}{fuel:Nat}{r off n c:Nat}{x:DataW H×List MemPlace}(h:DataW.trod enc Tryz.prog W 0 sp hd fuel 24 [.slice (some ⟨r,off,none⟩) n c]=some x)(hn:0<n) :
  ∃ (ps:List aa) (arr:Array Value) (ty:TypeId) (fr:Nat×Nat),ps.length=n∧W.heap[r]? = some (.cells arr ty fr)∧off+(aK ps).length≤arr.size ∧
    ∀ (i:Nat) (v v':Value),(aK ps)[i]? = some v→arr[off+i]? = some v'→aj KI (fun _=>none) v v':=by
 rcases Go.Deep.open_slice Tryz.underlying24 h with ⟨h0,_⟩ | ⟨a,len,cap,m,k,D,Pl,e0,_,hlc,_,hm,_,hel⟩
 ·simp at h0
 simp only [List.cons.injEq,Value.slice.injEq,Option.some.injEq,and_true] at e0;obtain ⟨rfl,rfl,rfl⟩:=e0;have hmn:n≤m:=by rw [hm]; split <;> omega
 rw [zc] at hel;have hw:∀ i,i<n→∃ p:aa,∀ j,j<7→W.cell? ⟨r,off+(i*7+j),none⟩=(vc p)[j]?:=by
  intro i hi;obtain ⟨cs,h1,h2⟩:=hel i (by omega)
  obtain ⟨p,rfl⟩:=IP h2;obtain ⟨_,h5,h6⟩:=World.cells?_some h1
  refine ⟨p,fun j hj=>?_⟩
  have:=h6 j hj
  rw [Addr.add_lit,Addr.add_lit,Nat.add_assoc] at this;exact this
 obtain ⟨ps,hl,hps⟩:=zD (R:=fun i (p:aa)=>∀ j,j<7→W.cell? ⟨r,off+(i*7+j),none⟩=(vc p)[j]?) n hw
 have hcell:∀ i j,i<n→j<7→∃ v,W.cell? ⟨r,off+(i*7+j),none⟩=some v:=by
  intro i j hi hj;obtain ⟨p,h1⟩:=hw i hi;rw [h1 j hj];have:(vc p).length=7:=rfl
  rw [List.getElem?_eq_getElem (by omega)]
  exact ⟨_,rfl⟩
 obtain ⟨arr,ty,fr,hc⟩:∃ arr ty fr,W.heap[r]? = some (.cells arr ty fr):=by
  obtain ⟨v,hv⟩:=hcell 0 0 hn (by omega)
  unfold World.cell? at hv;split at hv
  ·rename_i arr ty fr hc; exact ⟨arr,ty,fr,hc⟩
  ·cases hv
 have hlen:(aK ps).length=n*7:=by rw [bT,hl]
 refine ⟨ps,arr,ty,fr,hl,hc,?_,fun i v v' q1 q2=>?_⟩
 ·obtain ⟨v,hv⟩:=hcell (n-1) 6 (by omega) (by omega)
  rw [cell_of hc] at hv;have:=(Array.getElem?_eq_some_iff.1 hv).1
  rw [hlen];omega
 ·have hi:i<n*7:=by rw [← hlen]; exact (List.getElem?_eq_some_iff.1 q1).1
  have hq:i / 7<ps.length:=by rw [hl]; exact Nat.div_lt_of_lt_mul (by rw [Nat.mul_comm]; exact hi)
  have hp:ps[i / 7]? = some ps[i / 7]:=List.getElem?_eq_getElem hq
  have hsplit:i=i / 7*7+i % 7:=by omega
  have hj:i % 7<7:=Nat.mod_lt _ (by omega)
  have h1:=hps _ _ hp
  have g1:=fj vc 7 ps (fun _ _=>rfl) (i / 7) (i % 7) _ hp hj
  rw [← hsplit] at g1;have g2:=h1 (i % 7) hj
  rw [← hsplit,cell_of hc,q2] at g2;have hvrow:(aK ps)[i]? = (ps.flatMap vc)[i]?:=rfl
  rw [hvrow,g1,← g2] at q1;cases q1;have hfl:AI.flat v=true:=by
    have hm:=List.mem_of_getElem? g2.symm
    unfold vc at hm;simp only [List.mem_cons,List.not_mem_nil,or_false] at hm;rcases hm with rfl | rfl | rfl | rfl | rfl | rfl | rfl <;> rfl
  exact .flat hfl
theorem Fb{m:BM}{o:af}{W:World}(s:cg m (heapOf [o] aE).get W):cg m (heapOf [o,.dead] aE).get W:=by
 have hsub:∀ b o',(heapOf [o] aE).get b=some o'→(heapOf [o,.dead] aE).get b=some o':=by
  intro b o' h;rw [ak] at h ⊢;match b with
  | 0=>exact h
  | b+1=>simp at h
 have hle:Le m (heapOf [o] aE).get m (heapOf [o,.dead] aE).get:=⟨fun b h=>hsub b _ h,fun b x h=>.inr h⟩
 refine ⟨fun b x hx=>?_,fun b b' x x' hx hx' hr hl e=>?_⟩
 ·obtain ⟨o',h1,h2⟩:=s.dom b x hx
  exact ⟨o',hsub _ _ h1,h2.mono hle rfl⟩
 ·obtain ⟨o1,h1,_⟩:=s.dom b x hx
  obtain ⟨o2,h2,_⟩:=s.dom b' x' hx';refine s.inj b b' x x' hx hx' ?_ ?_ e
  ·unfold rw? at hr ⊢; rw [hsub _ _ h1] at hr; rw [h1]; exact hr
  ·unfold aV at hl ⊢; rw [hsub _ _ h2] at hl; rw [h2]; exact hl
theorem Bd{ty:TypeId}{L:List Value}(b:Nat):rw? (heapOf [af.cells ty L true,.dead] aE).get b=false:=by
 unfold rw?;rw [ak];match b with
 | 0=>rfl
 | 1=>rfl
 | b+2=>rfl
theorem wN(b:Nat):rw? (heapOf [af.dead,.dead] aE).get b=false:=by
 unfold rw?;rw [ak];match b with
 | 0=>rfl
 | 1=>rfl
 | b+2=>rfl
theorem rA{w:World}{r:Reach}{base:Nat}{t e:TypeId}{v:Value}(ht:Tryz.prog.underlying t=some (.slice e))(h:Value.okWide Tryz.prog w r base t v):v = .slice none 0 0∨∃ b off n c,v = .slice (some ⟨b,off,none⟩) n c∧n≤c:=by
 unfold Value.okWide at h;rw [ht] at h;exact vn ht h
theorem Aa{h:HG}{W:World}:cg KI h W:=⟨fun b x h=>(by cases h),fun b b' x x' h=>(by cases h)⟩
theorem own:ownKnob Tryz.prog.godebug=none:=by kernel_rfl
end Go.Proofs.YtgeoommlmddgpaaGreat.LtA
namespace Go.Proofs.YtgeoommlmddgpaaGreat.LtA
open Go Go.Proofs Go.Proofs.YtgeoommlmddgpaaGreat.AI Go.RowKit
noncomputable def Tf:Ext:=cS Tryz.prog [(107,g54)]
theorem JX:ExtOk Tryz.prog Tf:=by unfold Tf; exact aT (.cons Ml .nil)
def g81:List Value→Option Value
 | [.agg cs,.int .i64 k]=>match cs.toList with
   | [.int .i64 id,.bool n,.int .i64 t,.int .i64 o,.int .i64 r,.int .i64 d,.int .i64 i]=>some (.int .i64 (dP id k))
   | _=>none
 | _=>none
theorem Rv(v:aa)(k:Int):(aCall Tryz.prog Tf 40 164 [.agg ⟨vc v⟩,.int .i64 k] aE).map (·.1)=some (.int .i64 (dP v.id k)):=by kernel_rfl
theorem Ua:bL Tryz.prog 164 g81:=di JX follows Tryz.func164 (by kernel_rfl) fun args v h=>by
 unfold g81 at h;split at h
 case h_2=>cases h
 rename_i cs k;split at h
 case h_2=>cases h
 rename_i id n t o r d i hcs;cases h;obtain rfl:=cN hcs;obtain ⟨⟨u,hp⟩,h1,h2⟩:=Option.map_eq_some_iff.1 (Rv ⟨id,n,t,o,r,d,i⟩ k);simp only at h2;subst h2;exact ⟨rfl,rfl,40,hp,h1⟩
noncomputable def Th:Ext:=cS Tryz.prog [(164,g81)]
theorem J0:ExtOk Tryz.prog Th:=by unfold Th; exact aT (.cons Ua .nil)
noncomputable def cB:aG:=aCall Tryz.prog Th 5
theorem oC:ba Tryz.prog cB:=aQ J0 follows 5
noncomputable def Dl:Code:=(Tryz.f163.body).getD .skip
noncomputable def LF:Code:=sL Dl
noncomputable def LG:Code:=sL (sR Dl)
noncomputable def LH:Code:=sL (sR (sR Dl))
noncomputable def CK:Code:=mr (jh (sL (sR (sR (sR Dl)))))
noncomputable def G2:Code:=sR (sR (sR (sR Dl)))
noncomputable abbrev C7:Code:=.seq LF (.seq LG (.seq LH (.seq (.block 0 (.loop CK)) G2)))
theorem KU:Tryz.f163.body=some C7:=by kernel_rfl
theorem ntmps80:Tryz.f163.ntmps=49:=by kernel_rfl
def Fv:Value:=.func (.func 164) #[] #[]
section
variable (o:af) (n c:Nat) (id:Int)
abbrev W3:St:=⟨tmsOf [ae 0 n c,.int .i64 id,Fv] 0 .leaf,heapOf [o,.dead] aE,[]⟩
abbrev WY(g:Nat→Value):St:=av 49 g [(0,ae 0 n c),(1,.int .i64 id),(2,Fv)] [o]
abbrev Om(g:Nat→Value):St:=av 49 g [(0,ae 0 n c),(1,.int .i64 id),(2,Fv),(8,iN n)] [o]
abbrev I3(i j:Nat)(g:Nat→Value):St:=av 49 g [(0,ae 0 n c),(1,.int .i64 id),(2,Fv),(8,iN n),(9,iN i),(10,iN j)] [o]
theorem V0:(execE Tryz.prog cB [] [] [] 10 LF (W3 o n c id)).map (fun y=>(look2 1 [0] [0,1,2] (y.1,y.2.1),y.2.2))=some ((.normal,[o],[(0,ae 0 n c),(1,.int .i64 id),(2,Fv)],true),[],[],[]):=by kernel_rfl
theorem V1(g:Nat→Value):(execE Tryz.prog cB [] [] [] 10 LG (WY o n c id g)).map (fun y=>(look2 1 [0] [0,1,2,8] (y.1,y.2.1),y.2.2))=some ((.normal,[o],[(0,ae 0 n c),(1,.int .i64 id),(2,Fv),(8,iN n)],true),[],[],[]):=by kernel_rfl
theorem V2(g:Nat→Value):(execE Tryz.prog cB [] [] [] 10 LH (Om o n c id g)).map (fun y=>(look2 1 [0] [0,1,2,8,9,10] (y.1,y.2.1),y.2.2))=some ((.normal,[o],[(0,ae 0 n c),(1,.int .i64 id),(2,Fv),(8,iN n),(9,iN 0),(10,iN n)],true),[],[],[]):=by kernel_rfl
theorem V7(i j:Nat)(g:Nat→Value):(execE Tryz.prog cB [(17,.bool false)] [] [] 20 CK (I3 o n c id i j g)).map (fun y=>(look2 1 [0] [0,1,2,8,9,10] (y.1,y.2.1),y.2.2)) =
 some ((.exit 0,[o],[(0,ae 0 n c),(1,.int .i64 id),(2,Fv),(8,iN n),(9,iN i),(10,iN j)],true),[(some (.bool (decide (Int.ofNat i<Int.ofNat j))),.bool false)],[],[]):=by kernel_rfl
def uN(n:Nat):Value:=.int .u64 (Int.ofNat n)
noncomputable def EA(i j h:Nat)(x:aa):List db :=
 [(some (.bool (decide (Int.ofNat i<Int.ofNat j))),.bool true),(some (.int .i64 (wrapF .i64 (Int.ofNat i+Int.ofNat j))),iN (i+j)),(some (.int .u64 (wrapF .u64 (Int.ofNat (i+j)))),uN (i+j)),
  (some (.int .u64 (Int.fdiv (Int.ofNat (i+j)) (2 ^ (min (Int.toNat 1) 64)))),uN h),(some (.int .i64 (wrapF .i64 (Int.ofNat h))),iN h),gV 0 n c h,j4 (heapOf ([o] ++ [.dead]) aE).get 78 0 (h*7) (.agg ⟨vc x⟩)]
def JG(i j h:Nat)(x:aa):List (Tmp×Value):=[(17,.bool true),(20,iN (i+j)),(21,uN (i+j)),(22,uN h),(23,iN h),(27,pb 0 (h*7)),(28,.agg ⟨vc x⟩)]
theorem V3(i j h:Nat)(x:aa)(g:Nat→Value):(execE Tryz.prog cB (JG i j h x ++ [(31,.bool true),(33,iN (h+1))]) [] [] 20 CK (I3 o n c id i j g)).map (fun y=>(look2 1 [0] [0,1,2,8,9,10] (y.1,y.2.1),y.2.2)) =
 some ((.normal,[o],[(0,ae 0 n c),(1,.int .i64 id),(2,Fv),(8,iN n),(9,iN (h+1)),(10,iN j)],true),EA o n c i j h x ++ [(some (.bool (decide (dP x.id id<0))),.bool true),(some (.int .i64 (wrapF .i64 (Int.ofNat h+1))),iN (h+1))],[],[]):=by kernel_rfl
theorem V4(i j h:Nat)(x:aa)(g:Nat→Value):(execE Tryz.prog cB (JG i j h x ++ [(31,.bool false)]) [] [] 20 CK (I3 o n c id i j g)).map (fun y=>(look2 1 [0] [0,1,2,8,9,10] (y.1,y.2.1),y.2.2)) =
 some ((.normal,[o],[(0,ae 0 n c),(1,.int .i64 id),(2,Fv),(8,iN n),(9,iN i),(10,iN h)],true),EA o n c i j h x ++ [(some (.bool (decide (dP x.id id<0))),.bool false)],[],[]):=by kernel_rfl
theorem V5(i j:Nat)(g:Nat→Value):(execE Tryz.prog cB [(38,.bool false)] [] [] 20 G2 (I3 o n c id i j g)).map (fun y=>(look2 0 [] [6,7] (y.1,y.2.1),y.2.2)) =
 some ((.ret,[],[(6,iN i),(7,.bool false)],true),[(some (.bool (decide (Int.ofNat i<Int.ofNat n))),.bool false)],[],[]):=by kernel_rfl
theorem V6(i j:Nat)(x:aa)(b:Bool)(g:Nat→Value):(execE Tryz.prog cB [(38,.bool true),(43,pb 0 (i*7)),(44,.agg ⟨vc x⟩),(47,.bool b)] [] [] 20 G2 (I3 o n c id i j g)).map (fun y=>(look2 0 [] [6,7] (y.1,y.2.1),y.2.2)) =
 some ((.ret,[],[(6,iN i),(7,.bool b)],true),[(some (.bool (decide (Int.ofNat i<Int.ofNat n))),.bool true),gV 0 n c i,j4 (heapOf ([o] ++ [.dead]) aE).get 78 0 (i*7) (.agg ⟨vc x⟩),(some (.bool (dP x.id id==0)),.bool b)],[],[]):=by kernel_rfl
end
theorem XY(v u:Value)(O:List af)(g:Nat→Value):retVal Tryz.prog Tryz.f163 (av 49 g [(6,v),(7,u)] O)=some (.tuple #[v,u]):=by kernel_rfl
theorem WB:codeSafe Tryz.prog 49 LF=true:=by kernel_rfl
theorem WC:codeSafe Tryz.prog 49 LG=true:=by kernel_rfl
theorem WD:codeSafe Tryz.prog 49 LH=true:=by kernel_rfl
theorem NK:codeSafe Tryz.prog 49 CK=true:=by kernel_rfl
theorem Sg:codeSafe Tryz.prog 49 G2=true:=by kernel_rfl
def mA(vs:List aa):Prop:=∀ (i j:Nat) (u v:aa),i<j→vs[i]? = some u→vs[j]? = some v→u.id<v.id
def pos(vs:List aa)(id:Int):Nat:=(vs.takeWhile fun x=>decide (x.id<id)).length
def fnd(vs:List aa)(id:Int):Bool:=match vs[pos vs id]? with
 | some x=>x.id==id
 | none=>false
theorem oZ{α : Type}{p : α→Bool}:∀ {vs:List α} {i:Nat},i≤vs.length→(∀ k x,k<i→vs[k]? = some x→p x=true)→(∀ x,vs[i]? = some x→p x=false)→(vs.takeWhile p).length=i
 | [],i,hi,_,_=>by simp at hi; subst hi; rfl
 | v::vs,0,_,_,h=>by rw [List.takeWhile_cons,h v rfl]; rfl
 | v::vs,i+1,hi,h1,h2=>by
   rw [List.takeWhile_cons,h1 0 v (by omega) rfl]
   simp only [if_true,List.length_cons];rw [oZ (by simpa using hi) (fun k x hk hx=>h1 (k+1) x (by omega) (by simpa using hx)) (fun x hx=>h2 x (by simpa using hx))]
theorem ym(vs:List aa)(id:Int):pos vs id≤vs.length:=List.takeWhile_sublist _ |>.length_le
theorem tI(a b:Int):decide (dP a b<0)=decide (a<b):=by
 unfold dP;cases h1:decide (a<b) with
 | true=>rfl
 | false=>cases h2:decide (a>b) <;> rfl
theorem zq{i j:Nat}:(some (Value.int .u64 (Int.fdiv (Int.ofNat (i+j)) (2 ^ (min (Int.toNat 1) 64)))))=some (uN ((i+j) / 2)):=by
 have e:Int.fdiv (Int.ofNat (i+j)) (2 ^ (min (Int.toNat 1) 64))=Int.ofNat ((i+j) / 2):=by
  show Int.fdiv (Int.ofNat (i+j)) 2=_
  rw [Int.fdiv_eq_ediv_of_nonneg _ (by decide)]
  simp only [Int.ofNat_eq_natCast];omega
 rw [e]; rfl
theorem FO{n:Nat}(h:n<3000000):(some (Value.int .u64 (wrapF .u64 (Int.ofNat n))))=some (uN n):=by
 have:wrapF .u64 (Int.ofNat n)=Int.ofNat n:=by
  show IntKind.wrap .u64 (Int.ofNat n)=_
  simp only [IntKind.wrap,IntKind.bits,IntKind.signed,Int.ofNat_eq_natCast];simp;omega
 rw [this]; rfl
theorem nU{n:Nat}(h:n<3000000):(some (Value.int .i64 (wrapF .i64 (Int.ofNat n))))=some (iN n):=by
 rw [wrap64 (by have:=Int.natCast_nonneg n; simp only [Int.ofNat_eq_natCast]; omega) (by simp only [Int.ofNat_eq_natCast]; omega)]
 rfl
theorem xE{i j:Nat}(h:i+j<3000000):(some (Value.int .i64 (wrapF .i64 (Int.ofNat i+Int.ofNat j))))=some (iN (i+j)):=by
 have e:Int.ofNat i+Int.ofNat j=Int.ofNat (i+j):=rfl
 rw [e,nU h]
theorem Bg(o:af)(ho:aA o=true)(vs:List aa)(hn:vs.length<1000000)(hs:mA vs)(hrow:vs = []∨∃ ty ro,o = .cells ty (aK vs) ro)(c:Nat)(id:Int)(W:bh) :
  ah Tryz.prog 49 W C7 (W3 o vs.length c id) (fun e st=>e = .ret∧∃ g,st=av 49 g [(6,iN (pos vs id)),(7,.bool (fnd vs id))] []):=by
 refine ah.seq (Q1:=fun x st=>x = .normal∧∃ g,st=WY o vs.length c id g) (ah.aL oC follows 1 _ _ _ _ (V0 o vs.length c id) Met.nil ay.nil az.nil WB rfl rfl (cq ho _) fun g=>⟨rfl,g,rfl⟩) ?_ (fun x st hne hq=>absurd hq.1 hne)
 rintro st ⟨-,g,rfl⟩;refine ah.seq (Q1:=fun x st=>x = .normal∧∃ g,st=Om o vs.length c id g) (ah.aL oC follows 1 _ _ _ _ (V1 o vs.length c id g) Met.nil ay.nil az.nil WC rfl rfl (cq ho _) fun g=>⟨rfl,g,rfl⟩) ?_ (fun x st hne hq=>absurd hq.1 hne)
 rintro st ⟨-,g,rfl⟩;refine ah.seq (Q1:=fun x st=>x = .normal∧∃ g,st=I3 o vs.length c id 0 vs.length g) (ah.aL oC follows 1 _ _ _ _ (V2 o vs.length c id g) Met.nil ay.nil az.nil WD rfl rfl (cq ho _) fun g=>⟨rfl,g,rfl⟩) ?_ (fun x st hne hq=>absurd hq.1 hne)
 rintro st ⟨-,g,rfl⟩;have hrow':∀ {h:Nat},h<vs.length→ez (heapOf ([o] ++ [.dead]) aE) 0 vs:=fun hh=>by
  rcases hrow with h | ⟨ty,ro,h⟩
  ·rw [h] at hh; simp at hh
  ·exact .of (ty:=ty) (ro:=ro) (by rw [ak,h]; rfl)
 refine ah.seq (Q1:=fun x st=>x = .normal∧∃ g,st=I3 o vs.length c id (pos vs id) (pos vs id) g) ?_ ?_ (fun x st hne hq=>absurd hq.1 hne)
 ·refine ah.block ?_
  refine ah.loop (fun k st=>∃ i j g,i≤j∧j≤vs.length∧k=j-i∧(∀ k x,k<i→vs[k]? = some x→decide (x.id<id)=true)∧(∀ k x,j≤k→vs[k]? = some x→decide (x.id<id)=false)∧st=I3 o vs.length c id i j g) ?_ (k:=vs.length)
    ⟨0,vs.length,g,Nat.zero_le _,Nat.le_refl _,rfl,fun k x hk=>absurd hk (Nat.not_lt_zero _),fun k x hk hx=>(by rw [List.getElem?_eq_none hk] at hx; cases hx),rfl⟩
  rintro k st ⟨i,j,g,hij,hj,hk,hlo,hhi,rfl⟩;cases h17:decide (Int.ofNat i<Int.ofNat j) with
  | false =>
    refine ah.aL oC follows 1 _ _ _ _ (V7 o vs.length c id i j g) (Met.cons (ag h17) Met.nil) ay.nil az.nil NK rfl rfl (cq ho _) fun g'=>.inr ⟨by simp,?_⟩
    show (if (0:Nat)=0 then _ else _)
    rw [if_pos rfl];have hii:i=j:=by simp at h17; omega
    subst hii;have hp:pos vs id=i:=oZ hj hlo fun x hx=>hhi i x (Nat.le_refl _) hx
    exact ⟨rfl,g',by rw [hp]⟩
  | true =>
    have hlt:i<j:=by simpa using h17
    obtain ⟨x,hx⟩:∃ x,vs[(i+j) / 2]? = some x:=⟨_,List.getElem?_eq_getElem (by omega)⟩
    have hh:(i+j) / 2<vs.length:=by omega
    have hmet:Met (EA o vs.length c i j ((i+j) / 2) x):=Met.cons (ag h17) (Met.cons (xE (by omega)) (Met.cons (FO (by omega)) (Met.cons zq (Met.cons (nU (by omega)) (Met.cons (bH hh) (Met.cons (bM (hrow' hh) hx) Met.nil))))))
    cases h31:decide (x.id<id) with
    | true =>
      refine ah.aL oC follows 1 _ _ _ _ (V3 o vs.length c id i j ((i+j) / 2) x g) (ct hmet (Met.cons (ag (by rw [tI,h31])) (Met.cons (bz (by omega)) Met.nil))) ay.nil az.nil NK rfl rfl (cq ho _) fun g'=>.inl ⟨rfl,j-((i+j) / 2+1),by omega,(i+j) / 2+1,j,g',by omega,hj,rfl,fun k y hk hy=>?_,hhi,rfl⟩
      by_cases hke:k=(i+j) / 2
      ·subst hke; rw [hx] at hy; cases hy; exact h31
      ·have:=hs k ((i+j) / 2) y x (by omega) hy hx
       have h2:=of_decide_eq_true h31
       exact decide_eq_true (by omega)
    | false =>
      refine ah.aL oC follows 1 _ _ _ _ (V4 o vs.length c id i j ((i+j) / 2) x g) (ct hmet (Met.cons (ag (by rw [tI,h31])) Met.nil)) ay.nil az.nil NK rfl rfl (cq ho _) fun g'=>.inl ⟨rfl,(i+j) / 2-i,by omega,i,(i+j) / 2,g',by omega,by omega,rfl,hlo,fun k y hk hy=>?_,rfl⟩
      by_cases hke:k=(i+j) / 2
      ·subst hke; rw [hx] at hy; cases hy; exact h31
      ·have:=hs ((i+j) / 2) k x y (by omega) hx hy
       have h2:=of_decide_eq_false h31
       exact decide_eq_false (by omega)
 ·rintro st ⟨-,g,rfl⟩
  have hple:=ym vs id
  cases Pt:decide (Int.ofNat (pos vs id)<Int.ofNat vs.length) with
  | false =>
    have hf:fnd vs id=false:=by
      have:vs.length≤pos vs id:=by simp at Pt; omega
      unfold fnd; rw [List.getElem?_eq_none this]
    rw [hf];exact ah.aL oC follows 0 _ _ _ _ (V5 o vs.length c id (pos vs id) (pos vs id) g) (Met.cons (ag Pt) Met.nil) ay.nil az.nil Sg rfl rfl (dg _) fun g'=>⟨rfl,g',rfl⟩
  | true =>
    have hlt:pos vs id<vs.length:=by simpa using Pt
    obtain ⟨x,hx⟩:∃ x,vs[pos vs id]? = some x:=⟨_,List.getElem?_eq_getElem hlt⟩
    have hf:fnd vs id=(dP x.id id==0):=by unfold fnd; rw [hx,se]
    rw [hf];exact ah.aL oC follows 0 _ _ _ _ (V6 o vs.length c id (pos vs id) (pos vs id) x _ g) (Met.cons (ag Pt) (Met.cons (bH hlt) (Met.cons (bM (hrow' hlt) hx) (Met.cons rfl Met.nil)))) ay.nil az.nil Sg rfl rfl (dg _) fun g'=>⟨rfl,g',rfl⟩
theorem TR.uniq{us vs:List aa}{s:Value}{hp:Hp}(h1:TR us s hp)(h2:TR vs s hp):us=vs:=by
 obtain ⟨b,c,o,rfl,hb,_,hr⟩:=h1;obtain ⟨b',c',o',e,hb',_,hr'⟩:=h2;unfold ae at e;simp only [Value.slice.injEq,Option.some.injEq,Addr.mk.injEq,and_true] at e;obtain ⟨rfl,hl,-⟩:=e;rw [hb] at hb'; cases hb';have inj:∀ {us vs:List aa},aK us=aK vs→us=vs:=by
  intro us;induction us with
  | nil=>intro vs h; cases vs with
    | nil=>rfl
    | cons v vs=>simp [aK,vc] at h
  | cons u us ih=>intro vs h; cases vs with
    | nil=>simp [aK,vc] at h
    | cons v vs =>
      simp only [aK,vc,List.flatMap_cons,List.cons_append,List.nil_append,List.cons.injEq,Value.int.injEq,Value.bool.injEq,true_and] at h;obtain ⟨a1,a2,a3,a4,a5,a6,a7,h⟩:=h;have:=ih h
      subst this;cases u; cases v;simp_all
 rcases hr with h | ⟨ty,ro,h⟩
 ·subst h
  exact (List.eq_nil_of_length_eq_zero hl.symm).symm
 ·rcases hr' with h' | ⟨ty',ro',h'⟩
  ·subst h'
   exact List.eq_nil_of_length_eq_zero hl
  ·rw [h] at h'
   injection h' with _ h2 _
   exact inj h2
def TN(vs:List aa)(s:Value)(hp:Hp):Prop:=s=au∧vs = []∨TR vs s hp
theorem TN.uniq{us vs:List aa}{s:Value}{hp:Hp}(h1:TN us s hp)(h2:TN vs s hp):us=vs:=by
 rcases h1 with ⟨rfl,rfl⟩ | h1
 ·rcases h2 with ⟨-,rfl⟩ | h2
  ·rfl
  ·exact h2.not_nil.elim
 ·rcases h2 with ⟨rfl,rfl⟩ | h2
  ·exact h1.not_nil.elim
  ·exact h1.uniq h2
open Classical in
noncomputable def atRow(P:List aa→Prop)(k:List aa→aC):aC:=fun args hp=>match args with
 | s::_=>if h:∃ vs,TN vs s hp∧vs.length<1000000∧P vs then k h.choose args hp else none
 | _=>none
theorem fA{f:FuncId}{P:List aa→Prop}{k:List aa→aC}(h:∀ vs,vs.length<1000000→P vs→aq Tryz.prog f (k vs)):aq Tryz.prog f (atRow P k):=by
 intro args hp v hp' he hk;unfold atRow at he;split at he
 case h_2=>cases he
 split at he
 ·rename_i hx
  exact h _ hx.choose_spec.2.1 hx.choose_spec.2.2 _ _ _ _ he hk
 ·cases he
theorem iU{P:List aa→Prop}{k:List aa→aC}{vs:List aa}{s:Value}{r:List Value}{hp:Hp}(h:TN vs s hp)(hn:vs.length<1000000)(hp':P vs):atRow P k (s::r) hp=k vs (s::r) hp:=by
 unfold atRow;have hx:∃ vs,TN vs s hp∧vs.length<1000000∧P vs:=⟨vs,h,hn,hp'⟩
 simp only;rw [dif_pos hx];rw [hx.choose_spec.1.uniq h]
open Classical in
noncomputable def g80(vs:List aa):aC:=fun args hp=>match args with
 | [s,.int .i64 id,f]=>if f=Fv∧TR vs s hp then some (.tuple #[iN (pos vs id),.bool (fnd vs id)],heapOf ([] ++ [.dead]) hp) else none
 | _=>none
theorem T9(vs:List aa)(hn:vs.length<1000000)(hs:mA vs):aq Tryz.prog 163 (g80 vs):=cW follows Tryz.func163 KU (by kernel_rfl) fun args hp v hp' h hk=>by
 unfold g80 at h;rw [ntmps80];split at h
 case h_2=>cases h
 rename_i s id f;split at h
 case isFalse=>cases h
 rename_i hT;cases h;obtain ⟨rfl,b,c,o,rfl,hb,hi,hr⟩:=hT;refine ⟨[b],[],[],rfl,rfl,rfl,rfl,fun b' hb'=>?_,rfl,(by simp),fun W=>?_⟩
 ·have:b'=b:=by simpa using hb'
  subst this;exact ⟨o,hb,aS hi⟩
 ·have e1 : [ae b vs.length c,.int .i64 id,Fv].map (sh3 [b] 0) = [ae 0 vs.length c,.int .i64 id,Fv]:=by simp [sh3,sh2,sh1,jj,idxOf,ae,Fv]
  rw [e1,fJ hb hi];refine ah.mono (Bg (roBlk o) (bO hi) vs hn hs (ee hr) c id W) fun e st q=>?_
  obtain ⟨rfl,g,rfl⟩:=q;exact ⟨.inr rfl,rfl,_,XY _ _ _ g,rfl,(fun b hb=>by cases hb),by simp [sh3,sh2,sh1,iN],rfl⟩
noncomputable def SI(vs:List aa):Ext:=fh (cS Tryz.prog []) [(163,g80 vs)]
theorem JZ(vs:List aa)(hn:vs.length<1000000)(hs:mA vs):ExtOk Tryz.prog (SI vs):=bC (aT .nil) (.cons (T9 vs hn hs) .nil)
noncomputable def SS(vs:List aa):aG:=aCall Tryz.prog (SI vs) 5
theorem LB(vs:List aa)(hn:vs.length<1000000)(hs:mA vs):ba Tryz.prog (SS vs):=aQ (JZ vs hn hs) follows 5
noncomputable def L6:Code:=(Tryz.f139.body).getD .skip
theorem KQ:Tryz.f139.body=some L6:=by kernel_rfl
theorem ntmps62:Tryz.f139.ntmps=11:=by kernel_rfl
theorem Yb:codeSafe Tryz.prog 11 L6=true:=by kernel_rfl
theorem XV(v u:Value)(O:List af)(g:Nat→Value):retVal Tryz.prog Tryz.f139 (av 11 g [(4,v),(5,u)] O)=some (.tuple #[v,u]):=by kernel_rfl
theorem X3(o:af)(vs:List aa)(n c p:Nat)(id:Int)(b:Bool):(execE Tryz.prog (SS vs) [] [(8,.tuple #[iN p,.bool b],[.dead])] [] 20 L6 ⟨tmsOf [ae 0 n c,.int .i64 id] 0 .leaf,heapOf [o,.dead] aE,[]⟩).map (fun y=>(look2 0 [] [4,5] (y.1,y.2.1),y.2.2)) =
 some ((.ret,[],[(4,iN p),(5,.bool b)],true),[],[(SS vs 163 [ae 0 n c,.int .i64 id,Fv] (heapOf [o,.dead] aE),(.tuple #[iN p,.bool b],heapOf [.dead] (heapOf [o,.dead] aE)))],[]):=by kernel_rfl
open Classical in
theorem call80{vs:List aa}{s:Value}{hp:Hp}{id:Int}(h:TR vs s hp):SS vs 163 [s,.int .i64 id,Fv] hp=some (.tuple #[iN (pos vs id),.bool (fnd vs id)],heapOf [.dead] hp):=by
 show aCall Tryz.prog (SI vs) 5 163 _ _=_
 rw [aCall];have hE:SI vs 163=some fun _ args h=>g80 vs args h:=rfl
 rw [hE];show (if Fv=Fv∧TR vs s hp then _ else _)=_
 rw [if_pos ⟨rfl,h⟩];rfl
open Classical in
noncomputable def g62(vs:List aa):aC:=fun args hp=>match args with
 | [s,.int .i64 id]=>if TR vs s hp then some (.tuple #[iN (pos vs id),.bool (fnd vs id)],heapOf ([] ++ [.dead]) hp) else none
 | _=>none
theorem PD(vs:List aa)(hn:vs.length<1000000)(hs:mA vs):aq Tryz.prog 139 (g62 vs):=cW follows Tryz.func139 KQ (by kernel_rfl) fun args hp v hp' h hk=>by
 unfold g62 at h;rw [ntmps62];split at h
 case h_2=>cases h
 rename_i s id;split at h
 case isFalse=>cases h
 rename_i hT;cases h;obtain ⟨b,c,o,rfl,hb,hi,hr⟩:=hT;refine ⟨[b],[],[],rfl,rfl,rfl,rfl,fun b' hb'=>?_,rfl,(by simp),fun W=>?_⟩
 ·have:b'=b:=by simpa using hb'
  subst this;exact ⟨o,hb,aS hi⟩
 ·have e1 : [ae b vs.length c,.int .i64 id].map (sh3 [b] 0) = [ae 0 vs.length c,.int .i64 id]:=by simp [sh3,sh2,sh1,jj,idxOf,ae]
  rw [e1,fJ hb hi];exact ah.aL (LB vs hn hs) follows 0 _ _ _ _ (X3 (roBlk o) vs vs.length c (pos vs id) id (fnd vs id)) Met.nil (ay.cons (call80 ⟨0,c,roBlk o,rfl,by rw [ak]; rfl,bO hi,ee hr⟩) ay.nil) az.nil Yb rfl rfl (dg _)
    fun g=>⟨.inr rfl,rfl,_,XV _ _ _ g,rfl,(fun b hb=>by cases hb),by simp [sh3,sh2,sh1,iN],rfl⟩
noncomputable def Ge(vs:List aa):Ext:=fh (cS Tryz.prog [(123,g55)]) [(58,g18 vs),(79,vD vs),(139,g62 vs),(140,gIns)]
noncomputable def Aw(vs:List aa):aG:=aCall Tryz.prog (Ge vs) 5
noncomputable def JV:Ext:=cS Tryz.prog [(123,g55)]
theorem Gi:ExtOk Tryz.prog JV:=by unfold JV; exact aT (.cons DK .nil)
noncomputable def Lp:aG:=aCall Tryz.prog JV 60
theorem y7:ba Tryz.prog Lp:=aQ Gi follows 60
noncomputable def qh:Code:=(Tryz.f85.body).getD .skip
theorem Ce:Tryz.f85.body=some qh:=by kernel_rfl
theorem ntmps27:Tryz.f85.ntmps=42:=by kernel_rfl
theorem NG:codeSafe Tryz.prog 42 qh=true:=by kernel_rfl
theorem QC(v u:Value)(O:List af)(g:Nat→Value):retVal Tryz.prog Tryz.f85 (av 42 g [(6,v),(7,u)] O)=some (.tuple #[v,u]):=by kernel_rfl
def Oa(x:aa):List Value:=[.bool x.n,.int .i64 x.t,.int .i64 x.o,.int .i64 x.r,.int .i64 x.d,.int .i64 x.i]
def zeroV(id:Int):aa:=⟨id,false,0,0,0,0,0⟩
def rF(o:af)(y:aa):Hp:=heapOf [o,.dead,.cells 23 (Oa y) false] aE
section
variable (vs ws us:List aa) (o:af) (n c p:Nat) (y:aa)
abbrev N3:St:=⟨tmsOf [ae 0 n c,.int .i64 y.id,cP y] 0 .leaf,heapOf [o,.dead] aE,[]⟩
noncomputable def UR(v:Value):jo:=(Aw vs 58 [ae 0 n c] (rF o y),(v,heapOf [.dead] (rF o y)))
theorem Ve:(execE Tryz.prog (Aw vs) [(17,.bool false)] [(12,iN 0,[.dead])] [] 40 qh (N3 o n c y)).map (fun z=>(look2 0 [] [6,7] (z.1,z.2.1),z.2.2)) =
 some ((.ret,[],[(6,au),(7,iN 1)],true),[(some (.bool (cU y)),.bool false)],[UR vs o n c y (iN 0)],[]):=by kernel_rfl
noncomputable def Xi:jo:=(Aw vs 79 [ae 0 n c] (heapOf [.dead] (rF o y)),(aW 4 n,heapOf [ab vs,.dead] (heapOf [.dead] (rF o y))))
noncomputable def HD(vs:List aa)(o:af)(y:aa):Hp:=heapOf [.dead] (heapOf [ab vs,.dead] (heapOf [.dead] (rF o y)))
noncomputable def Xj(b:Bool):jo:=(Aw vs 139 [aW 4 n,.int .i64 y.id] (heapOf [ab vs,.dead] (heapOf [.dead] (rF o y))),(.tuple #[iN p,.bool b],HD vs o y))
theorem Vf:(execE Tryz.prog (Aw vs) [(17,.bool true),(39,pb 4 (p*7))] [(12,iN 0,[.dead]),(21,aW 4 n,[ab vs,.dead]),(25,.tuple #[iN p,.bool true],[.dead])] [(1040,undef,[.put 4 (ab ws)])] 40 qh (N3 o n c y)).map (fun z=>(look2 1 [4] [6,7] (z.1,z.2.1),z.2.2)) =
 some ((.ret,[ab ws],[(6,aW 0 n),(7,iN 0)],true),[(some (.bool (cU y)),.bool true),gV 4 n 22 p],[UR vs o n c y (iN 0),Xi vs o n c y,Xj vs o n p y true],
  [((aStore Tryz.prog (HD vs o y).get 23 (pb 4 (p*7+1)) (cP y)).map fun es=>(undef,es),(undef,[.put 4 (ab ws)]))]):=by kernel_rfl
noncomputable def By(vs:List aa)(o:af)(y:aa):Hp:=(HD vs o y).push (.cells 78 (vc (zeroV y.id)) false)
noncomputable def Pu(vs us:List aa)(o:af)(y:aa):Hp:=heapOf ([ab us] ++ [.dead]) (killL [4,7] (By vs o y))
theorem Vg:(execE Tryz.prog (Aw vs) [(17,.bool true),(39,pb 8 (p*7))] [(12,iN 0,[.dead]),(21,aW 4 n,[ab vs,.dead]),(25,.tuple #[iN p,.bool false],[.dead])]
  [(35,bx 8 0 (n+1) 23,[.put 4 .dead,.put 7 .dead,.push (ab us),.push .dead]),(1040,undef,[.put 8 (ab ws)])] 40 qh (N3 o n c y)).map (fun z=>(look2 1 [8] [6,7] (z.1,z.2.1),z.2.2)) =
 some ((.ret,[ab ws],[(6,ae 0 (n+1) 23),(7,iN 0)],true),[(some (.bool (cU y)),.bool true),gV 8 (n+1) 23 p],
  [UR vs o n c y (iN 0),Xi vs o n c y,Xj vs o n p y false,(Aw vs 140 [aW 4 n,iN p,ae 7 1 22] (By vs o y),(bx 8 0 (n+1) 23,Pu vs us o y))],
  [((aStore Tryz.prog (Pu vs us o y).get 23 (pb 8 (p*7+1)) (cP y)).map fun es=>(undef,es),(undef,[.put 8 (ab ws)]))]):=by kernel_rfl
theorem Vh:(execE Tryz.prog Lp [(17,.bool false)] [] [] 40 qh ⟨tmsOf [au,.int .i64 y.id,cP y] 0 .leaf,heapOf [.dead] aE,[]⟩).map (fun z=>(look2 0 [] [6,7] (z.1,z.2.1),z.2.2)) =
 some ((.ret,[],[(6,au),(7,iN 1)],true),[(some (.bool (cU y)),.bool false)],[],[]):=by kernel_rfl
theorem Vi:(execE Tryz.prog Lp [(17,.bool true)] [] [] 40 qh ⟨tmsOf [au,.int .i64 y.id,cP y] 0 .leaf,heapOf [.dead] aE,[]⟩).map (fun z=>(look2 1 [3] [6,7] (z.1,z.2.1),z.2.2)) =
 some ((.ret,[ab [y]],[(6,aW 0 1),(7,iN 0)],true),[(some (.bool (cU y)),.bool true)],[],[]):=by kernel_rfl
end
def cD(vs:List aa)(y:aa):List aa:=bif fnd vs y.id then vs.set (pos vs y.id) y else vs.take (pos vs y.id)++y::vs.drop (pos vs y.id)
theorem qO(vs:List aa)(h:aF vs=true):mA vs:=by
 have step:∀ (i:Nat) (u v:aa),vs[i]? = some u→vs[i+1]? = some v→u.id<v.id:=by
  intro i u v hu hv;have hi:i+1<vs.length:=(List.getElem?_eq_some_iff.1 hv).1
  have:=List.all_eq_true.1 h (i+1) (List.mem_range.2 hi)
  unfold rightAt at this;rw [hv] at this;simp only [hu,Bool.and_eq_true,decide_eq_true_eq] at this;exact this.2
 intro i j;induction j with
 | zero=>intro u v hij; omega
 | succ j ih =>
   intro u v hij hu hv;by_cases e:i=j
   ·subst e; exact step i u v hu hv
   ·have hj:j<vs.length:=by have:=(List.getElem?_eq_some_iff.1 hv).1; omega
    have h1:=ih u vs[j] (by omega) hu (List.getElem?_eq_getElem hj)
    have h2:=step j vs[j] v (List.getElem?_eq_getElem hj) hv
    omega
theorem qj{vs:List aa}{id:Int}(h:fnd vs id=true):∃ x,vs[pos vs id]? = some x∧x.id=id:=by
 unfold fnd at h;split at h
 ·rename_i x hx; exact ⟨x,hx,by simpa using h⟩
 ·cases h
theorem E9{vs:List aa}{y:aa}:(cD vs y).length=bif fnd vs y.id then vs.length else vs.length+1:=by
 unfold cD;have:=ym vs y.id
 cases fnd vs y.id with
 | true=>simp
 | false=>simp; omega
theorem Ab{us:List aa}{p b:Nat}{x y:aa}{get:Nat→Option af}(hg:get b=some (ab us))(hx:us[p]? = some x)(hid:x.id=y.id) :
  ((aStore Tryz.prog get 23 (pb b (p*7+1)) (cP y)).map fun es=>(undef,es))=some (undef,[.put b (ab (us.set p y))]):=by
 have hi:p<us.length:=(List.getElem?_eq_some_iff.1 hx).1
 have hcell:cellsL (cP y)=Oa y:=rfl
 have hput:=pM (k:=1) (y:=y) (ns:=Oa y) hx (by simp [Oa]) (fun j hj=>by
  match j,hj with
  | 0,_=>simp [vc,hid]
  | 1,_=>rfl
  | 2,_=>rfl
  | 3,_=>rfl
  | 4,_=>rfl
  | 5,_=>rfl
  | 6,_=>rfl)
 unfold ab at hg;unfold pb;simp only [aStore,hg,yv,hcell];rw [if_pos]
 ·rw [hput]; rfl
 ·rw [Bool.and_eq_true,Bool.and_eq_true]
  refine ⟨⟨rfl,rfl⟩,decide_eq_true ?_⟩
  rw [bT]; omega
theorem e7(us vs:List aa):aK (us++vs)=aK us++aK vs:=by unfold aK; rw [List.flatMap_append]
theorem sW{vs:List aa}{p:Nat}(h:p≤vs.length):(aK vs).take (p*7)=aK (vs.take p):=by
 have e:aK vs=aK (vs.take p)++aK (vs.drop p):=by rw [← e7,List.take_append_drop]
 rw [e,List.take_left' (by rw [bT,List.length_take]; omega)]
theorem sV{vs:List aa}{p:Nat}(h:p≤vs.length):(aK vs).drop (p*7)=aK (vs.drop p):=by
 have e:aK vs=aK (vs.take p)++aK (vs.drop p):=by rw [← e7,List.take_append_drop]
 rw [e,List.drop_left' (by rw [bT,List.length_take]; omega)]
theorem DD{hp:Hp}{b b2 n p c2:Nat}{vs:List aa}{z:aa}(hb:hp.get b=some (ab vs))(hb2:hp.get b2=some (.cells 78 (vc z) false))(hne:Nat.beq b b2=false)(hn:n=vs.length)(hp':p≤n)(hl:n<1000000) :
  gIns [aW b n,iN p,ae b2 1 c2] hp=some (bx hp.sz 0 (n+1) 23,heapOf ([ab (vs.take p++z::vs.drop p)] ++ [.dead]) (killL [b,b2] hp)):=by
 subst hn;unfold ab at hb;have hcond:(Nat.beq 78 78&&Nat.beq (aK vs).length (vs.length*7)&&Nat.beq (vc z).length 7&&Nat.ble p vs.length&&Nat.blt vs.length 1000000&&(aK vs).all inert&&(vc z).all inert&&(aK vs).all isOne&&(vc z).all isOne)=true:=by
  rw [bT,dG,rC];simp only [Nat.beq_refl,Bool.true_and,Bool.and_true];rw [show Nat.ble p vs.length=true from Nat.ble_eq_true_of_le hp',show Nat.blt vs.length 1000000=true by simpa [Nat.blt_eq] using hl]
  rfl
 unfold gIns aW iN ae;simp only [hb,hb2,hne,hcond,show Nat.beq 22 22=true from rfl]
 congr 3
 unfold ab;rw [sW hp',sV hp',e7];have:aK (z::vs.drop p)=vc z++aK (vs.drop p):=rfl
 rw [this,List.append_assoc]
section
variable {vs:List aa} {s:Value} {hp:Hp}
theorem Lk(h:TR vs s hp):Aw vs 58 [s] hp=some (l4 (aF vs),heapOf [.dead] hp):=by
 show aCall Tryz.prog (Ge vs) 5 58 _ _=_
 rw [aCall];have hE:Ge vs 58=some fun _ args h=>g18 vs args h:=rfl
 rw [hE];exact tR (.inr h)
theorem Ll{b c:Nat}{o:af}(hb:hp.get b=some o)(hi:aA o=true)(hr:vs = []∨∃ ty ro,o = .cells ty (aK vs) ro):Aw vs 79 [ae b vs.length c] hp=some (aW hp.sz vs.length,heapOf [ab vs,.dead] hp):=by
 show aCall Tryz.prog (Ge vs) 5 79 _ _=_
 rw [aCall];have hE:Ge vs 79=some fun _ args h=>vD vs args h:=rfl
 rw [hE];exact pA hb hi hr
open Classical in
theorem Lm{id:Int}(h:TR vs s hp):Aw vs 139 [s,.int .i64 id] hp=some (.tuple #[iN (pos vs id),.bool (fnd vs id)],heapOf [.dead] hp):=by
 show aCall Tryz.prog (Ge vs) 5 139 _ _=_
 rw [aCall];have hE:Ge vs 139=some fun _ args h=>g62 vs args h:=rfl
 rw [hE];show (if TR vs s hp then _ else _)=_
 rw [if_pos h];rfl
theorem Ln(args:List Value):Aw vs 140 args hp=gIns args hp:=by
 show aCall Tryz.prog (Ge vs) 5 140 _ _=_
 rw [aCall];rfl
end
theorem JU(vs:List aa)(hn:vs.length<1000000)(hs:mA vs):ExtOk Tryz.prog (Ge vs):=bC (aT (.cons DK .nil)) (.cons (HJ vs hn) (.cons (HK vs hn) (.cons (PD vs hn hs) (.cons T4 .nil))))
noncomputable def Gg(vs:List aa):Ext:=fh (cS Tryz.prog [(123,g55)]) [(58,g18 vs)]
theorem Gh(vs:List aa)(hn:vs.length<1000000):ExtOk Tryz.prog (Gg vs):=bC (aT (.cons DK .nil)) (.cons (HJ vs hn) .nil)
noncomputable def Lo(vs:List aa):aG:=aCall Tryz.prog (Gg vs) 5
theorem Vj(vs:List aa)(o:af)(n c:Nat)(y:aa):(execE Tryz.prog (Lo vs) [] [(12,iN 1,[.dead])] [] 40 qh (N3 o n c y)).map (fun z=>(look2 0 [] [6,7] (z.1,z.2.1),z.2.2)) =
 some ((.ret,[],[(6,au),(7,iN 1)],true),[],[(Lo vs 58 [ae 0 n c] (rF o y),(iN 1,heapOf [.dead] (rF o y)))],[]):=by kernel_rfl
theorem GS{vs:List aa}{s:Value}{hp:Hp}(h:TR vs s hp):Lo vs 58 [s] hp=some (l4 (aF vs),heapOf [.dead] hp):=by
 show aCall Tryz.prog (Gg vs) 5 58 _ _=_
 rw [aCall];have hE:Gg vs 58=some fun _ args h=>g18 vs args h:=rfl
 rw [hE];exact tR (.inr h)
def I0(vs:List aa)(y:aa)(e:Exit)(st:St):Prop :=
 e = .ret∧((aF vs&&cU y)=true∧(∃ g,st=av 42 g [(6,ae 0 (cD vs y).length (bif fnd vs y.id then 22 else 23)),(7,iN 0)] [ab (cD vs y)])∨(aF vs&&cU y)=false∧∃ g,st=av 42 g [(6,au),(7,iN 1)] [])
theorem E'(o:af)(ho:aA o=true)(vs:List aa)(hn:vs.length<1000000)(hrow:vs = []∨∃ ty ro,o = .cells ty (aK vs) ro)(c:Nat)(y:aa)(W:bh) :
  ah Tryz.prog 42 W qh (N3 o vs.length c y) (I0 vs y):=by
 have g0:(rF o y).get 0=some o:=by unfold rF; rw [ak]; rfl
 have hT0:TR vs (ae 0 vs.length c) (rF o y):=⟨0,c,o,rfl,g0,ho,hrow⟩
 cases hr:aF vs with
 | false =>
   have k:=GS hT0
   rw [hr] at k;exact ah.aL (aQ (Gh vs hn) follows 5) follows 0 _ _ _ _ (Vj vs o vs.length c y) Met.nil (ay.cons k ay.nil) az.nil NG rfl rfl (dg _) fun g=>⟨rfl,.inr ⟨by rw [hr]; rfl,g,rfl⟩⟩
 | true =>
   have hs:=qO vs hr
   have hc:ba Tryz.prog (Aw vs):=aQ (JU vs hn hs) follows 5
   have k1:=Lk hT0
   rw [hr] at k1;cases h17:cU y with
   | false =>
     exact ah.aL hc follows 0 _ _ _ _ (Ve vs o vs.length c y) (Met.cons (ag h17) Met.nil) (ay.cons k1 ay.nil) az.nil NG rfl rfl (dg _) fun g=>⟨rfl,.inr ⟨by rw [hr,h17]; rfl,g,rfl⟩⟩
   | true =>
     have sz0:(rF o y).sz=3:=rfl
     have g0':(heapOf [.dead] (rF o y)).get 0=some o:=by rw [heapOf_get,sz0,if_pos (by omega),g0]
     have k2:=Ll (vs:=vs) (c:=c) g0' ho hrow
     have sz1:(heapOf [.dead] (rF o y)).sz=4:=rfl
     have g4:(heapOf [ab vs,.dead] (heapOf [.dead] (rF o y))).get 4=some (ab vs):=by rw [heapOf_get,sz1,if_neg (by omega)]; rfl
     have hT4:TR vs (aW 4 vs.length) (heapOf [ab vs,.dead] (heapOf [.dead] (rF o y))):=⟨4,22,ab vs,rfl,g4,aw vs,.inr ⟨78,false,rfl⟩⟩
     have k3:=Lm (id:=y.id) hT4
     have sz2:(heapOf [ab vs,.dead] (heapOf [.dead] (rF o y))).sz=6:=rfl
     have g4':(HD vs o y).get 4=some (ab vs):=by unfold HD; rw [heapOf_get,sz2,if_pos (by omega),g4]
     have hple:=ym vs y.id
     have hfix:∀ (us:List aa) (i:Nat),i<1→∀ o',[ab us][i]? = some o'→dw 0 o':=fun us=>bp us []
     cases hf:fnd vs y.id with
     | true =>
       obtain ⟨x,hx,hid⟩:=qj hf;have hlt:pos vs y.id<vs.length:=(List.getElem?_eq_some_iff.1 hx).1
       rw [hf] at k3;refine ah.aL hc follows 1 _ _ _ _ (Vf vs (vs.set (pos vs y.id) y) o vs.length c (pos vs y.id) y) (Met.cons (ag h17) (Met.cons (bH hlt) Met.nil)) (ay.cons k1 (ay.cons k2 (ay.cons k3 ay.nil))) (az.cons (Ab g4' hx hid) az.nil) NG rfl rfl (hfix _) fun g=>⟨rfl,.inl ⟨by rw [hr,h17]; rfl,g,?_⟩⟩
       have e1:cD vs y=vs.set (pos vs y.id) y:=by unfold cD; rw [hf]; rfl
       rw [e1,List.length_set,hf];rfl
     | false =>
       rw [hf] at k3;have hus:((vs.take (pos vs y.id)++zeroV y.id::vs.drop (pos vs y.id))).length=vs.length+1:=by simp; omega
       have hget:(vs.take (pos vs y.id)++zeroV y.id::vs.drop (pos vs y.id))[pos vs y.id]? = some (zeroV y.id):=by
         rw [List.getElem?_append_right (by simp; omega)]
         have:pos vs y.id-(vs.take (pos vs y.id)).length=0:=by simp; omega
         rw [this]; rfl
       have szS2:(HD vs o y).sz=7:=rfl
       have g34:(By vs o y).get 4=some (ab vs):=by unfold By; rw [Hp.cy,szS2,if_neg (by omega),g4']
       have g37:(By vs o y).get 7=some (.cells 78 (vc (zeroV y.id)) false):=by unfold By; rw [Hp.cy,szS2,if_pos rfl]
       have k4:Aw vs 140 [aW 4 vs.length,iN (pos vs y.id),ae 7 1 22] (By vs o y)=some (bx 8 0 (vs.length+1) 23,Pu vs (vs.take (pos vs y.id)++zeroV y.id::vs.drop (pos vs y.id)) o y):=by
         rw [Ln];exact DD g34 g37 rfl rfl hple hn
       have szS3:(By vs o y).sz=8:=rfl
       have g48:(Pu vs (vs.take (pos vs y.id)++zeroV y.id::vs.drop (pos vs y.id)) o y).get 8=some (ab (vs.take (pos vs y.id)++zeroV y.id::vs.drop (pos vs y.id))):=by
         unfold Pu;rw [heapOf_get,cZ,szS3,if_neg (by omega)]
         rfl
       refine ah.aL hc follows 1 _ _ _ _ (Vg vs ((vs.take (pos vs y.id)++zeroV y.id::vs.drop (pos vs y.id)).set (pos vs y.id) y) (vs.take (pos vs y.id)++zeroV y.id::vs.drop (pos vs y.id)) o vs.length c (pos vs y.id) y) (Met.cons (ag h17) (Met.cons (bH (by omega)) Met.nil))
         (ay.cons k1 (ay.cons k2 (ay.cons k3 (ay.cons k4 ay.nil)))) (az.cons (Ab g48 hget rfl) az.nil) NG rfl rfl (hfix _) fun g=>⟨rfl,.inl ⟨by rw [hr,h17]; rfl,g,?_⟩⟩
       have e1:cD vs y=(vs.take (pos vs y.id)++zeroV y.id::vs.drop (pos vs y.id)).set (pos vs y.id) y:=by
         unfold cD;rw [hf,List.set_append_right _ _ (by simp; omega)]
         have:pos vs y.id-(vs.take (pos vs y.id)).length=0:=by simp; omega
         rw [this];rfl
       rw [e1,List.length_set,hus,hf];rfl
theorem set_nil(y:aa)(W:bh):ah Tryz.prog 42 W qh ⟨tmsOf [au,.int .i64 y.id,cP y] 0 .leaf,heapOf [.dead] aE,[]⟩
   (fun e st=>e = .ret∧(cU y=true∧(∃ g,st=av 42 g [(6,aW 0 1),(7,iN 0)] [ab [y]])∨cU y=false∧∃ g,st=av 42 g [(6,au),(7,iN 1)] [])):=by
 cases h17:cU y with
 | false=>exact ah.aL y7 follows 0 _ _ _ _ (Vh y) (Met.cons (ag h17) Met.nil) ay.nil az.nil NG rfl rfl (dg _) fun g=>⟨rfl,.inr ⟨rfl,g,rfl⟩⟩
 | true=>exact ah.aL y7 follows 1 _ _ _ _ (Vi y) (Met.cons (ag h17) Met.nil) ay.nil az.nil NG rfl rfl (bp [y] []) fun g=>⟨rfl,.inl ⟨rfl,g,rfl⟩⟩
def setC(s:Value)(vs:List aa)(id:Int):Nat:=match s with
 | .slice none _ _=>22
 | _=>bif fnd vs id then 22 else 23
open Classical in
noncomputable def g27(vs:List aa):aC:=fun args hp=>match args with
 | [s,.int .i64 id,.agg cs]=>match cs.toList with
   | [.bool n,.int .i64 t,.int .i64 o,.int .i64 r,.int .i64 d,.int .i64 i] =>
     if TN vs s hp then (match aF vs&&cU ⟨id,n,t,o,r,d,i⟩ with
       | true=>some (.tuple #[ae hp.sz (cD vs ⟨id,n,t,o,r,d,i⟩).length (setC s vs id),iN 0],heapOf ([ab (cD vs ⟨id,n,t,o,r,d,i⟩)] ++ [.dead]) hp)
       | false=>some (.tuple #[au,iN 1],heapOf ([] ++ [.dead]) hp))
     else none
   | _=>none
 | _=>none
open Classical in
theorem Ma{vs:List aa}{s:Value}{hp:Hp}(y:aa)(h:TN vs s hp):g27 vs [s,.int .i64 y.id,cP y] hp=match aF vs&&cU y with
  | true=>some (.tuple #[ae hp.sz (cD vs y).length (setC s vs y.id),iN 0],heapOf [ab (cD vs y),.dead] hp)
  | false=>some (.tuple #[au,iN 1],heapOf [.dead] hp):=by
 show (if TN vs s hp then _ else _)=_
 rw [if_pos h];rfl
theorem ur{N:Nat}{us:List aa}{v:Value}{t:Nat}{L:List (Nat×Value)}{g:Nat→Value}:(av N g L [ab us]).hp.get 0=some (ab us):=by
 show (heapOf _ aE).get 0=_
 rw [ak]; rfl
theorem ug{B:Nat}{us:List aa}{hp:Hp}(h:hp.get 0=some (ab us)) : [ab us]=cH [0] B hp:=by
 simp only [cH,List.map_cons,List.map_nil,h,Option.getD_some];exact congrArg (fun z=>[z]) (cG (o:=ab us) (aw _) [0] B).symm
theorem TV(vs:List aa)(hn:vs.length<1000000):aq Tryz.prog 85 (g27 vs):=cW follows Tryz.func85 Ce (by kernel_rfl) fun args hp v hp' h hk=>by
 unfold g27 at h;rw [ntmps27];split at h
 case h_2=>cases h
 rename_i s id cs;split at h
 case h_2=>cases h
 rename_i n t o r d i hcs;obtain rfl:=cN hcs;generalize hy:(⟨id,n,t,o,r,d,i⟩:aa)=y at h;have ea : .int .i64 id=Value.int .i64 y.id:=by rw [← hy]
 have eh:Value.agg [.bool n,.int .i64 t,.int .i64 o,.int .i64 r,.int .i64 d,.int .i64 i].toArray=cP y:=by rw [← hy]; rfl
 have eid:y.id=id:=by rw [← hy]
 rw [ea,eh];split at h
 case isFalse=>cases h
 rename_i hT;have okB:∀ {st:St} (us:List aa),st.hp.get 0=some (ab us)→∀ b∈[0],∃ o,st.hp.get b=some o∧cR o=true∧mq o=true:=fun us hg b' hb'=>by
  have:b'=0:=by simpa using hb'
  subst this;exact ⟨_,hg,eY (aw _),rfl⟩
 rcases hT with ⟨rfl,rfl⟩ | hT
 ·have e1 : [au,.int .i64 y.id,cP y].map (sh3 [] 0) = [au,.int .i64 y.id,cP y]:=by simp [sh3,sh2,sh1,au,cP]
  have hsv:cD [] y = [y]:=rfl
  split at h
  ·rename_i hro
   cases h;refine ⟨[],[0],[ab (cD [] y)],rfl,rfl,rfl,rfl,(fun b hb=>by cases hb),rfl,(by simp),fun W=>?_⟩
   rw [e1];refine ah.mono (set_nil y W) fun e st q=>?_
   obtain ⟨rfl,⟨-,g,rfl⟩ | ⟨h2,-⟩⟩:=q
   ·have hg:=ur (N:=42) (us:=[y]) (v:=au) (t:=0) (L:=[(6,aW 0 1),(7,iN 0)]) (g:=g)
    refine ⟨.inr rfl,rfl,_,QC _ _ _ g,rfl,okB [y] hg,?_,?_⟩
    ·simp [sh3,sh2,sh1,jj,idxOf,aW,ae,setC,au,hsv,iN]
    ·rw [hsv]; exact ug hg
   ·rw [h2,Bool.and_false] at hro; cases hro
  ·rename_i hro
   cases h;refine ⟨[],[],[],rfl,rfl,rfl,rfl,(fun b hb=>by cases hb),rfl,(by simp),fun W=>?_⟩
   rw [e1];refine ah.mono (set_nil y W) fun e st q=>?_
   obtain ⟨rfl,⟨h2,-⟩ | ⟨-,g,rfl⟩⟩:=q
   ·rw [h2,show aF []=true from rfl] at hro; cases hro
   ·exact ⟨.inr rfl,rfl,_,QC _ _ _ g,rfl,(fun b hb=>by cases hb),by simp [sh3,sh2,sh1,au,iN],rfl⟩
 ·obtain ⟨b,c,ob,rfl,hb,hi,hr⟩:=hT
  have e1 : [ae b vs.length c,.int .i64 y.id,cP y].map (sh3 [b] 0) = [ae 0 vs.length c,.int .i64 y.id,cP y]:=by simp [sh3,sh2,sh1,jj,idxOf,ae,cP]
  have hst:∀ b'∈[b],∃ o,hp.get b'=some o∧cj o=true:=fun b' hb'=>by
    have:b'=b:=by simpa using hb'
    subst this;exact ⟨ob,hb,aS hi⟩
  split at h
  ·rename_i hro
   cases h;refine ⟨[b],[0],[ab (cD vs y)],rfl,rfl,rfl,rfl,hst,rfl,(by simp),fun W=>?_⟩
   rw [e1,fJ hb hi];refine ah.mono (E' (roBlk ob) (bO hi) vs hn (ee hr) c y W) fun e st q=>?_
   obtain ⟨rfl,⟨-,g,rfl⟩ | ⟨h2,-⟩⟩:=q
   ·have hg:=ur (N:=42) (us:=cD vs y) (v:=au) (t:=0) (L:=[(6,ae 0 (cD vs y).length (bif fnd vs y.id then 22 else 23)),(7,iN 0)]) (g:=g)
    refine ⟨.inr rfl,rfl,_,QC _ _ _ g,rfl,okB _ hg,?_,ug hg⟩
    simp [sh3,sh2,sh1,jj,idxOf,ae,setC,iN,eid]
   ·rw [h2] at hro; cases hro
  ·rename_i hro
   cases h;refine ⟨[b],[],[],rfl,rfl,rfl,rfl,hst,rfl,(by simp),fun W=>?_⟩
   rw [e1,fJ hb hi];refine ah.mono (E' (roBlk ob) (bO hi) vs hn (ee hr) c y W) fun e st q=>?_
   obtain ⟨rfl,⟨h2,-⟩ | ⟨-,g,rfl⟩⟩:=q
   ·rw [h2] at hro; cases hro
   ·exact ⟨.inr rfl,rfl,_,QC _ _ _ g,rfl,(fun b hb=>by cases hb),by simp [sh3,sh2,sh1,au,iN],rfl⟩
abbrev Up(vs:List aa):Prop:=vs.Pairwise fun u v=>u.id<v.id
theorem qP{vs:List aa}:mA vs↔Up vs:=by
 constructor
 ·intro h
  refine List.pairwise_iff_getElem.2 fun i j hi hj hij=>h i j _ _ hij (List.getElem?_eq_getElem hi) (List.getElem?_eq_getElem hj)
 ·intro h i j u v hij hu hv
  obtain ⟨hi,rfl⟩:=List.getElem?_eq_some_iff.1 hu
  obtain ⟨hj,rfl⟩:=List.getElem?_eq_some_iff.1 hv
  exact List.pairwise_iff_getElem.1 h i j hi hj hij
theorem dp{vs:List aa}:aF vs=true↔(∀ x∈vs,cU x=true)∧Up vs:=by
 constructor
 ·intro h
  refine ⟨fun x hx=>?_,qP.1 (qO vs h)⟩
  obtain ⟨i,hi⟩:=List.mem_iff_getElem?.1 hx;exact Bc h hi
 ·rintro ⟨h1,h2⟩
  have hr:=qP.2 h2
  refine n9 fun j hj=>?_
  have hx:vs[j]? = some vs[j]:=List.getElem?_eq_getElem hj
  unfold rightAt;rw [hx];simp only [h1 _ (List.getElem_mem hj),Bool.true_and];cases j with
  | zero=>rfl
  | succ j =>
    have hu:vs[j]? = some vs[j]:=List.getElem?_eq_getElem (by omega)
    simp only [hu];exact decide_eq_true (hr j (j+1) _ _ (by omega) hu hx)
def wS(vs:List aa)(y:aa):List aa:=vs.filter (fun x=>decide (x.id<y.id))++y::vs.filter (fun x=>decide (y.id<x.id))
theorem uB{y:aa}:∀ {vs:List aa},Up vs→cD vs y=wS vs y
 | [],_=>rfl
 | u::vs,h=>by
   have ih:=uB (y:=y) (List.pairwise_cons.1 h).2
   have hu:=(List.pairwise_cons.1 h).1
   rcases Int.lt_trichotomy u.id y.id with h1 | h1 | h1
   ·have hp:pos (u::vs) y.id=pos vs y.id+1:=by unfold pos; rw [List.takeWhile_cons,if_pos (by simpa using h1)]; rfl
    have hf:fnd (u::vs) y.id=fnd vs y.id:=by unfold fnd; rw [hp]; rfl
    have e1:cD (u::vs) y=u::cD vs y:=by
      unfold cD;rw [hp,hf];cases fnd vs y.id <;> rfl
    rw [e1,ih];unfold wS;rw [List.filter_cons_of_pos (by simpa using h1),List.filter_cons_of_neg (by simp; omega)]
    rfl
   ·have hp:pos (u::vs) y.id=0:=by unfold pos; rw [List.takeWhile_cons,if_neg (by simp; omega)]; rfl
    have hf:fnd (u::vs) y.id=true:=by unfold fnd; rw [hp]; simp [h1]
    have e1:cD (u::vs) y=y::vs:=by unfold cD; rw [hp,hf]; rfl
    rw [e1];unfold wS;rw [List.filter_cons_of_neg (by simp; omega),List.filter_cons_of_neg (by simp; omega),List.filter_eq_nil_iff.2 (fun x hx=>by have:=hu x hx; simp; omega),List.filter_eq_self.2 (fun x hx=>by have:=hu x hx; simp; omega)]
    rfl
   ·have hp:pos (u::vs) y.id=0:=by unfold pos; rw [List.takeWhile_cons,if_neg (by simp; omega)]; rfl
    have hf:fnd (u::vs) y.id=false:=by unfold fnd; rw [hp]; simp; omega
    have e1:cD (u::vs) y=y::u::vs:=by unfold cD; rw [hp,hf]; rfl
    rw [e1];unfold wS;rw [List.filter_cons_of_neg (by simp; omega),List.filter_cons_of_pos (by simpa using h1),List.filter_eq_nil_iff.2 (fun x hx=>by have:=hu x hx; simp; omega),List.filter_eq_self.2 (fun x hx=>by have:=hu x hx; simp; omega)]
    rfl
theorem Ir{vs:List aa}{y:aa}(h:Up vs):Up (wS vs y):=by
 unfold wS;refine List.pairwise_append.2 ⟨h.filter _,List.pairwise_cons.2 ⟨fun x hx=>?_,h.filter _⟩,fun u hu v hv=>?_⟩
 ·simpa using (List.mem_filter.1 hx).2
 ·have h1:u.id<y.id:=by simpa using (List.mem_filter.1 hu).2
  rcases List.mem_cons.1 hv with rfl | hv
  ·exact h1
  ·have h2:y.id<v.id:=by simpa using (List.mem_filter.1 hv).2
   omega
theorem wh{vs:List aa}{y x:aa}:x∈wS vs y↔x=y∨(x∈vs∧x.id≠y.id):=by
 unfold wS;simp only [List.mem_append,List.mem_cons,List.mem_filter,decide_eq_true_eq];constructor
 ·rintro (⟨h1,h2⟩ | rfl | ⟨h1,h2⟩)
  ·exact .inr ⟨h1,by omega⟩
  ·exact .inl rfl
  ·exact .inr ⟨h1,by omega⟩
 ·rintro (rfl | ⟨h1,h2⟩)
  ·exact .inr (.inl rfl)
  ·rcases Int.lt_trichotomy x.id y.id with h | h | h
   ·exact .inl ⟨h1,h⟩
   ·exact absurd h h2
   ·exact .inr (.inr ⟨h1,h⟩)
theorem yp{vs:List aa}{y:aa}(h:aF vs=true)(hy:cU y=true):aF (cD vs y)=true:=by
 obtain ⟨h1,h2⟩:=dp.1 h;rw [uB h2];refine dp.2 ⟨fun x hx=>?_,Ir h2⟩
 rcases wh.1 hx with rfl | ⟨hx,-⟩
 ·exact hy
 ·exact h1 x hx
theorem mZ{vs:List aa}{y x:aa}(h:aF vs=true):x∈cD vs y↔x=y∨(x∈vs∧x.id≠y.id):=by
 rw [uB (dp.1 h).2,wh]
noncomputable def SN:aC:=atRow (fun _=>True) g27
theorem PK:aq Tryz.prog 85 SN:=fA fun vs hn _=>TV vs hn
section
variable (zs xs ys:List aa) (o:af) (s:Value) (n:Nat) (y z:aa) (O1 O2:List af) (e f:Nat) (u1 u2:Value)
abbrev B5:St:=⟨tmsOf [s,.int .i64 y.id,.int .i64 z.id,cP y,cP z] 0 .leaf,heapOf [o,.dead] aE,[]⟩
def Xs(us:List aa):List af:=[ab us,.dead]
end
theorem TR.ext{vs:List aa}{s:Value}{hp:Hp}(h:TR vs s hp)(hk:hp.ok)(O:List af):TR vs s (heapOf O hp):=by
 obtain ⟨b,c,o,rfl,hb,hi,hr⟩:=h;exact ⟨b,c,o,rfl,by rw [heapOf_get,if_pos (cV hk hb),hb],hi,hr⟩
theorem TN.new{vs:List aa}{hp:Hp}{b n c:Nat}(hn:n=vs.length)(hb:hp.get b=some (ab vs)):TN vs (ae b n c) hp:=by
 subst hn;exact .inr ⟨b,c,ab vs,rfl,hb,aw vs,.inr ⟨78,false,rfl⟩⟩
theorem zp{O:List af}{hp:Hp}{b:Nat}{x:af}(hk:hp.ok)(h:hp.get b=some x):(heapOf O hp).get b=some x:=by
 rw [heapOf_get,if_pos (cV hk h),h]
end Go.Proofs.YtgeoommlmddgpaaGreat.LtA
namespace Go.Proofs.YtgeoommlmddgpaaGreat.LtA
open Go Go.Proofs Go.Proofs.YtgeoommlmddgpaaGreat.AI Go.RowKit Go.ChangeShapes
theorem HS{f:FuncId}{fn:Func}{c:Code}{N:Nat}(hf:Tryz.prog.funcs[f]? = some fn)(hb:fn.body=some c)(hN:fn.ntmps=N)(W:World){args:Array Value}{args0:List Value}{hp:Hp}{m:BM}(hl:args0.length≤N)(hk:hp.ok)(sim:cg m hp.get W)(ro:∀ b,rw? hp.get b=false)
  (ra:aD m hp.get args0 args.toList) (h:∀ W,ah Tryz.prog N W c ⟨tmsOf args0 0 .leaf,hp,[]⟩ (fun e st=>(e = .normal∨e = .ret)∧st.df = []∧retVal Tryz.prog fn st=some (.bool true))) :
  Calls Tryz.prog f args W fun e W'=>e = .returned (.bool true)∧Below W.heap.size W W':=by
 have h':=h (bh.shut W)
 rw [← hN] at h';refine (Ji (R:=fun v _=>v = .bool true) hf hb (by rw [hN]; exact hl) hk sim ro ra (ah.mono h' fun e st q=>⟨q.1,q.2.1,_,q.2.2,rfl⟩)).mono fun e w' hh=>?_
 obtain ⟨v',v,st',m',rfl,rfl,rv,_,_,hb,_⟩:=hh;exact ⟨by rw [rv.of_bool],hb.below⟩
end Go.Proofs.YtgeoommlmddgpaaGreat.LtA
namespace Go.Proofs.YtgeoommlmddgpaaGreat.LtA
open Go Go.Proofs Go.Proofs.YtgeoommlmddgpaaGreat.AI Go.RowKit
theorem EN{o:af}{vs:List aa}(h:Holds vs o):Holds vs (roBlk o):=by
 rcases h with h | ⟨ty,ro,rest,rfl⟩
 ·exact .inl h
 ·exact .inr ⟨ty,true,rest,rfl⟩
def TP(vs:List aa)(s:Value)(hp:Hp):Prop:=∃ b c o,s=ae b vs.length c∧hp.get b=some o∧aA o=true∧Holds vs o
theorem TR.tp{vs:List aa}{s:Value}{hp:Hp}(h:TR vs s hp):TP vs s hp:=by
 obtain ⟨b,c,o,h1,h2,h3,h4⟩:=h;exact ⟨b,c,o,h1,h2,h3,.of h4⟩
theorem rB{us:List aa}:∀ {vs:List aa},aK us=aK vs→us=vs:=by
 induction us with
 | nil=>intro vs h; cases vs with
   | nil=>rfl
   | cons v vs=>simp [aK,vc] at h
 | cons u us ih=>intro vs h; cases vs with
   | nil=>simp [aK,vc] at h
   | cons v vs =>
     simp only [aK,vc,List.flatMap_cons,List.cons_append,List.nil_append,List.cons.injEq,Value.int.injEq,Value.bool.injEq,true_and] at h;obtain ⟨a1,a2,a3,a4,a5,a6,a7,h⟩:=h;have:=ih h
     subst this;cases u; cases v;simp_all
theorem TP.not_nil{vs:List aa}{hp:Hp}(h:TP vs au hp):False:=by
 obtain ⟨b,c,o,h,_⟩:=h;simp [ae,au] at h
theorem TP.uniq{us vs:List aa}{s:Value}{hp:Hp}(h1:TP us s hp)(h2:TP vs s hp):us=vs:=by
 obtain ⟨b,c,o,rfl,hb,_,hr⟩:=h1;obtain ⟨b',c',o',e,hb',_,hr'⟩:=h2;unfold ae at e;simp only [Value.slice.injEq,Option.some.injEq,Addr.mk.injEq,and_true] at e;obtain ⟨rfl,hl,-⟩:=e;rw [hb] at hb'; cases hb';rcases hr with h | ⟨ty,ro,rest,h⟩
 ·subst h
  exact (List.eq_nil_of_length_eq_zero hl.symm).symm
 ·rcases hr' with h' | ⟨ty',ro',rest',h'⟩
  ·subst h'
   exact List.eq_nil_of_length_eq_zero hl
  ·rw [h] at h'
   injection h' with _ h2 _
   exact rB (List.append_inj h2 (by rw [bT,bT,hl])).1
def TQ(vs:List aa)(s:Value)(hp:Hp):Prop:=s=au∧vs = []∨TP vs s hp
theorem TN.tq{vs:List aa}{s:Value}{hp:Hp}(h:TN vs s hp):TQ vs s hp:=by
 rcases h with h | h
 ·exact .inl h
 ·exact .inr h.tp
theorem TQ.uniq{us vs:List aa}{s:Value}{hp:Hp}(h1:TQ us s hp)(h2:TQ vs s hp):us=vs:=by
 rcases h1 with ⟨rfl,rfl⟩ | h1
 ·rcases h2 with ⟨-,rfl⟩ | h2
  ·rfl
  ·exact h2.not_nil.elim
 ·rcases h2 with ⟨rfl,rfl⟩ | h2
  ·exact h1.not_nil.elim
  ·exact h1.uniq h2
open Classical in
noncomputable def atP(k:List aa→aC):aC:=fun args hp=>match args with
 | s::_=>if h:∃ vs,TQ vs s hp∧vs.length<1000000 then k h.choose args hp else none
 | _=>none
theorem Cb{f:FuncId}{k:List aa→aC}(h:∀ vs,vs.length<1000000→aq Tryz.prog f (k vs)):aq Tryz.prog f (atP k):=by
 intro args hp v hp' he hk;unfold atP at he;split at he
 case h_2=>cases he
 split at he
 ·rename_i hx
  exact h _ hx.choose_spec.2 _ _ _ _ he hk
 ·cases he
theorem KF{k:List aa→aC}{vs:List aa}{s:Value}{r:List Value}{hp:Hp}(h:TQ vs s hp)(hn:vs.length<1000000):atP k (s::r) hp=k vs (s::r) hp:=by
 unfold atP;have hx:∃ vs,TQ vs s hp∧vs.length<1000000:=⟨vs,h,hn⟩
 simp only;rw [dif_pos hx];rw [hx.choose_spec.1.uniq h]
noncomputable def c0:aG:=aCall Tryz.prog (cS Tryz.prog []) 5
theorem jU:ba Tryz.prog c0:=aQ (aT .nil) follows 5
noncomputable def Hl:Code:=(Tryz.f25.body).getD .skip
noncomputable def Lq:Code:=sL Hl
noncomputable def Lr:Code:=sL (sL (sR Hl))
noncomputable def CH:Code:=mr (jh (sR (sL (sR Hl))))
noncomputable def Ls:Code:=sR (sR Hl)
noncomputable abbrev qd:Code:=.seq Lq (.seq (.seq Lr (.block 0 (.loop CH))) Ls)
theorem KM:Tryz.f25.body=some qd:=by kernel_rfl
theorem ntmps33:Tryz.f25.ntmps=22:=by kernel_rfl
theorem Wp:codeSafe Tryz.prog 22 Lq=true:=by kernel_rfl
theorem Wq:codeSafe Tryz.prog 22 Lr=true:=by kernel_rfl
theorem NI:codeSafe Tryz.prog 22 CH=true:=by kernel_rfl
theorem Wr:codeSafe Tryz.prog 22 Ls=true:=by kernel_rfl
def hB(x:aa):af:=.cells 23 (Oa x) false
theorem XT(x:aa)(b:Bool)(g:Nat→Value):retVal Tryz.prog Tryz.f25 (av 22 g [(4,pb 0 0),(5,.bool b)] [hB x])=some (.tuple #[cP x,.bool b]):=by kernel_rfl
section
variable (o:af) (n c:Nat) (id:Int)
abbrev W1:St:=⟨tmsOf [ae 0 n c,.int .i64 id] 0 .leaf,heapOf [o,.dead] aE,[]⟩
abbrev WX(g:Nat→Value):St:=av 22 g [(0,ae 0 n c),(1,.int .i64 id),(4,pb 1 0)] [o,hB (zeroV 0)]
abbrev OL(i:Nat)(g:Nat→Value):St:=av 22 g [(1,.int .i64 id),(4,pb 1 0),(8,ae 0 n c),(9,iN n),(10,iN i)] [o,hB (zeroV 0)]
abbrev Xc(g:Nat→Value):St:=av 22 g [(4,pb 0 0)] [hB (zeroV 0)]
theorem VB:(execE Tryz.prog c0 [] [] [] 10 Lq (W1 o n c id)).map (fun y=>(look2 1 [0,2] [0,1,4] (y.1,y.2.1),y.2.2))=some ((.normal,[o,hB (zeroV 0)],[(0,ae 0 n c),(1,.int .i64 id),(4,pb 1 0)],true),[],[],[]):=by kernel_rfl
theorem VC(g:Nat→Value):(execE Tryz.prog c0 [] [] [] 10 Lr (WX o n c id g)).map (fun y=>(look2 1 [0,1] [1,4,8,9,10] (y.1,y.2.1),y.2.2))=some ((.normal,[o,hB (zeroV 0)],[(1,.int .i64 id),(4,pb 1 0),(8,ae 0 n c),(9,iN n),(10,iN 0)],true),[],[],[]):=by kernel_rfl
theorem VH(i:Nat)(g:Nat→Value):(execE Tryz.prog c0 [(11,.bool false)] [] [] 20 CH (OL o n c id i g)).map (fun y=>(look2 0 [1] [4] (y.1,y.2.1),y.2.2)) =
 some ((.exit 0,[hB (zeroV 0)],[(4,pb 0 0)],true),[(some (.bool (decide (Int.ofNat i<Int.ofNat n))),.bool false)],[],[]):=by kernel_rfl
noncomputable def Ez(i:Nat)(x:aa):List db :=
 [(some (.bool (decide (Int.ofNat i<Int.ofNat n))),.bool true),gV 0 n c i,j4 (heapOf ([o,hB (zeroV 0)] ++ [.dead]) aE).get 78 0 (i*7) (.agg ⟨vc x⟩)]
def JF(i:Nat)(x:aa):List (Tmp×Value):=[(11,.bool true),(12,pb 0 (i*7)),(13,.agg ⟨vc x⟩)]
theorem VE(i:Nat)(x:aa)(g:Nat→Value):(execE Tryz.prog c0 (JF i x ++ [(17,.bool false),(20,iN (i+1))]) [] [] 20 CH (OL o n c id i g)).map (fun y=>(look2 1 [0,1] [1,4,8,9,10] (y.1,y.2.1),y.2.2)) =
 some ((.normal,[o,hB (zeroV 0)],[(1,.int .i64 id),(4,pb 1 0),(8,ae 0 n c),(9,iN n),(10,iN (i+1))],true),Ez o n c i x ++ [(some (.bool (x.id==id)),.bool false),dI i],[],[]):=by kernel_rfl
theorem VF(i:Nat)(x:aa)(g:Nat→Value):(execE Tryz.prog c0 (JF i x ++ [(17,.bool true)]) [] [] 20 CH (OL o n c id i g)).map (fun y=>(look2 0 [1] [4,5] (y.1,y.2.1),y.2.2)) =
 some ((.ret,[hB x],[(4,pb 0 0),(5,.bool true)],true),Ez o n c i x ++ [(some (.bool (x.id==id)),.bool true)],[],[]):=by kernel_rfl
theorem VD(g:Nat→Value):(execE Tryz.prog c0 [] [] [] 20 Ls (Xc g)).map (fun y=>(look2 0 [0] [4,5] (y.1,y.2.1),y.2.2)) =
 some ((.ret,[hB (zeroV 0)],[(4,pb 0 0),(5,.bool false)],true),[],[],[]):=by kernel_rfl
theorem VG:(execQ Tryz.prog c0 [] 40 qd ⟨tmsOf [au,.int .i64 id] 0 .leaf,heapOf [.dead] aE,[]⟩).map (fun y=>(look2 0 [1] [4,5] (y.1,y.2.1),y.2.2)) =
 some ((.ret,[hB (zeroV 0)],[(4,pb 0 0),(5,.bool false)],true),[]):=by kernel_rfl
end
def rQ(id:Int)(x:aa):Bool:=x.id==id
def aI(vs:List aa)(id:Int):Option aa:=vs.find? (rQ id)
def HB(vs:List aa)(id:Int):Value:=.tuple #[cP ((aI vs id).getD (zeroV 0)),.bool (aI vs id).isSome]
theorem tQ{α : Type}{p : α→Bool}:∀ {vs:List α} {i:Nat} {x : α},vs[i]? = some x→p x=true→(∀ j y,j<i→vs[j]? = some y→p y=false)→vs.find? p=some x
 | [],i,x,h,_,_=>by simp at h
 | v::vs,0,x,h,hp,_=>by
   simp at h; subst h;rw [List.find?_cons_of_pos hp]
 | v::vs,i+1,x,h,hp,hb=>by
   rw [List.find?_cons_of_neg (by rw [hb 0 v (by omega) rfl]; simp)]
   exact tQ (by simpa using h) hp fun j y hj hy=>hb (j+1) y (by omega) (by simpa using hy)
theorem Hv{α : Type}{p : α→Bool}{vs:List α}(h:∀ j y,j<vs.length→vs[j]? = some y→p y=false):vs.find? p=none:=by
 refine List.find?_eq_none.2 fun x hx=>?_
 obtain ⟨i,hi⟩:=List.mem_iff_getElem?.1 hx;rw [h i x (List.getElem?_eq_some_iff.1 hi).1 hi]; simp
def yS(vs:List aa)(id:Int)(e:Exit)(st:St):Prop:=e = .ret∧∃ g,st=av 22 g [(4,pb 0 0),(5,.bool (aI vs id).isSome)] [hB ((aI vs id).getD (zeroV 0))]
theorem rE{i:Nat}(h:i+1≤9223372036854775807):(some (Value.int .i64 (wrapF .i64 (Int.ofNat i+1))))=some (iN (i+1)):=by
 have e:Int.ofNat i+1=Int.ofNat (i+1):=rfl
 rw [e,wrap64 (by have:=Int.natCast_nonneg (i+1); simp only [Int.ofNat_eq_natCast]; omega) (by simp only [Int.ofNat_eq_natCast]; omega)]
 rfl
theorem Mg(o:af)(ho:aA o=true)(vs:List aa)(hn:vs.length≤9223372036854775807)(hrow:Holds vs o)(c:Nat)(id:Int)(W:bh) :
  ah Tryz.prog 22 W qd (W1 o vs.length c id) (yS vs id):=by
 refine ah.seq (Q1:=fun x st=>x = .normal∧∃ g,st=WX o vs.length c id g) (ah.aL jU follows 1 _ _ _ _ (VB o vs.length c id) Met.nil ay.nil az.nil Wp rfl rfl (cq ho _) fun g=>⟨rfl,g,rfl⟩) ?_ (fun x st hne hq=>absurd hq.1 hne)
 rintro st ⟨-,g,rfl⟩;let Q2:Exit→St→Prop:=fun x st=>(x = .normal∧aI vs id=none∧∃ g,st=Xc g)∨(x = .ret∧yS vs id x st)
 refine ah.seq (Q1:=Q2) ?_ ?_ ?_
 ·refine ah.seq (Q1:=fun x st=>x = .normal∧∃ g,st=OL o vs.length c id 0 g) (ah.aL jU follows 1 _ _ _ _ (VC o vs.length c id g) Met.nil ay.nil az.nil Wq rfl rfl (cq ho _) fun g=>⟨rfl,g,rfl⟩) ?_ (fun x st hne hq=>absurd hq.1 hne)
  rintro st ⟨-,g,rfl⟩;refine ah.block ?_
  refine ah.loop (fun k st=>∃ i g,i≤vs.length∧k=vs.length-i∧(∀ j y,j<i→vs[j]? = some y→rQ id y=false)∧st=OL o vs.length c id i g) ?_ (k:=vs.length) ⟨0,g,Nat.zero_le _,rfl,fun j y hj=>absurd hj (Nat.not_lt_zero _),rfl⟩
  rintro k st ⟨i,g,hi,hk,hno,rfl⟩;cases h11:decide (Int.ofNat i<Int.ofNat vs.length) with
  | false =>
    refine ah.aL jU follows 0 _ _ _ _ (VH o vs.length c id i g) (Met.cons (ag h11) Met.nil) ay.nil az.nil NI rfl rfl (dg _) fun g'=>.inr ⟨by simp,?_⟩
    show (if (0:Nat)=0 then Q2 .normal _ else Q2 (.exit 0) _)
    rw [if_pos rfl];have hii:i=vs.length:=by simp at h11; omega
    subst hii;exact .inl ⟨rfl,Hv hno,g',rfl⟩
  | true =>
    have hlt:i<vs.length:=by simpa using h11
    obtain ⟨x,hx⟩:∃ x,vs[i]? = some x:=⟨_,List.getElem?_eq_getElem hlt⟩
    have hmet:Met (Ez o vs.length c i x):=Met.cons (ag h11) (Met.cons (bH hlt) (Met.cons (bM (zZ (mf hrow (List.mem_of_getElem? hx))) hx) Met.nil))
    cases h17:rQ id x with
    | false =>
      refine ah.aL jU follows 1 _ _ _ _ (VE o vs.length c id i x g) (ct hmet (Met.cons (ag h17) (Met.cons (rE (by omega)) Met.nil))) ay.nil az.nil NI rfl rfl (cq ho _) fun g'=>.inl ⟨rfl,vs.length-(i+1),by omega,i+1,g',by omega,rfl,fun j y hj hy=>?_,rfl⟩
      rcases Nat.lt_succ_iff_lt_or_eq.1 hj with h' | h'
      ·exact hno j y h' hy
      ·subst h'; rw [hx] at hy; cases hy; exact h17
    | true =>
      refine ah.aL jU follows 0 _ _ _ _ (VF o vs.length c id i x g) (ct hmet (Met.cons (ag h17) Met.nil)) ay.nil az.nil NI rfl rfl (dg _) fun g'=>.inr ⟨by simp,.inr ⟨rfl,rfl,g',?_⟩⟩
      have hf:aI vs id=some x:=tQ hx h17 hno
      rw [hf]; rfl
 ·rintro st (⟨-,hf,g,rfl⟩ | ⟨h,-⟩)
  ·refine ah.aL jU follows 0 _ _ _ _ (VD g) Met.nil ay.nil az.nil Wr rfl rfl (dg _) fun g'=>⟨rfl,g',?_⟩
   rw [hf]; rfl
  ·cases h
 ·rintro x st hne (⟨h,-⟩ | ⟨-,h⟩)
  ·exact absurd h hne
  ·exact h
theorem Ya:codeSafe Tryz.prog 22 qd=true:=by kernel_rfl
theorem get_nil(id:Int)(W:bh):ah Tryz.prog 22 W qd ⟨tmsOf [au,.int .i64 id] 0 .leaf,heapOf [.dead] aE,[]⟩ (yS [] id) :=
 ah.piece jU follows 0 _ _ _ _ (VG id) Met.nil Ya rfl rfl rfl (dg _) fun g=>⟨rfl,g,rfl⟩
open Classical in
noncomputable def g33(vs:List aa):aC:=fun args hp=>match args with
 | [s,.int .i64 id]=>if TQ vs s hp then some (HB vs id,heapOf ([] ++ [.dead]) hp) else none
 | _=>none
theorem TY(vs:List aa)(hn:vs.length≤9223372036854775807):aq Tryz.prog 25 (g33 vs):=cW follows Tryz.func25 KM (by kernel_rfl) fun args hp v hp' h hk=>by
 unfold g33 at h;rw [ntmps33];split at h
 case h_2=>cases h
 rename_i s id;split at h
 case isFalse=>cases h
 rename_i hT;cases h;have fin:∀ {e:Exit} {st:St},yS vs id e st→(e = .normal∨e = .ret)∧st.df = []∧∃ v0,retVal Tryz.prog Tryz.f25 st=some v0∧hU v0=true ∧
   (∀ b∈([]:List Nat),∃ o,st.hp.get b=some o∧cR o=true∧mq o=true)∧HB vs id=sh3 [] hp.sz v0∧[]=cH [] hp.sz st.hp:=by
  rintro e st ⟨rfl,g,rfl⟩;exact ⟨.inr rfl,rfl,_,XT _ _ g,rfl,(fun b hb=>by cases hb),by simp [sh3,sh2,sh1,HB,cP],rfl⟩
 rcases hT with ⟨rfl,rfl⟩ | ⟨b,c,o,rfl,hb,hi,hr⟩
 ·refine ⟨[],[],[],rfl,rfl,rfl,rfl,(fun b hb=>by cases hb),rfl,(by simp),fun W=>?_⟩
  have e1 : [au,.int .i64 id].map (sh3 [] 0) = [au,.int .i64 id]:=by simp [sh3,sh2,sh1,au]
  rw [e1];exact ah.mono (get_nil id W) fun e st q=>fin q
 ·refine ⟨[b],[],[],rfl,rfl,rfl,rfl,fun b' hb'=>?_,rfl,(by simp),fun W=>?_⟩
  ·have:b'=b:=by simpa using hb'
   subst this;exact ⟨o,hb,aS hi⟩
  ·have e1 : [ae b vs.length c,.int .i64 id].map (sh3 [b] 0) = [ae 0 vs.length c,.int .i64 id]:=by simp [sh3,sh2,sh1,jj,idxOf,ae]
   rw [e1,fJ hb hi];exact ah.mono (Mg (roBlk o) (bO hi) vs hn (EN hr) c id W) fun e st q=>fin q
noncomputable def o8:aC:=atP g33
theorem Jp:aq Tryz.prog 25 o8:=Cb fun vs hn=>TY vs (by omega)
open Classical in
theorem fw{vs:List aa}{s:Value}{hp:Hp}{id:Int}(h:TQ vs s hp)(hn:vs.length<1000000):o8 [s,.int .i64 id] hp=some (HB vs id,heapOf [.dead] hp):=by
 unfold o8;rw [KF h hn];show (if TQ vs s hp then _ else _)=_
 rw [if_pos h]; rfl
theorem Da{P:Program}{f:FuncId}{g g2:aC}(hg:aq P f g)
  (H:∀ args hp v hp2,g2 args hp=some (v,hp2)→hp.ok→∃ dj,g args hp=some (v,dj)∧hp2.ok∧hp2.sz=dj.sz ∧
    ∀ b,hp2.get b=dj.get b∨(hp.sz≤b∧b<dj.sz∧∃ ty L1 L2,dj.get b=some (.cells ty (L1++L2) false)∧hp2.get b=some (.cells ty L1 false))):aq P f g2:=by
 intro args hp v hp2 he hk;obtain ⟨dj,h1,uL,hsz,hcut⟩:=H args hp v hp2 he hk;obtain ⟨tS,hle,hgo⟩:=hg args hp v dj h1 hk;refine ⟨uL,by rw [hsz]; exact hle,fun m h w args' hfr s ra=>?_⟩
 have step:∀ v' w',(∃ m',dR m (aM hp h) w m' (aM dj h) w'∧aj m' (aM dj h) v v')→∃ m',dR m (aM hp h) w m' (aM hp2 h) w'∧aj m' (aM hp2 h) v v':=?_
 ·rcases hgo m h w args' (fun b a c=>hfr b a (by rw [hsz]; exact c)) s ra with ⟨v',w',q1,q2⟩ | ⟨q1,q2⟩
  ·exact .inl ⟨v',w',q1,step v' w' q2⟩
  ·exact .inr ⟨q1,q2.mono fun e w' hh=>by
      obtain ⟨v',h1,h2⟩:=hh;exact ⟨v',h1,step v' w' h2⟩⟩
 rintro v' w' ⟨m',go,rv⟩;have hov:∀ b,aM hp2 h b=aM dj h b∨(hp.sz≤b∧b<dj.sz∧∃ ty L1 L2,aM dj h b=some (.cells ty (L1++L2) false)∧aM hp2 h b=some (.cells ty L1 false)):=by
  intro b;unfold aM;rw [hsz];by_cases hb:b<dj.sz
  ·simp only [if_pos hb]
   rcases hcut b with e | ⟨q1,q2,q3⟩
   ·exact .inl e
   ·exact .inr ⟨q1,q2,q3⟩
  ·exact .inl (by rw [if_neg hb,if_neg hb])
 have hrw:∀ b,rw? (aM hp2 h) b=rw? (aM dj h) b:=fun b=>by
  unfold rw?;rcases hov b with e | ⟨_,_,ty,L1,L2,e1,e2⟩
  ·rw [e]
  ·rw [e1,e2]
 have hlv:∀ b,aV (aM hp2 h) b=aV (aM dj h) b:=fun b=>by
  unfold aV;rcases hov b with e | ⟨_,_,ty,L1,L2,e1,e2⟩
  ·rw [e]
  ·rw [e1,e2]
 have le2:Le m' (aM dj h) m' (aM hp2 h):=⟨fun b hb=>(by
  rcases hov b with e | ⟨_,_,ty,L1,L2,e1,_⟩
  ·rw [e]; exact hb
  ·rw [e1] at hb; cases hb),fun b x hx=>.inr hx⟩
 refine ⟨m',⟨go.le.trans le2,⟨fun b x hx=>?_,fun b b' x x' hx hx' hr hl e=>go.sim.inj b b' x x' hx hx' (by rw [← hrw]; exact hr) (by rw [← hlv]; exact hl) e⟩,go.size,go.new,go.frame,go.un,fun b o hb hm=>?_,fun b o hb=>?_,fun b x hx hr=>go.rwb b x hx (by rw [← hrw]; exact hr),go.os,go.tape,go.output⟩,rv.mono le2⟩
 ·obtain ⟨o,ho,hbr⟩:=go.sim.dom b x hx
  rcases hov b with e | ⟨_,_,ty,L1,L2,e1,e2⟩
  ·exact ⟨o,by rw [e]; exact ho,hbr.mono le2 rfl⟩
  ·rw [e1] at ho; cases ho
   obtain ⟨c,fr,k1,k2,k3,k4,k5⟩:=hbr;refine ⟨_,e2,c,fr,k1,by rw [List.length_append] at k2; omega,k3,fun i v v' p1 p2=>(k4 i v v' (zo p1) p2).mono le2,k5.1,fun h=>by cases h⟩
 ·have:=go.idle b o hb hm
  rcases hov b with e | ⟨q1,q2,_⟩
  ·rw [e]; exact this
  ·have hn:=hfr b q1 (by rw [hsz]; exact q2)
   unfold aM at hb;rw [if_neg (by omega)] at hb
   rw [hn] at hb; cases hb
 ·obtain ⟨o',ho'⟩:=go.ex b o hb
  rcases hov b with e | ⟨_,_,ty,L1,L2,e1,e2⟩
  ·exact ⟨o',by rw [e]; exact ho'⟩
  ·exact ⟨_,e2⟩
theorem yA{m:BM}{h:HG}{w:World}{hp:Hp}(s:cg m (aM hp h) w)(hk:hp.ok){b:Nat}{t1:TypeId}{L:List Value}(h1:hp.get b=some (.cells t1 L false))(i1:L.all inert=true)
  {r δ E:Nat} (hm:m b=some (r,δ,E)):cg (canM m [b]) (heapOf [.cells t1 L false,.dead] aE).get w:=by
 have g1:=bq hk h b _ h1
 obtain ⟨o',ho',hbr⟩:=s.dom b _ hm;rw [g1] at ho'; cases ho';obtain ⟨c,fr,q1,q2,q3,q4,qf5⟩:=hbr;have e0:(heapOf [.cells t1 L false,.dead] aE).get 0=some (.cells t1 L false):=by rw [ak]; rfl
 have cM:∀ i x,canM m [b] i=some x→(i=0∧m b=some x):=by
  intro i x hx;unfold canM at hx;match i with
  | 0=>exact ⟨rfl,hx⟩
  | i+1=>simp at hx
 refine ⟨fun i x hx=>?_,fun i i' x x' hx hx' hr hl hxx=>?_⟩
 ·obtain ⟨rfl,hy⟩:=cM i x hx
  rw [hm] at hy; cases hy;exact ⟨_,e0,c,fr,q1,q2,q3,fun i v v' p1 p2=>gB (List.all_eq_true.1 i1 v (List.mem_of_getElem? p1)) (q4 i v v' p1 p2),qf5⟩
 ·obtain ⟨rfl,_⟩:=cM i x hx
  obtain ⟨rfl,_⟩:=cM i' x' hx';rfl
noncomputable def Dk:Code:=(Tryz.f141.body).getD .skip
theorem KS:Tryz.f141.body=some Dk:=by kernel_rfl
theorem Xu:codeSafe Tryz.prog 33 Dk=true:=by kernel_rfl
theorem ntmps69:Tryz.f141.ntmps=33:=by kernel_rfl
theorem Xq(v:Value)(O:List af)(g:Nat→Value):retVal Tryz.prog Tryz.f141 (av 33 g [(6,v)] O)=some v:=by kernel_rfl
section
variable (L L1 L2:List Value) (n c i:Nat)
def Tb:St:=⟨tmsOf [bx 0 0 n c,iN i,iN (i+1)] 0 .leaf,heapOf [.cells 78 L false,.dead] aE,[]⟩
def hD(L:List Value):Hp:=heapOf [.cells 78 L false,.dead] aE
theorem VY(n1 c1 c2 c3 c4:Nat)(v13:Value):(execE Tryz.prog c0 [(13,v13),(16,.bool false),(22,bx 0 0 i c1),(25,bx 0 ((i+1)*7) (n-(i+1)) c2),(31,bx 0 (n1*7) 1 c3)] []
  [(26,bx 0 0 n1 c4,[.put 0 (.cells 78 L1 false)]),(2031,.tuple #[],[.put 0 (.cells 78 L2 false)])] 60 Dk (Tb L n c i)).map (fun y=>(look2 1 [0] [6] (y.1,y.2.1),y.2.2)) =
 some ((.ret,[.cells 78 L2 false],[(6,bx 0 0 n1 c4)],true),
  [(fstV ((aSlice Tryz.prog 24 (bx 0 0 n c) (some (iN i)) (some (iN (i+1))) (some (iN n))).map fun v=>(v,none)),v13),(some (.bool (Int.ofNat i==Int.ofNat (i+1))),.bool false),
   (fstV ((aSlice Tryz.prog 24 (bx 0 0 n c) none (some (iN i)) none).map fun v=>(v,none)),bx 0 0 i c1),(fstV ((aSlice Tryz.prog 24 (bx 0 0 n c) (some (iN (i+1))) none none).map fun v=>(v,none)),bx 0 ((i+1)*7) (n-(i+1)) c2),
   (fstV ((aSlice Tryz.prog 24 (bx 0 0 n1 c4) (some (iN n1)) (some (iN n)) none).map fun v=>(v,none)),bx 0 (n1*7) 1 c3)],[],
  [(aAppend Tryz.prog (hD L).get 2 [24,24] [bx 0 0 i c1,bx 0 ((i+1)*7) (n-(i+1)) c2],(bx 0 0 n1 c4,[.put 0 (.cells 78 L1 false)])),
   (aClear Tryz.prog ((hD L).put 0 (.cells 78 L1 false)).get [24] [bx 0 (n1*7) 1 c3],(.tuple #[],[.put 0 (.cells 78 L2 false)]))]):=by kernel_rfl
theorem VZ(c1 c2 c3:Nat)(v13:Value):(execE Tryz.prog c0 [(13,v13),(16,.bool false),(22,bx 0 0 i c1),(25,bx 0 ((i+1)*7) (n-(i+1)) c2),(31,bx 0 (i*7) 1 c3)] []
  [(26,bx 0 0 i c1,[]),(2031,.tuple #[],[.put 0 (.cells 78 L2 false)])] 60 Dk (Tb L n c i)).map (fun y=>(look2 1 [0] [6] (y.1,y.2.1),y.2.2)) =
 some ((.ret,[.cells 78 L2 false],[(6,bx 0 0 i c1)],true),
  [(fstV ((aSlice Tryz.prog 24 (bx 0 0 n c) (some (iN i)) (some (iN (i+1))) (some (iN n))).map fun v=>(v,none)),v13),(some (.bool (Int.ofNat i==Int.ofNat (i+1))),.bool false),
   (fstV ((aSlice Tryz.prog 24 (bx 0 0 n c) none (some (iN i)) none).map fun v=>(v,none)),bx 0 0 i c1),(fstV ((aSlice Tryz.prog 24 (bx 0 0 n c) (some (iN (i+1))) none none).map fun v=>(v,none)),bx 0 ((i+1)*7) (n-(i+1)) c2),
   (fstV ((aSlice Tryz.prog 24 (bx 0 0 i c1) (some (iN i)) (some (iN n)) none).map fun v=>(v,none)),bx 0 (i*7) 1 c3)],[],
  [(aAppend Tryz.prog (hD L).get 2 [24,24] [bx 0 0 i c1,bx 0 ((i+1)*7) (n-(i+1)) c2],(bx 0 0 i c1,[])),
   (aClear Tryz.prog (hD L).get [24] [bx 0 (i*7) 1 c3],(.tuple #[],[.put 0 (.cells 78 L2 false)]))]):=by kernel_rfl
end
def l0(x:Nat):Nat:=3*(7+1000000*x)
theorem mN(x:Nat):l0 x % 3=0:=by unfold l0; omega
theorem tF(x:Nat):l0 x / 3 / 1000000=x:=by unfold l0; omega
theorem Jb(x:Nat):l0 x / 3 % 1000000=7:=by unfold l0; omega
theorem og(x:Nat):spareOf (l0 x)=x:=by
 unfold spareOf;rw [mN];exact tF x
theorem CU(x n h:Nat):cc (l0 x) n h=l0 (n+x-h):=by
 unfold cc;have h0:eJ (l0 x)=0:=mN x
 rw [h0,if_neg (by simp),if_pos rfl,og]
 unfold wide;rw [Jb];rfl
theorem Fm{b n c i:Nat}(hi:i<n):∃ v,fstV ((aSlice Tryz.prog 24 (bx b 0 n c) (some (iN i)) (some (iN (i+1))) (some (iN n))).map fun v=>(v,none))=some v:=by
 have h1:(0:Int)≤Int.ofNat n∧Int.ofNat n≤(n:Int):=⟨Int.natCast_nonneg n,by simp⟩
 have h2:(0:Int)≤Int.ofNat (i+1)∧Int.ofNat (i+1)≤(n:Int):=⟨Int.natCast_nonneg _,by simp only [Int.ofNat_eq_natCast]; omega⟩
 have h3:(0:Int)≤Int.ofNat i∧Int.ofNat i≤((i+1:Nat):Int):=⟨Int.natCast_nonneg _,by simp only [Int.ofNat_eq_natCast]; omega⟩
 simp only [aSlice,bx,iN,Tryz.underlying24,kD,bound];rw [if_pos h1];simp only [Int.ofNat_eq_natCast,Int.toNat_natCast] at *;rw [if_pos h2];simp only [Int.toNat_natCast];rw [if_pos h3];exact ⟨_,rfl⟩
theorem qT{b n c l:Nat}(hl:l=n+1)(h:1≤spareOf c):fstV ((aSlice Tryz.prog 24 (bx b 0 n c) (some (iN n)) (some (iN l)) none).map fun v=>(v,none))=some (bx b (n*7) 1 (cc c n l)):=by
 subst hl;have h1:(0:Int)≤Int.ofNat (n+1)∧Int.ofNat (n+1)≤((n+spareOf c:Nat):Int):=⟨Int.natCast_nonneg _,by simp only [Int.ofNat_eq_natCast]; omega⟩
 have h2:(0:Int)≤Int.ofNat n∧Int.ofNat n≤((n+1:Nat):Int):=⟨Int.natCast_nonneg _,by simp only [Int.ofNat_eq_natCast]; omega⟩
 simp only [aSlice,bx,iN,Tryz.underlying24,kD,bound];rw [if_pos h1];simp only [Int.ofNat_eq_natCast,Int.toNat_natCast] at *;rw [if_pos h2];simp [fstV,cc]
theorem Hg{get:Nat→Option af}{L A B C D:List Value}{n i k y c2:Nat}(h0:get 0=some (.cells 78 L false))(e1:L=A++B++C)(e2:eA L ((i+1)*7) (k*7)=some D)(hA:A.length=i*7)(hB:B.length=k*7)(hD:D.length=k*7)(oD:D.all isOne=true)(hk:0<k)(hy:k≤y)(hn:i+k<1000000) :
  aAppend Tryz.prog get 2 [24,24] [bx 0 0 i (l0 y),bx 0 ((i+1)*7) k c2]=some (bx 0 0 (i+k) (l0 (y-k)),[.put 0 (.cells 78 (A++D++C) false)]):=by
 obtain ⟨ii,hi,h7,pg⟩:=l7;obtain ⟨z,hz,hzl⟩:=ot;have hsrc:aSrc Tryz.prog get 7 z (.slice 78) (bx 0 ((i+1)*7) k c2)=some (D,k):=by
  unfold aSrc;simp only [bx,srcLen,srcCells,h0];rw [if_neg (by omega),if_neg (by omega),e2]
  rfl
 have hold:eA L 0 (i*7)=some A:=by
  rw [e1];have:=vH (A:=[]) (B:=A) (C:=B++C) rfl hA
  simpa using this
 have hlen:L.length=i*7+k*7+C.length:=by rw [e1]; simp [hA,hB]; omega
 unfold aAppend;simp only [Tryz.underlying24,hi,hz,h7,pg,hzl];rw [if_neg (by decide)]
 simp only [hsrc,oD,hD];rw [if_neg (by simp)]
 simp only [bx];rw [if_neg (by omega),if_neg (by omega)]
 simp only [h0,hold];rw [if_neg (by rw [tF]; omega),if_neg (by have:=mN y; omega),if_pos ⟨mN y,trivial,by rw [hlen]; omega⟩]
 rw [tF,Jb,e1,Nat.zero_add,qI hA (by omega)]
 rfl
noncomputable def z7:List Value:=(tzero Tryz.prog 78).getD []
theorem IT:tzero Tryz.prog 78=some z7:=by kernel_rfl
theorem F4:z7.length=7:=by kernel_rfl
theorem xl:z7.all inert=true:=by kernel_rfl
theorem sf{get:Nat→Option af}{A C:List Value}{k c3:Nat}(h0:get 0=some (.cells 78 (A++C) false))(hA:A.length=k*7)(hC:C.length=7) :
  aClear Tryz.prog get [24] [bx 0 (k*7) 1 c3]=some (.tuple #[],[.put 0 (.cells 78 (A++z7) false)]):=by
 unfold aClear;simp only [bx,Tryz.underlying24];rw [if_neg (by omega)]
 simp only [IT,h0];have er:repL z7 1=z7:=by show z7 ++ []=z7; rw [List.append_nil]
 rw [er,if_pos (by simp [F4,hA,hC])]
 have:=qI (A:=A) (B:=C) (C:=[]) (D:=z7) hA (by rw [F4,hC])
 rw [List.append_nil,List.append_nil] at this;rw [this]
def OC(R:List Value)(n:Nat)(e:Exit)(st:St):Prop:=(e = .normal∨e = .ret)∧st.df = []∧∃ c v0,v0=bx 0 0 (n-1) c∧retVal Tryz.prog Tryz.f141 st=some v0∧st.hp.get 0=some (.cells 78 R false)
theorem L3{L:List Value}{n i x:Nat}{W:bh}(hL:L.length=n*7)(iL:L.all inert=true)(oL:L.all isOne=true)(hn:n<1000000)(hi:i<n) :
  ah Tryz.prog 33 W Dk (Tb L n (l0 x) i) (OC (L.take (i*7)++L.drop ((i+1)*7)++z7) n):=by
 have iR:(L.take (i*7)++L.drop ((i+1)*7)++z7).all inert=true:=by rw [List.all_append,List.all_append,kc iL,fO iL,xl]; rfl
 have g0:(hD L).get 0=some (.cells 78 L false):=by unfold hD; rw [ak]; rfl
 obtain ⟨v13,h13⟩:=Fm (b:=0) (c:=l0 x) hi;have ht:=nC hL (Nat.le_of_lt hi)
 have Bz:=mR (i:=i+1) hL hi
 have hne:some (Value.bool (Int.ofNat i==Int.ofNat (i+1)))=some (.bool false):=xP (by omega)
 have hS1:fstV ((aSlice Tryz.prog 24 (bx 0 0 n (l0 x)) none (some (iN i)) none).map fun v=>(v,none))=some (bx 0 0 i (l0 (n+x-i))):=by
  rw [qU (by omega),CU]
 have HD:fstV ((aSlice Tryz.prog 24 (bx 0 0 n (l0 x)) (some (iN (i+1))) none none).map fun v=>(v,none))=some (bx 0 ((i+1)*7) (n-(i+1)) (l0 (n+x-n))):=by
  rw [eu (by omega),CU]
 by_cases hend:i+1=n
 ·have By:=qT (b:=0) (n:=i) (c:=l0 (n+x-i)) (l:=n) hend.symm (by rw [og]; omega)
  refine ah.aL jU follows 1 _ _ _ _ (VZ L (L.take (i*7)++L.drop ((i+1)*7)++z7) n (l0 x) i _ _ _ v13) (Met.cons h13 (Met.cons hne (Met.cons hS1 (Met.cons HD (Met.cons By Met.nil))))) ay.nil (az.cons ?_ (az.cons ?_ az.nil)) Xu rfl rfl (Dx iR) fun g=>⟨.inr rfl,rfl,_,_,(by rw [← hend]; rfl),Xq _ _ g,(by show (heapOf _ aE).get 0=_; rw [ak]; rfl)⟩
  ·obtain ⟨ii,hi',h7,pg⟩:=l7
   obtain ⟨z,hz,hzl⟩:=ot;have hsrc:aSrc Tryz.prog (hD L).get 7 z (.slice 78) (bx 0 ((i+1)*7) (n-(i+1)) (l0 (n+x-n)))=some ([],0):=by
     unfold aSrc;simp only [bx,srcLen,srcCells];rw [show n-(i+1)=0 by omega,if_pos rfl]
     rfl
   unfold aAppend;simp only [Tryz.underlying24,hi',hz,h7,pg,hzl];rw [if_neg (by decide)]
   simp only [hsrc];rw [if_neg (by simp)]
   simp only [bx];exact if_pos trivial
  ·have hC:(L.drop (i*7)).length=7:=by rw [List.length_drop]; omega
   have:=sf (get:=(hD L).get) (A:=L.take (i*7)) (C:=L.drop (i*7)) (k:=i) (c3:=cc (l0 (n+x-i)) i n) (by rw [g0,List.take_append_drop]) ht hC
   rw [this,List.drop_of_length_le (i:=(i+1)*7) (by omega),List.append_nil]
 ·obtain ⟨k,hk⟩:∃ k,n=i+1+k:=⟨n-(i+1),by omega⟩
  have S3:0<k:=by omega
  have ek:n-(i+1)=k:=by omega
  have en:n-1=i+k:=by omega
  have eL:L=L.take (i*7)++(L.drop (i*7)).take (k*7)++L.drop (i*7+k*7):=by
    rw [List.append_assoc,← List.drop_drop,List.take_append_drop,List.take_append_drop]
  have hB:((L.drop (i*7)).take (k*7)).length=k*7:=by rw [List.length_take,List.length_drop]; omega
  have hC:(L.drop (i*7+k*7)).length=7:=by rw [List.length_drop]; omega
  have hDl:(L.drop ((i+1)*7)).length=k*7:=by rw [Bz,ek]
  have hg2:eA L ((i+1)*7) (k*7)=some (L.drop ((i+1)*7)):=by
    unfold eA;rw [List.take_of_length_le (by omega),if_pos hDl]
  have happ:=Hg (get:=(hD L).get) (n:=n) (y:=n+x-i) (c2:=l0 (n+x-n)) g0 eL hg2 ht hB hDl (fO oL _) S3 (by omega) (by omega)
  have By:=qT (b:=0) (n:=i+k) (c:=l0 (n+x-i-k)) (l:=n) (by omega) (by rw [og]; omega)
  have hS2':=HD
  rw [ek] at hS2';have hr:=VY L (L.take (i*7)++L.drop ((i+1)*7)++L.drop (i*7+k*7)) (L.take (i*7)++L.drop ((i+1)*7)++z7) n (l0 x) i (i+k) (l0 (n+x-i)) (l0 (n+x-n)) (cc (l0 (n+x-i-k)) (i+k) n) (l0 (n+x-i-k)) v13
  rw [ek] at hr;refine ah.aL jU follows 1 _ _ _ _ hr (Met.cons h13 (Met.cons hne (Met.cons hS1 (Met.cons hS2' (Met.cons By Met.nil))))) ay.nil (az.cons happ (az.cons ?_ az.nil)) Xu rfl rfl (Dx iR) fun g=>⟨.inr rfl,rfl,_,_,(by rw [en]),Xq _ _ g,(by show (heapOf _ aE).get 0=_; rw [ak]; rfl)⟩
  exact sf (A:=L.take (i*7)++L.drop ((i+1)*7)) (C:=L.drop (i*7+k*7)) (k:=i+k) (by rw [Hp.dy,if_pos rfl]) (by rw [List.length_append,ht,hDl]; omega) hC
noncomputable def gDelF:aC:=fun args hp=>match args with
 | [.slice (some ⟨b,0,none⟩) n c,.int .i64 (.ofNat i),.int .i64 (.ofNat j)]=>match hp.get b with
   | some (.cells ty L false)=>match Nat.beq c 22&&Nat.beq ty 78&&Nat.beq L.length (n*7)&&Nat.beq j (i+1)&&Nat.blt i n&&Nat.blt n 1000000&&L.all inert&&L.all isOne with
     | true=>some (bx hp.sz 0 (n-1) 23,heapOf ([.cells 78 (L.take (i*7)++L.drop ((i+1)*7)++z7) false] ++ [.dead]) (killL [b] hp))
     | false=>none
   | _=>none
 | _=>none
def AS:aC:=fun args hp=>match args with
 | [.slice (some ⟨b,0,none⟩) n c,.int .i64 (.ofNat i),.int .i64 (.ofNat j)]=>match hp.get b with
   | some (.cells ty L false)=>match Nat.beq c 22&&Nat.beq ty 78&&Nat.beq L.length (n*7)&&Nat.beq j (i+1)&&Nat.blt i n&&Nat.blt n 1000000&&L.all inert&&L.all isOne with
     | true=>some (bx hp.sz 0 (n-1) 23,heapOf ([.cells 78 (L.take (i*7)++L.drop ((i+1)*7)) false] ++ [.dead]) (killL [b] hp))
     | false=>none
   | _=>none
 | _=>none
theorem PE:aq Tryz.prog 141 gDelF:=nV follows Tryz.func141 KS (by kernel_rfl) fun args hp v hp' he hk=>by
 unfold gDelF at he;split at he
 case h_2=>cases he
 rename_i b n c i j;split at he
 case h_2=>cases he
 rename_i ty L hb;split at he
 case h_2=>cases he
 rename_i hcond;cases he;simp only [Bool.and_eq_true] at hcond;obtain ⟨⟨⟨⟨⟨⟨⟨k0,k1⟩,k2⟩,k3⟩,k4⟩,k5⟩,iL⟩,oL⟩:=hcond;have hc':=Nat.eq_of_beq_eq_true k0
 have hty:=Nat.eq_of_beq_eq_true k1
 have hL:=Nat.eq_of_beq_eq_true k2
 have hj:=Nat.eq_of_beq_eq_true k3
 have hin:i<n:=by simpa [Nat.blt_eq] using k4
 have hn:n<1000000:=by simpa [Nat.blt_eq] using k5
 subst hc' hty hj;refine ⟨[b],[.cells 78 (L.take (i*7)++L.drop ((i+1)*7)++z7) false],rfl,fun b' hb'=>?_,fun m h w args' s ra=>?_⟩
 ·have:b'=b:=by simpa using hb'
  subst this;exact ⟨_,hb,rfl⟩
 obtain ⟨v1,bs1,e1,r1,ra1⟩:=ra.of_cons;obtain ⟨v2,bs2,e2,r2,ra2⟩:=ra1.of_cons;obtain ⟨v3,bs3,e3,r3,ra3⟩:=ra2.of_cons;have e4:=ra3.of_nil
 subst e4;obtain ⟨_,_,rr,oo,cap,q1,rfl,hcap,hh⟩:=r1.dM;cases q1;have ev2:=r2.of_int
 subst ev2;have ev3:=r3.of_int
 subst ev3;have ea:args'.toList = [.slice (some ⟨rr,oo,none⟩) n cap,.int .i64 (.ofNat i),.int .i64 (.ofNat (i+1))]:=by rw [e1,e2,e3]
 have gb:=bq hk h b _ hb
 rcases hh with hd | ⟨δ,E,hm,hoff,hcok⟩
 ·rw [gb] at hd; cases hd
 refine ⟨fun b' hb'=>?_,?_⟩
 ·have:b'=b:=by simpa using hb'
  subst this;exact ⟨_,hm⟩
 have hle:=hcap.1
 have iR:(L.take (i*7)++L.drop ((i+1)*7)++z7).all inert=true:=by rw [List.all_append,List.all_append,kc iL,fO iL,xl]; rfl
 have hcx:cap=n+l0 (cap-n) / 3 / 1000000:=by rw [tF]; omega
 refine ⟨[0],[bx 0 0 n (l0 (cap-n)),iN i,iN (i+1)],heapOf [.cells 78 L false,.dead] aE,canM m [b],rfl,rfl,bF _ _ iO,yA s hk hb iL hm,fun b' x hx _=>?_,?_,by rw [ntmps69]; simp,fun W=>?_⟩
 ·unfold canM at hx
  match b' with
  | 0=>exact ⟨b,by simp,x,hx,rfl⟩
  | b'+1=>simp at hx
 ·rw [ea]
  refine .cons (.slice ⟨hle,fun _=>hcx⟩ (.inr ⟨δ,E,hm,hoff,fun _=>hcx,fun h=>?_⟩)) (.cons (.flat rfl) (.cons (.flat rfl) .nil))
  rw [mN] at h; cases h
 ·rw [ntmps69]
  refine ah.mono (L3 hL iL oL hn hin) fun e st q=>?_
  obtain ⟨p1,p2,c1,v0,rfl,p3,p4⟩:=q;refine ⟨p1,p2,_,p3,rfl,fun b' hb'=>?_,fun m h x hx=>?_,?_⟩
  ·have:b'=0:=by simpa using hb'
   subst this;exact ⟨_,p4,eY iR,rfl⟩
  ·have:sh3 [0] hp.sz (bx 0 0 (n-1) c1)=bx hp.sz 0 (n-1) c1:=by simp [sh3,sh2,sh1,jj,idxOf,bx]
   rw [this] at hx;exact wT hx
  ·have hI:aA (.cells 78 (L.take (i*7)++L.drop ((i+1)*7)++z7) false)=true:=iR
   simp only [cH,List.map_cons,List.map_nil,p4,Option.getD_some,cG hI]
theorem T5:aq Tryz.prog 141 AS:=Da PE fun args hp v hp2 he hk=>by
 unfold AS at he;split at he
 case h_2=>cases he
 rename_i b n c i j;split at he
 case h_2=>cases he
 rename_i ty L hb;split at he
 case h_2=>cases he
 rename_i hcond;cases he;have hkk:(killL [b] hp).ok:=vV hk fun b' hb'=>by
  have:b'=b:=by simpa using hb'
  subst this;exact cV hk hb
 refine ⟨heapOf ([.cells 78 (L.take (i*7)++L.drop ((i+1)*7)++z7) false] ++ [.dead]) (killL [b] hp),?_,bF _ _ hkk,rfl,fun b'=>?_⟩
 ·unfold gDelF
  simp only [hb,hcond]
 ·by_cases h1:b'=hp.sz
  ·subst h1
   refine .inr ⟨Nat.le_refl _,by rw [cr,cZ]; simp,78,L.take (i*7)++L.drop ((i+1)*7),z7,?_,?_⟩
   ·rw [heapOf_get,cZ,if_neg (by omega),Nat.sub_self]; rfl
   ·rw [heapOf_get,cZ,if_neg (by omega),Nat.sub_self]; rfl
  ·refine .inl ?_
   rw [heapOf_get,heapOf_get,cZ];by_cases h2:b'<hp.sz
   ·rw [if_pos h2,if_pos h2]
   ·rw [if_neg h2,if_neg h2]
    obtain ⟨d,hd⟩:∃ d,b'-hp.sz=d+1:=⟨b'-hp.sz-1,by omega⟩
    rw [hd];rfl
noncomputable def Gj(vs:List aa):Ext:=fh (cS Tryz.prog []) [(58,g18 vs),(79,vD vs),(139,g62 vs),(141,AS)]
theorem JW(vs:List aa)(hn:vs.length<1000000)(hs:mA vs):ExtOk Tryz.prog (Gj vs):=bC (aT .nil) (.cons (HJ vs hn) (.cons (HK vs hn) (.cons (PD vs hn hs) (.cons T5 .nil))))
noncomputable def y9(vs:List aa):aG:=aCall Tryz.prog (Gj vs) 5
noncomputable def Gk(vs:List aa):Ext:=fh (cS Tryz.prog []) [(58,g18 vs)]
theorem Gl(vs:List aa)(hn:vs.length<1000000):ExtOk Tryz.prog (Gk vs):=bC (aT .nil) (.cons (HJ vs hn) .nil)
noncomputable def Lx(vs:List aa):aG:=aCall Tryz.prog (Gk vs) 5
noncomputable def Pe:aG:=aCall Tryz.prog (cS Tryz.prog []) 60
theorem GV:ba Tryz.prog Pe:=aQ (aT .nil) follows 60
noncomputable def tO:Code:=(Tryz.f89.body).getD .skip
theorem KN:Tryz.f89.body=some tO:=by kernel_rfl
theorem ntmps41:Tryz.f89.ntmps=28:=by kernel_rfl
theorem S9:codeSafe Tryz.prog 28 tO=true:=by kernel_rfl
theorem Xn(v u:Value)(O:List af)(g:Nat→Value):retVal Tryz.prog Tryz.f89 (av 28 g [(4,v),(5,u)] O)=some (.tuple #[v,u]):=by kernel_rfl
def Jl(o:af):Hp:=heapOf [o,.dead] aE
def Bz(o:af):Hp:=heapOf [.dead] (Jl o)
def Mi(o:af):Hp:=heapOf [.dead] (Bz o)
def Jm(vs:List aa)(o:af):Hp:=heapOf [ab vs,.dead] (Mi o)
section
variable (vs us:List aa) (o:af) (n n1 c p:Nat) (id:Int)
abbrev SF:St:=⟨tmsOf [ae 0 n c,.int .i64 id] 0 .leaf,heapOf [o,.dead] aE,[]⟩
theorem VI:(execE Tryz.prog (Lx vs) [] [(10,iN 1,[.dead])] [] 40 tO (SF o n c id)).map (fun z=>(look2 0 [] [4,5] (z.1,z.2.1),z.2.2)) =
 some ((.ret,[],[(4,au),(5,iN 1)],true),[],[(Lx vs 58 [ae 0 n c] (Jl o),(iN 1,Bz o))],[]):=by kernel_rfl
theorem VJ:(execE Tryz.prog (y9 vs) [] [(10,iN 0,[.dead]),(17,.tuple #[iN p,.bool false],[.dead])] [] 40 tO (SF o n c id)).map (fun z=>(look2 0 [] [4,5] (z.1,z.2.1),z.2.2)) =
 some ((.ret,[],[(4,au),(5,iN 7)],true),[],[(y9 vs 58 [ae 0 n c] (Jl o),(iN 0,Bz o)),(y9 vs 139 [ae 0 n c,.int .i64 id] (Bz o),(.tuple #[iN p,.bool false],Mi o))],[]):=by kernel_rfl
theorem VK:(execE Tryz.prog (y9 vs) [(26,iN (p+1))] [(10,iN 0,[.dead]),(17,.tuple #[iN p,.bool true],[.dead]),(23,aW 4 n,[ab vs,.dead])] [(27,bx 6 0 n1 23,[.put 4 .dead,.push (ab us),.push .dead])] 40 tO (SF o n c id)).map (fun z=>(look2 1 [6] [4,5] (z.1,z.2.1),z.2.2)) =
 some ((.ret,[ab us],[(4,ae 0 n1 23),(5,iN 0)],true),[(some (.int .i64 (wrapF .i64 (Int.ofNat p+1))),iN (p+1))],
  [(y9 vs 58 [ae 0 n c] (Jl o),(iN 0,Bz o)),(y9 vs 139 [ae 0 n c,.int .i64 id] (Bz o),(.tuple #[iN p,.bool true],Mi o)),(y9 vs 79 [ae 0 n c] (Mi o),(aW 4 n,Jm vs o)),
   (y9 vs 141 [aW 4 n,iN p,iN (p+1)] (Jm vs o),(bx 6 0 n1 23,heapOf [ab us,.dead] (killL [4] (Jm vs o))))],[]):=by kernel_rfl
theorem VL:(execE Tryz.prog Pe [] [] [] 40 tO ⟨tmsOf [au,.int .i64 id] 0 .leaf,heapOf [.dead] aE,[]⟩).map (fun z=>(look2 0 [] [4,5] (z.1,z.2.1),z.2.2)) =
 some ((.ret,[],[(4,au),(5,iN 7)],true),[],[],[]):=by kernel_rfl
end
def dT(vs:List aa)(id:Int):List aa:=vs.eraseIdx (pos vs id)
theorem sg{vs:List aa}{id:Int}(h:fnd vs id=true):(dT vs id).length=vs.length-1:=by
 obtain ⟨x,hx,-⟩:=qj h;unfold dT;rw [List.length_eraseIdx,if_pos (List.getElem?_eq_some_iff.1 hx).1]
theorem DC{hp:Hp}{b n p:Nat}{vs:List aa}(hb:hp.get b=some (ab vs))(hn:n=vs.length)(hp':p<n)(hl:n<1000000) :
  AS [aW b n,iN p,iN (p+1)] hp=some (bx hp.sz 0 (n-1) 23,heapOf ([ab (vs.eraseIdx p)] ++ [.dead]) (killL [b] hp)):=by
 subst hn;unfold ab at hb;have hcond:(Nat.beq 22 22&&Nat.beq 78 78&&Nat.beq (aK vs).length (vs.length*7)&&Nat.beq (p+1) (p+1)&&Nat.blt p vs.length&&Nat.blt vs.length 1000000&&(aK vs).all inert&&(aK vs).all isOne)=true:=by
  rw [bT,dG,rC];simp only [Nat.beq_refl,Bool.true_and,Bool.and_true];rw [show Nat.blt p vs.length=true by simpa [Nat.blt_eq] using hp',show Nat.blt vs.length 1000000=true by simpa [Nat.blt_eq] using hl]
  rfl
 unfold AS aW iN;simp only [ae,hb,hcond];congr 3
 unfold ab;rw [sW (by omega),sV (by omega),← e7,List.eraseIdx_eq_take_drop_succ]
section
variable {vs:List aa} {s:Value} {hp:Hp}
theorem GU(h:TR vs s hp):Lx vs 58 [s] hp=some (l4 (aF vs),heapOf [.dead] hp):=by
 show aCall Tryz.prog (Gk vs) 5 58 _ _=_
 rw [aCall];have hE:Gk vs 58=some fun _ args h=>g18 vs args h:=rfl
 rw [hE];exact tR (.inr h)
theorem Lt(h:TR vs s hp):y9 vs 58 [s] hp=some (l4 (aF vs),heapOf [.dead] hp):=by
 show aCall Tryz.prog (Gj vs) 5 58 _ _=_
 rw [aCall];have hE:Gj vs 58=some fun _ args h=>g18 vs args h:=rfl
 rw [hE];exact tR (.inr h)
theorem Lu{b c:Nat}{o:af}(hb:hp.get b=some o)(hi:aA o=true)(hr:vs = []∨∃ ty ro,o = .cells ty (aK vs) ro):y9 vs 79 [ae b vs.length c] hp=some (aW hp.sz vs.length,heapOf [ab vs,.dead] hp):=by
 show aCall Tryz.prog (Gj vs) 5 79 _ _=_
 rw [aCall];have hE:Gj vs 79=some fun _ args h=>vD vs args h:=rfl
 rw [hE];exact pA hb hi hr
open Classical in
theorem Lv{id:Int}(h:TR vs s hp):y9 vs 139 [s,.int .i64 id] hp=some (.tuple #[iN (pos vs id),.bool (fnd vs id)],heapOf [.dead] hp):=by
 show aCall Tryz.prog (Gj vs) 5 139 _ _=_
 rw [aCall];have hE:Gj vs 139=some fun _ args h=>g62 vs args h:=rfl
 rw [hE];show (if TR vs s hp then _ else _)=_
 rw [if_pos h];rfl
theorem Lw(args:List Value):y9 vs 141 args hp=AS args hp:=by
 show aCall Tryz.prog (Gj vs) 5 141 _ _=_
 rw [aCall];rfl
end
def BJ(vs:List aa)(id:Int)(e:Exit)(st:St):Prop :=
 e = .ret∧((aF vs&&fnd vs id)=true∧(∃ g,st=av 28 g [(4,ae 0 (dT vs id).length 23),(5,iN 0)] [ab (dT vs id)])∨(aF vs&&fnd vs id)=false∧∃ g,st=av 28 g [(4,au),(5,iN (bif aF vs then 7 else 1))] [])
theorem Hi(o:af)(ho:aA o=true)(vs:List aa)(hn:vs.length<1000000)(hrow:vs = []∨∃ ty ro,o = .cells ty (aK vs) ro)(c:Nat)(id:Int)(W:bh) :
  ah Tryz.prog 28 W tO (SF o vs.length c id) (BJ vs id):=by
 have g0:(Jl o).get 0=some o:=by unfold Jl; rw [ak]; rfl
 have k0:(Jl o).ok:=bF _ _ iO
 have k1:(Bz o).ok:=bF _ _ k0
 have k2:(Mi o).ok:=bF _ _ k1
 have hT0:TR vs (ae 0 vs.length c) (Jl o):=⟨0,c,o,rfl,g0,ho,hrow⟩
 have hT1:TR vs (ae 0 vs.length c) (Bz o):=hT0.ext k0 _
 have hT2:(Mi o).get 0=some o:=zp k1 (zp k0 g0)
 cases hr:aF vs with
 | false =>
   have k:=GU hT0
   rw [hr] at k;exact ah.aL (aQ (Gl vs hn) follows 5) follows 0 _ _ _ _ (VI vs o vs.length c id) Met.nil (ay.cons k ay.nil) az.nil S9 rfl rfl (dg _) fun g=>⟨rfl,.inr ⟨by rw [hr]; rfl,g,by rw [hr]; rfl⟩⟩
 | true =>
   have hc:ba Tryz.prog (y9 vs):=aQ (JW vs hn (qO vs hr)) follows 5
   have a1:=Lt hT0
   rw [hr] at a1;have a2:=Lv (id:=id) hT1
   cases hf:fnd vs id with
   | false =>
     rw [hf] at a2;exact ah.aL hc follows 0 _ _ _ _ (VJ vs o vs.length c (pos vs id) id) Met.nil (ay.cons a1 (ay.cons a2 ay.nil)) az.nil S9 rfl rfl (dg _) fun g=>⟨rfl,.inr ⟨by rw [hr,hf]; rfl,g,by rw [hr]; rfl⟩⟩
   | true =>
     rw [hf] at a2;obtain ⟨x,hx,-⟩:=qj hf;have hlt:pos vs id<vs.length:=(List.getElem?_eq_some_iff.1 hx).1
     have a3:=Lu (vs:=vs) (c:=c) hT2 ho hrow
     have z2:(Mi o).sz=4:=rfl
     have z3:(Jm vs o).sz=6:=rfl
     have g4:(Jm vs o).get 4=some (ab vs):=by unfold Jm; rw [heapOf_get,z2,if_neg (by omega)]; rfl
     have a4:y9 vs 141 [aW 4 vs.length,iN (pos vs id),iN (pos vs id+1)] (Jm vs o)=some (bx 6 0 (vs.length-1) 23,heapOf [ab (dT vs id),.dead] (killL [4] (Jm vs o))):=by
       rw [Lw];exact DC g4 rfl hlt hn
     refine ah.aL hc follows 1 _ _ _ _ (VK vs (dT vs id) o vs.length (vs.length-1) c (pos vs id) id) (Met.cons (bz (by omega)) Met.nil) (ay.cons a1 (ay.cons a2 (ay.cons a3 (ay.cons a4 ay.nil)))) az.nil S9 rfl rfl (bp _ []) fun g=>⟨rfl,.inl ⟨by rw [hr,hf]; rfl,g,?_⟩⟩
     rw [sg hf]
theorem drop_nil(id:Int)(W:bh):ah Tryz.prog 28 W tO ⟨tmsOf [au,.int .i64 id] 0 .leaf,heapOf [.dead] aE,[]⟩ (BJ [] id) :=
 ah.aL GV follows 0 _ _ _ _ (VL id) Met.nil ay.nil az.nil S9 rfl rfl (dg _) fun g=>⟨rfl,.inr ⟨rfl,g,rfl⟩⟩
open Classical in
noncomputable def g41(vs:List aa):aC:=fun args hp=>match args with
 | [s,.int .i64 id]=>if TN vs s hp then (match aF vs&&fnd vs id with
   | true=>some (.tuple #[ae hp.sz (dT vs id).length 23,iN 0],heapOf ([ab (dT vs id)] ++ [.dead]) hp)
   | false=>some (.tuple #[au,iN (bif aF vs then 7 else 1)],heapOf ([] ++ [.dead]) hp)) else none
 | _=>none
theorem TZ(vs:List aa)(hn:vs.length<1000000):aq Tryz.prog 89 (g41 vs):=cW follows Tryz.func89 KN (by kernel_rfl) fun args hp v hp' h hk=>by
 unfold g41 at h;rw [ntmps41];split at h
 case h_2=>cases h
 rename_i s id;split at h
 case isFalse=>cases h
 rename_i hT;have okB:∀ {st:St} (us:List aa),st.hp.get 0=some (ab us)→∀ b∈[0],∃ o,st.hp.get b=some o∧cR o=true∧mq o=true:=fun us hg b' hb'=>by
  have:b'=0:=by simpa using hb'
  subst this;exact ⟨_,hg,eY (aw _),rfl⟩
 have run:∃ (K0:List Nat),nodupB K0=true∧(∀ b∈K0,∃ o,hp.get b=some o∧cj o=true)∧([s,.int .i64 id]).all hU=true∧∀ W,ah Tryz.prog 28 W tO ⟨tmsOf ([s,.int .i64 id].map (sh3 K0 0)) 0 .leaf,dE K0 hp,[]⟩ (BJ vs id):=by
  rcases hT with ⟨rfl,rfl⟩ | ⟨b,c,ob,rfl,hb,hi,hr⟩
  ·refine ⟨[],rfl,(fun b hb=>by cases hb),rfl,fun W=>?_⟩
   have e1 : [au,.int .i64 id].map (sh3 [] 0) = [au,.int .i64 id]:=by simp [sh3,sh2,sh1,au]
   rw [e1];exact drop_nil id W
  ·refine ⟨[b],rfl,fun b' hb'=>?_,rfl,fun W=>?_⟩
   ·have:b'=b:=by simpa using hb'
    subst this;exact ⟨ob,hb,aS hi⟩
   ·have e1 : [ae b vs.length c,.int .i64 id].map (sh3 [b] 0) = [ae 0 vs.length c,.int .i64 id]:=by simp [sh3,sh2,sh1,jj,idxOf,ae]
    rw [e1,fJ hb hi];exact Hi (roBlk ob) (bO hi) vs hn (ee hr) c id W
 obtain ⟨K0,n0,hst,hall,hrun⟩:=run;split at h
 ·rename_i hro
  cases h;refine ⟨K0,[0],[ab (dT vs id)],rfl,rfl,n0,rfl,hst,hall,(by simp),fun W=>ah.mono (hrun W) fun e st q=>?_⟩
  obtain ⟨rfl,⟨-,g,rfl⟩ | ⟨h2,-⟩⟩:=q
  ·have hg:=ur (N:=28) (us:=dT vs id) (v:=au) (t:=0) (L:=[(4,ae 0 (dT vs id).length 23),(5,iN 0)]) (g:=g)
   refine ⟨.inr rfl,rfl,_,Xn _ _ _ g,rfl,okB _ hg,?_,ug hg⟩
   simp [sh3,sh2,sh1,jj,idxOf,ae,iN]
  ·rw [h2] at hro; cases hro
 ·rename_i hro
  cases h;refine ⟨K0,[],[],rfl,rfl,n0,rfl,hst,hall,(by simp),fun W=>ah.mono (hrun W) fun e st q=>?_⟩
  obtain ⟨rfl,⟨h2,-⟩ | ⟨-,g,rfl⟩⟩:=q
  ·rw [h2] at hro; cases hro
  ·exact ⟨.inr rfl,rfl,_,Xn _ _ _ g,rfl,(fun b hb=>by cases hb),by simp [sh3,sh2,sh1,au,iN],rfl⟩
noncomputable def F5:aC:=atRow (fun _=>True) g41
theorem PM:aq Tryz.prog 89 F5:=fA fun vs hn _=>TZ vs hn
open Classical in
theorem xu{vs:List aa}{s:Value}{hp:Hp}{id:Int}(h:TN vs s hp)(hn:vs.length<1000000):F5 [s,.int .i64 id] hp=match aF vs&&fnd vs id with
  | true=>some (.tuple #[ae hp.sz (dT vs id).length 23,iN 0],heapOf [ab (dT vs id),.dead] hp)
  | false=>some (.tuple #[au,iN (bif aF vs then 7 else 1)],heapOf [.dead] hp):=by
 unfold F5;rw [iU h hn trivial];show (if TN vs s hp then _ else _)=_
 rw [if_pos h];cases (aF vs&&fnd vs id) <;> rfl
def S3(o:af)(y:aa):Hp:=heapOf [o,.dead,.cells 23 (Oa y) false] aE
section
variable (xs ds:List aa) (o:af) (s:Value) (n:Nat) (y:aa) (oth:Int)
noncomputable def tS(xs:List aa)(o:af)(y:aa):Hp:=heapOf (Xs xs) (S3 o y)
noncomputable def uL(ds xs:List aa)(o:af)(y:aa):Hp:=heapOf (Xs ds) (tS xs o y)
noncomputable def Xf(x:aa)(hp:Hp):Hp:=heapOf [.dead,hB x] hp
end
theorem Du{vs:List aa}{id:Int}{x:aa}(h:Up vs):aI vs id=some x↔x∈vs∧x.id=id:=by
 constructor
 ·intro hf
  exact ⟨List.mem_of_find?_eq_some hf,by have:=List.find?_some hf; simpa [rQ] using this⟩
 ·rintro ⟨hm,hid⟩
  obtain ⟨i,hi⟩:=List.mem_iff_getElem?.1 hm;refine tQ hi (by simp [rQ,hid]) fun j z hj hz=>?_
  have:=qP.2 h j i z x hj hz hi
  simp [rQ]; omega
section
variable {vs:List aa} {s:Value} {hp:Hp}
end
end Go.Proofs.YtgeoommlmddgpaaGreat.LtA
namespace Go.Proofs.YtgeoommlmddgpaaGreat.Sort
section
variable {α : Type} (lt : α→α→Bool)
def dA(S:List α)(x : α):List α:=(S.reverse.dropWhile (lt x)).reverse++x::(S.reverse.takeWhile (lt x)).reverse
def dB(L R:List α):List α:=R.foldl (dA lt) L
def aO(S:List α):List α:=dB lt [] S
def mB(S:List α):Prop:=S.Pairwise fun u v=>lt v u=false
structure Bw (K : α→Prop):Prop where
 asym:∀ x y,K x→K y→lt x y=true→lt y x=false
 ntr:∀ x y z,K x→K y→K z→lt x y=false→lt y z=false→lt x z=false
end
section
variable {α : Type} {lt : α→α→Bool} {K : α→Prop}
theorem Bw.trans(h:Bw lt K){x y z : α}(hx:K x)(hy:K y)(hz:K z)(h1:lt x y=true)(h2:lt y z=true):lt x z=true:=by
 cases e:lt x z with
 | true=>rfl
 | false=>rw [h.ntr x z y hx hz hy e (h.asym y z hy hz h2)] at h1; cases h1
theorem Bw.Un(h:Bw lt K){x : α}(hx:K x):lt x x=false:=by
 cases e:lt x x with
 | false=>rfl
 | true=>rw [h.asym x x hx hx e] at e; cases e
theorem gp{S P Q:List α}{x : α}(hS:S=P++Q)(hQ:∀ q∈Q,lt x q=true)(hP:∀ p,P.getLast? = some p→lt x p=false):dA lt S x=P++x::Q:=by
 subst hS;have h1:∀ a∈Q.reverse,lt x a=true:=fun a ha=>hQ a (List.mem_reverse.1 ha)
 have h2:P.reverse.takeWhile (lt x) = []∧P.reverse.dropWhile (lt x)=P.reverse:=by
  cases e:P.reverse with
  | nil=>exact ⟨rfl,rfl⟩
  | cons p R =>
    have:P.getLast? = some p:=by rw [← List.reverse_reverse P,List.getLast?_reverse,e]; rfl
    have:=hP p this
    exact ⟨by rw [List.takeWhile_cons,if_neg (by rw [this]; simp)],by rw [List.dropWhile_cons,if_neg (by rw [this]; simp)]⟩
 unfold dA;rw [List.reverse_append,List.takeWhile_append_of_pos h1,List.dropWhile_append_of_pos h1,h2.1,h2.2];simp
theorem zr(lt : α→α→Bool)(S:List α)(x : α):∃ P Q,S=P++Q∧(∀ q∈Q,lt x q=true)∧(∀ p,P.getLast? = some p→lt x p=false):=by
 refine ⟨(S.reverse.dropWhile (lt x)).reverse,(S.reverse.takeWhile (lt x)).reverse,?_,fun q hq=>?_,fun p hp=>?_⟩
 ·rw [← List.reverse_append,List.takeWhile_append_dropWhile,List.reverse_reverse]
 ·exact List.all_eq_true.1 (List.all_takeWhile (p:=lt x) (l:=S.reverse)) q (List.mem_reverse.1 hq)
 ·rw [List.getLast?_reverse] at hp
  have:=List.head?_dropWhile_not (lt x) S.reverse
  rw [hp] at this;simpa using this
theorem l8(lt : α→α→Bool)(S:List α)(x : α):∃ P Q,S=P++Q∧dA lt S x=P++x::Q∧(∀ q∈Q,lt x q=true)∧(∀ p,P.getLast? = some p→lt x p=false):=by
 obtain ⟨P,Q,h1,h2,h3⟩:=zr lt S x;exact ⟨P,Q,h1,gp h1 h2 h3,h2,h3⟩
theorem qy{S:List α}{x z : α}:z∈dA lt S x↔z=x∨z∈S:=by
 obtain ⟨P,Q,h1,h2,_⟩:=l8 lt S x;rw [h2,h1];simp only [List.mem_append,List.mem_cons];constructor
 ·rintro (h | h | h)
  ·exact .inr (.inl h)
  ·exact .inl h
  ·exact .inr (.inr h)
 ·rintro (h | h | h)
  ·exact .inr (.inl h)
  ·exact .inl h
  ·exact .inr (.inr h)
theorem D9{S:List α}{x : α}:(dA lt S x).length=S.length+1:=by
 obtain ⟨P,Q,h1,h2,_⟩:=l8 lt S x;rw [h2,h1]; simp; omega
theorem ua{R:List α}:∀ {L:List α} {z : α},z∈dB lt L R↔z∈L∨z∈R:=by
 induction R with
 | nil=>intro L z; simp [dB]
 | cons r R ih =>
   intro L z;have e:dB lt L (r::R)=dB lt (dA lt L r) R:=rfl
   rw [e,ih,qy,List.mem_cons];constructor
   ·rintro ((h | h) | h)
    ·exact .inr (.inl h)
    ·exact .inl h
    ·exact .inr (.inr h)
   ·rintro (h | h | h)
    ·exact .inl (.inr h)
    ·exact .inl (.inl h)
    ·exact .inr h
theorem zB{R:List α}:∀ {L:List α},(dB lt L R).length=L.length+R.length:=by
 induction R with
 | nil=>intro L; rfl
 | cons r R ih =>
   intro L;have e:dB lt L (r::R)=dB lt (dA lt L r) R:=rfl
   rw [e,ih,D9]; simp; omega
theorem nX{S:List α}{z : α}:z∈aO lt S↔z∈S:=by unfold aO; rw [ua]; simp
theorem bP{S:List α}:(aO lt S).length=S.length:=by unfold aO; rw [zB]; simp
theorem eM{L R1 R2:List α}:dB lt L (R1++R2)=dB lt (dB lt L R1) R2:=by unfold dB; rw [List.foldl_append]
theorem AX{M N:List α}{y : α}(h:∀ x∈N,lt y x=true):dA lt (M++N) y=dA lt M y++N:=by
 obtain ⟨P,Q,h1,h2,h3,h4⟩:=l8 lt M y;rw [h2];rw [gp (P:=P) (Q:=Q++N) (by rw [h1,List.append_assoc]) (fun q hq=>by
  rcases List.mem_append.1 hq with hq | hq
  ·exact h3 q hq
  ·exact h q hq) h4]
 simp
theorem xZ{M N:List α}{y : α}(h:∀ x∈M,lt y x=false):dA lt (M++N) y=M++dA lt N y:=by
 obtain ⟨P,Q,h1,h2,h3,h4⟩:=l8 lt N y;rw [h2];rw [gp (P:=M++P) (Q:=Q) (by rw [h1,List.append_assoc]) h3 (fun p hp=>by
  cases P with
  | nil=>rw [List.append_nil] at hp; exact h p (List.mem_of_getLast? hp)
  | cons a P =>
    rw [List.getLast?_append] at hp
    cases e:(a::P).getLast? with
    | none=>simp at e
    | some b =>
      rw [e] at hp;simp at hp;subst hp;exact h4 b e)]
 simp
theorem wo{N:List α}:∀ {R M:List α},(∀ y∈R,∀ x∈N,lt y x=true)→dB lt (M++N) R=dB lt M R++N
 | [],M,_=>rfl
 | r::R,M,h=>by
   have e:dB lt (M++N) (r::R)=dB lt (dA lt (M++N) r) R:=rfl
   rw [e,AX (h r (.head _)),wo fun y hy=>h y (.tail _ hy)]
   rfl
theorem nY{M:List α}:∀ {R N:List α},(∀ y∈R,∀ x∈M,lt y x=false)→dB lt (M++N) R=M++dB lt N R
 | [],N,_=>rfl
 | r::R,N,h=>by
   have e:dB lt (M++N) (r::R)=dB lt (dA lt (M++N) r) R:=rfl
   rw [e,xZ (h r (.head _)),nY fun y hy=>h y (.tail _ hy)]
   rfl
theorem su{L1 L2 R1 R2:List α}(h1:∀ y∈R1,∀ x∈L2,lt y x=true)(h2:∀ y∈R2,∀ x∈L1,lt y x=false)(h3:∀ y∈R2,∀ x∈R1,lt y x=false):dB lt (L1++L2) (R1++R2)=dB lt L1 R1++dB lt L2 R2:=by
 rw [eM,wo h1,nY fun y hy x hx=>by
  rcases ua.1 hx with hx | hx
  ·exact h2 y hy x hx
  ·exact h3 y hy x hx]
theorem gu{R:List α}(h:mB lt R):dB lt [] R=R:=by
 have key:∀ (R M:List α),mB lt (M++R)→dB lt M R=M++R:=by
  intro R;induction R with
  | nil=>intro M _; simp [dB]
  | cons r R ih =>
    intro M h;have e:dB lt M (r::R)=dB lt (dA lt M r) R:=rfl
    have hp:=List.pairwise_append.1 h
    rw [e,gp (P:=M) (Q:=[]) (by simp) (fun q hq=>by cases hq) (fun p hp'=>hp.2.2 p (List.mem_of_getLast? hp') r (.head _))]
    have h':mB lt (M ++ [r]++R):=by rw [List.append_assoc]; exact h
    rw [ih (M ++ [r]) h']; simp
 have:=key R [] (by simpa using h)
 simpa using this
theorem qV(sw:Bw lt K){S:List α}{x : α}(hS:mB lt S)(hK:∀ z∈S,K z)(hx:K x):mB lt (dA lt S x):=by
 obtain ⟨P,Q,h1,h2,h3,h4⟩:=l8 lt S x;subst h1;rw [h2];obtain ⟨a,b,c⟩:=List.pairwise_append.1 hS;have hPx:∀ p∈P,lt x p=false:=by
  intro p hp;cases hl:P.getLast? with
  | none=>rw [List.getLast?_eq_none_iff] at hl; subst hl; cases hp
  | some p0 =>
    have h0:=h4 p0 hl
    obtain ⟨P',rfl⟩:∃ P',P=P' ++ [p0]:=by
      have:=List.getLast?_eq_some_iff.1 hl
      exact this
    rcases List.mem_append.1 hp with hp | hp
    ·have hs:=(List.pairwise_append.1 a).2.2 p hp p0 (by simp)
     exact sw.ntr x p0 p hx (hK _ (by simp)) (hK _ (by simp [hp])) h0 hs
    ·have:p=p0:=by simpa using hp
     subst this; exact h0
 refine List.pairwise_append.2 ⟨a,List.pairwise_cons.2 ⟨fun q hq=>sw.asym x q hx (hK _ (by simp [hq])) (h3 q hq),b⟩,fun p hp q hq=>?_⟩
 rcases List.mem_cons.1 hq with rfl | hq
 ·exact hPx p hp
 ·exact c p hp q hq
theorem uF(sw:Bw lt K):∀ {R L:List α},mB lt L→(∀ z∈L,K z)→(∀ z∈R,K z)→mB lt (dB lt L R)
 | [],L,h,_,_=>h
 | r :: R,L,h,h1,h2=>uF sw (R:=R) (L:=dA lt L r) (qV sw h h1 (h2 r (.head _))) (fun z hz=>by
     rcases qy.1 hz with rfl | hz
     ·exact h2 _ (.head _)
     ·exact h1 z hz) (fun z hz=>h2 z (.tail _ hz))
theorem sK(sw:Bw lt K){S:List α}(h:∀ z∈S,K z):mB lt (aO lt S):=uF sw (by unfold mB; simp) (by simp) h
theorem DR(sw:Bw lt K){N:List α}{x q : α}(hN:mB lt N)(hK:∀ z∈N,K z)(hx:K x)(hq:K q)(h:lt x q=true):dA lt (dA lt N x) q=dA lt (dA lt N q) x:=by
 obtain ⟨P,Q,h1,h2,h3,h4⟩:=l8 lt N x;obtain ⟨Q1,Q2,k1,k3,k4⟩:=zr lt Q q;subst h1 k1;obtain ⟨a,b,c⟩:=List.pairwise_append.1 hN;have hPx:∀ p∈P,lt x p=false:=by
  have:=qV sw hN hK hx
  rw [h2] at this;intro p hp;exact (List.pairwise_append.1 this).2.2 p hp x (.head _)
 have hPq:∀ p∈P,lt q p=false:=by
  intro p hp;cases e:lt q p with
  | false=>rfl
  | true=>rw [← hPx p hp]; exact (sw.trans hx hq (hK p (by simp [hp])) h e).symm
 have e1:dA lt (P++(Q1++Q2)) q=P++Q1++q::Q2:=gp (by simp) k3 (fun p hp=>by
  cases Q1 with
  | nil=>rw [List.append_nil] at hp; exact hPq p (List.mem_of_getLast? hp)
  | cons z Q1 =>
    rw [List.getLast?_append] at hp
    cases e:(z::Q1).getLast? with
    | none=>simp at e
    | some z' =>
      rw [e] at hp;simp at hp;subst hp;exact k4 z' e)
 have e2:dA lt (P++x::(Q1++Q2)) q=P++x::Q1++q::Q2:=gp (by simp) k3 (fun p hp=>by
  rw [List.getLast?_append] at hp
  cases Q1 with
  | nil =>
    simp at hp;subst hp;exact sw.asym _ q hx hq h
  | cons z Q1 =>
    have e3:(x::z::Q1).getLast? = (z::Q1).getLast?:=by simp [List.getLast?_cons]
    rw [e3] at hp;cases e:(z::Q1).getLast? with
    | none=>simp at e
    | some z' =>
      rw [e] at hp;simp at hp;subst hp;exact k4 z' e)
 have e3:dA lt (P++Q1++q::Q2) x=P++x::(Q1++q::Q2):=gp (by simp) (fun z hz=>by
  rcases List.mem_append.1 hz with hz | hz
  ·exact h3 z (by simp [hz])
  ·rcases List.mem_cons.1 hz with rfl | hz
   ·exact h
   ·exact h3 z (by simp [hz])) h4
 rw [h2,e2,e1,e3];simp
theorem wm(sw:Bw lt K){x : α}(hx:K x):∀ {Q N:List α},mB lt N→(∀ z∈N,K z)→(∀ q∈Q,K q)→(∀ q∈Q,lt x q=true)→dB lt (dA lt N x) Q=dA lt (dB lt N Q) x
 | [],N,_,_,_,_=>rfl
 | q::Q,N,h,h1,h2,h3=>by
   have e:dB lt (dA lt N x) (q::Q)=dB lt (dA lt (dA lt N x) q) Q:=rfl
   have e2:dB lt N (q::Q)=dB lt (dA lt N q) Q:=rfl
   rw [e,e2,DR sw h h1 hx (h2 q (.head _)) (h3 q (.head _))];exact wm sw hx (qV sw h h1 (h2 q (.head _))) (fun z hz=>by
     rcases qy.1 hz with rfl | hz
     ·exact h2 _ (.head _)
     ·exact h1 z hz) (fun z hz=>h2 z (.tail _ hz)) (fun z hz=>h3 z (.tail _ hz))
theorem A1(sw:Bw lt K){M:List α}(hM:mB lt M)(hKM:∀ z∈M,K z){B:List α}(hB:∀ z∈B,K z):dB lt M (aO lt B)=dB lt M B:=by
 have key:∀ C:List α,(∀ z∈C,K z)→dB lt M (aO lt C.reverse)=dB lt M C.reverse:=by
  intro C;induction C with
  | nil=>intro _; rfl
  | cons x C ih =>
    intro h;have ih':=ih fun z hz=>h z (.tail _ hz)
    have e:aO lt (x::C).reverse=dA lt (aO lt C.reverse) x:=by
      rw [List.reverse_cons];unfold aO;rw [eM]; rfl
    obtain ⟨P,Q,h1,h2,h3,_⟩:=l8 lt (aO lt C.reverse) x;have hKs:∀ z∈aO lt C.reverse,K z:=fun z hz=>h z (.tail _ (List.mem_reverse.1 (nX.1 hz)))
    rw [e,h2,List.reverse_cons,eM,eM,← ih'];have e4:dB lt (dB lt M P) (x::Q)=dB lt (dA lt (dB lt M P) x) Q:=rfl
    have e5:dB lt (dB lt M (aO lt C.reverse)) [x]=dA lt (dB lt M (aO lt C.reverse)) x:=rfl
    have hKP:∀ z∈P,K z:=fun z hz=>hKs z (by rw [h1]; simp [hz])
    have hKQ:∀ z∈Q,K z:=fun z hz=>hKs z (by rw [h1]; simp [hz])
    rw [e4,e5,wm sw (h x (.head _)) (uF sw hM hKM hKP) (fun z hz=>by
      rcases ua.1 hz with hz | hz
      ·exact hKM z hz
      ·exact hKP z hz) hKQ h3,h1,eM]
 have:=key B.reverse fun z hz=>hB z (List.mem_reverse.1 hz)
 rwa [List.reverse_reverse] at this
theorem yg(sw:Bw lt K){A B:List α}(hA:∀ z∈A,K z)(hB:∀ z∈B,K z):dB lt (aO lt A) (aO lt B)=aO lt (A++B):=by
 rw [A1 sw (sK sw hA) (fun z hz=>hA z (nX.1 hz)) hB]
 unfold aO;rw [eM]
theorem yy{S:List α}{x : α}:aO lt (S ++ [x])=dA lt (aO lt S) x:=by unfold aO; rw [eM]; rfl
end
end Go.Proofs.YtgeoommlmddgpaaGreat.Sort
namespace Go.Proofs.YtgeoommlmddgpaaGreat.LtA
open Go Go.Proofs Go.Proofs.YtgeoommlmddgpaaGreat.AI Go.RowKit
def cL(us:List aa)(s:Value)(hp:Hp):Prop:=∃ b c,s=ae b us.length c∧hp.get b=some (ab us)
theorem cL.uniq{us vs:List aa}{s:Value}{hp:Hp}(h1:cL us s hp)(h2:cL vs s hp):us=vs:=by
 obtain ⟨b,c,rfl,hb⟩:=h1;obtain ⟨b',c',e,hb'⟩:=h2;simp only [ae,Value.slice.injEq,Option.some.injEq,Addr.mk.injEq,and_true] at e;obtain ⟨rfl,-,-⟩:=e;rw [hb] at hb';simp only [ab,Option.some.injEq,af.cells.injEq,true_and,and_true] at hb';exact rB hb'
open Classical in
noncomputable def atW(k:List aa→aC):aC:=fun args hp=>match args with
 | s::_=>if h:∃ us,cL us s hp∧us.length<1000000 then k h.choose args hp else none
 | _=>none
theorem fP{f:FuncId}{k:List aa→aC}(h:∀ us,us.length<1000000→aq Tryz.prog f (k us)):aq Tryz.prog f (atW k):=by
 intro args hp v hp' he hk;unfold atW at he;split at he
 case h_2=>cases he
 split at he
 ·rename_i hx
  exact h _ hx.choose_spec.2 _ _ _ _ he hk
 ·cases he
theorem lW{k:List aa→aC}{us:List aa}{s:Value}{r:List Value}{hp:Hp}(h:cL us s hp)(hn:us.length<1000000):atW k (s::r) hp=k us (s::r) hp:=by
 unfold atW;have hx:∃ us,cL us s hp∧us.length<1000000:=⟨us,h,hn⟩
 simp only;rw [dif_pos hx];rw [hx.choose_spec.1.uniq h]
def hW(us:List aa):Hp:=heapOf ([ab us] ++ [.dead]) aE
theorem dz(us:List aa):(hW us).get 0=some (ab us):=by unfold hW; rw [ak]; rfl
theorem fk(us:List aa):ez (hW us) 0 us:=.of (dz us)
def vU:Value:=.tuple #[]
noncomputable def yz(h:Hp)(i:Nat)(v:aa)(us':List aa):jn:=((aStore Tryz.prog h.get 78 (pb 0 (i*7)) (.agg ⟨vc v⟩)).map fun es=>(undef,es),(undef,[.put 0 (ab us')]))
theorem jL{h:Hp}{us:List aa}{i:Nat}{v:aa}(hg:h.get 0=some (ab us))(hi:i<us.length):(yz h i v (us.set i v)).1=some (yz h i v (us.set i v)).2:=by
 obtain ⟨x,hx⟩:∃ x,us[i]? = some x:=⟨_,List.getElem?_eq_getElem hi⟩
 have hcell:cellsL (.agg ⟨vc v⟩)=vc v:=rfl
 have hput:=pM (k:=0) (y:=v) (ns:=vc v) hx (by simp [vc]) (fun j hj=>by
  rw [if_pos ⟨Nat.zero_le _,by show j<0+7; omega⟩,Nat.sub_zero])
 rw [Nat.add_zero] at hput;unfold ab at hg;unfold yz pb;simp only [aStore,hg,kD,hcell];rw [if_pos]
 ·rw [hput]; rfl
 ·rw [Bool.and_eq_true,Bool.and_eq_true]
  refine ⟨⟨rfl,rfl⟩,decide_eq_true ?_⟩
  rw [bT]; omega
theorem nm{h:Hp}{us:List aa}:(h.put 0 (ab us)).get 0=some (ab us):=by rw [Hp.dy,if_pos rfl]
noncomputable def yW(a b:Nat):db:=(some (.int .i64 (wrapF .i64 (Int.ofNat a+Int.ofNat b))),iN (a+b))
theorem gL{a b:Nat}(h:a+b<3000000):(yW a b).1=some (yW a b).2:=xE h
noncomputable def rG(a b:Nat):db:=(some (.int .i64 (wrapF .i64 (Int.ofNat a-Int.ofNat b))),iN (a-b))
theorem dF{a b:Nat}(h:a<3000000)(hb:b≤a):(rG a b).1=some (rG a b).2:=by
 have e:Int.ofNat a-Int.ofNat b=Int.ofNat (a-b):=by simp only [Int.ofNat_eq_natCast]; omega
 show some (Value.int .i64 (wrapF .i64 (Int.ofNat a-Int.ofNat b)))=_
 rw [e,nU (by omega)]; rfl
noncomputable def iD(a b:Nat)(r:Bool):db:=(some (.bool (decide (Int.ofNat a<Int.ofNat b))),.bool r)
theorem bu{a b:Nat}{r:Bool}(h:decide (a<b)=r):(iD a b r).1=some (iD a b r).2:=by
 show some (Value.bool (decide (Int.ofNat a<Int.ofNat b)))=some (.bool r)
 rw [← h,show decide (Int.ofNat a<Int.ofNat b)=decide (a<b) from decide_eq_decide.2 (by simp only [Int.ofNat_eq_natCast]; omega)]
theorem eU{h:Hp}{us:List aa}{i:Nat}{x:aa}(hat:ez h 0 us)(hx:us[i]? = some x):(j4 h.get 78 0 (i*7) (.agg ⟨vc x⟩)).1=some (j4 h.get 78 0 (i*7) (.agg ⟨vc x⟩)).2:=bM hat hx
theorem de{i n c:Nat}(h:i<n):(gV 0 n c i).1=some (gV 0 n c i).2:=bH h
theorem iF{α : Type}{P Q:List α}{x y : α}{i:Nat}(h:P.length=i):(P++x::Q).set i y=P++y::Q:=by
 subst h;rw [List.set_append_right _ _ (Nat.le_refl _),Nat.sub_self]; rfl
theorem iA{α : Type}{P Q:List α}{x : α}{i:Nat}(h:P.length=i):(P++x::Q)[i]? = some x:=by
 subst h;rw [List.getElem?_append_right (Nat.le_refl _),Nat.sub_self]; rfl
section
variable (us us1 us2:List aa) (n c a m k i:Nat) (x y:aa) (f:Value) (g:Nat→Value)
end
def uQ(N:Nat)(us:List aa)(e:Exit)(st:St):Prop:=e = .normal∧∃ g,st=av N g [] [ab us]
def w4(us:List aa)(a m k:Nat):List aa:=us.take a++(us.drop m).take k++(us.drop (a+k)).take (m-(a+k))++(us.drop a).take k++us.drop (m+k)
theorem TG{us:List aa}{a m k:Nat}(h1:a+k≤m)(h2:m+k≤us.length):us=us.take a++(us.drop a).take k++(us.drop (a+k)).take (m-(a+k))++(us.drop m).take k++us.drop (m+k):=by
 have e1:us.drop m=(us.drop m).take k++us.drop (m+k):=by
  have:=(List.take_append_drop k (us.drop m)).symm
  rwa [List.drop_drop] at this
 have e2:us.drop (a+k)=(us.drop (a+k)).take (m-(a+k))++us.drop m:=by
  have:=(List.take_append_drop (m-(a+k)) (us.drop (a+k))).symm
  rwa [List.drop_drop,show a+k+(m-(a+k))=m by omega] at this
 have e3:us.drop a=(us.drop a).take k++us.drop (a+k):=by
  have:=(List.take_append_drop k (us.drop a)).symm
  rwa [List.drop_drop] at this
 have e4:=(List.take_append_drop a us).symm
 rw [List.append_assoc,← e1,List.append_assoc,← e2,List.append_assoc,← e3,← e4]
theorem Fw{A X B Y C:List aa}{a m k:Nat}(hX:X.length=k)(hY:Y.length=k)(hA:A.length=a)(hm:m=a+k+B.length):w4 (A++X++B++Y++C) a m k=A++Y++B++X++C:=by
 subst hA hX;subst hm;unfold w4;have t1:(A++X++B++Y++C).take A.length=A:=by rw [List.append_assoc,List.append_assoc,List.append_assoc,List.take_left]
 have d1:(A++X++B++Y++C).drop A.length=X++(B++Y++C):=by rw [List.append_assoc,List.append_assoc,List.append_assoc,List.drop_left]; simp
 have d2:(A++X++B++Y++C).drop (A.length+X.length)=B++(Y++C):=by rw [← List.drop_drop,d1,List.drop_left]; simp
 have d3:(A++X++B++Y++C).drop (A.length+X.length+B.length)=Y++C:=by rw [← List.drop_drop,d2,List.drop_left]
 have d4:(A++X++B++Y++C).drop (A.length+X.length+B.length+X.length)=C:=by rw [← List.drop_drop,d3,← hY,List.drop_left]
 rw [t1,d1,d2,d3,d4,← hY,List.take_left,show A.length+Y.length+B.length-(A.length+Y.length)=B.length by omega,List.take_left,hY,List.take_left]
theorem uu{us:List aa}{b n c:Nat}{hp:Hp}(hk:hp.ok)(hb:hp.get b=some (ab us)){m:BM}{h:HG}{v:Value}(r:aj m (aM hp h) (ae b n c) v):∃ x,m b=some x∧aj (canM m [b]) (heapOf [ab us,.dead] aE).get (ae 0 n c) v:=by
 obtain ⟨_,_,rr,oo,cap,q1,rfl,hcap,hh⟩:=r.dM;cases q1;have gb:=bq hk h b _ hb
 rcases hh with hd | ⟨δ,E,hm,hoff,hcok⟩
 ·rw [gb] at hd; cases hd
 ·exact ⟨_,hm,.slice hcap (.inr ⟨δ,E,hm,hoff,hcok⟩)⟩
theorem pE{m m':BM}{h h':HG}{k:IntKind}{z:Int}{v:Value}(r:aj m h (.int k z) v):aj m' h' (.int k z) v:=by
 rw [r.of_int]; exact .flat rfl
theorem FY{m m':BM}{h h':HG}{v:Value}(r:aj m h vU v):aj m' h' vU v:=by
 obtain ⟨a',rfl,h1,h2⟩:=r.kx;exact .tuple h1 fun i v v' q _=>by simp at q
noncomputable def El(a b:Nat)(r:Bool):db:=(some (.bool (Int.ofNat a != Int.ofNat b)),.bool r)
theorem yh{a b:Nat}{r:Bool}(h:(a != b)=r):(El a b r).1=some (El a b r).2:=by
 show some (Value.bool (Int.ofNat a != Int.ofNat b))=some (.bool r)
 rw [← h];congr 2
 cases e:(a != b) with
 | true =>
   have:a≠b:=by simpa using e
   exact bne_iff_ne.2 (fun e=>this (Int.ofNat.inj e))
 | false => have:a=b:=by simpa using e
            subst this; simp
noncomputable def DG(a b:Nat)(r:Bool):db:=(some (.bool (decide (Int.ofNat a>Int.ofNat b))),.bool r)
theorem jx{a b:Nat}{r:Bool}(h:decide (b<a)=r):(DG a b r).1=some (DG a b r).2:=by
 show some (Value.bool (decide (Int.ofNat a>Int.ofNat b)))=some (.bool r)
 rw [← h,show decide (Int.ofNat a>Int.ofNat b)=decide (b<a) from decide_eq_decide.2 (by simp only [Int.ofNat_eq_natCast]; omega)]
section
variable (us us':List aa) (n c a m b i j:Nat) (g:Nat→Value)
end
def Nz(us:List aa)(a m b:Nat):List aa:=us.take a++(us.drop m).take (b-m)++(us.drop a).take (m-a)++us.drop b
theorem Pk{us:List aa}{a m b:Nat}(h1:a≤m)(h2:m≤b):us=us.take a++(us.drop a).take (m-a)++(us.drop m).take (b-m)++us.drop b:=by
 have e1:us.drop m=(us.drop m).take (b-m)++us.drop b:=by
  have:=(List.take_append_drop (b-m) (us.drop m)).symm
  rwa [List.drop_drop,show m+(b-m)=b by omega] at this
 have e2:us.drop a=(us.drop a).take (m-a)++us.drop m:=by
  have:=(List.take_append_drop (m-a) (us.drop a)).symm
  rwa [List.drop_drop,show a+(m-a)=m by omega] at this
 have e4:=(List.take_append_drop a us).symm
 rw [List.append_assoc,← e1,List.append_assoc,← e2,← e4]
theorem zi{A X Y C:List aa}{a m b:Nat}(hA:A.length=a)(hm:m=a+X.length)(hb:b=m+Y.length):(A++X++Y++C).take a=A∧((A++X++Y++C).drop a).take (m-a)=X∧((A++X++Y++C).drop m).take (b-m)=Y∧(A++X++Y++C).drop b=C:=by
 subst hA;subst hm;subst hb;have d1:(A++X++Y++C).drop A.length=X++(Y++C):=by rw [List.append_assoc,List.append_assoc,List.drop_left]
 have d2:(A++X++Y++C).drop (A.length+X.length)=Y++C:=by rw [← List.drop_drop,d1,List.drop_left]
 refine ⟨by rw [List.append_assoc,List.append_assoc,List.take_left],?_,?_,?_⟩
 ·rw [d1,show A.length+X.length-A.length=X.length by omega,List.take_left]
 ·rw [d2,show A.length+X.length+Y.length-(A.length+X.length)=Y.length by omega,List.take_left]
 ·rw [← List.drop_drop,d2,List.drop_left]
end Go.Proofs.YtgeoommlmddgpaaGreat.LtA
namespace Go.Proofs.YtgeoommlmddgpaaGreat.LtA
open Go Go.Proofs Go.Proofs.YtgeoommlmddgpaaGreat.AI Go.RowKit Go.Proofs.YtgeoommlmddgpaaGreat.Sort
def jW(aId:Int)(aHeightNull:Bool)(aHeightTau:Int)(aHeightOid:Int)(aHeightR:Int)(aHeightDelta:Int)(aHeightId:Int)(bId:Int)(bHeightNull:Bool)(bHeightTau:Int)(bHeightOid:Int)(bHeightR:Int)(bHeightDelta:Int)(bHeightId:Int):Value:=(bif (less (aHeightNull) (aHeightTau) (aHeightOid) (aHeightR) (aHeightDelta) (aHeightId) (bHeightNull) (bHeightTau) (bHeightOid) (bHeightR) (bHeightDelta) (bHeightId)) then (.int .i64 (-1)) else (bif (less (bHeightNull) (bHeightTau) (bHeightOid) (bHeightR) (bHeightDelta) (bHeightId) (aHeightNull) (aHeightTau) (aHeightOid) (aHeightR) (aHeightDelta) (aHeightId)) then (.int .i64 1) else (.int .i64 0)))
def bc(u v:aa):Bool:=less u.n u.t u.o u.r u.d u.i v.n v.t v.o v.r v.d v.i
def tJ(u v:aa):Int:=bif bc u v then -1 else bif bc v u then 1 else 0
theorem Ha(u v:aa):decide (tJ u v<0)=bc u v:=by
 unfold tJ;cases bc u v with
 | true=>rfl
 | false=>cases bc v u <;> rfl
theorem w5(u v:aa):jW u.id u.n u.t u.o u.r u.d u.i v.id v.n v.t v.o v.r v.d v.i = .int .i64 (tJ u v):=by
 unfold jW tJ bc;cases less u.n u.t u.o u.r u.d u.i v.n v.t v.o v.r v.d v.i with
 | true=>rfl
 | false=>cases less v.n v.t v.o v.r v.d v.i u.n u.t u.o u.r u.d u.i <;> rfl
noncomputable def L4(j:Nat):db:=(some (.int .i64 (wrapF .i64 (Int.ofNat (j+1)-1))),iN j)
theorem qg{j:Nat}(h:j<1000000):(L4 j).1=some (L4 j).2:=gF h
noncomputable def F8(u v:aa)(r:Bool):db:=(some (.bool (decide (tJ u v<0))),.bool r)
theorem qe{u v:aa}{r:Bool}(h:bc u v=r):(F8 u v r).1=some (F8 u v r).2:=by
 show some (Value.bool (decide (tJ u v<0)))=some (.bool r)
 rw [Ha,h]
section
variable (us us1 us2:List aa) (n c a b i j:Nat) (x y:aa) (g:Nat→Value)
end
theorem TF{us:List aa}{a b:Nat}(h1:a≤b):us=us.take a++(us.drop a).take (b-a)++us.drop b:=by
 have e2:us.drop a=(us.drop a).take (b-a)++us.drop b:=by
  have:=(List.take_append_drop (b-a) (us.drop a)).symm
  rwa [List.drop_drop,show a+(b-a)=b by omega] at this
 rw [List.append_assoc,← e2,List.take_append_drop]
theorem Hd{A X C:List aa}{a b:Nat}(hA:A.length=a)(hb:b=a+X.length):(A++X++C).take a=A∧((A++X++C).drop a).take (b-a)=X∧(A++X++C).drop b=C:=by
 subst hA;subst hb;have d1:(A++X++C).drop A.length=X++C:=by rw [List.append_assoc,List.drop_left]
 refine ⟨by rw [List.append_assoc,List.take_left],?_,?_⟩
 ·rw [d1,show A.length+X.length-A.length=X.length by omega,List.take_left]
 ·rw [← List.drop_drop,d1,List.drop_left]
def cT:Code→Code
 | .cond _ a _=>a
 | c=>c
noncomputable def HN(i j h:Nat)(l:List db):List db:=yW i j::(some (.int .u64 (wrapF .u64 (Int.ofNat (i+j)))),uN (i+j))::(some (.int .u64 (Int.fdiv (Int.ofNat (i+j)) (2 ^ (min (Int.toNat 1) 64)))),uN h)::(some (.int .i64 (wrapF .i64 (Int.ofNat h))),iN h)::l
theorem tV{i j:Nat}{l:List db}(h:i+j<3000000)(hl:Met l):Met (HN i j ((i+j) / 2) l):=Met.cons (xE h) (Met.cons (FO h) (Met.cons zq (Met.cons (nU (by omega)) hl)))
noncomputable def SZ(a b:Nat)(r:Bool):db:=(some (.bool (Int.ofNat a==Int.ofNat b)),.bool r)
theorem De{a b:Nat}{r:Bool}(h:(a==b)=r):(SZ a b r).1=some (SZ a b r).2:=by
 show some (Value.bool (Int.ofNat a==Int.ofNat b))=some (.bool r)
 rw [← h];congr 2
 cases e:(a==b) with
 | true => have:a=b:=by simpa using e
           subst this; simp
 | false =>
   have:a≠b:=by simpa using e
   exact beq_false_of_ne (fun e=>this (Int.ofNat.inj e))
section
variable (call:aG) (us us1 us2 us':List aa) (n c a m b i j h k s r p e aN q:Nat) (x y u w:aa) (d:Bool) (g:Nat→Value)
noncomputable def SU(b:Bool)(l:List db):List db:=iD i j true::HN i j h (gV 0 n c h::j4 (hW us).get 78 0 (h*7) (.agg ⟨vc u⟩)::gV 0 n c a::j4 (hW us).get 78 0 (a*7) (.agg ⟨vc x⟩)::F8 u x b::l)
def Xe(b:Bool):List (Tmp×Value):=[(33,.bool true),(36,iN (i+j)),(37,uN (i+j)),(38,uN h),(39,iN h),(43,pb 0 (h*7)),(44,.agg ⟨vc u⟩),(47,pb 0 (a*7)),(48,.agg ⟨vc x⟩),(50,.bool b)]
end
section
variable (us us1 us2 us':List aa) (n c a m b i j h k s r p e aN q:Nat) (x y u w:aa) (d:Bool) (g:Nat→Value)
noncomputable def S4(b:Bool)(l:List db):List db:=iD i j true::HN i j h (gV 0 n c m::j4 (hW us).get 78 0 (m*7) (.agg ⟨vc y⟩)::gV 0 n c h::j4 (hW us).get 78 0 (h*7) (.agg ⟨vc u⟩)::F8 y u b::l)
def Xg(b:Bool):List (Tmp×Value):=[(85,.bool true),(88,iN (i+j)),(89,uN (i+j)),(90,uN h),(91,iN h),(95,pb 0 (m*7)),(96,.agg ⟨vc y⟩),(99,pb 0 (h*7)),(100,.agg ⟨vc u⟩),(102,.bool b)]
noncomputable def S8(b:Bool)(l:List db):List db:=iD s r true::HN s r h (rG p h::gV 0 n c (p-h)::j4 (hW us).get 78 0 ((p-h)*7) (.agg ⟨vc u⟩)::gV 0 n c h::j4 (hW us).get 78 0 (h*7) (.agg ⟨vc w⟩)::F8 u w b::l)
def Xr(b:Bool):List (Tmp×Value):=[(151,.bool true),(154,iN (s+r)),(155,uN (s+r)),(156,uN h),(157,iN h),(162,iN (p-h)),(163,pb 0 ((p-h)*7)),(164,.agg ⟨vc u⟩),(167,pb 0 (h*7)),(168,.agg ⟨vc w⟩),(170,.bool b)]
end
section
variable (call:aG) (us us':List aa) (n c a m b s e aN:Nat) (g:Nat→Value)
end
def Kn(x:aa):Prop:=known x.n x.t x.o x.r x.d x.i=true
theorem C4{a b:Int}:dP a b<0↔a<b:=by
 have:=tI a b
 constructor
 ·intro h; rw [decide_eq_true h] at this; exact of_decide_eq_true this.symm
 ·intro h; rw [decide_eq_true h] at this; exact of_decide_eq_true this
theorem C3{a b:Int}:dP a b=0↔a=b:=by
 have:=se a b
 constructor
 ·intro h
  rw [h] at this;have h2:(a==b)=true:=by rw [← this]; rfl
  exact eq_of_beq h2
 ·rintro rfl
  have h2:(dP a a==0)=true:=by rw [this]; simp
  exact eq_of_beq h2
def Lex(u v:aa):Prop:=u.t<v.t∨(u.t=v.t∧(u.o<v.o∨(u.o=v.o∧(u.r<v.r∨(u.r=v.r∧(u.d<v.d∨(u.d=v.d∧u.i<v.i)))))))
theorem zT(a b c:Int):Ig a b c<0↔a<0∨(a=0∧(b<0∨(b=0∧c<0))):=by
 unfold Ig;rcases Decidable.em (a=0) with h | h
 ·subst h
  rcases Decidable.em (b=0) with h2 | h2
  ·subst h2; simp
  ·have:(b==0)=false:=by simpa using h2
   simp [this,h2]
 ·have:(a==0)=false:=by simpa using h
  simp [this,h]
theorem Ih(a b c:Int):Ig a b c=0↔a=0∧b=0∧c=0:=by
 unfold Ig;rcases Decidable.em (a=0) with h | h
 ·subst h
  rcases Decidable.em (b=0) with h2 | h2
  ·subst h2; simp
  ·have:(b==0)=false:=by simpa using h2
   simp [this,h2]
 ·have:(a==0)=false:=by simpa using h
  simp [this,h]
theorem kU{u v:aa}(hu:Kn u)(hv:Kn v):bc u v=true↔Lex u v:=by
 unfold bc less Kn at *;rw [hu,hv,Bool.true_and,Bool.true_and,decide_eq_true_iff,zT];unfold qF km kq ks;rw [hu,hv];simp only [cond_true];rw [zT,Ih];simp only [C4,C3];unfold Lex;constructor
 ·rintro ((h | ⟨h1,h | ⟨h2,h⟩⟩) | ⟨⟨h1,h2,h3⟩,h | ⟨h4,h5⟩⟩)
  ·exact .inl h
  ·exact .inr ⟨h1,.inl h⟩
  ·exact .inr ⟨h1,.inr ⟨h2,.inl h⟩⟩
  ·exact .inr ⟨h1,.inr ⟨h2,.inr ⟨h3,.inl h⟩⟩⟩
  ·exact .inr ⟨h1,.inr ⟨h2,.inr ⟨h3,.inr ⟨h4,h5⟩⟩⟩⟩
 ·rintro (h | ⟨h1,h | ⟨h2,h | ⟨h3,h | ⟨h4,h5⟩⟩⟩⟩)
  ·exact .inl (.inl h)
  ·exact .inl (.inr ⟨h1,.inl h⟩)
  ·exact .inl (.inr ⟨h1,.inr ⟨h2,h⟩⟩)
  ·exact .inr ⟨⟨h1,h2,h3⟩,.inl h⟩
  ·exact .inr ⟨⟨h1,h2,h3⟩,.inr ⟨h4,h5⟩⟩
theorem sw:Bw bc Kn where
 asym u v hu hv h:=by
  cases e:bc v u with
  | false=>rfl
  | true =>
    have h1:=(kU hu hv).1 h
    have h2:=(kU hv hu).1 e
    unfold Lex at h1 h2;omega
 ntr u v z hu hv hz h1 h2:=by
  cases e:bc u z with
  | false=>rfl
  | true =>
    have h3:=(kU hu hz).1 e
    have n1:¬ Lex u v:=fun h=>by rw [(kU hu hv).2 h] at h1; cases h1
    have n2:¬ Lex v z:=fun h=>by rw [(kU hv hz).2 h] at h2; cases h2
    unfold Lex at h3 n1 n2;omega
theorem lv{S:List aa}(hS:mB bc S)(hK:∀ z∈S,Kn z){i j:Nat}{u v:aa}(hij:i≤j)(hu:S[i]? = some u)(hv:S[j]? = some v):bc v u=false:=by
 rcases Nat.lt_or_eq_of_le hij with h | h
 ·obtain ⟨hi,rfl⟩:=List.getElem?_eq_some_iff.1 hu
  obtain ⟨hj,rfl⟩:=List.getElem?_eq_some_iff.1 hv
  exact List.pairwise_iff_getElem.1 hS i j hi hj h
 ·subst h
  rw [hu] at hv; cases hv;exact sw.Un (hK u (List.mem_of_getElem? hu))
section
variable {A X Y C us:List aa} {a m b:Nat}
theorem KG(hus:us=A++X++Y++C)(hA:A.length=a){i:Nat}(hi:i<X.length):us[a+i]? = X[i]?:=by
 subst hus hA;rw [List.append_assoc,List.append_assoc,List.getElem?_append_right (by omega),show A.length+i-A.length=i by omega,List.getElem?_append_left hi]
theorem KH(hus:us=A++X++Y++C)(hA:A.length=a)(hm:m=a+X.length){i:Nat}(hi:i<Y.length):us[m+i]? = Y[i]?:=by
 subst hus hA hm;rw [List.append_assoc,List.getElem?_append_right (by simp),show A.length+X.length+i-(A++X).length=i by simp,List.getElem?_append_left hi]
theorem gz{S:List aa}{i:Nat}(h:i<S.length):∃ x,S[i]? = some x:=⟨_,List.getElem?_eq_getElem h⟩
end
def uO(us:List aa)(e:Exit)(st:St):Prop:=(e = .normal∨e = .ret)∧∃ g,st=av 220 g [] [ab us]
def s9(us:List aa)(e:Exit)(st:St):Prop:=e = .ret∧∃ g,st=av 220 g [] [ab us]
theorem uc{x:aa}{Y1 Y2:List aa}(h1:∀ u∈Y1,bc u x=true)(h2:∀ u∈Y2,bc u x=false)(hY:mB bc (Y1++Y2)):dB bc [x] (Y1++Y2)=Y1++x::Y2:=by
 obtain ⟨a,b,c⟩:=List.pairwise_append.1 hY;have:=su (lt:=bc) (L1:=[]) (L2:=[x]) (R1:=Y1) (R2:=Y2) (fun y hy z hz=>by rw [List.mem_singleton.1 hz]; exact h1 y hy) (fun y hy z hz=>by cases hz) (fun y hy z hz=>c z hz y hy)
 rw [List.nil_append] at this;rw [this,gu a];have e:=nY (lt:=bc) (M:=[x]) (R:=Y2) (N:=[]) (fun y hy z hz=>by rw [List.mem_singleton.1 hz]; exact h2 y hy)
 rw [List.append_nil] at e;rw [e,gu b];rfl
def bs:Nat→Nat→List aa→List aa
 | _,0,us=>us
 | s,k+1,us=>match us with
   | []=>[]
   | _::_=>aO bc (us.take s)++bs s k (us.drop s)
theorem tE(s k:Nat):bs s k [] = []:=by cases k <;> rfl
theorem mL{s k:Nat}{us:List aa}:bs s (k+1) us=aO bc (us.take s)++bs s k (us.drop s):=by
 cases us with
 | nil=>simp [bs,tE]; rfl
 | cons u us=>rfl
theorem yZ{s:Nat}(hs:0<s):∀ {k k':Nat} {us:List aa},us.length≤k→us.length≤k'→bs s k us=bs s k' us
 | k,k',[],_,_=>by rw [tE,tE]
 | 0,_,u::us,h,_=>by simp at h
 | _,0,u::us,_,h=>by simp at h
 | k+1,k'+1,u::us,h1,h2=>by
   rw [mL,mL];rw [yZ hs (k:=k) (k':=k') (by simp at h1 ⊢; omega) (by simp at h2 ⊢; omega)]
def iW(s:Nat)(us:List aa):List aa:=bs s us.length us
theorem mK{s:Nat}{R1 R2:List aa}(hs:0<s)(h:R1.length=s):iW s (R1++R2)=aO bc R1++iW s R2:=by
 unfold iW;obtain ⟨k,hk⟩:∃ k,(R1++R2).length=k+1:=⟨(R1++R2).length-1,by simp; omega⟩
 have e1:(R1++R2).take s=R1:=by rw [← h,List.take_left]
 have e2:(R1++R2).drop s=R2:=by rw [← h,List.drop_left]
 rw [hk,mL,e1,e2];rw [yZ hs (k:=k) (k':=R2.length) (by simp at hk; omega) (Nat.le_refl _)]
theorem iY{s:Nat}{R:List aa}(hs:0<s)(h:R.length≤s):iW s R=aO bc R:=by
 unfold iW;cases R with
 | nil=>rfl
 | cons r R =>
   have:(r::R).length=R.length+1:=rfl
   rw [this,mL,List.take_of_length_le h,List.drop_of_length_le h,tE,List.append_nil]
theorem Cf{s:Nat}:∀ {k:Nat} {us:List aa},(bs s k us).length=us.length
 | 0,us=>rfl
 | k+1,us=>by rw [mL,List.length_append,bP,Cf,← List.length_append,List.take_append_drop]
theorem GO{s:Nat}{us:List aa}:(iW s us).length=us.length:=Cf
theorem sM{R1 R2:List aa}(h1:∀ z∈R1,Kn z)(h2:∀ z∈R2,Kn z):dB bc (aO bc R1) (aO bc R2)=aO bc (R1++R2):=yg sw h1 h2
noncomputable def Oc(a b:Nat)(r:Bool):db:=(some (.bool (decide (Int.ofNat a≤Int.ofNat b))),.bool r)
theorem tY{a b:Nat}{r:Bool}(h:decide (a≤b)=r):(Oc a b r).1=some (Oc a b r).2:=by
 show some (Value.bool (decide (Int.ofNat a≤Int.ofNat b)))=some (.bool r)
 rw [← h,show decide (Int.ofNat a≤Int.ofNat b)=decide (a≤b) from decide_eq_decide.2 (by simp only [Int.ofNat_eq_natCast]; omega)]
noncomputable def S'(s:Nat):db:=(some (.int .i64 (wrapF .i64 (2*Int.ofNat s))),iN (2*s))
theorem FJ{s:Nat}(h:s<1000000):(S' s).1=some (S' s).2:=by
 have e:2*Int.ofNat s=Int.ofNat (2*s):=by simp only [Int.ofNat_eq_natCast]; omega
 show some (Value.int .i64 (wrapF .i64 (2*Int.ofNat s)))=_
 rw [e,nU (by omega)]; rfl
noncomputable def TH(s:Nat):db:=(some (.int .i64 (wrapF .i64 (Int.ofNat s*2))),iN (2*s))
theorem LZ{s:Nat}(h:s<1000000):(TH s).1=some (TH s).2:=by
 have e:Int.ofNat s*2=Int.ofNat (2*s):=by simp only [Int.ofNat_eq_natCast]; omega
 show some (Value.int .i64 (wrapF .i64 (Int.ofNat s*2)))=_
 rw [e,nU (by omega)]; rfl
section
variable (us us':List aa) (n c a b s:Nat) (g:Nat→Value)
end
theorem Iw{R:List aa}(h:∀ z∈R,Kn z):mB bc (aO bc R):=sK sw h
theorem kS{R:List aa}(h:∀ z∈R,Kn z):∀ z∈aO bc R,Kn z:=fun z hz=>h z (nX.1 hz)
theorem cutAt{R:List aa}{s:Nat}(h:s≤R.length):∃ R1 R2,R=R1++R2∧R1.length=s:=⟨R.take s,R.drop s,(List.take_append_drop _ _).symm,by simp; omega⟩
end Go.Proofs.YtgeoommlmddgpaaGreat.LtA
namespace Go.Proofs.YtgeoommlmddgpaaGreat.LtA
open Go Go.Proofs Go.Proofs.YtgeoommlmddgpaaGreat.AI Go.RowKit
section
variable (o:af) (s:Value) (vs:List aa) (n c:Nat)
end
def rowV(us:List aa)(b:Nat):Value:=match us with
 | []=>au
 | _::_=>aW b us.length
def Wf(us:List aa):List af:=match us with
 | []=>[]
 | _::_=>[ab us]
open Classical in
noncomputable def g34(vs:List aa):aC:=fun args hp=>match args with
 | [s]=>if TN vs s hp then some (rowV vs hp.sz,heapOf (Wf vs ++ [.dead]) hp) else none
 | _=>none
section
variable (o:af) (n c:Nat) (id:Int)
end
theorem Wl:codeSafe Tryz.prog 26 tK=true:=by kernel_rfl
theorem UZ(v:Value)(O:List af)(g:Nat→Value):retVal Tryz.prog Tryz.f56 (av 26 g [(4,v)] O)=some v:=by kernel_rfl
theorem Ut:(execQ Tryz.prog cE [] 40 tK ⟨tmsOf [au,au] 0 .leaf,heapOf [.dead] aE,[]⟩).map (fun y=>(look2 0 [] [4] (y.1,y.2.1),y.2.2))=some ((.ret,[],[(4,.bool true)],true),[]):=by kernel_rfl
theorem Uu(o:af)(c:Nat):(execQ Tryz.prog cE [] 40 tK ⟨tmsOf [ae 0 0 c,au] 0 .leaf,heapOf [o,.dead] aE,[]⟩).map (fun y=>(look2 0 [] [4] (y.1,y.2.1),y.2.2))=some ((.ret,[],[(4,.bool true)],true),[]):=by kernel_rfl
theorem Uv(o:af)(c:Nat):(execQ Tryz.prog cE [] 40 tK ⟨tmsOf [au,ae 0 0 c] 0 .leaf,heapOf [o,.dead] aE,[]⟩).map (fun y=>(look2 0 [] [4] (y.1,y.2.1),y.2.2))=some ((.ret,[],[(4,.bool true)],true),[]):=by kernel_rfl
def SM(us:List aa)(s t:Value)(hp:Hp):Prop :=
 (s=au∧t=au∧us = [])∨(TR us s hp∧t=au∧us = [])∨(s=au∧TR us t hp∧us = []) ∨
   ∃ b1 c1 o1 b2 c2 o2,s=ae b1 us.length c1∧t=ae b2 us.length c2∧b1≠b2∧hp.get b1=some o1∧hp.get b2=some o2∧aA o1=true∧aA o2=true∧(us = []∨∃ ty ro,o1 = .cells ty (aK us) ro)∧(us = []∨∃ ty ro,o2 = .cells ty (aK us) ro)
open Classical in
noncomputable def gSM:aC:=fun args hp=>match args with
 | [s,t]=>if ∃ us,us.length<1000000∧SM us s t hp then some (.bool true,heapOf ([] ++ [.dead]) hp) else none
 | _=>none
theorem Uh:aq Tryz.prog 56 gSM:=cW follows Tryz.func56 KK (by kernel_rfl) fun args hp v hp' h hk=>by
 unfold gSM at h;rw [ntmps28];split at h
 case h_2=>cases h
 rename_i s t;split at h
 case isFalse=>cases h
 rename_i hT;obtain ⟨us,hn,hT⟩:=hT;cases h;have fin:∀ {e:Exit} {st:St},(e = .ret∧∃ g,st=av 26 g [(4,.bool true)] [])→(e = .normal∨e = .ret)∧st.df = []∧∃ v0,retVal Tryz.prog Tryz.f56 st=some v0∧hU v0=true ∧
   (∀ b∈([]:List Nat),∃ o,st.hp.get b=some o∧cR o=true∧mq o=true)∧.bool true=sh3 [] hp.sz v0∧[]=cH [] hp.sz st.hp:=by
  rintro e st ⟨rfl,g,rfl⟩;exact ⟨.inr rfl,rfl,_,UZ _ _ g,rfl,(fun b hb=>by cases hb),rfl,rfl⟩
 rcases hT with ⟨rfl,rfl,rfl⟩ | ⟨⟨b,c,o,rfl,hb,hi,hr⟩,rfl,rfl⟩ | ⟨rfl,⟨b,c,o,rfl,hb,hi,hr⟩,rfl⟩ | ⟨b1,c1,o1,b2,c2,o2,rfl,rfl,hne,h1,h2,i1,i2,r1,r2⟩
 ·refine ⟨[],[],[],rfl,rfl,rfl,rfl,(fun b hb=>by cases hb),rfl,(by simp),fun W=>?_⟩
  have e1 : [au,au].map (sh3 [] 0) = [au,au]:=by simp [sh3,sh2,sh1,au]
  rw [e1];exact ah.piece cp follows 0 _ _ _ _ Ut Met.nil Wl rfl rfl rfl (dg _) fun g=>fin ⟨rfl,g,rfl⟩
 ·refine ⟨[b],[],[],rfl,rfl,rfl,rfl,fun b' hb'=>?_,rfl,(by simp),fun W=>?_⟩
  ·have:b'=b:=by simpa using hb'
   subst this;exact ⟨o,hb,aS hi⟩
  ·have e1 : [ae b ([]:List aa).length c,au].map (sh3 [b] 0) = [ae 0 0 c,au]:=by simp [sh3,sh2,sh1,jj,idxOf,ae,au]
   rw [e1,fJ hb hi];exact ah.piece cp follows 0 _ _ _ _ (Uu (roBlk o) c) Met.nil Wl rfl rfl rfl (dg _) fun g=>fin ⟨rfl,g,rfl⟩
 ·refine ⟨[b],[],[],rfl,rfl,rfl,rfl,fun b' hb'=>?_,rfl,(by simp),fun W=>?_⟩
  ·have:b'=b:=by simpa using hb'
   subst this;exact ⟨o,hb,aS hi⟩
  ·have e1 : [au,ae b ([]:List aa).length c].map (sh3 [b] 0) = [au,ae 0 0 c]:=by simp [sh3,sh2,sh1,jj,idxOf,ae,au]
   rw [e1,fJ hb hi];exact ah.piece cp follows 0 _ _ _ _ (Uv (roBlk o) c) Met.nil Wl rfl rfl rfl (dg _) fun g=>fin ⟨rfl,g,rfl⟩
 ·have hbe:Nat.beq b1 b2=false:=by
   cases e:Nat.beq b1 b2 with
   | false=>rfl
   | true=>exact absurd (Nat.eq_of_beq_eq_true e) hne
  refine ⟨[b1,b2],[],[],rfl,rfl,?_,rfl,fun b' hb'=>?_,rfl,(by simp),fun W=>?_⟩
  ·simp [nodupB,hbe]
  ·have:b'=b1∨b'=b2:=by simpa using hb'
   rcases this with rfl | rfl
   ·exact ⟨o1,h1,aS i1⟩
   ·exact ⟨o2,h2,aS i2⟩
  ·have e1 : [ae b1 us.length c1,ae b2 us.length c2].map (sh3 [b1,b2] 0) = [ae 0 us.length c1,ae 1 us.length c2]:=by
      simp [sh3,sh2,sh1,jj,idxOf,ae,hbe]
   rw [e1,Fo h1 h2 i1 i2];refine ah.mono (Iq (roBlk o1) (roBlk o2) (bO i1) (bO i2) us us hn (.of (ee r1)) (.of (ee r2)) c1 c2 W) fun e st q=>⟨q.1,q.2.1,_,q.2.2,rfl,(fun b hb=>by cases hb),?_,rfl⟩
   rw [uv]; rfl
open Classical in
theorem Md{us:List aa}{s t:Value}{hp:Hp}(h:SM us s t hp)(hn:us.length<1000000):gSM [s,t] hp=some (.bool true,heapOf [.dead] hp):=by
 unfold gSM;simp only;rw [if_pos ⟨us,hn,h⟩];rfl
theorem GF{get:Nat→Option af}{sz b b2 k:Nat}{ws:List aa}{x:aa}(hb:get b=some (ab ws))(hb2:get b2=some (.cells 78 (vc x) false))(hk:k=ws.length)(hl:k<2000000) :
  aAppend Tryz.prog get sz [24,24] [aW b k,ae b2 1 22]=some (aW sz (k+1),[.put b .dead,.push (ab (ws ++ [x]))]):=by
 subst hk;obtain ⟨i,hi,h7,pg⟩:=l7;obtain ⟨z,hz,hzl⟩:=ot;unfold ab at hb;have hsrc:aSrc Tryz.prog get 7 z (.slice 78) (ae b2 1 22)=some (vc x,1):=by
  unfold aSrc;simp only [ae,srcLen,srcCells,hb2];rw [if_neg (by omega),if_neg (by omega),cx (n:=1*7) rfl]
  rfl
 have hg:eA (aK ws) 0 (ws.length*7)=some (aK ws):=cx (bT ws)
 unfold aAppend;simp only [Tryz.underlying24,hi,hz,h7,pg,hzl];rw [if_neg (by decide)]
 simp only [hsrc];rw [if_neg (by simp [vc,isOne])]
 simp only [aW,ae];rw [if_neg (by omega),if_neg (by omega)]
 simp only [hb,hg];rw [if_neg (by omega),if_pos (by decide),if_neg (by rw [bT]; omega)]
 unfold ab;rw [e7];have e:aK [x]=vc x:=by unfold aK; simp
 rw [e]
section
variable (o:af) (s:Value) (n c:Nat) (y:aa) (ws us zs:List aa) (k:Nat) (i:Nat) (x:aa) (g:Nat→Value)
end
section
variable (o:af) (n c:Nat) (y:aa) (ws us zs:List aa) (k:Nat) (i:Nat) (x:aa) (g:Nat→Value)
def hN(o:af)(y:aa):Hp:=heapOf ([o,hB y] ++ [.dead]) aE
def vB(x:aa):af:=.cells 78 (vc x) false
def XR(o:af)(y:aa):Hp:=((hN o y).push (vB y)).push (ab [y])
def hR(o:af)(ws:List aa)(y:aa):Hp:=heapOf ([o,ab ws,hB y] ++ [.dead]) aE
noncomputable def Mh(o:af)(ws us:List aa)(y:aa):Hp:=(((hR o ws y).push (vB y)).put 1 .dead).push (ab us)
end
section
variable (o:af) (s:Value) (n c:Nat) (y:aa) (ws us:List aa) (k:Nat) (g:Nat→Value)
def hF(o:af)(ws:List aa):Hp:=heapOf ([o,ab ws] ++ [.dead]) aE
end
def cK(y:aa)(p:List aa×Bool)(x:aa):List aa×Bool :=
 let q:=bif !p.2&&decide (x.id≥y.id) then (p.1 ++ [y],true) else p
 (bif x.id != y.id then q.1 ++ [x] else q.1,q.2)
theorem si{α β : Type}{f : α→β→α}{a : α}{vs:List β}{i:Nat}{x : β}(h:vs[i]? = some x):(vs.take (i+1)).foldl f a=f ((vs.take i).foldl f a) x:=by
 rw [List.take_add_one,h];simp [List.foldl_append]
section
variable (o:af) (s:Value) (y:aa)
end
section
variable {o:af} {s:Value} {y:aa}
section
variable {vs:List aa} {n c i:Nat} {x:aa} {h:Hp}
end
end
end Go.Proofs.YtgeoommlmddgpaaGreat.LtA
namespace Go.Proofs.YtgeoommlmddgpaaGreat.LtA
open Go Go.Proofs Go.Proofs.YtgeoommlmddgpaaGreat.AI Go.RowKit Go.Proofs.YtgeoommlmddgpaaGreat.Sort
def iC(x:Int):Value:=.int .i64 x
def iB(ids:List Int):af:=.cells 3 (ids.map iC) false
def jd(b k:Nat):Value:=.slice (some ⟨b,0,none⟩) k 4
theorem dV(ids:List Int):aA (iB ids)=true:=by
 show List.all _ inert=true
 rw [List.all_map];exact List.all_eq_true.2 fun x _=>rfl
theorem underlying31:Tryz.prog.underlying 56=some (.slice 3):=by kernel_rfl
theorem Jq:∃ i,Tryz.prog.info? 3=some i∧i.size=1∧i.bytes=8:=by
 have h:(Tryz.prog.info? 3).map (fun i=>(i.size,i.bytes))=some (1,8):=by kernel_rfl
 obtain ⟨i,h1,h2⟩:=Option.map_eq_some_iff.1 h;simp only [Prod.mk.injEq] at h2;exact ⟨i,h1,h2.1,h2.2⟩
theorem JK:∃ z,tzero Tryz.prog 3=some z∧z.length=1:=by
 have h:(tzero Tryz.prog 3).map (fun z=>z.length)=some 1:=by kernel_rfl
 obtain ⟨z,h1,h2⟩:=Option.map_eq_some_iff.1 h;exact ⟨z,h1,h2⟩
theorem GC{get:Nat→Option af}{sz b b2 k:Nat}{ids:List Int}{x:Int}(hb:get b=some (iB ids))(hb2:get b2=some (.cells 3 [iC x] false))(hk:k=ids.length)(hl:k<2000000) :
  aAppend Tryz.prog get sz [56,56] [jd b k,jd b2 1]=some (jd sz (k+1),[.put b .dead,.push (iB (ids ++ [x]))]):=by
 subst hk;obtain ⟨i,hi,h1,h8⟩:=Jq;obtain ⟨z,hz,hzl⟩:=JK;unfold iB at hb;have hsrc:aSrc Tryz.prog get 1 z (.slice 3) (jd b2 1)=some ([iC x],1):=by
  unfold aSrc jd;simp only [srcLen,srcCells,hb2];rw [if_neg (by omega),if_neg (by omega),cx (n:=1*1) rfl]
  rfl
 have hg:eA (ids.map iC) 0 (ids.length*1)=some (ids.map iC):=cx (by simp)
 unfold aAppend;simp only [underlying31,hi,hz,h1,h8,hzl];rw [if_neg (by decide)]
 simp only [hsrc];rw [if_neg (by simp [isOne,iC])]
 simp only [jd];rw [if_neg (by omega),if_neg (by omega)]
 simp only [hb,hg];rw [if_neg (by omega),if_pos (by decide),if_neg (by simp)]
 unfold iB;rw [List.map_append];rfl
def rowIv(ids:List Int)(b:Nat):Value:=match ids with
 | []=>au
 | _::_=>jd b ids.length
def qQ(ids:List Int):List af:=match ids with
 | []=>[]
 | _::_=>[iB ids]
section
variable (o ob:af) (f:FuncId) (n c i k:Nat) (ws us:List aa) (ids:List Int) (x:aa) (b:Bool) (g:Nat→Value)
end
theorem vC{o ob:af}(ho:aA o=true)(hob:aA ob=true):∀ r:List af,∀ i,i<2→∀ o',(o::ob::r)[i]? = some o'→dw 0 o':=by
 intro r i hi o' h;match i,hi with
 | 0,_=>simp at h; subst h; exact bb ho 0
 | 1,_=>simp at h; subst h; exact bb hob 0
section
variable (o ob:af) (f:FuncId) (n c:Nat)
end
end Go.Proofs.YtgeoommlmddgpaaGreat.LtA
namespace Go.Proofs.YtgeoommlmddgpaaGreat.LtA
open Go Go.Proofs Go.Proofs.YtgeoommlmddgpaaGreat.AI Go.RowKit
def padF(k:aC):aC:=fun args hp=>match k args hp with
 | some (v,dj)=>if dj.sz=hp.sz+1 then some (v,heapOf [.dead] dj) else some (v,dj)
 | none=>none
theorem hZ{P:Program}{f:FuncId}{k:aC}(hg:aq P f k):aq P f (padF k):=by
 intro args hp v hp2 he hk;unfold padF at he;split at he
 case h_2=>cases he
 rename_i v1 dj h1;split at he
 case isFalse=>cases he; exact hg args hp v hp2 h1 hk
 cases he;obtain ⟨tS,hle,hgo⟩:=hg args hp v dj h1 hk;have hsz:(heapOf [.dead] dj).sz=dj.sz+1:=rfl
 refine ⟨bF _ _ tS,by rw [hsz]; omega,fun m h w args' hfr s ra=>?_⟩
 have step:∀ v' w',(∃ m',dR m (aM hp h) w m' (aM dj h) w'∧aj m' (aM dj h) v v')→∃ m',dR m (aM hp h) w m' (aM (heapOf [.dead] dj) h) w'∧aj m' (aM (heapOf [.dead] dj) h) v v':=?_
 ·rcases hgo m h w args' (fun b a c=>hfr b a (by rw [hsz]; omega)) s ra with ⟨v',w',q1,q2⟩ | ⟨q1,q2⟩
  ·exact .inl ⟨v',w',q1,step v' w' q2⟩
  ·exact .inr ⟨q1,q2.mono fun e w' hh=>by
      obtain ⟨v',h1,h2⟩:=hh;exact ⟨v',h1,step v' w' h2⟩⟩
 rintro v' w' ⟨m',go,rv⟩;have hnew:h dj.sz=none:=hfr dj.sz hle (by rw [hsz]; omega)
 have hov:∀ b,aM (heapOf [.dead] dj) h b=if b=dj.sz then some .dead else aM dj h b:=by
  intro b;unfold aM;rw [hsz];by_cases h1:b<dj.sz
  ·rw [if_pos (by omega),if_neg (by omega),if_pos h1,heapOf_get,if_pos h1]
  ·by_cases h2:b=dj.sz
   ·subst h2
    rw [if_pos (by omega),if_pos rfl,heapOf_get,if_neg h1,Nat.sub_self]; rfl
   ·rw [if_neg (by omega),if_neg h2,if_neg h1]
 have hnone:aM dj h dj.sz=none:=by
  unfold aM;rw [if_neg (by omega)]; exact hnew
 have hmn:m' dj.sz=none:=by
  cases e:m' dj.sz with
  | none=>rfl
  | some x=>obtain ⟨o,ho,_⟩:=go.sim.dom _ x e; rw [hnone] at ho; cases ho
 have hne:∀ b x,m' b=some x→b≠dj.sz:=fun b x hx e=>by subst e; rw [hmn] at hx; cases hx
 have hke:∀ b o,aM dj h b=some o→b≠dj.sz:=fun b o hb e=>by subst e; rw [hnone] at hb; cases hb
 have le2:Le m' (aM dj h) m' (aM (heapOf [.dead] dj) h):=⟨fun b hb=>by rw [hov,if_neg (hke b _ hb)]; exact hb,fun b x hx=>.inr hx⟩
 have rwS:∀ b,b≠dj.sz→rw? (aM (heapOf [.dead] dj) h) b=rw? (aM dj h) b:=fun b hb=>by unfold rw?; rw [hov,if_neg hb]
 have lvS:∀ b,b≠dj.sz→aV (aM (heapOf [.dead] dj) h) b=aV (aM dj h) b:=fun b hb=>by unfold aV; rw [hov,if_neg hb]
 refine ⟨m',⟨go.le.trans le2,⟨fun b x hx=>?_,fun b b' x x' hx hx' hr hl e=>go.sim.inj b b' x x' hx hx' (by rw [← rwS b (hne b x hx)]; exact hr) (by rw [← lvS b' (hne b' x' hx')]; exact hl) e⟩,go.size,go.new,go.frame,go.un,fun b o hb hm=>?_,fun b o hb=>?_,fun b x hx hr=>?_,go.os,go.tape,go.output⟩,rv.mono le2⟩
 ·obtain ⟨o,ho,hbr⟩:=go.sim.dom b x hx
  exact ⟨o,by rw [hov,if_neg (hne b x hx)]; exact ho,hbr.mono le2 rfl⟩
 ·have:=go.idle b o hb hm
  rw [hov,if_neg (hke b _ this)]; exact this
 ·obtain ⟨o',ho'⟩:=go.ex b o hb
  exact ⟨o',by rw [hov,if_neg (hke b _ ho')]; exact ho'⟩
 ·have hb1:b≠dj.sz:=by
   intro e;subst e;unfold rw? at hr;rw [hov,if_pos rfl] at hr;cases hr
  exact go.rwb b x hx (by rw [← rwS b hb1]; exact hr)
theorem ni{k:aC}{args:List Value}{hp:Hp}{v:Value}{B:af}(h:k args hp=some (v,heapOf [B,.dead] hp)):padF k args hp=some (v,heapOf [B,.dead] hp):=by
 unfold padF;rw [h];have:(heapOf [B,.dead] hp).sz=hp.sz+2:=rfl
 simp only [this];rw [if_neg (by omega)]
theorem pI{k:aC}{args:List Value}{hp:Hp}{v:Value}(h:k args hp=some (v,heapOf [.dead] hp)):padF k args hp=some (v,heapOf [.dead,.dead] hp):=by
 unfold padF;rw [h];have:(heapOf [af.dead] hp).sz=hp.sz+1:=rfl
 simp only [this];rfl
def jC(vs:List aa):af:=match vs with
 | []=>.dead
 | _::_=>ab vs
section
variable (o:af) (s:Value) (n:Nat) (y a:aa) (b rb:Bool) (z:Int) (v1 v2 v3 v4 v5:Value) (B1 B2 B3 B4 B5:af) (e f:Nat)
def vO(o:af)(y:aa)(B1:af):Hp:=heapOf [B1,.dead] (S3 o y)
noncomputable def Ob(o:af)(y a:aa)(B1:af):Hp:=Xf a (Xf a (vO o y B1))
end
end Go.Proofs.YtgeoommlmddgpaaGreat.LtA
namespace Go.Proofs.YtgeoommlmddgpaaGreat.LtA
open Go Go.Proofs Go.Proofs.YtgeoommlmddgpaaGreat.AI Go.RowKit Go.Proofs.YtgeoommlmddgpaaGreat.Sort
def dv(ids:List Int):af:=match ids with
 | []=>.dead
 | _::_=>iB ids
theorem EC{k:aC}{args:List Value}{hp:Hp}{v:Value}{ids:List Int}(h:k args hp=some (v,heapOf (qQ ids ++ [.dead]) hp)):padF k args hp=some (v,heapOf [dv ids,.dead] hp):=by
 cases ids with
 | nil=>exact pI h
 | cons=>exact ni h
section
variable (o:af) (own:aa) (vs:List aa) (n c k:Nat) (ids:List Int)
end
section
variable (o:af) (own:aa) (vs:List aa) (n c k:Nat) (ids:List Int)
end
noncomputable def rZ:Ext:=cS Tryz.prog [(203,g57),(44,g17)]
noncomputable def Bx:aG:=aCall Tryz.prog rZ 5
theorem gN:ba Tryz.prog Bx:=aQ (by unfold rZ; exact aT (.cons PC (.cons Mj .nil))) follows 5
noncomputable def pe:Code:=(Tryz.f180.body).getD .skip
noncomputable def Lf:Code:=sL pe
noncomputable def Lg:Code:=sL (sR pe)
noncomputable def Lh:Code:=sL (sR (sR pe))
noncomputable def Li:Code:=sL (sL (sR (sR (sR pe))))
noncomputable def xK:Code:=mr (jh (sR (sL (sR (sR (sR pe))))))
noncomputable def Lj:Code:=sR (sR (sR (sR pe)))
noncomputable abbrev kj:Code:=.seq Lf (.seq Lg (.seq Lh (.seq (.seq Li (.block 0 (.loop xK))) Lj)))
theorem xG:Tryz.f180.body=some kj:=by kernel_rfl
theorem ntmps21:Tryz.f180.ntmps=33:=by kernel_rfl
theorem X9:codeSafe Tryz.prog 33 kj=true:=by kernel_rfl
theorem Wg:codeSafe Tryz.prog 33 Lf=true:=by kernel_rfl
theorem Wh:codeSafe Tryz.prog 33 Lg=true:=by kernel_rfl
theorem Wi:codeSafe Tryz.prog 33 Lh=true:=by kernel_rfl
theorem Wj:codeSafe Tryz.prog 33 Li=true:=by kernel_rfl
theorem EZ:codeSafe Tryz.prog 33 xK=true:=by kernel_rfl
theorem Wk:codeSafe Tryz.prog 33 Lj=true:=by kernel_rfl
theorem S7(x:aa)(b:Bool)(g:Nat→Value):retVal Tryz.prog Tryz.f180 (av 33 g [(2,pb 0 0),(3,.bool b)] [vB x])=some (.tuple #[.agg ⟨vc x⟩,.bool b]):=by kernel_rfl
def toldV(x:aa):Bool:=told x.n x.t x.o x.r x.d x.i
section
variable (o:af) (n c i:Nat) (x y:aa) (b:Bool) (g:Nat→Value)
theorem U3:(execE Tryz.prog Bx [] [] [] 10 Lf ⟨tmsOf [ae 0 n c] 0 .leaf,heapOf [o,.dead] aE,[]⟩).map (fun z=>(look2 1 [0,2] [0,2] (z.1,z.2.1),z.2.2)) =
 some ((.normal,[o,vB (zeroV 0)],[(0,ae 0 n c),(2,pb 1 0)],true),[],[],[]):=by kernel_rfl
theorem U4:(execE Tryz.prog Bx [] [] [] 10 Lg (av 33 g [(0,ae 0 n c),(2,pb 1 0)] [o,vB (zeroV 0)])).map (fun z=>(look2 1 [0,1,3] [0,2,4] (z.1,z.2.1),z.2.2)) =
 some ((.normal,[o,vB (zeroV 0),vB (zeroV 0)],[(0,ae 0 n c),(2,pb 1 0),(4,pb 2 0)],true),[],[],[]):=by kernel_rfl
theorem U5:(execE Tryz.prog Bx [] [] [] 10 Lh (av 33 g [(0,ae 0 n c),(2,pb 1 0),(4,pb 2 0)] [o,vB (zeroV 0),vB (zeroV 0)])).map (fun z=>(look2 1 [0,1,2] [0,2,4,5] (z.1,z.2.1),z.2.2)) =
 some ((.normal,[o,vB (zeroV 0),vB (zeroV 0)],[(0,ae 0 n c),(2,pb 1 0),(4,pb 2 0),(5,.bool false)],true),[],[],[]):=by kernel_rfl
abbrev Gu(y:aa)(b:Bool)(i:Nat)(g:Nat→Value):St:=av 33 g [(2,pb 1 0),(4,pb 2 0),(5,.bool b),(9,ae 0 n c),(10,iN n),(11,iN i)] [o,vB (zeroV 0),vB y]
theorem U6:(execE Tryz.prog Bx [] [] [] 10 Li (av 33 g [(0,ae 0 n c),(2,pb 1 0),(4,pb 2 0),(5,.bool false)] [o,vB (zeroV 0),vB (zeroV 0)])).map (fun z=>(look2 1 [0,1,2] [2,4,5,9,10,11] (z.1,z.2.1),z.2.2)) =
 some ((.normal,[o,vB (zeroV 0),vB (zeroV 0)],[(2,pb 1 0),(4,pb 2 0),(5,.bool false),(9,ae 0 n c),(10,iN n),(11,iN 0)],true),[],[],[]):=by kernel_rfl
theorem Vc:(execE Tryz.prog Bx [(12,.bool false)] [] [] 20 xK (Gu o n c y b i g)).map (fun z=>(look2 0 [1,2] [2,4,5] (z.1,z.2.1),z.2.2)) =
 some ((.exit 0,[vB (zeroV 0),vB y],[(2,pb 0 0),(4,pb 1 0),(5,.bool b)],true),[iD i n false],[],[]):=by kernel_rfl
noncomputable def Qu(l:List db):List db:=iD i n true::gV 0 n c i::j4 (heapOf ([o,vB (zeroV 0),vB y] ++ [.dead]) aE).get 78 0 (i*7) (.agg ⟨vc x⟩)::l
def F9:List (Tmp×Value):=[(12,.bool true),(13,pb 0 (i*7)),(14,.agg ⟨vc x⟩),(30,iN (i+1))]
noncomputable def Oi(x:aa)(b:Bool):db:=(some (.bool (toldV x)),.bool b)
noncomputable def S5(x y:aa)(b:Bool):db:=(some (.bool (bc x y)),.bool b)
theorem U7:(execE Tryz.prog Bx (F9 i x ++ [(17,.bool false)]) [] [] 20 xK (Gu o n c y b i g)).map (fun z=>(look2 1 [0,1,2] [2,4,5,9,10,11] (z.1,z.2.1),z.2.2)) =
 some ((.normal,[o,vB (zeroV 0),vB y],[(2,pb 1 0),(4,pb 2 0),(5,.bool b),(9,ae 0 n c),(10,iN n),(11,iN (i+1))],true),Qu o n c i x y [Oi x false,dI i],[],[]):=by kernel_rfl
theorem U8:(execE Tryz.prog Bx (F9 i x ++ [(17,.bool true)]) [] [] 20 xK (Gu o n c y false i g)).map (fun z=>(look2 1 [0,1,2] [2,4,5,9,10,11] (z.1,z.2.1),z.2.2)) =
 some ((.normal,[o,vB (zeroV 0),vB x],[(2,pb 1 0),(4,pb 2 0),(5,.bool true),(9,ae 0 n c),(10,iN n),(11,iN (i+1))],true),Qu o n c i x y [Oi x true,dI i],[],[]):=by kernel_rfl
theorem U9:(execE Tryz.prog Bx (F9 i x ++ [(17,.bool true),(26,.bool true)]) [] [] 20 xK (Gu o n c y true i g)).map (fun z=>(look2 1 [0,1,2] [2,4,5,9,10,11] (z.1,z.2.1),z.2.2)) =
 some ((.normal,[o,vB (zeroV 0),vB x],[(2,pb 1 0),(4,pb 2 0),(5,.bool true),(9,ae 0 n c),(10,iN n),(11,iN (i+1))],true),Qu o n c i x y [Oi x true,S5 x y true,dI i],[],[]):=by kernel_rfl
theorem U':(execE Tryz.prog Bx (F9 i x ++ [(17,.bool true),(26,.bool false)]) [] [] 20 xK (Gu o n c y true i g)).map (fun z=>(look2 1 [0,1,2] [2,4,5,9,10,11] (z.1,z.2.1),z.2.2)) =
 some ((.normal,[o,vB (zeroV 0),vB y],[(2,pb 1 0),(4,pb 2 0),(5,.bool true),(9,ae 0 n c),(10,iN n),(11,iN (i+1))],true),Qu o n c i x y [Oi x true,S5 x y false,dI i],[],[]):=by kernel_rfl
theorem Va:(execE Tryz.prog Bx [] [] [] 20 Lj (av 33 g [(2,pb 0 0),(4,pb 1 0),(5,.bool b)] [vB (zeroV 0),vB y])).map (fun z=>(look2 0 [0] [2,3] (z.1,z.2.1),z.2.2)) =
 some ((.ret,[vB y],[(2,pb 0 0),(3,.bool b)],true),[],[],[]):=by kernel_rfl
theorem Vb:(execQ Tryz.prog Bx [] 40 kj ⟨tmsOf [au] 0 .leaf,heapOf [.dead] aE,[]⟩).map (fun z=>(look2 0 [1] [2,3] (z.1,z.2.1),z.2.2))=some ((.ret,[vB (zeroV 0)],[(2,pb 0 0),(3,.bool false)],true),[]):=by kernel_rfl
end
def ph(p:aa×Bool)(x:aa):aa×Bool:=bif toldV x&&(!p.2||bc x p.1) then (x,true) else p
def eD(vs:List aa):aa×Bool:=vs.foldl ph (zeroV 0,false)
def BI(vs:List aa)(e:Exit)(st:St):Prop:=e = .ret∧∃ g,st=av 33 g [(2,pb 0 0),(3,.bool (eD vs).2)] [vB (eD vs).1]
theorem MS(o:af)(ho:aA o=true)(vs:List aa)(hn:vs.length<1000000)(hrow:vs = []∨∃ ty ro,o = .cells ty (aK vs) ro)(c:Nat)(W:bh) :
  ah Tryz.prog 33 W kj ⟨tmsOf [ae 0 vs.length c] 0 .leaf,heapOf [o,.dead] aE,[]⟩ (BI vs):=by
 refine ah.seq (Q1:=fun x st=>x = .normal∧∃ g,st=av 33 g [(0,ae 0 vs.length c),(2,pb 1 0)] [o,vB (zeroV 0)]) (ah.aL gN follows 1 _ _ _ _ (U3 o vs.length c) Met.nil ay.nil az.nil Wg rfl rfl (cq ho _) fun g=>⟨rfl,g,rfl⟩) ?_ (fun x st hne hq=>absurd hq.1 hne)
 rintro st ⟨-,g,rfl⟩;refine ah.seq (Q1:=fun x st=>x = .normal∧∃ g,st=av 33 g [(0,ae 0 vs.length c),(2,pb 1 0),(4,pb 2 0)] [o,vB (zeroV 0),vB (zeroV 0)]) (ah.aL gN follows 1 _ _ _ _ (U4 o vs.length c g) Met.nil ay.nil az.nil Wh rfl rfl (cq ho _) fun g=>⟨rfl,g,rfl⟩) ?_ (fun x st hne hq=>absurd hq.1 hne)
 rintro st ⟨-,g,rfl⟩;refine ah.seq (Q1:=fun x st=>x = .normal∧∃ g,st=av 33 g [(0,ae 0 vs.length c),(2,pb 1 0),(4,pb 2 0),(5,.bool false)] [o,vB (zeroV 0),vB (zeroV 0)]) (ah.aL gN follows 1 _ _ _ _ (U5 o vs.length c g) Met.nil ay.nil az.nil Wi rfl rfl (cq ho _) fun g=>⟨rfl,g,rfl⟩) ?_ (fun x st hne hq=>absurd hq.1 hne)
 rintro st ⟨-,g,rfl⟩;refine ah.seq (Q1:=fun x st=>x = .normal∧∃ g,st=av 33 g [(2,pb 0 0),(4,pb 1 0),(5,.bool (eD vs).2)] [vB (zeroV 0),vB (eD vs).1]) ?_ ?_ (fun x st hne hq=>absurd hq.1 hne)
 ·refine ah.seq (Q1:=fun x st=>x = .normal∧∃ g,st=Gu o vs.length c (zeroV 0) false 0 g) (ah.aL gN follows 1 _ _ _ _ (U6 o vs.length c g) Met.nil ay.nil az.nil Wj rfl rfl (cq ho _) fun g=>⟨rfl,g,rfl⟩) ?_ (fun x st hne hq=>absurd hq.1 hne)
  rintro st ⟨-,g,rfl⟩;refine ah.block ?_
  refine ah.loop (fun k st=>∃ i y b g,i≤vs.length∧k=vs.length-i∧(vs.take i).foldl ph (zeroV 0,false)=(y,b)∧st=Gu o vs.length c y b i g) ?_ (k:=vs.length) ⟨0,_,_,g,Nat.zero_le _,rfl,rfl,rfl⟩
  rintro k st ⟨i,y,b,g,hi,hk,hf,rfl⟩;cases h12:decide (i<vs.length) with
  | false =>
    have hii:i=vs.length:=by have:=of_decide_eq_false h12; omega
    subst hii;rw [List.take_length] at hf;refine ah.aL gN follows 0 _ _ _ _ (Vc o vs.length c vs.length y b g) (Met.cons (bu h12) Met.nil) ay.nil az.nil EZ rfl rfl (dg _) fun g'=>.inr ⟨by simp,?_⟩
    show (if (0:Nat)=0 then _ else _)
    rw [if_pos rfl];refine ⟨rfl,g',?_⟩
    unfold eD;rw [hf]
  | true =>
    have hlt:=of_decide_eq_true h12
    obtain ⟨x,hx⟩:=gz hlt;have hr:∃ ty ro,o = .cells ty (aK vs) ro:=by
      rcases hrow with h | h
      ·rw [h] at hlt; simp at hlt
      ·exact h
    have hst:=si (f:=ph) (a:=(zeroV 0,false)) hx
    rw [hf] at hst;have hat:ez (heapOf ([o,vB (zeroV 0),vB y] ++ [.dead]) aE) 0 vs:=kB hr
    have met:∀ {l:List db},Met l→Met (Qu o vs.length c i x y l):=fun hl=>Met.cons (bu h12) (Met.cons (de hlt) (Met.cons (eU hat hx) hl))
    have hnx:Met [dI i]:=Met.cons (bz (by omega)) Met.nil
    have tob:∀ {b:Bool},toldV x=b→(Oi x b).1=some (Oi x b).2:=fun h=>by show some (Value.bool (toldV x))=_; rw [h]; rfl
    have leb:∀ {b:Bool},bc x y=b→(S5 x y b).1=some (S5 x y b).2:=fun h=>by show some (Value.bool (bc x y))=_; rw [h]; rfl
    have go:∀ {y':aa} {b':Bool} {g':Nat→Value},ph (y,b) x=(y',b')→∃ k',k'<k∧∃ j z d g,j≤vs.length∧k'=vs.length-j∧(vs.take j).foldl ph (zeroV 0,false)=(z,d)∧Gu o vs.length c y' b' (i+1) g'=Gu o vs.length c z d j g :=
      fun {y' b' g'} h=>⟨vs.length-(i+1),by omega,i+1,y',b',g',by omega,rfl,by rw [hst,h],rfl⟩
    cases h17:toldV x with
    | false =>
      refine ah.aL gN follows 1 _ _ _ _ (U7 o vs.length c i x y b g) (met (Met.cons (tob h17) hnx)) ay.nil az.nil EZ rfl rfl (cq ho _) fun g'=>.inl ⟨rfl,go ?_⟩
      unfold ph; rw [h17]; rfl
    | true =>
      cases b with
      | false =>
        refine ah.aL gN follows 1 _ _ _ _ (U8 o vs.length c i x y g) (met (Met.cons (tob h17) hnx)) ay.nil az.nil EZ rfl rfl (cq ho _) fun g'=>.inl ⟨rfl,go ?_⟩
        unfold ph; rw [h17]; rfl
      | true =>
        cases h26:bc x y with
        | true =>
          refine ah.aL gN follows 1 _ _ _ _ (U9 o vs.length c i x y g) (met (Met.cons (tob h17) (Met.cons (leb h26) hnx))) ay.nil az.nil EZ rfl rfl (cq ho _) fun g'=>.inl ⟨rfl,go ?_⟩
          unfold ph; simp only [h17,h26]; rfl
        | false =>
          refine ah.aL gN follows 1 _ _ _ _ (U' o vs.length c i x y g) (met (Met.cons (tob h17) (Met.cons (leb h26) hnx))) ay.nil az.nil EZ rfl rfl (cq ho _) fun g'=>.inl ⟨rfl,go ?_⟩
          unfold ph; simp only [h17,h26]; rfl
 ·rintro st ⟨-,g,rfl⟩
  exact ah.aL gN follows 0 _ _ _ _ (Va (eD vs).1 (eD vs).2 g) Met.nil ay.nil az.nil Wk rfl rfl (dg _) fun g=>⟨rfl,g,rfl⟩
theorem HY(W:bh):ah Tryz.prog 33 W kj ⟨tmsOf [au] 0 .leaf,heapOf [.dead] aE,[]⟩ (BI []) :=
 ah.piece gN follows 0 _ _ _ _ Vb Met.nil X9 rfl rfl rfl (dg _) fun g=>⟨rfl,g,rfl⟩
def Ee(vs:List aa):Value:=.tuple #[.agg ⟨vc (eD vs).1⟩,.bool (eD vs).2]
open Classical in
noncomputable def g21(vs:List aa):aC:=fun args hp=>match args with
 | [s]=>if TN vs s hp then some (Ee vs,heapOf ([] ++ [.dead]) hp) else none
 | _=>none
theorem TU(vs:List aa)(hn:vs.length<1000000):aq Tryz.prog 180 (g21 vs):=cW follows Tryz.func180 xG (by kernel_rfl) fun args hp v hp' h hk=>by
 unfold g21 at h;rw [ntmps21];split at h
 case h_2=>cases h
 rename_i s;split at h
 case isFalse=>cases h
 rename_i hT;cases h;have fin:∀ {e:Exit} {st:St},BI vs e st→(e = .normal∨e = .ret)∧st.df = []∧∃ v0,retVal Tryz.prog Tryz.f180 st=some v0∧hU v0=true ∧
   (∀ b∈([]:List Nat),∃ o,st.hp.get b=some o∧cR o=true∧mq o=true)∧Ee vs=sh3 [] hp.sz v0∧[]=cH [] hp.sz st.hp:=by
  rintro e st ⟨rfl,g,rfl⟩;exact ⟨.inr rfl,rfl,_,S7 _ _ g,rfl,(fun b hb=>by cases hb),by simp [sh3,sh2,sh1,Ee,vc],rfl⟩
 rcases hT with ⟨rfl,rfl⟩ | ⟨b,c,o,rfl,hb,hi,hr⟩
 ·refine ⟨[],[],[],rfl,rfl,rfl,rfl,(fun b hb=>by cases hb),rfl,(by simp),fun W=>?_⟩
  have e1 : [au].map (sh3 [] 0) = [au]:=by simp [sh3,sh2,sh1,au]
  rw [e1];exact ah.mono (HY W) fun e st q=>fin q
 ·refine ⟨[b],[],[],rfl,rfl,rfl,rfl,fun b' hb'=>?_,rfl,(by simp),fun W=>?_⟩
  ·have:b'=b:=by simpa using hb'
   subst this;exact ⟨o,hb,aS hi⟩
  ·have e1 : [ae b vs.length c].map (sh3 [b] 0) = [ae 0 vs.length c]:=by simp [sh3,sh2,sh1,jj,idxOf,ae]
   rw [e1,fJ hb hi];exact ah.mono (MS (roBlk o) (bO hi) vs hn (ee hr) c W) fun e st q=>fin q
noncomputable def Kb:aC:=atRow (fun _=>True) g21
theorem PJ:aq Tryz.prog 180 Kb:=fA fun vs hn _=>TU vs hn
open Classical in
theorem Kc{vs:List aa}{s:Value}{hp:Hp}(h:TN vs s hp)(hn:vs.length<1000000):Kb [s] hp=some (Ee vs,heapOf [.dead] hp):=by
 unfold Kb;rw [iU h hn trivial];show (if TN vs s hp then _ else _)=_
 rw [if_pos h]; rfl
def vI(f:Bool)(b k:Nat):Value:=bif f then jd b k else au
def kk(f:Bool)(k:Nat):Nat:=bif f then k else 0
section
variable (o A B:af) (own x y u w:aa) (n c q i ka kb:Nat) (z x1 x2:Int) (b lb fa fb:Bool) (g:Nat→Value)
def h7(o:af)(own:aa):Hp:=heapOf ([o,hB own] ++ [.dead]) aE
noncomputable def hu(r:Bool):db:=(some (.bool (decide (Int.ofNat n>100))),.bool r)
end
section
variable (own:aa)
end
def ov(P:List aa)(p:aa×Bool):Prop:=(p.2=true→p.1∈P∧Kn p.1∧∀ x∈P,Kn x→bc x p.1=false)∧(p.2=false→∀ x∈P,¬ Kn x)
theorem xc{x:aa}:toldV x=true↔Kn x:=Iff.rfl
theorem Ef{P:List aa}{p:aa×Bool}(h:ov P p)(x:aa):ov (P ++ [x]) (ph p x):=by
 obtain ⟨y,b⟩:=p;obtain ⟨h1,h2⟩:=h;unfold ph;have inl:∀ {z},z∈P→z∈P ++ [x]:=fun h=>by simp [h]
 have mem:∀ {z},z∈P ++ [x]→z∈P∨z=x:=fun h=>by simpa using h
 cases ht:toldV x with
 | false =>
   have nk:¬ Kn x:=fun h=>by rw [xc.2 h] at ht; cases ht
   refine ⟨fun hb=>?_,fun hb z hz=>?_⟩
   ·obtain ⟨a1,a2,a3⟩:=h1 hb
    exact ⟨inl a1,a2,fun z hz hk=>by
      rcases mem hz with hz | rfl
      ·exact a3 z hz hk
      ·exact absurd hk nk⟩
   ·rcases mem hz with hz | rfl
    ·exact h2 hb z hz
    ·exact nk
 | true =>
   have hk:=xc.1 ht
   cases b with
   | false =>
     show ov _ (x,true)
     exact ⟨fun _=>⟨by simp,hk,fun z hz hkz=>by
       rcases mem hz with hz | rfl
       ·exact absurd hkz (h2 rfl z hz)
       ·exact sw.Un hk⟩,fun h=>by cases h⟩
   | true =>
     obtain ⟨a1,a2,a3⟩:=h1 rfl;cases hl:bc x y with
     | true =>
       show ov _ (x,true)
       exact ⟨fun _=>⟨by simp,hk,fun z hz hkz=>by
         rcases mem hz with hz | rfl
         ·cases e:bc z x with
          | false=>rfl
          | true=>rw [← a3 z hz hkz]; exact (sw.trans hkz hk a2 e hl).symm
         ·exact sw.Un hk⟩,fun h=>by cases h⟩
     | false =>
       show ov _ (y,true)
       exact ⟨fun _=>⟨inl a1,a2,fun z hz hkz=>by
         rcases mem hz with hz | rfl
         ·exact a3 z hz hkz
         ·exact hl⟩,fun h=>by cases h⟩
theorem wc:∀ {R P:List aa} {p:aa×Bool},ov P p→ov (P++R) (R.foldl ph p)
 | [],P,p,h=>by rw [List.append_nil]; exact h
 | r::R,P,p,h=>by
   have:=wc (R:=R) (Ef h r)
   rw [List.append_assoc] at this;exact this
theorem MT(vs:List aa):ov vs (eD vs):=by
 have:=wc (R:=vs) (P:=[]) (p:=(zeroV 0,false)) ⟨(fun h=>by cases h),(fun _ x hx=>by cases hx)⟩
 exact this
section
variable {hp:Hp}
end
theorem eO(ids:List Int):aA (dv ids)=true:=by
 cases ids with
 | nil=>rfl
 | cons=>exact dV _
theorem aH{a b:Bool}(h:a=b):(some (Value.bool a))=some (.bool b):=by rw [h]
section
variable {o A B:af} {own y:aa} {c q:Nat} {lb fa fb:Bool} {vs:List aa} {ia ib:List Int}
end
def vS(f:Bool)(b n c:Nat):Value:=bif f then ae b n c else au
def hS(f:Bool)(o:af):Hp:=bif f then heapOf [o,.dead] aE else heapOf [.dead] aE
def BL(fn:Func)(v0:Value)(O:List af)(e:Exit)(st:St):Prop:=(e = .normal∨e = .ret)∧st.df = []∧retVal Tryz.prog fn st=some v0∧∀ B,O[0]? = some B→st.hp.get 0=some B
def stay(v:Value):Prop:=hU v=true∧∀ K B,sh3 K B v=v
theorem wW(k:IntKind)(z:Int):stay (.int k z):=⟨rfl,fun _ _=>rfl⟩
theorem yC(y:aa):stay (cP y):=⟨rfl,fun _ _=>by simp [sh3,sh2,sh1,cP]⟩
abbrev xm:=List Value→Option (Value×List af)
open Classical in
noncomputable def rowG(vs:List aa)(A:xm):aC:=fun args hp=>match args with
 | s::rest=>if TN vs s hp then (A rest).map fun r=>(sh3 (List.range r.2.length) hp.sz r.1,heapOf (r.2 ++ [.dead]) hp) else none
 | _=>none
structure lU (fn:Func) (code:Code) (N:Nat) (vs:List aa) (rest:List Value) (v0:Value) (O:List af):Prop where
 out:O = []∨∃ B,O = [B]∧aA B=true∧mq B=true
 okv:hU v0=true
 flat:∀ r∈rest,stay r
 len:rest.length+1≤N
 run:∀ f o c W,aA o=true→(vs = []∨∃ ty ro,o = .cells ty (aK vs) ro)→(f=false→vs = []∧o = .dead)→ah Tryz.prog N W code ⟨tmsOf (vS f 0 vs.length c::rest) 0 .leaf,hS f o,[]⟩ (BL fn v0 O)
theorem wX{rest:List Value}(h:∀ r∈rest,stay r)(K:List Nat):rest.map (sh3 K 0)=rest:=by
 induction rest with
 | nil=>rfl
 | cons r rest ih=>rw [List.map_cons,(h r (.head _)).2,ih fun x hx=>h x (.tail _ hx)]
theorem wV{rest:List Value}(h:∀ r∈rest,stay r):rest.all hU=true:=List.all_eq_true.2 fun r hr=>(h r hr).1
open Classical in
theorem wP{f:FuncId}{fn:Func}{code:Code}{N:Nat}{vs:List aa}{A:xm}(hf:Tryz.prog.funcs[f]? = some fn)(hb:fn.body=some code)(hnm:(fn.name == "runtime.NumGoroutine")=false)(hN:fn.ntmps=N)
  (H:∀ rest v0 O,A rest=some (v0,O)→lU fn code N vs rest v0 O):aq Tryz.prog f (rowG vs A):=cW follows hf hb hnm fun args hp v hp' h hk=>by
 rw [hN];unfold rowG at h;split at h
 case h_2=>cases h
 rename_i s rest;split at h
 case isFalse=>cases h
 rename_i hT;obtain ⟨⟨v0,O⟩,hA,h2⟩:=Option.map_eq_some_iff.1 h;cases h2;have R:=H rest v0 O hA
 have run:∃ (K0:List Nat),nodupB K0=true∧(∀ b∈K0,∃ o,hp.get b=some o∧cj o=true)∧(s::rest).all hU=true∧∀ W,ah Tryz.prog N W code ⟨tmsOf ((s::rest).map (sh3 K0 0)) 0 .leaf,dE K0 hp,[]⟩ (BL fn v0 O):=by
  rcases hT with ⟨rfl,rfl⟩ | ⟨b,c,ob,rfl,hb,hi,hr⟩
  ·refine ⟨[],rfl,(fun b hb=>by cases hb),(by rw [List.all_cons,wV R.flat]; rfl),fun W=>?_⟩
   have e1:(au::rest).map (sh3 [] 0)=au::rest:=by rw [List.map_cons,wX R.flat]; simp [sh3,sh2,sh1,au]
   rw [e1];exact R.run false .dead 0 W rfl (.inl rfl) fun _=>⟨rfl,rfl⟩
  ·refine ⟨[b],rfl,fun b' hb'=>?_,(by rw [List.all_cons,wV R.flat]; rfl),fun W=>?_⟩
   ·have:b'=b:=by simpa using hb'
    subst this;exact ⟨ob,hb,aS hi⟩
   ·have e1:(ae b vs.length c::rest).map (sh3 [b] 0)=ae 0 vs.length c::rest:=by rw [List.map_cons,wX R.flat]; simp [sh3,sh2,sh1,jj,idxOf,ae]
    rw [e1,fJ hb hi];exact R.run true (roBlk ob) c W (bO hi) (ee hr) fun h=>by cases h
 obtain ⟨K0,n0,hst,hall,hrun⟩:=run;have hle:(s::rest).length≤N:=by have:=R.len; simpa using this
 have hnn:nodupB (List.range O.length)=true:=by
  rcases R.out with h | ⟨B,h,-⟩ <;> rw [h] <;> rfl
 refine ⟨K0,List.range O.length,O,rfl,by simp,n0,hnn,hst,hall,hle,fun W=>ah.mono (hrun W) fun e st q=>?_⟩
 obtain ⟨q1,q2,q3,q4⟩:=q;refine ⟨q1,q2,v0,q3,R.okv,?_,rfl,?_⟩
 ·intro b' hb'
  rcases R.out with h | ⟨B,h,hi,hw⟩
  ·subst h; cases hb'
  ·subst h
   have:b'=0:=by simpa using hb'
   subst this;exact ⟨B,q4 B rfl,eY hi,hw⟩
 ·rcases R.out with h | ⟨B,h,hi,hw⟩
  ·subst h; rfl
  ·subst h
   show [B] = [jV [0] hp.sz ((st.hp.get 0).getD .dead)]
   rw [q4 B rfl];exact congrArg (fun z=>[z]) (cG hi [0] hp.sz).symm
noncomputable def nF(A:List aa→xm):aC:=atRow (fun _=>True) fun vs=>rowG vs (A vs)
theorem jR{f:FuncId}{fn:Func}{code:Code}{N:Nat}{A:List aa→xm}(hf:Tryz.prog.funcs[f]? = some fn)(hb:fn.body=some code)(hnm:(fn.name == "runtime.NumGoroutine")=false)(hN:fn.ntmps=N)
 (H:∀ vs,vs.length<1000000→∀ rest v0 O,A vs rest=some (v0,O)→lU fn code N vs rest v0 O):aq Tryz.prog f (nF A):=fA fun vs hn _=>wP hf hb hnm hN (H vs hn)
open Classical in
theorem rf{A:List aa→xm}{vs:List aa}{s:Value}{rest:List Value}{hp:Hp}{v0:Value}{O:List af}(h:TN vs s hp)(hn:vs.length<1000000)(hA:A vs rest=some (v0,O)) :
  nF A (s::rest) hp=some (sh3 (List.range O.length) hp.sz v0,heapOf (O ++ [.dead]) hp):=by
 unfold nF;rw [iU h hn trivial];show (if TN vs s hp then _ else _)=_
 rw [if_pos h,hA]; rfl
theorem yN{A:List aa→xm}{vs:List aa}{s:Value}{rest:List Value}{hp:Hp}{v0:Value}(h:TN vs s hp)(hn:vs.length<1000000)(hA:A vs rest=some (v0,[]))(hv:sh3 [] hp.sz v0=v0):nF A (s::rest) hp=some (v0,heapOf [.dead] hp):=by
 rw [rf h hn hA];show some (sh3 [] hp.sz v0,_)=_
 rw [hv]; rfl
theorem sQ{A:List aa→xm}{vs:List aa}{s:Value}{rest:List Value}{hp:Hp}{ids:List Int}(h:TN vs s hp)(hn:vs.length<1000000)(hA:A vs rest=some (rowIv ids 0,qQ ids)) :
  padF (nF A) (s::rest) hp=some (rowIv ids hp.sz,heapOf [dv ids,.dead] hp):=by
 refine EC ?_
 rw [rf h hn hA];cases ids with
 | nil=>rfl
 | cons i ids=>show some (sh3 [0] hp.sz (jd 0 _),_)=_; simp [sh3,sh2,sh1,jj,idxOf,jd,rowIv]
theorem wO(ids:List Int):qQ ids = []∨∃ B,qQ ids = [B]∧aA B=true∧mq B=true:=by
 cases ids with
 | nil=>exact .inl rfl
 | cons i ids=>exact .inr ⟨iB (i::ids),rfl,dV _,rfl⟩
theorem z6(ids:List Int):hU (rowIv ids 0)=true:=by cases ids <;> rfl
theorem ma(us:List aa):aA (jC us)=true:=by
 cases us with
 | nil=>rfl
 | cons=>exact aw _
def gl(f:Bool)(b:Nat)(B:af):List eF:=bif f then [.put b .dead,.push B] else [.push B]
theorem qt{f:Bool}{vs:List aa}{o:af}(h:f=false→vs = []∧o = .dead):kk f vs.length=vs.length:=by
 cases f with
 | true=>rfl
 | false=>rw [(h rfl).1]; rfl
section
variable (f:Bool) (o:af) (n c i:Nat) (x y:aa) (b:Bool) (g:Nat→Value)
end
theorem yX{get:Nat→Option af}{sz b b2 k:Nat}{ws:List aa}{x:aa}{f:Bool}(hf:f = !ws.isEmpty)(hb:get b=some (jC ws))(hb2:get b2=some (vB x))(hk:k=ws.length)(hl:k<2000000) :
  aAppend Tryz.prog get sz [24,24] [vS f b k 22,ae b2 1 22]=some (aW sz (k+1),gl f b (ab (ws ++ [x]))):=by
 cases ws with
 | cons w ws=>subst hf; exact GF hb hb2 hk hl
 | nil =>
   subst hf hk;obtain ⟨i,hi,h7,pg⟩:=l7;obtain ⟨z,hz,hzl⟩:=ot;have hb2':get b2=some (.cells 78 (vc x) false):=hb2
   have hsrc:aSrc Tryz.prog get 7 z (.slice 78) (ae b2 1 22)=some (vc x,1):=by
     unfold aSrc;simp only [ae,srcLen,srcCells,hb2'];rw [if_neg (by omega),if_neg (by omega),cx (n:=1*7) rfl]
     rfl
   show aAppend Tryz.prog get sz [24,24] [au,ae b2 1 22]=some (aW sz 1,[.push (ab [x])])
   unfold aAppend;simp only [Tryz.underlying24,hi,hz,h7,pg,hzl];rw [if_neg (by decide)]
   simp only [hsrc];rw [if_neg (by simp [vc,isOne])]
   simp only [au];rw [if_neg (by omega),if_neg (by omega)]
   have e:aK [x]=vc x:=by unfold aK; simp
   unfold ab;rw [e]; rfl
theorem u5{get:Nat→Option af}{sz b b2 k:Nat}{ids:List Int}{x:Int}{f:Bool}(hf:f = !ids.isEmpty)(hb:get b=some (dv ids))(hb2:get b2=some (.cells 3 [iC x] false))(hk:k=ids.length)(hl:k<2000000) :
  aAppend Tryz.prog get sz [56,56] [vI f b k,jd b2 1]=some (jd sz (k+1),gl f b (iB (ids ++ [x]))):=by
 cases ids with
 | cons w ids=>subst hf; exact GC hb hb2 hk hl
 | nil =>
   subst hf hk;obtain ⟨i,hi,h1,h8⟩:=Jq;obtain ⟨z,hz,hzl⟩:=JK;have hsrc:aSrc Tryz.prog get 1 z (.slice 3) (jd b2 1)=some ([iC x],1):=by
     unfold aSrc jd;simp only [srcLen,srcCells,hb2];rw [if_neg (by omega),if_neg (by omega),cx (n:=1*1) rfl]
     rfl
   show aAppend Tryz.prog get sz [56,56] [au,jd b2 1]=some (jd sz 1,[.push (iB [x])])
   unfold aAppend;simp only [underlying31,hi,hz,h1,h8,hzl];rw [if_neg (by decide)]
   simp only [hsrc];rw [if_neg (by simp [isOne,iC])]
   simp only [au];rw [if_neg (by omega),if_neg (by omega)]
   rfl
noncomputable def Xd(h:Hp)(sz b k b2:Nat)(f:Bool)(us:List aa):jn:=(aAppend Tryz.prog h.get sz [24,24] [vS f b k 22,ae b2 1 22],(aW sz (k+1),gl f b (ab us)))
noncomputable def XQ(h:Hp)(sz b k b2:Nat)(f:Bool)(us:List Int):jn:=(aAppend Tryz.prog h.get sz [56,56] [vI f b k,jd b2 1],(jd sz (k+1),gl f b (iB us)))
section
variable (f fu fm d fi:Bool) (o U M I:af) (n c u m i k q j:Nat) (x w:aa) (us ws zs ys:List aa) (ids jds:List Int) (g:Nat→Value)
end
theorem kP{α : Type}{l:List α}(h:l≠[]):(!l.isEmpty)=true:=by
 cases l with
 | nil=>exact absurd rfl h
 | cons=>rfl
theorem pF{α : Type}(l:List α)(x : α):(!(l ++ [x]).isEmpty)=true:=kP (by simp)
theorem pH{l:List aa}(h:l≠[]):jC l=ab l:=by
 cases l with
 | nil=>exact absurd rfl h
 | cons=>rfl
theorem ui{l:List Int}(h:l≠[]):dv l=iB l:=by
 cases l with
 | nil=>exact absurd rfl h
 | cons=>rfl
theorem qA{α : Type}(l:List α)(x : α):l ++ [x]≠[]:=by simp
section
variable {o:af} {vs us:List aa} {c i:Nat} {x:aa}
end
theorem AP{N:Nat}{W:bh}{b:Code}{kb:Nat}{α β : Type}{vs:List β}(F : α→β→α)(a0 : α)(I : α→Nat→(Nat→Value)→St)(Q : α→St→Prop)(R:Exit→St→Prop)
  (hx:∀ a g,vs.foldl F a0=a→ah Tryz.prog N W b (I a vs.length g) (fun e st=>e = .exit kb∧Q a st))
  (hs:∀ i x a g,vs[i]? = some x→i<vs.length→(vs.take i).foldl F a0=a→ah Tryz.prog N W b (I a i g) (fun e st=>(e = .normal∧∃ g',st=I (F a x) (i+1) g')∨(e = .ret∧R e st)))
  (g:Nat→Value):ah Tryz.prog N W (.block kb (.loop b)) (I a0 0 g) (fun e st=>(e = .normal∧Q (vs.foldl F a0) st)∨(e = .ret∧R e st)):=by
 refine ah.block ?_
 refine ah.loop (fun k st=>∃ i a g,i≤vs.length∧k=vs.length-i∧(vs.take i).foldl F a0=a∧st=I a i g) ?_ (k:=vs.length) ⟨0,a0,g,Nat.zero_le _,rfl,rfl,rfl⟩
 rintro k st ⟨i,a,g,hi,hk,ha,rfl⟩;rcases Nat.lt_or_ge i vs.length with hlt | hge
 ·have hxx:vs[i]? = some vs[i]:=List.getElem?_eq_getElem hlt
  refine ah.mono (hs i vs[i] a g hxx hlt ha) fun e st q=>?_
  rcases q with ⟨rfl,g',rfl⟩ | ⟨rfl,hr⟩
  ·exact .inl ⟨rfl,vs.length-(i+1),by omega,i+1,_,g',by omega,rfl,by rw [si hxx,ha],rfl⟩
  ·exact .inr ⟨by simp,.inr ⟨rfl,hr⟩⟩
 ·have hii:i=vs.length:=by omega
  subst hii;rw [List.take_length] at ha;refine ah.mono (hx a g ha) fun e st q=>.inr ?_
  obtain ⟨rfl,hq⟩:=q;refine ⟨by simp,?_⟩
  show (if kb=kb then _ else _)
  rw [if_pos rfl];exact .inl ⟨rfl,by rw [ha]; exact hq⟩
theorem ju{N:Nat}{W:bh}{b:Code}{kb:Nat}{α β : Type}{vs:List β}(F : α→β→α)(a0 : α)(I : α→Nat→(Nat→Value)→St)(Q : α→St→Prop)
  (hx:∀ a g,vs.foldl F a0=a→ah Tryz.prog N W b (I a vs.length g) (fun e st=>e = .exit kb∧Q a st))
  (hs:∀ i x a g,vs[i]? = some x→i<vs.length→(vs.take i).foldl F a0=a→ah Tryz.prog N W b (I a i g) (fun e st=>e = .normal∧∃ g',st=I (F a x) (i+1) g'))
  (g:Nat→Value):ah Tryz.prog N W (.block kb (.loop b)) (I a0 0 g) (fun e st=>e = .normal∧Q (vs.foldl F a0) st) :=
 ah.mono (AP F a0 I Q (fun _ _=>False) hx (fun i x a g h1 h2 h3=>ah.mono (hs i x a g h1 h2 h3) fun e st q=>.inl q) g) fun e st q=>by
  rcases q with q | ⟨-,h⟩
  ·exact q
  ·exact h.elim
def unH:Value→Option aa
 | .agg cs=>match cs.toList with
   | [.bool n,.int .i64 t,.int .i64 o,.int .i64 r,.int .i64 d,.int .i64 i]=>some ⟨0,n,t,o,r,d,i⟩
   | _=>none
 | _=>none
theorem nG{v:Value}{y:aa}(h:unH v=some y):v=cP y:=by
 unfold unH at h;split at h
 ·rename_i cs
  split at h
  ·rename_i n t o r d i hcs
   cases h;obtain rfl:=cN hcs;rfl
  ·cases h
 ·cases h
def Dt(p:aa→Bool)(us:List aa)(x:aa):List aa:=bif p x then us ++ [x] else us
theorem qi{p:aa→Bool}:∀ {vs us:List aa},vs.foldl (Dt p) us=us++vs.filter p
 | [],us=>by simp
 | v::vs,us=>by
   rw [List.foldl_cons,qi];unfold Dt;cases h:p v with
   | true=>rw [List.filter_cons_of_pos h]; simp
   | false=>rw [List.filter_cons_of_neg (by rw [h]; simp)]; rfl
section
variable (f fu fi b:Bool) (o U I:af) (n c u i q:Nat) (x own:aa) (zs:List aa) (ids:List Int) (g:Nat→Value)
end
section
variable (f fu fi b:Bool) (o U I:af) (n c u i q:Nat) (x own:aa) (zs:List aa) (ids:List Int) (g:Nat→Value)
end
section
variable (f fu:Bool) (o U:af) (n c u i:Nat) (lt lo lr keep:Int) (x:aa) (zs:List aa) (g:Nat→Value)
def Pt(o U:af)(lt lo lr:Int):Hp:=heapOf ([o,U,oM lt lo lr] ++ [.dead]) aE
end
def AI_unL:Value→Option (Int×Int×Int)
 | .agg cs=>match cs.toList with
   | [.int .i64 a,.int .i64 b,.int .i64 c]=>some (a,b,c)
   | _=>none
 | _=>none
theorem rp{v:Value}{a b c:Int}(h:AI_unL v=some (a,b,c)):v=jz a b c:=by
 unfold AI_unL at h;split at h
 ·rename_i cs
  split at h
  ·rename_i n t o hcs
   cases h;obtain rfl:=cN hcs;rfl
  ·cases h
 ·cases h
theorem qw{α β : Type}{m : α→β}:∀ {vs:List α} {us:List β},vs.foldl (fun us x=>us ++ [m x]) us=us++vs.map m
 | [],us=>by simp
 | v::vs,us=>by rw [List.foldl_cons,qw]; simp
noncomputable def N7:aC:=padF (atRow (fun _=>True) g29)
theorem PL:aq Tryz.prog 169 N7:=hZ (fA fun vs hn _=>TW vs hn)
end Go.Proofs.YtgeoommlmddgpaaGreat.LtA
namespace Go.Proofs.YtgeoommlmddgpaaGreat.LtA
open Go Go.Proofs Go.Proofs.YtgeoommlmddgpaaGreat.AI Go.RowKit
section
variable {hp:Hp}
theorem Kd{vs:List aa}{s:Value}(y:aa)(h:TN vs s hp)(hn:vs.length<1000000):SN [s,.int .i64 y.id,cP y] hp=match aF vs&&cU y with
  | true=>some (.tuple #[ae hp.sz (cD vs y).length (setC s vs y.id),iN 0],heapOf [ab (cD vs y),.dead] hp)
  | false=>some (.tuple #[au,iN 1],heapOf [.dead] hp):=by
 unfold SN;rw [iU h hn trivial,Ma y h];all_goals cases (aF vs&&cU y) <;> rfl
end
end Go.Proofs.YtgeoommlmddgpaaGreat.LtA
namespace Go.Proofs.YtgeoommlmddgpaaGreat.LtL
open Go Go.Proofs Go.Proofs.YtgeoommlmddgpaaGreat.AI Go.RowKit Go.Proofs.YtgeoommlmddgpaaGreat.Sort Go.Proofs.YtgeoommlmddgpaaGreat.LtA
def ab(us:List aa):af:=.cells 151 (aK us) false
def vB(x:aa):af:=.cells 151 (vc x) false
theorem aw(vs:List aa):aA (.cells 151 (aK vs) false)=true:=dG vs
theorem bp(us:List aa):∀ r:List af,∀ i,i<1→∀ o',(ab us::r)[i]? = some o'→dw 0 o':=cq (aw us)
theorem yw:bZ Tryz.prog 151=some 7:=by kernel_rfl
theorem O9:tagg Tryz.prog 151=some true:=by kernel_rfl
theorem underlying80:Tryz.prog.underlying 149=some (.slice 151):=by kernel_rfl
theorem bH{b n i c:Nat}(h:i<n):fstV ((aIndexAddr Tryz.prog 149 (ae b n c) (iN i)).map fun v=>(v,none))=some (.pointer (some ⟨b,i*7,none⟩)):=by
 have h1:(0:Int)≤Int.ofNat i∧Int.ofNat i<(n:Int):=⟨Int.natCast_nonneg i,by simpa using h⟩
 simp only [aIndexAddr,ae,iN,underlying80,yw];rw [if_pos h1];simp [fstV]
theorem bM{hp:Hp}{b:Nat}{vs:List aa}{i:Nat}{p:aa}(ho:ez hp b vs)(h:vs[i]? = some p):aLoad Tryz.prog hp.get 151 (.pointer (some ⟨b,i*7,none⟩))=some (.agg ⟨vc p⟩):=by
 obtain ⟨ty,ro,rest,hg⟩:=ho;simp only [aLoad,hg,O9,yw];have:=kM (f:=vc) (k:=7) (ps:=vs) (fun _ _=>rfl) h
 unfold aK;rw [vG this];rfl
noncomputable def gV(b n c:Nat)(i:Nat):db:=(fstV ((aIndexAddr Tryz.prog 149 (ae b n c) (iN i)).map fun v=>(v,none)),pb b (i*7))
def Fc:Value:=.func (.func 126) #[] #[]
theorem Qv{m:BM}{h:HG}{v:Value}(r:aj m h Fc v):v=Fc:=by
 unfold Fc at *;cases r with
 | flat hf=>rfl
 | func h1 h2 h3 h4 =>
   rename_i a' c';have e1:a' = #[]:=Array.eq_empty_of_size_eq_zero h1.symm
   have e2:c' = #[]:=Array.eq_empty_of_size_eq_zero h3.symm
   subst e1 e2;rfl
def cL(us:List aa)(s:Value)(hp:Hp):Prop:=∃ b c,s=ae b us.length c∧hp.get b=some (ab us)
theorem cL.uniq{us vs:List aa}{s:Value}{hp:Hp}(h1:cL us s hp)(h2:cL vs s hp):us=vs:=by
 obtain ⟨b,c,rfl,hb⟩:=h1;obtain ⟨b',c',e,hb'⟩:=h2;simp only [ae,Value.slice.injEq,Option.some.injEq,Addr.mk.injEq,and_true] at e;obtain ⟨rfl,-,-⟩:=e;rw [hb] at hb';simp only [ab,Option.some.injEq,af.cells.injEq,true_and,and_true] at hb';exact rB hb'
open Classical in
noncomputable def atW(k:List aa→aC):aC:=fun args hp=>match args with
 | s::_=>if h:∃ us,cL us s hp∧us.length<1000000 then k h.choose args hp else none
 | _=>none
theorem fP{f:FuncId}{k:List aa→aC}(h:∀ us,us.length<1000000→aq Tryz.prog f (k us)):aq Tryz.prog f (atW k):=by
 intro args hp v hp' he hk;unfold atW at he;split at he
 case h_2=>cases he
 split at he
 ·rename_i hx
  exact h _ hx.choose_spec.2 _ _ _ _ he hk
 ·cases he
theorem lW{k:List aa→aC}{us:List aa}{s:Value}{r:List Value}{hp:Hp}(h:cL us s hp)(hn:us.length<1000000):atW k (s::r) hp=k us (s::r) hp:=by
 unfold atW;have hx:∃ us,cL us s hp∧us.length<1000000:=⟨us,h,hn⟩
 simp only;rw [dif_pos hx];rw [hx.choose_spec.1.uniq h]
def hW(us:List aa):Hp:=heapOf ([ab us] ++ [.dead]) aE
theorem dz(us:List aa):(hW us).get 0=some (ab us):=by unfold hW; rw [ak]; rfl
theorem fk(us:List aa):ez (hW us) 0 us:=.of (dz us)
noncomputable def yz(h:Hp)(i:Nat)(v:aa)(us':List aa):jn:=((aStore Tryz.prog h.get 151 (pb 0 (i*7)) (.agg ⟨vc v⟩)).map fun es=>(undef,es),(undef,[.put 0 (ab us')]))
theorem jL{h:Hp}{us:List aa}{i:Nat}{v:aa}(hg:h.get 0=some (ab us))(hi:i<us.length):(yz h i v (us.set i v)).1=some (yz h i v (us.set i v)).2:=by
 obtain ⟨x,hx⟩:∃ x,us[i]? = some x:=⟨_,List.getElem?_eq_getElem hi⟩
 have hcell:cellsL (.agg ⟨vc v⟩)=vc v:=rfl
 have hput:=pM (k:=0) (y:=v) (ns:=vc v) hx (by simp [vc]) (fun j hj=>by
  rw [if_pos ⟨Nat.zero_le _,by show j<0+7; omega⟩,Nat.sub_zero])
 rw [Nat.add_zero] at hput;unfold ab at hg;unfold yz pb;simp only [aStore,hg,yw,hcell];rw [if_pos]
 ·rw [hput]; rfl
 ·rw [Bool.and_eq_true,Bool.and_eq_true]
  refine ⟨⟨rfl,rfl⟩,decide_eq_true ?_⟩
  rw [bT]; omega
theorem nm{h:Hp}{us:List aa}:(h.put 0 (ab us)).get 0=some (ab us):=by rw [Hp.dy,if_pos rfl]
theorem eU{h:Hp}{us:List aa}{i:Nat}{x:aa}(hat:ez h 0 us)(hx:us[i]? = some x):(j4 h.get 151 0 (i*7) (.agg ⟨vc x⟩)).1=some (j4 h.get 151 0 (i*7) (.agg ⟨vc x⟩)).2:=bM hat hx
theorem de{i n c:Nat}(h:i<n):(gV 0 n c i).1=some (gV 0 n c i).2:=bH h
noncomputable def Jg:Code:=(Tryz.f219.body).getD .skip
noncomputable def CB:Code:=sL Jg
noncomputable def y6:Code:=mr (jh (sR Jg))
noncomputable abbrev zg:Code:=.seq CB (.block 0 (.loop y6))
theorem GM:Tryz.f219.body=some zg:=by kernel_rfl
theorem ntmps114:Tryz.f219.ntmps=38:=by kernel_rfl
theorem R8:codeSafe Tryz.prog 38 CB=true:=by kernel_rfl
theorem JD:codeSafe Tryz.prog 38 y6=true:=by kernel_rfl
theorem UW(O:List af)(g:Nat→Value):retVal Tryz.prog Tryz.f219 (av 38 g [] O)=some vU:=by kernel_rfl
section
variable (us us1 us2:List aa) (n c a m k i:Nat) (x y:aa) (f:Value) (g:Nat→Value)
abbrev Gt(us:List aa)(i:Nat)(g:Nat→Value):St:=av 38 g [(0,ae 0 n c),(1,iN a),(2,iN m),(3,iN k),(10,iN i)] [ab us]
theorem Q9:(execE Tryz.prog c0 [] [] [] 10 CB ⟨tmsOf [ae 0 n c,iN a,iN m,iN k,f] 0 .leaf,heapOf [ab us,.dead] aE,[]⟩).map (fun z=>(look2 1 [0] [0,1,2,3,10] (z.1,z.2.1),z.2.2)) =
 some ((.normal,[ab us],[(0,ae 0 n c),(1,iN a),(2,iN m),(3,iN k),(10,iN 0)],true),[],[],[]):=by kernel_rfl
theorem Rb:(execE Tryz.prog c0 [(13,.bool false)] [] [] 10 y6 (Gt n c a m k us i g)).map (fun z=>(look2 1 [0] [] (z.1,z.2.1),z.2.2))=some ((.exit 0,[ab us],[],true),[iD i k false],[],[]):=by kernel_rfl
theorem Ra:(execE Tryz.prog c0 [(13,.bool true),(19,iN (a+i)),(23,iN (m+i)),(27,iN (m+i)),(28,pb 0 ((m+i)*7)),(29,.agg ⟨vc y⟩),(33,iN (a+i)),(34,pb 0 ((a+i)*7)),(35,.agg ⟨vc x⟩),(36,pb 0 ((a+i)*7)),(37,pb 0 ((m+i)*7)),(15,iN (i+1))] []
  [(1036,undef,[.put 0 (ab us1)]),(1037,undef,[.put 0 (ab us2)])] 10 y6 (Gt n c a m k us i g)).map (fun z=>(look2 1 [0] [0,1,2,3,10] (z.1,z.2.1),z.2.2)) =
 some ((.normal,[ab us2],[(0,ae 0 n c),(1,iN a),(2,iN m),(3,iN k),(10,iN (i+1))],true),
  [iD i k true,yW a i,yW m i,yW m i,gV 0 n c (m+i),j4 (hW us).get 151 0 ((m+i)*7) (.agg ⟨vc y⟩),yW a i,gV 0 n c (a+i),j4 (hW us).get 151 0 ((a+i)*7) (.agg ⟨vc x⟩),gV 0 n c (a+i),gV 0 n c (m+i),dI i],[],
  [yz (hW us) (a+i) y us1,yz ((hW us).put 0 (ab us1)) (m+i) x us2]):=by kernel_rfl
end
def uQ(N:Nat)(us:List aa)(e:Exit)(st:St):Prop:=e = .normal∧∃ g,st=av N g [] [ab us]
theorem IB{A X B Y C us:List aa}{n c a m k:Nat}{f:Value}(hus:us=A++X++B++Y++C)(hX:X.length=k)(hY:Y.length=k)(hA:A.length=a)(hm:m=a+k+B.length)(hn:n=us.length)(hl:n<1000000)(W:bh)(x:Nat×Nat×Nat) :
  a8 Tryz.prog 38 W x zg ⟨tmsOf [ae 0 n c,iN a,iN m,iN k,f] 0 .leaf,heapOf [ab us,.dead] aE,[]⟩ (uQ 38 (A++Y++B++X++C)):=by
 refine a8.seq (Q1:=fun e st=>e = .normal∧∃ g,st=Gt n c a m k us 0 g) (a8.piece jU follows 1 _ _ _ _ (Q9 us n c a m k f) Met.nil ay.nil az.nil R8 rfl rfl (bp us []) rfl fun g=>⟨rfl,g,rfl⟩) ?_ (fun x st hne hq=>absurd hq.1 hne)
 rintro st ⟨-,g,rfl⟩;refine a8.block ?_
 refine a8.loop (fun j st=>∃ X1 X2 Y1 Y2 g,X=X1++X2∧Y=Y1++Y2∧X1.length=Y1.length∧j=X2.length∧st=Gt n c a m k (A++Y1++X2++B++X1++Y2++C) X1.length g) ?_ (k:=X.length)
  ⟨[],X,[],Y,g,rfl,rfl,rfl,rfl,by simp [hus]⟩
 rintro j st ⟨X1,X2,Y1,Y2,g,rfl,rfl,h1,rfl,rfl⟩;rw [List.length_append] at hX hY;cases h13:decide (X1.length<k) with
 | false =>
   have hz:X2 = []:=List.eq_nil_of_length_eq_zero (by have:=of_decide_eq_false h13; omega)
   have hz2:Y2 = []:=List.eq_nil_of_length_eq_zero (by have:=of_decide_eq_false h13; omega)
   subst hz hz2;refine a8.piece jU follows 1 _ _ _ _ (Rb (A++Y1 ++ []++B++X1 ++ []++C) n c a m k X1.length g) (Met.cons (bu h13) Met.nil) ay.nil az.nil JD rfl rfl (bp _ []) rfl fun g'=>.inr ⟨by simp,?_⟩
   show (if (0:Nat)=0 then _ else _)
   rw [if_pos rfl];exact ⟨rfl,g',by simp⟩
 | true =>
   have hlt:=of_decide_eq_true h13
   match X2,Y2 with
   | [],_=>simp at hX; omega
   | _::_,[]=>simp at hY hX; omega
   | x'::X2,y'::Y2 =>
     have e1:A++Y1++x'::X2++B++X1++y'::Y2++C=(A++Y1)++x'::(X2++B++X1++y'::Y2++C):=by simp
     have e2:(A++Y1)++y'::(X2++B++X1++y'::Y2++C)=(A++Y1 ++ [y']++X2++B++X1)++y'::(Y2++C):=by simp
     have e3:A++Y1++x'::X2++B++X1++y'::Y2++C=(A++Y1++x'::X2++B++X1)++y'::(Y2++C):=by simp
     have p1:(A++Y1).length=a+X1.length:=by simp; omega
     simp only [List.length_cons] at hX hY;have p2:(A++Y1 ++ [y']++X2++B++X1).length=m+X1.length:=by simp; omega
     have p3:(A++Y1++x'::X2++B++X1).length=m+X1.length:=by simp; omega
     have hlen:(A++Y1++x'::X2++B++X1++y'::Y2++C).length=n:=by rw [hn,hus]; simp; omega
     have hi1:a+X1.length<n:=by rw [← hlen]; simp; omega
     have hi2:m+X1.length<n:=by rw [← hlen]; simp; omega
     generalize hcur:A++Y1++x'::X2++B++X1++y'::Y2++C=cur at *;have hx:cur[a+X1.length]? = some x':=by rw [e1]; exact iA p1
     have hy:cur[m+X1.length]? = some y':=by rw [e3]; exact iA p3
     have s1:cur.set (a+X1.length) y'=(A++Y1)++y'::(X2++B++X1++y'::Y2++C):=by rw [e1]; exact iF p1
     have s2:(cur.set (a+X1.length) y').set (m+X1.length) x'=A++(Y1 ++ [y'])++X2++B++(X1 ++ [x'])++Y2++C:=by
       rw [s1,e2,iF p2]; simp
     refine a8.piece jU follows 1 _ _ _ _ (Ra cur (cur.set (a+X1.length) y') ((cur.set (a+X1.length) y').set (m+X1.length) x') n c a m k X1.length x' y' g)
       (Met.cons (bu h13) (Met.cons (gL (by omega)) (Met.cons (gL (by omega)) (Met.cons (gL (by omega)) (Met.cons (de hi2) (Met.cons (eU (fk _) hy) (Met.cons (gL (by omega)) (Met.cons (de hi1) (Met.cons (eU (fk _) hx) (Met.cons (de hi1) (Met.cons (de hi2) (Met.cons (bz (by omega)) Met.nil))))))))))))
       ay.nil (az.cons (jL (dz _) (by omega)) (az.cons (jL nm (by rw [List.length_set]; omega)) az.nil)) JD rfl rfl (bp _ []) rfl fun g'=>.inl ⟨rfl,X2.length,by simp,X1 ++ [x'],X2,Y1 ++ [y'],Y2,g',by simp,by simp,by simp; omega,rfl,?_⟩
     rw [s2,List.length_append];rfl
open Classical in
noncomputable def g114(us:List aa):aC:=fun args hp=>match args with
 | [.slice (some ⟨b,0,none⟩) n c,.int .i64 (.ofNat a),.int .i64 (.ofNat m),.int .i64 (.ofNat k),f] =>
   if f=Fc∧cL us (.slice (some ⟨b,0,none⟩) n c) hp∧a+k≤m∧m+k≤us.length then some (vU,hp.put b (ab (w4 us a m k))) else none
 | _=>none
theorem uu{us:List aa}{b n c:Nat}{hp:Hp}(hk:hp.ok)(hb:hp.get b=some (ab us)){m:BM}{h:HG}{v:Value}(r:aj m (aM hp h) (ae b n c) v):∃ x,m b=some x∧aj (canM m [b]) (heapOf [ab us,.dead] aE).get (ae 0 n c) v:=by
 obtain ⟨_,_,rr,oo,cap,q1,rfl,hcap,hh⟩:=r.dM;cases q1;have gb:=bq hk h b _ hb
 rcases hh with hd | ⟨δ,E,hm,hoff,hcok⟩
 ·rw [gb] at hd; cases hd
 ·exact ⟨_,hm,.slice hcap (.inr ⟨δ,E,hm,hoff,hcok⟩)⟩
theorem BK{m m':BM}{h h':HG}{v:Value}(r:aj m h Fc v):aj m' h' Fc v:=by
 rw [Qv r]; exact aj.plain rfl
theorem Py(us:List aa)(hn:us.length<1000000):aq Tryz.prog 219 (g114 us):=ic follows Tryz.func219 GM (by kernel_rfl) fun args hp v hp' he hk=>by
 unfold g114 at he;split at he
 case h_2=>cases he
 rename_i b n c a m k f;split at he
 case isFalse=>cases he
 rename_i hT;cases he;obtain ⟨rfl,⟨b',c',e,hb⟩,h1,h2⟩:=hT;simp only [ae,Value.slice.injEq,Option.some.injEq,Addr.mk.injEq,and_true] at e;obtain ⟨rfl,rfl,rfl⟩:=e;refine ⟨b,151,aK us,aK (w4 us a m k),rfl,hb,dG _,dG _,fun mm h w args' s ra=>?_⟩
 obtain ⟨v1,bs1,e1,r1,ra1⟩:=ra.of_cons;obtain ⟨v2,bs2,e2,r2,ra2⟩:=ra1.of_cons;obtain ⟨v3,bs3,e3,r3,ra3⟩:=ra2.of_cons;obtain ⟨v4,bs4,e4,r4,ra4⟩:=ra3.of_cons;obtain ⟨v5,bs5,e5,r5,ra5⟩:=ra4.of_cons;have e6:=ra5.of_nil
 subst e6;obtain ⟨x,hx,rx⟩:=uu hk hb (n:=us.length) (c:=c) r1;refine ⟨x,hx,[ae 0 us.length c,iN a,iN m,iN k,Fc],?_,by rw [ntmps114]; simp,fun W x=>?_⟩
 ·rw [e1,e2,e3,e4,e5]
  exact .cons rx (.cons (pE r2) (.cons (pE r3) (.cons (pE r4) (.cons (BK r5) .nil))))
 ·rw [ntmps114]
  have vO:((us.drop a).take k).length=k:=by simp; omega
  have hl2:((us.drop m).take k).length=k:=by simp; omega
  refine a8.mono (IB (f:=Fc) (TG h1 h2) vO hl2 (by simp; omega) (by simp; omega) rfl hn W x) fun e st q=>?_
  obtain ⟨rfl,g,rfl⟩:=q;exact ⟨.inl rfl,rfl,vU,UW _ g,fun m h m' h' v r=>FY r,by show (heapOf _ aE).get 0=_; rw [ak]; rfl⟩
noncomputable def BP:aC:=atW g114
theorem Mr:aq Tryz.prog 219 BP:=fP fun us hn=>Py us hn
open Classical in
theorem ta{A X B Y C us:List aa}{b n c a m k:Nat}{hp:Hp}(hus:us=A++X++B++Y++C)(hX:X.length=k)(hY:Y.length=k)(hA:A.length=a)(hm:m=a+k+B.length)(hn:n=us.length)(hl:n<1000000)(hb:hp.get b=some (ab us)) :
  BP [ae b n c,iN a,iN m,iN k,Fc] hp=some (vU,hp.put b (ab (A++Y++B++X++C))):=by
 subst hn;have hr:cL us (ae b us.length c) hp:=⟨b,c,rfl,hb⟩
 unfold BP;rw [lW hr hl];show (if Fc=Fc∧cL us (ae b us.length c) hp∧a+k≤m∧m+k≤us.length then some (vU,hp.put b (ab (w4 us a m k))) else none)=_
 rw [if_pos ⟨rfl,hr,by omega,by rw [hus]; simp; omega⟩,hus,Fw hX hY hA hm]
theorem vP{m m':BM}{h h':HG}:∀ {is:List Nat} {l:List Value},aD m h (is.map iN ++ [Fc]) l→aD m' h' (is.map iN ++ [Fc]) l
 | [],l,r=>by
   obtain ⟨v,bs,rfl,r1,r2⟩:=aD.of_cons (show aD m h (Fc :: []) l from r)
   have:=r2.of_nil
   subst this;exact .cons (BK r1) .nil
 | i::is,l,r=>by
   obtain ⟨v,bs,rfl,r1,r2⟩:=aD.of_cons (show aD m h (iN i::(is.map iN ++ [Fc])) l from r)
   exact .cons (pE r1) (vP r2)
theorem ky{fn:Func}{code:Code}{us us':List aa}{b c:Nat}{is:List Nat}{hp:Hp}(hk:hp.ok)(hb:hp.get b=some (ab us))(hlen:is.length+2≤fn.ntmps)
  (run:∀ W x,a8 Tryz.prog fn.ntmps W x code ⟨tmsOf (ae 0 us.length c::(is.map iN ++ [Fc])) 0 .leaf,heapOf [ab us,.dead] aE,[]⟩ (fun e st=>(e = .normal∨e = .ret)∧st.df = []∧retVal Tryz.prog fn st=some vU∧st.hp.get 0=some (ab us'))) :
  ∃ (b':Nat) (ty:TypeId) (L L':List Value),hp.put b (ab us')=hp.put b' (.cells ty L' false)∧hp.get b'=some (.cells ty L false)∧L.all inert=true∧L'.all inert=true ∧
    ∀ (m:BM) (h:HG) (w:World) (args':Array Value),cg m (aM hp h) w→aD m (aM hp h) (ae b us.length c::(is.map iN ++ [Fc])) args'.toList→∃ x,m b'=some x ∧
      ∃ (args0:List Value),aD (canM m [b']) (heapOf [.cells ty L false,.dead] aE).get args0 args'.toList∧args0.length≤fn.ntmps ∧
      ∀ W x,a8 Tryz.prog fn.ntmps W x code ⟨tmsOf args0 0 .leaf,heapOf [.cells ty L false,.dead] aE,[]⟩ fun e st=>(e = .normal∨e = .ret)∧st.df = []∧∃ v0,retVal Tryz.prog fn st=some v0 ∧
        (∀ m h m' h' x,aj m h v0 x→aj m' h' vU x)∧st.hp.get 0=some (.cells ty L' false):=by
 refine ⟨b,151,aK us,aK us',rfl,hb,dG _,dG _,fun mm h w args' s ra=>?_⟩
 obtain ⟨v1,bs1,e1,r1,ra1⟩:=ra.of_cons;obtain ⟨x,hx,rx⟩:=uu hk hb (n:=us.length) (c:=c) r1;refine ⟨x,hx,ae 0 us.length c::(is.map iN ++ [Fc]),?_,by simp; omega,fun W x=>a8.mono (run W x) fun e st q=>?_⟩
 ·rw [e1]
  exact .cons rx (vP ra1)
 ·exact ⟨q.1,q.2.1,vU,q.2.2.1,fun m h m' h' v r=>FY r,q.2.2.2⟩
noncomputable def JQ:Ext:=fh (cS Tryz.prog []) [(219,BP)]
theorem Gc:ExtOk Tryz.prog JQ:=bC (aT .nil) (.cons Mr .nil)
noncomputable def mO:aG:=aCall Tryz.prog JQ 5
theorem kL:ba Tryz.prog mO:=aQ Gc follows 5
theorem p9(args:List Value)(hp:Hp):mO 219 args hp=BP args hp:=by
 show aCall Tryz.prog JQ 5 219 _ _=_
 rw [aCall]; rfl
noncomputable def zn:Code:=(Tryz.f209.body).getD .skip
noncomputable def Cy:Code:=sL zn
noncomputable def Cz:Code:=sL (sR zn)
noncomputable def vj:Code:=mr (jh (sL (sR (sR zn))))
noncomputable def CA:Code:=sR (sR (sR zn))
noncomputable abbrev zf:Code:=.seq Cy (.seq Cz (.seq (.block 0 (.loop vj)) CA))
theorem GL:Tryz.f209.body=some zf:=by kernel_rfl
theorem ntmps111:Tryz.f209.ntmps=58:=by kernel_rfl
theorem R5:codeSafe Tryz.prog 58 Cy=true:=by kernel_rfl
theorem R6:codeSafe Tryz.prog 58 Cz=true:=by kernel_rfl
theorem EY:codeSafe Tryz.prog 58 vj=true:=by kernel_rfl
theorem R7:codeSafe Tryz.prog 58 CA=true:=by kernel_rfl
theorem UU(O:List af)(g:Nat→Value):retVal Tryz.prog Tryz.f209 (av 58 g [] O)=some vU:=by kernel_rfl
section
variable (us us':List aa) (n c a m b i j:Nat) (g:Nat→Value)
abbrev Ol(us:List aa)(g:Nat→Value):St:=av 58 g [(0,ae 0 n c),(2,iN m),(3,iN b),(4,Fc),(10,iN (m-a))] [ab us]
abbrev xx(us:List aa)(i j:Nat)(g:Nat→Value):St:=av 58 g [(0,ae 0 n c),(2,iN m),(4,Fc),(10,iN i),(11,iN j)] [ab us]
theorem Q3:(execE Tryz.prog mO [(14,iN (m-a))] [] [] 10 Cy ⟨tmsOf [ae 0 n c,iN a,iN m,iN b,Fc] 0 .leaf,heapOf [ab us,.dead] aE,[]⟩).map (fun z=>(look2 1 [0] [0,2,3,4,10] (z.1,z.2.1),z.2.2)) =
 some ((.normal,[ab us],[(0,ae 0 n c),(2,iN m),(3,iN b),(4,Fc),(10,iN (m-a))],true),[rG m a],[],[]):=by kernel_rfl
theorem Q4:(execE Tryz.prog mO [(17,iN (b-m))] [] [] 10 Cz (Ol n c a m b us g)).map (fun z=>(look2 1 [0] [0,2,4,10,11] (z.1,z.2.1),z.2.2)) =
 some ((.normal,[ab us],[(0,ae 0 n c),(2,iN m),(4,Fc),(10,iN (m-a)),(11,iN (b-m))],true),[rG b m],[],[]):=by kernel_rfl
theorem Q8:(execE Tryz.prog mO [(20,.bool false)] [] [] 10 vj (xx n c m us i j g)).map (fun z=>(look2 1 [0] [0,2,4,10,11] (z.1,z.2.1),z.2.2)) =
 some ((.exit 0,[ab us],[(0,ae 0 n c),(2,iN m),(4,Fc),(10,iN i),(11,iN j)],true),[El i j false],[],[]):=by kernel_rfl
theorem Q5:(execE Tryz.prog mO [(20,.bool true),(23,.bool true),(27,iN (m-i)),(34,iN (i-j))] [] [(31,vU,[.put 0 (ab us')])] 10 vj (xx n c m us i j g)).map (fun z=>(look2 1 [0] [0,2,4,10,11] (z.1,z.2.1),z.2.2)) =
 some ((.normal,[ab us'],[(0,ae 0 n c),(2,iN m),(4,Fc),(10,iN (i-j)),(11,iN j)],true),[El i j true,DG i j true,rG m i,rG i j],[(mO 219 [ae 0 n c,iN (m-i),iN m,iN j,Fc] (hW us),(vU,(hW us).put 0 (ab us')))],[]):=by kernel_rfl
theorem Q6:(execE Tryz.prog mO [(20,.bool true),(23,.bool false),(38,iN (m-i)),(41,iN (m+j)),(43,iN (m+j-i)),(49,iN (j-i))] [] [(46,vU,[.put 0 (ab us')])] 10 vj (xx n c m us i j g)).map (fun z=>(look2 1 [0] [0,2,4,10,11] (z.1,z.2.1),z.2.2)) =
 some ((.normal,[ab us'],[(0,ae 0 n c),(2,iN m),(4,Fc),(10,iN i),(11,iN (j-i))],true),[El i j true,DG i j false,rG m i,yW m j,rG (m+j) i,rG j i],[(mO 219 [ae 0 n c,iN (m-i),iN (m+j-i),iN i,Fc] (hW us),(vU,(hW us).put 0 (ab us')))],[]):=by kernel_rfl
theorem Q7:(execE Tryz.prog mO [(53,iN (m-i))] [] [(57,vU,[.put 0 (ab us')])] 10 CA (xx n c m us i j g)).map (fun z=>(look2 1 [0] [] (z.1,z.2.1),z.2.2)) =
 some ((.normal,[ab us'],[],true),[rG m i],[(mO 219 [ae 0 n c,iN (m-i),iN m,iN i,Fc] (hW us),(vU,(hW us).put 0 (ab us')))],[]):=by kernel_rfl
end
theorem NA{A X Y C us:List aa}{n c a m b:Nat}(hus:us=A++X++Y++C)(hA:A.length=a)(hm:m=a+X.length)(hb:b=m+Y.length)(hX:0<X.length)(hY:0<Y.length)(hn:n=us.length)(hl:n<1000000)(W:bh)(x:Nat×Nat×Nat) :
  a8 Tryz.prog 58 W x zf ⟨tmsOf [ae 0 n c,iN a,iN m,iN b,Fc] 0 .leaf,heapOf [ab us,.dead] aE,[]⟩ (uQ 58 (A++Y++X++C)):=by
 have hlen:us.length=a+X.length+Y.length+C.length:=by rw [hus]; simp; omega
 refine a8.seq (Q1:=fun e st=>e = .normal∧∃ g,st=Ol n c a m b us g) (a8.piece kL follows 1 _ _ _ _ (Q3 us n c a m b) (Met.cons (dF (by omega) (by omega)) Met.nil) ay.nil az.nil R5 rfl rfl (bp us []) rfl fun g=>⟨rfl,g,rfl⟩) ?_ (fun x st hne hq=>absurd hq.1 hne)
 rintro st ⟨-,g,rfl⟩;refine a8.seq (Q1:=fun e st=>e = .normal∧∃ g,st=xx n c m us (m-a) (b-m) g) (a8.piece kL follows 1 _ _ _ _ (Q4 us n c a m b g) (Met.cons (dF (by omega) (by omega)) Met.nil) ay.nil az.nil R6 rfl rfl (bp us []) rfl fun g=>⟨rfl,g,rfl⟩) ?_ (fun x st hne hq=>absurd hq.1 hne)
 rintro st ⟨-,g,rfl⟩;refine a8.seq (Q1:=fun e st=>e = .normal∧∃ A' X' Y' C' g,A'++Y'++X'++C'=A++Y++X++C∧A'.length+X'.length=m∧X'.length=Y'.length∧st=xx n c m (A'++X'++Y'++C') X'.length Y'.length g) ?_ ?_ (fun x st hne hq=>absurd hq.1 hne)
 ·refine a8.block ?_
  refine a8.loop (fun k st=>∃ A' X' Y' C' g,A'++Y'++X'++C'=A++Y++X++C∧A'.length+X'.length=m∧0<X'.length∧0<Y'.length∧k=X'.length+Y'.length∧st=xx n c m (A'++X'++Y'++C') X'.length Y'.length g) ?_ (k:=X.length+Y.length)
    ⟨A,X,Y,C,g,rfl,by omega,hX,hY,rfl,by rw [hus,show m-a=X.length by omega,show b-m=Y.length by omega]⟩
  rintro k st ⟨A',X',Y',C',g,hT,hAm,h1,h2,hk,rfl⟩;have hln:(A'++X'++Y'++C').length=n:=by
    have:=congrArg List.length hT
    simp at this ⊢;omega
  have hle:A'.length+X'.length+Y'.length+C'.length=n:=by rw [← hln]; simp; omega
  cases h20:(X'.length != Y'.length) with
  | false =>
    have heq:X'.length=Y'.length:=by simpa using h20
    refine a8.piece kL follows 1 _ _ _ _ (Q8 (A'++X'++Y'++C') n c m X'.length Y'.length g) (Met.cons (yh h20) Met.nil) ay.nil az.nil EY rfl rfl (bp _ []) rfl fun g'=>.inr ⟨by simp,?_⟩
    show (if (0:Nat)=0 then _ else _)
    rw [if_pos rfl];exact ⟨rfl,A',X',Y',C',g',hT,hAm,heq,rfl⟩
  | true =>
    have hne:X'.length≠Y'.length:=by simpa using h20
    cases h23:decide (Y'.length<X'.length) with
    | true =>
      have hlt:=of_decide_eq_true h23
      obtain ⟨X1,X2,rfl,hX1⟩:∃ X1 X2,X'=X1++X2∧X1.length=Y'.length:=⟨X'.take Y'.length,X'.drop Y'.length,(List.take_append_drop _ _).symm,by simp; omega⟩
      rw [List.length_append] at *;have hcall:mO 219 [ae 0 n c,iN (m-(X1.length+X2.length)),iN m,iN Y'.length,Fc] (hW (A'++(X1++X2)++Y'++C'))=some (vU,(hW (A'++(X1++X2)++Y'++C')).put 0 (ab (A'++Y'++X2++X1++C'))):=by
        rw [p9];exact ta (A:=A') (X:=X1) (B:=X2) (Y:=Y') (C:=C') (by simp) hX1 rfl (by omega) (by omega) (by simp; omega) hl (dz _)
      refine a8.piece kL follows 1 _ _ _ _ (Q5 (A'++(X1++X2)++Y'++C') (A'++Y'++X2++X1++C') n c m (X1.length+X2.length) Y'.length g) (Met.cons (yh h20) (Met.cons (jx h23) (Met.cons (dF (by omega) (by omega)) (Met.cons (dF (by omega) (by omega)) Met.nil)))) (ay.cons hcall ay.nil) az.nil EY rfl rfl (bp _ []) rfl
        fun g'=>.inl ⟨rfl,X2.length+X1.length,by omega,A'++Y',X2,X1,C',g',?_,?_,by omega,by omega,rfl,?_⟩
      ·rw [← hT]; simp
      ·simp; omega
      ·rw [show X1.length+X2.length-Y'.length=X2.length by omega,hX1]
    | false =>
      have hlt:=of_decide_eq_false h23
      obtain ⟨Y1,Y2,rfl,hY2⟩:∃ Y1 Y2,Y'=Y1++Y2∧Y2.length=X'.length:=⟨Y'.take (Y'.length-X'.length),Y'.drop (Y'.length-X'.length),(List.take_append_drop _ _).symm,by simp; omega⟩
      rw [List.length_append] at *;have hcall:mO 219 [ae 0 n c,iN (m-X'.length),iN (m+(Y1.length+Y2.length)-X'.length),iN X'.length,Fc] (hW (A'++X'++(Y1++Y2)++C'))=some (vU,(hW (A'++X'++(Y1++Y2)++C')).put 0 (ab (A'++Y2++Y1++X'++C'))):=by
        rw [p9];exact ta (A:=A') (X:=X') (B:=Y1) (Y:=Y2) (C:=C') (by simp) rfl hY2 (by omega) (by omega) (by simp; omega) hl (dz _)
      refine a8.piece kL follows 1 _ _ _ _ (Q6 (A'++X'++(Y1++Y2)++C') (A'++Y2++Y1++X'++C') n c m X'.length (Y1.length+Y2.length) g) (Met.cons (yh h20) (Met.cons (jx h23) (Met.cons (dF (by omega) (by omega)) (Met.cons (gL (by omega)) (Met.cons (dF (by omega) (by omega)) (Met.cons (dF (by omega) (by omega)) Met.nil)))))) (ay.cons hcall ay.nil) az.nil EY rfl rfl (bp _ []) rfl
        fun g'=>.inl ⟨rfl,Y2.length+Y1.length,by omega,A',Y2,Y1,X'++C',g',?_,by omega,by omega,by omega,rfl,?_⟩
      ·rw [← hT]; simp
      ·rw [show Y1.length+Y2.length-X'.length=Y1.length by omega,← hY2]; simp
 ·rintro st ⟨-,A',X',Y',C',g,hT,hAm,heq,rfl⟩
  have hln:(A'++X'++Y'++C').length=n:=by
    have:=congrArg List.length hT
    simp at this ⊢;omega
  have hle:A'.length+X'.length+Y'.length+C'.length=n:=by rw [← hln]; simp; omega
  have hcall:mO 219 [ae 0 n c,iN (m-X'.length),iN m,iN X'.length,Fc] (hW (A'++X'++Y'++C'))=some (vU,(hW (A'++X'++Y'++C')).put 0 (ab (A'++Y'++X'++C'))):=by
    rw [p9];have:=ta (A:=A') (X:=X') (B:=[]) (Y:=Y') (C:=C') (us:=A'++X'++Y'++C') (b:=0) (n:=n) (c:=c) (a:=m-X'.length) (m:=m) (k:=X'.length) (hp:=hW (A'++X'++Y'++C')) (by simp) rfl heq.symm (by omega) (by simp; omega) (by rw [hln]) hl (dz _)
    rw [List.append_nil] at this;exact this
  exact a8.piece kL follows 1 _ _ _ _ (Q7 (A'++X'++Y'++C') (A'++Y'++X'++C') n c m X'.length Y'.length g) (Met.cons (dF (by omega) (by omega)) Met.nil) (ay.cons hcall ay.nil) az.nil R7 rfl rfl (bp _ []) rfl fun g'=>⟨rfl,g',by rw [hT]⟩
open Classical in
noncomputable def g111(us:List aa):aC:=fun args hp=>match args with
 | [.slice (some ⟨k,0,none⟩) n c,.int .i64 (.ofNat a),.int .i64 (.ofNat m),.int .i64 (.ofNat b),f] =>
   if f=Fc∧cL us (.slice (some ⟨k,0,none⟩) n c) hp∧a<m∧m<b∧b≤us.length then some (vU,hp.put k (ab (Nz us a m b))) else none
 | _=>none
theorem Px(us:List aa)(hn:us.length<1000000):aq Tryz.prog 209 (g111 us):=ic follows Tryz.func209 GL (by kernel_rfl) fun args hp v hp' he hk=>by
 unfold g111 at he;split at he
 case h_2=>cases he
 rename_i k n c a m b f;split at he
 case isFalse=>cases he
 rename_i hT;cases he;obtain ⟨rfl,⟨b',c',e,hb⟩,h1,h2,h3⟩:=hT;simp only [ae,Value.slice.injEq,Option.some.injEq,Addr.mk.injEq,and_true] at e;obtain ⟨rfl,rfl,rfl⟩:=e;refine ky (is:=[a,m,b]) hk hb (by rw [ntmps111]; simp) fun W x=>?_
 rw [ntmps111];refine a8.mono (NA (Pk (us:=us) (Nat.le_of_lt h1) (Nat.le_of_lt h2)) (by simp; omega) (by simp; omega) (by simp; omega) (by simp; omega) (by simp; omega) rfl hn W x) fun e st q=>?_
 obtain ⟨rfl,g,rfl⟩:=q;exact ⟨.inl rfl,rfl,UU _ g,by show (heapOf _ aE).get 0=_; rw [ak]; rfl⟩
noncomputable def BO:aC:=atW g111
theorem Mq:aq Tryz.prog 209 BO:=fP fun us hn=>Px us hn
open Classical in
theorem Gp{A X Y C us:List aa}{k n c a m b:Nat}{hp:Hp}(hus:us=A++X++Y++C)(hA:A.length=a)(hm:m=a+X.length)(hb':b=m+Y.length)(hX:0<X.length)(hY:0<Y.length)(hn:n=us.length)(hl:n<1000000)(hb:hp.get k=some (ab us)) :
  BO [ae k n c,iN a,iN m,iN b,Fc] hp=some (vU,hp.put k (ab (A++Y++X++C))):=by
 subst hn;have hr:cL us (ae k us.length c) hp:=⟨k,c,rfl,hb⟩
 unfold BO;rw [lW hr hl];show (if Fc=Fc∧cL us (ae k us.length c) hp∧a<m∧m<b∧b≤us.length then some (vU,hp.put k (ab (Nz us a m b))) else none)=_
 rw [if_pos ⟨rfl,hr,by omega,by omega,by rw [hus]; simp; omega⟩]
 obtain ⟨e1,e2,e3,e4⟩:=zi (C:=C) hA hm hb';unfold Nz;rw [hus,e1,e2,e3,e4]
def jW(aId:Int)(aHeightNull:Bool)(aHeightTau:Int)(aHeightOid:Int)(aHeightR:Int)(aHeightDelta:Int)(aHeightId:Int)(bId:Int)(bHeightNull:Bool)(bHeightTau:Int)(bHeightOid:Int)(bHeightR:Int)(bHeightDelta:Int)(bHeightId:Int):Value:=(bif (less (aHeightNull) (aHeightTau) (aHeightOid) (aHeightR) (aHeightDelta) (aHeightId) (bHeightNull) (bHeightTau) (bHeightOid) (bHeightR) (bHeightDelta) (bHeightId)) then (.int .i64 (-1)) else (bif (less (bHeightNull) (bHeightTau) (bHeightOid) (bHeightR) (bHeightDelta) (bHeightId) (aHeightNull) (aHeightTau) (aHeightOid) (aHeightR) (aHeightDelta) (aHeightId)) then (.int .i64 1) else (.int .i64 0)))
theorem Bm(aId:Int)(aHeightNull:Bool)(aHeightTau:Int)(aHeightOid:Int)(aHeightR:Int)(aHeightDelta:Int)(aHeightId:Int)(bId:Int)(bHeightNull:Bool)(bHeightTau:Int)(bHeightOid:Int)(bHeightR:Int)(bHeightDelta:Int)(bHeightId:Int):∃ hp,aCall Tryz.prog E4 61 126 [.agg #[.int .i64 aId,.bool aHeightNull,.int .i64 aHeightTau,.int .i64 aHeightOid,.int .i64 aHeightR,.int .i64 aHeightDelta,.int .i64 aHeightId],.agg #[.int .i64 bId,.bool bHeightNull,.int .i64 bHeightTau,.int .i64 bHeightOid,.int .i64 bHeightR,.int .i64 bHeightDelta,.int .i64 bHeightId]] aE=some (jW aId aHeightNull aHeightTau aHeightOid aHeightR aHeightDelta aHeightId bId bHeightNull bHeightTau bHeightOid bHeightR bHeightDelta bHeightId,hp):=by
 cases h0:(less (aHeightNull) (aHeightTau) (aHeightOid) (aHeightR) (aHeightDelta) (aHeightId) (bHeightNull) (bHeightTau) (bHeightOid) (bHeightR) (bHeightDelta) (bHeightId)) with
 | true =>
   have e:jW aId aHeightNull aHeightTau aHeightOid aHeightR aHeightDelta aHeightId bId bHeightNull bHeightTau bHeightOid bHeightR bHeightDelta bHeightId=(.int .i64 (-1)):=by simp only [jW,h0,cond_true,cond_false]
   rw [e];exact aP [(10,.bool true)] (q:=[(some (.bool (less (aHeightNull) (aHeightTau) (aHeightOid) (aHeightR) (aHeightDelta) (aHeightId) (bHeightNull) (bHeightTau) (bHeightOid) (bHeightR) (bHeightDelta) (bHeightId))),.bool true)]) (by kernel_rfl) (Met.cons (ag h0) (Met.nil))
 | false =>
   cases h1:(less (bHeightNull) (bHeightTau) (bHeightOid) (bHeightR) (bHeightDelta) (bHeightId) (aHeightNull) (aHeightTau) (aHeightOid) (aHeightR) (aHeightDelta) (aHeightId)) with
   | true =>
     have e:jW aId aHeightNull aHeightTau aHeightOid aHeightR aHeightDelta aHeightId bId bHeightNull bHeightTau bHeightOid bHeightR bHeightDelta bHeightId=(.int .i64 1):=by simp only [jW,h0,h1,cond_true,cond_false]
     rw [e];exact aP [(10,.bool false),(16,.bool true)] (q:=[(some (.bool (less (aHeightNull) (aHeightTau) (aHeightOid) (aHeightR) (aHeightDelta) (aHeightId) (bHeightNull) (bHeightTau) (bHeightOid) (bHeightR) (bHeightDelta) (bHeightId))),.bool false),(some (.bool (less (bHeightNull) (bHeightTau) (bHeightOid) (bHeightR) (bHeightDelta) (bHeightId) (aHeightNull) (aHeightTau) (aHeightOid) (aHeightR) (aHeightDelta) (aHeightId))),.bool true)]) (by kernel_rfl) (Met.cons (ag h0) (Met.cons (ag h1) (Met.nil)))
   | false =>
     have e:jW aId aHeightNull aHeightTau aHeightOid aHeightR aHeightDelta aHeightId bId bHeightNull bHeightTau bHeightOid bHeightR bHeightDelta bHeightId=(.int .i64 0):=by simp only [jW,h0,h1,cond_true,cond_false]
     rw [e];exact aP [(10,.bool false),(16,.bool false)] (q:=[(some (.bool (less (aHeightNull) (aHeightTau) (aHeightOid) (aHeightR) (aHeightDelta) (aHeightId) (bHeightNull) (bHeightTau) (bHeightOid) (bHeightR) (bHeightDelta) (bHeightId))),.bool false),(some (.bool (less (bHeightNull) (bHeightTau) (bHeightOid) (bHeightR) (bHeightDelta) (bHeightId) (aHeightNull) (aHeightTau) (aHeightOid) (aHeightR) (aHeightDelta) (aHeightId))),.bool false)]) (by kernel_rfl) (Met.cons (ag h0) (Met.cons (ag h1) (Met.nil)))
theorem w5(u v:aa):jW u.id u.n u.t u.o u.r u.d u.i v.id v.n v.t v.o v.r v.d v.i = .int .i64 (tJ u v):=by
 unfold jW tJ bc;cases less u.n u.t u.o u.r u.d u.i v.n v.t v.o v.r v.d v.i with
 | true=>rfl
 | false=>cases less v.n v.t v.o v.r v.d v.i u.n u.t u.o u.r u.d u.i <;> rfl
def g77:List Value→Option Value
 | [.agg c0,.agg c1]=>match c0.toList,c1.toList with
   | [.int .i64 a,.bool an,.int .i64 at',.int .i64 ao,.int .i64 ar,.int .i64 ad,.int .i64 ai],[.int .i64 b,.bool bn,.int .i64 bt,.int .i64 bo,.int .i64 br,.int .i64 bd,.int .i64 bi]=>some (.int .i64 (tJ ⟨a,an,at',ao,ar,ad,ai⟩ ⟨b,bn,bt,bo,br,bd,bi⟩))
   | _,_=>none
 | _=>none
theorem T8:bL Tryz.prog 126 g77:=di (ext:=E4) IZ follows Tryz.func126 (by kernel_rfl) fun args v h=>by
 unfold g77 at h;split at h
 ·rename_i c0 c1
  split at h
  ·rename_i ec0 ec1
   cases h;obtain rfl:=cN ec0;obtain rfl:=cN ec1;refine ⟨rfl,rfl,?_⟩
   obtain ⟨hp,q⟩:=Bm _ _ _ _ _ _ _ _ _ _ _ _ _ _;rw [w5 ⟨_,_,_,_,_,_,_⟩ ⟨_,_,_,_,_,_,_⟩] at q;exact ⟨_,hp,q⟩
  ·cases h
 ·cases h
noncomputable def Oy:Ext:=cS Tryz.prog [(126,g77)]
noncomputable def dO:aG:=aCall Tryz.prog Oy 5
theorem bf:ba Tryz.prog dO:=aQ (by unfold Oy; exact aT (.cons T8 .nil)) follows 5
noncomputable def Jf:Code:=(Tryz.f178.body).getD .skip
noncomputable def zA:Code:=mr (jh (sR Jf))
noncomputable def Cg:Code:=sL Jf
noncomputable def y0:Code:=sL zA
noncomputable def Ch:Code:=sL (jh (sL (sR zA)))
noncomputable def sa:Code:=mr (jh (sR (jh (sL (sR zA)))))
noncomputable def Ci:Code:=sR (sR zA)
noncomputable abbrev zd:Code:=.seq Cg (.block 0 (.loop (.seq y0 (.seq (.block 1 (.seq Ch (.block 2 (.loop sa)))) Ci))))
theorem GK:Tryz.f178.body=some zd:=by kernel_rfl
theorem ntmps101:Tryz.f178.ntmps=53:=by kernel_rfl
theorem RJ:codeSafe Tryz.prog 53 Cg=true:=by kernel_rfl
theorem Jz:codeSafe Tryz.prog 53 y0=true:=by kernel_rfl
theorem RK:codeSafe Tryz.prog 53 Ch=true:=by kernel_rfl
theorem ER:codeSafe Tryz.prog 53 sa=true:=by kernel_rfl
theorem RL:codeSafe Tryz.prog 53 Ci=true:=by kernel_rfl
theorem US(O:List af)(g:Nat→Value):retVal Tryz.prog Tryz.f178 (av 53 g [] O)=some vU:=by kernel_rfl
section
variable (us us1 us2:List aa) (n c a b i j:Nat) (x y:aa) (g:Nat→Value)
abbrev o6(us:List aa)(i:Nat)(g:Nat→Value):St:=av 53 g [(0,ae 0 n c),(1,iN a),(2,iN b),(3,Fc),(8,iN i)] [ab us]
abbrev Ak(us:List aa)(i j:Nat)(g:Nat→Value):St:=av 53 g [(0,ae 0 n c),(1,iN a),(2,iN b),(3,Fc),(8,iN i),(9,iN j)] [ab us]
theorem QD:(execE Tryz.prog dO [(11,iN (a+1))] [] [] 10 Cg ⟨tmsOf [ae 0 n c,iN a,iN b,Fc] 0 .leaf,heapOf [ab us,.dead] aE,[]⟩).map (fun z=>(look2 1 [0] [0,1,2,3,8] (z.1,z.2.1),z.2.2)) =
 some ((.normal,[ab us],[(0,ae 0 n c),(1,iN a),(2,iN b),(3,Fc),(8,iN (a+1))],true),[dI a],[],[]):=by kernel_rfl
theorem QI:(execE Tryz.prog dO [(14,.bool false)] [] [] 10 y0 (o6 n c a b us i g)).map (fun z=>(look2 1 [0] [] (z.1,z.2.1),z.2.2))=some ((.exit 0,[ab us],[],true),[iD i b false],[],[]):=by kernel_rfl
theorem QG:(execE Tryz.prog dO [(14,.bool true)] [] [] 10 y0 (o6 n c a b us i g)).map (fun z=>(look2 1 [0] [0,1,2,3,8] (z.1,z.2.1),z.2.2)) =
 some ((.normal,[ab us],[(0,ae 0 n c),(1,iN a),(2,iN b),(3,Fc),(8,iN i)],true),[iD i b true],[],[]):=by kernel_rfl
theorem QE:(execE Tryz.prog dO [] [] [] 10 Ch (o6 n c a b us i g)).map (fun z=>(look2 1 [0] [0,1,2,3,8,9] (z.1,z.2.1),z.2.2)) =
 some ((.normal,[ab us],[(0,ae 0 n c),(1,iN a),(2,iN b),(3,Fc),(8,iN i),(9,iN i)],true),[],[],[]):=by kernel_rfl
theorem QF:(execE Tryz.prog dO [(16,iN (i+1))] [] [] 10 Ci (o6 n c a b us i g)).map (fun z=>(look2 1 [0] [0,1,2,3,8] (z.1,z.2.1),z.2.2)) =
 some ((.normal,[ab us],[(0,ae 0 n c),(1,iN a),(2,iN b),(3,Fc),(8,iN (i+1))],true),[dI i],[],[]):=by kernel_rfl
theorem QJ:(execE Tryz.prog dO [(20,.bool false)] [] [] 20 sa (Ak n c a b us i j g)).map (fun z=>(look2 1 [0] [0,1,2,3,8] (z.1,z.2.1),z.2.2)) =
 some ((.exit 2,[ab us],[(0,ae 0 n c),(1,iN a),(2,iN b),(3,Fc),(8,iN i)],true),[DG j a false],[],[]):=by kernel_rfl
theorem QK:(execE Tryz.prog dO [(20,.bool true),(25,pb 0 ((j+1)*7)),(26,.agg ⟨vc y⟩),(29,iN j),(30,pb 0 (j*7)),(31,.agg ⟨vc x⟩),(33,.bool false)] [] [] 20 sa (Ak n c a b us i (j+1) g)).map (fun z=>(look2 1 [0] [0,1,2,3,8] (z.1,z.2.1),z.2.2)) =
 some ((.exit 2,[ab us],[(0,ae 0 n c),(1,iN a),(2,iN b),(3,Fc),(8,iN i)],true),
  [DG (j+1) a true,gV 0 n c (j+1),j4 (hW us).get 151 0 ((j+1)*7) (.agg ⟨vc y⟩),L4 j,gV 0 n c j,j4 (hW us).get 151 0 (j*7) (.agg ⟨vc x⟩),F8 y x false],[],[]):=by kernel_rfl
theorem QH:(execE Tryz.prog dO [(20,.bool true),(25,pb 0 ((j+1)*7)),(26,.agg ⟨vc y⟩),(29,iN j),(30,pb 0 (j*7)),(31,.agg ⟨vc x⟩),(33,.bool true),
  (41,iN j),(44,iN j),(45,pb 0 (j*7)),(46,.agg ⟨vc x⟩),(49,pb 0 ((j+1)*7)),(50,.agg ⟨vc y⟩),(51,pb 0 ((j+1)*7)),(52,pb 0 (j*7)),(36,iN j)] []
  [(1051,undef,[.put 0 (ab us1)]),(1052,undef,[.put 0 (ab us2)])] 20 sa (Ak n c a b us i (j+1) g)).map (fun z=>(look2 1 [0] [0,1,2,3,8,9] (z.1,z.2.1),z.2.2)) =
 some ((.normal,[ab us2],[(0,ae 0 n c),(1,iN a),(2,iN b),(3,Fc),(8,iN i),(9,iN j)],true),
  [DG (j+1) a true,gV 0 n c (j+1),j4 (hW us).get 151 0 ((j+1)*7) (.agg ⟨vc y⟩),L4 j,gV 0 n c j,j4 (hW us).get 151 0 (j*7) (.agg ⟨vc x⟩),F8 y x true,
   L4 j,L4 j,gV 0 n c j,j4 (hW us).get 151 0 (j*7) (.agg ⟨vc x⟩),gV 0 n c (j+1),j4 (hW us).get 151 0 ((j+1)*7) (.agg ⟨vc y⟩),gV 0 n c (j+1),gV 0 n c j,L4 j],[],
  [yz (hW us) (j+1) x us1,yz ((hW us).put 0 (ab us1)) j y us2]):=by kernel_rfl
end
theorem AY{A S R us:List aa}{z:aa}{n c a b i:Nat}(hus:us=A++S++z::R)(hA:A.length=a)(hi:i=a+S.length)(hn:n=us.length)(hl:n<1000000)(W:bh)(x:Nat×Nat×Nat)(g:Nat→Value) :
  a8 Tryz.prog 53 W x (.block 2 (.loop sa)) (Ak n c a b us i i g) (fun e st=>e = .normal∧∃ g,st=o6 n c a b (A++dA bc S z++R) i g):=by
 refine a8.block ?_
 refine a8.loop (fun k st=>∃ P Q g,S=P++Q∧(∀ q∈Q,bc z q=true)∧k=P.length∧st=Ak n c a b (A++P++z::(Q++R)) i (a+P.length) g) ?_ (k:=S.length)
  ⟨S,[],g,by simp,(fun q hq=>by cases hq),rfl,by rw [hus,hi]; simp⟩
 rintro k st ⟨P,Q,g,hS,hQ,rfl,rfl⟩;have hlen:(A++P++z::(Q++R)).length=n:=by rw [hn,hus,hS]; simp; omega
 have hin:a+P.length<n:=by rw [← hlen]; simp; omega
 have fin:∀ {g'},(∀ p,P.getLast? = some p→bc z p=false)→∃ g,o6 n c a b (A++P++z::(Q++R)) i g'=o6 n c a b (A++dA bc S z++R) i g:=fun {g'} h=>⟨g',by rw [gp hS hQ h]; simp⟩
 cases h20:decide (a<a+P.length) with
 | false =>
   have hP:P = []:=List.eq_nil_of_length_eq_zero (by have:=of_decide_eq_false h20; omega)
   refine a8.piece bf follows 1 _ _ _ _ (QJ (A++P++z::(Q++R)) n c a b i (a+P.length) g) (Met.cons (jx h20) Met.nil) ay.nil az.nil ER rfl rfl (bp _ []) rfl fun g'=>.inr ⟨by simp,?_⟩
   show (if (2:Nat)=2 then _ else _)
   rw [if_pos rfl];exact ⟨rfl,fin fun p hp=>by rw [hP] at hp; cases hp⟩
 | true =>
   have hpos:=of_decide_eq_true h20
   obtain ⟨P',p,rfl⟩:∃ P' p,P=P' ++ [p]:=by
     rcases List.eq_nil_or_concat P with h | ⟨L,b,h⟩
     ·rw [h] at hpos; simp at hpos
     ·exact ⟨L,b,by simpa using h⟩
   have el:a+(P' ++ [p]).length=a+P'.length+1:=by simp; omega
   rw [el] at h20 hin ⊢;have ecur:A++(P' ++ [p])++z::(Q++R)=(A++P')++p::z::(Q++R):=by simp
   have ecur2:A++(P' ++ [p])++z::(Q++R)=(A++P' ++ [p])++z::(Q++R):=by simp
   have l1:(A++P').length=a+P'.length:=by simp; omega
   have l2:(A++P' ++ [p]).length=a+P'.length+1:=by simp; omega
   generalize hcur:A++(P' ++ [p])++z::(Q++R)=cur at *;have hz:cur[a+P'.length+1]? = some z:=by rw [ecur2]; exact iA l2
   have hp:cur[a+P'.length]? = some p:=by rw [ecur]; exact iA l1
   have i1:a+P'.length<n:=by omega
   cases h33:bc z p with
   | false =>
     refine a8.piece bf follows 1 _ _ _ _ (QK cur n c a b i (a+P'.length) p z g) (Met.cons (jx h20) (Met.cons (de hin) (Met.cons (eU (fk _) hz) (Met.cons (qg (by omega)) (Met.cons (de i1) (Met.cons (eU (fk _) hp) (Met.cons (qe h33) Met.nil))))))) ay.nil az.nil ER rfl rfl (bp _ []) rfl fun g'=>.inr ⟨by simp,?_⟩
     show (if (2:Nat)=2 then _ else _)
     rw [if_pos rfl];exact ⟨rfl,fin fun q hq=>by simp at hq; subst hq; exact h33⟩
   | true =>
     have s1:(cur.set (a+P'.length+1) p).set (a+P'.length) z=A++P'++z::(p::Q++R):=by
       rw [ecur2,iF l2];have:A++P' ++ [p]++p::(Q++R)=(A++P')++p::(p::(Q++R)):=by simp
       rw [this,iF l1]; simp
     refine a8.piece bf follows 1 _ _ _ _ (QH cur (cur.set (a+P'.length+1) p) ((cur.set (a+P'.length+1) p).set (a+P'.length) z) n c a b i (a+P'.length) p z g)
       (Met.cons (jx h20) (Met.cons (de hin) (Met.cons (eU (fk _) hz) (Met.cons (qg (by omega)) (Met.cons (de i1) (Met.cons (eU (fk _) hp) (Met.cons (qe h33) (Met.cons (qg (by omega)) (Met.cons (qg (by omega)) (Met.cons (de i1) (Met.cons (eU (fk _) hp) (Met.cons (de hin) (Met.cons (eU (fk _) hz) (Met.cons (de hin) (Met.cons (de i1) (Met.cons (qg (by omega)) Met.nil)))))))))))))))) ay.nil
       (az.cons (jL (dz _) (by omega)) (az.cons (jL nm (by rw [List.length_set]; omega)) az.nil)) ER rfl rfl (bp _ []) rfl fun g'=>.inl ⟨rfl,P'.length,by simp,P',p::Q,g',by rw [hS]; simp,(fun q hq=>by
         rcases List.mem_cons.1 hq with rfl | hq
         ·exact h33
         ·exact hQ q hq),rfl,by rw [s1]⟩
theorem DV{A T C us:List aa}{n c a b:Nat}(hus:us=A++T++C)(hA:A.length=a)(hb:b=a+T.length)(hn:n=us.length)(hl:n<1000000)(W:bh)(x:Nat×Nat×Nat) :
  a8 Tryz.prog 53 W x zd ⟨tmsOf [ae 0 n c,iN a,iN b,Fc] 0 .leaf,heapOf [ab us,.dead] aE,[]⟩ (uQ 53 (A++aO bc T++C)):=by
 have hlen:us.length=a+T.length+C.length:=by rw [hus]; simp; omega
 refine a8.seq (Q1:=fun e st=>e = .normal∧∃ g,st=o6 n c a b us (a+1) g) (a8.piece bf follows 1 _ _ _ _ (QD us n c a b) (Met.cons (bz (by omega)) Met.nil) ay.nil az.nil RJ rfl rfl (bp us []) rfl fun g=>⟨rfl,g,rfl⟩) ?_ (fun x st hne hq=>absurd hq.1 hne)
 rintro st ⟨-,g,rfl⟩;refine a8.block ?_
 refine a8.loop (fun j st=>∃ k g,1≤k∧(k≤T.length∨T = [])∧j=T.length-k∧st=o6 n c a b (A++aO bc (T.take k)++(T.drop k++C)) (a+k) g) ?_ (k:=T.length-1) ⟨1,g,Nat.le_refl _,?_,rfl,?_⟩
 ·rintro j st ⟨k,g,tS,uL,rfl,rfl⟩
  have hcl:(A++aO bc (T.take k)++(T.drop k++C)).length=n:=by rw [hn,hus]; simp [bP]; omega
  cases h14:decide (a+k<b) with
  | false =>
    have hge:=of_decide_eq_false h14
    refine a8.seq (Q1:=fun e st=>e = .exit 0∧∃ g,st=av 53 g [] [ab (A++aO bc T++C)]) ?_ (fun st hq=>by cases hq.1) ?_
    ·have e1:T.take k=T:=List.take_of_length_le (by omega)
     have e2:T.drop k = []:=List.drop_of_length_le (by omega)
     rw [e1,e2,List.nil_append];exact a8.piece bf follows 1 _ _ _ _ (QI (A++aO bc T++C) n c a b (a+k) g) (Met.cons (bu h14) Met.nil) ay.nil az.nil Jz rfl rfl (bp _ []) rfl fun g'=>⟨rfl,g',rfl⟩
    ·rintro e st hne ⟨rfl,g',rfl⟩
     refine .inr ⟨by simp,?_⟩
     show (if (0:Nat)=0 then _ else _)
     rw [if_pos rfl];exact ⟨rfl,g',rfl⟩
  | true =>
    have hlt:=of_decide_eq_true h14
    obtain ⟨z,hz⟩:∃ z,T[k]? = some z:=⟨_,List.getElem?_eq_getElem (by omega)⟩
    have hd:T.drop k=z::T.drop (k+1):=List.drop_eq_getElem?_toList_append.trans (by rw [hz]; rfl)
    have ht:T.take (k+1)=T.take k ++ [z]:=by rw [List.take_add_one,hz]; rfl
    have hS:(aO bc (T.take k)).length=k:=by rw [bP,List.length_take]; omega
    have ecur:A++aO bc (T.take k)++(T.drop k++C)=A++aO bc (T.take k)++z::(T.drop (k+1)++C):=by rw [hd]; simp
    rw [ecur] at hcl ⊢;refine a8.seq (Q1:=fun e st=>e = .normal∧∃ g,st=o6 n c a b (A++aO bc (T.take k)++z::(T.drop (k+1)++C)) (a+k) g) (a8.piece bf follows 1 _ _ _ _ (QG _ n c a b (a+k) g) (Met.cons (bu h14) Met.nil) ay.nil az.nil Jz rfl rfl (bp _ []) rfl fun g'=>⟨rfl,g',rfl⟩) ?_ (fun x st hne hq=>absurd hq.1 hne)
    rintro st ⟨-,g,rfl⟩;refine a8.seq (Q1:=fun e st=>e = .normal∧∃ g,st=o6 n c a b (A++dA bc (aO bc (T.take k)) z++(T.drop (k+1)++C)) (a+k) g) ?_ ?_ (fun x st hne hq=>absurd hq.1 hne)
    ·refine a8.block ?_
     refine a8.mono (Q:=fun e st=>e = .normal∧∃ g,st=o6 n c a b (A++dA bc (aO bc (T.take k)) z++(T.drop (k+1)++C)) (a+k) g) ?_ (fun e st q=>by obtain ⟨rfl,q⟩:=q; exact ⟨rfl,q⟩)
     refine a8.seq (Q1:=fun e st=>e = .normal∧∃ g,st=Ak n c a b (A++aO bc (T.take k)++z::(T.drop (k+1)++C)) (a+k) (a+k) g) (a8.piece bf follows 1 _ _ _ _ (QE _ n c a b (a+k) g) Met.nil ay.nil az.nil RK rfl rfl (bp _ []) rfl fun g'=>⟨rfl,g',rfl⟩) ?_ (fun x st hne hq=>absurd hq.1 hne)
     rintro st ⟨-,g,rfl⟩;exact AY rfl hA (by omega) hcl.symm hl W x g
    ·rintro st ⟨-,g,rfl⟩
     refine a8.piece bf follows 1 _ _ _ _ (QF _ n c a b (a+k) g) (Met.cons (bz (by omega)) Met.nil) ay.nil az.nil RL rfl rfl (bp _ []) rfl fun g'=>.inl ⟨rfl,T.length-(k+1),by omega,k+1,g',by omega,.inl (by omega),rfl,?_⟩
     rw [ht,yy];rfl
 ·cases T with
  | nil=>exact .inr rfl
  | cons t T=>exact .inl (by simp)
 ·cases T with
  | nil=>rw [hus]; rfl
  | cons t T =>
    have e:aO bc ((t::T).take 1) = [t]:=rfl
    rw [e,hus];simp
open Classical in
noncomputable def g101(us:List aa):aC:=fun args hp=>match args with
 | [.slice (some ⟨k,0,none⟩) n c,.int .i64 (.ofNat a),.int .i64 (.ofNat b),f] =>
   if f=Fc∧cL us (.slice (some ⟨k,0,none⟩) n c) hp∧a≤b∧b≤us.length then some (vU,hp.put k (ab (us.take a++aO bc ((us.drop a).take (b-a))++us.drop b))) else none
 | _=>none
theorem Pw(us:List aa)(hn:us.length<1000000):aq Tryz.prog 178 (g101 us):=ic follows Tryz.func178 GK (by kernel_rfl) fun args hp v hp' he hk=>by
 unfold g101 at he;split at he
 case h_2=>cases he
 rename_i k n c a b f;split at he
 case isFalse=>cases he
 rename_i hT;cases he;obtain ⟨rfl,⟨b',c',e,hb⟩,h1,h2⟩:=hT;simp only [ae,Value.slice.injEq,Option.some.injEq,Addr.mk.injEq,and_true] at e;obtain ⟨rfl,rfl,rfl⟩:=e;refine ky (is:=[a,b]) hk hb (by rw [ntmps101]; simp) fun W x=>?_
 rw [ntmps101];refine a8.mono (DV (TF (us:=us) h1) (by simp; omega) (by simp; omega) rfl hn W x) fun e st q=>?_
 obtain ⟨rfl,g,rfl⟩:=q;exact ⟨.inl rfl,rfl,US _ g,by show (heapOf _ aE).get 0=_; rw [ak]; rfl⟩
noncomputable def BN:aC:=atW g101
theorem Mo:aq Tryz.prog 178 BN:=fP fun us hn=>Pw us hn
open Classical in
theorem yT{A X C us:List aa}{k n c a b:Nat}{hp:Hp}(hus:us=A++X++C)(hA:A.length=a)(hb':b=a+X.length)(hn:n=us.length)(hl:n<1000000)(hb:hp.get k=some (ab us)) :
  BN [ae k n c,iN a,iN b,Fc] hp=some (vU,hp.put k (ab (A++aO bc X++C))):=by
 subst hn;have hr:cL us (ae k us.length c) hp:=⟨k,c,rfl,hb⟩
 unfold BN;rw [lW hr hl];show (if Fc=Fc∧cL us (ae k us.length c) hp∧a≤b∧b≤us.length then some (vU,hp.put k (ab (us.take a++aO bc ((us.drop a).take (b-a))++us.drop b))) else none)=_
 rw [if_pos ⟨rfl,hr,by omega,by rw [hus]; simp; omega⟩]
 obtain ⟨e1,e2,e3⟩:=Hd (C:=C) hA hb';rw [hus,e1,e2,e3]
noncomputable def Df:Code:=(Tryz.f179.body).getD .skip
noncomputable def n3:Nat→Code
 | 0=>Df
 | n+1=>sR (n3 n)
noncomputable def Ck:Code:=sL (sL Df)
noncomputable def t102:Code:=cT (sR (sL Df))
noncomputable def Cl:Code:=sL t102
noncomputable def Cn:Code:=sL (sR t102)
noncomputable def vd:Code:=mr (jh (sL (sR (sR t102))))
noncomputable def Co:Code:=sL (sL (sR (sR (sR t102))))
noncomputable def y3:Code:=mr (jh (sR (sL (sR (sR (sR t102))))))
noncomputable def Cp:Code:=sL (sL (n3 1))
noncomputable def FN:Code:=cT (sR (sL (n3 1)))
noncomputable def Cq:Code:=sL FN
noncomputable def Cr:Code:=sL (sR FN)
noncomputable def ve:Code:=mr (jh (sL (sR (sR FN))))
noncomputable def Cs:Code:=sL (sL (sR (sR (sR FN))))
noncomputable def y4:Code:=mr (jh (sR (sL (sR (sR (sR FN))))))
noncomputable def Ct:Code:=sL (n3 2)
noncomputable def Cu:Code:=sL (n3 3)
noncomputable def Cv:Code:=sL (n3 4)
noncomputable def y5:Code:=sL (n3 5)
noncomputable def Cw:Code:=sL (n3 6)
noncomputable def vf:Code:=mr (jh (sL (n3 7)))
noncomputable def Cx:Code:=sL (n3 8)
noncomputable def vg:Code:=sL (n3 9)
noncomputable def vh:Code:=sL (n3 10)
noncomputable def vi:Code:=n3 11
noncomputable abbrev Fx:Code:=.seq Cl (.seq Cn (.seq (.block 0 (.loop vd)) (.seq (.seq Co (.block 2 (.loop y3))) .ret)))
noncomputable abbrev Fy:Code:=.seq Cq (.seq Cr (.seq (.block 4 (.loop ve)) (.seq (.seq Cs (.block 6 (.loop y4))) .ret)))
noncomputable abbrev Fz:Code:=.seq Ct (.seq Cu (.seq Cv (.seq y5 (.seq Cw (.seq (.block 8 (.loop vf)) (.seq Cx (.seq vg (.seq vh vi))))))))
noncomputable abbrev ze:Code:=.seq (.seq Ck (.cond (.tmp 28) Fx .skip)) (.seq (.seq Cp (.cond (.tmp 80) Fy .skip)) Fz)
theorem yY:Tryz.f179.body=some ze:=by kernel_rfl
theorem ntmps102:Tryz.f179.ntmps=220:=by kernel_rfl
theorem UT(O:List af)(g:Nat→Value):retVal Tryz.prog Tryz.f179 (av 220 g [] O)=some vU:=by kernel_rfl
theorem RN:codeSafe Tryz.prog 220 Ck=true:=by kernel_rfl
theorem RO:codeSafe Tryz.prog 220 Cl=true:=by kernel_rfl
theorem RP:codeSafe Tryz.prog 220 Cn=true:=by kernel_rfl
theorem ES:codeSafe Tryz.prog 220 vd=true:=by kernel_rfl
theorem RQ:codeSafe Tryz.prog 220 Co=true:=by kernel_rfl
theorem JA:codeSafe Tryz.prog 220 y3=true:=by kernel_rfl
theorem RS:codeSafe Tryz.prog 220 Cp=true:=by kernel_rfl
theorem RU:codeSafe Tryz.prog 220 Cq=true:=by kernel_rfl
theorem RV:codeSafe Tryz.prog 220 Cr=true:=by kernel_rfl
theorem ET:codeSafe Tryz.prog 220 ve=true:=by kernel_rfl
theorem RW:codeSafe Tryz.prog 220 Cs=true:=by kernel_rfl
theorem JB:codeSafe Tryz.prog 220 y4=true:=by kernel_rfl
theorem RX:codeSafe Tryz.prog 220 Ct=true:=by kernel_rfl
theorem RY:codeSafe Tryz.prog 220 Cu=true:=by kernel_rfl
theorem RZ:codeSafe Tryz.prog 220 Cv=true:=by kernel_rfl
theorem JC:codeSafe Tryz.prog 220 y5=true:=by kernel_rfl
theorem R0:codeSafe Tryz.prog 220 Cw=true:=by kernel_rfl
theorem EU:codeSafe Tryz.prog 220 vf=true:=by kernel_rfl
theorem R4:codeSafe Tryz.prog 220 Cx=true:=by kernel_rfl
theorem EV:codeSafe Tryz.prog 220 vg=true:=by kernel_rfl
theorem EW:codeSafe Tryz.prog 220 vh=true:=by kernel_rfl
theorem EX:codeSafe Tryz.prog 220 vi=true:=by kernel_rfl
section
variable (call:aG) (us us1 us2 us':List aa) (n c a m b i j h k s r p e aN q:Nat) (x y u w:aa) (d:Bool) (g:Nat→Value)
abbrev BB(us:List aa)(d:Bool)(g:Nat→Value):St:=av 220 g [(0,ae 0 n c),(1,iN a),(2,iN m),(3,iN b),(4,Fc),(28,.bool d)] [ab us]
theorem QL:(execE Tryz.prog call [(27,iN (m-a)),(28,.bool d)] [] [] 10 Ck ⟨tmsOf [ae 0 n c,iN a,iN m,iN b,Fc] 0 .leaf,heapOf [ab us,.dead] aE,[]⟩).map (fun z=>(look2 1 [0] [0,1,2,3,4,28] (z.1,z.2.1),z.2.2)) =
 some ((.normal,[ab us],[(0,ae 0 n c),(1,iN a),(2,iN m),(3,iN b),(4,Fc),(28,.bool d)],true),[rG m a,SZ (m-a) 1 d],[],[]):=by kernel_rfl
abbrev Oq(us:List aa)(g:Nat→Value):St:=av 220 g [(0,ae 0 n c),(1,iN a),(3,iN b),(4,Fc),(10,iN m)] [ab us]
abbrev BD(us:List aa)(i j:Nat)(g:Nat→Value):St:=av 220 g [(0,ae 0 n c),(1,iN a),(4,Fc),(10,iN i),(11,iN j)] [ab us]
theorem QM:(execE Tryz.prog call [] [] [] 10 Cl (BB n c a m b us d g)).map (fun z=>(look2 1 [0] [0,1,3,4,10] (z.1,z.2.1),z.2.2)) =
 some ((.normal,[ab us],[(0,ae 0 n c),(1,iN a),(3,iN b),(4,Fc),(10,iN m)],true),[],[],[]):=by kernel_rfl
theorem QN:(execE Tryz.prog call [] [] [] 10 Cn (Oq n c a m b us g)).map (fun z=>(look2 1 [0] [0,1,4,10,11] (z.1,z.2.1),z.2.2)) =
 some ((.normal,[ab us],[(0,ae 0 n c),(1,iN a),(4,Fc),(10,iN m),(11,iN b)],true),[],[],[]):=by kernel_rfl
theorem M':(execE Tryz.prog dO [(33,.bool false)] [] [] 10 vd (BD n c a us i j g)).map (fun z=>(look2 1 [0] [0,1,10] (z.1,z.2.1),z.2.2)) =
 some ((.exit 0,[ab us],[(0,ae 0 n c),(1,iN a),(10,iN i)],true),[iD i j false],[],[]):=by kernel_rfl
noncomputable def SU(b:Bool)(l:List db):List db:=iD i j true::HN i j h (gV 0 n c h::j4 (hW us).get 151 0 (h*7) (.agg ⟨vc u⟩)::gV 0 n c a::j4 (hW us).get 151 0 (a*7) (.agg ⟨vc x⟩)::F8 u x b::l)
end
section
variable (us us1 us2 us':List aa) (n c a m b i j h k s r p e aN q:Nat) (x y u w:aa) (d:Bool) (g:Nat→Value)
theorem M9:(execE Tryz.prog dO (Xe a i j h x u true ++ [(52,iN (h+1))]) [] [] 20 vd (BD n c a us i j g)).map (fun z=>(look2 1 [0] [0,1,4,10,11] (z.1,z.2.1),z.2.2)) =
 some ((.normal,[ab us],[(0,ae 0 n c),(1,iN a),(4,Fc),(10,iN (h+1)),(11,iN j)],true),SU us n c a i j h x u true [dI h],[],[]):=by kernel_rfl
theorem M8:(execE Tryz.prog dO (Xe a i j h x u false) [] [] 20 vd (BD n c a us i j g)).map (fun z=>(look2 1 [0] [0,1,4,10,11] (z.1,z.2.1),z.2.2)) =
 some ((.normal,[ab us],[(0,ae 0 n c),(1,iN a),(4,Fc),(10,iN i),(11,iN h)],true),SU us n c a i j h x u false [],[],[]):=by kernel_rfl
abbrev Ox(us:List aa)(i:Nat)(g:Nat→Value):St:=av 220 g [(0,ae 0 n c),(1,iN a),(10,iN i)] [ab us]
abbrev Gn(us:List aa)(i k:Nat)(g:Nat→Value):St:=av 220 g [(0,ae 0 n c),(10,iN i),(13,iN k)] [ab us]
theorem QO:(execE Tryz.prog dO [] [] [] 10 Co (Ox n c a us i g)).map (fun z=>(look2 1 [0] [0,10,13] (z.1,z.2.1),z.2.2)) =
 some ((.normal,[ab us],[(0,ae 0 n c),(10,iN i),(13,iN a)],true),[],[],[]):=by kernel_rfl
theorem Nb:(execE Tryz.prog dO [(57,iN (i-1)),(58,.bool false)] [] [] 10 y3 (Gn n c us i k g)).map (fun z=>(look2 1 [0] [] (z.1,z.2.1),z.2.2)) =
 some ((.exit 2,[ab us],[],true),[rG i 1,iD k (i-1) false],[],[]):=by kernel_rfl
theorem Na:(execE Tryz.prog dO [(57,iN (i-1)),(58,.bool true),(65,iN (k+1)),(68,iN (k+1)),(69,pb 0 ((k+1)*7)),(70,.agg ⟨vc y⟩),(73,pb 0 (k*7)),(74,.agg ⟨vc x⟩),(75,pb 0 (k*7)),(76,pb 0 ((k+1)*7)),(60,iN (k+1))] []
  [(1075,undef,[.put 0 (ab us1)]),(1076,undef,[.put 0 (ab us2)])] 10 y3 (Gn n c us i k g)).map (fun z=>(look2 1 [0] [0,10,13] (z.1,z.2.1),z.2.2)) =
 some ((.normal,[ab us2],[(0,ae 0 n c),(10,iN i),(13,iN (k+1))],true),
  [rG i 1,iD k (i-1) true,dI k,dI k,gV 0 n c (k+1),j4 (hW us).get 151 0 ((k+1)*7) (.agg ⟨vc y⟩),gV 0 n c k,j4 (hW us).get 151 0 (k*7) (.agg ⟨vc x⟩),gV 0 n c k,gV 0 n c (k+1),dI k],[],
  [yz (hW us) k y us1,yz ((hW us).put 0 (ab us1)) (k+1) x us2]):=by kernel_rfl
abbrev rX(us:List aa)(d:Bool)(g:Nat→Value):St:=av 220 g [(0,ae 0 n c),(1,iN a),(2,iN m),(3,iN b),(4,Fc),(80,.bool d)] [ab us]
theorem QP:(execE Tryz.prog dO [(79,iN (b-m)),(80,.bool d)] [] [] 10 Cp (BB n c a m b us false g)).map (fun z=>(look2 1 [0] [0,1,2,3,4,80] (z.1,z.2.1),z.2.2)) =
 some ((.normal,[ab us],[(0,ae 0 n c),(1,iN a),(2,iN m),(3,iN b),(4,Fc),(80,.bool d)],true),[rG b m,SZ (b-m) 1 d],[],[]):=by kernel_rfl
abbrev OI(us:List aa)(g:Nat→Value):St:=av 220 g [(0,ae 0 n c),(2,iN m),(4,Fc),(14,iN a)] [ab us]
abbrev BU(us:List aa)(i j:Nat)(g:Nat→Value):St:=av 220 g [(0,ae 0 n c),(2,iN m),(4,Fc),(14,iN i),(15,iN j)] [ab us]
theorem QQ:(execE Tryz.prog dO [] [] [] 10 Cq (rX n c a m b us d g)).map (fun z=>(look2 1 [0] [0,2,4,14] (z.1,z.2.1),z.2.2)) =
 some ((.normal,[ab us],[(0,ae 0 n c),(2,iN m),(4,Fc),(14,iN a)],true),[],[],[]):=by kernel_rfl
theorem QR:(execE Tryz.prog dO [] [] [] 10 Cr (OI n c a m us g)).map (fun z=>(look2 1 [0] [0,2,4,14,15] (z.1,z.2.1),z.2.2)) =
 some ((.normal,[ab us],[(0,ae 0 n c),(2,iN m),(4,Fc),(14,iN a),(15,iN m)],true),[],[],[]):=by kernel_rfl
theorem Nf:(execE Tryz.prog dO [(85,.bool false)] [] [] 10 ve (BU n c m us i j g)).map (fun z=>(look2 1 [0] [0,2,14] (z.1,z.2.1),z.2.2)) =
 some ((.exit 4,[ab us],[(0,ae 0 n c),(2,iN m),(14,iN i)],true),[iD i j false],[],[]):=by kernel_rfl
noncomputable def S4(b:Bool)(l:List db):List db:=iD i j true::HN i j h (gV 0 n c m::j4 (hW us).get 151 0 (m*7) (.agg ⟨vc y⟩)::gV 0 n c h::j4 (hW us).get 151 0 (h*7) (.agg ⟨vc u⟩)::F8 y u b::l)
theorem Nc:(execE Tryz.prog dO (Xg m i j h y u false ++ [(105,iN (h+1))]) [] [] 20 ve (BU n c m us i j g)).map (fun z=>(look2 1 [0] [0,2,4,14,15] (z.1,z.2.1),z.2.2)) =
 some ((.normal,[ab us],[(0,ae 0 n c),(2,iN m),(4,Fc),(14,iN (h+1)),(15,iN j)],true),S4 us n c m i j h y u false [dI h],[],[]):=by kernel_rfl
theorem Nd:(execE Tryz.prog dO (Xg m i j h y u true) [] [] 20 ve (BU n c m us i j g)).map (fun z=>(look2 1 [0] [0,2,4,14,15] (z.1,z.2.1),z.2.2)) =
 some ((.normal,[ab us],[(0,ae 0 n c),(2,iN m),(4,Fc),(14,iN i),(15,iN h)],true),S4 us n c m i j h y u true [],[],[]):=by kernel_rfl
abbrev OJ(us:List aa)(i:Nat)(g:Nat→Value):St:=av 220 g [(0,ae 0 n c),(2,iN m),(14,iN i)] [ab us]
abbrev Gv(us:List aa)(i k:Nat)(g:Nat→Value):St:=av 220 g [(0,ae 0 n c),(14,iN i),(17,iN k)] [ab us]
theorem QS:(execE Tryz.prog dO [] [] [] 10 Cs (OJ n c m us i g)).map (fun z=>(look2 1 [0] [0,14,17] (z.1,z.2.1),z.2.2)) =
 some ((.normal,[ab us],[(0,ae 0 n c),(14,iN i),(17,iN m)],true),[],[],[]):=by kernel_rfl
theorem Nh:(execE Tryz.prog dO [(110,.bool false)] [] [] 10 y4 (Gv n c us i k g)).map (fun z=>(look2 1 [0] [] (z.1,z.2.1),z.2.2)) =
 some ((.exit 6,[ab us],[],true),[DG k i false],[],[]):=by kernel_rfl
theorem Ng:(execE Tryz.prog dO [(110,.bool true),(117,iN (k-1)),(120,iN (k-1)),(121,pb 0 ((k-1)*7)),(122,.agg ⟨vc x⟩),(125,pb 0 (k*7)),(126,.agg ⟨vc y⟩),(127,pb 0 (k*7)),(128,pb 0 ((k-1)*7)),(112,iN (k-1))] []
  [(1127,undef,[.put 0 (ab us1)]),(1128,undef,[.put 0 (ab us2)])] 10 y4 (Gv n c us i k g)).map (fun z=>(look2 1 [0] [0,14,17] (z.1,z.2.1),z.2.2)) =
 some ((.normal,[ab us2],[(0,ae 0 n c),(14,iN i),(17,iN (k-1))],true),
  [DG k i true,rG k 1,rG k 1,gV 0 n c (k-1),j4 (hW us).get 151 0 ((k-1)*7) (.agg ⟨vc x⟩),gV 0 n c k,j4 (hW us).get 151 0 (k*7) (.agg ⟨vc y⟩),gV 0 n c k,gV 0 n c (k-1),rG k 1],[],
  [yz (hW us) k x us1,yz ((hW us).put 0 (ab us1)) (k-1) y us2]):=by kernel_rfl
abbrev OP(us:List aa)(g:Nat→Value):St:=av 220 g [(0,ae 0 n c),(1,iN a),(2,iN m),(3,iN b),(4,Fc),(18,iN aN)] [ab us]
abbrev BX(us:List aa)(g:Nat→Value):St:=av 220 g [(0,ae 0 n c),(1,iN a),(2,iN m),(3,iN b),(4,Fc),(18,iN aN),(19,iN q)] [ab us]
abbrev OS(us:List aa)(s r:Nat)(g:Nat→Value):St:=av 220 g [(0,ae 0 n c),(1,iN a),(2,iN m),(3,iN b),(4,Fc),(18,iN aN),(19,iN q),(20,iN s),(21,iN r)] [ab us]
abbrev B0(us:List aa)(s r:Nat)(g:Nat→Value):St:=av 220 g [(0,ae 0 n c),(1,iN a),(2,iN m),(3,iN b),(4,Fc),(18,iN aN),(19,iN q),(20,iN s),(21,iN r),(22,iN p)] [ab us]
theorem QT:(execE Tryz.prog dO [(131,iN (a+b)),(132,uN (a+b)),(133,uN aN),(134,iN aN)] [] [] 10 Ct (rX n c a m b us false g)).map (fun z=>(look2 1 [0] [0,1,2,3,4,18] (z.1,z.2.1),z.2.2)) =
 some ((.normal,[ab us],[(0,ae 0 n c),(1,iN a),(2,iN m),(3,iN b),(4,Fc),(18,iN aN)],true),HN a b aN [],[],[]):=by kernel_rfl
theorem QU:(execE Tryz.prog dO [(137,iN (aN+m))] [] [] 10 Cu (OP n c a m b aN us g)).map (fun z=>(look2 1 [0] [0,1,2,3,4,18,19] (z.1,z.2.1),z.2.2)) =
 some ((.normal,[ab us],[(0,ae 0 n c),(1,iN a),(2,iN m),(3,iN b),(4,Fc),(18,iN aN),(19,iN (aN+m))],true),[yW aN m],[],[]):=by kernel_rfl
theorem QX:(execE Tryz.prog dO [] [] [] 10 Cv (BX n c a m b aN q us g)).map (fun z=>(look2 1 [0] [0,1,2,3,4,18,19] (z.1,z.2.1),z.2.2)) =
 some ((.normal,[ab us],[(0,ae 0 n c),(1,iN a),(2,iN m),(3,iN b),(4,Fc),(18,iN aN),(19,iN q)],true),[],[],[]):=by kernel_rfl
theorem Nj:(execE Tryz.prog dO [(140,.bool true),(143,iN (q-b))] [] [] 10 y5 (BX n c a m b aN q us g)).map (fun z=>(look2 1 [0] [0,1,2,3,4,18,19,20,21] (z.1,z.2.1),z.2.2)) =
 some ((.normal,[ab us],[(0,ae 0 n c),(1,iN a),(2,iN m),(3,iN b),(4,Fc),(18,iN aN),(19,iN q),(20,iN (q-b)),(21,iN aN)],true),[DG m aN true,rG q b],[],[]):=by kernel_rfl
theorem Ni:(execE Tryz.prog dO [(140,.bool false)] [] [] 10 y5 (BX n c a m b aN q us g)).map (fun z=>(look2 1 [0] [0,1,2,3,4,18,19,20,21] (z.1,z.2.1),z.2.2)) =
 some ((.normal,[ab us],[(0,ae 0 n c),(1,iN a),(2,iN m),(3,iN b),(4,Fc),(18,iN aN),(19,iN q),(20,iN a),(21,iN m)],true),[DG m aN false],[],[]):=by kernel_rfl
theorem QY:(execE Tryz.prog dO [(148,iN (q-1))] [] [] 10 Cw (OS n c a m b aN q us s r g)).map (fun z=>(look2 1 [0] [0,1,2,3,4,18,19,20,21,22] (z.1,z.2.1),z.2.2)) =
 some ((.normal,[ab us],[(0,ae 0 n c),(1,iN a),(2,iN m),(3,iN b),(4,Fc),(18,iN aN),(19,iN q),(20,iN s),(21,iN r),(22,iN (q-1))],true),[rG q 1],[],[]):=by kernel_rfl
theorem Nn:(execE Tryz.prog dO [(151,.bool false)] [] [] 10 vf (B0 n c a m b p aN q us s r g)).map (fun z=>(look2 1 [0] [0,1,2,3,4,18,19,20] (z.1,z.2.1),z.2.2)) =
 some ((.exit 8,[ab us],[(0,ae 0 n c),(1,iN a),(2,iN m),(3,iN b),(4,Fc),(18,iN aN),(19,iN q),(20,iN s)],true),[iD s r false],[],[]):=by kernel_rfl
noncomputable def S8(b:Bool)(l:List db):List db:=iD s r true::HN s r h (rG p h::gV 0 n c (p-h)::j4 (hW us).get 151 0 ((p-h)*7) (.agg ⟨vc u⟩)::gV 0 n c h::j4 (hW us).get 151 0 (h*7) (.agg ⟨vc w⟩)::F8 u w b::l)
theorem Nk:(execE Tryz.prog dO (Xr h s r p u w false ++ [(173,iN (h+1))]) [] [] 20 vf (B0 n c a m b p aN q us s r g)).map (fun z=>(look2 1 [0] [0,1,2,3,4,18,19,20,21,22] (z.1,z.2.1),z.2.2)) =
 some ((.normal,[ab us],[(0,ae 0 n c),(1,iN a),(2,iN m),(3,iN b),(4,Fc),(18,iN aN),(19,iN q),(20,iN (h+1)),(21,iN r),(22,iN p)],true),S8 us n c h s r p u w false [dI h],[],[]):=by kernel_rfl
theorem Nl:(execE Tryz.prog dO (Xr h s r p u w true) [] [] 20 vf (B0 n c a m b p aN q us s r g)).map (fun z=>(look2 1 [0] [0,1,2,3,4,18,19,20,21,22] (z.1,z.2.1),z.2.2)) =
 some ((.normal,[ab us],[(0,ae 0 n c),(1,iN a),(2,iN m),(3,iN b),(4,Fc),(18,iN aN),(19,iN q),(20,iN s),(21,iN h),(22,iN p)],true),S8 us n c h s r p u w true [],[],[]):=by kernel_rfl
abbrev OX(us:List aa)(s:Nat)(g:Nat→Value):St:=av 220 g [(0,ae 0 n c),(1,iN a),(2,iN m),(3,iN b),(4,Fc),(18,iN aN),(19,iN q),(20,iN s)] [ab us]
abbrev pa(us:List aa)(s e:Nat)(g:Nat→Value):St:=av 220 g [(0,ae 0 n c),(1,iN a),(2,iN m),(3,iN b),(4,Fc),(18,iN aN),(20,iN s),(24,iN e)] [ab us]
theorem QZ:(execE Tryz.prog dO [(177,iN (q-s))] [] [] 10 Cx (OX n c a m b aN q us s g)).map (fun z=>(look2 1 [0] [0,1,2,3,4,18,20,24] (z.1,z.2.1),z.2.2)) =
 some ((.normal,[ab us],[(0,ae 0 n c),(1,iN a),(2,iN m),(3,iN b),(4,Fc),(18,iN aN),(20,iN s),(24,iN (q-s))],true),[rG q s],[],[]):=by kernel_rfl
end
section
variable (call:aG) (us us':List aa) (n c a m b s e aN:Nat) (g:Nat→Value)
theorem No:(execE Tryz.prog call [(180,.bool false)] [] [] 10 vg (pa n c a m b aN us s e g)).map (fun z=>(look2 1 [0] [0,1,2,3,4,18,20,24] (z.1,z.2.1),z.2.2)) =
 some ((.normal,[ab us],[(0,ae 0 n c),(1,iN a),(2,iN m),(3,iN b),(4,Fc),(18,iN aN),(20,iN s),(24,iN e)],true),[iD s m false],[],[]):=by kernel_rfl
theorem Np:(execE Tryz.prog call [(180,.bool true),(184,.bool false)] [] [] 10 vg (pa n c a m b aN us s e g)).map (fun z=>(look2 1 [0] [0,1,2,3,4,18,20,24] (z.1,z.2.1),z.2.2)) =
 some ((.normal,[ab us],[(0,ae 0 n c),(1,iN a),(2,iN m),(3,iN b),(4,Fc),(18,iN aN),(20,iN s),(24,iN e)],true),[iD s m true,iD m e false],[],[]):=by kernel_rfl
theorem Nr:(execE Tryz.prog call [(180,.bool true),(184,.bool true)] [] [(191,vU,[.put 0 (ab us')])] 10 vg (pa n c a m b aN us s e g)).map (fun z=>(look2 1 [0] [0,1,2,3,4,18,20,24] (z.1,z.2.1),z.2.2)) =
 some ((.normal,[ab us'],[(0,ae 0 n c),(1,iN a),(2,iN m),(3,iN b),(4,Fc),(18,iN aN),(20,iN s),(24,iN e)],true),[iD s m true,iD m e true],[(call 209 [ae 0 n c,iN s,iN m,iN e,Fc] (hW us),(vU,(hW us).put 0 (ab us')))],[]):=by kernel_rfl
theorem Ns:(execE Tryz.prog call [(194,.bool false)] [] [] 10 vh (pa n c a m b aN us s e g)).map (fun z=>(look2 1 [0] [0,1,2,3,4,18,20,24] (z.1,z.2.1),z.2.2)) =
 some ((.normal,[ab us],[(0,ae 0 n c),(1,iN a),(2,iN m),(3,iN b),(4,Fc),(18,iN aN),(20,iN s),(24,iN e)],true),[iD a s false],[],[]):=by kernel_rfl
theorem Nt:(execE Tryz.prog call [(194,.bool true),(198,.bool false)] [] [] 10 vh (pa n c a m b aN us s e g)).map (fun z=>(look2 1 [0] [0,1,2,3,4,18,20,24] (z.1,z.2.1),z.2.2)) =
 some ((.normal,[ab us],[(0,ae 0 n c),(1,iN a),(2,iN m),(3,iN b),(4,Fc),(18,iN aN),(20,iN s),(24,iN e)],true),[iD a s true,iD s aN false],[],[]):=by kernel_rfl
theorem Nu:(execE Tryz.prog call [(194,.bool true),(198,.bool true)] [] [(205,vU,[.put 0 (ab us')])] 10 vh (pa n c a m b aN us s e g)).map (fun z=>(look2 1 [0] [0,1,2,3,4,18,20,24] (z.1,z.2.1),z.2.2)) =
 some ((.normal,[ab us'],[(0,ae 0 n c),(1,iN a),(2,iN m),(3,iN b),(4,Fc),(18,iN aN),(20,iN s),(24,iN e)],true),[iD a s true,iD s aN true],[(call 179 [ae 0 n c,iN a,iN s,iN aN,Fc] (hW us),(vU,(hW us).put 0 (ab us')))],[]):=by kernel_rfl
theorem Nv:(execE Tryz.prog call [(208,.bool false)] [] [] 10 vi (pa n c a m b aN us s e g)).map (fun z=>(look2 1 [0] [] (z.1,z.2.1),z.2.2)) =
 some ((.normal,[ab us],[],true),[iD aN e false],[],[]):=by kernel_rfl
theorem Nx:(execE Tryz.prog call [(208,.bool true),(212,.bool false)] [] [] 10 vi (pa n c a m b aN us s e g)).map (fun z=>(look2 1 [0] [] (z.1,z.2.1),z.2.2)) =
 some ((.normal,[ab us],[],true),[iD aN e true,iD e b false],[],[]):=by kernel_rfl
theorem Ny:(execE Tryz.prog call [(208,.bool true),(212,.bool true)] [] [(219,vU,[.put 0 (ab us')])] 10 vi (pa n c a m b aN us s e g)).map (fun z=>(look2 1 [0] [] (z.1,z.2.1),z.2.2)) =
 some ((.normal,[ab us'],[],true),[iD aN e true,iD e b true],[(call 179 [ae 0 n c,iN aN,iN e,iN b,Fc] (hW us),(vU,(hW us).put 0 (ab us')))],[]):=by kernel_rfl
end
section
variable {A X Y C us:List aa} {a m b:Nat}
end
def uO(us:List aa)(e:Exit)(st:St):Prop:=(e = .normal∨e = .ret)∧∃ g,st=av 220 g [] [ab us]
def s9(us:List aa)(e:Exit)(st:St):Prop:=e = .ret∧∃ g,st=av 220 g [] [ab us]
theorem EM{us:List aa}{W:bh}{x:Nat×Nat×Nat}{g:Nat→Value}:a8 Tryz.prog 220 W x .ret (av 220 g [] [ab us]) (s9 us):=fun a w m f=>wp_ret ⟨_,m,f,rfl,g,rfl⟩
theorem Fj{A Y C us:List aa}{z:aa}{n c a m b:Nat}(hus:us=A ++ [z]++Y++C)(hA:A.length=a)(hm:m=a+1)(hb:b=m+Y.length)(hn:n=us.length)(hl:n<1000000)(hz:Kn z)(hK:∀ u∈Y,Kn u)(hY:mB bc Y)(W:bh)(x:Nat×Nat×Nat)(g:Nat→Value) :
  a8 Tryz.prog 220 W x Fx (BB n c a m b us true g) (s9 (A++dB bc [z] Y++C)):=by
 have hlen:us.length=a+1+Y.length+C.length:=by rw [hus]; simp; omega
 have hza:us[a]? = some z:=by have:=KG (X:=[z]) hus hA (i:=0) (by simp); simpa using this
 have hYi:∀ {i:Nat},i<Y.length→us[m+i]? = Y[i]?:=fun h=>KH (X:=[z]) hus hA hm h
 refine a8.seq (Q1:=fun e st=>e = .normal∧∃ g,st=Oq n c a m b us g) (a8.piece bf follows 1 _ _ _ _ (QM dO us n c a m b true g) Met.nil ay.nil az.nil RO rfl rfl (bp us []) rfl fun g=>⟨rfl,g,rfl⟩) ?_ (fun x st hne hq=>absurd hq.1 hne)
 rintro st ⟨-,g,rfl⟩;refine a8.seq (Q1:=fun e st=>e = .normal∧∃ g,st=BD n c a us m b g) (a8.piece bf follows 1 _ _ _ _ (QN dO us n c a m b g) Met.nil ay.nil az.nil RP rfl rfl (bp us []) rfl fun g=>⟨rfl,g,rfl⟩) ?_ (fun x st hne hq=>absurd hq.1 hne)
 rintro st ⟨-,g,rfl⟩;refine a8.seq (Q1:=fun e st=>e = .normal∧∃ p g,p≤Y.length∧(∀ k u,k<p→Y[k]? = some u→bc u z=true)∧(∀ k u,p≤k→Y[k]? = some u→bc u z=false)∧st=Ox n c a us (m+p) g) ?_ ?_ (fun x st hne hq=>absurd hq.1 hne)
 ·refine a8.block ?_
  refine a8.loop (fun k st=>∃ p r g,p≤r∧r≤Y.length∧k=r-p∧(∀ k u,k<p→Y[k]? = some u→bc u z=true)∧(∀ k u,r≤k→Y[k]? = some u→bc u z=false)∧st=BD n c a us (m+p) (m+r) g) ?_ (k:=Y.length)
    ⟨0,Y.length,g,Nat.zero_le _,Nat.le_refl _,rfl,fun k u hk=>absurd hk (Nat.not_lt_zero _),fun k u hk hu=>(by rw [List.getElem?_eq_none hk] at hu; cases hu),by rw [hb]; rfl⟩
  rintro k st ⟨p,r,g,hpr,hr,rfl,hlo,hhi,rfl⟩;cases h33:decide (m+p<m+r) with
  | false =>
    have e:p=r:=by have:=of_decide_eq_false h33; omega
    subst e;refine a8.piece bf follows 1 _ _ _ _ (M' us n c a (m+p) (m+p) g) (Met.cons (bu h33) Met.nil) ay.nil az.nil ES rfl rfl (bp us []) rfl fun g'=>.inr ⟨by simp,?_⟩
    show (if (0:Nat)=0 then _ else _)
    rw [if_pos rfl];exact ⟨rfl,p,g',hr,hlo,hhi,rfl⟩
  | true =>
    have hlt:=of_decide_eq_true h33
    have eh:(m+p+(m+r)) / 2=m+(p+r) / 2:=by omega
    have hq:(p+r) / 2<Y.length:=by omega
    obtain ⟨u,hu⟩:=gz hq;have hku:=hK u (List.mem_of_getElem? hu)
    have hui:us[(m+p+(m+r)) / 2]? = some u:=by rw [eh,hYi hq,hu]
    have met:∀ {b:Bool} {l:List db},bc u z=b→Met l→Met (SU us n c a (m+p) (m+r) ((m+p+(m+r)) / 2) z u b l):=fun hb hl =>
      Met.cons (bu h33) (tV (by omega) (Met.cons (de (by omega)) (Met.cons (eU (fk _) hui) (Met.cons (de (by omega)) (Met.cons (eU (fk _) hza) (Met.cons (qe hb) hl))))))
    cases h50:bc u z with
    | true =>
      refine a8.piece bf follows 1 _ _ _ _ (M9 us n c a (m+p) (m+r) ((m+p+(m+r)) / 2) z u g) (met h50 (Met.cons (bz (by omega)) Met.nil)) ay.nil az.nil ES rfl rfl (bp us []) rfl fun g'=>.inl ⟨rfl,r-((p+r) / 2+1),by omega,(p+r) / 2+1,r,g',by omega,hr,rfl,fun k v hk hv=>?_,hhi,by rw [eh]; rfl⟩
      cases e:bc v z with
      | true=>rfl
      | false =>
        have h1:=lv hY hK (show k≤(p+r) / 2 by omega) hv hu
        rw [sw.ntr u v z hku (hK v (List.mem_of_getElem? hv)) hz h1 e] at h50; cases h50
    | false =>
      refine a8.piece bf follows 1 _ _ _ _ (M8 us n c a (m+p) (m+r) ((m+p+(m+r)) / 2) z u g) (met h50 Met.nil) ay.nil az.nil ES rfl rfl (bp us []) rfl fun g'=>.inl ⟨rfl,(p+r) / 2-p,by omega,p,(p+r) / 2,g',by omega,by omega,rfl,hlo,fun k v hk hv=>?_,by rw [eh]⟩
      have h1:=lv hY hK hk hu hv
      exact sw.ntr v u z (hK v (List.mem_of_getElem? hv)) hku hz h1 h50
 ·rintro st ⟨-,p,g,hp,hlo,hhi,rfl⟩
  obtain ⟨Y1,Y2,hYe,hY1⟩:∃ Y1 Y2,Y=Y1++Y2∧Y1.length=p:=⟨Y.take p,Y.drop p,(List.take_append_drop _ _).symm,by simp; omega⟩
  have k1:∀ u∈Y1,bc u z=true:=fun u hu=>by
    obtain ⟨i,hi⟩:=List.mem_iff_getElem?.1 hu;have hlt:=(List.getElem?_eq_some_iff.1 hi).1
    exact hlo i u (by omega) (by rw [hYe,List.getElem?_append_left hlt,hi])
  have k2:∀ u∈Y2,bc u z=false:=fun u hu=>by
    obtain ⟨i,hi⟩:=List.mem_iff_getElem?.1 hu;exact hhi (p+i) u (by omega) (by rw [hYe,List.getElem?_append_right (by omega),show p+i-Y1.length=i by omega,hi])
  have hfin:A++dB bc [z] Y++C=A++Y1++z::(Y2++C):=by
    rw [hYe,uc k1 k2 (by rw [← hYe]; exact hY)]; simp
  refine a8.seq (Q1:=fun e st=>e = .normal∧∃ g,st=av 220 g [] [ab (A++Y1++z::(Y2++C))]) ?_ ?_ (fun x st hne hq=>absurd hq.1 hne)
  ·refine a8.seq (Q1:=fun e st=>e = .normal∧∃ g,st=Gn n c us (m+p) a g) (a8.piece bf follows 1 _ _ _ _ (QO us n c a (m+p) g) Met.nil ay.nil az.nil RQ rfl rfl (bp us []) rfl fun g=>⟨rfl,g,rfl⟩) ?_ (fun x st hne hq=>absurd hq.1 hne)
   rintro st ⟨-,g,rfl⟩;refine a8.block ?_
   refine a8.loop (fun k st=>∃ P Q g,Y1=P++Q∧k=Q.length∧st=Gn n c (A++P++z::(Q++Y2++C)) (m+p) (a+P.length) g) ?_ (k:=Y1.length) ⟨[],Y1,g,rfl,rfl,by rw [hus,hYe]; simp⟩
   rintro k st ⟨P,Q,g,hPQ,rfl,rfl⟩;have hpl:p=P.length+Q.length:=by rw [← hY1,hPQ]; simp
   have hcl:(A++P++z::(Q++Y2++C)).length=n:=by rw [hn,hus,hYe,hPQ]; simp; omega
   cases h58:decide (a+P.length<m+p-1) with
   | false =>
     have hQ:Q = []:=List.eq_nil_of_length_eq_zero (by have:=of_decide_eq_false h58; omega)
     subst hQ;rw [List.append_nil] at hPQ;subst hPQ;refine a8.piece bf follows 1 _ _ _ _ (Nb _ n c (m+p) (a+Y1.length) g) (Met.cons (dF (by omega) (by omega)) (Met.cons (bu h58) Met.nil)) ay.nil az.nil JA rfl rfl (bp _ []) rfl fun g'=>.inr ⟨by simp,?_⟩
     show (if (2:Nat)=2 then _ else _)
     rw [if_pos rfl];exact ⟨rfl,g',by simp⟩
   | true =>
     have hlt:=of_decide_eq_true h58
     match Q,hPQ,hpl,hcl with
     | [],_,hpl,_=>simp at hpl; omega
     | y::Q,hPQ,hpl,hcl =>
       simp only [List.length_cons] at hpl;have l1:(A++P).length=a+P.length:=by simp; omega
       have l2:(A++P ++ [y]).length=a+P.length+1:=by simp; omega
       have l2':(A++P ++ [z]).length=a+P.length+1:=by simp; omega
       have ec:A++P++z::(y::Q++Y2++C)=(A++P ++ [z])++y::(Q++Y2++C):=by simp
       have dj:(A++P++z::(y::Q++Y2++C))[a+P.length]? = some z:=iA l1
       have hp2:(A++P++z::(y::Q++Y2++C))[a+P.length+1]? = some y:=by rw [ec]; exact iA l2'
       have hin:a+P.length+1<n:=by rw [← hcl]; simp; omega
       have s2:((A++P++z::(y::Q++Y2++C)).set (a+P.length) y).set (a+P.length+1) z=A++(P ++ [y])++z::(Q++Y2++C):=by
         rw [iF l1];have:A++P++y::(y::Q++Y2++C)=(A++P ++ [y])++y::(Q++Y2++C):=by simp
         rw [this,iF l2]; simp
       generalize hcur:A++P++z::(y::Q++Y2++C)=cur at *;refine a8.piece bf follows 1 _ _ _ _ (Na cur (cur.set (a+P.length) y) ((cur.set (a+P.length) y).set (a+P.length+1) z) n c (m+p) (a+P.length) z y g)
         (Met.cons (dF (by omega) (by omega)) (Met.cons (bu h58) (Met.cons (bz (by omega)) (Met.cons (bz (by omega)) (Met.cons (de hin) (Met.cons (eU (fk _) hp2) (Met.cons (de (by omega)) (Met.cons (eU (fk _) dj) (Met.cons (de (by omega)) (Met.cons (de hin) (Met.cons (bz (by omega)) Met.nil)))))))))))
         ay.nil (az.cons (jL (dz _) (by omega)) (az.cons (jL nm (by rw [List.length_set]; omega)) az.nil)) JA rfl rfl (bp _ []) rfl fun g'=>.inl ⟨rfl,Q.length,by simp,P ++ [y],Q,g',by rw [hPQ]; simp,rfl,?_⟩
       rw [s2,List.length_append];rfl
  ·rintro st ⟨-,g,rfl⟩
   rw [hfin];exact EM
theorem Bi{A X C us:List aa}{y:aa}{n c a m b:Nat}{d:Bool}(hus:us=A++X ++ [y]++C)(hA:A.length=a)(hm:m=a+X.length)(hn:n=us.length)(hl:n<1000000)(hy:Kn y)(hK:∀ u∈X,Kn u)(hX:mB bc X)(W:bh)(x:Nat×Nat×Nat)(g:Nat→Value) :
  a8 Tryz.prog 220 W x Fy (rX n c a m b us d g) (s9 (A++dB bc X [y]++C)):=by
 have hlen:us.length=a+X.length+1+C.length:=by rw [hus]; simp; omega
 have hym:us[m]? = some y:=by have:=KH (Y:=[y]) hus hA hm (i:=0) (by simp); simpa using this
 have hXi:∀ {i:Nat},i<X.length→us[a+i]? = X[i]?:=fun h=>KG (Y:=[y]) hus hA h
 refine a8.seq (Q1:=fun e st=>e = .normal∧∃ g,st=OI n c a m us g) (a8.piece bf follows 1 _ _ _ _ (QQ us n c a m b d g) Met.nil ay.nil az.nil RU rfl rfl (bp us []) rfl fun g=>⟨rfl,g,rfl⟩) ?_ (fun x st hne hq=>absurd hq.1 hne)
 rintro st ⟨-,g,rfl⟩;refine a8.seq (Q1:=fun e st=>e = .normal∧∃ g,st=BU n c m us a m g) (a8.piece bf follows 1 _ _ _ _ (QR us n c a m g) Met.nil ay.nil az.nil RV rfl rfl (bp us []) rfl fun g=>⟨rfl,g,rfl⟩) ?_ (fun x st hne hq=>absurd hq.1 hne)
 rintro st ⟨-,g,rfl⟩;refine a8.seq (Q1:=fun e st=>e = .normal∧∃ p g,p≤X.length∧(∀ k u,k<p→X[k]? = some u→bc y u=false)∧(∀ k u,p≤k→X[k]? = some u→bc y u=true)∧st=OJ n c m us (a+p) g) ?_ ?_ (fun x st hne hq=>absurd hq.1 hne)
 ·refine a8.block ?_
  refine a8.loop (fun k st=>∃ p r g,p≤r∧r≤X.length∧k=r-p∧(∀ k u,k<p→X[k]? = some u→bc y u=false)∧(∀ k u,r≤k→X[k]? = some u→bc y u=true)∧st=BU n c m us (a+p) (a+r) g) ?_ (k:=X.length)
    ⟨0,X.length,g,Nat.zero_le _,Nat.le_refl _,rfl,fun k u hk=>absurd hk (Nat.not_lt_zero _),fun k u hk hu=>(by rw [List.getElem?_eq_none hk] at hu; cases hu),by rw [← hm]; rfl⟩
  rintro k st ⟨p,r,g,hpr,hr,rfl,hlo,hhi,rfl⟩;cases h85:decide (a+p<a+r) with
  | false =>
    have e:p=r:=by have:=of_decide_eq_false h85; omega
    subst e;refine a8.piece bf follows 1 _ _ _ _ (Nf us n c m (a+p) (a+p) g) (Met.cons (bu h85) Met.nil) ay.nil az.nil ET rfl rfl (bp us []) rfl fun g'=>.inr ⟨by simp,?_⟩
    show (if (4:Nat)=4 then _ else _)
    rw [if_pos rfl];exact ⟨rfl,p,g',hr,hlo,hhi,rfl⟩
  | true =>
    have hlt:=of_decide_eq_true h85
    have eh:(a+p+(a+r)) / 2=a+(p+r) / 2:=by omega
    have hq:(p+r) / 2<X.length:=by omega
    obtain ⟨u,hu⟩:=gz hq;have hku:=hK u (List.mem_of_getElem? hu)
    have hui:us[(a+p+(a+r)) / 2]? = some u:=by rw [eh,hXi hq,hu]
    have met:∀ {b:Bool} {l:List db},bc y u=b→Met l→Met (S4 us n c m (a+p) (a+r) ((a+p+(a+r)) / 2) y u b l):=fun hb hl =>
      Met.cons (bu h85) (tV (by omega) (Met.cons (de (by omega)) (Met.cons (eU (fk _) hym) (Met.cons (de (by omega)) (Met.cons (eU (fk _) hui) (Met.cons (qe hb) hl))))))
    cases h102:bc y u with
    | false =>
      refine a8.piece bf follows 1 _ _ _ _ (Nc us n c m (a+p) (a+r) ((a+p+(a+r)) / 2) y u g) (met h102 (Met.cons (bz (by omega)) Met.nil)) ay.nil az.nil ET rfl rfl (bp us []) rfl fun g'=>.inl ⟨rfl,r-((p+r) / 2+1),by omega,(p+r) / 2+1,r,g',by omega,hr,rfl,fun k v hk hv=>?_,hhi,by rw [eh]; rfl⟩
      have h1:=lv hX hK (show k≤(p+r) / 2 by omega) hv hu
      exact sw.ntr y u v hy hku (hK v (List.mem_of_getElem? hv)) h102 h1
    | true =>
      refine a8.piece bf follows 1 _ _ _ _ (Nd us n c m (a+p) (a+r) ((a+p+(a+r)) / 2) y u g) (met h102 Met.nil) ay.nil az.nil ET rfl rfl (bp us []) rfl fun g'=>.inl ⟨rfl,(p+r) / 2-p,by omega,p,(p+r) / 2,g',by omega,by omega,rfl,hlo,fun k v hk hv=>?_,by rw [eh]⟩
      cases e:bc y v with
      | true=>rfl
      | false =>
        have h1:=lv hX hK hk hu hv
        rw [sw.ntr y v u hy (hK v (List.mem_of_getElem? hv)) hku e h1] at h102; cases h102
 ·rintro st ⟨-,p,g,hp,hlo,hhi,rfl⟩
  obtain ⟨X1,X2,hXe,hX1⟩:∃ X1 X2,X=X1++X2∧X1.length=p:=⟨X.take p,X.drop p,(List.take_append_drop _ _).symm,by simp; omega⟩
  have k1:∀ u∈X1,bc y u=false:=fun u hu=>by
    obtain ⟨i,hi⟩:=List.mem_iff_getElem?.1 hu;have hlt:=(List.getElem?_eq_some_iff.1 hi).1
    exact hlo i u (by omega) (by rw [hXe,List.getElem?_append_left hlt,hi])
  have k2:∀ u∈X2,bc y u=true:=fun u hu=>by
    obtain ⟨i,hi⟩:=List.mem_iff_getElem?.1 hu;exact hhi (p+i) u (by omega) (by rw [hXe,List.getElem?_append_right (by omega),show p+i-X1.length=i by omega,hi])
  have hfin:A++dB bc X [y]++C=A++X1++y::(X2++C):=by
    have:dB bc X [y]=dA bc X y:=rfl
    rw [this,gp hXe k2 (fun q hq=>k1 q (List.mem_of_getLast? hq))]; simp
  refine a8.seq (Q1:=fun e st=>e = .normal∧∃ g,st=av 220 g [] [ab (A++X1++y::(X2++C))]) ?_ ?_ (fun x st hne hq=>absurd hq.1 hne)
  ·refine a8.seq (Q1:=fun e st=>e = .normal∧∃ g,st=Gv n c us (a+p) m g) (a8.piece bf follows 1 _ _ _ _ (QS us n c m (a+p) g) Met.nil ay.nil az.nil RW rfl rfl (bp us []) rfl fun g=>⟨rfl,g,rfl⟩) ?_ (fun x st hne hq=>absurd hq.1 hne)
   rintro st ⟨-,g,rfl⟩;refine a8.block ?_
   refine a8.loop (fun k st=>∃ P Q g,X2=P++Q∧k=P.length∧st=Gv n c (A++X1++P++y::(Q++C)) (a+p) (a+p+P.length) g) ?_ (k:=X2.length) ⟨X2,[],g,by simp,rfl,by rw [hus,hXe,show a+p+X2.length=m by rw [hm,hXe]; simp; omega]; simp⟩
   rintro k st ⟨P,Q,g,hPQ,rfl,rfl⟩;have hcl:(A++X1++P++y::(Q++C)).length=n:=by rw [hn,hus,hXe,hPQ]; simp; omega
   cases h110:decide (a+p<a+p+P.length) with
   | false =>
     have hP:P = []:=List.eq_nil_of_length_eq_zero (by have:=of_decide_eq_false h110; omega)
     subst hP;rw [List.nil_append] at hPQ;subst hPQ;refine a8.piece bf follows 1 _ _ _ _ (Nh _ n c (a+p) (a+p+([]:List aa).length) g) (Met.cons (jx h110) Met.nil) ay.nil az.nil JB rfl rfl (bp _ []) rfl fun g'=>.inr ⟨by simp,?_⟩
     show (if (6:Nat)=6 then _ else _)
     rw [if_pos rfl];exact ⟨rfl,g',by simp⟩
   | true =>
     have hpos:=of_decide_eq_true h110
     obtain ⟨P',q,rfl⟩:∃ P' q,P=P' ++ [q]:=by
       rcases List.eq_nil_or_concat P with h | ⟨L,b,h⟩
       ·rw [h] at hpos; simp at hpos
       ·exact ⟨L,b,by simpa using h⟩
     have el:a+p+(P' ++ [q]).length=a+p+P'.length+1:=by simp; omega
     have e1:A++X1++(P' ++ [q])++y::(Q++C)=(A++X1++P')++q::y::(Q++C):=by simp
     have e2:A++X1++(P' ++ [q])++y::(Q++C)=(A++X1++P' ++ [q])++y::(Q++C):=by simp
     have l1:(A++X1++P').length=a+p+P'.length:=by simp; omega
     have l2:(A++X1++P' ++ [q]).length=a+p+P'.length+1:=by simp; omega
     rw [el] at h110 ⊢;have hg1:(A++X1++(P' ++ [q])++y::(Q++C))[a+p+P'.length]? = some q:=by rw [e1]; exact iA l1
     have hg2:(A++X1++(P' ++ [q])++y::(Q++C))[a+p+P'.length+1]? = some y:=by rw [e2]; exact iA l2
     have hin:a+p+P'.length+1<n:=by rw [← hcl]; simp; omega
     have s2:((A++X1++(P' ++ [q])++y::(Q++C)).set (a+p+P'.length+1) q).set (a+p+P'.length+1-1) y=A++X1++P'++y::(q::Q++C):=by
       rw [e2,iF l2];have:A++X1++P' ++ [q]++q::(Q++C)=(A++X1++P')++q::(q::(Q++C)):=by simp
       rw [this,show a+p+P'.length+1-1=a+p+P'.length by omega,iF l1]; simp
     generalize hcur:A++X1++(P' ++ [q])++y::(Q++C)=cur at *;have ep:a+p+P'.length+1-1=a+p+P'.length:=by omega
     refine a8.piece bf follows 1 _ _ _ _ (Ng cur (cur.set (a+p+P'.length+1) q) ((cur.set (a+p+P'.length+1) q).set (a+p+P'.length+1-1) y) n c (a+p) (a+p+P'.length+1) q y g)
       (Met.cons (jx h110) (Met.cons (dF (by omega) (by omega)) (Met.cons (dF (by omega) (by omega)) (Met.cons (de (by omega)) (Met.cons (eU (fk _) (by rw [ep]; exact hg1)) (Met.cons (de hin) (Met.cons (eU (fk _) hg2) (Met.cons (de hin) (Met.cons (de (by omega)) (Met.cons (dF (by omega) (by omega)) Met.nil))))))))))
       ay.nil (az.cons (jL (dz _) (by omega)) (az.cons (jL nm (by rw [List.length_set]; omega)) az.nil)) JB rfl rfl (bp _ []) rfl fun g'=>.inl ⟨rfl,P'.length,by simp,P',q::Q,g',by rw [hPQ]; simp,rfl,?_⟩
     rw [s2,ep]
  ·rintro st ⟨-,g,rfl⟩
   rw [hfin];exact EM
end Go.Proofs.YtgeoommlmddgpaaGreat.LtL
