/- Part 4. -/
import Derived.Test.YtgeoommlmddgpaaGreatXeC
import Derived.Lib.Overlaps
import Derived.Laws.Externs
import Derived.Test.YtgeoommlmddgpaaGreatRows
set_option linter.unusedVariables false
set_option linter.unusedSimpArgs false
set_option maxRecDepth 100000
namespace Go.Proofs.YtgeoommlmddgpaaGreat.LtA
open Go Go.Proofs Go.Proofs.YtgeoommlmddgpaaGreat.AI Go.RowKit
def gOver:aB
 | [.slice (some ⟨a,off,none⟩) (_+1) _,.slice (some ⟨b,_,none⟩) _ _],hp=>match Nat.beq a b,hp.get a,hp.get b with
   | false,some (.cells _ cs1 false),some (.cells _ (_::_) false)=>match Nat.ble off cs1.length with
     | true=>some (.bool false,hp)
     | false=>none
   | _,_,_=>none
 | _,_=>none
theorem Mu:aq Tryz.prog 165 gOver:=by
 intro args hp v hp' he hk;unfold gOver at he;split at he
 case h_2=>cases he
 rename_i a off la ca b offb lb cb;split at he
 case h_2=>cases he
 rename_i t1 cs1 t2 y ys hab ha hb;split at he
 case h_2=>cases he
 rename_i hoff;cases he;refine ⟨hk,Nat.le_refl _,fun m h w args' hfr s ra=>.inl ?_⟩
 obtain ⟨v1,bs,e1,r1,r2⟩:=ra.of_cons;obtain ⟨v2,bs2,e2,r3,r4⟩:=r2.of_cons;have e3:=r4.of_nil
 subst e3;have ha':=bu hk h a _ ha
 have hb':=bu hk h b _ hb
 obtain ⟨_,_,ra1,oa,capa,q1,rfl,hla,hha⟩:=r1.of_slice;obtain ⟨_,_,rb1,ob,capb,q2,rfl,hlb,hhb⟩:=r3.of_slice;cases q1;cases q2;have ea:args' = #[.slice (some ⟨ra1,oa,none⟩) (la+1) capa,.slice (some ⟨rb1,ob,none⟩) lb capb]:=by cases args'; simp_all
 subst ea;rcases hha with hd | ⟨δ1,E1,hma,hoa,_⟩
 ·rw [ha'] at hd; cases hd
 rcases hhb with hd | ⟨δ2,E2,hmb,_,_⟩
 ·rw [hb'] at hd; cases hd
 obtain ⟨c1,f1,g1,g2,g3,g4,g5⟩:=cd.row (s:=s) ha' hma;obtain ⟨c2,f2,k1,k2,k3,k4,k5⟩:=cd.row (s:=s) hb' hmb;dsimp only at g1 g2 g3 k1 k2 k3
 have hne:ra1≠rb1:=by
  intro e;have:=s.inj a b _ _ hma hmb (by unfold rw?; rw [ha']; rfl) (by unfold aU; rw [hb']) e
  subst this;have hh:Nat.beq a a=true:=Nat.beq_refl a
  rw [hh] at hab;cases hab
 have hoa':oa = δ1+off:=by
  rcases hoa with h1 | h1
  ·exact h1
  ·omega
 have hle:off≤cs1.length:=Nat.le_of_ble_eq_true hoff
 have hfz:∀ j,j≤c1.size→w.frozen? ⟨ra1,j,none⟩=false:=fun j hj=>kV g1 (g5.1 rfl j hj)
 have hrun:=Lib.run_overlaps_apart w 24 4 78 Tryz.underlying24 7 (fun w=>by kernel_rfl) ⟨ra1,oa,none⟩ ⟨rb1,ob,none⟩ (la+1) capa lb capb hne t1 t2 c1.size c2.size
  (by unfold World.shape?; rw [g1]) (by unfold World.shape?; rw [k1]) (by simp at k2; omega) (hfz oa (by omega)) (hfz c1.size (Nat.le_refl _))
 refine ⟨.bool false,w,?_,m,dT.refl s,.flat rfl⟩
 rw [run_callFunc_extern Tryz.func165 (by kernel_rfl) (by kernel_rfl) (by kernel_rfl) (e:=Extern.SlicesOverlaps.overlaps #[24,24] #[4]) (by kernel_rfl),hrun]
 rfl
noncomputable def vC:Code:=(Tryz.f140.body).getD .skip
theorem KT:Tryz.f140.body=some vC:=by kernel_rfl
theorem VV:codeSafe Tryz.prog 95 vC=true:=by kernel_rfl
theorem ntmps63:Tryz.f140.ntmps=95:=by kernel_rfl
def bz(b off n c:Nat):Value:=.slice (some ⟨b,off,none⟩) n c
def cc(c len h:Nat):Nat:=if eN c=1∧wide c=7 then c else if eN c=0 then 3*(wide c % 1000000+1000000*(len+spareOf c-h)) else 3*7+2
section
variable (call:aG) (L X:List Value) (t2:TypeId) (n c c2 i x:Nat)
def NX(L:List Value)(X:List Value)(t2:TypeId)(n c c2 i:Nat):St:=⟨tmsOf [bz 0 0 n c,iN i,af 1 1 c2] 0 .leaf,heapOf [.cells 78 L false,.cells t2 X false,.dead] aE,[]⟩
def hI(L:List Value)(X:List Value)(t2:TypeId):Hp:=heapOf [.cells 78 L false,.cells t2 X false,.dead] aE
theorem Xl:(execE Tryz.prog call [(12,bz 0 (i*7) (n-i) (cc c n n)),(22,.bool true)] [] [(25,aW 3 (n+1),[.put 0 .dead,.push (.cells 78 (L++X) false)])] 60 vC (NX L X t2 n c c2 i)).map (fun y=>(look2 1 [3] [6] (y.1,y.2.1),y.2.2)) =
 some ((.ret,[.cells 78 (L++X) false],[(6,aW 0 (n+1))],true),
  [(fstV ((aSlice Tryz.prog 24 (bz 0 0 n c) (some (iN i)) none none).map fun v=>(v,none)),bz 0 (i*7) (n-i) (cc c n n)),(some (.bool (Int.ofNat i==Int.ofNat n)),.bool true)],[],
  [(aAppend Tryz.prog (hI L X t2).get 3 [24,24] [bz 0 0 n c,af 1 1 c2],(aW 3 (n+1),[.put 0 .dead,.push (.cells 78 (L++X) false)]))]):=by kernel_rfl
theorem Xm(La Lb Z Z':List Value):(execE Tryz.prog call [(12,bz 0 (i*7) (n-i) (cc c n n)),(22,.bool false),(28,iN (n+1)),(30,iN n),(31,.bool true),(34,bz 0 0 i (cc c n i)),(37,iN (n+1)),(39,iN (n+1-i)),(43,bz 3 (i*7) (n+1-i) 22),(49,iN (i+1)),(50,bz 3 ((i+1)*7) (n-i) 22),(53,bz 0 (i*7) (n-i) (cc c n n))] []
  [(40,aW 3 (n+1),[.push (.cells 78 (La++Z) false)]),(45,iN 1,[.put 3 (.cells 78 (La++X++Z') false)]),(54,iN (n-i),[.put 3 (.cells 78 (La++X++Lb) false)])] 60 vC (NX L X t2 n c c2 i)).map (fun y=>(look2 1 [3] [6] (y.1,y.2.1),y.2.2)) =
 some ((.ret,[.cells 78 (La++X++Lb) false],[(6,aW 0 (n+1))],true),
  [(fstV ((aSlice Tryz.prog 24 (bz 0 0 n c) (some (iN i)) none none).map fun v=>(v,none)),bz 0 (i*7) (n-i) (cc c n n)),
   (some (.bool (Int.ofNat i==Int.ofNat n)),.bool false),(some (.int .i64 (wrapF .i64 (Int.ofNat n+1))),iN (n+1)),
   (fstV ((aCap Tryz.prog 24 (bz 0 0 n c)).map fun v=>(v,none)),iN n),(some (.bool (decide (Int.ofNat (n+1)>Int.ofNat n))),.bool true),
   (fstV ((aSlice Tryz.prog 24 (bz 0 0 n c) none (some (iN i)) none).map fun v=>(v,none)),bz 0 0 i (cc c n i)),
   (some (.int .i64 (wrapF .i64 (Int.ofNat n+1))),iN (n+1)),(some (.int .i64 (wrapF .i64 (Int.ofNat (n+1)-Int.ofNat i))),iN (n+1-i)),
   (fstV ((aSlice Tryz.prog 24 (aW 3 (n+1)) (some (iN i)) none none).map fun v=>(v,none)),bz 3 (i*7) (n+1-i) 22),
   (some (.int .i64 (wrapF .i64 (Int.ofNat i+1))),iN (i+1)),
   (fstV ((aSlice Tryz.prog 24 (aW 3 (n+1)) (some (iN (i+1))) none none).map fun v=>(v,none)),bz 3 ((i+1)*7) (n-i) 22),
   (fstV ((aSlice Tryz.prog 24 (bz 0 0 n c) (some (iN i)) none none).map fun v=>(v,none)),bz 0 (i*7) (n-i) (cc c n n))],[],
  [(aAppend Tryz.prog (hI L X t2).get 3 [24,3] [bz 0 0 i (cc c n i),iN (n+1-i)],(aW 3 (n+1),[.push (.cells 78 (La++Z) false)])),
   (aCopy Tryz.prog ((hI L X t2).push (.cells 78 (La++Z) false)).get [24,24] [bz 3 (i*7) (n+1-i) 22,af 1 1 c2],(iN 1,[.put 3 (.cells 78 (La++X++Z') false)])),
   (aCopy Tryz.prog (((hI L X t2).push (.cells 78 (La++Z) false)).put 3 (.cells 78 (La++X++Z') false)).get [24,24] [bz 3 ((i+1)*7) (n-i) 22,bz 0 (i*7) (n-i) (cc c n n)],(iN (n-i),[.put 3 (.cells 78 (La++X++Lb) false)]))]):=by kernel_rfl
theorem Xn(M1 M2:List Value)(c1:Nat):(execE Tryz.prog call [(12,bz 0 (i*7) (n-i) (cc c n n)),(22,.bool false),(28,iN (n+1)),(30,iN (n+x)),(31,.bool false),(59,iN (n+1)),(60,bz 0 0 (n+1) c1),(65,iN (i+1)),(66,bz 0 ((i+1)*7) (n-i) (cc c1 (n+1) (n+1))),(72,iN (i+1)),(73,bz 0 ((i+1)*7) (n-i) (cc c1 (n+1) (n+1))),
  (76,bz 0 (i*7) (n+1-i) (cc c1 (n+1) (n+1))),(80,bz 0 (i*7) (n+1-i) (cc c1 (n+1) (n+1)))] [(67,.bool false,[])]
  [(77,iN (n-i),[.put 0 (.cells 78 M1 false)]),(82,iN 1,[.put 0 (.cells 78 M2 false)])] 60 vC (NX L X t2 n c c2 i)).map (fun y=>(look2 1 [0] [6] (y.1,y.2.1),y.2.2)) =
 some ((.ret,[.cells 78 M2 false],[(6,bz 0 0 (n+1) c1)],true),
  [(fstV ((aSlice Tryz.prog 24 (bz 0 0 n c) (some (iN i)) none none).map fun v=>(v,none)),bz 0 (i*7) (n-i) (cc c n n)),
   (some (.bool (Int.ofNat i==Int.ofNat n)),.bool false),(some (.int .i64 (wrapF .i64 (Int.ofNat n+1))),iN (n+1)),
   (fstV ((aCap Tryz.prog 24 (bz 0 0 n c)).map fun v=>(v,none)),iN (n+x)),(some (.bool (decide (Int.ofNat (n+1)>Int.ofNat (n+x)))),.bool false),
   (some (.int .i64 (wrapF .i64 (Int.ofNat n+1))),iN (n+1)),
   (fstV ((aSlice Tryz.prog 24 (bz 0 0 n c) none (some (iN (n+1))) none).map fun v=>(v,none)),bz 0 0 (n+1) c1),
   (some (.int .i64 (wrapF .i64 (Int.ofNat i+1))),iN (i+1)),
   (fstV ((aSlice Tryz.prog 24 (bz 0 0 (n+1) c1) (some (iN (i+1))) none none).map fun v=>(v,none)),bz 0 ((i+1)*7) (n-i) (cc c1 (n+1) (n+1))),
   (some (.int .i64 (wrapF .i64 (Int.ofNat i+1))),iN (i+1)),
   (fstV ((aSlice Tryz.prog 24 (bz 0 0 (n+1) c1) (some (iN (i+1))) none none).map fun v=>(v,none)),bz 0 ((i+1)*7) (n-i) (cc c1 (n+1) (n+1))),
   (fstV ((aSlice Tryz.prog 24 (bz 0 0 (n+1) c1) (some (iN i)) none none).map fun v=>(v,none)),bz 0 (i*7) (n+1-i) (cc c1 (n+1) (n+1))),
   (fstV ((aSlice Tryz.prog 24 (bz 0 0 (n+1) c1) (some (iN i)) none none).map fun v=>(v,none)),bz 0 (i*7) (n+1-i) (cc c1 (n+1) (n+1)))],
  [(call 165 [af 1 1 c2,bz 0 ((i+1)*7) (n-i) (cc c1 (n+1) (n+1))] (hI L X t2),(.bool false,hI L X t2))],
  [(aCopy Tryz.prog (hI L X t2).get [24,24] [bz 0 ((i+1)*7) (n-i) (cc c1 (n+1) (n+1)),bz 0 (i*7) (n+1-i) (cc c1 (n+1) (n+1))],(iN (n-i),[.put 0 (.cells 78 M1 false)])),
   (aCopy Tryz.prog ((hI L X t2).put 0 (.cells 78 M1 false)).get [24,24] [bz 0 (i*7) (n+1-i) (cc c1 (n+1) (n+1)),af 1 1 c2],(iN 1,[.put 0 (.cells 78 M2 false)]))]):=by kernel_rfl
end
theorem qP{A B C D:List Value}{k:Nat}(hk:A.length=k)(hl:D.length=B.length):putL (A++B++C) k D=A++D++C:=by
 apply List.ext_getElem?
 intro j;rw [fS];by_cases h1:j<k
 ·rw [if_neg (by omega),List.append_assoc,List.append_assoc,List.getElem?_append_left (by omega),List.getElem?_append_left (by omega)]
 ·by_cases h2:j<k+D.length
  ·rw [if_pos ⟨by omega,h2,by simp; omega⟩,List.append_assoc A D C,List.getElem?_append_right (by omega),List.getElem?_append_left (by omega),hk]
  ·rw [if_neg (by omega),List.getElem?_append_right (by simp; omega),List.getElem?_append_right (by simp; omega)]
   congr 1; simp; omega
theorem FA{b off n c l:Nat}(h:l≤n):fstV ((aSlice Tryz.prog 24 (bz b off n c) (some (iN l)) none none).map fun v=>(v,none))=some (bz b (off+l*7) (n-l) (cc c n n)):=by
 have h1:(0:Int)≤Int.ofNat l∧Int.ofNat l≤(n:Int):=⟨Int.natCast_nonneg l,by simpa using h⟩
 simp only [aSlice,bz,iN,Tryz.underlying24,kI,bound];rw [if_pos h1];simp [fstV,cc]
theorem eu{b n c l:Nat}(h:l≤n):fstV ((aSlice Tryz.prog 24 (bz b 0 n c) (some (iN l)) none none).map fun v=>(v,none))=some (bz b (l*7) (n-l) (cc c n n)):=by
 rw [FA h,Nat.zero_add]
theorem O5(n h:Nat):cc 22 n h=22:=by unfold cc; rw [if_pos (by decide)]
theorem qZ{b n c l:Nat}(h:l≤n+spareOf c):fstV ((aSlice Tryz.prog 24 (bz b 0 n c) none (some (iN l)) none).map fun v=>(v,none))=some (bz b 0 l (cc c n l)):=by
 have h1:(0:Int)≤Int.ofNat l∧Int.ofNat l≤((n+spareOf c:Nat):Int):=⟨Int.natCast_nonneg l,Int.ofNat_le.2 h⟩
 simp only [aSlice,bz,iN,Tryz.underlying24,kI,bound];rw [if_pos h1];simp [fstV,cc]
theorem C6{b n c x:Nat}(h0:c % 3=0)(hx:c / 3 / 1000000=x):fstV ((aCap Tryz.prog 24 (bz b 0 n c)).map fun v=>(v,none))=some (iN (n+x)):=by
 simp only [aCap,bz,Tryz.underlying24,h0];have e:(↑n + ↑c / 3 / 1000000:Int)=Int.ofNat (n+x):=by
  rw [← hx];simp only [Int.ofNat_eq_natCast,Int.natCast_add,Int.natCast_ediv];rfl
 show some (Value.int .i64 (↑n + ↑c / 3 / 1000000))=_
 rw [e];rfl
theorem IZ:∃ z,tzero Tryz.prog 78=some z∧z.length=7∧z.all isOne=true:=by
 have h:(tzero Tryz.prog 78).map (fun z=>(z.length,z.all isOne))=some (7,true):=by kernel_rfl
 obtain ⟨z,h1,h2⟩:=Option.map_eq_some_iff.1 h;simp only [Prod.mk.injEq] at h2;exact ⟨z,h1,h2.1,h2.2⟩
theorem wT{z:List Value}(hz:z.all isOne=true):∀ n,(repL z n).all isOne=true
 | 0=>rfl
 | n+1=>by simp only [repL,List.all_append,hz,wT hz n,Bool.and_self]
theorem qS(z:List Value):∀ a b,repL z (a+b)=repL z a++repL z b
 | 0,b=>by simp [repL]
 | a+1,b=>by rw [show a+1+b=(a+b)+1 by omega,repL,repL,qS z a b,List.append_assoc]
theorem vN{A B C:List Value}{k n:Nat}(hk:A.length=k)(hn:B.length=n):eO (A++B++C) k n=some B:=by
 have e:((A++B++C).drop k).take n=B:=by
  rw [List.append_assoc,List.drop_left' hk,List.take_left' hn]
 unfold eO;rw [e,if_pos hn]
theorem GP{get:Nat→Option ae}{L X:List Value}{t2:TypeId}{n c2:Nat}(h0:get 0=some (.cells 78 L false))(h1:get 1=some (.cells t2 X false))(hL:L.length=n*7)(hX:X.length=7)(oX:X.all isOne=true)(hn:n<1000000) :
  aAppend Tryz.prog get 3 [24,24] [bz 0 0 n 22,af 1 1 c2]=some (aW 3 (n+1),[.put 0 .dead,.push (.cells 78 (L++X) false)]):=by
 obtain ⟨i,hi,h7,px⟩:=mi;obtain ⟨z,hz,hzl⟩:=oK;have hsrc:aSrc Tryz.prog get 7 z (.slice 78) (af 1 1 c2)=some (X,1):=by
  unfold aSrc;simp only [af,srcLen,srcCells,h1];rw [if_neg (by omega),if_neg (by omega),cu (n:=1*7) (by omega)]
  rfl
 have hg:eO L 0 (n*7)=some L:=cu hL
 unfold aAppend;simp only [Tryz.underlying24,hi,hz,h7,px,hzl];rw [if_neg (by decide)]
 simp only [hsrc,oX,hX];rw [if_neg (by simp)]
 simp only [bz];rw [if_neg (by omega),if_neg (by omega)]
 simp only [h0,hg];rw [if_neg (by omega),if_pos (by decide),if_neg (by rw [hL]; omega)]
 rfl
theorem Cp{get:Nat→Option ae}{L:List Value}{n i k cI:Nat}(h0:get 0=some (.cells 78 L false))(hL:L.length=n*7)(hi:i≤n)(hc:cI % 3=0∧cI / 3 / 1000000<k)(hn:n<1000000)(hk:i+k=n+1):∃ z,z.length=7 ∧
  aAppend Tryz.prog get 3 [24,3] [bz 0 0 i cI,iN k]=some (aW 3 (n+1),[.push (.cells 78 (L.take (i*7)++repL z k) false)]):=by
 obtain ⟨ii,hi',h7,px⟩:=mi;obtain ⟨z,hz,hzl,hzo⟩:=IZ;refine ⟨z,hzl,?_⟩
 have hsrc:aSrc Tryz.prog get 7 z (.int .i64) (iN k)=some (repL z k,k):=by
  unfold aSrc iN;simp only;rw [if_pos (by simp only [Int.ofNat_eq_natCast]; omega)]
  rfl
 have hg:eO L 0 (i*7)=some (L.take (i*7)):=by
  unfold eO;rw [List.drop_zero,if_pos (by rw [List.length_take]; omega)]
 have hu3:Tryz.prog.underlying 3=some (.int .i64):=by kernel_rfl
 unfold aAppend;simp only [Tryz.underlying24,hu3,hi',hz,h7,px,hzl];rw [if_neg (by decide)]
 simp only [hsrc,wT hzo,dj,hzl];rw [if_neg (by simp)]
 simp only [bz];rw [if_neg (by omega),if_neg (by omega)]
 simp only [h0,hg];rw [if_pos hc,hk];rfl
theorem pC{get:Nat→Option ae}{d doff dlen dc s soff slen sc m:Nat}{ty ty2:TypeId}{ro:Bool}{A B C A2 D C2:List Value}(hm:min slen dlen=m)(h0:0<m)(hd:get d=some (.cells ty (A++B++C) false))(hs:get s=some (.cells ty2 (A2++D++C2) ro))(hA:A.length=doff)(hB:B.length=m*7)(hA2:A2.length=soff)(hD:D.length=m*7)(oD:D.all isOne=true) :
  aCopy Tryz.prog get [24,24] [bz d doff dlen dc,bz s soff slen sc]=some (iN m,[.put d (.cells ty (A++D++C) false)]):=by
 have hsrc:srcCells get 7 m (bz s soff slen sc)=some D:=by
  unfold srcCells bz;simp only [hs];rw [if_neg (by omega),if_neg (by omega),vN hA2 hD]
 unfold aCopy;simp only [Tryz.underlying24,kI];have hl:srcLen (bz s soff slen sc)=some slen:=rfl
 rw [hl];simp only [bz,hm];have hsrc':srcCells get 7 m (.slice (some ⟨s,soff,none⟩) slen sc)=some D:=hsrc
 rw [hsrc'];simp only [oD,hD];rw [if_neg (by simp),if_neg (by omega)]
 simp only [hd];rw [if_pos (by simp; omega),qP hA (by omega)]
 rfl
theorem wrap_add{n:Nat}(h:n<1000000):(some (Value.int .i64 (wrapF .i64 (Int.ofNat n+1))))=some (iN (n+1)):=bA h
theorem Gh{n i:Nat}(h:n<1000001)(hi:i≤n):(some (Value.int .i64 (wrapF .i64 (Int.ofNat n-Int.ofNat i))))=some (iN (n-i)):=by
 have e:Int.ofNat n-Int.ofNat i=Int.ofNat (n-i):=by simp only [Int.ofNat_eq_natCast]; omega
 rw [e,wrap64 (by have:=Int.natCast_nonneg (n-i); simp only [Int.ofNat_eq_natCast]; omega) (by simp only [Int.ofNat_eq_natCast]; omega)]
 rfl
def gIns:aB
 | [.slice (some ⟨b,0,none⟩) n c,.int .i64 (.ofNat i),.slice (some ⟨b2,0,none⟩) 1 c2],hp =>
   match Nat.beq c 22,Nat.beq b b2,hp.get b,hp.get b2 with
   | true,false,some (.cells ty L false),some (.cells t2 X false) =>
     match Nat.beq ty 78&&Nat.beq L.length (n*7)&&Nat.beq X.length 7&&Nat.ble i n&&Nat.blt n 1000000&&L.all inert&&X.all inert&&L.all isOne&&X.all isOne with
     | true=>some (bz hp.sz 0 (n+1) 23,heapOf ([.cells 78 (L.take (i*7)++X++L.drop (i*7)) false] ++ [.dead]) (killL [b,b2] hp))
     | false=>none
   | _,_,_,_=>none
 | _,_=>none
noncomputable def EI:Ext:=fq E5 [(165,gOver)]
theorem Ou:ExtOk Tryz.prog EI:=bD BT (.cons Mu .nil)
noncomputable def cI:aG:=aCall Tryz.prog EI 5
theorem C0:a8 Tryz.prog cI:=aP Ou follows 5
theorem Hg(args:List Value)(hp:Hp):cI 165 args hp=gOver args hp:=rfl
theorem Xe(v:Value)(O:List ae)(g:Nat→Value):retVal Tryz.prog Tryz.f140 (av 95 g [(6,v)] O)=some v:=by kernel_rfl
theorem N4(L X:List Value)(t2:TypeId):(hI L X t2).get 0=some (.cells 78 L false):=by unfold hI; rw [al]; rfl
theorem SE(L X:List Value)(t2:TypeId):(hI L X t2).get 1=some (.cells t2 X false):=by unfold hI; rw [al]; rfl
theorem DV(L X:List Value)(t2:TypeId):(hI L X t2).sz=3:=rfl
def uU(R:List Value)(n:Nat)(e:Exit)(st:St):Prop:=(e = .normal∨e = .ret)∧st.df = []∧∃ c v0,v0=bz 0 0 (n+1) c∧retVal Tryz.prog Tryz.f140 st=some v0∧st.hp.get 0=some (.cells 78 R false)
section
variable {L X:List Value} {t2:TypeId} {n c c2 i x:Nat} {W:bj}
theorem tO{R:List Value}{c1:Nat}(g:Nat→Value):uU R n .ret (av 95 g [(6,bz 0 0 (n+1) c1)] [.cells 78 R false]) :=
 ⟨.inr rfl,rfl,c1,_,rfl,Xe _ _ g,by show (heapOf _ aE).get 0=_; rw [al]; rfl⟩
theorem xO(h:i≠n):some (Value.bool (Int.ofNat i==Int.ofNat n))=some (.bool false):=by
 have:(Int.ofNat i==Int.ofNat n)=false:=beq_false_of_ne (fun e=>h (Int.ofNat.inj e))
 rw [this]
theorem DL{R:List Value}(hR:R.all inert=true)(i:Nat)(hi:i<1)(o:ae)(ho : [ae.cells 78 R false][i]? = some o):dD 0 o:=by
 have:i=0:=by omega
 subst this;simp at ho;subst ho;exact bk (by exact hR) 0
theorem H0(hL:L.length=n*7)(hX:X.length=7)(iL:L.all inert=true)(iX:X.all inert=true)(oX:X.all isOne=true)(hn:n<1000000) :
  aj Tryz.prog 95 W vC (NX L X t2 n 22 c2 n) (uU (L++X) n):=by
 refine aj.aK C0 follows 1 _ _ _ _ (Xl cI L X t2 n 22 c2 n) (Met.cons (eu (Nat.le_refl _)) (Met.cons (by rw [beq_self_eq_true]) Met.nil)) ay.nil (az.cons (GP (N4 L X t2) (SE L X t2) hL hX oX hn) az.nil) VV rfl rfl (DL (by rw [List.all_append,iL,iX]; rfl)) fun g=>tO g
theorem nI(hL:L.length=n*7)(hi:i≤n):(L.take (i*7)).length=i*7:=by rw [List.length_take]; omega
theorem mY(hL:L.length=n*7)(hi:i≤n):(L.drop (i*7)).length=(n-i)*7:=by rw [List.length_drop,hL,Nat.sub_mul]
theorem kj{p:Value→Bool}(h:L.all p=true)(k:Nat):(L.take k).all p=true:=List.all_eq_true.2 fun v hv=>List.all_eq_true.1 h v (List.mem_of_mem_take hv)
theorem fN{p:Value→Bool}(h:L.all p=true)(k:Nat):(L.drop k).all p=true:=List.all_eq_true.2 fun v hv=>List.all_eq_true.1 h v (List.mem_of_mem_drop hv)
theorem D3(hL:L.length=n*7)(hX:X.length=7)(iL:L.all inert=true)(iX:X.all inert=true)(oL:L.all isOne=true)(oX:X.all isOne=true)(hn:n<1000000)(hi:i<n) :
  aj Tryz.prog 95 W vC (NX L X t2 n 21 c2 i) (uU (L.take (i*7)++X++L.drop (i*7)) n):=by
 have hsp:spareOf 21=0:=rfl
 have hc:cc 21 n i % 3=0∧cc 21 n i / 3 / 1000000<n+1-i:=by
  unfold cc;rw [if_neg (by decide),if_pos (by decide),hsp]
  have:wide 21 % 1000000=7:=by decide
  rw [this];constructor <;> omega
 have ht:=nI hL (Nat.le_of_lt hi)
 have hd:=mY hL (Nat.le_of_lt hi)
 obtain ⟨z,hz,happ⟩:=Cp (get:=(hI L X t2).get) (k:=n+1-i) (N4 L X t2) hL (Nat.le_of_lt hi) hc hn (by omega)
 have hrl:∀ k,(repL z k).length=k*7:=fun k=>by rw [dj,hz]
 refine aj.aK C0 follows 1 _ _ _ _ (Xm cI L X t2 n 21 c2 i (L.take (i*7)) (L.drop (i*7)) (repL z (n+1-i)) (repL z (n-i))) ?_ ay.nil ?_ VV rfl rfl (DL (by rw [List.all_append,List.all_append,kj iL,iX,fN iL]; rfl)) fun g=>tO g
 ·refine Met.cons (eu (Nat.le_of_lt hi)) (Met.cons (xO (by omega)) (Met.cons (wrap_add hn) (Met.cons (C6 (x:=0) rfl rfl) (Met.cons (ag (decide_eq_true (by simp only [Int.ofNat_eq_natCast]; omega))) (Met.cons (qZ (by omega)) (Met.cons (wrap_add hn) (Met.cons (Gh (by omega) (by omega)) (Met.cons ?_ (Met.cons (wrap_add (by omega)) (Met.cons ?_ (Met.cons (eu (Nat.le_of_lt hi)) Met.nil)))))))))))
  ·have:=eu (b:=3) (c:=22) (n:=n+1) (l:=i) (by omega)
   rw [O5] at this; exact this
  ·have:=eu (b:=3) (c:=22) (n:=n+1) (l:=i+1) (by omega)
   rw [O5,show n+1-(i+1)=n-i by omega] at this; exact this
 ·refine az.cons happ (az.cons ?_ (az.cons ?_ az.nil))
  ·have e:repL z (n+1-i)=repL z 1++repL z (n-i):=by rw [← qS,show 1+(n-i)=n+1-i by omega]
   have:=pC (get:=((hI L X t2).push (.cells 78 (L.take (i*7)++repL z (n+1-i)) false)).get) (d:=3) (doff:=i*7) (dlen:=n+1-i) (dc:=22) (s:=1) (soff:=0) (slen:=1) (sc:=c2) (m:=1) (ty:=78) (ty2:=t2) (ro:=false)
     (A:=L.take (i*7)) (B:=repL z 1) (C:=repL z (n-i)) (A2:=[]) (D:=X) (C2:=[]) (by omega) (by omega) (by rw [Hp.cv,DV,if_pos rfl,e,List.append_assoc]) (by rw [Hp.cv,DV,if_neg (by omega),SE]; simp) ht (hrl 1) rfl (by omega) oX
   exact this
  ·have:=pC (get:=(((hI L X t2).push (.cells 78 (L.take (i*7)++repL z (n+1-i)) false)).put 3 (.cells 78 (L.take (i*7)++X++repL z (n-i)) false)).get) (d:=3) (doff:=(i+1)*7) (dlen:=n-i) (dc:=22) (s:=0) (soff:=i*7) (slen:=n-i) (sc:=cc 21 n n) (m:=n-i) (ty:=78) (ty2:=78) (ro:=false)
      (A:=L.take (i*7)++X) (B:=repL z (n-i)) (C:=[]) (A2:=L.take (i*7)) (D:=L.drop (i*7)) (C2:=[]) (by omega) (by omega) (by rw [Hp.dv,if_pos rfl,List.append_nil]) (by rw [Hp.dv,if_neg (by omega),Hp.cv,DV,if_neg (by omega),N4,List.append_nil,List.take_append_drop]) (by rw [List.length_append,ht,hX,Nat.succ_mul]) (hrl _) ht hd (fN oL _)
   rw [List.append_nil] at this;exact this
theorem D4{J:List Value}(hL:L.length=n*7)(hX:X.length=7)(hJ:J.length=7)(iL:L.all inert=true)(iX:X.all inert=true)(oL:L.all isOne=true)(oX:X.all isOne=true)(hn:n<1000000)(hi:i<n)(hx:0<x) :
  aj Tryz.prog 95 W vC (NX (L++J) X t2 n (3*(7+1000000*x)) c2 i) (uU (L.take (i*7)++X++L.drop (i*7)) n):=by
 have ht:=nI hL (Nat.le_of_lt hi)
 have hd:=mY hL (Nat.le_of_lt hi)
 have ht1:=nI (i:=i+1) hL hi
 have BK:=mY (i:=i+1) hL hi
 have hdt:((L.drop (i*7)).take 7).length=7:=by rw [List.length_take,hd]; omega
 have ed:L.drop (i*7)=(L.drop (i*7)).take 7++L.drop ((i+1)*7):=by
  have:=(List.take_append_drop 7 (L.drop (i*7))).symm
  rw [List.drop_drop,show i*7+7=(i+1)*7 by omega] at this
  exact this
 have et:L.take ((i+1)*7)=L.take (i*7)++(L.drop (i*7)).take 7:=by
  rw [show (i+1)*7=i*7+7 by omega,List.take_add]
 have hsp:spareOf (3*(7+1000000*x))=x:=by
  unfold spareOf;rw [show 3*(7+1000000*x) % 3=0 by omega]
  show 3*(7+1000000*x) / 3 / 1000000=x
  omega
 refine aj.aK C0 follows 1 _ _ _ _ (Xn cI (L++J) X t2 n (3*(7+1000000*x)) c2 i x (L.take ((i+1)*7)++L.drop (i*7)) (L.take (i*7)++X++L.drop (i*7)) (cc (3*(7+1000000*x)) n (n+1))) ?_ ?_ ?_ VV rfl rfl (DL (by rw [List.all_append,List.all_append,kj iL,iX,fN iL]; rfl)) fun g=>tO g
 ·have s1:∀ c,fstV ((aSlice Tryz.prog 24 (bz 0 0 (n+1) c) (some (iN (i+1))) none none).map fun v=>(v,none))=some (bz 0 ((i+1)*7) (n-i) (cc c (n+1) (n+1))):=fun c=>by
   have:=eu (b:=0) (c:=c) (n:=n+1) (l:=i+1) (by omega)
   rw [show n+1-(i+1)=n-i by omega] at this; exact this
  have s2:∀ c,fstV ((aSlice Tryz.prog 24 (bz 0 0 (n+1) c) (some (iN i)) none none).map fun v=>(v,none))=some (bz 0 (i*7) (n+1-i) (cc c (n+1) (n+1))):=fun c=>eu (by omega)
  exact Met.cons (eu (Nat.le_of_lt hi)) (Met.cons (xO (by omega)) (Met.cons (wrap_add hn) (Met.cons (C6 (x:=x) (by omega) (by omega)) (Met.cons (ag (decide_eq_false (by simp only [Int.ofNat_eq_natCast]; omega))) (Met.cons (wrap_add hn) (Met.cons (qZ (by rw [hsp]; omega)) (Met.cons (wrap_add (by omega)) (Met.cons (s1 _) (Met.cons (wrap_add (by omega)) (Met.cons (s1 _) (Met.cons (s2 _) (Met.cons (s2 _) Met.nil))))))))))))
 ·refine ay.cons ?_ ay.nil
  rw [Hg];obtain ⟨y,ys,hy⟩:∃ y ys,L++J=y::ys:=by
    cases h:L++J with
    | nil=>have:=congrArg List.length h; rw [List.length_append,hL,hJ,List.length_nil] at this; omega
    | cons y ys=>exact ⟨y,ys,rfl⟩
  unfold gOver af bz;simp only [N4,SE,hy];rfl
 ·refine az.cons ?_ (az.cons ?_ az.nil)
  ·have:=pC (get:=(hI (L++J) X t2).get) (d:=0) (doff:=(i+1)*7) (dlen:=n-i) (dc:=cc (cc (3*(7+1000000*x)) n (n+1)) (n+1) (n+1)) (s:=0) (soff:=i*7) (slen:=n+1-i) (sc:=cc (cc (3*(7+1000000*x)) n (n+1)) (n+1) (n+1)) (m:=n-i) (ty:=78) (ty2:=78) (ro:=false)
      (A:=L.take ((i+1)*7)) (B:=L.drop ((i+1)*7)++J) (C:=[]) (A2:=L.take (i*7)) (D:=L.drop (i*7)) (C2:=J) (by omega) (by omega) (by rw [N4,List.append_nil,← List.append_assoc,List.take_append_drop]) (by rw [N4,List.take_append_drop]) ht1 (by rw [List.length_append,BK,hJ]; omega) ht hd (fN oL _)
   rw [List.append_nil] at this;exact this
  ·have:=pC (get:=((hI (L++J) X t2).put 0 (.cells 78 (L.take ((i+1)*7)++L.drop (i*7)) false)).get) (d:=0) (doff:=i*7) (dlen:=n+1-i) (dc:=cc (cc (3*(7+1000000*x)) n (n+1)) (n+1) (n+1)) (s:=1) (soff:=0) (slen:=1) (sc:=c2) (m:=1) (ty:=78) (ty2:=t2) (ro:=false)
      (A:=L.take (i*7)) (B:=(L.drop (i*7)).take 7) (C:=L.drop (i*7)) (A2:=[]) (D:=X) (C2:=[]) (by omega) (by omega) (by rw [Hp.dv,if_pos rfl,et]) (by rw [Hp.dv,if_neg (by omega),SE]; simp) ht (by omega) rfl (by omega) oX
   exact this
end
theorem w3{m:BM}{h:HG}{b n c:Nat}{x:Value}(r:ah m h (bz b 0 n c) x):ah m h (bz b 0 n 23) x:=by
 obtain ⟨_,_,r1,o1,cap,q1,rfl,h0,hh⟩:=r.dK;cases q1;refine .slice (.of h0.1 (by decide)) ?_
 rcases hh with hd | ⟨δ,E,h1,h2,_⟩
 ·exact .inl hd
 ·exact .inr ⟨δ,E,h1,h2,(fun h=>absurd h (by decide)),(fun h=>absurd h (by decide))⟩
theorem Ty:aq Tryz.prog 140 gIns:=ot follows Tryz.func140 KT (by kernel_rfl) fun args hp v hp' he hk=>by
 unfold gIns at he;split at he
 case h_2=>cases he
 rename_i b n c i b2 c2;split at he
 case h_2=>cases he
 rename_i ty L t2 X hc hbb hb hb2;split at he
 case h_2=>cases he
 rename_i hcond;cases he;simp only [Bool.and_eq_true] at hcond;obtain ⟨⟨⟨⟨⟨⟨⟨⟨k1,k2⟩,k3⟩,k4⟩,k5⟩,iL⟩,iX⟩,oL⟩,oX⟩:=hcond;have hc':=Nat.eq_of_beq_eq_true hc
 have hty:=Nat.eq_of_beq_eq_true k1
 have hL:=Nat.eq_of_beq_eq_true k2
 have hX:=Nat.eq_of_beq_eq_true k3
 have hin:=Nat.le_of_ble_eq_true k4
 have hn:n<1000000:=by simpa [Nat.blt_eq] using k5
 subst hc' hty;have hne:b≠b2:=fun e=>by subst e; rw [Nat.beq_refl] at hbb; cases hbb
 refine ⟨[b,b2],[.cells 78 (L.take (i*7)++X++L.drop (i*7)) false],rfl,fun b' hb'=>?_,fun m h w args' s ra=>?_⟩
 ·have:b'=b∨b'=b2:=by simpa using hb'
  rcases this with rfl | rfl
  ·exact ⟨_,hb,rfl⟩
  ·exact ⟨_,hb2,rfl⟩
 obtain ⟨v1,bs1,e1,r1,ra1⟩:=ra.of_cons;obtain ⟨v2,bs2,e2,r2,ra2⟩:=ra1.of_cons;obtain ⟨v3,bs3,e3,r3,ra3⟩:=ra2.of_cons;have e4:=ra3.of_nil
 subst e4;obtain ⟨_,_,rr,oo,cap,q1,rfl,hcap,hh⟩:=r1.dK;cases q1;have ev2:=r2.of_int
 subst ev2;obtain ⟨_,_,rr2,oo2,cap2,q2,rfl,hcap2,hh2⟩:=r3.dK;cases q2;have ea:args'.toList = [.slice (some ⟨rr,oo,none⟩) n cap,.int .i64 (.ofNat i),.slice (some ⟨rr2,oo2,none⟩) 1 cap2]:=by rw [e1,e2,e3]
 have gb:=bu hk h b _ hb
 have gb2:=bu hk h b2 _ hb2
 rcases hh with hd | ⟨δ,E,hm,hoff,hcok⟩
 ·rw [gb] at hd; cases hd
 rcases hh2 with hd | ⟨δ2,E2,hm2,hoff2,hcok2⟩
 ·rw [gb2] at hd; cases hd
 refine ⟨fun b' hb'=>?_,?_⟩
 ·have:b'=b∨b'=b2:=by simpa using hb'
  rcases this with rfl | rfl
  ·exact ⟨_,hm⟩
  ·exact ⟨_,hm2⟩
 have hE : δ + cap*7=E:=by have:=hcok.2 (by decide); simpa using this
 have hle:=hcap.1
 have hrow:∀ {o1 o2:ae} (b':Nat) (x:Nat×Nat×Nat),canM m [b,b2] b'=some x→rw? (heapOf [o1,o2,.dead] aE).get b'=true→rowsOf m [b,b2] x.1:=by
  intro o1 o2 b' x hx _;unfold canM at hx;match b' with
  | 0=>exact ⟨b,by simp,x,hx,rfl⟩
  | 1=>exact ⟨b2,by simp,x,hx,rfl⟩
  | b'+2=>simp at hx
 have hargs:∀ (c0:Nat) {o1 o2:ae},BR c0 n cap→yS c0 n cap (δ + 0) E→aC (canM m [b,b2]) (heapOf [o1,o2,.dead] aE).get [bz 0 0 n c0,iN i,af 1 1 c2] args'.toList:=fun c0 o1 o2 h1 h2=>by
  rw [ea];exact .cons (.slice h1 (.inr ⟨δ,E,hm,hoff,h2⟩)) (.cons (.flat rfl) (.cons (.slice hcap2 (.inr ⟨δ2,E2,hm2,hoff2,hcok2⟩)) .nil))
 have hInert:∀ {R:List Value},R=L.take (i*7)++X++L.drop (i*7)→aD (.cells 78 R false)=true:=fun e=>by
  subst e;show List.all _ inert=true
  rw [List.all_append,List.all_append,kj iL,iX,fN iL]; rfl
 have fin:∀ {R:List Value} {e:Exit} {st:St},R=L.take (i*7)++X++L.drop (i*7)→uU R n e st→(e = .normal∨e = .ret)∧st.df = []∧∃ v0,retVal Tryz.prog Tryz.f140 st=some v0∧gz v0=true ∧
   (∀ b∈[0],∃ o,st.hp.get b=some o∧cZ o=true∧nT o=true)∧(∀ m h x,ah m h (sh3 [0] hp.sz v0) x→ah m h (bz hp.sz 0 (n+1) 23) x)∧[.cells 78 (L.take (i*7)++X++L.drop (i*7)) false]=cQ [0] hp.sz st.hp:=by
  intro R e st hR q;obtain ⟨p1,p2,c1,v0,rfl,p3,p4⟩:=q;refine ⟨p1,p2,_,p3,rfl,fun b' hb'=>?_,fun m h x hx=>?_,?_⟩
  ·have:b'=0:=by simpa using hb'
   subst this;exact ⟨_,p4,e8 (hInert hR),rfl⟩
  ·have:sh3 [0] hp.sz (bz 0 0 (n+1) c1)=bz hp.sz 0 (n+1) c1:=by simp [sh3,sh2,sh1,j9,idxOf,bz]
   rw [this] at hx;exact w3 hx
  ·subst hR
   simp only [cQ,List.map_cons,List.map_nil,p4,Option.getD_some,dh (hInert rfl)]
 have dG:∀ (o1 o2:ae),(heapOf [o1,o2,.dead] aE).ok:=fun o1 o2=>bE _ _ iO
 by_cases hend:i=n
 ·subst hend
  obtain ⟨J,hJ,_,sS⟩:=mr s hk hne hb hb2 iL iX hm 0 (by rw [hL]; omega)
  have hJ0:=List.eq_nil_of_length_eq_zero hJ
  subst hJ0;rw [List.append_nil] at sS;refine ⟨[0],_,_,_,rfl,rfl,dG _ _,sS,hrow,hargs 22 hcap hcok,by rw [ntmps63]; simp,fun W=>?_⟩
  rw [ntmps63];refine aj.mono (H0 hL hX iL iX oX hn) fun e st q=>fin ?_ q
  rw [List.take_of_length_le (by omega),List.drop_of_length_le (by omega),List.append_nil]
 ·have hlt:i<n:=by omega
  by_cases hfull:cap=n
  ·obtain ⟨J,hJ,_,sS⟩:=mr s hk hne hb hb2 iL iX hm 0 (by rw [hL]; omega)
   have hJ0:=List.eq_nil_of_length_eq_zero hJ
   subst hJ0;rw [List.append_nil] at sS;refine ⟨[0],_,_,_,rfl,rfl,dG _ _,sS,hrow,hargs 21 ⟨hle,fun _=>by omega⟩ ⟨fun _=>by omega,(fun h=>absurd h (by decide))⟩,by rw [ntmps63]; simp,fun W=>?_⟩
   rw [ntmps63];exact aj.mono (D3 hL hX iL iX oL oX hn hlt) fun e st q=>fin rfl q
  ·obtain ⟨J,hJ,_,sS⟩:=mr s hk hne hb hb2 iL iX hm 7 (by rw [hL]; omega)
   refine ⟨[0],_,_,_,rfl,rfl,dG _ _,sS,hrow,hargs (3*(7+1000000*(cap-n))) ⟨hle,fun _=>by omega⟩ ⟨fun _=>by omega,(fun h=>by omega)⟩,by rw [ntmps63]; simp,fun W=>?_⟩
   rw [ntmps63];exact aj.mono (D4 hL hX hJ iL iX oL oX hn hlt (by omega)) fun e st q=>fin rfl q
def orFn(g k:aB):aB:=fun args hp=>match g args hp with
 | some r=>some r
 | none=>k args hp
theorem Bd{P:Program}{f:FuncId}{g k:aB}(h1:aq P f g)(h2:aq P f k):aq P f (orFn g k):=by
 intro args hp v hp' he hk;unfold orFn at he;split at he
 ·rename_i h; cases he; exact h1 _ _ _ _ h hk
 ·exact h2 _ _ _ _ he hk
def p2:Value:=.pointer (some ⟨2,0,none⟩)
section
variable (o:ae) (vs ms:List aa) (n c:Nat) (lt lo lr keep:Int)
abbrev B6:St:=⟨tmsOf [af 0 n c,jC lt lo lr,.int .i64 keep] 0 .leaf,heapOf [o,.dead] aE,[]⟩
end
def cN(x:aa):Value:=.agg #[.bool x.n,.int .i64 x.t,.int .i64 x.o,.int .i64 x.r,.int .i64 x.d,.int .i64 x.i]
def pb(b off:Nat):Value:=.pointer (some ⟨b,off,none⟩)
section
variable (o:ae) (vs ms:List aa) (n c:Nat) (lt lo lr keep:Int) (i:Nat) (x y:aa) (g:Nat→Value)
noncomputable def gS(b n c:Nat)(i:Nat):db:=(fstV ((aIndexAddr Tryz.prog 24 (af b n c) (iN i)).map fun v=>(v,none)),pb b (i*7))
noncomputable def j8(G:Nat→Option ae)(t:TypeId)(b off:Nat)(v:Value):db:=(aLoad Tryz.prog G t (pb b off),v)
end
theorem sk(a b:Int):(dO a b==0)=(a==b):=by
 unfold dO;cases h1:decide (a<b) with
 | true=>simp at h1; rw [show (a==b)=false from beq_false_of_ne (by omega)]; rfl
 | false =>
   simp at h1;cases h2:decide (a>b) with
   | true=>simp at h2; rw [show (a==b)=false from beq_false_of_ne (by omega)]; rfl
   | false=>simp at h2; rw [show a=b by omega]; simp
theorem wX(n:Bool)(t o r d i:Int):dA n t o r d i n t o r d i=true:=by unfold dA; simp
theorem yp(x:aa):kH x x=true:=by unfold kH; rw [wX]; simp
section
variable {lt lo lr keep:Int} {vs:List aa}
theorem Bk(h:aF vs=true){i:Nat}{x:aa}(hx:vs[i]? = some x):cy x=true:=by
 have hi:i<vs.length:=(List.getElem?_eq_some_iff.1 hx).1
 have:=List.all_eq_true.1 h i (List.mem_range.2 hi)
 unfold rightAt at this;rw [hx] at this;exact (Bool.and_eq_true_iff.1 this).1
theorem lp{x:aa}(h:cy x=true):x.id≥0∧x.id<64∧x.i=x.id∧dG x.n x.t x.o x.r x.d x.i=true:=by
 unfold cy r7 at h;rw [mW] at h;simp only [Bool.and_eq_true,decide_eq_true_eq,beq_iff_eq] at h;exact h
end
section
variable {hp:Hp} {b:Nat} {us:List aa} {i:Nat} {p:aa}
end
theorem cj{o:ae}(ho:aD o=true):∀ r:List ae,∀ i,i<1→∀ o',(o::r)[i]? = some o'→dD 0 o':=by
 intro r i hi o' h;have:i=0:=by omega
 subst this;simp at h; subst h; exact bk ho 0
section
variable {vs ms:List aa} {hp:Hp} {s:Value}
end
end Go.Proofs.YtgeoommlmddgpaaGreat.LtA
namespace Go.Proofs.YtgeoommlmddgpaaGreat.LtA
open Go Go.Proofs Go.Proofs.YtgeoommlmddgpaaGreat.AI Go.RowKit Go.ChangeShapes
theorem LO:Tryz.prog.cellsOf 3=1:=by kernel_rfl
theorem LP:Tryz.prog.cellsOf 4=1:=by kernel_rfl
theorem Da:Tryz.prog.cellsOf 23=6:=by kernel_rfl
theorem zg:Tryz.prog.cellsOf 78=7:=by kernel_rfl
section
variable {H:Type} {enc:TypeId×Value→H} {W:World} {sp:Nat→Bool} {hd:Bool} {n:Nat} {cs:List Value} {x:DataW H×List MemPlace}
theorem IX(h:DataW.trod enc Tryz.prog W 0 sp hd n 78 cs=some x):∃ p:aa,cs=vc p:=by
 obtain ⟨hl,hf⟩:=mA Tryz.underlying78 h;rw [zg] at hl;match cs,hl with
 | [v0,v1,v2,v3,v4,v5,v6],_ =>
   obtain ⟨_,_,k0⟩:=hf 0 _ rfl;obtain ⟨_,_,k1⟩:=hf 1 _ rfl;obtain ⟨i0,e0⟩:=trod_int Tryz.underlying3 k0;obtain ⟨-,f1⟩:=mA Tryz.underlying23 k1;obtain ⟨_,_,k10⟩:=f1 0 _ rfl;obtain ⟨_,_,Mw⟩:=f1 1 _ rfl;obtain ⟨_,_,Mx⟩:=f1 2 _ rfl;obtain ⟨_,_,My⟩:=f1 3 _ rfl;obtain ⟨_,_,Mz⟩:=f1 4 _ rfl;obtain ⟨_,_,k15⟩:=f1 5 _ rfl;obtain ⟨b,e1⟩:=trod_bool Tryz.underlying4 k10;obtain ⟨i2,e2⟩:=trod_int Tryz.underlying3 Mw;obtain ⟨i3,e3⟩:=trod_int Tryz.underlying3 Mx;obtain ⟨i4,e4⟩:=trod_int Tryz.underlying3 My;obtain ⟨i5,e5⟩:=trod_int Tryz.underlying3 Mz;obtain ⟨i6,e6⟩:=trod_int Tryz.underlying3 k15;simp [LO,LP,Da] at e0 e1 e2 e3 e4 e5 e6;subst e0 e1 e2 e3 e4 e5 e6;exact ⟨⟨i0,b,i2,i3,i4,i5,i6⟩,rfl⟩
end
theorem zQ{α : Type}{R:Nat→α→Prop}:∀ n,(∀ i,i<n→∃ p,R i p)→∃ ps:List α,ps.length=n∧∀ i p,ps[i]? = some p→R i p
 | 0,_=>⟨[],rfl,fun i p h=>by simp at h⟩
 | n+1,h=>by
   obtain ⟨ps,h1,h2⟩:=zQ n (fun i hi=>h i (by omega))
   obtain ⟨q,hq⟩:=h n (by omega)
   refine ⟨ps ++ [q],by simp [h1],fun i p hp=>?_⟩
   by_cases hi:i<ps.length
   ·rw [List.getElem?_append_left hi] at hp; exact h2 i p hp
   ·rw [List.getElem?_append_right (by omega)] at hp
    have:i-ps.length=0:=by
      have:=(List.getElem?_eq_some_iff.1 hp).1
      simp at this; omega
    rw [this] at hp;simp at hp;subst hp;have:i=n:=by omega
    rw [this]; exact hq
theorem IY{H:Type}{enc:TypeId×Value→H}{W:World}{sp:Nat→Bool}{hd:Bool}{fuel:Nat}{r off n c:Nat}{x:DataW H×List MemPlace}(h:DataW.trod enc Tryz.prog W 0 sp hd fuel 24 [.slice (some ⟨r,off,none⟩) n c]=some x)(hn:0<n) :
  ∃ (ps:List aa) (arr:Array Value) (ty:TypeId) (fr:Nat×Nat),ps.length=n∧W.heap[r]? = some (.cells arr ty fr)∧off+(aI ps).length≤arr.size ∧
    ∀ (i:Nat) (v v':Value),(aI ps)[i]? = some v→arr[off+i]? = some v'→ah KL (fun _=>none) v v':=by
 rcases Go.Deep.open_slice Tryz.underlying24 h with ⟨h0,_⟩ | ⟨a,len,cap,m,k,D,Pl,e0,_,hlc,_,hm,_,hel⟩
 ·simp at h0
 simp only [List.cons.injEq,Value.slice.injEq,Option.some.injEq,and_true] at e0;obtain ⟨rfl,rfl,rfl⟩:=e0;have hmn:n≤m:=by rw [hm]; split <;> omega
 rw [zg] at hel;have hw:∀ i,i<n→∃ p:aa,∀ j,j<7→W.cell? ⟨r,off+(i*7+j),none⟩=(vc p)[j]?:=by
  intro i hi;obtain ⟨cs,h1,h2⟩:=hel i (by omega)
  obtain ⟨p,rfl⟩:=IX h2;obtain ⟨_,h5,h6⟩:=World.cells?_some h1
  refine ⟨p,fun j hj=>?_⟩
  have:=h6 j hj
  rw [Addr.add_lit,Addr.add_lit,Nat.add_assoc] at this;exact this
 obtain ⟨ps,hl,hps⟩:=zQ (R:=fun i (p:aa)=>∀ j,j<7→W.cell? ⟨r,off+(i*7+j),none⟩=(vc p)[j]?) n hw
 have hcell:∀ i j,i<n→j<7→∃ v,W.cell? ⟨r,off+(i*7+j),none⟩=some v:=by
  intro i j hi hj;obtain ⟨p,h1⟩:=hw i hi;rw [h1 j hj];have:(vc p).length=7:=rfl
  rw [List.getElem?_eq_getElem (by omega)]
  exact ⟨_,rfl⟩
 obtain ⟨arr,ty,fr,hc⟩:∃ arr ty fr,W.heap[r]? = some (.cells arr ty fr):=by
  obtain ⟨v,hv⟩:=hcell 0 0 hn (by omega)
  unfold World.cell? at hv;split at hv
  ·rename_i arr ty fr hc; exact ⟨arr,ty,fr,hc⟩
  ·cases hv
 have hlen:(aI ps).length=n*7:=by rw [bV,hl]
 refine ⟨ps,arr,ty,fr,hl,hc,?_,fun i v v' q1 q2=>?_⟩
 ·obtain ⟨v,hv⟩:=hcell (n-1) 6 (by omega) (by omega)
  rw [cell_of hc] at hv;have:=(Array.getElem?_eq_some_iff.1 hv).1
  rw [hlen];omega
 ·have hi:i<n*7:=by rw [← hlen]; exact (List.getElem?_eq_some_iff.1 q1).1
  have hq:i / 7<ps.length:=by rw [hl]; exact Nat.div_lt_of_lt_mul (by rw [Nat.mul_comm]; exact hi)
  have hp:ps[i / 7]? = some ps[i / 7]:=List.getElem?_eq_getElem hq
  have hsplit:i=i / 7*7+i % 7:=by omega
  have hj:i % 7<7:=Nat.mod_lt _ (by omega)
  have h1:=hps _ _ hp
  have g1:=fk vc 7 ps (fun _ _=>rfl) (i / 7) (i % 7) _ hp hj
  rw [← hsplit] at g1;have g2:=h1 (i % 7) hj
  rw [← hsplit,cell_of hc,q2] at g2;have hvrow:(aI ps)[i]? = (ps.flatMap vc)[i]?:=rfl
  rw [hvrow,g1,← g2] at q1;cases q1;have hfl:AI.flat v=true:=by
    have hm:=List.mem_of_getElem? g2.symm
    unfold vc at hm;simp only [List.mem_cons,List.not_mem_nil,or_false] at hm;rcases hm with rfl | rfl | rfl | rfl | rfl | rfl | rfl <;> rfl
  exact .flat hfl
theorem Ft{m:BM}{o:ae}{W:World}(s:cd m (heapOf [o] aE).get W):cd m (heapOf [o,.dead] aE).get W:=by
 have hsub:∀ b o',(heapOf [o] aE).get b=some o'→(heapOf [o,.dead] aE).get b=some o':=by
  intro b o' h;rw [al] at h ⊢;match b with
  | 0=>exact h
  | b+1=>simp at h
 have hle:Le m (heapOf [o] aE).get m (heapOf [o,.dead] aE).get:=⟨fun b h=>hsub b _ h,fun b x h=>.inr h⟩
 refine ⟨fun b x hx=>?_,fun b b' x x' hx hx' hr hl e=>?_⟩
 ·obtain ⟨o',h1,h2⟩:=s.dom b x hx
  exact ⟨o',hsub _ _ h1,h2.mono hle rfl⟩
 ·obtain ⟨o1,h1,_⟩:=s.dom b x hx
  obtain ⟨o2,h2,_⟩:=s.dom b' x' hx';refine s.inj b b' x x' hx hx' ?_ ?_ e
  ·unfold rw? at hr ⊢; rw [hsub _ _ h1] at hr; rw [h1]; exact hr
  ·unfold aU at hl ⊢; rw [hsub _ _ h2] at hl; rw [h2]; exact hl
theorem Bl{ty:TypeId}{L:List Value}(b:Nat):rw? (heapOf [ae.cells ty L true,.dead] aE).get b=false:=by
 unfold rw?;rw [al];match b with
 | 0=>rfl
 | 1=>rfl
 | b+2=>rfl
theorem wU(b:Nat):rw? (heapOf [ae.dead,.dead] aE).get b=false:=by
 unfold rw?;rw [al];match b with
 | 0=>rfl
 | 1=>rfl
 | b+2=>rfl
theorem rF{w:World}{r:Reach}{base:Nat}{t e:TypeId}{v:Value}(ht:Tryz.prog.underlying t=some (.slice e))(h:Value.okWide Tryz.prog w r base t v):v = .slice none 0 0∨∃ b off n c,v = .slice (some ⟨b,off,none⟩) n c∧n≤c:=by
 unfold Value.okWide at h;rw [ht] at h;exact vr ht h
theorem Al{h:HG}{W:World}:cd KL h W:=⟨fun b x h=>(by cases h),fun b b' x x' h=>(by cases h)⟩
theorem own:ownKnob Tryz.prog.godebug=none:=by kernel_rfl
end Go.Proofs.YtgeoommlmddgpaaGreat.LtA
namespace Go.Proofs.YtgeoommlmddgpaaGreat.LtA
open Go Go.Proofs Go.Proofs.YtgeoommlmddgpaaGreat.AI Go.RowKit
noncomputable def SU:Ext:=cR Tryz.prog [(107,g54)]
theorem J4:ExtOk Tryz.prog SU:=by unfold SU; exact aS (.cons Mj .nil)
def g81:List Value→Option Value
 | [.agg cs,.int .i64 k]=>match cs.toList with
   | [.int .i64 id,.bool n,.int .i64 t,.int .i64 o,.int .i64 r,.int .i64 d,.int .i64 i]=>some (.int .i64 (dO id k))
   | _=>none
 | _=>none
theorem Rg(v:aa)(k:Int):(aCall Tryz.prog SU 40 164 [.agg ⟨vc v⟩,.int .i64 k] aE).map (·.1)=some (.int .i64 (dO v.id k)):=by kernel_rfl
theorem TE:bI Tryz.prog 164 g81:=de J4 follows Tryz.func164 (by kernel_rfl) fun args v h=>by
 unfold g81 at h;split at h
 case h_2=>cases h
 rename_i cs k;split at h
 case h_2=>cases h
 rename_i id n t o r d i hcs;cases h;obtain rfl:=cJ hcs;obtain ⟨⟨u,hp⟩,h1,h2⟩:=Option.map_eq_some_iff.1 (Rg ⟨id,n,t,o,r,d,i⟩ k);simp only at h2;subst h2;exact ⟨rfl,rfl,40,hp,h1⟩
noncomputable def SZ:Ext:=cR Tryz.prog [(164,g81)]
theorem J7:ExtOk Tryz.prog SZ:=by unfold SZ; exact aS (.cons TE .nil)
noncomputable def cB:aG:=aCall Tryz.prog SZ 5
theorem oU:a8 Tryz.prog cB:=aP J7 follows 5
noncomputable def DA:Code:=(Tryz.f163.body).getD .skip
noncomputable def LG:Code:=sL DA
noncomputable def LH:Code:=sL (sR DA)
noncomputable def LI:Code:=sL (sR (sR DA))
noncomputable def CX:Code:=nO (jn (sL (sR (sR (sR DA)))))
noncomputable def Hd:Code:=sR (sR (sR (sR DA)))
noncomputable abbrev Dk:Code:=.seq LG (.seq LH (.seq LI (.seq (.block 0 (.loop CX)) Hd)))
theorem KZ:Tryz.f163.body=some Dk:=by kernel_rfl
theorem ntmps80:Tryz.f163.ntmps=49:=by kernel_rfl
def Fv:Value:=.func (.func 164) #[] #[]
section
variable (o:ae) (n c:Nat) (id:Int)
abbrev Wj:St:=⟨tmsOf [af 0 n c,.int .i64 id,Fv] 0 .leaf,heapOf [o,.dead] aE,[]⟩
abbrev Wf(g:Nat→Value):St:=av 49 g [(0,af 0 n c),(1,.int .i64 id),(2,Fv)] [o]
abbrev Oc(g:Nat→Value):St:=av 49 g [(0,af 0 n c),(1,.int .i64 id),(2,Fv),(8,iN n)] [o]
abbrev Ja(i j:Nat)(g:Nat→Value):St:=av 49 g [(0,af 0 n c),(1,.int .i64 id),(2,Fv),(8,iN n),(9,iN i),(10,iN j)] [o]
theorem Vo:(execE Tryz.prog cB [] [] [] 10 LG (Wj o n c id)).map (fun y=>(look2 1 [0] [0,1,2] (y.1,y.2.1),y.2.2))=some ((.normal,[o],[(0,af 0 n c),(1,.int .i64 id),(2,Fv)],true),[],[],[]):=by kernel_rfl
theorem Vp(g:Nat→Value):(execE Tryz.prog cB [] [] [] 10 LH (Wf o n c id g)).map (fun y=>(look2 1 [0] [0,1,2,8] (y.1,y.2.1),y.2.2))=some ((.normal,[o],[(0,af 0 n c),(1,.int .i64 id),(2,Fv),(8,iN n)],true),[],[],[]):=by kernel_rfl
theorem Vq(g:Nat→Value):(execE Tryz.prog cB [] [] [] 10 LI (Oc o n c id g)).map (fun y=>(look2 1 [0] [0,1,2,8,9,10] (y.1,y.2.1),y.2.2))=some ((.normal,[o],[(0,af 0 n c),(1,.int .i64 id),(2,Fv),(8,iN n),(9,iN 0),(10,iN n)],true),[],[],[]):=by kernel_rfl
theorem Vv(i j:Nat)(g:Nat→Value):(execE Tryz.prog cB [(17,.bool false)] [] [] 20 CX (Ja o n c id i j g)).map (fun y=>(look2 1 [0] [0,1,2,8,9,10] (y.1,y.2.1),y.2.2)) =
 some ((.exit 0,[o],[(0,af 0 n c),(1,.int .i64 id),(2,Fv),(8,iN n),(9,iN i),(10,iN j)],true),[(some (.bool (decide (Int.ofNat i<Int.ofNat j))),.bool false)],[],[]):=by kernel_rfl
def uN(n:Nat):Value:=.int .u64 (Int.ofNat n)
noncomputable def EO(i j h:Nat)(x:aa):List db :=
 [(some (.bool (decide (Int.ofNat i<Int.ofNat j))),.bool true),(some (.int .i64 (wrapF .i64 (Int.ofNat i+Int.ofNat j))),iN (i+j)),(some (.int .u64 (wrapF .u64 (Int.ofNat (i+j)))),uN (i+j)),
  (some (.int .u64 (Int.fdiv (Int.ofNat (i+j)) (2 ^ (min (Int.toNat 1) 64)))),uN h),(some (.int .i64 (wrapF .i64 (Int.ofNat h))),iN h),gS 0 n c h,j8 (heapOf ([o] ++ [.dead]) aE).get 78 0 (h*7) (.agg ⟨vc x⟩)]
def JM(i j h:Nat)(x:aa):List (Tmp×Value):=[(17,.bool true),(20,iN (i+j)),(21,uN (i+j)),(22,uN h),(23,iN h),(27,pb 0 (h*7)),(28,.agg ⟨vc x⟩)]
theorem Vr(i j h:Nat)(x:aa)(g:Nat→Value):(execE Tryz.prog cB (JM i j h x ++ [(31,.bool true),(33,iN (h+1))]) [] [] 20 CX (Ja o n c id i j g)).map (fun y=>(look2 1 [0] [0,1,2,8,9,10] (y.1,y.2.1),y.2.2)) =
 some ((.normal,[o],[(0,af 0 n c),(1,.int .i64 id),(2,Fv),(8,iN n),(9,iN (h+1)),(10,iN j)],true),EO o n c i j h x ++ [(some (.bool (decide (dO x.id id<0))),.bool true),(some (.int .i64 (wrapF .i64 (Int.ofNat h+1))),iN (h+1))],[],[]):=by kernel_rfl
theorem Vs(i j h:Nat)(x:aa)(g:Nat→Value):(execE Tryz.prog cB (JM i j h x ++ [(31,.bool false)]) [] [] 20 CX (Ja o n c id i j g)).map (fun y=>(look2 1 [0] [0,1,2,8,9,10] (y.1,y.2.1),y.2.2)) =
 some ((.normal,[o],[(0,af 0 n c),(1,.int .i64 id),(2,Fv),(8,iN n),(9,iN i),(10,iN h)],true),EO o n c i j h x ++ [(some (.bool (decide (dO x.id id<0))),.bool false)],[],[]):=by kernel_rfl
theorem Vt(i j:Nat)(g:Nat→Value):(execE Tryz.prog cB [(38,.bool false)] [] [] 20 Hd (Ja o n c id i j g)).map (fun y=>(look2 0 [] [6,7] (y.1,y.2.1),y.2.2)) =
 some ((.ret,[],[(6,iN i),(7,.bool false)],true),[(some (.bool (decide (Int.ofNat i<Int.ofNat n))),.bool false)],[],[]):=by kernel_rfl
theorem Vu(i j:Nat)(x:aa)(b:Bool)(g:Nat→Value):(execE Tryz.prog cB [(38,.bool true),(43,pb 0 (i*7)),(44,.agg ⟨vc x⟩),(47,.bool b)] [] [] 20 Hd (Ja o n c id i j g)).map (fun y=>(look2 0 [] [6,7] (y.1,y.2.1),y.2.2)) =
 some ((.ret,[],[(6,iN i),(7,.bool b)],true),[(some (.bool (decide (Int.ofNat i<Int.ofNat n))),.bool true),gS 0 n c i,j8 (heapOf ([o] ++ [.dead]) aE).get 78 0 (i*7) (.agg ⟨vc x⟩),(some (.bool (dO x.id id==0)),.bool b)],[],[]):=by kernel_rfl
end
theorem Xg(v u:Value)(O:List ae)(g:Nat→Value):retVal Tryz.prog Tryz.f163 (av 49 g [(6,v),(7,u)] O)=some (.tuple #[v,u]):=by kernel_rfl
theorem VW:codeSafe Tryz.prog 49 LG=true:=by kernel_rfl
theorem VX:codeSafe Tryz.prog 49 LH=true:=by kernel_rfl
theorem VY:codeSafe Tryz.prog 49 LI=true:=by kernel_rfl
theorem NC:codeSafe Tryz.prog 49 CX=true:=by kernel_rfl
theorem RX:codeSafe Tryz.prog 49 Hd=true:=by kernel_rfl
def mF(vs:List aa):Prop:=∀ (i j:Nat) (u v:aa),i<j→vs[i]? = some u→vs[j]? = some v→u.id<v.id
def pos(vs:List aa)(id:Int):Nat:=(vs.takeWhile fun x=>decide (x.id<id)).length
def fnd(vs:List aa)(id:Int):Bool:=match vs[pos vs id]? with
 | some x=>x.id==id
 | none=>false
theorem pc{α : Type}{p : α→Bool}:∀ {vs:List α} {i:Nat},i≤vs.length→(∀ k x,k<i→vs[k]? = some x→p x=true)→(∀ x,vs[i]? = some x→p x=false)→(vs.takeWhile p).length=i
 | [],i,hi,_,_=>by simp at hi; subst hi; rfl
 | v::vs,0,_,_,h=>by rw [List.takeWhile_cons,h v rfl]; rfl
 | v::vs,i+1,hi,h1,h2=>by
   rw [List.takeWhile_cons,h1 0 v (by omega) rfl]
   simp only [if_true,List.length_cons];rw [pc (by simpa using hi) (fun k x hk hx=>h1 (k+1) x (by omega) (by simpa using hx)) (fun x hx=>h2 x (by simpa using hx))]
theorem yl(vs:List aa)(id:Int):pos vs id≤vs.length:=List.takeWhile_sublist _ |>.length_le
theorem tK(a b:Int):decide (dO a b<0)=decide (a<b):=by
 unfold dO;cases h1:decide (a<b) with
 | true=>rfl
 | false=>cases h2:decide (a>b) <;> rfl
theorem zw{i j:Nat}:(some (Value.int .u64 (Int.fdiv (Int.ofNat (i+j)) (2 ^ (min (Int.toNat 1) 64)))))=some (uN ((i+j) / 2)):=by
 have e:Int.fdiv (Int.ofNat (i+j)) (2 ^ (min (Int.toNat 1) 64))=Int.ofNat ((i+j) / 2):=by
  show Int.fdiv (Int.ofNat (i+j)) 2=_
  rw [Int.fdiv_eq_ediv_of_nonneg _ (by decide)]
  simp only [Int.ofNat_eq_natCast];omega
 rw [e]; rfl
theorem F3{n:Nat}(h:n<3000000):(some (Value.int .u64 (wrapF .u64 (Int.ofNat n))))=some (uN n):=by
 have:wrapF .u64 (Int.ofNat n)=Int.ofNat n:=by
  show IntKind.wrap .u64 (Int.ofNat n)=_
  simp only [IntKind.wrap,IntKind.bits,IntKind.signed,Int.ofNat_eq_natCast];simp;omega
 rw [this]; rfl
theorem oq{n:Nat}(h:n<3000000):(some (Value.int .i64 (wrapF .i64 (Int.ofNat n))))=some (iN n):=by
 rw [wrap64 (by have:=Int.natCast_nonneg n; simp only [Int.ofNat_eq_natCast]; omega) (by simp only [Int.ofNat_eq_natCast]; omega)]
 rfl
theorem xF{i j:Nat}(h:i+j<3000000):(some (Value.int .i64 (wrapF .i64 (Int.ofNat i+Int.ofNat j))))=some (iN (i+j)):=by
 have e:Int.ofNat i+Int.ofNat j=Int.ofNat (i+j):=rfl
 rw [e,oq h]
theorem Bo(o:ae)(ho:aD o=true)(vs:List aa)(hn:vs.length<1000000)(hs:mF vs)(hrow:vs = []∨∃ ty ro,o = .cells ty (aI vs) ro)(c:Nat)(id:Int)(W:bj) :
  aj Tryz.prog 49 W Dk (Wj o vs.length c id) (fun e st=>e = .ret∧∃ g,st=av 49 g [(6,iN (pos vs id)),(7,.bool (fnd vs id))] []):=by
 refine aj.seq (Q1:=fun x st=>x = .normal∧∃ g,st=Wf o vs.length c id g) (aj.aK oU follows 1 _ _ _ _ (Vo o vs.length c id) Met.nil ay.nil az.nil VW rfl rfl (cj ho _) fun g=>⟨rfl,g,rfl⟩) ?_ (fun x st hne hq=>absurd hq.1 hne)
 rintro st ⟨-,g,rfl⟩;refine aj.seq (Q1:=fun x st=>x = .normal∧∃ g,st=Oc o vs.length c id g) (aj.aK oU follows 1 _ _ _ _ (Vp o vs.length c id g) Met.nil ay.nil az.nil VX rfl rfl (cj ho _) fun g=>⟨rfl,g,rfl⟩) ?_ (fun x st hne hq=>absurd hq.1 hne)
 rintro st ⟨-,g,rfl⟩;refine aj.seq (Q1:=fun x st=>x = .normal∧∃ g,st=Ja o vs.length c id 0 vs.length g) (aj.aK oU follows 1 _ _ _ _ (Vq o vs.length c id g) Met.nil ay.nil az.nil VY rfl rfl (cj ho _) fun g=>⟨rfl,g,rfl⟩) ?_ (fun x st hne hq=>absurd hq.1 hne)
 rintro st ⟨-,g,rfl⟩;have hrow':∀ {h:Nat},h<vs.length→dU (heapOf ([o] ++ [.dead]) aE) 0 vs:=fun hh=>by
  rcases hrow with h | ⟨ty,ro,h⟩
  ·rw [h] at hh; simp at hh
  ·exact .of (ty:=ty) (ro:=ro) (by rw [al,h]; rfl)
 refine aj.seq (Q1:=fun x st=>x = .normal∧∃ g,st=Ja o vs.length c id (pos vs id) (pos vs id) g) ?_ ?_ (fun x st hne hq=>absurd hq.1 hne)
 ·refine aj.block ?_
  refine aj.loop (fun k st=>∃ i j g,i≤j∧j≤vs.length∧k=j-i∧(∀ k x,k<i→vs[k]? = some x→decide (x.id<id)=true)∧(∀ k x,j≤k→vs[k]? = some x→decide (x.id<id)=false)∧st=Ja o vs.length c id i j g) ?_ (k:=vs.length)
    ⟨0,vs.length,g,Nat.zero_le _,Nat.le_refl _,rfl,fun k x hk=>absurd hk (Nat.not_lt_zero _),fun k x hk hx=>(by rw [List.getElem?_eq_none hk] at hx; cases hx),rfl⟩
  rintro k st ⟨i,j,g,hij,hj,hk,hlo,hhi,rfl⟩;cases h17:decide (Int.ofNat i<Int.ofNat j) with
  | false =>
    refine aj.aK oU follows 1 _ _ _ _ (Vv o vs.length c id i j g) (Met.cons (ag h17) Met.nil) ay.nil az.nil NC rfl rfl (cj ho _) fun g'=>.inr ⟨by simp,?_⟩
    show (if (0:Nat)=0 then _ else _)
    rw [if_pos rfl];have hii:i=j:=by simp at h17; omega
    subst hii;have hp:pos vs id=i:=pc hj hlo fun x hx=>hhi i x (Nat.le_refl _) hx
    exact ⟨rfl,g',by rw [hp]⟩
  | true =>
    have hlt:i<j:=by simpa using h17
    obtain ⟨x,hx⟩:∃ x,vs[(i+j) / 2]? = some x:=⟨_,List.getElem?_eq_getElem (by omega)⟩
    have hh:(i+j) / 2<vs.length:=by omega
    have hmet:Met (EO o vs.length c i j ((i+j) / 2) x):=Met.cons (ag h17) (Met.cons (xF (by omega)) (Met.cons (F3 (by omega)) (Met.cons zw (Met.cons (oq (by omega)) (Met.cons (bF hh) (Met.cons (bU (hrow' hh) hx) Met.nil))))))
    cases h31:decide (x.id<id) with
    | true =>
      refine aj.aK oU follows 1 _ _ _ _ (Vr o vs.length c id i j ((i+j) / 2) x g) (cO hmet (Met.cons (ag (by rw [tK,h31])) (Met.cons (bA (by omega)) Met.nil))) ay.nil az.nil NC rfl rfl (cj ho _) fun g'=>.inl ⟨rfl,j-((i+j) / 2+1),by omega,(i+j) / 2+1,j,g',by omega,hj,rfl,fun k y hk hy=>?_,hhi,rfl⟩
      by_cases hke:k=(i+j) / 2
      ·subst hke; rw [hx] at hy; cases hy; exact h31
      ·have:=hs k ((i+j) / 2) y x (by omega) hy hx
       have h2:=of_decide_eq_true h31
       exact decide_eq_true (by omega)
    | false =>
      refine aj.aK oU follows 1 _ _ _ _ (Vs o vs.length c id i j ((i+j) / 2) x g) (cO hmet (Met.cons (ag (by rw [tK,h31])) Met.nil)) ay.nil az.nil NC rfl rfl (cj ho _) fun g'=>.inl ⟨rfl,(i+j) / 2-i,by omega,i,(i+j) / 2,g',by omega,by omega,rfl,hlo,fun k y hk hy=>?_,rfl⟩
      by_cases hke:k=(i+j) / 2
      ·subst hke; rw [hx] at hy; cases hy; exact h31
      ·have:=hs ((i+j) / 2) k x y (by omega) hx hy
       have h2:=of_decide_eq_false h31
       exact decide_eq_false (by omega)
 ·rintro st ⟨-,g,rfl⟩
  have hple:=yl vs id
  cases Pe:decide (Int.ofNat (pos vs id)<Int.ofNat vs.length) with
  | false =>
    have hf:fnd vs id=false:=by
      have:vs.length≤pos vs id:=by simp at Pe; omega
      unfold fnd; rw [List.getElem?_eq_none this]
    rw [hf];exact aj.aK oU follows 0 _ _ _ _ (Vt o vs.length c id (pos vs id) (pos vs id) g) (Met.cons (ag Pe) Met.nil) ay.nil az.nil RX rfl rfl (dE _) fun g'=>⟨rfl,g',rfl⟩
  | true =>
    have hlt:pos vs id<vs.length:=by simpa using Pe
    obtain ⟨x,hx⟩:∃ x,vs[pos vs id]? = some x:=⟨_,List.getElem?_eq_getElem hlt⟩
    have hf:fnd vs id=(dO x.id id==0):=by unfold fnd; rw [hx,sk]
    rw [hf];exact aj.aK oU follows 0 _ _ _ _ (Vu o vs.length c id (pos vs id) (pos vs id) x _ g) (Met.cons (ag Pe) (Met.cons (bF hlt) (Met.cons (bU (hrow' hlt) hx) (Met.cons rfl Met.nil)))) ay.nil az.nil RX rfl rfl (dE _) fun g'=>⟨rfl,g',rfl⟩
theorem TR.uniq{us vs:List aa}{s:Value}{hp:Hp}(h1:TR us s hp)(h2:TR vs s hp):us=vs:=by
 obtain ⟨b,c,o,rfl,hb,_,hr⟩:=h1;obtain ⟨b',c',o',e,hb',_,hr'⟩:=h2;unfold af at e;simp only [Value.slice.injEq,Option.some.injEq,Addr.mk.injEq,and_true] at e;obtain ⟨rfl,hl,-⟩:=e;rw [hb] at hb'; cases hb';have inj:∀ {us vs:List aa},aI us=aI vs→us=vs:=by
  intro us;induction us with
  | nil=>intro vs h; cases vs with
    | nil=>rfl
    | cons v vs=>simp [aI,vc] at h
  | cons u us ih=>intro vs h; cases vs with
    | nil=>simp [aI,vc] at h
    | cons v vs =>
      simp only [aI,vc,List.flatMap_cons,List.cons_append,List.nil_append,List.cons.injEq,Value.int.injEq,Value.bool.injEq,true_and] at h;obtain ⟨a1,a2,a3,a4,a5,a6,a7,h⟩:=h;have:=ih h
      subst this;cases u; cases v;simp_all
 rcases hr with h | ⟨ty,ro,h⟩
 ·subst h
  exact (List.eq_nil_of_length_eq_zero hl.symm).symm
 ·rcases hr' with h' | ⟨ty',ro',h'⟩
  ·subst h'
   exact List.eq_nil_of_length_eq_zero hl
  ·rw [h] at h'
   injection h' with _ h2 _
   exact inj h2
def TN(vs:List aa)(s:Value)(hp:Hp):Prop:=s=ax∧vs = []∨TR vs s hp
theorem TN.uniq{us vs:List aa}{s:Value}{hp:Hp}(h1:TN us s hp)(h2:TN vs s hp):us=vs:=by
 rcases h1 with ⟨rfl,rfl⟩ | h1
 ·rcases h2 with ⟨-,rfl⟩ | h2
  ·rfl
  ·exact h2.not_nil.elim
 ·rcases h2 with ⟨rfl,rfl⟩ | h2
  ·exact h1.not_nil.elim
  ·exact h1.uniq h2
open Classical in
noncomputable def atRow(P:List aa→Prop)(k:List aa→aB):aB:=fun args hp=>match args with
 | s::_=>if h:∃ vs,TN vs s hp∧vs.length<1000000∧P vs then k h.choose args hp else none
 | _=>none
theorem fw{f:FuncId}{P:List aa→Prop}{k:List aa→aB}(h:∀ vs,vs.length<1000000→P vs→aq Tryz.prog f (k vs)):aq Tryz.prog f (atRow P k):=by
 intro args hp v hp' he hk;unfold atRow at he;split at he
 case h_2=>cases he
 split at he
 ·rename_i hx
  exact h _ hx.choose_spec.2.1 hx.choose_spec.2.2 _ _ _ _ he hk
 ·cases he
theorem iU{P:List aa→Prop}{k:List aa→aB}{vs:List aa}{s:Value}{r:List Value}{hp:Hp}(h:TN vs s hp)(hn:vs.length<1000000)(hp':P vs):atRow P k (s::r) hp=k vs (s::r) hp:=by
 unfold atRow;have hx:∃ vs,TN vs s hp∧vs.length<1000000∧P vs:=⟨vs,h,hn,hp'⟩
 simp only;rw [dif_pos hx];rw [hx.choose_spec.1.uniq h]
open Classical in
noncomputable def g80(vs:List aa):aB:=fun args hp=>match args with
 | [s,.int .i64 id,f]=>if f=Fv∧TR vs s hp then some (.tuple #[iN (pos vs id),.bool (fnd vs id)],heapOf ([] ++ [.dead]) hp) else none
 | _=>none
theorem TD(vs:List aa)(hn:vs.length<1000000)(hs:mF vs):aq Tryz.prog 163 (g80 vs):=dL follows Tryz.func163 KZ (by kernel_rfl) fun args hp v hp' h hk=>by
 unfold g80 at h;rw [ntmps80];split at h
 case h_2=>cases h
 rename_i s id f;split at h
 case isFalse=>cases h
 rename_i hT;cases h;obtain ⟨rfl,b,c,o,rfl,hb,hi,hr⟩:=hT;refine ⟨[b],[],[],rfl,rfl,rfl,rfl,fun b' hb'=>?_,rfl,(by simp),fun W=>?_⟩
 ·have:b'=b:=by simpa using hb'
  subst this;exact ⟨o,hb,aY hi⟩
 ·have e1 : [af b vs.length c,.int .i64 id,Fv].map (sh3 [b] 0) = [af 0 vs.length c,.int .i64 id,Fv]:=by simp [sh3,sh2,sh1,j9,idxOf,af,Fv]
  rw [e1,ij hb hi];refine aj.mono (Bo (roBlk o) (bT hi) vs hn hs (eC hr) c id W) fun e st q=>?_
  obtain ⟨rfl,g,rfl⟩:=q;exact ⟨.inr rfl,rfl,_,Xg _ _ _ g,rfl,(fun b hb=>by cases hb),by simp [sh3,sh2,sh1,iN],rfl⟩
noncomputable def Sq(vs:List aa):Ext:=fq (cR Tryz.prog []) [(163,g80 vs)]
theorem J6(vs:List aa)(hn:vs.length<1000000)(hs:mF vs):ExtOk Tryz.prog (Sq vs):=bD (aS .nil) (.cons (TD vs hn hs) .nil)
noncomputable def Sy(vs:List aa):aG:=aCall Tryz.prog (Sq vs) 5
theorem LC(vs:List aa)(hn:vs.length<1000000)(hs:mF vs):a8 Tryz.prog (Sy vs):=aP (J6 vs hn hs) follows 5
noncomputable def L6:Code:=(Tryz.f139.body).getD .skip
theorem KS:Tryz.f139.body=some L6:=by kernel_rfl
theorem ntmps62:Tryz.f139.ntmps=11:=by kernel_rfl
theorem Xr:codeSafe Tryz.prog 11 L6=true:=by kernel_rfl
theorem Xd(v u:Value)(O:List ae)(g:Nat→Value):retVal Tryz.prog Tryz.f139 (av 11 g [(4,v),(5,u)] O)=some (.tuple #[v,u]):=by kernel_rfl
theorem Xj(o:ae)(vs:List aa)(n c p:Nat)(id:Int)(b:Bool):(execE Tryz.prog (Sy vs) [] [(8,.tuple #[iN p,.bool b],[.dead])] [] 20 L6 ⟨tmsOf [af 0 n c,.int .i64 id] 0 .leaf,heapOf [o,.dead] aE,[]⟩).map (fun y=>(look2 0 [] [4,5] (y.1,y.2.1),y.2.2)) =
 some ((.ret,[],[(4,iN p),(5,.bool b)],true),[],[(Sy vs 163 [af 0 n c,.int .i64 id,Fv] (heapOf [o,.dead] aE),(.tuple #[iN p,.bool b],heapOf [.dead] (heapOf [o,.dead] aE)))],[]):=by kernel_rfl
open Classical in
theorem call80{vs:List aa}{s:Value}{hp:Hp}{id:Int}(h:TR vs s hp):Sy vs 163 [s,.int .i64 id,Fv] hp=some (.tuple #[iN (pos vs id),.bool (fnd vs id)],heapOf [.dead] hp):=by
 show aCall Tryz.prog (Sq vs) 5 163 _ _=_
 rw [aCall];have hE:Sq vs 163=some fun _ args h=>g80 vs args h:=rfl
 rw [hE];show (if Fv=Fv∧TR vs s hp then _ else _)=_
 rw [if_pos ⟨rfl,h⟩];rfl
open Classical in
noncomputable def g62(vs:List aa):aB:=fun args hp=>match args with
 | [s,.int .i64 id]=>if TR vs s hp then some (.tuple #[iN (pos vs id),.bool (fnd vs id)],heapOf ([] ++ [.dead]) hp) else none
 | _=>none
theorem Pp(vs:List aa)(hn:vs.length<1000000)(hs:mF vs):aq Tryz.prog 139 (g62 vs):=dL follows Tryz.func139 KS (by kernel_rfl) fun args hp v hp' h hk=>by
 unfold g62 at h;rw [ntmps62];split at h
 case h_2=>cases h
 rename_i s id;split at h
 case isFalse=>cases h
 rename_i hT;cases h;obtain ⟨b,c,o,rfl,hb,hi,hr⟩:=hT;refine ⟨[b],[],[],rfl,rfl,rfl,rfl,fun b' hb'=>?_,rfl,(by simp),fun W=>?_⟩
 ·have:b'=b:=by simpa using hb'
  subst this;exact ⟨o,hb,aY hi⟩
 ·have e1 : [af b vs.length c,.int .i64 id].map (sh3 [b] 0) = [af 0 vs.length c,.int .i64 id]:=by simp [sh3,sh2,sh1,j9,idxOf,af]
  rw [e1,ij hb hi];exact aj.aK (LC vs hn hs) follows 0 _ _ _ _ (Xj (roBlk o) vs vs.length c (pos vs id) id (fnd vs id)) Met.nil (ay.cons (call80 ⟨0,c,roBlk o,rfl,by rw [al]; rfl,bT hi,eC hr⟩) ay.nil) az.nil Xr rfl rfl (dE _)
    fun g=>⟨.inr rfl,rfl,_,Xd _ _ _ g,rfl,(fun b hb=>by cases hb),by simp [sh3,sh2,sh1,iN],rfl⟩
noncomputable def Gt(vs:List aa):Ext:=fq (cR Tryz.prog [(123,g55)]) [(58,g18 vs),(79,vJ vs),(139,g62 vs),(140,gIns)]
noncomputable def AH(vs:List aa):aG:=aCall Tryz.prog (Gt vs) 5
noncomputable def J2:Ext:=cR Tryz.prog [(123,g55)]
theorem Gx:ExtOk Tryz.prog J2:=by unfold J2; exact aS (.cons DY .nil)
noncomputable def Lq:aG:=aCall Tryz.prog J2 60
theorem zb:a8 Tryz.prog Lq:=aP Gx follows 60
noncomputable def qt:Code:=(Tryz.f85.body).getD .skip
theorem Cu:Tryz.f85.body=some qt:=by kernel_rfl
theorem ntmps27:Tryz.f85.ntmps=42:=by kernel_rfl
theorem Nz:codeSafe Tryz.prog 42 qt=true:=by kernel_rfl
theorem Qm(v u:Value)(O:List ae)(g:Nat→Value):retVal Tryz.prog Tryz.f85 (av 42 g [(6,v),(7,u)] O)=some (.tuple #[v,u]):=by kernel_rfl
def N5(x:aa):List Value:=[.bool x.n,.int .i64 x.t,.int .i64 x.o,.int .i64 x.r,.int .i64 x.d,.int .i64 x.i]
def zeroV(id:Int):aa:=⟨id,false,0,0,0,0,0⟩
def rK(o:ae)(y:aa):Hp:=heapOf [o,.dead,.cells 23 (N5 y) false] aE
section
variable (vs ws us:List aa) (o:ae) (n c p:Nat) (y:aa)
abbrev NW:St:=⟨tmsOf [af 0 n c,.int .i64 y.id,cN y] 0 .leaf,heapOf [o,.dead] aE,[]⟩
noncomputable def Uo(v:Value):ju:=(AH vs 58 [af 0 n c] (rK o y),(v,heapOf [.dead] (rK o y)))
theorem UK:(execE Tryz.prog (AH vs) [(17,.bool false)] [(12,iN 0,[.dead])] [] 40 qt (NW o n c y)).map (fun z=>(look2 0 [] [6,7] (z.1,z.2.1),z.2.2)) =
 some ((.ret,[],[(6,ax),(7,iN 1)],true),[(some (.bool (cy y)),.bool false)],[Uo vs o n c y (iN 0)],[]):=by kernel_rfl
noncomputable def Wz:ju:=(AH vs 79 [af 0 n c] (heapOf [.dead] (rK o y)),(aW 4 n,heapOf [ab vs,.dead] (heapOf [.dead] (rK o y))))
noncomputable def HQ(vs:List aa)(o:ae)(y:aa):Hp:=heapOf [.dead] (heapOf [ab vs,.dead] (heapOf [.dead] (rK o y)))
noncomputable def WA(b:Bool):ju:=(AH vs 139 [aW 4 n,.int .i64 y.id] (heapOf [ab vs,.dead] (heapOf [.dead] (rK o y))),(.tuple #[iN p,.bool b],HQ vs o y))
theorem UL:(execE Tryz.prog (AH vs) [(17,.bool true),(39,pb 4 (p*7))] [(12,iN 0,[.dead]),(21,aW 4 n,[ab vs,.dead]),(25,.tuple #[iN p,.bool true],[.dead])] [(1040,undef,[.put 4 (ab ws)])] 40 qt (NW o n c y)).map (fun z=>(look2 1 [4] [6,7] (z.1,z.2.1),z.2.2)) =
 some ((.ret,[ab ws],[(6,aW 0 n),(7,iN 0)],true),[(some (.bool (cy y)),.bool true),gS 4 n 22 p],[Uo vs o n c y (iN 0),Wz vs o n c y,WA vs o n p y true],
  [((aStore Tryz.prog (HQ vs o y).get 23 (pb 4 (p*7+1)) (cN y)).map fun es=>(undef,es),(undef,[.put 4 (ab ws)]))]):=by kernel_rfl
noncomputable def BJ(vs:List aa)(o:ae)(y:aa):Hp:=(HQ vs o y).push (.cells 78 (vc (zeroV y.id)) false)
noncomputable def Pf(vs us:List aa)(o:ae)(y:aa):Hp:=heapOf ([ab us] ++ [.dead]) (killL [4,7] (BJ vs o y))
theorem UM:(execE Tryz.prog (AH vs) [(17,.bool true),(39,pb 8 (p*7))] [(12,iN 0,[.dead]),(21,aW 4 n,[ab vs,.dead]),(25,.tuple #[iN p,.bool false],[.dead])]
  [(35,bz 8 0 (n+1) 23,[.put 4 .dead,.put 7 .dead,.push (ab us),.push .dead]),(1040,undef,[.put 8 (ab ws)])] 40 qt (NW o n c y)).map (fun z=>(look2 1 [8] [6,7] (z.1,z.2.1),z.2.2)) =
 some ((.ret,[ab ws],[(6,af 0 (n+1) 23),(7,iN 0)],true),[(some (.bool (cy y)),.bool true),gS 8 (n+1) 23 p],
  [Uo vs o n c y (iN 0),Wz vs o n c y,WA vs o n p y false,(AH vs 140 [aW 4 n,iN p,af 7 1 22] (BJ vs o y),(bz 8 0 (n+1) 23,Pf vs us o y))],
  [((aStore Tryz.prog (Pf vs us o y).get 23 (pb 8 (p*7+1)) (cN y)).map fun es=>(undef,es),(undef,[.put 8 (ab ws)]))]):=by kernel_rfl
theorem UN:(execE Tryz.prog Lq [(17,.bool false)] [] [] 40 qt ⟨tmsOf [ax,.int .i64 y.id,cN y] 0 .leaf,heapOf [.dead] aE,[]⟩).map (fun z=>(look2 0 [] [6,7] (z.1,z.2.1),z.2.2)) =
 some ((.ret,[],[(6,ax),(7,iN 1)],true),[(some (.bool (cy y)),.bool false)],[],[]):=by kernel_rfl
theorem UO:(execE Tryz.prog Lq [(17,.bool true)] [] [] 40 qt ⟨tmsOf [ax,.int .i64 y.id,cN y] 0 .leaf,heapOf [.dead] aE,[]⟩).map (fun z=>(look2 1 [3] [6,7] (z.1,z.2.1),z.2.2)) =
 some ((.ret,[ab [y]],[(6,aW 0 1),(7,iN 0)],true),[(some (.bool (cy y)),.bool true)],[],[]):=by kernel_rfl
end
def cr(vs:List aa)(y:aa):List aa:=bif fnd vs y.id then vs.set (pos vs y.id) y else vs.take (pos vs y.id)++y::vs.drop (pos vs y.id)
theorem qU(vs:List aa)(h:aF vs=true):mF vs:=by
 have step:∀ (i:Nat) (u v:aa),vs[i]? = some u→vs[i+1]? = some v→u.id<v.id:=by
  intro i u v hu hv;have hi:i+1<vs.length:=(List.getElem?_eq_some_iff.1 hv).1
  have:=List.all_eq_true.1 h (i+1) (List.mem_range.2 hi)
  unfold rightAt at this;rw [hv] at this;simp only [hu,Bool.and_eq_true,decide_eq_true_eq] at this;exact this.2
 intro i j;induction j with
 | zero=>intro u v hij; omega
 | succ j ih =>
   intro u v hij hu hv;by_cases e:i=j
   ·subst e; exact step i u v hu hv
   ·have hj:j<vs.length:=by have:=(List.getElem?_eq_some_iff.1 hv).1; omega
    have h1:=ih u vs[j] (by omega) hu (List.getElem?_eq_getElem hj)
    have h2:=step j vs[j] v (List.getElem?_eq_getElem hj) hv
    omega
theorem qv{vs:List aa}{id:Int}(h:fnd vs id=true):∃ x,vs[pos vs id]? = some x∧x.id=id:=by
 unfold fnd at h;split at h
 ·rename_i x hx; exact ⟨x,hx,by simpa using h⟩
 ·cases h
theorem Fo{vs:List aa}{y:aa}:(cr vs y).length=bif fnd vs y.id then vs.length else vs.length+1:=by
 unfold cr;have:=yl vs y.id
 cases fnd vs y.id with
 | true=>simp
 | false=>simp; omega
theorem Am{us:List aa}{p b:Nat}{x y:aa}{get:Nat→Option ae}(hg:get b=some (ab us))(hx:us[p]? = some x)(hid:x.id=y.id) :
  ((aStore Tryz.prog get 23 (pb b (p*7+1)) (cN y)).map fun es=>(undef,es))=some (undef,[.put b (ab (us.set p y))]):=by
 have hi:p<us.length:=(List.getElem?_eq_some_iff.1 hx).1
 have hcell:cellsL (cN y)=N5 y:=rfl
 have hput:=pX (k:=1) (y:=y) (ns:=N5 y) hx (by simp [N5]) (fun j hj=>by
  match j,hj with
  | 0,_=>simp [vc,hid]
  | 1,_=>rfl
  | 2,_=>rfl
  | 3,_=>rfl
  | 4,_=>rfl
  | 5,_=>rfl
  | 6,_=>rfl)
 unfold ab at hg;unfold pb;simp only [aStore,hg,yu,hcell];rw [if_pos]
 ·rw [hput]; rfl
 ·rw [Bool.and_eq_true,Bool.and_eq_true]
  refine ⟨⟨rfl,rfl⟩,decide_eq_true ?_⟩
  rw [bV]; omega
theorem e9(us vs:List aa):aI (us++vs)=aI us++aI vs:=by unfold aI; rw [List.flatMap_append]
theorem s7{vs:List aa}{p:Nat}(h:p≤vs.length):(aI vs).take (p*7)=aI (vs.take p):=by
 have e:aI vs=aI (vs.take p)++aI (vs.drop p):=by rw [← e9,List.take_append_drop]
 rw [e,List.take_left' (by rw [bV,List.length_take]; omega)]
theorem s6{vs:List aa}{p:Nat}(h:p≤vs.length):(aI vs).drop (p*7)=aI (vs.drop p):=by
 have e:aI vs=aI (vs.take p)++aI (vs.drop p):=by rw [← e9,List.take_append_drop]
 rw [e,List.drop_left' (by rw [bV,List.length_take]; omega)]
theorem DR{hp:Hp}{b b2 n p c2:Nat}{vs:List aa}{z:aa}(hb:hp.get b=some (ab vs))(hb2:hp.get b2=some (.cells 78 (vc z) false))(hne:Nat.beq b b2=false)(hn:n=vs.length)(hp':p≤n)(hl:n<1000000) :
  gIns [aW b n,iN p,af b2 1 c2] hp=some (bz hp.sz 0 (n+1) 23,heapOf ([ab (vs.take p++z::vs.drop p)] ++ [.dead]) (killL [b,b2] hp)):=by
 subst hn;unfold ab at hb;have hcond:(Nat.beq 78 78&&Nat.beq (aI vs).length (vs.length*7)&&Nat.beq (vc z).length 7&&Nat.ble p vs.length&&Nat.blt vs.length 1000000&&(aI vs).all inert&&(vc z).all inert&&(aI vs).all isOne&&(vc z).all isOne)=true:=by
  rw [bV,dC,rH];simp only [Nat.beq_refl,Bool.true_and,Bool.and_true];rw [show Nat.ble p vs.length=true from Nat.ble_eq_true_of_le hp',show Nat.blt vs.length 1000000=true by simpa [Nat.blt_eq] using hl]
  rfl
 unfold gIns aW iN af;simp only [hb,hb2,hne,hcond,show Nat.beq 22 22=true from rfl]
 congr 3
 unfold ab;rw [s7 hp',s6 hp',e9];have:aI (z::vs.drop p)=vc z++aI (vs.drop p):=rfl
 rw [this,List.append_assoc]
section
variable {vs:List aa} {s:Value} {hp:Hp}
theorem Ll(h:TR vs s hp):AH vs 58 [s] hp=some (mc (aF vs),heapOf [.dead] hp):=by
 show aCall Tryz.prog (Gt vs) 5 58 _ _=_
 rw [aCall];have hE:Gt vs 58=some fun _ args h=>g18 vs args h:=rfl
 rw [hE];exact tS (.inr h)
theorem Lm{b c:Nat}{o:ae}(hb:hp.get b=some o)(hi:aD o=true)(hr:vs = []∨∃ ty ro,o = .cells ty (aI vs) ro):AH vs 79 [af b vs.length c] hp=some (aW hp.sz vs.length,heapOf [ab vs,.dead] hp):=by
 show aCall Tryz.prog (Gt vs) 5 79 _ _=_
 rw [aCall];have hE:Gt vs 79=some fun _ args h=>vJ vs args h:=rfl
 rw [hE];exact pK hb hi hr
open Classical in
theorem Ln{id:Int}(h:TR vs s hp):AH vs 139 [s,.int .i64 id] hp=some (.tuple #[iN (pos vs id),.bool (fnd vs id)],heapOf [.dead] hp):=by
 show aCall Tryz.prog (Gt vs) 5 139 _ _=_
 rw [aCall];have hE:Gt vs 139=some fun _ args h=>g62 vs args h:=rfl
 rw [hE];show (if TR vs s hp then _ else _)=_
 rw [if_pos h];rfl
theorem Lo(args:List Value):AH vs 140 args hp=gIns args hp:=by
 show aCall Tryz.prog (Gt vs) 5 140 _ _=_
 rw [aCall];rfl
end
theorem J1(vs:List aa)(hn:vs.length<1000000)(hs:mF vs):ExtOk Tryz.prog (Gt vs):=bD (aS (.cons DY .nil)) (.cons (HV vs hn) (.cons (HW vs hn) (.cons (Pp vs hn hs) (.cons Ty .nil))))
noncomputable def Gv(vs:List aa):Ext:=fq (cR Tryz.prog [(123,g55)]) [(58,g18 vs)]
theorem Gw(vs:List aa)(hn:vs.length<1000000):ExtOk Tryz.prog (Gv vs):=bD (aS (.cons DY .nil)) (.cons (HV vs hn) .nil)
noncomputable def Lp(vs:List aa):aG:=aCall Tryz.prog (Gv vs) 5
theorem UP(vs:List aa)(o:ae)(n c:Nat)(y:aa):(execE Tryz.prog (Lp vs) [] [(12,iN 1,[.dead])] [] 40 qt (NW o n c y)).map (fun z=>(look2 0 [] [6,7] (z.1,z.2.1),z.2.2)) =
 some ((.ret,[],[(6,ax),(7,iN 1)],true),[],[(Lp vs 58 [af 0 n c] (rK o y),(iN 1,heapOf [.dead] (rK o y)))],[]):=by kernel_rfl
theorem G5{vs:List aa}{s:Value}{hp:Hp}(h:TR vs s hp):Lp vs 58 [s] hp=some (mc (aF vs),heapOf [.dead] hp):=by
 show aCall Tryz.prog (Gv vs) 5 58 _ _=_
 rw [aCall];have hE:Gv vs 58=some fun _ args h=>g18 vs args h:=rfl
 rw [hE];exact tS (.inr h)
def I7(vs:List aa)(y:aa)(e:Exit)(st:St):Prop :=
 e = .ret∧((aF vs&&cy y)=true∧(∃ g,st=av 42 g [(6,af 0 (cr vs y).length (bif fnd vs y.id then 22 else 23)),(7,iN 0)] [ab (cr vs y)])∨(aF vs&&cy y)=false∧∃ g,st=av 42 g [(6,ax),(7,iN 1)] [])
theorem Fp(o:ae)(ho:aD o=true)(vs:List aa)(hn:vs.length<1000000)(hrow:vs = []∨∃ ty ro,o = .cells ty (aI vs) ro)(c:Nat)(y:aa)(W:bj) :
  aj Tryz.prog 42 W qt (NW o vs.length c y) (I7 vs y):=by
 have g0:(rK o y).get 0=some o:=by unfold rK; rw [al]; rfl
 have hT0:TR vs (af 0 vs.length c) (rK o y):=⟨0,c,o,rfl,g0,ho,hrow⟩
 cases hr:aF vs with
 | false =>
   have k:=G5 hT0
   rw [hr] at k;exact aj.aK (aP (Gw vs hn) follows 5) follows 0 _ _ _ _ (UP vs o vs.length c y) Met.nil (ay.cons k ay.nil) az.nil Nz rfl rfl (dE _) fun g=>⟨rfl,.inr ⟨by rw [hr]; rfl,g,rfl⟩⟩
 | true =>
   have hs:=qU vs hr
   have hc:a8 Tryz.prog (AH vs):=aP (J1 vs hn hs) follows 5
   have k1:=Ll hT0
   rw [hr] at k1;cases h17:cy y with
   | false =>
     exact aj.aK hc follows 0 _ _ _ _ (UK vs o vs.length c y) (Met.cons (ag h17) Met.nil) (ay.cons k1 ay.nil) az.nil Nz rfl rfl (dE _) fun g=>⟨rfl,.inr ⟨by rw [hr,h17]; rfl,g,rfl⟩⟩
   | true =>
     have sz0:(rK o y).sz=3:=rfl
     have g0':(heapOf [.dead] (rK o y)).get 0=some o:=by rw [heapOf_get,sz0,if_pos (by omega),g0]
     have k2:=Lm (vs:=vs) (c:=c) g0' ho hrow
     have sz1:(heapOf [.dead] (rK o y)).sz=4:=rfl
     have g4:(heapOf [ab vs,.dead] (heapOf [.dead] (rK o y))).get 4=some (ab vs):=by rw [heapOf_get,sz1,if_neg (by omega)]; rfl
     have hT4:TR vs (aW 4 vs.length) (heapOf [ab vs,.dead] (heapOf [.dead] (rK o y))):=⟨4,22,ab vs,rfl,g4,aw vs,.inr ⟨78,false,rfl⟩⟩
     have k3:=Ln (id:=y.id) hT4
     have sz2:(heapOf [ab vs,.dead] (heapOf [.dead] (rK o y))).sz=6:=rfl
     have g4':(HQ vs o y).get 4=some (ab vs):=by unfold HQ; rw [heapOf_get,sz2,if_pos (by omega),g4]
     have hple:=yl vs y.id
     have hfix:∀ (us:List aa) (i:Nat),i<1→∀ o',[ab us][i]? = some o'→dD 0 o':=fun us=>bq us []
     cases hf:fnd vs y.id with
     | true =>
       obtain ⟨x,hx,hid⟩:=qv hf;have hlt:pos vs y.id<vs.length:=(List.getElem?_eq_some_iff.1 hx).1
       rw [hf] at k3;refine aj.aK hc follows 1 _ _ _ _ (UL vs (vs.set (pos vs y.id) y) o vs.length c (pos vs y.id) y) (Met.cons (ag h17) (Met.cons (bF hlt) Met.nil)) (ay.cons k1 (ay.cons k2 (ay.cons k3 ay.nil))) (az.cons (Am g4' hx hid) az.nil) Nz rfl rfl (hfix _) fun g=>⟨rfl,.inl ⟨by rw [hr,h17]; rfl,g,?_⟩⟩
       have e1:cr vs y=vs.set (pos vs y.id) y:=by unfold cr; rw [hf]; rfl
       rw [e1,List.length_set,hf];rfl
     | false =>
       rw [hf] at k3;have hus:((vs.take (pos vs y.id)++zeroV y.id::vs.drop (pos vs y.id))).length=vs.length+1:=by simp; omega
       have hget:(vs.take (pos vs y.id)++zeroV y.id::vs.drop (pos vs y.id))[pos vs y.id]? = some (zeroV y.id):=by
         rw [List.getElem?_append_right (by simp; omega)]
         have:pos vs y.id-(vs.take (pos vs y.id)).length=0:=by simp; omega
         rw [this]; rfl
       have szS2:(HQ vs o y).sz=7:=rfl
       have g34:(BJ vs o y).get 4=some (ab vs):=by unfold BJ; rw [Hp.cv,szS2,if_neg (by omega),g4']
       have g37:(BJ vs o y).get 7=some (.cells 78 (vc (zeroV y.id)) false):=by unfold BJ; rw [Hp.cv,szS2,if_pos rfl]
       have k4:AH vs 140 [aW 4 vs.length,iN (pos vs y.id),af 7 1 22] (BJ vs o y)=some (bz 8 0 (vs.length+1) 23,Pf vs (vs.take (pos vs y.id)++zeroV y.id::vs.drop (pos vs y.id)) o y):=by
         rw [Lo];exact DR g34 g37 rfl rfl hple hn
       have szS3:(BJ vs o y).sz=8:=rfl
       have g48:(Pf vs (vs.take (pos vs y.id)++zeroV y.id::vs.drop (pos vs y.id)) o y).get 8=some (ab (vs.take (pos vs y.id)++zeroV y.id::vs.drop (pos vs y.id))):=by
         unfold Pf;rw [heapOf_get,cY,szS3,if_neg (by omega)]
         rfl
       refine aj.aK hc follows 1 _ _ _ _ (UM vs ((vs.take (pos vs y.id)++zeroV y.id::vs.drop (pos vs y.id)).set (pos vs y.id) y) (vs.take (pos vs y.id)++zeroV y.id::vs.drop (pos vs y.id)) o vs.length c (pos vs y.id) y) (Met.cons (ag h17) (Met.cons (bF (by omega)) Met.nil))
         (ay.cons k1 (ay.cons k2 (ay.cons k3 (ay.cons k4 ay.nil)))) (az.cons (Am g48 hget rfl) az.nil) Nz rfl rfl (hfix _) fun g=>⟨rfl,.inl ⟨by rw [hr,h17]; rfl,g,?_⟩⟩
       have e1:cr vs y=(vs.take (pos vs y.id)++zeroV y.id::vs.drop (pos vs y.id)).set (pos vs y.id) y:=by
         unfold cr;rw [hf,List.set_append_right _ _ (by simp; omega)]
         have:pos vs y.id-(vs.take (pos vs y.id)).length=0:=by simp; omega
         rw [this];rfl
       rw [e1,List.length_set,hus,hf];rfl
theorem set_nil(y:aa)(W:bj):aj Tryz.prog 42 W qt ⟨tmsOf [ax,.int .i64 y.id,cN y] 0 .leaf,heapOf [.dead] aE,[]⟩
   (fun e st=>e = .ret∧(cy y=true∧(∃ g,st=av 42 g [(6,aW 0 1),(7,iN 0)] [ab [y]])∨cy y=false∧∃ g,st=av 42 g [(6,ax),(7,iN 1)] [])):=by
 cases h17:cy y with
 | false=>exact aj.aK zb follows 0 _ _ _ _ (UN y) (Met.cons (ag h17) Met.nil) ay.nil az.nil Nz rfl rfl (dE _) fun g=>⟨rfl,.inr ⟨rfl,g,rfl⟩⟩
 | true=>exact aj.aK zb follows 1 _ _ _ _ (UO y) (Met.cons (ag h17) Met.nil) ay.nil az.nil Nz rfl rfl (bq [y] []) fun g=>⟨rfl,.inl ⟨rfl,g,rfl⟩⟩
def setC(s:Value)(vs:List aa)(id:Int):Nat:=match s with
 | .slice none _ _=>22
 | _=>bif fnd vs id then 22 else 23
open Classical in
noncomputable def g27(vs:List aa):aB:=fun args hp=>match args with
 | [s,.int .i64 id,.agg cs]=>match cs.toList with
   | [.bool n,.int .i64 t,.int .i64 o,.int .i64 r,.int .i64 d,.int .i64 i] =>
     if TN vs s hp then (match aF vs&&cy ⟨id,n,t,o,r,d,i⟩ with
       | true=>some (.tuple #[af hp.sz (cr vs ⟨id,n,t,o,r,d,i⟩).length (setC s vs id),iN 0],heapOf ([ab (cr vs ⟨id,n,t,o,r,d,i⟩)] ++ [.dead]) hp)
       | false=>some (.tuple #[ax,iN 1],heapOf ([] ++ [.dead]) hp))
     else none
   | _=>none
 | _=>none
open Classical in
theorem Ma{vs:List aa}{s:Value}{hp:Hp}(y:aa)(h:TN vs s hp):g27 vs [s,.int .i64 y.id,cN y] hp=match aF vs&&cy y with
  | true=>some (.tuple #[af hp.sz (cr vs y).length (setC s vs y.id),iN 0],heapOf [ab (cr vs y),.dead] hp)
  | false=>some (.tuple #[ax,iN 1],heapOf [.dead] hp):=by
 show (if TN vs s hp then _ else _)=_
 rw [if_pos h];rfl
theorem uw{N:Nat}{us:List aa}{v:Value}{t:Nat}{L:List (Nat×Value)}{g:Nat→Value}:(av N g L [ab us]).hp.get 0=some (ab us):=by
 show (heapOf _ aE).get 0=_
 rw [al]; rfl
theorem ui{B:Nat}{us:List aa}{hp:Hp}(h:hp.get 0=some (ab us)) : [ab us]=cQ [0] B hp:=by
 simp only [cQ,List.map_cons,List.map_nil,h,Option.getD_some];exact congrArg (fun z=>[z]) (dh (o:=ab us) (aw _) [0] B).symm
theorem Tt(vs:List aa)(hn:vs.length<1000000):aq Tryz.prog 85 (g27 vs):=dL follows Tryz.func85 Cu (by kernel_rfl) fun args hp v hp' h hk=>by
 unfold g27 at h;rw [ntmps27];split at h
 case h_2=>cases h
 rename_i s id cs;split at h
 case h_2=>cases h
 rename_i n t o r d i hcs;obtain rfl:=cJ hcs;generalize hy:(⟨id,n,t,o,r,d,i⟩:aa)=y at h;have ea : .int .i64 id=Value.int .i64 y.id:=by rw [← hy]
 have eh:Value.agg [.bool n,.int .i64 t,.int .i64 o,.int .i64 r,.int .i64 d,.int .i64 i].toArray=cN y:=by rw [← hy]; rfl
 have eid:y.id=id:=by rw [← hy]
 rw [ea,eh];split at h
 case isFalse=>cases h
 rename_i hT;have okB:∀ {st:St} (us:List aa),st.hp.get 0=some (ab us)→∀ b∈[0],∃ o,st.hp.get b=some o∧cZ o=true∧nT o=true:=fun us hg b' hb'=>by
  have:b'=0:=by simpa using hb'
  subst this;exact ⟨_,hg,e8 (aw _),rfl⟩
 rcases hT with ⟨rfl,rfl⟩ | hT
 ·have e1 : [ax,.int .i64 y.id,cN y].map (sh3 [] 0) = [ax,.int .i64 y.id,cN y]:=by simp [sh3,sh2,sh1,ax,cN]
  have hsv:cr [] y = [y]:=rfl
  split at h
  ·rename_i hro
   cases h;refine ⟨[],[0],[ab (cr [] y)],rfl,rfl,rfl,rfl,(fun b hb=>by cases hb),rfl,(by simp),fun W=>?_⟩
   rw [e1];refine aj.mono (set_nil y W) fun e st q=>?_
   obtain ⟨rfl,⟨-,g,rfl⟩ | ⟨h2,-⟩⟩:=q
   ·have hg:=uw (N:=42) (us:=[y]) (v:=ax) (t:=0) (L:=[(6,aW 0 1),(7,iN 0)]) (g:=g)
    refine ⟨.inr rfl,rfl,_,Qm _ _ _ g,rfl,okB [y] hg,?_,?_⟩
    ·simp [sh3,sh2,sh1,j9,idxOf,aW,af,setC,ax,hsv,iN]
    ·rw [hsv]; exact ui hg
   ·rw [h2,Bool.and_false] at hro; cases hro
  ·rename_i hro
   cases h;refine ⟨[],[],[],rfl,rfl,rfl,rfl,(fun b hb=>by cases hb),rfl,(by simp),fun W=>?_⟩
   rw [e1];refine aj.mono (set_nil y W) fun e st q=>?_
   obtain ⟨rfl,⟨h2,-⟩ | ⟨-,g,rfl⟩⟩:=q
   ·rw [h2,show aF []=true from rfl] at hro; cases hro
   ·exact ⟨.inr rfl,rfl,_,Qm _ _ _ g,rfl,(fun b hb=>by cases hb),by simp [sh3,sh2,sh1,ax,iN],rfl⟩
 ·obtain ⟨b,c,ob,rfl,hb,hi,hr⟩:=hT
  have e1 : [af b vs.length c,.int .i64 y.id,cN y].map (sh3 [b] 0) = [af 0 vs.length c,.int .i64 y.id,cN y]:=by simp [sh3,sh2,sh1,j9,idxOf,af,cN]
  have hst:∀ b'∈[b],∃ o,hp.get b'=some o∧bP o=true:=fun b' hb'=>by
    have:b'=b:=by simpa using hb'
    subst this;exact ⟨ob,hb,aY hi⟩
  split at h
  ·rename_i hro
   cases h;refine ⟨[b],[0],[ab (cr vs y)],rfl,rfl,rfl,rfl,hst,rfl,(by simp),fun W=>?_⟩
   rw [e1,ij hb hi];refine aj.mono (Fp (roBlk ob) (bT hi) vs hn (eC hr) c y W) fun e st q=>?_
   obtain ⟨rfl,⟨-,g,rfl⟩ | ⟨h2,-⟩⟩:=q
   ·have hg:=uw (N:=42) (us:=cr vs y) (v:=ax) (t:=0) (L:=[(6,af 0 (cr vs y).length (bif fnd vs y.id then 22 else 23)),(7,iN 0)]) (g:=g)
    refine ⟨.inr rfl,rfl,_,Qm _ _ _ g,rfl,okB _ hg,?_,ui hg⟩
    simp [sh3,sh2,sh1,j9,idxOf,af,setC,iN,eid]
   ·rw [h2] at hro; cases hro
  ·rename_i hro
   cases h;refine ⟨[b],[],[],rfl,rfl,rfl,rfl,hst,rfl,(by simp),fun W=>?_⟩
   rw [e1,ij hb hi];refine aj.mono (Fp (roBlk ob) (bT hi) vs hn (eC hr) c y W) fun e st q=>?_
   obtain ⟨rfl,⟨h2,-⟩ | ⟨-,g,rfl⟩⟩:=q
   ·rw [h2] at hro; cases hro
   ·exact ⟨.inr rfl,rfl,_,Qm _ _ _ g,rfl,(fun b hb=>by cases hb),by simp [sh3,sh2,sh1,ax,iN],rfl⟩
abbrev Up(vs:List aa):Prop:=vs.Pairwise fun u v=>u.id<v.id
theorem qV{vs:List aa}:mF vs↔Up vs:=by
 constructor
 ·intro h
  refine List.pairwise_iff_getElem.2 fun i j hi hj hij=>h i j _ _ hij (List.getElem?_eq_getElem hi) (List.getElem?_eq_getElem hj)
 ·intro h i j u v hij hu hv
  obtain ⟨hi,rfl⟩:=List.getElem?_eq_some_iff.1 hu
  obtain ⟨hj,rfl⟩:=List.getElem?_eq_some_iff.1 hv
  exact List.pairwise_iff_getElem.1 h i j hi hj hij
theorem cG{vs:List aa}:aF vs=true↔(∀ x∈vs,cy x=true)∧Up vs:=by
 constructor
 ·intro h
  refine ⟨fun x hx=>?_,qV.1 (qU vs h)⟩
  obtain ⟨i,hi⟩:=List.mem_iff_getElem?.1 hx;exact Bk h hi
 ·rintro ⟨h1,h2⟩
  have hr:=qV.2 h2
  refine oC fun j hj=>?_
  have hx:vs[j]? = some vs[j]:=List.getElem?_eq_getElem hj
  unfold rightAt;rw [hx];simp only [h1 _ (List.getElem_mem hj),Bool.true_and];cases j with
  | zero=>rfl
  | succ j =>
    have hu:vs[j]? = some vs[j]:=List.getElem?_eq_getElem (by omega)
    simp only [hu];exact decide_eq_true (hr j (j+1) _ _ (by omega) hu hx)
def wZ(vs:List aa)(y:aa):List aa:=vs.filter (fun x=>decide (x.id<y.id))++y::vs.filter (fun x=>decide (y.id<x.id))
theorem uD{y:aa}:∀ {vs:List aa},Up vs→cr vs y=wZ vs y
 | [],_=>rfl
 | u::vs,h=>by
   have ih:=uD (y:=y) (List.pairwise_cons.1 h).2
   have hu:=(List.pairwise_cons.1 h).1
   rcases Int.lt_trichotomy u.id y.id with h1 | h1 | h1
   ·have hp:pos (u::vs) y.id=pos vs y.id+1:=by unfold pos; rw [List.takeWhile_cons,if_pos (by simpa using h1)]; rfl
    have hf:fnd (u::vs) y.id=fnd vs y.id:=by unfold fnd; rw [hp]; rfl
    have e1:cr (u::vs) y=u::cr vs y:=by
      unfold cr;rw [hp,hf];cases fnd vs y.id <;> rfl
    rw [e1,ih];unfold wZ;rw [List.filter_cons_of_pos (by simpa using h1),List.filter_cons_of_neg (by simp; omega)]
    rfl
   ·have hp:pos (u::vs) y.id=0:=by unfold pos; rw [List.takeWhile_cons,if_neg (by simp; omega)]; rfl
    have hf:fnd (u::vs) y.id=true:=by unfold fnd; rw [hp]; simp [h1]
    have e1:cr (u::vs) y=y::vs:=by unfold cr; rw [hp,hf]; rfl
    rw [e1];unfold wZ;rw [List.filter_cons_of_neg (by simp; omega),List.filter_cons_of_neg (by simp; omega),List.filter_eq_nil_iff.2 (fun x hx=>by have:=hu x hx; simp; omega),List.filter_eq_self.2 (fun x hx=>by have:=hu x hx; simp; omega)]
    rfl
   ·have hp:pos (u::vs) y.id=0:=by unfold pos; rw [List.takeWhile_cons,if_neg (by simp; omega)]; rfl
    have hf:fnd (u::vs) y.id=false:=by unfold fnd; rw [hp]; simp; omega
    have e1:cr (u::vs) y=y::u::vs:=by unfold cr; rw [hp,hf]; rfl
    rw [e1];unfold wZ;rw [List.filter_cons_of_neg (by simp; omega),List.filter_cons_of_pos (by simpa using h1),List.filter_eq_nil_iff.2 (fun x hx=>by have:=hu x hx; simp; omega),List.filter_eq_self.2 (fun x hx=>by have:=hu x hx; simp; omega)]
    rfl
theorem Iz{vs:List aa}{y:aa}(h:Up vs):Up (wZ vs y):=by
 unfold wZ;refine List.pairwise_append.2 ⟨h.filter _,List.pairwise_cons.2 ⟨fun x hx=>?_,h.filter _⟩,fun u hu v hv=>?_⟩
 ·simpa using (List.mem_filter.1 hx).2
 ·have h1:u.id<y.id:=by simpa using (List.mem_filter.1 hu).2
  rcases List.mem_cons.1 hv with rfl | hv
  ·exact h1
  ·have h2:y.id<v.id:=by simpa using (List.mem_filter.1 hv).2
   omega
theorem wq{vs:List aa}{y x:aa}:x∈wZ vs y↔x=y∨(x∈vs∧x.id≠y.id):=by
 unfold wZ;simp only [List.mem_append,List.mem_cons,List.mem_filter,decide_eq_true_eq];constructor
 ·rintro (⟨h1,h2⟩ | rfl | ⟨h1,h2⟩)
  ·exact .inr ⟨h1,by omega⟩
  ·exact .inl rfl
  ·exact .inr ⟨h1,by omega⟩
 ·rintro (rfl | ⟨h1,h2⟩)
  ·exact .inr (.inl rfl)
  ·rcases Int.lt_trichotomy x.id y.id with h | h | h
   ·exact .inl ⟨h1,h⟩
   ·exact absurd h h2
   ·exact .inr (.inr ⟨h1,h⟩)
theorem yq{vs:List aa}{y:aa}(h:aF vs=true)(hy:cy y=true):aF (cr vs y)=true:=by
 obtain ⟨h1,h2⟩:=cG.1 h;rw [uD h2];refine cG.2 ⟨fun x hx=>?_,Iz h2⟩
 rcases wq.1 hx with rfl | ⟨hx,-⟩
 ·exact hy
 ·exact h1 x hx
theorem gU{vs:List aa}{y x:aa}(h:aF vs=true):x∈cr vs y↔x=y∨(x∈vs∧x.id≠y.id):=by
 rw [uD (cG.1 h).2,wq]
noncomputable def Su:aB:=atRow (fun _=>True) g27
theorem Pv:aq Tryz.prog 85 Su:=fw fun vs hn _=>Tt vs hn
section
variable (zs xs ys:List aa) (o:ae) (s:Value) (n:Nat) (y z:aa) (O1 O2:List ae) (e f:Nat) (u1 u2:Value)
abbrev B5:St:=⟨tmsOf [s,.int .i64 y.id,.int .i64 z.id,cN y,cN z] 0 .leaf,heapOf [o,.dead] aE,[]⟩
def WK(us:List aa):List ae:=[ab us,.dead]
end
theorem TR.ext{vs:List aa}{s:Value}{hp:Hp}(h:TR vs s hp)(hk:hp.ok)(O:List ae):TR vs s (heapOf O hp):=by
 obtain ⟨b,c,o,rfl,hb,hi,hr⟩:=h;exact ⟨b,c,o,rfl,by rw [heapOf_get,if_pos (cU hk hb),hb],hi,hr⟩
theorem TN.new{vs:List aa}{hp:Hp}{b n c:Nat}(hn:n=vs.length)(hb:hp.get b=some (ab vs)):TN vs (af b n c) hp:=by
 subst hn;exact .inr ⟨b,c,ab vs,rfl,hb,aw vs,.inr ⟨78,false,rfl⟩⟩
theorem zu{O:List ae}{hp:Hp}{b:Nat}{x:ae}(hk:hp.ok)(h:hp.get b=some x):(heapOf O hp).get b=some x:=by
 rw [heapOf_get,if_pos (cU hk h),h]
end Go.Proofs.YtgeoommlmddgpaaGreat.LtA
namespace Go.Proofs.YtgeoommlmddgpaaGreat.LtA
open Go Go.Proofs Go.Proofs.YtgeoommlmddgpaaGreat.AI Go.RowKit Go.ChangeShapes
theorem H4{f:FuncId}{fn:Func}{c:Code}{N:Nat}(hf:Tryz.prog.funcs[f]? = some fn)(hb:fn.body=some c)(hN:fn.ntmps=N)(W:World){args:Array Value}{args0:List Value}{hp:Hp}{m:BM}(hl:args0.length≤N)(hk:hp.ok)(sim:cd m hp.get W)(ro:∀ b,rw? hp.get b=false)
  (ra:aC m hp.get args0 args.toList) (h:∀ W,aj Tryz.prog N W c ⟨tmsOf args0 0 .leaf,hp,[]⟩ (fun e st=>(e = .normal∨e = .ret)∧st.df = []∧retVal Tryz.prog fn st=some (.bool true))) :
  Calls Tryz.prog f args W fun e W'=>e = .returned (.bool true)∧Below W.heap.size W W':=by
 have h':=h (bj.shut W)
 rw [← hN] at h';refine (Jn (R:=fun v _=>v = .bool true) hf hb (by rw [hN]; exact hl) hk sim ro ra (aj.mono h' fun e st q=>⟨q.1,q.2.1,_,q.2.2,rfl⟩)).mono fun e w' hh=>?_
 obtain ⟨v',v,st',m',rfl,rfl,rv,_,_,hb,_⟩:=hh;exact ⟨by rw [rv.of_bool],hb.below⟩
end Go.Proofs.YtgeoommlmddgpaaGreat.LtA
namespace Go.Proofs.YtgeoommlmddgpaaGreat.LtA
open Go Go.Proofs Go.Proofs.YtgeoommlmddgpaaGreat.AI Go.RowKit
theorem E7{o:ae}{vs:List aa}(h:Holds vs o):Holds vs (roBlk o):=by
 rcases h with h | ⟨ty,ro,rest,rfl⟩
 ·exact .inl h
 ·exact .inr ⟨ty,true,rest,rfl⟩
def TP(vs:List aa)(s:Value)(hp:Hp):Prop:=∃ b c o,s=af b vs.length c∧hp.get b=some o∧aD o=true∧Holds vs o
theorem TR.tp{vs:List aa}{s:Value}{hp:Hp}(h:TR vs s hp):TP vs s hp:=by
 obtain ⟨b,c,o,h1,h2,h3,h4⟩:=h;exact ⟨b,c,o,h1,h2,h3,.of h4⟩
theorem rG{us:List aa}:∀ {vs:List aa},aI us=aI vs→us=vs:=by
 induction us with
 | nil=>intro vs h; cases vs with
   | nil=>rfl
   | cons v vs=>simp [aI,vc] at h
 | cons u us ih=>intro vs h; cases vs with
   | nil=>simp [aI,vc] at h
   | cons v vs =>
     simp only [aI,vc,List.flatMap_cons,List.cons_append,List.nil_append,List.cons.injEq,Value.int.injEq,Value.bool.injEq,true_and] at h;obtain ⟨a1,a2,a3,a4,a5,a6,a7,h⟩:=h;have:=ih h
     subst this;cases u; cases v;simp_all
theorem TP.not_nil{vs:List aa}{hp:Hp}(h:TP vs ax hp):False:=by
 obtain ⟨b,c,o,h,_⟩:=h;simp [af,ax] at h
theorem TP.uniq{us vs:List aa}{s:Value}{hp:Hp}(h1:TP us s hp)(h2:TP vs s hp):us=vs:=by
 obtain ⟨b,c,o,rfl,hb,_,hr⟩:=h1;obtain ⟨b',c',o',e,hb',_,hr'⟩:=h2;unfold af at e;simp only [Value.slice.injEq,Option.some.injEq,Addr.mk.injEq,and_true] at e;obtain ⟨rfl,hl,-⟩:=e;rw [hb] at hb'; cases hb';rcases hr with h | ⟨ty,ro,rest,h⟩
 ·subst h
  exact (List.eq_nil_of_length_eq_zero hl.symm).symm
 ·rcases hr' with h' | ⟨ty',ro',rest',h'⟩
  ·subst h'
   exact List.eq_nil_of_length_eq_zero hl
  ·rw [h] at h'
   injection h' with _ h2 _
   exact rG (List.append_inj h2 (by rw [bV,bV,hl])).1
def TQ(vs:List aa)(s:Value)(hp:Hp):Prop:=s=ax∧vs = []∨TP vs s hp
theorem TN.tq{vs:List aa}{s:Value}{hp:Hp}(h:TN vs s hp):TQ vs s hp:=by
 rcases h with h | h
 ·exact .inl h
 ·exact .inr h.tp
theorem TQ.uniq{us vs:List aa}{s:Value}{hp:Hp}(h1:TQ us s hp)(h2:TQ vs s hp):us=vs:=by
 rcases h1 with ⟨rfl,rfl⟩ | h1
 ·rcases h2 with ⟨-,rfl⟩ | h2
  ·rfl
  ·exact h2.not_nil.elim
 ·rcases h2 with ⟨rfl,rfl⟩ | h2
  ·exact h1.not_nil.elim
  ·exact h1.uniq h2
open Classical in
noncomputable def atP(k:List aa→aB):aB:=fun args hp=>match args with
 | s::_=>if h:∃ vs,TQ vs s hp∧vs.length<1000000 then k h.choose args hp else none
 | _=>none
theorem Cq{f:FuncId}{k:List aa→aB}(h:∀ vs,vs.length<1000000→aq Tryz.prog f (k vs)):aq Tryz.prog f (atP k):=by
 intro args hp v hp' he hk;unfold atP at he;split at he
 case h_2=>cases he
 split at he
 ·rename_i hx
  exact h _ hx.choose_spec.2 _ _ _ _ he hk
 ·cases he
theorem KI{k:List aa→aB}{vs:List aa}{s:Value}{r:List Value}{hp:Hp}(h:TQ vs s hp)(hn:vs.length<1000000):atP k (s::r) hp=k vs (s::r) hp:=by
 unfold atP;have hx:∃ vs,TQ vs s hp∧vs.length<1000000:=⟨vs,h,hn⟩
 simp only;rw [dif_pos hx];rw [hx.choose_spec.1.uniq h]
noncomputable def c0:aG:=aCall Tryz.prog (cR Tryz.prog []) 5
theorem jY:a8 Tryz.prog c0:=aP (aS .nil) follows 5
noncomputable def Hx:Code:=(Tryz.f25.body).getD .skip
noncomputable def Lr:Code:=sL Hx
noncomputable def Ls:Code:=sL (sL (sR Hx))
noncomputable def CU:Code:=nO (jn (sR (sL (sR Hx))))
noncomputable def Lt:Code:=sR (sR Hx)
noncomputable abbrev qm:Code:=.seq Lr (.seq (.seq Ls (.block 0 (.loop CU))) Lt)
theorem KO:Tryz.f25.body=some qm:=by kernel_rfl
theorem ntmps33:Tryz.f25.ntmps=22:=by kernel_rfl
theorem VK:codeSafe Tryz.prog 22 Lr=true:=by kernel_rfl
theorem VL:codeSafe Tryz.prog 22 Ls=true:=by kernel_rfl
theorem NA:codeSafe Tryz.prog 22 CU=true:=by kernel_rfl
theorem VM:codeSafe Tryz.prog 22 Lt=true:=by kernel_rfl
def hB(x:aa):ae:=.cells 23 (N5 x) false
theorem Xb(x:aa)(b:Bool)(g:Nat→Value):retVal Tryz.prog Tryz.f25 (av 22 g [(4,pb 0 0),(5,.bool b)] [hB x])=some (.tuple #[cN x,.bool b]):=by kernel_rfl
section
variable (o:ae) (n c:Nat) (id:Int)
abbrev Wh:St:=⟨tmsOf [af 0 n c,.int .i64 id] 0 .leaf,heapOf [o,.dead] aE,[]⟩
abbrev We(g:Nat→Value):St:=av 22 g [(0,af 0 n c),(1,.int .i64 id),(4,pb 1 0)] [o,hB (zeroV 0)]
abbrev OD(i:Nat)(g:Nat→Value):St:=av 22 g [(1,.int .i64 id),(4,pb 1 0),(8,af 0 n c),(9,iN n),(10,iN i)] [o,hB (zeroV 0)]
abbrev Wt(g:Nat→Value):St:=av 22 g [(4,pb 0 0)] [hB (zeroV 0)]
theorem U0:(execE Tryz.prog c0 [] [] [] 10 Lr (Wh o n c id)).map (fun y=>(look2 1 [0,2] [0,1,4] (y.1,y.2.1),y.2.2))=some ((.normal,[o,hB (zeroV 0)],[(0,af 0 n c),(1,.int .i64 id),(4,pb 1 0)],true),[],[],[]):=by kernel_rfl
theorem U1(g:Nat→Value):(execE Tryz.prog c0 [] [] [] 10 Ls (We o n c id g)).map (fun y=>(look2 1 [0,1] [1,4,8,9,10] (y.1,y.2.1),y.2.2))=some ((.normal,[o,hB (zeroV 0)],[(1,.int .i64 id),(4,pb 1 0),(8,af 0 n c),(9,iN n),(10,iN 0)],true),[],[],[]):=by kernel_rfl
theorem U6(i:Nat)(g:Nat→Value):(execE Tryz.prog c0 [(11,.bool false)] [] [] 20 CU (OD o n c id i g)).map (fun y=>(look2 0 [1] [4] (y.1,y.2.1),y.2.2)) =
 some ((.exit 0,[hB (zeroV 0)],[(4,pb 0 0)],true),[(some (.bool (decide (Int.ofNat i<Int.ofNat n))),.bool false)],[],[]):=by kernel_rfl
noncomputable def EN(i:Nat)(x:aa):List db :=
 [(some (.bool (decide (Int.ofNat i<Int.ofNat n))),.bool true),gS 0 n c i,j8 (heapOf ([o,hB (zeroV 0)] ++ [.dead]) aE).get 78 0 (i*7) (.agg ⟨vc x⟩)]
def JL(i:Nat)(x:aa):List (Tmp×Value):=[(11,.bool true),(12,pb 0 (i*7)),(13,.agg ⟨vc x⟩)]
theorem U3(i:Nat)(x:aa)(g:Nat→Value):(execE Tryz.prog c0 (JL i x ++ [(17,.bool false),(20,iN (i+1))]) [] [] 20 CU (OD o n c id i g)).map (fun y=>(look2 1 [0,1] [1,4,8,9,10] (y.1,y.2.1),y.2.2)) =
 some ((.normal,[o,hB (zeroV 0)],[(1,.int .i64 id),(4,pb 1 0),(8,af 0 n c),(9,iN n),(10,iN (i+1))],true),EN o n c i x ++ [(some (.bool (x.id==id)),.bool false),dF i],[],[]):=by kernel_rfl
theorem U4(i:Nat)(x:aa)(g:Nat→Value):(execE Tryz.prog c0 (JL i x ++ [(17,.bool true)]) [] [] 20 CU (OD o n c id i g)).map (fun y=>(look2 0 [1] [4,5] (y.1,y.2.1),y.2.2)) =
 some ((.ret,[hB x],[(4,pb 0 0),(5,.bool true)],true),EN o n c i x ++ [(some (.bool (x.id==id)),.bool true)],[],[]):=by kernel_rfl
theorem U2(g:Nat→Value):(execE Tryz.prog c0 [] [] [] 20 Lt (Wt g)).map (fun y=>(look2 0 [0] [4,5] (y.1,y.2.1),y.2.2)) =
 some ((.ret,[hB (zeroV 0)],[(4,pb 0 0),(5,.bool false)],true),[],[],[]):=by kernel_rfl
theorem U5:(execQ Tryz.prog c0 [] 40 qm ⟨tmsOf [ax,.int .i64 id] 0 .leaf,heapOf [.dead] aE,[]⟩).map (fun y=>(look2 0 [1] [4,5] (y.1,y.2.1),y.2.2)) =
 some ((.ret,[hB (zeroV 0)],[(4,pb 0 0),(5,.bool false)],true),[]):=by kernel_rfl
end
def rY(id:Int)(x:aa):Bool:=x.id==id
def aH(vs:List aa)(id:Int):Option aa:=vs.find? (rY id)
def HP(vs:List aa)(id:Int):Value:=.tuple #[cN ((aH vs id).getD (zeroV 0)),.bool (aH vs id).isSome]
theorem tR{α : Type}{p : α→Bool}:∀ {vs:List α} {i:Nat} {x : α},vs[i]? = some x→p x=true→(∀ j y,j<i→vs[j]? = some y→p y=false)→vs.find? p=some x
 | [],i,x,h,_,_=>by simp at h
 | v::vs,0,x,h,hp,_=>by
   simp at h; subst h;rw [List.find?_cons_of_pos hp]
 | v::vs,i+1,x,h,hp,hb=>by
   rw [List.find?_cons_of_neg (by rw [hb 0 v (by omega) rfl]; simp)]
   exact tR (by simpa using h) hp fun j y hj hy=>hb (j+1) y (by omega) (by simpa using hy)
theorem HH{α : Type}{p : α→Bool}{vs:List α}(h:∀ j y,j<vs.length→vs[j]? = some y→p y=false):vs.find? p=none:=by
 refine List.find?_eq_none.2 fun x hx=>?_
 obtain ⟨i,hi⟩:=List.mem_iff_getElem?.1 hx;rw [h i x (List.getElem?_eq_some_iff.1 hi).1 hi]; simp
def yT(vs:List aa)(id:Int)(e:Exit)(st:St):Prop:=e = .ret∧∃ g,st=av 22 g [(4,pb 0 0),(5,.bool (aH vs id).isSome)] [hB ((aH vs id).getD (zeroV 0))]
theorem rJ{i:Nat}(h:i+1≤9223372036854775807):(some (Value.int .i64 (wrapF .i64 (Int.ofNat i+1))))=some (iN (i+1)):=by
 have e:Int.ofNat i+1=Int.ofNat (i+1):=rfl
 rw [e,wrap64 (by have:=Int.natCast_nonneg (i+1); simp only [Int.ofNat_eq_natCast]; omega) (by simp only [Int.ofNat_eq_natCast]; omega)]
 rfl
theorem Me(o:ae)(ho:aD o=true)(vs:List aa)(hn:vs.length≤9223372036854775807)(hrow:Holds vs o)(c:Nat)(id:Int)(W:bj) :
  aj Tryz.prog 22 W qm (Wh o vs.length c id) (yT vs id):=by
 refine aj.seq (Q1:=fun x st=>x = .normal∧∃ g,st=We o vs.length c id g) (aj.aK jY follows 1 _ _ _ _ (U0 o vs.length c id) Met.nil ay.nil az.nil VK rfl rfl (cj ho _) fun g=>⟨rfl,g,rfl⟩) ?_ (fun x st hne hq=>absurd hq.1 hne)
 rintro st ⟨-,g,rfl⟩;let Q2:Exit→St→Prop:=fun x st=>(x = .normal∧aH vs id=none∧∃ g,st=Wt g)∨(x = .ret∧yT vs id x st)
 refine aj.seq (Q1:=Q2) ?_ ?_ ?_
 ·refine aj.seq (Q1:=fun x st=>x = .normal∧∃ g,st=OD o vs.length c id 0 g) (aj.aK jY follows 1 _ _ _ _ (U1 o vs.length c id g) Met.nil ay.nil az.nil VL rfl rfl (cj ho _) fun g=>⟨rfl,g,rfl⟩) ?_ (fun x st hne hq=>absurd hq.1 hne)
  rintro st ⟨-,g,rfl⟩;refine aj.block ?_
  refine aj.loop (fun k st=>∃ i g,i≤vs.length∧k=vs.length-i∧(∀ j y,j<i→vs[j]? = some y→rY id y=false)∧st=OD o vs.length c id i g) ?_ (k:=vs.length) ⟨0,g,Nat.zero_le _,rfl,fun j y hj=>absurd hj (Nat.not_lt_zero _),rfl⟩
  rintro k st ⟨i,g,hi,hk,hno,rfl⟩;cases h11:decide (Int.ofNat i<Int.ofNat vs.length) with
  | false =>
    refine aj.aK jY follows 0 _ _ _ _ (U6 o vs.length c id i g) (Met.cons (ag h11) Met.nil) ay.nil az.nil NA rfl rfl (dE _) fun g'=>.inr ⟨by simp,?_⟩
    show (if (0:Nat)=0 then Q2 .normal _ else Q2 (.exit 0) _)
    rw [if_pos rfl];have hii:i=vs.length:=by simp at h11; omega
    subst hii;exact .inl ⟨rfl,HH hno,g',rfl⟩
  | true =>
    have hlt:i<vs.length:=by simpa using h11
    obtain ⟨x,hx⟩:∃ x,vs[i]? = some x:=⟨_,List.getElem?_eq_getElem hlt⟩
    have hmet:Met (EN o vs.length c i x):=Met.cons (ag h11) (Met.cons (bF hlt) (Met.cons (bU (Iw (yn hrow (List.mem_of_getElem? hx))) hx) Met.nil))
    cases h17:rY id x with
    | false =>
      refine aj.aK jY follows 1 _ _ _ _ (U3 o vs.length c id i x g) (cO hmet (Met.cons (ag h17) (Met.cons (rJ (by omega)) Met.nil))) ay.nil az.nil NA rfl rfl (cj ho _) fun g'=>.inl ⟨rfl,vs.length-(i+1),by omega,i+1,g',by omega,rfl,fun j y hj hy=>?_,rfl⟩
      rcases Nat.lt_succ_iff_lt_or_eq.1 hj with h' | h'
      ·exact hno j y h' hy
      ·subst h'; rw [hx] at hy; cases hy; exact h17
    | true =>
      refine aj.aK jY follows 0 _ _ _ _ (U4 o vs.length c id i x g) (cO hmet (Met.cons (ag h17) Met.nil)) ay.nil az.nil NA rfl rfl (dE _) fun g'=>.inr ⟨by simp,.inr ⟨rfl,rfl,g',?_⟩⟩
      have hf:aH vs id=some x:=tR hx h17 hno
      rw [hf]; rfl
 ·rintro st (⟨-,hf,g,rfl⟩ | ⟨h,-⟩)
  ·refine aj.aK jY follows 0 _ _ _ _ (U2 g) Met.nil ay.nil az.nil VM rfl rfl (dE _) fun g'=>⟨rfl,g',?_⟩
   rw [hf]; rfl
  ·cases h
 ·rintro x st hne (⟨h,-⟩ | ⟨-,h⟩)
  ·exact absurd h hne
  ·exact h
theorem Xq:codeSafe Tryz.prog 22 qm=true:=by kernel_rfl
theorem get_nil(id:Int)(W:bj):aj Tryz.prog 22 W qm ⟨tmsOf [ax,.int .i64 id] 0 .leaf,heapOf [.dead] aE,[]⟩ (yT [] id) :=
 aj.piece jY follows 0 _ _ _ _ (U5 id) Met.nil Xq rfl rfl rfl (dE _) fun g=>⟨rfl,g,rfl⟩
open Classical in
noncomputable def g33(vs:List aa):aB:=fun args hp=>match args with
 | [s,.int .i64 id]=>if TQ vs s hp then some (HP vs id,heapOf ([] ++ [.dead]) hp) else none
 | _=>none
theorem Tw(vs:List aa)(hn:vs.length≤9223372036854775807):aq Tryz.prog 25 (g33 vs):=dL follows Tryz.func25 KO (by kernel_rfl) fun args hp v hp' h hk=>by
 unfold g33 at h;rw [ntmps33];split at h
 case h_2=>cases h
 rename_i s id;split at h
 case isFalse=>cases h
 rename_i hT;cases h;have fin:∀ {e:Exit} {st:St},yT vs id e st→(e = .normal∨e = .ret)∧st.df = []∧∃ v0,retVal Tryz.prog Tryz.f25 st=some v0∧gz v0=true ∧
   (∀ b∈([]:List Nat),∃ o,st.hp.get b=some o∧cZ o=true∧nT o=true)∧HP vs id=sh3 [] hp.sz v0∧[]=cQ [] hp.sz st.hp:=by
  rintro e st ⟨rfl,g,rfl⟩;exact ⟨.inr rfl,rfl,_,Xb _ _ g,rfl,(fun b hb=>by cases hb),by simp [sh3,sh2,sh1,HP,cN],rfl⟩
 rcases hT with ⟨rfl,rfl⟩ | ⟨b,c,o,rfl,hb,hi,hr⟩
 ·refine ⟨[],[],[],rfl,rfl,rfl,rfl,(fun b hb=>by cases hb),rfl,(by simp),fun W=>?_⟩
  have e1 : [ax,.int .i64 id].map (sh3 [] 0) = [ax,.int .i64 id]:=by simp [sh3,sh2,sh1,ax]
  rw [e1];exact aj.mono (get_nil id W) fun e st q=>fin q
 ·refine ⟨[b],[],[],rfl,rfl,rfl,rfl,fun b' hb'=>?_,rfl,(by simp),fun W=>?_⟩
  ·have:b'=b:=by simpa using hb'
   subst this;exact ⟨o,hb,aY hi⟩
  ·have e1 : [af b vs.length c,.int .i64 id].map (sh3 [b] 0) = [af 0 vs.length c,.int .i64 id]:=by simp [sh3,sh2,sh1,j9,idxOf,af]
   rw [e1,ij hb hi];exact aj.mono (Me (roBlk o) (bT hi) vs hn (E7 hr) c id W) fun e st q=>fin q
noncomputable def pj:aB:=atP g33
theorem Ju:aq Tryz.prog 25 pj:=Cq fun vs hn=>Tw vs (by omega)
open Classical in
theorem fv{vs:List aa}{s:Value}{hp:Hp}{id:Int}(h:TQ vs s hp)(hn:vs.length<1000000):pj [s,.int .i64 id] hp=some (HP vs id,heapOf [.dead] hp):=by
 unfold pj;rw [KI h hn];show (if TQ vs s hp then _ else _)=_
 rw [if_pos h]; rfl
theorem Dp{P:Program}{f:FuncId}{g g2:aB}(hg:aq P f g)
  (H:∀ args hp v hp2,g2 args hp=some (v,hp2)→hp.ok→∃ dg,g args hp=some (v,dg)∧hp2.ok∧hp2.sz=dg.sz ∧
    ∀ b,hp2.get b=dg.get b∨(hp.sz≤b∧b<dg.sz∧∃ ty L1 L2,dg.get b=some (.cells ty (L1++L2) false)∧hp2.get b=some (.cells ty L1 false))):aq P f g2:=by
 intro args hp v hp2 he hk;obtain ⟨dg,h1,uR,hsz,hcut⟩:=H args hp v hp2 he hk;obtain ⟨vR,hle,hgo⟩:=hg args hp v dg h1 hk;refine ⟨uR,by rw [hsz]; exact hle,fun m h w args' hfr s ra=>?_⟩
 have step:∀ v' w',(∃ m',dT m (aL hp h) w m' (aL dg h) w'∧ah m' (aL dg h) v v')→∃ m',dT m (aL hp h) w m' (aL hp2 h) w'∧ah m' (aL hp2 h) v v':=?_
 ·rcases hgo m h w args' (fun b a c=>hfr b a (by rw [hsz]; exact c)) s ra with ⟨v',w',q1,q2⟩ | ⟨q1,q2⟩
  ·exact .inl ⟨v',w',q1,step v' w' q2⟩
  ·exact .inr ⟨q1,q2.mono fun e w' hh=>by
      obtain ⟨v',h1,h2⟩:=hh;exact ⟨v',h1,step v' w' h2⟩⟩
 rintro v' w' ⟨m',go,rv⟩;have hov:∀ b,aL hp2 h b=aL dg h b∨(hp.sz≤b∧b<dg.sz∧∃ ty L1 L2,aL dg h b=some (.cells ty (L1++L2) false)∧aL hp2 h b=some (.cells ty L1 false)):=by
  intro b;unfold aL;rw [hsz];by_cases hb:b<dg.sz
  ·simp only [if_pos hb]
   rcases hcut b with e | ⟨q1,q2,q3⟩
   ·exact .inl e
   ·exact .inr ⟨q1,q2,q3⟩
  ·exact .inl (by rw [if_neg hb,if_neg hb])
 have hrw:∀ b,rw? (aL hp2 h) b=rw? (aL dg h) b:=fun b=>by
  unfold rw?;rcases hov b with e | ⟨_,_,ty,L1,L2,e1,e2⟩
  ·rw [e]
  ·rw [e1,e2]
 have hlv:∀ b,aU (aL hp2 h) b=aU (aL dg h) b:=fun b=>by
  unfold aU;rcases hov b with e | ⟨_,_,ty,L1,L2,e1,e2⟩
  ·rw [e]
  ·rw [e1,e2]
 have le2:Le m' (aL dg h) m' (aL hp2 h):=⟨fun b hb=>(by
  rcases hov b with e | ⟨_,_,ty,L1,L2,e1,_⟩
  ·rw [e]; exact hb
  ·rw [e1] at hb; cases hb),fun b x hx=>.inr hx⟩
 refine ⟨m',⟨go.le.trans le2,⟨fun b x hx=>?_,fun b b' x x' hx hx' hr hl e=>go.sim.inj b b' x x' hx hx' (by rw [← hrw]; exact hr) (by rw [← hlv]; exact hl) e⟩,go.size,go.new,go.frame,go.un,fun b o hb hm=>?_,fun b o hb=>?_,fun b x hx hr=>go.rwb b x hx (by rw [← hrw]; exact hr),go.os,go.tape,go.output⟩,rv.mono le2⟩
 ·obtain ⟨o,ho,hbr⟩:=go.sim.dom b x hx
  rcases hov b with e | ⟨_,_,ty,L1,L2,e1,e2⟩
  ·exact ⟨o,by rw [e]; exact ho,hbr.mono le2 rfl⟩
  ·rw [e1] at ho; cases ho
   obtain ⟨c,fr,k1,k2,k3,k4,k5⟩:=hbr;refine ⟨_,e2,c,fr,k1,by rw [List.length_append] at k2; omega,k3,fun i v v' p1 p2=>(k4 i v v' (tT p1) p2).mono le2,k5.1,fun h=>by cases h⟩
 ·have:=go.idle b o hb hm
  rcases hov b with e | ⟨q1,q2,_⟩
  ·rw [e]; exact this
  ·have hn:=hfr b q1 (by rw [hsz]; exact q2)
   unfold aL at hb;rw [if_neg (by omega)] at hb
   rw [hn] at hb; cases hb
 ·obtain ⟨o',ho'⟩:=go.ex b o hb
  rcases hov b with e | ⟨_,_,ty,L1,L2,e1,e2⟩
  ·exact ⟨o',by rw [e]; exact ho'⟩
  ·exact ⟨_,e2⟩
theorem yA{m:BM}{h:HG}{w:World}{hp:Hp}(s:cd m (aL hp h) w)(hk:hp.ok){b:Nat}{t1:TypeId}{L:List Value}(h1:hp.get b=some (.cells t1 L false))(i1:L.all inert=true)
  {r δ E:Nat} (hm:m b=some (r,δ,E)):cd (canM m [b]) (heapOf [.cells t1 L false,.dead] aE).get w:=by
 have g1:=bu hk h b _ h1
 obtain ⟨o',ho',hbr⟩:=s.dom b _ hm;rw [g1] at ho'; cases ho';obtain ⟨c,fr,q1,q2,q3,q4,qf5⟩:=hbr;have e0:(heapOf [.cells t1 L false,.dead] aE).get 0=some (.cells t1 L false):=by rw [al]; rfl
 have cM:∀ i x,canM m [b] i=some x→(i=0∧m b=some x):=by
  intro i x hx;unfold canM at hx;match i with
  | 0=>exact ⟨rfl,hx⟩
  | i+1=>simp at hx
 refine ⟨fun i x hx=>?_,fun i i' x x' hx hx' hr hl hxx=>?_⟩
 ·obtain ⟨rfl,hy⟩:=cM i x hx
  rw [hm] at hy; cases hy;exact ⟨_,e0,c,fr,q1,q2,q3,fun i v v' p1 p2=>gy (List.all_eq_true.1 i1 v (List.mem_of_getElem? p1)) (q4 i v v' p1 p2),qf5⟩
 ·obtain ⟨rfl,_⟩:=cM i x hx
  obtain ⟨rfl,_⟩:=cM i' x' hx';rfl
noncomputable def Dz:Code:=(Tryz.f141.body).getD .skip
theorem KU:Tryz.f141.body=some Dz:=by kernel_rfl
theorem WM:codeSafe Tryz.prog 33 Dz=true:=by kernel_rfl
theorem ntmps69:Tryz.f141.ntmps=33:=by kernel_rfl
theorem WI(v:Value)(O:List ae)(g:Nat→Value):retVal Tryz.prog Tryz.f141 (av 33 g [(6,v)] O)=some v:=by kernel_rfl
section
variable (L L1 L2:List Value) (n c i:Nat)
def SO:St:=⟨tmsOf [bz 0 0 n c,iN i,iN (i+1)] 0 .leaf,heapOf [.cells 78 L false,.dead] aE,[]⟩
def hD(L:List Value):Hp:=heapOf [.cells 78 L false,.dead] aE
theorem Vm(n1 c1 c2 c3 c4:Nat)(v13:Value):(execE Tryz.prog c0 [(13,v13),(16,.bool false),(22,bz 0 0 i c1),(25,bz 0 ((i+1)*7) (n-(i+1)) c2),(31,bz 0 (n1*7) 1 c3)] []
  [(26,bz 0 0 n1 c4,[.put 0 (.cells 78 L1 false)]),(2031,.tuple #[],[.put 0 (.cells 78 L2 false)])] 60 Dz (SO L n c i)).map (fun y=>(look2 1 [0] [6] (y.1,y.2.1),y.2.2)) =
 some ((.ret,[.cells 78 L2 false],[(6,bz 0 0 n1 c4)],true),
  [(fstV ((aSlice Tryz.prog 24 (bz 0 0 n c) (some (iN i)) (some (iN (i+1))) (some (iN n))).map fun v=>(v,none)),v13),(some (.bool (Int.ofNat i==Int.ofNat (i+1))),.bool false),
   (fstV ((aSlice Tryz.prog 24 (bz 0 0 n c) none (some (iN i)) none).map fun v=>(v,none)),bz 0 0 i c1),(fstV ((aSlice Tryz.prog 24 (bz 0 0 n c) (some (iN (i+1))) none none).map fun v=>(v,none)),bz 0 ((i+1)*7) (n-(i+1)) c2),
   (fstV ((aSlice Tryz.prog 24 (bz 0 0 n1 c4) (some (iN n1)) (some (iN n)) none).map fun v=>(v,none)),bz 0 (n1*7) 1 c3)],[],
  [(aAppend Tryz.prog (hD L).get 2 [24,24] [bz 0 0 i c1,bz 0 ((i+1)*7) (n-(i+1)) c2],(bz 0 0 n1 c4,[.put 0 (.cells 78 L1 false)])),
   (aClear Tryz.prog ((hD L).put 0 (.cells 78 L1 false)).get [24] [bz 0 (n1*7) 1 c3],(.tuple #[],[.put 0 (.cells 78 L2 false)]))]):=by kernel_rfl
theorem Vn(c1 c2 c3:Nat)(v13:Value):(execE Tryz.prog c0 [(13,v13),(16,.bool false),(22,bz 0 0 i c1),(25,bz 0 ((i+1)*7) (n-(i+1)) c2),(31,bz 0 (i*7) 1 c3)] []
  [(26,bz 0 0 i c1,[]),(2031,.tuple #[],[.put 0 (.cells 78 L2 false)])] 60 Dz (SO L n c i)).map (fun y=>(look2 1 [0] [6] (y.1,y.2.1),y.2.2)) =
 some ((.ret,[.cells 78 L2 false],[(6,bz 0 0 i c1)],true),
  [(fstV ((aSlice Tryz.prog 24 (bz 0 0 n c) (some (iN i)) (some (iN (i+1))) (some (iN n))).map fun v=>(v,none)),v13),(some (.bool (Int.ofNat i==Int.ofNat (i+1))),.bool false),
   (fstV ((aSlice Tryz.prog 24 (bz 0 0 n c) none (some (iN i)) none).map fun v=>(v,none)),bz 0 0 i c1),(fstV ((aSlice Tryz.prog 24 (bz 0 0 n c) (some (iN (i+1))) none none).map fun v=>(v,none)),bz 0 ((i+1)*7) (n-(i+1)) c2),
   (fstV ((aSlice Tryz.prog 24 (bz 0 0 i c1) (some (iN i)) (some (iN n)) none).map fun v=>(v,none)),bz 0 (i*7) 1 c3)],[],
  [(aAppend Tryz.prog (hD L).get 2 [24,24] [bz 0 0 i c1,bz 0 ((i+1)*7) (n-(i+1)) c2],(bz 0 0 i c1,[])),
   (aClear Tryz.prog (hD L).get [24] [bz 0 (i*7) 1 c3],(.tuple #[],[.put 0 (.cells 78 L2 false)]))]):=by kernel_rfl
end
def mb(x:Nat):Nat:=3*(7+1000000*x)
theorem mT(x:Nat):mb x % 3=0:=by unfold mb; omega
theorem tI(x:Nat):mb x / 3 / 1000000=x:=by unfold mb; omega
theorem Jh(x:Nat):mb x / 3 % 1000000=7:=by unfold mb; omega
theorem oG(x:Nat):spareOf (mb x)=x:=by
 unfold spareOf;rw [mT];exact tI x
theorem C9(x n h:Nat):cc (mb x) n h=mb (n+x-h):=by
 unfold cc;have h0:eN (mb x)=0:=mT x
 rw [h0,if_neg (by simp),if_pos rfl,oG]
 unfold wide;rw [Jh];rfl
theorem FB{b n c i:Nat}(hi:i<n):∃ v,fstV ((aSlice Tryz.prog 24 (bz b 0 n c) (some (iN i)) (some (iN (i+1))) (some (iN n))).map fun v=>(v,none))=some v:=by
 have h1:(0:Int)≤Int.ofNat n∧Int.ofNat n≤(n:Int):=⟨Int.natCast_nonneg n,by simp⟩
 have h2:(0:Int)≤Int.ofNat (i+1)∧Int.ofNat (i+1)≤(n:Int):=⟨Int.natCast_nonneg _,by simp only [Int.ofNat_eq_natCast]; omega⟩
 have h3:(0:Int)≤Int.ofNat i∧Int.ofNat i≤((i+1:Nat):Int):=⟨Int.natCast_nonneg _,by simp only [Int.ofNat_eq_natCast]; omega⟩
 simp only [aSlice,bz,iN,Tryz.underlying24,kI,bound];rw [if_pos h1];simp only [Int.ofNat_eq_natCast,Int.toNat_natCast] at *;rw [if_pos h2];simp only [Int.toNat_natCast];rw [if_pos h3];exact ⟨_,rfl⟩
theorem qY{b n c l:Nat}(hl:l=n+1)(h:1≤spareOf c):fstV ((aSlice Tryz.prog 24 (bz b 0 n c) (some (iN n)) (some (iN l)) none).map fun v=>(v,none))=some (bz b (n*7) 1 (cc c n l)):=by
 subst hl;have h1:(0:Int)≤Int.ofNat (n+1)∧Int.ofNat (n+1)≤((n+spareOf c:Nat):Int):=⟨Int.natCast_nonneg _,by simp only [Int.ofNat_eq_natCast]; omega⟩
 have h2:(0:Int)≤Int.ofNat n∧Int.ofNat n≤((n+1:Nat):Int):=⟨Int.natCast_nonneg _,by simp only [Int.ofNat_eq_natCast]; omega⟩
 simp only [aSlice,bz,iN,Tryz.underlying24,kI,bound];rw [if_pos h1];simp only [Int.ofNat_eq_natCast,Int.toNat_natCast] at *;rw [if_pos h2];simp [fstV,cc]
theorem Hs{get:Nat→Option ae}{L A B C D:List Value}{n i k y c2:Nat}(h0:get 0=some (.cells 78 L false))(e1:L=A++B++C)(e2:eO L ((i+1)*7) (k*7)=some D)(hA:A.length=i*7)(hB:B.length=k*7)(hD:D.length=k*7)(oD:D.all isOne=true)(hk:0<k)(hy:k≤y)(hn:i+k<1000000) :
  aAppend Tryz.prog get 2 [24,24] [bz 0 0 i (mb y),bz 0 ((i+1)*7) k c2]=some (bz 0 0 (i+k) (mb (y-k)),[.put 0 (.cells 78 (A++D++C) false)]):=by
 obtain ⟨ii,hi,h7,px⟩:=mi;obtain ⟨z,hz,hzl⟩:=oK;have hsrc:aSrc Tryz.prog get 7 z (.slice 78) (bz 0 ((i+1)*7) k c2)=some (D,k):=by
  unfold aSrc;simp only [bz,srcLen,srcCells,h0];rw [if_neg (by omega),if_neg (by omega),e2]
  rfl
 have hold:eO L 0 (i*7)=some A:=by
  rw [e1];have:=vN (A:=[]) (B:=A) (C:=B++C) rfl hA
  simpa using this
 have hlen:L.length=i*7+k*7+C.length:=by rw [e1]; simp [hA,hB]; omega
 unfold aAppend;simp only [Tryz.underlying24,hi,hz,h7,px,hzl];rw [if_neg (by decide)]
 simp only [hsrc,oD,hD];rw [if_neg (by simp)]
 simp only [bz];rw [if_neg (by omega),if_neg (by omega)]
 simp only [h0,hold];rw [if_neg (by rw [tI]; omega),if_neg (by have:=mT y; omega),if_pos ⟨mT y,trivial,by rw [hlen]; omega⟩]
 rw [tI,Jh,e1,Nat.zero_add,qP hA (by omega)]
 rfl
noncomputable def z7:List Value:=(tzero Tryz.prog 78).getD []
theorem I0:tzero Tryz.prog 78=some z7:=by kernel_rfl
theorem Gi:z7.length=7:=by kernel_rfl
theorem xm:z7.all inert=true:=by kernel_rfl
theorem sl{get:Nat→Option ae}{A C:List Value}{k c3:Nat}(h0:get 0=some (.cells 78 (A++C) false))(hA:A.length=k*7)(hC:C.length=7) :
  aClear Tryz.prog get [24] [bz 0 (k*7) 1 c3]=some (.tuple #[],[.put 0 (.cells 78 (A++z7) false)]):=by
 unfold aClear;simp only [bz,Tryz.underlying24];rw [if_neg (by omega)]
 simp only [I0,h0];have er:repL z7 1=z7:=by show z7 ++ []=z7; rw [List.append_nil]
 rw [er,if_pos (by simp [Gi,hA,hC])]
 have:=qP (A:=A) (B:=C) (C:=[]) (D:=z7) hA (by rw [Gi,hC])
 rw [List.append_nil,List.append_nil] at this;rw [this]
def Ov(R:List Value)(n:Nat)(e:Exit)(st:St):Prop:=(e = .normal∨e = .ret)∧st.df = []∧∃ c v0,v0=bz 0 0 (n-1) c∧retVal Tryz.prog Tryz.f141 st=some v0∧st.hp.get 0=some (.cells 78 R false)
theorem L3{L:List Value}{n i x:Nat}{W:bj}(hL:L.length=n*7)(iL:L.all inert=true)(oL:L.all isOne=true)(hn:n<1000000)(hi:i<n) :
  aj Tryz.prog 33 W Dz (SO L n (mb x) i) (Ov (L.take (i*7)++L.drop ((i+1)*7)++z7) n):=by
 have iR:(L.take (i*7)++L.drop ((i+1)*7)++z7).all inert=true:=by rw [List.all_append,List.all_append,kj iL,fN iL,xm]; rfl
 have g0:(hD L).get 0=some (.cells 78 L false):=by unfold hD; rw [al]; rfl
 obtain ⟨v13,h13⟩:=FB (b:=0) (c:=mb x) hi;have ht:=nI hL (Nat.le_of_lt hi)
 have BK:=mY (i:=i+1) hL hi
 have hne:some (Value.bool (Int.ofNat i==Int.ofNat (i+1)))=some (.bool false):=xO (by omega)
 have hS1:fstV ((aSlice Tryz.prog 24 (bz 0 0 n (mb x)) none (some (iN i)) none).map fun v=>(v,none))=some (bz 0 0 i (mb (n+x-i))):=by
  rw [qZ (by omega),C9]
 have HQ:fstV ((aSlice Tryz.prog 24 (bz 0 0 n (mb x)) (some (iN (i+1))) none none).map fun v=>(v,none))=some (bz 0 ((i+1)*7) (n-(i+1)) (mb (n+x-n))):=by
  rw [eu (by omega),C9]
 by_cases hend:i+1=n
 ·have BJ:=qY (b:=0) (n:=i) (c:=mb (n+x-i)) (l:=n) hend.symm (by rw [oG]; omega)
  refine aj.aK jY follows 1 _ _ _ _ (Vn L (L.take (i*7)++L.drop ((i+1)*7)++z7) n (mb x) i _ _ _ v13) (Met.cons h13 (Met.cons hne (Met.cons hS1 (Met.cons HQ (Met.cons BJ Met.nil))))) ay.nil (az.cons ?_ (az.cons ?_ az.nil)) WM rfl rfl (DL iR) fun g=>⟨.inr rfl,rfl,_,_,(by rw [← hend]; rfl),WI _ _ g,(by show (heapOf _ aE).get 0=_; rw [al]; rfl)⟩
  ·obtain ⟨ii,hi',h7,px⟩:=mi
   obtain ⟨z,hz,hzl⟩:=oK;have hsrc:aSrc Tryz.prog (hD L).get 7 z (.slice 78) (bz 0 ((i+1)*7) (n-(i+1)) (mb (n+x-n)))=some ([],0):=by
     unfold aSrc;simp only [bz,srcLen,srcCells];rw [show n-(i+1)=0 by omega,if_pos rfl]
     rfl
   unfold aAppend;simp only [Tryz.underlying24,hi',hz,h7,px,hzl];rw [if_neg (by decide)]
   simp only [hsrc];rw [if_neg (by simp)]
   simp only [bz];exact if_pos trivial
  ·have hC:(L.drop (i*7)).length=7:=by rw [List.length_drop]; omega
   have:=sl (get:=(hD L).get) (A:=L.take (i*7)) (C:=L.drop (i*7)) (k:=i) (c3:=cc (mb (n+x-i)) i n) (by rw [g0,List.take_append_drop]) ht hC
   rw [this,List.drop_of_length_le (i:=(i+1)*7) (by omega),List.append_nil]
 ·obtain ⟨k,hk⟩:∃ k,n=i+1+k:=⟨n-(i+1),by omega⟩
  have SF:0<k:=by omega
  have ek:n-(i+1)=k:=by omega
  have en:n-1=i+k:=by omega
  have eL:L=L.take (i*7)++(L.drop (i*7)).take (k*7)++L.drop (i*7+k*7):=by
    rw [List.append_assoc,← List.drop_drop,List.take_append_drop,List.take_append_drop]
  have hB:((L.drop (i*7)).take (k*7)).length=k*7:=by rw [List.length_take,List.length_drop]; omega
  have hC:(L.drop (i*7+k*7)).length=7:=by rw [List.length_drop]; omega
  have hDl:(L.drop ((i+1)*7)).length=k*7:=by rw [BK,ek]
  have hg2:eO L ((i+1)*7) (k*7)=some (L.drop ((i+1)*7)):=by
    unfold eO;rw [List.take_of_length_le (by omega),if_pos hDl]
  have happ:=Hs (get:=(hD L).get) (n:=n) (y:=n+x-i) (c2:=mb (n+x-n)) g0 eL hg2 ht hB hDl (fN oL _) SF (by omega) (by omega)
  have BJ:=qY (b:=0) (n:=i+k) (c:=mb (n+x-i-k)) (l:=n) (by omega) (by rw [oG]; omega)
  have hS2':=HQ
  rw [ek] at hS2';have hr:=Vm L (L.take (i*7)++L.drop ((i+1)*7)++L.drop (i*7+k*7)) (L.take (i*7)++L.drop ((i+1)*7)++z7) n (mb x) i (i+k) (mb (n+x-i)) (mb (n+x-n)) (cc (mb (n+x-i-k)) (i+k) n) (mb (n+x-i-k)) v13
  rw [ek] at hr;refine aj.aK jY follows 1 _ _ _ _ hr (Met.cons h13 (Met.cons hne (Met.cons hS1 (Met.cons hS2' (Met.cons BJ Met.nil))))) ay.nil (az.cons happ (az.cons ?_ az.nil)) WM rfl rfl (DL iR) fun g=>⟨.inr rfl,rfl,_,_,(by rw [en]),WI _ _ g,(by show (heapOf _ aE).get 0=_; rw [al]; rfl)⟩
  exact sl (A:=L.take (i*7)++L.drop ((i+1)*7)) (C:=L.drop (i*7+k*7)) (k:=i+k) (by rw [Hp.dv,if_pos rfl]) (by rw [List.length_append,ht,hDl]; omega) hC
noncomputable def gDelF:aB:=fun args hp=>match args with
 | [.slice (some ⟨b,0,none⟩) n c,.int .i64 (.ofNat i),.int .i64 (.ofNat j)]=>match hp.get b with
   | some (.cells ty L false)=>match Nat.beq c 22&&Nat.beq ty 78&&Nat.beq L.length (n*7)&&Nat.beq j (i+1)&&Nat.blt i n&&Nat.blt n 1000000&&L.all inert&&L.all isOne with
     | true=>some (bz hp.sz 0 (n-1) 23,heapOf ([.cells 78 (L.take (i*7)++L.drop ((i+1)*7)++z7) false] ++ [.dead]) (killL [b] hp))
     | false=>none
   | _=>none
 | _=>none
def AZ:aB:=fun args hp=>match args with
 | [.slice (some ⟨b,0,none⟩) n c,.int .i64 (.ofNat i),.int .i64 (.ofNat j)]=>match hp.get b with
   | some (.cells ty L false)=>match Nat.beq c 22&&Nat.beq ty 78&&Nat.beq L.length (n*7)&&Nat.beq j (i+1)&&Nat.blt i n&&Nat.blt n 1000000&&L.all inert&&L.all isOne with
     | true=>some (bz hp.sz 0 (n-1) 23,heapOf ([.cells 78 (L.take (i*7)++L.drop ((i+1)*7)) false] ++ [.dead]) (killL [b] hp))
     | false=>none
   | _=>none
 | _=>none
theorem Pq:aq Tryz.prog 141 gDelF:=ot follows Tryz.func141 KU (by kernel_rfl) fun args hp v hp' he hk=>by
 unfold gDelF at he;split at he
 case h_2=>cases he
 rename_i b n c i j;split at he
 case h_2=>cases he
 rename_i ty L hb;split at he
 case h_2=>cases he
 rename_i hcond;cases he;simp only [Bool.and_eq_true] at hcond;obtain ⟨⟨⟨⟨⟨⟨⟨k0,k1⟩,k2⟩,k3⟩,k4⟩,k5⟩,iL⟩,oL⟩:=hcond;have hc':=Nat.eq_of_beq_eq_true k0
 have hty:=Nat.eq_of_beq_eq_true k1
 have hL:=Nat.eq_of_beq_eq_true k2
 have hj:=Nat.eq_of_beq_eq_true k3
 have hin:i<n:=by simpa [Nat.blt_eq] using k4
 have hn:n<1000000:=by simpa [Nat.blt_eq] using k5
 subst hc' hty hj;refine ⟨[b],[.cells 78 (L.take (i*7)++L.drop ((i+1)*7)++z7) false],rfl,fun b' hb'=>?_,fun m h w args' s ra=>?_⟩
 ·have:b'=b:=by simpa using hb'
  subst this;exact ⟨_,hb,rfl⟩
 obtain ⟨v1,bs1,e1,r1,ra1⟩:=ra.of_cons;obtain ⟨v2,bs2,e2,r2,ra2⟩:=ra1.of_cons;obtain ⟨v3,bs3,e3,r3,ra3⟩:=ra2.of_cons;have e4:=ra3.of_nil
 subst e4;obtain ⟨_,_,rr,oo,cap,q1,rfl,hcap,hh⟩:=r1.dK;cases q1;have ev2:=r2.of_int
 subst ev2;have ev3:=r3.of_int
 subst ev3;have ea:args'.toList = [.slice (some ⟨rr,oo,none⟩) n cap,.int .i64 (.ofNat i),.int .i64 (.ofNat (i+1))]:=by rw [e1,e2,e3]
 have gb:=bu hk h b _ hb
 rcases hh with hd | ⟨δ,E,hm,hoff,hcok⟩
 ·rw [gb] at hd; cases hd
 refine ⟨fun b' hb'=>?_,?_⟩
 ·have:b'=b:=by simpa using hb'
  subst this;exact ⟨_,hm⟩
 have hle:=hcap.1
 have iR:(L.take (i*7)++L.drop ((i+1)*7)++z7).all inert=true:=by rw [List.all_append,List.all_append,kj iL,fN iL,xm]; rfl
 have hcx:cap=n+mb (cap-n) / 3 / 1000000:=by rw [tI]; omega
 refine ⟨[0],[bz 0 0 n (mb (cap-n)),iN i,iN (i+1)],heapOf [.cells 78 L false,.dead] aE,canM m [b],rfl,rfl,bE _ _ iO,yA s hk hb iL hm,fun b' x hx _=>?_,?_,by rw [ntmps69]; simp,fun W=>?_⟩
 ·unfold canM at hx
  match b' with
  | 0=>exact ⟨b,by simp,x,hx,rfl⟩
  | b'+1=>simp at hx
 ·rw [ea]
  refine .cons (.slice ⟨hle,fun _=>hcx⟩ (.inr ⟨δ,E,hm,hoff,fun _=>hcx,fun h=>?_⟩)) (.cons (.flat rfl) (.cons (.flat rfl) .nil))
  rw [mT] at h; cases h
 ·rw [ntmps69]
  refine aj.mono (L3 hL iL oL hn hin) fun e st q=>?_
  obtain ⟨p1,p2,c1,v0,rfl,p3,p4⟩:=q;refine ⟨p1,p2,_,p3,rfl,fun b' hb'=>?_,fun m h x hx=>?_,?_⟩
  ·have:b'=0:=by simpa using hb'
   subst this;exact ⟨_,p4,e8 iR,rfl⟩
  ·have:sh3 [0] hp.sz (bz 0 0 (n-1) c1)=bz hp.sz 0 (n-1) c1:=by simp [sh3,sh2,sh1,j9,idxOf,bz]
   rw [this] at hx;exact w3 hx
  ·have hI:aD (.cells 78 (L.take (i*7)++L.drop ((i+1)*7)++z7) false)=true:=iR
   simp only [cQ,List.map_cons,List.map_nil,p4,Option.getD_some,dh hI]
theorem Tz:aq Tryz.prog 141 AZ:=Dp Pq fun args hp v hp2 he hk=>by
 unfold AZ at he;split at he
 case h_2=>cases he
 rename_i b n c i j;split at he
 case h_2=>cases he
 rename_i ty L hb;split at he
 case h_2=>cases he
 rename_i hcond;cases he;have hkk:(killL [b] hp).ok:=vZ hk fun b' hb'=>by
  have:b'=b:=by simpa using hb'
  subst this;exact cU hk hb
 refine ⟨heapOf ([.cells 78 (L.take (i*7)++L.drop ((i+1)*7)++z7) false] ++ [.dead]) (killL [b] hp),?_,bE _ _ hkk,rfl,fun b'=>?_⟩
 ·unfold gDelF
  simp only [hb,hcond]
 ·by_cases h1:b'=hp.sz
  ·subst h1
   refine .inr ⟨Nat.le_refl _,by rw [cm,cY]; simp,78,L.take (i*7)++L.drop ((i+1)*7),z7,?_,?_⟩
   ·rw [heapOf_get,cY,if_neg (by omega),Nat.sub_self]; rfl
   ·rw [heapOf_get,cY,if_neg (by omega),Nat.sub_self]; rfl
  ·refine .inl ?_
   rw [heapOf_get,heapOf_get,cY];by_cases h2:b'<hp.sz
   ·rw [if_pos h2,if_pos h2]
   ·rw [if_neg h2,if_neg h2]
    obtain ⟨d,hd⟩:∃ d,b'-hp.sz=d+1:=⟨b'-hp.sz-1,by omega⟩
    rw [hd];rfl
noncomputable def Gy(vs:List aa):Ext:=fq (cR Tryz.prog []) [(58,g18 vs),(79,vJ vs),(139,g62 vs),(141,AZ)]
theorem J3(vs:List aa)(hn:vs.length<1000000)(hs:mF vs):ExtOk Tryz.prog (Gy vs):=bD (aS .nil) (.cons (HV vs hn) (.cons (HW vs hn) (.cons (Pp vs hn hs) (.cons Tz .nil))))
noncomputable def zc(vs:List aa):aG:=aCall Tryz.prog (Gy vs) 5
noncomputable def Gz(vs:List aa):Ext:=fq (cR Tryz.prog []) [(58,g18 vs)]
theorem GA(vs:List aa)(hn:vs.length<1000000):ExtOk Tryz.prog (Gz vs):=bD (aS .nil) (.cons (HV vs hn) .nil)
noncomputable def Ly(vs:List aa):aG:=aCall Tryz.prog (Gz vs) 5
noncomputable def OZ:aG:=aCall Tryz.prog (cR Tryz.prog []) 60
theorem G7:a8 Tryz.prog OZ:=aP (aS .nil) follows 60
noncomputable def tP:Code:=(Tryz.f89.body).getD .skip
theorem KP:Tryz.f89.body=some tP:=by kernel_rfl
theorem ntmps41:Tryz.f89.ntmps=28:=by kernel_rfl
theorem SL:codeSafe Tryz.prog 28 tP=true:=by kernel_rfl
theorem WE(v u:Value)(O:List ae)(g:Nat→Value):retVal Tryz.prog Tryz.f89 (av 28 g [(4,v),(5,u)] O)=some (.tuple #[v,u]):=by kernel_rfl
def Jq(o:ae):Hp:=heapOf [o,.dead] aE
def BK(o:ae):Hp:=heapOf [.dead] (Jq o)
def Mg(o:ae):Hp:=heapOf [.dead] (BK o)
def Jr(vs:List aa)(o:ae):Hp:=heapOf [ab vs,.dead] (Mg o)
section
variable (vs us:List aa) (o:ae) (n n1 c p:Nat) (id:Int)
abbrev Sm:St:=⟨tmsOf [af 0 n c,.int .i64 id] 0 .leaf,heapOf [o,.dead] aE,[]⟩
theorem U7:(execE Tryz.prog (Ly vs) [] [(10,iN 1,[.dead])] [] 40 tP (Sm o n c id)).map (fun z=>(look2 0 [] [4,5] (z.1,z.2.1),z.2.2)) =
 some ((.ret,[],[(4,ax),(5,iN 1)],true),[],[(Ly vs 58 [af 0 n c] (Jq o),(iN 1,BK o))],[]):=by kernel_rfl
theorem U8:(execE Tryz.prog (zc vs) [] [(10,iN 0,[.dead]),(17,.tuple #[iN p,.bool false],[.dead])] [] 40 tP (Sm o n c id)).map (fun z=>(look2 0 [] [4,5] (z.1,z.2.1),z.2.2)) =
 some ((.ret,[],[(4,ax),(5,iN 7)],true),[],[(zc vs 58 [af 0 n c] (Jq o),(iN 0,BK o)),(zc vs 139 [af 0 n c,.int .i64 id] (BK o),(.tuple #[iN p,.bool false],Mg o))],[]):=by kernel_rfl
theorem U9:(execE Tryz.prog (zc vs) [(26,iN (p+1))] [(10,iN 0,[.dead]),(17,.tuple #[iN p,.bool true],[.dead]),(23,aW 4 n,[ab vs,.dead])] [(27,bz 6 0 n1 23,[.put 4 .dead,.push (ab us),.push .dead])] 40 tP (Sm o n c id)).map (fun z=>(look2 1 [6] [4,5] (z.1,z.2.1),z.2.2)) =
 some ((.ret,[ab us],[(4,af 0 n1 23),(5,iN 0)],true),[(some (.int .i64 (wrapF .i64 (Int.ofNat p+1))),iN (p+1))],
  [(zc vs 58 [af 0 n c] (Jq o),(iN 0,BK o)),(zc vs 139 [af 0 n c,.int .i64 id] (BK o),(.tuple #[iN p,.bool true],Mg o)),(zc vs 79 [af 0 n c] (Mg o),(aW 4 n,Jr vs o)),
   (zc vs 141 [aW 4 n,iN p,iN (p+1)] (Jr vs o),(bz 6 0 n1 23,heapOf [ab us,.dead] (killL [4] (Jr vs o))))],[]):=by kernel_rfl
theorem U':(execE Tryz.prog OZ [] [] [] 40 tP ⟨tmsOf [ax,.int .i64 id] 0 .leaf,heapOf [.dead] aE,[]⟩).map (fun z=>(look2 0 [] [4,5] (z.1,z.2.1),z.2.2)) =
 some ((.ret,[],[(4,ax),(5,iN 7)],true),[],[],[]):=by kernel_rfl
end
def eB(vs:List aa)(id:Int):List aa:=vs.eraseIdx (pos vs id)
theorem sm{vs:List aa}{id:Int}(h:fnd vs id=true):(eB vs id).length=vs.length-1:=by
 obtain ⟨x,hx,-⟩:=qv h;unfold eB;rw [List.length_eraseIdx,if_pos (List.getElem?_eq_some_iff.1 hx).1]
theorem DQ{hp:Hp}{b n p:Nat}{vs:List aa}(hb:hp.get b=some (ab vs))(hn:n=vs.length)(hp':p<n)(hl:n<1000000) :
  AZ [aW b n,iN p,iN (p+1)] hp=some (bz hp.sz 0 (n-1) 23,heapOf ([ab (vs.eraseIdx p)] ++ [.dead]) (killL [b] hp)):=by
 subst hn;unfold ab at hb;have hcond:(Nat.beq 22 22&&Nat.beq 78 78&&Nat.beq (aI vs).length (vs.length*7)&&Nat.beq (p+1) (p+1)&&Nat.blt p vs.length&&Nat.blt vs.length 1000000&&(aI vs).all inert&&(aI vs).all isOne)=true:=by
  rw [bV,dC,rH];simp only [Nat.beq_refl,Bool.true_and,Bool.and_true];rw [show Nat.blt p vs.length=true by simpa [Nat.blt_eq] using hp',show Nat.blt vs.length 1000000=true by simpa [Nat.blt_eq] using hl]
  rfl
 unfold AZ aW iN;simp only [af,hb,hcond];congr 3
 unfold ab;rw [s7 (by omega),s6 (by omega),← e9,List.eraseIdx_eq_take_drop_succ]
section
variable {vs:List aa} {s:Value} {hp:Hp}
theorem G6(h:TR vs s hp):Ly vs 58 [s] hp=some (mc (aF vs),heapOf [.dead] hp):=by
 show aCall Tryz.prog (Gz vs) 5 58 _ _=_
 rw [aCall];have hE:Gz vs 58=some fun _ args h=>g18 vs args h:=rfl
 rw [hE];exact tS (.inr h)
theorem Lu(h:TR vs s hp):zc vs 58 [s] hp=some (mc (aF vs),heapOf [.dead] hp):=by
 show aCall Tryz.prog (Gy vs) 5 58 _ _=_
 rw [aCall];have hE:Gy vs 58=some fun _ args h=>g18 vs args h:=rfl
 rw [hE];exact tS (.inr h)
theorem Lv{b c:Nat}{o:ae}(hb:hp.get b=some o)(hi:aD o=true)(hr:vs = []∨∃ ty ro,o = .cells ty (aI vs) ro):zc vs 79 [af b vs.length c] hp=some (aW hp.sz vs.length,heapOf [ab vs,.dead] hp):=by
 show aCall Tryz.prog (Gy vs) 5 79 _ _=_
 rw [aCall];have hE:Gy vs 79=some fun _ args h=>vJ vs args h:=rfl
 rw [hE];exact pK hb hi hr
open Classical in
theorem Lw{id:Int}(h:TR vs s hp):zc vs 139 [s,.int .i64 id] hp=some (.tuple #[iN (pos vs id),.bool (fnd vs id)],heapOf [.dead] hp):=by
 show aCall Tryz.prog (Gy vs) 5 139 _ _=_
 rw [aCall];have hE:Gy vs 139=some fun _ args h=>g62 vs args h:=rfl
 rw [hE];show (if TR vs s hp then _ else _)=_
 rw [if_pos h];rfl
theorem Lx(args:List Value):zc vs 141 args hp=AZ args hp:=by
 show aCall Tryz.prog (Gy vs) 5 141 _ _=_
 rw [aCall];rfl
end
def BX(vs:List aa)(id:Int)(e:Exit)(st:St):Prop :=
 e = .ret∧((aF vs&&fnd vs id)=true∧(∃ g,st=av 28 g [(4,af 0 (eB vs id).length 23),(5,iN 0)] [ab (eB vs id)])∨(aF vs&&fnd vs id)=false∧∃ g,st=av 28 g [(4,ax),(5,iN (bif aF vs then 7 else 1))] [])
theorem Hu(o:ae)(ho:aD o=true)(vs:List aa)(hn:vs.length<1000000)(hrow:vs = []∨∃ ty ro,o = .cells ty (aI vs) ro)(c:Nat)(id:Int)(W:bj) :
  aj Tryz.prog 28 W tP (Sm o vs.length c id) (BX vs id):=by
 have g0:(Jq o).get 0=some o:=by unfold Jq; rw [al]; rfl
 have k0:(Jq o).ok:=bE _ _ iO
 have k1:(BK o).ok:=bE _ _ k0
 have k2:(Mg o).ok:=bE _ _ k1
 have hT0:TR vs (af 0 vs.length c) (Jq o):=⟨0,c,o,rfl,g0,ho,hrow⟩
 have hT1:TR vs (af 0 vs.length c) (BK o):=hT0.ext k0 _
 have hT2:(Mg o).get 0=some o:=zu k1 (zu k0 g0)
 cases hr:aF vs with
 | false =>
   have k:=G6 hT0
   rw [hr] at k;exact aj.aK (aP (GA vs hn) follows 5) follows 0 _ _ _ _ (U7 vs o vs.length c id) Met.nil (ay.cons k ay.nil) az.nil SL rfl rfl (dE _) fun g=>⟨rfl,.inr ⟨by rw [hr]; rfl,g,by rw [hr]; rfl⟩⟩
 | true =>
   have hc:a8 Tryz.prog (zc vs):=aP (J3 vs hn (qU vs hr)) follows 5
   have a1:=Lu hT0
   rw [hr] at a1;have a2:=Lw (id:=id) hT1
   cases hf:fnd vs id with
   | false =>
     rw [hf] at a2;exact aj.aK hc follows 0 _ _ _ _ (U8 vs o vs.length c (pos vs id) id) Met.nil (ay.cons a1 (ay.cons a2 ay.nil)) az.nil SL rfl rfl (dE _) fun g=>⟨rfl,.inr ⟨by rw [hr,hf]; rfl,g,by rw [hr]; rfl⟩⟩
   | true =>
     rw [hf] at a2;obtain ⟨x,hx,-⟩:=qv hf;have hlt:pos vs id<vs.length:=(List.getElem?_eq_some_iff.1 hx).1
     have a3:=Lv (vs:=vs) (c:=c) hT2 ho hrow
     have z2:(Mg o).sz=4:=rfl
     have z3:(Jr vs o).sz=6:=rfl
     have g4:(Jr vs o).get 4=some (ab vs):=by unfold Jr; rw [heapOf_get,z2,if_neg (by omega)]; rfl
     have a4:zc vs 141 [aW 4 vs.length,iN (pos vs id),iN (pos vs id+1)] (Jr vs o)=some (bz 6 0 (vs.length-1) 23,heapOf [ab (eB vs id),.dead] (killL [4] (Jr vs o))):=by
       rw [Lx];exact DQ g4 rfl hlt hn
     refine aj.aK hc follows 1 _ _ _ _ (U9 vs (eB vs id) o vs.length (vs.length-1) c (pos vs id) id) (Met.cons (bA (by omega)) Met.nil) (ay.cons a1 (ay.cons a2 (ay.cons a3 (ay.cons a4 ay.nil)))) az.nil SL rfl rfl (bq _ []) fun g=>⟨rfl,.inl ⟨by rw [hr,hf]; rfl,g,?_⟩⟩
     rw [sm hf]
theorem drop_nil(id:Int)(W:bj):aj Tryz.prog 28 W tP ⟨tmsOf [ax,.int .i64 id] 0 .leaf,heapOf [.dead] aE,[]⟩ (BX [] id) :=
 aj.aK G7 follows 0 _ _ _ _ (U' id) Met.nil ay.nil az.nil SL rfl rfl (dE _) fun g=>⟨rfl,.inr ⟨rfl,g,rfl⟩⟩
open Classical in
noncomputable def g41(vs:List aa):aB:=fun args hp=>match args with
 | [s,.int .i64 id]=>if TN vs s hp then (match aF vs&&fnd vs id with
   | true=>some (.tuple #[af hp.sz (eB vs id).length 23,iN 0],heapOf ([ab (eB vs id)] ++ [.dead]) hp)
   | false=>some (.tuple #[ax,iN (bif aF vs then 7 else 1)],heapOf ([] ++ [.dead]) hp)) else none
 | _=>none
theorem Tx(vs:List aa)(hn:vs.length<1000000):aq Tryz.prog 89 (g41 vs):=dL follows Tryz.func89 KP (by kernel_rfl) fun args hp v hp' h hk=>by
 unfold g41 at h;rw [ntmps41];split at h
 case h_2=>cases h
 rename_i s id;split at h
 case isFalse=>cases h
 rename_i hT;have okB:∀ {st:St} (us:List aa),st.hp.get 0=some (ab us)→∀ b∈[0],∃ o,st.hp.get b=some o∧cZ o=true∧nT o=true:=fun us hg b' hb'=>by
  have:b'=0:=by simpa using hb'
  subst this;exact ⟨_,hg,e8 (aw _),rfl⟩
 have run:∃ (K0:List Nat),nodupB K0=true∧(∀ b∈K0,∃ o,hp.get b=some o∧bP o=true)∧([s,.int .i64 id]).all gz=true∧∀ W,aj Tryz.prog 28 W tP ⟨tmsOf ([s,.int .i64 id].map (sh3 K0 0)) 0 .leaf,ew K0 hp,[]⟩ (BX vs id):=by
  rcases hT with ⟨rfl,rfl⟩ | ⟨b,c,ob,rfl,hb,hi,hr⟩
  ·refine ⟨[],rfl,(fun b hb=>by cases hb),rfl,fun W=>?_⟩
   have e1 : [ax,.int .i64 id].map (sh3 [] 0) = [ax,.int .i64 id]:=by simp [sh3,sh2,sh1,ax]
   rw [e1];exact drop_nil id W
  ·refine ⟨[b],rfl,fun b' hb'=>?_,rfl,fun W=>?_⟩
   ·have:b'=b:=by simpa using hb'
    subst this;exact ⟨ob,hb,aY hi⟩
   ·have e1 : [af b vs.length c,.int .i64 id].map (sh3 [b] 0) = [af 0 vs.length c,.int .i64 id]:=by simp [sh3,sh2,sh1,j9,idxOf,af]
    rw [e1,ij hb hi];exact Hu (roBlk ob) (bT hi) vs hn (eC hr) c id W
 obtain ⟨K0,n0,hst,hall,hrun⟩:=run;split at h
 ·rename_i hro
  cases h;refine ⟨K0,[0],[ab (eB vs id)],rfl,rfl,n0,rfl,hst,hall,(by simp),fun W=>aj.mono (hrun W) fun e st q=>?_⟩
  obtain ⟨rfl,⟨-,g,rfl⟩ | ⟨h2,-⟩⟩:=q
  ·have hg:=uw (N:=28) (us:=eB vs id) (v:=ax) (t:=0) (L:=[(4,af 0 (eB vs id).length 23),(5,iN 0)]) (g:=g)
   refine ⟨.inr rfl,rfl,_,WE _ _ _ g,rfl,okB _ hg,?_,ui hg⟩
   simp [sh3,sh2,sh1,j9,idxOf,af,iN]
  ·rw [h2] at hro; cases hro
 ·rename_i hro
  cases h;refine ⟨K0,[],[],rfl,rfl,n0,rfl,hst,hall,(by simp),fun W=>aj.mono (hrun W) fun e st q=>?_⟩
  obtain ⟨rfl,⟨h2,-⟩ | ⟨-,g,rfl⟩⟩:=q
  ·rw [h2] at hro; cases hro
  ·exact ⟨.inr rfl,rfl,_,WE _ _ _ g,rfl,(fun b hb=>by cases hb),by simp [sh3,sh2,sh1,ax,iN],rfl⟩
noncomputable def Gj:aB:=atRow (fun _=>True) g41
theorem Px:aq Tryz.prog 89 Gj:=fw fun vs hn _=>Tx vs hn
open Classical in
theorem xw{vs:List aa}{s:Value}{hp:Hp}{id:Int}(h:TN vs s hp)(hn:vs.length<1000000):Gj [s,.int .i64 id] hp=match aF vs&&fnd vs id with
  | true=>some (.tuple #[af hp.sz (eB vs id).length 23,iN 0],heapOf [ab (eB vs id),.dead] hp)
  | false=>some (.tuple #[ax,iN (bif aF vs then 7 else 1)],heapOf [.dead] hp):=by
 unfold Gj;rw [iU h hn trivial];show (if TN vs s hp then _ else _)=_
 rw [if_pos h];cases (aF vs&&fnd vs id) <;> rfl
def SF(o:ae)(y:aa):Hp:=heapOf [o,.dead,.cells 23 (N5 y) false] aE
section
variable (xs ds:List aa) (o:ae) (s:Value) (n:Nat) (y:aa) (oth:Int)
noncomputable def vR(xs:List aa)(o:ae)(y:aa):Hp:=heapOf (WK xs) (SF o y)
noncomputable def uR(ds xs:List aa)(o:ae)(y:aa):Hp:=heapOf (WK ds) (vR xs o y)
noncomputable def Ww(x:aa)(hp:Hp):Hp:=heapOf [.dead,hB x] hp
end
theorem vG{vs:List aa}{id:Int}{x:aa}(h:Up vs):aH vs id=some x↔x∈vs∧x.id=id:=by
 constructor
 ·intro hf
  exact ⟨List.mem_of_find?_eq_some hf,by have:=List.find?_some hf; simpa [rY] using this⟩
 ·rintro ⟨hm,hid⟩
  obtain ⟨i,hi⟩:=List.mem_iff_getElem?.1 hm;refine tR hi (by simp [rY,hid]) fun j z hj hz=>?_
  have:=qV.2 h j i z x hj hz hi
  simp [rY]; omega
section
variable {vs:List aa} {s:Value} {hp:Hp}
end
end Go.Proofs.YtgeoommlmddgpaaGreat.LtA
namespace Go.Proofs.YtgeoommlmddgpaaGreat.Sort
section
variable {α : Type} (lt : α→α→Bool)
def dx(S:List α)(x : α):List α:=(S.reverse.dropWhile (lt x)).reverse++x::(S.reverse.takeWhile (lt x)).reverse
def dy(L R:List α):List α:=R.foldl (dx lt) L
def aN(S:List α):List α:=dy lt [] S
def mG(S:List α):Prop:=S.Pairwise fun u v=>lt v u=false
structure BG (K : α→Prop):Prop where
 asym:∀ x y,K x→K y→lt x y=true→lt y x=false
 ntr:∀ x y z,K x→K y→K z→lt x y=false→lt y z=false→lt x z=false
end
section
variable {α : Type} {lt : α→α→Bool} {K : α→Prop}
theorem BG.trans(h:BG lt K){x y z : α}(hx:K x)(hy:K y)(hz:K z)(h1:lt x y=true)(h2:lt y z=true):lt x z=true:=by
 cases e:lt x z with
 | true=>rfl
 | false=>rw [h.ntr x z y hx hz hy e (h.asym y z hy hz h2)] at h1; cases h1
theorem BG.TV(h:BG lt K){x : α}(hx:K x):lt x x=false:=by
 cases e:lt x x with
 | false=>rfl
 | true=>rw [h.asym x x hx hx e] at e; cases e
theorem gm{S P Q:List α}{x : α}(hS:S=P++Q)(hQ:∀ q∈Q,lt x q=true)(hP:∀ p,P.getLast? = some p→lt x p=false):dx lt S x=P++x::Q:=by
 subst hS;have h1:∀ a∈Q.reverse,lt x a=true:=fun a ha=>hQ a (List.mem_reverse.1 ha)
 have h2:P.reverse.takeWhile (lt x) = []∧P.reverse.dropWhile (lt x)=P.reverse:=by
  cases e:P.reverse with
  | nil=>exact ⟨rfl,rfl⟩
  | cons p R =>
    have:P.getLast? = some p:=by rw [← List.reverse_reverse P,List.getLast?_reverse,e]; rfl
    have:=hP p this
    exact ⟨by rw [List.takeWhile_cons,if_neg (by rw [this]; simp)],by rw [List.dropWhile_cons,if_neg (by rw [this]; simp)]⟩
 unfold dx;rw [List.reverse_append,List.takeWhile_append_of_pos h1,List.dropWhile_append_of_pos h1,h2.1,h2.2];simp
theorem zy(lt : α→α→Bool)(S:List α)(x : α):∃ P Q,S=P++Q∧(∀ q∈Q,lt x q=true)∧(∀ p,P.getLast? = some p→lt x p=false):=by
 refine ⟨(S.reverse.dropWhile (lt x)).reverse,(S.reverse.takeWhile (lt x)).reverse,?_,fun q hq=>?_,fun p hp=>?_⟩
 ·rw [← List.reverse_append,List.takeWhile_append_dropWhile,List.reverse_reverse]
 ·exact List.all_eq_true.1 (List.all_takeWhile (p:=lt x) (l:=S.reverse)) q (List.mem_reverse.1 hq)
 ·rw [List.getLast?_reverse] at hp
  have:=List.head?_dropWhile_not (lt x) S.reverse
  rw [hp] at this;simpa using this
theorem mj(lt : α→α→Bool)(S:List α)(x : α):∃ P Q,S=P++Q∧dx lt S x=P++x::Q∧(∀ q∈Q,lt x q=true)∧(∀ p,P.getLast? = some p→lt x p=false):=by
 obtain ⟨P,Q,h1,h2,h3⟩:=zy lt S x;exact ⟨P,Q,h1,gm h1 h2 h3,h2,h3⟩
theorem qG{S:List α}{x z : α}:z∈dx lt S x↔z=x∨z∈S:=by
 obtain ⟨P,Q,h1,h2,_⟩:=mj lt S x;rw [h2,h1];simp only [List.mem_append,List.mem_cons];constructor
 ·rintro (h | h | h)
  ·exact .inr (.inl h)
  ·exact .inl h
  ·exact .inr (.inr h)
 ·rintro (h | h | h)
  ·exact .inr (.inl h)
  ·exact .inl h
  ·exact .inr (.inr h)
theorem Ek{S:List α}{x : α}:(dx lt S x).length=S.length+1:=by
 obtain ⟨P,Q,h1,h2,_⟩:=mj lt S x;rw [h2,h1]; simp; omega
theorem uc{R:List α}:∀ {L:List α} {z : α},z∈dy lt L R↔z∈L∨z∈R:=by
 induction R with
 | nil=>intro L z; simp [dy]
 | cons r R ih =>
   intro L z;have e:dy lt L (r::R)=dy lt (dx lt L r) R:=rfl
   rw [e,ih,qG,List.mem_cons];constructor
   ·rintro ((h | h) | h)
    ·exact .inr (.inl h)
    ·exact .inl h
    ·exact .inr (.inr h)
   ·rintro (h | h | h)
    ·exact .inl (.inr h)
    ·exact .inl (.inl h)
    ·exact .inr h
theorem zM{R:List α}:∀ {L:List α},(dy lt L R).length=L.length+R.length:=by
 induction R with
 | nil=>intro L; rfl
 | cons r R ih =>
   intro L;have e:dy lt L (r::R)=dy lt (dx lt L r) R:=rfl
   rw [e,ih,Ek]; simp; omega
theorem k9{S:List α}{z : α}:z∈aN lt S↔z∈S:=by unfold aN; rw [uc]; simp
theorem bK{S:List α}:(aN lt S).length=S.length:=by unfold aN; rw [zM]; simp
theorem eS{L R1 R2:List α}:dy lt L (R1++R2)=dy lt (dy lt L R1) R2:=by unfold dy; rw [List.foldl_append]
theorem A4{M N:List α}{y : α}(h:∀ x∈N,lt y x=true):dx lt (M++N) y=dx lt M y++N:=by
 obtain ⟨P,Q,h1,h2,h3,h4⟩:=mj lt M y;rw [h2];rw [gm (P:=P) (Q:=Q++N) (by rw [h1,List.append_assoc]) (fun q hq=>by
  rcases List.mem_append.1 hq with hq | hq
  ·exact h3 q hq
  ·exact h q hq) h4]
 simp
theorem xX{M N:List α}{y : α}(h:∀ x∈M,lt y x=false):dx lt (M++N) y=M++dx lt N y:=by
 obtain ⟨P,Q,h1,h2,h3,h4⟩:=mj lt N y;rw [h2];rw [gm (P:=M++P) (Q:=Q) (by rw [h1,List.append_assoc]) h3 (fun p hp=>by
  cases P with
  | nil=>rw [List.append_nil] at hp; exact h p (List.mem_of_getLast? hp)
  | cons a P =>
    rw [List.getLast?_append] at hp
    cases e:(a::P).getLast? with
    | none=>simp at e
    | some b =>
      rw [e] at hp;simp at hp;subst hp;exact h4 b e)]
 simp
theorem wx{N:List α}:∀ {R M:List α},(∀ y∈R,∀ x∈N,lt y x=true)→dy lt (M++N) R=dy lt M R++N
 | [],M,_=>rfl
 | r::R,M,h=>by
   have e:dy lt (M++N) (r::R)=dy lt (dx lt (M++N) r) R:=rfl
   rw [e,A4 (h r (.head _)),wx fun y hy=>h y (.tail _ hy)]
   rfl
theorem ow{M:List α}:∀ {R N:List α},(∀ y∈R,∀ x∈M,lt y x=false)→dy lt (M++N) R=M++dy lt N R
 | [],N,_=>rfl
 | r::R,N,h=>by
   have e:dy lt (M++N) (r::R)=dy lt (dx lt (M++N) r) R:=rfl
   rw [e,xX (h r (.head _)),ow fun y hy=>h y (.tail _ hy)]
   rfl
theorem sD{L1 L2 R1 R2:List α}(h1:∀ y∈R1,∀ x∈L2,lt y x=true)(h2:∀ y∈R2,∀ x∈L1,lt y x=false)(h3:∀ y∈R2,∀ x∈R1,lt y x=false):dy lt (L1++L2) (R1++R2)=dy lt L1 R1++dy lt L2 R2:=by
 rw [eS,wx h1,ow fun y hy x hx=>by
  rcases uc.1 hx with hx | hx
  ·exact h2 y hy x hx
  ·exact h3 y hy x hx]
theorem gn{R:List α}(h:mG lt R):dy lt [] R=R:=by
 have key:∀ (R M:List α),mG lt (M++R)→dy lt M R=M++R:=by
  intro R;induction R with
  | nil=>intro M _; simp [dy]
  | cons r R ih =>
    intro M h;have e:dy lt M (r::R)=dy lt (dx lt M r) R:=rfl
    have hp:=List.pairwise_append.1 h
    rw [e,gm (P:=M) (Q:=[]) (by simp) (fun q hq=>by cases hq) (fun p hp'=>hp.2.2 p (List.mem_of_getLast? hp') r (.head _))]
    have h':mG lt (M ++ [r]++R):=by rw [List.append_assoc]; exact h
    rw [ih (M ++ [r]) h']; simp
 have:=key R [] (by simpa using h)
 simpa using this
theorem q8(sw:BG lt K){S:List α}{x : α}(hS:mG lt S)(hK:∀ z∈S,K z)(hx:K x):mG lt (dx lt S x):=by
 obtain ⟨P,Q,h1,h2,h3,h4⟩:=mj lt S x;subst h1;rw [h2];obtain ⟨a,b,c⟩:=List.pairwise_append.1 hS;have hPx:∀ p∈P,lt x p=false:=by
  intro p hp;cases hl:P.getLast? with
  | none=>rw [List.getLast?_eq_none_iff] at hl; subst hl; cases hp
  | some p0 =>
    have h0:=h4 p0 hl
    obtain ⟨P',rfl⟩:∃ P',P=P' ++ [p0]:=by
      have:=List.getLast?_eq_some_iff.1 hl
      exact this
    rcases List.mem_append.1 hp with hp | hp
    ·have hs:=(List.pairwise_append.1 a).2.2 p hp p0 (by simp)
     exact sw.ntr x p0 p hx (hK _ (by simp)) (hK _ (by simp [hp])) h0 hs
    ·have:p=p0:=by simpa using hp
     subst this; exact h0
 refine List.pairwise_append.2 ⟨a,List.pairwise_cons.2 ⟨fun q hq=>sw.asym x q hx (hK _ (by simp [hq])) (h3 q hq),b⟩,fun p hp q hq=>?_⟩
 rcases List.mem_cons.1 hq with rfl | hq
 ·exact hPx p hp
 ·exact c p hp q hq
theorem uJ(sw:BG lt K):∀ {R L:List α},mG lt L→(∀ z∈L,K z)→(∀ z∈R,K z)→mG lt (dy lt L R)
 | [],L,h,_,_=>h
 | r :: R,L,h,h1,h2=>uJ sw (R:=R) (L:=dx lt L r) (q8 sw h h1 (h2 r (.head _))) (fun z hz=>by
     rcases qG.1 hz with rfl | hz
     ·exact h2 _ (.head _)
     ·exact h1 z hz) (fun z hz=>h2 z (.tail _ hz))
theorem sV(sw:BG lt K){S:List α}(h:∀ z∈S,K z):mG lt (aN lt S):=uJ sw (by unfold mG; simp) (by simp) h
theorem D2(sw:BG lt K){N:List α}{x q : α}(hN:mG lt N)(hK:∀ z∈N,K z)(hx:K x)(hq:K q)(h:lt x q=true):dx lt (dx lt N x) q=dx lt (dx lt N q) x:=by
 obtain ⟨P,Q,h1,h2,h3,h4⟩:=mj lt N x;obtain ⟨Q1,Q2,k1,k3,k4⟩:=zy lt Q q;subst h1 k1;obtain ⟨a,b,c⟩:=List.pairwise_append.1 hN;have hPx:∀ p∈P,lt x p=false:=by
  have:=q8 sw hN hK hx
  rw [h2] at this;intro p hp;exact (List.pairwise_append.1 this).2.2 p hp x (.head _)
 have hPq:∀ p∈P,lt q p=false:=by
  intro p hp;cases e:lt q p with
  | false=>rfl
  | true=>rw [← hPx p hp]; exact (sw.trans hx hq (hK p (by simp [hp])) h e).symm
 have e1:dx lt (P++(Q1++Q2)) q=P++Q1++q::Q2:=gm (by simp) k3 (fun p hp=>by
  cases Q1 with
  | nil=>rw [List.append_nil] at hp; exact hPq p (List.mem_of_getLast? hp)
  | cons z Q1 =>
    rw [List.getLast?_append] at hp
    cases e:(z::Q1).getLast? with
    | none=>simp at e
    | some z' =>
      rw [e] at hp;simp at hp;subst hp;exact k4 z' e)
 have e2:dx lt (P++x::(Q1++Q2)) q=P++x::Q1++q::Q2:=gm (by simp) k3 (fun p hp=>by
  rw [List.getLast?_append] at hp
  cases Q1 with
  | nil =>
    simp at hp;subst hp;exact sw.asym _ q hx hq h
  | cons z Q1 =>
    have e3:(x::z::Q1).getLast? = (z::Q1).getLast?:=by simp [List.getLast?_cons]
    rw [e3] at hp;cases e:(z::Q1).getLast? with
    | none=>simp at e
    | some z' =>
      rw [e] at hp;simp at hp;subst hp;exact k4 z' e)
 have e3:dx lt (P++Q1++q::Q2) x=P++x::(Q1++q::Q2):=gm (by simp) (fun z hz=>by
  rcases List.mem_append.1 hz with hz | hz
  ·exact h3 z (by simp [hz])
  ·rcases List.mem_cons.1 hz with rfl | hz
   ·exact h
   ·exact h3 z (by simp [hz])) h4
 rw [h2,e2,e1,e3];simp
theorem wv(sw:BG lt K){x : α}(hx:K x):∀ {Q N:List α},mG lt N→(∀ z∈N,K z)→(∀ q∈Q,K q)→(∀ q∈Q,lt x q=true)→dy lt (dx lt N x) Q=dx lt (dy lt N Q) x
 | [],N,_,_,_,_=>rfl
 | q::Q,N,h,h1,h2,h3=>by
   have e:dy lt (dx lt N x) (q::Q)=dy lt (dx lt (dx lt N x) q) Q:=rfl
   have e2:dy lt N (q::Q)=dy lt (dx lt N q) Q:=rfl
   rw [e,e2,D2 sw h h1 hx (h2 q (.head _)) (h3 q (.head _))];exact wv sw hx (q8 sw h h1 (h2 q (.head _))) (fun z hz=>by
     rcases qG.1 hz with rfl | hz
     ·exact h2 _ (.head _)
     ·exact h1 z hz) (fun z hz=>h2 z (.tail _ hz)) (fun z hz=>h3 z (.tail _ hz))
theorem A9(sw:BG lt K){M:List α}(hM:mG lt M)(hKM:∀ z∈M,K z){B:List α}(hB:∀ z∈B,K z):dy lt M (aN lt B)=dy lt M B:=by
 have key:∀ C:List α,(∀ z∈C,K z)→dy lt M (aN lt C.reverse)=dy lt M C.reverse:=by
  intro C;induction C with
  | nil=>intro _; rfl
  | cons x C ih =>
    intro h;have ih':=ih fun z hz=>h z (.tail _ hz)
    have e:aN lt (x::C).reverse=dx lt (aN lt C.reverse) x:=by
      rw [List.reverse_cons];unfold aN;rw [eS]; rfl
    obtain ⟨P,Q,h1,h2,h3,_⟩:=mj lt (aN lt C.reverse) x;have hKs:∀ z∈aN lt C.reverse,K z:=fun z hz=>h z (.tail _ (List.mem_reverse.1 (k9.1 hz)))
    rw [e,h2,List.reverse_cons,eS,eS,← ih'];have e4:dy lt (dy lt M P) (x::Q)=dy lt (dx lt (dy lt M P) x) Q:=rfl
    have e5:dy lt (dy lt M (aN lt C.reverse)) [x]=dx lt (dy lt M (aN lt C.reverse)) x:=rfl
    have hKP:∀ z∈P,K z:=fun z hz=>hKs z (by rw [h1]; simp [hz])
    have hKQ:∀ z∈Q,K z:=fun z hz=>hKs z (by rw [h1]; simp [hz])
    rw [e4,e5,wv sw (h x (.head _)) (uJ sw hM hKM hKP) (fun z hz=>by
      rcases uc.1 hz with hz | hz
      ·exact hKM z hz
      ·exact hKP z hz) hKQ h3,h1,eS]
 have:=key B.reverse fun z hz=>hB z (List.mem_reverse.1 hz)
 rwa [List.reverse_reverse] at this
theorem yd(sw:BG lt K){A B:List α}(hA:∀ z∈A,K z)(hB:∀ z∈B,K z):dy lt (aN lt A) (aN lt B)=aN lt (A++B):=by
 rw [A9 sw (sV sw hA) (fun z hz=>hA z (k9.1 hz)) hB]
 unfold aN;rw [eS]
theorem yy{S:List α}{x : α}:aN lt (S ++ [x])=dx lt (aN lt S) x:=by unfold aN; rw [eS]; rfl
end
end Go.Proofs.YtgeoommlmddgpaaGreat.Sort
namespace Go.Proofs.YtgeoommlmddgpaaGreat.LtA
open Go Go.Proofs Go.Proofs.YtgeoommlmddgpaaGreat.AI Go.RowKit
def cH(us:List aa)(s:Value)(hp:Hp):Prop:=∃ b c,s=af b us.length c∧hp.get b=some (ab us)
theorem cH.uniq{us vs:List aa}{s:Value}{hp:Hp}(h1:cH us s hp)(h2:cH vs s hp):us=vs:=by
 obtain ⟨b,c,rfl,hb⟩:=h1;obtain ⟨b',c',e,hb'⟩:=h2;simp only [af,Value.slice.injEq,Option.some.injEq,Addr.mk.injEq,and_true] at e;obtain ⟨rfl,-,-⟩:=e;rw [hb] at hb';simp only [ab,Option.some.injEq,ae.cells.injEq,true_and,and_true] at hb';exact rG hb'
open Classical in
noncomputable def atW(k:List aa→aB):aB:=fun args hp=>match args with
 | s::_=>if h:∃ us,cH us s hp∧us.length<1000000 then k h.choose args hp else none
 | _=>none
theorem fO{f:FuncId}{k:List aa→aB}(h:∀ us,us.length<1000000→aq Tryz.prog f (k us)):aq Tryz.prog f (atW k):=by
 intro args hp v hp' he hk;unfold atW at he;split at he
 case h_2=>cases he
 split at he
 ·rename_i hx
  exact h _ hx.choose_spec.2 _ _ _ _ he hk
 ·cases he
theorem l9{k:List aa→aB}{us:List aa}{s:Value}{r:List Value}{hp:Hp}(h:cH us s hp)(hn:us.length<1000000):atW k (s::r) hp=k us (s::r) hp:=by
 unfold atW;have hx:∃ us,cH us s hp∧us.length<1000000:=⟨us,h,hn⟩
 simp only;rw [dif_pos hx];rw [hx.choose_spec.1.uniq h]
def hW(us:List aa):Hp:=heapOf ([ab us] ++ [.dead]) aE
theorem dw(us:List aa):(hW us).get 0=some (ab us):=by unfold hW; rw [al]; rfl
theorem fl(us:List aa):dU (hW us) 0 us:=.of (dw us)
def vU:Value:=.tuple #[]
noncomputable def yz(h:Hp)(i:Nat)(v:aa)(us':List aa):js:=((aStore Tryz.prog h.get 78 (pb 0 (i*7)) (.agg ⟨vc v⟩)).map fun es=>(undef,es),(undef,[.put 0 (ab us')]))
theorem jP{h:Hp}{us:List aa}{i:Nat}{v:aa}(hg:h.get 0=some (ab us))(hi:i<us.length):(yz h i v (us.set i v)).1=some (yz h i v (us.set i v)).2:=by
 obtain ⟨x,hx⟩:∃ x,us[i]? = some x:=⟨_,List.getElem?_eq_getElem hi⟩
 have hcell:cellsL (.agg ⟨vc v⟩)=vc v:=rfl
 have hput:=pX (k:=0) (y:=v) (ns:=vc v) hx (by simp [vc]) (fun j hj=>by
  rw [if_pos ⟨Nat.zero_le _,by show j<0+7; omega⟩,Nat.sub_zero])
 rw [Nat.add_zero] at hput;unfold ab at hg;unfold yz pb;simp only [aStore,hg,kI,hcell];rw [if_pos]
 ·rw [hput]; rfl
 ·rw [Bool.and_eq_true,Bool.and_eq_true]
  refine ⟨⟨rfl,rfl⟩,decide_eq_true ?_⟩
  rw [bV]; omega
theorem nu{h:Hp}{us:List aa}:(h.put 0 (ab us)).get 0=some (ab us):=by rw [Hp.dv,if_pos rfl]
noncomputable def yY(a b:Nat):db:=(some (.int .i64 (wrapF .i64 (Int.ofNat a+Int.ofNat b))),iN (a+b))
theorem gI{a b:Nat}(h:a+b<3000000):(yY a b).1=some (yY a b).2:=xF h
noncomputable def rL(a b:Nat):db:=(some (.int .i64 (wrapF .i64 (Int.ofNat a-Int.ofNat b))),iN (a-b))
theorem dB{a b:Nat}(h:a<3000000)(hb:b≤a):(rL a b).1=some (rL a b).2:=by
 have e:Int.ofNat a-Int.ofNat b=Int.ofNat (a-b):=by simp only [Int.ofNat_eq_natCast]; omega
 show some (Value.int .i64 (wrapF .i64 (Int.ofNat a-Int.ofNat b)))=_
 rw [e,oq (by omega)]; rfl
noncomputable def iF(a b:Nat)(r:Bool):db:=(some (.bool (decide (Int.ofNat a<Int.ofNat b))),.bool r)
theorem bx{a b:Nat}{r:Bool}(h:decide (a<b)=r):(iF a b r).1=some (iF a b r).2:=by
 show some (Value.bool (decide (Int.ofNat a<Int.ofNat b)))=some (.bool r)
 rw [← h,show decide (Int.ofNat a<Int.ofNat b)=decide (a<b) from decide_eq_decide.2 (by simp only [Int.ofNat_eq_natCast]; omega)]
theorem eX{h:Hp}{us:List aa}{i:Nat}{x:aa}(hat:dU h 0 us)(hx:us[i]? = some x):(j8 h.get 78 0 (i*7) (.agg ⟨vc x⟩)).1=some (j8 h.get 78 0 (i*7) (.agg ⟨vc x⟩)).2:=bU hat hx
theorem da{i n c:Nat}(h:i<n):(gS 0 n c i).1=some (gS 0 n c i).2:=bF h
theorem iH{α : Type}{P Q:List α}{x y : α}{i:Nat}(h:P.length=i):(P++x::Q).set i y=P++y::Q:=by
 subst h;rw [List.set_append_right _ _ (Nat.le_refl _),Nat.sub_self]; rfl
theorem iA{α : Type}{P Q:List α}{x : α}{i:Nat}(h:P.length=i):(P++x::Q)[i]? = some x:=by
 subst h;rw [List.getElem?_append_right (Nat.le_refl _),Nat.sub_self]; rfl
section
variable (us us1 us2:List aa) (n c a m k i:Nat) (x y:aa) (f:Value) (g:Nat→Value)
end
def uV(N:Nat)(us:List aa)(e:Exit)(st:St):Prop:=e = .normal∧∃ g,st=av N g [] [ab us]
def w9(us:List aa)(a m k:Nat):List aa:=us.take a++(us.drop m).take k++(us.drop (a+k)).take (m-(a+k))++(us.drop a).take k++us.drop (m+k)
theorem Tg{us:List aa}{a m k:Nat}(h1:a+k≤m)(h2:m+k≤us.length):us=us.take a++(us.drop a).take k++(us.drop (a+k)).take (m-(a+k))++(us.drop m).take k++us.drop (m+k):=by
 have e1:us.drop m=(us.drop m).take k++us.drop (m+k):=by
  have:=(List.take_append_drop k (us.drop m)).symm
  rwa [List.drop_drop] at this
 have e2:us.drop (a+k)=(us.drop (a+k)).take (m-(a+k))++us.drop m:=by
  have:=(List.take_append_drop (m-(a+k)) (us.drop (a+k))).symm
  rwa [List.drop_drop,show a+k+(m-(a+k))=m by omega] at this
 have e3:us.drop a=(us.drop a).take k++us.drop (a+k):=by
  have:=(List.take_append_drop k (us.drop a)).symm
  rwa [List.drop_drop] at this
 have e4:=(List.take_append_drop a us).symm
 rw [List.append_assoc,← e1,List.append_assoc,← e2,List.append_assoc,← e3,← e4]
theorem FH{A X B Y C:List aa}{a m k:Nat}(hX:X.length=k)(hY:Y.length=k)(hA:A.length=a)(hm:m=a+k+B.length):w9 (A++X++B++Y++C) a m k=A++Y++B++X++C:=by
 subst hA hX;subst hm;unfold w9;have t1:(A++X++B++Y++C).take A.length=A:=by rw [List.append_assoc,List.append_assoc,List.append_assoc,List.take_left]
 have d1:(A++X++B++Y++C).drop A.length=X++(B++Y++C):=by rw [List.append_assoc,List.append_assoc,List.append_assoc,List.drop_left]; simp
 have d2:(A++X++B++Y++C).drop (A.length+X.length)=B++(Y++C):=by rw [← List.drop_drop,d1,List.drop_left]; simp
 have d3:(A++X++B++Y++C).drop (A.length+X.length+B.length)=Y++C:=by rw [← List.drop_drop,d2,List.drop_left]
 have d4:(A++X++B++Y++C).drop (A.length+X.length+B.length+X.length)=C:=by rw [← List.drop_drop,d3,← hY,List.drop_left]
 rw [t1,d1,d2,d3,d4,← hY,List.take_left,show A.length+Y.length+B.length-(A.length+Y.length)=B.length by omega,List.take_left,hY,List.take_left]
theorem ux{us:List aa}{b n c:Nat}{hp:Hp}(hk:hp.ok)(hb:hp.get b=some (ab us)){m:BM}{h:HG}{v:Value}(r:ah m (aL hp h) (af b n c) v):∃ x,m b=some x∧ah (canM m [b]) (heapOf [ab us,.dead] aE).get (af 0 n c) v:=by
 obtain ⟨_,_,rr,oo,cap,q1,rfl,hcap,hh⟩:=r.dK;cases q1;have gb:=bu hk h b _ hb
 rcases hh with hd | ⟨δ,E,hm,hoff,hcok⟩
 ·rw [gb] at hd; cases hd
 ·exact ⟨_,hm,.slice hcap (.inr ⟨δ,E,hm,hoff,hcok⟩)⟩
theorem pN{m m':BM}{h h':HG}{k:IntKind}{z:Int}{v:Value}(r:ah m h (.int k z) v):ah m' h' (.int k z) v:=by
 rw [r.of_int]; exact .flat rfl
theorem Ga{m m':BM}{h h':HG}{v:Value}(r:ah m h vU v):ah m' h' vU v:=by
 obtain ⟨a',rfl,h1,h2⟩:=r.kC;exact .tuple h1 fun i v v' q _=>by simp at q
noncomputable def EA(a b:Nat)(r:Bool):db:=(some (.bool (Int.ofNat a != Int.ofNat b)),.bool r)
theorem ye{a b:Nat}{r:Bool}(h:(a != b)=r):(EA a b r).1=some (EA a b r).2:=by
 show some (Value.bool (Int.ofNat a != Int.ofNat b))=some (.bool r)
 rw [← h];congr 2
 cases e:(a != b) with
 | true =>
   have:a≠b:=by simpa using e
   exact bne_iff_ne.2 (fun e=>this (Int.ofNat.inj e))
 | false => have:a=b:=by simpa using e
            subst this; simp
noncomputable def DU(a b:Nat)(r:Bool):db:=(some (.bool (decide (Int.ofNat a>Int.ofNat b))),.bool r)
theorem jA{a b:Nat}{r:Bool}(h:decide (b<a)=r):(DU a b r).1=some (DU a b r).2:=by
 show some (Value.bool (decide (Int.ofNat a>Int.ofNat b)))=some (.bool r)
 rw [← h,show decide (Int.ofNat a>Int.ofNat b)=decide (b<a) from decide_eq_decide.2 (by simp only [Int.ofNat_eq_natCast]; omega)]
section
variable (us us':List aa) (n c a m b i j:Nat) (g:Nat→Value)
end
def Nt(us:List aa)(a m b:Nat):List aa:=us.take a++(us.drop m).take (b-m)++(us.drop a).take (m-a)++us.drop b
theorem O7{us:List aa}{a m b:Nat}(h1:a≤m)(h2:m≤b):us=us.take a++(us.drop a).take (m-a)++(us.drop m).take (b-m)++us.drop b:=by
 have e1:us.drop m=(us.drop m).take (b-m)++us.drop b:=by
  have:=(List.take_append_drop (b-m) (us.drop m)).symm
  rwa [List.drop_drop,show m+(b-m)=b by omega] at this
 have e2:us.drop a=(us.drop a).take (m-a)++us.drop m:=by
  have:=(List.take_append_drop (m-a) (us.drop a)).symm
  rwa [List.drop_drop,show a+(m-a)=m by omega] at this
 have e4:=(List.take_append_drop a us).symm
 rw [List.append_assoc,← e1,List.append_assoc,← e2,← e4]
theorem zn{A X Y C:List aa}{a m b:Nat}(hA:A.length=a)(hm:m=a+X.length)(hb:b=m+Y.length):(A++X++Y++C).take a=A∧((A++X++Y++C).drop a).take (m-a)=X∧((A++X++Y++C).drop m).take (b-m)=Y∧(A++X++Y++C).drop b=C:=by
 subst hA;subst hm;subst hb;have d1:(A++X++Y++C).drop A.length=X++(Y++C):=by rw [List.append_assoc,List.append_assoc,List.drop_left]
 have d2:(A++X++Y++C).drop (A.length+X.length)=Y++C:=by rw [← List.drop_drop,d1,List.drop_left]
 refine ⟨by rw [List.append_assoc,List.append_assoc,List.take_left],?_,?_,?_⟩
 ·rw [d1,show A.length+X.length-A.length=X.length by omega,List.take_left]
 ·rw [d2,show A.length+X.length+Y.length-(A.length+X.length)=Y.length by omega,List.take_left]
 ·rw [← List.drop_drop,d2,List.drop_left]
end Go.Proofs.YtgeoommlmddgpaaGreat.LtA
namespace Go.Proofs.YtgeoommlmddgpaaGreat.LtA
open Go Go.Proofs Go.Proofs.YtgeoommlmddgpaaGreat.AI Go.RowKit Go.Proofs.YtgeoommlmddgpaaGreat.Sort
def j5(aId:Int)(aHeightNull:Bool)(aHeightTau:Int)(aHeightOid:Int)(aHeightR:Int)(aHeightDelta:Int)(aHeightId:Int)(bId:Int)(bHeightNull:Bool)(bHeightTau:Int)(bHeightOid:Int)(bHeightR:Int)(bHeightDelta:Int)(bHeightId:Int):Value:=(bif (less (aHeightNull) (aHeightTau) (aHeightOid) (aHeightR) (aHeightDelta) (aHeightId) (bHeightNull) (bHeightTau) (bHeightOid) (bHeightR) (bHeightDelta) (bHeightId)) then (.int .i64 (-1)) else (bif (less (bHeightNull) (bHeightTau) (bHeightOid) (bHeightR) (bHeightDelta) (bHeightId) (aHeightNull) (aHeightTau) (aHeightOid) (aHeightR) (aHeightDelta) (aHeightId)) then (.int .i64 1) else (.int .i64 0)))
def aV(u v:aa):Bool:=less u.n u.t u.o u.r u.d u.i v.n v.t v.o v.r v.d v.i
def tL(u v:aa):Int:=bif aV u v then -1 else bif aV v u then 1 else 0
theorem Hk(u v:aa):decide (tL u v<0)=aV u v:=by
 unfold tL;cases aV u v with
 | true=>rfl
 | false=>cases aV v u <;> rfl
theorem xa(u v:aa):j5 u.id u.n u.t u.o u.r u.d u.i v.id v.n v.t v.o v.r v.d v.i = .int .i64 (tL u v):=by
 unfold j5 tL aV;cases less u.n u.t u.o u.r u.d u.i v.n v.t v.o v.r v.d v.i with
 | true=>rfl
 | false=>cases less v.n v.t v.o v.r v.d v.i u.n u.t u.o u.r u.d u.i <;> rfl
noncomputable def L4(j:Nat):db:=(some (.int .i64 (wrapF .i64 (Int.ofNat (j+1)-1))),iN j)
theorem qp{j:Nat}(h:j<1000000):(L4 j).1=some (L4 j).2:=gC h
noncomputable def Gl(u v:aa)(r:Bool):db:=(some (.bool (decide (tL u v<0))),.bool r)
theorem qn{u v:aa}{r:Bool}(h:aV u v=r):(Gl u v r).1=some (Gl u v r).2:=by
 show some (Value.bool (decide (tL u v<0)))=some (.bool r)
 rw [Hk,h]
section
variable (us us1 us2:List aa) (n c a b i j:Nat) (x y:aa) (g:Nat→Value)
end
theorem Tf{us:List aa}{a b:Nat}(h1:a≤b):us=us.take a++(us.drop a).take (b-a)++us.drop b:=by
 have e2:us.drop a=(us.drop a).take (b-a)++us.drop b:=by
  have:=(List.take_append_drop (b-a) (us.drop a)).symm
  rwa [List.drop_drop,show a+(b-a)=b by omega] at this
 rw [List.append_assoc,← e2,List.take_append_drop]
theorem Ho{A X C:List aa}{a b:Nat}(hA:A.length=a)(hb:b=a+X.length):(A++X++C).take a=A∧((A++X++C).drop a).take (b-a)=X∧(A++X++C).drop b=C:=by
 subst hA;subst hb;have d1:(A++X++C).drop A.length=X++C:=by rw [List.append_assoc,List.drop_left]
 refine ⟨by rw [List.append_assoc,List.take_left],?_,?_⟩
 ·rw [d1,show A.length+X.length-A.length=X.length by omega,List.take_left]
 ·rw [← List.drop_drop,d1,List.drop_left]
def cT:Code→Code
 | .cond _ a _=>a
 | c=>c
noncomputable def HZ(i j h:Nat)(l:List db):List db:=yY i j::(some (.int .u64 (wrapF .u64 (Int.ofNat (i+j)))),uN (i+j))::(some (.int .u64 (Int.fdiv (Int.ofNat (i+j)) (2 ^ (min (Int.toNat 1) 64)))),uN h)::(some (.int .i64 (wrapF .i64 (Int.ofNat h))),iN h)::l
theorem tW{i j:Nat}{l:List db}(h:i+j<3000000)(hl:Met l):Met (HZ i j ((i+j) / 2) l):=Met.cons (xF h) (Met.cons (F3 h) (Met.cons zw (Met.cons (oq (by omega)) hl)))
noncomputable def SB(a b:Nat)(r:Bool):db:=(some (.bool (Int.ofNat a==Int.ofNat b)),.bool r)
theorem Du{a b:Nat}{r:Bool}(h:(a==b)=r):(SB a b r).1=some (SB a b r).2:=by
 show some (Value.bool (Int.ofNat a==Int.ofNat b))=some (.bool r)
 rw [← h];congr 2
 cases e:(a==b) with
 | true => have:a=b:=by simpa using e
           subst this; simp
 | false =>
   have:a≠b:=by simpa using e
   exact beq_false_of_ne (fun e=>this (Int.ofNat.inj e))
section
variable (call:aG) (us us1 us2 us':List aa) (n c a m b i j h k s r p e aM q:Nat) (x y u w:aa) (d:Bool) (g:Nat→Value)
noncomputable def Sz(b:Bool)(l:List db):List db:=iF i j true::HZ i j h (gS 0 n c h::j8 (hW us).get 78 0 (h*7) (.agg ⟨vc u⟩)::gS 0 n c a::j8 (hW us).get 78 0 (a*7) (.agg ⟨vc x⟩)::Gl u x b::l)
def Wv(b:Bool):List (Tmp×Value):=[(33,.bool true),(36,iN (i+j)),(37,uN (i+j)),(38,uN h),(39,iN h),(43,pb 0 (h*7)),(44,.agg ⟨vc u⟩),(47,pb 0 (a*7)),(48,.agg ⟨vc x⟩),(50,.bool b)]
end
section
variable (us us1 us2 us':List aa) (n c a m b i j h k s r p e aM q:Nat) (x y u w:aa) (d:Bool) (g:Nat→Value)
noncomputable def SG(b:Bool)(l:List db):List db:=iF i j true::HZ i j h (gS 0 n c m::j8 (hW us).get 78 0 (m*7) (.agg ⟨vc y⟩)::gS 0 n c h::j8 (hW us).get 78 0 (h*7) (.agg ⟨vc u⟩)::Gl y u b::l)
def Wx(b:Bool):List (Tmp×Value):=[(85,.bool true),(88,iN (i+j)),(89,uN (i+j)),(90,uN h),(91,iN h),(95,pb 0 (m*7)),(96,.agg ⟨vc y⟩),(99,pb 0 (h*7)),(100,.agg ⟨vc u⟩),(102,.bool b)]
noncomputable def SK(b:Bool)(l:List db):List db:=iF s r true::HZ s r h (rL p h::gS 0 n c (p-h)::j8 (hW us).get 78 0 ((p-h)*7) (.agg ⟨vc u⟩)::gS 0 n c h::j8 (hW us).get 78 0 (h*7) (.agg ⟨vc w⟩)::Gl u w b::l)
def WJ(b:Bool):List (Tmp×Value):=[(151,.bool true),(154,iN (s+r)),(155,uN (s+r)),(156,uN h),(157,iN h),(162,iN (p-h)),(163,pb 0 ((p-h)*7)),(164,.agg ⟨vc u⟩),(167,pb 0 (h*7)),(168,.agg ⟨vc w⟩),(170,.bool b)]
end
section
variable (call:aG) (us us':List aa) (n c a m b s e aM:Nat) (g:Nat→Value)
end
def Kn(x:aa):Prop:=known x.n x.t x.o x.r x.d x.i=true
theorem Dh{a b:Int}:dO a b<0↔a<b:=by
 have:=tK a b
 constructor
 ·intro h; rw [decide_eq_true h] at this; exact of_decide_eq_true this.symm
 ·intro h; rw [decide_eq_true h] at this; exact of_decide_eq_true this
theorem Dg{a b:Int}:dO a b=0↔a=b:=by
 have:=sk a b
 constructor
 ·intro h
  rw [h] at this;have h2:(a==b)=true:=by rw [← this]; rfl
  exact eq_of_beq h2
 ·rintro rfl
  have h2:(dO a a==0)=true:=by rw [this]; simp
  exact eq_of_beq h2
def Lex(u v:aa):Prop:=u.t<v.t∨(u.t=v.t∧(u.o<v.o∨(u.o=v.o∧(u.r<v.r∨(u.r=v.r∧(u.d<v.d∨(u.d=v.d∧u.i<v.i)))))))
theorem Ac(a b c:Int):Iq a b c<0↔a<0∨(a=0∧(b<0∨(b=0∧c<0))):=by
 unfold Iq;rcases Decidable.em (a=0) with h | h
 ·subst h
  rcases Decidable.em (b=0) with h2 | h2
  ·subst h2; simp
  ·have:(b==0)=false:=by simpa using h2
   simp [this,h2]
 ·have:(a==0)=false:=by simpa using h
  simp [this,h]
theorem Ir(a b c:Int):Iq a b c=0↔a=0∧b=0∧c=0:=by
 unfold Iq;rcases Decidable.em (a=0) with h | h
 ·subst h
  rcases Decidable.em (b=0) with h2 | h2
  ·subst h2; simp
  ·have:(b==0)=false:=by simpa using h2
   simp [this,h2]
 ·have:(a==0)=false:=by simpa using h
  simp [this,h]
theorem fK{u v:aa}(hu:Kn u)(hv:Kn v):aV u v=true↔Lex u v:=by
 unfold aV less Kn at *;rw [hu,hv,Bool.true_and,Bool.true_and,decide_eq_true_iff,Ac];unfold qL kz kA kB;rw [hu,hv];simp only [cond_true];rw [Ac,Ir];simp only [Dh,Dg];unfold Lex;constructor
 ·rintro ((h | ⟨h1,h | ⟨h2,h⟩⟩) | ⟨⟨h1,h2,h3⟩,h | ⟨h4,h5⟩⟩)
  ·exact .inl h
  ·exact .inr ⟨h1,.inl h⟩
  ·exact .inr ⟨h1,.inr ⟨h2,.inl h⟩⟩
  ·exact .inr ⟨h1,.inr ⟨h2,.inr ⟨h3,.inl h⟩⟩⟩
  ·exact .inr ⟨h1,.inr ⟨h2,.inr ⟨h3,.inr ⟨h4,h5⟩⟩⟩⟩
 ·rintro (h | ⟨h1,h | ⟨h2,h | ⟨h3,h | ⟨h4,h5⟩⟩⟩⟩)
  ·exact .inl (.inl h)
  ·exact .inl (.inr ⟨h1,.inl h⟩)
  ·exact .inl (.inr ⟨h1,.inr ⟨h2,h⟩⟩)
  ·exact .inr ⟨⟨h1,h2,h3⟩,.inl h⟩
  ·exact .inr ⟨⟨h1,h2,h3⟩,.inr ⟨h4,h5⟩⟩
theorem sw:BG aV Kn where
 asym u v hu hv h:=by
  cases e:aV v u with
  | false=>rfl
  | true =>
    have h1:=(fK hu hv).1 h
    have h2:=(fK hv hu).1 e
    unfold Lex at h1 h2;omega
 ntr u v z hu hv hz h1 h2:=by
  cases e:aV u z with
  | false=>rfl
  | true =>
    have h3:=(fK hu hz).1 e
    have n1:¬ Lex u v:=fun h=>by rw [(fK hu hv).2 h] at h1; cases h1
    have n2:¬ Lex v z:=fun h=>by rw [(fK hv hz).2 h] at h2; cases h2
    unfold Lex at h3 n1 n2;omega
theorem lE{S:List aa}(hS:mG aV S)(hK:∀ z∈S,Kn z){i j:Nat}{u v:aa}(hij:i≤j)(hu:S[i]? = some u)(hv:S[j]? = some v):aV v u=false:=by
 rcases Nat.lt_or_eq_of_le hij with h | h
 ·obtain ⟨hi,rfl⟩:=List.getElem?_eq_some_iff.1 hu
  obtain ⟨hj,rfl⟩:=List.getElem?_eq_some_iff.1 hv
  exact List.pairwise_iff_getElem.1 hS i j hi hj h
 ·subst h
  rw [hu] at hv; cases hv;exact sw.TV (hK u (List.mem_of_getElem? hu))
section
variable {A X Y C us:List aa} {a m b:Nat}
theorem KJ(hus:us=A++X++Y++C)(hA:A.length=a){i:Nat}(hi:i<X.length):us[a+i]? = X[i]?:=by
 subst hus hA;rw [List.append_assoc,List.append_assoc,List.getElem?_append_right (by omega),show A.length+i-A.length=i by omega,List.getElem?_append_left hi]
theorem KK(hus:us=A++X++Y++C)(hA:A.length=a)(hm:m=a+X.length){i:Nat}(hi:i<Y.length):us[m+i]? = Y[i]?:=by
 subst hus hA hm;rw [List.append_assoc,List.getElem?_append_right (by simp),show A.length+X.length+i-(A++X).length=i by simp,List.getElem?_append_left hi]
theorem gu{S:List aa}{i:Nat}(h:i<S.length):∃ x,S[i]? = some x:=⟨_,List.getElem?_eq_getElem h⟩
end
def uT(us:List aa)(e:Exit)(st:St):Prop:=(e = .normal∨e = .ret)∧∃ g,st=av 220 g [] [ab us]
def te(us:List aa)(e:Exit)(st:St):Prop:=e = .ret∧∃ g,st=av 220 g [] [ab us]
theorem ue{x:aa}{Y1 Y2:List aa}(h1:∀ u∈Y1,aV u x=true)(h2:∀ u∈Y2,aV u x=false)(hY:mG aV (Y1++Y2)):dy aV [x] (Y1++Y2)=Y1++x::Y2:=by
 obtain ⟨a,b,c⟩:=List.pairwise_append.1 hY;have:=sD (lt:=aV) (L1:=[]) (L2:=[x]) (R1:=Y1) (R2:=Y2) (fun y hy z hz=>by rw [List.mem_singleton.1 hz]; exact h1 y hy) (fun y hy z hz=>by cases hz) (fun y hy z hz=>c z hz y hy)
 rw [List.nil_append] at this;rw [this,gn a];have e:=ow (lt:=aV) (M:=[x]) (R:=Y2) (N:=[]) (fun y hy z hz=>by rw [List.mem_singleton.1 hz]; exact h2 y hy)
 rw [List.append_nil] at e;rw [e,gn b];rfl
def bs:Nat→Nat→List aa→List aa
 | _,0,us=>us
 | s,k+1,us=>match us with
   | []=>[]
   | _::_=>aN aV (us.take s)++bs s k (us.drop s)
theorem tH(s k:Nat):bs s k [] = []:=by cases k <;> rfl
theorem mQ{s k:Nat}{us:List aa}:bs s (k+1) us=aN aV (us.take s)++bs s k (us.drop s):=by
 cases us with
 | nil=>simp [bs,tH]; rfl
 | cons u us=>rfl
theorem y4{s:Nat}(hs:0<s):∀ {k k':Nat} {us:List aa},us.length≤k→us.length≤k'→bs s k us=bs s k' us
 | k,k',[],_,_=>by rw [tH,tH]
 | 0,_,u::us,h,_=>by simp at h
 | _,0,u::us,_,h=>by simp at h
 | k+1,k'+1,u::us,h1,h2=>by
   rw [mQ,mQ];rw [y4 hs (k:=k) (k':=k') (by simp at h1 ⊢; omega) (by simp at h2 ⊢; omega)]
def iW(s:Nat)(us:List aa):List aa:=bs s us.length us
theorem mP{s:Nat}{R1 R2:List aa}(hs:0<s)(h:R1.length=s):iW s (R1++R2)=aN aV R1++iW s R2:=by
 unfold iW;obtain ⟨k,hk⟩:∃ k,(R1++R2).length=k+1:=⟨(R1++R2).length-1,by simp; omega⟩
 have e1:(R1++R2).take s=R1:=by rw [← h,List.take_left]
 have e2:(R1++R2).drop s=R2:=by rw [← h,List.drop_left]
 rw [hk,mQ,e1,e2];rw [y4 hs (k:=k) (k':=R2.length) (by simp at hk; omega) (Nat.le_refl _)]
theorem iY{s:Nat}{R:List aa}(hs:0<s)(h:R.length≤s):iW s R=aN aV R:=by
 unfold iW;cases R with
 | nil=>rfl
 | cons r R =>
   have:(r::R).length=R.length+1:=rfl
   rw [this,mQ,List.take_of_length_le h,List.drop_of_length_le h,tH,List.append_nil]
theorem Cv{s:Nat}:∀ {k:Nat} {us:List aa},(bs s k us).length=us.length
 | 0,us=>rfl
 | k+1,us=>by rw [mQ,List.length_append,bK,Cv,← List.length_append,List.take_append_drop]
theorem G1{s:Nat}{us:List aa}:(iW s us).length=us.length:=Cv
theorem sW{R1 R2:List aa}(h1:∀ z∈R1,Kn z)(h2:∀ z∈R2,Kn z):dy aV (aN aV R1) (aN aV R2)=aN aV (R1++R2):=yd sw h1 h2
noncomputable def N7(a b:Nat)(r:Bool):db:=(some (.bool (decide (Int.ofNat a≤Int.ofNat b))),.bool r)
theorem ua{a b:Nat}{r:Bool}(h:decide (a≤b)=r):(N7 a b r).1=some (N7 a b r).2:=by
 show some (Value.bool (decide (Int.ofNat a≤Int.ofNat b)))=some (.bool r)
 rw [← h,show decide (Int.ofNat a≤Int.ofNat b)=decide (a≤b) from decide_eq_decide.2 (by simp only [Int.ofNat_eq_natCast]; omega)]
noncomputable def SM(s:Nat):db:=(some (.int .i64 (wrapF .i64 (2*Int.ofNat s))),iN (2*s))
theorem FZ{s:Nat}(h:s<1000000):(SM s).1=some (SM s).2:=by
 have e:2*Int.ofNat s=Int.ofNat (2*s):=by simp only [Int.ofNat_eq_natCast]; omega
 show some (Value.int .i64 (wrapF .i64 (2*Int.ofNat s)))=_
 rw [e,oq (by omega)]; rfl
noncomputable def Th(s:Nat):db:=(some (.int .i64 (wrapF .i64 (Int.ofNat s*2))),iN (2*s))
theorem LZ{s:Nat}(h:s<1000000):(Th s).1=some (Th s).2:=by
 have e:Int.ofNat s*2=Int.ofNat (2*s):=by simp only [Int.ofNat_eq_natCast]; omega
 show some (Value.int .i64 (wrapF .i64 (Int.ofNat s*2)))=_
 rw [e,oq (by omega)]; rfl
section
variable (us us':List aa) (n c a b s:Nat) (g:Nat→Value)
end
theorem ID{R:List aa}(h:∀ z∈R,Kn z):mG aV (aN aV R):=sV sw h
theorem kS{R:List aa}(h:∀ z∈R,Kn z):∀ z∈aN aV R,Kn z:=fun z hz=>h z (k9.1 hz)
theorem cutAt{R:List aa}{s:Nat}(h:s≤R.length):∃ R1 R2,R=R1++R2∧R1.length=s:=⟨R.take s,R.drop s,(List.take_append_drop _ _).symm,by simp; omega⟩
end Go.Proofs.YtgeoommlmddgpaaGreat.LtA
namespace Go.Proofs.YtgeoommlmddgpaaGreat.LtA
open Go Go.Proofs Go.Proofs.YtgeoommlmddgpaaGreat.AI Go.RowKit
section
variable (o:ae) (s:Value) (vs:List aa) (n c:Nat)
end
def rowV(us:List aa)(b:Nat):Value:=match us with
 | []=>ax
 | _::_=>aW b us.length
def VE(us:List aa):List ae:=match us with
 | []=>[]
 | _::_=>[ab us]
open Classical in
noncomputable def g34(vs:List aa):aB:=fun args hp=>match args with
 | [s]=>if TN vs s hp then some (rowV vs hp.sz,heapOf (VE vs ++ [.dead]) hp) else none
 | _=>none
section
variable (o:ae) (n c:Nat) (id:Int)
end
theorem GS{get:Nat→Option ae}{sz b b2 k:Nat}{ws:List aa}{x:aa}(hb:get b=some (ab ws))(hb2:get b2=some (.cells 78 (vc x) false))(hk:k=ws.length)(hl:k<2000000) :
  aAppend Tryz.prog get sz [24,24] [aW b k,af b2 1 22]=some (aW sz (k+1),[.put b .dead,.push (ab (ws ++ [x]))]):=by
 subst hk;obtain ⟨i,hi,h7,px⟩:=mi;obtain ⟨z,hz,hzl⟩:=oK;unfold ab at hb;have hsrc:aSrc Tryz.prog get 7 z (.slice 78) (af b2 1 22)=some (vc x,1):=by
  unfold aSrc;simp only [af,srcLen,srcCells,hb2];rw [if_neg (by omega),if_neg (by omega),cu (n:=1*7) rfl]
  rfl
 have hg:eO (aI ws) 0 (ws.length*7)=some (aI ws):=cu (bV ws)
 unfold aAppend;simp only [Tryz.underlying24,hi,hz,h7,px,hzl];rw [if_neg (by decide)]
 simp only [hsrc];rw [if_neg (by simp [vc,isOne])]
 simp only [aW,af];rw [if_neg (by omega),if_neg (by omega)]
 simp only [hb,hg];rw [if_neg (by omega),if_pos (by decide),if_neg (by rw [bV]; omega)]
 unfold ab;rw [e9];have e:aI [x]=vc x:=by unfold aI; simp
 rw [e]
section
variable (o:ae) (s:Value) (n c:Nat) (y:aa) (ws us zs:List aa) (k:Nat) (i:Nat) (x:aa) (g:Nat→Value)
end
section
variable (o:ae) (n c:Nat) (y:aa) (ws us zs:List aa) (k:Nat) (i:Nat) (x:aa) (g:Nat→Value)
def hN(o:ae)(y:aa):Hp:=heapOf ([o,hB y] ++ [.dead]) aE
def vB(x:aa):ae:=.cells 78 (vc x) false
def W9(o:ae)(y:aa):Hp:=((hN o y).push (vB y)).push (ab [y])
def hR(o:ae)(ws:List aa)(y:aa):Hp:=heapOf ([o,ab ws,hB y] ++ [.dead]) aE
noncomputable def Mf(o:ae)(ws us:List aa)(y:aa):Hp:=(((hR o ws y).push (vB y)).put 1 .dead).push (ab us)
end
section
variable (o:ae) (s:Value) (n c:Nat) (y:aa) (ws us:List aa) (k:Nat) (g:Nat→Value)
def hF(o:ae)(ws:List aa):Hp:=heapOf ([o,ab ws] ++ [.dead]) aE
end
def dQ(y:aa)(p:List aa×Bool)(x:aa):List aa×Bool :=
 let q:=bif !p.2&&decide (x.id≥y.id) then (p.1 ++ [y],true) else p
 (bif x.id != y.id then q.1 ++ [x] else q.1,q.2)
theorem so{α β : Type}{f : α→β→α}{a : α}{vs:List β}{i:Nat}{x : β}(h:vs[i]? = some x):(vs.take (i+1)).foldl f a=f ((vs.take i).foldl f a) x:=by
 rw [List.take_add_one,h];simp [List.foldl_append]
section
variable (o:ae) (s:Value) (y:aa)
end
section
variable {o:ae} {s:Value} {y:aa}
section
variable {vs:List aa} {n c i:Nat} {x:aa} {h:Hp}
end
end
end Go.Proofs.YtgeoommlmddgpaaGreat.LtA
namespace Go.Proofs.YtgeoommlmddgpaaGreat.LtA
open Go Go.Proofs Go.Proofs.YtgeoommlmddgpaaGreat.AI Go.RowKit Go.Proofs.YtgeoommlmddgpaaGreat.Sort
def iC(x:Int):Value:=.int .i64 x
def iB(ids:List Int):ae:=.cells 3 (ids.map iC) false
def jg(b k:Nat):Value:=.slice (some ⟨b,0,none⟩) k 4
theorem dY(ids:List Int):aD (iB ids)=true:=by
 show List.all _ inert=true
 rw [List.all_map];exact List.all_eq_true.2 fun x _=>rfl
theorem underlying31:Tryz.prog.underlying 56=some (.slice 3):=by kernel_rfl
theorem Jv:∃ i,Tryz.prog.info? 3=some i∧i.size=1∧i.bytes=8:=by
 have h:(Tryz.prog.info? 3).map (fun i=>(i.size,i.bytes))=some (1,8):=by kernel_rfl
 obtain ⟨i,h1,h2⟩:=Option.map_eq_some_iff.1 h;simp only [Prod.mk.injEq] at h2;exact ⟨i,h1,h2.1,h2.2⟩
theorem JQ:∃ z,tzero Tryz.prog 3=some z∧z.length=1:=by
 have h:(tzero Tryz.prog 3).map (fun z=>z.length)=some 1:=by kernel_rfl
 obtain ⟨z,h1,h2⟩:=Option.map_eq_some_iff.1 h;exact ⟨z,h1,h2⟩
theorem GQ{get:Nat→Option ae}{sz b b2 k:Nat}{ids:List Int}{x:Int}(hb:get b=some (iB ids))(hb2:get b2=some (.cells 3 [iC x] false))(hk:k=ids.length)(hl:k<2000000) :
  aAppend Tryz.prog get sz [56,56] [jg b k,jg b2 1]=some (jg sz (k+1),[.put b .dead,.push (iB (ids ++ [x]))]):=by
 subst hk;obtain ⟨i,hi,h1,h8⟩:=Jv;obtain ⟨z,hz,hzl⟩:=JQ;unfold iB at hb;have hsrc:aSrc Tryz.prog get 1 z (.slice 3) (jg b2 1)=some ([iC x],1):=by
  unfold aSrc jg;simp only [srcLen,srcCells,hb2];rw [if_neg (by omega),if_neg (by omega),cu (n:=1*1) rfl]
  rfl
 have hg:eO (ids.map iC) 0 (ids.length*1)=some (ids.map iC):=cu (by simp)
 unfold aAppend;simp only [underlying31,hi,hz,h1,h8,hzl];rw [if_neg (by decide)]
 simp only [hsrc];rw [if_neg (by simp [isOne,iC])]
 simp only [jg];rw [if_neg (by omega),if_neg (by omega)]
 simp only [hb,hg];rw [if_neg (by omega),if_pos (by decide),if_neg (by simp)]
 unfold iB;rw [List.map_append];rfl
def rowIv(ids:List Int)(b:Nat):Value:=match ids with
 | []=>ax
 | _::_=>jg b ids.length
def qW(ids:List Int):List ae:=match ids with
 | []=>[]
 | _::_=>[iB ids]
section
variable (o ob:ae) (f:FuncId) (n c i k:Nat) (ws us:List aa) (ids:List Int) (x:aa) (b:Bool) (g:Nat→Value)
end
theorem vH{o ob:ae}(ho:aD o=true)(hob:aD ob=true):∀ r:List ae,∀ i,i<2→∀ o',(o::ob::r)[i]? = some o'→dD 0 o':=by
 intro r i hi o' h;match i,hi with
 | 0,_=>simp at h; subst h; exact bk ho 0
 | 1,_=>simp at h; subst h; exact bk hob 0
section
variable (o ob:ae) (f:FuncId) (n c:Nat)
end
end Go.Proofs.YtgeoommlmddgpaaGreat.LtA
namespace Go.Proofs.YtgeoommlmddgpaaGreat.LtA
open Go Go.Proofs Go.Proofs.YtgeoommlmddgpaaGreat.AI Go.RowKit
def padF(k:aB):aB:=fun args hp=>match k args hp with
 | some (v,dg)=>if dg.sz=hp.sz+1 then some (v,heapOf [.dead] dg) else some (v,dg)
 | none=>none
theorem hU{P:Program}{f:FuncId}{k:aB}(hg:aq P f k):aq P f (padF k):=by
 intro args hp v hp2 he hk;unfold padF at he;split at he
 case h_2=>cases he
 rename_i v1 dg h1;split at he
 case isFalse=>cases he; exact hg args hp v hp2 h1 hk
 cases he;obtain ⟨vR,hle,hgo⟩:=hg args hp v dg h1 hk;have hsz:(heapOf [.dead] dg).sz=dg.sz+1:=rfl
 refine ⟨bE _ _ vR,by rw [hsz]; omega,fun m h w args' hfr s ra=>?_⟩
 have step:∀ v' w',(∃ m',dT m (aL hp h) w m' (aL dg h) w'∧ah m' (aL dg h) v v')→∃ m',dT m (aL hp h) w m' (aL (heapOf [.dead] dg) h) w'∧ah m' (aL (heapOf [.dead] dg) h) v v':=?_
 ·rcases hgo m h w args' (fun b a c=>hfr b a (by rw [hsz]; omega)) s ra with ⟨v',w',q1,q2⟩ | ⟨q1,q2⟩
  ·exact .inl ⟨v',w',q1,step v' w' q2⟩
  ·exact .inr ⟨q1,q2.mono fun e w' hh=>by
      obtain ⟨v',h1,h2⟩:=hh;exact ⟨v',h1,step v' w' h2⟩⟩
 rintro v' w' ⟨m',go,rv⟩;have hnew:h dg.sz=none:=hfr dg.sz hle (by rw [hsz]; omega)
 have hov:∀ b,aL (heapOf [.dead] dg) h b=if b=dg.sz then some .dead else aL dg h b:=by
  intro b;unfold aL;rw [hsz];by_cases h1:b<dg.sz
  ·rw [if_pos (by omega),if_neg (by omega),if_pos h1,heapOf_get,if_pos h1]
  ·by_cases h2:b=dg.sz
   ·subst h2
    rw [if_pos (by omega),if_pos rfl,heapOf_get,if_neg h1,Nat.sub_self]; rfl
   ·rw [if_neg (by omega),if_neg h2,if_neg h1]
 have hnone:aL dg h dg.sz=none:=by
  unfold aL;rw [if_neg (by omega)]; exact hnew
 have hmn:m' dg.sz=none:=by
  cases e:m' dg.sz with
  | none=>rfl
  | some x=>obtain ⟨o,ho,_⟩:=go.sim.dom _ x e; rw [hnone] at ho; cases ho
 have hne:∀ b x,m' b=some x→b≠dg.sz:=fun b x hx e=>by subst e; rw [hmn] at hx; cases hx
 have hke:∀ b o,aL dg h b=some o→b≠dg.sz:=fun b o hb e=>by subst e; rw [hnone] at hb; cases hb
 have le2:Le m' (aL dg h) m' (aL (heapOf [.dead] dg) h):=⟨fun b hb=>by rw [hov,if_neg (hke b _ hb)]; exact hb,fun b x hx=>.inr hx⟩
 have rwS:∀ b,b≠dg.sz→rw? (aL (heapOf [.dead] dg) h) b=rw? (aL dg h) b:=fun b hb=>by unfold rw?; rw [hov,if_neg hb]
 have lvS:∀ b,b≠dg.sz→aU (aL (heapOf [.dead] dg) h) b=aU (aL dg h) b:=fun b hb=>by unfold aU; rw [hov,if_neg hb]
 refine ⟨m',⟨go.le.trans le2,⟨fun b x hx=>?_,fun b b' x x' hx hx' hr hl e=>go.sim.inj b b' x x' hx hx' (by rw [← rwS b (hne b x hx)]; exact hr) (by rw [← lvS b' (hne b' x' hx')]; exact hl) e⟩,go.size,go.new,go.frame,go.un,fun b o hb hm=>?_,fun b o hb=>?_,fun b x hx hr=>?_,go.os,go.tape,go.output⟩,rv.mono le2⟩
 ·obtain ⟨o,ho,hbr⟩:=go.sim.dom b x hx
  exact ⟨o,by rw [hov,if_neg (hne b x hx)]; exact ho,hbr.mono le2 rfl⟩
 ·have:=go.idle b o hb hm
  rw [hov,if_neg (hke b _ this)]; exact this
 ·obtain ⟨o',ho'⟩:=go.ex b o hb
  exact ⟨o',by rw [hov,if_neg (hke b _ ho')]; exact ho'⟩
 ·have hb1:b≠dg.sz:=by
   intro e;subst e;unfold rw? at hr;rw [hov,if_pos rfl] at hr;cases hr
  exact go.rwb b x hx (by rw [← rwS b hb1]; exact hr)
theorem nr{k:aB}{args:List Value}{hp:Hp}{v:Value}{B:ae}(h:k args hp=some (v,heapOf [B,.dead] hp)):padF k args hp=some (v,heapOf [B,.dead] hp):=by
 unfold padF;rw [h];have:(heapOf [B,.dead] hp).sz=hp.sz+2:=rfl
 simp only [this];rw [if_neg (by omega)]
theorem pT{k:aB}{args:List Value}{hp:Hp}{v:Value}(h:k args hp=some (v,heapOf [.dead] hp)):padF k args hp=some (v,heapOf [.dead,.dead] hp):=by
 unfold padF;rw [h];have:(heapOf [ae.dead] hp).sz=hp.sz+1:=rfl
 simp only [this];rfl
def jF(vs:List aa):ae:=match vs with
 | []=>.dead
 | _::_=>ab vs
section
variable (o:ae) (s:Value) (n:Nat) (y a:aa) (b rb:Bool) (z:Int) (v1 v2 v3 v4 v5:Value) (B1 B2 B3 B4 B5:ae) (e f:Nat)
def rX(o:ae)(y:aa)(B1:ae):Hp:=heapOf [B1,.dead] (SF o y)
noncomputable def N6(o:ae)(y a:aa)(B1:ae):Hp:=Ww a (Ww a (rX o y B1))
end
end Go.Proofs.YtgeoommlmddgpaaGreat.LtA
namespace Go.Proofs.YtgeoommlmddgpaaGreat.LtA
open Go Go.Proofs Go.Proofs.YtgeoommlmddgpaaGreat.AI Go.RowKit Go.Proofs.YtgeoommlmddgpaaGreat.Sort
def cS(ids:List Int):ae:=match ids with
 | []=>.dead
 | _::_=>iB ids
theorem ES{k:aB}{args:List Value}{hp:Hp}{v:Value}{ids:List Int}(h:k args hp=some (v,heapOf (qW ids ++ [.dead]) hp)):padF k args hp=some (v,heapOf [cS ids,.dead] hp):=by
 cases ids with
 | nil=>exact pT h
 | cons=>exact nr h
section
variable (o:ae) (own:aa) (vs:List aa) (n c k:Nat) (ids:List Int)
end
section
variable (o:ae) (own:aa) (vs:List aa) (n c k:Nat) (ids:List Int)
end
noncomputable def sb:Ext:=cR Tryz.prog [(203,g57),(44,g17)]
noncomputable def BH:aG:=aCall Tryz.prog sb 5
theorem gK:a8 Tryz.prog BH:=aP (by unfold sb; exact aS (.cons Po (.cons Mh .nil))) follows 5
noncomputable def pv:Code:=(Tryz.f180.body).getD .skip
noncomputable def Lg:Code:=sL pv
noncomputable def Lh:Code:=sL (sR pv)
noncomputable def Li:Code:=sL (sR (sR pv))
noncomputable def Lj:Code:=sL (sL (sR (sR (sR pv))))
noncomputable def xK:Code:=nO (jn (sR (sL (sR (sR (sR pv))))))
noncomputable def Lk:Code:=sR (sR (sR (sR pv)))
noncomputable abbrev ku:Code:=.seq Lg (.seq Lh (.seq Li (.seq (.seq Lj (.block 0 (.loop xK))) Lk)))
theorem xG:Tryz.f180.body=some ku:=by kernel_rfl
theorem ntmps21:Tryz.f180.ntmps=33:=by kernel_rfl
theorem Xp:codeSafe Tryz.prog 33 ku=true:=by kernel_rfl
theorem VF:codeSafe Tryz.prog 33 Lg=true:=by kernel_rfl
theorem VG:codeSafe Tryz.prog 33 Lh=true:=by kernel_rfl
theorem VH:codeSafe Tryz.prog 33 Li=true:=by kernel_rfl
theorem VI:codeSafe Tryz.prog 33 Lj=true:=by kernel_rfl
theorem Fj:codeSafe Tryz.prog 33 xK=true:=by kernel_rfl
theorem VJ:codeSafe Tryz.prog 33 Lk=true:=by kernel_rfl
theorem SJ(x:aa)(b:Bool)(g:Nat→Value):retVal Tryz.prog Tryz.f180 (av 33 g [(2,pb 0 0),(3,.bool b)] [vB x])=some (.tuple #[.agg ⟨vc x⟩,.bool b]):=by kernel_rfl
def toldV(x:aa):Bool:=told x.n x.t x.o x.r x.d x.i
section
variable (o:ae) (n c i:Nat) (x y:aa) (b:Bool) (g:Nat→Value)
theorem Uy:(execE Tryz.prog BH [] [] [] 10 Lg ⟨tmsOf [af 0 n c] 0 .leaf,heapOf [o,.dead] aE,[]⟩).map (fun z=>(look2 1 [0,2] [0,2] (z.1,z.2.1),z.2.2)) =
 some ((.normal,[o,vB (zeroV 0)],[(0,af 0 n c),(2,pb 1 0)],true),[],[],[]):=by kernel_rfl
theorem Uz:(execE Tryz.prog BH [] [] [] 10 Lh (av 33 g [(0,af 0 n c),(2,pb 1 0)] [o,vB (zeroV 0)])).map (fun z=>(look2 1 [0,1,3] [0,2,4] (z.1,z.2.1),z.2.2)) =
 some ((.normal,[o,vB (zeroV 0),vB (zeroV 0)],[(0,af 0 n c),(2,pb 1 0),(4,pb 2 0)],true),[],[],[]):=by kernel_rfl
theorem UA:(execE Tryz.prog BH [] [] [] 10 Li (av 33 g [(0,af 0 n c),(2,pb 1 0),(4,pb 2 0)] [o,vB (zeroV 0),vB (zeroV 0)])).map (fun z=>(look2 1 [0,1,2] [0,2,4,5] (z.1,z.2.1),z.2.2)) =
 some ((.normal,[o,vB (zeroV 0),vB (zeroV 0)],[(0,af 0 n c),(2,pb 1 0),(4,pb 2 0),(5,.bool false)],true),[],[],[]):=by kernel_rfl
abbrev GI(y:aa)(b:Bool)(i:Nat)(g:Nat→Value):St:=av 33 g [(2,pb 1 0),(4,pb 2 0),(5,.bool b),(9,af 0 n c),(10,iN n),(11,iN i)] [o,vB (zeroV 0),vB y]
theorem UB:(execE Tryz.prog BH [] [] [] 10 Lj (av 33 g [(0,af 0 n c),(2,pb 1 0),(4,pb 2 0),(5,.bool false)] [o,vB (zeroV 0),vB (zeroV 0)])).map (fun z=>(look2 1 [0,1,2] [2,4,5,9,10,11] (z.1,z.2.1),z.2.2)) =
 some ((.normal,[o,vB (zeroV 0),vB (zeroV 0)],[(2,pb 1 0),(4,pb 2 0),(5,.bool false),(9,af 0 n c),(10,iN n),(11,iN 0)],true),[],[],[]):=by kernel_rfl
theorem UI:(execE Tryz.prog BH [(12,.bool false)] [] [] 20 xK (GI o n c y b i g)).map (fun z=>(look2 0 [1,2] [2,4,5] (z.1,z.2.1),z.2.2)) =
 some ((.exit 0,[vB (zeroV 0),vB y],[(2,pb 0 0),(4,pb 1 0),(5,.bool b)],true),[iF i n false],[],[]):=by kernel_rfl
noncomputable def Qg(l:List db):List db:=iF i n true::gS 0 n c i::j8 (heapOf ([o,vB (zeroV 0),vB y] ++ [.dead]) aE).get 78 0 (i*7) (.agg ⟨vc x⟩)::l
def Gm:List (Tmp×Value):=[(12,.bool true),(13,pb 0 (i*7)),(14,.agg ⟨vc x⟩),(30,iN (i+1))]
noncomputable def N'(x:aa)(b:Bool):db:=(some (.bool (toldV x)),.bool b)
noncomputable def SH(x y:aa)(b:Bool):db:=(some (.bool (aV x y)),.bool b)
theorem UC:(execE Tryz.prog BH (Gm i x ++ [(17,.bool false)]) [] [] 20 xK (GI o n c y b i g)).map (fun z=>(look2 1 [0,1,2] [2,4,5,9,10,11] (z.1,z.2.1),z.2.2)) =
 some ((.normal,[o,vB (zeroV 0),vB y],[(2,pb 1 0),(4,pb 2 0),(5,.bool b),(9,af 0 n c),(10,iN n),(11,iN (i+1))],true),Qg o n c i x y [N' x false,dF i],[],[]):=by kernel_rfl
theorem UD:(execE Tryz.prog BH (Gm i x ++ [(17,.bool true)]) [] [] 20 xK (GI o n c y false i g)).map (fun z=>(look2 1 [0,1,2] [2,4,5,9,10,11] (z.1,z.2.1),z.2.2)) =
 some ((.normal,[o,vB (zeroV 0),vB x],[(2,pb 1 0),(4,pb 2 0),(5,.bool true),(9,af 0 n c),(10,iN n),(11,iN (i+1))],true),Qg o n c i x y [N' x true,dF i],[],[]):=by kernel_rfl
theorem UE:(execE Tryz.prog BH (Gm i x ++ [(17,.bool true),(26,.bool true)]) [] [] 20 xK (GI o n c y true i g)).map (fun z=>(look2 1 [0,1,2] [2,4,5,9,10,11] (z.1,z.2.1),z.2.2)) =
 some ((.normal,[o,vB (zeroV 0),vB x],[(2,pb 1 0),(4,pb 2 0),(5,.bool true),(9,af 0 n c),(10,iN n),(11,iN (i+1))],true),Qg o n c i x y [N' x true,SH x y true,dF i],[],[]):=by kernel_rfl
theorem UF:(execE Tryz.prog BH (Gm i x ++ [(17,.bool true),(26,.bool false)]) [] [] 20 xK (GI o n c y true i g)).map (fun z=>(look2 1 [0,1,2] [2,4,5,9,10,11] (z.1,z.2.1),z.2.2)) =
 some ((.normal,[o,vB (zeroV 0),vB y],[(2,pb 1 0),(4,pb 2 0),(5,.bool true),(9,af 0 n c),(10,iN n),(11,iN (i+1))],true),Qg o n c i x y [N' x true,SH x y false,dF i],[],[]):=by kernel_rfl
theorem UG:(execE Tryz.prog BH [] [] [] 20 Lk (av 33 g [(2,pb 0 0),(4,pb 1 0),(5,.bool b)] [vB (zeroV 0),vB y])).map (fun z=>(look2 0 [0] [2,3] (z.1,z.2.1),z.2.2)) =
 some ((.ret,[vB y],[(2,pb 0 0),(3,.bool b)],true),[],[],[]):=by kernel_rfl
theorem UH:(execQ Tryz.prog BH [] 40 ku ⟨tmsOf [ax] 0 .leaf,heapOf [.dead] aE,[]⟩).map (fun z=>(look2 0 [1] [2,3] (z.1,z.2.1),z.2.2))=some ((.ret,[vB (zeroV 0)],[(2,pb 0 0),(3,.bool false)],true),[]):=by kernel_rfl
end
def py(p:aa×Bool)(x:aa):aa×Bool:=bif toldV x&&(!p.2||aV x p.1) then (x,true) else p
def eP(vs:List aa):aa×Bool:=vs.foldl py (zeroV 0,false)
def BW(vs:List aa)(e:Exit)(st:St):Prop:=e = .ret∧∃ g,st=av 33 g [(2,pb 0 0),(3,.bool (eP vs).2)] [vB (eP vs).1]
theorem MQ(o:ae)(ho:aD o=true)(vs:List aa)(hn:vs.length<1000000)(hrow:vs = []∨∃ ty ro,o = .cells ty (aI vs) ro)(c:Nat)(W:bj) :
  aj Tryz.prog 33 W ku ⟨tmsOf [af 0 vs.length c] 0 .leaf,heapOf [o,.dead] aE,[]⟩ (BW vs):=by
 refine aj.seq (Q1:=fun x st=>x = .normal∧∃ g,st=av 33 g [(0,af 0 vs.length c),(2,pb 1 0)] [o,vB (zeroV 0)]) (aj.aK gK follows 1 _ _ _ _ (Uy o vs.length c) Met.nil ay.nil az.nil VF rfl rfl (cj ho _) fun g=>⟨rfl,g,rfl⟩) ?_ (fun x st hne hq=>absurd hq.1 hne)
 rintro st ⟨-,g,rfl⟩;refine aj.seq (Q1:=fun x st=>x = .normal∧∃ g,st=av 33 g [(0,af 0 vs.length c),(2,pb 1 0),(4,pb 2 0)] [o,vB (zeroV 0),vB (zeroV 0)]) (aj.aK gK follows 1 _ _ _ _ (Uz o vs.length c g) Met.nil ay.nil az.nil VG rfl rfl (cj ho _) fun g=>⟨rfl,g,rfl⟩) ?_ (fun x st hne hq=>absurd hq.1 hne)
 rintro st ⟨-,g,rfl⟩;refine aj.seq (Q1:=fun x st=>x = .normal∧∃ g,st=av 33 g [(0,af 0 vs.length c),(2,pb 1 0),(4,pb 2 0),(5,.bool false)] [o,vB (zeroV 0),vB (zeroV 0)]) (aj.aK gK follows 1 _ _ _ _ (UA o vs.length c g) Met.nil ay.nil az.nil VH rfl rfl (cj ho _) fun g=>⟨rfl,g,rfl⟩) ?_ (fun x st hne hq=>absurd hq.1 hne)
 rintro st ⟨-,g,rfl⟩;refine aj.seq (Q1:=fun x st=>x = .normal∧∃ g,st=av 33 g [(2,pb 0 0),(4,pb 1 0),(5,.bool (eP vs).2)] [vB (zeroV 0),vB (eP vs).1]) ?_ ?_ (fun x st hne hq=>absurd hq.1 hne)
 ·refine aj.seq (Q1:=fun x st=>x = .normal∧∃ g,st=GI o vs.length c (zeroV 0) false 0 g) (aj.aK gK follows 1 _ _ _ _ (UB o vs.length c g) Met.nil ay.nil az.nil VI rfl rfl (cj ho _) fun g=>⟨rfl,g,rfl⟩) ?_ (fun x st hne hq=>absurd hq.1 hne)
  rintro st ⟨-,g,rfl⟩;refine aj.block ?_
  refine aj.loop (fun k st=>∃ i y b g,i≤vs.length∧k=vs.length-i∧(vs.take i).foldl py (zeroV 0,false)=(y,b)∧st=GI o vs.length c y b i g) ?_ (k:=vs.length) ⟨0,_,_,g,Nat.zero_le _,rfl,rfl,rfl⟩
  rintro k st ⟨i,y,b,g,hi,hk,hf,rfl⟩;cases h12:decide (i<vs.length) with
  | false =>
    have hii:i=vs.length:=by have:=of_decide_eq_false h12; omega
    subst hii;rw [List.take_length] at hf;refine aj.aK gK follows 0 _ _ _ _ (UI o vs.length c vs.length y b g) (Met.cons (bx h12) Met.nil) ay.nil az.nil Fj rfl rfl (dE _) fun g'=>.inr ⟨by simp,?_⟩
    show (if (0:Nat)=0 then _ else _)
    rw [if_pos rfl];refine ⟨rfl,g',?_⟩
    unfold eP;rw [hf]
  | true =>
    have hlt:=of_decide_eq_true h12
    obtain ⟨x,hx⟩:=gu hlt;have hr:∃ ty ro,o = .cells ty (aI vs) ro:=by
      rcases hrow with h | h
      ·rw [h] at hlt; simp at hlt
      ·exact h
    have hst:=so (f:=py) (a:=(zeroV 0,false)) hx
    rw [hf] at hst;have hat:dU (heapOf ([o,vB (zeroV 0),vB y] ++ [.dead]) aE) 0 vs:=jI hr
    have met:∀ {l:List db},Met l→Met (Qg o vs.length c i x y l):=fun hl=>Met.cons (bx h12) (Met.cons (da hlt) (Met.cons (eX hat hx) hl))
    have hnx:Met [dF i]:=Met.cons (bA (by omega)) Met.nil
    have tob:∀ {b:Bool},toldV x=b→(N' x b).1=some (N' x b).2:=fun h=>by show some (Value.bool (toldV x))=_; rw [h]; rfl
    have leb:∀ {b:Bool},aV x y=b→(SH x y b).1=some (SH x y b).2:=fun h=>by show some (Value.bool (aV x y))=_; rw [h]; rfl
    have go:∀ {y':aa} {b':Bool} {g':Nat→Value},py (y,b) x=(y',b')→∃ k',k'<k∧∃ j z d g,j≤vs.length∧k'=vs.length-j∧(vs.take j).foldl py (zeroV 0,false)=(z,d)∧GI o vs.length c y' b' (i+1) g'=GI o vs.length c z d j g :=
      fun {y' b' g'} h=>⟨vs.length-(i+1),by omega,i+1,y',b',g',by omega,rfl,by rw [hst,h],rfl⟩
    cases h17:toldV x with
    | false =>
      refine aj.aK gK follows 1 _ _ _ _ (UC o vs.length c i x y b g) (met (Met.cons (tob h17) hnx)) ay.nil az.nil Fj rfl rfl (cj ho _) fun g'=>.inl ⟨rfl,go ?_⟩
      unfold py; rw [h17]; rfl
    | true =>
      cases b with
      | false =>
        refine aj.aK gK follows 1 _ _ _ _ (UD o vs.length c i x y g) (met (Met.cons (tob h17) hnx)) ay.nil az.nil Fj rfl rfl (cj ho _) fun g'=>.inl ⟨rfl,go ?_⟩
        unfold py; rw [h17]; rfl
      | true =>
        cases h26:aV x y with
        | true =>
          refine aj.aK gK follows 1 _ _ _ _ (UE o vs.length c i x y g) (met (Met.cons (tob h17) (Met.cons (leb h26) hnx))) ay.nil az.nil Fj rfl rfl (cj ho _) fun g'=>.inl ⟨rfl,go ?_⟩
          unfold py; simp only [h17,h26]; rfl
        | false =>
          refine aj.aK gK follows 1 _ _ _ _ (UF o vs.length c i x y g) (met (Met.cons (tob h17) (Met.cons (leb h26) hnx))) ay.nil az.nil Fj rfl rfl (cj ho _) fun g'=>.inl ⟨rfl,go ?_⟩
          unfold py; simp only [h17,h26]; rfl
 ·rintro st ⟨-,g,rfl⟩
  exact aj.aK gK follows 0 _ _ _ _ (UG (eP vs).1 (eP vs).2 g) Met.nil ay.nil az.nil VJ rfl rfl (dE _) fun g=>⟨rfl,g,rfl⟩
theorem H9(W:bj):aj Tryz.prog 33 W ku ⟨tmsOf [ax] 0 .leaf,heapOf [.dead] aE,[]⟩ (BW []) :=
 aj.piece gK follows 0 _ _ _ _ UH Met.nil Xp rfl rfl rfl (dE _) fun g=>⟨rfl,g,rfl⟩
def Es(vs:List aa):Value:=.tuple #[.agg ⟨vc (eP vs).1⟩,.bool (eP vs).2]
open Classical in
noncomputable def g21(vs:List aa):aB:=fun args hp=>match args with
 | [s]=>if TN vs s hp then some (Es vs,heapOf ([] ++ [.dead]) hp) else none
 | _=>none
theorem Tq(vs:List aa)(hn:vs.length<1000000):aq Tryz.prog 180 (g21 vs):=dL follows Tryz.func180 xG (by kernel_rfl) fun args hp v hp' h hk=>by
 unfold g21 at h;rw [ntmps21];split at h
 case h_2=>cases h
 rename_i s;split at h
 case isFalse=>cases h
 rename_i hT;cases h;have fin:∀ {e:Exit} {st:St},BW vs e st→(e = .normal∨e = .ret)∧st.df = []∧∃ v0,retVal Tryz.prog Tryz.f180 st=some v0∧gz v0=true ∧
   (∀ b∈([]:List Nat),∃ o,st.hp.get b=some o∧cZ o=true∧nT o=true)∧Es vs=sh3 [] hp.sz v0∧[]=cQ [] hp.sz st.hp:=by
  rintro e st ⟨rfl,g,rfl⟩;exact ⟨.inr rfl,rfl,_,SJ _ _ g,rfl,(fun b hb=>by cases hb),by simp [sh3,sh2,sh1,Es,vc],rfl⟩
 rcases hT with ⟨rfl,rfl⟩ | ⟨b,c,o,rfl,hb,hi,hr⟩
 ·refine ⟨[],[],[],rfl,rfl,rfl,rfl,(fun b hb=>by cases hb),rfl,(by simp),fun W=>?_⟩
  have e1 : [ax].map (sh3 [] 0) = [ax]:=by simp [sh3,sh2,sh1,ax]
  rw [e1];exact aj.mono (H9 W) fun e st q=>fin q
 ·refine ⟨[b],[],[],rfl,rfl,rfl,rfl,fun b' hb'=>?_,rfl,(by simp),fun W=>?_⟩
  ·have:b'=b:=by simpa using hb'
   subst this;exact ⟨o,hb,aY hi⟩
  ·have e1 : [af b vs.length c].map (sh3 [b] 0) = [af 0 vs.length c]:=by simp [sh3,sh2,sh1,j9,idxOf,af]
   rw [e1,ij hb hi];exact aj.mono (MQ (roBlk o) (bT hi) vs hn (eC hr) c W) fun e st q=>fin q
noncomputable def Kg:aB:=atRow (fun _=>True) g21
theorem Pu:aq Tryz.prog 180 Kg:=fw fun vs hn _=>Tq vs hn
open Classical in
theorem Kh{vs:List aa}{s:Value}{hp:Hp}(h:TN vs s hp)(hn:vs.length<1000000):Kg [s] hp=some (Es vs,heapOf [.dead] hp):=by
 unfold Kg;rw [iU h hn trivial];show (if TN vs s hp then _ else _)=_
 rw [if_pos h]; rfl
def vI(f:Bool)(b k:Nat):Value:=bif f then jg b k else ax
def kk(f:Bool)(k:Nat):Nat:=bif f then k else 0
section
variable (o A B:ae) (own x y u w:aa) (n c q i ka kb:Nat) (z x1 x2:Int) (b lb fa fb:Bool) (g:Nat→Value)
def h7(o:ae)(own:aa):Hp:=heapOf ([o,hB own] ++ [.dead]) aE
noncomputable def hu(r:Bool):db:=(some (.bool (decide (Int.ofNat n>100))),.bool r)
end
section
variable (own:aa)
end
theorem Jz{u w:aa}(h:aV u w=true):Kn u∧Kn w:=by
 unfold aV less at h;obtain ⟨h1,h2⟩:=Bool.and_eq_true_iff.1 h;exact ⟨h1,(Bool.and_eq_true_iff.1 h2).1⟩
def nn(x:aa):Bool:=!x.n
def oN(P:List aa)(p:aa×Bool):Prop:=(p.2=true→p.1∈P∧Kn p.1∧∀ x∈P,Kn x→aV x p.1=false)∧(p.2=false→∀ x∈P,¬ Kn x)
theorem nM{x:aa}:toldV x=true↔Kn x:=Iff.rfl
theorem Eu{P:List aa}{p:aa×Bool}(h:oN P p)(x:aa):oN (P ++ [x]) (py p x):=by
 obtain ⟨y,b⟩:=p;obtain ⟨h1,h2⟩:=h;unfold py;have inl:∀ {z},z∈P→z∈P ++ [x]:=fun h=>by simp [h]
 have mem:∀ {z},z∈P ++ [x]→z∈P∨z=x:=fun h=>by simpa using h
 cases ht:toldV x with
 | false =>
   have nk:¬ Kn x:=fun h=>by rw [nM.2 h] at ht; cases ht
   refine ⟨fun hb=>?_,fun hb z hz=>?_⟩
   ·obtain ⟨a1,a2,a3⟩:=h1 hb
    exact ⟨inl a1,a2,fun z hz hk=>by
      rcases mem hz with hz | rfl
      ·exact a3 z hz hk
      ·exact absurd hk nk⟩
   ·rcases mem hz with hz | rfl
    ·exact h2 hb z hz
    ·exact nk
 | true =>
   have hk:=nM.1 ht
   cases b with
   | false =>
     show oN _ (x,true)
     exact ⟨fun _=>⟨by simp,hk,fun z hz hkz=>by
       rcases mem hz with hz | rfl
       ·exact absurd hkz (h2 rfl z hz)
       ·exact sw.TV hk⟩,fun h=>by cases h⟩
   | true =>
     obtain ⟨a1,a2,a3⟩:=h1 rfl;cases hl:aV x y with
     | true =>
       show oN _ (x,true)
       exact ⟨fun _=>⟨by simp,hk,fun z hz hkz=>by
         rcases mem hz with hz | rfl
         ·cases e:aV z x with
          | false=>rfl
          | true=>rw [← a3 z hz hkz]; exact (sw.trans hkz hk a2 e hl).symm
         ·exact sw.TV hk⟩,fun h=>by cases h⟩
     | false =>
       show oN _ (y,true)
       exact ⟨fun _=>⟨inl a1,a2,fun z hz hkz=>by
         rcases mem hz with hz | rfl
         ·exact a3 z hz hkz
         ·exact hl⟩,fun h=>by cases h⟩
theorem wk:∀ {R P:List aa} {p:aa×Bool},oN P p→oN (P++R) (R.foldl py p)
 | [],P,p,h=>by rw [List.append_nil]; exact h
 | r::R,P,p,h=>by
   have:=wk (R:=R) (Eu h r)
   rw [List.append_assoc] at this;exact this
theorem Et(vs:List aa):oN vs (eP vs):=by
 have:=wk (R:=vs) (P:=[]) (p:=(zeroV 0,false)) ⟨(fun h=>by cases h),(fun _ x hx=>by cases hx)⟩
 exact this
section
variable {hp:Hp}
end
theorem eU(ids:List Int):aD (cS ids)=true:=by
 cases ids with
 | nil=>rfl
 | cons=>exact dY _
theorem ba{a b:Bool}(h:a=b):(some (Value.bool a))=some (.bool b):=by rw [h]
section
variable {o A B:ae} {own y:aa} {c q:Nat} {lb fa fb:Bool} {vs:List aa} {ia ib:List Int}
end
def vS(f:Bool)(b n c:Nat):Value:=bif f then af b n c else ax
def hS(f:Bool)(o:ae):Hp:=bif f then heapOf [o,.dead] aE else heapOf [.dead] aE
def BZ(fn:Func)(v0:Value)(O:List ae)(e:Exit)(st:St):Prop:=(e = .normal∨e = .ret)∧st.df = []∧retVal Tryz.prog fn st=some v0∧∀ B,O[0]? = some B→st.hp.get 0=some B
def stay(v:Value):Prop:=gz v=true∧∀ K B,sh3 K B v=v
theorem w5(k:IntKind)(z:Int):stay (.int k z):=⟨rfl,fun _ _=>rfl⟩
theorem yC(y:aa):stay (cN y):=⟨rfl,fun _ _=>by simp [sh3,sh2,sh1,cN]⟩
abbrev xn:=List Value→Option (Value×List ae)
open Classical in
noncomputable def rowG(vs:List aa)(A:xn):aB:=fun args hp=>match args with
 | s::rest=>if TN vs s hp then (A rest).map fun r=>(sh3 (List.range r.2.length) hp.sz r.1,heapOf (r.2 ++ [.dead]) hp) else none
 | _=>none
structure l7 (fn:Func) (code:Code) (N:Nat) (vs:List aa) (rest:List Value) (v0:Value) (O:List ae):Prop where
 out:O = []∨∃ B,O = [B]∧aD B=true∧nT B=true
 okv:gz v0=true
 flat:∀ r∈rest,stay r
 len:rest.length+1≤N
 run:∀ f o c W,aD o=true→(vs = []∨∃ ty ro,o = .cells ty (aI vs) ro)→(f=false→vs = []∧o = .dead)→aj Tryz.prog N W code ⟨tmsOf (vS f 0 vs.length c::rest) 0 .leaf,hS f o,[]⟩ (BZ fn v0 O)
theorem w6{rest:List Value}(h:∀ r∈rest,stay r)(K:List Nat):rest.map (sh3 K 0)=rest:=by
 induction rest with
 | nil=>rfl
 | cons r rest ih=>rw [List.map_cons,(h r (.head _)).2,ih fun x hx=>h x (.tail _ hx)]
theorem w4{rest:List Value}(h:∀ r∈rest,stay r):rest.all gz=true:=List.all_eq_true.2 fun r hr=>(h r hr).1
open Classical in
theorem wW{f:FuncId}{fn:Func}{code:Code}{N:Nat}{vs:List aa}{A:xn}(hf:Tryz.prog.funcs[f]? = some fn)(hb:fn.body=some code)(hnm:(fn.name == "runtime.NumGoroutine")=false)(hN:fn.ntmps=N)
  (H:∀ rest v0 O,A rest=some (v0,O)→l7 fn code N vs rest v0 O):aq Tryz.prog f (rowG vs A):=dL follows hf hb hnm fun args hp v hp' h hk=>by
 rw [hN];unfold rowG at h;split at h
 case h_2=>cases h
 rename_i s rest;split at h
 case isFalse=>cases h
 rename_i hT;obtain ⟨⟨v0,O⟩,hA,h2⟩:=Option.map_eq_some_iff.1 h;cases h2;have R:=H rest v0 O hA
 have run:∃ (K0:List Nat),nodupB K0=true∧(∀ b∈K0,∃ o,hp.get b=some o∧bP o=true)∧(s::rest).all gz=true∧∀ W,aj Tryz.prog N W code ⟨tmsOf ((s::rest).map (sh3 K0 0)) 0 .leaf,ew K0 hp,[]⟩ (BZ fn v0 O):=by
  rcases hT with ⟨rfl,rfl⟩ | ⟨b,c,ob,rfl,hb,hi,hr⟩
  ·refine ⟨[],rfl,(fun b hb=>by cases hb),(by rw [List.all_cons,w4 R.flat]; rfl),fun W=>?_⟩
   have e1:(ax::rest).map (sh3 [] 0)=ax::rest:=by rw [List.map_cons,w6 R.flat]; simp [sh3,sh2,sh1,ax]
   rw [e1];exact R.run false .dead 0 W rfl (.inl rfl) fun _=>⟨rfl,rfl⟩
  ·refine ⟨[b],rfl,fun b' hb'=>?_,(by rw [List.all_cons,w4 R.flat]; rfl),fun W=>?_⟩
   ·have:b'=b:=by simpa using hb'
    subst this;exact ⟨ob,hb,aY hi⟩
   ·have e1:(af b vs.length c::rest).map (sh3 [b] 0)=af 0 vs.length c::rest:=by rw [List.map_cons,w6 R.flat]; simp [sh3,sh2,sh1,j9,idxOf,af]
    rw [e1,ij hb hi];exact R.run true (roBlk ob) c W (bT hi) (eC hr) fun h=>by cases h
 obtain ⟨K0,n0,hst,hall,hrun⟩:=run;have hle:(s::rest).length≤N:=by have:=R.len; simpa using this
 have hnn:nodupB (List.range O.length)=true:=by
  rcases R.out with h | ⟨B,h,-⟩ <;> rw [h] <;> rfl
 refine ⟨K0,List.range O.length,O,rfl,by simp,n0,hnn,hst,hall,hle,fun W=>aj.mono (hrun W) fun e st q=>?_⟩
 obtain ⟨q1,q2,q3,q4⟩:=q;refine ⟨q1,q2,v0,q3,R.okv,?_,rfl,?_⟩
 ·intro b' hb'
  rcases R.out with h | ⟨B,h,hi,hw⟩
  ·subst h; cases hb'
  ·subst h
   have:b'=0:=by simpa using hb'
   subst this;exact ⟨B,q4 B rfl,e8 hi,hw⟩
 ·rcases R.out with h | ⟨B,h,hi,hw⟩
  ·subst h; rfl
  ·subst h
   show [B] = [j4 [0] hp.sz ((st.hp.get 0).getD .dead)]
   rw [q4 B rfl];exact congrArg (fun z=>[z]) (dh hi [0] hp.sz).symm
noncomputable def nL(A:List aa→xn):aB:=atRow (fun _=>True) fun vs=>rowG vs (A vs)
theorem jV{f:FuncId}{fn:Func}{code:Code}{N:Nat}{A:List aa→xn}(hf:Tryz.prog.funcs[f]? = some fn)(hb:fn.body=some code)(hnm:(fn.name == "runtime.NumGoroutine")=false)(hN:fn.ntmps=N)
 (H:∀ vs,vs.length<1000000→∀ rest v0 O,A vs rest=some (v0,O)→l7 fn code N vs rest v0 O):aq Tryz.prog f (nL A):=fw fun vs hn _=>wW hf hb hnm hN (H vs hn)
open Classical in
theorem rB{A:List aa→xn}{vs:List aa}{s:Value}{rest:List Value}{hp:Hp}{v0:Value}{O:List ae}(h:TN vs s hp)(hn:vs.length<1000000)(hA:A vs rest=some (v0,O)) :
  nL A (s::rest) hp=some (sh3 (List.range O.length) hp.sz v0,heapOf (O ++ [.dead]) hp):=by
 unfold nL;rw [iU h hn trivial];show (if TN vs s hp then _ else _)=_
 rw [if_pos h,hA]; rfl
theorem yN{A:List aa→xn}{vs:List aa}{s:Value}{rest:List Value}{hp:Hp}{v0:Value}(h:TN vs s hp)(hn:vs.length<1000000)(hA:A vs rest=some (v0,[]))(hv:sh3 [] hp.sz v0=v0):nL A (s::rest) hp=some (v0,heapOf [.dead] hp):=by
 rw [rB h hn hA];show some (sh3 [] hp.sz v0,_)=_
 rw [hv]; rfl
theorem oJ{A:List aa→xn}{vs:List aa}{s:Value}{rest:List Value}{hp:Hp}{ids:List Int}(h:TN vs s hp)(hn:vs.length<1000000)(hA:A vs rest=some (rowIv ids 0,qW ids)) :
  padF (nL A) (s::rest) hp=some (rowIv ids hp.sz,heapOf [cS ids,.dead] hp):=by
 refine ES ?_
 rw [rB h hn hA];cases ids with
 | nil=>rfl
 | cons i ids=>show some (sh3 [0] hp.sz (jg 0 _),_)=_; simp [sh3,sh2,sh1,j9,idxOf,jg,rowIv]
theorem wV(ids:List Int):qW ids = []∨∃ B,qW ids = [B]∧aD B=true∧nT B=true:=by
 cases ids with
 | nil=>exact .inl rfl
 | cons i ids=>exact .inr ⟨iB (i::ids),rfl,dY _,rfl⟩
theorem Aj(ids:List Int):gz (rowIv ids 0)=true:=by cases ids <;> rfl
theorem ml(us:List aa):aD (jF us)=true:=by
 cases us with
 | nil=>rfl
 | cons=>exact aw _
def gj(f:Bool)(b:Nat)(B:ae):List eI:=bif f then [.put b .dead,.push B] else [.push B]
theorem ou{f:Bool}{vs:List aa}{o:ae}(h:f=false→vs = []∧o = .dead):kk f vs.length=vs.length:=by
 cases f with
 | true=>rfl
 | false=>rw [(h rfl).1]; rfl
section
variable (f:Bool) (o:ae) (n c i:Nat) (x y:aa) (b:Bool) (g:Nat→Value)
end
theorem yZ{get:Nat→Option ae}{sz b b2 k:Nat}{ws:List aa}{x:aa}{f:Bool}(hf:f = !ws.isEmpty)(hb:get b=some (jF ws))(hb2:get b2=some (vB x))(hk:k=ws.length)(hl:k<2000000) :
  aAppend Tryz.prog get sz [24,24] [vS f b k 22,af b2 1 22]=some (aW sz (k+1),gj f b (ab (ws ++ [x]))):=by
 cases ws with
 | cons w ws=>subst hf; exact GS hb hb2 hk hl
 | nil =>
   subst hf hk;obtain ⟨i,hi,h7,px⟩:=mi;obtain ⟨z,hz,hzl⟩:=oK;have hb2':get b2=some (.cells 78 (vc x) false):=hb2
   have hsrc:aSrc Tryz.prog get 7 z (.slice 78) (af b2 1 22)=some (vc x,1):=by
     unfold aSrc;simp only [af,srcLen,srcCells,hb2'];rw [if_neg (by omega),if_neg (by omega),cu (n:=1*7) rfl]
     rfl
   show aAppend Tryz.prog get sz [24,24] [ax,af b2 1 22]=some (aW sz 1,[.push (ab [x])])
   unfold aAppend;simp only [Tryz.underlying24,hi,hz,h7,px,hzl];rw [if_neg (by decide)]
   simp only [hsrc];rw [if_neg (by simp [vc,isOne])]
   simp only [ax];rw [if_neg (by omega),if_neg (by omega)]
   have e:aI [x]=vc x:=by unfold aI; simp
   unfold ab;rw [e]; rfl
theorem va{get:Nat→Option ae}{sz b b2 k:Nat}{ids:List Int}{x:Int}{f:Bool}(hf:f = !ids.isEmpty)(hb:get b=some (cS ids))(hb2:get b2=some (.cells 3 [iC x] false))(hk:k=ids.length)(hl:k<2000000) :
  aAppend Tryz.prog get sz [56,56] [vI f b k,jg b2 1]=some (jg sz (k+1),gj f b (iB (ids ++ [x]))):=by
 cases ids with
 | cons w ids=>subst hf; exact GQ hb hb2 hk hl
 | nil =>
   subst hf hk;obtain ⟨i,hi,h1,h8⟩:=Jv;obtain ⟨z,hz,hzl⟩:=JQ;have hsrc:aSrc Tryz.prog get 1 z (.slice 3) (jg b2 1)=some ([iC x],1):=by
     unfold aSrc jg;simp only [srcLen,srcCells,hb2];rw [if_neg (by omega),if_neg (by omega),cu (n:=1*1) rfl]
     rfl
   show aAppend Tryz.prog get sz [56,56] [ax,jg b2 1]=some (jg sz 1,[.push (iB [x])])
   unfold aAppend;simp only [underlying31,hi,hz,h1,h8,hzl];rw [if_neg (by decide)]
   simp only [hsrc];rw [if_neg (by simp [isOne,iC])]
   simp only [ax];rw [if_neg (by omega),if_neg (by omega)]
   rfl
noncomputable def Wu(h:Hp)(sz b k b2:Nat)(f:Bool)(us:List aa):js:=(aAppend Tryz.prog h.get sz [24,24] [vS f b k 22,af b2 1 22],(aW sz (k+1),gj f b (ab us)))
noncomputable def W8(h:Hp)(sz b k b2:Nat)(f:Bool)(us:List Int):js:=(aAppend Tryz.prog h.get sz [56,56] [vI f b k,jg b2 1],(jg sz (k+1),gj f b (iB us)))
section
variable (f fu fm d fi:Bool) (o U M I:ae) (n c u m i k q j:Nat) (x w:aa) (us ws zs ys:List aa) (ids jds:List Int) (g:Nat→Value)
end
theorem kW{α : Type}{l:List α}(h:l≠[]):(!l.isEmpty)=true:=by
 cases l with
 | nil=>exact absurd rfl h
 | cons=>rfl
theorem pO{α : Type}(l:List α)(x : α):(!(l ++ [x]).isEmpty)=true:=kW (by simp)
theorem pS{l:List aa}(h:l≠[]):jF l=ab l:=by
 cases l with
 | nil=>exact absurd rfl h
 | cons=>rfl
theorem uk{l:List Int}(h:l≠[]):cS l=iB l:=by
 cases l with
 | nil=>exact absurd rfl h
 | cons=>rfl
theorem qI{α : Type}(l:List α)(x : α):l ++ [x]≠[]:=by simp
section
variable {o:ae} {vs us:List aa} {c i:Nat} {x:aa}
end
theorem AX{N:Nat}{W:bj}{b:Code}{kb:Nat}{α β : Type}{vs:List β}(F : α→β→α)(a0 : α)(I : α→Nat→(Nat→Value)→St)(Q : α→St→Prop)(R:Exit→St→Prop)
  (hx:∀ a g,vs.foldl F a0=a→aj Tryz.prog N W b (I a vs.length g) (fun e st=>e = .exit kb∧Q a st))
  (hs:∀ i x a g,vs[i]? = some x→i<vs.length→(vs.take i).foldl F a0=a→aj Tryz.prog N W b (I a i g) (fun e st=>(e = .normal∧∃ g',st=I (F a x) (i+1) g')∨(e = .ret∧R e st)))
  (g:Nat→Value):aj Tryz.prog N W (.block kb (.loop b)) (I a0 0 g) (fun e st=>(e = .normal∧Q (vs.foldl F a0) st)∨(e = .ret∧R e st)):=by
 refine aj.block ?_
 refine aj.loop (fun k st=>∃ i a g,i≤vs.length∧k=vs.length-i∧(vs.take i).foldl F a0=a∧st=I a i g) ?_ (k:=vs.length) ⟨0,a0,g,Nat.zero_le _,rfl,rfl,rfl⟩
 rintro k st ⟨i,a,g,hi,hk,ha,rfl⟩;rcases Nat.lt_or_ge i vs.length with hlt | hge
 ·have hxx:vs[i]? = some vs[i]:=List.getElem?_eq_getElem hlt
  refine aj.mono (hs i vs[i] a g hxx hlt ha) fun e st q=>?_
  rcases q with ⟨rfl,g',rfl⟩ | ⟨rfl,hr⟩
  ·exact .inl ⟨rfl,vs.length-(i+1),by omega,i+1,_,g',by omega,rfl,by rw [so hxx,ha],rfl⟩
  ·exact .inr ⟨by simp,.inr ⟨rfl,hr⟩⟩
 ·have hii:i=vs.length:=by omega
  subst hii;rw [List.take_length] at ha;refine aj.mono (hx a g ha) fun e st q=>.inr ?_
  obtain ⟨rfl,hq⟩:=q;refine ⟨by simp,?_⟩
  show (if kb=kb then _ else _)
  rw [if_pos rfl];exact .inl ⟨rfl,by rw [ha]; exact hq⟩
theorem jy{N:Nat}{W:bj}{b:Code}{kb:Nat}{α β : Type}{vs:List β}(F : α→β→α)(a0 : α)(I : α→Nat→(Nat→Value)→St)(Q : α→St→Prop)
  (hx:∀ a g,vs.foldl F a0=a→aj Tryz.prog N W b (I a vs.length g) (fun e st=>e = .exit kb∧Q a st))
  (hs:∀ i x a g,vs[i]? = some x→i<vs.length→(vs.take i).foldl F a0=a→aj Tryz.prog N W b (I a i g) (fun e st=>e = .normal∧∃ g',st=I (F a x) (i+1) g'))
  (g:Nat→Value):aj Tryz.prog N W (.block kb (.loop b)) (I a0 0 g) (fun e st=>e = .normal∧Q (vs.foldl F a0) st) :=
 aj.mono (AX F a0 I Q (fun _ _=>False) hx (fun i x a g h1 h2 h3=>aj.mono (hs i x a g h1 h2 h3) fun e st q=>.inl q) g) fun e st q=>by
  rcases q with q | ⟨-,h⟩
  ·exact q
  ·exact h.elim
def unH:Value→Option aa
 | .agg cs=>match cs.toList with
   | [.bool n,.int .i64 t,.int .i64 o,.int .i64 r,.int .i64 d,.int .i64 i]=>some ⟨0,n,t,o,r,d,i⟩
   | _=>none
 | _=>none
theorem nN{v:Value}{y:aa}(h:unH v=some y):v=cN y:=by
 unfold unH at h;split at h
 ·rename_i cs
  split at h
  ·rename_i n t o r d i hcs
   cases h;obtain rfl:=cJ hcs;rfl
  ·cases h
 ·cases h
def DI(p:aa→Bool)(us:List aa)(x:aa):List aa:=bif p x then us ++ [x] else us
theorem qu{p:aa→Bool}:∀ {vs us:List aa},vs.foldl (DI p) us=us++vs.filter p
 | [],us=>by simp
 | v::vs,us=>by
   rw [List.foldl_cons,qu];unfold DI;cases h:p v with
   | true=>rw [List.filter_cons_of_pos h]; simp
   | false=>rw [List.filter_cons_of_neg (by rw [h]; simp)]; rfl
section
variable (f fu fi b:Bool) (o U I:ae) (n c u i q:Nat) (x own:aa) (zs:List aa) (ids:List Int) (g:Nat→Value)
end
section
variable (f fu fi b:Bool) (o U I:ae) (n c u i q:Nat) (x own:aa) (zs:List aa) (ids:List Int) (g:Nat→Value)
end
section
variable (f fu:Bool) (o U:ae) (n c u i:Nat) (lt lo lr keep:Int) (x:aa) (zs:List aa) (g:Nat→Value)
def Pe(o U:ae)(lt lo lr:Int):Hp:=heapOf ([o,U,o3 lt lo lr] ++ [.dead]) aE
end
def AI_unL:Value→Option (Int×Int×Int)
 | .agg cs=>match cs.toList with
   | [.int .i64 a,.int .i64 b,.int .i64 c]=>some (a,b,c)
   | _=>none
 | _=>none
theorem rC{v:Value}{a b c:Int}(h:AI_unL v=some (a,b,c)):v=jC a b c:=by
 unfold AI_unL at h;split at h
 ·rename_i cs
  split at h
  ·rename_i n t o hcs
   cases h;obtain rfl:=cJ hcs;rfl
  ·cases h
 ·cases h
theorem qE{α β : Type}{m : α→β}:∀ {vs:List α} {us:List β},vs.foldl (fun us x=>us ++ [m x]) us=us++vs.map m
 | [],us=>by simp
 | v::vs,us=>by rw [List.foldl_cons,qE]; simp
noncomputable def N1:aB:=padF (atRow (fun _=>True) g29)
theorem Pw:aq Tryz.prog 169 N1:=hU (fw fun vs hn _=>Tu vs hn)
end Go.Proofs.YtgeoommlmddgpaaGreat.LtA
namespace Go.Proofs.YtgeoommlmddgpaaGreat.LtA
open Go Go.Proofs Go.Proofs.YtgeoommlmddgpaaGreat.AI Go.RowKit
section
variable {hp:Hp}
theorem Ki{vs:List aa}{s:Value}(y:aa)(h:TN vs s hp)(hn:vs.length<1000000):Su [s,.int .i64 y.id,cN y] hp=match aF vs&&cy y with
  | true=>some (.tuple #[af hp.sz (cr vs y).length (setC s vs y.id),iN 0],heapOf [ab (cr vs y),.dead] hp)
  | false=>some (.tuple #[ax,iN 1],heapOf [.dead] hp):=by
 unfold Su;rw [iU h hn trivial,Ma y h];all_goals cases (aF vs&&cy y) <;> rfl
end
end Go.Proofs.YtgeoommlmddgpaaGreat.LtA
namespace Go.Proofs.YtgeoommlmddgpaaGreat.LtL
open Go Go.Proofs Go.Proofs.YtgeoommlmddgpaaGreat.AI Go.RowKit Go.Proofs.YtgeoommlmddgpaaGreat.Sort Go.Proofs.YtgeoommlmddgpaaGreat.LtA
def ab(us:List aa):ae:=.cells 151 (aI us) false
def vB(x:aa):ae:=.cells 151 (vc x) false
theorem aw(vs:List aa):aD (.cells 151 (aI vs) false)=true:=dC vs
theorem bq(us:List aa):∀ r:List ae,∀ i,i<1→∀ o',(ab us::r)[i]? = some o'→dD 0 o':=cj (aw us)
theorem yv:cx Tryz.prog 151=some 7:=by kernel_rfl
theorem OU:tagg Tryz.prog 151=some true:=by kernel_rfl
theorem underlying80:Tryz.prog.underlying 149=some (.slice 151):=by kernel_rfl
theorem bF{b n i c:Nat}(h:i<n):fstV ((aIndexAddr Tryz.prog 149 (af b n c) (iN i)).map fun v=>(v,none))=some (.pointer (some ⟨b,i*7,none⟩)):=by
 have h1:(0:Int)≤Int.ofNat i∧Int.ofNat i<(n:Int):=⟨Int.natCast_nonneg i,by simpa using h⟩
 simp only [aIndexAddr,af,iN,underlying80,yv];rw [if_pos h1];simp [fstV]
theorem bU{hp:Hp}{b:Nat}{vs:List aa}{i:Nat}{p:aa}(ho:dU hp b vs)(h:vs[i]? = some p):aLoad Tryz.prog hp.get 151 (.pointer (some ⟨b,i*7,none⟩))=some (.agg ⟨vc p⟩):=by
 obtain ⟨ty,ro,rest,hg⟩:=ho;simp only [aLoad,hg,OU,yv];have:=kT (f:=vc) (k:=7) (ps:=vs) (fun _ _=>rfl) h
 unfold aI;rw [vM this];rfl
noncomputable def gS(b n c:Nat)(i:Nat):db:=(fstV ((aIndexAddr Tryz.prog 149 (af b n c) (iN i)).map fun v=>(v,none)),pb b (i*7))
def Fc:Value:=.func (.func 126) #[] #[]
theorem Qh{m:BM}{h:HG}{v:Value}(r:ah m h Fc v):v=Fc:=by
 unfold Fc at *;cases r with
 | flat hf=>rfl
 | func h1 h2 h3 h4 =>
   rename_i a' c';have e1:a' = #[]:=Array.eq_empty_of_size_eq_zero h1.symm
   have e2:c' = #[]:=Array.eq_empty_of_size_eq_zero h3.symm
   subst e1 e2;rfl
def cH(us:List aa)(s:Value)(hp:Hp):Prop:=∃ b c,s=af b us.length c∧hp.get b=some (ab us)
theorem cH.uniq{us vs:List aa}{s:Value}{hp:Hp}(h1:cH us s hp)(h2:cH vs s hp):us=vs:=by
 obtain ⟨b,c,rfl,hb⟩:=h1;obtain ⟨b',c',e,hb'⟩:=h2;simp only [af,Value.slice.injEq,Option.some.injEq,Addr.mk.injEq,and_true] at e;obtain ⟨rfl,-,-⟩:=e;rw [hb] at hb';simp only [ab,Option.some.injEq,ae.cells.injEq,true_and,and_true] at hb';exact rG hb'
open Classical in
noncomputable def atW(k:List aa→aB):aB:=fun args hp=>match args with
 | s::_=>if h:∃ us,cH us s hp∧us.length<1000000 then k h.choose args hp else none
 | _=>none
theorem fO{f:FuncId}{k:List aa→aB}(h:∀ us,us.length<1000000→aq Tryz.prog f (k us)):aq Tryz.prog f (atW k):=by
 intro args hp v hp' he hk;unfold atW at he;split at he
 case h_2=>cases he
 split at he
 ·rename_i hx
  exact h _ hx.choose_spec.2 _ _ _ _ he hk
 ·cases he
theorem l9{k:List aa→aB}{us:List aa}{s:Value}{r:List Value}{hp:Hp}(h:cH us s hp)(hn:us.length<1000000):atW k (s::r) hp=k us (s::r) hp:=by
 unfold atW;have hx:∃ us,cH us s hp∧us.length<1000000:=⟨us,h,hn⟩
 simp only;rw [dif_pos hx];rw [hx.choose_spec.1.uniq h]
def hW(us:List aa):Hp:=heapOf ([ab us] ++ [.dead]) aE
theorem dw(us:List aa):(hW us).get 0=some (ab us):=by unfold hW; rw [al]; rfl
theorem fl(us:List aa):dU (hW us) 0 us:=.of (dw us)
noncomputable def yz(h:Hp)(i:Nat)(v:aa)(us':List aa):js:=((aStore Tryz.prog h.get 151 (pb 0 (i*7)) (.agg ⟨vc v⟩)).map fun es=>(undef,es),(undef,[.put 0 (ab us')]))
theorem jP{h:Hp}{us:List aa}{i:Nat}{v:aa}(hg:h.get 0=some (ab us))(hi:i<us.length):(yz h i v (us.set i v)).1=some (yz h i v (us.set i v)).2:=by
 obtain ⟨x,hx⟩:∃ x,us[i]? = some x:=⟨_,List.getElem?_eq_getElem hi⟩
 have hcell:cellsL (.agg ⟨vc v⟩)=vc v:=rfl
 have hput:=pX (k:=0) (y:=v) (ns:=vc v) hx (by simp [vc]) (fun j hj=>by
  rw [if_pos ⟨Nat.zero_le _,by show j<0+7; omega⟩,Nat.sub_zero])
 rw [Nat.add_zero] at hput;unfold ab at hg;unfold yz pb;simp only [aStore,hg,yv,hcell];rw [if_pos]
 ·rw [hput]; rfl
 ·rw [Bool.and_eq_true,Bool.and_eq_true]
  refine ⟨⟨rfl,rfl⟩,decide_eq_true ?_⟩
  rw [bV]; omega
theorem nu{h:Hp}{us:List aa}:(h.put 0 (ab us)).get 0=some (ab us):=by rw [Hp.dv,if_pos rfl]
theorem eX{h:Hp}{us:List aa}{i:Nat}{x:aa}(hat:dU h 0 us)(hx:us[i]? = some x):(j8 h.get 151 0 (i*7) (.agg ⟨vc x⟩)).1=some (j8 h.get 151 0 (i*7) (.agg ⟨vc x⟩)).2:=bU hat hx
theorem da{i n c:Nat}(h:i<n):(gS 0 n c i).1=some (gS 0 n c i).2:=bF h
noncomputable def Jl:Code:=(Tryz.f219.body).getD .skip
noncomputable def CQ:Code:=sL Jl
noncomputable def za:Code:=nO (jn (sR Jl))
noncomputable abbrev zk:Code:=.seq CQ (.block 0 (.loop za))
theorem GZ:Tryz.f219.body=some zk:=by kernel_rfl
theorem ntmps114:Tryz.f219.ntmps=38:=by kernel_rfl
theorem RO:codeSafe Tryz.prog 38 CQ=true:=by kernel_rfl
theorem JK:codeSafe Tryz.prog 38 za=true:=by kernel_rfl
theorem Ut(O:List ae)(g:Nat→Value):retVal Tryz.prog Tryz.f219 (av 38 g [] O)=some vU:=by kernel_rfl
section
variable (us us1 us2:List aa) (n c a m k i:Nat) (x y:aa) (f:Value) (g:Nat→Value)
abbrev GH(us:List aa)(i:Nat)(g:Nat→Value):St:=av 38 g [(0,af 0 n c),(1,iN a),(2,iN m),(3,iN k),(10,iN i)] [ab us]
theorem QP:(execE Tryz.prog c0 [] [] [] 10 CQ ⟨tmsOf [af 0 n c,iN a,iN m,iN k,f] 0 .leaf,heapOf [ab us,.dead] aE,[]⟩).map (fun z=>(look2 1 [0] [0,1,2,3,10] (z.1,z.2.1),z.2.2)) =
 some ((.normal,[ab us],[(0,af 0 n c),(1,iN a),(2,iN m),(3,iN k),(10,iN 0)],true),[],[],[]):=by kernel_rfl
theorem QR:(execE Tryz.prog c0 [(13,.bool false)] [] [] 10 za (GH n c a m k us i g)).map (fun z=>(look2 1 [0] [] (z.1,z.2.1),z.2.2))=some ((.exit 0,[ab us],[],true),[iF i k false],[],[]):=by kernel_rfl
theorem QQ:(execE Tryz.prog c0 [(13,.bool true),(19,iN (a+i)),(23,iN (m+i)),(27,iN (m+i)),(28,pb 0 ((m+i)*7)),(29,.agg ⟨vc y⟩),(33,iN (a+i)),(34,pb 0 ((a+i)*7)),(35,.agg ⟨vc x⟩),(36,pb 0 ((a+i)*7)),(37,pb 0 ((m+i)*7)),(15,iN (i+1))] []
  [(1036,undef,[.put 0 (ab us1)]),(1037,undef,[.put 0 (ab us2)])] 10 za (GH n c a m k us i g)).map (fun z=>(look2 1 [0] [0,1,2,3,10] (z.1,z.2.1),z.2.2)) =
 some ((.normal,[ab us2],[(0,af 0 n c),(1,iN a),(2,iN m),(3,iN k),(10,iN (i+1))],true),
  [iF i k true,yY a i,yY m i,yY m i,gS 0 n c (m+i),j8 (hW us).get 151 0 ((m+i)*7) (.agg ⟨vc y⟩),yY a i,gS 0 n c (a+i),j8 (hW us).get 151 0 ((a+i)*7) (.agg ⟨vc x⟩),gS 0 n c (a+i),gS 0 n c (m+i),dF i],[],
  [yz (hW us) (a+i) y us1,yz ((hW us).put 0 (ab us1)) (m+i) x us2]):=by kernel_rfl
end
def uV(N:Nat)(us:List aa)(e:Exit)(st:St):Prop:=e = .normal∧∃ g,st=av N g [] [ab us]
theorem IJ{A X B Y C us:List aa}{n c a m k:Nat}{f:Value}(hus:us=A++X++B++Y++C)(hX:X.length=k)(hY:Y.length=k)(hA:A.length=a)(hm:m=a+k+B.length)(hn:n=us.length)(hl:n<1000000)(W:bj)(x:Nat×Nat×Nat) :
  aZ Tryz.prog 38 W x zk ⟨tmsOf [af 0 n c,iN a,iN m,iN k,f] 0 .leaf,heapOf [ab us,.dead] aE,[]⟩ (uV 38 (A++Y++B++X++C)):=by
 refine aZ.seq (Q1:=fun e st=>e = .normal∧∃ g,st=GH n c a m k us 0 g) (aZ.piece jY follows 1 _ _ _ _ (QP us n c a m k f) Met.nil ay.nil az.nil RO rfl rfl (bq us []) rfl fun g=>⟨rfl,g,rfl⟩) ?_ (fun x st hne hq=>absurd hq.1 hne)
 rintro st ⟨-,g,rfl⟩;refine aZ.block ?_
 refine aZ.loop (fun j st=>∃ X1 X2 Y1 Y2 g,X=X1++X2∧Y=Y1++Y2∧X1.length=Y1.length∧j=X2.length∧st=GH n c a m k (A++Y1++X2++B++X1++Y2++C) X1.length g) ?_ (k:=X.length)
  ⟨[],X,[],Y,g,rfl,rfl,rfl,rfl,by simp [hus]⟩
 rintro j st ⟨X1,X2,Y1,Y2,g,rfl,rfl,h1,rfl,rfl⟩;rw [List.length_append] at hX hY;cases h13:decide (X1.length<k) with
 | false =>
   have hz:X2 = []:=List.eq_nil_of_length_eq_zero (by have:=of_decide_eq_false h13; omega)
   have hz2:Y2 = []:=List.eq_nil_of_length_eq_zero (by have:=of_decide_eq_false h13; omega)
   subst hz hz2;refine aZ.piece jY follows 1 _ _ _ _ (QR (A++Y1 ++ []++B++X1 ++ []++C) n c a m k X1.length g) (Met.cons (bx h13) Met.nil) ay.nil az.nil JK rfl rfl (bq _ []) rfl fun g'=>.inr ⟨by simp,?_⟩
   show (if (0:Nat)=0 then _ else _)
   rw [if_pos rfl];exact ⟨rfl,g',by simp⟩
 | true =>
   have hlt:=of_decide_eq_true h13
   match X2,Y2 with
   | [],_=>simp at hX; omega
   | _::_,[]=>simp at hY hX; omega
   | x'::X2,y'::Y2 =>
     have e1:A++Y1++x'::X2++B++X1++y'::Y2++C=(A++Y1)++x'::(X2++B++X1++y'::Y2++C):=by simp
     have e2:(A++Y1)++y'::(X2++B++X1++y'::Y2++C)=(A++Y1 ++ [y']++X2++B++X1)++y'::(Y2++C):=by simp
     have e3:A++Y1++x'::X2++B++X1++y'::Y2++C=(A++Y1++x'::X2++B++X1)++y'::(Y2++C):=by simp
     have p1:(A++Y1).length=a+X1.length:=by simp; omega
     simp only [List.length_cons] at hX hY;have p2:(A++Y1 ++ [y']++X2++B++X1).length=m+X1.length:=by simp; omega
     have p3:(A++Y1++x'::X2++B++X1).length=m+X1.length:=by simp; omega
     have hlen:(A++Y1++x'::X2++B++X1++y'::Y2++C).length=n:=by rw [hn,hus]; simp; omega
     have hi1:a+X1.length<n:=by rw [← hlen]; simp; omega
     have hi2:m+X1.length<n:=by rw [← hlen]; simp; omega
     generalize hcur:A++Y1++x'::X2++B++X1++y'::Y2++C=cur at *;have hx:cur[a+X1.length]? = some x':=by rw [e1]; exact iA p1
     have hy:cur[m+X1.length]? = some y':=by rw [e3]; exact iA p3
     have s1:cur.set (a+X1.length) y'=(A++Y1)++y'::(X2++B++X1++y'::Y2++C):=by rw [e1]; exact iH p1
     have s2:(cur.set (a+X1.length) y').set (m+X1.length) x'=A++(Y1 ++ [y'])++X2++B++(X1 ++ [x'])++Y2++C:=by
       rw [s1,e2,iH p2]; simp
     refine aZ.piece jY follows 1 _ _ _ _ (QQ cur (cur.set (a+X1.length) y') ((cur.set (a+X1.length) y').set (m+X1.length) x') n c a m k X1.length x' y' g)
       (Met.cons (bx h13) (Met.cons (gI (by omega)) (Met.cons (gI (by omega)) (Met.cons (gI (by omega)) (Met.cons (da hi2) (Met.cons (eX (fl _) hy) (Met.cons (gI (by omega)) (Met.cons (da hi1) (Met.cons (eX (fl _) hx) (Met.cons (da hi1) (Met.cons (da hi2) (Met.cons (bA (by omega)) Met.nil))))))))))))
       ay.nil (az.cons (jP (dw _) (by omega)) (az.cons (jP nu (by rw [List.length_set]; omega)) az.nil)) JK rfl rfl (bq _ []) rfl fun g'=>.inl ⟨rfl,X2.length,by simp,X1 ++ [x'],X2,Y1 ++ [y'],Y2,g',by simp,by simp,by simp; omega,rfl,?_⟩
     rw [s2,List.length_append];rfl
open Classical in
noncomputable def g114(us:List aa):aB:=fun args hp=>match args with
 | [.slice (some ⟨b,0,none⟩) n c,.int .i64 (.ofNat a),.int .i64 (.ofNat m),.int .i64 (.ofNat k),f] =>
   if f=Fc∧cH us (.slice (some ⟨b,0,none⟩) n c) hp∧a+k≤m∧m+k≤us.length then some (vU,hp.put b (ab (w9 us a m k))) else none
 | _=>none
theorem ux{us:List aa}{b n c:Nat}{hp:Hp}(hk:hp.ok)(hb:hp.get b=some (ab us)){m:BM}{h:HG}{v:Value}(r:ah m (aL hp h) (af b n c) v):∃ x,m b=some x∧ah (canM m [b]) (heapOf [ab us,.dead] aE).get (af 0 n c) v:=by
 obtain ⟨_,_,rr,oo,cap,q1,rfl,hcap,hh⟩:=r.dK;cases q1;have gb:=bu hk h b _ hb
 rcases hh with hd | ⟨δ,E,hm,hoff,hcok⟩
 ·rw [gb] at hd; cases hd
 ·exact ⟨_,hm,.slice hcap (.inr ⟨δ,E,hm,hoff,hcok⟩)⟩
theorem BY{m m':BM}{h h':HG}{v:Value}(r:ah m h Fc v):ah m' h' Fc v:=by
 rw [Qh r]; exact ah.plain rfl
theorem Pk(us:List aa)(hn:us.length<1000000):aq Tryz.prog 219 (g114 us):=hZ follows Tryz.func219 GZ (by kernel_rfl) fun args hp v hp' he hk=>by
 unfold g114 at he;split at he
 case h_2=>cases he
 rename_i b n c a m k f;split at he
 case isFalse=>cases he
 rename_i hT;cases he;obtain ⟨rfl,⟨b',c',e,hb⟩,h1,h2⟩:=hT;simp only [af,Value.slice.injEq,Option.some.injEq,Addr.mk.injEq,and_true] at e;obtain ⟨rfl,rfl,rfl⟩:=e;refine ⟨b,151,aI us,aI (w9 us a m k),rfl,hb,dC _,dC _,fun mm h w args' s ra=>?_⟩
 obtain ⟨v1,bs1,e1,r1,ra1⟩:=ra.of_cons;obtain ⟨v2,bs2,e2,r2,ra2⟩:=ra1.of_cons;obtain ⟨v3,bs3,e3,r3,ra3⟩:=ra2.of_cons;obtain ⟨v4,bs4,e4,r4,ra4⟩:=ra3.of_cons;obtain ⟨v5,bs5,e5,r5,ra5⟩:=ra4.of_cons;have e6:=ra5.of_nil
 subst e6;obtain ⟨x,hx,rx⟩:=ux hk hb (n:=us.length) (c:=c) r1;refine ⟨x,hx,[af 0 us.length c,iN a,iN m,iN k,Fc],?_,by rw [ntmps114]; simp,fun W x=>?_⟩
 ·rw [e1,e2,e3,e4,e5]
  exact .cons rx (.cons (pN r2) (.cons (pN r3) (.cons (pN r4) (.cons (BY r5) .nil))))
 ·rw [ntmps114]
  have rX:((us.drop a).take k).length=k:=by simp; omega
  have hl2:((us.drop m).take k).length=k:=by simp; omega
  refine aZ.mono (IJ (f:=Fc) (Tg h1 h2) rX hl2 (by simp; omega) (by simp; omega) rfl hn W x) fun e st q=>?_
  obtain ⟨rfl,g,rfl⟩:=q;exact ⟨.inl rfl,rfl,vU,Ut _ g,fun m h m' h' v r=>Ga r,by show (heapOf _ aE).get 0=_; rw [al]; rfl⟩
noncomputable def B8:aB:=atW g114
theorem Mp:aq Tryz.prog 219 B8:=fO fun us hn=>Pk us hn
open Classical in
theorem tf{A X B Y C us:List aa}{b n c a m k:Nat}{hp:Hp}(hus:us=A++X++B++Y++C)(hX:X.length=k)(hY:Y.length=k)(hA:A.length=a)(hm:m=a+k+B.length)(hn:n=us.length)(hl:n<1000000)(hb:hp.get b=some (ab us)) :
  B8 [af b n c,iN a,iN m,iN k,Fc] hp=some (vU,hp.put b (ab (A++Y++B++X++C))):=by
 subst hn;have hr:cH us (af b us.length c) hp:=⟨b,c,rfl,hb⟩
 unfold B8;rw [l9 hr hl];show (if Fc=Fc∧cH us (af b us.length c) hp∧a+k≤m∧m+k≤us.length then some (vU,hp.put b (ab (w9 us a m k))) else none)=_
 rw [if_pos ⟨rfl,hr,by omega,by rw [hus]; simp; omega⟩,hus,FH hX hY hA hm]
theorem vV{m m':BM}{h h':HG}:∀ {is:List Nat} {l:List Value},aC m h (is.map iN ++ [Fc]) l→aC m' h' (is.map iN ++ [Fc]) l
 | [],l,r=>by
   obtain ⟨v,bs,rfl,r1,r2⟩:=aC.of_cons (show aC m h (Fc :: []) l from r)
   have:=r2.of_nil
   subst this;exact .cons (BY r1) .nil
 | i::is,l,r=>by
   obtain ⟨v,bs,rfl,r1,r2⟩:=aC.of_cons (show aC m h (iN i::(is.map iN ++ [Fc])) l from r)
   exact .cons (pN r1) (vV r2)
theorem kD{fn:Func}{code:Code}{us us':List aa}{b c:Nat}{is:List Nat}{hp:Hp}(hk:hp.ok)(hb:hp.get b=some (ab us))(hlen:is.length+2≤fn.ntmps)
  (run:∀ W x,aZ Tryz.prog fn.ntmps W x code ⟨tmsOf (af 0 us.length c::(is.map iN ++ [Fc])) 0 .leaf,heapOf [ab us,.dead] aE,[]⟩ (fun e st=>(e = .normal∨e = .ret)∧st.df = []∧retVal Tryz.prog fn st=some vU∧st.hp.get 0=some (ab us'))) :
  ∃ (b':Nat) (ty:TypeId) (L L':List Value),hp.put b (ab us')=hp.put b' (.cells ty L' false)∧hp.get b'=some (.cells ty L false)∧L.all inert=true∧L'.all inert=true ∧
    ∀ (m:BM) (h:HG) (w:World) (args':Array Value),cd m (aL hp h) w→aC m (aL hp h) (af b us.length c::(is.map iN ++ [Fc])) args'.toList→∃ x,m b'=some x ∧
      ∃ (args0:List Value),aC (canM m [b']) (heapOf [.cells ty L false,.dead] aE).get args0 args'.toList∧args0.length≤fn.ntmps ∧
      ∀ W x,aZ Tryz.prog fn.ntmps W x code ⟨tmsOf args0 0 .leaf,heapOf [.cells ty L false,.dead] aE,[]⟩ fun e st=>(e = .normal∨e = .ret)∧st.df = []∧∃ v0,retVal Tryz.prog fn st=some v0 ∧
        (∀ m h m' h' x,ah m h v0 x→ah m' h' vU x)∧st.hp.get 0=some (.cells ty L' false):=by
 refine ⟨b,151,aI us,aI us',rfl,hb,dC _,dC _,fun mm h w args' s ra=>?_⟩
 obtain ⟨v1,bs1,e1,r1,ra1⟩:=ra.of_cons;obtain ⟨x,hx,rx⟩:=ux hk hb (n:=us.length) (c:=c) r1;refine ⟨x,hx,af 0 us.length c::(is.map iN ++ [Fc]),?_,by simp; omega,fun W x=>aZ.mono (run W x) fun e st q=>?_⟩
 ·rw [e1]
  exact .cons rx (vV ra1)
 ·exact ⟨q.1,q.2.1,vU,q.2.2.1,fun m h m' h' v r=>Ga r,q.2.2.2⟩
noncomputable def JX:Ext:=fq (cR Tryz.prog []) [(219,B8)]
theorem Gr:ExtOk Tryz.prog JX:=bD (aS .nil) (.cons Mp .nil)
noncomputable def mU:aG:=aCall Tryz.prog JX 5
theorem kR:a8 Tryz.prog mU:=aP Gr follows 5
theorem qi(args:List Value)(hp:Hp):mU 219 args hp=B8 args hp:=by
 show aCall Tryz.prog JX 5 219 _ _=_
 rw [aCall]; rfl
noncomputable def zt:Code:=(Tryz.f209.body).getD .skip
noncomputable def CN:Code:=sL zt
noncomputable def CO:Code:=sL (sR zt)
noncomputable def vn:Code:=nO (jn (sL (sR (sR zt))))
noncomputable def CP:Code:=sR (sR (sR zt))
noncomputable abbrev zj:Code:=.seq CN (.seq CO (.seq (.block 0 (.loop vn)) CP))
theorem GY:Tryz.f209.body=some zj:=by kernel_rfl
theorem ntmps111:Tryz.f209.ntmps=58:=by kernel_rfl
theorem RK:codeSafe Tryz.prog 58 CN=true:=by kernel_rfl
theorem RL:codeSafe Tryz.prog 58 CO=true:=by kernel_rfl
theorem Fi:codeSafe Tryz.prog 58 vn=true:=by kernel_rfl
theorem RN:codeSafe Tryz.prog 58 CP=true:=by kernel_rfl
theorem Us(O:List ae)(g:Nat→Value):retVal Tryz.prog Tryz.f209 (av 58 g [] O)=some vU:=by kernel_rfl
section
variable (us us':List aa) (n c a m b i j:Nat) (g:Nat→Value)
abbrev Ob(us:List aa)(g:Nat→Value):St:=av 58 g [(0,af 0 n c),(2,iN m),(3,iN b),(4,Fc),(10,iN (m-a))] [ab us]
abbrev xy(us:List aa)(i j:Nat)(g:Nat→Value):St:=av 58 g [(0,af 0 n c),(2,iN m),(4,Fc),(10,iN i),(11,iN j)] [ab us]
theorem QJ:(execE Tryz.prog mU [(14,iN (m-a))] [] [] 10 CN ⟨tmsOf [af 0 n c,iN a,iN m,iN b,Fc] 0 .leaf,heapOf [ab us,.dead] aE,[]⟩).map (fun z=>(look2 1 [0] [0,2,3,4,10] (z.1,z.2.1),z.2.2)) =
 some ((.normal,[ab us],[(0,af 0 n c),(2,iN m),(3,iN b),(4,Fc),(10,iN (m-a))],true),[rL m a],[],[]):=by kernel_rfl
theorem QK:(execE Tryz.prog mU [(17,iN (b-m))] [] [] 10 CO (Ob n c a m b us g)).map (fun z=>(look2 1 [0] [0,2,4,10,11] (z.1,z.2.1),z.2.2)) =
 some ((.normal,[ab us],[(0,af 0 n c),(2,iN m),(4,Fc),(10,iN (m-a)),(11,iN (b-m))],true),[rL b m],[],[]):=by kernel_rfl
theorem QO:(execE Tryz.prog mU [(20,.bool false)] [] [] 10 vn (xy n c m us i j g)).map (fun z=>(look2 1 [0] [0,2,4,10,11] (z.1,z.2.1),z.2.2)) =
 some ((.exit 0,[ab us],[(0,af 0 n c),(2,iN m),(4,Fc),(10,iN i),(11,iN j)],true),[EA i j false],[],[]):=by kernel_rfl
theorem QL:(execE Tryz.prog mU [(20,.bool true),(23,.bool true),(27,iN (m-i)),(34,iN (i-j))] [] [(31,vU,[.put 0 (ab us')])] 10 vn (xy n c m us i j g)).map (fun z=>(look2 1 [0] [0,2,4,10,11] (z.1,z.2.1),z.2.2)) =
 some ((.normal,[ab us'],[(0,af 0 n c),(2,iN m),(4,Fc),(10,iN (i-j)),(11,iN j)],true),[EA i j true,DU i j true,rL m i,rL i j],[(mU 219 [af 0 n c,iN (m-i),iN m,iN j,Fc] (hW us),(vU,(hW us).put 0 (ab us')))],[]):=by kernel_rfl
theorem QM:(execE Tryz.prog mU [(20,.bool true),(23,.bool false),(38,iN (m-i)),(41,iN (m+j)),(43,iN (m+j-i)),(49,iN (j-i))] [] [(46,vU,[.put 0 (ab us')])] 10 vn (xy n c m us i j g)).map (fun z=>(look2 1 [0] [0,2,4,10,11] (z.1,z.2.1),z.2.2)) =
 some ((.normal,[ab us'],[(0,af 0 n c),(2,iN m),(4,Fc),(10,iN i),(11,iN (j-i))],true),[EA i j true,DU i j false,rL m i,yY m j,rL (m+j) i,rL j i],[(mU 219 [af 0 n c,iN (m-i),iN (m+j-i),iN i,Fc] (hW us),(vU,(hW us).put 0 (ab us')))],[]):=by kernel_rfl
theorem QN:(execE Tryz.prog mU [(53,iN (m-i))] [] [(57,vU,[.put 0 (ab us')])] 10 CP (xy n c m us i j g)).map (fun z=>(look2 1 [0] [] (z.1,z.2.1),z.2.2)) =
 some ((.normal,[ab us'],[],true),[rL m i],[(mU 219 [af 0 n c,iN (m-i),iN m,iN i,Fc] (hW us),(vU,(hW us).put 0 (ab us')))],[]):=by kernel_rfl
end
theorem Nu{A X Y C us:List aa}{n c a m b:Nat}(hus:us=A++X++Y++C)(hA:A.length=a)(hm:m=a+X.length)(hb:b=m+Y.length)(hX:0<X.length)(hY:0<Y.length)(hn:n=us.length)(hl:n<1000000)(W:bj)(x:Nat×Nat×Nat) :
  aZ Tryz.prog 58 W x zj ⟨tmsOf [af 0 n c,iN a,iN m,iN b,Fc] 0 .leaf,heapOf [ab us,.dead] aE,[]⟩ (uV 58 (A++Y++X++C)):=by
 have hlen:us.length=a+X.length+Y.length+C.length:=by rw [hus]; simp; omega
 refine aZ.seq (Q1:=fun e st=>e = .normal∧∃ g,st=Ob n c a m b us g) (aZ.piece kR follows 1 _ _ _ _ (QJ us n c a m b) (Met.cons (dB (by omega) (by omega)) Met.nil) ay.nil az.nil RK rfl rfl (bq us []) rfl fun g=>⟨rfl,g,rfl⟩) ?_ (fun x st hne hq=>absurd hq.1 hne)
 rintro st ⟨-,g,rfl⟩;refine aZ.seq (Q1:=fun e st=>e = .normal∧∃ g,st=xy n c m us (m-a) (b-m) g) (aZ.piece kR follows 1 _ _ _ _ (QK us n c a m b g) (Met.cons (dB (by omega) (by omega)) Met.nil) ay.nil az.nil RL rfl rfl (bq us []) rfl fun g=>⟨rfl,g,rfl⟩) ?_ (fun x st hne hq=>absurd hq.1 hne)
 rintro st ⟨-,g,rfl⟩;refine aZ.seq (Q1:=fun e st=>e = .normal∧∃ A' X' Y' C' g,A'++Y'++X'++C'=A++Y++X++C∧A'.length+X'.length=m∧X'.length=Y'.length∧st=xy n c m (A'++X'++Y'++C') X'.length Y'.length g) ?_ ?_ (fun x st hne hq=>absurd hq.1 hne)
 ·refine aZ.block ?_
  refine aZ.loop (fun k st=>∃ A' X' Y' C' g,A'++Y'++X'++C'=A++Y++X++C∧A'.length+X'.length=m∧0<X'.length∧0<Y'.length∧k=X'.length+Y'.length∧st=xy n c m (A'++X'++Y'++C') X'.length Y'.length g) ?_ (k:=X.length+Y.length)
    ⟨A,X,Y,C,g,rfl,by omega,hX,hY,rfl,by rw [hus,show m-a=X.length by omega,show b-m=Y.length by omega]⟩
  rintro k st ⟨A',X',Y',C',g,hT,hAm,h1,h2,hk,rfl⟩;have hln:(A'++X'++Y'++C').length=n:=by
    have:=congrArg List.length hT
    simp at this ⊢;omega
  have hle:A'.length+X'.length+Y'.length+C'.length=n:=by rw [← hln]; simp; omega
  cases h20:(X'.length != Y'.length) with
  | false =>
    have heq:X'.length=Y'.length:=by simpa using h20
    refine aZ.piece kR follows 1 _ _ _ _ (QO (A'++X'++Y'++C') n c m X'.length Y'.length g) (Met.cons (ye h20) Met.nil) ay.nil az.nil Fi rfl rfl (bq _ []) rfl fun g'=>.inr ⟨by simp,?_⟩
    show (if (0:Nat)=0 then _ else _)
    rw [if_pos rfl];exact ⟨rfl,A',X',Y',C',g',hT,hAm,heq,rfl⟩
  | true =>
    have hne:X'.length≠Y'.length:=by simpa using h20
    cases h23:decide (Y'.length<X'.length) with
    | true =>
      have hlt:=of_decide_eq_true h23
      obtain ⟨X1,X2,rfl,hX1⟩:∃ X1 X2,X'=X1++X2∧X1.length=Y'.length:=⟨X'.take Y'.length,X'.drop Y'.length,(List.take_append_drop _ _).symm,by simp; omega⟩
      rw [List.length_append] at *;have hcall:mU 219 [af 0 n c,iN (m-(X1.length+X2.length)),iN m,iN Y'.length,Fc] (hW (A'++(X1++X2)++Y'++C'))=some (vU,(hW (A'++(X1++X2)++Y'++C')).put 0 (ab (A'++Y'++X2++X1++C'))):=by
        rw [qi];exact tf (A:=A') (X:=X1) (B:=X2) (Y:=Y') (C:=C') (by simp) hX1 rfl (by omega) (by omega) (by simp; omega) hl (dw _)
      refine aZ.piece kR follows 1 _ _ _ _ (QL (A'++(X1++X2)++Y'++C') (A'++Y'++X2++X1++C') n c m (X1.length+X2.length) Y'.length g) (Met.cons (ye h20) (Met.cons (jA h23) (Met.cons (dB (by omega) (by omega)) (Met.cons (dB (by omega) (by omega)) Met.nil)))) (ay.cons hcall ay.nil) az.nil Fi rfl rfl (bq _ []) rfl
        fun g'=>.inl ⟨rfl,X2.length+X1.length,by omega,A'++Y',X2,X1,C',g',?_,?_,by omega,by omega,rfl,?_⟩
      ·rw [← hT]; simp
      ·simp; omega
      ·rw [show X1.length+X2.length-Y'.length=X2.length by omega,hX1]
    | false =>
      have hlt:=of_decide_eq_false h23
      obtain ⟨Y1,Y2,rfl,hY2⟩:∃ Y1 Y2,Y'=Y1++Y2∧Y2.length=X'.length:=⟨Y'.take (Y'.length-X'.length),Y'.drop (Y'.length-X'.length),(List.take_append_drop _ _).symm,by simp; omega⟩
      rw [List.length_append] at *;have hcall:mU 219 [af 0 n c,iN (m-X'.length),iN (m+(Y1.length+Y2.length)-X'.length),iN X'.length,Fc] (hW (A'++X'++(Y1++Y2)++C'))=some (vU,(hW (A'++X'++(Y1++Y2)++C')).put 0 (ab (A'++Y2++Y1++X'++C'))):=by
        rw [qi];exact tf (A:=A') (X:=X') (B:=Y1) (Y:=Y2) (C:=C') (by simp) rfl hY2 (by omega) (by omega) (by simp; omega) hl (dw _)
      refine aZ.piece kR follows 1 _ _ _ _ (QM (A'++X'++(Y1++Y2)++C') (A'++Y2++Y1++X'++C') n c m X'.length (Y1.length+Y2.length) g) (Met.cons (ye h20) (Met.cons (jA h23) (Met.cons (dB (by omega) (by omega)) (Met.cons (gI (by omega)) (Met.cons (dB (by omega) (by omega)) (Met.cons (dB (by omega) (by omega)) Met.nil)))))) (ay.cons hcall ay.nil) az.nil Fi rfl rfl (bq _ []) rfl
        fun g'=>.inl ⟨rfl,Y2.length+Y1.length,by omega,A',Y2,Y1,X'++C',g',?_,by omega,by omega,by omega,rfl,?_⟩
      ·rw [← hT]; simp
      ·rw [show Y1.length+Y2.length-X'.length=Y1.length by omega,← hY2]; simp
 ·rintro st ⟨-,A',X',Y',C',g,hT,hAm,heq,rfl⟩
  have hln:(A'++X'++Y'++C').length=n:=by
    have:=congrArg List.length hT
    simp at this ⊢;omega
  have hle:A'.length+X'.length+Y'.length+C'.length=n:=by rw [← hln]; simp; omega
  have hcall:mU 219 [af 0 n c,iN (m-X'.length),iN m,iN X'.length,Fc] (hW (A'++X'++Y'++C'))=some (vU,(hW (A'++X'++Y'++C')).put 0 (ab (A'++Y'++X'++C'))):=by
    rw [qi];have:=tf (A:=A') (X:=X') (B:=[]) (Y:=Y') (C:=C') (us:=A'++X'++Y'++C') (b:=0) (n:=n) (c:=c) (a:=m-X'.length) (m:=m) (k:=X'.length) (hp:=hW (A'++X'++Y'++C')) (by simp) rfl heq.symm (by omega) (by simp; omega) (by rw [hln]) hl (dw _)
    rw [List.append_nil] at this;exact this
  exact aZ.piece kR follows 1 _ _ _ _ (QN (A'++X'++Y'++C') (A'++Y'++X'++C') n c m X'.length Y'.length g) (Met.cons (dB (by omega) (by omega)) Met.nil) (ay.cons hcall ay.nil) az.nil RN rfl rfl (bq _ []) rfl fun g'=>⟨rfl,g',by rw [hT]⟩
open Classical in
noncomputable def g111(us:List aa):aB:=fun args hp=>match args with
 | [.slice (some ⟨k,0,none⟩) n c,.int .i64 (.ofNat a),.int .i64 (.ofNat m),.int .i64 (.ofNat b),f] =>
   if f=Fc∧cH us (.slice (some ⟨k,0,none⟩) n c) hp∧a<m∧m<b∧b≤us.length then some (vU,hp.put k (ab (Nt us a m b))) else none
 | _=>none
theorem Pj(us:List aa)(hn:us.length<1000000):aq Tryz.prog 209 (g111 us):=hZ follows Tryz.func209 GY (by kernel_rfl) fun args hp v hp' he hk=>by
 unfold g111 at he;split at he
 case h_2=>cases he
 rename_i k n c a m b f;split at he
 case isFalse=>cases he
 rename_i hT;cases he;obtain ⟨rfl,⟨b',c',e,hb⟩,h1,h2,h3⟩:=hT;simp only [af,Value.slice.injEq,Option.some.injEq,Addr.mk.injEq,and_true] at e;obtain ⟨rfl,rfl,rfl⟩:=e;refine kD (is:=[a,m,b]) hk hb (by rw [ntmps111]; simp) fun W x=>?_
 rw [ntmps111];refine aZ.mono (Nu (O7 (us:=us) (Nat.le_of_lt h1) (Nat.le_of_lt h2)) (by simp; omega) (by simp; omega) (by simp; omega) (by simp; omega) (by simp; omega) rfl hn W x) fun e st q=>?_
 obtain ⟨rfl,g,rfl⟩:=q;exact ⟨.inl rfl,rfl,Us _ g,by show (heapOf _ aE).get 0=_; rw [al]; rfl⟩
noncomputable def B7:aB:=atW g111
theorem Mo:aq Tryz.prog 209 B7:=fO fun us hn=>Pj us hn
open Classical in
theorem GC{A X Y C us:List aa}{k n c a m b:Nat}{hp:Hp}(hus:us=A++X++Y++C)(hA:A.length=a)(hm:m=a+X.length)(hb':b=m+Y.length)(hX:0<X.length)(hY:0<Y.length)(hn:n=us.length)(hl:n<1000000)(hb:hp.get k=some (ab us)) :
  B7 [af k n c,iN a,iN m,iN b,Fc] hp=some (vU,hp.put k (ab (A++Y++X++C))):=by
 subst hn;have hr:cH us (af k us.length c) hp:=⟨k,c,rfl,hb⟩
 unfold B7;rw [l9 hr hl];show (if Fc=Fc∧cH us (af k us.length c) hp∧a<m∧m<b∧b≤us.length then some (vU,hp.put k (ab (Nt us a m b))) else none)=_
 rw [if_pos ⟨rfl,hr,by omega,by omega,by rw [hus]; simp; omega⟩]
 obtain ⟨e1,e2,e3,e4⟩:=zn (C:=C) hA hm hb';unfold Nt;rw [hus,e1,e2,e3,e4]
def j5(aId:Int)(aHeightNull:Bool)(aHeightTau:Int)(aHeightOid:Int)(aHeightR:Int)(aHeightDelta:Int)(aHeightId:Int)(bId:Int)(bHeightNull:Bool)(bHeightTau:Int)(bHeightOid:Int)(bHeightR:Int)(bHeightDelta:Int)(bHeightId:Int):Value:=(bif (less (aHeightNull) (aHeightTau) (aHeightOid) (aHeightR) (aHeightDelta) (aHeightId) (bHeightNull) (bHeightTau) (bHeightOid) (bHeightR) (bHeightDelta) (bHeightId)) then (.int .i64 (-1)) else (bif (less (bHeightNull) (bHeightTau) (bHeightOid) (bHeightR) (bHeightDelta) (bHeightId) (aHeightNull) (aHeightTau) (aHeightOid) (aHeightR) (aHeightDelta) (aHeightId)) then (.int .i64 1) else (.int .i64 0)))
theorem Bv(aId:Int)(aHeightNull:Bool)(aHeightTau:Int)(aHeightOid:Int)(aHeightR:Int)(aHeightDelta:Int)(aHeightId:Int)(bId:Int)(bHeightNull:Bool)(bHeightTau:Int)(bHeightOid:Int)(bHeightR:Int)(bHeightDelta:Int)(bHeightId:Int):∃ hp,aCall Tryz.prog E4 61 126 [.agg #[.int .i64 aId,.bool aHeightNull,.int .i64 aHeightTau,.int .i64 aHeightOid,.int .i64 aHeightR,.int .i64 aHeightDelta,.int .i64 aHeightId],.agg #[.int .i64 bId,.bool bHeightNull,.int .i64 bHeightTau,.int .i64 bHeightOid,.int .i64 bHeightR,.int .i64 bHeightDelta,.int .i64 bHeightId]] aE=some (j5 aId aHeightNull aHeightTau aHeightOid aHeightR aHeightDelta aHeightId bId bHeightNull bHeightTau bHeightOid bHeightR bHeightDelta bHeightId,hp):=by
 cases h0:(less (aHeightNull) (aHeightTau) (aHeightOid) (aHeightR) (aHeightDelta) (aHeightId) (bHeightNull) (bHeightTau) (bHeightOid) (bHeightR) (bHeightDelta) (bHeightId)) with
 | true =>
   have e:j5 aId aHeightNull aHeightTau aHeightOid aHeightR aHeightDelta aHeightId bId bHeightNull bHeightTau bHeightOid bHeightR bHeightDelta bHeightId=(.int .i64 (-1)):=by simp only [j5,h0,cond_true,cond_false]
   rw [e];exact aO [(10,.bool true)] (q:=[(some (.bool (less (aHeightNull) (aHeightTau) (aHeightOid) (aHeightR) (aHeightDelta) (aHeightId) (bHeightNull) (bHeightTau) (bHeightOid) (bHeightR) (bHeightDelta) (bHeightId))),.bool true)]) (by kernel_rfl) (Met.cons (ag h0) (Met.nil))
 | false =>
   cases h1:(less (bHeightNull) (bHeightTau) (bHeightOid) (bHeightR) (bHeightDelta) (bHeightId) (aHeightNull) (aHeightTau) (aHeightOid) (aHeightR) (aHeightDelta) (aHeightId)) with
   | true =>
     have e:j5 aId aHeightNull aHeightTau aHeightOid aHeightR aHeightDelta aHeightId bId bHeightNull bHeightTau bHeightOid bHeightR bHeightDelta bHeightId=(.int .i64 1):=by simp only [j5,h0,h1,cond_true,cond_false]
     rw [e];exact aO [(10,.bool false),(16,.bool true)] (q:=[(some (.bool (less (aHeightNull) (aHeightTau) (aHeightOid) (aHeightR) (aHeightDelta) (aHeightId) (bHeightNull) (bHeightTau) (bHeightOid) (bHeightR) (bHeightDelta) (bHeightId))),.bool false),(some (.bool (less (bHeightNull) (bHeightTau) (bHeightOid) (bHeightR) (bHeightDelta) (bHeightId) (aHeightNull) (aHeightTau) (aHeightOid) (aHeightR) (aHeightDelta) (aHeightId))),.bool true)]) (by kernel_rfl) (Met.cons (ag h0) (Met.cons (ag h1) (Met.nil)))
   | false =>
     have e:j5 aId aHeightNull aHeightTau aHeightOid aHeightR aHeightDelta aHeightId bId bHeightNull bHeightTau bHeightOid bHeightR bHeightDelta bHeightId=(.int .i64 0):=by simp only [j5,h0,h1,cond_true,cond_false]
     rw [e];exact aO [(10,.bool false),(16,.bool false)] (q:=[(some (.bool (less (aHeightNull) (aHeightTau) (aHeightOid) (aHeightR) (aHeightDelta) (aHeightId) (bHeightNull) (bHeightTau) (bHeightOid) (bHeightR) (bHeightDelta) (bHeightId))),.bool false),(some (.bool (less (bHeightNull) (bHeightTau) (bHeightOid) (bHeightR) (bHeightDelta) (bHeightId) (aHeightNull) (aHeightTau) (aHeightOid) (aHeightR) (aHeightDelta) (aHeightId))),.bool false)]) (by kernel_rfl) (Met.cons (ag h0) (Met.cons (ag h1) (Met.nil)))
theorem xa(u v:aa):j5 u.id u.n u.t u.o u.r u.d u.i v.id v.n v.t v.o v.r v.d v.i = .int .i64 (tL u v):=by
 unfold j5 tL aV;cases less u.n u.t u.o u.r u.d u.i v.n v.t v.o v.r v.d v.i with
 | true=>rfl
 | false=>cases less v.n v.t v.o v.r v.d v.i u.n u.t u.o u.r u.d u.i <;> rfl
def g77:List Value→Option Value
 | [.agg c0,.agg c1]=>match c0.toList,c1.toList with
   | [.int .i64 a,.bool an,.int .i64 at',.int .i64 ao,.int .i64 ar,.int .i64 ad,.int .i64 ai],[.int .i64 b,.bool bn,.int .i64 bt,.int .i64 bo,.int .i64 br,.int .i64 bd,.int .i64 bi]=>some (.int .i64 (tL ⟨a,an,at',ao,ar,ad,ai⟩ ⟨b,bn,bt,bo,br,bd,bi⟩))
   | _,_=>none
 | _=>none
theorem TC:bI Tryz.prog 126 g77:=de (ext:=E4) I6 follows Tryz.func126 (by kernel_rfl) fun args v h=>by
 unfold g77 at h;split at h
 ·rename_i c0 c1
  split at h
  ·rename_i ec0 ec1
   cases h;obtain rfl:=cJ ec0;obtain rfl:=cJ ec1;refine ⟨rfl,rfl,?_⟩
   obtain ⟨hp,q⟩:=Bv _ _ _ _ _ _ _ _ _ _ _ _ _ _;rw [xa ⟨_,_,_,_,_,_,_⟩ ⟨_,_,_,_,_,_,_⟩] at q;exact ⟨_,hp,q⟩
  ·cases h
 ·cases h
noncomputable def Oo:Ext:=cR Tryz.prog [(126,g77)]
noncomputable def dN:aG:=aCall Tryz.prog Oo 5
theorem bc:a8 Tryz.prog dN:=aP (by unfold Oo; exact aS (.cons TC .nil)) follows 5
noncomputable def Jk:Code:=(Tryz.f178.body).getD .skip
noncomputable def zJ:Code:=nO (jn (sR Jk))
noncomputable def Cw:Code:=sL Jk
noncomputable def y5:Code:=sL zJ
noncomputable def Cx:Code:=sL (jn (sL (sR zJ)))
noncomputable def sg:Code:=nO (jn (sR (jn (sL (sR zJ)))))
noncomputable def Cy:Code:=sR (sR zJ)
noncomputable abbrev zh:Code:=.seq Cw (.block 0 (.loop (.seq y5 (.seq (.block 1 (.seq Cx (.block 2 (.loop sg)))) Cy))))
theorem GX:Tryz.f178.body=some zh:=by kernel_rfl
theorem ntmps101:Tryz.f178.ntmps=53:=by kernel_rfl
theorem Rt:codeSafe Tryz.prog 53 Cw=true:=by kernel_rfl
theorem JG:codeSafe Tryz.prog 53 y5=true:=by kernel_rfl
theorem Ru:codeSafe Tryz.prog 53 Cx=true:=by kernel_rfl
theorem E':codeSafe Tryz.prog 53 sg=true:=by kernel_rfl
theorem Rv:codeSafe Tryz.prog 53 Cy=true:=by kernel_rfl
theorem Uq(O:List ae)(g:Nat→Value):retVal Tryz.prog Tryz.f178 (av 53 g [] O)=some vU:=by kernel_rfl
section
variable (us us1 us2:List aa) (n c a b i j:Nat) (x y:aa) (g:Nat→Value)
abbrev pg(us:List aa)(i:Nat)(g:Nat→Value):St:=av 53 g [(0,af 0 n c),(1,iN a),(2,iN b),(3,Fc),(8,iN i)] [ab us]
abbrev Av(us:List aa)(i j:Nat)(g:Nat→Value):St:=av 53 g [(0,af 0 n c),(1,iN a),(2,iN b),(3,Fc),(8,iN i),(9,iN j)] [ab us]
theorem Qo:(execE Tryz.prog dN [(11,iN (a+1))] [] [] 10 Cw ⟨tmsOf [af 0 n c,iN a,iN b,Fc] 0 .leaf,heapOf [ab us,.dead] aE,[]⟩).map (fun z=>(look2 1 [0] [0,1,2,3,8] (z.1,z.2.1),z.2.2)) =
 some ((.normal,[ab us],[(0,af 0 n c),(1,iN a),(2,iN b),(3,Fc),(8,iN (a+1))],true),[dF a],[],[]):=by kernel_rfl
theorem Qt:(execE Tryz.prog dN [(14,.bool false)] [] [] 10 y5 (pg n c a b us i g)).map (fun z=>(look2 1 [0] [] (z.1,z.2.1),z.2.2))=some ((.exit 0,[ab us],[],true),[iF i b false],[],[]):=by kernel_rfl
theorem Qr:(execE Tryz.prog dN [(14,.bool true)] [] [] 10 y5 (pg n c a b us i g)).map (fun z=>(look2 1 [0] [0,1,2,3,8] (z.1,z.2.1),z.2.2)) =
 some ((.normal,[ab us],[(0,af 0 n c),(1,iN a),(2,iN b),(3,Fc),(8,iN i)],true),[iF i b true],[],[]):=by kernel_rfl
theorem Qp:(execE Tryz.prog dN [] [] [] 10 Cx (pg n c a b us i g)).map (fun z=>(look2 1 [0] [0,1,2,3,8,9] (z.1,z.2.1),z.2.2)) =
 some ((.normal,[ab us],[(0,af 0 n c),(1,iN a),(2,iN b),(3,Fc),(8,iN i),(9,iN i)],true),[],[],[]):=by kernel_rfl
theorem Qq:(execE Tryz.prog dN [(16,iN (i+1))] [] [] 10 Cy (pg n c a b us i g)).map (fun z=>(look2 1 [0] [0,1,2,3,8] (z.1,z.2.1),z.2.2)) =
 some ((.normal,[ab us],[(0,af 0 n c),(1,iN a),(2,iN b),(3,Fc),(8,iN (i+1))],true),[dF i],[],[]):=by kernel_rfl
theorem Qu:(execE Tryz.prog dN [(20,.bool false)] [] [] 20 sg (Av n c a b us i j g)).map (fun z=>(look2 1 [0] [0,1,2,3,8] (z.1,z.2.1),z.2.2)) =
 some ((.exit 2,[ab us],[(0,af 0 n c),(1,iN a),(2,iN b),(3,Fc),(8,iN i)],true),[DU j a false],[],[]):=by kernel_rfl
theorem Qv:(execE Tryz.prog dN [(20,.bool true),(25,pb 0 ((j+1)*7)),(26,.agg ⟨vc y⟩),(29,iN j),(30,pb 0 (j*7)),(31,.agg ⟨vc x⟩),(33,.bool false)] [] [] 20 sg (Av n c a b us i (j+1) g)).map (fun z=>(look2 1 [0] [0,1,2,3,8] (z.1,z.2.1),z.2.2)) =
 some ((.exit 2,[ab us],[(0,af 0 n c),(1,iN a),(2,iN b),(3,Fc),(8,iN i)],true),
  [DU (j+1) a true,gS 0 n c (j+1),j8 (hW us).get 151 0 ((j+1)*7) (.agg ⟨vc y⟩),L4 j,gS 0 n c j,j8 (hW us).get 151 0 (j*7) (.agg ⟨vc x⟩),Gl y x false],[],[]):=by kernel_rfl
theorem Qs:(execE Tryz.prog dN [(20,.bool true),(25,pb 0 ((j+1)*7)),(26,.agg ⟨vc y⟩),(29,iN j),(30,pb 0 (j*7)),(31,.agg ⟨vc x⟩),(33,.bool true),
  (41,iN j),(44,iN j),(45,pb 0 (j*7)),(46,.agg ⟨vc x⟩),(49,pb 0 ((j+1)*7)),(50,.agg ⟨vc y⟩),(51,pb 0 ((j+1)*7)),(52,pb 0 (j*7)),(36,iN j)] []
  [(1051,undef,[.put 0 (ab us1)]),(1052,undef,[.put 0 (ab us2)])] 20 sg (Av n c a b us i (j+1) g)).map (fun z=>(look2 1 [0] [0,1,2,3,8,9] (z.1,z.2.1),z.2.2)) =
 some ((.normal,[ab us2],[(0,af 0 n c),(1,iN a),(2,iN b),(3,Fc),(8,iN i),(9,iN j)],true),
  [DU (j+1) a true,gS 0 n c (j+1),j8 (hW us).get 151 0 ((j+1)*7) (.agg ⟨vc y⟩),L4 j,gS 0 n c j,j8 (hW us).get 151 0 (j*7) (.agg ⟨vc x⟩),Gl y x true,
   L4 j,L4 j,gS 0 n c j,j8 (hW us).get 151 0 (j*7) (.agg ⟨vc x⟩),gS 0 n c (j+1),j8 (hW us).get 151 0 ((j+1)*7) (.agg ⟨vc y⟩),gS 0 n c (j+1),gS 0 n c j,L4 j],[],
  [yz (hW us) (j+1) x us1,yz ((hW us).put 0 (ab us1)) j y us2]):=by kernel_rfl
end
theorem A5{A S R us:List aa}{z:aa}{n c a b i:Nat}(hus:us=A++S++z::R)(hA:A.length=a)(hi:i=a+S.length)(hn:n=us.length)(hl:n<1000000)(W:bj)(x:Nat×Nat×Nat)(g:Nat→Value) :
  aZ Tryz.prog 53 W x (.block 2 (.loop sg)) (Av n c a b us i i g) (fun e st=>e = .normal∧∃ g,st=pg n c a b (A++dx aV S z++R) i g):=by
 refine aZ.block ?_
 refine aZ.loop (fun k st=>∃ P Q g,S=P++Q∧(∀ q∈Q,aV z q=true)∧k=P.length∧st=Av n c a b (A++P++z::(Q++R)) i (a+P.length) g) ?_ (k:=S.length)
  ⟨S,[],g,by simp,(fun q hq=>by cases hq),rfl,by rw [hus,hi]; simp⟩
 rintro k st ⟨P,Q,g,hS,hQ,rfl,rfl⟩;have hlen:(A++P++z::(Q++R)).length=n:=by rw [hn,hus,hS]; simp; omega
 have hin:a+P.length<n:=by rw [← hlen]; simp; omega
 have fin:∀ {g'},(∀ p,P.getLast? = some p→aV z p=false)→∃ g,pg n c a b (A++P++z::(Q++R)) i g'=pg n c a b (A++dx aV S z++R) i g:=fun {g'} h=>⟨g',by rw [gm hS hQ h]; simp⟩
 cases h20:decide (a<a+P.length) with
 | false =>
   have hP:P = []:=List.eq_nil_of_length_eq_zero (by have:=of_decide_eq_false h20; omega)
   refine aZ.piece bc follows 1 _ _ _ _ (Qu (A++P++z::(Q++R)) n c a b i (a+P.length) g) (Met.cons (jA h20) Met.nil) ay.nil az.nil E' rfl rfl (bq _ []) rfl fun g'=>.inr ⟨by simp,?_⟩
   show (if (2:Nat)=2 then _ else _)
   rw [if_pos rfl];exact ⟨rfl,fin fun p hp=>by rw [hP] at hp; cases hp⟩
 | true =>
   have hpos:=of_decide_eq_true h20
   obtain ⟨P',p,rfl⟩:∃ P' p,P=P' ++ [p]:=by
     rcases List.eq_nil_or_concat P with h | ⟨L,b,h⟩
     ·rw [h] at hpos; simp at hpos
     ·exact ⟨L,b,by simpa using h⟩
   have el:a+(P' ++ [p]).length=a+P'.length+1:=by simp; omega
   rw [el] at h20 hin ⊢;have ecur:A++(P' ++ [p])++z::(Q++R)=(A++P')++p::z::(Q++R):=by simp
   have ecur2:A++(P' ++ [p])++z::(Q++R)=(A++P' ++ [p])++z::(Q++R):=by simp
   have l1:(A++P').length=a+P'.length:=by simp; omega
   have l2:(A++P' ++ [p]).length=a+P'.length+1:=by simp; omega
   generalize hcur:A++(P' ++ [p])++z::(Q++R)=cur at *;have hz:cur[a+P'.length+1]? = some z:=by rw [ecur2]; exact iA l2
   have hp:cur[a+P'.length]? = some p:=by rw [ecur]; exact iA l1
   have i1:a+P'.length<n:=by omega
   cases h33:aV z p with
   | false =>
     refine aZ.piece bc follows 1 _ _ _ _ (Qv cur n c a b i (a+P'.length) p z g) (Met.cons (jA h20) (Met.cons (da hin) (Met.cons (eX (fl _) hz) (Met.cons (qp (by omega)) (Met.cons (da i1) (Met.cons (eX (fl _) hp) (Met.cons (qn h33) Met.nil))))))) ay.nil az.nil E' rfl rfl (bq _ []) rfl fun g'=>.inr ⟨by simp,?_⟩
     show (if (2:Nat)=2 then _ else _)
     rw [if_pos rfl];exact ⟨rfl,fin fun q hq=>by simp at hq; subst hq; exact h33⟩
   | true =>
     have s1:(cur.set (a+P'.length+1) p).set (a+P'.length) z=A++P'++z::(p::Q++R):=by
       rw [ecur2,iH l2];have:A++P' ++ [p]++p::(Q++R)=(A++P')++p::(p::(Q++R)):=by simp
       rw [this,iH l1]; simp
     refine aZ.piece bc follows 1 _ _ _ _ (Qs cur (cur.set (a+P'.length+1) p) ((cur.set (a+P'.length+1) p).set (a+P'.length) z) n c a b i (a+P'.length) p z g)
       (Met.cons (jA h20) (Met.cons (da hin) (Met.cons (eX (fl _) hz) (Met.cons (qp (by omega)) (Met.cons (da i1) (Met.cons (eX (fl _) hp) (Met.cons (qn h33) (Met.cons (qp (by omega)) (Met.cons (qp (by omega)) (Met.cons (da i1) (Met.cons (eX (fl _) hp) (Met.cons (da hin) (Met.cons (eX (fl _) hz) (Met.cons (da hin) (Met.cons (da i1) (Met.cons (qp (by omega)) Met.nil)))))))))))))))) ay.nil
       (az.cons (jP (dw _) (by omega)) (az.cons (jP nu (by rw [List.length_set]; omega)) az.nil)) E' rfl rfl (bq _ []) rfl fun g'=>.inl ⟨rfl,P'.length,by simp,P',p::Q,g',by rw [hS]; simp,(fun q hq=>by
         rcases List.mem_cons.1 hq with rfl | hq
         ·exact h33
         ·exact hQ q hq),rfl,by rw [s1]⟩
theorem D6{A T C us:List aa}{n c a b:Nat}(hus:us=A++T++C)(hA:A.length=a)(hb:b=a+T.length)(hn:n=us.length)(hl:n<1000000)(W:bj)(x:Nat×Nat×Nat) :
  aZ Tryz.prog 53 W x zh ⟨tmsOf [af 0 n c,iN a,iN b,Fc] 0 .leaf,heapOf [ab us,.dead] aE,[]⟩ (uV 53 (A++aN aV T++C)):=by
 have hlen:us.length=a+T.length+C.length:=by rw [hus]; simp; omega
 refine aZ.seq (Q1:=fun e st=>e = .normal∧∃ g,st=pg n c a b us (a+1) g) (aZ.piece bc follows 1 _ _ _ _ (Qo us n c a b) (Met.cons (bA (by omega)) Met.nil) ay.nil az.nil Rt rfl rfl (bq us []) rfl fun g=>⟨rfl,g,rfl⟩) ?_ (fun x st hne hq=>absurd hq.1 hne)
 rintro st ⟨-,g,rfl⟩;refine aZ.block ?_
 refine aZ.loop (fun j st=>∃ k g,1≤k∧(k≤T.length∨T = [])∧j=T.length-k∧st=pg n c a b (A++aN aV (T.take k)++(T.drop k++C)) (a+k) g) ?_ (k:=T.length-1) ⟨1,g,Nat.le_refl _,?_,rfl,?_⟩
 ·rintro j st ⟨k,g,vR,uR,rfl,rfl⟩
  have hcl:(A++aN aV (T.take k)++(T.drop k++C)).length=n:=by rw [hn,hus]; simp [bK]; omega
  cases h14:decide (a+k<b) with
  | false =>
    have hge:=of_decide_eq_false h14
    refine aZ.seq (Q1:=fun e st=>e = .exit 0∧∃ g,st=av 53 g [] [ab (A++aN aV T++C)]) ?_ (fun st hq=>by cases hq.1) ?_
    ·have e1:T.take k=T:=List.take_of_length_le (by omega)
     have e2:T.drop k = []:=List.drop_of_length_le (by omega)
     rw [e1,e2,List.nil_append];exact aZ.piece bc follows 1 _ _ _ _ (Qt (A++aN aV T++C) n c a b (a+k) g) (Met.cons (bx h14) Met.nil) ay.nil az.nil JG rfl rfl (bq _ []) rfl fun g'=>⟨rfl,g',rfl⟩
    ·rintro e st hne ⟨rfl,g',rfl⟩
     refine .inr ⟨by simp,?_⟩
     show (if (0:Nat)=0 then _ else _)
     rw [if_pos rfl];exact ⟨rfl,g',rfl⟩
  | true =>
    have hlt:=of_decide_eq_true h14
    obtain ⟨z,hz⟩:∃ z,T[k]? = some z:=⟨_,List.getElem?_eq_getElem (by omega)⟩
    have hd:T.drop k=z::T.drop (k+1):=List.drop_eq_getElem?_toList_append.trans (by rw [hz]; rfl)
    have ht:T.take (k+1)=T.take k ++ [z]:=by rw [List.take_add_one,hz]; rfl
    have hS:(aN aV (T.take k)).length=k:=by rw [bK,List.length_take]; omega
    have ecur:A++aN aV (T.take k)++(T.drop k++C)=A++aN aV (T.take k)++z::(T.drop (k+1)++C):=by rw [hd]; simp
    rw [ecur] at hcl ⊢;refine aZ.seq (Q1:=fun e st=>e = .normal∧∃ g,st=pg n c a b (A++aN aV (T.take k)++z::(T.drop (k+1)++C)) (a+k) g) (aZ.piece bc follows 1 _ _ _ _ (Qr _ n c a b (a+k) g) (Met.cons (bx h14) Met.nil) ay.nil az.nil JG rfl rfl (bq _ []) rfl fun g'=>⟨rfl,g',rfl⟩) ?_ (fun x st hne hq=>absurd hq.1 hne)
    rintro st ⟨-,g,rfl⟩;refine aZ.seq (Q1:=fun e st=>e = .normal∧∃ g,st=pg n c a b (A++dx aV (aN aV (T.take k)) z++(T.drop (k+1)++C)) (a+k) g) ?_ ?_ (fun x st hne hq=>absurd hq.1 hne)
    ·refine aZ.block ?_
     refine aZ.mono (Q:=fun e st=>e = .normal∧∃ g,st=pg n c a b (A++dx aV (aN aV (T.take k)) z++(T.drop (k+1)++C)) (a+k) g) ?_ (fun e st q=>by obtain ⟨rfl,q⟩:=q; exact ⟨rfl,q⟩)
     refine aZ.seq (Q1:=fun e st=>e = .normal∧∃ g,st=Av n c a b (A++aN aV (T.take k)++z::(T.drop (k+1)++C)) (a+k) (a+k) g) (aZ.piece bc follows 1 _ _ _ _ (Qp _ n c a b (a+k) g) Met.nil ay.nil az.nil Ru rfl rfl (bq _ []) rfl fun g'=>⟨rfl,g',rfl⟩) ?_ (fun x st hne hq=>absurd hq.1 hne)
     rintro st ⟨-,g,rfl⟩;exact A5 rfl hA (by omega) hcl.symm hl W x g
    ·rintro st ⟨-,g,rfl⟩
     refine aZ.piece bc follows 1 _ _ _ _ (Qq _ n c a b (a+k) g) (Met.cons (bA (by omega)) Met.nil) ay.nil az.nil Rv rfl rfl (bq _ []) rfl fun g'=>.inl ⟨rfl,T.length-(k+1),by omega,k+1,g',by omega,.inl (by omega),rfl,?_⟩
     rw [ht,yy];rfl
 ·cases T with
  | nil=>exact .inr rfl
  | cons t T=>exact .inl (by simp)
 ·cases T with
  | nil=>rw [hus]; rfl
  | cons t T =>
    have e:aN aV ((t::T).take 1) = [t]:=rfl
    rw [e,hus];simp
open Classical in
noncomputable def g101(us:List aa):aB:=fun args hp=>match args with
 | [.slice (some ⟨k,0,none⟩) n c,.int .i64 (.ofNat a),.int .i64 (.ofNat b),f] =>
   if f=Fc∧cH us (.slice (some ⟨k,0,none⟩) n c) hp∧a≤b∧b≤us.length then some (vU,hp.put k (ab (us.take a++aN aV ((us.drop a).take (b-a))++us.drop b))) else none
 | _=>none
theorem Ph(us:List aa)(hn:us.length<1000000):aq Tryz.prog 178 (g101 us):=hZ follows Tryz.func178 GX (by kernel_rfl) fun args hp v hp' he hk=>by
 unfold g101 at he;split at he
 case h_2=>cases he
 rename_i k n c a b f;split at he
 case isFalse=>cases he
 rename_i hT;cases he;obtain ⟨rfl,⟨b',c',e,hb⟩,h1,h2⟩:=hT;simp only [af,Value.slice.injEq,Option.some.injEq,Addr.mk.injEq,and_true] at e;obtain ⟨rfl,rfl,rfl⟩:=e;refine kD (is:=[a,b]) hk hb (by rw [ntmps101]; simp) fun W x=>?_
 rw [ntmps101];refine aZ.mono (D6 (Tf (us:=us) h1) (by simp; omega) (by simp; omega) rfl hn W x) fun e st q=>?_
 obtain ⟨rfl,g,rfl⟩:=q;exact ⟨.inl rfl,rfl,Uq _ g,by show (heapOf _ aE).get 0=_; rw [al]; rfl⟩
noncomputable def B0:aB:=atW g101
theorem Mm:aq Tryz.prog 178 B0:=fO fun us hn=>Ph us hn
open Classical in
theorem yU{A X C us:List aa}{k n c a b:Nat}{hp:Hp}(hus:us=A++X++C)(hA:A.length=a)(hb':b=a+X.length)(hn:n=us.length)(hl:n<1000000)(hb:hp.get k=some (ab us)) :
  B0 [af k n c,iN a,iN b,Fc] hp=some (vU,hp.put k (ab (A++aN aV X++C))):=by
 subst hn;have hr:cH us (af k us.length c) hp:=⟨k,c,rfl,hb⟩
 unfold B0;rw [l9 hr hl];show (if Fc=Fc∧cH us (af k us.length c) hp∧a≤b∧b≤us.length then some (vU,hp.put k (ab (us.take a++aN aV ((us.drop a).take (b-a))++us.drop b))) else none)=_
 rw [if_pos ⟨rfl,hr,by omega,by rw [hus]; simp; omega⟩]
 obtain ⟨e1,e2,e3⟩:=Ho (C:=C) hA hb';rw [hus,e1,e2,e3]
noncomputable def Dv:Code:=(Tryz.f179.body).getD .skip
noncomputable def oz:Nat→Code
 | 0=>Dv
 | n+1=>sR (oz n)
noncomputable def CA:Code:=sL (sL Dv)
noncomputable def t102:Code:=cT (sR (sL Dv))
noncomputable def CB:Code:=sL t102
noncomputable def CC:Code:=sL (sR t102)
noncomputable def vh:Code:=nO (jn (sL (sR (sR t102))))
noncomputable def CD:Code:=sL (sL (sR (sR (sR t102))))
noncomputable def y6:Code:=nO (jn (sR (sL (sR (sR (sR t102))))))
noncomputable def CE:Code:=sL (sL (oz 1))
noncomputable def F2:Code:=cT (sR (sL (oz 1)))
noncomputable def CF:Code:=sL F2
noncomputable def CG:Code:=sL (sR F2)
noncomputable def vi:Code:=nO (jn (sL (sR (sR F2))))
noncomputable def CH:Code:=sL (sL (sR (sR (sR F2))))
noncomputable def y7:Code:=nO (jn (sR (sL (sR (sR (sR F2))))))
noncomputable def CI:Code:=sL (oz 2)
noncomputable def CJ:Code:=sL (oz 3)
noncomputable def CK:Code:=sL (oz 4)
noncomputable def y9:Code:=sL (oz 5)
noncomputable def CL:Code:=sL (oz 6)
noncomputable def vj:Code:=nO (jn (sL (oz 7)))
noncomputable def CM:Code:=sL (oz 8)
noncomputable def vk:Code:=sL (oz 9)
noncomputable def vl:Code:=sL (oz 10)
noncomputable def vm:Code:=oz 11
noncomputable abbrev FI:Code:=.seq CB (.seq CC (.seq (.block 0 (.loop vh)) (.seq (.seq CD (.block 2 (.loop y6))) .ret)))
noncomputable abbrev FJ:Code:=.seq CF (.seq CG (.seq (.block 4 (.loop vi)) (.seq (.seq CH (.block 6 (.loop y7))) .ret)))
noncomputable abbrev FK:Code:=.seq CI (.seq CJ (.seq CK (.seq y9 (.seq CL (.seq (.block 8 (.loop vj)) (.seq CM (.seq vk (.seq vl vm))))))))
noncomputable abbrev zi:Code:=.seq (.seq CA (.cond (.tmp 28) FI .skip)) (.seq (.seq CE (.cond (.tmp 80) FJ .skip)) FK)
theorem y3:Tryz.f179.body=some zi:=by kernel_rfl
theorem ntmps102:Tryz.f179.ntmps=220:=by kernel_rfl
theorem Ur(O:List ae)(g:Nat→Value):retVal Tryz.prog Tryz.f179 (av 220 g [] O)=some vU:=by kernel_rfl
theorem Rw:codeSafe Tryz.prog 220 CA=true:=by kernel_rfl
theorem Rx:codeSafe Tryz.prog 220 CB=true:=by kernel_rfl
theorem Ry:codeSafe Tryz.prog 220 CC=true:=by kernel_rfl
theorem Fa:codeSafe Tryz.prog 220 vh=true:=by kernel_rfl
theorem Rz:codeSafe Tryz.prog 220 CD=true:=by kernel_rfl
theorem JH:codeSafe Tryz.prog 220 y6=true:=by kernel_rfl
theorem RA:codeSafe Tryz.prog 220 CE=true:=by kernel_rfl
theorem RB:codeSafe Tryz.prog 220 CF=true:=by kernel_rfl
theorem RC:codeSafe Tryz.prog 220 CG=true:=by kernel_rfl
theorem Fb:codeSafe Tryz.prog 220 vi=true:=by kernel_rfl
theorem RD:codeSafe Tryz.prog 220 CH=true:=by kernel_rfl
theorem JI:codeSafe Tryz.prog 220 y7=true:=by kernel_rfl
theorem RE:codeSafe Tryz.prog 220 CI=true:=by kernel_rfl
theorem RG:codeSafe Tryz.prog 220 CJ=true:=by kernel_rfl
theorem RH:codeSafe Tryz.prog 220 CK=true:=by kernel_rfl
theorem JJ:codeSafe Tryz.prog 220 y9=true:=by kernel_rfl
theorem RI:codeSafe Tryz.prog 220 CL=true:=by kernel_rfl
theorem Fe:codeSafe Tryz.prog 220 vj=true:=by kernel_rfl
theorem RJ:codeSafe Tryz.prog 220 CM=true:=by kernel_rfl
theorem Ff:codeSafe Tryz.prog 220 vk=true:=by kernel_rfl
theorem Fg:codeSafe Tryz.prog 220 vl=true:=by kernel_rfl
theorem Fh:codeSafe Tryz.prog 220 vm=true:=by kernel_rfl
section
variable (call:aG) (us us1 us2 us':List aa) (n c a m b i j h k s r p e aM q:Nat) (x y u w:aa) (d:Bool) (g:Nat→Value)
abbrev BO(us:List aa)(d:Bool)(g:Nat→Value):St:=av 220 g [(0,af 0 n c),(1,iN a),(2,iN m),(3,iN b),(4,Fc),(28,.bool d)] [ab us]
theorem Qw:(execE Tryz.prog call [(27,iN (m-a)),(28,.bool d)] [] [] 10 CA ⟨tmsOf [af 0 n c,iN a,iN m,iN b,Fc] 0 .leaf,heapOf [ab us,.dead] aE,[]⟩).map (fun z=>(look2 1 [0] [0,1,2,3,4,28] (z.1,z.2.1),z.2.2)) =
 some ((.normal,[ab us],[(0,af 0 n c),(1,iN a),(2,iN m),(3,iN b),(4,Fc),(28,.bool d)],true),[rL m a,SB (m-a) 1 d],[],[]):=by kernel_rfl
abbrev Og(us:List aa)(g:Nat→Value):St:=av 220 g [(0,af 0 n c),(1,iN a),(3,iN b),(4,Fc),(10,iN m)] [ab us]
abbrev BQ(us:List aa)(i j:Nat)(g:Nat→Value):St:=av 220 g [(0,af 0 n c),(1,iN a),(4,Fc),(10,iN i),(11,iN j)] [ab us]
theorem Qx:(execE Tryz.prog call [] [] [] 10 CB (BO n c a m b us d g)).map (fun z=>(look2 1 [0] [0,1,3,4,10] (z.1,z.2.1),z.2.2)) =
 some ((.normal,[ab us],[(0,af 0 n c),(1,iN a),(3,iN b),(4,Fc),(10,iN m)],true),[],[],[]):=by kernel_rfl
theorem Qy:(execE Tryz.prog call [] [] [] 10 CC (Og n c a m b us g)).map (fun z=>(look2 1 [0] [0,1,4,10,11] (z.1,z.2.1),z.2.2)) =
 some ((.normal,[ab us],[(0,af 0 n c),(1,iN a),(4,Fc),(10,iN m),(11,iN b)],true),[],[],[]):=by kernel_rfl
theorem M5:(execE Tryz.prog dN [(33,.bool false)] [] [] 10 vh (BQ n c a us i j g)).map (fun z=>(look2 1 [0] [0,1,10] (z.1,z.2.1),z.2.2)) =
 some ((.exit 0,[ab us],[(0,af 0 n c),(1,iN a),(10,iN i)],true),[iF i j false],[],[]):=by kernel_rfl
noncomputable def Sz(b:Bool)(l:List db):List db:=iF i j true::HZ i j h (gS 0 n c h::j8 (hW us).get 151 0 (h*7) (.agg ⟨vc u⟩)::gS 0 n c a::j8 (hW us).get 151 0 (a*7) (.agg ⟨vc x⟩)::Gl u x b::l)
end
section
variable (us us1 us2 us':List aa) (n c a m b i j h k s r p e aM q:Nat) (x y u w:aa) (d:Bool) (g:Nat→Value)
theorem M4:(execE Tryz.prog dN (Wv a i j h x u true ++ [(52,iN (h+1))]) [] [] 20 vh (BQ n c a us i j g)).map (fun z=>(look2 1 [0] [0,1,4,10,11] (z.1,z.2.1),z.2.2)) =
 some ((.normal,[ab us],[(0,af 0 n c),(1,iN a),(4,Fc),(10,iN (h+1)),(11,iN j)],true),Sz us n c a i j h x u true [dF h],[],[]):=by kernel_rfl
theorem M3:(execE Tryz.prog dN (Wv a i j h x u false) [] [] 20 vh (BQ n c a us i j g)).map (fun z=>(look2 1 [0] [0,1,4,10,11] (z.1,z.2.1),z.2.2)) =
 some ((.normal,[ab us],[(0,af 0 n c),(1,iN a),(4,Fc),(10,iN i),(11,iN h)],true),Sz us n c a i j h x u false [],[],[]):=by kernel_rfl
abbrev Om(us:List aa)(i:Nat)(g:Nat→Value):St:=av 220 g [(0,af 0 n c),(1,iN a),(10,iN i)] [ab us]
abbrev GB(us:List aa)(i k:Nat)(g:Nat→Value):St:=av 220 g [(0,af 0 n c),(10,iN i),(13,iN k)] [ab us]
theorem Qz:(execE Tryz.prog dN [] [] [] 10 CD (Om n c a us i g)).map (fun z=>(look2 1 [0] [0,10,13] (z.1,z.2.1),z.2.2)) =
 some ((.normal,[ab us],[(0,af 0 n c),(10,iN i),(13,iN a)],true),[],[],[]):=by kernel_rfl
theorem M7:(execE Tryz.prog dN [(57,iN (i-1)),(58,.bool false)] [] [] 10 y6 (GB n c us i k g)).map (fun z=>(look2 1 [0] [] (z.1,z.2.1),z.2.2)) =
 some ((.exit 2,[ab us],[],true),[rL i 1,iF k (i-1) false],[],[]):=by kernel_rfl
theorem M6:(execE Tryz.prog dN [(57,iN (i-1)),(58,.bool true),(65,iN (k+1)),(68,iN (k+1)),(69,pb 0 ((k+1)*7)),(70,.agg ⟨vc y⟩),(73,pb 0 (k*7)),(74,.agg ⟨vc x⟩),(75,pb 0 (k*7)),(76,pb 0 ((k+1)*7)),(60,iN (k+1))] []
  [(1075,undef,[.put 0 (ab us1)]),(1076,undef,[.put 0 (ab us2)])] 10 y6 (GB n c us i k g)).map (fun z=>(look2 1 [0] [0,10,13] (z.1,z.2.1),z.2.2)) =
 some ((.normal,[ab us2],[(0,af 0 n c),(10,iN i),(13,iN (k+1))],true),
  [rL i 1,iF k (i-1) true,dF k,dF k,gS 0 n c (k+1),j8 (hW us).get 151 0 ((k+1)*7) (.agg ⟨vc y⟩),gS 0 n c k,j8 (hW us).get 151 0 (k*7) (.agg ⟨vc x⟩),gS 0 n c k,gS 0 n c (k+1),dF k],[],
  [yz (hW us) k y us1,yz ((hW us).put 0 (ab us1)) (k+1) x us2]):=by kernel_rfl
abbrev r9(us:List aa)(d:Bool)(g:Nat→Value):St:=av 220 g [(0,af 0 n c),(1,iN a),(2,iN m),(3,iN b),(4,Fc),(80,.bool d)] [ab us]
theorem QA:(execE Tryz.prog dN [(79,iN (b-m)),(80,.bool d)] [] [] 10 CE (BO n c a m b us false g)).map (fun z=>(look2 1 [0] [0,1,2,3,4,80] (z.1,z.2.1),z.2.2)) =
 some ((.normal,[ab us],[(0,af 0 n c),(1,iN a),(2,iN m),(3,iN b),(4,Fc),(80,.bool d)],true),[rL b m,SB (b-m) 1 d],[],[]):=by kernel_rfl
abbrev OB(us:List aa)(g:Nat→Value):St:=av 220 g [(0,af 0 n c),(2,iN m),(4,Fc),(14,iN a)] [ab us]
abbrev Ce(us:List aa)(i j:Nat)(g:Nat→Value):St:=av 220 g [(0,af 0 n c),(2,iN m),(4,Fc),(14,iN i),(15,iN j)] [ab us]
theorem QB:(execE Tryz.prog dN [] [] [] 10 CF (r9 n c a m b us d g)).map (fun z=>(look2 1 [0] [0,2,4,14] (z.1,z.2.1),z.2.2)) =
 some ((.normal,[ab us],[(0,af 0 n c),(2,iN m),(4,Fc),(14,iN a)],true),[],[],[]):=by kernel_rfl
theorem QC:(execE Tryz.prog dN [] [] [] 10 CG (OB n c a m us g)).map (fun z=>(look2 1 [0] [0,2,4,14,15] (z.1,z.2.1),z.2.2)) =
 some ((.normal,[ab us],[(0,af 0 n c),(2,iN m),(4,Fc),(14,iN a),(15,iN m)],true),[],[],[]):=by kernel_rfl
theorem M':(execE Tryz.prog dN [(85,.bool false)] [] [] 10 vi (Ce n c m us i j g)).map (fun z=>(look2 1 [0] [0,2,14] (z.1,z.2.1),z.2.2)) =
 some ((.exit 4,[ab us],[(0,af 0 n c),(2,iN m),(14,iN i)],true),[iF i j false],[],[]):=by kernel_rfl
noncomputable def SG(b:Bool)(l:List db):List db:=iF i j true::HZ i j h (gS 0 n c m::j8 (hW us).get 151 0 (m*7) (.agg ⟨vc y⟩)::gS 0 n c h::j8 (hW us).get 151 0 (h*7) (.agg ⟨vc u⟩)::Gl y u b::l)
theorem M8:(execE Tryz.prog dN (Wx m i j h y u false ++ [(105,iN (h+1))]) [] [] 20 vi (Ce n c m us i j g)).map (fun z=>(look2 1 [0] [0,2,4,14,15] (z.1,z.2.1),z.2.2)) =
 some ((.normal,[ab us],[(0,af 0 n c),(2,iN m),(4,Fc),(14,iN (h+1)),(15,iN j)],true),SG us n c m i j h y u false [dF h],[],[]):=by kernel_rfl
theorem M9:(execE Tryz.prog dN (Wx m i j h y u true) [] [] 20 vi (Ce n c m us i j g)).map (fun z=>(look2 1 [0] [0,2,4,14,15] (z.1,z.2.1),z.2.2)) =
 some ((.normal,[ab us],[(0,af 0 n c),(2,iN m),(4,Fc),(14,iN i),(15,iN h)],true),SG us n c m i j h y u true [],[],[]):=by kernel_rfl
abbrev OC(us:List aa)(i:Nat)(g:Nat→Value):St:=av 220 g [(0,af 0 n c),(2,iN m),(14,iN i)] [ab us]
abbrev GJ(us:List aa)(i k:Nat)(g:Nat→Value):St:=av 220 g [(0,af 0 n c),(14,iN i),(17,iN k)] [ab us]
theorem QD:(execE Tryz.prog dN [] [] [] 10 CH (OC n c m us i g)).map (fun z=>(look2 1 [0] [0,14,17] (z.1,z.2.1),z.2.2)) =
 some ((.normal,[ab us],[(0,af 0 n c),(14,iN i),(17,iN m)],true),[],[],[]):=by kernel_rfl
theorem Nb:(execE Tryz.prog dN [(110,.bool false)] [] [] 10 y7 (GJ n c us i k g)).map (fun z=>(look2 1 [0] [] (z.1,z.2.1),z.2.2)) =
 some ((.exit 6,[ab us],[],true),[DU k i false],[],[]):=by kernel_rfl
theorem Na:(execE Tryz.prog dN [(110,.bool true),(117,iN (k-1)),(120,iN (k-1)),(121,pb 0 ((k-1)*7)),(122,.agg ⟨vc x⟩),(125,pb 0 (k*7)),(126,.agg ⟨vc y⟩),(127,pb 0 (k*7)),(128,pb 0 ((k-1)*7)),(112,iN (k-1))] []
  [(1127,undef,[.put 0 (ab us1)]),(1128,undef,[.put 0 (ab us2)])] 10 y7 (GJ n c us i k g)).map (fun z=>(look2 1 [0] [0,14,17] (z.1,z.2.1),z.2.2)) =
 some ((.normal,[ab us2],[(0,af 0 n c),(14,iN i),(17,iN (k-1))],true),
  [DU k i true,rL k 1,rL k 1,gS 0 n c (k-1),j8 (hW us).get 151 0 ((k-1)*7) (.agg ⟨vc x⟩),gS 0 n c k,j8 (hW us).get 151 0 (k*7) (.agg ⟨vc y⟩),gS 0 n c k,gS 0 n c (k-1),rL k 1],[],
  [yz (hW us) k x us1,yz ((hW us).put 0 (ab us1)) (k-1) y us2]):=by kernel_rfl
abbrev OG(us:List aa)(g:Nat→Value):St:=av 220 g [(0,af 0 n c),(1,iN a),(2,iN m),(3,iN b),(4,Fc),(18,iN aM)] [ab us]
abbrev Cj(us:List aa)(g:Nat→Value):St:=av 220 g [(0,af 0 n c),(1,iN a),(2,iN m),(3,iN b),(4,Fc),(18,iN aM),(19,iN q)] [ab us]
abbrev OI(us:List aa)(s r:Nat)(g:Nat→Value):St:=av 220 g [(0,af 0 n c),(1,iN a),(2,iN m),(3,iN b),(4,Fc),(18,iN aM),(19,iN q),(20,iN s),(21,iN r)] [ab us]
abbrev Cn(us:List aa)(s r:Nat)(g:Nat→Value):St:=av 220 g [(0,af 0 n c),(1,iN a),(2,iN m),(3,iN b),(4,Fc),(18,iN aM),(19,iN q),(20,iN s),(21,iN r),(22,iN p)] [ab us]
theorem QE:(execE Tryz.prog dN [(131,iN (a+b)),(132,uN (a+b)),(133,uN aM),(134,iN aM)] [] [] 10 CI (r9 n c a m b us false g)).map (fun z=>(look2 1 [0] [0,1,2,3,4,18] (z.1,z.2.1),z.2.2)) =
 some ((.normal,[ab us],[(0,af 0 n c),(1,iN a),(2,iN m),(3,iN b),(4,Fc),(18,iN aM)],true),HZ a b aM [],[],[]):=by kernel_rfl
theorem QF:(execE Tryz.prog dN [(137,iN (aM+m))] [] [] 10 CJ (OG n c a m b aM us g)).map (fun z=>(look2 1 [0] [0,1,2,3,4,18,19] (z.1,z.2.1),z.2.2)) =
 some ((.normal,[ab us],[(0,af 0 n c),(1,iN a),(2,iN m),(3,iN b),(4,Fc),(18,iN aM),(19,iN (aM+m))],true),[yY aM m],[],[]):=by kernel_rfl
theorem QG:(execE Tryz.prog dN [] [] [] 10 CK (Cj n c a m b aM q us g)).map (fun z=>(look2 1 [0] [0,1,2,3,4,18,19] (z.1,z.2.1),z.2.2)) =
 some ((.normal,[ab us],[(0,af 0 n c),(1,iN a),(2,iN m),(3,iN b),(4,Fc),(18,iN aM),(19,iN q)],true),[],[],[]):=by kernel_rfl
theorem Nd:(execE Tryz.prog dN [(140,.bool true),(143,iN (q-b))] [] [] 10 y9 (Cj n c a m b aM q us g)).map (fun z=>(look2 1 [0] [0,1,2,3,4,18,19,20,21] (z.1,z.2.1),z.2.2)) =
 some ((.normal,[ab us],[(0,af 0 n c),(1,iN a),(2,iN m),(3,iN b),(4,Fc),(18,iN aM),(19,iN q),(20,iN (q-b)),(21,iN aM)],true),[DU m aM true,rL q b],[],[]):=by kernel_rfl
theorem Nc:(execE Tryz.prog dN [(140,.bool false)] [] [] 10 y9 (Cj n c a m b aM q us g)).map (fun z=>(look2 1 [0] [0,1,2,3,4,18,19,20,21] (z.1,z.2.1),z.2.2)) =
 some ((.normal,[ab us],[(0,af 0 n c),(1,iN a),(2,iN m),(3,iN b),(4,Fc),(18,iN aM),(19,iN q),(20,iN a),(21,iN m)],true),[DU m aM false],[],[]):=by kernel_rfl
theorem QH:(execE Tryz.prog dN [(148,iN (q-1))] [] [] 10 CL (OI n c a m b aM q us s r g)).map (fun z=>(look2 1 [0] [0,1,2,3,4,18,19,20,21,22] (z.1,z.2.1),z.2.2)) =
 some ((.normal,[ab us],[(0,af 0 n c),(1,iN a),(2,iN m),(3,iN b),(4,Fc),(18,iN aM),(19,iN q),(20,iN s),(21,iN r),(22,iN (q-1))],true),[rL q 1],[],[]):=by kernel_rfl
theorem Nh:(execE Tryz.prog dN [(151,.bool false)] [] [] 10 vj (Cn n c a m b p aM q us s r g)).map (fun z=>(look2 1 [0] [0,1,2,3,4,18,19,20] (z.1,z.2.1),z.2.2)) =
 some ((.exit 8,[ab us],[(0,af 0 n c),(1,iN a),(2,iN m),(3,iN b),(4,Fc),(18,iN aM),(19,iN q),(20,iN s)],true),[iF s r false],[],[]):=by kernel_rfl
noncomputable def SK(b:Bool)(l:List db):List db:=iF s r true::HZ s r h (rL p h::gS 0 n c (p-h)::j8 (hW us).get 151 0 ((p-h)*7) (.agg ⟨vc u⟩)::gS 0 n c h::j8 (hW us).get 151 0 (h*7) (.agg ⟨vc w⟩)::Gl u w b::l)
theorem Nf:(execE Tryz.prog dN (WJ h s r p u w false ++ [(173,iN (h+1))]) [] [] 20 vj (Cn n c a m b p aM q us s r g)).map (fun z=>(look2 1 [0] [0,1,2,3,4,18,19,20,21,22] (z.1,z.2.1),z.2.2)) =
 some ((.normal,[ab us],[(0,af 0 n c),(1,iN a),(2,iN m),(3,iN b),(4,Fc),(18,iN aM),(19,iN q),(20,iN (h+1)),(21,iN r),(22,iN p)],true),SK us n c h s r p u w false [dF h],[],[]):=by kernel_rfl
theorem Ng:(execE Tryz.prog dN (WJ h s r p u w true) [] [] 20 vj (Cn n c a m b p aM q us s r g)).map (fun z=>(look2 1 [0] [0,1,2,3,4,18,19,20,21,22] (z.1,z.2.1),z.2.2)) =
 some ((.normal,[ab us],[(0,af 0 n c),(1,iN a),(2,iN m),(3,iN b),(4,Fc),(18,iN aM),(19,iN q),(20,iN s),(21,iN h),(22,iN p)],true),SK us n c h s r p u w true [],[],[]):=by kernel_rfl
abbrev OM(us:List aa)(s:Nat)(g:Nat→Value):St:=av 220 g [(0,af 0 n c),(1,iN a),(2,iN m),(3,iN b),(4,Fc),(18,iN aM),(19,iN q),(20,iN s)] [ab us]
abbrev pn(us:List aa)(s e:Nat)(g:Nat→Value):St:=av 220 g [(0,af 0 n c),(1,iN a),(2,iN m),(3,iN b),(4,Fc),(18,iN aM),(20,iN s),(24,iN e)] [ab us]
theorem QI:(execE Tryz.prog dN [(177,iN (q-s))] [] [] 10 CM (OM n c a m b aM q us s g)).map (fun z=>(look2 1 [0] [0,1,2,3,4,18,20,24] (z.1,z.2.1),z.2.2)) =
 some ((.normal,[ab us],[(0,af 0 n c),(1,iN a),(2,iN m),(3,iN b),(4,Fc),(18,iN aM),(20,iN s),(24,iN (q-s))],true),[rL q s],[],[]):=by kernel_rfl
end
section
variable (call:aG) (us us':List aa) (n c a m b s e aM:Nat) (g:Nat→Value)
theorem Ni:(execE Tryz.prog call [(180,.bool false)] [] [] 10 vk (pn n c a m b aM us s e g)).map (fun z=>(look2 1 [0] [0,1,2,3,4,18,20,24] (z.1,z.2.1),z.2.2)) =
 some ((.normal,[ab us],[(0,af 0 n c),(1,iN a),(2,iN m),(3,iN b),(4,Fc),(18,iN aM),(20,iN s),(24,iN e)],true),[iF s m false],[],[]):=by kernel_rfl
theorem Nj:(execE Tryz.prog call [(180,.bool true),(184,.bool false)] [] [] 10 vk (pn n c a m b aM us s e g)).map (fun z=>(look2 1 [0] [0,1,2,3,4,18,20,24] (z.1,z.2.1),z.2.2)) =
 some ((.normal,[ab us],[(0,af 0 n c),(1,iN a),(2,iN m),(3,iN b),(4,Fc),(18,iN aM),(20,iN s),(24,iN e)],true),[iF s m true,iF m e false],[],[]):=by kernel_rfl
theorem Nk:(execE Tryz.prog call [(180,.bool true),(184,.bool true)] [] [(191,vU,[.put 0 (ab us')])] 10 vk (pn n c a m b aM us s e g)).map (fun z=>(look2 1 [0] [0,1,2,3,4,18,20,24] (z.1,z.2.1),z.2.2)) =
 some ((.normal,[ab us'],[(0,af 0 n c),(1,iN a),(2,iN m),(3,iN b),(4,Fc),(18,iN aM),(20,iN s),(24,iN e)],true),[iF s m true,iF m e true],[(call 209 [af 0 n c,iN s,iN m,iN e,Fc] (hW us),(vU,(hW us).put 0 (ab us')))],[]):=by kernel_rfl
theorem Nl:(execE Tryz.prog call [(194,.bool false)] [] [] 10 vl (pn n c a m b aM us s e g)).map (fun z=>(look2 1 [0] [0,1,2,3,4,18,20,24] (z.1,z.2.1),z.2.2)) =
 some ((.normal,[ab us],[(0,af 0 n c),(1,iN a),(2,iN m),(3,iN b),(4,Fc),(18,iN aM),(20,iN s),(24,iN e)],true),[iF a s false],[],[]):=by kernel_rfl
theorem Nn:(execE Tryz.prog call [(194,.bool true),(198,.bool false)] [] [] 10 vl (pn n c a m b aM us s e g)).map (fun z=>(look2 1 [0] [0,1,2,3,4,18,20,24] (z.1,z.2.1),z.2.2)) =
 some ((.normal,[ab us],[(0,af 0 n c),(1,iN a),(2,iN m),(3,iN b),(4,Fc),(18,iN aM),(20,iN s),(24,iN e)],true),[iF a s true,iF s aM false],[],[]):=by kernel_rfl
theorem No:(execE Tryz.prog call [(194,.bool true),(198,.bool true)] [] [(205,vU,[.put 0 (ab us')])] 10 vl (pn n c a m b aM us s e g)).map (fun z=>(look2 1 [0] [0,1,2,3,4,18,20,24] (z.1,z.2.1),z.2.2)) =
 some ((.normal,[ab us'],[(0,af 0 n c),(1,iN a),(2,iN m),(3,iN b),(4,Fc),(18,iN aM),(20,iN s),(24,iN e)],true),[iF a s true,iF s aM true],[(call 179 [af 0 n c,iN a,iN s,iN aM,Fc] (hW us),(vU,(hW us).put 0 (ab us')))],[]):=by kernel_rfl
theorem Np:(execE Tryz.prog call [(208,.bool false)] [] [] 10 vm (pn n c a m b aM us s e g)).map (fun z=>(look2 1 [0] [] (z.1,z.2.1),z.2.2)) =
 some ((.normal,[ab us],[],true),[iF aM e false],[],[]):=by kernel_rfl
theorem Nr:(execE Tryz.prog call [(208,.bool true),(212,.bool false)] [] [] 10 vm (pn n c a m b aM us s e g)).map (fun z=>(look2 1 [0] [] (z.1,z.2.1),z.2.2)) =
 some ((.normal,[ab us],[],true),[iF aM e true,iF e b false],[],[]):=by kernel_rfl
theorem Ns:(execE Tryz.prog call [(208,.bool true),(212,.bool true)] [] [(219,vU,[.put 0 (ab us')])] 10 vm (pn n c a m b aM us s e g)).map (fun z=>(look2 1 [0] [] (z.1,z.2.1),z.2.2)) =
 some ((.normal,[ab us'],[],true),[iF aM e true,iF e b true],[(call 179 [af 0 n c,iN aM,iN e,iN b,Fc] (hW us),(vU,(hW us).put 0 (ab us')))],[]):=by kernel_rfl
end
section
variable {A X Y C us:List aa} {a m b:Nat}
end
def uT(us:List aa)(e:Exit)(st:St):Prop:=(e = .normal∨e = .ret)∧∃ g,st=av 220 g [] [ab us]
def te(us:List aa)(e:Exit)(st:St):Prop:=e = .ret∧∃ g,st=av 220 g [] [ab us]
theorem EZ{us:List aa}{W:bj}{x:Nat×Nat×Nat}{g:Nat→Value}:aZ Tryz.prog 220 W x .ret (av 220 g [] [ab us]) (te us):=fun a w m f=>wp_ret ⟨_,m,f,rfl,g,rfl⟩
theorem Fz{A Y C us:List aa}{z:aa}{n c a m b:Nat}(hus:us=A ++ [z]++Y++C)(hA:A.length=a)(hm:m=a+1)(hb:b=m+Y.length)(hn:n=us.length)(hl:n<1000000)(hz:Kn z)(hK:∀ u∈Y,Kn u)(hY:mG aV Y)(W:bj)(x:Nat×Nat×Nat)(g:Nat→Value) :
  aZ Tryz.prog 220 W x FI (BO n c a m b us true g) (te (A++dy aV [z] Y++C)):=by
 have hlen:us.length=a+1+Y.length+C.length:=by rw [hus]; simp; omega
 have hza:us[a]? = some z:=by have:=KJ (X:=[z]) hus hA (i:=0) (by simp); simpa using this
 have hYi:∀ {i:Nat},i<Y.length→us[m+i]? = Y[i]?:=fun h=>KK (X:=[z]) hus hA hm h
 refine aZ.seq (Q1:=fun e st=>e = .normal∧∃ g,st=Og n c a m b us g) (aZ.piece bc follows 1 _ _ _ _ (Qx dN us n c a m b true g) Met.nil ay.nil az.nil Rx rfl rfl (bq us []) rfl fun g=>⟨rfl,g,rfl⟩) ?_ (fun x st hne hq=>absurd hq.1 hne)
 rintro st ⟨-,g,rfl⟩;refine aZ.seq (Q1:=fun e st=>e = .normal∧∃ g,st=BQ n c a us m b g) (aZ.piece bc follows 1 _ _ _ _ (Qy dN us n c a m b g) Met.nil ay.nil az.nil Ry rfl rfl (bq us []) rfl fun g=>⟨rfl,g,rfl⟩) ?_ (fun x st hne hq=>absurd hq.1 hne)
 rintro st ⟨-,g,rfl⟩;refine aZ.seq (Q1:=fun e st=>e = .normal∧∃ p g,p≤Y.length∧(∀ k u,k<p→Y[k]? = some u→aV u z=true)∧(∀ k u,p≤k→Y[k]? = some u→aV u z=false)∧st=Om n c a us (m+p) g) ?_ ?_ (fun x st hne hq=>absurd hq.1 hne)
 ·refine aZ.block ?_
  refine aZ.loop (fun k st=>∃ p r g,p≤r∧r≤Y.length∧k=r-p∧(∀ k u,k<p→Y[k]? = some u→aV u z=true)∧(∀ k u,r≤k→Y[k]? = some u→aV u z=false)∧st=BQ n c a us (m+p) (m+r) g) ?_ (k:=Y.length)
    ⟨0,Y.length,g,Nat.zero_le _,Nat.le_refl _,rfl,fun k u hk=>absurd hk (Nat.not_lt_zero _),fun k u hk hu=>(by rw [List.getElem?_eq_none hk] at hu; cases hu),by rw [hb]; rfl⟩
  rintro k st ⟨p,r,g,hpr,hr,rfl,hlo,hhi,rfl⟩;cases h33:decide (m+p<m+r) with
  | false =>
    have e:p=r:=by have:=of_decide_eq_false h33; omega
    subst e;refine aZ.piece bc follows 1 _ _ _ _ (M5 us n c a (m+p) (m+p) g) (Met.cons (bx h33) Met.nil) ay.nil az.nil Fa rfl rfl (bq us []) rfl fun g'=>.inr ⟨by simp,?_⟩
    show (if (0:Nat)=0 then _ else _)
    rw [if_pos rfl];exact ⟨rfl,p,g',hr,hlo,hhi,rfl⟩
  | true =>
    have hlt:=of_decide_eq_true h33
    have eh:(m+p+(m+r)) / 2=m+(p+r) / 2:=by omega
    have hq:(p+r) / 2<Y.length:=by omega
    obtain ⟨u,hu⟩:=gu hq;have hku:=hK u (List.mem_of_getElem? hu)
    have hui:us[(m+p+(m+r)) / 2]? = some u:=by rw [eh,hYi hq,hu]
    have met:∀ {b:Bool} {l:List db},aV u z=b→Met l→Met (Sz us n c a (m+p) (m+r) ((m+p+(m+r)) / 2) z u b l):=fun hb hl =>
      Met.cons (bx h33) (tW (by omega) (Met.cons (da (by omega)) (Met.cons (eX (fl _) hui) (Met.cons (da (by omega)) (Met.cons (eX (fl _) hza) (Met.cons (qn hb) hl))))))
    cases h50:aV u z with
    | true =>
      refine aZ.piece bc follows 1 _ _ _ _ (M4 us n c a (m+p) (m+r) ((m+p+(m+r)) / 2) z u g) (met h50 (Met.cons (bA (by omega)) Met.nil)) ay.nil az.nil Fa rfl rfl (bq us []) rfl fun g'=>.inl ⟨rfl,r-((p+r) / 2+1),by omega,(p+r) / 2+1,r,g',by omega,hr,rfl,fun k v hk hv=>?_,hhi,by rw [eh]; rfl⟩
      cases e:aV v z with
      | true=>rfl
      | false =>
        have h1:=lE hY hK (show k≤(p+r) / 2 by omega) hv hu
        rw [sw.ntr u v z hku (hK v (List.mem_of_getElem? hv)) hz h1 e] at h50; cases h50
    | false =>
      refine aZ.piece bc follows 1 _ _ _ _ (M3 us n c a (m+p) (m+r) ((m+p+(m+r)) / 2) z u g) (met h50 Met.nil) ay.nil az.nil Fa rfl rfl (bq us []) rfl fun g'=>.inl ⟨rfl,(p+r) / 2-p,by omega,p,(p+r) / 2,g',by omega,by omega,rfl,hlo,fun k v hk hv=>?_,by rw [eh]⟩
      have h1:=lE hY hK hk hu hv
      exact sw.ntr v u z (hK v (List.mem_of_getElem? hv)) hku hz h1 h50
 ·rintro st ⟨-,p,g,hp,hlo,hhi,rfl⟩
  obtain ⟨Y1,Y2,hYe,hY1⟩:∃ Y1 Y2,Y=Y1++Y2∧Y1.length=p:=⟨Y.take p,Y.drop p,(List.take_append_drop _ _).symm,by simp; omega⟩
  have k1:∀ u∈Y1,aV u z=true:=fun u hu=>by
    obtain ⟨i,hi⟩:=List.mem_iff_getElem?.1 hu;have hlt:=(List.getElem?_eq_some_iff.1 hi).1
    exact hlo i u (by omega) (by rw [hYe,List.getElem?_append_left hlt,hi])
  have k2:∀ u∈Y2,aV u z=false:=fun u hu=>by
    obtain ⟨i,hi⟩:=List.mem_iff_getElem?.1 hu;exact hhi (p+i) u (by omega) (by rw [hYe,List.getElem?_append_right (by omega),show p+i-Y1.length=i by omega,hi])
  have hfin:A++dy aV [z] Y++C=A++Y1++z::(Y2++C):=by
    rw [hYe,ue k1 k2 (by rw [← hYe]; exact hY)]; simp
  refine aZ.seq (Q1:=fun e st=>e = .normal∧∃ g,st=av 220 g [] [ab (A++Y1++z::(Y2++C))]) ?_ ?_ (fun x st hne hq=>absurd hq.1 hne)
  ·refine aZ.seq (Q1:=fun e st=>e = .normal∧∃ g,st=GB n c us (m+p) a g) (aZ.piece bc follows 1 _ _ _ _ (Qz us n c a (m+p) g) Met.nil ay.nil az.nil Rz rfl rfl (bq us []) rfl fun g=>⟨rfl,g,rfl⟩) ?_ (fun x st hne hq=>absurd hq.1 hne)
   rintro st ⟨-,g,rfl⟩;refine aZ.block ?_
   refine aZ.loop (fun k st=>∃ P Q g,Y1=P++Q∧k=Q.length∧st=GB n c (A++P++z::(Q++Y2++C)) (m+p) (a+P.length) g) ?_ (k:=Y1.length) ⟨[],Y1,g,rfl,rfl,by rw [hus,hYe]; simp⟩
   rintro k st ⟨P,Q,g,hPQ,rfl,rfl⟩;have hpl:p=P.length+Q.length:=by rw [← hY1,hPQ]; simp
   have hcl:(A++P++z::(Q++Y2++C)).length=n:=by rw [hn,hus,hYe,hPQ]; simp; omega
   cases h58:decide (a+P.length<m+p-1) with
   | false =>
     have hQ:Q = []:=List.eq_nil_of_length_eq_zero (by have:=of_decide_eq_false h58; omega)
     subst hQ;rw [List.append_nil] at hPQ;subst hPQ;refine aZ.piece bc follows 1 _ _ _ _ (M7 _ n c (m+p) (a+Y1.length) g) (Met.cons (dB (by omega) (by omega)) (Met.cons (bx h58) Met.nil)) ay.nil az.nil JH rfl rfl (bq _ []) rfl fun g'=>.inr ⟨by simp,?_⟩
     show (if (2:Nat)=2 then _ else _)
     rw [if_pos rfl];exact ⟨rfl,g',by simp⟩
   | true =>
     have hlt:=of_decide_eq_true h58
     match Q,hPQ,hpl,hcl with
     | [],_,hpl,_=>simp at hpl; omega
     | y::Q,hPQ,hpl,hcl =>
       simp only [List.length_cons] at hpl;have l1:(A++P).length=a+P.length:=by simp; omega
       have l2:(A++P ++ [y]).length=a+P.length+1:=by simp; omega
       have l2':(A++P ++ [z]).length=a+P.length+1:=by simp; omega
       have ec:A++P++z::(y::Q++Y2++C)=(A++P ++ [z])++y::(Q++Y2++C):=by simp
       have dg:(A++P++z::(y::Q++Y2++C))[a+P.length]? = some z:=iA l1
       have hp2:(A++P++z::(y::Q++Y2++C))[a+P.length+1]? = some y:=by rw [ec]; exact iA l2'
       have hin:a+P.length+1<n:=by rw [← hcl]; simp; omega
       have s2:((A++P++z::(y::Q++Y2++C)).set (a+P.length) y).set (a+P.length+1) z=A++(P ++ [y])++z::(Q++Y2++C):=by
         rw [iH l1];have:A++P++y::(y::Q++Y2++C)=(A++P ++ [y])++y::(Q++Y2++C):=by simp
         rw [this,iH l2]; simp
       generalize hcur:A++P++z::(y::Q++Y2++C)=cur at *;refine aZ.piece bc follows 1 _ _ _ _ (M6 cur (cur.set (a+P.length) y) ((cur.set (a+P.length) y).set (a+P.length+1) z) n c (m+p) (a+P.length) z y g)
         (Met.cons (dB (by omega) (by omega)) (Met.cons (bx h58) (Met.cons (bA (by omega)) (Met.cons (bA (by omega)) (Met.cons (da hin) (Met.cons (eX (fl _) hp2) (Met.cons (da (by omega)) (Met.cons (eX (fl _) dg) (Met.cons (da (by omega)) (Met.cons (da hin) (Met.cons (bA (by omega)) Met.nil)))))))))))
         ay.nil (az.cons (jP (dw _) (by omega)) (az.cons (jP nu (by rw [List.length_set]; omega)) az.nil)) JH rfl rfl (bq _ []) rfl fun g'=>.inl ⟨rfl,Q.length,by simp,P ++ [y],Q,g',by rw [hPQ]; simp,rfl,?_⟩
       rw [s2,List.length_append];rfl
  ·rintro st ⟨-,g,rfl⟩
   rw [hfin];exact EZ
theorem Bq{A X C us:List aa}{y:aa}{n c a m b:Nat}{d:Bool}(hus:us=A++X ++ [y]++C)(hA:A.length=a)(hm:m=a+X.length)(hn:n=us.length)(hl:n<1000000)(hy:Kn y)(hK:∀ u∈X,Kn u)(hX:mG aV X)(W:bj)(x:Nat×Nat×Nat)(g:Nat→Value) :
  aZ Tryz.prog 220 W x FJ (r9 n c a m b us d g) (te (A++dy aV X [y]++C)):=by
 have hlen:us.length=a+X.length+1+C.length:=by rw [hus]; simp; omega
 have hym:us[m]? = some y:=by have:=KK (Y:=[y]) hus hA hm (i:=0) (by simp); simpa using this
 have hXi:∀ {i:Nat},i<X.length→us[a+i]? = X[i]?:=fun h=>KJ (Y:=[y]) hus hA h
 refine aZ.seq (Q1:=fun e st=>e = .normal∧∃ g,st=OB n c a m us g) (aZ.piece bc follows 1 _ _ _ _ (QB us n c a m b d g) Met.nil ay.nil az.nil RB rfl rfl (bq us []) rfl fun g=>⟨rfl,g,rfl⟩) ?_ (fun x st hne hq=>absurd hq.1 hne)
 rintro st ⟨-,g,rfl⟩;refine aZ.seq (Q1:=fun e st=>e = .normal∧∃ g,st=Ce n c m us a m g) (aZ.piece bc follows 1 _ _ _ _ (QC us n c a m g) Met.nil ay.nil az.nil RC rfl rfl (bq us []) rfl fun g=>⟨rfl,g,rfl⟩) ?_ (fun x st hne hq=>absurd hq.1 hne)
 rintro st ⟨-,g,rfl⟩;refine aZ.seq (Q1:=fun e st=>e = .normal∧∃ p g,p≤X.length∧(∀ k u,k<p→X[k]? = some u→aV y u=false)∧(∀ k u,p≤k→X[k]? = some u→aV y u=true)∧st=OC n c m us (a+p) g) ?_ ?_ (fun x st hne hq=>absurd hq.1 hne)
 ·refine aZ.block ?_
  refine aZ.loop (fun k st=>∃ p r g,p≤r∧r≤X.length∧k=r-p∧(∀ k u,k<p→X[k]? = some u→aV y u=false)∧(∀ k u,r≤k→X[k]? = some u→aV y u=true)∧st=Ce n c m us (a+p) (a+r) g) ?_ (k:=X.length)
    ⟨0,X.length,g,Nat.zero_le _,Nat.le_refl _,rfl,fun k u hk=>absurd hk (Nat.not_lt_zero _),fun k u hk hu=>(by rw [List.getElem?_eq_none hk] at hu; cases hu),by rw [← hm]; rfl⟩
  rintro k st ⟨p,r,g,hpr,hr,rfl,hlo,hhi,rfl⟩;cases h85:decide (a+p<a+r) with
  | false =>
    have e:p=r:=by have:=of_decide_eq_false h85; omega
    subst e;refine aZ.piece bc follows 1 _ _ _ _ (M' us n c m (a+p) (a+p) g) (Met.cons (bx h85) Met.nil) ay.nil az.nil Fb rfl rfl (bq us []) rfl fun g'=>.inr ⟨by simp,?_⟩
    show (if (4:Nat)=4 then _ else _)
    rw [if_pos rfl];exact ⟨rfl,p,g',hr,hlo,hhi,rfl⟩
  | true =>
    have hlt:=of_decide_eq_true h85
    have eh:(a+p+(a+r)) / 2=a+(p+r) / 2:=by omega
    have hq:(p+r) / 2<X.length:=by omega
    obtain ⟨u,hu⟩:=gu hq;have hku:=hK u (List.mem_of_getElem? hu)
    have hui:us[(a+p+(a+r)) / 2]? = some u:=by rw [eh,hXi hq,hu]
    have met:∀ {b:Bool} {l:List db},aV y u=b→Met l→Met (SG us n c m (a+p) (a+r) ((a+p+(a+r)) / 2) y u b l):=fun hb hl =>
      Met.cons (bx h85) (tW (by omega) (Met.cons (da (by omega)) (Met.cons (eX (fl _) hym) (Met.cons (da (by omega)) (Met.cons (eX (fl _) hui) (Met.cons (qn hb) hl))))))
    cases h102:aV y u with
    | false =>
      refine aZ.piece bc follows 1 _ _ _ _ (M8 us n c m (a+p) (a+r) ((a+p+(a+r)) / 2) y u g) (met h102 (Met.cons (bA (by omega)) Met.nil)) ay.nil az.nil Fb rfl rfl (bq us []) rfl fun g'=>.inl ⟨rfl,r-((p+r) / 2+1),by omega,(p+r) / 2+1,r,g',by omega,hr,rfl,fun k v hk hv=>?_,hhi,by rw [eh]; rfl⟩
      have h1:=lE hX hK (show k≤(p+r) / 2 by omega) hv hu
      exact sw.ntr y u v hy hku (hK v (List.mem_of_getElem? hv)) h102 h1
    | true =>
      refine aZ.piece bc follows 1 _ _ _ _ (M9 us n c m (a+p) (a+r) ((a+p+(a+r)) / 2) y u g) (met h102 Met.nil) ay.nil az.nil Fb rfl rfl (bq us []) rfl fun g'=>.inl ⟨rfl,(p+r) / 2-p,by omega,p,(p+r) / 2,g',by omega,by omega,rfl,hlo,fun k v hk hv=>?_,by rw [eh]⟩
      cases e:aV y v with
      | true=>rfl
      | false =>
        have h1:=lE hX hK hk hu hv
        rw [sw.ntr y v u hy (hK v (List.mem_of_getElem? hv)) hku e h1] at h102; cases h102
 ·rintro st ⟨-,p,g,hp,hlo,hhi,rfl⟩
  obtain ⟨X1,X2,hXe,hX1⟩:∃ X1 X2,X=X1++X2∧X1.length=p:=⟨X.take p,X.drop p,(List.take_append_drop _ _).symm,by simp; omega⟩
  have k1:∀ u∈X1,aV y u=false:=fun u hu=>by
    obtain ⟨i,hi⟩:=List.mem_iff_getElem?.1 hu;have hlt:=(List.getElem?_eq_some_iff.1 hi).1
    exact hlo i u (by omega) (by rw [hXe,List.getElem?_append_left hlt,hi])
  have k2:∀ u∈X2,aV y u=true:=fun u hu=>by
    obtain ⟨i,hi⟩:=List.mem_iff_getElem?.1 hu;exact hhi (p+i) u (by omega) (by rw [hXe,List.getElem?_append_right (by omega),show p+i-X1.length=i by omega,hi])
  have hfin:A++dy aV X [y]++C=A++X1++y::(X2++C):=by
    have:dy aV X [y]=dx aV X y:=rfl
    rw [this,gm hXe k2 (fun q hq=>k1 q (List.mem_of_getLast? hq))]; simp
  refine aZ.seq (Q1:=fun e st=>e = .normal∧∃ g,st=av 220 g [] [ab (A++X1++y::(X2++C))]) ?_ ?_ (fun x st hne hq=>absurd hq.1 hne)
  ·refine aZ.seq (Q1:=fun e st=>e = .normal∧∃ g,st=GJ n c us (a+p) m g) (aZ.piece bc follows 1 _ _ _ _ (QD us n c m (a+p) g) Met.nil ay.nil az.nil RD rfl rfl (bq us []) rfl fun g=>⟨rfl,g,rfl⟩) ?_ (fun x st hne hq=>absurd hq.1 hne)
   rintro st ⟨-,g,rfl⟩;refine aZ.block ?_
   refine aZ.loop (fun k st=>∃ P Q g,X2=P++Q∧k=P.length∧st=GJ n c (A++X1++P++y::(Q++C)) (a+p) (a+p+P.length) g) ?_ (k:=X2.length) ⟨X2,[],g,by simp,rfl,by rw [hus,hXe,show a+p+X2.length=m by rw [hm,hXe]; simp; omega]; simp⟩
   rintro k st ⟨P,Q,g,hPQ,rfl,rfl⟩;have hcl:(A++X1++P++y::(Q++C)).length=n:=by rw [hn,hus,hXe,hPQ]; simp; omega
   cases h110:decide (a+p<a+p+P.length) with
   | false =>
     have hP:P = []:=List.eq_nil_of_length_eq_zero (by have:=of_decide_eq_false h110; omega)
     subst hP;rw [List.nil_append] at hPQ;subst hPQ;refine aZ.piece bc follows 1 _ _ _ _ (Nb _ n c (a+p) (a+p+([]:List aa).length) g) (Met.cons (jA h110) Met.nil) ay.nil az.nil JI rfl rfl (bq _ []) rfl fun g'=>.inr ⟨by simp,?_⟩
     show (if (6:Nat)=6 then _ else _)
     rw [if_pos rfl];exact ⟨rfl,g',by simp⟩
   | true =>
     have hpos:=of_decide_eq_true h110
     obtain ⟨P',q,rfl⟩:∃ P' q,P=P' ++ [q]:=by
       rcases List.eq_nil_or_concat P with h | ⟨L,b,h⟩
       ·rw [h] at hpos; simp at hpos
       ·exact ⟨L,b,by simpa using h⟩
     have el:a+p+(P' ++ [q]).length=a+p+P'.length+1:=by simp; omega
     have e1:A++X1++(P' ++ [q])++y::(Q++C)=(A++X1++P')++q::y::(Q++C):=by simp
     have e2:A++X1++(P' ++ [q])++y::(Q++C)=(A++X1++P' ++ [q])++y::(Q++C):=by simp
     have l1:(A++X1++P').length=a+p+P'.length:=by simp; omega
     have l2:(A++X1++P' ++ [q]).length=a+p+P'.length+1:=by simp; omega
     rw [el] at h110 ⊢;have hg1:(A++X1++(P' ++ [q])++y::(Q++C))[a+p+P'.length]? = some q:=by rw [e1]; exact iA l1
     have hg2:(A++X1++(P' ++ [q])++y::(Q++C))[a+p+P'.length+1]? = some y:=by rw [e2]; exact iA l2
     have hin:a+p+P'.length+1<n:=by rw [← hcl]; simp; omega
     have s2:((A++X1++(P' ++ [q])++y::(Q++C)).set (a+p+P'.length+1) q).set (a+p+P'.length+1-1) y=A++X1++P'++y::(q::Q++C):=by
       rw [e2,iH l2];have:A++X1++P' ++ [q]++q::(Q++C)=(A++X1++P')++q::(q::(Q++C)):=by simp
       rw [this,show a+p+P'.length+1-1=a+p+P'.length by omega,iH l1]; simp
     generalize hcur:A++X1++(P' ++ [q])++y::(Q++C)=cur at *;have ep:a+p+P'.length+1-1=a+p+P'.length:=by omega
     refine aZ.piece bc follows 1 _ _ _ _ (Na cur (cur.set (a+p+P'.length+1) q) ((cur.set (a+p+P'.length+1) q).set (a+p+P'.length+1-1) y) n c (a+p) (a+p+P'.length+1) q y g)
       (Met.cons (jA h110) (Met.cons (dB (by omega) (by omega)) (Met.cons (dB (by omega) (by omega)) (Met.cons (da (by omega)) (Met.cons (eX (fl _) (by rw [ep]; exact hg1)) (Met.cons (da hin) (Met.cons (eX (fl _) hg2) (Met.cons (da hin) (Met.cons (da (by omega)) (Met.cons (dB (by omega) (by omega)) Met.nil))))))))))
       ay.nil (az.cons (jP (dw _) (by omega)) (az.cons (jP nu (by rw [List.length_set]; omega)) az.nil)) JI rfl rfl (bq _ []) rfl fun g'=>.inl ⟨rfl,P'.length,by simp,P',q::Q,g',by rw [hPQ]; simp,rfl,?_⟩
     rw [s2,ep]
  ·rintro st ⟨-,g,rfl⟩
   rw [hfin];exact EZ
open Classical in
noncomputable def g102(w:Nat)(us:List aa):aB:=fun args hp=>match args with
 | [.slice (some ⟨k,0,none⟩) n c,.int .i64 (.ofNat a),.int .i64 (.ofNat m),.int .i64 (.ofNat b),f] =>
   if f=Fc∧cH us (.slice (some ⟨k,0,none⟩) n c) hp∧a<m∧m<b∧b≤us.length∧b-a≤w∧(∀ z∈(us.drop a).take (m-a),Kn z)∧(∀ z∈(us.drop m).take (b-m),Kn z)∧mG aV ((us.drop a).take (m-a))∧mG aV ((us.drop m).take (b-m)) then
     some (vU,hp.put k (ab (us.take a++dy aV ((us.drop a).take (m-a)) ((us.drop m).take (b-m))++us.drop b))) else none
 | _=>none
open Classical in
theorem pJ{w:Nat}{A X Y C us:List aa}{k n c a m b:Nat}{hp:Hp}(hus:us=A++X++Y++C)(hA:A.length=a)(hm:m=a+X.length)(hb':b=m+Y.length)(hX:0<X.length)(hY:0<Y.length)(hn:n=us.length)(hl:n<1000000)(hw:b-a≤w)
  (kX:∀ z∈X,Kn z) (kY:∀ z∈Y,Kn z) (sX:mG aV X) (sY:mG aV Y) (hb:hp.get k=some (ab us)) :
  atW (g102 w) [af k n c,iN a,iN m,iN b,Fc] hp=some (vU,hp.put k (ab (A++dy aV X Y++C))):=by
 subst hn;have hr:cH us (af k us.length c) hp:=⟨k,c,rfl,hb⟩
 rw [l9 hr hl];obtain ⟨e1,e2,e3,e4⟩:=zn (C:=C) hA hm hb';show (if Fc=Fc∧cH us (af k us.length c) hp∧a<m∧m<b∧b≤us.length∧b-a≤w∧(∀ z∈(us.drop a).take (m-a),Kn z)∧(∀ z∈(us.drop m).take (b-m),Kn z)∧mG aV ((us.drop a).take (m-a))∧mG aV ((us.drop m).take (b-m)) then
    some (vU,hp.put k (ab (us.take a++dy aV ((us.drop a).take (m-a)) ((us.drop m).take (b-m))++us.drop b))) else none)=_
 rw [hus] at hr ⊢;rw [e1,e2,e3,e4,if_pos ⟨rfl,hr,by omega,by omega,by simp; omega,hw,kX,kY,sX,sY⟩]
noncomputable def JW(w:Nat):Ext:=fq (cR Tryz.prog []) [(209,B7),(179,atW (g102 w))]
noncomputable def fP(w:Nat):aG:=aCall Tryz.prog (JW w) 5
theorem Cz(w:Nat)(args:List Value)(hp:Hp):fP w 209 args hp=B7 args hp:=by
 show aCall Tryz.prog (JW w) 5 209 _ _=_
 rw [aCall]; rfl
theorem vg(w:Nat)(args:List Value)(hp:Hp):fP w 179 args hp=atW (g102 w) args hp:=by
 show aCall Tryz.prog (JW w) 5 179 _ _=_
 rw [aCall]; rfl
theorem Md{w:Nat}(hc:a8 Tryz.prog (fP w)){A X Y C us:List aa}{n c a m b:Nat}(hus:us=A++X++Y++C)(hA:A.length=a)(hm:m=a+X.length)(hb:b=m+Y.length)(hX:0<X.length)(hY:0<Y.length)(hw:b-a≤w+1)
  (hn:n=us.length) (hl:n<1000000) (kX:∀ u∈X,Kn u) (kY:∀ u∈Y,Kn u) (sX:mG aV X) (sY:mG aV Y) (W:bj) (x:Nat×Nat×Nat) (g:Nat→Value) :
  aZ Tryz.prog 220 W x FK (r9 n c a m b us false g) (uT (A++dy aV X Y++C)):=by
 have hlen:us.length=a+X.length+Y.length+C.length:=by rw [hus]; simp; omega

 have gX:∀ {i:Nat},a≤i→i<m→us[i]? = X[i-a]?:=fun {i} h1 h2=>by
  have:=KJ hus hA (i:=i-a) (by omega)
  rwa [show a+(i-a)=i by omega] at this
 have gY:∀ {i:Nat},m≤i→i<b→us[i]? = Y[i-m]?:=fun {i} h1 h2=>by
  have:=KK hus hA hm (i:=i-m) (by omega)
  rwa [show m+(i-m)=i by omega] at this
 have KX:∀ {i u},a≤i→i<m→us[i]? = some u→Kn u:=fun h1 h2 h=>kX _ (List.mem_of_getElem? (by rw [← gX h1 h2]; exact h))
 have KY:∀ {i u},m≤i→i<b→us[i]? = some u→Kn u:=fun h1 h2 h=>kY _ (List.mem_of_getElem? (by rw [← gY h1 h2]; exact h))
 have SX:∀ {i j u v},a≤i→i≤j→j<m→us[i]? = some u→us[j]? = some v→aV v u=false:=fun {i j u v} h1 h2 h3 hu hv=>lE sX kX (show i-a≤j-a by omega) (by rw [← gX h1 (by omega)]; exact hu) (by rw [← gX (by omega) h3]; exact hv)
 have SY:∀ {i j u v},m≤i→i≤j→j<b→us[i]? = some u→us[j]? = some v→aV v u=false:=fun {i j u v} h1 h2 h3 hu hv=>lE sY kY (show i-m≤j-m by omega) (by rw [← gY h1 (by omega)]; exact hu) (by rw [← gY (by omega) h3]; exact hv)
 refine aZ.seq (Q1:=fun e st=>e = .normal∧∃ g,st=OG n c a m b ((a+b) / 2) us g) (aZ.piece bc follows 1 _ _ _ _ (QE us n c a m b ((a+b) / 2) g) (tW (by omega) Met.nil) ay.nil az.nil RE rfl rfl (bq us []) rfl fun g=>⟨rfl,g,rfl⟩) ?_ (fun x st hne hq=>absurd hq.1 hne)
 rintro st ⟨-,g,rfl⟩;have hmid1:2*((a+b) / 2)≤a+b:=by omega
 have hmid2:a+b≤2*((a+b) / 2)+1:=by omega
 generalize (a+b) / 2=aM at *;refine aZ.seq (Q1:=fun e st=>e = .normal∧∃ g,st=Cj n c a m b aM (aM+m) us g) (aZ.piece bc follows 1 _ _ _ _ (QF us n c a m b aM g) (Met.cons (gI (by omega)) Met.nil) ay.nil az.nil RG rfl rfl (bq us []) rfl fun g=>⟨rfl,g,rfl⟩) ?_ (fun x st hne hq=>absurd hq.1 hne)
 rintro st ⟨-,g,rfl⟩;refine aZ.seq (Q1:=fun e st=>e = .normal∧∃ g,st=Cj n c a m b aM (aM+m) us g) (aZ.piece bc follows 1 _ _ _ _ (QG us n c a m b aM (aM+m) g) Met.nil ay.nil az.nil RH rfl rfl (bq us []) rfl fun g=>⟨rfl,g,rfl⟩) ?_ (fun x st hne hq=>absurd hq.1 hne)
 rintro st ⟨-,g,rfl⟩;refine aZ.seq (Q1:=fun e st=>e = .normal∧∃ s0 r0 g,s0≤r0∧(m>aM∧s0+b=aM+m∧r0=aM∨m≤aM∧s0=a∧r0=m)∧st=OI n c a m b aM (aM+m) us s0 r0 g) ?_ ?_ (fun x st hne hq=>absurd hq.1 hne)
 ·cases h140:decide (aM<m) with
  | true =>
    have hlt:=of_decide_eq_true h140
    exact aZ.piece bc follows 1 _ _ _ _ (Nd us n c a m b aM (aM+m) g) (Met.cons (jA h140) (Met.cons (dB (by omega) (by omega)) Met.nil)) ay.nil az.nil JJ rfl rfl (bq us []) rfl fun g=>⟨rfl,aM+m-b,aM,g,by omega,.inl ⟨hlt,by omega,rfl⟩,rfl⟩
  | false =>
    have hlt:=of_decide_eq_false h140
    exact aZ.piece bc follows 1 _ _ _ _ (Nc us n c a m b aM (aM+m) g) (Met.cons (jA h140) Met.nil) ay.nil az.nil JJ rfl rfl (bq us []) rfl fun g=>⟨rfl,a,m,g,by omega,.inr ⟨by omega,rfl,rfl⟩,rfl⟩
 rintro st ⟨-,s0,r0,g,hs0,hcase,rfl⟩;refine aZ.seq (Q1:=fun e st=>e = .normal∧∃ g,st=Cn n c a m b (aM+m-1) aM (aM+m) us s0 r0 g) (aZ.piece bc follows 1 _ _ _ _ (QH us n c a m b s0 r0 aM (aM+m) g) (Met.cons (dB (by omega) (by omega)) Met.nil) ay.nil az.nil RI rfl rfl (bq us []) rfl fun g=>⟨rfl,g,rfl⟩) ?_ (fun x st hne hq=>absurd hq.1 hne)
 rintro st ⟨-,g,rfl⟩;have H:∀ i,s0≤i→i<r0→a≤i∧i<m∧m≤aM+m-1-i∧aM+m-1-i<b∧i≤aM+m-1:=fun i h1 h2=>by
  rcases hcase with ⟨q1,q2,q3⟩ | ⟨q1,q2,q3⟩ <;> omega
 refine aZ.seq (Q1:=fun e st=>e = .normal∧∃ s g,s0≤s∧s≤r0∧(∀ i u v,s0≤i→i<s→us[aM+m-1-i]? = some u→us[i]? = some v→aV u v=false)∧(∀ i u v,s≤i→i<r0→us[aM+m-1-i]? = some u→us[i]? = some v→aV u v=true)∧st=OM n c a m b aM (aM+m) us s g) ?_ ?_ (fun x st hne hq=>absurd hq.1 hne)
 ·refine aZ.block ?_
  refine aZ.loop (fun k st=>∃ s r g,s0≤s∧s≤r∧r≤r0∧k=r-s∧(∀ i u v,s0≤i→i<s→us[aM+m-1-i]? = some u→us[i]? = some v→aV u v=false)∧(∀ i u v,r≤i→i<r0→us[aM+m-1-i]? = some u→us[i]? = some v→aV u v=true)∧st=Cn n c a m b (aM+m-1) aM (aM+m) us s r g) ?_ (k:=r0-s0)
    ⟨s0,r0,g,Nat.le_refl _,hs0,Nat.le_refl _,rfl,(fun i u v h1 h2=>by omega),(fun i u v h1 h2=>by omega),rfl⟩
  rintro k st ⟨s,r,g,h1,h2,h3,rfl,hlo,hhi,rfl⟩;cases h151:decide (s<r) with
  | false =>
    have e:s=r:=by have:=of_decide_eq_false h151; omega
    subst e;refine aZ.piece bc follows 1 _ _ _ _ (Nh us n c a m b s s (aM+m-1) aM (aM+m) g) (Met.cons (bx h151) Met.nil) ay.nil az.nil Fe rfl rfl (bq us []) rfl fun g'=>.inr ⟨by simp,?_⟩
    show (if (8:Nat)=8 then _ else _)
    rw [if_pos rfl];exact ⟨rfl,s,g',h1,h3,hlo,hhi,rfl⟩
  | true =>
    have hlt:=of_decide_eq_true h151
    have hq1:s≤(s+r) / 2:=by omega
    have hq2:(s+r) / 2<r:=by omega
    have hhv:∀ l,Met l→Met (HZ s r ((s+r) / 2) l):=fun l q=>tW (show s+r<3000000 by have:=H s h1 (by omega); omega) q
    generalize (s+r) / 2=h at *;obtain ⟨c1,c2,c3,c4,c5⟩:=H h (by omega) (by omega)
    obtain ⟨v,hv⟩:∃ v,us[h]? = some v:=gu (by omega)
    obtain ⟨u,hu⟩:∃ u,us[aM+m-1-h]? = some u:=gu (by omega)
    have met:∀ {b':Bool} {l:List db},aV u v=b'→Met l→Met (SK us n c h s r (aM+m-1) u v b' l):=fun hb' hl =>
      Met.cons (bx h151) (hhv _ (Met.cons (dB (by omega) c5) (Met.cons (da (by omega)) (Met.cons (eX (fl _) hu) (Met.cons (da (by omega)) (Met.cons (eX (fl _) hv) (Met.cons (qn hb') hl)))))))
    cases h170:aV u v with
    | false =>
      refine aZ.piece bc follows 1 _ _ _ _ (Nf us n c a m b h s r (aM+m-1) aM (aM+m) u v g) (met h170 (Met.cons (bA (by omega)) Met.nil)) ay.nil az.nil Fe rfl rfl (bq us []) rfl fun g'=>.inl ⟨rfl,r-(h+1),by omega,h+1,r,g',by omega,by omega,h3,rfl,fun i u' v' i1 i2 hu' hv'=>?_,hhi,rfl⟩
      obtain ⟨d1,d2,d3,d4,d5⟩:=H i i1 (by omega)
      have s1:=SX d1 (show i≤h by omega) c2 hv' hv
      have s2:=SY c3 (show aM+m-1-h≤aM+m-1-i by omega) d4 hu hu'
      exact sw.ntr u' v v' (KY d3 d4 hu') (KX c1 c2 hv) (KX d1 d2 hv') (sw.ntr u' u v (KY d3 d4 hu') (KY c3 c4 hu) (KX c1 c2 hv) s2 h170) s1
    | true =>
      refine aZ.piece bc follows 1 _ _ _ _ (Ng us n c a m b h s r (aM+m-1) aM (aM+m) u v g) (met h170 Met.nil) ay.nil az.nil Fe rfl rfl (bq us []) rfl fun g'=>.inl ⟨rfl,h-s,by omega,s,h,g',h1,hq1,by omega,rfl,hlo,fun i u' v' i1 i2 hu' hv'=>?_,rfl⟩
      obtain ⟨d1,d2,d3,d4,d5⟩:=H i (by omega) i2
      cases e:aV u' v' with
      | true=>rfl
      | false =>
        have s1:=SX c1 i1 d2 hv hv'
        have s2:=SY d3 (show aM+m-1-i≤aM+m-1-h by omega) c4 hu' hu
        have:=sw.ntr u v' v (KY c3 c4 hu) (KX d1 d2 hv') (KX c1 c2 hv) (sw.ntr u u' v' (KY c3 c4 hu) (KY d3 d4 hu') (KX d1 d2 hv') s2 e) s1
        rw [this] at h170; cases h170
 rintro st ⟨-,s,g,hs1,hs2,hlo,hhi,rfl⟩;have bs:a≤s∧s≤m∧s≤aM∧m≤aM+m-s∧aM+m-s≤b:=by rcases hcase with ⟨q1,q2,q3⟩ | ⟨q1,q2,q3⟩ <;> omega
 obtain ⟨bs1,bs2,bs3,bs4,bs5⟩:=bs;obtain ⟨X1,X2,hXe,lX1⟩:∃ X1 X2,X=X1++X2∧X1.length=s-a:=⟨X.take (s-a),X.drop (s-a),(List.take_append_drop _ _).symm,by simp; omega⟩
 obtain ⟨Y1,Y2,hYe,lY1⟩:∃ Y1 Y2,Y=Y1++Y2∧Y1.length=aM-s:=⟨Y.take (aM-s),Y.drop (aM-s),(List.take_append_drop _ _).symm,by simp; omega⟩
 have lX:X.length=X1.length+X2.length:=by rw [hXe]; simp
 have lY:Y.length=Y1.length+Y2.length:=by rw [hYe]; simp
 have iX1:∀ z∈X1,∃ i,a≤i∧i<s∧us[i]? = some z:=fun z hz=>by
  obtain ⟨i,hi⟩:=List.mem_iff_getElem?.1 hz;have hlt:=(List.getElem?_eq_some_iff.1 hi).1
  exact ⟨a+i,by omega,by omega,by rw [gX (by omega) (by omega),hXe,show a+i-a=i by omega,List.getElem?_append_left hlt,hi]⟩
 have iX2:∀ z∈X2,∃ i,s≤i∧i<m∧us[i]? = some z:=fun z hz=>by
  obtain ⟨i,hi⟩:=List.mem_iff_getElem?.1 hz;have hlt:=(List.getElem?_eq_some_iff.1 hi).1
  exact ⟨s+i,by omega,by omega,by rw [gX (by omega) (by omega),hXe,List.getElem?_append_right (by omega),show s+i-a-X1.length=i by omega,hi]⟩
 have iY1:∀ z∈Y1,∃ i,m≤i∧i<aM+m-s∧us[i]? = some z:=fun z hz=>by
  obtain ⟨i,hi⟩:=List.mem_iff_getElem?.1 hz;have hlt:=(List.getElem?_eq_some_iff.1 hi).1
  exact ⟨m+i,by omega,by omega,by rw [gY (by omega) (by omega),hYe,show m+i-m=i by omega,List.getElem?_append_left hlt,hi]⟩
 have iY2:∀ z∈Y2,∃ i,aM+m-s≤i∧i<b∧us[i]? = some z:=fun z hz=>by
  obtain ⟨i,hi⟩:=List.mem_iff_getElem?.1 hz;have hlt:=(List.getElem?_eq_some_iff.1 hi).1
  exact ⟨aM+m-s+i,by omega,by omega,by rw [gY (by omega) (by omega),hYe,List.getElem?_append_right (by omega),show aM+m-s+i-m-Y1.length=i by omega,hi]⟩
 have C1:∀ y∈Y1,∀ z∈X2,aV y z=true:=fun y hy z hz=>by
  obtain ⟨j,j1,j2,hj⟩:=iY1 y hy;obtain ⟨i,i1,i2,hi⟩:=iX2 z hz;have hsr:s<r0:=by rcases hcase with ⟨q1,q2,q3⟩ | ⟨q1,q2,q3⟩ <;> omega
  obtain ⟨d1,d2,d3,d4,d5⟩:=H s hs1 hsr;obtain ⟨v,hv⟩:∃ v,us[s]? = some v:=gu (by omega)
  obtain ⟨u,hu⟩:∃ u,us[aM+m-1-s]? = some u:=gu (by omega)
  have hk:=hhi s u v (Nat.le_refl _) hsr hu hv
  cases e:aV y z with
  | true=>rfl
  | false =>
    have s1:=SX d1 i1 i2 hv hi
    have s2:=SY j1 (show j≤aM+m-1-s by omega) d4 hj hu
    have:=sw.ntr u z v (KY d3 d4 hu) (KX (by omega) i2 hi) (KX d1 d2 hv) (sw.ntr u y z (KY d3 d4 hu) (KY j1 (by omega) hj) (KX (by omega) i2 hi) s2 e) s1
    rw [this] at hk; cases hk
 have C2:∀ y∈Y2,∀ z∈X1,aV y z=false:=fun y hy z hz=>by
  obtain ⟨j,j1,j2,hj⟩:=iY2 y hy;obtain ⟨i,i1,i2,hi⟩:=iX1 z hz;have hsr:s0<s:=by rcases hcase with ⟨q1,q2,q3⟩ | ⟨q1,q2,q3⟩ <;> omega
  obtain ⟨d1,d2,d3,d4,d5⟩:=H (s-1) (by omega) (by omega)
  obtain ⟨v,hv⟩:∃ v,us[s-1]? = some v:=gu (by omega)
  obtain ⟨u,hu⟩:∃ u,us[aM+m-1-(s-1)]? = some u:=gu (by omega)
  have hk:=hlo (s-1) u v (by omega) (by omega) hu hv
  have s1:=SX i1 (show i≤s-1 by omega) d2 hi hv
  have s2:=SY d3 (show aM+m-1-(s-1)≤j by omega) j2 hu hj
  exact sw.ntr y v z (KY (by omega) j2 hj) (KX d1 d2 hv) (KX i1 (by omega) hi) (sw.ntr y u v (KY (by omega) j2 hj) (KY d3 d4 hu) (KX d1 d2 hv) s2 hk) s1
 obtain ⟨sX1,sX2,-⟩:=List.pairwise_append.1 (show mG aV (X1++X2) by rw [← hXe]; exact sX)
 obtain ⟨sY1,sY2,sY12⟩:=List.pairwise_append.1 (show mG aV (Y1++Y2) by rw [← hYe]; exact sY)
 have hsplit:dy aV X Y=dy aV X1 Y1++dy aV X2 Y2:=by rw [hXe,hYe]; exact sD C1 C2 fun y hy z hz=>sY12 z hz y hy
 have kX1:∀ z∈X1,Kn z:=fun z hz=>kX z (by rw [hXe]; simp [hz])
 have kX2:∀ z∈X2,Kn z:=fun z hz=>kX z (by rw [hXe]; simp [hz])
 have kY1:∀ z∈Y1,Kn z:=fun z hz=>kY z (by rw [hYe]; simp [hz])
 have kY2:∀ z∈Y2,Kn z:=fun z hz=>kY z (by rw [hYe]; simp [hz])
 refine aZ.seq (Q1:=fun e st=>e = .normal∧∃ g,st=pn n c a m b aM us s (aM+m-s) g) (aZ.piece bc follows 1 _ _ _ _ (QI us n c a m b s aM (aM+m) g) (Met.cons (dB (by omega) (by omega)) Met.nil) ay.nil az.nil RJ rfl rfl (bq us []) rfl fun g=>⟨rfl,g,rfl⟩) ?_ (fun x st hne hq=>absurd hq.1 hne)
 rintro st ⟨-,g,rfl⟩;have he:aM+m-s=m+Y1.length:=by omega
 have he2:aM+m-s=aM+X2.length:=by omega
 generalize aM+m-s=e at *;have ln2:(A++X1++Y1++X2++Y2++C).length=n:=by rw [hn,hlen]; simp; omega

 refine aZ.seq (Q1:=fun ex st=>ex = .normal∧∃ g,st=pn n c a m b aM (A++X1++Y1++X2++Y2++C) s e g) ?_ ?_ (fun x st hne hq=>absurd hq.1 hne)
 ·cases h180:decide (s<m) with
  | false =>
    have:X2 = []:=List.eq_nil_of_length_eq_zero (by have:=of_decide_eq_false h180; omega)
    subst this;have e1:us=A++X1++Y1 ++ []++Y2++C:=by rw [hus,hXe,hYe]; simp
    rw [← e1];exact aZ.piece hc follows 1 _ _ _ _ (Ni (fP w) us n c a m b s e aM g) (Met.cons (bx h180) Met.nil) ay.nil az.nil Ff rfl rfl (bq us []) rfl fun g=>⟨rfl,g,rfl⟩
  | true =>
    have l1:=of_decide_eq_true h180
    cases h184:decide (m<e) with
    | false =>
      have:Y1 = []:=List.eq_nil_of_length_eq_zero (by have:=of_decide_eq_false h184; omega)
      subst this;have e1:us=A++X1 ++ []++X2++Y2++C:=by rw [hus,hXe,hYe]; simp
      rw [← e1];exact aZ.piece hc follows 1 _ _ _ _ (Nj (fP w) us n c a m b s e aM g) (Met.cons (bx h180) (Met.cons (bx h184) Met.nil)) ay.nil az.nil Ff rfl rfl (bq us []) rfl fun g=>⟨rfl,g,rfl⟩
    | true =>
      have l2:=of_decide_eq_true h184
      have hcall:fP w 209 [af 0 n c,iN s,iN m,iN e,Fc] (hW us)=some (vU,(hW us).put 0 (ab (A++X1++Y1++X2++Y2++C))):=by
        rw [Cz];have:=GC (A:=A++X1) (X:=X2) (Y:=Y1) (C:=Y2++C) (us:=us) (k:=0) (n:=n) (c:=c) (a:=s) (m:=m) (b:=e) (hp:=hW us) (by rw [hus,hXe,hYe]; simp) (by simp; omega) (by omega) he (by omega) (by omega) hn hl (dw us)
        rw [this]; simp
      exact aZ.piece hc follows 1 _ _ _ _ (Nk (fP w) us _ n c a m b s e aM g) (Met.cons (bx h180) (Met.cons (bx h184) Met.nil)) (ay.cons hcall ay.nil) az.nil Ff rfl rfl (bq _ []) rfl fun g=>⟨rfl,g,rfl⟩
 rintro st ⟨-,g,rfl⟩

 have lm1:(dy aV X1 Y1).length=X1.length+Y1.length:=zM
 have ln3:(A++dy aV X1 Y1++X2++Y2++C).length=n:=by rw [hn,hlen]; simp [lm1]; omega
 refine aZ.seq (Q1:=fun ex st=>ex = .normal∧∃ g,st=pn n c a m b aM (A++dy aV X1 Y1++X2++Y2++C) s e g) ?_ ?_ (fun x st hne hq=>absurd hq.1 hne)
 ·cases h194:decide (a<s) with
  | false =>
    have:X1 = []:=List.eq_nil_of_length_eq_zero (by have:=of_decide_eq_false h194; omega)
    subst this;rw [gn sY1,List.append_nil];exact aZ.piece hc follows 1 _ _ _ _ (Nl (fP w) _ n c a m b s e aM g) (Met.cons (bx h194) Met.nil) ay.nil az.nil Fg rfl rfl (bq _ []) rfl fun g=>⟨rfl,g,rfl⟩
  | true =>
    have l1:=of_decide_eq_true h194
    cases h198:decide (s<aM) with
    | false =>
      have:Y1 = []:=List.eq_nil_of_length_eq_zero (by have:=of_decide_eq_false h198; omega)
      subst this;have e1:dy aV X1 []=X1:=rfl
      rw [e1,List.append_nil];exact aZ.piece hc follows 1 _ _ _ _ (Nn (fP w) _ n c a m b s e aM g) (Met.cons (bx h194) (Met.cons (bx h198) Met.nil)) ay.nil az.nil Fg rfl rfl (bq _ []) rfl fun g=>⟨rfl,g,rfl⟩
    | true =>
      have l2:=of_decide_eq_true h198
      have hcall:fP w 179 [af 0 n c,iN a,iN s,iN aM,Fc] (hW (A++X1++Y1++X2++Y2++C))=some (vU,(hW (A++X1++Y1++X2++Y2++C)).put 0 (ab (A++dy aV X1 Y1++X2++Y2++C))):=by
        rw [vg];have:=pJ (w:=w) (A:=A) (X:=X1) (Y:=Y1) (C:=X2++Y2++C) (us:=A++X1++Y1++X2++Y2++C) (k:=0) (n:=n) (c:=c) (a:=a) (m:=s) (b:=aM) (hp:=hW (A++X1++Y1++X2++Y2++C)) (by simp) hA (by omega) (by omega) (by omega) (by omega) ln2.symm hl (by omega) kX1 kY1 sX1 sY1 (dw _)
        rw [this]; simp
      exact aZ.piece hc follows 1 _ _ _ _ (No (fP w) _ _ n c a m b s e aM g) (Met.cons (bx h194) (Met.cons (bx h198) Met.nil)) (ay.cons hcall ay.nil) az.nil Fg rfl rfl (bq _ []) rfl fun g=>⟨rfl,g,rfl⟩
 rintro st ⟨-,g,rfl⟩

 rw [hsplit];have fin:A++(dy aV X1 Y1++dy aV X2 Y2)++C=A++dy aV X1 Y1++dy aV X2 Y2++C:=by simp
 rw [fin];cases h208:decide (aM<e) with
 | false =>
   have:X2 = []:=List.eq_nil_of_length_eq_zero (by have:=of_decide_eq_false h208; omega)
   subst this;rw [gn sY2,List.append_nil];exact aZ.piece hc follows 1 _ _ _ _ (Np (fP w) _ n c a m b s e aM g) (Met.cons (bx h208) Met.nil) ay.nil az.nil Fh rfl rfl (bq _ []) rfl fun g=>⟨.inl rfl,g,rfl⟩
 | true =>
   have l1:=of_decide_eq_true h208
   cases h212:decide (e<b) with
   | false =>
     have:Y2 = []:=List.eq_nil_of_length_eq_zero (by have:=of_decide_eq_false h212; omega)
     subst this;have e1:dy aV X2 []=X2:=rfl
     rw [e1,List.append_nil];exact aZ.piece hc follows 1 _ _ _ _ (Nr (fP w) _ n c a m b s e aM g) (Met.cons (bx h208) (Met.cons (bx h212) Met.nil)) ay.nil az.nil Fh rfl rfl (bq _ []) rfl fun g=>⟨.inl rfl,g,rfl⟩
   | true =>
     have l2:=of_decide_eq_true h212
     have hcall:fP w 179 [af 0 n c,iN aM,iN e,iN b,Fc] (hW (A++dy aV X1 Y1++X2++Y2++C))=some (vU,(hW (A++dy aV X1 Y1++X2++Y2++C)).put 0 (ab (A++dy aV X1 Y1++dy aV X2 Y2++C))):=by
       rw [vg];exact pJ (w:=w) (A:=A++dy aV X1 Y1) (X:=X2) (Y:=Y2) (C:=C) rfl (by simp [lm1]; omega) he2 (by omega) (by omega) (by omega) ln3.symm hl (by omega) kX2 kY2 sX2 sY2 (dw _)
     exact aZ.piece hc follows 1 _ _ _ _ (Ns (fP w) _ _ n c a m b s e aM g) (Met.cons (bx h208) (Met.cons (bx h212) Met.nil)) (ay.cons hcall ay.nil) az.nil Fh rfl rfl (bq _ []) rfl fun g=>⟨.inl rfl,g,rfl⟩
theorem NM{w:Nat}(hc:a8 Tryz.prog (fP w)){A X Y C us:List aa}{n c a m b:Nat}(hus:us=A++X++Y++C)(hA:A.length=a)(hm:m=a+X.length)(hb:b=m+Y.length)(hX:0<X.length)(hY:0<Y.length)(hw:b-a≤w+1)
  (hn:n=us.length) (hl:n<1000000) (kX:∀ u∈X,Kn u) (kY:∀ u∈Y,Kn u) (sX:mG aV X) (sY:mG aV Y) (W:bj) (x:Nat×Nat×Nat) :
  aZ Tryz.prog 220 W x zi ⟨tmsOf [af 0 n c,iN a,iN m,iN b,Fc] 0 .leaf,heapOf [ab us,.dead] aE,[]⟩ (uT (A++dy aV X Y++C)):=by
 have hlen:us.length=a+X.length+Y.length+C.length:=by rw [hus]; simp; omega
 let Q1:Exit→St→Prop:=fun e st=>(e = .normal∧∃ g,st=BO n c a m b us false g)∨(e = .ret∧uT (A++dy aV X Y++C) e st)
 refine aZ.seq (Q1:=Q1) ?_ ?_ ?_
 ·refine aZ.seq (Q1:=fun e st=>e = .normal∧∃ g,st=BO n c a m b us (m-a==1) g) (aZ.piece bc follows 1 _ _ _ _ (Qw dN us n c a m b (m-a==1)) (Met.cons (dB (by omega) (by omega)) (Met.cons (Du rfl) Met.nil)) ay.nil az.nil Rw rfl rfl (bq us []) rfl fun g=>⟨rfl,g,rfl⟩) ?_ (fun x st hne hq=>absurd hq.1 hne)
  rintro st ⟨-,g,rfl⟩;cases h28:(m-a==1) with
  | true =>
    have e1:m-a=1:=by simpa using h28
    obtain ⟨z,rfl⟩:∃ z,X = [z]:=List.length_eq_one_iff.1 (by omega)
    refine aZ.cond_true (by kernel_rfl) (by kernel_rfl) ?_
    have:=Fz (n:=n) (c:=c) (b:=b) hus hA (by simpa using hm) hb hn hl (kX z (.head _)) kY sY W x g
    exact aZ.mono this fun e st q=>.inr ⟨q.1,.inr q.1,q.2⟩
  | false=>exact aZ.cond_false (by kernel_rfl) (by kernel_rfl) (aZ.skip (.inl ⟨rfl,g,rfl⟩))
 ·rintro st (⟨-,g,rfl⟩ | ⟨h,-⟩)
  ·let Q2:Exit→St→Prop:=fun e st=>(e = .normal∧∃ g,st=r9 n c a m b us false g)∨(e = .ret∧uT (A++dy aV X Y++C) e st)
   refine aZ.seq (Q1:=Q2) ?_ ?_ ?_
   ·refine aZ.seq (Q1:=fun e st=>e = .normal∧∃ g,st=r9 n c a m b us (b-m==1) g) (aZ.piece bc follows 1 _ _ _ _ (QA us n c a m b (b-m==1) g) (Met.cons (dB (by omega) (by omega)) (Met.cons (Du rfl) Met.nil)) ay.nil az.nil RA rfl rfl (bq us []) rfl fun g=>⟨rfl,g,rfl⟩) ?_ (fun x st hne hq=>absurd hq.1 hne)
    rintro st ⟨-,g,rfl⟩;cases h80:(b-m==1) with
    | true =>
      have e1:b-m=1:=by simpa using h80
      obtain ⟨y,rfl⟩:∃ y,Y = [y]:=List.length_eq_one_iff.1 (by omega)
      refine aZ.cond_true (by kernel_rfl) (by kernel_rfl) ?_
      have:=Bq (n:=n) (c:=c) (b:=b) (d:=true) hus hA hm hn hl (kY y (.head _)) kX sX W x g
      exact aZ.mono this fun e st q=>.inr ⟨q.1,.inr q.1,q.2⟩
    | false=>exact aZ.cond_false (by kernel_rfl) (by kernel_rfl) (aZ.skip (.inl ⟨rfl,g,rfl⟩))
   ·rintro st (⟨-,g,rfl⟩ | ⟨h,-⟩)
    ·exact Md hc hus hA hm hb hX hY hw hn hl kX kY sX sY W x g
    ·cases h
   ·rintro e st hne (⟨h,-⟩ | ⟨-,h⟩)
    ·exact absurd h hne
    ·exact h
  ·cases h
 ·rintro e st hne (⟨h,-⟩ | ⟨-,h⟩)
  ·exact absurd h hne
  ·exact h
theorem Js:∀ (w:Nat) (us:List aa),us.length<1000000→aq Tryz.prog 179 (g102 w us)
 | 0,us,hn=>hZ follows Tryz.func179 y3 (by kernel_rfl) fun args hp v hp' he hk=>by
   exfalso;unfold g102 at he;split at he
   case h_2=>cases he
   split at he
   case isFalse=>cases he
   rename_i hT;obtain ⟨-,-,h1,h2,h3,h4,-⟩:=hT;omega
 | w+1,us,hn=>hZ follows Tryz.func179 y3 (by kernel_rfl) fun args hp v hp' he hk=>by
   have hc:a8 Tryz.prog (fP w):=aP (bD (aS .nil) (.cons Mo (.cons (fO fun us hn=>Js w us hn) .nil))) follows 5
   unfold g102 at he;split at he
   case h_2=>cases he
   rename_i k n c a m b f;split at he
   case isFalse=>cases he
   rename_i hT;cases he;obtain ⟨rfl,⟨b',c',e,hb⟩,h1,h2,h3,h4,k1,k2,s1,s2⟩:=hT;simp only [af,Value.slice.injEq,Option.some.injEq,Addr.mk.injEq,and_true] at e;obtain ⟨rfl,rfl,rfl⟩:=e;refine kD (is:=[a,m,b]) hk hb (by rw [ntmps102]; simp) fun W x=>?_
   rw [ntmps102];refine aZ.mono (NM hc (O7 (us:=us) (Nat.le_of_lt h1) (Nat.le_of_lt h2)) (by simp; omega) (by simp; omega) (by simp; omega) (by simp; omega) (by simp; omega) h4 rfl hn k1 k2 s1 s2 W x) fun e st q=>?_
   obtain ⟨q1,g,rfl⟩:=q;exact ⟨q1,rfl,Ur _ g,by show (heapOf _ aE).get 0=_; rw [al]; rfl⟩
noncomputable def Kf:aB:=atW (g102 1000000)
theorem Mn:aq Tryz.prog 179 Kf:=fO fun us hn=>Js 1000000 us hn
end Go.Proofs.YtgeoommlmddgpaaGreat.LtL
