/- Part 4. -/
import Derived.Test.YtgeoommlmddgpaaGreatXcC
import Derived.Lib.Overlaps
import Derived.Laws.Externs
import Derived.Test.YtgeoommlmddgpaaGreatRows
set_option linter.unusedVariables false
set_option linter.unusedSimpArgs false
set_option maxRecDepth 100000
namespace Go.Proofs.YtgeoommlmddgpaaGreat.LtA
open Go Go.Proofs Go.Proofs.YtgeoommlmddgpaaGreat.AI Go.RowKit
def gOver:aD
 | [.slice (some ⟨a,off,none⟩) (_+1) _,.slice (some ⟨b,_,none⟩) _ _],hp=>match Nat.beq a b,hp.get a,hp.get b with
   | false,some (.cells _ cs1 false),some (.cells _ (_::_) false)=>match Nat.ble off cs1.length with
     | true=>some (.bool false,hp)
     | false=>none
   | _,_,_=>none
 | _,_=>none
theorem MO:ax Tryz.prog 165 gOver:=by
 intro args hp v hp' he hk;unfold gOver at he;split at he
 case h_2=>cases he
 rename_i a off la ca b offb lb cb;split at he
 case h_2=>cases he
 rename_i t1 cs1 t2 y ys hab ha hb;split at he
 case h_2=>cases he
 rename_i hoff;cases he;refine ⟨hk,Nat.le_refl _,fun m h w args' hfr s ra=>.inl ?_⟩
 obtain ⟨v1,bs,e1,r1,r2⟩:=ra.of_cons;obtain ⟨v2,bs2,e2,r3,r4⟩:=r2.of_cons;have e3:=r4.of_nil
 subst e3;have ha':=bx hk h a _ ha
 have hb':=bx hk h b _ hb
 obtain ⟨_,_,ra1,oa,capa,q1,rfl,hla,hha⟩:=r1.of_slice;obtain ⟨_,_,rb1,ob,capb,q2,rfl,hlb,hhb⟩:=r3.of_slice;cases q1;cases q2;have ea:args' = #[.slice (some ⟨ra1,oa,none⟩) (la+1) capa,.slice (some ⟨rb1,ob,none⟩) lb capb]:=by cases args'; simp_all
 subst ea;rcases hha with hd | ⟨δ1,E1,hma,hoa,_⟩
 ·rw [ha'] at hd; cases hd
 rcases hhb with hd | ⟨δ2,E2,hmb,_,_⟩
 ·rw [hb'] at hd; cases hd
 obtain ⟨c1,f1,g1,g2,g3,g4,g5⟩:=cg.row (s:=s) ha' hma;obtain ⟨c2,f2,k1,k2,k3,k4,k5⟩:=cg.row (s:=s) hb' hmb;dsimp only at g1 g2 g3 k1 k2 k3
 have hne:ra1≠rb1:=by
  intro e;have:=s.inj a b _ _ hma hmb (by unfold rw?; rw [ha']; rfl) (by unfold aV; rw [hb']) e
  subst this;have hh:Nat.beq a a=true:=Nat.beq_refl a
  rw [hh] at hab;cases hab
 have hoa':oa = δ1+off:=by
  rcases hoa with h1 | h1
  ·exact h1
  ·omega
 have hle:off≤cs1.length:=Nat.le_of_ble_eq_true hoff
 have hfz:∀ j,j≤c1.size→w.frozen? ⟨ra1,j,none⟩=false:=fun j hj=>kZ g1 (g5.1 rfl j hj)
 have hrun:=Lib.run_overlaps_apart w 24 4 78 Tryz.underlying24 7 (fun w=>by kernel_rfl) ⟨ra1,oa,none⟩ ⟨rb1,ob,none⟩ (la+1) capa lb capb hne t1 t2 c1.size c2.size
  (by unfold World.shape?; rw [g1]) (by unfold World.shape?; rw [k1]) (by simp at k2; omega) (hfz oa (by omega)) (hfz c1.size (Nat.le_refl _))
 refine ⟨.bool false,w,?_,m,dV.refl s,.flat rfl⟩
 rw [run_callFunc_extern Tryz.func165 (by kernel_rfl) (by kernel_rfl) (by kernel_rfl) (e:=Extern.SlicesOverlaps.overlaps #[24,24] #[4]) (by kernel_rfl),hrun]
 rfl
noncomputable def vL:Code:=(Tryz.f140.body).getD .skip
theorem Li:Tryz.f140.body=some vL:=by kernel_rfl
theorem Wy:codeSafe Tryz.prog 95 vL=true:=by kernel_rfl
theorem ntmps63:Tryz.f140.ntmps=95:=by kernel_rfl
def bB(b off n c:Nat):Value:=.slice (some ⟨b,off,none⟩) n c
def cc(c len h:Nat):Nat:=if eW c=1∧wide c=7 then c else if eW c=0 then 3*(wide c % 1000000+1000000*(len+spareOf c-h)) else 3*7+2
section
variable (call:aH) (L X:List Value) (t2:TypeId) (n c c2 i x:Nat)
def Oy(L:List Value)(X:List Value)(t2:TypeId)(n c c2 i:Nat):St:=⟨tmsOf [bB 0 0 n c,iN i,af 1 1 c2] 0 .leaf,heapOf [.cells 78 L false,.cells t2 X false,.dead] aE,[]⟩
def hI(L:List Value)(X:List Value)(t2:TypeId):Hp:=heapOf [.cells 78 L false,.cells t2 X false,.dead] aE
theorem XZ:(execE Tryz.prog call [(12,bB 0 (i*7) (n-i) (cc c n n)),(22,.bool true)] [] [(25,aW 3 (n+1),[.put 0 .dead,.push (.cells 78 (L++X) false)])] 60 vL (Oy L X t2 n c c2 i)).map (fun y=>(look2 1 [3] [6] (y.1,y.2.1),y.2.2)) =
 some ((.ret,[.cells 78 (L++X) false],[(6,aW 0 (n+1))],true),
  [(fstV ((aSlice Tryz.prog 24 (bB 0 0 n c) (some (iN i)) none none).map fun v=>(v,none)),bB 0 (i*7) (n-i) (cc c n n)),(some (.bool (Int.ofNat i==Int.ofNat n)),.bool true)],[],
  [(aAppend Tryz.prog (hI L X t2).get 3 [24,24] [bB 0 0 n c,af 1 1 c2],(aW 3 (n+1),[.put 0 .dead,.push (.cells 78 (L++X) false)]))]):=by kernel_rfl
theorem X0(La Lb Z Z':List Value):(execE Tryz.prog call [(12,bB 0 (i*7) (n-i) (cc c n n)),(22,.bool false),(28,iN (n+1)),(30,iN n),(31,.bool true),(34,bB 0 0 i (cc c n i)),(37,iN (n+1)),(39,iN (n+1-i)),(43,bB 3 (i*7) (n+1-i) 22),(49,iN (i+1)),(50,bB 3 ((i+1)*7) (n-i) 22),(53,bB 0 (i*7) (n-i) (cc c n n))] []
  [(40,aW 3 (n+1),[.push (.cells 78 (La++Z) false)]),(45,iN 1,[.put 3 (.cells 78 (La++X++Z') false)]),(54,iN (n-i),[.put 3 (.cells 78 (La++X++Lb) false)])] 60 vL (Oy L X t2 n c c2 i)).map (fun y=>(look2 1 [3] [6] (y.1,y.2.1),y.2.2)) =
 some ((.ret,[.cells 78 (La++X++Lb) false],[(6,aW 0 (n+1))],true),
  [(fstV ((aSlice Tryz.prog 24 (bB 0 0 n c) (some (iN i)) none none).map fun v=>(v,none)),bB 0 (i*7) (n-i) (cc c n n)),
   (some (.bool (Int.ofNat i==Int.ofNat n)),.bool false),(some (.int .i64 (wrapF .i64 (Int.ofNat n+1))),iN (n+1)),
   (fstV ((aCap Tryz.prog 24 (bB 0 0 n c)).map fun v=>(v,none)),iN n),(some (.bool (decide (Int.ofNat (n+1)>Int.ofNat n))),.bool true),
   (fstV ((aSlice Tryz.prog 24 (bB 0 0 n c) none (some (iN i)) none).map fun v=>(v,none)),bB 0 0 i (cc c n i)),
   (some (.int .i64 (wrapF .i64 (Int.ofNat n+1))),iN (n+1)),(some (.int .i64 (wrapF .i64 (Int.ofNat (n+1)-Int.ofNat i))),iN (n+1-i)),
   (fstV ((aSlice Tryz.prog 24 (aW 3 (n+1)) (some (iN i)) none none).map fun v=>(v,none)),bB 3 (i*7) (n+1-i) 22),
   (some (.int .i64 (wrapF .i64 (Int.ofNat i+1))),iN (i+1)),
   (fstV ((aSlice Tryz.prog 24 (aW 3 (n+1)) (some (iN (i+1))) none none).map fun v=>(v,none)),bB 3 ((i+1)*7) (n-i) 22),
   (fstV ((aSlice Tryz.prog 24 (bB 0 0 n c) (some (iN i)) none none).map fun v=>(v,none)),bB 0 (i*7) (n-i) (cc c n n))],[],
  [(aAppend Tryz.prog (hI L X t2).get 3 [24,3] [bB 0 0 i (cc c n i),iN (n+1-i)],(aW 3 (n+1),[.push (.cells 78 (La++Z) false)])),
   (aCopy Tryz.prog ((hI L X t2).push (.cells 78 (La++Z) false)).get [24,24] [bB 3 (i*7) (n+1-i) 22,af 1 1 c2],(iN 1,[.put 3 (.cells 78 (La++X++Z') false)])),
   (aCopy Tryz.prog (((hI L X t2).push (.cells 78 (La++Z) false)).put 3 (.cells 78 (La++X++Z') false)).get [24,24] [bB 3 ((i+1)*7) (n-i) 22,bB 0 (i*7) (n-i) (cc c n n)],(iN (n-i),[.put 3 (.cells 78 (La++X++Lb) false)]))]):=by kernel_rfl
theorem X3(M1 M2:List Value)(c1:Nat):(execE Tryz.prog call [(12,bB 0 (i*7) (n-i) (cc c n n)),(22,.bool false),(28,iN (n+1)),(30,iN (n+x)),(31,.bool false),(59,iN (n+1)),(60,bB 0 0 (n+1) c1),(65,iN (i+1)),(66,bB 0 ((i+1)*7) (n-i) (cc c1 (n+1) (n+1))),(72,iN (i+1)),(73,bB 0 ((i+1)*7) (n-i) (cc c1 (n+1) (n+1))),
  (76,bB 0 (i*7) (n+1-i) (cc c1 (n+1) (n+1))),(80,bB 0 (i*7) (n+1-i) (cc c1 (n+1) (n+1)))] [(67,.bool false,[])]
  [(77,iN (n-i),[.put 0 (.cells 78 M1 false)]),(82,iN 1,[.put 0 (.cells 78 M2 false)])] 60 vL (Oy L X t2 n c c2 i)).map (fun y=>(look2 1 [0] [6] (y.1,y.2.1),y.2.2)) =
 some ((.ret,[.cells 78 M2 false],[(6,bB 0 0 (n+1) c1)],true),
  [(fstV ((aSlice Tryz.prog 24 (bB 0 0 n c) (some (iN i)) none none).map fun v=>(v,none)),bB 0 (i*7) (n-i) (cc c n n)),
   (some (.bool (Int.ofNat i==Int.ofNat n)),.bool false),(some (.int .i64 (wrapF .i64 (Int.ofNat n+1))),iN (n+1)),
   (fstV ((aCap Tryz.prog 24 (bB 0 0 n c)).map fun v=>(v,none)),iN (n+x)),(some (.bool (decide (Int.ofNat (n+1)>Int.ofNat (n+x)))),.bool false),
   (some (.int .i64 (wrapF .i64 (Int.ofNat n+1))),iN (n+1)),
   (fstV ((aSlice Tryz.prog 24 (bB 0 0 n c) none (some (iN (n+1))) none).map fun v=>(v,none)),bB 0 0 (n+1) c1),
   (some (.int .i64 (wrapF .i64 (Int.ofNat i+1))),iN (i+1)),
   (fstV ((aSlice Tryz.prog 24 (bB 0 0 (n+1) c1) (some (iN (i+1))) none none).map fun v=>(v,none)),bB 0 ((i+1)*7) (n-i) (cc c1 (n+1) (n+1))),
   (some (.int .i64 (wrapF .i64 (Int.ofNat i+1))),iN (i+1)),
   (fstV ((aSlice Tryz.prog 24 (bB 0 0 (n+1) c1) (some (iN (i+1))) none none).map fun v=>(v,none)),bB 0 ((i+1)*7) (n-i) (cc c1 (n+1) (n+1))),
   (fstV ((aSlice Tryz.prog 24 (bB 0 0 (n+1) c1) (some (iN i)) none none).map fun v=>(v,none)),bB 0 (i*7) (n+1-i) (cc c1 (n+1) (n+1))),
   (fstV ((aSlice Tryz.prog 24 (bB 0 0 (n+1) c1) (some (iN i)) none none).map fun v=>(v,none)),bB 0 (i*7) (n+1-i) (cc c1 (n+1) (n+1)))],
  [(call 165 [af 1 1 c2,bB 0 ((i+1)*7) (n-i) (cc c1 (n+1) (n+1))] (hI L X t2),(.bool false,hI L X t2))],
  [(aCopy Tryz.prog (hI L X t2).get [24,24] [bB 0 ((i+1)*7) (n-i) (cc c1 (n+1) (n+1)),bB 0 (i*7) (n+1-i) (cc c1 (n+1) (n+1))],(iN (n-i),[.put 0 (.cells 78 M1 false)])),
   (aCopy Tryz.prog ((hI L X t2).put 0 (.cells 78 M1 false)).get [24,24] [bB 0 (i*7) (n+1-i) (cc c1 (n+1) (n+1)),af 1 1 c2],(iN 1,[.put 0 (.cells 78 M2 false)]))]):=by kernel_rfl
end
theorem qW{A B C D:List Value}{k:Nat}(hk:A.length=k)(hl:D.length=B.length):putL (A++B++C) k D=A++D++C:=by
 apply List.ext_getElem?
 intro j;rw [gd];by_cases h1:j<k
 ·rw [if_neg (by omega),List.append_assoc,List.append_assoc,List.getElem?_append_left (by omega),List.getElem?_append_left (by omega)]
 ·by_cases h2:j<k+D.length
  ·rw [if_pos ⟨by omega,h2,by simp; omega⟩,List.append_assoc A D C,List.getElem?_append_right (by omega),List.getElem?_append_left (by omega),hk]
  ·rw [if_neg (by omega),List.getElem?_append_right (by simp; omega),List.getElem?_append_right (by simp; omega)]
   congr 1; simp; omega
theorem FN{b off n c l:Nat}(h:l≤n):fstV ((aSlice Tryz.prog 24 (bB b off n c) (some (iN l)) none none).map fun v=>(v,none))=some (bB b (off+l*7) (n-l) (cc c n n)):=by
 have h1:(0:Int)≤Int.ofNat l∧Int.ofNat l≤(n:Int):=⟨Int.natCast_nonneg l,by simpa using h⟩
 simp only [aSlice,bB,iN,Tryz.underlying24,kK,bound];rw [if_pos h1];simp [fstV,cc]
theorem eB{b n c l:Nat}(h:l≤n):fstV ((aSlice Tryz.prog 24 (bB b 0 n c) (some (iN l)) none none).map fun v=>(v,none))=some (bB b (l*7) (n-l) (cc c n n)):=by
 rw [FN h,Nat.zero_add]
theorem PD(n h:Nat):cc 22 n h=22:=by unfold cc; rw [if_pos (by decide)]
theorem ru{b n c l:Nat}(h:l≤n+spareOf c):fstV ((aSlice Tryz.prog 24 (bB b 0 n c) none (some (iN l)) none).map fun v=>(v,none))=some (bB b 0 l (cc c n l)):=by
 have h1:(0:Int)≤Int.ofNat l∧Int.ofNat l≤((n+spareOf c:Nat):Int):=⟨Int.natCast_nonneg l,Int.ofNat_le.2 h⟩
 simp only [aSlice,bB,iN,Tryz.underlying24,kK,bound];rw [if_pos h1];simp [fstV,cc]
theorem Dh{b n c x:Nat}(h0:c % 3=0)(hx:c / 3 / 1000000=x):fstV ((aCap Tryz.prog 24 (bB b 0 n c)).map fun v=>(v,none))=some (iN (n+x)):=by
 simp only [aCap,bB,Tryz.underlying24,h0];have e:(↑n + ↑c / 3 / 1000000:Int)=Int.ofNat (n+x):=by
  rw [← hx];simp only [Int.ofNat_eq_natCast,Int.natCast_add,Int.natCast_ediv];rfl
 show some (Value.int .i64 (↑n + ↑c / 3 / 1000000))=_
 rw [e];rfl
theorem Jj:∃ z,tzero Tryz.prog 78=some z∧z.length=7∧z.all isOne=true:=by
 have h:(tzero Tryz.prog 78).map (fun z=>(z.length,z.all isOne))=some (7,true):=by kernel_rfl
 obtain ⟨z,h1,h2⟩:=Option.map_eq_some_iff.1 h;simp only [Prod.mk.injEq] at h2;exact ⟨z,h1,h2.1,h2.2⟩
theorem w3{z:List Value}(hz:z.all isOne=true):∀ n,(repL z n).all isOne=true
 | 0=>rfl
 | n+1=>by simp only [repL,List.all_append,hz,w3 hz n,Bool.and_self]
theorem qZ(z:List Value):∀ a b,repL z (a+b)=repL z a++repL z b
 | 0,b=>by simp [repL]
 | a+1,b=>by rw [show a+1+b=(a+b)+1 by omega,repL,repL,qZ z a b,List.append_assoc]
theorem vX{A B C:List Value}{k n:Nat}(hk:A.length=k)(hn:B.length=n):eF (A++B++C) k n=some B:=by
 have e:((A++B++C).drop k).take n=B:=by
  rw [List.append_assoc,List.drop_left' hk,List.take_left' hn]
 unfold eF;rw [e,if_pos hn]
theorem G1{get:Nat→Option ae}{L X:List Value}{t2:TypeId}{n c2:Nat}(h0:get 0=some (.cells 78 L false))(h1:get 1=some (.cells t2 X false))(hL:L.length=n*7)(hX:X.length=7)(oX:X.all isOne=true)(hn:n<1000000) :
  aAppend Tryz.prog get 3 [24,24] [bB 0 0 n 22,af 1 1 c2]=some (aW 3 (n+1),[.put 0 .dead,.push (.cells 78 (L++X) false)]):=by
 obtain ⟨i,hi,h7,pC⟩:=mj;obtain ⟨z,hz,hzl⟩:=oP;have hsrc:aSrc Tryz.prog get 7 z (.slice 78) (af 1 1 c2)=some (X,1):=by
  unfold aSrc;simp only [af,srcLen,srcCells,h1];rw [if_neg (by omega),if_neg (by omega),cz (n:=1*7) (by omega)]
  rfl
 have hg:eF L 0 (n*7)=some L:=cz hL
 unfold aAppend;simp only [Tryz.underlying24,hi,hz,h7,pC,hzl];rw [if_neg (by decide)]
 simp only [hsrc,oX,hX];rw [if_neg (by simp)]
 simp only [bB];rw [if_neg (by omega),if_neg (by omega)]
 simp only [h0,hg];rw [if_neg (by omega),if_pos (by decide),if_neg (by rw [hL]; omega)]
 rfl
theorem CA{get:Nat→Option ae}{L:List Value}{n i k cI:Nat}(h0:get 0=some (.cells 78 L false))(hL:L.length=n*7)(hi:i≤n)(hc:cI % 3=0∧cI / 3 / 1000000<k)(hn:n<1000000)(hk:i+k=n+1):∃ z,z.length=7 ∧
  aAppend Tryz.prog get 3 [24,3] [bB 0 0 i cI,iN k]=some (aW 3 (n+1),[.push (.cells 78 (L.take (i*7)++repL z k) false)]):=by
 obtain ⟨ii,hi',h7,pC⟩:=mj;obtain ⟨z,hz,hzl,hzo⟩:=Jj;refine ⟨z,hzl,?_⟩
 have hsrc:aSrc Tryz.prog get 7 z (.int .i64) (iN k)=some (repL z k,k):=by
  unfold aSrc iN;simp only;rw [if_pos (by simp only [Int.ofNat_eq_natCast]; omega)]
  rfl
 have hg:eF L 0 (i*7)=some (L.take (i*7)):=by
  unfold eF;rw [List.drop_zero,if_pos (by rw [List.length_take]; omega)]
 have hu3:Tryz.prog.underlying 3=some (.int .i64):=by kernel_rfl
 unfold aAppend;simp only [Tryz.underlying24,hu3,hi',hz,h7,pC,hzl];rw [if_neg (by decide)]
 simp only [hsrc,w3 hzo,dA,hzl];rw [if_neg (by simp)]
 simp only [bB];rw [if_neg (by omega),if_neg (by omega)]
 simp only [h0,hg];rw [if_pos hc,hk];rfl
theorem pH{get:Nat→Option ae}{d doff dlen dc s soff slen sc m:Nat}{ty ty2:TypeId}{ro:Bool}{A B C A2 D C2:List Value}(hm:min slen dlen=m)(h0:0<m)(hd:get d=some (.cells ty (A++B++C) false))(hs:get s=some (.cells ty2 (A2++D++C2) ro))(hA:A.length=doff)(hB:B.length=m*7)(hA2:A2.length=soff)(hD:D.length=m*7)(oD:D.all isOne=true) :
  aCopy Tryz.prog get [24,24] [bB d doff dlen dc,bB s soff slen sc]=some (iN m,[.put d (.cells ty (A++D++C) false)]):=by
 have hsrc:srcCells get 7 m (bB s soff slen sc)=some D:=by
  unfold srcCells bB;simp only [hs];rw [if_neg (by omega),if_neg (by omega),vX hA2 hD]
 unfold aCopy;simp only [Tryz.underlying24,kK];have hl:srcLen (bB s soff slen sc)=some slen:=rfl
 rw [hl];simp only [bB,hm];have hsrc':srcCells get 7 m (.slice (some ⟨s,soff,none⟩) slen sc)=some D:=hsrc
 rw [hsrc'];simp only [oD,hD];rw [if_neg (by simp),if_neg (by omega)]
 simp only [hd];rw [if_pos (by simp; omega),qW hA (by omega)]
 rfl
theorem wrap_add{n:Nat}(h:n<1000000):(some (Value.int .i64 (wrapF .i64 (Int.ofNat n+1))))=some (iN (n+1)):=bq h
theorem Gs{n i:Nat}(h:n<1000001)(hi:i≤n):(some (Value.int .i64 (wrapF .i64 (Int.ofNat n-Int.ofNat i))))=some (iN (n-i)):=by
 have e:Int.ofNat n-Int.ofNat i=Int.ofNat (n-i):=by simp only [Int.ofNat_eq_natCast]; omega
 rw [e,wrap64 (by have:=Int.natCast_nonneg (n-i); simp only [Int.ofNat_eq_natCast]; omega) (by simp only [Int.ofNat_eq_natCast]; omega)]
 rfl
def gIns:aD
 | [.slice (some ⟨b,0,none⟩) n c,.int .i64 (.ofNat i),.slice (some ⟨b2,0,none⟩) 1 c2],hp =>
   match Nat.beq c 22,Nat.beq b b2,hp.get b,hp.get b2 with
   | true,false,some (.cells ty L false),some (.cells t2 X false) =>
     match Nat.beq ty 78&&Nat.beq L.length (n*7)&&Nat.beq X.length 7&&Nat.ble i n&&Nat.blt n 1000000&&L.all inert&&X.all inert&&L.all isOne&&X.all isOne with
     | true=>some (bB hp.sz 0 (n+1) 23,heapOf ([.cells 78 (L.take (i*7)++X++L.drop (i*7)) false] ++ [.dead]) (killL [b,b2] hp))
     | false=>none
   | _,_,_,_=>none
 | _,_=>none
noncomputable def EI:Ext:=fv E5 [(165,gOver)]
theorem O3:ExtOk Tryz.prog EI:=bE Cb (.cons MO .nil)
noncomputable def cI:aH:=aCall Tryz.prog EI 5
theorem Dd:ba Tryz.prog cI:=aP O3 follows 5
theorem Ht(args:List Value)(hp:Hp):cI 165 args hp=gOver args hp:=rfl
theorem XS(v:Value)(O:List ae)(g:Nat→Value):retVal Tryz.prog Tryz.f140 (aq 95 g [(6,v)] O)=some v:=by kernel_rfl
theorem OE(L X:List Value)(t2:TypeId):(hI L X t2).get 0=some (.cells 78 L false):=by unfold hI; rw [av]; rfl
theorem Tj(L X:List Value)(t2:TypeId):(hI L X t2).get 1=some (.cells t2 X false):=by unfold hI; rw [av]; rfl
theorem D6(L X:List Value)(t2:TypeId):(hI L X t2).sz=3:=rfl
def u4(R:List Value)(n:Nat)(e:Exit)(st:St):Prop:=(e = .normal∨e = .ret)∧st.df = []∧∃ c v0,v0=bB 0 0 (n+1) c∧retVal Tryz.prog Tryz.f140 st=some v0∧st.hp.get 0=some (.cells 78 R false)
section
variable {L X:List Value} {t2:TypeId} {n c c2 i x:Nat} {W:bg}
theorem tX{R:List Value}{c1:Nat}(g:Nat→Value):u4 R n .ret (aq 95 g [(6,bB 0 0 (n+1) c1)] [.cells 78 R false]) :=
 ⟨.inr rfl,rfl,c1,_,rfl,XS _ _ g,by show (heapOf _ aE).get 0=_; rw [av]; rfl⟩
theorem ye(h:i≠n):some (Value.bool (Int.ofNat i==Int.ofNat n))=some (.bool false):=by
 have:(Int.ofNat i==Int.ofNat n)=false:=beq_false_of_ne (fun e=>h (Int.ofNat.inj e))
 rw [this]
theorem DU{R:List Value}(hR:R.all inert=true)(i:Nat)(hi:i<1)(o:ae)(ho : [ae.cells 78 R false][i]? = some o):dH 0 o:=by
 have:i=0:=by omega
 subst this;simp at ho;subst ho;exact bk (by exact hR) 0
theorem Ig(hL:L.length=n*7)(hX:X.length=7)(iL:L.all inert=true)(iX:X.all inert=true)(oX:X.all isOne=true)(hn:n<1000000) :
  al Tryz.prog 95 W vL (Oy L X t2 n 22 c2 n) (u4 (L++X) n):=by
 refine al.aJ Dd follows 1 _ _ _ _ (XZ cI L X t2 n 22 c2 n) (Met.cons (eB (Nat.le_refl _)) (Met.cons (by rw [beq_self_eq_true]) Met.nil)) az.nil (aA.cons (G1 (OE L X t2) (Tj L X t2) hL hX oX hn) aA.nil) Wy rfl rfl (DU (by rw [List.all_append,iL,iX]; rfl)) fun g=>tX g
theorem nK(hL:L.length=n*7)(hi:i≤n):(L.take (i*7)).length=i*7:=by rw [List.length_take]; omega
theorem na(hL:L.length=n*7)(hi:i≤n):(L.drop (i*7)).length=(n-i)*7:=by rw [List.length_drop,hL,Nat.sub_mul]
theorem kh{p:Value→Bool}(h:L.all p=true)(k:Nat):(L.take k).all p=true:=List.all_eq_true.2 fun v hv=>List.all_eq_true.1 h v (List.mem_of_mem_take hv)
theorem fW{p:Value→Bool}(h:L.all p=true)(k:Nat):(L.drop k).all p=true:=List.all_eq_true.2 fun v hv=>List.all_eq_true.1 h v (List.mem_of_mem_drop hv)
theorem Ef(hL:L.length=n*7)(hX:X.length=7)(iL:L.all inert=true)(iX:X.all inert=true)(oL:L.all isOne=true)(oX:X.all isOne=true)(hn:n<1000000)(hi:i<n) :
  al Tryz.prog 95 W vL (Oy L X t2 n 21 c2 i) (u4 (L.take (i*7)++X++L.drop (i*7)) n):=by
 have hsp:spareOf 21=0:=rfl
 have hc:cc 21 n i % 3=0∧cc 21 n i / 3 / 1000000<n+1-i:=by
  unfold cc;rw [if_neg (by decide),if_pos (by decide),hsp]
  have:wide 21 % 1000000=7:=by decide
  rw [this];constructor <;> omega
 have ht:=nK hL (Nat.le_of_lt hi)
 have hd:=na hL (Nat.le_of_lt hi)
 obtain ⟨z,hz,happ⟩:=CA (get:=(hI L X t2).get) (k:=n+1-i) (OE L X t2) hL (Nat.le_of_lt hi) hc hn (by omega)
 have hrl:∀ k,(repL z k).length=k*7:=fun k=>by rw [dA,hz]
 refine al.aJ Dd follows 1 _ _ _ _ (X0 cI L X t2 n 21 c2 i (L.take (i*7)) (L.drop (i*7)) (repL z (n+1-i)) (repL z (n-i))) ?_ az.nil ?_ Wy rfl rfl (DU (by rw [List.all_append,List.all_append,kh iL,iX,fW iL]; rfl)) fun g=>tX g
 ·refine Met.cons (eB (Nat.le_of_lt hi)) (Met.cons (ye (by omega)) (Met.cons (wrap_add hn) (Met.cons (Dh (x:=0) rfl rfl) (Met.cons (ag (decide_eq_true (by simp only [Int.ofNat_eq_natCast]; omega))) (Met.cons (ru (by omega)) (Met.cons (wrap_add hn) (Met.cons (Gs (by omega) (by omega)) (Met.cons ?_ (Met.cons (wrap_add (by omega)) (Met.cons ?_ (Met.cons (eB (Nat.le_of_lt hi)) Met.nil)))))))))))
  ·have:=eB (b:=3) (c:=22) (n:=n+1) (l:=i) (by omega)
   rw [PD] at this; exact this
  ·have:=eB (b:=3) (c:=22) (n:=n+1) (l:=i+1) (by omega)
   rw [PD,show n+1-(i+1)=n-i by omega] at this; exact this
 ·refine aA.cons happ (aA.cons ?_ (aA.cons ?_ aA.nil))
  ·have e:repL z (n+1-i)=repL z 1++repL z (n-i):=by rw [← qZ,show 1+(n-i)=n+1-i by omega]
   have:=pH (get:=((hI L X t2).push (.cells 78 (L.take (i*7)++repL z (n+1-i)) false)).get) (d:=3) (doff:=i*7) (dlen:=n+1-i) (dc:=22) (s:=1) (soff:=0) (slen:=1) (sc:=c2) (m:=1) (ty:=78) (ty2:=t2) (ro:=false)
     (A:=L.take (i*7)) (B:=repL z 1) (C:=repL z (n-i)) (A2:=[]) (D:=X) (C2:=[]) (by omega) (by omega) (by rw [Hp.cA,D6,if_pos rfl,e,List.append_assoc]) (by rw [Hp.cA,D6,if_neg (by omega),Tj]; simp) ht (hrl 1) rfl (by omega) oX
   exact this
  ·have:=pH (get:=(((hI L X t2).push (.cells 78 (L.take (i*7)++repL z (n+1-i)) false)).put 3 (.cells 78 (L.take (i*7)++X++repL z (n-i)) false)).get) (d:=3) (doff:=(i+1)*7) (dlen:=n-i) (dc:=22) (s:=0) (soff:=i*7) (slen:=n-i) (sc:=cc 21 n n) (m:=n-i) (ty:=78) (ty2:=78) (ro:=false)
      (A:=L.take (i*7)++X) (B:=repL z (n-i)) (C:=[]) (A2:=L.take (i*7)) (D:=L.drop (i*7)) (C2:=[]) (by omega) (by omega) (by rw [Hp.dB,if_pos rfl,List.append_nil]) (by rw [Hp.dB,if_neg (by omega),Hp.cA,D6,if_neg (by omega),OE,List.append_nil,List.take_append_drop]) (by rw [List.length_append,ht,hX,Nat.succ_mul]) (hrl _) ht hd (fW oL _)
   rw [List.append_nil] at this;exact this
theorem Eg{J:List Value}(hL:L.length=n*7)(hX:X.length=7)(hJ:J.length=7)(iL:L.all inert=true)(iX:X.all inert=true)(oL:L.all isOne=true)(oX:X.all isOne=true)(hn:n<1000000)(hi:i<n)(hx:0<x) :
  al Tryz.prog 95 W vL (Oy (L++J) X t2 n (3*(7+1000000*x)) c2 i) (u4 (L.take (i*7)++X++L.drop (i*7)) n):=by
 have ht:=nK hL (Nat.le_of_lt hi)
 have hd:=na hL (Nat.le_of_lt hi)
 have ht1:=nK (i:=i+1) hL hi
 have BZ:=na (i:=i+1) hL hi
 have hdt:((L.drop (i*7)).take 7).length=7:=by rw [List.length_take,hd]; omega
 have ed:L.drop (i*7)=(L.drop (i*7)).take 7++L.drop ((i+1)*7):=by
  have:=(List.take_append_drop 7 (L.drop (i*7))).symm
  rw [List.drop_drop,show i*7+7=(i+1)*7 by omega] at this
  exact this
 have et:L.take ((i+1)*7)=L.take (i*7)++(L.drop (i*7)).take 7:=by
  rw [show (i+1)*7=i*7+7 by omega,List.take_add]
 have hsp:spareOf (3*(7+1000000*x))=x:=by
  unfold spareOf;rw [show 3*(7+1000000*x) % 3=0 by omega]
  show 3*(7+1000000*x) / 3 / 1000000=x
  omega
 refine al.aJ Dd follows 1 _ _ _ _ (X3 cI (L++J) X t2 n (3*(7+1000000*x)) c2 i x (L.take ((i+1)*7)++L.drop (i*7)) (L.take (i*7)++X++L.drop (i*7)) (cc (3*(7+1000000*x)) n (n+1))) ?_ ?_ ?_ Wy rfl rfl (DU (by rw [List.all_append,List.all_append,kh iL,iX,fW iL]; rfl)) fun g=>tX g
 ·have s1:∀ c,fstV ((aSlice Tryz.prog 24 (bB 0 0 (n+1) c) (some (iN (i+1))) none none).map fun v=>(v,none))=some (bB 0 ((i+1)*7) (n-i) (cc c (n+1) (n+1))):=fun c=>by
   have:=eB (b:=0) (c:=c) (n:=n+1) (l:=i+1) (by omega)
   rw [show n+1-(i+1)=n-i by omega] at this; exact this
  have s2:∀ c,fstV ((aSlice Tryz.prog 24 (bB 0 0 (n+1) c) (some (iN i)) none none).map fun v=>(v,none))=some (bB 0 (i*7) (n+1-i) (cc c (n+1) (n+1))):=fun c=>eB (by omega)
  exact Met.cons (eB (Nat.le_of_lt hi)) (Met.cons (ye (by omega)) (Met.cons (wrap_add hn) (Met.cons (Dh (x:=x) (by omega) (by omega)) (Met.cons (ag (decide_eq_false (by simp only [Int.ofNat_eq_natCast]; omega))) (Met.cons (wrap_add hn) (Met.cons (ru (by rw [hsp]; omega)) (Met.cons (wrap_add (by omega)) (Met.cons (s1 _) (Met.cons (wrap_add (by omega)) (Met.cons (s1 _) (Met.cons (s2 _) (Met.cons (s2 _) Met.nil))))))))))))
 ·refine az.cons ?_ az.nil
  rw [Ht];obtain ⟨y,ys,hy⟩:∃ y ys,L++J=y::ys:=by
    cases h:L++J with
    | nil=>have:=congrArg List.length h; rw [List.length_append,hL,hJ,List.length_nil] at this; omega
    | cons y ys=>exact ⟨y,ys,rfl⟩
  unfold gOver af bB;simp only [OE,Tj,hy];rfl
 ·refine aA.cons ?_ (aA.cons ?_ aA.nil)
  ·have:=pH (get:=(hI (L++J) X t2).get) (d:=0) (doff:=(i+1)*7) (dlen:=n-i) (dc:=cc (cc (3*(7+1000000*x)) n (n+1)) (n+1) (n+1)) (s:=0) (soff:=i*7) (slen:=n+1-i) (sc:=cc (cc (3*(7+1000000*x)) n (n+1)) (n+1) (n+1)) (m:=n-i) (ty:=78) (ty2:=78) (ro:=false)
      (A:=L.take ((i+1)*7)) (B:=L.drop ((i+1)*7)++J) (C:=[]) (A2:=L.take (i*7)) (D:=L.drop (i*7)) (C2:=J) (by omega) (by omega) (by rw [OE,List.append_nil,← List.append_assoc,List.take_append_drop]) (by rw [OE,List.take_append_drop]) ht1 (by rw [List.length_append,BZ,hJ]; omega) ht hd (fW oL _)
   rw [List.append_nil] at this;exact this
  ·have:=pH (get:=((hI (L++J) X t2).put 0 (.cells 78 (L.take ((i+1)*7)++L.drop (i*7)) false)).get) (d:=0) (doff:=i*7) (dlen:=n+1-i) (dc:=cc (cc (3*(7+1000000*x)) n (n+1)) (n+1) (n+1)) (s:=1) (soff:=0) (slen:=1) (sc:=c2) (m:=1) (ty:=78) (ty2:=t2) (ro:=false)
      (A:=L.take (i*7)) (B:=(L.drop (i*7)).take 7) (C:=L.drop (i*7)) (A2:=[]) (D:=X) (C2:=[]) (by omega) (by omega) (by rw [Hp.dB,if_pos rfl,et]) (by rw [Hp.dB,if_neg (by omega),Tj]; simp) ht (by omega) rfl (by omega) oX
   exact this
end
theorem xa{m:BM}{h:HG}{b n c:Nat}{x:Value}(r:ak m h (bB b 0 n c) x):ak m h (bB b 0 n 23) x:=by
 obtain ⟨_,_,r1,o1,cap,q1,rfl,h0,hh⟩:=r.dN;cases q1;refine .slice (.of h0.1 (by decide)) ?_
 rcases hh with hd | ⟨δ,E,h1,h2,_⟩
 ·exact .inl hd
 ·exact .inr ⟨δ,E,h1,h2,(fun h=>absurd h (by decide)),(fun h=>absurd h (by decide))⟩
theorem Um:ax Tryz.prog 140 gIns:=ou follows Tryz.func140 Li (by kernel_rfl) fun args hp v hp' he hk=>by
 unfold gIns at he;split at he
 case h_2=>cases he
 rename_i b n c i b2 c2;split at he
 case h_2=>cases he
 rename_i ty L t2 X hc hbb hb hb2;split at he
 case h_2=>cases he
 rename_i hcond;cases he;simp only [Bool.and_eq_true] at hcond;obtain ⟨⟨⟨⟨⟨⟨⟨⟨k1,k2⟩,k3⟩,k4⟩,k5⟩,iL⟩,iX⟩,oL⟩,oX⟩:=hcond;have hc':=Nat.eq_of_beq_eq_true hc
 have hty:=Nat.eq_of_beq_eq_true k1
 have hL:=Nat.eq_of_beq_eq_true k2
 have hX:=Nat.eq_of_beq_eq_true k3
 have hin:=Nat.le_of_ble_eq_true k4
 have hn:n<1000000:=by simpa [Nat.blt_eq] using k5
 subst hc' hty;have hne:b≠b2:=fun e=>by subst e; rw [Nat.beq_refl] at hbb; cases hbb
 refine ⟨[b,b2],[.cells 78 (L.take (i*7)++X++L.drop (i*7)) false],rfl,fun b' hb'=>?_,fun m h w args' s ra=>?_⟩
 ·have:b'=b∨b'=b2:=by simpa using hb'
  rcases this with rfl | rfl
  ·exact ⟨_,hb,rfl⟩
  ·exact ⟨_,hb2,rfl⟩
 obtain ⟨v1,bs1,e1,r1,ra1⟩:=ra.of_cons;obtain ⟨v2,bs2,e2,r2,ra2⟩:=ra1.of_cons;obtain ⟨v3,bs3,e3,r3,ra3⟩:=ra2.of_cons;have e4:=ra3.of_nil
 subst e4;obtain ⟨_,_,rr,oo,cap,q1,rfl,hcap,hh⟩:=r1.dN;cases q1;have ev2:=r2.of_int
 subst ev2;obtain ⟨_,_,rr2,oo2,cap2,q2,rfl,hcap2,hh2⟩:=r3.dN;cases q2;have ea:args'.toList = [.slice (some ⟨rr,oo,none⟩) n cap,.int .i64 (.ofNat i),.slice (some ⟨rr2,oo2,none⟩) 1 cap2]:=by rw [e1,e2,e3]
 have gb:=bx hk h b _ hb
 have gb2:=bx hk h b2 _ hb2
 rcases hh with hd | ⟨δ,E,hm,hoff,hcok⟩
 ·rw [gb] at hd; cases hd
 rcases hh2 with hd | ⟨δ2,E2,hm2,hoff2,hcok2⟩
 ·rw [gb2] at hd; cases hd
 refine ⟨fun b' hb'=>?_,?_⟩
 ·have:b'=b∨b'=b2:=by simpa using hb'
  rcases this with rfl | rfl
  ·exact ⟨_,hm⟩
  ·exact ⟨_,hm2⟩
 have hE : δ + cap*7=E:=by have:=hcok.2 (by decide); simpa using this
 have hle:=hcap.1
 have hrow:∀ {o1 o2:ae} (b':Nat) (x:Nat×Nat×Nat),canM m [b,b2] b'=some x→rw? (heapOf [o1,o2,.dead] aE).get b'=true→rowsOf m [b,b2] x.1:=by
  intro o1 o2 b' x hx _;unfold canM at hx;match b' with
  | 0=>exact ⟨b,by simp,x,hx,rfl⟩
  | 1=>exact ⟨b2,by simp,x,hx,rfl⟩
  | b'+2=>simp at hx
 have hargs:∀ (c0:Nat) {o1 o2:ae},B' c0 n cap→za c0 n cap (δ + 0) E→aC (canM m [b,b2]) (heapOf [o1,o2,.dead] aE).get [bB 0 0 n c0,iN i,af 1 1 c2] args'.toList:=fun c0 o1 o2 h1 h2=>by
  rw [ea];exact .cons (.slice h1 (.inr ⟨δ,E,hm,hoff,h2⟩)) (.cons (.flat rfl) (.cons (.slice hcap2 (.inr ⟨δ2,E2,hm2,hoff2,hcok2⟩)) .nil))
 have hInert:∀ {R:List Value},R=L.take (i*7)++X++L.drop (i*7)→aB (.cells 78 R false)=true:=fun e=>by
  subst e;show List.all _ inert=true
  rw [List.all_append,List.all_append,kh iL,iX,fW iL]; rfl
 have fin:∀ {R:List Value} {e:Exit} {st:St},R=L.take (i*7)++X++L.drop (i*7)→u4 R n e st→(e = .normal∨e = .ret)∧st.df = []∧∃ v0,retVal Tryz.prog Tryz.f140 st=some v0∧iz v0=true ∧
   (∀ b∈[0],∃ o,st.hp.get b=some o∧c9 o=true∧nW o=true)∧(∀ m h x,ak m h (sh3 [0] hp.sz v0) x→ak m h (bB hp.sz 0 (n+1) 23) x)∧[.cells 78 (L.take (i*7)++X++L.drop (i*7)) false]=cV [0] hp.sz st.hp:=by
  intro R e st hR q;obtain ⟨p1,p2,c1,v0,rfl,p3,p4⟩:=q;refine ⟨p1,p2,_,p3,rfl,fun b' hb'=>?_,fun m h x hx=>?_,?_⟩
  ·have:b'=0:=by simpa using hb'
   subst this;exact ⟨_,p4,fp (hInert hR),rfl⟩
  ·have:sh3 [0] hp.sz (bB 0 0 (n+1) c1)=bB hp.sz 0 (n+1) c1:=by simp [sh3,sh2,sh1,j8,idxOf,bB]
   rw [this] at hx;exact xa hx
  ·subst hR
   simp only [cV,List.map_cons,List.map_nil,p4,Option.getD_some,dz (hInert rfl)]
 have dU:∀ (o1 o2:ae),(heapOf [o1,o2,.dead] aE).ok:=fun o1 o2=>bD _ _ gl
 by_cases hend:i=n
 ·subst hend
  obtain ⟨J,hJ,_,sS⟩:=mA s hk hne hb hb2 iL iX hm 0 (by rw [hL]; omega)
  have hJ0:=List.eq_nil_of_length_eq_zero hJ
  subst hJ0;rw [List.append_nil] at sS;refine ⟨[0],_,_,_,rfl,rfl,dU _ _,sS,hrow,hargs 22 hcap hcok,by rw [ntmps63]; simp,fun W=>?_⟩
  rw [ntmps63];refine al.mono (Ig hL hX iL iX oX hn) fun e st q=>fin ?_ q
  rw [List.take_of_length_le (by omega),List.drop_of_length_le (by omega),List.append_nil]
 ·have hlt:i<n:=by omega
  by_cases hfull:cap=n
  ·obtain ⟨J,hJ,_,sS⟩:=mA s hk hne hb hb2 iL iX hm 0 (by rw [hL]; omega)
   have hJ0:=List.eq_nil_of_length_eq_zero hJ
   subst hJ0;rw [List.append_nil] at sS;refine ⟨[0],_,_,_,rfl,rfl,dU _ _,sS,hrow,hargs 21 ⟨hle,fun _=>by omega⟩ ⟨fun _=>by omega,(fun h=>absurd h (by decide))⟩,by rw [ntmps63]; simp,fun W=>?_⟩
   rw [ntmps63];exact al.mono (Ef hL hX iL iX oL oX hn hlt) fun e st q=>fin rfl q
  ·obtain ⟨J,hJ,_,sS⟩:=mA s hk hne hb hb2 iL iX hm 7 (by rw [hL]; omega)
   refine ⟨[0],_,_,_,rfl,rfl,dU _ _,sS,hrow,hargs (3*(7+1000000*(cap-n))) ⟨hle,fun _=>by omega⟩ ⟨fun _=>by omega,(fun h=>by omega)⟩,by rw [ntmps63]; simp,fun W=>?_⟩
   rw [ntmps63];exact al.mono (Eg hL hX hJ iL iX oL oX hn hlt (by omega)) fun e st q=>fin rfl q
def orFn(g k:aD):aD:=fun args hp=>match g args hp with
 | some r=>some r
 | none=>k args hp
theorem Bs{P:Program}{f:FuncId}{g k:aD}(h1:ax P f g)(h2:ax P f k):ax P f (orFn g k):=by
 intro args hp v hp' he hk;unfold orFn at he;split at he
 ·rename_i h; cases he; exact h1 _ _ _ _ h hk
 ·exact h2 _ _ _ _ he hk
def p2:Value:=.pointer (some ⟨2,0,none⟩)
section
variable (o:ae) (vs ms:List aa) (n c:Nat) (lt lo lr keep:Int)
abbrev B6:St:=⟨tmsOf [af 0 n c,jB lt lo lr,.int .i64 keep] 0 .leaf,heapOf [o,.dead] aE,[]⟩
end
def cx(x:aa):Value:=.agg #[.bool x.n,.int .i64 x.t,.int .i64 x.o,.int .i64 x.r,.int .i64 x.d,.int .i64 x.i]
def pb(b off:Nat):Value:=.pointer (some ⟨b,off,none⟩)
section
variable (o:ae) (vs ms:List aa) (n c:Nat) (lt lo lr keep:Int) (i:Nat) (x y:aa) (g:Nat→Value)
noncomputable def hU(b n c:Nat)(i:Nat):di:=(fstV ((aIndexAddr Tryz.prog 24 (af b n c) (iN i)).map fun v=>(v,none)),pb b (i*7))
noncomputable def j7(G:Nat→Option ae)(t:TypeId)(b off:Nat)(v:Value):di:=(aLoad Tryz.prog G t (pb b off),v)
end
theorem sx(a b:Int):(dS a b==0)=(a==b):=by
 unfold dS;cases h1:decide (a<b) with
 | true=>simp at h1; rw [show (a==b)=false from beq_false_of_ne (by omega)]; rfl
 | false =>
   simp at h1;cases h2:decide (a>b) with
   | true=>simp at h2; rw [show (a==b)=false from beq_false_of_ne (by omega)]; rfl
   | false=>simp at h2; rw [show a=b by omega]; simp
theorem w7(n:Bool)(t o r d i:Int):dT n t o r d i n t o r d i=true:=by unfold dT; simp
theorem yF(x:aa):kJ x x=true:=by unfold kJ; rw [w7]; simp
section
variable {lt lo lr keep:Int} {vs:List aa}
theorem Bz(h:aF vs=true){i:Nat}{x:aa}(hx:vs[i]? = some x):cU x=true:=by
 have hi:i<vs.length:=(List.getElem?_eq_some_iff.1 hx).1
 have:=List.all_eq_true.1 h i (List.mem_range.2 hi)
 unfold rightAt at this;rw [hx] at this;exact (Bool.and_eq_true_iff.1 this).1
theorem oB{x:aa}(h:cU x=true):x.id≥0∧x.id<64∧x.i=x.id∧dU x.n x.t x.o x.r x.d x.i=true:=by
 unfold cU sg at h;rw [mZ] at h;simp only [Bool.and_eq_true,decide_eq_true_eq,beq_iff_eq] at h;exact h
end
theorem Jy:tagg Tryz.prog 23=some true:=by kernel_rfl
section
variable {hp:Hp} {b:Nat} {us:List aa} {i:Nat} {p:aa}
end
theorem ct{o:ae}(ho:aB o=true):∀ r:List ae,∀ i,i<1→∀ o',(o::r)[i]? = some o'→dH 0 o':=by
 intro r i hi o' h;have:i=0:=by omega
 subst this;simp at h; subst h; exact bk ho 0
section
variable {vs ms:List aa} {hp:Hp} {s:Value}
end
end Go.Proofs.YtgeoommlmddgpaaGreat.LtA
namespace Go.Proofs.YtgeoommlmddgpaaGreat.LtA
open Go Go.Proofs Go.Proofs.YtgeoommlmddgpaaGreat.AI Go.RowKit Go.ChangeShapes
theorem Md:Tryz.prog.cellsOf 3=1:=by kernel_rfl
theorem Me:Tryz.prog.cellsOf 4=1:=by kernel_rfl
theorem Dk:Tryz.prog.cellsOf 23=6:=by kernel_rfl
theorem zu:Tryz.prog.cellsOf 78=7:=by kernel_rfl
section
variable {H:Type} {enc:TypeId×Value→H} {W:World} {sp:Nat→Bool} {hd:Bool} {n:Nat} {cs:List Value} {x:DataW H×List MemPlace}
theorem Jh(h:DataW.trod enc Tryz.prog W 0 sp hd n 78 cs=some x):∃ p:aa,cs=vc p:=by
 obtain ⟨hl,hf⟩:=mD Tryz.underlying78 h;rw [zu] at hl;match cs,hl with
 | [v0,v1,v2,v3,v4,v5,v6],_ =>
   obtain ⟨_,_,k0⟩:=hf 0 _ rfl;obtain ⟨_,_,k1⟩:=hf 1 _ rfl;obtain ⟨i0,e0⟩:=trod_int Tryz.underlying3 k0;obtain ⟨-,f1⟩:=mD Tryz.underlying23 k1;obtain ⟨_,_,k10⟩:=f1 0 _ rfl;obtain ⟨_,_,MR⟩:=f1 1 _ rfl;obtain ⟨_,_,MS⟩:=f1 2 _ rfl;obtain ⟨_,_,MT⟩:=f1 3 _ rfl;obtain ⟨_,_,MU⟩:=f1 4 _ rfl;obtain ⟨_,_,k15⟩:=f1 5 _ rfl;obtain ⟨b,e1⟩:=trod_bool Tryz.underlying4 k10;obtain ⟨i2,e2⟩:=trod_int Tryz.underlying3 MR;obtain ⟨i3,e3⟩:=trod_int Tryz.underlying3 MS;obtain ⟨i4,e4⟩:=trod_int Tryz.underlying3 MT;obtain ⟨i5,e5⟩:=trod_int Tryz.underlying3 MU;obtain ⟨i6,e6⟩:=trod_int Tryz.underlying3 k15;simp [Md,Me,Dk] at e0 e1 e2 e3 e4 e5 e6;subst e0 e1 e2 e3 e4 e5 e6;exact ⟨⟨i0,b,i2,i3,i4,i5,i6⟩,rfl⟩
end
theorem zZ{α : Type}{R:Nat→α→Prop}:∀ n,(∀ i,i<n→∃ p,R i p)→∃ ps:List α,ps.length=n∧∀ i p,ps[i]? = some p→R i p
 | 0,_=>⟨[],rfl,fun i p h=>by simp at h⟩
 | n+1,h=>by
   obtain ⟨ps,h1,h2⟩:=zZ n (fun i hi=>h i (by omega))
   obtain ⟨q,hq⟩:=h n (by omega)
   refine ⟨ps ++ [q],by simp [h1],fun i p hp=>?_⟩
   by_cases hi:i<ps.length
   ·rw [List.getElem?_append_left hi] at hp; exact h2 i p hp
   ·rw [List.getElem?_append_right (by omega)] at hp
    have:i-ps.length=0:=by
      have:=(List.getElem?_eq_some_iff.1 hp).1
      simp at this; omega
    rw [this] at hp;simp at hp;subst hp;have:i=n:=by omega
    rw [this]; exact hq
theorem Ji{H:Type}{enc:TypeId×Value→H}{W:World}{sp:Nat→Bool}{hd:Bool}{fuel:Nat}{r off n c:Nat}{x:DataW H×List MemPlace}(h:DataW.trod enc Tryz.prog W 0 sp hd fuel 24 [.slice (some ⟨r,off,none⟩) n c]=some x)(hn:0<n) :
  ∃ (ps:List aa) (arr:Array Value) (ty:TypeId) (fr:Nat×Nat),ps.length=n∧W.heap[r]? = some (.cells arr ty fr)∧off+(aK ps).length≤arr.size ∧
    ∀ (i:Nat) (v v':Value),(aK ps)[i]? = some v→arr[off+i]? = some v'→ak K8 (fun _=>none) v v':=by
 rcases Go.Deep.open_slice Tryz.underlying24 h with ⟨h0,_⟩ | ⟨a,len,cap,m,k,D,Pl,e0,_,hlc,_,hm,_,hel⟩
 ·simp at h0
 simp only [List.cons.injEq,Value.slice.injEq,Option.some.injEq,and_true] at e0;obtain ⟨rfl,rfl,rfl⟩:=e0;have hmn:n≤m:=by rw [hm]; split <;> omega
 rw [zu] at hel;have hw:∀ i,i<n→∃ p:aa,∀ j,j<7→W.cell? ⟨r,off+(i*7+j),none⟩=(vc p)[j]?:=by
  intro i hi;obtain ⟨cs,h1,h2⟩:=hel i (by omega)
  obtain ⟨p,rfl⟩:=Jh h2;obtain ⟨_,h5,h6⟩:=World.cells?_some h1
  refine ⟨p,fun j hj=>?_⟩
  have:=h6 j hj
  rw [Addr.add_lit,Addr.add_lit,Nat.add_assoc] at this;exact this
 obtain ⟨ps,hl,hps⟩:=zZ (R:=fun i (p:aa)=>∀ j,j<7→W.cell? ⟨r,off+(i*7+j),none⟩=(vc p)[j]?) n hw
 have hcell:∀ i j,i<n→j<7→∃ v,W.cell? ⟨r,off+(i*7+j),none⟩=some v:=by
  intro i j hi hj;obtain ⟨p,h1⟩:=hw i hi;rw [h1 j hj];have:(vc p).length=7:=rfl
  rw [List.getElem?_eq_getElem (by omega)]
  exact ⟨_,rfl⟩
 obtain ⟨arr,ty,fr,hc⟩:∃ arr ty fr,W.heap[r]? = some (.cells arr ty fr):=by
  obtain ⟨v,hv⟩:=hcell 0 0 hn (by omega)
  unfold World.cell? at hv;split at hv
  ·rename_i arr ty fr hc; exact ⟨arr,ty,fr,hc⟩
  ·cases hv
 have hlen:(aK ps).length=n*7:=by rw [bU,hl]
 refine ⟨ps,arr,ty,fr,hl,hc,?_,fun i v v' q1 q2=>?_⟩
 ·obtain ⟨v,hv⟩:=hcell (n-1) 6 (by omega) (by omega)
  rw [cell_of hc] at hv;have:=(Array.getElem?_eq_some_iff.1 hv).1
  rw [hlen];omega
 ·have hi:i<n*7:=by rw [← hlen]; exact (List.getElem?_eq_some_iff.1 q1).1
  have hq:i / 7<ps.length:=by rw [hl]; exact Nat.div_lt_of_lt_mul (by rw [Nat.mul_comm]; exact hi)
  have hp:ps[i / 7]? = some ps[i / 7]:=List.getElem?_eq_getElem hq
  have hsplit:i=i / 7*7+i % 7:=by omega
  have hj:i % 7<7:=Nat.mod_lt _ (by omega)
  have h1:=hps _ _ hp
  have g1:=eK vc 7 ps (fun _ _=>rfl) (i / 7) (i % 7) _ hp hj
  rw [← hsplit] at g1;have g2:=h1 (i % 7) hj
  rw [← hsplit,cell_of hc,q2] at g2;have hvrow:(aK ps)[i]? = (ps.flatMap vc)[i]?:=rfl
  rw [hvrow,g1,← g2] at q1;cases q1;have hfl:AI.flat v=true:=by
    have hm:=List.mem_of_getElem? g2.symm
    unfold vc at hm;simp only [List.mem_cons,List.not_mem_nil,or_false] at hm;rcases hm with rfl | rfl | rfl | rfl | rfl | rfl | rfl <;> rfl
  exact .flat hfl
theorem FG{m:BM}{o:ae}{W:World}(s:cg m (heapOf [o] aE).get W):cg m (heapOf [o,.dead] aE).get W:=by
 have hsub:∀ b o',(heapOf [o] aE).get b=some o'→(heapOf [o,.dead] aE).get b=some o':=by
  intro b o' h;rw [av] at h ⊢;match b with
  | 0=>exact h
  | b+1=>simp at h
 have hle:Le m (heapOf [o] aE).get m (heapOf [o,.dead] aE).get:=⟨fun b h=>hsub b _ h,fun b x h=>.inr h⟩
 refine ⟨fun b x hx=>?_,fun b b' x x' hx hx' hr hl e=>?_⟩
 ·obtain ⟨o',h1,h2⟩:=s.dom b x hx
  exact ⟨o',hsub _ _ h1,h2.mono hle rfl⟩
 ·obtain ⟨o1,h1,_⟩:=s.dom b x hx
  obtain ⟨o2,h2,_⟩:=s.dom b' x' hx';refine s.inj b b' x x' hx hx' ?_ ?_ e
  ·unfold rw? at hr ⊢; rw [hsub _ _ h1] at hr; rw [h1]; exact hr
  ·unfold aV at hl ⊢; rw [hsub _ _ h2] at hl; rw [h2]; exact hl
theorem BA{ty:TypeId}{L:List Value}(b:Nat):rw? (heapOf [ae.cells ty L true,.dead] aE).get b=false:=by
 unfold rw?;rw [av];match b with
 | 0=>rfl
 | 1=>rfl
 | b+2=>rfl
theorem w4(b:Nat):rw? (heapOf [ae.dead,.dead] aE).get b=false:=by
 unfold rw?;rw [av];match b with
 | 0=>rfl
 | 1=>rfl
 | b+2=>rfl
theorem rP{w:World}{r:Reach}{base:Nat}{t e:TypeId}{v:Value}(ht:Tryz.prog.underlying t=some (.slice e))(h:Value.okWide Tryz.prog w r base t v):v = .slice none 0 0∨∃ b off n c,v = .slice (some ⟨b,off,none⟩) n c∧n≤c:=by
 unfold Value.okWide at h;rw [ht] at h;exact vA ht h
theorem Av{h:HG}{W:World}:cg K8 h W:=⟨fun b x h=>(by cases h),fun b b' x x' h=>(by cases h)⟩
theorem own:ownKnob Tryz.prog.godebug=none:=by kernel_rfl
end Go.Proofs.YtgeoommlmddgpaaGreat.LtA
namespace Go.Proofs.YtgeoommlmddgpaaGreat.LtA
open Go Go.Proofs Go.Proofs.YtgeoommlmddgpaaGreat.AI Go.RowKit
noncomputable def TB:Ext:=cS Tryz.prog [(107,g54)]
theorem Kl:ExtOk Tryz.prog TB:=by unfold TB; exact aT (.cons MF .nil)
def g81:List Value→Option Value
 | [.agg cs,.int .i64 k]=>match cs.toList with
   | [.int .i64 id,.bool n,.int .i64 t,.int .i64 o,.int .i64 r,.int .i64 d,.int .i64 i]=>some (.int .i64 (dS id k))
   | _=>none
 | _=>none
theorem RS(v:aa)(k:Int):(aCall Tryz.prog TB 40 164 [.agg ⟨vc v⟩,.int .i64 k] aE).map (·.1)=some (.int .i64 (dS v.id k)):=by kernel_rfl
theorem Ut:bK Tryz.prog 164 g81:=dj Kl follows Tryz.func164 (by kernel_rfl) fun args v h=>by
 unfold g81 at h;split at h
 case h_2=>cases h
 rename_i cs k;split at h
 case h_2=>cases h
 rename_i id n t o r d i hcs;cases h;obtain rfl:=cO hcs;obtain ⟨⟨u,hp⟩,h1,h2⟩:=Option.map_eq_some_iff.1 (RS ⟨id,n,t,o,r,d,i⟩ k);simp only at h2;subst h2;exact ⟨rfl,rfl,40,hp,h1⟩
noncomputable def TD:Ext:=cS Tryz.prog [(164,g81)]
theorem Kp:ExtOk Tryz.prog TD:=by unfold TD; exact aT (.cons Ut .nil)
noncomputable def cB:aH:=aCall Tryz.prog TD 5
theorem oY:ba Tryz.prog cB:=aP Kp follows 5
noncomputable def DI:Code:=(Tryz.f163.body).getD .skip
noncomputable def L4:Code:=sL DI
noncomputable def L5:Code:=sL (sR DI)
noncomputable def L6:Code:=sL (sR (sR DI))
noncomputable def Da:Code:=nQ (jm (sL (sR (sR (sR DI)))))
noncomputable def Hq:Code:=sR (sR (sR (sR DI)))
noncomputable abbrev Dv:Code:=.seq L4 (.seq L5 (.seq L6 (.seq (.block 0 (.loop Da)) Hq)))
theorem Ll:Tryz.f163.body=some Dv:=by kernel_rfl
theorem ntmps80:Tryz.f163.ntmps=49:=by kernel_rfl
def Fv:Value:=.func (.func 164) #[] #[]
section
variable (o:ae) (n c:Nat) (id:Int)
abbrev W1:St:=⟨tmsOf [af 0 n c,.int .i64 id,Fv] 0 .leaf,heapOf [o,.dead] aE,[]⟩
abbrev WX(g:Nat→Value):St:=aq 49 g [(0,af 0 n c),(1,.int .i64 id),(2,Fv)] [o]
abbrev ON(g:Nat→Value):St:=aq 49 g [(0,af 0 n c),(1,.int .i64 id),(2,Fv),(8,iN n)] [o]
abbrev Ju(i j:Nat)(g:Nat→Value):St:=aq 49 g [(0,af 0 n c),(1,.int .i64 id),(2,Fv),(8,iN n),(9,iN i),(10,iN j)] [o]
theorem V1:(execE Tryz.prog cB [] [] [] 10 L4 (W1 o n c id)).map (fun y=>(look2 1 [0] [0,1,2] (y.1,y.2.1),y.2.2))=some ((.normal,[o],[(0,af 0 n c),(1,.int .i64 id),(2,Fv)],true),[],[],[]):=by kernel_rfl
theorem V2(g:Nat→Value):(execE Tryz.prog cB [] [] [] 10 L5 (WX o n c id g)).map (fun y=>(look2 1 [0] [0,1,2,8] (y.1,y.2.1),y.2.2))=some ((.normal,[o],[(0,af 0 n c),(1,.int .i64 id),(2,Fv),(8,iN n)],true),[],[],[]):=by kernel_rfl
theorem V3(g:Nat→Value):(execE Tryz.prog cB [] [] [] 10 L6 (ON o n c id g)).map (fun y=>(look2 1 [0] [0,1,2,8,9,10] (y.1,y.2.1),y.2.2))=some ((.normal,[o],[(0,af 0 n c),(1,.int .i64 id),(2,Fv),(8,iN n),(9,iN 0),(10,iN n)],true),[],[],[]):=by kernel_rfl
theorem V8(i j:Nat)(g:Nat→Value):(execE Tryz.prog cB [(17,.bool false)] [] [] 20 Da (Ju o n c id i j g)).map (fun y=>(look2 1 [0] [0,1,2,8,9,10] (y.1,y.2.1),y.2.2)) =
 some ((.exit 0,[o],[(0,af 0 n c),(1,.int .i64 id),(2,Fv),(8,iN n),(9,iN i),(10,iN j)],true),[(some (.bool (decide (Int.ofNat i<Int.ofNat j))),.bool false)],[],[]):=by kernel_rfl
def uN(n:Nat):Value:=.int .u64 (Int.ofNat n)
noncomputable def E7(i j h:Nat)(x:aa):List di :=
 [(some (.bool (decide (Int.ofNat i<Int.ofNat j))),.bool true),(some (.int .i64 (wrapF .i64 (Int.ofNat i+Int.ofNat j))),iN (i+j)),(some (.int .u64 (wrapF .u64 (Int.ofNat (i+j)))),uN (i+j)),
  (some (.int .u64 (Int.fdiv (Int.ofNat (i+j)) (2 ^ (min (Int.toNat 1) 64)))),uN h),(some (.int .i64 (wrapF .i64 (Int.ofNat h))),iN h),hU 0 n c h,j7 (heapOf ([o] ++ [.dead]) aE).get 78 0 (h*7) (.agg ⟨vc x⟩)]
def J5(i j h:Nat)(x:aa):List (Tmp×Value):=[(17,.bool true),(20,iN (i+j)),(21,uN (i+j)),(22,uN h),(23,iN h),(27,pb 0 (h*7)),(28,.agg ⟨vc x⟩)]
theorem V4(i j h:Nat)(x:aa)(g:Nat→Value):(execE Tryz.prog cB (J5 i j h x ++ [(31,.bool true),(33,iN (h+1))]) [] [] 20 Da (Ju o n c id i j g)).map (fun y=>(look2 1 [0] [0,1,2,8,9,10] (y.1,y.2.1),y.2.2)) =
 some ((.normal,[o],[(0,af 0 n c),(1,.int .i64 id),(2,Fv),(8,iN n),(9,iN (h+1)),(10,iN j)],true),E7 o n c i j h x ++ [(some (.bool (decide (dS x.id id<0))),.bool true),(some (.int .i64 (wrapF .i64 (Int.ofNat h+1))),iN (h+1))],[],[]):=by kernel_rfl
theorem V5(i j h:Nat)(x:aa)(g:Nat→Value):(execE Tryz.prog cB (J5 i j h x ++ [(31,.bool false)]) [] [] 20 Da (Ju o n c id i j g)).map (fun y=>(look2 1 [0] [0,1,2,8,9,10] (y.1,y.2.1),y.2.2)) =
 some ((.normal,[o],[(0,af 0 n c),(1,.int .i64 id),(2,Fv),(8,iN n),(9,iN i),(10,iN h)],true),E7 o n c i j h x ++ [(some (.bool (decide (dS x.id id<0))),.bool false)],[],[]):=by kernel_rfl
theorem V6(i j:Nat)(g:Nat→Value):(execE Tryz.prog cB [(38,.bool false)] [] [] 20 Hq (Ju o n c id i j g)).map (fun y=>(look2 0 [] [6,7] (y.1,y.2.1),y.2.2)) =
 some ((.ret,[],[(6,iN i),(7,.bool false)],true),[(some (.bool (decide (Int.ofNat i<Int.ofNat n))),.bool false)],[],[]):=by kernel_rfl
theorem V7(i j:Nat)(x:aa)(b:Bool)(g:Nat→Value):(execE Tryz.prog cB [(38,.bool true),(43,pb 0 (i*7)),(44,.agg ⟨vc x⟩),(47,.bool b)] [] [] 20 Hq (Ju o n c id i j g)).map (fun y=>(look2 0 [] [6,7] (y.1,y.2.1),y.2.2)) =
 some ((.ret,[],[(6,iN i),(7,.bool b)],true),[(some (.bool (decide (Int.ofNat i<Int.ofNat n))),.bool true),hU 0 n c i,j7 (heapOf ([o] ++ [.dead]) aE).get 78 0 (i*7) (.agg ⟨vc x⟩),(some (.bool (dS x.id id==0)),.bool b)],[],[]):=by kernel_rfl
end
theorem XU(v u:Value)(O:List ae)(g:Nat→Value):retVal Tryz.prog Tryz.f163 (aq 49 g [(6,v),(7,u)] O)=some (.tuple #[v,u]):=by kernel_rfl
theorem Wz:codeSafe Tryz.prog 49 L4=true:=by kernel_rfl
theorem WB:codeSafe Tryz.prog 49 L5=true:=by kernel_rfl
theorem WC:codeSafe Tryz.prog 49 L6=true:=by kernel_rfl
theorem N9:codeSafe Tryz.prog 49 Da=true:=by kernel_rfl
theorem SA:codeSafe Tryz.prog 49 Hq=true:=by kernel_rfl
def mI(vs:List aa):Prop:=∀ (i j:Nat) (u v:aa),i<j→vs[i]? = some u→vs[j]? = some v→u.id<v.id
def pos(vs:List aa)(id:Int):Nat:=(vs.takeWhile fun x=>decide (x.id<id)).length
def fnd(vs:List aa)(id:Int):Bool:=match vs[pos vs id]? with
 | some x=>x.id==id
 | none=>false
theorem ph{α : Type}{p : α→Bool}:∀ {vs:List α} {i:Nat},i≤vs.length→(∀ k x,k<i→vs[k]? = some x→p x=true)→(∀ x,vs[i]? = some x→p x=false)→(vs.takeWhile p).length=i
 | [],i,hi,_,_=>by simp at hi; subst hi; rfl
 | v::vs,0,_,_,h=>by rw [List.takeWhile_cons,h v rfl]; rfl
 | v::vs,i+1,hi,h1,h2=>by
   rw [List.takeWhile_cons,h1 0 v (by omega) rfl]
   simp only [if_true,List.length_cons];rw [ph (by simpa using hi) (fun k x hk hx=>h1 (k+1) x (by omega) (by simpa using hx)) (fun x hx=>h2 x (by simpa using hx))]
theorem yB(vs:List aa)(id:Int):pos vs id≤vs.length:=List.takeWhile_sublist _ |>.length_le
theorem tS(a b:Int):decide (dS a b<0)=decide (a<b):=by
 unfold dS;cases h1:decide (a<b) with
 | true=>rfl
 | false=>cases h2:decide (a>b) <;> rfl
theorem zK{i j:Nat}:(some (Value.int .u64 (Int.fdiv (Int.ofNat (i+j)) (2 ^ (min (Int.toNat 1) 64)))))=some (uN ((i+j) / 2)):=by
 have e:Int.fdiv (Int.ofNat (i+j)) (2 ^ (min (Int.toNat 1) 64))=Int.ofNat ((i+j) / 2):=by
  show Int.fdiv (Int.ofNat (i+j)) 2=_
  rw [Int.fdiv_eq_ediv_of_nonneg _ (by decide)]
  simp only [Int.ofNat_eq_natCast];omega
 rw [e]; rfl
theorem Gd{n:Nat}(h:n<3000000):(some (Value.int .u64 (wrapF .u64 (Int.ofNat n))))=some (uN n):=by
 have:wrapF .u64 (Int.ofNat n)=Int.ofNat n:=by
  show IntKind.wrap .u64 (Int.ofNat n)=_
  simp only [IntKind.wrap,IntKind.bits,IntKind.signed,Int.ofNat_eq_natCast];simp;omega
 rw [this]; rfl
theorem ot{n:Nat}(h:n<3000000):(some (Value.int .i64 (wrapF .i64 (Int.ofNat n))))=some (iN n):=by
 rw [wrap64 (by have:=Int.natCast_nonneg n; simp only [Int.ofNat_eq_natCast]; omega) (by simp only [Int.ofNat_eq_natCast]; omega)]
 rfl
theorem xU{i j:Nat}(h:i+j<3000000):(some (Value.int .i64 (wrapF .i64 (Int.ofNat i+Int.ofNat j))))=some (iN (i+j)):=by
 have e:Int.ofNat i+Int.ofNat j=Int.ofNat (i+j):=rfl
 rw [e,ot h]
theorem BD(o:ae)(ho:aB o=true)(vs:List aa)(hn:vs.length<1000000)(hs:mI vs)(hrow:vs = []∨∃ ty ro,o = .cells ty (aK vs) ro)(c:Nat)(id:Int)(W:bg) :
  al Tryz.prog 49 W Dv (W1 o vs.length c id) (fun e st=>e = .ret∧∃ g,st=aq 49 g [(6,iN (pos vs id)),(7,.bool (fnd vs id))] []):=by
 refine al.seq (Q1:=fun x st=>x = .normal∧∃ g,st=WX o vs.length c id g) (al.aJ oY follows 1 _ _ _ _ (V1 o vs.length c id) Met.nil az.nil aA.nil Wz rfl rfl (ct ho _) fun g=>⟨rfl,g,rfl⟩) ?_ (fun x st hne hq=>absurd hq.1 hne)
 rintro st ⟨-,g,rfl⟩;refine al.seq (Q1:=fun x st=>x = .normal∧∃ g,st=ON o vs.length c id g) (al.aJ oY follows 1 _ _ _ _ (V2 o vs.length c id g) Met.nil az.nil aA.nil WB rfl rfl (ct ho _) fun g=>⟨rfl,g,rfl⟩) ?_ (fun x st hne hq=>absurd hq.1 hne)
 rintro st ⟨-,g,rfl⟩;refine al.seq (Q1:=fun x st=>x = .normal∧∃ g,st=Ju o vs.length c id 0 vs.length g) (al.aJ oY follows 1 _ _ _ _ (V3 o vs.length c id g) Met.nil az.nil aA.nil WC rfl rfl (ct ho _) fun g=>⟨rfl,g,rfl⟩) ?_ (fun x st hne hq=>absurd hq.1 hne)
 rintro st ⟨-,g,rfl⟩;have hrow':∀ {h:Nat},h<vs.length→eG (heapOf ([o] ++ [.dead]) aE) 0 vs:=fun hh=>by
  rcases hrow with h | ⟨ty,ro,h⟩
  ·rw [h] at hh; simp at hh
  ·exact .of (ty:=ty) (ro:=ro) (by rw [av,h]; rfl)
 refine al.seq (Q1:=fun x st=>x = .normal∧∃ g,st=Ju o vs.length c id (pos vs id) (pos vs id) g) ?_ ?_ (fun x st hne hq=>absurd hq.1 hne)
 ·refine al.block ?_
  refine al.loop (fun k st=>∃ i j g,i≤j∧j≤vs.length∧k=j-i∧(∀ k x,k<i→vs[k]? = some x→decide (x.id<id)=true)∧(∀ k x,j≤k→vs[k]? = some x→decide (x.id<id)=false)∧st=Ju o vs.length c id i j g) ?_ (k:=vs.length)
    ⟨0,vs.length,g,Nat.zero_le _,Nat.le_refl _,rfl,fun k x hk=>absurd hk (Nat.not_lt_zero _),fun k x hk hx=>(by rw [List.getElem?_eq_none hk] at hx; cases hx),rfl⟩
  rintro k st ⟨i,j,g,hij,hj,hk,hlo,hhi,rfl⟩;cases h17:decide (Int.ofNat i<Int.ofNat j) with
  | false =>
    refine al.aJ oY follows 1 _ _ _ _ (V8 o vs.length c id i j g) (Met.cons (ag h17) Met.nil) az.nil aA.nil N9 rfl rfl (ct ho _) fun g'=>.inr ⟨by simp,?_⟩
    show (if (0:Nat)=0 then _ else _)
    rw [if_pos rfl];have hii:i=j:=by simp at h17; omega
    subst hii;have hp:pos vs id=i:=ph hj hlo fun x hx=>hhi i x (Nat.le_refl _) hx
    exact ⟨rfl,g',by rw [hp]⟩
  | true =>
    have hlt:i<j:=by simpa using h17
    obtain ⟨x,hx⟩:∃ x,vs[(i+j) / 2]? = some x:=⟨_,List.getElem?_eq_getElem (by omega)⟩
    have hh:(i+j) / 2<vs.length:=by omega
    have hmet:Met (E7 o vs.length c i j ((i+j) / 2) x):=Met.cons (ag h17) (Met.cons (xU (by omega)) (Met.cons (Gd (by omega)) (Met.cons zK (Met.cons (ot (by omega)) (Met.cons (bP hh) (Met.cons (bT (hrow' hh) hx) Met.nil))))))
    cases h31:decide (x.id<id) with
    | true =>
      refine al.aJ oY follows 1 _ _ _ _ (V4 o vs.length c id i j ((i+j) / 2) x g) (cR hmet (Met.cons (ag (by rw [tS,h31])) (Met.cons (bq (by omega)) Met.nil))) az.nil aA.nil N9 rfl rfl (ct ho _) fun g'=>.inl ⟨rfl,j-((i+j) / 2+1),by omega,(i+j) / 2+1,j,g',by omega,hj,rfl,fun k y hk hy=>?_,hhi,rfl⟩
      by_cases hke:k=(i+j) / 2
      ·subst hke; rw [hx] at hy; cases hy; exact h31
      ·have:=hs k ((i+j) / 2) y x (by omega) hy hx
       have h2:=of_decide_eq_true h31
       exact decide_eq_true (by omega)
    | false =>
      refine al.aJ oY follows 1 _ _ _ _ (V5 o vs.length c id i j ((i+j) / 2) x g) (cR hmet (Met.cons (ag (by rw [tS,h31])) Met.nil)) az.nil aA.nil N9 rfl rfl (ct ho _) fun g'=>.inl ⟨rfl,(i+j) / 2-i,by omega,i,(i+j) / 2,g',by omega,by omega,rfl,hlo,fun k y hk hy=>?_,rfl⟩
      by_cases hke:k=(i+j) / 2
      ·subst hke; rw [hx] at hy; cases hy; exact h31
      ·have:=hs ((i+j) / 2) k x y (by omega) hx hy
       have h2:=of_decide_eq_false h31
       exact decide_eq_false (by omega)
 ·rintro st ⟨-,g,rfl⟩
  have hple:=yB vs id
  cases PL:decide (Int.ofNat (pos vs id)<Int.ofNat vs.length) with
  | false =>
    have hf:fnd vs id=false:=by
      have:vs.length≤pos vs id:=by simp at PL; omega
      unfold fnd; rw [List.getElem?_eq_none this]
    rw [hf];exact al.aJ oY follows 0 _ _ _ _ (V6 o vs.length c id (pos vs id) (pos vs id) g) (Met.cons (ag PL) Met.nil) az.nil aA.nil SA rfl rfl (dI _) fun g'=>⟨rfl,g',rfl⟩
  | true =>
    have hlt:pos vs id<vs.length:=by simpa using PL
    obtain ⟨x,hx⟩:∃ x,vs[pos vs id]? = some x:=⟨_,List.getElem?_eq_getElem hlt⟩
    have hf:fnd vs id=(dS x.id id==0):=by unfold fnd; rw [hx,sx]
    rw [hf];exact al.aJ oY follows 0 _ _ _ _ (V7 o vs.length c id (pos vs id) (pos vs id) x _ g) (Met.cons (ag PL) (Met.cons (bP hlt) (Met.cons (bT (hrow' hlt) hx) (Met.cons rfl Met.nil)))) az.nil aA.nil SA rfl rfl (dI _) fun g'=>⟨rfl,g',rfl⟩
theorem TR.uniq{us vs:List aa}{s:Value}{hp:Hp}(h1:TR us s hp)(h2:TR vs s hp):us=vs:=by
 obtain ⟨b,c,o,rfl,hb,_,hr⟩:=h1;obtain ⟨b',c',o',e,hb',_,hr'⟩:=h2;unfold af at e;simp only [Value.slice.injEq,Option.some.injEq,Addr.mk.injEq,and_true] at e;obtain ⟨rfl,hl,-⟩:=e;rw [hb] at hb'; cases hb';have inj:∀ {us vs:List aa},aK us=aK vs→us=vs:=by
  intro us;induction us with
  | nil=>intro vs h; cases vs with
    | nil=>rfl
    | cons v vs=>simp [aK,vc] at h
  | cons u us ih=>intro vs h; cases vs with
    | nil=>simp [aK,vc] at h
    | cons v vs =>
      simp only [aK,vc,List.flatMap_cons,List.cons_append,List.nil_append,List.cons.injEq,Value.int.injEq,Value.bool.injEq,true_and] at h;obtain ⟨a1,a2,a3,a4,a5,a6,a7,h⟩:=h;have:=ih h
      subst this;cases u; cases v;simp_all
 rcases hr with h | ⟨ty,ro,h⟩
 ·subst h
  exact (List.eq_nil_of_length_eq_zero hl.symm).symm
 ·rcases hr' with h' | ⟨ty',ro',h'⟩
  ·subst h'
   exact List.eq_nil_of_length_eq_zero hl
  ·rw [h] at h'
   injection h' with _ h2 _
   exact inj h2
def TN(vs:List aa)(s:Value)(hp:Hp):Prop:=s=ay∧vs = []∨TR vs s hp
theorem TN.uniq{us vs:List aa}{s:Value}{hp:Hp}(h1:TN us s hp)(h2:TN vs s hp):us=vs:=by
 rcases h1 with ⟨rfl,rfl⟩ | h1
 ·rcases h2 with ⟨-,rfl⟩ | h2
  ·rfl
  ·exact h2.not_nil.elim
 ·rcases h2 with ⟨rfl,rfl⟩ | h2
  ·exact h1.not_nil.elim
  ·exact h1.uniq h2
open Classical in
noncomputable def atRow(P:List aa→Prop)(k:List aa→aD):aD:=fun args hp=>match args with
 | s::_=>if h:∃ vs,TN vs s hp∧vs.length<1000000∧P vs then k h.choose args hp else none
 | _=>none
theorem fI{f:FuncId}{P:List aa→Prop}{k:List aa→aD}(h:∀ vs,vs.length<1000000→P vs→ax Tryz.prog f (k vs)):ax Tryz.prog f (atRow P k):=by
 intro args hp v hp' he hk;unfold atRow at he;split at he
 case h_2=>cases he
 split at he
 ·rename_i hx
  exact h _ hx.choose_spec.2.1 hx.choose_spec.2.2 _ _ _ _ he hk
 ·cases he
theorem iY{P:List aa→Prop}{k:List aa→aD}{vs:List aa}{s:Value}{r:List Value}{hp:Hp}(h:TN vs s hp)(hn:vs.length<1000000)(hp':P vs):atRow P k (s::r) hp=k vs (s::r) hp:=by
 unfold atRow;have hx:∃ vs,TN vs s hp∧vs.length<1000000∧P vs:=⟨vs,h,hn,hp'⟩
 simp only;rw [dif_pos hx];rw [hx.choose_spec.1.uniq h]
open Classical in
noncomputable def g80(vs:List aa):aD:=fun args hp=>match args with
 | [s,.int .i64 id,f]=>if f=Fv∧TR vs s hp then some (.tuple #[iN (pos vs id),.bool (fnd vs id)],heapOf ([] ++ [.dead]) hp) else none
 | _=>none
theorem Us(vs:List aa)(hn:vs.length<1000000)(hs:mI vs):ax Tryz.prog 163 (g80 vs):=dP follows Tryz.func163 Ll (by kernel_rfl) fun args hp v hp' h hk=>by
 unfold g80 at h;rw [ntmps80];split at h
 case h_2=>cases h
 rename_i s id f;split at h
 case isFalse=>cases h
 rename_i hT;cases h;obtain ⟨rfl,b,c,o,rfl,hb,hi,hr⟩:=hT;refine ⟨[b],[],[],rfl,rfl,rfl,rfl,fun b' hb'=>?_,rfl,(by simp),fun W=>?_⟩
 ·have:b'=b:=by simpa using hb'
  subst this;exact ⟨o,hb,bb hi⟩
 ·have e1 : [af b vs.length c,.int .i64 id,Fv].map (sh3 [b] 0) = [af 0 vs.length c,.int .i64 id,Fv]:=by simp [sh3,sh2,sh1,j8,idxOf,af,Fv]
  rw [e1,iq hb hi];refine al.mono (BD (roBlk o) (cm hi) vs hn hs (e8 hr) c id W) fun e st q=>?_
  obtain ⟨rfl,g,rfl⟩:=q;exact ⟨.inr rfl,rfl,_,XU _ _ _ g,rfl,(fun b hb=>by cases hb),by simp [sh3,sh2,sh1,iN],rfl⟩
noncomputable def S6(vs:List aa):Ext:=fv (cS Tryz.prog []) [(163,g80 vs)]
theorem Ko(vs:List aa)(hn:vs.length<1000000)(hs:mI vs):ExtOk Tryz.prog (S6 vs):=bE (aT .nil) (.cons (Us vs hn hs) .nil)
noncomputable def Td(vs:List aa):aH:=aCall Tryz.prog (S6 vs) 5
theorem LZ(vs:List aa)(hn:vs.length<1000000)(hs:mI vs):ba Tryz.prog (Td vs):=aP (Ko vs hn hs) follows 5
noncomputable def Ms:Code:=(Tryz.f139.body).getD .skip
theorem Lh:Tryz.f139.body=some Ms:=by kernel_rfl
theorem ntmps62:Tryz.f139.ntmps=11:=by kernel_rfl
theorem X7:codeSafe Tryz.prog 11 Ms=true:=by kernel_rfl
theorem XR(v u:Value)(O:List ae)(g:Nat→Value):retVal Tryz.prog Tryz.f139 (aq 11 g [(4,v),(5,u)] O)=some (.tuple #[v,u]):=by kernel_rfl
theorem XX(o:ae)(vs:List aa)(n c p:Nat)(id:Int)(b:Bool):(execE Tryz.prog (Td vs) [] [(8,.tuple #[iN p,.bool b],[.dead])] [] 20 Ms ⟨tmsOf [af 0 n c,.int .i64 id] 0 .leaf,heapOf [o,.dead] aE,[]⟩).map (fun y=>(look2 0 [] [4,5] (y.1,y.2.1),y.2.2)) =
 some ((.ret,[],[(4,iN p),(5,.bool b)],true),[],[(Td vs 163 [af 0 n c,.int .i64 id,Fv] (heapOf [o,.dead] aE),(.tuple #[iN p,.bool b],heapOf [.dead] (heapOf [o,.dead] aE)))],[]):=by kernel_rfl
open Classical in
theorem call80{vs:List aa}{s:Value}{hp:Hp}{id:Int}(h:TR vs s hp):Td vs 163 [s,.int .i64 id,Fv] hp=some (.tuple #[iN (pos vs id),.bool (fnd vs id)],heapOf [.dead] hp):=by
 show aCall Tryz.prog (S6 vs) 5 163 _ _=_
 rw [aCall];have hE:S6 vs 163=some fun _ args h=>g80 vs args h:=rfl
 rw [hE];show (if Fv=Fv∧TR vs s hp then _ else _)=_
 rw [if_pos ⟨rfl,h⟩];rfl
open Classical in
noncomputable def g62(vs:List aa):aD:=fun args hp=>match args with
 | [s,.int .i64 id]=>if TR vs s hp then some (.tuple #[iN (pos vs id),.bool (fnd vs id)],heapOf ([] ++ [.dead]) hp) else none
 | _=>none
theorem PX(vs:List aa)(hn:vs.length<1000000)(hs:mI vs):ax Tryz.prog 139 (g62 vs):=dP follows Tryz.func139 Lh (by kernel_rfl) fun args hp v hp' h hk=>by
 unfold g62 at h;rw [ntmps62];split at h
 case h_2=>cases h
 rename_i s id;split at h
 case isFalse=>cases h
 rename_i hT;cases h;obtain ⟨b,c,o,rfl,hb,hi,hr⟩:=hT;refine ⟨[b],[],[],rfl,rfl,rfl,rfl,fun b' hb'=>?_,rfl,(by simp),fun W=>?_⟩
 ·have:b'=b:=by simpa using hb'
  subst this;exact ⟨o,hb,bb hi⟩
 ·have e1 : [af b vs.length c,.int .i64 id].map (sh3 [b] 0) = [af 0 vs.length c,.int .i64 id]:=by simp [sh3,sh2,sh1,j8,idxOf,af]
  rw [e1,iq hb hi];exact al.aJ (LZ vs hn hs) follows 0 _ _ _ _ (XX (roBlk o) vs vs.length c (pos vs id) id (fnd vs id)) Met.nil (az.cons (call80 ⟨0,c,roBlk o,rfl,by rw [av]; rfl,cm hi,e8 hr⟩) az.nil) aA.nil X7 rfl rfl (dI _)
    fun g=>⟨.inr rfl,rfl,_,XR _ _ _ g,rfl,(fun b hb=>by cases hb),by simp [sh3,sh2,sh1,iN],rfl⟩
noncomputable def GF(vs:List aa):Ext:=fv (cS Tryz.prog [(123,g55)]) [(58,g18 vs),(79,vR vs),(139,g62 vs),(140,gIns)]
noncomputable def AU(vs:List aa):aH:=aCall Tryz.prog (GF vs) 5
noncomputable def Kj:Ext:=cS Tryz.prog [(123,g55)]
theorem GJ:ExtOk Tryz.prog Kj:=by unfold Kj; exact aT (.cons D' .nil)
noncomputable def LL:aH:=aCall Tryz.prog Kj 60
theorem zp:ba Tryz.prog LL:=aP GJ follows 60
noncomputable def qw:Code:=(Tryz.f85.body).getD .skip
theorem CF:Tryz.f85.body=some qw:=by kernel_rfl
theorem ntmps27:Tryz.f85.ntmps=42:=by kernel_rfl
theorem N6:codeSafe Tryz.prog 42 qw=true:=by kernel_rfl
theorem QY(v u:Value)(O:List ae)(g:Nat→Value):retVal Tryz.prog Tryz.f85 (aq 42 g [(6,v),(7,u)] O)=some (.tuple #[v,u]):=by kernel_rfl
def OF(x:aa):List Value:=[.bool x.n,.int .i64 x.t,.int .i64 x.o,.int .i64 x.r,.int .i64 x.d,.int .i64 x.i]
def zeroV(id:Int):aa:=⟨id,false,0,0,0,0,0⟩
def rV(o:ae)(y:aa):Hp:=heapOf [o,.dead,.cells 23 (OF y) false] aE
section
variable (vs ws us:List aa) (o:ae) (n c p:Nat) (y:aa)
abbrev Ox:St:=⟨tmsOf [af 0 n c,.int .i64 y.id,cx y] 0 .leaf,heapOf [o,.dead] aE,[]⟩
noncomputable def U2(v:Value):js:=(AU vs 58 [af 0 n c] (rV o y),(v,heapOf [.dead] (rV o y)))
theorem Vn:(execE Tryz.prog (AU vs) [(17,.bool false)] [(12,iN 0,[.dead])] [] 40 qw (Ox o n c y)).map (fun z=>(look2 0 [] [6,7] (z.1,z.2.1),z.2.2)) =
 some ((.ret,[],[(6,ay),(7,iN 1)],true),[(some (.bool (cU y)),.bool false)],[U2 vs o n c y (iN 0)],[]):=by kernel_rfl
noncomputable def Xf:js:=(AU vs 79 [af 0 n c] (heapOf [.dead] (rV o y)),(aW 4 n,heapOf [ab vs,.dead] (heapOf [.dead] (rV o y))))
noncomputable def H5(vs:List aa)(o:ae)(y:aa):Hp:=heapOf [.dead] (heapOf [ab vs,.dead] (heapOf [.dead] (rV o y)))
noncomputable def Xg(b:Bool):js:=(AU vs 139 [aW 4 n,.int .i64 y.id] (heapOf [ab vs,.dead] (heapOf [.dead] (rV o y))),(.tuple #[iN p,.bool b],H5 vs o y))
theorem Vo:(execE Tryz.prog (AU vs) [(17,.bool true),(39,pb 4 (p*7))] [(12,iN 0,[.dead]),(21,aW 4 n,[ab vs,.dead]),(25,.tuple #[iN p,.bool true],[.dead])] [(1040,undef,[.put 4 (ab ws)])] 40 qw (Ox o n c y)).map (fun z=>(look2 1 [4] [6,7] (z.1,z.2.1),z.2.2)) =
 some ((.ret,[ab ws],[(6,aW 0 n),(7,iN 0)],true),[(some (.bool (cU y)),.bool true),hU 4 n 22 p],[U2 vs o n c y (iN 0),Xf vs o n c y,Xg vs o n p y true],
  [((aStore Tryz.prog (H5 vs o y).get 23 (pb 4 (p*7+1)) (cx y)).map fun es=>(undef,es),(undef,[.put 4 (ab ws)]))]):=by kernel_rfl
noncomputable def BY(vs:List aa)(o:ae)(y:aa):Hp:=(H5 vs o y).push (.cells 78 (vc (zeroV y.id)) false)
noncomputable def PM(vs us:List aa)(o:ae)(y:aa):Hp:=heapOf ([ab us] ++ [.dead]) (killL [4,7] (BY vs o y))
theorem Vp:(execE Tryz.prog (AU vs) [(17,.bool true),(39,pb 8 (p*7))] [(12,iN 0,[.dead]),(21,aW 4 n,[ab vs,.dead]),(25,.tuple #[iN p,.bool false],[.dead])]
  [(35,bB 8 0 (n+1) 23,[.put 4 .dead,.put 7 .dead,.push (ab us),.push .dead]),(1040,undef,[.put 8 (ab ws)])] 40 qw (Ox o n c y)).map (fun z=>(look2 1 [8] [6,7] (z.1,z.2.1),z.2.2)) =
 some ((.ret,[ab ws],[(6,af 0 (n+1) 23),(7,iN 0)],true),[(some (.bool (cU y)),.bool true),hU 8 (n+1) 23 p],
  [U2 vs o n c y (iN 0),Xf vs o n c y,Xg vs o n p y false,(AU vs 140 [aW 4 n,iN p,af 7 1 22] (BY vs o y),(bB 8 0 (n+1) 23,PM vs us o y))],
  [((aStore Tryz.prog (PM vs us o y).get 23 (pb 8 (p*7+1)) (cx y)).map fun es=>(undef,es),(undef,[.put 8 (ab ws)]))]):=by kernel_rfl
theorem Vq:(execE Tryz.prog LL [(17,.bool false)] [] [] 40 qw ⟨tmsOf [ay,.int .i64 y.id,cx y] 0 .leaf,heapOf [.dead] aE,[]⟩).map (fun z=>(look2 0 [] [6,7] (z.1,z.2.1),z.2.2)) =
 some ((.ret,[],[(6,ay),(7,iN 1)],true),[(some (.bool (cU y)),.bool false)],[],[]):=by kernel_rfl
theorem Vr:(execE Tryz.prog LL [(17,.bool true)] [] [] 40 qw ⟨tmsOf [ay,.int .i64 y.id,cx y] 0 .leaf,heapOf [.dead] aE,[]⟩).map (fun z=>(look2 1 [3] [6,7] (z.1,z.2.1),z.2.2)) =
 some ((.ret,[ab [y]],[(6,aW 0 1),(7,iN 0)],true),[(some (.bool (cU y)),.bool true)],[],[]):=by kernel_rfl
end
def cG(vs:List aa)(y:aa):List aa:=bif fnd vs y.id then vs.set (pos vs y.id) y else vs.take (pos vs y.id)++y::vs.drop (pos vs y.id)
theorem q9(vs:List aa)(h:aF vs=true):mI vs:=by
 have step:∀ (i:Nat) (u v:aa),vs[i]? = some u→vs[i+1]? = some v→u.id<v.id:=by
  intro i u v hu hv;have hi:i+1<vs.length:=(List.getElem?_eq_some_iff.1 hv).1
  have:=List.all_eq_true.1 h (i+1) (List.mem_range.2 hi)
  unfold rightAt at this;rw [hv] at this;simp only [hu,Bool.and_eq_true,decide_eq_true_eq] at this;exact this.2
 intro i j;induction j with
 | zero=>intro u v hij; omega
 | succ j ih =>
   intro u v hij hu hv;by_cases e:i=j
   ·subst e; exact step i u v hu hv
   ·have hj:j<vs.length:=by have:=(List.getElem?_eq_some_iff.1 hv).1; omega
    have h1:=ih u vs[j] (by omega) hu (List.getElem?_eq_getElem hj)
    have h2:=step j vs[j] v (List.getElem?_eq_getElem hj) hv
    omega
theorem qy{vs:List aa}{id:Int}(h:fnd vs id=true):∃ x,vs[pos vs id]? = some x∧x.id=id:=by
 unfold fnd at h;split at h
 ·rename_i x hx; exact ⟨x,hx,by simpa using h⟩
 ·cases h
theorem FD{vs:List aa}{y:aa}:(cG vs y).length=bif fnd vs y.id then vs.length else vs.length+1:=by
 unfold cG;have:=yB vs y.id
 cases fnd vs y.id with
 | true=>simp
 | false=>simp; omega
theorem Aw{us:List aa}{p b:Nat}{x y:aa}{get:Nat→Option ae}(hg:get b=some (ab us))(hx:us[p]? = some x)(hid:x.id=y.id) :
  ((aStore Tryz.prog get 23 (pb b (p*7+1)) (cx y)).map fun es=>(undef,es))=some (undef,[.put b (ab (us.set p y))]):=by
 have hi:p<us.length:=(List.getElem?_eq_some_iff.1 hx).1
 have hcell:cellsL (cx y)=OF y:=rfl
 have hput:=p8 (k:=1) (y:=y) (ns:=OF y) hx (by simp [OF]) (fun j hj=>by
  match j,hj with
  | 0,_=>simp [vc,hid]
  | 1,_=>rfl
  | 2,_=>rfl
  | 3,_=>rfl
  | 4,_=>rfl
  | 5,_=>rfl
  | 6,_=>rfl)
 unfold ab at hg;unfold pb;simp only [aStore,hg,uP,hcell];rw [if_pos]
 ·rw [hput]; rfl
 ·rw [Bool.and_eq_true,Bool.and_eq_true]
  refine ⟨⟨rfl,rfl⟩,decide_eq_true ?_⟩
  rw [bU]; omega
theorem fq(us vs:List aa):aK (us++vs)=aK us++aK vs:=by unfold aK; rw [List.flatMap_append]
theorem ti{vs:List aa}{p:Nat}(h:p≤vs.length):(aK vs).take (p*7)=aK (vs.take p):=by
 have e:aK vs=aK (vs.take p)++aK (vs.drop p):=by rw [← fq,List.take_append_drop]
 rw [e,List.take_left' (by rw [bU,List.length_take]; omega)]
theorem tg{vs:List aa}{p:Nat}(h:p≤vs.length):(aK vs).drop (p*7)=aK (vs.drop p):=by
 have e:aK vs=aK (vs.take p)++aK (vs.drop p):=by rw [← fq,List.take_append_drop]
 rw [e,List.drop_left' (by rw [bU,List.length_take]; omega)]
theorem D1{hp:Hp}{b b2 n p c2:Nat}{vs:List aa}{z:aa}(hb:hp.get b=some (ab vs))(hb2:hp.get b2=some (.cells 78 (vc z) false))(hne:Nat.beq b b2=false)(hn:n=vs.length)(hp':p≤n)(hl:n<1000000) :
  gIns [aW b n,iN p,af b2 1 c2] hp=some (bB hp.sz 0 (n+1) 23,heapOf ([ab (vs.take p++z::vs.drop p)] ++ [.dead]) (killL [b,b2] hp)):=by
 subst hn;unfold ab at hb;have hcond:(Nat.beq 78 78&&Nat.beq (aK vs).length (vs.length*7)&&Nat.beq (vc z).length 7&&Nat.ble p vs.length&&Nat.blt vs.length 1000000&&(aK vs).all inert&&(vc z).all inert&&(aK vs).all isOne&&(vc z).all isOne)=true:=by
  rw [bU,dG,rR];simp only [Nat.beq_refl,Bool.true_and,Bool.and_true];rw [show Nat.ble p vs.length=true from Nat.ble_eq_true_of_le hp',show Nat.blt vs.length 1000000=true by simpa [Nat.blt_eq] using hl]
  rfl
 unfold gIns aW iN af;simp only [hb,hb2,hne,hcond,show Nat.beq 22 22=true from rfl]
 congr 3
 unfold ab;rw [ti hp',tg hp',fq];have:aK (z::vs.drop p)=vc z++aK (vs.drop p):=rfl
 rw [this,List.append_assoc]
section
variable {vs:List aa} {s:Value} {hp:Hp}
theorem LG(h:TR vs s hp):AU vs 58 [s] hp=some (mg (aF vs),heapOf [.dead] hp):=by
 show aCall Tryz.prog (GF vs) 5 58 _ _=_
 rw [aCall];have hE:GF vs 58=some fun _ args h=>g18 vs args h:=rfl
 rw [hE];exact ub (.inr h)
theorem LH{b c:Nat}{o:ae}(hb:hp.get b=some o)(hi:aB o=true)(hr:vs = []∨∃ ty ro,o = .cells ty (aK vs) ro):AU vs 79 [af b vs.length c] hp=some (aW hp.sz vs.length,heapOf [ab vs,.dead] hp):=by
 show aCall Tryz.prog (GF vs) 5 79 _ _=_
 rw [aCall];have hE:GF vs 79=some fun _ args h=>vR vs args h:=rfl
 rw [hE];exact pQ hb hi hr
open Classical in
theorem LI{id:Int}(h:TR vs s hp):AU vs 139 [s,.int .i64 id] hp=some (.tuple #[iN (pos vs id),.bool (fnd vs id)],heapOf [.dead] hp):=by
 show aCall Tryz.prog (GF vs) 5 139 _ _=_
 rw [aCall];have hE:GF vs 139=some fun _ args h=>g62 vs args h:=rfl
 rw [hE];show (if TR vs s hp then _ else _)=_
 rw [if_pos h];rfl
theorem LJ(args:List Value):AU vs 140 args hp=gIns args hp:=by
 show aCall Tryz.prog (GF vs) 5 140 _ _=_
 rw [aCall];rfl
end
theorem Ki(vs:List aa)(hn:vs.length<1000000)(hs:mI vs):ExtOk Tryz.prog (GF vs):=bE (aT (.cons D' .nil)) (.cons (H' vs hn) (.cons (Ia vs hn) (.cons (PX vs hn hs) (.cons Um .nil))))
noncomputable def GH(vs:List aa):Ext:=fv (cS Tryz.prog [(123,g55)]) [(58,g18 vs)]
theorem GI(vs:List aa)(hn:vs.length<1000000):ExtOk Tryz.prog (GH vs):=bE (aT (.cons D' .nil)) (.cons (H' vs hn) .nil)
noncomputable def LK(vs:List aa):aH:=aCall Tryz.prog (GH vs) 5
theorem Vs(vs:List aa)(o:ae)(n c:Nat)(y:aa):(execE Tryz.prog (LK vs) [] [(12,iN 1,[.dead])] [] 40 qw (Ox o n c y)).map (fun z=>(look2 0 [] [6,7] (z.1,z.2.1),z.2.2)) =
 some ((.ret,[],[(6,ay),(7,iN 1)],true),[],[(LK vs 58 [af 0 n c] (rV o y),(iN 1,heapOf [.dead] (rV o y)))],[]):=by kernel_rfl
theorem Hg{vs:List aa}{s:Value}{hp:Hp}(h:TR vs s hp):LK vs 58 [s] hp=some (mg (aF vs),heapOf [.dead] hp):=by
 show aCall Tryz.prog (GH vs) 5 58 _ _=_
 rw [aCall];have hE:GH vs 58=some fun _ args h=>g18 vs args h:=rfl
 rw [hE];exact ub (.inr h)
def Jr(vs:List aa)(y:aa)(e:Exit)(st:St):Prop :=
 e = .ret∧((aF vs&&cU y)=true∧(∃ g,st=aq 42 g [(6,af 0 (cG vs y).length (bif fnd vs y.id then 22 else 23)),(7,iN 0)] [ab (cG vs y)])∨(aF vs&&cU y)=false∧∃ g,st=aq 42 g [(6,ay),(7,iN 1)] [])
theorem FE(o:ae)(ho:aB o=true)(vs:List aa)(hn:vs.length<1000000)(hrow:vs = []∨∃ ty ro,o = .cells ty (aK vs) ro)(c:Nat)(y:aa)(W:bg) :
  al Tryz.prog 42 W qw (Ox o vs.length c y) (Jr vs y):=by
 have g0:(rV o y).get 0=some o:=by unfold rV; rw [av]; rfl
 have hT0:TR vs (af 0 vs.length c) (rV o y):=⟨0,c,o,rfl,g0,ho,hrow⟩
 cases hr:aF vs with
 | false =>
   have k:=Hg hT0
   rw [hr] at k;exact al.aJ (aP (GI vs hn) follows 5) follows 0 _ _ _ _ (Vs vs o vs.length c y) Met.nil (az.cons k az.nil) aA.nil N6 rfl rfl (dI _) fun g=>⟨rfl,.inr ⟨by rw [hr]; rfl,g,rfl⟩⟩
 | true =>
   have hs:=q9 vs hr
   have hc:ba Tryz.prog (AU vs):=aP (Ki vs hn hs) follows 5
   have k1:=LG hT0
   rw [hr] at k1;cases h17:cU y with
   | false =>
     exact al.aJ hc follows 0 _ _ _ _ (Vn vs o vs.length c y) (Met.cons (ag h17) Met.nil) (az.cons k1 az.nil) aA.nil N6 rfl rfl (dI _) fun g=>⟨rfl,.inr ⟨by rw [hr,h17]; rfl,g,rfl⟩⟩
   | true =>
     have sz0:(rV o y).sz=3:=rfl
     have g0':(heapOf [.dead] (rV o y)).get 0=some o:=by rw [heapOf_get,sz0,if_pos (by omega),g0]
     have k2:=LH (vs:=vs) (c:=c) g0' ho hrow
     have sz1:(heapOf [.dead] (rV o y)).sz=4:=rfl
     have g4:(heapOf [ab vs,.dead] (heapOf [.dead] (rV o y))).get 4=some (ab vs):=by rw [heapOf_get,sz1,if_neg (by omega)]; rfl
     have hT4:TR vs (aW 4 vs.length) (heapOf [ab vs,.dead] (heapOf [.dead] (rV o y))):=⟨4,22,ab vs,rfl,g4,ah vs,.inr ⟨78,false,rfl⟩⟩
     have k3:=LI (id:=y.id) hT4
     have sz2:(heapOf [ab vs,.dead] (heapOf [.dead] (rV o y))).sz=6:=rfl
     have g4':(H5 vs o y).get 4=some (ab vs):=by unfold H5; rw [heapOf_get,sz2,if_pos (by omega),g4]
     have hple:=yB vs y.id
     have hfix:∀ (us:List aa) (i:Nat),i<1→∀ o',[ab us][i]? = some o'→dH 0 o':=fun us=>bu us []
     cases hf:fnd vs y.id with
     | true =>
       obtain ⟨x,hx,hid⟩:=qy hf;have hlt:pos vs y.id<vs.length:=(List.getElem?_eq_some_iff.1 hx).1
       rw [hf] at k3;refine al.aJ hc follows 1 _ _ _ _ (Vo vs (vs.set (pos vs y.id) y) o vs.length c (pos vs y.id) y) (Met.cons (ag h17) (Met.cons (bP hlt) Met.nil)) (az.cons k1 (az.cons k2 (az.cons k3 az.nil))) (aA.cons (Aw g4' hx hid) aA.nil) N6 rfl rfl (hfix _) fun g=>⟨rfl,.inl ⟨by rw [hr,h17]; rfl,g,?_⟩⟩
       have e1:cG vs y=vs.set (pos vs y.id) y:=by unfold cG; rw [hf]; rfl
       rw [e1,List.length_set,hf];rfl
     | false =>
       rw [hf] at k3;have hus:((vs.take (pos vs y.id)++zeroV y.id::vs.drop (pos vs y.id))).length=vs.length+1:=by simp; omega
       have hget:(vs.take (pos vs y.id)++zeroV y.id::vs.drop (pos vs y.id))[pos vs y.id]? = some (zeroV y.id):=by
         rw [List.getElem?_append_right (by simp; omega)]
         have:pos vs y.id-(vs.take (pos vs y.id)).length=0:=by simp; omega
         rw [this]; rfl
       have szS2:(H5 vs o y).sz=7:=rfl
       have g34:(BY vs o y).get 4=some (ab vs):=by unfold BY; rw [Hp.cA,szS2,if_neg (by omega),g4']
       have g37:(BY vs o y).get 7=some (.cells 78 (vc (zeroV y.id)) false):=by unfold BY; rw [Hp.cA,szS2,if_pos rfl]
       have k4:AU vs 140 [aW 4 vs.length,iN (pos vs y.id),af 7 1 22] (BY vs o y)=some (bB 8 0 (vs.length+1) 23,PM vs (vs.take (pos vs y.id)++zeroV y.id::vs.drop (pos vs y.id)) o y):=by
         rw [LJ];exact D1 g34 g37 rfl rfl hple hn
       have szS3:(BY vs o y).sz=8:=rfl
       have g48:(PM vs (vs.take (pos vs y.id)++zeroV y.id::vs.drop (pos vs y.id)) o y).get 8=some (ab (vs.take (pos vs y.id)++zeroV y.id::vs.drop (pos vs y.id))):=by
         unfold PM;rw [heapOf_get,c8,szS3,if_neg (by omega)]
         rfl
       refine al.aJ hc follows 1 _ _ _ _ (Vp vs ((vs.take (pos vs y.id)++zeroV y.id::vs.drop (pos vs y.id)).set (pos vs y.id) y) (vs.take (pos vs y.id)++zeroV y.id::vs.drop (pos vs y.id)) o vs.length c (pos vs y.id) y) (Met.cons (ag h17) (Met.cons (bP (by omega)) Met.nil))
         (az.cons k1 (az.cons k2 (az.cons k3 (az.cons k4 az.nil)))) (aA.cons (Aw g48 hget rfl) aA.nil) N6 rfl rfl (hfix _) fun g=>⟨rfl,.inl ⟨by rw [hr,h17]; rfl,g,?_⟩⟩
       have e1:cG vs y=(vs.take (pos vs y.id)++zeroV y.id::vs.drop (pos vs y.id)).set (pos vs y.id) y:=by
         unfold cG;rw [hf,List.set_append_right _ _ (by simp; omega)]
         have:pos vs y.id-(vs.take (pos vs y.id)).length=0:=by simp; omega
         rw [this];rfl
       rw [e1,List.length_set,hus,hf];rfl
theorem set_nil(y:aa)(W:bg):al Tryz.prog 42 W qw ⟨tmsOf [ay,.int .i64 y.id,cx y] 0 .leaf,heapOf [.dead] aE,[]⟩
   (fun e st=>e = .ret∧(cU y=true∧(∃ g,st=aq 42 g [(6,aW 0 1),(7,iN 0)] [ab [y]])∨cU y=false∧∃ g,st=aq 42 g [(6,ay),(7,iN 1)] [])):=by
 cases h17:cU y with
 | false=>exact al.aJ zp follows 0 _ _ _ _ (Vq y) (Met.cons (ag h17) Met.nil) az.nil aA.nil N6 rfl rfl (dI _) fun g=>⟨rfl,.inr ⟨rfl,g,rfl⟩⟩
 | true=>exact al.aJ zp follows 1 _ _ _ _ (Vr y) (Met.cons (ag h17) Met.nil) az.nil aA.nil N6 rfl rfl (bu [y] []) fun g=>⟨rfl,.inl ⟨rfl,g,rfl⟩⟩
def setC(s:Value)(vs:List aa)(id:Int):Nat:=match s with
 | .slice none _ _=>22
 | _=>bif fnd vs id then 22 else 23
open Classical in
noncomputable def g27(vs:List aa):aD:=fun args hp=>match args with
 | [s,.int .i64 id,.agg cs]=>match cs.toList with
   | [.bool n,.int .i64 t,.int .i64 o,.int .i64 r,.int .i64 d,.int .i64 i] =>
     if TN vs s hp then (match aF vs&&cU ⟨id,n,t,o,r,d,i⟩ with
       | true=>some (.tuple #[af hp.sz (cG vs ⟨id,n,t,o,r,d,i⟩).length (setC s vs id),iN 0],heapOf ([ab (cG vs ⟨id,n,t,o,r,d,i⟩)] ++ [.dead]) hp)
       | false=>some (.tuple #[ay,iN 1],heapOf ([] ++ [.dead]) hp))
     else none
   | _=>none
 | _=>none
open Classical in
theorem Mw{vs:List aa}{s:Value}{hp:Hp}(y:aa)(h:TN vs s hp):g27 vs [s,.int .i64 y.id,cx y] hp=match aF vs&&cU y with
  | true=>some (.tuple #[af hp.sz (cG vs y).length (setC s vs y.id),iN 0],heapOf [ab (cG vs y),.dead] hp)
  | false=>some (.tuple #[ay,iN 1],heapOf [.dead] hp):=by
 show (if TN vs s hp then _ else _)=_
 rw [if_pos h];rfl
theorem uD{N:Nat}{us:List aa}{v:Value}{t:Nat}{L:List (Nat×Value)}{g:Nat→Value}:(aq N g L [ab us]).hp.get 0=some (ab us):=by
 show (heapOf _ aE).get 0=_
 rw [av]; rfl
theorem uw{B:Nat}{us:List aa}{hp:Hp}(h:hp.get 0=some (ab us)) : [ab us]=cV [0] B hp:=by
 simp only [cV,List.map_cons,List.map_nil,h,Option.getD_some];exact congrArg (fun z=>[z]) (dz (o:=ab us) (ah _) [0] B).symm
theorem Uh(vs:List aa)(hn:vs.length<1000000):ax Tryz.prog 85 (g27 vs):=dP follows Tryz.func85 CF (by kernel_rfl) fun args hp v hp' h hk=>by
 unfold g27 at h;rw [ntmps27];split at h
 case h_2=>cases h
 rename_i s id cs;split at h
 case h_2=>cases h
 rename_i n t o r d i hcs;obtain rfl:=cO hcs;generalize hy:(⟨id,n,t,o,r,d,i⟩:aa)=y at h;have ea : .int .i64 id=Value.int .i64 y.id:=by rw [← hy]
 have eh:Value.agg [.bool n,.int .i64 t,.int .i64 o,.int .i64 r,.int .i64 d,.int .i64 i].toArray=cx y:=by rw [← hy]; rfl
 have eid:y.id=id:=by rw [← hy]
 rw [ea,eh];split at h
 case isFalse=>cases h
 rename_i hT;have okB:∀ {st:St} (us:List aa),st.hp.get 0=some (ab us)→∀ b∈[0],∃ o,st.hp.get b=some o∧c9 o=true∧nW o=true:=fun us hg b' hb'=>by
  have:b'=0:=by simpa using hb'
  subst this;exact ⟨_,hg,fp (ah _),rfl⟩
 rcases hT with ⟨rfl,rfl⟩ | hT
 ·have e1 : [ay,.int .i64 y.id,cx y].map (sh3 [] 0) = [ay,.int .i64 y.id,cx y]:=by simp [sh3,sh2,sh1,ay,cx]
  have hsv:cG [] y = [y]:=rfl
  split at h
  ·rename_i hro
   cases h;refine ⟨[],[0],[ab (cG [] y)],rfl,rfl,rfl,rfl,(fun b hb=>by cases hb),rfl,(by simp),fun W=>?_⟩
   rw [e1];refine al.mono (set_nil y W) fun e st q=>?_
   obtain ⟨rfl,⟨-,g,rfl⟩ | ⟨h2,-⟩⟩:=q
   ·have hg:=uD (N:=42) (us:=[y]) (v:=ay) (t:=0) (L:=[(6,aW 0 1),(7,iN 0)]) (g:=g)
    refine ⟨.inr rfl,rfl,_,QY _ _ _ g,rfl,okB [y] hg,?_,?_⟩
    ·simp [sh3,sh2,sh1,j8,idxOf,aW,af,setC,ay,hsv,iN]
    ·rw [hsv]; exact uw hg
   ·rw [h2,Bool.and_false] at hro; cases hro
  ·rename_i hro
   cases h;refine ⟨[],[],[],rfl,rfl,rfl,rfl,(fun b hb=>by cases hb),rfl,(by simp),fun W=>?_⟩
   rw [e1];refine al.mono (set_nil y W) fun e st q=>?_
   obtain ⟨rfl,⟨h2,-⟩ | ⟨-,g,rfl⟩⟩:=q
   ·rw [h2,show aF []=true from rfl] at hro; cases hro
   ·exact ⟨.inr rfl,rfl,_,QY _ _ _ g,rfl,(fun b hb=>by cases hb),by simp [sh3,sh2,sh1,ay,iN],rfl⟩
 ·obtain ⟨b,c,ob,rfl,hb,hi,hr⟩:=hT
  have e1 : [af b vs.length c,.int .i64 y.id,cx y].map (sh3 [b] 0) = [af 0 vs.length c,.int .i64 y.id,cx y]:=by simp [sh3,sh2,sh1,j8,idxOf,af,cx]
  have hst:∀ b'∈[b],∃ o,hp.get b'=some o∧cj o=true:=fun b' hb'=>by
    have:b'=b:=by simpa using hb'
    subst this;exact ⟨ob,hb,bb hi⟩
  split at h
  ·rename_i hro
   cases h;refine ⟨[b],[0],[ab (cG vs y)],rfl,rfl,rfl,rfl,hst,rfl,(by simp),fun W=>?_⟩
   rw [e1,iq hb hi];refine al.mono (FE (roBlk ob) (cm hi) vs hn (e8 hr) c y W) fun e st q=>?_
   obtain ⟨rfl,⟨-,g,rfl⟩ | ⟨h2,-⟩⟩:=q
   ·have hg:=uD (N:=42) (us:=cG vs y) (v:=ay) (t:=0) (L:=[(6,af 0 (cG vs y).length (bif fnd vs y.id then 22 else 23)),(7,iN 0)]) (g:=g)
    refine ⟨.inr rfl,rfl,_,QY _ _ _ g,rfl,okB _ hg,?_,uw hg⟩
    simp [sh3,sh2,sh1,j8,idxOf,af,setC,iN,eid]
   ·rw [h2] at hro; cases hro
  ·rename_i hro
   cases h;refine ⟨[b],[],[],rfl,rfl,rfl,rfl,hst,rfl,(by simp),fun W=>?_⟩
   rw [e1,iq hb hi];refine al.mono (FE (roBlk ob) (cm hi) vs hn (e8 hr) c y W) fun e st q=>?_
   obtain ⟨rfl,⟨h2,-⟩ | ⟨-,g,rfl⟩⟩:=q
   ·rw [h2] at hro; cases hro
   ·exact ⟨.inr rfl,rfl,_,QY _ _ _ g,rfl,(fun b hb=>by cases hb),by simp [sh3,sh2,sh1,ay,iN],rfl⟩
abbrev Up(vs:List aa):Prop:=vs.Pairwise fun u v=>u.id<v.id
theorem re{vs:List aa}:mI vs↔Up vs:=by
 constructor
 ·intro h
  refine List.pairwise_iff_getElem.2 fun i j hi hj hij=>h i j _ _ hij (List.getElem?_eq_getElem hi) (List.getElem?_eq_getElem hj)
 ·intro h i j u v hij hu hv
  obtain ⟨hi,rfl⟩:=List.getElem?_eq_some_iff.1 hu
  obtain ⟨hj,rfl⟩:=List.getElem?_eq_some_iff.1 hv
  exact List.pairwise_iff_getElem.1 h i j hi hj hij
theorem dw{vs:List aa}:aF vs=true↔(∀ x∈vs,cU x=true)∧Up vs:=by
 constructor
 ·intro h
  refine ⟨fun x hx=>?_,re.1 (q9 vs h)⟩
  obtain ⟨i,hi⟩:=List.mem_iff_getElem?.1 hx;exact Bz h hi
 ·rintro ⟨h1,h2⟩
  have hr:=re.2 h2
  refine oI fun j hj=>?_
  have hx:vs[j]? = some vs[j]:=List.getElem?_eq_getElem hj
  unfold rightAt;rw [hx];simp only [h1 _ (List.getElem_mem hj),Bool.true_and];cases j with
  | zero=>rfl
  | succ j =>
    have hu:vs[j]? = some vs[j]:=List.getElem?_eq_getElem (by omega)
    simp only [hu];exact decide_eq_true (hr j (j+1) _ _ (by omega) hu hx)
def w9(vs:List aa)(y:aa):List aa:=vs.filter (fun x=>decide (x.id<y.id))++y::vs.filter (fun x=>decide (y.id<x.id))
theorem uL{y:aa}:∀ {vs:List aa},Up vs→cG vs y=w9 vs y
 | [],_=>rfl
 | u::vs,h=>by
   have ih:=uL (y:=y) (List.pairwise_cons.1 h).2
   have hu:=(List.pairwise_cons.1 h).1
   rcases Int.lt_trichotomy u.id y.id with h1 | h1 | h1
   ·have hp:pos (u::vs) y.id=pos vs y.id+1:=by unfold pos; rw [List.takeWhile_cons,if_pos (by simpa using h1)]; rfl
    have hf:fnd (u::vs) y.id=fnd vs y.id:=by unfold fnd; rw [hp]; rfl
    have e1:cG (u::vs) y=u::cG vs y:=by
      unfold cG;rw [hp,hf];cases fnd vs y.id <;> rfl
    rw [e1,ih];unfold w9;rw [List.filter_cons_of_pos (by simpa using h1),List.filter_cons_of_neg (by simp; omega)]
    rfl
   ·have hp:pos (u::vs) y.id=0:=by unfold pos; rw [List.takeWhile_cons,if_neg (by simp; omega)]; rfl
    have hf:fnd (u::vs) y.id=true:=by unfold fnd; rw [hp]; simp [h1]
    have e1:cG (u::vs) y=y::vs:=by unfold cG; rw [hp,hf]; rfl
    rw [e1];unfold w9;rw [List.filter_cons_of_neg (by simp; omega),List.filter_cons_of_neg (by simp; omega),List.filter_eq_nil_iff.2 (fun x hx=>by have:=hu x hx; simp; omega),List.filter_eq_self.2 (fun x hx=>by have:=hu x hx; simp; omega)]
    rfl
   ·have hp:pos (u::vs) y.id=0:=by unfold pos; rw [List.takeWhile_cons,if_neg (by simp; omega)]; rfl
    have hf:fnd (u::vs) y.id=false:=by unfold fnd; rw [hp]; simp; omega
    have e1:cG (u::vs) y=y::u::vs:=by unfold cG; rw [hp,hf]; rfl
    rw [e1];unfold w9;rw [List.filter_cons_of_neg (by simp; omega),List.filter_cons_of_pos (by simpa using h1),List.filter_eq_nil_iff.2 (fun x hx=>by have:=hu x hx; simp; omega),List.filter_eq_self.2 (fun x hx=>by have:=hu x hx; simp; omega)]
    rfl
theorem IQ{vs:List aa}{y:aa}(h:Up vs):Up (w9 vs y):=by
 unfold w9;refine List.pairwise_append.2 ⟨h.filter _,List.pairwise_cons.2 ⟨fun x hx=>?_,h.filter _⟩,fun u hu v hv=>?_⟩
 ·simpa using (List.mem_filter.1 hx).2
 ·have h1:u.id<y.id:=by simpa using (List.mem_filter.1 hu).2
  rcases List.mem_cons.1 hv with rfl | hv
  ·exact h1
  ·have h2:y.id<v.id:=by simpa using (List.mem_filter.1 hv).2
   omega
theorem wD{vs:List aa}{y x:aa}:x∈w9 vs y↔x=y∨(x∈vs∧x.id≠y.id):=by
 unfold w9;simp only [List.mem_append,List.mem_cons,List.mem_filter,decide_eq_true_eq];constructor
 ·rintro (⟨h1,h2⟩ | rfl | ⟨h1,h2⟩)
  ·exact .inr ⟨h1,by omega⟩
  ·exact .inl rfl
  ·exact .inr ⟨h1,by omega⟩
 ·rintro (rfl | ⟨h1,h2⟩)
  ·exact .inr (.inl rfl)
  ·rcases Int.lt_trichotomy x.id y.id with h | h | h
   ·exact .inl ⟨h1,h⟩
   ·exact absurd h h2
   ·exact .inr (.inr ⟨h1,h⟩)
theorem yG{vs:List aa}{y:aa}(h:aF vs=true)(hy:cU y=true):aF (cG vs y)=true:=by
 obtain ⟨h1,h2⟩:=dw.1 h;rw [uL h2];refine dw.2 ⟨fun x hx=>?_,IQ h2⟩
 rcases wD.1 hx with rfl | ⟨hx,-⟩
 ·exact hy
 ·exact h1 x hx
theorem nn{vs:List aa}{y x:aa}(h:aF vs=true):x∈cG vs y↔x=y∨(x∈vs∧x.id≠y.id):=by
 rw [uL (dw.1 h).2,wD]
noncomputable def S9:aD:=atRow (fun _=>True) g27
theorem P5:ax Tryz.prog 85 S9:=fI fun vs hn _=>Uh vs hn
section
variable (zs xs ys:List aa) (o:ae) (s:Value) (n:Nat) (y z:aa) (O1 O2:List ae) (e f:Nat) (u1 u2:Value)
abbrev B5:St:=⟨tmsOf [s,.int .i64 y.id,.int .i64 z.id,cx y,cx z] 0 .leaf,heapOf [o,.dead] aE,[]⟩
def Xp(us:List aa):List ae:=[ab us,.dead]
end
theorem TR.ext{vs:List aa}{s:Value}{hp:Hp}(h:TR vs s hp)(hk:hp.ok)(O:List ae):TR vs s (heapOf O hp):=by
 obtain ⟨b,c,o,rfl,hb,hi,hr⟩:=h;exact ⟨b,c,o,rfl,by rw [heapOf_get,if_pos (cX hk hb),hb],hi,hr⟩
theorem TN.new{vs:List aa}{hp:Hp}{b n c:Nat}(hn:n=vs.length)(hb:hp.get b=some (ab vs)):TN vs (af b n c) hp:=by
 subst hn;exact .inr ⟨b,c,ab vs,rfl,hb,ah vs,.inr ⟨78,false,rfl⟩⟩
theorem zI{O:List ae}{hp:Hp}{b:Nat}{x:ae}(hk:hp.ok)(h:hp.get b=some x):(heapOf O hp).get b=some x:=by
 rw [heapOf_get,if_pos (cX hk h),h]
end Go.Proofs.YtgeoommlmddgpaaGreat.LtA
namespace Go.Proofs.YtgeoommlmddgpaaGreat.LtA
open Go Go.Proofs Go.Proofs.YtgeoommlmddgpaaGreat.AI Go.RowKit Go.ChangeShapes
theorem uh{f:FuncId}{fn:Func}{c:Code}{N:Nat}(hf:Tryz.prog.funcs[f]? = some fn)(hb:fn.body=some c)(hN:fn.ntmps=N)(W:World){args:Array Value}{args0:List Value}{hp:Hp}{m:BM}(hl:args0.length≤N)(hk:hp.ok)(sim:cg m hp.get W)(ro:∀ b,rw? hp.get b=false)
  (ra:aC m hp.get args0 args.toList) (h:∀ W,al Tryz.prog N W c ⟨tmsOf args0 0 .leaf,hp,[]⟩ (fun e st=>(e = .normal∨e = .ret)∧st.df = []∧retVal Tryz.prog fn st=some (.bool true))) :
  Calls Tryz.prog f args W fun e W'=>e = .returned (.bool true)∧Below W.heap.size W W':=by
 have h':=h (bg.shut W)
 rw [← hN] at h';refine (JN (R:=fun v _=>v = .bool true) hf hb (by rw [hN]; exact hl) hk sim ro ra (al.mono h' fun e st q=>⟨q.1,q.2.1,_,q.2.2,rfl⟩)).mono fun e w' hh=>?_
 obtain ⟨v',v,st',m',rfl,rfl,rv,_,_,hb,_⟩:=hh;exact ⟨by rw [rv.of_bool],hb.below⟩
end Go.Proofs.YtgeoommlmddgpaaGreat.LtA
namespace Go.Proofs.YtgeoommlmddgpaaGreat.LtA
open Go Go.Proofs Go.Proofs.YtgeoommlmddgpaaGreat.AI Go.RowKit
theorem Fm{o:ae}{vs:List aa}(h:Holds vs o):Holds vs (roBlk o):=by
 rcases h with h | ⟨ty,ro,rest,rfl⟩
 ·exact .inl h
 ·exact .inr ⟨ty,true,rest,rfl⟩
def TP(vs:List aa)(s:Value)(hp:Hp):Prop:=∃ b c o,s=af b vs.length c∧hp.get b=some o∧aB o=true∧Holds vs o
theorem TR.tp{vs:List aa}{s:Value}{hp:Hp}(h:TR vs s hp):TP vs s hp:=by
 obtain ⟨b,c,o,h1,h2,h3,h4⟩:=h;exact ⟨b,c,o,h1,h2,h3,.of h4⟩
theorem rQ{us:List aa}:∀ {vs:List aa},aK us=aK vs→us=vs:=by
 induction us with
 | nil=>intro vs h; cases vs with
   | nil=>rfl
   | cons v vs=>simp [aK,vc] at h
 | cons u us ih=>intro vs h; cases vs with
   | nil=>simp [aK,vc] at h
   | cons v vs =>
     simp only [aK,vc,List.flatMap_cons,List.cons_append,List.nil_append,List.cons.injEq,Value.int.injEq,Value.bool.injEq,true_and] at h;obtain ⟨a1,a2,a3,a4,a5,a6,a7,h⟩:=h;have:=ih h
     subst this;cases u; cases v;simp_all
theorem TP.not_nil{vs:List aa}{hp:Hp}(h:TP vs ay hp):False:=by
 obtain ⟨b,c,o,h,_⟩:=h;simp [af,ay] at h
theorem TP.uniq{us vs:List aa}{s:Value}{hp:Hp}(h1:TP us s hp)(h2:TP vs s hp):us=vs:=by
 obtain ⟨b,c,o,rfl,hb,_,hr⟩:=h1;obtain ⟨b',c',o',e,hb',_,hr'⟩:=h2;unfold af at e;simp only [Value.slice.injEq,Option.some.injEq,Addr.mk.injEq,and_true] at e;obtain ⟨rfl,hl,-⟩:=e;rw [hb] at hb'; cases hb';rcases hr with h | ⟨ty,ro,rest,h⟩
 ·subst h
  exact (List.eq_nil_of_length_eq_zero hl.symm).symm
 ·rcases hr' with h' | ⟨ty',ro',rest',h'⟩
  ·subst h'
   exact List.eq_nil_of_length_eq_zero hl
  ·rw [h] at h'
   injection h' with _ h2 _
   exact rQ (List.append_inj h2 (by rw [bU,bU,hl])).1
def TQ(vs:List aa)(s:Value)(hp:Hp):Prop:=s=ay∧vs = []∨TP vs s hp
theorem TN.tq{vs:List aa}{s:Value}{hp:Hp}(h:TN vs s hp):TQ vs s hp:=by
 rcases h with h | h
 ·exact .inl h
 ·exact .inr h.tp
theorem TQ.uniq{us vs:List aa}{s:Value}{hp:Hp}(h1:TQ us s hp)(h2:TQ vs s hp):us=vs:=by
 rcases h1 with ⟨rfl,rfl⟩ | h1
 ·rcases h2 with ⟨-,rfl⟩ | h2
  ·rfl
  ·exact h2.not_nil.elim
 ·rcases h2 with ⟨rfl,rfl⟩ | h2
  ·exact h1.not_nil.elim
  ·exact h1.uniq h2
open Classical in
noncomputable def atP(k:List aa→aD):aD:=fun args hp=>match args with
 | s::_=>if h:∃ vs,TQ vs s hp∧vs.length<1000000 then k h.choose args hp else none
 | _=>none
theorem CB{f:FuncId}{k:List aa→aD}(h:∀ vs,vs.length<1000000→ax Tryz.prog f (k vs)):ax Tryz.prog f (atP k):=by
 intro args hp v hp' he hk;unfold atP at he;split at he
 case h_2=>cases he
 split at he
 ·rename_i hx
  exact h _ hx.choose_spec.2 _ _ _ _ he hk
 ·cases he
theorem K5{k:List aa→aD}{vs:List aa}{s:Value}{r:List Value}{hp:Hp}(h:TQ vs s hp)(hn:vs.length<1000000):atP k (s::r) hp=k vs (s::r) hp:=by
 unfold atP;have hx:∃ vs,TQ vs s hp∧vs.length<1000000:=⟨vs,h,hn⟩
 simp only;rw [dif_pos hx];rw [hx.choose_spec.1.uniq h]
noncomputable def c0:aH:=aCall Tryz.prog (cS Tryz.prog []) 5
theorem jW:ba Tryz.prog c0:=aP (aT .nil) follows 5
noncomputable def HO:Code:=(Tryz.f25.body).getD .skip
noncomputable def LM:Code:=sL HO
noncomputable def LN:Code:=sL (sL (sR HO))
noncomputable def C7:Code:=nQ (jm (sR (sL (sR HO))))
noncomputable def LO:Code:=sR (sR HO)
noncomputable abbrev qq:Code:=.seq LM (.seq (.seq LN (.block 0 (.loop C7))) LO)
theorem Lc:Tryz.f25.body=some qq:=by kernel_rfl
theorem ntmps33:Tryz.f25.ntmps=22:=by kernel_rfl
theorem Wm:codeSafe Tryz.prog 22 LM=true:=by kernel_rfl
theorem Wo:codeSafe Tryz.prog 22 LN=true:=by kernel_rfl
theorem N7:codeSafe Tryz.prog 22 C7=true:=by kernel_rfl
theorem Wp:codeSafe Tryz.prog 22 LO=true:=by kernel_rfl
def hB(x:aa):ae:=.cells 23 (OF x) false
theorem XP(x:aa)(b:Bool)(g:Nat→Value):retVal Tryz.prog Tryz.f25 (aq 22 g [(4,pb 0 0),(5,.bool b)] [hB x])=some (.tuple #[cx x,.bool b]):=by kernel_rfl
section
variable (o:ae) (n c:Nat) (id:Int)
abbrev WZ:St:=⟨tmsOf [af 0 n c,.int .i64 id] 0 .leaf,heapOf [o,.dead] aE,[]⟩
abbrev WW(g:Nat→Value):St:=aq 22 g [(0,af 0 n c),(1,.int .i64 id),(4,pb 1 0)] [o,hB (zeroV 0)]
abbrev Pb(i:Nat)(g:Nat→Value):St:=aq 22 g [(1,.int .i64 id),(4,pb 1 0),(8,af 0 n c),(9,iN n),(10,iN i)] [o,hB (zeroV 0)]
abbrev W9(g:Nat→Value):St:=aq 22 g [(4,pb 0 0)] [hB (zeroV 0)]
theorem VC:(execE Tryz.prog c0 [] [] [] 10 LM (WZ o n c id)).map (fun y=>(look2 1 [0,2] [0,1,4] (y.1,y.2.1),y.2.2))=some ((.normal,[o,hB (zeroV 0)],[(0,af 0 n c),(1,.int .i64 id),(4,pb 1 0)],true),[],[],[]):=by kernel_rfl
theorem VD(g:Nat→Value):(execE Tryz.prog c0 [] [] [] 10 LN (WW o n c id g)).map (fun y=>(look2 1 [0,1] [1,4,8,9,10] (y.1,y.2.1),y.2.2))=some ((.normal,[o,hB (zeroV 0)],[(1,.int .i64 id),(4,pb 1 0),(8,af 0 n c),(9,iN n),(10,iN 0)],true),[],[],[]):=by kernel_rfl
theorem VI(i:Nat)(g:Nat→Value):(execE Tryz.prog c0 [(11,.bool false)] [] [] 20 C7 (Pb o n c id i g)).map (fun y=>(look2 0 [1] [4] (y.1,y.2.1),y.2.2)) =
 some ((.exit 0,[hB (zeroV 0)],[(4,pb 0 0)],true),[(some (.bool (decide (Int.ofNat i<Int.ofNat n))),.bool false)],[],[]):=by kernel_rfl
noncomputable def EZ(i:Nat)(x:aa):List di :=
 [(some (.bool (decide (Int.ofNat i<Int.ofNat n))),.bool true),hU 0 n c i,j7 (heapOf ([o,hB (zeroV 0)] ++ [.dead]) aE).get 78 0 (i*7) (.agg ⟨vc x⟩)]
def J4(i:Nat)(x:aa):List (Tmp×Value):=[(11,.bool true),(12,pb 0 (i*7)),(13,.agg ⟨vc x⟩)]
theorem VF(i:Nat)(x:aa)(g:Nat→Value):(execE Tryz.prog c0 (J4 i x ++ [(17,.bool false),(20,iN (i+1))]) [] [] 20 C7 (Pb o n c id i g)).map (fun y=>(look2 1 [0,1] [1,4,8,9,10] (y.1,y.2.1),y.2.2)) =
 some ((.normal,[o,hB (zeroV 0)],[(1,.int .i64 id),(4,pb 1 0),(8,af 0 n c),(9,iN n),(10,iN (i+1))],true),EZ o n c i x ++ [(some (.bool (x.id==id)),.bool false),dJ i],[],[]):=by kernel_rfl
theorem VG(i:Nat)(x:aa)(g:Nat→Value):(execE Tryz.prog c0 (J4 i x ++ [(17,.bool true)]) [] [] 20 C7 (Pb o n c id i g)).map (fun y=>(look2 0 [1] [4,5] (y.1,y.2.1),y.2.2)) =
 some ((.ret,[hB x],[(4,pb 0 0),(5,.bool true)],true),EZ o n c i x ++ [(some (.bool (x.id==id)),.bool true)],[],[]):=by kernel_rfl
theorem VE(g:Nat→Value):(execE Tryz.prog c0 [] [] [] 20 LO (W9 g)).map (fun y=>(look2 0 [0] [4,5] (y.1,y.2.1),y.2.2)) =
 some ((.ret,[hB (zeroV 0)],[(4,pb 0 0),(5,.bool false)],true),[],[],[]):=by kernel_rfl
theorem VH:(execQ Tryz.prog c0 [] 40 qq ⟨tmsOf [ay,.int .i64 id] 0 .leaf,heapOf [.dead] aE,[]⟩).map (fun y=>(look2 0 [1] [4,5] (y.1,y.2.1),y.2.2)) =
 some ((.ret,[hB (zeroV 0)],[(4,pb 0 0),(5,.bool false)],true),[]):=by kernel_rfl
end
def sb(id:Int)(x:aa):Bool:=x.id==id
def aG(vs:List aa)(id:Int):Option aa:=vs.find? (sb id)
def H4(vs:List aa)(id:Int):Value:=.tuple #[cx ((aG vs id).getD (zeroV 0)),.bool (aG vs id).isSome]
theorem ua{α : Type}{p : α→Bool}:∀ {vs:List α} {i:Nat} {x : α},vs[i]? = some x→p x=true→(∀ j y,j<i→vs[j]? = some y→p y=false)→vs.find? p=some x
 | [],i,x,h,_,_=>by simp at h
 | v::vs,0,x,h,hp,_=>by
   simp at h; subst h;rw [List.find?_cons_of_pos hp]
 | v::vs,i+1,x,h,hp,hb=>by
   rw [List.find?_cons_of_neg (by rw [hb 0 v (by omega) rfl]; simp)]
   exact ua (by simpa using h) hp fun j y hj hy=>hb (j+1) y (by omega) (by simpa using hy)
theorem HX{α : Type}{p : α→Bool}{vs:List α}(h:∀ j y,j<vs.length→vs[j]? = some y→p y=false):vs.find? p=none:=by
 refine List.find?_eq_none.2 fun x hx=>?_
 obtain ⟨i,hi⟩:=List.mem_iff_getElem?.1 hx;rw [h i x (List.getElem?_eq_some_iff.1 hi).1 hi]; simp
def zb(vs:List aa)(id:Int)(e:Exit)(st:St):Prop:=e = .ret∧∃ g,st=aq 22 g [(4,pb 0 0),(5,.bool (aG vs id).isSome)] [hB ((aG vs id).getD (zeroV 0))]
theorem rU{i:Nat}(h:i+1≤9223372036854775807):(some (Value.int .i64 (wrapF .i64 (Int.ofNat i+1))))=some (iN (i+1)):=by
 have e:Int.ofNat i+1=Int.ofNat (i+1):=rfl
 rw [e,wrap64 (by have:=Int.natCast_nonneg (i+1); simp only [Int.ofNat_eq_natCast]; omega) (by simp only [Int.ofNat_eq_natCast]; omega)]
 rfl
theorem MA(o:ae)(ho:aB o=true)(vs:List aa)(hn:vs.length≤9223372036854775807)(hrow:Holds vs o)(c:Nat)(id:Int)(W:bg) :
  al Tryz.prog 22 W qq (WZ o vs.length c id) (zb vs id):=by
 refine al.seq (Q1:=fun x st=>x = .normal∧∃ g,st=WW o vs.length c id g) (al.aJ jW follows 1 _ _ _ _ (VC o vs.length c id) Met.nil az.nil aA.nil Wm rfl rfl (ct ho _) fun g=>⟨rfl,g,rfl⟩) ?_ (fun x st hne hq=>absurd hq.1 hne)
 rintro st ⟨-,g,rfl⟩;let Q2:Exit→St→Prop:=fun x st=>(x = .normal∧aG vs id=none∧∃ g,st=W9 g)∨(x = .ret∧zb vs id x st)
 refine al.seq (Q1:=Q2) ?_ ?_ ?_
 ·refine al.seq (Q1:=fun x st=>x = .normal∧∃ g,st=Pb o vs.length c id 0 g) (al.aJ jW follows 1 _ _ _ _ (VD o vs.length c id g) Met.nil az.nil aA.nil Wo rfl rfl (ct ho _) fun g=>⟨rfl,g,rfl⟩) ?_ (fun x st hne hq=>absurd hq.1 hne)
  rintro st ⟨-,g,rfl⟩;refine al.block ?_
  refine al.loop (fun k st=>∃ i g,i≤vs.length∧k=vs.length-i∧(∀ j y,j<i→vs[j]? = some y→sb id y=false)∧st=Pb o vs.length c id i g) ?_ (k:=vs.length) ⟨0,g,Nat.zero_le _,rfl,fun j y hj=>absurd hj (Nat.not_lt_zero _),rfl⟩
  rintro k st ⟨i,g,hi,hk,hno,rfl⟩;cases h11:decide (Int.ofNat i<Int.ofNat vs.length) with
  | false =>
    refine al.aJ jW follows 0 _ _ _ _ (VI o vs.length c id i g) (Met.cons (ag h11) Met.nil) az.nil aA.nil N7 rfl rfl (dI _) fun g'=>.inr ⟨by simp,?_⟩
    show (if (0:Nat)=0 then Q2 .normal _ else Q2 (.exit 0) _)
    rw [if_pos rfl];have hii:i=vs.length:=by simp at h11; omega
    subst hii;exact .inl ⟨rfl,HX hno,g',rfl⟩
  | true =>
    have hlt:i<vs.length:=by simpa using h11
    obtain ⟨x,hx⟩:∃ x,vs[i]? = some x:=⟨_,List.getElem?_eq_getElem hlt⟩
    have hmet:Met (EZ o vs.length c i x):=Met.cons (ag h11) (Met.cons (bP hlt) (Met.cons (bT (IM (yD hrow (List.mem_of_getElem? hx))) hx) Met.nil))
    cases h17:sb id x with
    | false =>
      refine al.aJ jW follows 1 _ _ _ _ (VF o vs.length c id i x g) (cR hmet (Met.cons (ag h17) (Met.cons (rU (by omega)) Met.nil))) az.nil aA.nil N7 rfl rfl (ct ho _) fun g'=>.inl ⟨rfl,vs.length-(i+1),by omega,i+1,g',by omega,rfl,fun j y hj hy=>?_,rfl⟩
      rcases Nat.lt_succ_iff_lt_or_eq.1 hj with h' | h'
      ·exact hno j y h' hy
      ·subst h'; rw [hx] at hy; cases hy; exact h17
    | true =>
      refine al.aJ jW follows 0 _ _ _ _ (VG o vs.length c id i x g) (cR hmet (Met.cons (ag h17) Met.nil)) az.nil aA.nil N7 rfl rfl (dI _) fun g'=>.inr ⟨by simp,.inr ⟨rfl,rfl,g',?_⟩⟩
      have hf:aG vs id=some x:=ua hx h17 hno
      rw [hf]; rfl
 ·rintro st (⟨-,hf,g,rfl⟩ | ⟨h,-⟩)
  ·refine al.aJ jW follows 0 _ _ _ _ (VE g) Met.nil az.nil aA.nil Wp rfl rfl (dI _) fun g'=>⟨rfl,g',?_⟩
   rw [hf]; rfl
  ·cases h
 ·rintro x st hne (⟨h,-⟩ | ⟨-,h⟩)
  ·exact absurd h hne
  ·exact h
theorem X6:codeSafe Tryz.prog 22 qq=true:=by kernel_rfl
theorem get_nil(id:Int)(W:bg):al Tryz.prog 22 W qq ⟨tmsOf [ay,.int .i64 id] 0 .leaf,heapOf [.dead] aE,[]⟩ (zb [] id) :=
 al.piece jW follows 0 _ _ _ _ (VH id) Met.nil X6 rfl rfl rfl (dI _) fun g=>⟨rfl,g,rfl⟩
open Classical in
noncomputable def g33(vs:List aa):aD:=fun args hp=>match args with
 | [s,.int .i64 id]=>if TQ vs s hp then some (H4 vs id,heapOf ([] ++ [.dead]) hp) else none
 | _=>none
theorem Uk(vs:List aa)(hn:vs.length≤9223372036854775807):ax Tryz.prog 25 (g33 vs):=dP follows Tryz.func25 Lc (by kernel_rfl) fun args hp v hp' h hk=>by
 unfold g33 at h;rw [ntmps33];split at h
 case h_2=>cases h
 rename_i s id;split at h
 case isFalse=>cases h
 rename_i hT;cases h;have fin:∀ {e:Exit} {st:St},zb vs id e st→(e = .normal∨e = .ret)∧st.df = []∧∃ v0,retVal Tryz.prog Tryz.f25 st=some v0∧iz v0=true ∧
   (∀ b∈([]:List Nat),∃ o,st.hp.get b=some o∧c9 o=true∧nW o=true)∧H4 vs id=sh3 [] hp.sz v0∧[]=cV [] hp.sz st.hp:=by
  rintro e st ⟨rfl,g,rfl⟩;exact ⟨.inr rfl,rfl,_,XP _ _ g,rfl,(fun b hb=>by cases hb),by simp [sh3,sh2,sh1,H4,cx],rfl⟩
 rcases hT with ⟨rfl,rfl⟩ | ⟨b,c,o,rfl,hb,hi,hr⟩
 ·refine ⟨[],[],[],rfl,rfl,rfl,rfl,(fun b hb=>by cases hb),rfl,(by simp),fun W=>?_⟩
  have e1 : [ay,.int .i64 id].map (sh3 [] 0) = [ay,.int .i64 id]:=by simp [sh3,sh2,sh1,ay]
  rw [e1];exact al.mono (get_nil id W) fun e st q=>fin q
 ·refine ⟨[b],[],[],rfl,rfl,rfl,rfl,fun b' hb'=>?_,rfl,(by simp),fun W=>?_⟩
  ·have:b'=b:=by simpa using hb'
   subst this;exact ⟨o,hb,bb hi⟩
  ·have e1 : [af b vs.length c,.int .i64 id].map (sh3 [b] 0) = [af 0 vs.length c,.int .i64 id]:=by simp [sh3,sh2,sh1,j8,idxOf,af]
   rw [e1,iq hb hi];exact al.mono (MA (roBlk o) (cm hi) vs hn (Fm hr) c id W) fun e st q=>fin q
noncomputable def nV:aD:=atP g33
theorem Eb:ax Tryz.prog 25 nV:=CB fun vs hn=>Uk vs (by omega)
open Classical in
theorem fy{vs:List aa}{s:Value}{hp:Hp}{id:Int}(h:TQ vs s hp)(hn:vs.length<1000000):nV [s,.int .i64 id] hp=some (H4 vs id,heapOf [.dead] hp):=by
 unfold nV;rw [K5 h hn];show (if TQ vs s hp then _ else _)=_
 rw [if_pos h]; rfl
theorem Dy{P:Program}{f:FuncId}{g g2:aD}(hg:ax P f g)
  (H:∀ args hp v hp2,g2 args hp=some (v,hp2)→hp.ok→∃ dp,g args hp=some (v,dp)∧hp2.ok∧hp2.sz=dp.sz ∧
    ∀ b,hp2.get b=dp.get b∨(hp.sz≤b∧b<dp.sz∧∃ ty L1 L2,dp.get b=some (.cells ty (L1++L2) false)∧hp2.get b=some (.cells ty L1 false))):ax P f g2:=by
 intro args hp v hp2 he hk;obtain ⟨dp,h1,uY,hsz,hcut⟩:=H args hp v hp2 he hk;obtain ⟨wb,hle,hgo⟩:=hg args hp v dp h1 hk;refine ⟨uY,by rw [hsz]; exact hle,fun m h w args' hfr s ra=>?_⟩
 have step:∀ v' w',(∃ m',dV m (aL hp h) w m' (aL dp h) w'∧ak m' (aL dp h) v v')→∃ m',dV m (aL hp h) w m' (aL hp2 h) w'∧ak m' (aL hp2 h) v v':=?_
 ·rcases hgo m h w args' (fun b a c=>hfr b a (by rw [hsz]; exact c)) s ra with ⟨v',w',q1,q2⟩ | ⟨q1,q2⟩
  ·exact .inl ⟨v',w',q1,step v' w' q2⟩
  ·exact .inr ⟨q1,q2.mono fun e w' hh=>by
      obtain ⟨v',h1,h2⟩:=hh;exact ⟨v',h1,step v' w' h2⟩⟩
 rintro v' w' ⟨m',go,rv⟩;have hov:∀ b,aL hp2 h b=aL dp h b∨(hp.sz≤b∧b<dp.sz∧∃ ty L1 L2,aL dp h b=some (.cells ty (L1++L2) false)∧aL hp2 h b=some (.cells ty L1 false)):=by
  intro b;unfold aL;rw [hsz];by_cases hb:b<dp.sz
  ·simp only [if_pos hb]
   rcases hcut b with e | ⟨q1,q2,q3⟩
   ·exact .inl e
   ·exact .inr ⟨q1,q2,q3⟩
  ·exact .inl (by rw [if_neg hb,if_neg hb])
 have hrw:∀ b,rw? (aL hp2 h) b=rw? (aL dp h) b:=fun b=>by
  unfold rw?;rcases hov b with e | ⟨_,_,ty,L1,L2,e1,e2⟩
  ·rw [e]
  ·rw [e1,e2]
 have hlv:∀ b,aV (aL hp2 h) b=aV (aL dp h) b:=fun b=>by
  unfold aV;rcases hov b with e | ⟨_,_,ty,L1,L2,e1,e2⟩
  ·rw [e]
  ·rw [e1,e2]
 have le2:Le m' (aL dp h) m' (aL hp2 h):=⟨fun b hb=>(by
  rcases hov b with e | ⟨_,_,ty,L1,L2,e1,_⟩
  ·rw [e]; exact hb
  ·rw [e1] at hb; cases hb),fun b x hx=>.inr hx⟩
 refine ⟨m',⟨go.le.trans le2,⟨fun b x hx=>?_,fun b b' x x' hx hx' hr hl e=>go.sim.inj b b' x x' hx hx' (by rw [← hrw]; exact hr) (by rw [← hlv]; exact hl) e⟩,go.size,go.new,go.frame,go.un,fun b o hb hm=>?_,fun b o hb=>?_,fun b x hx hr=>go.rwb b x hx (by rw [← hrw]; exact hr),go.os,go.tape,go.output⟩,rv.mono le2⟩
 ·obtain ⟨o,ho,hbr⟩:=go.sim.dom b x hx
  rcases hov b with e | ⟨_,_,ty,L1,L2,e1,e2⟩
  ·exact ⟨o,by rw [e]; exact ho,hbr.mono le2 rfl⟩
  ·rw [e1] at ho; cases ho
   obtain ⟨c,fr,k1,k2,k3,k4,k5⟩:=hbr;refine ⟨_,e2,c,fr,k1,by rw [List.length_append] at k2; omega,k3,fun i v v' p1 p2=>(k4 i v v' (zG p1) p2).mono le2,k5.1,fun h=>by cases h⟩
 ·have:=go.idle b o hb hm
  rcases hov b with e | ⟨q1,q2,_⟩
  ·rw [e]; exact this
  ·have hn:=hfr b q1 (by rw [hsz]; exact q2)
   unfold aL at hb;rw [if_neg (by omega)] at hb
   rw [hn] at hb; cases hb
 ·obtain ⟨o',ho'⟩:=go.ex b o hb
  rcases hov b with e | ⟨_,_,ty,L1,L2,e1,e2⟩
  ·exact ⟨o',by rw [e]; exact ho'⟩
  ·exact ⟨_,e2⟩
theorem yP{m:BM}{h:HG}{w:World}{hp:Hp}(s:cg m (aL hp h) w)(hk:hp.ok){b:Nat}{t1:TypeId}{L:List Value}(h1:hp.get b=some (.cells t1 L false))(i1:L.all inert=true)
  {r δ E:Nat} (hm:m b=some (r,δ,E)):cg (canM m [b]) (heapOf [.cells t1 L false,.dead] aE).get w:=by
 have g1:=bx hk h b _ h1
 obtain ⟨o',ho',hbr⟩:=s.dom b _ hm;rw [g1] at ho'; cases ho';obtain ⟨c,fr,q1,q2,q3,q4,qf5⟩:=hbr;have e0:(heapOf [.cells t1 L false,.dead] aE).get 0=some (.cells t1 L false):=by rw [av]; rfl
 have cM:∀ i x,canM m [b] i=some x→(i=0∧m b=some x):=by
  intro i x hx;unfold canM at hx;match i with
  | 0=>exact ⟨rfl,hx⟩
  | i+1=>simp at hx
 refine ⟨fun i x hx=>?_,fun i i' x x' hx hx' hr hl hxx=>?_⟩
 ·obtain ⟨rfl,hy⟩:=cM i x hx
  rw [hm] at hy; cases hy;exact ⟨_,e0,c,fr,q1,q2,q3,fun i v v' p1 p2=>gE (List.all_eq_true.1 i1 v (List.mem_of_getElem? p1)) (q4 i v v' p1 p2),qf5⟩
 ·obtain ⟨rfl,_⟩:=cM i x hx
  obtain ⟨rfl,_⟩:=cM i' x' hx';rfl
noncomputable def DH:Code:=(Tryz.f141.body).getD .skip
theorem Lj:Tryz.f141.body=some DH:=by kernel_rfl
theorem Xr:codeSafe Tryz.prog 33 DH=true:=by kernel_rfl
theorem ntmps69:Tryz.f141.ntmps=33:=by kernel_rfl
theorem Xn(v:Value)(O:List ae)(g:Nat→Value):retVal Tryz.prog Tryz.f141 (aq 33 g [(6,v)] O)=some v:=by kernel_rfl
section
variable (L L1 L2:List Value) (n c i:Nat)
def Tx:St:=⟨tmsOf [bB 0 0 n c,iN i,iN (i+1)] 0 .leaf,heapOf [.cells 78 L false,.dead] aE,[]⟩
def hD(L:List Value):Hp:=heapOf [.cells 78 L false,.dead] aE
theorem VZ(n1 c1 c2 c3 c4:Nat)(v13:Value):(execE Tryz.prog c0 [(13,v13),(16,.bool false),(22,bB 0 0 i c1),(25,bB 0 ((i+1)*7) (n-(i+1)) c2),(31,bB 0 (n1*7) 1 c3)] []
  [(26,bB 0 0 n1 c4,[.put 0 (.cells 78 L1 false)]),(2031,.tuple #[],[.put 0 (.cells 78 L2 false)])] 60 DH (Tx L n c i)).map (fun y=>(look2 1 [0] [6] (y.1,y.2.1),y.2.2)) =
 some ((.ret,[.cells 78 L2 false],[(6,bB 0 0 n1 c4)],true),
  [(fstV ((aSlice Tryz.prog 24 (bB 0 0 n c) (some (iN i)) (some (iN (i+1))) (some (iN n))).map fun v=>(v,none)),v13),(some (.bool (Int.ofNat i==Int.ofNat (i+1))),.bool false),
   (fstV ((aSlice Tryz.prog 24 (bB 0 0 n c) none (some (iN i)) none).map fun v=>(v,none)),bB 0 0 i c1),(fstV ((aSlice Tryz.prog 24 (bB 0 0 n c) (some (iN (i+1))) none none).map fun v=>(v,none)),bB 0 ((i+1)*7) (n-(i+1)) c2),
   (fstV ((aSlice Tryz.prog 24 (bB 0 0 n1 c4) (some (iN n1)) (some (iN n)) none).map fun v=>(v,none)),bB 0 (n1*7) 1 c3)],[],
  [(aAppend Tryz.prog (hD L).get 2 [24,24] [bB 0 0 i c1,bB 0 ((i+1)*7) (n-(i+1)) c2],(bB 0 0 n1 c4,[.put 0 (.cells 78 L1 false)])),
   (aClear Tryz.prog ((hD L).put 0 (.cells 78 L1 false)).get [24] [bB 0 (n1*7) 1 c3],(.tuple #[],[.put 0 (.cells 78 L2 false)]))]):=by kernel_rfl
theorem V0(c1 c2 c3:Nat)(v13:Value):(execE Tryz.prog c0 [(13,v13),(16,.bool false),(22,bB 0 0 i c1),(25,bB 0 ((i+1)*7) (n-(i+1)) c2),(31,bB 0 (i*7) 1 c3)] []
  [(26,bB 0 0 i c1,[]),(2031,.tuple #[],[.put 0 (.cells 78 L2 false)])] 60 DH (Tx L n c i)).map (fun y=>(look2 1 [0] [6] (y.1,y.2.1),y.2.2)) =
 some ((.ret,[.cells 78 L2 false],[(6,bB 0 0 i c1)],true),
  [(fstV ((aSlice Tryz.prog 24 (bB 0 0 n c) (some (iN i)) (some (iN (i+1))) (some (iN n))).map fun v=>(v,none)),v13),(some (.bool (Int.ofNat i==Int.ofNat (i+1))),.bool false),
   (fstV ((aSlice Tryz.prog 24 (bB 0 0 n c) none (some (iN i)) none).map fun v=>(v,none)),bB 0 0 i c1),(fstV ((aSlice Tryz.prog 24 (bB 0 0 n c) (some (iN (i+1))) none none).map fun v=>(v,none)),bB 0 ((i+1)*7) (n-(i+1)) c2),
   (fstV ((aSlice Tryz.prog 24 (bB 0 0 i c1) (some (iN i)) (some (iN n)) none).map fun v=>(v,none)),bB 0 (i*7) 1 c3)],[],
  [(aAppend Tryz.prog (hD L).get 2 [24,24] [bB 0 0 i c1,bB 0 ((i+1)*7) (n-(i+1)) c2],(bB 0 0 i c1,[])),
   (aClear Tryz.prog (hD L).get [24] [bB 0 (i*7) 1 c3],(.tuple #[],[.put 0 (.cells 78 L2 false)]))]):=by kernel_rfl
end
def mf(x:Nat):Nat:=3*(7+1000000*x)
theorem mW(x:Nat):mf x % 3=0:=by unfold mf; omega
theorem tQ(x:Nat):mf x / 3 / 1000000=x:=by unfold mf; omega
theorem JG(x:Nat):mf x / 3 % 1000000=7:=by unfold mf; omega
theorem oK(x:Nat):spareOf (mf x)=x:=by
 unfold spareOf;rw [mW];exact tQ x
theorem Dj(x n h:Nat):cc (mf x) n h=mf (n+x-h):=by
 unfold cc;have h0:eW (mf x)=0:=mW x
 rw [h0,if_neg (by simp),if_pos rfl,oK]
 unfold wide;rw [JG];rfl
theorem FO{b n c i:Nat}(hi:i<n):∃ v,fstV ((aSlice Tryz.prog 24 (bB b 0 n c) (some (iN i)) (some (iN (i+1))) (some (iN n))).map fun v=>(v,none))=some v:=by
 have h1:(0:Int)≤Int.ofNat n∧Int.ofNat n≤(n:Int):=⟨Int.natCast_nonneg n,by simp⟩
 have h2:(0:Int)≤Int.ofNat (i+1)∧Int.ofNat (i+1)≤(n:Int):=⟨Int.natCast_nonneg _,by simp only [Int.ofNat_eq_natCast]; omega⟩
 have h3:(0:Int)≤Int.ofNat i∧Int.ofNat i≤((i+1:Nat):Int):=⟨Int.natCast_nonneg _,by simp only [Int.ofNat_eq_natCast]; omega⟩
 simp only [aSlice,bB,iN,Tryz.underlying24,kK,bound];rw [if_pos h1];simp only [Int.ofNat_eq_natCast,Int.toNat_natCast] at *;rw [if_pos h2];simp only [Int.toNat_natCast];rw [if_pos h3];exact ⟨_,rfl⟩
theorem rq{b n c l:Nat}(hl:l=n+1)(h:1≤spareOf c):fstV ((aSlice Tryz.prog 24 (bB b 0 n c) (some (iN n)) (some (iN l)) none).map fun v=>(v,none))=some (bB b (n*7) 1 (cc c n l)):=by
 subst hl;have h1:(0:Int)≤Int.ofNat (n+1)∧Int.ofNat (n+1)≤((n+spareOf c:Nat):Int):=⟨Int.natCast_nonneg _,by simp only [Int.ofNat_eq_natCast]; omega⟩
 have h2:(0:Int)≤Int.ofNat n∧Int.ofNat n≤((n+1:Nat):Int):=⟨Int.natCast_nonneg _,by simp only [Int.ofNat_eq_natCast]; omega⟩
 simp only [aSlice,bB,iN,Tryz.underlying24,kK,bound];rw [if_pos h1];simp only [Int.ofNat_eq_natCast,Int.toNat_natCast] at *;rw [if_pos h2];simp [fstV,cc]
theorem HJ{get:Nat→Option ae}{L A B C D:List Value}{n i k y c2:Nat}(h0:get 0=some (.cells 78 L false))(e1:L=A++B++C)(e2:eF L ((i+1)*7) (k*7)=some D)(hA:A.length=i*7)(hB:B.length=k*7)(hD:D.length=k*7)(oD:D.all isOne=true)(hk:0<k)(hy:k≤y)(hn:i+k<1000000) :
  aAppend Tryz.prog get 2 [24,24] [bB 0 0 i (mf y),bB 0 ((i+1)*7) k c2]=some (bB 0 0 (i+k) (mf (y-k)),[.put 0 (.cells 78 (A++D++C) false)]):=by
 obtain ⟨ii,hi,h7,pC⟩:=mj;obtain ⟨z,hz,hzl⟩:=oP;have hsrc:aSrc Tryz.prog get 7 z (.slice 78) (bB 0 ((i+1)*7) k c2)=some (D,k):=by
  unfold aSrc;simp only [bB,srcLen,srcCells,h0];rw [if_neg (by omega),if_neg (by omega),e2]
  rfl
 have hold:eF L 0 (i*7)=some A:=by
  rw [e1];have:=vX (A:=[]) (B:=A) (C:=B++C) rfl hA
  simpa using this
 have hlen:L.length=i*7+k*7+C.length:=by rw [e1]; simp [hA,hB]; omega
 unfold aAppend;simp only [Tryz.underlying24,hi,hz,h7,pC,hzl];rw [if_neg (by decide)]
 simp only [hsrc,oD,hD];rw [if_neg (by simp)]
 simp only [bB];rw [if_neg (by omega),if_neg (by omega)]
 simp only [h0,hold];rw [if_neg (by rw [tQ]; omega),if_neg (by have:=mW y; omega),if_pos ⟨mW y,trivial,by rw [hlen]; omega⟩]
 rw [tQ,JG,e1,Nat.zero_add,qW hA (by omega)]
 rfl
noncomputable def z7:List Value:=(tzero Tryz.prog 78).getD []
theorem Jk:tzero Tryz.prog 78=some z7:=by kernel_rfl
theorem Gt:z7.length=7:=by kernel_rfl
theorem xC:z7.all inert=true:=by kernel_rfl
theorem sy{get:Nat→Option ae}{A C:List Value}{k c3:Nat}(h0:get 0=some (.cells 78 (A++C) false))(hA:A.length=k*7)(hC:C.length=7) :
  aClear Tryz.prog get [24] [bB 0 (k*7) 1 c3]=some (.tuple #[],[.put 0 (.cells 78 (A++z7) false)]):=by
 unfold aClear;simp only [bB,Tryz.underlying24];rw [if_neg (by omega)]
 simp only [Jk,h0];have er:repL z7 1=z7:=by show z7 ++ []=z7; rw [List.append_nil]
 rw [er,if_pos (by simp [Gt,hA,hC])]
 have:=qW (A:=A) (B:=C) (C:=[]) (D:=z7) hA (by rw [Gt,hC])
 rw [List.append_nil,List.append_nil] at this;rw [this]
def O4(R:List Value)(n:Nat)(e:Exit)(st:St):Prop:=(e = .normal∨e = .ret)∧st.df = []∧∃ c v0,v0=bB 0 0 (n-1) c∧retVal Tryz.prog Tryz.f141 st=some v0∧st.hp.get 0=some (.cells 78 R false)
theorem Mp{L:List Value}{n i x:Nat}{W:bg}(hL:L.length=n*7)(iL:L.all inert=true)(oL:L.all isOne=true)(hn:n<1000000)(hi:i<n) :
  al Tryz.prog 33 W DH (Tx L n (mf x) i) (O4 (L.take (i*7)++L.drop ((i+1)*7)++z7) n):=by
 have iR:(L.take (i*7)++L.drop ((i+1)*7)++z7).all inert=true:=by rw [List.all_append,List.all_append,kh iL,fW iL,xC]; rfl
 have g0:(hD L).get 0=some (.cells 78 L false):=by unfold hD; rw [av]; rfl
 obtain ⟨v13,h13⟩:=FO (b:=0) (c:=mf x) hi;have ht:=nK hL (Nat.le_of_lt hi)
 have BZ:=na (i:=i+1) hL hi
 have hne:some (Value.bool (Int.ofNat i==Int.ofNat (i+1)))=some (.bool false):=ye (by omega)
 have hS1:fstV ((aSlice Tryz.prog 24 (bB 0 0 n (mf x)) none (some (iN i)) none).map fun v=>(v,none))=some (bB 0 0 i (mf (n+x-i))):=by
  rw [ru (by omega),Dj]
 have H5:fstV ((aSlice Tryz.prog 24 (bB 0 0 n (mf x)) (some (iN (i+1))) none none).map fun v=>(v,none))=some (bB 0 ((i+1)*7) (n-(i+1)) (mf (n+x-n))):=by
  rw [eB (by omega),Dj]
 by_cases hend:i+1=n
 ·have BY:=rq (b:=0) (n:=i) (c:=mf (n+x-i)) (l:=n) hend.symm (by rw [oK]; omega)
  refine al.aJ jW follows 1 _ _ _ _ (V0 L (L.take (i*7)++L.drop ((i+1)*7)++z7) n (mf x) i _ _ _ v13) (Met.cons h13 (Met.cons hne (Met.cons hS1 (Met.cons H5 (Met.cons BY Met.nil))))) az.nil (aA.cons ?_ (aA.cons ?_ aA.nil)) Xr rfl rfl (DU iR) fun g=>⟨.inr rfl,rfl,_,_,(by rw [← hend]; rfl),Xn _ _ g,(by show (heapOf _ aE).get 0=_; rw [av]; rfl)⟩
  ·obtain ⟨ii,hi',h7,pC⟩:=mj
   obtain ⟨z,hz,hzl⟩:=oP;have hsrc:aSrc Tryz.prog (hD L).get 7 z (.slice 78) (bB 0 ((i+1)*7) (n-(i+1)) (mf (n+x-n)))=some ([],0):=by
     unfold aSrc;simp only [bB,srcLen,srcCells];rw [show n-(i+1)=0 by omega,if_pos rfl]
     rfl
   unfold aAppend;simp only [Tryz.underlying24,hi',hz,h7,pC,hzl];rw [if_neg (by decide)]
   simp only [hsrc];rw [if_neg (by simp)]
   simp only [bB];exact if_pos trivial
  ·have hC:(L.drop (i*7)).length=7:=by rw [List.length_drop]; omega
   have:=sy (get:=(hD L).get) (A:=L.take (i*7)) (C:=L.drop (i*7)) (k:=i) (c3:=cc (mf (n+x-i)) i n) (by rw [g0,List.take_append_drop]) ht hC
   rw [this,List.drop_of_length_le (i:=(i+1)*7) (by omega),List.append_nil]
 ·obtain ⟨k,hk⟩:∃ k,n=i+1+k:=⟨n-(i+1),by omega⟩
  have Tk:0<k:=by omega
  have ek:n-(i+1)=k:=by omega
  have en:n-1=i+k:=by omega
  have eL:L=L.take (i*7)++(L.drop (i*7)).take (k*7)++L.drop (i*7+k*7):=by
    rw [List.append_assoc,← List.drop_drop,List.take_append_drop,List.take_append_drop]
  have hB:((L.drop (i*7)).take (k*7)).length=k*7:=by rw [List.length_take,List.length_drop]; omega
  have hC:(L.drop (i*7+k*7)).length=7:=by rw [List.length_drop]; omega
  have hDl:(L.drop ((i+1)*7)).length=k*7:=by rw [BZ,ek]
  have hg2:eF L ((i+1)*7) (k*7)=some (L.drop ((i+1)*7)):=by
    unfold eF;rw [List.take_of_length_le (by omega),if_pos hDl]
  have happ:=HJ (get:=(hD L).get) (n:=n) (y:=n+x-i) (c2:=mf (n+x-n)) g0 eL hg2 ht hB hDl (fW oL _) Tk (by omega) (by omega)
  have BY:=rq (b:=0) (n:=i+k) (c:=mf (n+x-i-k)) (l:=n) (by omega) (by rw [oK]; omega)
  have hS2':=H5
  rw [ek] at hS2';have hr:=VZ L (L.take (i*7)++L.drop ((i+1)*7)++L.drop (i*7+k*7)) (L.take (i*7)++L.drop ((i+1)*7)++z7) n (mf x) i (i+k) (mf (n+x-i)) (mf (n+x-n)) (cc (mf (n+x-i-k)) (i+k) n) (mf (n+x-i-k)) v13
  rw [ek] at hr;refine al.aJ jW follows 1 _ _ _ _ hr (Met.cons h13 (Met.cons hne (Met.cons hS1 (Met.cons hS2' (Met.cons BY Met.nil))))) az.nil (aA.cons happ (aA.cons ?_ aA.nil)) Xr rfl rfl (DU iR) fun g=>⟨.inr rfl,rfl,_,_,(by rw [en]),Xn _ _ g,(by show (heapOf _ aE).get 0=_; rw [av]; rfl)⟩
  exact sy (A:=L.take (i*7)++L.drop ((i+1)*7)) (C:=L.drop (i*7+k*7)) (k:=i+k) (by rw [Hp.dB,if_pos rfl]) (by rw [List.length_append,ht,hDl]; omega) hC
noncomputable def gDelF:aD:=fun args hp=>match args with
 | [.slice (some ⟨b,0,none⟩) n c,.int .i64 (.ofNat i),.int .i64 (.ofNat j)]=>match hp.get b with
   | some (.cells ty L false)=>match Nat.beq c 22&&Nat.beq ty 78&&Nat.beq L.length (n*7)&&Nat.beq j (i+1)&&Nat.blt i n&&Nat.blt n 1000000&&L.all inert&&L.all isOne with
     | true=>some (bB hp.sz 0 (n-1) 23,heapOf ([.cells 78 (L.take (i*7)++L.drop ((i+1)*7)++z7) false] ++ [.dead]) (killL [b] hp))
     | false=>none
   | _=>none
 | _=>none
def Bf:aD:=fun args hp=>match args with
 | [.slice (some ⟨b,0,none⟩) n c,.int .i64 (.ofNat i),.int .i64 (.ofNat j)]=>match hp.get b with
   | some (.cells ty L false)=>match Nat.beq c 22&&Nat.beq ty 78&&Nat.beq L.length (n*7)&&Nat.beq j (i+1)&&Nat.blt i n&&Nat.blt n 1000000&&L.all inert&&L.all isOne with
     | true=>some (bB hp.sz 0 (n-1) 23,heapOf ([.cells 78 (L.take (i*7)++L.drop ((i+1)*7)) false] ++ [.dead]) (killL [b] hp))
     | false=>none
   | _=>none
 | _=>none
theorem PY:ax Tryz.prog 141 gDelF:=ou follows Tryz.func141 Lj (by kernel_rfl) fun args hp v hp' he hk=>by
 unfold gDelF at he;split at he
 case h_2=>cases he
 rename_i b n c i j;split at he
 case h_2=>cases he
 rename_i ty L hb;split at he
 case h_2=>cases he
 rename_i hcond;cases he;simp only [Bool.and_eq_true] at hcond;obtain ⟨⟨⟨⟨⟨⟨⟨k0,k1⟩,k2⟩,k3⟩,k4⟩,k5⟩,iL⟩,oL⟩:=hcond;have hc':=Nat.eq_of_beq_eq_true k0
 have hty:=Nat.eq_of_beq_eq_true k1
 have hL:=Nat.eq_of_beq_eq_true k2
 have hj:=Nat.eq_of_beq_eq_true k3
 have hin:i<n:=by simpa [Nat.blt_eq] using k4
 have hn:n<1000000:=by simpa [Nat.blt_eq] using k5
 subst hc' hty hj;refine ⟨[b],[.cells 78 (L.take (i*7)++L.drop ((i+1)*7)++z7) false],rfl,fun b' hb'=>?_,fun m h w args' s ra=>?_⟩
 ·have:b'=b:=by simpa using hb'
  subst this;exact ⟨_,hb,rfl⟩
 obtain ⟨v1,bs1,e1,r1,ra1⟩:=ra.of_cons;obtain ⟨v2,bs2,e2,r2,ra2⟩:=ra1.of_cons;obtain ⟨v3,bs3,e3,r3,ra3⟩:=ra2.of_cons;have e4:=ra3.of_nil
 subst e4;obtain ⟨_,_,rr,oo,cap,q1,rfl,hcap,hh⟩:=r1.dN;cases q1;have ev2:=r2.of_int
 subst ev2;have ev3:=r3.of_int
 subst ev3;have ea:args'.toList = [.slice (some ⟨rr,oo,none⟩) n cap,.int .i64 (.ofNat i),.int .i64 (.ofNat (i+1))]:=by rw [e1,e2,e3]
 have gb:=bx hk h b _ hb
 rcases hh with hd | ⟨δ,E,hm,hoff,hcok⟩
 ·rw [gb] at hd; cases hd
 refine ⟨fun b' hb'=>?_,?_⟩
 ·have:b'=b:=by simpa using hb'
  subst this;exact ⟨_,hm⟩
 have hle:=hcap.1
 have iR:(L.take (i*7)++L.drop ((i+1)*7)++z7).all inert=true:=by rw [List.all_append,List.all_append,kh iL,fW iL,xC]; rfl
 have hcx:cap=n+mf (cap-n) / 3 / 1000000:=by rw [tQ]; omega
 refine ⟨[0],[bB 0 0 n (mf (cap-n)),iN i,iN (i+1)],heapOf [.cells 78 L false,.dead] aE,canM m [b],rfl,rfl,bD _ _ gl,yP s hk hb iL hm,fun b' x hx _=>?_,?_,by rw [ntmps69]; simp,fun W=>?_⟩
 ·unfold canM at hx
  match b' with
  | 0=>exact ⟨b,by simp,x,hx,rfl⟩
  | b'+1=>simp at hx
 ·rw [ea]
  refine .cons (.slice ⟨hle,fun _=>hcx⟩ (.inr ⟨δ,E,hm,hoff,fun _=>hcx,fun h=>?_⟩)) (.cons (.flat rfl) (.cons (.flat rfl) .nil))
  rw [mW] at h; cases h
 ·rw [ntmps69]
  refine al.mono (Mp hL iL oL hn hin) fun e st q=>?_
  obtain ⟨p1,p2,c1,v0,rfl,p3,p4⟩:=q;refine ⟨p1,p2,_,p3,rfl,fun b' hb'=>?_,fun m h x hx=>?_,?_⟩
  ·have:b'=0:=by simpa using hb'
   subst this;exact ⟨_,p4,fp iR,rfl⟩
  ·have:sh3 [0] hp.sz (bB 0 0 (n-1) c1)=bB hp.sz 0 (n-1) c1:=by simp [sh3,sh2,sh1,j8,idxOf,bB]
   rw [this] at hx;exact xa hx
  ·have hI:aB (.cells 78 (L.take (i*7)++L.drop ((i+1)*7)++z7) false)=true:=iR
   simp only [cV,List.map_cons,List.map_nil,p4,Option.getD_some,dz hI]
theorem Un:ax Tryz.prog 141 Bf:=Dy PY fun args hp v hp2 he hk=>by
 unfold Bf at he;split at he
 case h_2=>cases he
 rename_i b n c i j;split at he
 case h_2=>cases he
 rename_i ty L hb;split at he
 case h_2=>cases he
 rename_i hcond;cases he;have hkk:(killL [b] hp).ok:=wo hk fun b' hb'=>by
  have:b'=b:=by simpa using hb'
  subst this;exact cX hk hb
 refine ⟨heapOf ([.cells 78 (L.take (i*7)++L.drop ((i+1)*7)++z7) false] ++ [.dead]) (killL [b] hp),?_,bD _ _ hkk,rfl,fun b'=>?_⟩
 ·unfold gDelF
  simp only [hb,hcond]
 ·by_cases h1:b'=hp.sz
  ·subst h1
   refine .inr ⟨Nat.le_refl _,by rw [cu,c8]; simp,78,L.take (i*7)++L.drop ((i+1)*7),z7,?_,?_⟩
   ·rw [heapOf_get,c8,if_neg (by omega),Nat.sub_self]; rfl
   ·rw [heapOf_get,c8,if_neg (by omega),Nat.sub_self]; rfl
  ·refine .inl ?_
   rw [heapOf_get,heapOf_get,c8];by_cases h2:b'<hp.sz
   ·rw [if_pos h2,if_pos h2]
   ·rw [if_neg h2,if_neg h2]
    obtain ⟨d,hd⟩:∃ d,b'-hp.sz=d+1:=⟨b'-hp.sz-1,by omega⟩
    rw [hd];rfl
noncomputable def GK(vs:List aa):Ext:=fv (cS Tryz.prog []) [(58,g18 vs),(79,vR vs),(139,g62 vs),(141,Bf)]
theorem Kk(vs:List aa)(hn:vs.length<1000000)(hs:mI vs):ExtOk Tryz.prog (GK vs):=bE (aT .nil) (.cons (H' vs hn) (.cons (Ia vs hn) (.cons (PX vs hn hs) (.cons Un .nil))))
noncomputable def zq(vs:List aa):aH:=aCall Tryz.prog (GK vs) 5
noncomputable def GL(vs:List aa):Ext:=fv (cS Tryz.prog []) [(58,g18 vs)]
theorem GM(vs:List aa)(hn:vs.length<1000000):ExtOk Tryz.prog (GL vs):=bE (aT .nil) (.cons (H' vs hn) .nil)
noncomputable def LV(vs:List aa):aH:=aCall Tryz.prog (GL vs) 5
noncomputable def Pz:aH:=aCall Tryz.prog (cS Tryz.prog []) 60
theorem Hi:ba Tryz.prog Pz:=aP (aT .nil) follows 60
noncomputable def tY:Code:=(Tryz.f89.body).getD .skip
theorem Ld:Tryz.f89.body=some tY:=by kernel_rfl
theorem ntmps41:Tryz.f89.ntmps=28:=by kernel_rfl
theorem Tu:codeSafe Tryz.prog 28 tY=true:=by kernel_rfl
theorem Xk(v u:Value)(O:List ae)(g:Nat→Value):retVal Tryz.prog Tryz.f89 (aq 28 g [(4,v),(5,u)] O)=some (.tuple #[v,u]):=by kernel_rfl
def JP(o:ae):Hp:=heapOf [o,.dead] aE
def BZ(o:ae):Hp:=heapOf [.dead] (JP o)
def MC(o:ae):Hp:=heapOf [.dead] (BZ o)
def JQ(vs:List aa)(o:ae):Hp:=heapOf [ab vs,.dead] (MC o)
section
variable (vs us:List aa) (o:ae) (n n1 c p:Nat) (id:Int)
abbrev S3:St:=⟨tmsOf [af 0 n c,.int .i64 id] 0 .leaf,heapOf [o,.dead] aE,[]⟩
theorem VJ:(execE Tryz.prog (LV vs) [] [(10,iN 1,[.dead])] [] 40 tY (S3 o n c id)).map (fun z=>(look2 0 [] [4,5] (z.1,z.2.1),z.2.2)) =
 some ((.ret,[],[(4,ay),(5,iN 1)],true),[],[(LV vs 58 [af 0 n c] (JP o),(iN 1,BZ o))],[]):=by kernel_rfl
theorem VK:(execE Tryz.prog (zq vs) [] [(10,iN 0,[.dead]),(17,.tuple #[iN p,.bool false],[.dead])] [] 40 tY (S3 o n c id)).map (fun z=>(look2 0 [] [4,5] (z.1,z.2.1),z.2.2)) =
 some ((.ret,[],[(4,ay),(5,iN 7)],true),[],[(zq vs 58 [af 0 n c] (JP o),(iN 0,BZ o)),(zq vs 139 [af 0 n c,.int .i64 id] (BZ o),(.tuple #[iN p,.bool false],MC o))],[]):=by kernel_rfl
theorem VL:(execE Tryz.prog (zq vs) [(26,iN (p+1))] [(10,iN 0,[.dead]),(17,.tuple #[iN p,.bool true],[.dead]),(23,aW 4 n,[ab vs,.dead])] [(27,bB 6 0 n1 23,[.put 4 .dead,.push (ab us),.push .dead])] 40 tY (S3 o n c id)).map (fun z=>(look2 1 [6] [4,5] (z.1,z.2.1),z.2.2)) =
 some ((.ret,[ab us],[(4,af 0 n1 23),(5,iN 0)],true),[(some (.int .i64 (wrapF .i64 (Int.ofNat p+1))),iN (p+1))],
  [(zq vs 58 [af 0 n c] (JP o),(iN 0,BZ o)),(zq vs 139 [af 0 n c,.int .i64 id] (BZ o),(.tuple #[iN p,.bool true],MC o)),(zq vs 79 [af 0 n c] (MC o),(aW 4 n,JQ vs o)),
   (zq vs 141 [aW 4 n,iN p,iN (p+1)] (JQ vs o),(bB 6 0 n1 23,heapOf [ab us,.dead] (killL [4] (JQ vs o))))],[]):=by kernel_rfl
theorem VM:(execE Tryz.prog Pz [] [] [] 40 tY ⟨tmsOf [ay,.int .i64 id] 0 .leaf,heapOf [.dead] aE,[]⟩).map (fun z=>(look2 0 [] [4,5] (z.1,z.2.1),z.2.2)) =
 some ((.ret,[],[(4,ay),(5,iN 7)],true),[],[],[]):=by kernel_rfl
end
def dy(vs:List aa)(id:Int):List aa:=vs.eraseIdx (pos vs id)
theorem sA{vs:List aa}{id:Int}(h:fnd vs id=true):(dy vs id).length=vs.length-1:=by
 obtain ⟨x,hx,-⟩:=qy h;unfold dy;rw [List.length_eraseIdx,if_pos (List.getElem?_eq_some_iff.1 hx).1]
theorem D0{hp:Hp}{b n p:Nat}{vs:List aa}(hb:hp.get b=some (ab vs))(hn:n=vs.length)(hp':p<n)(hl:n<1000000) :
  Bf [aW b n,iN p,iN (p+1)] hp=some (bB hp.sz 0 (n-1) 23,heapOf ([ab (vs.eraseIdx p)] ++ [.dead]) (killL [b] hp)):=by
 subst hn;unfold ab at hb;have hcond:(Nat.beq 22 22&&Nat.beq 78 78&&Nat.beq (aK vs).length (vs.length*7)&&Nat.beq (p+1) (p+1)&&Nat.blt p vs.length&&Nat.blt vs.length 1000000&&(aK vs).all inert&&(aK vs).all isOne)=true:=by
  rw [bU,dG,rR];simp only [Nat.beq_refl,Bool.true_and,Bool.and_true];rw [show Nat.blt p vs.length=true by simpa [Nat.blt_eq] using hp',show Nat.blt vs.length 1000000=true by simpa [Nat.blt_eq] using hl]
  rfl
 unfold Bf aW iN;simp only [af,hb,hcond];congr 3
 unfold ab;rw [ti (by omega),tg (by omega),← fq,List.eraseIdx_eq_take_drop_succ]
section
variable {vs:List aa} {s:Value} {hp:Hp}
theorem Hh(h:TR vs s hp):LV vs 58 [s] hp=some (mg (aF vs),heapOf [.dead] hp):=by
 show aCall Tryz.prog (GL vs) 5 58 _ _=_
 rw [aCall];have hE:GL vs 58=some fun _ args h=>g18 vs args h:=rfl
 rw [hE];exact ub (.inr h)
theorem LP(h:TR vs s hp):zq vs 58 [s] hp=some (mg (aF vs),heapOf [.dead] hp):=by
 show aCall Tryz.prog (GK vs) 5 58 _ _=_
 rw [aCall];have hE:GK vs 58=some fun _ args h=>g18 vs args h:=rfl
 rw [hE];exact ub (.inr h)
theorem LR{b c:Nat}{o:ae}(hb:hp.get b=some o)(hi:aB o=true)(hr:vs = []∨∃ ty ro,o = .cells ty (aK vs) ro):zq vs 79 [af b vs.length c] hp=some (aW hp.sz vs.length,heapOf [ab vs,.dead] hp):=by
 show aCall Tryz.prog (GK vs) 5 79 _ _=_
 rw [aCall];have hE:GK vs 79=some fun _ args h=>vR vs args h:=rfl
 rw [hE];exact pQ hb hi hr
open Classical in
theorem LS{id:Int}(h:TR vs s hp):zq vs 139 [s,.int .i64 id] hp=some (.tuple #[iN (pos vs id),.bool (fnd vs id)],heapOf [.dead] hp):=by
 show aCall Tryz.prog (GK vs) 5 139 _ _=_
 rw [aCall];have hE:GK vs 139=some fun _ args h=>g62 vs args h:=rfl
 rw [hE];show (if TR vs s hp then _ else _)=_
 rw [if_pos h];rfl
theorem LU(args:List Value):zq vs 141 args hp=Bf args hp:=by
 show aCall Tryz.prog (GK vs) 5 141 _ _=_
 rw [aCall];rfl
end
def Ce(vs:List aa)(id:Int)(e:Exit)(st:St):Prop :=
 e = .ret∧((aF vs&&fnd vs id)=true∧(∃ g,st=aq 28 g [(4,af 0 (dy vs id).length 23),(5,iN 0)] [ab (dy vs id)])∨(aF vs&&fnd vs id)=false∧∃ g,st=aq 28 g [(4,ay),(5,iN (bif aF vs then 7 else 1))] [])
theorem HL(o:ae)(ho:aB o=true)(vs:List aa)(hn:vs.length<1000000)(hrow:vs = []∨∃ ty ro,o = .cells ty (aK vs) ro)(c:Nat)(id:Int)(W:bg) :
  al Tryz.prog 28 W tY (S3 o vs.length c id) (Ce vs id):=by
 have g0:(JP o).get 0=some o:=by unfold JP; rw [av]; rfl
 have k0:(JP o).ok:=bD _ _ gl
 have k1:(BZ o).ok:=bD _ _ k0
 have k2:(MC o).ok:=bD _ _ k1
 have hT0:TR vs (af 0 vs.length c) (JP o):=⟨0,c,o,rfl,g0,ho,hrow⟩
 have hT1:TR vs (af 0 vs.length c) (BZ o):=hT0.ext k0 _
 have hT2:(MC o).get 0=some o:=zI k1 (zI k0 g0)
 cases hr:aF vs with
 | false =>
   have k:=Hh hT0
   rw [hr] at k;exact al.aJ (aP (GM vs hn) follows 5) follows 0 _ _ _ _ (VJ vs o vs.length c id) Met.nil (az.cons k az.nil) aA.nil Tu rfl rfl (dI _) fun g=>⟨rfl,.inr ⟨by rw [hr]; rfl,g,by rw [hr]; rfl⟩⟩
 | true =>
   have hc:ba Tryz.prog (zq vs):=aP (Kk vs hn (q9 vs hr)) follows 5
   have a1:=LP hT0
   rw [hr] at a1;have a2:=LS (id:=id) hT1
   cases hf:fnd vs id with
   | false =>
     rw [hf] at a2;exact al.aJ hc follows 0 _ _ _ _ (VK vs o vs.length c (pos vs id) id) Met.nil (az.cons a1 (az.cons a2 az.nil)) aA.nil Tu rfl rfl (dI _) fun g=>⟨rfl,.inr ⟨by rw [hr,hf]; rfl,g,by rw [hr]; rfl⟩⟩
   | true =>
     rw [hf] at a2;obtain ⟨x,hx,-⟩:=qy hf;have hlt:pos vs id<vs.length:=(List.getElem?_eq_some_iff.1 hx).1
     have a3:=LR (vs:=vs) (c:=c) hT2 ho hrow
     have z2:(MC o).sz=4:=rfl
     have z3:(JQ vs o).sz=6:=rfl
     have g4:(JQ vs o).get 4=some (ab vs):=by unfold JQ; rw [heapOf_get,z2,if_neg (by omega)]; rfl
     have a4:zq vs 141 [aW 4 vs.length,iN (pos vs id),iN (pos vs id+1)] (JQ vs o)=some (bB 6 0 (vs.length-1) 23,heapOf [ab (dy vs id),.dead] (killL [4] (JQ vs o))):=by
       rw [LU];exact D0 g4 rfl hlt hn
     refine al.aJ hc follows 1 _ _ _ _ (VL vs (dy vs id) o vs.length (vs.length-1) c (pos vs id) id) (Met.cons (bq (by omega)) Met.nil) (az.cons a1 (az.cons a2 (az.cons a3 (az.cons a4 az.nil)))) aA.nil Tu rfl rfl (bu _ []) fun g=>⟨rfl,.inl ⟨by rw [hr,hf]; rfl,g,?_⟩⟩
     rw [sA hf]
theorem drop_nil(id:Int)(W:bg):al Tryz.prog 28 W tY ⟨tmsOf [ay,.int .i64 id] 0 .leaf,heapOf [.dead] aE,[]⟩ (Ce [] id) :=
 al.aJ Hi follows 0 _ _ _ _ (VM id) Met.nil az.nil aA.nil Tu rfl rfl (dI _) fun g=>⟨rfl,.inr ⟨rfl,g,rfl⟩⟩
open Classical in
noncomputable def g41(vs:List aa):aD:=fun args hp=>match args with
 | [s,.int .i64 id]=>if TN vs s hp then (match aF vs&&fnd vs id with
   | true=>some (.tuple #[af hp.sz (dy vs id).length 23,iN 0],heapOf ([ab (dy vs id)] ++ [.dead]) hp)
   | false=>some (.tuple #[ay,iN (bif aF vs then 7 else 1)],heapOf ([] ++ [.dead]) hp)) else none
 | _=>none
theorem Ul(vs:List aa)(hn:vs.length<1000000):ax Tryz.prog 89 (g41 vs):=dP follows Tryz.func89 Ld (by kernel_rfl) fun args hp v hp' h hk=>by
 unfold g41 at h;rw [ntmps41];split at h
 case h_2=>cases h
 rename_i s id;split at h
 case isFalse=>cases h
 rename_i hT;have okB:∀ {st:St} (us:List aa),st.hp.get 0=some (ab us)→∀ b∈[0],∃ o,st.hp.get b=some o∧c9 o=true∧nW o=true:=fun us hg b' hb'=>by
  have:b'=0:=by simpa using hb'
  subst this;exact ⟨_,hg,fp (ah _),rfl⟩
 have run:∃ (K0:List Nat),nodupB K0=true∧(∀ b∈K0,∃ o,hp.get b=some o∧cj o=true)∧([s,.int .i64 id]).all iz=true∧∀ W,al Tryz.prog 28 W tY ⟨tmsOf ([s,.int .i64 id].map (sh3 K0 0)) 0 .leaf,eC K0 hp,[]⟩ (Ce vs id):=by
  rcases hT with ⟨rfl,rfl⟩ | ⟨b,c,ob,rfl,hb,hi,hr⟩
  ·refine ⟨[],rfl,(fun b hb=>by cases hb),rfl,fun W=>?_⟩
   have e1 : [ay,.int .i64 id].map (sh3 [] 0) = [ay,.int .i64 id]:=by simp [sh3,sh2,sh1,ay]
   rw [e1];exact drop_nil id W
  ·refine ⟨[b],rfl,fun b' hb'=>?_,rfl,fun W=>?_⟩
   ·have:b'=b:=by simpa using hb'
    subst this;exact ⟨ob,hb,bb hi⟩
   ·have e1 : [af b vs.length c,.int .i64 id].map (sh3 [b] 0) = [af 0 vs.length c,.int .i64 id]:=by simp [sh3,sh2,sh1,j8,idxOf,af]
    rw [e1,iq hb hi];exact HL (roBlk ob) (cm hi) vs hn (e8 hr) c id W
 obtain ⟨K0,n0,hst,hall,hrun⟩:=run;split at h
 ·rename_i hro
  cases h;refine ⟨K0,[0],[ab (dy vs id)],rfl,rfl,n0,rfl,hst,hall,(by simp),fun W=>al.mono (hrun W) fun e st q=>?_⟩
  obtain ⟨rfl,⟨-,g,rfl⟩ | ⟨h2,-⟩⟩:=q
  ·have hg:=uD (N:=28) (us:=dy vs id) (v:=ay) (t:=0) (L:=[(4,af 0 (dy vs id).length 23),(5,iN 0)]) (g:=g)
   refine ⟨.inr rfl,rfl,_,Xk _ _ _ g,rfl,okB _ hg,?_,uw hg⟩
   simp [sh3,sh2,sh1,j8,idxOf,af,iN]
  ·rw [h2] at hro; cases hro
 ·rename_i hro
  cases h;refine ⟨K0,[],[],rfl,rfl,n0,rfl,hst,hall,(by simp),fun W=>al.mono (hrun W) fun e st q=>?_⟩
  obtain ⟨rfl,⟨h2,-⟩ | ⟨-,g,rfl⟩⟩:=q
  ·rw [h2] at hro; cases hro
  ·exact ⟨.inr rfl,rfl,_,Xk _ _ _ g,rfl,(fun b hb=>by cases hb),by simp [sh3,sh2,sh1,ay,iN],rfl⟩
noncomputable def Gu:aD:=atRow (fun _=>True) g41
theorem P7:ax Tryz.prog 89 Gu:=fI fun vs hn _=>Ul vs hn
open Classical in
theorem xK{vs:List aa}{s:Value}{hp:Hp}{id:Int}(h:TN vs s hp)(hn:vs.length<1000000):Gu [s,.int .i64 id] hp=match aF vs&&fnd vs id with
  | true=>some (.tuple #[af hp.sz (dy vs id).length 23,iN 0],heapOf [ab (dy vs id),.dead] hp)
  | false=>some (.tuple #[ay,iN (bif aF vs then 7 else 1)],heapOf [.dead] hp):=by
 unfold Gu;rw [iY h hn trivial];show (if TN vs s hp then _ else _)=_
 rw [if_pos h];cases (aF vs&&fnd vs id) <;> rfl
def Tk(o:ae)(y:aa):Hp:=heapOf [o,.dead,.cells 23 (OF y) false] aE
section
variable (xs ds:List aa) (o:ae) (s:Value) (n:Nat) (y:aa) (oth:Int)
noncomputable def wb(xs:List aa)(o:ae)(y:aa):Hp:=heapOf (Xp xs) (Tk o y)
noncomputable def uY(ds xs:List aa)(o:ae)(y:aa):Hp:=heapOf (Xp ds) (wb xs o y)
noncomputable def Xc(x:aa)(hp:Hp):Hp:=heapOf [.dead,hB x] hp
end
theorem DS{vs:List aa}{id:Int}{x:aa}(h:Up vs):aG vs id=some x↔x∈vs∧x.id=id:=by
 constructor
 ·intro hf
  exact ⟨List.mem_of_find?_eq_some hf,by have:=List.find?_some hf; simpa [sb] using this⟩
 ·rintro ⟨hm,hid⟩
  obtain ⟨i,hi⟩:=List.mem_iff_getElem?.1 hm;refine ua hi (by simp [sb,hid]) fun j z hj hz=>?_
  have:=re.2 h j i z x hj hz hi
  simp [sb]; omega
section
variable {vs:List aa} {s:Value} {hp:Hp}
end
end Go.Proofs.YtgeoommlmddgpaaGreat.LtA
namespace Go.Proofs.YtgeoommlmddgpaaGreat.Sort
section
variable {α : Type} (lt : α→α→Bool)
def dD(S:List α)(x : α):List α:=(S.reverse.dropWhile (lt x)).reverse++x::(S.reverse.takeWhile (lt x)).reverse
def dE(L R:List α):List α:=R.foldl (dD lt) L
def aN(S:List α):List α:=dE lt [] S
def mJ(S:List α):Prop:=S.Pairwise fun u v=>lt v u=false
structure BW (K : α→Prop):Prop where
 asym:∀ x y,K x→K y→lt x y=true→lt y x=false
 ntr:∀ x y z,K x→K y→K z→lt x y=false→lt y z=false→lt x z=false
end
section
variable {α : Type} {lt : α→α→Bool} {K : α→Prop}
theorem BW.trans(h:BW lt K){x y z : α}(hx:K x)(hy:K y)(hz:K z)(h1:lt x y=true)(h2:lt y z=true):lt x z=true:=by
 cases e:lt x z with
 | true=>rfl
 | false=>rw [h.ntr x z y hx hz hy e (h.asym y z hy hz h2)] at h1; cases h1
theorem BW.UB(h:BW lt K){x : α}(hx:K x):lt x x=false:=by
 cases e:lt x x with
 | false=>rfl
 | true=>rw [h.asym x x hx hx e] at e; cases e
theorem gz{S P Q:List α}{x : α}(hS:S=P++Q)(hQ:∀ q∈Q,lt x q=true)(hP:∀ p,P.getLast? = some p→lt x p=false):dD lt S x=P++x::Q:=by
 subst hS;have h1:∀ a∈Q.reverse,lt x a=true:=fun a ha=>hQ a (List.mem_reverse.1 ha)
 have h2:P.reverse.takeWhile (lt x) = []∧P.reverse.dropWhile (lt x)=P.reverse:=by
  cases e:P.reverse with
  | nil=>exact ⟨rfl,rfl⟩
  | cons p R =>
    have:P.getLast? = some p:=by rw [← List.reverse_reverse P,List.getLast?_reverse,e]; rfl
    have:=hP p this
    exact ⟨by rw [List.takeWhile_cons,if_neg (by rw [this]; simp)],by rw [List.dropWhile_cons,if_neg (by rw [this]; simp)]⟩
 unfold dD;rw [List.reverse_append,List.takeWhile_append_of_pos h1,List.dropWhile_append_of_pos h1,h2.1,h2.2];simp
theorem zM(lt : α→α→Bool)(S:List α)(x : α):∃ P Q,S=P++Q∧(∀ q∈Q,lt x q=true)∧(∀ p,P.getLast? = some p→lt x p=false):=by
 refine ⟨(S.reverse.dropWhile (lt x)).reverse,(S.reverse.takeWhile (lt x)).reverse,?_,fun q hq=>?_,fun p hp=>?_⟩
 ·rw [← List.reverse_append,List.takeWhile_append_dropWhile,List.reverse_reverse]
 ·exact List.all_eq_true.1 (List.all_takeWhile (p:=lt x) (l:=S.reverse)) q (List.mem_reverse.1 hq)
 ·rw [List.getLast?_reverse] at hp
  have:=List.head?_dropWhile_not (lt x) S.reverse
  rw [hp] at this;simpa using this
theorem ml(lt : α→α→Bool)(S:List α)(x : α):∃ P Q,S=P++Q∧dD lt S x=P++x::Q∧(∀ q∈Q,lt x q=true)∧(∀ p,P.getLast? = some p→lt x p=false):=by
 obtain ⟨P,Q,h1,h2,h3⟩:=zM lt S x;exact ⟨P,Q,h1,gz h1 h2 h3,h2,h3⟩
theorem qN{S:List α}{x z : α}:z∈dD lt S x↔z=x∨z∈S:=by
 obtain ⟨P,Q,h1,h2,_⟩:=ml lt S x;rw [h2,h1];simp only [List.mem_append,List.mem_cons];constructor
 ·rintro (h | h | h)
  ·exact .inr (.inl h)
  ·exact .inl h
  ·exact .inr (.inr h)
 ·rintro (h | h | h)
  ·exact .inr (.inl h)
  ·exact .inl h
  ·exact .inr (.inr h)
theorem Ez{S:List α}{x : α}:(dD lt S x).length=S.length+1:=by
 obtain ⟨P,Q,h1,h2,_⟩:=ml lt S x;rw [h2,h1]; simp; omega
theorem uj{R:List α}:∀ {L:List α} {z : α},z∈dE lt L R↔z∈L∨z∈R:=by
 induction R with
 | nil=>intro L z; simp [dE]
 | cons r R ih =>
   intro L z;have e:dE lt L (r::R)=dE lt (dD lt L r) R:=rfl
   rw [e,ih,qN,List.mem_cons];constructor
   ·rintro ((h | h) | h)
    ·exact .inr (.inl h)
    ·exact .inl h
    ·exact .inr (.inr h)
   ·rintro (h | h | h)
    ·exact .inl (.inr h)
    ·exact .inl (.inl h)
    ·exact .inr h
theorem zX{R:List α}:∀ {L:List α},(dE lt L R).length=L.length+R.length:=by
 induction R with
 | nil=>intro L; rfl
 | cons r R ih =>
   intro L;have e:dE lt L (r::R)=dE lt (dD lt L r) R:=rfl
   rw [e,ih,Ez]; simp; omega
theorem oz{S:List α}{z : α}:z∈aN lt S↔z∈S:=by unfold aN; rw [uj]; simp
theorem bQ{S:List α}:(aN lt S).length=S.length:=by unfold aN; rw [zX]; simp
theorem eY{L R1 R2:List α}:dE lt L (R1++R2)=dE lt (dE lt L R1) R2:=by unfold dE; rw [List.foldl_append]
theorem Bj{M N:List α}{y : α}(h:∀ x∈N,lt y x=true):dD lt (M++N) y=dD lt M y++N:=by
 obtain ⟨P,Q,h1,h2,h3,h4⟩:=ml lt M y;rw [h2];rw [gz (P:=P) (Q:=Q++N) (by rw [h1,List.append_assoc]) (fun q hq=>by
  rcases List.mem_append.1 hq with hq | hq
  ·exact h3 q hq
  ·exact h q hq) h4]
 simp
theorem yo{M N:List α}{y : α}(h:∀ x∈M,lt y x=false):dD lt (M++N) y=M++dD lt N y:=by
 obtain ⟨P,Q,h1,h2,h3,h4⟩:=ml lt N y;rw [h2];rw [gz (P:=M++P) (Q:=Q) (by rw [h1,List.append_assoc]) h3 (fun p hp=>by
  cases P with
  | nil=>rw [List.append_nil] at hp; exact h p (List.mem_of_getLast? hp)
  | cons a P =>
    rw [List.getLast?_append] at hp
    cases e:(a::P).getLast? with
    | none=>simp at e
    | some b =>
      rw [e] at hp;simp at hp;subst hp;exact h4 b e)]
 simp
theorem wG{N:List α}:∀ {R M:List α},(∀ y∈R,∀ x∈N,lt y x=true)→dE lt (M++N) R=dE lt M R++N
 | [],M,_=>rfl
 | r::R,M,h=>by
   have e:dE lt (M++N) (r::R)=dE lt (dD lt (M++N) r) R:=rfl
   rw [e,Bj (h r (.head _)),wG fun y hy=>h y (.tail _ hy)]
   rfl
theorem oA{M:List α}:∀ {R N:List α},(∀ y∈R,∀ x∈M,lt y x=false)→dE lt (M++N) R=M++dE lt N R
 | [],N,_=>rfl
 | r::R,N,h=>by
   have e:dE lt (M++N) (r::R)=dE lt (dD lt (M++N) r) R:=rfl
   rw [e,yo (h r (.head _)),oA fun y hy=>h y (.tail _ hy)]
   rfl
theorem sN{L1 L2 R1 R2:List α}(h1:∀ y∈R1,∀ x∈L2,lt y x=true)(h2:∀ y∈R2,∀ x∈L1,lt y x=false)(h3:∀ y∈R2,∀ x∈R1,lt y x=false):dE lt (L1++L2) (R1++R2)=dE lt L1 R1++dE lt L2 R2:=by
 rw [eY,wG h1,oA fun y hy x hx=>by
  rcases uj.1 hx with hx | hx
  ·exact h2 y hy x hx
  ·exact h3 y hy x hx]
theorem gA{R:List α}(h:mJ lt R):dE lt [] R=R:=by
 have key:∀ (R M:List α),mJ lt (M++R)→dE lt M R=M++R:=by
  intro R;induction R with
  | nil=>intro M _; simp [dE]
  | cons r R ih =>
    intro M h;have e:dE lt M (r::R)=dE lt (dD lt M r) R:=rfl
    have hp:=List.pairwise_append.1 h
    rw [e,gz (P:=M) (Q:=[]) (by simp) (fun q hq=>by cases hq) (fun p hp'=>hp.2.2 p (List.mem_of_getLast? hp') r (.head _))]
    have h':mJ lt (M ++ [r]++R):=by rw [List.append_assoc]; exact h
    rw [ih (M ++ [r]) h']; simp
 have:=key R [] (by simpa using h)
 simpa using this
theorem rA(sw:BW lt K){S:List α}{x : α}(hS:mJ lt S)(hK:∀ z∈S,K z)(hx:K x):mJ lt (dD lt S x):=by
 obtain ⟨P,Q,h1,h2,h3,h4⟩:=ml lt S x;subst h1;rw [h2];obtain ⟨a,b,c⟩:=List.pairwise_append.1 hS;have hPx:∀ p∈P,lt x p=false:=by
  intro p hp;cases hl:P.getLast? with
  | none=>rw [List.getLast?_eq_none_iff] at hl; subst hl; cases hp
  | some p0 =>
    have h0:=h4 p0 hl
    obtain ⟨P',rfl⟩:∃ P',P=P' ++ [p0]:=by
      have:=List.getLast?_eq_some_iff.1 hl
      exact this
    rcases List.mem_append.1 hp with hp | hp
    ·have hs:=(List.pairwise_append.1 a).2.2 p hp p0 (by simp)
     exact sw.ntr x p0 p hx (hK _ (by simp)) (hK _ (by simp [hp])) h0 hs
    ·have:p=p0:=by simpa using hp
     subst this; exact h0
 refine List.pairwise_append.2 ⟨a,List.pairwise_cons.2 ⟨fun q hq=>sw.asym x q hx (hK _ (by simp [hq])) (h3 q hq),b⟩,fun p hp q hq=>?_⟩
 rcases List.mem_cons.1 hq with rfl | hq
 ·exact hPx p hp
 ·exact c p hp q hq
theorem uR(sw:BW lt K):∀ {R L:List α},mJ lt L→(∀ z∈L,K z)→(∀ z∈R,K z)→mJ lt (dE lt L R)
 | [],L,h,_,_=>h
 | r :: R,L,h,h1,h2=>uR sw (R:=R) (L:=dD lt L r) (rA sw h h1 (h2 r (.head _))) (fun z hz=>by
     rcases qN.1 hz with rfl | hz
     ·exact h2 _ (.head _)
     ·exact h1 z hz) (fun z hz=>h2 z (.tail _ hz))
theorem s9(sw:BW lt K){S:List α}(h:∀ z∈S,K z):mJ lt (aN lt S):=uR sw (by unfold mJ; simp) (by simp) h
theorem Ee(sw:BW lt K){N:List α}{x q : α}(hN:mJ lt N)(hK:∀ z∈N,K z)(hx:K x)(hq:K q)(h:lt x q=true):dD lt (dD lt N x) q=dD lt (dD lt N q) x:=by
 obtain ⟨P,Q,h1,h2,h3,h4⟩:=ml lt N x;obtain ⟨Q1,Q2,k1,k3,k4⟩:=zM lt Q q;subst h1 k1;obtain ⟨a,b,c⟩:=List.pairwise_append.1 hN;have hPx:∀ p∈P,lt x p=false:=by
  have:=rA sw hN hK hx
  rw [h2] at this;intro p hp;exact (List.pairwise_append.1 this).2.2 p hp x (.head _)
 have hPq:∀ p∈P,lt q p=false:=by
  intro p hp;cases e:lt q p with
  | false=>rfl
  | true=>rw [← hPx p hp]; exact (sw.trans hx hq (hK p (by simp [hp])) h e).symm
 have e1:dD lt (P++(Q1++Q2)) q=P++Q1++q::Q2:=gz (by simp) k3 (fun p hp=>by
  cases Q1 with
  | nil=>rw [List.append_nil] at hp; exact hPq p (List.mem_of_getLast? hp)
  | cons z Q1 =>
    rw [List.getLast?_append] at hp
    cases e:(z::Q1).getLast? with
    | none=>simp at e
    | some z' =>
      rw [e] at hp;simp at hp;subst hp;exact k4 z' e)
 have e2:dD lt (P++x::(Q1++Q2)) q=P++x::Q1++q::Q2:=gz (by simp) k3 (fun p hp=>by
  rw [List.getLast?_append] at hp
  cases Q1 with
  | nil =>
    simp at hp;subst hp;exact sw.asym _ q hx hq h
  | cons z Q1 =>
    have e3:(x::z::Q1).getLast? = (z::Q1).getLast?:=by simp [List.getLast?_cons]
    rw [e3] at hp;cases e:(z::Q1).getLast? with
    | none=>simp at e
    | some z' =>
      rw [e] at hp;simp at hp;subst hp;exact k4 z' e)
 have e3:dD lt (P++Q1++q::Q2) x=P++x::(Q1++q::Q2):=gz (by simp) (fun z hz=>by
  rcases List.mem_append.1 hz with hz | hz
  ·exact h3 z (by simp [hz])
  ·rcases List.mem_cons.1 hz with rfl | hz
   ·exact h
   ·exact h3 z (by simp [hz])) h4
 rw [h2,e2,e1,e3];simp
theorem wF(sw:BW lt K){x : α}(hx:K x):∀ {Q N:List α},mJ lt N→(∀ z∈N,K z)→(∀ q∈Q,K q)→(∀ q∈Q,lt x q=true)→dE lt (dD lt N x) Q=dD lt (dE lt N Q) x
 | [],N,_,_,_,_=>rfl
 | q::Q,N,h,h1,h2,h3=>by
   have e:dE lt (dD lt N x) (q::Q)=dE lt (dD lt (dD lt N x) q) Q:=rfl
   have e2:dE lt N (q::Q)=dE lt (dD lt N q) Q:=rfl
   rw [e,e2,Ee sw h h1 hx (h2 q (.head _)) (h3 q (.head _))];exact wF sw hx (rA sw h h1 (h2 q (.head _))) (fun z hz=>by
     rcases qN.1 hz with rfl | hz
     ·exact h2 _ (.head _)
     ·exact h1 z hz) (fun z hz=>h2 z (.tail _ hz)) (fun z hz=>h3 z (.tail _ hz))
theorem Bo(sw:BW lt K){M:List α}(hM:mJ lt M)(hKM:∀ z∈M,K z){B:List α}(hB:∀ z∈B,K z):dE lt M (aN lt B)=dE lt M B:=by
 have key:∀ C:List α,(∀ z∈C,K z)→dE lt M (aN lt C.reverse)=dE lt M C.reverse:=by
  intro C;induction C with
  | nil=>intro _; rfl
  | cons x C ih =>
    intro h;have ih':=ih fun z hz=>h z (.tail _ hz)
    have e:aN lt (x::C).reverse=dD lt (aN lt C.reverse) x:=by
      rw [List.reverse_cons];unfold aN;rw [eY]; rfl
    obtain ⟨P,Q,h1,h2,h3,_⟩:=ml lt (aN lt C.reverse) x;have hKs:∀ z∈aN lt C.reverse,K z:=fun z hz=>h z (.tail _ (List.mem_reverse.1 (oz.1 hz)))
    rw [e,h2,List.reverse_cons,eY,eY,← ih'];have e4:dE lt (dE lt M P) (x::Q)=dE lt (dD lt (dE lt M P) x) Q:=rfl
    have e5:dE lt (dE lt M (aN lt C.reverse)) [x]=dD lt (dE lt M (aN lt C.reverse)) x:=rfl
    have hKP:∀ z∈P,K z:=fun z hz=>hKs z (by rw [h1]; simp [hz])
    have hKQ:∀ z∈Q,K z:=fun z hz=>hKs z (by rw [h1]; simp [hz])
    rw [e4,e5,wF sw (h x (.head _)) (uR sw hM hKM hKP) (fun z hz=>by
      rcases uj.1 hz with hz | hz
      ·exact hKM z hz
      ·exact hKP z hz) hKQ h3,h1,eY]
 have:=key B.reverse fun z hz=>hB z (List.mem_reverse.1 hz)
 rwa [List.reverse_reverse] at this
theorem yw(sw:BW lt K){A B:List α}(hA:∀ z∈A,K z)(hB:∀ z∈B,K z):dE lt (aN lt A) (aN lt B)=aN lt (A++B):=by
 rw [Bo sw (s9 sw hA) (fun z hz=>hA z (oz.1 hz)) hB]
 unfold aN;rw [eY]
theorem yN{S:List α}{x : α}:aN lt (S ++ [x])=dD lt (aN lt S) x:=by unfold aN; rw [eY]; rfl
end
end Go.Proofs.YtgeoommlmddgpaaGreat.Sort
namespace Go.Proofs.YtgeoommlmddgpaaGreat.LtA
open Go Go.Proofs Go.Proofs.YtgeoommlmddgpaaGreat.AI Go.RowKit
def cN(us:List aa)(s:Value)(hp:Hp):Prop:=∃ b c,s=af b us.length c∧hp.get b=some (ab us)
theorem cN.uniq{us vs:List aa}{s:Value}{hp:Hp}(h1:cN us s hp)(h2:cN vs s hp):us=vs:=by
 obtain ⟨b,c,rfl,hb⟩:=h1;obtain ⟨b',c',e,hb'⟩:=h2;simp only [af,Value.slice.injEq,Option.some.injEq,Addr.mk.injEq,and_true] at e;obtain ⟨rfl,-,-⟩:=e;rw [hb] at hb';simp only [ab,Option.some.injEq,ae.cells.injEq,true_and,and_true] at hb';exact rQ hb'
open Classical in
noncomputable def atW(k:List aa→aD):aD:=fun args hp=>match args with
 | s::_=>if h:∃ us,cN us s hp∧us.length<1000000 then k h.choose args hp else none
 | _=>none
theorem fX{f:FuncId}{k:List aa→aD}(h:∀ us,us.length<1000000→ax Tryz.prog f (k us)):ax Tryz.prog f (atW k):=by
 intro args hp v hp' he hk;unfold atW at he;split at he
 case h_2=>cases he
 split at he
 ·rename_i hx
  exact h _ hx.choose_spec.2 _ _ _ _ he hk
 ·cases he
theorem mb{k:List aa→aD}{us:List aa}{s:Value}{r:List Value}{hp:Hp}(h:cN us s hp)(hn:us.length<1000000):atW k (s::r) hp=k us (s::r) hp:=by
 unfold atW;have hx:∃ us,cN us s hp∧us.length<1000000:=⟨us,h,hn⟩
 simp only;rw [dif_pos hx];rw [hx.choose_spec.1.uniq h]
def hW(us:List aa):Hp:=heapOf ([ab us] ++ [.dead]) aE
theorem dC(us:List aa):(hW us).get 0=some (ab us):=by unfold hW; rw [av]; rfl
theorem fA(us:List aa):eG (hW us) 0 us:=.of (dC us)
def vU:Value:=.tuple #[]
noncomputable def yO(h:Hp)(i:Nat)(v:aa)(us':List aa):jr:=((aStore Tryz.prog h.get 78 (pb 0 (i*7)) (.agg ⟨vc v⟩)).map fun es=>(undef,es),(undef,[.put 0 (ab us')]))
theorem jN{h:Hp}{us:List aa}{i:Nat}{v:aa}(hg:h.get 0=some (ab us))(hi:i<us.length):(yO h i v (us.set i v)).1=some (yO h i v (us.set i v)).2:=by
 obtain ⟨x,hx⟩:∃ x,us[i]? = some x:=⟨_,List.getElem?_eq_getElem hi⟩
 have hcell:cellsL (.agg ⟨vc v⟩)=vc v:=rfl
 have hput:=p8 (k:=0) (y:=v) (ns:=vc v) hx (by simp [vc]) (fun j hj=>by
  rw [if_pos ⟨Nat.zero_le _,by show j<0+7; omega⟩,Nat.sub_zero])
 rw [Nat.add_zero] at hput;unfold ab at hg;unfold yO pb;simp only [aStore,hg,kK,hcell];rw [if_pos]
 ·rw [hput]; rfl
 ·rw [Bool.and_eq_true,Bool.and_eq_true]
  refine ⟨⟨rfl,rfl⟩,decide_eq_true ?_⟩
  rw [bU]; omega
theorem ny{h:Hp}{us:List aa}:(h.put 0 (ab us)).get 0=some (ab us):=by rw [Hp.dB,if_pos rfl]
noncomputable def zf(a b:Nat):di:=(some (.int .i64 (wrapF .i64 (Int.ofNat a+Int.ofNat b))),iN (a+b))
theorem gP{a b:Nat}(h:a+b<3000000):(zf a b).1=some (zf a b).2:=xU h
noncomputable def rW(a b:Nat):di:=(some (.int .i64 (wrapF .i64 (Int.ofNat a-Int.ofNat b))),iN (a-b))
theorem dF{a b:Nat}(h:a<3000000)(hb:b≤a):(rW a b).1=some (rW a b).2:=by
 have e:Int.ofNat a-Int.ofNat b=Int.ofNat (a-b):=by simp only [Int.ofNat_eq_natCast]; omega
 show some (Value.int .i64 (wrapF .i64 (Int.ofNat a-Int.ofNat b)))=_
 rw [e,ot (by omega)]; rfl
noncomputable def iG(a b:Nat)(r:Bool):di:=(some (.bool (decide (Int.ofNat a<Int.ofNat b))),.bool r)
theorem bz{a b:Nat}{r:Bool}(h:decide (a<b)=r):(iG a b r).1=some (iG a b r).2:=by
 show some (Value.bool (decide (Int.ofNat a<Int.ofNat b)))=some (.bool r)
 rw [← h,show decide (Int.ofNat a<Int.ofNat b)=decide (a<b) from decide_eq_decide.2 (by simp only [Int.ofNat_eq_natCast]; omega)]
theorem fh{h:Hp}{us:List aa}{i:Nat}{x:aa}(hat:eG h 0 us)(hx:us[i]? = some x):(j7 h.get 78 0 (i*7) (.agg ⟨vc x⟩)).1=some (j7 h.get 78 0 (i*7) (.agg ⟨vc x⟩)).2:=bT hat hx
theorem dh{i n c:Nat}(h:i<n):(hU 0 n c i).1=some (hU 0 n c i).2:=bP h
theorem iJ{α : Type}{P Q:List α}{x y : α}{i:Nat}(h:P.length=i):(P++x::Q).set i y=P++y::Q:=by
 subst h;rw [List.set_append_right _ _ (Nat.le_refl _),Nat.sub_self]; rfl
theorem iE{α : Type}{P Q:List α}{x : α}{i:Nat}(h:P.length=i):(P++x::Q)[i]? = some x:=by
 subst h;rw [List.getElem?_append_right (Nat.le_refl _),Nat.sub_self]; rfl
section
variable (us us1 us2:List aa) (n c a m k i:Nat) (x y:aa) (f:Value) (g:Nat→Value)
end
def u5(N:Nat)(us:List aa)(e:Exit)(st:St):Prop:=e = .normal∧∃ g,st=aq N g [] [ab us]
def xi(us:List aa)(a m k:Nat):List aa:=us.take a++(us.drop m).take k++(us.drop (a+k)).take (m-(a+k))++(us.drop a).take k++us.drop (m+k)
theorem T8{us:List aa}{a m k:Nat}(h1:a+k≤m)(h2:m+k≤us.length):us=us.take a++(us.drop a).take k++(us.drop (a+k)).take (m-(a+k))++(us.drop m).take k++us.drop (m+k):=by
 have e1:us.drop m=(us.drop m).take k++us.drop (m+k):=by
  have:=(List.take_append_drop k (us.drop m)).symm
  rwa [List.drop_drop] at this
 have e2:us.drop (a+k)=(us.drop (a+k)).take (m-(a+k))++us.drop m:=by
  have:=(List.take_append_drop (m-(a+k)) (us.drop (a+k))).symm
  rwa [List.drop_drop,show a+k+(m-(a+k))=m by omega] at this
 have e3:us.drop a=(us.drop a).take k++us.drop (a+k):=by
  have:=(List.take_append_drop k (us.drop a)).symm
  rwa [List.drop_drop] at this
 have e4:=(List.take_append_drop a us).symm
 rw [List.append_assoc,← e1,List.append_assoc,← e2,List.append_assoc,← e3,← e4]
theorem FW{A X B Y C:List aa}{a m k:Nat}(hX:X.length=k)(hY:Y.length=k)(hA:A.length=a)(hm:m=a+k+B.length):xi (A++X++B++Y++C) a m k=A++Y++B++X++C:=by
 subst hA hX;subst hm;unfold xi;have t1:(A++X++B++Y++C).take A.length=A:=by rw [List.append_assoc,List.append_assoc,List.append_assoc,List.take_left]
 have d1:(A++X++B++Y++C).drop A.length=X++(B++Y++C):=by rw [List.append_assoc,List.append_assoc,List.append_assoc,List.drop_left]; simp
 have d2:(A++X++B++Y++C).drop (A.length+X.length)=B++(Y++C):=by rw [← List.drop_drop,d1,List.drop_left]; simp
 have d3:(A++X++B++Y++C).drop (A.length+X.length+B.length)=Y++C:=by rw [← List.drop_drop,d2,List.drop_left]
 have d4:(A++X++B++Y++C).drop (A.length+X.length+B.length+X.length)=C:=by rw [← List.drop_drop,d3,← hY,List.drop_left]
 rw [t1,d1,d2,d3,d4,← hY,List.take_left,show A.length+Y.length+B.length-(A.length+Y.length)=B.length by omega,List.take_left,hY,List.take_left]
theorem uE{us:List aa}{b n c:Nat}{hp:Hp}(hk:hp.ok)(hb:hp.get b=some (ab us)){m:BM}{h:HG}{v:Value}(r:ak m (aL hp h) (af b n c) v):∃ x,m b=some x∧ak (canM m [b]) (heapOf [ab us,.dead] aE).get (af 0 n c) v:=by
 obtain ⟨_,_,rr,oo,cap,q1,rfl,hcap,hh⟩:=r.dN;cases q1;have gb:=bx hk h b _ hb
 rcases hh with hd | ⟨δ,E,hm,hoff,hcok⟩
 ·rw [gb] at hd; cases hd
 ·exact ⟨_,hm,.slice hcap (.inr ⟨δ,E,hm,hoff,hcok⟩)⟩
theorem pT{m m':BM}{h h':HG}{k:IntKind}{z:Int}{v:Value}(r:ak m h (.int k z) v):ak m' h' (.int k z) v:=by
 rw [r.of_int]; exact .flat rfl
theorem Gm{m m':BM}{h h':HG}{v:Value}(r:ak m h vU v):ak m' h' vU v:=by
 obtain ⟨a',rfl,h1,h2⟩:=r.kD;exact .tuple h1 fun i v v' q _=>by simp at q
noncomputable def EN(a b:Nat)(r:Bool):di:=(some (.bool (Int.ofNat a != Int.ofNat b)),.bool r)
theorem yx{a b:Nat}{r:Bool}(h:(a != b)=r):(EN a b r).1=some (EN a b r).2:=by
 show some (Value.bool (Int.ofNat a != Int.ofNat b))=some (.bool r)
 rw [← h];congr 2
 cases e:(a != b) with
 | true =>
   have:a≠b:=by simpa using e
   exact bne_iff_ne.2 (fun e=>this (Int.ofNat.inj e))
 | false => have:a=b:=by simpa using e
            subst this; simp
noncomputable def D4(a b:Nat)(r:Bool):di:=(some (.bool (decide (Int.ofNat a>Int.ofNat b))),.bool r)
theorem jz{a b:Nat}{r:Bool}(h:decide (b<a)=r):(D4 a b r).1=some (D4 a b r).2:=by
 show some (Value.bool (decide (Int.ofNat a>Int.ofNat b)))=some (.bool r)
 rw [← h,show decide (Int.ofNat a>Int.ofNat b)=decide (b<a) from decide_eq_decide.2 (by simp only [Int.ofNat_eq_natCast]; omega)]
section
variable (us us':List aa) (n c a m b i j:Nat) (g:Nat→Value)
end
def N1(us:List aa)(a m b:Nat):List aa:=us.take a++(us.drop m).take (b-m)++(us.drop a).take (m-a)++us.drop b
theorem PF{us:List aa}{a m b:Nat}(h1:a≤m)(h2:m≤b):us=us.take a++(us.drop a).take (m-a)++(us.drop m).take (b-m)++us.drop b:=by
 have e1:us.drop m=(us.drop m).take (b-m)++us.drop b:=by
  have:=(List.take_append_drop (b-m) (us.drop m)).symm
  rwa [List.drop_drop,show m+(b-m)=b by omega] at this
 have e2:us.drop a=(us.drop a).take (m-a)++us.drop m:=by
  have:=(List.take_append_drop (m-a) (us.drop a)).symm
  rwa [List.drop_drop,show a+(m-a)=m by omega] at this
 have e4:=(List.take_append_drop a us).symm
 rw [List.append_assoc,← e1,List.append_assoc,← e2,← e4]
theorem zB{A X Y C:List aa}{a m b:Nat}(hA:A.length=a)(hm:m=a+X.length)(hb:b=m+Y.length):(A++X++Y++C).take a=A∧((A++X++Y++C).drop a).take (m-a)=X∧((A++X++Y++C).drop m).take (b-m)=Y∧(A++X++Y++C).drop b=C:=by
 subst hA;subst hm;subst hb;have d1:(A++X++Y++C).drop A.length=X++(Y++C):=by rw [List.append_assoc,List.append_assoc,List.drop_left]
 have d2:(A++X++Y++C).drop (A.length+X.length)=Y++C:=by rw [← List.drop_drop,d1,List.drop_left]
 refine ⟨by rw [List.append_assoc,List.append_assoc,List.take_left],?_,?_,?_⟩
 ·rw [d1,show A.length+X.length-A.length=X.length by omega,List.take_left]
 ·rw [d2,show A.length+X.length+Y.length-(A.length+X.length)=Y.length by omega,List.take_left]
 ·rw [← List.drop_drop,d2,List.drop_left]
end Go.Proofs.YtgeoommlmddgpaaGreat.LtA
namespace Go.Proofs.YtgeoommlmddgpaaGreat.LtA
open Go Go.Proofs Go.Proofs.YtgeoommlmddgpaaGreat.AI Go.RowKit Go.Proofs.YtgeoommlmddgpaaGreat.Sort
def jY(aId:Int)(aHeightNull:Bool)(aHeightTau:Int)(aHeightOid:Int)(aHeightR:Int)(aHeightDelta:Int)(aHeightId:Int)(bId:Int)(bHeightNull:Bool)(bHeightTau:Int)(bHeightOid:Int)(bHeightR:Int)(bHeightDelta:Int)(bHeightId:Int):Value:=(bif (less (aHeightNull) (aHeightTau) (aHeightOid) (aHeightR) (aHeightDelta) (aHeightId) (bHeightNull) (bHeightTau) (bHeightOid) (bHeightR) (bHeightDelta) (bHeightId)) then (.int .i64 (-1)) else (bif (less (bHeightNull) (bHeightTau) (bHeightOid) (bHeightR) (bHeightDelta) (bHeightId) (aHeightNull) (aHeightTau) (aHeightOid) (aHeightR) (aHeightDelta) (aHeightId)) then (.int .i64 1) else (.int .i64 0)))
def bc(u v:aa):Bool:=less u.n u.t u.o u.r u.d u.i v.n v.t v.o v.r v.d v.i
def tT(u v:aa):Int:=bif bc u v then -1 else bif bc v u then 1 else 0
theorem HA(u v:aa):decide (tT u v<0)=bc u v:=by
 unfold tT;cases bc u v with
 | true=>rfl
 | false=>cases bc v u <;> rfl
theorem xj(u v:aa):jY u.id u.n u.t u.o u.r u.d u.i v.id v.n v.t v.o v.r v.d v.i = .int .i64 (tT u v):=by
 unfold jY tT bc;cases less u.n u.t u.o u.r u.d u.i v.n v.t v.o v.r v.d v.i with
 | true=>rfl
 | false=>cases less v.n v.t v.o v.r v.d v.i u.n u.t u.o u.r u.d u.i <;> rfl
noncomputable def Mq(j:Nat):di:=(some (.int .i64 (wrapF .i64 (Int.ofNat (j+1)-1))),iN j)
theorem qv{j:Nat}(h:j<1000000):(Mq j).1=some (Mq j).2:=gJ h
noncomputable def Gx(u v:aa)(r:Bool):di:=(some (.bool (decide (tT u v<0))),.bool r)
theorem qt{u v:aa}{r:Bool}(h:bc u v=r):(Gx u v r).1=some (Gx u v r).2:=by
 show some (Value.bool (decide (tT u v<0)))=some (.bool r)
 rw [HA,h]
section
variable (us us1 us2:List aa) (n c a b i j:Nat) (x y:aa) (g:Nat→Value)
end
theorem T7{us:List aa}{a b:Nat}(h1:a≤b):us=us.take a++(us.drop a).take (b-a)++us.drop b:=by
 have e2:us.drop a=(us.drop a).take (b-a)++us.drop b:=by
  have:=(List.take_append_drop (b-a) (us.drop a)).symm
  rwa [List.drop_drop,show a+(b-a)=b by omega] at this
 rw [List.append_assoc,← e2,List.take_append_drop]
theorem HF{A X C:List aa}{a b:Nat}(hA:A.length=a)(hb:b=a+X.length):(A++X++C).take a=A∧((A++X++C).drop a).take (b-a)=X∧(A++X++C).drop b=C:=by
 subst hA;subst hb;have d1:(A++X++C).drop A.length=X++C:=by rw [List.append_assoc,List.drop_left]
 refine ⟨by rw [List.append_assoc,List.take_left],?_,?_⟩
 ·rw [d1,show A.length+X.length-A.length=X.length by omega,List.take_left]
 ·rw [← List.drop_drop,d1,List.drop_left]
def cT:Code→Code
 | .cond _ a _=>a
 | c=>c
noncomputable def Ie(i j h:Nat)(l:List di):List di:=zf i j::(some (.int .u64 (wrapF .u64 (Int.ofNat (i+j)))),uN (i+j))::(some (.int .u64 (Int.fdiv (Int.ofNat (i+j)) (2 ^ (min (Int.toNat 1) 64)))),uN h)::(some (.int .i64 (wrapF .i64 (Int.ofNat h))),iN h)::l
theorem ue{i j:Nat}{l:List di}(h:i+j<3000000)(hl:Met l):Met (Ie i j ((i+j) / 2) l):=Met.cons (xU h) (Met.cons (Gd h) (Met.cons zK (Met.cons (ot (by omega)) hl)))
noncomputable def Tg(a b:Nat)(r:Bool):di:=(some (.bool (Int.ofNat a==Int.ofNat b)),.bool r)
theorem DC{a b:Nat}{r:Bool}(h:(a==b)=r):(Tg a b r).1=some (Tg a b r).2:=by
 show some (Value.bool (Int.ofNat a==Int.ofNat b))=some (.bool r)
 rw [← h];congr 2
 cases e:(a==b) with
 | true => have:a=b:=by simpa using e
           subst this; simp
 | false =>
   have:a≠b:=by simpa using e
   exact beq_false_of_ne (fun e=>this (Int.ofNat.inj e))
section
variable (call:aH) (us us1 us2 us':List aa) (n c a m b i j h k s r p e aM q:Nat) (x y u w:aa) (d:Bool) (g:Nat→Value)
noncomputable def Te(b:Bool)(l:List di):List di:=iG i j true::Ie i j h (hU 0 n c h::j7 (hW us).get 78 0 (h*7) (.agg ⟨vc u⟩)::hU 0 n c a::j7 (hW us).get 78 0 (a*7) (.agg ⟨vc x⟩)::Gx u x b::l)
def Xb(b:Bool):List (Tmp×Value):=[(33,.bool true),(36,iN (i+j)),(37,uN (i+j)),(38,uN h),(39,iN h),(43,pb 0 (h*7)),(44,.agg ⟨vc u⟩),(47,pb 0 (a*7)),(48,.agg ⟨vc x⟩),(50,.bool b)]
end
section
variable (us us1 us2 us':List aa) (n c a m b i j h k s r p e aM q:Nat) (x y u w:aa) (d:Bool) (g:Nat→Value)
noncomputable def Tm(b:Bool)(l:List di):List di:=iG i j true::Ie i j h (hU 0 n c m::j7 (hW us).get 78 0 (m*7) (.agg ⟨vc y⟩)::hU 0 n c h::j7 (hW us).get 78 0 (h*7) (.agg ⟨vc u⟩)::Gx y u b::l)
def Xd(b:Bool):List (Tmp×Value):=[(85,.bool true),(88,iN (i+j)),(89,uN (i+j)),(90,uN h),(91,iN h),(95,pb 0 (m*7)),(96,.agg ⟨vc y⟩),(99,pb 0 (h*7)),(100,.agg ⟨vc u⟩),(102,.bool b)]
noncomputable def Tt(b:Bool)(l:List di):List di:=iG s r true::Ie s r h (rW p h::hU 0 n c (p-h)::j7 (hW us).get 78 0 ((p-h)*7) (.agg ⟨vc u⟩)::hU 0 n c h::j7 (hW us).get 78 0 (h*7) (.agg ⟨vc w⟩)::Gx u w b::l)
def Xo(b:Bool):List (Tmp×Value):=[(151,.bool true),(154,iN (s+r)),(155,uN (s+r)),(156,uN h),(157,iN h),(162,iN (p-h)),(163,pb 0 ((p-h)*7)),(164,.agg ⟨vc u⟩),(167,pb 0 (h*7)),(168,.agg ⟨vc w⟩),(170,.bool b)]
end
section
variable (call:aH) (us us':List aa) (n c a m b s e aM:Nat) (g:Nat→Value)
end
def Kn(x:aa):Prop:=known x.n x.t x.o x.r x.d x.i=true
theorem Ds{a b:Int}:dS a b<0↔a<b:=by
 have:=tS a b
 constructor
 ·intro h; rw [decide_eq_true h] at this; exact of_decide_eq_true this.symm
 ·intro h; rw [decide_eq_true h] at this; exact of_decide_eq_true this
theorem Dq{a b:Int}:dS a b=0↔a=b:=by
 have:=sx a b
 constructor
 ·intro h
  rw [h] at this;have h2:(a==b)=true:=by rw [← this]; rfl
  exact eq_of_beq h2
 ·rintro rfl
  have h2:(dS a a==0)=true:=by rw [this]; simp
  exact eq_of_beq h2
def Lex(u v:aa):Prop:=u.t<v.t∨(u.t=v.t∧(u.o<v.o∨(u.o=v.o∧(u.r<v.r∨(u.r=v.r∧(u.d<v.d∨(u.d=v.d∧u.i<v.i)))))))
theorem Al(a b c:Int):IG a b c<0↔a<0∨(a=0∧(b<0∨(b=0∧c<0))):=by
 unfold IG;rcases Decidable.em (a=0) with h | h
 ·subst h
  rcases Decidable.em (b=0) with h2 | h2
  ·subst h2; simp
  ·have:(b==0)=false:=by simpa using h2
   simp [this,h2]
 ·have:(a==0)=false:=by simpa using h
  simp [this,h]
theorem IH(a b c:Int):IG a b c=0↔a=0∧b=0∧c=0:=by
 unfold IG;rcases Decidable.em (a=0) with h | h
 ·subst h
  rcases Decidable.em (b=0) with h2 | h2
  ·subst h2; simp
  ·have:(b==0)=false:=by simpa using h2
   simp [this,h2]
 ·have:(a==0)=false:=by simpa using h
  simp [this,h]
theorem lg{u v:aa}(hu:Kn u)(hv:Kn v):bc u v=true↔Lex u v:=by
 unfold bc less Kn at *;rw [hu,hv,Bool.true_and,Bool.true_and,decide_eq_true_iff,Al];unfold qT ky kz kA;rw [hu,hv];simp only [cond_true];rw [Al,IH];simp only [Ds,Dq];unfold Lex;constructor
 ·rintro ((h | ⟨h1,h | ⟨h2,h⟩⟩) | ⟨⟨h1,h2,h3⟩,h | ⟨h4,h5⟩⟩)
  ·exact .inl h
  ·exact .inr ⟨h1,.inl h⟩
  ·exact .inr ⟨h1,.inr ⟨h2,.inl h⟩⟩
  ·exact .inr ⟨h1,.inr ⟨h2,.inr ⟨h3,.inl h⟩⟩⟩
  ·exact .inr ⟨h1,.inr ⟨h2,.inr ⟨h3,.inr ⟨h4,h5⟩⟩⟩⟩
 ·rintro (h | ⟨h1,h | ⟨h2,h | ⟨h3,h | ⟨h4,h5⟩⟩⟩⟩)
  ·exact .inl (.inl h)
  ·exact .inl (.inr ⟨h1,.inl h⟩)
  ·exact .inl (.inr ⟨h1,.inr ⟨h2,h⟩⟩)
  ·exact .inr ⟨⟨h1,h2,h3⟩,.inl h⟩
  ·exact .inr ⟨⟨h1,h2,h3⟩,.inr ⟨h4,h5⟩⟩
theorem sw:BW bc Kn where
 asym u v hu hv h:=by
  cases e:bc v u with
  | false=>rfl
  | true =>
    have h1:=(lg hu hv).1 h
    have h2:=(lg hv hu).1 e
    unfold Lex at h1 h2;omega
 ntr u v z hu hv hz h1 h2:=by
  cases e:bc u z with
  | false=>rfl
  | true =>
    have h3:=(lg hu hz).1 e
    have n1:¬ Lex u v:=fun h=>by rw [(lg hu hv).2 h] at h1; cases h1
    have n2:¬ Lex v z:=fun h=>by rw [(lg hv hz).2 h] at h2; cases h2
    unfold Lex at h3 n1 n2;omega
theorem lG{S:List aa}(hS:mJ bc S)(hK:∀ z∈S,Kn z){i j:Nat}{u v:aa}(hij:i≤j)(hu:S[i]? = some u)(hv:S[j]? = some v):bc v u=false:=by
 rcases Nat.lt_or_eq_of_le hij with h | h
 ·obtain ⟨hi,rfl⟩:=List.getElem?_eq_some_iff.1 hu
  obtain ⟨hj,rfl⟩:=List.getElem?_eq_some_iff.1 hv
  exact List.pairwise_iff_getElem.1 hS i j hi hj h
 ·subst h
  rw [hu] at hv; cases hv;exact sw.UB (hK u (List.mem_of_getElem? hu))
section
variable {A X Y C us:List aa} {a m b:Nat}
theorem K6(hus:us=A++X++Y++C)(hA:A.length=a){i:Nat}(hi:i<X.length):us[a+i]? = X[i]?:=by
 subst hus hA;rw [List.append_assoc,List.append_assoc,List.getElem?_append_right (by omega),show A.length+i-A.length=i by omega,List.getElem?_append_left hi]
theorem K7(hus:us=A++X++Y++C)(hA:A.length=a)(hm:m=a+X.length){i:Nat}(hi:i<Y.length):us[m+i]? = Y[i]?:=by
 subst hus hA hm;rw [List.append_assoc,List.getElem?_append_right (by simp),show A.length+X.length+i-(A++X).length=i by simp,List.getElem?_append_left hi]
theorem gC{S:List aa}{i:Nat}(h:i<S.length):∃ x,S[i]? = some x:=⟨_,List.getElem?_eq_getElem h⟩
end
def u3(us:List aa)(e:Exit)(st:St):Prop:=(e = .normal∨e = .ret)∧∃ g,st=aq 220 g [] [ab us]
def tu(us:List aa)(e:Exit)(st:St):Prop:=e = .ret∧∃ g,st=aq 220 g [] [ab us]
theorem um{x:aa}{Y1 Y2:List aa}(h1:∀ u∈Y1,bc u x=true)(h2:∀ u∈Y2,bc u x=false)(hY:mJ bc (Y1++Y2)):dE bc [x] (Y1++Y2)=Y1++x::Y2:=by
 obtain ⟨a,b,c⟩:=List.pairwise_append.1 hY;have:=sN (lt:=bc) (L1:=[]) (L2:=[x]) (R1:=Y1) (R2:=Y2) (fun y hy z hz=>by rw [List.mem_singleton.1 hz]; exact h1 y hy) (fun y hy z hz=>by cases hz) (fun y hy z hz=>c z hz y hy)
 rw [List.nil_append] at this;rw [this,gA a];have e:=oA (lt:=bc) (M:=[x]) (R:=Y2) (N:=[]) (fun y hy z hz=>by rw [List.mem_singleton.1 hz]; exact h2 y hy)
 rw [List.append_nil] at e;rw [e,gA b];rfl
def bs:Nat→Nat→List aa→List aa
 | _,0,us=>us
 | s,k+1,us=>match us with
   | []=>[]
   | _::_=>aN bc (us.take s)++bs s k (us.drop s)
theorem tP(s k:Nat):bs s k [] = []:=by cases k <;> rfl
theorem mU{s k:Nat}{us:List aa}:bs s (k+1) us=aN bc (us.take s)++bs s k (us.drop s):=by
 cases us with
 | nil=>simp [bs,tP]; rfl
 | cons u us=>rfl
theorem zi{s:Nat}(hs:0<s):∀ {k k':Nat} {us:List aa},us.length≤k→us.length≤k'→bs s k us=bs s k' us
 | k,k',[],_,_=>by rw [tP,tP]
 | 0,_,u::us,h,_=>by simp at h
 | _,0,u::us,_,h=>by simp at h
 | k+1,k'+1,u::us,h1,h2=>by
   rw [mU,mU];rw [zi hs (k:=k) (k':=k') (by simp at h1 ⊢; omega) (by simp at h2 ⊢; omega)]
def ja(s:Nat)(us:List aa):List aa:=bs s us.length us
theorem mT{s:Nat}{R1 R2:List aa}(hs:0<s)(h:R1.length=s):ja s (R1++R2)=aN bc R1++ja s R2:=by
 unfold ja;obtain ⟨k,hk⟩:∃ k,(R1++R2).length=k+1:=⟨(R1++R2).length-1,by simp; omega⟩
 have e1:(R1++R2).take s=R1:=by rw [← h,List.take_left]
 have e2:(R1++R2).drop s=R2:=by rw [← h,List.drop_left]
 rw [hk,mU,e1,e2];rw [zi hs (k:=k) (k':=R2.length) (by simp at hk; omega) (Nat.le_refl _)]
theorem jb{s:Nat}{R:List aa}(hs:0<s)(h:R.length≤s):ja s R=aN bc R:=by
 unfold ja;cases R with
 | nil=>rfl
 | cons r R =>
   have:(r::R).length=R.length+1:=rfl
   rw [this,mU,List.take_of_length_le h,List.drop_of_length_le h,tP,List.append_nil]
theorem CG{s:Nat}:∀ {k:Nat} {us:List aa},(bs s k us).length=us.length
 | 0,us=>rfl
 | k+1,us=>by rw [mU,List.length_append,bQ,CG,← List.length_append,List.take_append_drop]
theorem Hc{s:Nat}{us:List aa}:(ja s us).length=us.length:=CG
theorem ta{R1 R2:List aa}(h1:∀ z∈R1,Kn z)(h2:∀ z∈R2,Kn z):dE bc (aN bc R1) (aN bc R2)=aN bc (R1++R2):=yw sw h1 h2
noncomputable def OH(a b:Nat)(r:Bool):di:=(some (.bool (decide (Int.ofNat a≤Int.ofNat b))),.bool r)
theorem ui{a b:Nat}{r:Bool}(h:decide (a≤b)=r):(OH a b r).1=some (OH a b r).2:=by
 show some (Value.bool (decide (Int.ofNat a≤Int.ofNat b)))=some (.bool r)
 rw [← h,show decide (Int.ofNat a≤Int.ofNat b)=decide (a≤b) from decide_eq_decide.2 (by simp only [Int.ofNat_eq_natCast]; omega)]
noncomputable def Tv(s:Nat):di:=(some (.int .i64 (wrapF .i64 (2*Int.ofNat s))),iN (2*s))
theorem F'{s:Nat}(h:s<1000000):(Tv s).1=some (Tv s).2:=by
 have e:2*Int.ofNat s=Int.ofNat (2*s):=by simp only [Int.ofNat_eq_natCast]; omega
 show some (Value.int .i64 (wrapF .i64 (2*Int.ofNat s)))=_
 rw [e,ot (by omega)]; rfl
noncomputable def T9(s:Nat):di:=(some (.int .i64 (wrapF .i64 (Int.ofNat s*2))),iN (2*s))
theorem Mn{s:Nat}(h:s<1000000):(T9 s).1=some (T9 s).2:=by
 have e:Int.ofNat s*2=Int.ofNat (2*s):=by simp only [Int.ofNat_eq_natCast]; omega
 show some (Value.int .i64 (wrapF .i64 (Int.ofNat s*2)))=_
 rw [e,ot (by omega)]; rfl
section
variable (us us':List aa) (n c a b s:Nat) (g:Nat→Value)
end
theorem IW{R:List aa}(h:∀ z∈R,Kn z):mJ bc (aN bc R):=s9 sw h
theorem kS{R:List aa}(h:∀ z∈R,Kn z):∀ z∈aN bc R,Kn z:=fun z hz=>h z (oz.1 hz)
theorem cutAt{R:List aa}{s:Nat}(h:s≤R.length):∃ R1 R2,R=R1++R2∧R1.length=s:=⟨R.take s,R.drop s,(List.take_append_drop _ _).symm,by simp; omega⟩
end Go.Proofs.YtgeoommlmddgpaaGreat.LtA
namespace Go.Proofs.YtgeoommlmddgpaaGreat.LtA
open Go Go.Proofs Go.Proofs.YtgeoommlmddgpaaGreat.AI Go.RowKit
section
variable (o:ae) (s:Value) (vs:List aa) (n c:Nat)
end
def rowV(us:List aa)(b:Nat):Value:=match us with
 | []=>ay
 | _::_=>aW b us.length
def Wg(us:List aa):List ae:=match us with
 | []=>[]
 | _::_=>[ab us]
open Classical in
noncomputable def g34(vs:List aa):aD:=fun args hp=>match args with
 | [s]=>if TN vs s hp then some (rowV vs hp.sz,heapOf (Wg vs ++ [.dead]) hp) else none
 | _=>none
section
variable (o:ae) (n c:Nat) (id:Int)
end
theorem G4{get:Nat→Option ae}{sz b b2 k:Nat}{ws:List aa}{x:aa}(hb:get b=some (ab ws))(hb2:get b2=some (.cells 78 (vc x) false))(hk:k=ws.length)(hl:k<2000000) :
  aAppend Tryz.prog get sz [24,24] [aW b k,af b2 1 22]=some (aW sz (k+1),[.put b .dead,.push (ab (ws ++ [x]))]):=by
 subst hk;obtain ⟨i,hi,h7,pC⟩:=mj;obtain ⟨z,hz,hzl⟩:=oP;unfold ab at hb;have hsrc:aSrc Tryz.prog get 7 z (.slice 78) (af b2 1 22)=some (vc x,1):=by
  unfold aSrc;simp only [af,srcLen,srcCells,hb2];rw [if_neg (by omega),if_neg (by omega),cz (n:=1*7) rfl]
  rfl
 have hg:eF (aK ws) 0 (ws.length*7)=some (aK ws):=cz (bU ws)
 unfold aAppend;simp only [Tryz.underlying24,hi,hz,h7,pC,hzl];rw [if_neg (by decide)]
 simp only [hsrc];rw [if_neg (by simp [vc,isOne])]
 simp only [aW,af];rw [if_neg (by omega),if_neg (by omega)]
 simp only [hb,hg];rw [if_neg (by omega),if_pos (by decide),if_neg (by rw [bU]; omega)]
 unfold ab;rw [fq];have e:aK [x]=vc x:=by unfold aK; simp
 rw [e]
section
variable (o:ae) (s:Value) (n c:Nat) (y:aa) (ws us zs:List aa) (k:Nat) (i:Nat) (x:aa) (g:Nat→Value)
end
section
variable (o:ae) (n c:Nat) (y:aa) (ws us zs:List aa) (k:Nat) (i:Nat) (x:aa) (g:Nat→Value)
def hN(o:ae)(y:aa):Hp:=heapOf ([o,hB y] ++ [.dead]) aE
def vB(x:aa):ae:=.cells 78 (vc x) false
def XN(o:ae)(y:aa):Hp:=((hN o y).push (vB y)).push (ab [y])
def hR(o:ae)(ws:List aa)(y:aa):Hp:=heapOf ([o,ab ws,hB y] ++ [.dead]) aE
noncomputable def MB(o:ae)(ws us:List aa)(y:aa):Hp:=(((hR o ws y).push (vB y)).put 1 .dead).push (ab us)
end
section
variable (o:ae) (s:Value) (n c:Nat) (y:aa) (ws us:List aa) (k:Nat) (g:Nat→Value)
def hF(o:ae)(ws:List aa):Hp:=heapOf ([o,ab ws] ++ [.dead]) aE
end
def cp(y:aa)(p:List aa×Bool)(x:aa):List aa×Bool :=
 let q:=bif !p.2&&decide (x.id≥y.id) then (p.1 ++ [y],true) else p
 (bif x.id != y.id then q.1 ++ [x] else q.1,q.2)
theorem sC{α β : Type}{f : α→β→α}{a : α}{vs:List β}{i:Nat}{x : β}(h:vs[i]? = some x):(vs.take (i+1)).foldl f a=f ((vs.take i).foldl f a) x:=by
 rw [List.take_add_one,h];simp [List.foldl_append]
section
variable (o:ae) (s:Value) (y:aa)
end
section
variable {o:ae} {s:Value} {y:aa}
section
variable {vs:List aa} {n c i:Nat} {x:aa} {h:Hp}
end
end
end Go.Proofs.YtgeoommlmddgpaaGreat.LtA
namespace Go.Proofs.YtgeoommlmddgpaaGreat.LtA
open Go Go.Proofs Go.Proofs.YtgeoommlmddgpaaGreat.AI Go.RowKit Go.Proofs.YtgeoommlmddgpaaGreat.Sort
def iF(x:Int):Value:=.int .i64 x
def iB(ids:List Int):ae:=.cells 3 (ids.map iF) false
def ji(b k:Nat):Value:=.slice (some ⟨b,0,none⟩) k 4
theorem dZ(ids:List Int):aB (iB ids)=true:=by
 show List.all _ inert=true
 rw [List.all_map];exact List.all_eq_true.2 fun x _=>rfl
theorem underlying31:Tryz.prog.underlying 56=some (.slice 3):=by kernel_rfl
theorem JS:∃ i,Tryz.prog.info? 3=some i∧i.size=1∧i.bytes=8:=by
 have h:(Tryz.prog.info? 3).map (fun i=>(i.size,i.bytes))=some (1,8):=by kernel_rfl
 obtain ⟨i,h1,h2⟩:=Option.map_eq_some_iff.1 h;simp only [Prod.mk.injEq] at h2;exact ⟨i,h1,h2.1,h2.2⟩
theorem J9:∃ z,tzero Tryz.prog 3=some z∧z.length=1:=by
 have h:(tzero Tryz.prog 3).map (fun z=>z.length)=some 1:=by kernel_rfl
 obtain ⟨z,h1,h2⟩:=Option.map_eq_some_iff.1 h;exact ⟨z,h1,h2⟩
theorem G2{get:Nat→Option ae}{sz b b2 k:Nat}{ids:List Int}{x:Int}(hb:get b=some (iB ids))(hb2:get b2=some (.cells 3 [iF x] false))(hk:k=ids.length)(hl:k<2000000) :
  aAppend Tryz.prog get sz [56,56] [ji b k,ji b2 1]=some (ji sz (k+1),[.put b .dead,.push (iB (ids ++ [x]))]):=by
 subst hk;obtain ⟨i,hi,h1,h8⟩:=JS;obtain ⟨z,hz,hzl⟩:=J9;unfold iB at hb;have hsrc:aSrc Tryz.prog get 1 z (.slice 3) (ji b2 1)=some ([iF x],1):=by
  unfold aSrc ji;simp only [srcLen,srcCells,hb2];rw [if_neg (by omega),if_neg (by omega),cz (n:=1*1) rfl]
  rfl
 have hg:eF (ids.map iF) 0 (ids.length*1)=some (ids.map iF):=cz (by simp)
 unfold aAppend;simp only [underlying31,hi,hz,h1,h8,hzl];rw [if_neg (by decide)]
 simp only [hsrc];rw [if_neg (by simp [isOne,iF])]
 simp only [ji];rw [if_neg (by omega),if_neg (by omega)]
 simp only [hb,hg];rw [if_neg (by omega),if_pos (by decide),if_neg (by simp)]
 unfold iB;rw [List.map_append];rfl
def rowIv(ids:List Int)(b:Nat):Value:=match ids with
 | []=>ay
 | _::_=>ji b ids.length
def rf(ids:List Int):List ae:=match ids with
 | []=>[]
 | _::_=>[iB ids]
section
variable (o ob:ae) (f:FuncId) (n c i k:Nat) (ws us:List aa) (ids:List Int) (x:aa) (b:Bool) (g:Nat→Value)
end
theorem vQ{o ob:ae}(ho:aB o=true)(hob:aB ob=true):∀ r:List ae,∀ i,i<2→∀ o',(o::ob::r)[i]? = some o'→dH 0 o':=by
 intro r i hi o' h;match i,hi with
 | 0,_=>simp at h; subst h; exact bk ho 0
 | 1,_=>simp at h; subst h; exact bk hob 0
section
variable (o ob:ae) (f:FuncId) (n c:Nat)
end
end Go.Proofs.YtgeoommlmddgpaaGreat.LtA
namespace Go.Proofs.YtgeoommlmddgpaaGreat.LtA
open Go Go.Proofs Go.Proofs.YtgeoommlmddgpaaGreat.AI Go.RowKit
def padF(k:aD):aD:=fun args hp=>match k args hp with
 | some (v,dp)=>if dp.sz=hp.sz+1 then some (v,heapOf [.dead] dp) else some (v,dp)
 | none=>none
theorem ie{P:Program}{f:FuncId}{k:aD}(hg:ax P f k):ax P f (padF k):=by
 intro args hp v hp2 he hk;unfold padF at he;split at he
 case h_2=>cases he
 rename_i v1 dp h1;split at he
 case isFalse=>cases he; exact hg args hp v hp2 h1 hk
 cases he;obtain ⟨wb,hle,hgo⟩:=hg args hp v dp h1 hk;have hsz:(heapOf [.dead] dp).sz=dp.sz+1:=rfl
 refine ⟨bD _ _ wb,by rw [hsz]; omega,fun m h w args' hfr s ra=>?_⟩
 have step:∀ v' w',(∃ m',dV m (aL hp h) w m' (aL dp h) w'∧ak m' (aL dp h) v v')→∃ m',dV m (aL hp h) w m' (aL (heapOf [.dead] dp) h) w'∧ak m' (aL (heapOf [.dead] dp) h) v v':=?_
 ·rcases hgo m h w args' (fun b a c=>hfr b a (by rw [hsz]; omega)) s ra with ⟨v',w',q1,q2⟩ | ⟨q1,q2⟩
  ·exact .inl ⟨v',w',q1,step v' w' q2⟩
  ·exact .inr ⟨q1,q2.mono fun e w' hh=>by
      obtain ⟨v',h1,h2⟩:=hh;exact ⟨v',h1,step v' w' h2⟩⟩
 rintro v' w' ⟨m',go,rv⟩;have hnew:h dp.sz=none:=hfr dp.sz hle (by rw [hsz]; omega)
 have hov:∀ b,aL (heapOf [.dead] dp) h b=if b=dp.sz then some .dead else aL dp h b:=by
  intro b;unfold aL;rw [hsz];by_cases h1:b<dp.sz
  ·rw [if_pos (by omega),if_neg (by omega),if_pos h1,heapOf_get,if_pos h1]
  ·by_cases h2:b=dp.sz
   ·subst h2
    rw [if_pos (by omega),if_pos rfl,heapOf_get,if_neg h1,Nat.sub_self]; rfl
   ·rw [if_neg (by omega),if_neg h2,if_neg h1]
 have hnone:aL dp h dp.sz=none:=by
  unfold aL;rw [if_neg (by omega)]; exact hnew
 have hmn:m' dp.sz=none:=by
  cases e:m' dp.sz with
  | none=>rfl
  | some x=>obtain ⟨o,ho,_⟩:=go.sim.dom _ x e; rw [hnone] at ho; cases ho
 have hne:∀ b x,m' b=some x→b≠dp.sz:=fun b x hx e=>by subst e; rw [hmn] at hx; cases hx
 have hke:∀ b o,aL dp h b=some o→b≠dp.sz:=fun b o hb e=>by subst e; rw [hnone] at hb; cases hb
 have le2:Le m' (aL dp h) m' (aL (heapOf [.dead] dp) h):=⟨fun b hb=>by rw [hov,if_neg (hke b _ hb)]; exact hb,fun b x hx=>.inr hx⟩
 have rwS:∀ b,b≠dp.sz→rw? (aL (heapOf [.dead] dp) h) b=rw? (aL dp h) b:=fun b hb=>by unfold rw?; rw [hov,if_neg hb]
 have lvS:∀ b,b≠dp.sz→aV (aL (heapOf [.dead] dp) h) b=aV (aL dp h) b:=fun b hb=>by unfold aV; rw [hov,if_neg hb]
 refine ⟨m',⟨go.le.trans le2,⟨fun b x hx=>?_,fun b b' x x' hx hx' hr hl e=>go.sim.inj b b' x x' hx hx' (by rw [← rwS b (hne b x hx)]; exact hr) (by rw [← lvS b' (hne b' x' hx')]; exact hl) e⟩,go.size,go.new,go.frame,go.un,fun b o hb hm=>?_,fun b o hb=>?_,fun b x hx hr=>?_,go.os,go.tape,go.output⟩,rv.mono le2⟩
 ·obtain ⟨o,ho,hbr⟩:=go.sim.dom b x hx
  exact ⟨o,by rw [hov,if_neg (hne b x hx)]; exact ho,hbr.mono le2 rfl⟩
 ·have:=go.idle b o hb hm
  rw [hov,if_neg (hke b _ this)]; exact this
 ·obtain ⟨o',ho'⟩:=go.ex b o hb
  exact ⟨o',by rw [hov,if_neg (hke b _ ho')]; exact ho'⟩
 ·have hb1:b≠dp.sz:=by
   intro e;subst e;unfold rw? at hr;rw [hov,if_pos rfl] at hr;cases hr
  exact go.rwb b x hx (by rw [← rwS b hb1]; exact hr)
theorem nu{k:aD}{args:List Value}{hp:Hp}{v:Value}{B:ae}(h:k args hp=some (v,heapOf [B,.dead] hp)):padF k args hp=some (v,heapOf [B,.dead] hp):=by
 unfold padF;rw [h];have:(heapOf [B,.dead] hp).sz=hp.sz+2:=rfl
 simp only [this];rw [if_neg (by omega)]
theorem p5{k:aD}{args:List Value}{hp:Hp}{v:Value}(h:k args hp=some (v,heapOf [.dead] hp)):padF k args hp=some (v,heapOf [.dead,.dead] hp):=by
 unfold padF;rw [h];have:(heapOf [ae.dead] hp).sz=hp.sz+1:=rfl
 simp only [this];rfl
def jE(vs:List aa):ae:=match vs with
 | []=>.dead
 | _::_=>ab vs
section
variable (o:ae) (s:Value) (n:Nat) (y a:aa) (b rb:Bool) (z:Int) (v1 v2 v3 v4 v5:Value) (B1 B2 B3 B4 B5:ae) (e f:Nat)
def we(o:ae)(y:aa)(B1:ae):Hp:=heapOf [B1,.dead] (Tk o y)
noncomputable def OG(o:ae)(y a:aa)(B1:ae):Hp:=Xc a (Xc a (we o y B1))
end
end Go.Proofs.YtgeoommlmddgpaaGreat.LtA
namespace Go.Proofs.YtgeoommlmddgpaaGreat.LtA
open Go Go.Proofs Go.Proofs.YtgeoommlmddgpaaGreat.AI Go.RowKit Go.Proofs.YtgeoommlmddgpaaGreat.Sort
def dx(ids:List Int):ae:=match ids with
 | []=>.dead
 | _::_=>iB ids
theorem E9{k:aD}{args:List Value}{hp:Hp}{v:Value}{ids:List Int}(h:k args hp=some (v,heapOf (rf ids ++ [.dead]) hp)):padF k args hp=some (v,heapOf [dx ids,.dead] hp):=by
 cases ids with
 | nil=>exact p5 h
 | cons=>exact nu h
section
variable (o:ae) (own:aa) (vs:List aa) (n c k:Nat) (ids:List Int)
end
section
variable (o:ae) (own:aa) (vs:List aa) (n c k:Nat) (ids:List Int)
end
noncomputable def sl:Ext:=cS Tryz.prog [(203,g57),(44,g17)]
noncomputable def BX:aH:=aCall Tryz.prog sl 5
theorem gR:ba Tryz.prog BX:=aP (by unfold sl; exact aT (.cons PW (.cons MD .nil))) follows 5
noncomputable def pz:Code:=(Tryz.f180.body).getD .skip
noncomputable def LA:Code:=sL pz
noncomputable def LB:Code:=sL (sR pz)
noncomputable def LC:Code:=sL (sR (sR pz))
noncomputable def LD:Code:=sL (sL (sR (sR (sR pz))))
noncomputable def xZ:Code:=nQ (jm (sR (sL (sR (sR (sR pz))))))
noncomputable def LF:Code:=sR (sR (sR (sR pz)))
noncomputable abbrev kq:Code:=.seq LA (.seq LB (.seq LC (.seq (.seq LD (.block 0 (.loop xZ))) LF)))
theorem xV:Tryz.f180.body=some kq:=by kernel_rfl
theorem ntmps21:Tryz.f180.ntmps=33:=by kernel_rfl
theorem X5:codeSafe Tryz.prog 33 kq=true:=by kernel_rfl
theorem Wh:codeSafe Tryz.prog 33 LA=true:=by kernel_rfl
theorem Wi:codeSafe Tryz.prog 33 LB=true:=by kernel_rfl
theorem Wj:codeSafe Tryz.prog 33 LC=true:=by kernel_rfl
theorem Wk:codeSafe Tryz.prog 33 LD=true:=by kernel_rfl
theorem FA:codeSafe Tryz.prog 33 xZ=true:=by kernel_rfl
theorem Wl:codeSafe Tryz.prog 33 LF=true:=by kernel_rfl
theorem Tq(x:aa)(b:Bool)(g:Nat→Value):retVal Tryz.prog Tryz.f180 (aq 33 g [(2,pb 0 0),(3,.bool b)] [vB x])=some (.tuple #[.agg ⟨vc x⟩,.bool b]):=by kernel_rfl
def toldV(x:aa):Bool:=told x.n x.t x.o x.r x.d x.i
section
variable (o:ae) (n c i:Nat) (x y:aa) (b:Bool) (g:Nat→Value)
theorem Vb:(execE Tryz.prog BX [] [] [] 10 LA ⟨tmsOf [af 0 n c] 0 .leaf,heapOf [o,.dead] aE,[]⟩).map (fun z=>(look2 1 [0,2] [0,2] (z.1,z.2.1),z.2.2)) =
 some ((.normal,[o,vB (zeroV 0)],[(0,af 0 n c),(2,pb 1 0)],true),[],[],[]):=by kernel_rfl
theorem Vc:(execE Tryz.prog BX [] [] [] 10 LB (aq 33 g [(0,af 0 n c),(2,pb 1 0)] [o,vB (zeroV 0)])).map (fun z=>(look2 1 [0,1,3] [0,2,4] (z.1,z.2.1),z.2.2)) =
 some ((.normal,[o,vB (zeroV 0),vB (zeroV 0)],[(0,af 0 n c),(2,pb 1 0),(4,pb 2 0)],true),[],[],[]):=by kernel_rfl
theorem Vd:(execE Tryz.prog BX [] [] [] 10 LC (aq 33 g [(0,af 0 n c),(2,pb 1 0),(4,pb 2 0)] [o,vB (zeroV 0),vB (zeroV 0)])).map (fun z=>(look2 1 [0,1,2] [0,2,4,5] (z.1,z.2.1),z.2.2)) =
 some ((.normal,[o,vB (zeroV 0),vB (zeroV 0)],[(0,af 0 n c),(2,pb 1 0),(4,pb 2 0),(5,.bool false)],true),[],[],[]):=by kernel_rfl
abbrev GV(y:aa)(b:Bool)(i:Nat)(g:Nat→Value):St:=aq 33 g [(2,pb 1 0),(4,pb 2 0),(5,.bool b),(9,af 0 n c),(10,iN n),(11,iN i)] [o,vB (zeroV 0),vB y]
theorem Ve:(execE Tryz.prog BX [] [] [] 10 LD (aq 33 g [(0,af 0 n c),(2,pb 1 0),(4,pb 2 0),(5,.bool false)] [o,vB (zeroV 0),vB (zeroV 0)])).map (fun z=>(look2 1 [0,1,2] [2,4,5,9,10,11] (z.1,z.2.1),z.2.2)) =
 some ((.normal,[o,vB (zeroV 0),vB (zeroV 0)],[(2,pb 1 0),(4,pb 2 0),(5,.bool false),(9,af 0 n c),(10,iN n),(11,iN 0)],true),[],[],[]):=by kernel_rfl
theorem Vl:(execE Tryz.prog BX [(12,.bool false)] [] [] 20 xZ (GV o n c y b i g)).map (fun z=>(look2 0 [1,2] [2,4,5] (z.1,z.2.1),z.2.2)) =
 some ((.exit 0,[vB (zeroV 0),vB y],[(2,pb 0 0),(4,pb 1 0),(5,.bool b)],true),[iG i n false],[],[]):=by kernel_rfl
noncomputable def QM(l:List di):List di:=iG i n true::hU 0 n c i::j7 (heapOf ([o,vB (zeroV 0),vB y] ++ [.dead]) aE).get 78 0 (i*7) (.agg ⟨vc x⟩)::l
def Gy:List (Tmp×Value):=[(12,.bool true),(13,pb 0 (i*7)),(14,.agg ⟨vc x⟩),(30,iN (i+1))]
noncomputable def OL(x:aa)(b:Bool):di:=(some (.bool (toldV x)),.bool b)
noncomputable def Tn(x y:aa)(b:Bool):di:=(some (.bool (bc x y)),.bool b)
theorem Vf:(execE Tryz.prog BX (Gy i x ++ [(17,.bool false)]) [] [] 20 xZ (GV o n c y b i g)).map (fun z=>(look2 1 [0,1,2] [2,4,5,9,10,11] (z.1,z.2.1),z.2.2)) =
 some ((.normal,[o,vB (zeroV 0),vB y],[(2,pb 1 0),(4,pb 2 0),(5,.bool b),(9,af 0 n c),(10,iN n),(11,iN (i+1))],true),QM o n c i x y [OL x false,dJ i],[],[]):=by kernel_rfl
theorem Vg:(execE Tryz.prog BX (Gy i x ++ [(17,.bool true)]) [] [] 20 xZ (GV o n c y false i g)).map (fun z=>(look2 1 [0,1,2] [2,4,5,9,10,11] (z.1,z.2.1),z.2.2)) =
 some ((.normal,[o,vB (zeroV 0),vB x],[(2,pb 1 0),(4,pb 2 0),(5,.bool true),(9,af 0 n c),(10,iN n),(11,iN (i+1))],true),QM o n c i x y [OL x true,dJ i],[],[]):=by kernel_rfl
theorem Vh:(execE Tryz.prog BX (Gy i x ++ [(17,.bool true),(26,.bool true)]) [] [] 20 xZ (GV o n c y true i g)).map (fun z=>(look2 1 [0,1,2] [2,4,5,9,10,11] (z.1,z.2.1),z.2.2)) =
 some ((.normal,[o,vB (zeroV 0),vB x],[(2,pb 1 0),(4,pb 2 0),(5,.bool true),(9,af 0 n c),(10,iN n),(11,iN (i+1))],true),QM o n c i x y [OL x true,Tn x y true,dJ i],[],[]):=by kernel_rfl
theorem Vi:(execE Tryz.prog BX (Gy i x ++ [(17,.bool true),(26,.bool false)]) [] [] 20 xZ (GV o n c y true i g)).map (fun z=>(look2 1 [0,1,2] [2,4,5,9,10,11] (z.1,z.2.1),z.2.2)) =
 some ((.normal,[o,vB (zeroV 0),vB y],[(2,pb 1 0),(4,pb 2 0),(5,.bool true),(9,af 0 n c),(10,iN n),(11,iN (i+1))],true),QM o n c i x y [OL x true,Tn x y false,dJ i],[],[]):=by kernel_rfl
theorem Vj:(execE Tryz.prog BX [] [] [] 20 LF (aq 33 g [(2,pb 0 0),(4,pb 1 0),(5,.bool b)] [vB (zeroV 0),vB y])).map (fun z=>(look2 0 [0] [2,3] (z.1,z.2.1),z.2.2)) =
 some ((.ret,[vB y],[(2,pb 0 0),(3,.bool b)],true),[],[],[]):=by kernel_rfl
theorem Vk:(execQ Tryz.prog BX [] 40 kq ⟨tmsOf [ay] 0 .leaf,heapOf [.dead] aE,[]⟩).map (fun z=>(look2 0 [1] [2,3] (z.1,z.2.1),z.2.2))=some ((.ret,[vB (zeroV 0)],[(2,pb 0 0),(3,.bool false)],true),[]):=by kernel_rfl
end
def pE(p:aa×Bool)(x:aa):aa×Bool:=bif toldV x&&(!p.2||bc x p.1) then (x,true) else p
def eN(vs:List aa):aa×Bool:=vs.foldl pE (zeroV 0,false)
def Cd(vs:List aa)(e:Exit)(st:St):Prop:=e = .ret∧∃ g,st=aq 33 g [(2,pb 0 0),(3,.bool (eN vs).2)] [vB (eN vs).1]
theorem Nj(o:ae)(ho:aB o=true)(vs:List aa)(hn:vs.length<1000000)(hrow:vs = []∨∃ ty ro,o = .cells ty (aK vs) ro)(c:Nat)(W:bg) :
  al Tryz.prog 33 W kq ⟨tmsOf [af 0 vs.length c] 0 .leaf,heapOf [o,.dead] aE,[]⟩ (Cd vs):=by
 refine al.seq (Q1:=fun x st=>x = .normal∧∃ g,st=aq 33 g [(0,af 0 vs.length c),(2,pb 1 0)] [o,vB (zeroV 0)]) (al.aJ gR follows 1 _ _ _ _ (Vb o vs.length c) Met.nil az.nil aA.nil Wh rfl rfl (ct ho _) fun g=>⟨rfl,g,rfl⟩) ?_ (fun x st hne hq=>absurd hq.1 hne)
 rintro st ⟨-,g,rfl⟩;refine al.seq (Q1:=fun x st=>x = .normal∧∃ g,st=aq 33 g [(0,af 0 vs.length c),(2,pb 1 0),(4,pb 2 0)] [o,vB (zeroV 0),vB (zeroV 0)]) (al.aJ gR follows 1 _ _ _ _ (Vc o vs.length c g) Met.nil az.nil aA.nil Wi rfl rfl (ct ho _) fun g=>⟨rfl,g,rfl⟩) ?_ (fun x st hne hq=>absurd hq.1 hne)
 rintro st ⟨-,g,rfl⟩;refine al.seq (Q1:=fun x st=>x = .normal∧∃ g,st=aq 33 g [(0,af 0 vs.length c),(2,pb 1 0),(4,pb 2 0),(5,.bool false)] [o,vB (zeroV 0),vB (zeroV 0)]) (al.aJ gR follows 1 _ _ _ _ (Vd o vs.length c g) Met.nil az.nil aA.nil Wj rfl rfl (ct ho _) fun g=>⟨rfl,g,rfl⟩) ?_ (fun x st hne hq=>absurd hq.1 hne)
 rintro st ⟨-,g,rfl⟩;refine al.seq (Q1:=fun x st=>x = .normal∧∃ g,st=aq 33 g [(2,pb 0 0),(4,pb 1 0),(5,.bool (eN vs).2)] [vB (zeroV 0),vB (eN vs).1]) ?_ ?_ (fun x st hne hq=>absurd hq.1 hne)
 ·refine al.seq (Q1:=fun x st=>x = .normal∧∃ g,st=GV o vs.length c (zeroV 0) false 0 g) (al.aJ gR follows 1 _ _ _ _ (Ve o vs.length c g) Met.nil az.nil aA.nil Wk rfl rfl (ct ho _) fun g=>⟨rfl,g,rfl⟩) ?_ (fun x st hne hq=>absurd hq.1 hne)
  rintro st ⟨-,g,rfl⟩;refine al.block ?_
  refine al.loop (fun k st=>∃ i y b g,i≤vs.length∧k=vs.length-i∧(vs.take i).foldl pE (zeroV 0,false)=(y,b)∧st=GV o vs.length c y b i g) ?_ (k:=vs.length) ⟨0,_,_,g,Nat.zero_le _,rfl,rfl,rfl⟩
  rintro k st ⟨i,y,b,g,hi,hk,hf,rfl⟩;cases h12:decide (i<vs.length) with
  | false =>
    have hii:i=vs.length:=by have:=of_decide_eq_false h12; omega
    subst hii;rw [List.take_length] at hf;refine al.aJ gR follows 0 _ _ _ _ (Vl o vs.length c vs.length y b g) (Met.cons (bz h12) Met.nil) az.nil aA.nil FA rfl rfl (dI _) fun g'=>.inr ⟨by simp,?_⟩
    show (if (0:Nat)=0 then _ else _)
    rw [if_pos rfl];refine ⟨rfl,g',?_⟩
    unfold eN;rw [hf]
  | true =>
    have hlt:=of_decide_eq_true h12
    obtain ⟨x,hx⟩:=gC hlt;have hr:∃ ty ro,o = .cells ty (aK vs) ro:=by
      rcases hrow with h | h
      ·rw [h] at hlt; simp at hlt
      ·exact h
    have hst:=sC (f:=pE) (a:=(zeroV 0,false)) hx
    rw [hf] at hst;have hat:eG (heapOf ([o,vB (zeroV 0),vB y] ++ [.dead]) aE) 0 vs:=kH hr
    have met:∀ {l:List di},Met l→Met (QM o vs.length c i x y l):=fun hl=>Met.cons (bz h12) (Met.cons (dh hlt) (Met.cons (fh hat hx) hl))
    have hnx:Met [dJ i]:=Met.cons (bq (by omega)) Met.nil
    have tob:∀ {b:Bool},toldV x=b→(OL x b).1=some (OL x b).2:=fun h=>by show some (Value.bool (toldV x))=_; rw [h]; rfl
    have leb:∀ {b:Bool},bc x y=b→(Tn x y b).1=some (Tn x y b).2:=fun h=>by show some (Value.bool (bc x y))=_; rw [h]; rfl
    have go:∀ {y':aa} {b':Bool} {g':Nat→Value},pE (y,b) x=(y',b')→∃ k',k'<k∧∃ j z d g,j≤vs.length∧k'=vs.length-j∧(vs.take j).foldl pE (zeroV 0,false)=(z,d)∧GV o vs.length c y' b' (i+1) g'=GV o vs.length c z d j g :=
      fun {y' b' g'} h=>⟨vs.length-(i+1),by omega,i+1,y',b',g',by omega,rfl,by rw [hst,h],rfl⟩
    cases h17:toldV x with
    | false =>
      refine al.aJ gR follows 1 _ _ _ _ (Vf o vs.length c i x y b g) (met (Met.cons (tob h17) hnx)) az.nil aA.nil FA rfl rfl (ct ho _) fun g'=>.inl ⟨rfl,go ?_⟩
      unfold pE; rw [h17]; rfl
    | true =>
      cases b with
      | false =>
        refine al.aJ gR follows 1 _ _ _ _ (Vg o vs.length c i x y g) (met (Met.cons (tob h17) hnx)) az.nil aA.nil FA rfl rfl (ct ho _) fun g'=>.inl ⟨rfl,go ?_⟩
        unfold pE; rw [h17]; rfl
      | true =>
        cases h26:bc x y with
        | true =>
          refine al.aJ gR follows 1 _ _ _ _ (Vh o vs.length c i x y g) (met (Met.cons (tob h17) (Met.cons (leb h26) hnx))) az.nil aA.nil FA rfl rfl (ct ho _) fun g'=>.inl ⟨rfl,go ?_⟩
          unfold pE; simp only [h17,h26]; rfl
        | false =>
          refine al.aJ gR follows 1 _ _ _ _ (Vi o vs.length c i x y g) (met (Met.cons (tob h17) (Met.cons (leb h26) hnx))) az.nil aA.nil FA rfl rfl (ct ho _) fun g'=>.inl ⟨rfl,go ?_⟩
          unfold pE; simp only [h17,h26]; rfl
 ·rintro st ⟨-,g,rfl⟩
  exact al.aJ gR follows 0 _ _ _ _ (Vj (eN vs).1 (eN vs).2 g) Met.nil az.nil aA.nil Wl rfl rfl (dI _) fun g=>⟨rfl,g,rfl⟩
theorem Io(W:bg):al Tryz.prog 33 W kq ⟨tmsOf [ay] 0 .leaf,heapOf [.dead] aE,[]⟩ (Cd []) :=
 al.piece gR follows 0 _ _ _ _ Vk Met.nil X5 rfl rfl rfl (dI _) fun g=>⟨rfl,g,rfl⟩
def EH(vs:List aa):Value:=.tuple #[.agg ⟨vc (eN vs).1⟩,.bool (eN vs).2]
open Classical in
noncomputable def g21(vs:List aa):aD:=fun args hp=>match args with
 | [s]=>if TN vs s hp then some (EH vs,heapOf ([] ++ [.dead]) hp) else none
 | _=>none
theorem Ug(vs:List aa)(hn:vs.length<1000000):ax Tryz.prog 180 (g21 vs):=dP follows Tryz.func180 xV (by kernel_rfl) fun args hp v hp' h hk=>by
 unfold g21 at h;rw [ntmps21];split at h
 case h_2=>cases h
 rename_i s;split at h
 case isFalse=>cases h
 rename_i hT;cases h;have fin:∀ {e:Exit} {st:St},Cd vs e st→(e = .normal∨e = .ret)∧st.df = []∧∃ v0,retVal Tryz.prog Tryz.f180 st=some v0∧iz v0=true ∧
   (∀ b∈([]:List Nat),∃ o,st.hp.get b=some o∧c9 o=true∧nW o=true)∧EH vs=sh3 [] hp.sz v0∧[]=cV [] hp.sz st.hp:=by
  rintro e st ⟨rfl,g,rfl⟩;exact ⟨.inr rfl,rfl,_,Tq _ _ g,rfl,(fun b hb=>by cases hb),by simp [sh3,sh2,sh1,EH,vc],rfl⟩
 rcases hT with ⟨rfl,rfl⟩ | ⟨b,c,o,rfl,hb,hi,hr⟩
 ·refine ⟨[],[],[],rfl,rfl,rfl,rfl,(fun b hb=>by cases hb),rfl,(by simp),fun W=>?_⟩
  have e1 : [ay].map (sh3 [] 0) = [ay]:=by simp [sh3,sh2,sh1,ay]
  rw [e1];exact al.mono (Io W) fun e st q=>fin q
 ·refine ⟨[b],[],[],rfl,rfl,rfl,rfl,fun b' hb'=>?_,rfl,(by simp),fun W=>?_⟩
  ·have:b'=b:=by simpa using hb'
   subst this;exact ⟨o,hb,bb hi⟩
  ·have e1 : [af b vs.length c].map (sh3 [b] 0) = [af 0 vs.length c]:=by simp [sh3,sh2,sh1,j8,idxOf,af]
   rw [e1,iq hb hi];exact al.mono (Nj (roBlk o) (cm hi) vs hn (e8 hr) c W) fun e st q=>fin q
noncomputable def KC:aD:=atRow (fun _=>True) g21
theorem P4:ax Tryz.prog 180 KC:=fI fun vs hn _=>Ug vs hn
open Classical in
theorem KD{vs:List aa}{s:Value}{hp:Hp}(h:TN vs s hp)(hn:vs.length<1000000):KC [s] hp=some (EH vs,heapOf [.dead] hp):=by
 unfold KC;rw [iY h hn trivial];show (if TN vs s hp then _ else _)=_
 rw [if_pos h]; rfl
def vI(f:Bool)(b k:Nat):Value:=bif f then ji b k else ay
def kk(f:Bool)(k:Nat):Nat:=bif f then k else 0
section
variable (o A B:ae) (own x y u w:aa) (n c q i ka kb:Nat) (z x1 x2:Int) (b lb fa fb:Bool) (g:Nat→Value)
def h7(o:ae)(own:aa):Hp:=heapOf ([o,hB own] ++ [.dead]) aE
noncomputable def hu(r:Bool):di:=(some (.bool (decide (Int.ofNat n>100))),.bool r)
end
section
variable (own:aa)
end
def oR(P:List aa)(p:aa×Bool):Prop:=(p.2=true→p.1∈P∧Kn p.1∧∀ x∈P,Kn x→bc x p.1=false)∧(p.2=false→∀ x∈P,¬ Kn x)
theorem xp{x:aa}:toldV x=true↔Kn x:=Iff.rfl
theorem EJ{P:List aa}{p:aa×Bool}(h:oR P p)(x:aa):oR (P ++ [x]) (pE p x):=by
 obtain ⟨y,b⟩:=p;obtain ⟨h1,h2⟩:=h;unfold pE;have inl:∀ {z},z∈P→z∈P ++ [x]:=fun h=>by simp [h]
 have mem:∀ {z},z∈P ++ [x]→z∈P∨z=x:=fun h=>by simpa using h
 cases ht:toldV x with
 | false =>
   have nk:¬ Kn x:=fun h=>by rw [xp.2 h] at ht; cases ht
   refine ⟨fun hb=>?_,fun hb z hz=>?_⟩
   ·obtain ⟨a1,a2,a3⟩:=h1 hb
    exact ⟨inl a1,a2,fun z hz hk=>by
      rcases mem hz with hz | rfl
      ·exact a3 z hz hk
      ·exact absurd hk nk⟩
   ·rcases mem hz with hz | rfl
    ·exact h2 hb z hz
    ·exact nk
 | true =>
   have hk:=xp.1 ht
   cases b with
   | false =>
     show oR _ (x,true)
     exact ⟨fun _=>⟨by simp,hk,fun z hz hkz=>by
       rcases mem hz with hz | rfl
       ·exact absurd hkz (h2 rfl z hz)
       ·exact sw.UB hk⟩,fun h=>by cases h⟩
   | true =>
     obtain ⟨a1,a2,a3⟩:=h1 rfl;cases hl:bc x y with
     | true =>
       show oR _ (x,true)
       exact ⟨fun _=>⟨by simp,hk,fun z hz hkz=>by
         rcases mem hz with hz | rfl
         ·cases e:bc z x with
          | false=>rfl
          | true=>rw [← a3 z hz hkz]; exact (sw.trans hkz hk a2 e hl).symm
         ·exact sw.UB hk⟩,fun h=>by cases h⟩
     | false =>
       show oR _ (y,true)
       exact ⟨fun _=>⟨inl a1,a2,fun z hz hkz=>by
         rcases mem hz with hz | rfl
         ·exact a3 z hz hkz
         ·exact hl⟩,fun h=>by cases h⟩
theorem wA:∀ {R P:List aa} {p:aa×Bool},oR P p→oR (P++R) (R.foldl pE p)
 | [],P,p,h=>by rw [List.append_nil]; exact h
 | r::R,P,p,h=>by
   have:=wA (R:=R) (EJ h r)
   rw [List.append_assoc] at this;exact this
theorem Nk(vs:List aa):oR vs (eN vs):=by
 have:=wA (R:=vs) (P:=[]) (p:=(zeroV 0,false)) ⟨(fun h=>by cases h),(fun _ x hx=>by cases hx)⟩
 exact this
section
variable {hp:Hp}
end
theorem e7(ids:List Int):aB (dx ids)=true:=by
 cases ids with
 | nil=>rfl
 | cons=>exact dZ _
theorem aS{a b:Bool}(h:a=b):(some (Value.bool a))=some (.bool b):=by rw [h]
section
variable {o A B:ae} {own y:aa} {c q:Nat} {lb fa fb:Bool} {vs:List aa} {ia ib:List Int}
end
def vS(f:Bool)(b n c:Nat):Value:=bif f then af b n c else ay
def hS(f:Bool)(o:ae):Hp:=bif f then heapOf [o,.dead] aE else heapOf [.dead] aE
def Cg(fn:Func)(v0:Value)(O:List ae)(e:Exit)(st:St):Prop:=(e = .normal∨e = .ret)∧st.df = []∧retVal Tryz.prog fn st=some v0∧∀ B,O[0]? = some B→st.hp.get 0=some B
def stay(v:Value):Prop:=iz v=true∧∀ K B,sh3 K B v=v
theorem xe(k:IntKind)(z:Int):stay (.int k z):=⟨rfl,fun _ _=>rfl⟩
theorem yR(y:aa):stay (cx y):=⟨rfl,fun _ _=>by simp [sh3,sh2,sh1,cx]⟩
abbrev xD:=List Value→Option (Value×List ae)
open Classical in
noncomputable def rowG(vs:List aa)(A:xD):aD:=fun args hp=>match args with
 | s::rest=>if TN vs s hp then (A rest).map fun r=>(sh3 (List.range r.2.length) hp.sz r.1,heapOf (r.2 ++ [.dead]) hp) else none
 | _=>none
structure l9 (fn:Func) (code:Code) (N:Nat) (vs:List aa) (rest:List Value) (v0:Value) (O:List ae):Prop where
 out:O = []∨∃ B,O = [B]∧aB B=true∧nW B=true
 okv:iz v0=true
 flat:∀ r∈rest,stay r
 len:rest.length+1≤N
 run:∀ f o c W,aB o=true→(vs = []∨∃ ty ro,o = .cells ty (aK vs) ro)→(f=false→vs = []∧o = .dead)→al Tryz.prog N W code ⟨tmsOf (vS f 0 vs.length c::rest) 0 .leaf,hS f o,[]⟩ (Cg fn v0 O)
theorem xf{rest:List Value}(h:∀ r∈rest,stay r)(K:List Nat):rest.map (sh3 K 0)=rest:=by
 induction rest with
 | nil=>rfl
 | cons r rest ih=>rw [List.map_cons,(h r (.head _)).2,ih fun x hx=>h x (.tail _ hx)]
theorem xc{rest:List Value}(h:∀ r∈rest,stay r):rest.all iz=true:=List.all_eq_true.2 fun r hr=>(h r hr).1
open Classical in
theorem w6{f:FuncId}{fn:Func}{code:Code}{N:Nat}{vs:List aa}{A:xD}(hf:Tryz.prog.funcs[f]? = some fn)(hb:fn.body=some code)(hnm:(fn.name == "runtime.NumGoroutine")=false)(hN:fn.ntmps=N)
  (H:∀ rest v0 O,A rest=some (v0,O)→l9 fn code N vs rest v0 O):ax Tryz.prog f (rowG vs A):=dP follows hf hb hnm fun args hp v hp' h hk=>by
 rw [hN];unfold rowG at h;split at h
 case h_2=>cases h
 rename_i s rest;split at h
 case isFalse=>cases h
 rename_i hT;obtain ⟨⟨v0,O⟩,hA,h2⟩:=Option.map_eq_some_iff.1 h;cases h2;have R:=H rest v0 O hA
 have run:∃ (K0:List Nat),nodupB K0=true∧(∀ b∈K0,∃ o,hp.get b=some o∧cj o=true)∧(s::rest).all iz=true∧∀ W,al Tryz.prog N W code ⟨tmsOf ((s::rest).map (sh3 K0 0)) 0 .leaf,eC K0 hp,[]⟩ (Cg fn v0 O):=by
  rcases hT with ⟨rfl,rfl⟩ | ⟨b,c,ob,rfl,hb,hi,hr⟩
  ·refine ⟨[],rfl,(fun b hb=>by cases hb),(by rw [List.all_cons,xc R.flat]; rfl),fun W=>?_⟩
   have e1:(ay::rest).map (sh3 [] 0)=ay::rest:=by rw [List.map_cons,xf R.flat]; simp [sh3,sh2,sh1,ay]
   rw [e1];exact R.run false .dead 0 W rfl (.inl rfl) fun _=>⟨rfl,rfl⟩
  ·refine ⟨[b],rfl,fun b' hb'=>?_,(by rw [List.all_cons,xc R.flat]; rfl),fun W=>?_⟩
   ·have:b'=b:=by simpa using hb'
    subst this;exact ⟨ob,hb,bb hi⟩
   ·have e1:(af b vs.length c::rest).map (sh3 [b] 0)=af 0 vs.length c::rest:=by rw [List.map_cons,xf R.flat]; simp [sh3,sh2,sh1,j8,idxOf,af]
    rw [e1,iq hb hi];exact R.run true (roBlk ob) c W (cm hi) (e8 hr) fun h=>by cases h
 obtain ⟨K0,n0,hst,hall,hrun⟩:=run;have hle:(s::rest).length≤N:=by have:=R.len; simpa using this
 have hnn:nodupB (List.range O.length)=true:=by
  rcases R.out with h | ⟨B,h,-⟩ <;> rw [h] <;> rfl
 refine ⟨K0,List.range O.length,O,rfl,by simp,n0,hnn,hst,hall,hle,fun W=>al.mono (hrun W) fun e st q=>?_⟩
 obtain ⟨q1,q2,q3,q4⟩:=q;refine ⟨q1,q2,v0,q3,R.okv,?_,rfl,?_⟩
 ·intro b' hb'
  rcases R.out with h | ⟨B,h,hi,hw⟩
  ·subst h; cases hb'
  ·subst h
   have:b'=0:=by simpa using hb'
   subst this;exact ⟨B,q4 B rfl,fp hi,hw⟩
 ·rcases R.out with h | ⟨B,h,hi,hw⟩
  ·subst h; rfl
  ·subst h
   show [B] = [jX [0] hp.sz ((st.hp.get 0).getD .dead)]
   rw [q4 B rfl];exact congrArg (fun z=>[z]) (dz hi [0] hp.sz).symm
noncomputable def nO(A:List aa→xD):aD:=atRow (fun _=>True) fun vs=>rowG vs (A vs)
theorem jT{f:FuncId}{fn:Func}{code:Code}{N:Nat}{A:List aa→xD}(hf:Tryz.prog.funcs[f]? = some fn)(hb:fn.body=some code)(hnm:(fn.name == "runtime.NumGoroutine")=false)(hN:fn.ntmps=N)
 (H:∀ vs,vs.length<1000000→∀ rest v0 O,A vs rest=some (v0,O)→l9 fn code N vs rest v0 O):ax Tryz.prog f (nO A):=fI fun vs hn _=>w6 hf hb hnm hN (H vs hn)
open Classical in
theorem rL{A:List aa→xD}{vs:List aa}{s:Value}{rest:List Value}{hp:Hp}{v0:Value}{O:List ae}(h:TN vs s hp)(hn:vs.length<1000000)(hA:A vs rest=some (v0,O)) :
  nO A (s::rest) hp=some (sh3 (List.range O.length) hp.sz v0,heapOf (O ++ [.dead]) hp):=by
 unfold nO;rw [iY h hn trivial];show (if TN vs s hp then _ else _)=_
 rw [if_pos h,hA]; rfl
theorem y4{A:List aa→xD}{vs:List aa}{s:Value}{rest:List Value}{hp:Hp}{v0:Value}(h:TN vs s hp)(hn:vs.length<1000000)(hA:A vs rest=some (v0,[]))(hv:sh3 [] hp.sz v0=v0):nO A (s::rest) hp=some (v0,heapOf [.dead] hp):=by
 rw [rL h hn hA];show some (sh3 [] hp.sz v0,_)=_
 rw [hv]; rfl
theorem te{A:List aa→xD}{vs:List aa}{s:Value}{rest:List Value}{hp:Hp}{ids:List Int}(h:TN vs s hp)(hn:vs.length<1000000)(hA:A vs rest=some (rowIv ids 0,rf ids)) :
  padF (nO A) (s::rest) hp=some (rowIv ids hp.sz,heapOf [dx ids,.dead] hp):=by
 refine E9 ?_
 rw [rL h hn hA];cases ids with
 | nil=>rfl
 | cons i ids=>show some (sh3 [0] hp.sz (ji 0 _),_)=_; simp [sh3,sh2,sh1,j8,idxOf,ji,rowIv]
theorem w5(ids:List Int):rf ids = []∨∃ B,rf ids = [B]∧aB B=true∧nW B=true:=by
 cases ids with
 | nil=>exact .inl rfl
 | cons i ids=>exact .inr ⟨iB (i::ids),rfl,dZ _,rfl⟩
theorem Ar(ids:List Int):iz (rowIv ids 0)=true:=by cases ids <;> rfl
theorem mr(us:List aa):aB (jE us)=true:=by
 cases us with
 | nil=>rfl
 | cons=>exact ah _
def gv(f:Bool)(b:Nat)(B:ae):List eS:=bif f then [.put b .dead,.push B] else [.push B]
theorem mn{f:Bool}{vs:List aa}{o:ae}(h:f=false→vs = []∧o = .dead):kk f vs.length=vs.length:=by
 cases f with
 | true=>rfl
 | false=>rw [(h rfl).1]; rfl
section
variable (f:Bool) (o:ae) (n c i:Nat) (x y:aa) (b:Bool) (g:Nat→Value)
end
theorem zg{get:Nat→Option ae}{sz b b2 k:Nat}{ws:List aa}{x:aa}{f:Bool}(hf:f = !ws.isEmpty)(hb:get b=some (jE ws))(hb2:get b2=some (vB x))(hk:k=ws.length)(hl:k<2000000) :
  aAppend Tryz.prog get sz [24,24] [vS f b k 22,af b2 1 22]=some (aW sz (k+1),gv f b (ab (ws ++ [x]))):=by
 cases ws with
 | cons w ws=>subst hf; exact G4 hb hb2 hk hl
 | nil =>
   subst hf hk;obtain ⟨i,hi,h7,pC⟩:=mj;obtain ⟨z,hz,hzl⟩:=oP;have hb2':get b2=some (.cells 78 (vc x) false):=hb2
   have hsrc:aSrc Tryz.prog get 7 z (.slice 78) (af b2 1 22)=some (vc x,1):=by
     unfold aSrc;simp only [af,srcLen,srcCells,hb2'];rw [if_neg (by omega),if_neg (by omega),cz (n:=1*7) rfl]
     rfl
   show aAppend Tryz.prog get sz [24,24] [ay,af b2 1 22]=some (aW sz 1,[.push (ab [x])])
   unfold aAppend;simp only [Tryz.underlying24,hi,hz,h7,pC,hzl];rw [if_neg (by decide)]
   simp only [hsrc];rw [if_neg (by simp [vc,isOne])]
   simp only [ay];rw [if_neg (by omega),if_neg (by omega)]
   have e:aK [x]=vc x:=by unfold aK; simp
   unfold ab;rw [e]; rfl
theorem vj{get:Nat→Option ae}{sz b b2 k:Nat}{ids:List Int}{x:Int}{f:Bool}(hf:f = !ids.isEmpty)(hb:get b=some (dx ids))(hb2:get b2=some (.cells 3 [iF x] false))(hk:k=ids.length)(hl:k<2000000) :
  aAppend Tryz.prog get sz [56,56] [vI f b k,ji b2 1]=some (ji sz (k+1),gv f b (iB (ids ++ [x]))):=by
 cases ids with
 | cons w ids=>subst hf; exact G2 hb hb2 hk hl
 | nil =>
   subst hf hk;obtain ⟨i,hi,h1,h8⟩:=JS;obtain ⟨z,hz,hzl⟩:=J9;have hsrc:aSrc Tryz.prog get 1 z (.slice 3) (ji b2 1)=some ([iF x],1):=by
     unfold aSrc ji;simp only [srcLen,srcCells,hb2];rw [if_neg (by omega),if_neg (by omega),cz (n:=1*1) rfl]
     rfl
   show aAppend Tryz.prog get sz [56,56] [ay,ji b2 1]=some (ji sz 1,[.push (iB [x])])
   unfold aAppend;simp only [underlying31,hi,hz,h1,h8,hzl];rw [if_neg (by decide)]
   simp only [hsrc];rw [if_neg (by simp [isOne,iF])]
   simp only [ay];rw [if_neg (by omega),if_neg (by omega)]
   rfl
noncomputable def Xa(h:Hp)(sz b k b2:Nat)(f:Bool)(us:List aa):jr:=(aAppend Tryz.prog h.get sz [24,24] [vS f b k 22,af b2 1 22],(aW sz (k+1),gv f b (ab us)))
noncomputable def XM(h:Hp)(sz b k b2:Nat)(f:Bool)(us:List Int):jr:=(aAppend Tryz.prog h.get sz [56,56] [vI f b k,ji b2 1],(ji sz (k+1),gv f b (iB us)))
section
variable (f fu fm d fi:Bool) (o U M I:ae) (n c u m i k q j:Nat) (x w:aa) (us ws zs ys:List aa) (ids jds:List Int) (g:Nat→Value)
end
theorem k6{α : Type}{l:List α}(h:l≠[]):(!l.isEmpty)=true:=by
 cases l with
 | nil=>exact absurd rfl h
 | cons=>rfl
theorem pV{α : Type}(l:List α)(x : α):(!(l ++ [x]).isEmpty)=true:=k6 (by simp)
theorem pZ{l:List aa}(h:l≠[]):jE l=ab l:=by
 cases l with
 | nil=>exact absurd rfl h
 | cons=>rfl
theorem uy{l:List Int}(h:l≠[]):dx l=iB l:=by
 cases l with
 | nil=>exact absurd rfl h
 | cons=>rfl
theorem qP{α : Type}(l:List α)(x : α):l ++ [x]≠[]:=by simp
section
variable {o:ae} {vs us:List aa} {c i:Nat} {x:aa}
end
theorem Bc{N:Nat}{W:bg}{b:Code}{kb:Nat}{α β : Type}{vs:List β}(F : α→β→α)(a0 : α)(I : α→Nat→(Nat→Value)→St)(Q : α→St→Prop)(R:Exit→St→Prop)
  (hx:∀ a g,vs.foldl F a0=a→al Tryz.prog N W b (I a vs.length g) (fun e st=>e = .exit kb∧Q a st))
  (hs:∀ i x a g,vs[i]? = some x→i<vs.length→(vs.take i).foldl F a0=a→al Tryz.prog N W b (I a i g) (fun e st=>(e = .normal∧∃ g',st=I (F a x) (i+1) g')∨(e = .ret∧R e st)))
  (g:Nat→Value):al Tryz.prog N W (.block kb (.loop b)) (I a0 0 g) (fun e st=>(e = .normal∧Q (vs.foldl F a0) st)∨(e = .ret∧R e st)):=by
 refine al.block ?_
 refine al.loop (fun k st=>∃ i a g,i≤vs.length∧k=vs.length-i∧(vs.take i).foldl F a0=a∧st=I a i g) ?_ (k:=vs.length) ⟨0,a0,g,Nat.zero_le _,rfl,rfl,rfl⟩
 rintro k st ⟨i,a,g,hi,hk,ha,rfl⟩;rcases Nat.lt_or_ge i vs.length with hlt | hge
 ·have hxx:vs[i]? = some vs[i]:=List.getElem?_eq_getElem hlt
  refine al.mono (hs i vs[i] a g hxx hlt ha) fun e st q=>?_
  rcases q with ⟨rfl,g',rfl⟩ | ⟨rfl,hr⟩
  ·exact .inl ⟨rfl,vs.length-(i+1),by omega,i+1,_,g',by omega,rfl,by rw [sC hxx,ha],rfl⟩
  ·exact .inr ⟨by simp,.inr ⟨rfl,hr⟩⟩
 ·have hii:i=vs.length:=by omega
  subst hii;rw [List.take_length] at ha;refine al.mono (hx a g ha) fun e st q=>.inr ?_
  obtain ⟨rfl,hq⟩:=q;refine ⟨by simp,?_⟩
  show (if kb=kb then _ else _)
  rw [if_pos rfl];exact .inl ⟨rfl,by rw [ha]; exact hq⟩
theorem jx{N:Nat}{W:bg}{b:Code}{kb:Nat}{α β : Type}{vs:List β}(F : α→β→α)(a0 : α)(I : α→Nat→(Nat→Value)→St)(Q : α→St→Prop)
  (hx:∀ a g,vs.foldl F a0=a→al Tryz.prog N W b (I a vs.length g) (fun e st=>e = .exit kb∧Q a st))
  (hs:∀ i x a g,vs[i]? = some x→i<vs.length→(vs.take i).foldl F a0=a→al Tryz.prog N W b (I a i g) (fun e st=>e = .normal∧∃ g',st=I (F a x) (i+1) g'))
  (g:Nat→Value):al Tryz.prog N W (.block kb (.loop b)) (I a0 0 g) (fun e st=>e = .normal∧Q (vs.foldl F a0) st) :=
 al.mono (Bc F a0 I Q (fun _ _=>False) hx (fun i x a g h1 h2 h3=>al.mono (hs i x a g h1 h2 h3) fun e st q=>.inl q) g) fun e st q=>by
  rcases q with q | ⟨-,h⟩
  ·exact q
  ·exact h.elim
def unH:Value→Option aa
 | .agg cs=>match cs.toList with
   | [.bool n,.int .i64 t,.int .i64 o,.int .i64 r,.int .i64 d,.int .i64 i]=>some ⟨0,n,t,o,r,d,i⟩
   | _=>none
 | _=>none
theorem nP{v:Value}{y:aa}(h:unH v=some y):v=cx y:=by
 unfold unH at h;split at h
 ·rename_i cs
  split at h
  ·rename_i n t o r d i hcs
   cases h;obtain rfl:=cO hcs;rfl
  ·cases h
 ·cases h
def DR(p:aa→Bool)(us:List aa)(x:aa):List aa:=bif p x then us ++ [x] else us
theorem qx{p:aa→Bool}:∀ {vs us:List aa},vs.foldl (DR p) us=us++vs.filter p
 | [],us=>by simp
 | v::vs,us=>by
   rw [List.foldl_cons,qx];unfold DR;cases h:p v with
   | true=>rw [List.filter_cons_of_pos h]; simp
   | false=>rw [List.filter_cons_of_neg (by rw [h]; simp)]; rfl
section
variable (f fu fi b:Bool) (o U I:ae) (n c u i q:Nat) (x own:aa) (zs:List aa) (ids:List Int) (g:Nat→Value)
end
section
variable (f fu fi b:Bool) (o U I:ae) (n c u i q:Nat) (x own:aa) (zs:List aa) (ids:List Int) (g:Nat→Value)
end
section
variable (f fu:Bool) (o U:ae) (n c u i:Nat) (lt lo lr keep:Int) (x:aa) (zs:List aa) (g:Nat→Value)
def PL(o U:ae)(lt lo lr:Int):Hp:=heapOf ([o,U,o6 lt lo lr] ++ [.dead]) aE
end
def AI_unL:Value→Option (Int×Int×Int)
 | .agg cs=>match cs.toList with
   | [.int .i64 a,.int .i64 b,.int .i64 c]=>some (a,b,c)
   | _=>none
 | _=>none
theorem rM{v:Value}{a b c:Int}(h:AI_unL v=some (a,b,c)):v=jB a b c:=by
 unfold AI_unL at h;split at h
 ·rename_i cs
  split at h
  ·rename_i n t o hcs
   cases h;obtain rfl:=cO hcs;rfl
  ·cases h
 ·cases h
theorem qL{α β : Type}{m : α→β}:∀ {vs:List α} {us:List β},vs.foldl (fun us x=>us ++ [m x]) us=us++vs.map m
 | [],us=>by simp
 | v::vs,us=>by rw [List.foldl_cons,qL]; simp
noncomputable def OB:aD:=padF (atRow (fun _=>True) g29)
theorem P6:ax Tryz.prog 169 OB:=ie (fI fun vs hn _=>Ui vs hn)
end Go.Proofs.YtgeoommlmddgpaaGreat.LtA
namespace Go.Proofs.YtgeoommlmddgpaaGreat.LtA
open Go Go.Proofs Go.Proofs.YtgeoommlmddgpaaGreat.AI Go.RowKit
section
variable {hp:Hp}
theorem KE{vs:List aa}{s:Value}(y:aa)(h:TN vs s hp)(hn:vs.length<1000000):S9 [s,.int .i64 y.id,cx y] hp=match aF vs&&cU y with
  | true=>some (.tuple #[af hp.sz (cG vs y).length (setC s vs y.id),iN 0],heapOf [ab (cG vs y),.dead] hp)
  | false=>some (.tuple #[ay,iN 1],heapOf [.dead] hp):=by
 unfold S9;rw [iY h hn trivial,Mw y h];all_goals cases (aF vs&&cU y) <;> rfl
end
end Go.Proofs.YtgeoommlmddgpaaGreat.LtA
namespace Go.Proofs.YtgeoommlmddgpaaGreat.LtL
open Go Go.Proofs Go.Proofs.YtgeoommlmddgpaaGreat.AI Go.RowKit Go.Proofs.YtgeoommlmddgpaaGreat.Sort Go.Proofs.YtgeoommlmddgpaaGreat.LtA
def ab(us:List aa):ae:=.cells 151 (aK us) false
def vB(x:aa):ae:=.cells 151 (vc x) false
theorem ah(vs:List aa):aB (.cells 151 (aK vs) false)=true:=dG vs
theorem bu(us:List aa):∀ r:List ae,∀ i,i<1→∀ o',(ab us::r)[i]? = some o'→dH 0 o':=ct (ah us)
theorem yK:bZ Tryz.prog 151=some 7:=by kernel_rfl
theorem Pv:tagg Tryz.prog 151=some true:=by kernel_rfl
theorem underlying80:Tryz.prog.underlying 149=some (.slice 151):=by kernel_rfl
theorem bP{b n i c:Nat}(h:i<n):fstV ((aIndexAddr Tryz.prog 149 (af b n c) (iN i)).map fun v=>(v,none))=some (.pointer (some ⟨b,i*7,none⟩)):=by
 have h1:(0:Int)≤Int.ofNat i∧Int.ofNat i<(n:Int):=⟨Int.natCast_nonneg i,by simpa using h⟩
 simp only [aIndexAddr,af,iN,underlying80,yK];rw [if_pos h1];simp [fstV]
theorem bT{hp:Hp}{b:Nat}{vs:List aa}{i:Nat}{p:aa}(ho:eG hp b vs)(h:vs[i]? = some p):aLoad Tryz.prog hp.get 151 (.pointer (some ⟨b,i*7,none⟩))=some (.agg ⟨vc p⟩):=by
 obtain ⟨ty,ro,rest,hg⟩:=ho;simp only [aLoad,hg,Pv,yK];have:=kV (f:=vc) (k:=7) (ps:=vs) (fun _ _=>rfl) h
 unfold aK;rw [vW this];rfl
noncomputable def hU(b n c:Nat)(i:Nat):di:=(fstV ((aIndexAddr Tryz.prog 149 (af b n c) (iN i)).map fun v=>(v,none)),pb b (i*7))
def Fc:Value:=.func (.func 126) #[] #[]
theorem QN{m:BM}{h:HG}{v:Value}(r:ak m h Fc v):v=Fc:=by
 unfold Fc at *;cases r with
 | flat hf=>rfl
 | func h1 h2 h3 h4 =>
   rename_i a' c';have e1:a' = #[]:=Array.eq_empty_of_size_eq_zero h1.symm
   have e2:c' = #[]:=Array.eq_empty_of_size_eq_zero h3.symm
   subst e1 e2;rfl
def cN(us:List aa)(s:Value)(hp:Hp):Prop:=∃ b c,s=af b us.length c∧hp.get b=some (ab us)
theorem cN.uniq{us vs:List aa}{s:Value}{hp:Hp}(h1:cN us s hp)(h2:cN vs s hp):us=vs:=by
 obtain ⟨b,c,rfl,hb⟩:=h1;obtain ⟨b',c',e,hb'⟩:=h2;simp only [af,Value.slice.injEq,Option.some.injEq,Addr.mk.injEq,and_true] at e;obtain ⟨rfl,-,-⟩:=e;rw [hb] at hb';simp only [ab,Option.some.injEq,ae.cells.injEq,true_and,and_true] at hb';exact rQ hb'
open Classical in
noncomputable def atW(k:List aa→aD):aD:=fun args hp=>match args with
 | s::_=>if h:∃ us,cN us s hp∧us.length<1000000 then k h.choose args hp else none
 | _=>none
theorem fX{f:FuncId}{k:List aa→aD}(h:∀ us,us.length<1000000→ax Tryz.prog f (k us)):ax Tryz.prog f (atW k):=by
 intro args hp v hp' he hk;unfold atW at he;split at he
 case h_2=>cases he
 split at he
 ·rename_i hx
  exact h _ hx.choose_spec.2 _ _ _ _ he hk
 ·cases he
theorem mb{k:List aa→aD}{us:List aa}{s:Value}{r:List Value}{hp:Hp}(h:cN us s hp)(hn:us.length<1000000):atW k (s::r) hp=k us (s::r) hp:=by
 unfold atW;have hx:∃ us,cN us s hp∧us.length<1000000:=⟨us,h,hn⟩
 simp only;rw [dif_pos hx];rw [hx.choose_spec.1.uniq h]
def hW(us:List aa):Hp:=heapOf ([ab us] ++ [.dead]) aE
theorem dC(us:List aa):(hW us).get 0=some (ab us):=by unfold hW; rw [av]; rfl
theorem fA(us:List aa):eG (hW us) 0 us:=.of (dC us)
noncomputable def yO(h:Hp)(i:Nat)(v:aa)(us':List aa):jr:=((aStore Tryz.prog h.get 151 (pb 0 (i*7)) (.agg ⟨vc v⟩)).map fun es=>(undef,es),(undef,[.put 0 (ab us')]))
theorem jN{h:Hp}{us:List aa}{i:Nat}{v:aa}(hg:h.get 0=some (ab us))(hi:i<us.length):(yO h i v (us.set i v)).1=some (yO h i v (us.set i v)).2:=by
 obtain ⟨x,hx⟩:∃ x,us[i]? = some x:=⟨_,List.getElem?_eq_getElem hi⟩
 have hcell:cellsL (.agg ⟨vc v⟩)=vc v:=rfl
 have hput:=p8 (k:=0) (y:=v) (ns:=vc v) hx (by simp [vc]) (fun j hj=>by
  rw [if_pos ⟨Nat.zero_le _,by show j<0+7; omega⟩,Nat.sub_zero])
 rw [Nat.add_zero] at hput;unfold ab at hg;unfold yO pb;simp only [aStore,hg,yK,hcell];rw [if_pos]
 ·rw [hput]; rfl
 ·rw [Bool.and_eq_true,Bool.and_eq_true]
  refine ⟨⟨rfl,rfl⟩,decide_eq_true ?_⟩
  rw [bU]; omega
theorem ny{h:Hp}{us:List aa}:(h.put 0 (ab us)).get 0=some (ab us):=by rw [Hp.dB,if_pos rfl]
theorem fh{h:Hp}{us:List aa}{i:Nat}{x:aa}(hat:eG h 0 us)(hx:us[i]? = some x):(j7 h.get 151 0 (i*7) (.agg ⟨vc x⟩)).1=some (j7 h.get 151 0 (i*7) (.agg ⟨vc x⟩)).2:=bT hat hx
theorem dh{i n c:Nat}(h:i<n):(hU 0 n c i).1=some (hU 0 n c i).2:=bP h
noncomputable def JL:Code:=(Tryz.f219.body).getD .skip
noncomputable def C4:Code:=sL JL
noncomputable def zo:Code:=nQ (jm (sR JL))
noncomputable abbrev zz:Code:=.seq C4 (.block 0 (.loop zo))
theorem Ha:Tryz.f219.body=some zz:=by kernel_rfl
theorem ntmps114:Tryz.f219.ntmps=38:=by kernel_rfl
theorem Ss:codeSafe Tryz.prog 38 C4=true:=by kernel_rfl
theorem J3:codeSafe Tryz.prog 38 zo=true:=by kernel_rfl
theorem U7(O:List ae)(g:Nat→Value):retVal Tryz.prog Tryz.f219 (aq 38 g [] O)=some vU:=by kernel_rfl
section
variable (us us1 us2:List aa) (n c a m k i:Nat) (x y:aa) (f:Value) (g:Nat→Value)
abbrev GU(us:List aa)(i:Nat)(g:Nat→Value):St:=aq 38 g [(0,af 0 n c),(1,iN a),(2,iN m),(3,iN k),(10,iN i)] [ab us]
theorem Ru:(execE Tryz.prog c0 [] [] [] 10 C4 ⟨tmsOf [af 0 n c,iN a,iN m,iN k,f] 0 .leaf,heapOf [ab us,.dead] aE,[]⟩).map (fun z=>(look2 1 [0] [0,1,2,3,10] (z.1,z.2.1),z.2.2)) =
 some ((.normal,[ab us],[(0,af 0 n c),(1,iN a),(2,iN m),(3,iN k),(10,iN 0)],true),[],[],[]):=by kernel_rfl
theorem Rw:(execE Tryz.prog c0 [(13,.bool false)] [] [] 10 zo (GU n c a m k us i g)).map (fun z=>(look2 1 [0] [] (z.1,z.2.1),z.2.2))=some ((.exit 0,[ab us],[],true),[iG i k false],[],[]):=by kernel_rfl
theorem Rv:(execE Tryz.prog c0 [(13,.bool true),(19,iN (a+i)),(23,iN (m+i)),(27,iN (m+i)),(28,pb 0 ((m+i)*7)),(29,.agg ⟨vc y⟩),(33,iN (a+i)),(34,pb 0 ((a+i)*7)),(35,.agg ⟨vc x⟩),(36,pb 0 ((a+i)*7)),(37,pb 0 ((m+i)*7)),(15,iN (i+1))] []
  [(1036,undef,[.put 0 (ab us1)]),(1037,undef,[.put 0 (ab us2)])] 10 zo (GU n c a m k us i g)).map (fun z=>(look2 1 [0] [0,1,2,3,10] (z.1,z.2.1),z.2.2)) =
 some ((.normal,[ab us2],[(0,af 0 n c),(1,iN a),(2,iN m),(3,iN k),(10,iN (i+1))],true),
  [iG i k true,zf a i,zf m i,zf m i,hU 0 n c (m+i),j7 (hW us).get 151 0 ((m+i)*7) (.agg ⟨vc y⟩),zf a i,hU 0 n c (a+i),j7 (hW us).get 151 0 ((a+i)*7) (.agg ⟨vc x⟩),hU 0 n c (a+i),hU 0 n c (m+i),dJ i],[],
  [yO (hW us) (a+i) y us1,yO ((hW us).put 0 (ab us1)) (m+i) x us2]):=by kernel_rfl
end
def u5(N:Nat)(us:List aa)(e:Exit)(st:St):Prop:=e = .normal∧∃ g,st=aq N g [] [ab us]
theorem I2{A X B Y C us:List aa}{n c a m k:Nat}{f:Value}(hus:us=A++X++B++Y++C)(hX:X.length=k)(hY:Y.length=k)(hA:A.length=a)(hm:m=a+k+B.length)(hn:n=us.length)(hl:n<1000000)(W:bg)(x:Nat×Nat×Nat) :
  a8 Tryz.prog 38 W x zz ⟨tmsOf [af 0 n c,iN a,iN m,iN k,f] 0 .leaf,heapOf [ab us,.dead] aE,[]⟩ (u5 38 (A++Y++B++X++C)):=by
 refine a8.seq (Q1:=fun e st=>e = .normal∧∃ g,st=GU n c a m k us 0 g) (a8.piece jW follows 1 _ _ _ _ (Ru us n c a m k f) Met.nil az.nil aA.nil Ss rfl rfl (bu us []) rfl fun g=>⟨rfl,g,rfl⟩) ?_ (fun x st hne hq=>absurd hq.1 hne)
 rintro st ⟨-,g,rfl⟩;refine a8.block ?_
 refine a8.loop (fun j st=>∃ X1 X2 Y1 Y2 g,X=X1++X2∧Y=Y1++Y2∧X1.length=Y1.length∧j=X2.length∧st=GU n c a m k (A++Y1++X2++B++X1++Y2++C) X1.length g) ?_ (k:=X.length)
  ⟨[],X,[],Y,g,rfl,rfl,rfl,rfl,by simp [hus]⟩
 rintro j st ⟨X1,X2,Y1,Y2,g,rfl,rfl,h1,rfl,rfl⟩;rw [List.length_append] at hX hY;cases h13:decide (X1.length<k) with
 | false =>
   have hz:X2 = []:=List.eq_nil_of_length_eq_zero (by have:=of_decide_eq_false h13; omega)
   have hz2:Y2 = []:=List.eq_nil_of_length_eq_zero (by have:=of_decide_eq_false h13; omega)
   subst hz hz2;refine a8.piece jW follows 1 _ _ _ _ (Rw (A++Y1 ++ []++B++X1 ++ []++C) n c a m k X1.length g) (Met.cons (bz h13) Met.nil) az.nil aA.nil J3 rfl rfl (bu _ []) rfl fun g'=>.inr ⟨by simp,?_⟩
   show (if (0:Nat)=0 then _ else _)
   rw [if_pos rfl];exact ⟨rfl,g',by simp⟩
 | true =>
   have hlt:=of_decide_eq_true h13
   match X2,Y2 with
   | [],_=>simp at hX; omega
   | _::_,[]=>simp at hY hX; omega
   | x'::X2,y'::Y2 =>
     have e1:A++Y1++x'::X2++B++X1++y'::Y2++C=(A++Y1)++x'::(X2++B++X1++y'::Y2++C):=by simp
     have e2:(A++Y1)++y'::(X2++B++X1++y'::Y2++C)=(A++Y1 ++ [y']++X2++B++X1)++y'::(Y2++C):=by simp
     have e3:A++Y1++x'::X2++B++X1++y'::Y2++C=(A++Y1++x'::X2++B++X1)++y'::(Y2++C):=by simp
     have p1:(A++Y1).length=a+X1.length:=by simp; omega
     simp only [List.length_cons] at hX hY;have p2:(A++Y1 ++ [y']++X2++B++X1).length=m+X1.length:=by simp; omega
     have p3:(A++Y1++x'::X2++B++X1).length=m+X1.length:=by simp; omega
     have hlen:(A++Y1++x'::X2++B++X1++y'::Y2++C).length=n:=by rw [hn,hus]; simp; omega
     have hi1:a+X1.length<n:=by rw [← hlen]; simp; omega
     have hi2:m+X1.length<n:=by rw [← hlen]; simp; omega
     generalize hcur:A++Y1++x'::X2++B++X1++y'::Y2++C=cur at *;have hx:cur[a+X1.length]? = some x':=by rw [e1]; exact iE p1
     have hy:cur[m+X1.length]? = some y':=by rw [e3]; exact iE p3
     have s1:cur.set (a+X1.length) y'=(A++Y1)++y'::(X2++B++X1++y'::Y2++C):=by rw [e1]; exact iJ p1
     have s2:(cur.set (a+X1.length) y').set (m+X1.length) x'=A++(Y1 ++ [y'])++X2++B++(X1 ++ [x'])++Y2++C:=by
       rw [s1,e2,iJ p2]; simp
     refine a8.piece jW follows 1 _ _ _ _ (Rv cur (cur.set (a+X1.length) y') ((cur.set (a+X1.length) y').set (m+X1.length) x') n c a m k X1.length x' y' g)
       (Met.cons (bz h13) (Met.cons (gP (by omega)) (Met.cons (gP (by omega)) (Met.cons (gP (by omega)) (Met.cons (dh hi2) (Met.cons (fh (fA _) hy) (Met.cons (gP (by omega)) (Met.cons (dh hi1) (Met.cons (fh (fA _) hx) (Met.cons (dh hi1) (Met.cons (dh hi2) (Met.cons (bq (by omega)) Met.nil))))))))))))
       az.nil (aA.cons (jN (dC _) (by omega)) (aA.cons (jN ny (by rw [List.length_set]; omega)) aA.nil)) J3 rfl rfl (bu _ []) rfl fun g'=>.inl ⟨rfl,X2.length,by simp,X1 ++ [x'],X2,Y1 ++ [y'],Y2,g',by simp,by simp,by simp; omega,rfl,?_⟩
     rw [s2,List.length_append];rfl
open Classical in
noncomputable def g114(us:List aa):aD:=fun args hp=>match args with
 | [.slice (some ⟨b,0,none⟩) n c,.int .i64 (.ofNat a),.int .i64 (.ofNat m),.int .i64 (.ofNat k),f] =>
   if f=Fc∧cN us (.slice (some ⟨b,0,none⟩) n c) hp∧a+k≤m∧m+k≤us.length then some (vU,hp.put b (ab (xi us a m k))) else none
 | _=>none
theorem uE{us:List aa}{b n c:Nat}{hp:Hp}(hk:hp.ok)(hb:hp.get b=some (ab us)){m:BM}{h:HG}{v:Value}(r:ak m (aL hp h) (af b n c) v):∃ x,m b=some x∧ak (canM m [b]) (heapOf [ab us,.dead] aE).get (af 0 n c) v:=by
 obtain ⟨_,_,rr,oo,cap,q1,rfl,hcap,hh⟩:=r.dN;cases q1;have gb:=bx hk h b _ hb
 rcases hh with hd | ⟨δ,E,hm,hoff,hcok⟩
 ·rw [gb] at hd; cases hd
 ·exact ⟨_,hm,.slice hcap (.inr ⟨δ,E,hm,hoff,hcok⟩)⟩
theorem Cf{m m':BM}{h h':HG}{v:Value}(r:ak m h Fc v):ak m' h' Fc v:=by
 rw [QN r]; exact ak.plain rfl
theorem PR(us:List aa)(hn:us.length<1000000):ax Tryz.prog 219 (g114 us):=ig follows Tryz.func219 Ha (by kernel_rfl) fun args hp v hp' he hk=>by
 unfold g114 at he;split at he
 case h_2=>cases he
 rename_i b n c a m k f;split at he
 case isFalse=>cases he
 rename_i hT;cases he;obtain ⟨rfl,⟨b',c',e,hb⟩,h1,h2⟩:=hT;simp only [af,Value.slice.injEq,Option.some.injEq,Addr.mk.injEq,and_true] at e;obtain ⟨rfl,rfl,rfl⟩:=e;refine ⟨b,151,aK us,aK (xi us a m k),rfl,hb,dG _,dG _,fun mm h w args' s ra=>?_⟩
 obtain ⟨v1,bs1,e1,r1,ra1⟩:=ra.of_cons;obtain ⟨v2,bs2,e2,r2,ra2⟩:=ra1.of_cons;obtain ⟨v3,bs3,e3,r3,ra3⟩:=ra2.of_cons;obtain ⟨v4,bs4,e4,r4,ra4⟩:=ra3.of_cons;obtain ⟨v5,bs5,e5,r5,ra5⟩:=ra4.of_cons;have e6:=ra5.of_nil
 subst e6;obtain ⟨x,hx,rx⟩:=uE hk hb (n:=us.length) (c:=c) r1;refine ⟨x,hx,[af 0 us.length c,iN a,iN m,iN k,Fc],?_,by rw [ntmps114]; simp,fun W x=>?_⟩
 ·rw [e1,e2,e3,e4,e5]
  exact .cons rx (.cons (pT r2) (.cons (pT r3) (.cons (pT r4) (.cons (Cf r5) .nil))))
 ·rw [ntmps114]
  have we:((us.drop a).take k).length=k:=by simp; omega
  have hl2:((us.drop m).take k).length=k:=by simp; omega
  refine a8.mono (I2 (f:=Fc) (T8 h1 h2) we hl2 (by simp; omega) (by simp; omega) rfl hn W x) fun e st q=>?_
  obtain ⟨rfl,g,rfl⟩:=q;exact ⟨.inl rfl,rfl,vU,U7 _ g,fun m h m' h' v r=>Gm r,by show (heapOf _ aE).get 0=_; rw [av]; rfl⟩
noncomputable def Cj:aD:=atW g114
theorem MK:ax Tryz.prog 219 Cj:=fX fun us hn=>PR us hn
open Classical in
theorem tv{A X B Y C us:List aa}{b n c a m k:Nat}{hp:Hp}(hus:us=A++X++B++Y++C)(hX:X.length=k)(hY:Y.length=k)(hA:A.length=a)(hm:m=a+k+B.length)(hn:n=us.length)(hl:n<1000000)(hb:hp.get b=some (ab us)) :
  Cj [af b n c,iN a,iN m,iN k,Fc] hp=some (vU,hp.put b (ab (A++Y++B++X++C))):=by
 subst hn;have hr:cN us (af b us.length c) hp:=⟨b,c,rfl,hb⟩
 unfold Cj;rw [mb hr hl];show (if Fc=Fc∧cN us (af b us.length c) hp∧a+k≤m∧m+k≤us.length then some (vU,hp.put b (ab (xi us a m k))) else none)=_
 rw [if_pos ⟨rfl,hr,by omega,by rw [hus]; simp; omega⟩,hus,FW hX hY hA hm]
theorem wg{m m':BM}{h h':HG}:∀ {is:List Nat} {l:List Value},aC m h (is.map iN ++ [Fc]) l→aC m' h' (is.map iN ++ [Fc]) l
 | [],l,r=>by
   obtain ⟨v,bs,rfl,r1,r2⟩:=aC.of_cons (show aC m h (Fc :: []) l from r)
   have:=r2.of_nil
   subst this;exact .cons (Cf r1) .nil
 | i::is,l,r=>by
   obtain ⟨v,bs,rfl,r1,r2⟩:=aC.of_cons (show aC m h (iN i::(is.map iN ++ [Fc])) l from r)
   exact .cons (pT r1) (wg r2)
theorem kE{fn:Func}{code:Code}{us us':List aa}{b c:Nat}{is:List Nat}{hp:Hp}(hk:hp.ok)(hb:hp.get b=some (ab us))(hlen:is.length+2≤fn.ntmps)
  (run:∀ W x,a8 Tryz.prog fn.ntmps W x code ⟨tmsOf (af 0 us.length c::(is.map iN ++ [Fc])) 0 .leaf,heapOf [ab us,.dead] aE,[]⟩ (fun e st=>(e = .normal∨e = .ret)∧st.df = []∧retVal Tryz.prog fn st=some vU∧st.hp.get 0=some (ab us'))) :
  ∃ (b':Nat) (ty:TypeId) (L L':List Value),hp.put b (ab us')=hp.put b' (.cells ty L' false)∧hp.get b'=some (.cells ty L false)∧L.all inert=true∧L'.all inert=true ∧
    ∀ (m:BM) (h:HG) (w:World) (args':Array Value),cg m (aL hp h) w→aC m (aL hp h) (af b us.length c::(is.map iN ++ [Fc])) args'.toList→∃ x,m b'=some x ∧
      ∃ (args0:List Value),aC (canM m [b']) (heapOf [.cells ty L false,.dead] aE).get args0 args'.toList∧args0.length≤fn.ntmps ∧
      ∀ W x,a8 Tryz.prog fn.ntmps W x code ⟨tmsOf args0 0 .leaf,heapOf [.cells ty L false,.dead] aE,[]⟩ fun e st=>(e = .normal∨e = .ret)∧st.df = []∧∃ v0,retVal Tryz.prog fn st=some v0 ∧
        (∀ m h m' h' x,ak m h v0 x→ak m' h' vU x)∧st.hp.get 0=some (.cells ty L' false):=by
 refine ⟨b,151,aK us,aK us',rfl,hb,dG _,dG _,fun mm h w args' s ra=>?_⟩
 obtain ⟨v1,bs1,e1,r1,ra1⟩:=ra.of_cons;obtain ⟨x,hx,rx⟩:=uE hk hb (n:=us.length) (c:=c) r1;refine ⟨x,hx,af 0 us.length c::(is.map iN ++ [Fc]),?_,by simp; omega,fun W x=>a8.mono (run W x) fun e st q=>?_⟩
 ·rw [e1]
  exact .cons rx (wg ra1)
 ·exact ⟨q.1,q.2.1,vU,q.2.2.1,fun m h m' h' v r=>Gm r,q.2.2.2⟩
noncomputable def Ke:Ext:=fv (cS Tryz.prog []) [(219,Cj)]
theorem GC:ExtOk Tryz.prog Ke:=bE (aT .nil) (.cons MK .nil)
noncomputable def mX:aH:=aCall Tryz.prog Ke 5
theorem kT:ba Tryz.prog mX:=aP GC follows 5
theorem qm(args:List Value)(hp:Hp):mX 219 args hp=Cj args hp:=by
 show aCall Tryz.prog Ke 5 219 _ _=_
 rw [aCall]; rfl
noncomputable def zF:Code:=(Tryz.f209.body).getD .skip
noncomputable def CZ:Code:=sL zF
noncomputable def C0:Code:=sL (sR zF)
noncomputable def vw:Code:=nQ (jm (sL (sR (sR zF))))
noncomputable def C3:Code:=sR (sR (sR zF))
noncomputable abbrev zy:Code:=.seq CZ (.seq C0 (.seq (.block 0 (.loop vw)) C3))
theorem G':Tryz.f209.body=some zy:=by kernel_rfl
theorem ntmps111:Tryz.f209.ntmps=58:=by kernel_rfl
theorem Sp:codeSafe Tryz.prog 58 CZ=true:=by kernel_rfl
theorem Sq:codeSafe Tryz.prog 58 C0=true:=by kernel_rfl
theorem Fz:codeSafe Tryz.prog 58 vw=true:=by kernel_rfl
theorem Sr:codeSafe Tryz.prog 58 C3=true:=by kernel_rfl
theorem U6(O:List ae)(g:Nat→Value):retVal Tryz.prog Tryz.f209 (aq 58 g [] O)=some vU:=by kernel_rfl
section
variable (us us':List aa) (n c a m b i j:Nat) (g:Nat→Value)
abbrev OM(us:List aa)(g:Nat→Value):St:=aq 58 g [(0,af 0 n c),(2,iN m),(3,iN b),(4,Fc),(10,iN (m-a))] [ab us]
abbrev xN(us:List aa)(i j:Nat)(g:Nat→Value):St:=aq 58 g [(0,af 0 n c),(2,iN m),(4,Fc),(10,iN i),(11,iN j)] [ab us]
theorem Ro:(execE Tryz.prog mX [(14,iN (m-a))] [] [] 10 CZ ⟨tmsOf [af 0 n c,iN a,iN m,iN b,Fc] 0 .leaf,heapOf [ab us,.dead] aE,[]⟩).map (fun z=>(look2 1 [0] [0,2,3,4,10] (z.1,z.2.1),z.2.2)) =
 some ((.normal,[ab us],[(0,af 0 n c),(2,iN m),(3,iN b),(4,Fc),(10,iN (m-a))],true),[rW m a],[],[]):=by kernel_rfl
theorem Rp:(execE Tryz.prog mX [(17,iN (b-m))] [] [] 10 C0 (OM n c a m b us g)).map (fun z=>(look2 1 [0] [0,2,4,10,11] (z.1,z.2.1),z.2.2)) =
 some ((.normal,[ab us],[(0,af 0 n c),(2,iN m),(4,Fc),(10,iN (m-a)),(11,iN (b-m))],true),[rW b m],[],[]):=by kernel_rfl
theorem Rt:(execE Tryz.prog mX [(20,.bool false)] [] [] 10 vw (xN n c m us i j g)).map (fun z=>(look2 1 [0] [0,2,4,10,11] (z.1,z.2.1),z.2.2)) =
 some ((.exit 0,[ab us],[(0,af 0 n c),(2,iN m),(4,Fc),(10,iN i),(11,iN j)],true),[EN i j false],[],[]):=by kernel_rfl
theorem Rq:(execE Tryz.prog mX [(20,.bool true),(23,.bool true),(27,iN (m-i)),(34,iN (i-j))] [] [(31,vU,[.put 0 (ab us')])] 10 vw (xN n c m us i j g)).map (fun z=>(look2 1 [0] [0,2,4,10,11] (z.1,z.2.1),z.2.2)) =
 some ((.normal,[ab us'],[(0,af 0 n c),(2,iN m),(4,Fc),(10,iN (i-j)),(11,iN j)],true),[EN i j true,D4 i j true,rW m i,rW i j],[(mX 219 [af 0 n c,iN (m-i),iN m,iN j,Fc] (hW us),(vU,(hW us).put 0 (ab us')))],[]):=by kernel_rfl
theorem Rr:(execE Tryz.prog mX [(20,.bool true),(23,.bool false),(38,iN (m-i)),(41,iN (m+j)),(43,iN (m+j-i)),(49,iN (j-i))] [] [(46,vU,[.put 0 (ab us')])] 10 vw (xN n c m us i j g)).map (fun z=>(look2 1 [0] [0,2,4,10,11] (z.1,z.2.1),z.2.2)) =
 some ((.normal,[ab us'],[(0,af 0 n c),(2,iN m),(4,Fc),(10,iN i),(11,iN (j-i))],true),[EN i j true,D4 i j false,rW m i,zf m j,rW (m+j) i,rW j i],[(mX 219 [af 0 n c,iN (m-i),iN (m+j-i),iN i,Fc] (hW us),(vU,(hW us).put 0 (ab us')))],[]):=by kernel_rfl
theorem Rs:(execE Tryz.prog mX [(53,iN (m-i))] [] [(57,vU,[.put 0 (ab us')])] 10 C3 (xN n c m us i j g)).map (fun z=>(look2 1 [0] [] (z.1,z.2.1),z.2.2)) =
 some ((.normal,[ab us'],[],true),[rW m i],[(mX 219 [af 0 n c,iN (m-i),iN m,iN i,Fc] (hW us),(vU,(hW us).put 0 (ab us')))],[]):=by kernel_rfl
end
theorem N2{A X Y C us:List aa}{n c a m b:Nat}(hus:us=A++X++Y++C)(hA:A.length=a)(hm:m=a+X.length)(hb:b=m+Y.length)(hX:0<X.length)(hY:0<Y.length)(hn:n=us.length)(hl:n<1000000)(W:bg)(x:Nat×Nat×Nat) :
  a8 Tryz.prog 58 W x zy ⟨tmsOf [af 0 n c,iN a,iN m,iN b,Fc] 0 .leaf,heapOf [ab us,.dead] aE,[]⟩ (u5 58 (A++Y++X++C)):=by
 have hlen:us.length=a+X.length+Y.length+C.length:=by rw [hus]; simp; omega
 refine a8.seq (Q1:=fun e st=>e = .normal∧∃ g,st=OM n c a m b us g) (a8.piece kT follows 1 _ _ _ _ (Ro us n c a m b) (Met.cons (dF (by omega) (by omega)) Met.nil) az.nil aA.nil Sp rfl rfl (bu us []) rfl fun g=>⟨rfl,g,rfl⟩) ?_ (fun x st hne hq=>absurd hq.1 hne)
 rintro st ⟨-,g,rfl⟩;refine a8.seq (Q1:=fun e st=>e = .normal∧∃ g,st=xN n c m us (m-a) (b-m) g) (a8.piece kT follows 1 _ _ _ _ (Rp us n c a m b g) (Met.cons (dF (by omega) (by omega)) Met.nil) az.nil aA.nil Sq rfl rfl (bu us []) rfl fun g=>⟨rfl,g,rfl⟩) ?_ (fun x st hne hq=>absurd hq.1 hne)
 rintro st ⟨-,g,rfl⟩;refine a8.seq (Q1:=fun e st=>e = .normal∧∃ A' X' Y' C' g,A'++Y'++X'++C'=A++Y++X++C∧A'.length+X'.length=m∧X'.length=Y'.length∧st=xN n c m (A'++X'++Y'++C') X'.length Y'.length g) ?_ ?_ (fun x st hne hq=>absurd hq.1 hne)
 ·refine a8.block ?_
  refine a8.loop (fun k st=>∃ A' X' Y' C' g,A'++Y'++X'++C'=A++Y++X++C∧A'.length+X'.length=m∧0<X'.length∧0<Y'.length∧k=X'.length+Y'.length∧st=xN n c m (A'++X'++Y'++C') X'.length Y'.length g) ?_ (k:=X.length+Y.length)
    ⟨A,X,Y,C,g,rfl,by omega,hX,hY,rfl,by rw [hus,show m-a=X.length by omega,show b-m=Y.length by omega]⟩
  rintro k st ⟨A',X',Y',C',g,hT,hAm,h1,h2,hk,rfl⟩;have hln:(A'++X'++Y'++C').length=n:=by
    have:=congrArg List.length hT
    simp at this ⊢;omega
  have hle:A'.length+X'.length+Y'.length+C'.length=n:=by rw [← hln]; simp; omega
  cases h20:(X'.length != Y'.length) with
  | false =>
    have heq:X'.length=Y'.length:=by simpa using h20
    refine a8.piece kT follows 1 _ _ _ _ (Rt (A'++X'++Y'++C') n c m X'.length Y'.length g) (Met.cons (yx h20) Met.nil) az.nil aA.nil Fz rfl rfl (bu _ []) rfl fun g'=>.inr ⟨by simp,?_⟩
    show (if (0:Nat)=0 then _ else _)
    rw [if_pos rfl];exact ⟨rfl,A',X',Y',C',g',hT,hAm,heq,rfl⟩
  | true =>
    have hne:X'.length≠Y'.length:=by simpa using h20
    cases h23:decide (Y'.length<X'.length) with
    | true =>
      have hlt:=of_decide_eq_true h23
      obtain ⟨X1,X2,rfl,hX1⟩:∃ X1 X2,X'=X1++X2∧X1.length=Y'.length:=⟨X'.take Y'.length,X'.drop Y'.length,(List.take_append_drop _ _).symm,by simp; omega⟩
      rw [List.length_append] at *;have hcall:mX 219 [af 0 n c,iN (m-(X1.length+X2.length)),iN m,iN Y'.length,Fc] (hW (A'++(X1++X2)++Y'++C'))=some (vU,(hW (A'++(X1++X2)++Y'++C')).put 0 (ab (A'++Y'++X2++X1++C'))):=by
        rw [qm];exact tv (A:=A') (X:=X1) (B:=X2) (Y:=Y') (C:=C') (by simp) hX1 rfl (by omega) (by omega) (by simp; omega) hl (dC _)
      refine a8.piece kT follows 1 _ _ _ _ (Rq (A'++(X1++X2)++Y'++C') (A'++Y'++X2++X1++C') n c m (X1.length+X2.length) Y'.length g) (Met.cons (yx h20) (Met.cons (jz h23) (Met.cons (dF (by omega) (by omega)) (Met.cons (dF (by omega) (by omega)) Met.nil)))) (az.cons hcall az.nil) aA.nil Fz rfl rfl (bu _ []) rfl
        fun g'=>.inl ⟨rfl,X2.length+X1.length,by omega,A'++Y',X2,X1,C',g',?_,?_,by omega,by omega,rfl,?_⟩
      ·rw [← hT]; simp
      ·simp; omega
      ·rw [show X1.length+X2.length-Y'.length=X2.length by omega,hX1]
    | false =>
      have hlt:=of_decide_eq_false h23
      obtain ⟨Y1,Y2,rfl,hY2⟩:∃ Y1 Y2,Y'=Y1++Y2∧Y2.length=X'.length:=⟨Y'.take (Y'.length-X'.length),Y'.drop (Y'.length-X'.length),(List.take_append_drop _ _).symm,by simp; omega⟩
      rw [List.length_append] at *;have hcall:mX 219 [af 0 n c,iN (m-X'.length),iN (m+(Y1.length+Y2.length)-X'.length),iN X'.length,Fc] (hW (A'++X'++(Y1++Y2)++C'))=some (vU,(hW (A'++X'++(Y1++Y2)++C')).put 0 (ab (A'++Y2++Y1++X'++C'))):=by
        rw [qm];exact tv (A:=A') (X:=X') (B:=Y1) (Y:=Y2) (C:=C') (by simp) rfl hY2 (by omega) (by omega) (by simp; omega) hl (dC _)
      refine a8.piece kT follows 1 _ _ _ _ (Rr (A'++X'++(Y1++Y2)++C') (A'++Y2++Y1++X'++C') n c m X'.length (Y1.length+Y2.length) g) (Met.cons (yx h20) (Met.cons (jz h23) (Met.cons (dF (by omega) (by omega)) (Met.cons (gP (by omega)) (Met.cons (dF (by omega) (by omega)) (Met.cons (dF (by omega) (by omega)) Met.nil)))))) (az.cons hcall az.nil) aA.nil Fz rfl rfl (bu _ []) rfl
        fun g'=>.inl ⟨rfl,Y2.length+Y1.length,by omega,A',Y2,Y1,X'++C',g',?_,by omega,by omega,by omega,rfl,?_⟩
      ·rw [← hT]; simp
      ·rw [show Y1.length+Y2.length-X'.length=Y1.length by omega,← hY2]; simp
 ·rintro st ⟨-,A',X',Y',C',g,hT,hAm,heq,rfl⟩
  have hln:(A'++X'++Y'++C').length=n:=by
    have:=congrArg List.length hT
    simp at this ⊢;omega
  have hle:A'.length+X'.length+Y'.length+C'.length=n:=by rw [← hln]; simp; omega
  have hcall:mX 219 [af 0 n c,iN (m-X'.length),iN m,iN X'.length,Fc] (hW (A'++X'++Y'++C'))=some (vU,(hW (A'++X'++Y'++C')).put 0 (ab (A'++Y'++X'++C'))):=by
    rw [qm];have:=tv (A:=A') (X:=X') (B:=[]) (Y:=Y') (C:=C') (us:=A'++X'++Y'++C') (b:=0) (n:=n) (c:=c) (a:=m-X'.length) (m:=m) (k:=X'.length) (hp:=hW (A'++X'++Y'++C')) (by simp) rfl heq.symm (by omega) (by simp; omega) (by rw [hln]) hl (dC _)
    rw [List.append_nil] at this;exact this
  exact a8.piece kT follows 1 _ _ _ _ (Rs (A'++X'++Y'++C') (A'++Y'++X'++C') n c m X'.length Y'.length g) (Met.cons (dF (by omega) (by omega)) Met.nil) (az.cons hcall az.nil) aA.nil Sr rfl rfl (bu _ []) rfl fun g'=>⟨rfl,g',by rw [hT]⟩
open Classical in
noncomputable def g111(us:List aa):aD:=fun args hp=>match args with
 | [.slice (some ⟨k,0,none⟩) n c,.int .i64 (.ofNat a),.int .i64 (.ofNat m),.int .i64 (.ofNat b),f] =>
   if f=Fc∧cN us (.slice (some ⟨k,0,none⟩) n c) hp∧a<m∧m<b∧b≤us.length then some (vU,hp.put k (ab (N1 us a m b))) else none
 | _=>none
theorem PQ(us:List aa)(hn:us.length<1000000):ax Tryz.prog 209 (g111 us):=ig follows Tryz.func209 G' (by kernel_rfl) fun args hp v hp' he hk=>by
 unfold g111 at he;split at he
 case h_2=>cases he
 rename_i k n c a m b f;split at he
 case isFalse=>cases he
 rename_i hT;cases he;obtain ⟨rfl,⟨b',c',e,hb⟩,h1,h2,h3⟩:=hT;simp only [af,Value.slice.injEq,Option.some.injEq,Addr.mk.injEq,and_true] at e;obtain ⟨rfl,rfl,rfl⟩:=e;refine kE (is:=[a,m,b]) hk hb (by rw [ntmps111]; simp) fun W x=>?_
 rw [ntmps111];refine a8.mono (N2 (PF (us:=us) (Nat.le_of_lt h1) (Nat.le_of_lt h2)) (by simp; omega) (by simp; omega) (by simp; omega) (by simp; omega) (by simp; omega) rfl hn W x) fun e st q=>?_
 obtain ⟨rfl,g,rfl⟩:=q;exact ⟨.inl rfl,rfl,U6 _ g,by show (heapOf _ aE).get 0=_; rw [av]; rfl⟩
noncomputable def Ci:aD:=atW g111
theorem MJ:ax Tryz.prog 209 Ci:=fX fun us hn=>PQ us hn
open Classical in
theorem GP{A X Y C us:List aa}{k n c a m b:Nat}{hp:Hp}(hus:us=A++X++Y++C)(hA:A.length=a)(hm:m=a+X.length)(hb':b=m+Y.length)(hX:0<X.length)(hY:0<Y.length)(hn:n=us.length)(hl:n<1000000)(hb:hp.get k=some (ab us)) :
  Ci [af k n c,iN a,iN m,iN b,Fc] hp=some (vU,hp.put k (ab (A++Y++X++C))):=by
 subst hn;have hr:cN us (af k us.length c) hp:=⟨k,c,rfl,hb⟩
 unfold Ci;rw [mb hr hl];show (if Fc=Fc∧cN us (af k us.length c) hp∧a<m∧m<b∧b≤us.length then some (vU,hp.put k (ab (N1 us a m b))) else none)=_
 rw [if_pos ⟨rfl,hr,by omega,by omega,by rw [hus]; simp; omega⟩]
 obtain ⟨e1,e2,e3,e4⟩:=zB (C:=C) hA hm hb';unfold N1;rw [hus,e1,e2,e3,e4]
def jY(aId:Int)(aHeightNull:Bool)(aHeightTau:Int)(aHeightOid:Int)(aHeightR:Int)(aHeightDelta:Int)(aHeightId:Int)(bId:Int)(bHeightNull:Bool)(bHeightTau:Int)(bHeightOid:Int)(bHeightR:Int)(bHeightDelta:Int)(bHeightId:Int):Value:=(bif (less (aHeightNull) (aHeightTau) (aHeightOid) (aHeightR) (aHeightDelta) (aHeightId) (bHeightNull) (bHeightTau) (bHeightOid) (bHeightR) (bHeightDelta) (bHeightId)) then (.int .i64 (-1)) else (bif (less (bHeightNull) (bHeightTau) (bHeightOid) (bHeightR) (bHeightDelta) (bHeightId) (aHeightNull) (aHeightTau) (aHeightOid) (aHeightR) (aHeightDelta) (aHeightId)) then (.int .i64 1) else (.int .i64 0)))
theorem BL(aId:Int)(aHeightNull:Bool)(aHeightTau:Int)(aHeightOid:Int)(aHeightR:Int)(aHeightDelta:Int)(aHeightId:Int)(bId:Int)(bHeightNull:Bool)(bHeightTau:Int)(bHeightOid:Int)(bHeightR:Int)(bHeightDelta:Int)(bHeightId:Int):∃ hp,aCall Tryz.prog E4 61 126 [.agg #[.int .i64 aId,.bool aHeightNull,.int .i64 aHeightTau,.int .i64 aHeightOid,.int .i64 aHeightR,.int .i64 aHeightDelta,.int .i64 aHeightId],.agg #[.int .i64 bId,.bool bHeightNull,.int .i64 bHeightTau,.int .i64 bHeightOid,.int .i64 bHeightR,.int .i64 bHeightDelta,.int .i64 bHeightId]] aE=some (jY aId aHeightNull aHeightTau aHeightOid aHeightR aHeightDelta aHeightId bId bHeightNull bHeightTau bHeightOid bHeightR bHeightDelta bHeightId,hp):=by
 cases h0:(less (aHeightNull) (aHeightTau) (aHeightOid) (aHeightR) (aHeightDelta) (aHeightId) (bHeightNull) (bHeightTau) (bHeightOid) (bHeightR) (bHeightDelta) (bHeightId)) with
 | true =>
   have e:jY aId aHeightNull aHeightTau aHeightOid aHeightR aHeightDelta aHeightId bId bHeightNull bHeightTau bHeightOid bHeightR bHeightDelta bHeightId=(.int .i64 (-1)):=by simp only [jY,h0,cond_true,cond_false]
   rw [e];exact aO [(10,.bool true)] (q:=[(some (.bool (less (aHeightNull) (aHeightTau) (aHeightOid) (aHeightR) (aHeightDelta) (aHeightId) (bHeightNull) (bHeightTau) (bHeightOid) (bHeightR) (bHeightDelta) (bHeightId))),.bool true)]) (by kernel_rfl) (Met.cons (ag h0) (Met.nil))
 | false =>
   cases h1:(less (bHeightNull) (bHeightTau) (bHeightOid) (bHeightR) (bHeightDelta) (bHeightId) (aHeightNull) (aHeightTau) (aHeightOid) (aHeightR) (aHeightDelta) (aHeightId)) with
   | true =>
     have e:jY aId aHeightNull aHeightTau aHeightOid aHeightR aHeightDelta aHeightId bId bHeightNull bHeightTau bHeightOid bHeightR bHeightDelta bHeightId=(.int .i64 1):=by simp only [jY,h0,h1,cond_true,cond_false]
     rw [e];exact aO [(10,.bool false),(16,.bool true)] (q:=[(some (.bool (less (aHeightNull) (aHeightTau) (aHeightOid) (aHeightR) (aHeightDelta) (aHeightId) (bHeightNull) (bHeightTau) (bHeightOid) (bHeightR) (bHeightDelta) (bHeightId))),.bool false),(some (.bool (less (bHeightNull) (bHeightTau) (bHeightOid) (bHeightR) (bHeightDelta) (bHeightId) (aHeightNull) (aHeightTau) (aHeightOid) (aHeightR) (aHeightDelta) (aHeightId))),.bool true)]) (by kernel_rfl) (Met.cons (ag h0) (Met.cons (ag h1) (Met.nil)))
   | false =>
     have e:jY aId aHeightNull aHeightTau aHeightOid aHeightR aHeightDelta aHeightId bId bHeightNull bHeightTau bHeightOid bHeightR bHeightDelta bHeightId=(.int .i64 0):=by simp only [jY,h0,h1,cond_true,cond_false]
     rw [e];exact aO [(10,.bool false),(16,.bool false)] (q:=[(some (.bool (less (aHeightNull) (aHeightTau) (aHeightOid) (aHeightR) (aHeightDelta) (aHeightId) (bHeightNull) (bHeightTau) (bHeightOid) (bHeightR) (bHeightDelta) (bHeightId))),.bool false),(some (.bool (less (bHeightNull) (bHeightTau) (bHeightOid) (bHeightR) (bHeightDelta) (bHeightId) (aHeightNull) (aHeightTau) (aHeightOid) (aHeightR) (aHeightDelta) (aHeightId))),.bool false)]) (by kernel_rfl) (Met.cons (ag h0) (Met.cons (ag h1) (Met.nil)))
theorem xj(u v:aa):jY u.id u.n u.t u.o u.r u.d u.i v.id v.n v.t v.o v.r v.d v.i = .int .i64 (tT u v):=by
 unfold jY tT bc;cases less u.n u.t u.o u.r u.d u.i v.n v.t v.o v.r v.d v.i with
 | true=>rfl
 | false=>cases less v.n v.t v.o v.r v.d v.i u.n u.t u.o u.r u.d u.i <;> rfl
def g77:List Value→Option Value
 | [.agg c0,.agg c1]=>match c0.toList,c1.toList with
   | [.int .i64 a,.bool an,.int .i64 at',.int .i64 ao,.int .i64 ar,.int .i64 ad,.int .i64 ai],[.int .i64 b,.bool bn,.int .i64 bt,.int .i64 bo,.int .i64 br,.int .i64 bd,.int .i64 bi]=>some (.int .i64 (tT ⟨a,an,at',ao,ar,ad,ai⟩ ⟨b,bn,bt,bo,br,bd,bi⟩))
   | _,_=>none
 | _=>none
theorem Ur:bK Tryz.prog 126 g77:=dj (ext:=E4) Jq follows Tryz.func126 (by kernel_rfl) fun args v h=>by
 unfold g77 at h;split at h
 ·rename_i c0 c1
  split at h
  ·rename_i ec0 ec1
   cases h;obtain rfl:=cO ec0;obtain rfl:=cO ec1;refine ⟨rfl,rfl,?_⟩
   obtain ⟨hp,q⟩:=BL _ _ _ _ _ _ _ _ _ _ _ _ _ _;rw [xj ⟨_,_,_,_,_,_,_⟩ ⟨_,_,_,_,_,_,_⟩] at q;exact ⟨_,hp,q⟩
  ·cases h
 ·cases h
noncomputable def OX:Ext:=cS Tryz.prog [(126,g77)]
noncomputable def dR:aH:=aCall Tryz.prog OX 5
theorem bf:ba Tryz.prog dR:=aP (by unfold OX; exact aT (.cons Ur .nil)) follows 5
noncomputable def JK:Code:=(Tryz.f178.body).getD .skip
noncomputable def zW:Code:=nQ (jm (sR JK))
noncomputable def CH:Code:=sL JK
noncomputable def zj:Code:=sL zW
noncomputable def CI:Code:=sL (jm (sL (sR zW)))
noncomputable def so:Code:=nQ (jm (sR (jm (sL (sR zW)))))
noncomputable def CJ:Code:=sR (sR zW)
noncomputable abbrev zw:Code:=.seq CH (.block 0 (.loop (.seq zj (.seq (.block 1 (.seq CI (.block 2 (.loop so)))) CJ))))
theorem G9:Tryz.f178.body=some zw:=by kernel_rfl
theorem ntmps101:Tryz.f178.ntmps=53:=by kernel_rfl
theorem R8:codeSafe Tryz.prog 53 CH=true:=by kernel_rfl
theorem JZ:codeSafe Tryz.prog 53 zj=true:=by kernel_rfl
theorem R9:codeSafe Tryz.prog 53 CI=true:=by kernel_rfl
theorem Fq:codeSafe Tryz.prog 53 so=true:=by kernel_rfl
theorem Sa:codeSafe Tryz.prog 53 CJ=true:=by kernel_rfl
theorem U4(O:List ae)(g:Nat→Value):retVal Tryz.prog Tryz.f178 (aq 53 g [] O)=some vU:=by kernel_rfl
section
variable (us us1 us2:List aa) (n c a b i j:Nat) (x y:aa) (g:Nat→Value)
abbrev pn(us:List aa)(i:Nat)(g:Nat→Value):St:=aq 53 g [(0,af 0 n c),(1,iN a),(2,iN b),(3,Fc),(8,iN i)] [ab us]
abbrev AG(us:List aa)(i j:Nat)(g:Nat→Value):St:=aq 53 g [(0,af 0 n c),(1,iN a),(2,iN b),(3,Fc),(8,iN i),(9,iN j)] [ab us]
theorem QZ:(execE Tryz.prog dR [(11,iN (a+1))] [] [] 10 CH ⟨tmsOf [af 0 n c,iN a,iN b,Fc] 0 .leaf,heapOf [ab us,.dead] aE,[]⟩).map (fun z=>(look2 1 [0] [0,1,2,3,8] (z.1,z.2.1),z.2.2)) =
 some ((.normal,[ab us],[(0,af 0 n c),(1,iN a),(2,iN b),(3,Fc),(8,iN (a+1))],true),[dJ a],[],[]):=by kernel_rfl
theorem Q7:(execE Tryz.prog dR [(14,.bool false)] [] [] 10 zj (pn n c a b us i g)).map (fun z=>(look2 1 [0] [] (z.1,z.2.1),z.2.2))=some ((.exit 0,[ab us],[],true),[iG i b false],[],[]):=by kernel_rfl
theorem Q5:(execE Tryz.prog dR [(14,.bool true)] [] [] 10 zj (pn n c a b us i g)).map (fun z=>(look2 1 [0] [0,1,2,3,8] (z.1,z.2.1),z.2.2)) =
 some ((.normal,[ab us],[(0,af 0 n c),(1,iN a),(2,iN b),(3,Fc),(8,iN i)],true),[iG i b true],[],[]):=by kernel_rfl
theorem Q3:(execE Tryz.prog dR [] [] [] 10 CI (pn n c a b us i g)).map (fun z=>(look2 1 [0] [0,1,2,3,8,9] (z.1,z.2.1),z.2.2)) =
 some ((.normal,[ab us],[(0,af 0 n c),(1,iN a),(2,iN b),(3,Fc),(8,iN i),(9,iN i)],true),[],[],[]):=by kernel_rfl
theorem Q4:(execE Tryz.prog dR [(16,iN (i+1))] [] [] 10 CJ (pn n c a b us i g)).map (fun z=>(look2 1 [0] [0,1,2,3,8] (z.1,z.2.1),z.2.2)) =
 some ((.normal,[ab us],[(0,af 0 n c),(1,iN a),(2,iN b),(3,Fc),(8,iN (i+1))],true),[dJ i],[],[]):=by kernel_rfl
theorem Q8:(execE Tryz.prog dR [(20,.bool false)] [] [] 20 so (AG n c a b us i j g)).map (fun z=>(look2 1 [0] [0,1,2,3,8] (z.1,z.2.1),z.2.2)) =
 some ((.exit 2,[ab us],[(0,af 0 n c),(1,iN a),(2,iN b),(3,Fc),(8,iN i)],true),[D4 j a false],[],[]):=by kernel_rfl
theorem Q9:(execE Tryz.prog dR [(20,.bool true),(25,pb 0 ((j+1)*7)),(26,.agg ⟨vc y⟩),(29,iN j),(30,pb 0 (j*7)),(31,.agg ⟨vc x⟩),(33,.bool false)] [] [] 20 so (AG n c a b us i (j+1) g)).map (fun z=>(look2 1 [0] [0,1,2,3,8] (z.1,z.2.1),z.2.2)) =
 some ((.exit 2,[ab us],[(0,af 0 n c),(1,iN a),(2,iN b),(3,Fc),(8,iN i)],true),
  [D4 (j+1) a true,hU 0 n c (j+1),j7 (hW us).get 151 0 ((j+1)*7) (.agg ⟨vc y⟩),Mq j,hU 0 n c j,j7 (hW us).get 151 0 (j*7) (.agg ⟨vc x⟩),Gx y x false],[],[]):=by kernel_rfl
theorem Q6:(execE Tryz.prog dR [(20,.bool true),(25,pb 0 ((j+1)*7)),(26,.agg ⟨vc y⟩),(29,iN j),(30,pb 0 (j*7)),(31,.agg ⟨vc x⟩),(33,.bool true),
  (41,iN j),(44,iN j),(45,pb 0 (j*7)),(46,.agg ⟨vc x⟩),(49,pb 0 ((j+1)*7)),(50,.agg ⟨vc y⟩),(51,pb 0 ((j+1)*7)),(52,pb 0 (j*7)),(36,iN j)] []
  [(1051,undef,[.put 0 (ab us1)]),(1052,undef,[.put 0 (ab us2)])] 20 so (AG n c a b us i (j+1) g)).map (fun z=>(look2 1 [0] [0,1,2,3,8,9] (z.1,z.2.1),z.2.2)) =
 some ((.normal,[ab us2],[(0,af 0 n c),(1,iN a),(2,iN b),(3,Fc),(8,iN i),(9,iN j)],true),
  [D4 (j+1) a true,hU 0 n c (j+1),j7 (hW us).get 151 0 ((j+1)*7) (.agg ⟨vc y⟩),Mq j,hU 0 n c j,j7 (hW us).get 151 0 (j*7) (.agg ⟨vc x⟩),Gx y x true,
   Mq j,Mq j,hU 0 n c j,j7 (hW us).get 151 0 (j*7) (.agg ⟨vc x⟩),hU 0 n c (j+1),j7 (hW us).get 151 0 ((j+1)*7) (.agg ⟨vc y⟩),hU 0 n c (j+1),hU 0 n c j,Mq j],[],
  [yO (hW us) (j+1) x us1,yO ((hW us).put 0 (ab us1)) j y us2]):=by kernel_rfl
end
theorem Bk{A S R us:List aa}{z:aa}{n c a b i:Nat}(hus:us=A++S++z::R)(hA:A.length=a)(hi:i=a+S.length)(hn:n=us.length)(hl:n<1000000)(W:bg)(x:Nat×Nat×Nat)(g:Nat→Value) :
  a8 Tryz.prog 53 W x (.block 2 (.loop so)) (AG n c a b us i i g) (fun e st=>e = .normal∧∃ g,st=pn n c a b (A++dD bc S z++R) i g):=by
 refine a8.block ?_
 refine a8.loop (fun k st=>∃ P Q g,S=P++Q∧(∀ q∈Q,bc z q=true)∧k=P.length∧st=AG n c a b (A++P++z::(Q++R)) i (a+P.length) g) ?_ (k:=S.length)
  ⟨S,[],g,by simp,(fun q hq=>by cases hq),rfl,by rw [hus,hi]; simp⟩
 rintro k st ⟨P,Q,g,hS,hQ,rfl,rfl⟩;have hlen:(A++P++z::(Q++R)).length=n:=by rw [hn,hus,hS]; simp; omega
 have hin:a+P.length<n:=by rw [← hlen]; simp; omega
 have fin:∀ {g'},(∀ p,P.getLast? = some p→bc z p=false)→∃ g,pn n c a b (A++P++z::(Q++R)) i g'=pn n c a b (A++dD bc S z++R) i g:=fun {g'} h=>⟨g',by rw [gz hS hQ h]; simp⟩
 cases h20:decide (a<a+P.length) with
 | false =>
   have hP:P = []:=List.eq_nil_of_length_eq_zero (by have:=of_decide_eq_false h20; omega)
   refine a8.piece bf follows 1 _ _ _ _ (Q8 (A++P++z::(Q++R)) n c a b i (a+P.length) g) (Met.cons (jz h20) Met.nil) az.nil aA.nil Fq rfl rfl (bu _ []) rfl fun g'=>.inr ⟨by simp,?_⟩
   show (if (2:Nat)=2 then _ else _)
   rw [if_pos rfl];exact ⟨rfl,fin fun p hp=>by rw [hP] at hp; cases hp⟩
 | true =>
   have hpos:=of_decide_eq_true h20
   obtain ⟨P',p,rfl⟩:∃ P' p,P=P' ++ [p]:=by
     rcases List.eq_nil_or_concat P with h | ⟨L,b,h⟩
     ·rw [h] at hpos; simp at hpos
     ·exact ⟨L,b,by simpa using h⟩
   have el:a+(P' ++ [p]).length=a+P'.length+1:=by simp; omega
   rw [el] at h20 hin ⊢;have ecur:A++(P' ++ [p])++z::(Q++R)=(A++P')++p::z::(Q++R):=by simp
   have ecur2:A++(P' ++ [p])++z::(Q++R)=(A++P' ++ [p])++z::(Q++R):=by simp
   have l1:(A++P').length=a+P'.length:=by simp; omega
   have l2:(A++P' ++ [p]).length=a+P'.length+1:=by simp; omega
   generalize hcur:A++(P' ++ [p])++z::(Q++R)=cur at *;have hz:cur[a+P'.length+1]? = some z:=by rw [ecur2]; exact iE l2
   have hp:cur[a+P'.length]? = some p:=by rw [ecur]; exact iE l1
   have i1:a+P'.length<n:=by omega
   cases h33:bc z p with
   | false =>
     refine a8.piece bf follows 1 _ _ _ _ (Q9 cur n c a b i (a+P'.length) p z g) (Met.cons (jz h20) (Met.cons (dh hin) (Met.cons (fh (fA _) hz) (Met.cons (qv (by omega)) (Met.cons (dh i1) (Met.cons (fh (fA _) hp) (Met.cons (qt h33) Met.nil))))))) az.nil aA.nil Fq rfl rfl (bu _ []) rfl fun g'=>.inr ⟨by simp,?_⟩
     show (if (2:Nat)=2 then _ else _)
     rw [if_pos rfl];exact ⟨rfl,fin fun q hq=>by simp at hq; subst hq; exact h33⟩
   | true =>
     have s1:(cur.set (a+P'.length+1) p).set (a+P'.length) z=A++P'++z::(p::Q++R):=by
       rw [ecur2,iJ l2];have:A++P' ++ [p]++p::(Q++R)=(A++P')++p::(p::(Q++R)):=by simp
       rw [this,iJ l1]; simp
     refine a8.piece bf follows 1 _ _ _ _ (Q6 cur (cur.set (a+P'.length+1) p) ((cur.set (a+P'.length+1) p).set (a+P'.length) z) n c a b i (a+P'.length) p z g)
       (Met.cons (jz h20) (Met.cons (dh hin) (Met.cons (fh (fA _) hz) (Met.cons (qv (by omega)) (Met.cons (dh i1) (Met.cons (fh (fA _) hp) (Met.cons (qt h33) (Met.cons (qv (by omega)) (Met.cons (qv (by omega)) (Met.cons (dh i1) (Met.cons (fh (fA _) hp) (Met.cons (dh hin) (Met.cons (fh (fA _) hz) (Met.cons (dh hin) (Met.cons (dh i1) (Met.cons (qv (by omega)) Met.nil)))))))))))))))) az.nil
       (aA.cons (jN (dC _) (by omega)) (aA.cons (jN ny (by rw [List.length_set]; omega)) aA.nil)) Fq rfl rfl (bu _ []) rfl fun g'=>.inl ⟨rfl,P'.length,by simp,P',p::Q,g',by rw [hS]; simp,(fun q hq=>by
         rcases List.mem_cons.1 hq with rfl | hq
         ·exact h33
         ·exact hQ q hq),rfl,by rw [s1]⟩
theorem Ei{A T C us:List aa}{n c a b:Nat}(hus:us=A++T++C)(hA:A.length=a)(hb:b=a+T.length)(hn:n=us.length)(hl:n<1000000)(W:bg)(x:Nat×Nat×Nat) :
  a8 Tryz.prog 53 W x zw ⟨tmsOf [af 0 n c,iN a,iN b,Fc] 0 .leaf,heapOf [ab us,.dead] aE,[]⟩ (u5 53 (A++aN bc T++C)):=by
 have hlen:us.length=a+T.length+C.length:=by rw [hus]; simp; omega
 refine a8.seq (Q1:=fun e st=>e = .normal∧∃ g,st=pn n c a b us (a+1) g) (a8.piece bf follows 1 _ _ _ _ (QZ us n c a b) (Met.cons (bq (by omega)) Met.nil) az.nil aA.nil R8 rfl rfl (bu us []) rfl fun g=>⟨rfl,g,rfl⟩) ?_ (fun x st hne hq=>absurd hq.1 hne)
 rintro st ⟨-,g,rfl⟩;refine a8.block ?_
 refine a8.loop (fun j st=>∃ k g,1≤k∧(k≤T.length∨T = [])∧j=T.length-k∧st=pn n c a b (A++aN bc (T.take k)++(T.drop k++C)) (a+k) g) ?_ (k:=T.length-1) ⟨1,g,Nat.le_refl _,?_,rfl,?_⟩
 ·rintro j st ⟨k,g,wb,uY,rfl,rfl⟩
  have hcl:(A++aN bc (T.take k)++(T.drop k++C)).length=n:=by rw [hn,hus]; simp [bQ]; omega
  cases h14:decide (a+k<b) with
  | false =>
    have hge:=of_decide_eq_false h14
    refine a8.seq (Q1:=fun e st=>e = .exit 0∧∃ g,st=aq 53 g [] [ab (A++aN bc T++C)]) ?_ (fun st hq=>by cases hq.1) ?_
    ·have e1:T.take k=T:=List.take_of_length_le (by omega)
     have e2:T.drop k = []:=List.drop_of_length_le (by omega)
     rw [e1,e2,List.nil_append];exact a8.piece bf follows 1 _ _ _ _ (Q7 (A++aN bc T++C) n c a b (a+k) g) (Met.cons (bz h14) Met.nil) az.nil aA.nil JZ rfl rfl (bu _ []) rfl fun g'=>⟨rfl,g',rfl⟩
    ·rintro e st hne ⟨rfl,g',rfl⟩
     refine .inr ⟨by simp,?_⟩
     show (if (0:Nat)=0 then _ else _)
     rw [if_pos rfl];exact ⟨rfl,g',rfl⟩
  | true =>
    have hlt:=of_decide_eq_true h14
    obtain ⟨z,hz⟩:∃ z,T[k]? = some z:=⟨_,List.getElem?_eq_getElem (by omega)⟩
    have hd:T.drop k=z::T.drop (k+1):=List.drop_eq_getElem?_toList_append.trans (by rw [hz]; rfl)
    have ht:T.take (k+1)=T.take k ++ [z]:=by rw [List.take_add_one,hz]; rfl
    have hS:(aN bc (T.take k)).length=k:=by rw [bQ,List.length_take]; omega
    have ecur:A++aN bc (T.take k)++(T.drop k++C)=A++aN bc (T.take k)++z::(T.drop (k+1)++C):=by rw [hd]; simp
    rw [ecur] at hcl ⊢;refine a8.seq (Q1:=fun e st=>e = .normal∧∃ g,st=pn n c a b (A++aN bc (T.take k)++z::(T.drop (k+1)++C)) (a+k) g) (a8.piece bf follows 1 _ _ _ _ (Q5 _ n c a b (a+k) g) (Met.cons (bz h14) Met.nil) az.nil aA.nil JZ rfl rfl (bu _ []) rfl fun g'=>⟨rfl,g',rfl⟩) ?_ (fun x st hne hq=>absurd hq.1 hne)
    rintro st ⟨-,g,rfl⟩;refine a8.seq (Q1:=fun e st=>e = .normal∧∃ g,st=pn n c a b (A++dD bc (aN bc (T.take k)) z++(T.drop (k+1)++C)) (a+k) g) ?_ ?_ (fun x st hne hq=>absurd hq.1 hne)
    ·refine a8.block ?_
     refine a8.mono (Q:=fun e st=>e = .normal∧∃ g,st=pn n c a b (A++dD bc (aN bc (T.take k)) z++(T.drop (k+1)++C)) (a+k) g) ?_ (fun e st q=>by obtain ⟨rfl,q⟩:=q; exact ⟨rfl,q⟩)
     refine a8.seq (Q1:=fun e st=>e = .normal∧∃ g,st=AG n c a b (A++aN bc (T.take k)++z::(T.drop (k+1)++C)) (a+k) (a+k) g) (a8.piece bf follows 1 _ _ _ _ (Q3 _ n c a b (a+k) g) Met.nil az.nil aA.nil R9 rfl rfl (bu _ []) rfl fun g'=>⟨rfl,g',rfl⟩) ?_ (fun x st hne hq=>absurd hq.1 hne)
     rintro st ⟨-,g,rfl⟩;exact Bk rfl hA (by omega) hcl.symm hl W x g
    ·rintro st ⟨-,g,rfl⟩
     refine a8.piece bf follows 1 _ _ _ _ (Q4 _ n c a b (a+k) g) (Met.cons (bq (by omega)) Met.nil) az.nil aA.nil Sa rfl rfl (bu _ []) rfl fun g'=>.inl ⟨rfl,T.length-(k+1),by omega,k+1,g',by omega,.inl (by omega),rfl,?_⟩
     rw [ht,yN];rfl
 ·cases T with
  | nil=>exact .inr rfl
  | cons t T=>exact .inl (by simp)
 ·cases T with
  | nil=>rw [hus]; rfl
  | cons t T =>
    have e:aN bc ((t::T).take 1) = [t]:=rfl
    rw [e,hus];simp
open Classical in
noncomputable def g101(us:List aa):aD:=fun args hp=>match args with
 | [.slice (some ⟨k,0,none⟩) n c,.int .i64 (.ofNat a),.int .i64 (.ofNat b),f] =>
   if f=Fc∧cN us (.slice (some ⟨k,0,none⟩) n c) hp∧a≤b∧b≤us.length then some (vU,hp.put k (ab (us.take a++aN bc ((us.drop a).take (b-a))++us.drop b))) else none
 | _=>none
theorem PO(us:List aa)(hn:us.length<1000000):ax Tryz.prog 178 (g101 us):=ig follows Tryz.func178 G9 (by kernel_rfl) fun args hp v hp' he hk=>by
 unfold g101 at he;split at he
 case h_2=>cases he
 rename_i k n c a b f;split at he
 case isFalse=>cases he
 rename_i hT;cases he;obtain ⟨rfl,⟨b',c',e,hb⟩,h1,h2⟩:=hT;simp only [af,Value.slice.injEq,Option.some.injEq,Addr.mk.injEq,and_true] at e;obtain ⟨rfl,rfl,rfl⟩:=e;refine kE (is:=[a,b]) hk hb (by rw [ntmps101]; simp) fun W x=>?_
 rw [ntmps101];refine a8.mono (Ei (T7 (us:=us) h1) (by simp; omega) (by simp; omega) rfl hn W x) fun e st q=>?_
 obtain ⟨rfl,g,rfl⟩:=q;exact ⟨.inl rfl,rfl,U4 _ g,by show (heapOf _ aE).get 0=_; rw [av]; rfl⟩
noncomputable def Ch:aD:=atW g101
theorem MH:ax Tryz.prog 178 Ch:=fX fun us hn=>PO us hn
open Classical in
theorem zc{A X C us:List aa}{k n c a b:Nat}{hp:Hp}(hus:us=A++X++C)(hA:A.length=a)(hb':b=a+X.length)(hn:n=us.length)(hl:n<1000000)(hb:hp.get k=some (ab us)) :
  Ch [af k n c,iN a,iN b,Fc] hp=some (vU,hp.put k (ab (A++aN bc X++C))):=by
 subst hn;have hr:cN us (af k us.length c) hp:=⟨k,c,rfl,hb⟩
 unfold Ch;rw [mb hr hl];show (if Fc=Fc∧cN us (af k us.length c) hp∧a≤b∧b≤us.length then some (vU,hp.put k (ab (us.take a++aN bc ((us.drop a).take (b-a))++us.drop b))) else none)=_
 rw [if_pos ⟨rfl,hr,by omega,by rw [hus]; simp; omega⟩]
 obtain ⟨e1,e2,e3⟩:=HF (C:=C) hA hb';rw [hus,e1,e2,e3]
noncomputable def DD:Code:=(Tryz.f179.body).getD .skip
noncomputable def oC:Nat→Code
 | 0=>DD
 | n+1=>sR (oC n)
noncomputable def CL:Code:=sL (sL DD)
noncomputable def t102:Code:=cT (sR (sL DD))
noncomputable def CM:Code:=sL t102
noncomputable def CN:Code:=sL (sR t102)
noncomputable def vp:Code:=nQ (jm (sL (sR (sR t102))))
noncomputable def CO:Code:=sL (sL (sR (sR (sR t102))))
noncomputable def zk:Code:=nQ (jm (sR (sL (sR (sR (sR t102))))))
noncomputable def CP:Code:=sL (sL (oC 1))
noncomputable def Gc:Code:=cT (sR (sL (oC 1)))
noncomputable def CQ:Code:=sL Gc
noncomputable def CR:Code:=sL (sR Gc)
noncomputable def vq:Code:=nQ (jm (sL (sR (sR Gc))))
noncomputable def CS:Code:=sL (sL (sR (sR (sR Gc))))
noncomputable def zm:Code:=nQ (jm (sR (sL (sR (sR (sR Gc))))))
noncomputable def CU:Code:=sL (oC 2)
noncomputable def CV:Code:=sL (oC 3)
noncomputable def CW:Code:=sL (oC 4)
noncomputable def zn:Code:=sL (oC 5)
noncomputable def CX:Code:=sL (oC 6)
noncomputable def vr:Code:=nQ (jm (sL (oC 7)))
noncomputable def CY:Code:=sL (oC 8)
noncomputable def vt:Code:=sL (oC 9)
noncomputable def vu:Code:=sL (oC 10)
noncomputable def vv:Code:=oC 11
noncomputable abbrev FX:Code:=.seq CM (.seq CN (.seq (.block 0 (.loop vp)) (.seq (.seq CO (.block 2 (.loop zk))) .ret)))
noncomputable abbrev FY:Code:=.seq CQ (.seq CR (.seq (.block 4 (.loop vq)) (.seq (.seq CS (.block 6 (.loop zm))) .ret)))
noncomputable abbrev FZ:Code:=.seq CU (.seq CV (.seq CW (.seq zn (.seq CX (.seq (.block 8 (.loop vr)) (.seq CY (.seq vt (.seq vu vv))))))))
noncomputable abbrev zx:Code:=.seq (.seq CL (.cond (.tmp 28) FX .skip)) (.seq (.seq CP (.cond (.tmp 80) FY .skip)) FZ)
theorem zh:Tryz.f179.body=some zx:=by kernel_rfl
theorem ntmps102:Tryz.f179.ntmps=220:=by kernel_rfl
theorem U5(O:List ae)(g:Nat→Value):retVal Tryz.prog Tryz.f179 (aq 220 g [] O)=some vU:=by kernel_rfl
theorem Sb:codeSafe Tryz.prog 220 CL=true:=by kernel_rfl
theorem Sc:codeSafe Tryz.prog 220 CM=true:=by kernel_rfl
theorem Sd:codeSafe Tryz.prog 220 CN=true:=by kernel_rfl
theorem Fs:codeSafe Tryz.prog 220 vp=true:=by kernel_rfl
theorem Se:codeSafe Tryz.prog 220 CO=true:=by kernel_rfl
theorem J0:codeSafe Tryz.prog 220 zk=true:=by kernel_rfl
theorem Sf:codeSafe Tryz.prog 220 CP=true:=by kernel_rfl
theorem Sg:codeSafe Tryz.prog 220 CQ=true:=by kernel_rfl
theorem Sh:codeSafe Tryz.prog 220 CR=true:=by kernel_rfl
theorem Ft:codeSafe Tryz.prog 220 vq=true:=by kernel_rfl
theorem Si:codeSafe Tryz.prog 220 CS=true:=by kernel_rfl
theorem J1:codeSafe Tryz.prog 220 zm=true:=by kernel_rfl
theorem Sj:codeSafe Tryz.prog 220 CU=true:=by kernel_rfl
theorem Sk:codeSafe Tryz.prog 220 CV=true:=by kernel_rfl
theorem Sl:codeSafe Tryz.prog 220 CW=true:=by kernel_rfl
theorem J2:codeSafe Tryz.prog 220 zn=true:=by kernel_rfl
theorem Sm:codeSafe Tryz.prog 220 CX=true:=by kernel_rfl
theorem Fu:codeSafe Tryz.prog 220 vr=true:=by kernel_rfl
theorem Sn:codeSafe Tryz.prog 220 CY=true:=by kernel_rfl
theorem Fw:codeSafe Tryz.prog 220 vt=true:=by kernel_rfl
theorem Fx:codeSafe Tryz.prog 220 vu=true:=by kernel_rfl
theorem Fy:codeSafe Tryz.prog 220 vv=true:=by kernel_rfl
section
variable (call:aH) (us us1 us2 us':List aa) (n c a m b i j h k s r p e aM q:Nat) (x y u w:aa) (d:Bool) (g:Nat→Value)
abbrev B7(us:List aa)(d:Bool)(g:Nat→Value):St:=aq 220 g [(0,af 0 n c),(1,iN a),(2,iN m),(3,iN b),(4,Fc),(28,.bool d)] [ab us]
theorem Ra:(execE Tryz.prog call [(27,iN (m-a)),(28,.bool d)] [] [] 10 CL ⟨tmsOf [af 0 n c,iN a,iN m,iN b,Fc] 0 .leaf,heapOf [ab us,.dead] aE,[]⟩).map (fun z=>(look2 1 [0] [0,1,2,3,4,28] (z.1,z.2.1),z.2.2)) =
 some ((.normal,[ab us],[(0,af 0 n c),(1,iN a),(2,iN m),(3,iN b),(4,Fc),(28,.bool d)],true),[rW m a,Tg (m-a) 1 d],[],[]):=by kernel_rfl
abbrev OQ(us:List aa)(g:Nat→Value):St:=aq 220 g [(0,af 0 n c),(1,iN a),(3,iN b),(4,Fc),(10,iN m)] [ab us]
abbrev B9(us:List aa)(i j:Nat)(g:Nat→Value):St:=aq 220 g [(0,af 0 n c),(1,iN a),(4,Fc),(10,iN i),(11,iN j)] [ab us]
theorem Rb:(execE Tryz.prog call [] [] [] 10 CM (B7 n c a m b us d g)).map (fun z=>(look2 1 [0] [0,1,3,4,10] (z.1,z.2.1),z.2.2)) =
 some ((.normal,[ab us],[(0,af 0 n c),(1,iN a),(3,iN b),(4,Fc),(10,iN m)],true),[],[],[]):=by kernel_rfl
theorem Rc:(execE Tryz.prog call [] [] [] 10 CN (OQ n c a m b us g)).map (fun z=>(look2 1 [0] [0,1,4,10,11] (z.1,z.2.1),z.2.2)) =
 some ((.normal,[ab us],[(0,af 0 n c),(1,iN a),(4,Fc),(10,iN m),(11,iN b)],true),[],[],[]):=by kernel_rfl
theorem ND:(execE Tryz.prog dR [(33,.bool false)] [] [] 10 vp (B9 n c a us i j g)).map (fun z=>(look2 1 [0] [0,1,10] (z.1,z.2.1),z.2.2)) =
 some ((.exit 0,[ab us],[(0,af 0 n c),(1,iN a),(10,iN i)],true),[iG i j false],[],[]):=by kernel_rfl
noncomputable def Te(b:Bool)(l:List di):List di:=iG i j true::Ie i j h (hU 0 n c h::j7 (hW us).get 151 0 (h*7) (.agg ⟨vc u⟩)::hU 0 n c a::j7 (hW us).get 151 0 (a*7) (.agg ⟨vc x⟩)::Gx u x b::l)
end
section
variable (us us1 us2 us':List aa) (n c a m b i j h k s r p e aM q:Nat) (x y u w:aa) (d:Bool) (g:Nat→Value)
theorem NC:(execE Tryz.prog dR (Xb a i j h x u true ++ [(52,iN (h+1))]) [] [] 20 vp (B9 n c a us i j g)).map (fun z=>(look2 1 [0] [0,1,4,10,11] (z.1,z.2.1),z.2.2)) =
 some ((.normal,[ab us],[(0,af 0 n c),(1,iN a),(4,Fc),(10,iN (h+1)),(11,iN j)],true),Te us n c a i j h x u true [dJ h],[],[]):=by kernel_rfl
theorem NB:(execE Tryz.prog dR (Xb a i j h x u false) [] [] 20 vp (B9 n c a us i j g)).map (fun z=>(look2 1 [0] [0,1,4,10,11] (z.1,z.2.1),z.2.2)) =
 some ((.normal,[ab us],[(0,af 0 n c),(1,iN a),(4,Fc),(10,iN i),(11,iN h)],true),Te us n c a i j h x u false [],[],[]):=by kernel_rfl
abbrev OW(us:List aa)(i:Nat)(g:Nat→Value):St:=aq 220 g [(0,af 0 n c),(1,iN a),(10,iN i)] [ab us]
abbrev GO(us:List aa)(i k:Nat)(g:Nat→Value):St:=aq 220 g [(0,af 0 n c),(10,iN i),(13,iN k)] [ab us]
theorem Re:(execE Tryz.prog dR [] [] [] 10 CO (OW n c a us i g)).map (fun z=>(look2 1 [0] [0,10,13] (z.1,z.2.1),z.2.2)) =
 some ((.normal,[ab us],[(0,af 0 n c),(10,iN i),(13,iN a)],true),[],[],[]):=by kernel_rfl
theorem NG:(execE Tryz.prog dR [(57,iN (i-1)),(58,.bool false)] [] [] 10 zk (GO n c us i k g)).map (fun z=>(look2 1 [0] [] (z.1,z.2.1),z.2.2)) =
 some ((.exit 2,[ab us],[],true),[rW i 1,iG k (i-1) false],[],[]):=by kernel_rfl
theorem NF:(execE Tryz.prog dR [(57,iN (i-1)),(58,.bool true),(65,iN (k+1)),(68,iN (k+1)),(69,pb 0 ((k+1)*7)),(70,.agg ⟨vc y⟩),(73,pb 0 (k*7)),(74,.agg ⟨vc x⟩),(75,pb 0 (k*7)),(76,pb 0 ((k+1)*7)),(60,iN (k+1))] []
  [(1075,undef,[.put 0 (ab us1)]),(1076,undef,[.put 0 (ab us2)])] 10 zk (GO n c us i k g)).map (fun z=>(look2 1 [0] [0,10,13] (z.1,z.2.1),z.2.2)) =
 some ((.normal,[ab us2],[(0,af 0 n c),(10,iN i),(13,iN (k+1))],true),
  [rW i 1,iG k (i-1) true,dJ k,dJ k,hU 0 n c (k+1),j7 (hW us).get 151 0 ((k+1)*7) (.agg ⟨vc y⟩),hU 0 n c k,j7 (hW us).get 151 0 (k*7) (.agg ⟨vc x⟩),hU 0 n c k,hU 0 n c (k+1),dJ k],[],
  [yO (hW us) k y us1,yO ((hW us).put 0 (ab us1)) (k+1) x us2]):=by kernel_rfl
abbrev sj(us:List aa)(d:Bool)(g:Nat→Value):St:=aq 220 g [(0,af 0 n c),(1,iN a),(2,iN m),(3,iN b),(4,Fc),(80,.bool d)] [ab us]
theorem Rf:(execE Tryz.prog dR [(79,iN (b-m)),(80,.bool d)] [] [] 10 CP (B7 n c a m b us false g)).map (fun z=>(look2 1 [0] [0,1,2,3,4,80] (z.1,z.2.1),z.2.2)) =
 some ((.normal,[ab us],[(0,af 0 n c),(1,iN a),(2,iN m),(3,iN b),(4,Fc),(80,.bool d)],true),[rW b m,Tg (b-m) 1 d],[],[]):=by kernel_rfl
abbrev O9(us:List aa)(g:Nat→Value):St:=aq 220 g [(0,af 0 n c),(2,iN m),(4,Fc),(14,iN a)] [ab us]
abbrev Cq(us:List aa)(i j:Nat)(g:Nat→Value):St:=aq 220 g [(0,af 0 n c),(2,iN m),(4,Fc),(14,iN i),(15,iN j)] [ab us]
theorem Rg:(execE Tryz.prog dR [] [] [] 10 CQ (sj n c a m b us d g)).map (fun z=>(look2 1 [0] [0,2,4,14] (z.1,z.2.1),z.2.2)) =
 some ((.normal,[ab us],[(0,af 0 n c),(2,iN m),(4,Fc),(14,iN a)],true),[],[],[]):=by kernel_rfl
theorem Rh:(execE Tryz.prog dR [] [] [] 10 CR (O9 n c a m us g)).map (fun z=>(look2 1 [0] [0,2,4,14,15] (z.1,z.2.1),z.2.2)) =
 some ((.normal,[ab us],[(0,af 0 n c),(2,iN m),(4,Fc),(14,iN a),(15,iN m)],true),[],[],[]):=by kernel_rfl
theorem NJ:(execE Tryz.prog dR [(85,.bool false)] [] [] 10 vq (Cq n c m us i j g)).map (fun z=>(look2 1 [0] [0,2,14] (z.1,z.2.1),z.2.2)) =
 some ((.exit 4,[ab us],[(0,af 0 n c),(2,iN m),(14,iN i)],true),[iG i j false],[],[]):=by kernel_rfl
noncomputable def Tm(b:Bool)(l:List di):List di:=iG i j true::Ie i j h (hU 0 n c m::j7 (hW us).get 151 0 (m*7) (.agg ⟨vc y⟩)::hU 0 n c h::j7 (hW us).get 151 0 (h*7) (.agg ⟨vc u⟩)::Gx y u b::l)
theorem NH:(execE Tryz.prog dR (Xd m i j h y u false ++ [(105,iN (h+1))]) [] [] 20 vq (Cq n c m us i j g)).map (fun z=>(look2 1 [0] [0,2,4,14,15] (z.1,z.2.1),z.2.2)) =
 some ((.normal,[ab us],[(0,af 0 n c),(2,iN m),(4,Fc),(14,iN (h+1)),(15,iN j)],true),Tm us n c m i j h y u false [dJ h],[],[]):=by kernel_rfl
theorem NI:(execE Tryz.prog dR (Xd m i j h y u true) [] [] 20 vq (Cq n c m us i j g)).map (fun z=>(look2 1 [0] [0,2,4,14,15] (z.1,z.2.1),z.2.2)) =
 some ((.normal,[ab us],[(0,af 0 n c),(2,iN m),(4,Fc),(14,iN i),(15,iN h)],true),Tm us n c m i j h y u true [],[],[]):=by kernel_rfl
abbrev Pa(us:List aa)(i:Nat)(g:Nat→Value):St:=aq 220 g [(0,af 0 n c),(2,iN m),(14,iN i)] [ab us]
abbrev GW(us:List aa)(i k:Nat)(g:Nat→Value):St:=aq 220 g [(0,af 0 n c),(14,iN i),(17,iN k)] [ab us]
theorem Ri:(execE Tryz.prog dR [] [] [] 10 CS (Pa n c m us i g)).map (fun z=>(look2 1 [0] [0,14,17] (z.1,z.2.1),z.2.2)) =
 some ((.normal,[ab us],[(0,af 0 n c),(14,iN i),(17,iN m)],true),[],[],[]):=by kernel_rfl
theorem NL:(execE Tryz.prog dR [(110,.bool false)] [] [] 10 zm (GW n c us i k g)).map (fun z=>(look2 1 [0] [] (z.1,z.2.1),z.2.2)) =
 some ((.exit 6,[ab us],[],true),[D4 k i false],[],[]):=by kernel_rfl
theorem NK:(execE Tryz.prog dR [(110,.bool true),(117,iN (k-1)),(120,iN (k-1)),(121,pb 0 ((k-1)*7)),(122,.agg ⟨vc x⟩),(125,pb 0 (k*7)),(126,.agg ⟨vc y⟩),(127,pb 0 (k*7)),(128,pb 0 ((k-1)*7)),(112,iN (k-1))] []
  [(1127,undef,[.put 0 (ab us1)]),(1128,undef,[.put 0 (ab us2)])] 10 zm (GW n c us i k g)).map (fun z=>(look2 1 [0] [0,14,17] (z.1,z.2.1),z.2.2)) =
 some ((.normal,[ab us2],[(0,af 0 n c),(14,iN i),(17,iN (k-1))],true),
  [D4 k i true,rW k 1,rW k 1,hU 0 n c (k-1),j7 (hW us).get 151 0 ((k-1)*7) (.agg ⟨vc x⟩),hU 0 n c k,j7 (hW us).get 151 0 (k*7) (.agg ⟨vc y⟩),hU 0 n c k,hU 0 n c (k-1),rW k 1],[],
  [yO (hW us) k x us1,yO ((hW us).put 0 (ab us1)) (k-1) y us2]):=by kernel_rfl
abbrev Pf(us:List aa)(g:Nat→Value):St:=aq 220 g [(0,af 0 n c),(1,iN a),(2,iN m),(3,iN b),(4,Fc),(18,iN aM)] [ab us]
abbrev Ct(us:List aa)(g:Nat→Value):St:=aq 220 g [(0,af 0 n c),(1,iN a),(2,iN m),(3,iN b),(4,Fc),(18,iN aM),(19,iN q)] [ab us]
abbrev Pj(us:List aa)(s r:Nat)(g:Nat→Value):St:=aq 220 g [(0,af 0 n c),(1,iN a),(2,iN m),(3,iN b),(4,Fc),(18,iN aM),(19,iN q),(20,iN s),(21,iN r)] [ab us]
abbrev Cw(us:List aa)(s r:Nat)(g:Nat→Value):St:=aq 220 g [(0,af 0 n c),(1,iN a),(2,iN m),(3,iN b),(4,Fc),(18,iN aM),(19,iN q),(20,iN s),(21,iN r),(22,iN p)] [ab us]
theorem Rj:(execE Tryz.prog dR [(131,iN (a+b)),(132,uN (a+b)),(133,uN aM),(134,iN aM)] [] [] 10 CU (sj n c a m b us false g)).map (fun z=>(look2 1 [0] [0,1,2,3,4,18] (z.1,z.2.1),z.2.2)) =
 some ((.normal,[ab us],[(0,af 0 n c),(1,iN a),(2,iN m),(3,iN b),(4,Fc),(18,iN aM)],true),Ie a b aM [],[],[]):=by kernel_rfl
theorem Rk:(execE Tryz.prog dR [(137,iN (aM+m))] [] [] 10 CV (Pf n c a m b aM us g)).map (fun z=>(look2 1 [0] [0,1,2,3,4,18,19] (z.1,z.2.1),z.2.2)) =
 some ((.normal,[ab us],[(0,af 0 n c),(1,iN a),(2,iN m),(3,iN b),(4,Fc),(18,iN aM),(19,iN (aM+m))],true),[zf aM m],[],[]):=by kernel_rfl
theorem Rl:(execE Tryz.prog dR [] [] [] 10 CW (Ct n c a m b aM q us g)).map (fun z=>(look2 1 [0] [0,1,2,3,4,18,19] (z.1,z.2.1),z.2.2)) =
 some ((.normal,[ab us],[(0,af 0 n c),(1,iN a),(2,iN m),(3,iN b),(4,Fc),(18,iN aM),(19,iN q)],true),[],[],[]):=by kernel_rfl
theorem NN:(execE Tryz.prog dR [(140,.bool true),(143,iN (q-b))] [] [] 10 zn (Ct n c a m b aM q us g)).map (fun z=>(look2 1 [0] [0,1,2,3,4,18,19,20,21] (z.1,z.2.1),z.2.2)) =
 some ((.normal,[ab us],[(0,af 0 n c),(1,iN a),(2,iN m),(3,iN b),(4,Fc),(18,iN aM),(19,iN q),(20,iN (q-b)),(21,iN aM)],true),[D4 m aM true,rW q b],[],[]):=by kernel_rfl
theorem NM:(execE Tryz.prog dR [(140,.bool false)] [] [] 10 zn (Ct n c a m b aM q us g)).map (fun z=>(look2 1 [0] [0,1,2,3,4,18,19,20,21] (z.1,z.2.1),z.2.2)) =
 some ((.normal,[ab us],[(0,af 0 n c),(1,iN a),(2,iN m),(3,iN b),(4,Fc),(18,iN aM),(19,iN q),(20,iN a),(21,iN m)],true),[D4 m aM false],[],[]):=by kernel_rfl
theorem Rm:(execE Tryz.prog dR [(148,iN (q-1))] [] [] 10 CX (Pj n c a m b aM q us s r g)).map (fun z=>(look2 1 [0] [0,1,2,3,4,18,19,20,21,22] (z.1,z.2.1),z.2.2)) =
 some ((.normal,[ab us],[(0,af 0 n c),(1,iN a),(2,iN m),(3,iN b),(4,Fc),(18,iN aM),(19,iN q),(20,iN s),(21,iN r),(22,iN (q-1))],true),[rW q 1],[],[]):=by kernel_rfl
theorem NQ:(execE Tryz.prog dR [(151,.bool false)] [] [] 10 vr (Cw n c a m b p aM q us s r g)).map (fun z=>(look2 1 [0] [0,1,2,3,4,18,19,20] (z.1,z.2.1),z.2.2)) =
 some ((.exit 8,[ab us],[(0,af 0 n c),(1,iN a),(2,iN m),(3,iN b),(4,Fc),(18,iN aM),(19,iN q),(20,iN s)],true),[iG s r false],[],[]):=by kernel_rfl
noncomputable def Tt(b:Bool)(l:List di):List di:=iG s r true::Ie s r h (rW p h::hU 0 n c (p-h)::j7 (hW us).get 151 0 ((p-h)*7) (.agg ⟨vc u⟩)::hU 0 n c h::j7 (hW us).get 151 0 (h*7) (.agg ⟨vc w⟩)::Gx u w b::l)
theorem NO:(execE Tryz.prog dR (Xo h s r p u w false ++ [(173,iN (h+1))]) [] [] 20 vr (Cw n c a m b p aM q us s r g)).map (fun z=>(look2 1 [0] [0,1,2,3,4,18,19,20,21,22] (z.1,z.2.1),z.2.2)) =
 some ((.normal,[ab us],[(0,af 0 n c),(1,iN a),(2,iN m),(3,iN b),(4,Fc),(18,iN aM),(19,iN q),(20,iN (h+1)),(21,iN r),(22,iN p)],true),Tt us n c h s r p u w false [dJ h],[],[]):=by kernel_rfl
theorem NP:(execE Tryz.prog dR (Xo h s r p u w true) [] [] 20 vr (Cw n c a m b p aM q us s r g)).map (fun z=>(look2 1 [0] [0,1,2,3,4,18,19,20,21,22] (z.1,z.2.1),z.2.2)) =
 some ((.normal,[ab us],[(0,af 0 n c),(1,iN a),(2,iN m),(3,iN b),(4,Fc),(18,iN aM),(19,iN q),(20,iN s),(21,iN h),(22,iN p)],true),Tt us n c h s r p u w true [],[],[]):=by kernel_rfl
abbrev Pn(us:List aa)(s:Nat)(g:Nat→Value):St:=aq 220 g [(0,af 0 n c),(1,iN a),(2,iN m),(3,iN b),(4,Fc),(18,iN aM),(19,iN q),(20,iN s)] [ab us]
abbrev pv(us:List aa)(s e:Nat)(g:Nat→Value):St:=aq 220 g [(0,af 0 n c),(1,iN a),(2,iN m),(3,iN b),(4,Fc),(18,iN aM),(20,iN s),(24,iN e)] [ab us]
theorem Rn:(execE Tryz.prog dR [(177,iN (q-s))] [] [] 10 CY (Pn n c a m b aM q us s g)).map (fun z=>(look2 1 [0] [0,1,2,3,4,18,20,24] (z.1,z.2.1),z.2.2)) =
 some ((.normal,[ab us],[(0,af 0 n c),(1,iN a),(2,iN m),(3,iN b),(4,Fc),(18,iN aM),(20,iN s),(24,iN (q-s))],true),[rW q s],[],[]):=by kernel_rfl
end
section
variable (call:aH) (us us':List aa) (n c a m b s e aM:Nat) (g:Nat→Value)
theorem NR:(execE Tryz.prog call [(180,.bool false)] [] [] 10 vt (pv n c a m b aM us s e g)).map (fun z=>(look2 1 [0] [0,1,2,3,4,18,20,24] (z.1,z.2.1),z.2.2)) =
 some ((.normal,[ab us],[(0,af 0 n c),(1,iN a),(2,iN m),(3,iN b),(4,Fc),(18,iN aM),(20,iN s),(24,iN e)],true),[iG s m false],[],[]):=by kernel_rfl
theorem NS:(execE Tryz.prog call [(180,.bool true),(184,.bool false)] [] [] 10 vt (pv n c a m b aM us s e g)).map (fun z=>(look2 1 [0] [0,1,2,3,4,18,20,24] (z.1,z.2.1),z.2.2)) =
 some ((.normal,[ab us],[(0,af 0 n c),(1,iN a),(2,iN m),(3,iN b),(4,Fc),(18,iN aM),(20,iN s),(24,iN e)],true),[iG s m true,iG m e false],[],[]):=by kernel_rfl
theorem NT:(execE Tryz.prog call [(180,.bool true),(184,.bool true)] [] [(191,vU,[.put 0 (ab us')])] 10 vt (pv n c a m b aM us s e g)).map (fun z=>(look2 1 [0] [0,1,2,3,4,18,20,24] (z.1,z.2.1),z.2.2)) =
 some ((.normal,[ab us'],[(0,af 0 n c),(1,iN a),(2,iN m),(3,iN b),(4,Fc),(18,iN aM),(20,iN s),(24,iN e)],true),[iG s m true,iG m e true],[(call 209 [af 0 n c,iN s,iN m,iN e,Fc] (hW us),(vU,(hW us).put 0 (ab us')))],[]):=by kernel_rfl
theorem NU:(execE Tryz.prog call [(194,.bool false)] [] [] 10 vu (pv n c a m b aM us s e g)).map (fun z=>(look2 1 [0] [0,1,2,3,4,18,20,24] (z.1,z.2.1),z.2.2)) =
 some ((.normal,[ab us],[(0,af 0 n c),(1,iN a),(2,iN m),(3,iN b),(4,Fc),(18,iN aM),(20,iN s),(24,iN e)],true),[iG a s false],[],[]):=by kernel_rfl
theorem NV:(execE Tryz.prog call [(194,.bool true),(198,.bool false)] [] [] 10 vu (pv n c a m b aM us s e g)).map (fun z=>(look2 1 [0] [0,1,2,3,4,18,20,24] (z.1,z.2.1),z.2.2)) =
 some ((.normal,[ab us],[(0,af 0 n c),(1,iN a),(2,iN m),(3,iN b),(4,Fc),(18,iN aM),(20,iN s),(24,iN e)],true),[iG a s true,iG s aM false],[],[]):=by kernel_rfl
theorem NW:(execE Tryz.prog call [(194,.bool true),(198,.bool true)] [] [(205,vU,[.put 0 (ab us')])] 10 vu (pv n c a m b aM us s e g)).map (fun z=>(look2 1 [0] [0,1,2,3,4,18,20,24] (z.1,z.2.1),z.2.2)) =
 some ((.normal,[ab us'],[(0,af 0 n c),(1,iN a),(2,iN m),(3,iN b),(4,Fc),(18,iN aM),(20,iN s),(24,iN e)],true),[iG a s true,iG s aM true],[(call 179 [af 0 n c,iN a,iN s,iN aM,Fc] (hW us),(vU,(hW us).put 0 (ab us')))],[]):=by kernel_rfl
theorem NX:(execE Tryz.prog call [(208,.bool false)] [] [] 10 vv (pv n c a m b aM us s e g)).map (fun z=>(look2 1 [0] [] (z.1,z.2.1),z.2.2)) =
 some ((.normal,[ab us],[],true),[iG aM e false],[],[]):=by kernel_rfl
theorem NY:(execE Tryz.prog call [(208,.bool true),(212,.bool false)] [] [] 10 vv (pv n c a m b aM us s e g)).map (fun z=>(look2 1 [0] [] (z.1,z.2.1),z.2.2)) =
 some ((.normal,[ab us],[],true),[iG aM e true,iG e b false],[],[]):=by kernel_rfl
theorem NZ:(execE Tryz.prog call [(208,.bool true),(212,.bool true)] [] [(219,vU,[.put 0 (ab us')])] 10 vv (pv n c a m b aM us s e g)).map (fun z=>(look2 1 [0] [] (z.1,z.2.1),z.2.2)) =
 some ((.normal,[ab us'],[],true),[iG aM e true,iG e b true],[(call 179 [af 0 n c,iN aM,iN e,iN b,Fc] (hW us),(vU,(hW us).put 0 (ab us')))],[]):=by kernel_rfl
end
section
variable {A X Y C us:List aa} {a m b:Nat}
end
def u3(us:List aa)(e:Exit)(st:St):Prop:=(e = .normal∨e = .ret)∧∃ g,st=aq 220 g [] [ab us]
def tu(us:List aa)(e:Exit)(st:St):Prop:=e = .ret∧∃ g,st=aq 220 g [] [ab us]
theorem Fk{us:List aa}{W:bg}{x:Nat×Nat×Nat}{g:Nat→Value}:a8 Tryz.prog 220 W x .ret (aq 220 g [] [ab us]) (tu us):=fun a w m f=>wp_ret ⟨_,m,f,rfl,g,rfl⟩
theorem FL{A Y C us:List aa}{z:aa}{n c a m b:Nat}(hus:us=A ++ [z]++Y++C)(hA:A.length=a)(hm:m=a+1)(hb:b=m+Y.length)(hn:n=us.length)(hl:n<1000000)(hz:Kn z)(hK:∀ u∈Y,Kn u)(hY:mJ bc Y)(W:bg)(x:Nat×Nat×Nat)(g:Nat→Value) :
  a8 Tryz.prog 220 W x FX (B7 n c a m b us true g) (tu (A++dE bc [z] Y++C)):=by
 have hlen:us.length=a+1+Y.length+C.length:=by rw [hus]; simp; omega
 have hza:us[a]? = some z:=by have:=K6 (X:=[z]) hus hA (i:=0) (by simp); simpa using this
 have hYi:∀ {i:Nat},i<Y.length→us[m+i]? = Y[i]?:=fun h=>K7 (X:=[z]) hus hA hm h
 refine a8.seq (Q1:=fun e st=>e = .normal∧∃ g,st=OQ n c a m b us g) (a8.piece bf follows 1 _ _ _ _ (Rb dR us n c a m b true g) Met.nil az.nil aA.nil Sc rfl rfl (bu us []) rfl fun g=>⟨rfl,g,rfl⟩) ?_ (fun x st hne hq=>absurd hq.1 hne)
 rintro st ⟨-,g,rfl⟩;refine a8.seq (Q1:=fun e st=>e = .normal∧∃ g,st=B9 n c a us m b g) (a8.piece bf follows 1 _ _ _ _ (Rc dR us n c a m b g) Met.nil az.nil aA.nil Sd rfl rfl (bu us []) rfl fun g=>⟨rfl,g,rfl⟩) ?_ (fun x st hne hq=>absurd hq.1 hne)
 rintro st ⟨-,g,rfl⟩;refine a8.seq (Q1:=fun e st=>e = .normal∧∃ p g,p≤Y.length∧(∀ k u,k<p→Y[k]? = some u→bc u z=true)∧(∀ k u,p≤k→Y[k]? = some u→bc u z=false)∧st=OW n c a us (m+p) g) ?_ ?_ (fun x st hne hq=>absurd hq.1 hne)
 ·refine a8.block ?_
  refine a8.loop (fun k st=>∃ p r g,p≤r∧r≤Y.length∧k=r-p∧(∀ k u,k<p→Y[k]? = some u→bc u z=true)∧(∀ k u,r≤k→Y[k]? = some u→bc u z=false)∧st=B9 n c a us (m+p) (m+r) g) ?_ (k:=Y.length)
    ⟨0,Y.length,g,Nat.zero_le _,Nat.le_refl _,rfl,fun k u hk=>absurd hk (Nat.not_lt_zero _),fun k u hk hu=>(by rw [List.getElem?_eq_none hk] at hu; cases hu),by rw [hb]; rfl⟩
  rintro k st ⟨p,r,g,hpr,hr,rfl,hlo,hhi,rfl⟩;cases h33:decide (m+p<m+r) with
  | false =>
    have e:p=r:=by have:=of_decide_eq_false h33; omega
    subst e;refine a8.piece bf follows 1 _ _ _ _ (ND us n c a (m+p) (m+p) g) (Met.cons (bz h33) Met.nil) az.nil aA.nil Fs rfl rfl (bu us []) rfl fun g'=>.inr ⟨by simp,?_⟩
    show (if (0:Nat)=0 then _ else _)
    rw [if_pos rfl];exact ⟨rfl,p,g',hr,hlo,hhi,rfl⟩
  | true =>
    have hlt:=of_decide_eq_true h33
    have eh:(m+p+(m+r)) / 2=m+(p+r) / 2:=by omega
    have hq:(p+r) / 2<Y.length:=by omega
    obtain ⟨u,hu⟩:=gC hq;have hku:=hK u (List.mem_of_getElem? hu)
    have hui:us[(m+p+(m+r)) / 2]? = some u:=by rw [eh,hYi hq,hu]
    have met:∀ {b:Bool} {l:List di},bc u z=b→Met l→Met (Te us n c a (m+p) (m+r) ((m+p+(m+r)) / 2) z u b l):=fun hb hl =>
      Met.cons (bz h33) (ue (by omega) (Met.cons (dh (by omega)) (Met.cons (fh (fA _) hui) (Met.cons (dh (by omega)) (Met.cons (fh (fA _) hza) (Met.cons (qt hb) hl))))))
    cases h50:bc u z with
    | true =>
      refine a8.piece bf follows 1 _ _ _ _ (NC us n c a (m+p) (m+r) ((m+p+(m+r)) / 2) z u g) (met h50 (Met.cons (bq (by omega)) Met.nil)) az.nil aA.nil Fs rfl rfl (bu us []) rfl fun g'=>.inl ⟨rfl,r-((p+r) / 2+1),by omega,(p+r) / 2+1,r,g',by omega,hr,rfl,fun k v hk hv=>?_,hhi,by rw [eh]; rfl⟩
      cases e:bc v z with
      | true=>rfl
      | false =>
        have h1:=lG hY hK (show k≤(p+r) / 2 by omega) hv hu
        rw [sw.ntr u v z hku (hK v (List.mem_of_getElem? hv)) hz h1 e] at h50; cases h50
    | false =>
      refine a8.piece bf follows 1 _ _ _ _ (NB us n c a (m+p) (m+r) ((m+p+(m+r)) / 2) z u g) (met h50 Met.nil) az.nil aA.nil Fs rfl rfl (bu us []) rfl fun g'=>.inl ⟨rfl,(p+r) / 2-p,by omega,p,(p+r) / 2,g',by omega,by omega,rfl,hlo,fun k v hk hv=>?_,by rw [eh]⟩
      have h1:=lG hY hK hk hu hv
      exact sw.ntr v u z (hK v (List.mem_of_getElem? hv)) hku hz h1 h50
 ·rintro st ⟨-,p,g,hp,hlo,hhi,rfl⟩
  obtain ⟨Y1,Y2,hYe,hY1⟩:∃ Y1 Y2,Y=Y1++Y2∧Y1.length=p:=⟨Y.take p,Y.drop p,(List.take_append_drop _ _).symm,by simp; omega⟩
  have k1:∀ u∈Y1,bc u z=true:=fun u hu=>by
    obtain ⟨i,hi⟩:=List.mem_iff_getElem?.1 hu;have hlt:=(List.getElem?_eq_some_iff.1 hi).1
    exact hlo i u (by omega) (by rw [hYe,List.getElem?_append_left hlt,hi])
  have k2:∀ u∈Y2,bc u z=false:=fun u hu=>by
    obtain ⟨i,hi⟩:=List.mem_iff_getElem?.1 hu;exact hhi (p+i) u (by omega) (by rw [hYe,List.getElem?_append_right (by omega),show p+i-Y1.length=i by omega,hi])
  have hfin:A++dE bc [z] Y++C=A++Y1++z::(Y2++C):=by
    rw [hYe,um k1 k2 (by rw [← hYe]; exact hY)]; simp
  refine a8.seq (Q1:=fun e st=>e = .normal∧∃ g,st=aq 220 g [] [ab (A++Y1++z::(Y2++C))]) ?_ ?_ (fun x st hne hq=>absurd hq.1 hne)
  ·refine a8.seq (Q1:=fun e st=>e = .normal∧∃ g,st=GO n c us (m+p) a g) (a8.piece bf follows 1 _ _ _ _ (Re us n c a (m+p) g) Met.nil az.nil aA.nil Se rfl rfl (bu us []) rfl fun g=>⟨rfl,g,rfl⟩) ?_ (fun x st hne hq=>absurd hq.1 hne)
   rintro st ⟨-,g,rfl⟩;refine a8.block ?_
   refine a8.loop (fun k st=>∃ P Q g,Y1=P++Q∧k=Q.length∧st=GO n c (A++P++z::(Q++Y2++C)) (m+p) (a+P.length) g) ?_ (k:=Y1.length) ⟨[],Y1,g,rfl,rfl,by rw [hus,hYe]; simp⟩
   rintro k st ⟨P,Q,g,hPQ,rfl,rfl⟩;have hpl:p=P.length+Q.length:=by rw [← hY1,hPQ]; simp
   have hcl:(A++P++z::(Q++Y2++C)).length=n:=by rw [hn,hus,hYe,hPQ]; simp; omega
   cases h58:decide (a+P.length<m+p-1) with
   | false =>
     have hQ:Q = []:=List.eq_nil_of_length_eq_zero (by have:=of_decide_eq_false h58; omega)
     subst hQ;rw [List.append_nil] at hPQ;subst hPQ;refine a8.piece bf follows 1 _ _ _ _ (NG _ n c (m+p) (a+Y1.length) g) (Met.cons (dF (by omega) (by omega)) (Met.cons (bz h58) Met.nil)) az.nil aA.nil J0 rfl rfl (bu _ []) rfl fun g'=>.inr ⟨by simp,?_⟩
     show (if (2:Nat)=2 then _ else _)
     rw [if_pos rfl];exact ⟨rfl,g',by simp⟩
   | true =>
     have hlt:=of_decide_eq_true h58
     match Q,hPQ,hpl,hcl with
     | [],_,hpl,_=>simp at hpl; omega
     | y::Q,hPQ,hpl,hcl =>
       simp only [List.length_cons] at hpl;have l1:(A++P).length=a+P.length:=by simp; omega
       have l2:(A++P ++ [y]).length=a+P.length+1:=by simp; omega
       have l2':(A++P ++ [z]).length=a+P.length+1:=by simp; omega
       have ec:A++P++z::(y::Q++Y2++C)=(A++P ++ [z])++y::(Q++Y2++C):=by simp
       have dp:(A++P++z::(y::Q++Y2++C))[a+P.length]? = some z:=iE l1
       have hp2:(A++P++z::(y::Q++Y2++C))[a+P.length+1]? = some y:=by rw [ec]; exact iE l2'
       have hin:a+P.length+1<n:=by rw [← hcl]; simp; omega
       have s2:((A++P++z::(y::Q++Y2++C)).set (a+P.length) y).set (a+P.length+1) z=A++(P ++ [y])++z::(Q++Y2++C):=by
         rw [iJ l1];have:A++P++y::(y::Q++Y2++C)=(A++P ++ [y])++y::(Q++Y2++C):=by simp
         rw [this,iJ l2]; simp
       generalize hcur:A++P++z::(y::Q++Y2++C)=cur at *;refine a8.piece bf follows 1 _ _ _ _ (NF cur (cur.set (a+P.length) y) ((cur.set (a+P.length) y).set (a+P.length+1) z) n c (m+p) (a+P.length) z y g)
         (Met.cons (dF (by omega) (by omega)) (Met.cons (bz h58) (Met.cons (bq (by omega)) (Met.cons (bq (by omega)) (Met.cons (dh hin) (Met.cons (fh (fA _) hp2) (Met.cons (dh (by omega)) (Met.cons (fh (fA _) dp) (Met.cons (dh (by omega)) (Met.cons (dh hin) (Met.cons (bq (by omega)) Met.nil)))))))))))
         az.nil (aA.cons (jN (dC _) (by omega)) (aA.cons (jN ny (by rw [List.length_set]; omega)) aA.nil)) J0 rfl rfl (bu _ []) rfl fun g'=>.inl ⟨rfl,Q.length,by simp,P ++ [y],Q,g',by rw [hPQ]; simp,rfl,?_⟩
       rw [s2,List.length_append];rfl
  ·rintro st ⟨-,g,rfl⟩
   rw [hfin];exact Fk
theorem BF{A X C us:List aa}{y:aa}{n c a m b:Nat}{d:Bool}(hus:us=A++X ++ [y]++C)(hA:A.length=a)(hm:m=a+X.length)(hn:n=us.length)(hl:n<1000000)(hy:Kn y)(hK:∀ u∈X,Kn u)(hX:mJ bc X)(W:bg)(x:Nat×Nat×Nat)(g:Nat→Value) :
  a8 Tryz.prog 220 W x FY (sj n c a m b us d g) (tu (A++dE bc X [y]++C)):=by
 have hlen:us.length=a+X.length+1+C.length:=by rw [hus]; simp; omega
 have hym:us[m]? = some y:=by have:=K7 (Y:=[y]) hus hA hm (i:=0) (by simp); simpa using this
 have hXi:∀ {i:Nat},i<X.length→us[a+i]? = X[i]?:=fun h=>K6 (Y:=[y]) hus hA h
 refine a8.seq (Q1:=fun e st=>e = .normal∧∃ g,st=O9 n c a m us g) (a8.piece bf follows 1 _ _ _ _ (Rg us n c a m b d g) Met.nil az.nil aA.nil Sg rfl rfl (bu us []) rfl fun g=>⟨rfl,g,rfl⟩) ?_ (fun x st hne hq=>absurd hq.1 hne)
 rintro st ⟨-,g,rfl⟩;refine a8.seq (Q1:=fun e st=>e = .normal∧∃ g,st=Cq n c m us a m g) (a8.piece bf follows 1 _ _ _ _ (Rh us n c a m g) Met.nil az.nil aA.nil Sh rfl rfl (bu us []) rfl fun g=>⟨rfl,g,rfl⟩) ?_ (fun x st hne hq=>absurd hq.1 hne)
 rintro st ⟨-,g,rfl⟩;refine a8.seq (Q1:=fun e st=>e = .normal∧∃ p g,p≤X.length∧(∀ k u,k<p→X[k]? = some u→bc y u=false)∧(∀ k u,p≤k→X[k]? = some u→bc y u=true)∧st=Pa n c m us (a+p) g) ?_ ?_ (fun x st hne hq=>absurd hq.1 hne)
 ·refine a8.block ?_
  refine a8.loop (fun k st=>∃ p r g,p≤r∧r≤X.length∧k=r-p∧(∀ k u,k<p→X[k]? = some u→bc y u=false)∧(∀ k u,r≤k→X[k]? = some u→bc y u=true)∧st=Cq n c m us (a+p) (a+r) g) ?_ (k:=X.length)
    ⟨0,X.length,g,Nat.zero_le _,Nat.le_refl _,rfl,fun k u hk=>absurd hk (Nat.not_lt_zero _),fun k u hk hu=>(by rw [List.getElem?_eq_none hk] at hu; cases hu),by rw [← hm]; rfl⟩
  rintro k st ⟨p,r,g,hpr,hr,rfl,hlo,hhi,rfl⟩;cases h85:decide (a+p<a+r) with
  | false =>
    have e:p=r:=by have:=of_decide_eq_false h85; omega
    subst e;refine a8.piece bf follows 1 _ _ _ _ (NJ us n c m (a+p) (a+p) g) (Met.cons (bz h85) Met.nil) az.nil aA.nil Ft rfl rfl (bu us []) rfl fun g'=>.inr ⟨by simp,?_⟩
    show (if (4:Nat)=4 then _ else _)
    rw [if_pos rfl];exact ⟨rfl,p,g',hr,hlo,hhi,rfl⟩
  | true =>
    have hlt:=of_decide_eq_true h85
    have eh:(a+p+(a+r)) / 2=a+(p+r) / 2:=by omega
    have hq:(p+r) / 2<X.length:=by omega
    obtain ⟨u,hu⟩:=gC hq;have hku:=hK u (List.mem_of_getElem? hu)
    have hui:us[(a+p+(a+r)) / 2]? = some u:=by rw [eh,hXi hq,hu]
    have met:∀ {b:Bool} {l:List di},bc y u=b→Met l→Met (Tm us n c m (a+p) (a+r) ((a+p+(a+r)) / 2) y u b l):=fun hb hl =>
      Met.cons (bz h85) (ue (by omega) (Met.cons (dh (by omega)) (Met.cons (fh (fA _) hym) (Met.cons (dh (by omega)) (Met.cons (fh (fA _) hui) (Met.cons (qt hb) hl))))))
    cases h102:bc y u with
    | false =>
      refine a8.piece bf follows 1 _ _ _ _ (NH us n c m (a+p) (a+r) ((a+p+(a+r)) / 2) y u g) (met h102 (Met.cons (bq (by omega)) Met.nil)) az.nil aA.nil Ft rfl rfl (bu us []) rfl fun g'=>.inl ⟨rfl,r-((p+r) / 2+1),by omega,(p+r) / 2+1,r,g',by omega,hr,rfl,fun k v hk hv=>?_,hhi,by rw [eh]; rfl⟩
      have h1:=lG hX hK (show k≤(p+r) / 2 by omega) hv hu
      exact sw.ntr y u v hy hku (hK v (List.mem_of_getElem? hv)) h102 h1
    | true =>
      refine a8.piece bf follows 1 _ _ _ _ (NI us n c m (a+p) (a+r) ((a+p+(a+r)) / 2) y u g) (met h102 Met.nil) az.nil aA.nil Ft rfl rfl (bu us []) rfl fun g'=>.inl ⟨rfl,(p+r) / 2-p,by omega,p,(p+r) / 2,g',by omega,by omega,rfl,hlo,fun k v hk hv=>?_,by rw [eh]⟩
      cases e:bc y v with
      | true=>rfl
      | false =>
        have h1:=lG hX hK hk hu hv
        rw [sw.ntr y v u hy (hK v (List.mem_of_getElem? hv)) hku e h1] at h102; cases h102
 ·rintro st ⟨-,p,g,hp,hlo,hhi,rfl⟩
  obtain ⟨X1,X2,hXe,hX1⟩:∃ X1 X2,X=X1++X2∧X1.length=p:=⟨X.take p,X.drop p,(List.take_append_drop _ _).symm,by simp; omega⟩
  have k1:∀ u∈X1,bc y u=false:=fun u hu=>by
    obtain ⟨i,hi⟩:=List.mem_iff_getElem?.1 hu;have hlt:=(List.getElem?_eq_some_iff.1 hi).1
    exact hlo i u (by omega) (by rw [hXe,List.getElem?_append_left hlt,hi])
  have k2:∀ u∈X2,bc y u=true:=fun u hu=>by
    obtain ⟨i,hi⟩:=List.mem_iff_getElem?.1 hu;exact hhi (p+i) u (by omega) (by rw [hXe,List.getElem?_append_right (by omega),show p+i-X1.length=i by omega,hi])
  have hfin:A++dE bc X [y]++C=A++X1++y::(X2++C):=by
    have:dE bc X [y]=dD bc X y:=rfl
    rw [this,gz hXe k2 (fun q hq=>k1 q (List.mem_of_getLast? hq))]; simp
  refine a8.seq (Q1:=fun e st=>e = .normal∧∃ g,st=aq 220 g [] [ab (A++X1++y::(X2++C))]) ?_ ?_ (fun x st hne hq=>absurd hq.1 hne)
  ·refine a8.seq (Q1:=fun e st=>e = .normal∧∃ g,st=GW n c us (a+p) m g) (a8.piece bf follows 1 _ _ _ _ (Ri us n c m (a+p) g) Met.nil az.nil aA.nil Si rfl rfl (bu us []) rfl fun g=>⟨rfl,g,rfl⟩) ?_ (fun x st hne hq=>absurd hq.1 hne)
   rintro st ⟨-,g,rfl⟩;refine a8.block ?_
   refine a8.loop (fun k st=>∃ P Q g,X2=P++Q∧k=P.length∧st=GW n c (A++X1++P++y::(Q++C)) (a+p) (a+p+P.length) g) ?_ (k:=X2.length) ⟨X2,[],g,by simp,rfl,by rw [hus,hXe,show a+p+X2.length=m by rw [hm,hXe]; simp; omega]; simp⟩
   rintro k st ⟨P,Q,g,hPQ,rfl,rfl⟩;have hcl:(A++X1++P++y::(Q++C)).length=n:=by rw [hn,hus,hXe,hPQ]; simp; omega
   cases h110:decide (a+p<a+p+P.length) with
   | false =>
     have hP:P = []:=List.eq_nil_of_length_eq_zero (by have:=of_decide_eq_false h110; omega)
     subst hP;rw [List.nil_append] at hPQ;subst hPQ;refine a8.piece bf follows 1 _ _ _ _ (NL _ n c (a+p) (a+p+([]:List aa).length) g) (Met.cons (jz h110) Met.nil) az.nil aA.nil J1 rfl rfl (bu _ []) rfl fun g'=>.inr ⟨by simp,?_⟩
     show (if (6:Nat)=6 then _ else _)
     rw [if_pos rfl];exact ⟨rfl,g',by simp⟩
   | true =>
     have hpos:=of_decide_eq_true h110
     obtain ⟨P',q,rfl⟩:∃ P' q,P=P' ++ [q]:=by
       rcases List.eq_nil_or_concat P with h | ⟨L,b,h⟩
       ·rw [h] at hpos; simp at hpos
       ·exact ⟨L,b,by simpa using h⟩
     have el:a+p+(P' ++ [q]).length=a+p+P'.length+1:=by simp; omega
     have e1:A++X1++(P' ++ [q])++y::(Q++C)=(A++X1++P')++q::y::(Q++C):=by simp
     have e2:A++X1++(P' ++ [q])++y::(Q++C)=(A++X1++P' ++ [q])++y::(Q++C):=by simp
     have l1:(A++X1++P').length=a+p+P'.length:=by simp; omega
     have l2:(A++X1++P' ++ [q]).length=a+p+P'.length+1:=by simp; omega
     rw [el] at h110 ⊢;have hg1:(A++X1++(P' ++ [q])++y::(Q++C))[a+p+P'.length]? = some q:=by rw [e1]; exact iE l1
     have hg2:(A++X1++(P' ++ [q])++y::(Q++C))[a+p+P'.length+1]? = some y:=by rw [e2]; exact iE l2
     have hin:a+p+P'.length+1<n:=by rw [← hcl]; simp; omega
     have s2:((A++X1++(P' ++ [q])++y::(Q++C)).set (a+p+P'.length+1) q).set (a+p+P'.length+1-1) y=A++X1++P'++y::(q::Q++C):=by
       rw [e2,iJ l2];have:A++X1++P' ++ [q]++q::(Q++C)=(A++X1++P')++q::(q::(Q++C)):=by simp
       rw [this,show a+p+P'.length+1-1=a+p+P'.length by omega,iJ l1]; simp
     generalize hcur:A++X1++(P' ++ [q])++y::(Q++C)=cur at *;have ep:a+p+P'.length+1-1=a+p+P'.length:=by omega
     refine a8.piece bf follows 1 _ _ _ _ (NK cur (cur.set (a+p+P'.length+1) q) ((cur.set (a+p+P'.length+1) q).set (a+p+P'.length+1-1) y) n c (a+p) (a+p+P'.length+1) q y g)
       (Met.cons (jz h110) (Met.cons (dF (by omega) (by omega)) (Met.cons (dF (by omega) (by omega)) (Met.cons (dh (by omega)) (Met.cons (fh (fA _) (by rw [ep]; exact hg1)) (Met.cons (dh hin) (Met.cons (fh (fA _) hg2) (Met.cons (dh hin) (Met.cons (dh (by omega)) (Met.cons (dF (by omega) (by omega)) Met.nil))))))))))
       az.nil (aA.cons (jN (dC _) (by omega)) (aA.cons (jN ny (by rw [List.length_set]; omega)) aA.nil)) J1 rfl rfl (bu _ []) rfl fun g'=>.inl ⟨rfl,P'.length,by simp,P',q::Q,g',by rw [hPQ]; simp,rfl,?_⟩
     rw [s2,ep]
  ·rintro st ⟨-,g,rfl⟩
   rw [hfin];exact Fk
open Classical in
noncomputable def g102(w:Nat)(us:List aa):aD:=fun args hp=>match args with
 | [.slice (some ⟨k,0,none⟩) n c,.int .i64 (.ofNat a),.int .i64 (.ofNat m),.int .i64 (.ofNat b),f] =>
   if f=Fc∧cN us (.slice (some ⟨k,0,none⟩) n c) hp∧a<m∧m<b∧b≤us.length∧b-a≤w∧(∀ z∈(us.drop a).take (m-a),Kn z)∧(∀ z∈(us.drop m).take (b-m),Kn z)∧mJ bc ((us.drop a).take (m-a))∧mJ bc ((us.drop m).take (b-m)) then
     some (vU,hp.put k (ab (us.take a++dE bc ((us.drop a).take (m-a)) ((us.drop m).take (b-m))++us.drop b))) else none
 | _=>none
open Classical in
theorem pP{w:Nat}{A X Y C us:List aa}{k n c a m b:Nat}{hp:Hp}(hus:us=A++X++Y++C)(hA:A.length=a)(hm:m=a+X.length)(hb':b=m+Y.length)(hX:0<X.length)(hY:0<Y.length)(hn:n=us.length)(hl:n<1000000)(hw:b-a≤w)
  (kX:∀ z∈X,Kn z) (kY:∀ z∈Y,Kn z) (sX:mJ bc X) (sY:mJ bc Y) (hb:hp.get k=some (ab us)) :
  atW (g102 w) [af k n c,iN a,iN m,iN b,Fc] hp=some (vU,hp.put k (ab (A++dE bc X Y++C))):=by
 subst hn;have hr:cN us (af k us.length c) hp:=⟨k,c,rfl,hb⟩
 rw [mb hr hl];obtain ⟨e1,e2,e3,e4⟩:=zB (C:=C) hA hm hb';show (if Fc=Fc∧cN us (af k us.length c) hp∧a<m∧m<b∧b≤us.length∧b-a≤w∧(∀ z∈(us.drop a).take (m-a),Kn z)∧(∀ z∈(us.drop m).take (b-m),Kn z)∧mJ bc ((us.drop a).take (m-a))∧mJ bc ((us.drop m).take (b-m)) then
    some (vU,hp.put k (ab (us.take a++dE bc ((us.drop a).take (m-a)) ((us.drop m).take (b-m))++us.drop b))) else none)=_
 rw [hus] at hr ⊢;rw [e1,e2,e3,e4,if_pos ⟨rfl,hr,by omega,by omega,by simp; omega,hw,kX,kY,sX,sY⟩]
noncomputable def Kd(w:Nat):Ext:=fv (cS Tryz.prog []) [(209,Ci),(179,atW (g102 w))]
noncomputable def fY(w:Nat):aH:=aCall Tryz.prog (Kd w) 5
theorem CK(w:Nat)(args:List Value)(hp:Hp):fY w 209 args hp=Ci args hp:=by
 show aCall Tryz.prog (Kd w) 5 209 _ _=_
 rw [aCall]; rfl
theorem vo(w:Nat)(args:List Value)(hp:Hp):fY w 179 args hp=atW (g102 w) args hp:=by
 show aCall Tryz.prog (Kd w) 5 179 _ _=_
 rw [aCall]; rfl
theorem Mz{w:Nat}(hc:ba Tryz.prog (fY w)){A X Y C us:List aa}{n c a m b:Nat}(hus:us=A++X++Y++C)(hA:A.length=a)(hm:m=a+X.length)(hb:b=m+Y.length)(hX:0<X.length)(hY:0<Y.length)(hw:b-a≤w+1)
  (hn:n=us.length) (hl:n<1000000) (kX:∀ u∈X,Kn u) (kY:∀ u∈Y,Kn u) (sX:mJ bc X) (sY:mJ bc Y) (W:bg) (x:Nat×Nat×Nat) (g:Nat→Value) :
  a8 Tryz.prog 220 W x FZ (sj n c a m b us false g) (u3 (A++dE bc X Y++C)):=by
 have hlen:us.length=a+X.length+Y.length+C.length:=by rw [hus]; simp; omega

 have gX:∀ {i:Nat},a≤i→i<m→us[i]? = X[i-a]?:=fun {i} h1 h2=>by
  have:=K6 hus hA (i:=i-a) (by omega)
  rwa [show a+(i-a)=i by omega] at this
 have gY:∀ {i:Nat},m≤i→i<b→us[i]? = Y[i-m]?:=fun {i} h1 h2=>by
  have:=K7 hus hA hm (i:=i-m) (by omega)
  rwa [show m+(i-m)=i by omega] at this
 have KX:∀ {i u},a≤i→i<m→us[i]? = some u→Kn u:=fun h1 h2 h=>kX _ (List.mem_of_getElem? (by rw [← gX h1 h2]; exact h))
 have KY:∀ {i u},m≤i→i<b→us[i]? = some u→Kn u:=fun h1 h2 h=>kY _ (List.mem_of_getElem? (by rw [← gY h1 h2]; exact h))
 have SX:∀ {i j u v},a≤i→i≤j→j<m→us[i]? = some u→us[j]? = some v→bc v u=false:=fun {i j u v} h1 h2 h3 hu hv=>lG sX kX (show i-a≤j-a by omega) (by rw [← gX h1 (by omega)]; exact hu) (by rw [← gX (by omega) h3]; exact hv)
 have SY:∀ {i j u v},m≤i→i≤j→j<b→us[i]? = some u→us[j]? = some v→bc v u=false:=fun {i j u v} h1 h2 h3 hu hv=>lG sY kY (show i-m≤j-m by omega) (by rw [← gY h1 (by omega)]; exact hu) (by rw [← gY (by omega) h3]; exact hv)
 refine a8.seq (Q1:=fun e st=>e = .normal∧∃ g,st=Pf n c a m b ((a+b) / 2) us g) (a8.piece bf follows 1 _ _ _ _ (Rj us n c a m b ((a+b) / 2) g) (ue (by omega) Met.nil) az.nil aA.nil Sj rfl rfl (bu us []) rfl fun g=>⟨rfl,g,rfl⟩) ?_ (fun x st hne hq=>absurd hq.1 hne)
 rintro st ⟨-,g,rfl⟩;have hmid1:2*((a+b) / 2)≤a+b:=by omega
 have hmid2:a+b≤2*((a+b) / 2)+1:=by omega
 generalize (a+b) / 2=aM at *;refine a8.seq (Q1:=fun e st=>e = .normal∧∃ g,st=Ct n c a m b aM (aM+m) us g) (a8.piece bf follows 1 _ _ _ _ (Rk us n c a m b aM g) (Met.cons (gP (by omega)) Met.nil) az.nil aA.nil Sk rfl rfl (bu us []) rfl fun g=>⟨rfl,g,rfl⟩) ?_ (fun x st hne hq=>absurd hq.1 hne)
 rintro st ⟨-,g,rfl⟩;refine a8.seq (Q1:=fun e st=>e = .normal∧∃ g,st=Ct n c a m b aM (aM+m) us g) (a8.piece bf follows 1 _ _ _ _ (Rl us n c a m b aM (aM+m) g) Met.nil az.nil aA.nil Sl rfl rfl (bu us []) rfl fun g=>⟨rfl,g,rfl⟩) ?_ (fun x st hne hq=>absurd hq.1 hne)
 rintro st ⟨-,g,rfl⟩;refine a8.seq (Q1:=fun e st=>e = .normal∧∃ s0 r0 g,s0≤r0∧(m>aM∧s0+b=aM+m∧r0=aM∨m≤aM∧s0=a∧r0=m)∧st=Pj n c a m b aM (aM+m) us s0 r0 g) ?_ ?_ (fun x st hne hq=>absurd hq.1 hne)
 ·cases h140:decide (aM<m) with
  | true =>
    have hlt:=of_decide_eq_true h140
    exact a8.piece bf follows 1 _ _ _ _ (NN us n c a m b aM (aM+m) g) (Met.cons (jz h140) (Met.cons (dF (by omega) (by omega)) Met.nil)) az.nil aA.nil J2 rfl rfl (bu us []) rfl fun g=>⟨rfl,aM+m-b,aM,g,by omega,.inl ⟨hlt,by omega,rfl⟩,rfl⟩
  | false =>
    have hlt:=of_decide_eq_false h140
    exact a8.piece bf follows 1 _ _ _ _ (NM us n c a m b aM (aM+m) g) (Met.cons (jz h140) Met.nil) az.nil aA.nil J2 rfl rfl (bu us []) rfl fun g=>⟨rfl,a,m,g,by omega,.inr ⟨by omega,rfl,rfl⟩,rfl⟩
 rintro st ⟨-,s0,r0,g,hs0,hcase,rfl⟩;refine a8.seq (Q1:=fun e st=>e = .normal∧∃ g,st=Cw n c a m b (aM+m-1) aM (aM+m) us s0 r0 g) (a8.piece bf follows 1 _ _ _ _ (Rm us n c a m b s0 r0 aM (aM+m) g) (Met.cons (dF (by omega) (by omega)) Met.nil) az.nil aA.nil Sm rfl rfl (bu us []) rfl fun g=>⟨rfl,g,rfl⟩) ?_ (fun x st hne hq=>absurd hq.1 hne)
 rintro st ⟨-,g,rfl⟩;have H:∀ i,s0≤i→i<r0→a≤i∧i<m∧m≤aM+m-1-i∧aM+m-1-i<b∧i≤aM+m-1:=fun i h1 h2=>by
  rcases hcase with ⟨q1,q2,q3⟩ | ⟨q1,q2,q3⟩ <;> omega
 refine a8.seq (Q1:=fun e st=>e = .normal∧∃ s g,s0≤s∧s≤r0∧(∀ i u v,s0≤i→i<s→us[aM+m-1-i]? = some u→us[i]? = some v→bc u v=false)∧(∀ i u v,s≤i→i<r0→us[aM+m-1-i]? = some u→us[i]? = some v→bc u v=true)∧st=Pn n c a m b aM (aM+m) us s g) ?_ ?_ (fun x st hne hq=>absurd hq.1 hne)
 ·refine a8.block ?_
  refine a8.loop (fun k st=>∃ s r g,s0≤s∧s≤r∧r≤r0∧k=r-s∧(∀ i u v,s0≤i→i<s→us[aM+m-1-i]? = some u→us[i]? = some v→bc u v=false)∧(∀ i u v,r≤i→i<r0→us[aM+m-1-i]? = some u→us[i]? = some v→bc u v=true)∧st=Cw n c a m b (aM+m-1) aM (aM+m) us s r g) ?_ (k:=r0-s0)
    ⟨s0,r0,g,Nat.le_refl _,hs0,Nat.le_refl _,rfl,(fun i u v h1 h2=>by omega),(fun i u v h1 h2=>by omega),rfl⟩
  rintro k st ⟨s,r,g,h1,h2,h3,rfl,hlo,hhi,rfl⟩;cases h151:decide (s<r) with
  | false =>
    have e:s=r:=by have:=of_decide_eq_false h151; omega
    subst e;refine a8.piece bf follows 1 _ _ _ _ (NQ us n c a m b s s (aM+m-1) aM (aM+m) g) (Met.cons (bz h151) Met.nil) az.nil aA.nil Fu rfl rfl (bu us []) rfl fun g'=>.inr ⟨by simp,?_⟩
    show (if (8:Nat)=8 then _ else _)
    rw [if_pos rfl];exact ⟨rfl,s,g',h1,h3,hlo,hhi,rfl⟩
  | true =>
    have hlt:=of_decide_eq_true h151
    have hq1:s≤(s+r) / 2:=by omega
    have hq2:(s+r) / 2<r:=by omega
    have hhv:∀ l,Met l→Met (Ie s r ((s+r) / 2) l):=fun l q=>ue (show s+r<3000000 by have:=H s h1 (by omega); omega) q
    generalize (s+r) / 2=h at *;obtain ⟨c1,c2,c3,c4,c5⟩:=H h (by omega) (by omega)
    obtain ⟨v,hv⟩:∃ v,us[h]? = some v:=gC (by omega)
    obtain ⟨u,hu⟩:∃ u,us[aM+m-1-h]? = some u:=gC (by omega)
    have met:∀ {b':Bool} {l:List di},bc u v=b'→Met l→Met (Tt us n c h s r (aM+m-1) u v b' l):=fun hb' hl =>
      Met.cons (bz h151) (hhv _ (Met.cons (dF (by omega) c5) (Met.cons (dh (by omega)) (Met.cons (fh (fA _) hu) (Met.cons (dh (by omega)) (Met.cons (fh (fA _) hv) (Met.cons (qt hb') hl)))))))
    cases h170:bc u v with
    | false =>
      refine a8.piece bf follows 1 _ _ _ _ (NO us n c a m b h s r (aM+m-1) aM (aM+m) u v g) (met h170 (Met.cons (bq (by omega)) Met.nil)) az.nil aA.nil Fu rfl rfl (bu us []) rfl fun g'=>.inl ⟨rfl,r-(h+1),by omega,h+1,r,g',by omega,by omega,h3,rfl,fun i u' v' i1 i2 hu' hv'=>?_,hhi,rfl⟩
      obtain ⟨d1,d2,d3,d4,d5⟩:=H i i1 (by omega)
      have s1:=SX d1 (show i≤h by omega) c2 hv' hv
      have s2:=SY c3 (show aM+m-1-h≤aM+m-1-i by omega) d4 hu hu'
      exact sw.ntr u' v v' (KY d3 d4 hu') (KX c1 c2 hv) (KX d1 d2 hv') (sw.ntr u' u v (KY d3 d4 hu') (KY c3 c4 hu) (KX c1 c2 hv) s2 h170) s1
    | true =>
      refine a8.piece bf follows 1 _ _ _ _ (NP us n c a m b h s r (aM+m-1) aM (aM+m) u v g) (met h170 Met.nil) az.nil aA.nil Fu rfl rfl (bu us []) rfl fun g'=>.inl ⟨rfl,h-s,by omega,s,h,g',h1,hq1,by omega,rfl,hlo,fun i u' v' i1 i2 hu' hv'=>?_,rfl⟩
      obtain ⟨d1,d2,d3,d4,d5⟩:=H i (by omega) i2
      cases e:bc u' v' with
      | true=>rfl
      | false =>
        have s1:=SX c1 i1 d2 hv hv'
        have s2:=SY d3 (show aM+m-1-i≤aM+m-1-h by omega) c4 hu' hu
        have:=sw.ntr u v' v (KY c3 c4 hu) (KX d1 d2 hv') (KX c1 c2 hv) (sw.ntr u u' v' (KY c3 c4 hu) (KY d3 d4 hu') (KX d1 d2 hv') s2 e) s1
        rw [this] at h170; cases h170
 rintro st ⟨-,s,g,hs1,hs2,hlo,hhi,rfl⟩;have bs:a≤s∧s≤m∧s≤aM∧m≤aM+m-s∧aM+m-s≤b:=by rcases hcase with ⟨q1,q2,q3⟩ | ⟨q1,q2,q3⟩ <;> omega
 obtain ⟨bs1,bs2,bs3,bs4,bs5⟩:=bs;obtain ⟨X1,X2,hXe,lX1⟩:∃ X1 X2,X=X1++X2∧X1.length=s-a:=⟨X.take (s-a),X.drop (s-a),(List.take_append_drop _ _).symm,by simp; omega⟩
 obtain ⟨Y1,Y2,hYe,lY1⟩:∃ Y1 Y2,Y=Y1++Y2∧Y1.length=aM-s:=⟨Y.take (aM-s),Y.drop (aM-s),(List.take_append_drop _ _).symm,by simp; omega⟩
 have lX:X.length=X1.length+X2.length:=by rw [hXe]; simp
 have lY:Y.length=Y1.length+Y2.length:=by rw [hYe]; simp
 have iX1:∀ z∈X1,∃ i,a≤i∧i<s∧us[i]? = some z:=fun z hz=>by
  obtain ⟨i,hi⟩:=List.mem_iff_getElem?.1 hz;have hlt:=(List.getElem?_eq_some_iff.1 hi).1
  exact ⟨a+i,by omega,by omega,by rw [gX (by omega) (by omega),hXe,show a+i-a=i by omega,List.getElem?_append_left hlt,hi]⟩
 have iX2:∀ z∈X2,∃ i,s≤i∧i<m∧us[i]? = some z:=fun z hz=>by
  obtain ⟨i,hi⟩:=List.mem_iff_getElem?.1 hz;have hlt:=(List.getElem?_eq_some_iff.1 hi).1
  exact ⟨s+i,by omega,by omega,by rw [gX (by omega) (by omega),hXe,List.getElem?_append_right (by omega),show s+i-a-X1.length=i by omega,hi]⟩
 have iY1:∀ z∈Y1,∃ i,m≤i∧i<aM+m-s∧us[i]? = some z:=fun z hz=>by
  obtain ⟨i,hi⟩:=List.mem_iff_getElem?.1 hz;have hlt:=(List.getElem?_eq_some_iff.1 hi).1
  exact ⟨m+i,by omega,by omega,by rw [gY (by omega) (by omega),hYe,show m+i-m=i by omega,List.getElem?_append_left hlt,hi]⟩
 have iY2:∀ z∈Y2,∃ i,aM+m-s≤i∧i<b∧us[i]? = some z:=fun z hz=>by
  obtain ⟨i,hi⟩:=List.mem_iff_getElem?.1 hz;have hlt:=(List.getElem?_eq_some_iff.1 hi).1
  exact ⟨aM+m-s+i,by omega,by omega,by rw [gY (by omega) (by omega),hYe,List.getElem?_append_right (by omega),show aM+m-s+i-m-Y1.length=i by omega,hi]⟩
 have C1:∀ y∈Y1,∀ z∈X2,bc y z=true:=fun y hy z hz=>by
  obtain ⟨j,j1,j2,hj⟩:=iY1 y hy;obtain ⟨i,i1,i2,hi⟩:=iX2 z hz;have hsr:s<r0:=by rcases hcase with ⟨q1,q2,q3⟩ | ⟨q1,q2,q3⟩ <;> omega
  obtain ⟨d1,d2,d3,d4,d5⟩:=H s hs1 hsr;obtain ⟨v,hv⟩:∃ v,us[s]? = some v:=gC (by omega)
  obtain ⟨u,hu⟩:∃ u,us[aM+m-1-s]? = some u:=gC (by omega)
  have hk:=hhi s u v (Nat.le_refl _) hsr hu hv
  cases e:bc y z with
  | true=>rfl
  | false =>
    have s1:=SX d1 i1 i2 hv hi
    have s2:=SY j1 (show j≤aM+m-1-s by omega) d4 hj hu
    have:=sw.ntr u z v (KY d3 d4 hu) (KX (by omega) i2 hi) (KX d1 d2 hv) (sw.ntr u y z (KY d3 d4 hu) (KY j1 (by omega) hj) (KX (by omega) i2 hi) s2 e) s1
    rw [this] at hk; cases hk
 have C2:∀ y∈Y2,∀ z∈X1,bc y z=false:=fun y hy z hz=>by
  obtain ⟨j,j1,j2,hj⟩:=iY2 y hy;obtain ⟨i,i1,i2,hi⟩:=iX1 z hz;have hsr:s0<s:=by rcases hcase with ⟨q1,q2,q3⟩ | ⟨q1,q2,q3⟩ <;> omega
  obtain ⟨d1,d2,d3,d4,d5⟩:=H (s-1) (by omega) (by omega)
  obtain ⟨v,hv⟩:∃ v,us[s-1]? = some v:=gC (by omega)
  obtain ⟨u,hu⟩:∃ u,us[aM+m-1-(s-1)]? = some u:=gC (by omega)
  have hk:=hlo (s-1) u v (by omega) (by omega) hu hv
  have s1:=SX i1 (show i≤s-1 by omega) d2 hi hv
  have s2:=SY d3 (show aM+m-1-(s-1)≤j by omega) j2 hu hj
  exact sw.ntr y v z (KY (by omega) j2 hj) (KX d1 d2 hv) (KX i1 (by omega) hi) (sw.ntr y u v (KY (by omega) j2 hj) (KY d3 d4 hu) (KX d1 d2 hv) s2 hk) s1
 obtain ⟨sX1,sX2,-⟩:=List.pairwise_append.1 (show mJ bc (X1++X2) by rw [← hXe]; exact sX)
 obtain ⟨sY1,sY2,sY12⟩:=List.pairwise_append.1 (show mJ bc (Y1++Y2) by rw [← hYe]; exact sY)
 have hsplit:dE bc X Y=dE bc X1 Y1++dE bc X2 Y2:=by rw [hXe,hYe]; exact sN C1 C2 fun y hy z hz=>sY12 z hz y hy
 have kX1:∀ z∈X1,Kn z:=fun z hz=>kX z (by rw [hXe]; simp [hz])
 have kX2:∀ z∈X2,Kn z:=fun z hz=>kX z (by rw [hXe]; simp [hz])
 have kY1:∀ z∈Y1,Kn z:=fun z hz=>kY z (by rw [hYe]; simp [hz])
 have kY2:∀ z∈Y2,Kn z:=fun z hz=>kY z (by rw [hYe]; simp [hz])
 refine a8.seq (Q1:=fun e st=>e = .normal∧∃ g,st=pv n c a m b aM us s (aM+m-s) g) (a8.piece bf follows 1 _ _ _ _ (Rn us n c a m b s aM (aM+m) g) (Met.cons (dF (by omega) (by omega)) Met.nil) az.nil aA.nil Sn rfl rfl (bu us []) rfl fun g=>⟨rfl,g,rfl⟩) ?_ (fun x st hne hq=>absurd hq.1 hne)
 rintro st ⟨-,g,rfl⟩;have he:aM+m-s=m+Y1.length:=by omega
 have he2:aM+m-s=aM+X2.length:=by omega
 generalize aM+m-s=e at *;have ln2:(A++X1++Y1++X2++Y2++C).length=n:=by rw [hn,hlen]; simp; omega

 refine a8.seq (Q1:=fun ex st=>ex = .normal∧∃ g,st=pv n c a m b aM (A++X1++Y1++X2++Y2++C) s e g) ?_ ?_ (fun x st hne hq=>absurd hq.1 hne)
 ·cases h180:decide (s<m) with
  | false =>
    have:X2 = []:=List.eq_nil_of_length_eq_zero (by have:=of_decide_eq_false h180; omega)
    subst this;have e1:us=A++X1++Y1 ++ []++Y2++C:=by rw [hus,hXe,hYe]; simp
    rw [← e1];exact a8.piece hc follows 1 _ _ _ _ (NR (fY w) us n c a m b s e aM g) (Met.cons (bz h180) Met.nil) az.nil aA.nil Fw rfl rfl (bu us []) rfl fun g=>⟨rfl,g,rfl⟩
  | true =>
    have l1:=of_decide_eq_true h180
    cases h184:decide (m<e) with
    | false =>
      have:Y1 = []:=List.eq_nil_of_length_eq_zero (by have:=of_decide_eq_false h184; omega)
      subst this;have e1:us=A++X1 ++ []++X2++Y2++C:=by rw [hus,hXe,hYe]; simp
      rw [← e1];exact a8.piece hc follows 1 _ _ _ _ (NS (fY w) us n c a m b s e aM g) (Met.cons (bz h180) (Met.cons (bz h184) Met.nil)) az.nil aA.nil Fw rfl rfl (bu us []) rfl fun g=>⟨rfl,g,rfl⟩
    | true =>
      have l2:=of_decide_eq_true h184
      have hcall:fY w 209 [af 0 n c,iN s,iN m,iN e,Fc] (hW us)=some (vU,(hW us).put 0 (ab (A++X1++Y1++X2++Y2++C))):=by
        rw [CK];have:=GP (A:=A++X1) (X:=X2) (Y:=Y1) (C:=Y2++C) (us:=us) (k:=0) (n:=n) (c:=c) (a:=s) (m:=m) (b:=e) (hp:=hW us) (by rw [hus,hXe,hYe]; simp) (by simp; omega) (by omega) he (by omega) (by omega) hn hl (dC us)
        rw [this]; simp
      exact a8.piece hc follows 1 _ _ _ _ (NT (fY w) us _ n c a m b s e aM g) (Met.cons (bz h180) (Met.cons (bz h184) Met.nil)) (az.cons hcall az.nil) aA.nil Fw rfl rfl (bu _ []) rfl fun g=>⟨rfl,g,rfl⟩
 rintro st ⟨-,g,rfl⟩

 have lm1:(dE bc X1 Y1).length=X1.length+Y1.length:=zX
 have ln3:(A++dE bc X1 Y1++X2++Y2++C).length=n:=by rw [hn,hlen]; simp [lm1]; omega
 refine a8.seq (Q1:=fun ex st=>ex = .normal∧∃ g,st=pv n c a m b aM (A++dE bc X1 Y1++X2++Y2++C) s e g) ?_ ?_ (fun x st hne hq=>absurd hq.1 hne)
 ·cases h194:decide (a<s) with
  | false =>
    have:X1 = []:=List.eq_nil_of_length_eq_zero (by have:=of_decide_eq_false h194; omega)
    subst this;rw [gA sY1,List.append_nil];exact a8.piece hc follows 1 _ _ _ _ (NU (fY w) _ n c a m b s e aM g) (Met.cons (bz h194) Met.nil) az.nil aA.nil Fx rfl rfl (bu _ []) rfl fun g=>⟨rfl,g,rfl⟩
  | true =>
    have l1:=of_decide_eq_true h194
    cases h198:decide (s<aM) with
    | false =>
      have:Y1 = []:=List.eq_nil_of_length_eq_zero (by have:=of_decide_eq_false h198; omega)
      subst this;have e1:dE bc X1 []=X1:=rfl
      rw [e1,List.append_nil];exact a8.piece hc follows 1 _ _ _ _ (NV (fY w) _ n c a m b s e aM g) (Met.cons (bz h194) (Met.cons (bz h198) Met.nil)) az.nil aA.nil Fx rfl rfl (bu _ []) rfl fun g=>⟨rfl,g,rfl⟩
    | true =>
      have l2:=of_decide_eq_true h198
      have hcall:fY w 179 [af 0 n c,iN a,iN s,iN aM,Fc] (hW (A++X1++Y1++X2++Y2++C))=some (vU,(hW (A++X1++Y1++X2++Y2++C)).put 0 (ab (A++dE bc X1 Y1++X2++Y2++C))):=by
        rw [vo];have:=pP (w:=w) (A:=A) (X:=X1) (Y:=Y1) (C:=X2++Y2++C) (us:=A++X1++Y1++X2++Y2++C) (k:=0) (n:=n) (c:=c) (a:=a) (m:=s) (b:=aM) (hp:=hW (A++X1++Y1++X2++Y2++C)) (by simp) hA (by omega) (by omega) (by omega) (by omega) ln2.symm hl (by omega) kX1 kY1 sX1 sY1 (dC _)
        rw [this]; simp
      exact a8.piece hc follows 1 _ _ _ _ (NW (fY w) _ _ n c a m b s e aM g) (Met.cons (bz h194) (Met.cons (bz h198) Met.nil)) (az.cons hcall az.nil) aA.nil Fx rfl rfl (bu _ []) rfl fun g=>⟨rfl,g,rfl⟩
 rintro st ⟨-,g,rfl⟩

 rw [hsplit];have fin:A++(dE bc X1 Y1++dE bc X2 Y2)++C=A++dE bc X1 Y1++dE bc X2 Y2++C:=by simp
 rw [fin];cases h208:decide (aM<e) with
 | false =>
   have:X2 = []:=List.eq_nil_of_length_eq_zero (by have:=of_decide_eq_false h208; omega)
   subst this;rw [gA sY2,List.append_nil];exact a8.piece hc follows 1 _ _ _ _ (NX (fY w) _ n c a m b s e aM g) (Met.cons (bz h208) Met.nil) az.nil aA.nil Fy rfl rfl (bu _ []) rfl fun g=>⟨.inl rfl,g,rfl⟩
 | true =>
   have l1:=of_decide_eq_true h208
   cases h212:decide (e<b) with
   | false =>
     have:Y2 = []:=List.eq_nil_of_length_eq_zero (by have:=of_decide_eq_false h212; omega)
     subst this;have e1:dE bc X2 []=X2:=rfl
     rw [e1,List.append_nil];exact a8.piece hc follows 1 _ _ _ _ (NY (fY w) _ n c a m b s e aM g) (Met.cons (bz h208) (Met.cons (bz h212) Met.nil)) az.nil aA.nil Fy rfl rfl (bu _ []) rfl fun g=>⟨.inl rfl,g,rfl⟩
   | true =>
     have l2:=of_decide_eq_true h212
     have hcall:fY w 179 [af 0 n c,iN aM,iN e,iN b,Fc] (hW (A++dE bc X1 Y1++X2++Y2++C))=some (vU,(hW (A++dE bc X1 Y1++X2++Y2++C)).put 0 (ab (A++dE bc X1 Y1++dE bc X2 Y2++C))):=by
       rw [vo];exact pP (w:=w) (A:=A++dE bc X1 Y1) (X:=X2) (Y:=Y2) (C:=C) rfl (by simp [lm1]; omega) he2 (by omega) (by omega) (by omega) ln3.symm hl (by omega) kX2 kY2 sX2 sY2 (dC _)
     exact a8.piece hc follows 1 _ _ _ _ (NZ (fY w) _ _ n c a m b s e aM g) (Met.cons (bz h208) (Met.cons (bz h212) Met.nil)) (az.cons hcall az.nil) aA.nil Fy rfl rfl (bu _ []) rfl fun g=>⟨.inl rfl,g,rfl⟩
theorem Oh{w:Nat}(hc:ba Tryz.prog (fY w)){A X Y C us:List aa}{n c a m b:Nat}(hus:us=A++X++Y++C)(hA:A.length=a)(hm:m=a+X.length)(hb:b=m+Y.length)(hX:0<X.length)(hY:0<Y.length)(hw:b-a≤w+1)
  (hn:n=us.length) (hl:n<1000000) (kX:∀ u∈X,Kn u) (kY:∀ u∈Y,Kn u) (sX:mJ bc X) (sY:mJ bc Y) (W:bg) (x:Nat×Nat×Nat) :
  a8 Tryz.prog 220 W x zx ⟨tmsOf [af 0 n c,iN a,iN m,iN b,Fc] 0 .leaf,heapOf [ab us,.dead] aE,[]⟩ (u3 (A++dE bc X Y++C)):=by
 have hlen:us.length=a+X.length+Y.length+C.length:=by rw [hus]; simp; omega
 let Q1:Exit→St→Prop:=fun e st=>(e = .normal∧∃ g,st=B7 n c a m b us false g)∨(e = .ret∧u3 (A++dE bc X Y++C) e st)
 refine a8.seq (Q1:=Q1) ?_ ?_ ?_
 ·refine a8.seq (Q1:=fun e st=>e = .normal∧∃ g,st=B7 n c a m b us (m-a==1) g) (a8.piece bf follows 1 _ _ _ _ (Ra dR us n c a m b (m-a==1)) (Met.cons (dF (by omega) (by omega)) (Met.cons (DC rfl) Met.nil)) az.nil aA.nil Sb rfl rfl (bu us []) rfl fun g=>⟨rfl,g,rfl⟩) ?_ (fun x st hne hq=>absurd hq.1 hne)
  rintro st ⟨-,g,rfl⟩;cases h28:(m-a==1) with
  | true =>
    have e1:m-a=1:=by simpa using h28
    obtain ⟨z,rfl⟩:∃ z,X = [z]:=List.length_eq_one_iff.1 (by omega)
    refine a8.cond_true (by kernel_rfl) (by kernel_rfl) ?_
    have:=FL (n:=n) (c:=c) (b:=b) hus hA (by simpa using hm) hb hn hl (kX z (.head _)) kY sY W x g
    exact a8.mono this fun e st q=>.inr ⟨q.1,.inr q.1,q.2⟩
  | false=>exact a8.cond_false (by kernel_rfl) (by kernel_rfl) (a8.skip (.inl ⟨rfl,g,rfl⟩))
 ·rintro st (⟨-,g,rfl⟩ | ⟨h,-⟩)
  ·let Q2:Exit→St→Prop:=fun e st=>(e = .normal∧∃ g,st=sj n c a m b us false g)∨(e = .ret∧u3 (A++dE bc X Y++C) e st)
   refine a8.seq (Q1:=Q2) ?_ ?_ ?_
   ·refine a8.seq (Q1:=fun e st=>e = .normal∧∃ g,st=sj n c a m b us (b-m==1) g) (a8.piece bf follows 1 _ _ _ _ (Rf us n c a m b (b-m==1) g) (Met.cons (dF (by omega) (by omega)) (Met.cons (DC rfl) Met.nil)) az.nil aA.nil Sf rfl rfl (bu us []) rfl fun g=>⟨rfl,g,rfl⟩) ?_ (fun x st hne hq=>absurd hq.1 hne)
    rintro st ⟨-,g,rfl⟩;cases h80:(b-m==1) with
    | true =>
      have e1:b-m=1:=by simpa using h80
      obtain ⟨y,rfl⟩:∃ y,Y = [y]:=List.length_eq_one_iff.1 (by omega)
      refine a8.cond_true (by kernel_rfl) (by kernel_rfl) ?_
      have:=BF (n:=n) (c:=c) (b:=b) (d:=true) hus hA hm hn hl (kY y (.head _)) kX sX W x g
      exact a8.mono this fun e st q=>.inr ⟨q.1,.inr q.1,q.2⟩
    | false=>exact a8.cond_false (by kernel_rfl) (by kernel_rfl) (a8.skip (.inl ⟨rfl,g,rfl⟩))
   ·rintro st (⟨-,g,rfl⟩ | ⟨h,-⟩)
    ·exact Mz hc hus hA hm hb hX hY hw hn hl kX kY sX sY W x g
    ·cases h
   ·rintro e st hne (⟨h,-⟩ | ⟨-,h⟩)
    ·exact absurd h hne
    ·exact h
  ·cases h
 ·rintro e st hne (⟨h,-⟩ | ⟨-,h⟩)
  ·exact absurd h hne
  ·exact h
theorem JR:∀ (w:Nat) (us:List aa),us.length<1000000→ax Tryz.prog 179 (g102 w us)
 | 0,us,hn=>ig follows Tryz.func179 zh (by kernel_rfl) fun args hp v hp' he hk=>by
   exfalso;unfold g102 at he;split at he
   case h_2=>cases he
   split at he
   case isFalse=>cases he
   rename_i hT;obtain ⟨-,-,h1,h2,h3,h4,-⟩:=hT;omega
 | w+1,us,hn=>ig follows Tryz.func179 zh (by kernel_rfl) fun args hp v hp' he hk=>by
   have hc:ba Tryz.prog (fY w):=aP (bE (aT .nil) (.cons MJ (.cons (fX fun us hn=>JR w us hn) .nil))) follows 5
   unfold g102 at he;split at he
   case h_2=>cases he
   rename_i k n c a m b f;split at he
   case isFalse=>cases he
   rename_i hT;cases he;obtain ⟨rfl,⟨b',c',e,hb⟩,h1,h2,h3,h4,k1,k2,s1,s2⟩:=hT;simp only [af,Value.slice.injEq,Option.some.injEq,Addr.mk.injEq,and_true] at e;obtain ⟨rfl,rfl,rfl⟩:=e;refine kE (is:=[a,m,b]) hk hb (by rw [ntmps102]; simp) fun W x=>?_
   rw [ntmps102];refine a8.mono (Oh hc (PF (us:=us) (Nat.le_of_lt h1) (Nat.le_of_lt h2)) (by simp; omega) (by simp; omega) (by simp; omega) (by simp; omega) (by simp; omega) h4 rfl hn k1 k2 s1 s2 W x) fun e st q=>?_
   obtain ⟨q1,g,rfl⟩:=q;exact ⟨q1,rfl,U5 _ g,by show (heapOf _ aE).get 0=_; rw [av]; rfl⟩
noncomputable def KA:aD:=atW (g102 1000000)
theorem MI:ax Tryz.prog 179 KA:=fX fun us hn=>JR 1000000 us hn
end Go.Proofs.YtgeoommlmddgpaaGreat.LtL
