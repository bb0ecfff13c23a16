/- Part 5. -/
import Derived.Test.YtgeoommlmddgpaaGreatXeD
import Derived.Test.YtgeoommlmddgpaaGreatRows
set_option linter.unusedVariables false
set_option linter.unusedSimpArgs false
set_option maxRecDepth 100000
namespace Go.Proofs.YtgeoommlmddgpaaGreat.LtL
open Go Go.Proofs Go.Proofs.YtgeoommlmddgpaaGreat.AI Go.RowKit Go.Proofs.YtgeoommlmddgpaaGreat.Sort Go.Proofs.YtgeoommlmddgpaaGreat.LtA
noncomputable def S0:Ext:=fq (cR Tryz.prog []) [(178,B0),(179,Kf)]
noncomputable def pA:aG:=aCall Tryz.prog S0 5
theorem fz:a8 Tryz.prog pA:=aP (bD (aS .nil) (.cons Mm (.cons Mn .nil))) follows 5
theorem zd(args:List Value)(hp:Hp):pA 178 args hp=B0 args hp:=by
 show aCall Tryz.prog S0 5 178 _ _=_
 rw [aCall]; rfl
theorem ze(args:List Value)(hp:Hp):pA 179 args hp=Kf args hp:=by
 show aCall Tryz.prog S0 5 179 _ _=_
 rw [aCall]; rfl
noncomputable def DC:Code:=(Tryz.f158.body).getD .skip
noncomputable def LJ:Code:=sL DC
noncomputable def LK:Code:=sL (sR DC)
noncomputable def CY:Code:=nO (jn (sL (sR (sR DC))))
noncomputable def LL:Code:=sL (sR (sR (sR DC)))
noncomputable def PV:Code:=nO (jn (sR (sR (sR (sR DC)))))
noncomputable def He:Code:=sL PV
noncomputable def LM:Code:=sL (jn (sR PV))
noncomputable def CZ:Code:=nO (jn (sL (sR (jn (sR PV)))))
noncomputable def Hf:Code:=sL (sR (sR (jn (sR PV))))
noncomputable def LN:Code:=sR (sR (sR (jn (sR PV))))
noncomputable abbrev Dl:Code:=.seq LJ (.seq LK (.seq (.block 0 (.loop CY)) (.seq LL (.block 2 (.loop (.seq He (.block 3 (.seq LM (.seq (.block 4 (.loop CZ)) (.seq Hf LN))))))))))
theorem K1:Tryz.f158.body=some Dl:=by kernel_rfl
theorem ntmps88:Tryz.f158.ntmps=63:=by kernel_rfl
theorem Xh(O:List ae)(g:Nat→Value):retVal Tryz.prog Tryz.f158 (av 63 g [] O)=some vU:=by kernel_rfl
theorem VZ:codeSafe Tryz.prog 63 LJ=true:=by kernel_rfl
theorem V0:codeSafe Tryz.prog 63 LK=true:=by kernel_rfl
theorem RY:codeSafe Tryz.prog 63 CY=true:=by kernel_rfl
theorem V1:codeSafe Tryz.prog 63 LL=true:=by kernel_rfl
theorem RZ:codeSafe Tryz.prog 63 He=true:=by kernel_rfl
theorem V2:codeSafe Tryz.prog 63 LM=true:=by kernel_rfl
theorem R0:codeSafe Tryz.prog 63 CZ=true:=by kernel_rfl
theorem R4:codeSafe Tryz.prog 63 Hf=true:=by kernel_rfl
theorem V3:codeSafe Tryz.prog 63 LN=true:=by kernel_rfl
section
variable (us us':List aa) (n c a b s:Nat) (g:Nat→Value)
abbrev BP(us:List aa)(g:Nat→Value):St:=av 63 g [(0,af 0 n c),(1,iN n),(2,Fc),(6,iN s)] [ab us]
abbrev Gk(us:List aa)(a b:Nat)(g:Nat→Value):St:=av 63 g [(0,af 0 n c),(1,iN n),(2,Fc),(6,iN s),(7,iN a),(8,iN b)] [ab us]
abbrev OF(us:List aa)(a:Nat)(g:Nat→Value):St:=av 63 g [(0,af 0 n c),(1,iN n),(2,Fc),(6,iN s),(7,iN a)] [ab us]
theorem Vw:(execE Tryz.prog pA [] [] [] 10 LJ ⟨tmsOf [af 0 n c,iN n,Fc] 0 .leaf,heapOf [ab us,.dead] aE,[]⟩).map (fun z=>(look2 1 [0] [0,1,2,6] (z.1,z.2.1),z.2.2)) =
 some ((.normal,[ab us],[(0,af 0 n c),(1,iN n),(2,Fc),(6,iN 20)],true),[],[],[]):=by kernel_rfl
theorem Vx:(execE Tryz.prog pA [] [] [] 10 LK (BP n c s us g)).map (fun z=>(look2 1 [0] [0,1,2,6,7,8] (z.1,z.2.1),z.2.2)) =
 some ((.normal,[ab us],[(0,af 0 n c),(1,iN n),(2,Fc),(6,iN s),(7,iN 0),(8,iN s)],true),[],[],[]):=by kernel_rfl
theorem Q7:(execE Tryz.prog pA [(13,.bool false)] [] [] 10 CY (Gk n c s us a b g)).map (fun z=>(look2 1 [0] [0,1,2,6,7] (z.1,z.2.1),z.2.2)) =
 some ((.exit 0,[ab us],[(0,af 0 n c),(1,iN n),(2,Fc),(6,iN s),(7,iN a)],true),[N7 b n false],[],[]):=by kernel_rfl
theorem Vy:(execE Tryz.prog pA [(13,.bool true),(22,iN (b+s))] [] [(18,vU,[.put 0 (ab us')])] 10 CY (Gk n c s us a b g)).map (fun z=>(look2 1 [0] [0,1,2,6,7,8] (z.1,z.2.1),z.2.2)) =
 some ((.normal,[ab us'],[(0,af 0 n c),(1,iN n),(2,Fc),(6,iN s),(7,iN b),(8,iN (b+s))],true),[N7 b n true,yY b s],[(pA 178 [af 0 n c,iN a,iN b,Fc] (hW us),(vU,(hW us).put 0 (ab us')))],[]):=by kernel_rfl
theorem Vz:(execE Tryz.prog pA [] [] [(27,vU,[.put 0 (ab us')])] 10 LL (OF n c s us a g)).map (fun z=>(look2 1 [0] [0,1,2,6] (z.1,z.2.1),z.2.2)) =
 some ((.normal,[ab us'],[(0,af 0 n c),(1,iN n),(2,Fc),(6,iN s)],true),[],[(pA 178 [af 0 n c,iN a,iN n,Fc] (hW us),(vU,(hW us).put 0 (ab us')))],[]):=by kernel_rfl
theorem Q8:(execE Tryz.prog pA [(30,.bool false)] [] [] 10 He (BP n c s us g)).map (fun z=>(look2 1 [0] [] (z.1,z.2.1),z.2.2))=some ((.exit 2,[ab us],[],true),[iF s n false],[],[]):=by kernel_rfl
theorem VA:(execE Tryz.prog pA [(30,.bool true)] [] [] 10 He (BP n c s us g)).map (fun z=>(look2 1 [0] [0,1,2,6] (z.1,z.2.1),z.2.2)) =
 some ((.normal,[ab us],[(0,af 0 n c),(1,iN n),(2,Fc),(6,iN s)],true),[iF s n true],[],[]):=by kernel_rfl
theorem VB:(execE Tryz.prog pA [(32,iN (2*s))] [] [] 10 LM (BP n c s us g)).map (fun z=>(look2 1 [0] [0,1,2,6,7,8] (z.1,z.2.1),z.2.2)) =
 some ((.normal,[ab us],[(0,af 0 n c),(1,iN n),(2,Fc),(6,iN s),(7,iN 0),(8,iN (2*s))],true),[SM s],[],[]):=by kernel_rfl
theorem Q9:(execE Tryz.prog pA [(35,.bool false)] [] [] 10 CZ (Gk n c s us a b g)).map (fun z=>(look2 1 [0] [0,1,2,6,7] (z.1,z.2.1),z.2.2)) =
 some ((.exit 4,[ab us],[(0,af 0 n c),(1,iN n),(2,Fc),(6,iN s),(7,iN a)],true),[N7 b n false],[],[]):=by kernel_rfl
theorem VC:(execE Tryz.prog pA [(35,.bool true),(40,iN (a+s)),(47,iN (2*s)),(48,iN (b+2*s))] [] [(43,vU,[.put 0 (ab us')])] 10 CZ (Gk n c s us a b g)).map (fun z=>(look2 1 [0] [0,1,2,6,7,8] (z.1,z.2.1),z.2.2)) =
 some ((.normal,[ab us'],[(0,af 0 n c),(1,iN n),(2,Fc),(6,iN s),(7,iN b),(8,iN (b+2*s))],true),[N7 b n true,yY a s,SM s,yY b (2*s)],[(pA 179 [af 0 n c,iN a,iN (a+s),iN b,Fc] (hW us),(vU,(hW us).put 0 (ab us')))],[]):=by kernel_rfl
theorem Ra:(execE Tryz.prog pA [(51,iN (a+s)),(54,.bool false)] [] [] 10 Hf (OF n c s us a g)).map (fun z=>(look2 1 [0] [0,1,2,6] (z.1,z.2.1),z.2.2)) =
 some ((.normal,[ab us],[(0,af 0 n c),(1,iN n),(2,Fc),(6,iN s)],true),[yY a s,iF (a+s) n false],[],[]):=by kernel_rfl
theorem Rb:(execE Tryz.prog pA [(51,iN (a+s)),(54,.bool true)] [] [(60,vU,[.put 0 (ab us')])] 10 Hf (OF n c s us a g)).map (fun z=>(look2 1 [0] [0,1,2,6] (z.1,z.2.1),z.2.2)) =
 some ((.normal,[ab us'],[(0,af 0 n c),(1,iN n),(2,Fc),(6,iN s)],true),[yY a s,iF (a+s) n true],[(pA 179 [af 0 n c,iN a,iN (a+s),iN n,Fc] (hW us),(vU,(hW us).put 0 (ab us')))],[]):=by kernel_rfl
theorem VD:(execE Tryz.prog pA [(62,iN (2*s))] [] [] 10 LN (BP n c s us g)).map (fun z=>(look2 1 [0] [0,1,2,6] (z.1,z.2.1),z.2.2)) =
 some ((.normal,[ab us],[(0,af 0 n c),(1,iN n),(2,Fc),(6,iN (2*s))],true),[Th s],[],[]):=by kernel_rfl
end
theorem DK{us:List aa}{n c:Nat}(hn:n=us.length)(hl:n<1000000)(W:bj)(x:Nat×Nat×Nat)(g:Nat→Value) :
  aZ Tryz.prog 63 W x (.block 0 (.loop CY)) (Gk n c 20 us 0 20 g) (fun e st=>e = .normal∧∃ P R g,P++iW 20 R=iW 20 us∧P.length+R.length=n∧R.length<20∧st=OF n c 20 (P++R) P.length g):=by
 refine aZ.block ?_
 refine aZ.loop (fun k st=>∃ P R g,P++iW 20 R=iW 20 us∧P.length+R.length=n∧k=R.length∧st=Gk n c 20 (P++R) P.length (P.length+20) g) ?_ (k:=us.length) ⟨[],us,g,rfl,by simp [hn],rfl,rfl⟩
 rintro k st ⟨P,R,g,h1,h2,rfl,rfl⟩;cases h13:decide (P.length+20≤n) with
 | false =>
   have hlt:=of_decide_eq_false h13
   refine aZ.piece fz follows 1 _ _ _ _ (Q7 (P++R) n c P.length (P.length+20) 20 g) (Met.cons (ua h13) Met.nil) ay.nil az.nil RY rfl rfl (bq _ []) rfl fun g'=>.inr ⟨by simp,?_⟩
   show (if (0:Nat)=0 then _ else _)
   rw [if_pos rfl];exact ⟨rfl,P,R,g',h1,h2,by omega,rfl⟩
 | true =>
   have hle:=of_decide_eq_true h13
   obtain ⟨R1,R2,rfl,Mf⟩:=cutAt (R:=R) (s:=20) (by omega)
   have hcall:pA 178 [af 0 n c,iN P.length,iN (P.length+20),Fc] (hW (P++(R1++R2)))=some (vU,(hW (P++(R1++R2))).put 0 (ab (P++aN aV R1++R2))):=by
     rw [zd];exact yU (A:=P) (X:=R1) (C:=R2) (by simp) rfl (by omega) (by rw [List.length_append]; exact h2.symm) hl (dw _)
   have hPl:(P++aN aV R1).length=P.length+20:=by rw [List.length_append,bK,Mf]
   refine aZ.piece fz follows 1 _ _ _ _ (Vy (P++(R1++R2)) (P++aN aV R1++R2) n c P.length (P.length+20) 20 g) (Met.cons (ua h13) (Met.cons (gI (by omega)) Met.nil)) (ay.cons hcall ay.nil) az.nil RY rfl rfl (bq _ []) rfl
     fun g'=>.inl ⟨rfl,R2.length,by simp; omega,P++aN aV R1,R2,g',?_,?_,rfl,by rw [hPl]⟩
   ·rw [← h1,mP (by omega) Mf,List.append_assoc]
   ·rw [hPl]; rw [List.length_append] at h2; omega
theorem D1{us:List aa}{n c s:Nat}(hs:0<s)(hsn:s<n)(hn:n=us.length)(hl:n<1000000)(hK:∀ z∈us,Kn z)(W:bj)(x:Nat×Nat×Nat)(g:Nat→Value) :
  aZ Tryz.prog 63 W x (.block 4 (.loop CZ)) (Gk n c s (iW s us) 0 (2*s) g) (fun e st=>e = .normal∧∃ P R g,P++iW (2*s) R=iW (2*s) us∧P.length+R.length=n∧R.length<2*s∧(∀ z∈R,Kn z)∧st=OF n c s (P++iW s R) P.length g):=by
 refine aZ.block ?_
 refine aZ.loop (fun k st=>∃ P R g,P++iW (2*s) R=iW (2*s) us∧P.length+R.length=n∧k=R.length∧(∀ z∈R,Kn z)∧st=Gk n c s (P++iW s R) P.length (P.length+2*s) g) ?_ (k:=us.length) ⟨[],us,g,rfl,by simp [hn],rfl,hK,by simp⟩
 rintro k st ⟨P,R,g,h1,h2,rfl,hKR,rfl⟩;cases h35:decide (P.length+2*s≤n) with
 | false =>
   have hlt:=of_decide_eq_false h35
   refine aZ.piece fz follows 1 _ _ _ _ (Q9 (P++iW s R) n c P.length (P.length+2*s) s g) (Met.cons (ua h35) Met.nil) ay.nil az.nil R0 rfl rfl (bq _ []) rfl fun g'=>.inr ⟨by simp,?_⟩
   show (if (4:Nat)=4 then _ else _)
   rw [if_pos rfl];exact ⟨rfl,P,R,g',h1,h2,by omega,hKR,rfl⟩
 | true =>
   have hle:=of_decide_eq_true h35
   obtain ⟨R1,R',rfl,Mf⟩:=cutAt (R:=R) (s:=s) (by omega)
   rw [List.length_append] at h2;obtain ⟨R2,R3,rfl,hR2⟩:=cutAt (R:=R') (s:=s) (by omega)
   rw [List.length_append] at h2;have k1:∀ z∈R1,Kn z:=fun z hz=>hKR z (by simp [hz])
   have k2:∀ z∈R2,Kn z:=fun z hz=>hKR z (by simp [hz])
   have k3:∀ z∈R3,Kn z:=fun z hz=>hKR z (by simp [hz])
   have e1:iW s (R1++(R2++R3))=aN aV R1++(aN aV R2++iW s R3):=by rw [mP hs Mf,mP hs hR2]
   have e2:iW (2*s) (R1++(R2++R3))=aN aV (R1++R2)++iW (2*s) R3:=by rw [← List.append_assoc,mP (by omega) (by simp; omega)]
   rw [e1];have N6:(iW s R3).length=R3.length:=G1
   have hcall:pA 179 [af 0 n c,iN P.length,iN (P.length+s),iN (P.length+2*s),Fc] (hW (P++(aN aV R1++(aN aV R2++iW s R3))))=some (vU,(hW (P++(aN aV R1++(aN aV R2++iW s R3)))).put 0 (ab (P++aN aV (R1++R2)++iW s R3))):=by
     rw [ze,← sW k1 k2];exact pJ (A:=P) (X:=aN aV R1) (Y:=aN aV R2) (C:=iW s R3) (by simp) rfl (by rw [bK]; omega) (by rw [bK]; omega) (by rw [bK]; omega) (by rw [bK]; omega) (by simp [bK,N6]; omega) hl (by omega) (kS k1) (kS k2) (ID k1) (ID k2) (dw _)
   have hPl:(P++aN aV (R1++R2)).length=P.length+2*s:=by rw [List.length_append,bK]; simp; omega
   refine aZ.piece fz follows 1 _ _ _ _ (VC _ (P++aN aV (R1++R2)++iW s R3) n c P.length (P.length+2*s) s g) (Met.cons (ua h35) (Met.cons (gI (by omega)) (Met.cons (FZ (by omega)) (Met.cons (gI (by omega)) Met.nil)))) (ay.cons hcall ay.nil) az.nil R0 rfl rfl (bq _ []) rfl
     fun g'=>.inl ⟨rfl,R3.length,by simp; omega,P++aN aV (R1++R2),R3,g',?_,?_,rfl,k3,by rw [hPl]⟩
   ·rw [← h1,e2,List.append_assoc]
   ·rw [hPl]; omega
theorem Br{us:List aa}{n c:Nat}(hn:n=us.length)(hl:n<1000000)(hK:∀ z∈us,Kn z)(W:bj)(x:Nat×Nat×Nat) :
  aZ Tryz.prog 63 W x Dl ⟨tmsOf [af 0 n c,iN n,Fc] 0 .leaf,heapOf [ab us,.dead] aE,[]⟩ (uV 63 (aN aV us)):=by
 refine aZ.seq (Q1:=fun e st=>e = .normal∧∃ g,st=BP n c 20 us g) (aZ.piece fz follows 1 _ _ _ _ (Vw us n c) Met.nil ay.nil az.nil VZ rfl rfl (bq us []) rfl fun g=>⟨rfl,g,rfl⟩) ?_ (fun x st hne hq=>absurd hq.1 hne)
 rintro st ⟨-,g,rfl⟩;refine aZ.seq (Q1:=fun e st=>e = .normal∧∃ g,st=Gk n c 20 us 0 20 g) (aZ.piece fz follows 1 _ _ _ _ (Vx us n c 20 g) Met.nil ay.nil az.nil V0 rfl rfl (bq us []) rfl fun g=>⟨rfl,g,rfl⟩) ?_ (fun x st hne hq=>absurd hq.1 hne)
 rintro st ⟨-,g,rfl⟩;refine aZ.seq (DK hn hl W x g) ?_ (fun x st hne hq=>absurd hq.1 hne)
 rintro st ⟨-,P,R,g,h1,h2,h3,rfl⟩;refine aZ.seq (Q1:=fun e st=>e = .normal∧∃ g,st=BP n c 20 (iW 20 us) g) ?_ ?_ (fun x st hne hq=>absurd hq.1 hne)
 ·have hcall:pA 178 [af 0 n c,iN P.length,iN n,Fc] (hW (P++R))=some (vU,(hW (P++R)).put 0 (ab (iW 20 us))):=by
   rw [zd,← h1,iY (by omega) (by omega)]
   have:=yU (A:=P) (X:=R) (C:=[]) (us:=P++R) (k:=0) (n:=n) (c:=c) (a:=P.length) (b:=n) (hp:=hW (P++R)) (by simp) rfl (by omega) (by rw [List.length_append]; exact h2.symm) hl (dw _)
   rw [this]; simp
  exact aZ.piece fz follows 1 _ _ _ _ (Vz (P++R) (iW 20 us) n c P.length 20 g) Met.nil (ay.cons hcall ay.nil) az.nil V1 rfl rfl (bq _ []) rfl fun g=>⟨rfl,g,rfl⟩
 rintro st ⟨-,g,rfl⟩;refine aZ.block ?_
 refine aZ.loop (fun k st=>∃ s g,0<s∧k=n-s∧st=BP n c s (iW s us) g) ?_ (k:=n-20) ⟨20,g,by omega,rfl,rfl⟩
 rintro k st ⟨s,g,hs,rfl,rfl⟩;cases h30:decide (s<n) with
 | false =>
   have hge:=of_decide_eq_false h30
   refine aZ.seq (Q1:=fun e st=>e = .exit 2∧∃ g,st=av 63 g [] [ab (aN aV us)]) ?_ (fun st hq=>by cases hq.1) ?_
   ·rw [iY hs (by omega)]
    exact aZ.piece fz follows 1 _ _ _ _ (Q8 (aN aV us) n c s g) (Met.cons (bx h30) Met.nil) ay.nil az.nil RZ rfl rfl (bq _ []) rfl fun g'=>⟨rfl,g',rfl⟩
   ·rintro e st hne ⟨rfl,g',rfl⟩
    refine .inr ⟨by simp,?_⟩
    show (if (2:Nat)=2 then _ else _)
    rw [if_pos rfl];exact ⟨rfl,g',rfl⟩
 | true =>
   have hlt:=of_decide_eq_true h30
   refine aZ.seq (Q1:=fun e st=>e = .normal∧∃ g,st=BP n c s (iW s us) g) (aZ.piece fz follows 1 _ _ _ _ (VA (iW s us) n c s g) (Met.cons (bx h30) Met.nil) ay.nil az.nil RZ rfl rfl (bq _ []) rfl fun g=>⟨rfl,g,rfl⟩) ?_ (fun x st hne hq=>absurd hq.1 hne)
   rintro st ⟨-,g,rfl⟩;refine aZ.block ?_
   refine aZ.mono (Q:=fun e st=>e = .normal∧∃ g,st=BP n c (2*s) (iW (2*s) us) g) ?_ (fun e st q=>by
     obtain ⟨rfl,g,rfl⟩:=q;exact .inl ⟨rfl,n-2*s,by omega,2*s,g,by omega,rfl,rfl⟩)
   refine aZ.seq (Q1:=fun e st=>e = .normal∧∃ g,st=Gk n c s (iW s us) 0 (2*s) g) (aZ.piece fz follows 1 _ _ _ _ (VB (iW s us) n c s g) (Met.cons (FZ (by omega)) Met.nil) ay.nil az.nil V2 rfl rfl (bq _ []) rfl fun g=>⟨rfl,g,rfl⟩) ?_ (fun x st hne hq=>absurd hq.1 hne)
   rintro st ⟨-,g,rfl⟩;refine aZ.seq (D1 hs hlt hn hl hK W x g) ?_ (fun x st hne hq=>absurd hq.1 hne)
   rintro st ⟨-,P,R,g,h1,h2,h3,hKR,rfl⟩;refine aZ.seq (Q1:=fun e st=>e = .normal∧∃ g,st=BP n c s (iW (2*s) us) g) ?_ ?_ (fun x st hne hq=>absurd hq.1 hne)
   ·have eR:iW (2*s) R=aN aV R:=iY (by omega) (by omega)
    rw [← h1,eR];cases h54:decide (P.length+s<n) with
    | false =>
      have hge:=of_decide_eq_false h54
      rw [iY hs (by omega)]
      exact aZ.piece fz follows 1 _ _ _ _ (Ra (P++aN aV R) n c P.length s g) (Met.cons (gI (by omega)) (Met.cons (bx h54) Met.nil)) ay.nil az.nil R4 rfl rfl (bq _ []) rfl fun g=>⟨rfl,g,rfl⟩
    | true =>
      have hlt2:=of_decide_eq_true h54
      obtain ⟨R1,R2,rfl,Mf⟩:=cutAt (R:=R) (s:=s) (by omega)
      rw [List.length_append] at h2 h3;have k1:∀ z∈R1,Kn z:=fun z hz=>hKR z (by simp [hz])
      have k2:∀ z∈R2,Kn z:=fun z hz=>hKR z (by simp [hz])
      have e1:iW s (R1++R2)=aN aV R1++aN aV R2:=by rw [mP hs Mf,iY hs (by omega)]
      rw [e1];have hcall:pA 179 [af 0 n c,iN P.length,iN (P.length+s),iN n,Fc] (hW (P++(aN aV R1++aN aV R2)))=some (vU,(hW (P++(aN aV R1++aN aV R2))).put 0 (ab (P++aN aV (R1++R2)))):=by
        rw [ze,← sW k1 k2];have:=pJ (w:=1000000) (A:=P) (X:=aN aV R1) (Y:=aN aV R2) (C:=[]) (us:=P++(aN aV R1++aN aV R2)) (k:=0) (n:=n) (c:=c) (a:=P.length) (m:=P.length+s) (b:=n) (hp:=hW (P++(aN aV R1++aN aV R2)))
          (by simp) rfl (by rw [bK]; omega) (by rw [bK]; omega) (by rw [bK]; omega) (by rw [bK]; omega) (by simp [bK]; omega) hl (by omega) (kS k1) (kS k2) (ID k1) (ID k2) (dw _)
        rw [List.append_nil] at this;exact this
      exact aZ.piece fz follows 1 _ _ _ _ (Rb _ (P++aN aV (R1++R2)) n c P.length s g) (Met.cons (gI (by omega)) (Met.cons (bx h54) Met.nil)) (ay.cons hcall ay.nil) az.nil R4 rfl rfl (bq _ []) rfl fun g=>⟨rfl,g,rfl⟩
   ·rintro st ⟨-,g,rfl⟩
    exact aZ.piece fz follows 1 _ _ _ _ (VD (iW (2*s) us) n c s g) (Met.cons (LZ (by omega)) Met.nil) ay.nil az.nil V3 rfl rfl (bq _ []) rfl fun g=>⟨rfl,g,rfl⟩
open Classical in
noncomputable def g88(us:List aa):aB:=fun args hp=>match args with
 | [.slice (some ⟨k,0,none⟩) n c,.int .i64 (.ofNat n'),f]=>if f=Fc∧cH us (.slice (some ⟨k,0,none⟩) n c) hp∧n'=n∧(∀ z∈us,Kn z) then some (vU,hp.put k (ab (aN aV us))) else none
 | _=>none
theorem TF(us:List aa)(hn:us.length<1000000):aq Tryz.prog 158 (g88 us):=hZ follows Tryz.func158 K1 (by kernel_rfl) fun args hp v hp' he hk=>by
 unfold g88 at he;split at he
 case h_2=>cases he
 rename_i k n c n' f;split at he
 case isFalse=>cases he
 rename_i hT;cases he;obtain ⟨rfl,⟨b',c',e,hb⟩,rfl,h2⟩:=hT;simp only [af,Value.slice.injEq,Option.some.injEq,Addr.mk.injEq,and_true] at e;obtain ⟨rfl,rfl,rfl⟩:=e;refine kD (is:=[us.length]) hk hb (by rw [ntmps88]; simp) fun W x=>?_
 rw [ntmps88];refine aZ.mono (Br rfl hn h2 W x) fun e st q=>?_
 obtain ⟨rfl,g,rfl⟩:=q;exact ⟨.inl rfl,rfl,Xh _ g,by show (heapOf _ aE).get 0=_; rw [al]; rfl⟩
noncomputable def Oy:aB:=atW g88
theorem PB:aq Tryz.prog 158 Oy:=fO fun us hn=>TF us hn
open Classical in
theorem Kl{us:List aa}{k n c:Nat}{hp:Hp}(hn:n=us.length)(hl:n<1000000)(hK:∀ z∈us,Kn z)(hb:hp.get k=some (ab us)):Oy [af k n c,iN n,Fc] hp=some (vU,hp.put k (ab (aN aV us))):=by
 subst hn;have hr:cH us (af k us.length c) hp:=⟨k,c,rfl,hb⟩
 unfold Oy;rw [l9 hr hl];show (if Fc=Fc∧cH us (af k us.length c) hp∧us.length=us.length∧(∀ z∈us,Kn z) then some (vU,hp.put k (ab (aN aV us))) else none)=_
 rw [if_pos ⟨rfl,hr,rfl,hK⟩]
noncomputable def Wk:Ext:=fq (cR Tryz.prog []) [(158,Oy)]
noncomputable def O4:aG:=aCall Tryz.prog Wk 5
theorem LF:a8 Tryz.prog O4:=aP (bD (aS .nil) (.cons PB .nil)) follows 5
theorem LD(args:List Value)(hp:Hp):O4 158 args hp=Oy args hp:=by
 show aCall Tryz.prog Wk 5 158 _ _=_
 rw [aCall]; rfl
noncomputable def L7:Code:=(Tryz.f125.body).getD .skip
theorem KW:Tryz.f125.body=some L7:=by kernel_rfl
theorem ntmps76:Tryz.f125.ntmps=9:=by kernel_rfl
theorem Xs:codeSafe Tryz.prog 9 L7=true:=by kernel_rfl
theorem Xf(O:List ae)(g:Nat→Value):retVal Tryz.prog Tryz.f125 (av 9 g [] O)=some vU:=by kernel_rfl
theorem Xk(us us':List aa)(n c:Nat):(execE Tryz.prog O4 [] [] [(8,vU,[.put 0 (ab us')])] 10 L7 ⟨tmsOf [af 0 n c,Fc] 0 .leaf,heapOf [ab us,.dead] aE,[]⟩).map (fun z=>(look2 1 [0] [] (z.1,z.2.1),z.2.2)) =
 some ((.normal,[ab us'],[],true),[],[(O4 158 [af 0 n c,iN n,Fc] (hW us),(vU,(hW us).put 0 (ab us')))],[]):=by kernel_rfl
open Classical in
noncomputable def g76(us:List aa):aB:=fun args hp=>match args with
 | [.slice (some ⟨k,0,none⟩) n c,f]=>if f=Fc∧cH us (.slice (some ⟨k,0,none⟩) n c) hp∧(∀ z∈us,Kn z) then some (vU,hp.put k (ab (aN aV us))) else none
 | _=>none
theorem TB(us:List aa)(hn:us.length<1000000):aq Tryz.prog 125 (g76 us):=hZ follows Tryz.func125 KW (by kernel_rfl) fun args hp v hp' he hk=>by
 unfold g76 at he;split at he
 case h_2=>cases he
 rename_i k n c f;split at he
 case isFalse=>cases he
 rename_i hT;cases he;obtain ⟨rfl,⟨b',c',e,hb⟩,h2⟩:=hT;simp only [af,Value.slice.injEq,Option.some.injEq,Addr.mk.injEq,and_true] at e;obtain ⟨rfl,rfl,rfl⟩:=e;refine kD (is:=[]) hk hb (by rw [ntmps76]; simp) fun W x=>?_
 rw [ntmps76];have hcall:O4 158 [af 0 us.length c,iN us.length,Fc] (hW us)=some (vU,(hW us).put 0 (ab (aN aV us))):=by rw [LD]; exact Kl rfl hn h2 (dw us)
 exact aZ.piece LF follows 1 _ _ _ _ (Xk us _ us.length c) Met.nil (ay.cons hcall ay.nil) az.nil Xs rfl rfl (bq _ []) rfl fun g=>⟨.inl rfl,rfl,Xf _ g,by show (heapOf _ aE).get 0=_; rw [al]; rfl⟩
noncomputable def Ox:aB:=atW g76
theorem Pz:aq Tryz.prog 125 Ox:=fO fun us hn=>TB us hn
open Classical in
theorem Kk{us:List aa}{k n c:Nat}{hp:Hp}(hn:n=us.length)(hl:n<1000000)(hK:∀ z∈us,Kn z)(hb:hp.get k=some (ab us)):Ox [af k n c,Fc] hp=some (vU,hp.put k (ab (aN aV us))):=by
 subst hn;have hr:cH us (af k us.length c) hp:=⟨k,c,rfl,hb⟩
 unfold Ox;rw [l9 hr hl];show (if Fc=Fc∧cH us (af k us.length c) hp∧(∀ z∈us,Kn z) then some (vU,hp.put k (ab (aN aV us))) else none)=_
 rw [if_pos ⟨rfl,hr,hK⟩]
theorem Mv:∃ i,Tryz.prog.info? 151=some i∧i.size=7∧i.bytes=56:=by
 have h:(Tryz.prog.info? 151).map (fun i=>(i.size,i.bytes))=some (7,56):=by kernel_rfl
 obtain ⟨i,h1,h2⟩:=Option.map_eq_some_iff.1 h;simp only [Prod.mk.injEq] at h2;exact ⟨i,h1,h2.1,h2.2⟩
theorem NT:∃ z,tzero Tryz.prog 151=some z∧z.length=7:=by
 have h:(tzero Tryz.prog 151).map (fun z=>z.length)=some 7:=by kernel_rfl
 obtain ⟨z,h1,h2⟩:=Option.map_eq_some_iff.1 h;exact ⟨z,h1,h2⟩
def jF(vs:List aa):ae:=match vs with
 | []=>.dead
 | _::_=>ab vs
theorem ml(us:List aa):aD (jF us)=true:=by
 cases us with
 | nil=>rfl
 | cons=>exact aw _
theorem pS{l:List aa}(h:l≠[]):jF l=ab l:=by
 cases l with
 | nil=>exact absurd rfl h
 | cons=>rfl
theorem yZ{get:Nat→Option ae}{sz b b2 k:Nat}{ws:List aa}{x:aa}{f:Bool}(hf:f = !ws.isEmpty)(hb:get b=some (jF ws))(hb2:get b2=some (vB x))(hk:k=ws.length)(hl:k<2000000) :
  aAppend Tryz.prog get sz [149,149] [vS f b k 22,af b2 1 22]=some (aW sz (k+1),gj f b (ab (ws ++ [x]))):=by
 obtain ⟨i,hi,h7,px⟩:=Mv;obtain ⟨z,hz,hzl⟩:=NT;have hb2':get b2=some (.cells 151 (vc x) false):=hb2
 have hsrc:aSrc Tryz.prog get 7 z (.slice 151) (af b2 1 22)=some (vc x,1):=by
  unfold aSrc;simp only [af,srcLen,srcCells,hb2'];rw [if_neg (by omega),if_neg (by omega),cu (n:=1*7) rfl]
  rfl
 have e:aI [x]=vc x:=by unfold aI; simp
 cases ws with
 | cons w ws =>
   subst hf hk;have hbw:get b=some (.cells 151 (aI (w::ws)) false):=hb
   show aAppend Tryz.prog get sz [149,149] [aW b (w::ws).length,af b2 1 22]=some (aW sz ((w::ws).length+1),[.put b .dead,.push (ab ((w::ws) ++ [x]))])
   generalize w::ws=us at *;have hg:eO (aI us) 0 (us.length*7)=some (aI us):=cu (bV us)
   unfold aAppend;simp only [underlying80,hi,hz,h7,px,hzl];rw [if_neg (by decide)]
   simp only [hsrc];rw [if_neg (by simp [vc,isOne])]
   simp only [aW];rw [if_neg (by omega),if_neg (by omega)]
   simp only [hbw,hg];rw [if_neg (by omega),if_pos (by decide),if_neg (by rw [bV]; omega)]
   unfold ab;rw [e9,e]
 | nil =>
   subst hf hk;show aAppend Tryz.prog get sz [149,149] [ax,af b2 1 22]=some (aW sz 1,[.push (ab [x])])
   unfold aAppend;simp only [underlying80,hi,hz,h7,px,hzl];rw [if_neg (by decide)]
   simp only [hsrc];rw [if_neg (by simp [vc,isOne])]
   simp only [ax];rw [if_neg (by omega),if_neg (by omega)]
   unfold ab;rw [e]; rfl
noncomputable def Wu(h:Hp)(sz b k b2:Nat)(f:Bool)(us:List aa):js:=(aAppend Tryz.prog h.get sz [149,149] [vS f b k 22,af b2 1 22],(aW sz (k+1),gj f b (ab us)))
def xN(own x:aa):Int:=dir own.n own.t own.o own.r own.d own.i x.n x.t x.o x.r x.d x.i
def pD(d:Int)(own x:aa):Bool:=xN own x==d
theorem JE{d:Int}{own x:aa}(hd:d=1∨d=2)(h:pD d own x=true):Kn x:=by
 unfold pD xN dir at h;cases hk:known x.n x.t x.o x.r x.d x.i with
 | true=>exact hk
 | false =>
   rw [hk] at h;rcases hd with rfl | rfl <;> simp at h
noncomputable def SA(own x:aa)(d:Int)(b:Bool):db:=(some (.bool (xN own x==d)),.bool b)
noncomputable def SV:Ext:=fq (cR Tryz.prog [(124,g14)]) [(125,Ox)]
theorem J5:ExtOk Tryz.prog SV:=bD (aS (.cons To (.nil))) (.cons Pz (.nil))
noncomputable def vo:aG:=aCall Tryz.prog SV 5
theorem fy:a8 Tryz.prog vo:=aP J5 follows 5
theorem Lz(args:List Value)(hp:Hp):vo 125 args hp=Ox args hp:=by
 show aCall Tryz.prog SV 5 125 _ _=_
 rw [aCall]; rfl
noncomputable def O3:aG:=aCall Tryz.prog (cR Tryz.prog []) 60
theorem Hc:a8 Tryz.prog O3:=aP (aS .nil) follows 60
noncomputable def Tj:Code:=(Tryz.f63.body).getD .skip
noncomputable def Gn:Nat→Code
 | 0=>Tj
 | n+1=>sR (Gn n)
noncomputable def G8:Code:=sL (Gn 0)
noncomputable def LA:Code:=sL (Gn 1)
noncomputable def LB:Code:=sL (sL (Gn 2))
noncomputable def CV:Code:=nO (jn (sR (sL (Gn 2))))
noncomputable def G9:Code:=sL (Gn 3)
noncomputable def G':Code:=sL (Gn 4)
noncomputable def Ha:Code:=sL (sL (Gn 5))
noncomputable def CW:Code:=nO (jn (sR (sL (Gn 5))))
noncomputable def Hb:Code:=Gn 6
noncomputable abbrev Dj:Code:=.seq G8 (.seq LA (.seq (.seq LB (.block 0 (.loop CV))) (.seq G9 (.seq G' (.seq (.seq Ha (.block 2 (.loop CW))) Hb)))))
theorem KQ:Tryz.f63.body=some Dj:=by kernel_rfl
theorem ntmps56:Tryz.f63.ntmps=45:=by kernel_rfl
theorem RV:codeSafe Tryz.prog 45 G8=true:=by kernel_rfl
theorem VN:codeSafe Tryz.prog 45 LA=true:=by kernel_rfl
theorem VO:codeSafe Tryz.prog 45 LB=true:=by kernel_rfl
theorem NB:codeSafe Tryz.prog 45 CV=true:=by kernel_rfl
theorem VP:codeSafe Tryz.prog 45 G9=true:=by kernel_rfl
theorem VQ:codeSafe Tryz.prog 45 G'=true:=by kernel_rfl
theorem VR:codeSafe Tryz.prog 45 Ha=true:=by kernel_rfl
theorem RW:codeSafe Tryz.prog 45 CW=true:=by kernel_rfl
theorem VS:codeSafe Tryz.prog 45 Hb=true:=by kernel_rfl
noncomputable def EY:Code:=.seq G9 (.seq G' (.seq (.seq Ha (.block 2 (.loop CW))) Hb))
theorem VT:codeSafe Tryz.prog 45 EY=true:=by kernel_rfl
theorem WG(v:Value)(O:List ae)(g:Nat→Value):retVal Tryz.prog Tryz.f63 (av 45 g [(6,v)] O)=some v:=by kernel_rfl
section
variable (f fu fi:Bool) (o U I:ae) (n c u i k q j:Nat) (d:Int) (x own:aa) (us ws zs:List aa) (ids:List Int) (g:Nat→Value)
theorem Va:(execE Tryz.prog vo [] [] [] 20 G8 ⟨tmsOf [af 0 n c,cN own,.int .i64 d] 0 .leaf,heapOf [o,.dead] aE,[]⟩).map (fun z=>(look2 1 [0,2] [0,2,4] (z.1,z.2.1),z.2.2)) =
 some ((.normal,[o,hB own],[(0,af 0 n c),(2,.int .i64 d),(4,pb 1 0)],true),[],[],[]):=by kernel_rfl
theorem T9:(execE Tryz.prog vo [] [] [] 20 G8 ⟨tmsOf [ax,cN own,.int .i64 d] 0 .leaf,heapOf [.dead] aE,[]⟩).map (fun z=>(look2 1 [0,1] [0,2,4] (z.1,z.2.1),z.2.2)) =
 some ((.normal,[.dead,hB own],[(0,ax),(2,.int .i64 d),(4,pb 1 0)],true),[],[],[]):=by kernel_rfl
theorem Vb:(execE Tryz.prog vo [] [] [] 20 LA (av 45 g [(0,vS f 0 n c),(2,.int .i64 d),(4,pb 1 0)] [o,hB own])).map (fun z=>(look2 2 [0,2,1] [0,2,4,7] (z.1,z.2.1),z.2.2)) =
 some ((.normal,[o,.dead,hB own],[(0,vS f 0 n c),(2,.int .i64 d),(4,pb 2 0),(7,ax)],true),[],[],[]):=by cases f <;> kernel_rfl
theorem Vc:(execE Tryz.prog vo [] [] [] 20 LB (av 45 g [(0,vS f 0 n c),(2,.int .i64 d),(4,pb 2 0),(7,ax)] [o,.dead,hB own])).map (fun z=>(look2 2 [0,1,2] [2,4,7,13,14,15] (z.1,z.2.1),z.2.2)) =
 some ((.normal,[o,.dead,hB own],[(2,.int .i64 d),(4,pb 2 0),(7,ax),(13,vS f 0 n c),(14,iN (kk f n)),(15,iN 0)],true),[],[],[]):=by cases f <;> kernel_rfl
abbrev OE(U:ae)(fu:Bool)(u i:Nat)(g:Nat→Value):St:=(av 45 g [(2,.int .i64 d),(4,pb 2 0),(7,vS fu 1 u 22),(13,vS f 0 n c),(14,iN (kk f n)),(15,iN i)] [o,U,hB own])
def px(o U:ae)(own:aa):Hp:=heapOf ([o,U,hB own] ++ [.dead]) aE
theorem Vj:(execE Tryz.prog vo [(16,.bool false)] [] [] 20 CV (OE f o n c d own U fu u i g)).map (fun z=>(look2 1 [1] [7] (z.1,z.2.1),z.2.2)) =
 some ((.exit 0,[U],[(7,vS fu 0 u 22)],true),[iF i (kk f n) false],[],[]):=by cases f <;> cases fu <;> kernel_rfl
theorem Ve:(execE Tryz.prog vo [(16,.bool true),(17,pb 0 (i*7)),(18,.agg ⟨vc x⟩),(29,iN (i+1)),(24,.bool false)] [] [] 20 CV (OE true o n c d own U fu u i g)).map (fun z=>(look2 2 [0,1,2] [2,4,7,13,14,15] (z.1,z.2.1),z.2.2)) =
 some ((.normal,[o,U,hB own],[(2,.int .i64 d),(4,pb 2 0),(7,vS fu 1 u 22),(13,af 0 n c),(14,iN n),(15,iN (i+1))],true),[iF i n true,LtA.gS 0 n c i,j8 (px o U own).get 78 0 (i*7) (.agg ⟨vc x⟩),SA own x d false,dF i],[],[]):=by cases fu <;> kernel_rfl
theorem Vi:(execE Tryz.prog vo [(16,.bool true),(17,pb 0 (i*7)),(18,.agg ⟨vc x⟩),(29,iN (i+1)),(24,.bool true)] [] [(28,aW 6 (u+1),gj fu 1 (ab zs))] 20 CV (OE true o n c d own U fu u i g)).map (fun z=>(look2 2 [0,6,2] [2,4,7,13,14,15] (z.1,z.2.1),z.2.2)) =
 some ((.normal,[o,ab zs,hB own],[(2,.int .i64 d),(4,pb 2 0),(7,aW 1 (u+1)),(13,af 0 n c),(14,iN n),(15,iN (i+1))],true),[iF i n true,LtA.gS 0 n c i,j8 (px o U own).get 78 0 (i*7) (.agg ⟨vc x⟩),SA own x d true,dF i],[],[Wu (((px o U own).push (LtA.vB x)).push (vB x)) 6 1 u 5 fu zs]):=by cases fu <;> kernel_rfl
theorem Ua:(execQ Tryz.prog O3 [] 60 EY (av 45 g [(7,ax)] [.dead])).map (fun z=>(look2 0 [] [6] (z.1,z.2.1),z.2.2))=some ((.ret,[],[(6,ax)],true),[]):=by kernel_rfl
theorem Vd:(execE Tryz.prog vo [] [] [(31,vU,[.put 0 (ab us)])] 20 G9 (av 45 g [(7,aW 0 k)] [ab ws])).map (fun z=>(look2 1 [0] [7] (z.1,z.2.1),z.2.2)) =
 some ((.normal,[ab us],[(7,aW 0 k)],true),[],[(vo 125 [aW 0 k,Fc] (hW ws),(vU,(hW ws).put 0 (ab us)))],[]):=by kernel_rfl
theorem Q5:(execE Tryz.prog vo [] [] [] 20 G' (av 45 g [(7,aW 0 k)] [ab ws])).map (fun z=>(look2 2 [0,1] [7,10] (z.1,z.2.1),z.2.2)) =
 some ((.normal,[ab ws,.dead],[(7,aW 0 k),(10,ax)],true),[],[],[]):=by kernel_rfl
theorem Vf:(execE Tryz.prog vo [] [] [] 20 Ha (av 45 g [(7,aW 0 k),(10,ax)] [ab ws,.dead])).map (fun z=>(look2 2 [0,1] [10,32,33,34] (z.1,z.2.1),z.2.2)) =
 some ((.normal,[ab ws,.dead],[(10,ax),(32,aW 0 k),(33,iN k),(34,iN 0)],true),[],[],[]):=by kernel_rfl
abbrev Sx(ws:List aa)(I:ae)(fi:Bool)(n q j:Nat)(g:Nat→Value):St:=(av 45 g [(10,vI fi 1 q),(32,aW 0 n),(33,iN n),(34,iN j)] [ab ws,I])
theorem Q6:(execE Tryz.prog vo [(35,.bool false)] [] [] 20 CW (Sx ws I fi n q j g)).map (fun z=>(look2 1 [1] [10] (z.1,z.2.1),z.2.2)) =
 some ((.exit 2,[I],[(10,vI fi 0 q)],true),[iF j n false],[],[]):=by cases fi <;> kernel_rfl
def xU(ws:List aa)(I:ae):Hp:=heapOf ([ab ws,I] ++ [.dead]) aE
theorem Vg:(execE Tryz.prog vo [(35,.bool true),(36,pb 0 (j*7)),(37,.agg ⟨vc x⟩),(43,iN (j+1))] [] [(42,jg 5 (q+1),gj fi 1 (iB ids))] 20 CW (Sx ws I fi n q j g)).map (fun z=>(look2 2 [0,5] [10,32,33,34] (z.1,z.2.1),z.2.2)) =
 some ((.normal,[ab ws,iB ids],[(10,jg 1 (q+1)),(32,aW 0 n),(33,iN n),(34,iN (j+1))],true),[iF j n true,gS 0 n 22 j,j8 (xU ws I).get 151 0 (j*7) (.agg ⟨vc x⟩),dF j],[],[W8 (((xU ws I).push (vB x)).push (.cells 3 [iC x.id] false)) 5 1 q 4 fi ids]):=by cases fi <;> kernel_rfl
theorem Vh:(execE Tryz.prog vo [] [] [] 20 Hb (av 45 g [(10,vI fi 0 q)] [I])).map (fun z=>(look2 1 [0] [6] (z.1,z.2.1),z.2.2)) =
 some ((.ret,[I],[(6,vI fi 0 q)],true),[],[],[]):=by cases fi <;> kernel_rfl
end
def bM(d:Int)(own:aa)(vs:List aa):List Int:=(aN aV (vs.filter (pD d own))).map fun x=>x.id
theorem jd(d:Int)(own:aa)(vs:List aa):(bM d own vs).length=(vs.filter (pD d own)).length:=by unfold bM; rw [List.length_map,bK]
def ofR(vs:List aa):xn:=fun rest=>match rest with
 | [v,.int .i64 d]=>if d=1∨d=2 then (unH v).map fun own=>(rowIv (bM d own vs) 0,qW (bM d own vs)) else none
 | _=>none
theorem kQ(ids:List Int)(b:Nat):vI (!ids.isEmpty) b ids.length=rowIv ids b:=by cases ids <;> rfl
theorem tQ{fn:Func}{N t:Nat}(q:∀ (v:Value) (O:List ae) (g:Nat→Value),retVal Tryz.prog fn (av N g [(t,v)] O)=some v)(ids:List Int)(g:Nat→Value):BZ fn (rowIv ids 0) (qW ids) .ret (av N g [(t,rowIv ids 0)] [cS ids]):=by
 refine ⟨.inr rfl,rfl,q _ _ g,fun B hB=>?_⟩
 cases ids with
 | nil=>cases hB
 | cons i ids=>cases hB; show (heapOf _ aE).get 0=_; rw [al]; rfl
theorem Rf(vs:List aa)(hn:vs.length<1000000):∀ rest v0 O,ofR vs rest=some (v0,O)→l7 Tryz.f63 Dj 45 vs rest v0 O:=fun rest v0 O h=>by
 unfold ofR at h;split at h
 case h_2=>cases h
 rename_i v d;split at h
 case isFalse=>cases h
 rename_i hd;obtain ⟨own,hown,h2⟩:=Option.map_eq_some_iff.1 h;obtain rfl:=nN hown;cases h2;refine ⟨wV _,Aj _,(by intro r hr; have e:r=cN own∨r = .int .i64 d:=(by simpa using hr); rcases e with e | e <;> rw [e]; exact yC _; exact w5 _ _),by simp,fun f o c W ho hrow hfl=>?_⟩
 have hkk:=ou hfl
 have fx2:∀ us:List aa,∀ r:List ae,∀ i,i<2→∀ o',(o::jF us::r)[i]? = some o'→dD 0 o':=fun us=>vH ho (ml us)
 refine aj.seq (Q1:=fun e st=>e = .normal∧∃ g,st=av 45 g [(0,vS f 0 vs.length c),(2,.int .i64 d),(4,pb 1 0)] [o,hB own]) ?_ ?_ (fun x st hne hq=>absurd hq.1 hne)
 ·cases f with
  | true=>exact aj.aK fy follows 1 _ _ _ _ (Va o vs.length c d own) Met.nil ay.nil az.nil RV rfl rfl (cj ho _) fun g=>⟨rfl,g,rfl⟩
  | false =>
    obtain ⟨rfl,rfl⟩:=hfl rfl;exact aj.aK fy follows 1 _ _ _ _ (T9 d own) Met.nil ay.nil az.nil RV rfl rfl (cj rfl _) fun g=>⟨rfl,g,rfl⟩
 rintro st ⟨-,g,rfl⟩;refine aj.seq (Q1:=fun e st=>e = .normal∧∃ g,st=av 45 g [(0,vS f 0 vs.length c),(2,.int .i64 d),(4,pb 2 0),(7,ax)] [o,.dead,hB own]) (aj.aK fy follows 2 _ _ _ _ (Vb f o vs.length c d own g) Met.nil ay.nil az.nil VN rfl rfl (fx2 [] _) fun g=>⟨rfl,g,rfl⟩) ?_ (fun x st hne hq=>absurd hq.1 hne)
 rintro st ⟨-,g,rfl⟩;refine aj.seq (Q1:=fun e st=>e = .normal∧∃ g,st=av 45 g [(7,vS (!(vs.filter (pD d own)).isEmpty) 0 (vs.filter (pD d own)).length 22)] [jF (vs.filter (pD d own))]) ?_ ?_ (fun x st hne hq=>absurd hq.1 hne)
 ·refine aj.seq (Q1:=fun e st=>e = .normal∧∃ g,st=OE f o vs.length c d own .dead false 0 0 g) (aj.aK fy follows 2 _ _ _ _ (Vc f o vs.length c d own g) Met.nil ay.nil az.nil VO rfl rfl (fx2 [] _) fun g=>⟨rfl,g,rfl⟩) ?_ (fun x st hne hq=>absurd hq.1 hne)
  rintro st ⟨-,g,rfl⟩;refine aj.mono (jy (DI (pD d own)) [] (fun us i g=>OE f o vs.length c d own (jF us) (!us.isEmpty) us.length i g) (fun us st=>∃ g,st=av 45 g [(7,vS (!us.isEmpty) 0 us.length 22)] [jF us]) (fun us g hf=>?_) (fun i x us g hx hlt hf=>?_) g) fun e st q=>by rw [qu] at q; exact q
  ·exact aj.aK fy follows 1 _ _ _ _ (Vj f (!us.isEmpty) o (jF us) vs.length c us.length vs.length d own g) (Met.cons (bx (by rw [hkk]; simp)) Met.nil) ay.nil az.nil NB rfl rfl (cj (ml us) []) fun g'=>⟨rfl,g',rfl⟩
  ·have hft:f=true:=by cases f with
      | true=>rfl
      | false=>rw [(hfl rfl).1] at hlt; simp at hlt
   subst hft;have hr:∃ ty ro,o = .cells ty (aI vs) ro:=by
     rcases hrow with h | h
     ·rw [h] at hlt; simp at hlt
     ·exact h
   have hul:us.length≤i:=by
     rw [← hf,qu];have:=List.length_filter_le (pD d own) (vs.take i)
     rw [List.length_take] at this;simp; omega
   have b0:dU (px o (jF us) own) 0 vs:=jI hr
   have met:∀ {l:List db},Met l→Met (iF i vs.length true::LtA.gS 0 vs.length c i::j8 (px o (jF us) own).get 78 0 (i*7) (.agg ⟨vc x⟩)::l):=fun hl=>Met.cons (bx (decide_eq_true hlt)) (Met.cons (LtA.bF hlt) (Met.cons (LtA.bU b0 hx) hl))
   have hnx:Met [dF i]:=Met.cons (bA (by omega)) Met.nil
   have dok:∀ {b:Bool},pD d own x=b→(SA own x d b).1=some (SA own x d b).2:=fun h=>by show some (Value.bool (xN own x==d))=_; unfold pD at h; rw [h]; rfl
   cases h24:pD d own x with
   | false =>
     refine aj.aK fy follows 2 _ _ _ _ (Ve (!us.isEmpty) o (jF us) vs.length c us.length i d x own g) (met (Met.cons (dok h24) hnx)) ay.nil az.nil NB rfl rfl (fx2 us _) fun g'=>⟨rfl,g',?_⟩
     unfold DI; rw [h24]; rfl
   | true =>
     have g1:(((px o (jF us) own).push (LtA.vB x)).push (vB x)).get 1=some (jF us):=by rw [Hp.cv,if_neg (by show (1:Nat)≠5; omega),Hp.cv,if_neg (by show (1:Nat)≠4; omega)]; unfold px; rw [al]; rfl
     have g5:(((px o (jF us) own).push (LtA.vB x)).push (vB x)).get 5=some (vB x):=by rw [Hp.cv,if_pos (by show (5:Nat)=5; rfl)]
     refine aj.aK fy follows 2 _ _ _ _ (Vi (!us.isEmpty) o (jF us) vs.length c us.length i d x own (us ++ [x]) g) (met (Met.cons (dok h24) hnx)) ay.nil (az.cons (yZ rfl g1 g5 rfl (by omega)) az.nil) NB rfl rfl
       (by rw [← pS (qI us x)]; exact fx2 _ _) fun g'=>⟨rfl,g',?_⟩
     unfold DI; rw [h24,cond_true,pO,pS (qI us x)];have e1:(us ++ [x]).length=us.length+1:=by simp
     rw [e1]; rfl
 rintro st ⟨-,g,rfl⟩;have hfl':(vs.filter (pD d own)).length<1000000:=by have:=List.length_filter_le (pD d own) vs; omega
 have hfk:∀ z∈vs.filter (pD d own),Kn z:=fun z hz=>JE hd (List.mem_filter.1 hz).2
 unfold bM;generalize vs.filter (pD d own)=us at *;cases us with
 | nil=>exact aj.piece Hc follows 0 _ _ _ _ (Ua g) Met.nil VT rfl rfl rfl (dE _) fun g=>⟨.inr rfl,rfl,WG _ _ g,(fun B hB=>by cases hB)⟩
 | cons w ws =>
   have hun:w::ws≠[]:=by simp
   generalize w::ws=us at *;rw [pS hun,kW hun];have hsl:(aN aV us).length=us.length:=bK
   have hcall:vo 125 [aW 0 us.length,Fc] (hW us)=some (vU,(hW us).put 0 (ab (aN aV us))):=by rw [Lz]; exact Kk rfl (by omega) hfk (dw us)
   refine aj.seq (Q1:=fun e st=>e = .normal∧∃ g,st=av 45 g [(7,aW 0 us.length)] [ab (aN aV us)]) (aj.aK fy follows 1 _ _ _ _ (Vd us.length (aN aV us) us g) Met.nil (ay.cons hcall ay.nil) az.nil VP rfl rfl (bq _ []) fun g=>⟨rfl,g,rfl⟩) ?_ (fun x st hne hq=>absurd hq.1 hne)
   rintro st ⟨-,g,rfl⟩;generalize aN aV us=ss at *;rw [← hsl];have fx:∀ r:List ae,∀ i,i<2→∀ o',(ab ss :: .dead::r)[i]? = some o'→dD 0 o':=vH (aw ss) rfl
   refine aj.seq (Q1:=fun e st=>e = .normal∧∃ g,st=av 45 g [(7,aW 0 ss.length),(10,ax)] [ab ss,.dead]) (aj.aK fy follows 2 _ _ _ _ (Q5 ss.length ss g) Met.nil ay.nil az.nil VQ rfl rfl (fx []) fun g=>⟨rfl,g,rfl⟩) ?_ (fun x st hne hq=>absurd hq.1 hne)
   rintro st ⟨-,g,rfl⟩;refine aj.seq (Q1:=fun e st=>e = .normal∧∃ g,st=av 45 g [(10,rowIv (ss.map fun x=>x.id) 0)] [cS (ss.map fun x=>x.id)]) ?_ ?_ (fun x st hne hq=>absurd hq.1 hne)
   ·refine aj.seq (Q1:=fun e st=>e = .normal∧∃ g,st=Sx ss .dead false ss.length 0 0 g) (aj.aK fy follows 2 _ _ _ _ (Vf ss.length ss g) Met.nil ay.nil az.nil VR rfl rfl (fx []) fun g=>⟨rfl,g,rfl⟩) ?_ (fun x st hne hq=>absurd hq.1 hne)
    rintro st ⟨-,g,rfl⟩;refine aj.mono (jy (fun ids (x:aa)=>ids ++ [x.id]) [] (fun ids i g=>Sx ss (cS ids) (!ids.isEmpty) ss.length ids.length i g) (fun ids st=>∃ g,st=av 45 g [(10,rowIv ids 0)] [cS ids]) (fun ids g hf=>?_) (fun i x ids g hx hlt hf=>?_) g) fun e st q=>by rw [qE] at q; exact q
    ·rw [← kQ]
     exact aj.aK fy follows 1 _ _ _ _ (Q6 (!ids.isEmpty) (cS ids) ss.length ids.length ss.length ss g) (Met.cons (bx (by simp)) Met.nil) ay.nil az.nil RW rfl rfl (cj (eU ids) []) fun g'=>⟨rfl,g',rfl⟩
    ·have hil:ids.length≤i:=by rw [← hf,qE]; simp; omega
     have b0:dU (xU ss (cS ids)) 0 ss:=.of (ty:=151) (ro:=false) (by unfold xU; rw [al]; rfl)
     have g1:(((xU ss (cS ids)).push (vB x)).push (.cells 3 [iC x.id] false)).get 1=some (cS ids):=by rw [Hp.cv,if_neg (by show (1:Nat)≠4; omega),Hp.cv,if_neg (by show (1:Nat)≠3; omega)]; unfold xU; rw [al]; rfl
     have g4:(((xU ss (cS ids)).push (vB x)).push (.cells 3 [iC x.id] false)).get 4=some (.cells 3 [iC x.id] false):=by rw [Hp.cv,if_pos (by show (4:Nat)=4; rfl)]
     refine aj.aK fy follows 2 _ _ _ _ (Vg (!ids.isEmpty) (cS ids) ss.length ids.length i x ss (ids ++ [x.id]) g) (Met.cons (bx (decide_eq_true hlt)) (Met.cons (bF hlt) (Met.cons (bU b0 hx) (Met.cons (bA (by omega)) Met.nil)))) ay.nil (az.cons (va rfl g1 g4 rfl (by omega)) az.nil) RW rfl rfl
       (by rw [← uk (qI ids x.id)]; exact vH (aw ss) (eU _) []) fun g'=>⟨rfl,g',?_⟩
     rw [pO,uk (qI ids x.id)];have e1:(ids ++ [x.id]).length=ids.length+1:=by simp
     rw [e1]; rfl
   ·rintro st ⟨-,g,rfl⟩
    generalize ss.map (fun x=>x.id)=ids at *
    have hr:=Vh (!ids.isEmpty) (cS ids) ids.length g
    rw [kQ] at hr;exact aj.aK fy follows 1 _ _ _ _ hr Met.nil ay.nil az.nil VS rfl rfl (cj (eU ids) []) fun g=>tQ WG ids g
noncomputable def Sv:aB:=padF (nL ofR)
theorem Py:aq Tryz.prog 63 Sv:=hU (jV Tryz.func63 KQ (by kernel_rfl) ntmps56 fun vs hn=>Rf vs hn)
theorem B'{vs:List aa}{s:Value}{hp:Hp}{d:Int}(own:aa)(hd:d=1∨d=2)(h:TN vs s hp)(hn:vs.length<1000000):Sv [s,cN own,.int .i64 d] hp=some (rowIv (bM d own vs) hp.sz,heapOf [cS (bM d own vs),.dead] hp):=oJ h hn (by show (if d=1∨d=2 then _ else _)=_; rw [if_pos hd]; rfl)
noncomputable def SS:Ext:=fq (cR Tryz.prog []) [(63,Sv)]
theorem JY:ExtOk Tryz.prog SS:=bD (aS (.nil)) (.cons Py (.nil))
noncomputable def N2:aG:=aCall Tryz.prog SS 5
theorem CS:a8 Tryz.prog N2:=aP JY follows 5
theorem CR(args:List Value)(hp:Hp):N2 63 args hp=Sv args hp:=by
 show aCall Tryz.prog SS 5 63 _ _=_
 rw [aCall]; rfl
noncomputable def Dw:Code:=(Tryz.f28.body).getD .skip
theorem KM:Tryz.f28.body=some Dw:=by kernel_rfl
theorem ntmps19:Tryz.f28.ntmps=8:=by kernel_rfl
theorem WL:codeSafe Tryz.prog 8 Dw=true:=by kernel_rfl
theorem WC(v:Value)(O:List ae)(g:Nat→Value):retVal Tryz.prog Tryz.f28 (av 8 g [(4,v)] O)=some v:=by kernel_rfl
section
variable (fi:Bool) (o I:ae) (own:aa) (n c k:Nat)
theorem Ux:(execE Tryz.prog N2 [] [(7,vI fi 3 k,[I,.dead])] [] 20 Dw ⟨tmsOf [af 0 n c,cN own] 0 .leaf,heapOf [o,.dead] aE,[]⟩).map (fun z=>(look2 1 [3] [4] (z.1,z.2.1),z.2.2)) =
 some ((.ret,[I],[(4,vI fi 0 k)],true),[],[(N2 63 [af 0 n c,cN own,.int .i64 1] (heapOf [o,.dead,hB own] aE),(vI fi 3 k,heapOf [I,.dead] (heapOf [o,.dead,hB own] aE)))],[]):=by cases fi <;> kernel_rfl
theorem Uw:(execE Tryz.prog N2 [] [(7,vI fi 2 k,[I,.dead])] [] 20 Dw ⟨tmsOf [ax,cN own] 0 .leaf,heapOf [.dead] aE,[]⟩).map (fun z=>(look2 1 [2] [4] (z.1,z.2.1),z.2.2)) =
 some ((.ret,[I],[(4,vI fi 0 k)],true),[],[(N2 63 [ax,cN own,.int .i64 1] (heapOf [.dead,hB own] aE),(vI fi 2 k,heapOf [I,.dead] (heapOf [.dead,hB own] aE)))],[]):=by cases fi <;> kernel_rfl
end
def wayR19(vs:List aa):xn:=fun rest=>match rest with
 | [v]=>(unH v).map fun own=>(rowIv (bM 1 own vs) 0,qW (bM 1 own vs))
 | _=>none
theorem Rc(vs:List aa)(hn:vs.length<1000000):∀ rest v0 O,wayR19 vs rest=some (v0,O)→l7 Tryz.f28 Dw 8 vs rest v0 O:=fun rest v0 O h=>by
 unfold wayR19 at h;split at h
 case h_2=>cases h
 rename_i v;obtain ⟨own,hown,h2⟩:=Option.map_eq_some_iff.1 h;obtain rfl:=nN hown;cases h2;refine ⟨wV _,Aj _,(by intro r hr; have e:r=cN own:=(by simpa using hr); rw [e]; exact yC _),by simp,fun f o c W ho hrow hfl=>?_⟩
 cases f with
 | true =>
   have h:=(CR [af 0 vs.length c,cN own,.int .i64 1] (heapOf [o,.dead,hB own] aE)).trans (B' (d:=1) own (by simp) (.inr ⟨0,c,o,rfl,by rw [al]; rfl,ho,hrow⟩) hn)
   generalize bM 1 own vs=ids at *;have hr:=Ux (!ids.isEmpty) o (cS ids) own vs.length c ids.length
   rw [kQ,kQ] at hr;exact aj.aK CS follows 1 _ _ _ _ hr Met.nil (ay.cons h ay.nil) az.nil WL rfl rfl (cj (eU ids) []) fun g=>tQ WC ids g
 | false =>
   obtain ⟨rfl,rfl⟩:=hfl rfl;have h:=(CR [ax,cN own,.int .i64 1] (heapOf [.dead,hB own] aE)).trans (B' (vs:=[]) (d:=1) own (by simp) (.inl ⟨rfl,rfl⟩) (by simp))
   generalize bM 1 own []=ids at *;have hr:=Uw (!ids.isEmpty) (cS ids) own ids.length
   rw [kQ,kQ] at hr;exact aj.aK CS follows 1 _ _ _ _ hr Met.nil (ay.cons h ay.nil) az.nil WL rfl rfl (cj (eU ids) []) fun g=>tQ WC ids g
noncomputable def yV:aB:=padF (nL wayR19)
theorem Jt:aq Tryz.prog 28 yV:=hU (jV Tryz.func28 KM (by kernel_rfl) ntmps19 fun vs hn=>Rc vs hn)
theorem B9{vs:List aa}{s:Value}{hp:Hp}(own:aa)(h:TN vs s hp)(hn:vs.length<1000000):yV [s,cN own] hp=some (rowIv (bM 1 own vs) hp.sz,heapOf [cS (bM 1 own vs),.dead] hp):=oJ h hn rfl
section
variable (fi:Bool) (o I:ae) (own:aa) (n c k:Nat)
end
section
variable (o I:ae) (own:aa) (n c k:Nat) (z:Int)
end
section
variable (f fa fb b lb:Bool) (o A B B1 B2:ae) (n c i q ka kb:Nat) (z:Int) (x y own:aa) (w1 w2:Value) (g:Nat→Value)
def h4(o:ae)(own:aa):Hp:=heapOf ([o,hB own] ++ [.dead]) aE
end
def dH(u v:aa):Bool:=dA u.n u.t u.o u.r u.d u.i v.n v.t v.o v.r v.d v.i
theorem jj{u v:aa}:dH u v=true↔u.n=v.n∧u.t=v.t∧u.o=v.o∧u.r=v.r∧u.d=v.d∧u.i=v.i:=by
 unfold dH dA;simp [and_assoc]
theorem ER{own x:aa}(h:Kn own):pD 1 own x=aV x own∧pD 2 own x=aV own x:=by
 have h':known own.n own.t own.o own.r own.d own.i=true:=h
 cases hk:toldV x with
 | false =>
   have hx:known x.n x.t x.o x.r x.d x.i=false:=hk
   have nk:¬ Kn x:=fun e=>by rw [nM.2 e] at hk; cases hk
   have e1:aV x own=false:=by
     cases e:aV x own with
     | false=>rfl
     | true=>exact absurd (Jz e).1 nk
   have e2:aV own x=false:=by
     cases e:aV own x with
     | false=>rfl
     | true=>exact absurd (Jz e).2 nk
   rw [e1,e2];unfold pD xN dir;rw [hx]; exact ⟨rfl,rfl⟩
 | true =>
   have hx:known x.n x.t x.o x.r x.d x.i=true:=hk
   have ea:=sw.asym x own (nM.1 hk) h
   unfold pD xN dir;rw [hx,h'];show ((bif true then bif true then bif aV x own then 1 else bif aV own x then 2 else 0 else 1 else 0:Int)==1)=_∧((bif true then bif true then bif aV x own then 1 else bif aV own x then 2 else 0 else 1 else 0:Int)==2)=_
   cases e1:aV x own with
   | true=>rw [ea e1]; exact ⟨rfl,rfl⟩
   | false=>cases aV own x <;> exact ⟨rfl,rfl⟩
theorem gf{f:Bool}{vs:List aa}{o:ae}{c:Nat}{hp:Hp}(ho:aD o=true)(hrow:vs = []∨∃ ty ro,o = .cells ty (aI vs) ro)(hfl:f=false→vs = []∧o = .dead)(hg:hp.get 0=some o):TN vs (vS f 0 vs.length c) hp:=by
 cases f with
 | true=>exact .inr ⟨0,c,o,rfl,hg,ho,hrow⟩
 | false=>exact .inl ⟨rfl,(hfl rfl).1⟩
def I7(e:Exit)(st:St):Prop:=e = .ret∧∃ g,st=av 121 g [(4,.bool true)] []
theorem Ef(ids:List Int):kk (!ids.isEmpty) ids.length=ids.length:=by cases ids <;> rfl
end Go.Proofs.YtgeoommlmddgpaaGreat.LtL
namespace Go.Proofs.YtgeoommlmddgpaaGreat.LtL
open Go Go.Proofs Go.Proofs.YtgeoommlmddgpaaGreat.AI Go.RowKit Go.ChangeShapes Go.Proofs.YtgeoommlmddgpaaGreat.LtA
theorem Gb{w:World}{r:Reach}{base:Nat}{a:Addr}{n c:Nat}(h:Value.okWide Tryz.prog w r base 24 (.slice (some a) n c)):n≤9223372036854775807:=by
 unfold Value.okWide at h;rw [Tryz.underlying24] at h;have h':Cell.okWide Tryz.prog w r base 24 (.slice (some a) n c):=h
 unfold Cell.okWide at h';rw [Tryz.underlying24] at h';have h2:Cell.ok Tryz.prog w r base 24 (.slice (some a) n c):=h'
 unfold Cell.ok at h2;rw [Tryz.underlying24] at h2;obtain ⟨h1,h3,-⟩:=h2;have h4:(c:Int)≤9223372036854775807:=h3
 omega
theorem E9{H:Type}{enc:TypeId×Value→H}{W:World}{base:Nat}{v:Value}{d:DataW H}{p:List MemPlace}(hval:Value.okWide Tryz.prog W .any base 24 v)(hT:∃ fuel,DataW.trod enc Tryz.prog W 0 (fun _=>true) true fuel 24 v.cells.toList=some (d,p)) :
  ∃ (f:Bool) (o:ae) (vs:List aa) (m:BM),aD o=true∧cd m (heapOf [o,.dead] aE).get W∧(∀ b,rw? (heapOf [o,.dead] aE).get b=false)∧ah m (heapOf [o,.dead] aE).get (vS f 0 vs.length 2) v ∧
    vs.length≤9223372036854775807∧(vs = []∨∃ ty ro,o = .cells ty (aI vs) ro)∧(f=false→vs = []∧o = .dead):=by
 rcases rF Tryz.underlying24 hval with rfl | ⟨r,off,n,c,rfl,hn⟩
 ·exact ⟨false,.dead,[],KL,rfl,Al,wU,.flat rfl,by simp,.inl rfl,fun _=>⟨rfl,rfl⟩⟩
 ·have hmax:=Gb hval
  by_cases hd:n=0
  ·subst hd
   exact ⟨true,.dead,[],KL,rfl,Al,wU,.slice (.of hn (by decide)) (.inl (by rw [al]; rfl)),by simp,.inl rfl,fun h=>by cases h⟩
  ·obtain ⟨fuel,hT⟩:=hT
   have hT':DataW.trod enc Tryz.prog W 0 (fun _=>true) true fuel 24 [.slice (some ⟨r,off,none⟩) n c]=some (d,p):=by simpa [Value.cells] using hT
   obtain ⟨ps,arr,ty,fr,hl,hcell,hlen,hv⟩:=IY hT' (by omega)
   have hin:=dC ps
   refine ⟨true,.cells ty (aI ps) true,ps,_,hin,Ft (Iy (k:=7) (n:=n) hcell hlen hin hv),Bl,?_,by omega,.inr ⟨ty,true,rfl⟩,fun h=>by cases h⟩
   rw [hl];refine .slice (.of hn (by decide)) (.inr ⟨off,arr.size,rfl,.inl rfl,?_⟩)
   constructor <;> intro h <;> simp at h
end Go.Proofs.YtgeoommlmddgpaaGreat.LtL
namespace Go.Proofs.YtgeoommlmddgpaaGreat.LtL
open Go Go.Proofs Go.Proofs.YtgeoommlmddgpaaGreat.AI Go.RowKit Go.Proofs.YtgeoommlmddgpaaGreat.Sort Go.Proofs.YtgeoommlmddgpaaGreat.LtA
theorem Gg{i:Nat}(h:i+1≤9223372036854775807):(some (Value.int .i64 (wrapF .i64 (Int.ofNat (i+1)-1))))=some (iN i):=by
 have e:Int.ofNat (i+1)-1=Int.ofNat i:=by simp only [Int.ofNat_eq_natCast]; omega
 rw [e,wrap64 (by have:=Int.natCast_nonneg i; simp only [Int.ofNat_eq_natCast]; omega) (by simp only [Int.ofNat_eq_natCast]; omega)]
 rfl
theorem AQ(o:ae)(ho:aD o=true)(vs:List aa)(hn:vs.length≤9223372036854775807)(hrow:vs = []∨∃ ty ro,o = .cells ty (aI vs) ro)(c:Nat)(W:bj) :
  aj Tryz.prog 34 W (.seq xH (.seq (.seq xI (.block 0 (.loop qj))) xJ)) (SN o vs.length c) (fun e st=>(e = .normal∨e = .ret)∧st.df = []∧retVal Tryz.prog Tryz.f58 st=some (mc (aF vs))):=by
 have hO:=Pb ho
 refine aj.seq (Q1:=fun x st=>x = .normal∧∃ g,st=NV o vs.length c g) (aj.piece dW follows 1 _ _ _ _ (QS o vs.length c) Met.nil Nv rfl rfl rfl (hO _) fun g=>⟨rfl,g,rfl⟩) ?_ (fun x st hne hq=>absurd hq.1 hne)
 rintro st ⟨-,g,rfl⟩;let Q2:Exit→St→Prop:=fun x st=>(x = .normal∧∃ g,st=NV o vs.length c g∧aF vs=true)∨(x = .ret∧∃ g,st=Ky o (iN 1) g∧aF vs=false)
 refine aj.seq (Q1:=Q2) ?_ ?_ ?_
 ·refine aj.seq (Q1:=fun x st=>x = .normal∧∃ g,st=Cg o vs.length c 0 g) (aj.piece dW follows 1 _ _ _ _ (QT o vs.length c g) Met.nil Nx rfl rfl rfl (hO _) fun g=>⟨rfl,g,rfl⟩) ?_ (fun x st hne hq=>absurd hq.1 hne)
  rintro st ⟨-,g,rfl⟩;refine aj.block ?_
  refine aj.loop (fun k st=>∃ i g,i≤vs.length∧k=vs.length-i∧(∀ j,j<i→rightAt vs j=true)∧st=Cg o vs.length c i g) ?_ (k:=vs.length) ⟨0,g,Nat.zero_le _,rfl,fun j hj=>absurd hj (Nat.not_lt_zero _),rfl⟩
  rintro k st ⟨i,g,hi,hk,hgood,rfl⟩;cases h8:decide (Int.ofNat i<Int.ofNat vs.length) with
  | false =>
    refine aj.piece dW follows 1 _ _ _ _ (Q4 o vs.length c i g) (Met.cons (ag h8) Met.nil) qX rfl rfl rfl (hO _) fun g'=>.inr ⟨by simp,?_⟩
    show (if (0:Nat)=0 then Q2 .normal _ else Q2 (.exit 0) _)
    rw [if_pos rfl];have hii:i=vs.length:=by simp at h8; omega
    exact .inl ⟨rfl,g',rfl,oC fun j hj=>hgood j (by omega)⟩
  | true =>
    have hlt:i<vs.length:=by simpa using h8
    obtain ⟨v,hv⟩:∃ v,vs[i]? = some v:=⟨_,List.getElem?_eq_getElem hlt⟩
    have hvm:v∈vs:=List.mem_of_getElem? hv
    have hr:∃ ty ro,o = .cells ty (aI vs) ro:=by
      rcases hrow with h | h
      ·subst h; cases hvm
      ·exact h
    have hmet:Met (wI o vs.length c i v):=Met.cons (ag h8) (Met.cons (LtA.bF hlt) (Met.cons (LtA.bU (jI hr) hv) Met.nil))
    have hret:∀ g',rightAt vs i=false→(Exit.ret=Exit.normal∧∃ k',k'<k∧∃ i g,i≤vs.length∧k'=vs.length-i∧(∀ j,j<i→rightAt vs j=true)∧Ky o (iN 1) g'=Cg o vs.length c i g)∨(Exit.ret≠Exit.normal∧Q2 .ret (Ky o (iN 1) g')):=fun g' h=>.inr ⟨by simp,.inr ⟨rfl,g',rfl,qT hlt h⟩⟩
    have hnext:rightAt vs i=true→∀ j,j<i+1→rightAt vs j=true:=fun h j hj=>by
      rcases Nat.lt_succ_iff_lt_or_eq.1 hj with h' | h'
      ·exact hgood j h'
      ·subst h'; exact h
    cases h16:cy v with
    | false=>exact aj.piece dW follows 1 _ _ _ _ (QX o vs.length c i v g) (cO hmet (Met.cons (ag h16) Met.nil)) qX rfl rfl rfl (hO _) fun g'=>hret g' (by simp only [rightAt,hv,h16,Bool.false_and])
    | true =>
      match i,hi,hk,hgood,h8,hlt,hv,hmet,hret,hnext with
      | 0,hi,hk,hgood,h8,hlt,hv,hmet,hret,hnext =>
        refine aj.piece dW follows 1 _ _ _ _ (QY o vs.length c v g) (cO hmet (Met.cons (ag h16) (Met.cons (rJ (by omega)) Met.nil))) qX rfl rfl rfl (hO _) fun g'=>.inl ⟨rfl,vs.length-1,by omega,1,g',by omega,rfl,hnext (by simp only [rightAt,hv,h16,Bool.true_and]),rfl⟩
      | j+1,hi,hk,hgood,h8,hlt,hv,hmet,hret,hnext =>
        obtain ⟨u,hu⟩:∃ u,vs[j]? = some u:=⟨_,List.getElem?_eq_getElem (by omega)⟩
        have hpre:Met (Ag o vs.length c j u v):=cO hmet (Met.cons (ag h16) (Met.cons (ag (decide_eq_true (by simp only [Int.ofNat_eq_natCast]; omega))) (Met.cons (Gg (by omega)) (Met.cons (LtA.bF (by omega)) (Met.cons (xi (jI hr) hu) Met.nil)))))
        cases h30:decide (u.id≥v.id) with
        | true=>exact aj.piece dW follows 1 _ _ _ _ (QZ o vs.length c j u v g) (cO hpre (Met.cons (ag h30) Met.nil)) qX rfl rfl rfl (hO _) fun g'=>hret g' (by simp only [rightAt,hv,hu,h16,Bool.true_and]; have:=of_decide_eq_true h30; exact decide_eq_false (by omega))
        | false =>
          refine aj.piece dW follows 1 _ _ _ _ (Q3 o vs.length c j u v g) (cO hpre (Met.cons (ag h30) (Met.cons (rJ (by omega)) Met.nil))) qX rfl rfl rfl (hO _) fun g'=>.inl ⟨rfl,vs.length-(j+1+1),by omega,j+1+1,g',by omega,rfl,hnext (by simp only [rightAt,hv,hu,h16,Bool.true_and]; have:=of_decide_eq_false h30; exact decide_eq_true (by omega)),rfl⟩
 ·rintro st (⟨-,g,rfl,hf⟩ | ⟨h,-⟩)
  ·refine aj.piece dW follows 1 _ _ _ _ (QU o vs.length c g) Met.nil Ny rfl rfl rfl (hO _) fun g'=>⟨.inr rfl,rfl,?_⟩
   rw [hf];exact SI o _ g'
  ·cases h
 ·rintro x st hne (⟨h,-⟩ | ⟨rfl,g,rfl,hf⟩)
  ·exact absurd h hne
  ·refine ⟨.inr rfl,rfl,?_⟩
   rw [hf];exact SI o _ g
open Classical in
noncomputable def toldQ(P:List aa→Prop)(A:List aa→xn):aB:=fun args hp=>match args with
 | s::_=>if h:∃ vs,TN vs s hp∧P vs then rowG h.choose (A h.choose) args hp else none
 | _=>none
theorem rA{P:List aa→Prop}{f:FuncId}{fn:Func}{code:Code}{N:Nat}{A:List aa→xn}(hf:Tryz.prog.funcs[f]? = some fn)(hb:fn.body=some code)(hnm:(fn.name == "runtime.NumGoroutine")=false)(hN:fn.ntmps=N)
  (H:∀ vs,P vs→∀ rest v0 O,A vs rest=some (v0,O)→l7 fn code N vs rest v0 O):aq Tryz.prog f (toldQ P A):=by
 intro args hp v hp' he hk;unfold toldQ at he;split at he
 case h_2=>cases he
 split at he
 ·rename_i hx
  exact wW hf hb hnm hN (H _ hx.choose_spec.2) _ _ _ _ he hk
 ·cases he
open Classical in
theorem FW{P:List aa→Prop}{A:List aa→xn}{vs:List aa}{s:Value}{rest:List Value}{hp:Hp}{v0:Value}(h:TN vs s hp)(hP:P vs)(hA:A vs rest=some (v0,[]))(hv:sh3 [] hp.sz v0=v0) :
  toldQ P A (s::rest) hp=some (v0,heapOf [.dead] hp):=by
 unfold toldQ;have hx:∃ vs,TN vs s hp∧P vs:=⟨vs,h,hP⟩
 simp only;rw [dif_pos hx,hx.choose_spec.1.uniq h];show (if TN vs s hp then _ else _)=_
 rw [if_pos h,hA];show some (sh3 [] hp.sz v0,_)=_
 rw [hv]; rfl
def ckR(vs:List aa):xn:=fun rest=>match rest with
 | []=>some (mc (aF vs),[])
 | _=>none
def Aw(vs:List aa):Prop:=vs.length≤9223372036854775807
noncomputable def j6:aB:=toldQ Aw ckR
theorem tU:aq Tryz.prog 58 j6:=rA Tryz.func58 Ct (by kernel_rfl) ntmps18 fun vs hn rest v0 O h=>by
 unfold ckR at h;split at h
 case h_2=>cases h
 cases h;refine ⟨.inl rfl,(pF _).1,(fun r hr=>by cases hr),by simp,fun f o c W ho hrow hfl=>?_⟩
 cases f with
 | true=>exact aj.mono (AQ o ho vs hn hrow c W) fun e st q=>⟨q.1,q.2.1,q.2.2,(fun B hB=>by cases hB)⟩
 | false =>
   obtain ⟨rfl,rfl⟩:=hfl rfl;exact aj.mono (si W) fun e st q=>⟨q.1,q.2.1,q.2.2,(fun B hB=>by cases hB)⟩
theorem pz{vs:List aa}{s:Value}{hp:Hp}(h:TN vs s hp)(hn:Aw vs):j6 [s] hp=some (mc (aF vs),heapOf [.dead] hp):=FW h hn rfl ((pF _).2 _ _)
noncomputable def J0:Ext:=fq (cR Tryz.prog [(123,g55)]) [(58,j6)]
theorem Gu:ExtOk Tryz.prog J0:=bD (aS (.cons DY (.nil))) (.cons tU (.nil))
noncomputable def G2:aG:=aCall Tryz.prog J0 5
theorem G4:a8 Tryz.prog G2:=aP Gu follows 5
theorem G3(args:List Value)(hp:Hp):G2 58 args hp=j6 args hp:=by
 show aCall Tryz.prog J0 5 58 _ _=_
 rw [aCall]; rfl
section
variable (o:ae) (n c:Nat) (y:aa)
theorem UJ:(execE Tryz.prog G2 [] [(12,iN 1,[.dead])] [] 40 qt (NW o n c y)).map (fun z=>(look2 0 [] [6,7] (z.1,z.2.1),z.2.2)) =
 some ((.ret,[],[(6,ax),(7,iN 1)],true),[],[(G2 58 [af 0 n c] (rK o y),(iN 1,heapOf [.dead] (rK o y)))],[]):=by kernel_rfl
end
def setL(vs:List aa):xn:=fun rest=>match rest with
 | [.int .i64 id,v]=>(unH v).map fun _=>(.tuple #[ax,iN 1],[])
 | _=>none
def WU(vs:List aa):Prop:=Aw vs∧aF vs=false
noncomputable def Ow:aB:=toldQ WU setL
theorem Mq:aq Tryz.prog 85 Ow:=rA Tryz.func85 Cu (by kernel_rfl) ntmps27 fun vs hn rest v0 O h=>by
 unfold setL at h;split at h
 case h_2=>cases h
 rename_i id v;obtain ⟨x,hx,h2⟩:=Option.map_eq_some_iff.1 h;obtain rfl:=nN hx;cases h2;refine ⟨.inl rfl,rfl,(by intro r hr; have e:r = .int .i64 id∨r=cN x:=(by simpa using hr); rcases e with e | e <;> rw [e]; exact w5 _ _; exact yC _),by simp,fun f o c W ho hrow hfl=>?_⟩
 cases f with
 | true =>
   have hT:TN vs (af 0 vs.length c) (rK o ⟨id,x.n,x.t,x.o,x.r,x.d,x.i⟩):=.inr ⟨0,c,o,rfl,by unfold rK; rw [al]; rfl,ho,hrow⟩
   have hc:=(G3 [af 0 vs.length c] (rK o ⟨id,x.n,x.t,x.o,x.r,x.d,x.i⟩)).trans (pz hT hn.1)
   rw [hn.2] at hc;exact aj.aK G4 follows 0 _ _ _ _ (UJ o vs.length c ⟨id,x.n,x.t,x.o,x.r,x.d,x.i⟩) Met.nil (ay.cons hc ay.nil) az.nil Nz rfl rfl (dE _) fun g=>⟨.inr rfl,rfl,Qm _ _ _ g,(fun B hB=>by cases hB)⟩
 | false =>
   have h0:=(hfl rfl).1
   have h1:=hn.2
   rw [h0] at h1;cases h1
noncomputable def ph:aB:=orFn (padF Su) (padF Ow)
theorem DZ:aq Tryz.prog 85 ph:=Bd (hU Pv) (hU Mq)
theorem kF{vs:List aa}(h:aF vs=true):vs.length≤64:=by
 obtain ⟨h1,h2⟩:=cG.1 h;have hid:∀ i,(hi:i<vs.length)→(i:Int)≤(vs[i]).id:=fun i=>by
  induction i with
  | zero =>
    intro hi;have:=h1 _ (List.getElem_mem hi)
    unfold cy r7 at this;simp only [Bool.and_eq_true,decide_eq_true_eq] at this;simpa using this.1
  | succ i ih =>
    intro hi;have a:=ih (by omega)
    have b:=List.pairwise_iff_getElem.1 h2 i (i+1) (by omega) hi (by omega)
    omega
 rcases Nat.lt_or_ge 64 vs.length with hl | hl
 ·have:=hid 64 hl
  have h3:=h1 _ (List.getElem_mem hl)
  unfold cy r7 at h3;simp only [Bool.and_eq_true,decide_eq_true_eq] at h3;omega
 ·exact hl
theorem tg{vs:List aa}{s:Value}{hp:Hp}(y:aa)(h:TN vs s hp)(hr:(aF vs&&cy y)=true) :
  ph [s,.int .i64 y.id,cN y] hp=some (.tuple #[af hp.sz (cr vs y).length (setC s vs y.id),iN 0],heapOf [LtA.ab (cr vs y),.dead] hp):=by
 have hl:=kF (Bool.and_eq_true_iff.1 hr).1
 have e:=Ki y h (by omega)
 rw [hr] at e;unfold ph orFn;rw [nr e]
end Go.Proofs.YtgeoommlmddgpaaGreat.LtL
namespace Go.Proofs.YtgeoommlmddgpaaGreat.AI
open Go Go.Proofs Go.RowKit
abbrev fj:=Nat→Option (Nat×Nat×Nat)
structure FM (n:Nat) (W:bj) (z:Nat) (X:fj) (st:St) (a:Act) (w:World) (m:BM):Prop where
 fr:FR n W st a w m
 pin:∀ i,i<z→∀ x,X i=some x→st.hp.get i=some .dead∨m i=some x
def bh(P:Program)(N:Nat)(W:bj)(z:Nat)(X:fj)(c:Code)(st:St)(Q:Exit→St→Prop):Prop :=
 ∀ a w m,FM N W z X st a w m→c.wp P (fun e a' w'=>∃ st' m',FM N W z X st' a' w' m'∧Q e st') a w
section
variable {P:Program} {N:Nat} {W:bj} {z:Nat} {X:fj}
theorem bh.mono{c:Code}{st:St}{Q Q':Exit→St→Prop}(h:bh P N W z X c st Q)(hq:∀ e st',Q e st'→Q' e st'):bh P N W z X c st Q':=fun a w m f =>
 wp_mono (h a w m f) fun e a' w' hh=>by
  obtain ⟨st',m',f',q⟩:=hh;exact ⟨st',m',f',hq e st' q⟩
theorem bh.seq{c d:Code}{st:St}{Q1 Q:Exit→St→Prop}(h1:bh P N W z X c st Q1)(h2:∀ st',Q1 .normal st'→bh P N W z X d st' Q)(h3:∀ e st',e≠.normal→Q1 e st'→Q e st'):bh P N W z X (.seq c d) st Q:=fun a w m f=>by
 refine wp_seq (wp_mono (h1 a w m f) fun e a' w' hh=>?_)
 obtain ⟨st',m',f',q⟩:=hh;cases e with
 | normal=>exact h2 st' q a' w' m' f'
 | _=>exact ⟨st',m',f',h3 _ st' (by simp) q⟩
theorem bh.block{id:Nat}{c:Code}{st:St}{Q:Exit→St→Prop}(h:bh P N W z X c st fun e st'=>match e with | .exit i=>if i=id then Q .normal st' else Q (.exit i) st' | e=>Q e st'):bh P N W z X (.block id c) st Q:=fun a w m f=>by
 refine wp_block (wp_mono (h a w m f) fun e a' w' hh=>?_)
 obtain ⟨st',m',f',q⟩:=hh;cases e with
 | exit i =>
   show (if i=id then _ else _)
   by_cases hi:i=id
   ·simp only [hi,if_true] at q ⊢
    exact ⟨st',m',f',q⟩
   ·simp only [hi,if_false] at q ⊢
    exact ⟨st',m',f',q⟩
 | _=>exact ⟨st',m',f',q⟩
theorem bh.loop{c:Code}{Q:Exit→St→Prop}(I:Nat→St→Prop)(hI:∀ k st,I k st→bh P N W z X c st fun e st'=>(e = .normal∧∃ k',k'<k∧I k' st')∨(e≠.normal∧Q e st')){k:Nat}{st:St}(h:I k st):bh P N W z X (.loop c) st Q:=fun a w m f=>by
 have key:∀ k st a w m,I k st→FM N W z X st a w m→Code.rounds P c (fun e a' w'=>∃ st' m',FM N W z X st' a' w' m'∧Q e st') (k+1) a w:=by
  intro k;induction k using Nat.strongRecOn with
  | _ k ih =>
    intro st a w m hi f;rw [rounds_succ];refine wp_mono (hI k st hi a w m f) fun e a' w' hh=>?_
    obtain ⟨st',m',f',q⟩:=hh;rcases q with ⟨rfl,k',hk,hi'⟩ | ⟨hne,q⟩
    ·exact oE (show k'+1≤k by omega) (ih k' hk st' a' w' m' hi' f')
    ·cases e with
     | normal=>exact absurd rfl hne
     | _=>exact ⟨st',m',f',q⟩
 exact wp_loop_rounds (k+1) (key k st a w m h f)
theorem bh.XM{c:Code}{st:St}{Q:Exit→St→Prop}(h:∀ X,bh P N W 0 X c st Q):aj P N W c st Q:=fun a w m f =>
 wp_mono (h (fun _=>none) a w m ⟨f,fun i hi=>by omega⟩) fun e a' w' hh=>by
  obtain ⟨st',m',f',q⟩:=hh;exact ⟨st',m',f'.fr,q⟩
theorem FM.canon{st':St}{a':Act}{w':World}{m':BM}(f':FM N W z X st' a' w' m'){e e':Exit}(p:Nat)(K Ts:List Nat)(O:List ae)(L:List (Nat×Value))
  (h2:look2 p K Ts (e',st')=(e,O,L,true)) (hK:nodupB K=true) (hT:Ts.all (fun t=>Nat.blt t N)=true)
  (hO:∀ i,i<p→∀ o,O[i]? = some o→dD 0 o) (h0:∀ i,i<z→K[i]? = some i):e'=e∧∃ g m2,FM N W z X (av N g L O) a' w' m2:=by
 simp only [look2,Prod.mk.injEq] at h2;obtain ⟨rfl,rfl,rfl,h5⟩:=h2;obtain ⟨h5,h7⟩:=Bool.and_eq_true_iff.1 h5;obtain ⟨h5,h6⟩:=Bool.and_eq_true_iff.1 h5;obtain ⟨h3,h4⟩:=Bool.and_eq_true_iff.1 h5;have hpin:=f'.pin
 have hlen:((K.take p).map (fun b=>(st'.hp.get b).getD .dead)++(K.drop p).map (fun b=>bX K ((st'.hp.get b).getD .dead))).length=K.length:=by
  simp; omega
 have hget:∀ (i b:Nat),K[i]? = some b→∃ o,st'.hp.get b=some o:=fun i b hi=>by
  have:=List.all_eq_true.1 h3 b (List.mem_of_getElem? hi)
  cases hg:st'.hp.get b with
  | none=>rw [hg] at this; cases this
  | some o=>exact ⟨o,rfl⟩
 have hB:∀ (i b:Nat) (o2:ae),K[i]? = some b→((K.take p).map (fun b=>(st'.hp.get b).getD .dead)++(K.drop p).map (fun b=>bX K ((st'.hp.get b).getD .dead)))[i]? = some o2→∃ o,st'.hp.get b=some o∧o2=bX K o∧fL o=true:=fun i b o2 hi ho=>by
    obtain ⟨o,hg⟩:=hget i b hi;refine ⟨o,hg,?_⟩
    have hiK:i<K.length:=(List.getElem?_eq_some_iff.1 hi).1
    by_cases hip:i<p
    ·have e1:((K.take p).map (fun b=>(st'.hp.get b).getD .dead)++(K.drop p).map (fun b=>bX K ((st'.hp.get b).getD .dead)))[i]? = some o:=by
      rw [List.getElem?_append_left (by simp; omega),List.getElem?_map,List.getElem?_take,if_pos hip,hi]
      simp [hg]
     rw [e1] at ho;have e3:o=o2:=by simpa using ho
     subst e3;obtain ⟨k1,k2⟩:=hO i hip o e1;exact ⟨(k2 K (fun i hi=>absurd hi (Nat.not_lt_zero _))).symm,k1⟩
    ·have hmin:min p K.length=p:=by omega
     rw [List.getElem?_append_right (by simp; omega)] at ho
     simp only [List.length_map,List.length_take,hmin,List.getElem?_map,List.getElem?_drop] at ho
     rw [show p+(i-p)=i by omega,hi] at ho
     simp only [Option.map_some,Option.some.injEq,hg,Option.getD_some] at ho;refine ⟨ho.symm,?_⟩
     have hbm:b∈K.drop p:=List.mem_of_getElem? (by rw [List.getElem?_drop,show p+(i-p)=i by omega]; exact hi)
     have:=List.all_eq_true.1 h4 b hbm
     simpa [hg] using this
 obtain ⟨g,f2⟩:=f'.fr.tJ K ((K.take p).map (fun b=>(st'.hp.get b).getD .dead)++(K.drop p).map (fun b=>bX K ((st'.hp.get b).getD .dead))) (Ts.map fun t=>(t,mn K (st'.dI t))) (fC hK) hlen hB (fun x hx=>by
    obtain ⟨t,ht,rfl⟩:=List.mem_map.1 hx;exact ⟨by have:=List.all_eq_true.1 hT t ht; simpa [Nat.blt_eq] using this,List.all_eq_true.1 h6 t ht,rfl⟩) (List.isEmpty_iff.1 h7)
 refine ⟨rfl,_,_,f2,fun i hi x hx=>?_⟩
 have hKi:=h0 i hi
 have hlt:i<K.length:=(List.getElem?_eq_some_iff.1 hKi).1
 rcases hpin i hi x hx with hd | hd
 ·refine .inl ?_
  obtain ⟨o2,ho2⟩:∃ o2,((K.take p).map (fun b=>(st'.hp.get b).getD .dead)++(K.drop p).map (fun b=>bX K ((st'.hp.get b).getD .dead)))[i]? = some o2:=⟨_,List.getElem?_eq_getElem (by omega)⟩
  obtain ⟨o,q1,q2,_⟩:=hB i i o2 hKi ho2;rw [hd] at q1; cases q1;show (heapOf _ aE).get i=_
  rw [al,List.getElem?_append_left (by omega),ho2,q2]
  rfl
 ·refine .inr ?_
  unfold canM;rw [hKi];exact hd
theorem bh.leaf{c:Code}{st:St}{Q:Exit→St→Prop}(h:bh P N W z X c st fun e st'=>∃ p k,leafT N z Q e st' p k):bh P N W z X c st Q:=fun a w m f =>
 wp_mono (h a w m f) fun e a' w' hh=>by
  obtain ⟨st',m',f',p,k,q⟩:=hh;obtain ⟨n,K,Ts,O,L,hl,h1,h1',h2,h3,h4⟩:=Ej q;obtain ⟨-,g,m2,f2⟩:=f'.canon n K Ts O L hl h1 h2 h3 (fun i hi=>pW h1' hi)
  exact ⟨_,m2,f2,h4 g⟩
theorem bh.run{call:aG}(hc:a8 P call)(hm:P.follows .mixedOrders=true){n:Nat}{c:Code}{st st':St}{e:Exit}(h1:exec P call n c st=some (e,st'))(hs:codeSafe P N c=true){Q:Exit→St→Prop}(hq:Q e st'):bh P N W z X c st Q:=fun a w m f=>by
 obtain ⟨_,k1,_,k3⟩:=bH hc hm n c st _ st' h1 hs f.fr.ok;refine wp_mono (eW (k3 m xV w a (fun _ _ _=>rfl) f.fr.rel)) fun e2 a' w' hh=>?_
 obtain ⟨rfl,m',gg,r⟩:=hh;refine ⟨st',m',⟨f.fr.go k1 gg r,fun i hi x hx=>?_⟩,hq⟩
 have le:=gg.le
 rw [cz f.fr.ok,cz k1] at le;rcases f.pin i hi x hx with h | h
 ·exact .inl (le.dead i h)
 ·exact le.keep i x h
theorem bh.yk{ext:Ext}(hx:ExtOk P ext)(hm:P.follows .mixedOrders=true){d:Nat}{c:Code}{st:St}{p:bZ}{Q:Exit→St→Prop}(hs:codeSafe P N c=true){Y:Prop}(e:Y=RT P ext N z d c st p Q)(h:Y):bh P N W z X c st Q:=by
 rw [e] at h;obtain ⟨e,st',p',k',q1,q2⟩:=cX (iZ ext d) h;exact bh.leaf (bh.run (aP hx hm d) hm q1 hs ⟨p',k',q2⟩)
end
def mv1(s:Nat→Nat):Value→Value
 | .pointer (some a)=>.pointer (some ⟨s a.block,a.off,a.spot⟩)
 | .slice (some a) l c=>.slice (some ⟨s a.block,a.off,a.spot⟩) l c
 | .map (some b)=>.map (some (s b))
 | v=>v
def mv2(s:Nat→Nat):Value→Value
 | .func f a b=>.func f (a.map (mv1 s)) (b.map (mv1 s))
 | .agg cs=>.agg (cs.map (mv1 s))
 | v=>mv1 s v
def mv3(s:Nat→Nat):Value→Value
 | .tuple cs=>.tuple (cs.map (mv2 s))
 | v=>mv2 s v
def mvB(s:Nat→Nat):ae→ae
 | .cells ty cs ro=>.cells ty (cs.map (mv2 s)) ro
 | .map es cl ro=>.map (es.map fun e=>(e.1,mv2 s e.2.1,e.2.2)) cl ro
 | .dead=>.dead
theorem zY{s:Nat→Nat}:∀ v b,mv2 s v = .map (some b)→∃ c,v = .map (some c):=by
 intro v b h;cases v with
 | map a=>cases a with
   | none=>cases h
   | some c=>exact ⟨c,rfl⟩
 | pointer a=>cases a <;> cases h
 | slice a l c=>cases a <;> cases h
 | _=>cases h
def PS(m:BM)(h:HG)(m2:BM)(h2:HG)(s:Nat→Nat):Prop :=
 ∀ b (Q:Prop),(h b=some .dead∨Q)→h2 (s b)=some .dead∨(Q∧m2 (s b)=m b)
section
variable {m m2:BM} {h h2:HG} {s:Nat→Nat}
theorem PS.one(pt:PS m h m2 h2 s){v v':Value}(r:ah m h v v')(hv:nice1 v=true):ah m2 h2 (mv1 s v) v':=by
 cases r with
 | flat hf =>
   have:mv1 s v=v:=by cases v with
     | pointer a=>cases a <;> first | rfl | (simp [AI.flat] at hf)
     | slice a l c=>cases a <;> first | rfl | (simp [AI.flat] at hf)
     | map a=>cases a <;> first | rfl | (simp [AI.flat] at hf)
     | _=>rfl
   rw [this]; exact .flat hf
 | ptr h1 =>
   rcases pt _ _ h1 with h | ⟨⟨δ,E,q1,q2⟩,e⟩
   ·exact .ptr (.inl h)
   ·exact .ptr (.inr ⟨δ,E,by rw [e]; exact q1,q2⟩)
 | slice h0 h1 =>
   rcases pt _ _ h1 with h | ⟨⟨δ,E,q1,q2⟩,e⟩
   ·exact .slice h0 (.inl h)
   ·exact .slice h0 (.inr ⟨δ,E,by rw [e]; exact q1,q2⟩)
 | blind h1=>exact .blind h1
 | blind0=>exact .blind0
 | junk h1=>exact .junk h1
 | map h1 =>
   rcases pt _ _ h1 with h | ⟨⟨x,q1⟩,e⟩
   ·exact .map (.inl h)
   ·exact .map (.inr ⟨x,by rw [e]; exact q1⟩)
 | func _ _ _ _=>cases hv
 | agg _ _=>cases hv
 | tuple _ _=>cases hv
theorem PS.two(pt:PS m h m2 h2 s){v v':Value}(r:ah m h v v')(hv:ok2 v=true):ah m2 h2 (mv2 s v) v':=by
 cases v with
 | agg cs =>
   obtain ⟨a',rfl,h1,h2⟩:=r.gZ;refine .agg (by simpa using h1) fun i x x' q1 q2=>?_
   simp only [Array.getElem?_map,Option.map_eq_some_iff] at q1
   obtain ⟨y,hy,rfl⟩:=q1;exact pt.one (h2 i y x' hy q2) (List.all_eq_true.1 hv y (Array.mem_toList_iff.2 (Array.mem_of_getElem? hy)))
 | func fn x y =>
   cases r with
   | flat hf=>simp [AI.flat] at hf
   | func h1 h2 h3 h4 =>
     have hv':=Bool.and_eq_true_iff.1 hv
     refine .func (by simpa using h1) (fun i u u' q1 q2=>?_) (by simpa using h3) (fun i u u' q1 q2=>?_)
     ·simp only [Array.getElem?_map,Option.map_eq_some_iff] at q1
      obtain ⟨z,hz,rfl⟩:=q1;exact pt.one (h2 i z u' hz q2) (List.all_eq_true.1 hv'.1 z (Array.mem_toList_iff.2 (Array.mem_of_getElem? hz)))
     ·simp only [Array.getElem?_map,Option.map_eq_some_iff] at q1
      obtain ⟨z,hz,rfl⟩:=q1;exact pt.one (h4 i z u' hz q2) (List.all_eq_true.1 hv'.2 z (Array.mem_toList_iff.2 (Array.mem_of_getElem? hz)))
 | tuple cs=>cases hv
 | _=>exact pt.one r hv
theorem PS.three(pt:PS m h m2 h2 s){v v':Value}(r:ah m h v v')(hv:gz v=true):ah m2 h2 (mv3 s v) v':=by
 cases v with
 | tuple cs =>
   obtain ⟨a',rfl,h1,h2⟩:=r.kC;refine .tuple (by simpa using h1) fun i x x' q1 q2=>?_
   simp only [Array.getElem?_map,Option.map_eq_some_iff] at q1
   obtain ⟨y,hy,rfl⟩:=q1;exact pt.two (h2 i y x' hy q2) (List.all_eq_true.1 hv y (Array.mem_toList_iff.2 (Array.mem_of_getElem? hy)))
 | _=>exact pt.two r hv
theorem PS.yK(pt:PS m h m2 h2 s){vs vs':List Value}(r:aC m h vs vs')(hv:vs.all gz=true):aC m2 h2 (vs.map (mv3 s)) vs':=by
 refine ⟨by simpa using r.1,fun i v v' q1 q2=>?_⟩
 simp only [List.getElem?_map,Option.map_eq_some_iff] at q1
 obtain ⟨y,hy,rfl⟩:=q1;exact pt.three (r.2 i y v' hy q2) (List.all_eq_true.1 hv y (List.mem_of_getElem? hy))
theorem PS.GW(pt:PS m h m2 h2 s){w:World}{x:Nat×Nat×Nat}{o:ae}(r:BRel m h w x o)(ho:cZ o=true):BRel m2 h2 w x (mvB s o):=by
 cases o with
 | cells ty cs ro =>
   obtain ⟨cc,fr,g1,g2,g3,g4,g5⟩:=r;refine ⟨cc,fr,g1,by simpa using g2,g3,fun i v v' q1 q2=>?_,g5.1,fun hr hk=>g5.2 hr (eZ zY hk)⟩
   simp only [List.getElem?_map,Option.map_eq_some_iff] at q1
   obtain ⟨z,hz,rfl⟩:=q1;exact pt.two (g4 i z v' hz q2) (List.all_eq_true.1 ho z (List.mem_of_getElem? hz))
 | map es cl ro =>
   obtain ⟨fs,g1,g2,g3⟩:=r;refine ⟨fs,g1,by simpa using g2,fun i e ff q1 q2=>?_⟩
   simp only [List.getElem?_map,Option.map_eq_some_iff] at q1
   obtain ⟨z,hz,rfl⟩:=q1;obtain ⟨p1,p2,p3,p4⟩:=g3 i z ff hz q2;exact ⟨p1,p2,pt.two p3 (List.all_eq_true.1 ho z (List.mem_of_getElem? hz)),p4⟩
 | dead=>trivial
end
def jD:Value→List Nat
 | .pointer (some a)=>[a.block]
 | .slice (some a) _ _=>[a.block]
 | .map (some b)=>[b]
 | _=>[]
def j7:Value→List Nat
 | .func _ a b=>(a.toList++b.toList).flatMap jD
 | .agg cs=>cs.toList.flatMap jD
 | v=>jD v
def Qd:ae→List Nat
 | .cells _ cs _=>cs.flatMap j7
 | .map es _ _=>es.flatMap fun e=>j7 e.2.1
 | .dead=>[]
inductive sf (args:List Value) (hp:Hp):Nat→Prop where
 | arg {v:Value} {b:Nat}:v∈args→b∈j7 v→sf args hp b
 | GW {b c:Nat} {o:ae}:sf args hp b→hp.get b=some o→c∈Qd o→sf args hp c
section
variable {m:BM} {h:HG}
theorem ah.jD{v v':Value}(r:ah m h v v'){b:Nat}(hb:b∈AI.jD v):h b=some .dead∨∃ x,m b=some x:=by
 cases r with
 | ptr h1 =>
   simp only [AI.jD,List.mem_singleton] at hb;subst hb;rcases h1 with h1 | ⟨δ,E,h1,_⟩
   ·exact .inl h1
   ·exact .inr ⟨_,h1⟩
 | slice h0 h1 =>
   simp only [AI.jD,List.mem_singleton] at hb;subst hb;rcases h1 with h1 | ⟨δ,E,h1,_⟩
   ·exact .inl h1
   ·exact .inr ⟨_,h1⟩
 | map h1 =>
   simp only [AI.jD,List.mem_singleton] at hb;subst hb;rcases h1 with h1 | ⟨x,h1⟩
   ·exact .inl h1
   ·exact .inr ⟨_,h1⟩
 | flat hf =>
   cases v with
   | pointer a=>cases a with
     | none=>cases hb
     | some a=>simp [AI.flat] at hf
   | slice a l c=>cases a with
     | none=>cases hb
     | some a=>simp [AI.flat] at hf
   | map a=>cases a with
     | none=>cases hb
     | some a=>simp [AI.flat] at hf
   | _=>cases hb
 | _=>cases hb
theorem iS.Qc{a a':Array Value}(r:iS m h a a'){b:Nat}(hb:b∈a.toList.flatMap AI.jD):h b=some .dead∨∃ x,m b=some x:=by
 obtain ⟨v,hv,hb⟩:=List.mem_flatMap.1 hb;obtain ⟨i,hi⟩:=List.getElem?_of_mem hv
 have hi':a[i]? = some v:=by simpa using hi
 have hlt:i<a'.size:=by
  have:=(Array.getElem?_eq_some_iff.1 hi').1
  have:=r.1
  omega
 exact ah.jD (r.2 i v _ hi' (Array.getElem?_eq_getElem hlt)) hb
theorem ah.j7{v v':Value}(r:ah m h v v'){b:Nat}(hb:b∈AI.j7 v):h b=some .dead∨∃ x,m b=some x:=by
 cases v with
 | agg cs =>
   obtain ⟨a',rfl,h1⟩:=r.gZ;exact h1.Qc hb
 | func f x y =>
   cases r with
   | flat hf=>simp [AI.flat] at hf
   | func h1 h2 h3 h4 =>
     rw [AI.j7,List.flatMap_append,List.mem_append] at hb;rcases hb with hb | hb
     ·exact iS.Qc ⟨h1,h2⟩ hb
     ·exact iS.Qc ⟨h3,h4⟩ hb
 | _=>exact r.jD hb
theorem BRel.Qc{w:World}{x:Nat×Nat×Nat}{o:ae}(r:BRel m h w x o){b:Nat}(hb:b∈Qd o):h b=some .dead∨∃ x,m b=some x:=by
 cases o with
 | cells ty cs ro =>
   obtain ⟨cc,fr,g1,g2,g3,g4,g5⟩:=r;obtain ⟨v,hv,hb⟩:=List.mem_flatMap.1 hb;obtain ⟨i,hi⟩:=List.getElem?_of_mem hv
   have hlt:i<cs.length:=(List.getElem?_eq_some_iff.1 hi).1
   exact ah.j7 (g4 i v _ hi (Array.getElem?_eq_getElem (by omega))) hb
 | map es cl ro =>
   obtain ⟨fs,g1,g2,g3⟩:=r;obtain ⟨e,he,hb⟩:=List.mem_flatMap.1 hb;obtain ⟨i,hi⟩:=List.getElem?_of_mem he
   have hlt:i<es.length:=(List.getElem?_eq_some_iff.1 hi).1
   exact ah.j7 (g3 i e _ hi (Array.getElem?_eq_getElem (by omega))).2.2.1 hb
 | dead=>cases hb
theorem sf.has{args:List Value}{hp:Hp}(hk:hp.ok){w:World}{args':List Value}(s:cd m (aL hp h) w)(ra:aC m (aL hp h) args args'){b:Nat}(r:sf args hp b):aL hp h b=some .dead∨∃ x,m b=some x:=by
 induction r with
 | arg hv hb =>
   obtain ⟨i,hi⟩:=List.getElem?_of_mem hv
   have hlt:i<args'.length:=by
     have:=(List.getElem?_eq_some_iff.1 hi).1
     have:=ra.1
     omega
   exact ah.j7 (ra.2 i _ _ hi (List.getElem?_eq_getElem hlt)) hb
 | @GW b c o _ hg hc ih =>
   have ho:=bu hk h b o hg
   rcases ih with hd | ⟨x,hx⟩
   ·rw [ho] at hd; cases hd; cases hc
   ·obtain ⟨o',ho',hbr⟩:=s.dom b x hx
    rw [ho] at ho'; cases ho';exact hbr.Qc hc
end
abbrev Ks:=List (Option (Nat×Bool))
def eD(o:ae)(wr:Bool):ae:=bif wr then o else roBlk o
def posO(b:Nat):Ks→Nat→Option Nat
 | [],_=>none
 | none::K,i=>posO b K (i+1)
 | some (c,_)::K,i=>match Nat.beq c b with
   | true=>some i
   | false=>posO b K (i+1)
theorem lv{b:Nat}:∀ {K:Ks} {i j:Nat},posO b K i=some j→∃ k wr,j=i+k∧K[k]? = some (some (b,wr))
 | [],i,j,h=>by cases h
 | none::K,i,j,h=>by
   obtain ⟨k,wr,rfl,hk⟩:=lv (K:=K) (i:=i+1) h;exact ⟨k+1,wr,by omega,by simpa using hk⟩
 | some (c,w)::K,i,j,h=>by
   unfold posO at h;split at h
   ·rename_i hb
    cases h;exact ⟨0,w,rfl,by rw [Nat.eq_of_beq_eq_true hb]; rfl⟩
   ·obtain ⟨k,wr,rfl,hk⟩:=lv (K:=K) (i:=i+1) h
    exact ⟨k+1,wr,by omega,by simpa using hk⟩
def fV(K0:Ks)(b:Nat):Nat:=(posO b K0 0).getD K0.length
def pinB(K0:Ks)(hp:Hp):Option (Nat×Bool)→ae
 | some (b,wr)=>eD (mvB (fV K0) ((hp.get b).getD .dead)) wr
 | none=>.dead
def di(K0:Ks)(hp:Hp):Hp:=heapOf (K0.map (pinB K0 hp) ++ [.dead]) aE
def canO(m:BM)(K0:Ks):BM:=fun i=>match K0[i]? with
 | some (some (b,_))=>m b
 | _=>none
def dz(K0:Ks):Prop:=∀ (i j b:Nat) (wr wr':Bool),K0[i]? = some (some (b,wr))→K0[j]? = some (some (b,wr'))→i=j
def putO:Ks→List ae→Hp→Hp
 | [],_,h=>h
 | _::_,[],h=>h
 | some (b,true)::K,o::O,h=>putO K O (h.put b o)
 | some (_,false)::K,_::O,h=>putO K O h
 | none::K,_::O,h=>putO K O h
abbrev Kw:=List (Option Nat)
def posN(b:Nat):Kw→Nat→Option Nat
 | [],_=>none
 | none::K,i=>posN b K (i+1)
 | some c::K,i=>match Nat.beq c b with
   | true=>some i
   | false=>posN b K (i+1)
theorem lu{b:Nat}:∀ {K:Kw} {i j:Nat},posN b K i=some j→∃ k,j=i+k∧K[k]? = some (some b)
 | [],i,j,h=>by cases h
 | none::K,i,j,h=>by
   obtain ⟨k,rfl,hk⟩:=lu (K:=K) (i:=i+1) h;exact ⟨k+1,by omega,by simpa using hk⟩
 | some c::K,i,j,h=>by
   unfold posN at h;split at h
   ·rename_i hb
    cases h;exact ⟨0,rfl,by rw [Nat.eq_of_beq_eq_true hb]; rfl⟩
   ·obtain ⟨k,rfl,hk⟩:=lu (K:=K) (i:=i+1) h
    exact ⟨k+1,by omega,by simpa using hk⟩
def gW(K:Kw):Prop:=∀ (i j c:Nat),K[i]? = some (some c)→K[j]? = some (some c)→i=j
def sgE(K0:Ks)(K:Kw)(B:Nat)(b:Nat):Nat:=match posN b K 0 with
 | some j=>B+j
 | none=>match K0[b]? with
   | some (some (c,_))=>c
   | _=>B+K.length
def Cf(K0:Ks)(O:List ae)(K:Kw):Prop:=∀ c,some c∈K→K0.length≤c∨∃ b,K0[c]? = some (some (b,true))∧O[c]? = some .dead
def joinN(m m':BM)(K:Kw)(B:Nat):BM:=fun b=>if B≤b∧b≤B+K.length then (match K[b-B]? with | some (some c)=>m' c | _=>none) else m b
theorem iG:∀ (K:Ks) (O:List ae) (h:Hp),(putO K O h).sz=h.sz
 | [],_,h=>by cases ‹List ae› <;> rfl
 | _::_,[],h=>by unfold putO; rfl
 | some (b,true)::K,o::O,h=>by rw [putO,iG,Hp.kL]
 | some (_,false)::K,_::O,h=>by rw [putO,iG]
 | none::K,_::O,h=>by rw [putO,iG]
theorem gA{b:Nat}:∀ {K:Ks} {O:List ae} {h:Hp},(∀ i:Nat,K[i]?≠some (some (b,true)))→(putO K O h).get b=h.get b
 | [],_,h,_=>by cases ‹List ae› <;> rfl
 | _::_,[],h,_=>by unfold putO; rfl
 | some (c,true)::K,o::O,h,hm=>by
   rw [putO,gA (fun i=>by have:=hm (i+1); simpa using this),Hp.dv,if_neg (fun e=>hm 0 (by rw [e]; rfl))]
 | some (_,false)::K,_::O,h,hm=>by rw [putO,gA (fun i=>by have:=hm (i+1); simpa using this)]
 | none::K,_::O,h,hm=>by rw [putO,gA (fun i=>by have:=hm (i+1); simpa using this)]
theorem dz.tail{k:Option (Nat×Bool)}{K:Ks}(h:dz (k::K)):dz K:=fun i j b wr wr' h1 h2=>by
 have:=h (i+1) (j+1) b wr wr' (by simpa using h1) (by simpa using h2)
 omega
theorem ji{b:Nat}:∀ {K:Ks} {O:List ae} {h:Hp} {i:Nat} {o:ae},dz K→K[i]? = some (some (b,true))→O[i]? = some o→(putO K O h).get b=some o
 | [],O,h,i,o,_,h1,_=>by simp at h1
 | _::_,[],h,i,o,_,_,h2=>by simp at h2
 | k::K,o'::O,h,i,o,hd,h1,h2=>by
   cases i with
   | zero =>
     have e1:k=some (b,true):=by simpa using h1
     have e2:o'=o:=by simpa using h2
     subst e1 e2;rw [putO,gA (fun i hi=>by have:=hd 0 (i+1) b true true rfl (by simpa using hi); omega),Hp.dv,if_pos rfl]
   | succ i =>
     have h1':K[i]? = some (some (b,true)):=by simpa using h1
     have h2':O[i]? = some o:=by simpa using h2
     match k with
     | some (c,true)=>rw [putO]; exact ji hd.tail h1' h2'
     | some (_,false)=>rw [putO]; exact ji hd.tail h1' h2'
     | none=>rw [putO]; exact ji hd.tail h1' h2'
theorem Iu{K:Ks}{O:List ae}{hp:Hp}(hk:hp.ok)(hl:∀ (i b:Nat),K[i]? = some (some (b,true))→b<hp.sz):(putO K O hp).ok:=fun c hc=>by
 rw [iG] at hc;rw [gA (fun i hi=>by have:=hl i c hi; omega)]
 exact hk c hc
theorem uf{s:Nat→Nat}(o:ae):nT (mvB s o)=nT o:=by cases o <;> rfl
theorem lW{h:HG}{b:Nat}{o:ae}(e:h b=some o):rw? h b=nT o:=by unfold rw?; rw [e]; cases o <;> rfl
theorem fJ{h:HG}{b:Nat}{o:ae}(e:h b=some o):aU h b=true↔o≠.dead:=by
 unfold aU; rw [e];cases o <;> simp
section
variable {P:Program}
theorem Is{m:BM}{h:HG}{w:World}{hp:Hp}{K0:Ks}(s:cd m (aL hp h) w)(hk:hp.ok)(hK:dz K0)(hok:∀ (i b:Nat) (wr:Bool),K0[i]? = some (some (b,wr))→∃ o,hp.get b=some o∧bP o=true) :
  cd (canO m K0) (di K0 hp).get w∧PS m (aL hp h) (canO m K0) (di K0 hp).get (fV K0) ∧
  (∀ i x,canO m K0 i=some x→rw? (di K0 hp).get i=true→∃ b,K0[i]? = some (some (b,true))∧m b=some x∧rw? (aL hp h) b=true):=by
 have hget:∀ b,(di K0 hp).get b=(K0.map (pinB K0 hp) ++ [ae.dead])[b]?:=fun b=>al _ b
 have hD:(di K0 hp).get K0.length=some .dead:=by rw [hget]; simp
 have hblk:∀ (i b:Nat) (wr:Bool),K0[i]? = some (some (b,wr))→∃ o,aL hp h b=some o∧bP o=true∧(di K0 hp).get i=some (eD (mvB (fV K0) o) wr)∧canO m K0 i=m b:=by
  intro i b wr hi;obtain ⟨o,h1,h2⟩:=hok i b wr hi;refine ⟨o,bu hk h b o h1,h2,?_,by unfold canO; rw [hi]⟩
  have hlt:i<K0.length:=(List.getElem?_eq_some_iff.1 hi).1
  rw [hget,List.getElem?_append_left (by simpa using hlt),List.getElem?_map,hi]
  simp [pinB,h1]
 have pt:PS m (aL hp h) (canO m K0) (di K0 hp).get (fV K0):=by
  intro b Q hq;unfold fV;cases hi:posO b K0 0 with
  | none=>exact .inl hD
  | some j =>
    obtain ⟨k,wr,rfl,hk⟩:=lv hi;simp only [Nat.zero_add,Option.getD_some];obtain ⟨o,h1,_,h2,h3⟩:=hblk k b wr hk;rcases hq with hq | hq
    ·rw [hq] at h1; cases h1
     left; rw [h2]; cases wr <;> rfl
    ·exact .inr ⟨hq,h3⟩
 have hcan:∀ i x,canO m K0 i=some x→∃ b wr,K0[i]? = some (some (b,wr))∧m b=some x:=by
  intro i x hx;unfold canO at hx;split at hx
  ·rename_i b wr hb; exact ⟨b,wr,hb,hx⟩
  ·cases hx
 have hrw:∀ i x,canO m K0 i=some x→rw? (di K0 hp).get i=true→∃ b,K0[i]? = some (some (b,true))∧m b=some x∧rw? (aL hp h) b=true:=by
  intro i x hx hr;obtain ⟨b,wr,hb,hm⟩:=hcan i x hx;obtain ⟨o,h1,h2,h3,_⟩:=hblk i b wr hb;rw [lW h3] at hr;cases wr with
  | false=>exfalso; revert hr; unfold eD; cases o <;> simp [mvB,roBlk,nT]
  | true=>exact ⟨b,hb,hm,by rw [lW h1]; simpa [eD,uf] using hr⟩
 refine ⟨⟨fun i x hx=>?_,fun i j x x' hx hx' hr hl hxx=>?_⟩,pt,hrw⟩
 ·obtain ⟨b,wr,hb,hm⟩:=hcan i x hx
  obtain ⟨o,h1,h2,h3,_⟩:=hblk i b wr hb;refine ⟨_,h3,?_⟩
  obtain ⟨o',ho',hbr⟩:=s.dom b x hm;rw [h1] at ho'; cases ho';have h2':cZ o=true:=by
    cases o with
    | cells ty cs ro=>exact (Bool.and_eq_true_iff.1 h2).1
    | map=>exact h2
    | dead=>rfl
  have q:=pt.GW hbr h2'
  cases wr with
  | true=>exact q
  | false =>
    cases o with
    | cells ty cs ro =>
      obtain ⟨cc,fr,g1,g2,g3,g4,g5⟩:=q;refine ⟨cc,fr,g1,g2,g3,g4,(fun hr=>by cases hr),fun _ hkb=>?_⟩
      have hk':=eZ zY hkb
      obtain ⟨_,k2⟩:=Bool.and_eq_true_iff.1 h2;rw [hk'] at k2;have hr:ro=true:=by simpa using k2
      exact g5.2 hr hkb
    | map es cl ro=>exact q
    | dead=>trivial
 ·obtain ⟨b,hb,hm,hrb⟩:=hrw i x hx hr
  obtain ⟨b',wr',hb',hm'⟩:=hcan j x' hx';obtain ⟨o',h1',_,h3',_⟩:=hblk j b' wr' hb';have hl':aU (aL hp h) b'=true:=by
    rw [fJ h1'];intro e; subst e;rw [fJ h3'] at hl;apply hl
    cases wr' <;> rfl
  have:=s.inj b b' x x' hm hm' hrb hl' hxx
  subst this;exact hK i j b true wr' hb hb'
theorem L8{w0:World}{S:Nat→Prop}{z:Nat}{X:fj}{f:FuncId}{fn:Func}{c:Code}{args:List Value}{args':Array Value}{hp:Hp}{m:BM}{R:Value→St→Prop}(hf:P.funcs[f]? = some fn)(hb:fn.body=some c)(hn:args.length≤fn.ntmps)(hk:hp.ok)
  (s:cd m hp.get w0) (h0:∀ i,i<z→∀ x,X i=some x→m i=some x) (ro:∀ b y,m b=some y→rw? hp.get b=true→S y.1) (r:aC m hp.get args args'.toList)
  (h:bh P fn.ntmps ⟨w0,S⟩ z X c ⟨tmsOf args 0 .leaf,hp,[]⟩ fun e st=>(e = .normal∨e = .ret)∧st.df = []∧∃ v,retVal P fn st=some v∧R v st) :
  Calls P f args' w0 fun e w'=>∃ v' v st' m',e = .returned v'∧R v st'∧ah m' st'.hp.get v v'∧cd m' st'.hp.get w'∧gF ⟨w0,S⟩ w'∧(∀ b x,m' b=some x→rw? st'.hp.get b=true→w0.heap.size≤x.1∨S x.1) ∧
    (∀ i,i<z→∀ x,X i=some x→st'.hp.get i=some .dead∨m' i=some x):=by
 refine calls_of_wp hf hb (wp_mono (h _ w0 m ⟨⟨hk,⟨by rw [cz hk]; exact s,by rw [cz hk]; exact mL r hn,.nil⟩,gF.refl _ _,fun b y hx hr=>.inr (ro b y hx hr)⟩,fun i hi x hx=>.inr (h0 i hi x hx)⟩) fun e a' w' hh=>?_)
 obtain ⟨st',m',f',q1,q2,v,q3,q4⟩:=hh;have hd:a'.defers = []:=by
  have:=f'.fr.rel.df
  rw [q2] at this;exact this.of_nil
 obtain ⟨v',h1,h2⟩:=fp f'.fr.ok f'.fr.rel.sim f'.fr.rel.tm q3;have e1:=cz f'.fr.ok
 have hs:=f'.fr.rel.sim
 rw [e1] at h2 hs;rcases q1 with rfl | rfl
 ·exact ⟨hd,v',h1,v',v,st',m',rfl,q4,h2,hs,f'.fr.below,f'.fr.own,f'.pin⟩
 ·exact ⟨hd,v',h1,v',v,st',m',rfl,q4,h2,hs,f'.fr.below,f'.fr.own,f'.pin⟩
structure rN (K0:Ks) (K:Kw) (B:Nat) (O Nw:List ae) (v v0:Value) (h g:HG):Prop where
 val:v=mv3 (sgE K0 K B) v0
 wr:∀ (i b:Nat),K0[i]? = some (some (b,true))→∃ o,h i=some o∧cZ o=true∧(O[i]? = some (mvB (sgE K0 K B) o)∨O[i]? = some .dead)
 ro:∀ (i b:Nat),K0[i]? = some (some (b,false))→h i=some .dead→g b=some .dead
 nw:∀ (j c:Nat),K[j]? = some (some c)→∃ o,h c=some o∧cZ o=true∧nT o=true∧Nw[j]? = some (mvB (sgE K0 K B) o)
set_option maxHeartbeats 4000000 in
theorem D7{m m':BM}{hp hpR:Hp}{h:HG}{w w':World}{K0:Ks}{K:Kw}{O Nw:List ae}{v v0 v':Value}(hk:hp.ok)(s:cd m (aL hp h) w)(hsim:cd m' hpR.get w')(hK0:dz K0)(inj:gW K)(hge:Cf K0 O K)
  (hlive0:∀ (i b:Nat) (wr:Bool),K0[i]? = some (some (b,wr))→∃ o,hp.get b=some o∧(o = .dead∧wr=false∨o≠.dead∧∃ x,m b=some x)) (hNw:Nw.length=K.length)
  (kp:gF ⟨w,fun r=>∃ (i b:Nat) (x:Nat×Nat×Nat),K0[i]? = some (some (b,true))∧m b=some x∧rw? (aL hp h) b=true∧x.1=r⟩ w')
  (own:∀ b x,m' b=some x→rw? hpR.get b=true→w.heap.size≤x.1∨∃ (i b:Nat) (x':Nat×Nat×Nat),K0[i]? = some (some (b,true))∧m b=some x'∧rw? (aL hp h) b=true∧x'.1=x.1)
  (pin:∀ i,i<K0.length→∀ x,canO m K0 i=some x→hpR.get i=some .dead∨m' i=some x) (hfr:∀ b,hp.sz≤b→b≤hp.sz+K.length→h b=none)
  (E:rN K0 K hp.sz O Nw v v0 hpR.get hp.get) (rv:ah m' hpR.get v0 v') (hok1:gz v0=true) :
  dT m (aL hp h) w (joinN m m' K hp.sz) (aL (heapOf (Nw ++ [.dead]) (putO K0 O hp)) h) w'∧ah (joinN m m' K hp.sz) (aL (heapOf (Nw ++ [.dead]) (putO K0 O hp)) h) v v':=by
 have hsz':(heapOf (Nw ++ [.dead]) (putO K0 O hp)).sz=hp.sz+(K.length+1):=by rw [cm,iG]; simp [hNw]
 have hov:∀ b,aL (heapOf (Nw ++ [.dead]) (putO K0 O hp)) h b=if hp.sz≤b∧b≤hp.sz+K.length then (Nw ++ [ae.dead])[b-hp.sz]? else if b<hp.sz then (putO K0 O hp).get b else h b:=by
  intro b;unfold aL;rw [hsz',heapOf_get,iG];by_cases h1:b<hp.sz
  ·rw [if_pos (by omega),if_pos h1,if_neg (by omega),if_pos h1]
  ·by_cases h2:b≤hp.sz+K.length
   ·rw [if_pos (by omega),if_neg h1,if_pos ⟨by omega,h2⟩]
    have:b-hp.sz<(Nw ++ [ae.dead]).length:=by simp [hNw]; omega
    rw [List.getElem?_eq_getElem this]
   ·rw [if_neg (by omega),if_neg (by omega),if_neg h1]
 have hnone:∀ b,hp.sz≤b→b≤hp.sz+K.length→aL hp h b=none:=by
  intro b h1 h2;unfold aL;rw [if_neg (by omega)]
  exact hfr b h1 h2
 have hmn:∀ b,hp.sz≤b→b≤hp.sz+K.length→m b=none:=by
  intro b h1 h2;cases e:m b with
  | none=>rfl
  | some x=>obtain ⟨o,ho,_⟩:=s.dom b x e; rw [hnone b h1 h2] at ho; cases ho
 have hlive:∀ (i b:Nat),K0[i]? = some (some (b,true))→(∃ o,hp.get b=some o∧o≠.dead)∧∃ x,m b=some x:=by
  intro i b hi;obtain ⟨o,ho,h | h⟩:=hlive0 i b true hi
  ·cases h.2
  ·exact ⟨⟨o,ho,h.1⟩,h.2⟩
 have hlt:∀ (i b:Nat) (wr:Bool),K0[i]? = some (some (b,wr))→b<hp.sz:=by
  intro i b wr hi;obtain ⟨o,ho,_⟩:=hlive0 i b wr hi;exact cU hk ho
 have hj:∀ b,joinN m m' K hp.sz b=if hp.sz≤b∧b≤hp.sz+K.length then (match K[b-hp.sz]? with | some (some c)=>m' c | _=>none) else m b:=fun _=>rfl
 have hD:aL (heapOf (Nw ++ [.dead]) (putO K0 O hp)) h (hp.sz+K.length)=some .dead:=by
  rw [hov,if_pos (by omega),show hp.sz+K.length-hp.sz=Nw.length by omega]; simp
 have hold:∀ b,b<hp.sz→joinN m m' K hp.sz b=m b:=fun b hb=>by rw [hj,if_neg (by omega)]

 have hnew:∀ (j c:Nat),K[j]? = some (some c)→∃ o,hpR.get c=some o∧cZ o=true∧nT o=true∧aL (heapOf (Nw ++ [.dead]) (putO K0 O hp)) h (hp.sz+j)=some (mvB (sgE K0 K hp.sz) o)∧joinN m m' K hp.sz (hp.sz+j)=m' c:=by
  intro j c hc;have hjl:j<K.length:=(List.getElem?_eq_some_iff.1 hc).1
  obtain ⟨o,h1,h2,h3,h4⟩:=E.nw j c hc;refine ⟨o,h1,h2,h3,?_,?_⟩
  ·rw [hov,if_pos (by omega),show hp.sz+j-hp.sz=j by omega,List.getElem?_append_left (by omega),h4]
  ·rw [hj,if_pos (by omega),show hp.sz+j-hp.sz=j by omega,hc]
 have hhit:∀ (i b:Nat),K0[i]? = some (some (b,true))→∃ o,hpR.get i=some o∧cZ o=true∧(aL (heapOf (Nw ++ [.dead]) (putO K0 O hp)) h b=some (mvB (sgE K0 K hp.sz) o)∨aL (heapOf (Nw ++ [.dead]) (putO K0 O hp)) h b=some .dead):=by
  intro i b hi;obtain ⟨o,h1,h2,h3⟩:=E.wr i b hi;have:=hlt i b true hi
  refine ⟨o,h1,h2,?_⟩
  rcases h3 with h3 | h3
  ·exact .inl (by rw [hov,if_neg (by omega),if_pos this,ji hK0 hi h3])
  ·exact .inr (by rw [hov,if_neg (by omega),if_pos this,ji hK0 hi h3])
 have hgone:∀ (c b:Nat),K0[c]? = some (some (b,true))→some c∈K→aL (heapOf (Nw ++ [.dead]) (putO K0 O hp)) h b=some .dead:=by
  intro c b hc hm;have hl:=(List.getElem?_eq_some_iff.1 hc).1
  rcases hge c hm with h | ⟨b2,h1,h2⟩
  ·omega
  ·rw [hc] at h1
   cases h1;have:=hlt c b true hc
   rw [hov,if_neg (by omega),if_pos this,ji hK0 hc h2]
 have hmiss:∀ b,¬ (hp.sz≤b∧b≤hp.sz+K.length)→(∀ i:Nat,K0[i]?≠some (some (b,true)))→aL (heapOf (Nw ++ [.dead]) (putO K0 O hp)) h b=aL hp h b:=by
  intro b h1 h2;rw [hov,if_neg h1];unfold aL;split
  ·rw [gA h2]
  ·rfl
 have hcan:∀ (i b:Nat) (wr:Bool),K0[i]? = some (some (b,wr))→canO m K0 i=m b:=fun i b wr hi=>by unfold canO; rw [hi]
 have hpin:∀ (i b:Nat) (wr:Bool),K0[i]? = some (some (b,wr))→(∃ x,m b=some x)→hpR.get i=some .dead∨m' i=m b:=by
  rintro i b wr hi ⟨x,hx⟩;rcases pin i (List.getElem?_eq_some_iff.1 hi).1 x (by rw [hcan i b wr hi,hx]) with h | h
  ·exact .inl h
  ·exact .inr (by rw [h,hx])
 have pt:PS m' hpR.get (joinN m m' K hp.sz) (aL (heapOf (Nw ++ [.dead]) (putO K0 O hp)) h) (sgE K0 K hp.sz):=by
  intro c Q hq;unfold sgE;split
  ·rename_i j hi
   obtain ⟨k,rfl,hk⟩:=lu hi;simp only [Nat.zero_add];obtain ⟨o,h1,_,_,h2,h3⟩:=hnew k c hk;rcases hq with hq | hq
   ·rw [hq] at h1; cases h1; exact .inl h2
   ·exact .inr ⟨hq,h3⟩
  split
  ·rename_i b wr hc
   have hb:=hlt c b wr hc
   cases wr with
   | true =>
     obtain ⟨o,h1,_,h3⟩:=hhit c b hc;rcases h3 with h3 | h3
     ·rcases hq with hq | hq
      ·rw [hq] at h1; cases h1; exact .inl h3
      ·rcases hpin c b true hc (hlive c b hc).2 with h | h
       ·rw [h] at h1; cases h1; exact .inl h3
       ·exact .inr ⟨hq,by rw [hold b hb,h]⟩
     ·exact .inl h3
   | false =>
     obtain ⟨o,ho,hd⟩:=hlive0 c b false hc;have hG:aL (heapOf (Nw ++ [.dead]) (putO K0 O hp)) h b=some o:=by
       rw [hmiss b (by omega) fun i hi=>by have:=hK0 i c b true false hi hc; subst this; rw [hi] at hc; cases hc]
       exact bu hk h b o ho
     have hdd:hpR.get c=some .dead→aL (heapOf (Nw ++ [.dead]) (putO K0 O hp)) h b=some .dead:=fun h=>by
       have:=E.ro c b hc h
       rw [ho] at this; cases this;exact hG
     rcases hd with ⟨rfl,_⟩ | ⟨_,hx⟩
     ·exact .inl hG
     ·rcases hq with hq | hq
      ·exact .inl (hdd hq)
      ·rcases hpin c b false hc hx with h | h
       ·exact .inl (hdd h)
       ·exact .inr ⟨hq,by rw [hold b hb,h]⟩
  ·exact .inl hD
 have hwmiss:∀ b x,m b=some x→aU (aL hp h) b=true→(∀ i:Nat,K0[i]?≠some (some (b,true)))→¬ ∃ (i b2:Nat) (x2:Nat×Nat×Nat),K0[i]? = some (some (b2,true))∧m b2=some x2∧rw? (aL hp h) b2=true∧x2.1=x.1:=by
  rintro b x hx hl hm ⟨i,b2,x2,q1,q2,q3,q4⟩;have:=s.inj b2 b x2 x q2 hx q3 hl q4
  subst this;exact hm i q1
 have hle:Le m (aL hp h) (joinN m m' K hp.sz) (aL (heapOf (Nw ++ [.dead]) (putO K0 O hp)) h):=by
  constructor
  ·intro b hb
   by_cases hr:hp.sz≤b∧b≤hp.sz+K.length
   ·rw [hnone b hr.1 hr.2] at hb; cases hb
   ·rw [hmiss b hr fun i hi=>?_]
    ·exact hb
    ·obtain ⟨⟨o,ho,hne⟩,_⟩:=hlive i b hi
     rw [bu hk h b o ho] at hb;cases hb; exact hne rfl
  ·intro b y hb
   refine .inr ?_
   rw [hj];split
   ·rename_i hc; rw [hmn b hc.1 hc.2] at hb; cases hb
   ·exact hb
 refine ⟨⟨hle,⟨?_,?_⟩,kp.size,?_,fun k hk' hn=>kp.block k hk' (fun ⟨i,b,x,q1,q2,q3,q4⟩=>hn b x q2 q3 q4),?_,?_,?_,?_,kp.os,kp.tape,kp.output⟩,by rw [E.val]; exact pt.three rv hok1⟩
 ·
  intro b x hx;rw [hj] at hx;split at hx
  ·rename_i hc
   split at hx
   ·rename_i c hcK
    obtain ⟨o,h1,h2,_,h3,_⟩:=hnew _ c hcK;rw [show hp.sz+(b-hp.sz)=b by omega] at h3
    obtain ⟨o',ho',hbr⟩:=hsim.dom c x hx;rw [h1] at ho'; cases ho';exact ⟨_,h3,pt.GW hbr h2⟩
   ·cases hx
  ·rename_i hc
   by_cases hh:∃ i:Nat,K0[i]? = some (some (b,true))
   ·obtain ⟨i,hi⟩:=hh
    obtain ⟨o,h1,h2,h3⟩:=hhit i b hi;rcases h3 with h3 | h3
    case inr=>exact ⟨_,h3,trivial⟩
    refine ⟨_,h3,?_⟩
    rcases hpin i b true hi (hlive i b hi).2 with h | h
    ·rw [h] at h1; cases h1; trivial
    ·obtain ⟨o',ho',hbr⟩:=hsim.dom i x (by rw [h,hx])
     rw [h1] at ho'; cases ho';exact pt.GW hbr h2
   ·have hm:∀ i:Nat,K0[i]?≠some (some (b,true)):=fun i hi=>hh ⟨i,hi⟩
    obtain ⟨o,ho,hbr⟩:=s.dom b x hx;refine ⟨o,by rw [hmiss b hc hm]; exact ho,?_⟩
    by_cases hd:o = .dead
    ·subst hd; trivial
    ·have hl:=(fJ ho).2 hd
     refine hbr.mono hle (kp.block _ (s.lt hx hl) ?_)
     rintro ⟨i,b2,x2,q⟩;exact hwmiss b x hx hl hm ⟨i,b2,x2,q⟩
 ·
  intro b b' x x' hx hx' hr hl hxx

  have kind:∀ b x,joinN m m' K hp.sz b=some x→aU (aL (heapOf (Nw ++ [.dead]) (putO K0 O hp)) h) b=true →
      (∃ c o,hpR.get c=some o∧o≠.dead∧m' c=some x∧rw? (aL (heapOf (Nw ++ [.dead]) (putO K0 O hp)) h) b=nT o∧((∃ j:Nat,K[j]? = some (some c)∧b=hp.sz+j∧nT o=true)∨(K0[c]? = some (some (b,true))∧m b=some x))) ∨
      ((∀ i:Nat,K0[i]?≠some (some (b,true)))∧m b=some x∧aU (aL hp h) b=true∧rw? (aL (heapOf (Nw ++ [.dead]) (putO K0 O hp)) h) b=rw? (aL hp h) b):=by
    intro b x hx hl;have hx0:=hx
    rw [hj] at hx;split at hx
    ·rename_i hc
     split at hx
     case h_2=>cases hx
     rename_i c hcK;obtain ⟨o,h1,h2,h2',h3,_⟩:=hnew _ c hcK;rw [show hp.sz+(b-hp.sz)=b by omega] at h3
     refine .inl ⟨c,o,h1,fun e=>?_,hx,by rw [lW h3,uf],.inl ⟨_,hcK,by omega,h2'⟩⟩
     subst e; cases h2'
    ·rename_i hc
     by_cases hh:∃ i:Nat,K0[i]? = some (some (b,true))
     ·obtain ⟨i,hi⟩:=hh
      obtain ⟨o,h1,h2,h3⟩:=hhit i b hi;rcases h3 with h3 | h3
      case inr=>exact absurd rfl ((fJ h3).1 hl)
      have hne:o≠.dead:=fun e=>by
        subst e;exact ((fJ h3).1 hl) rfl
      refine .inl ⟨i,o,h1,hne,?_,by rw [lW h3,uf],.inr ⟨hi,hx⟩⟩
      rcases hpin i b true hi (hlive i b hi).2 with h | h
      ·rw [h] at h1; cases h1; exact absurd rfl hne
      ·rw [h,hx]
     ·have hm:∀ i:Nat,K0[i]?≠some (some (b,true)):=fun i hi=>hh ⟨i,hi⟩
      have e:=hmiss b hc hm
      refine .inr ⟨hm,hx,?_,?_⟩
      ·unfold aU at hl ⊢; rw [e] at hl; exact hl
      ·unfold rw?; rw [e]
  have hl0:aU (aL (heapOf (Nw ++ [.dead]) (putO K0 O hp)) h) b=true:=c7 hr
  rcases kind b x hx hl0 with ⟨c,o,h1,h2,h3,h4,h5⟩ | ⟨k1,k2,k3,k4⟩
  ·rw [h4] at hr
   have hrc:rw? hpR.get c=true:=by rw [lW h1]; exact hr
   rcases kind b' x' hx' hl with ⟨c',o',h1',h2',h3',h4',h5'⟩ | ⟨k1',k2',k3',k4'⟩
   ·have:=hsim.inj c c' x x' h3 h3' hrc ((fJ h1').2 h2') hxx
    subst this;rcases h5 with ⟨j,hj1,rfl,_⟩ | ⟨hi,_⟩
    ·rcases h5' with ⟨j',hj1',rfl,_⟩ | ⟨hi',_⟩
     ·rw [inj _ _ _ hj1 hj1']
     ·exact absurd rfl ((fJ (hgone c b' hi' (List.mem_of_getElem? hj1))).1 hl)
    ·rcases h5' with ⟨j',hj1',rfl,_⟩ | ⟨hi',_⟩
     ·exact absurd rfl ((fJ (hgone c b hi (List.mem_of_getElem? hj1'))).1 hl0)
     ·rw [hi] at hi'
      simp only [Option.some.injEq,Prod.mk.injEq] at hi';exact hi'.1
   ·rcases own c x h3 hrc with q | q
    ·have:=s.lt k2' k3'; omega
    ·rw [hxx] at q
     exact absurd q (hwmiss b' x' k2' k3' k1')
  ·rw [k4] at hr
   rcases kind b' x' hx' hl with ⟨c',o',h1',h2',h3',h4',h5'⟩ | ⟨k1',k2',k3',k4'⟩
   ·rcases h5' with ⟨j',hj1',rfl,hrw'⟩ | ⟨hi',hm'⟩
    ·rcases own c' x' h3' (by rw [lW h1']; exact hrw') with q | q
     ·have:=s.lt k2 k3; omega
     ·rw [← hxx] at q
      exact absurd q (hwmiss b x k2 k3 k1)
    ·obtain ⟨⟨ob,hob,hne⟩,_⟩:=hlive c' b' hi'
     have:=s.inj b b' x x' k2 hm' hr ((fJ (bu hk h b' ob hob)).2 hne) hxx
     subst this;exact absurd hi' (k1 c')
   ·exact s.inj b b' x x' k2 k2' hr k3' hxx
 ·intro b x hx
  rw [hj] at hx;split at hx
  ·split at hx
   ·rename_i c hcK
    obtain ⟨o,h1,_,h2,_⟩:=hnew _ c hcK;rcases own c x hx (by rw [lW h1]; exact h2) with q | ⟨i,b2,x2,q1,q2,q3,q4⟩
    ·exact .inr (.inl q)
    ·exact .inr (.inr ⟨b2,x2,q2,q3,q4⟩)
   ·cases hx
  ·exact .inl hx
 ·intro b o ho hm
  rw [hj];split
  ·rename_i hc; rw [hnone b hc.1 hc.2] at ho; cases ho
  ·exact hm
 ·intro b o ho hm
  by_cases hr:hp.sz≤b∧b≤hp.sz+K.length
  ·rw [hnone b hr.1 hr.2] at ho; cases ho
  ·rw [hmiss b hr fun i hi=>?_]
   ·exact ho
   ·obtain ⟨_,x,hx⟩:=hlive i b hi
    rw [hm] at hx; cases hx
 ·intro b o ho
  by_cases hr:hp.sz≤b∧b≤hp.sz+K.length
  ·rw [hnone b hr.1 hr.2] at ho; cases ho
  ·by_cases hh:∃ i:Nat,K0[i]? = some (some (b,true))
   ·obtain ⟨i,hi⟩:=hh
    obtain ⟨o',_,_,h3⟩:=hhit i b hi;rcases h3 with h3 | h3 <;> exact ⟨_,h3⟩
   ·exact ⟨o,by rw [hmiss b hr fun i hi=>hh ⟨i,hi⟩]; exact ho⟩
 ·intro b x hx hr
  obtain ⟨ob,hob,_⟩:=s.dom b x hx;have hnr:¬ (hp.sz≤b∧b≤hp.sz+K.length):=fun hc=>by rw [hnone b hc.1 hc.2] at hob; cases hob
  by_cases hh:∃ i:Nat,K0[i]? = some (some (b,true))
  ·obtain ⟨i,hi⟩:=hh
   obtain ⟨o,h1,h2,h3⟩:=hhit i b hi;rcases h3 with h3 | h3
   case inr=>rw [lW h3] at hr; cases hr
   rw [lW h3,uf] at hr;obtain ⟨⟨o2,ho2,hne⟩,_⟩:=hlive i b hi;have hl:=(fJ (bu hk h b o2 ho2)).2 hne
   rcases hpin i b true hi (hlive i b hi).2 with q | q
   ·rw [q] at h1; cases h1; cases hr
   ·rcases own i x (by rw [q,hx]) (by rw [lW h1]; exact hr) with q | ⟨i2,b2,x2,q1,q2,q3,q4⟩
    ·have:=s.lt hx hl; omega
    ·have:=s.inj b2 b x2 x q2 hx q3 hl q4
     subst this;exact q3
  ·have e:=hmiss b hnr fun i hi=>hh ⟨i,hi⟩
   unfold rw? at hr ⊢;rw [e] at hr; exact hr
theorem jf(hm:P.follows .mixedOrders=true){f:FuncId}{fn:Func}{c:Code}{g:aB}(hf:P.funcs[f]? = some fn)(hb:fn.body=some c)(hnm:(fn.name == "runtime.NumGoroutine")=false)
  (H:∀ args hp v hp',g args hp=some (v,hp')→hp.ok→∃ (K0:Ks) (O Nw:List ae),hp'=heapOf (Nw ++ [.dead]) (putO K0 O hp)∧dz K0 ∧
    (∀ (i b:Nat) (wr:Bool),K0[i]? = some (some (b,wr))→(∃ o,hp.get b=some o∧(wr=true→o≠.dead)∧bP o=true)∧sf args hp b)∧args.all gz=true∧args.length≤fn.ntmps ∧
    ∀ W X,bh P fn.ntmps W K0.length X c ⟨tmsOf (args.map (mv3 (fV K0))) 0 .leaf,di K0 hp,[]⟩ fun e st=>(e = .normal∨e = .ret)∧st.df = []∧∃ v0 K,retVal P fn st=some v0∧gz v0=true∧Nw.length=K.length∧gW K∧Cf K0 O K∧rN K0 K hp.sz O Nw v v0 st.hp.get hp.get):aq P f g:=by
 intro args hp v hp' he hk;obtain ⟨K0,O,Nw,rfl,hK0,hst,hargs,hn,hrun⟩:=H args hp v hp' he hk;have hpo:(putO K0 O hp).ok:=Iu hk fun i b hi=>by
  obtain ⟨⟨o,ho,_⟩,_⟩:=hst i b true hi;exact cU hk ho
 refine ⟨bE _ _ hpo,by rw [cm,iG]; omega,fun m h w args' hfr s ra=>.inr ⟨cA hf (by rw [hb]; rfl) hnm,?_⟩⟩
 obtain ⟨s0,pt,hrw⟩:=Is s hk hK0 (fun i b wr hi=>by
  obtain ⟨⟨o,h1,_,h2⟩,_⟩:=hst i b wr hi;exact ⟨o,h1,h2⟩)
 refine (L8 (S:=fun r=>∃ (i b:Nat) (x:Nat×Nat×Nat),K0[i]? = some (some (b,true))∧m b=some x∧rw? (aL hp h) b=true∧x.1=r) (X:=canO m K0) (z:=K0.length) (R:=fun v0 st=>∃ K,gz v0=true∧Nw.length=K.length∧gW K∧Cf K0 O K∧rN K0 K hp.sz O Nw v v0 st.hp.get hp.get) hf hb (by simpa using hn) (bE _ _ iO) s0 (fun i _ x hx=>hx) (fun i y hy hr=>by
    obtain ⟨b,q1,q2,q3⟩:=hrw i y hy hr;exact ⟨i,b,y,q1,q2,q3,rfl⟩) (pt.yK ra hargs) (bh.mono (hrun _ _) fun e st q=>by
    obtain ⟨q1,q2,v0,K,q3,q4,q5⟩:=q;exact ⟨q1,q2,v0,q3,K,q4,q5⟩)).mono fun e w' hh=>?_
 obtain ⟨v',v0,st',m',rfl,⟨K,q4,hNw,hK,hge,q5⟩,rv,hs',hkp,hown,hpin⟩:=hh;have hj:=D7 hk s hs' hK0 hK hge (fun i b wr hi=>by
    obtain ⟨⟨o,ho,hne,_⟩,hr⟩:=hst i b wr hi;refine ⟨o,ho,?_⟩
    by_cases hd:o = .dead
    ·cases wr with
     | true=>exact absurd hd (hne rfl)
     | false=>exact .inl ⟨hd,rfl⟩
    ·refine .inr ⟨hd,?_⟩
     rcases hr.has hk s ra with q | q
     ·rw [bu hk h b o ho] at q; cases q; exact absurd rfl hd
     ·exact q) hNw hkp hown hpin (fun b h1 h2=>hfr b h1 (by rw [cm,iG]; simp [hNw]; omega)) q5 rv q4
 exact ⟨v',rfl,_,hj.1,hj.2⟩
end
def blksOf(hp:Hp):List Nat→Option (List ae)
 | []=>some []
 | b::bs=>match hp.get b,blksOf hp bs with
   | some o,some os=>some (o::os)
   | _,_=>none
theorem gJ{hp:Hp}:∀ {K:List Nat} {O:List ae},blksOf hp K=some O→O.length=K.length∧∀ (j c:Nat),K[j]? = some c→∃ o,hp.get c=some o∧O[j]? = some o
 | [],O,h=>by cases h; exact ⟨rfl,fun j c hc=>by simp at hc⟩
 | b::bs,O,h=>by
   unfold blksOf at h;split at h
   ·rename_i o os h1 h2
    cases h;obtain ⟨q1,q2⟩:=gJ h2;refine ⟨by simp [q1],fun j c hc=>?_⟩
    cases j with
    | zero =>
      have:b=c:=by simpa using hc
      subst this;exact ⟨o,h1,rfl⟩
    | succ j=>simpa using q2 j c (by simpa using hc)
   ·cases h
def leafF(P:Program)(fn:Func)(Q:Value→List ae→List Nat→List ae→Prop)(e:Exit)(st:St)(p:bZ)(k:Nat):Prop :=
 match p with
 | .stop z K _=>match (match e with | .normal=>true | .ret=>true | _=>false)&&st.df.isEmpty,retVal P fn st,blksOf st.hp (List.range z),blksOf st.hp K with
   | true,some v,some O,some Nw=>Q v O K Nw
   | _,_,_,_=>False
 | _=>False
def RF(P:Program)(ext:Ext)(fn:Func)(d:Nat)(c:Code)(st:St)(p:bZ)(Q:Value→List ae→List Nat→List ae→Prop):Prop:=execT P (aCall P ext d) (callT P ext d) d c st p 0 (leafF P fn Q)
def ft(P:Program)(fn:Func)(Q:Value→List ae→List Nat→List ae→Prop)(e:Exit)(st:St):Prop :=
 (e = .normal∨e = .ret)∧st.df = []∧∃ v z O K Nw,retVal P fn st=some v∧blksOf st.hp (List.range z)=some O∧blksOf st.hp K=some Nw∧Q v O K Nw
section
variable {P:Program} {N z:Nat} {W:bj} {X:fj}
theorem wa{fn:Func}{Q:Value→List ae→List Nat→List ae→Prop}{e:Exit}{st:St}{p:bZ}{k:Nat}(h:leafF P fn Q e st p k):ft P fn Q e st:=by
 unfold leafF at h;split at h
 ·rename_i z K _
  split at h
  ·rename_i v O Nw h1 h2 h3 h4
   obtain ⟨h1,h5⟩:=Bool.and_eq_true_iff.1 h1;refine ⟨?_,List.isEmpty_iff.1 h5,v,z,O,K,Nw,h2,h3,h4,h⟩
   cases e <;> first | exact .inl rfl | exact .inr rfl | cases h1
  ·exact h.elim
 ·exact h.elim
theorem bh.cq{ext:Ext}(hx:ExtOk P ext)(hm:P.follows .mixedOrders=true){fn:Func}{d:Nat}{c:Code}{st:St}{p:bZ}{Q:Value→List ae→List Nat→List ae→Prop}(hs:codeSafe P N c=true){Y:Prop}(e:Y=RF P ext fn d c st p Q)(h:Y):bh P N W z X c st (ft P fn Q):=by
 rw [e] at h;obtain ⟨e,st',p',k',q1,q2⟩:=cX (iZ ext d) h;exact bh.run (aP hx hm d) hm q1 hs (wa q2)
end
def placed(Nw:List ae)(K:List Nat):List (Option Nat)→Option (List ae×Kw)
 | []=>some ([],[])
 | none::r=>(placed Nw K r).map fun q=>(.dead::q.1,none::q.2)
 | some i::r=>match Nw[i]?,K[i]?,placed Nw K r with
   | some o,some c,some q=>some (o::q.1,some c::q.2)
   | _,_,_=>none
theorem jH{Nw:List ae}{K:List Nat}{get:Nat→Option ae}(hg:∀ (j c:Nat),K[j]? = some c→∃ o,get c=some o∧Nw[j]? = some o):∀ {r:List (Option Nat)} {q:List ae×Kw},placed Nw K r=some q→q.1.length=q.2.length∧r.length=q.2.length ∧
  ∀ (j c:Nat),q.2[j]? = some (some c)→∃ i o,r[j]? = some (some i)∧K[i]? = some c∧get c=some o∧q.1[j]? = some o∧o∈Nw
 | [],q,h=>by cases h; exact ⟨rfl,rfl,fun j c hc=>by simp at hc⟩
 | none::r,q,h=>by
   obtain ⟨q',h1,rfl⟩:=Option.map_eq_some_iff.1 h;obtain ⟨k1,k2,k3⟩:=jH hg h1;refine ⟨by simp [k1],by simp [k2],fun j c hc=>?_⟩
   cases j with
   | zero=>simp at hc
   | succ j =>
     obtain ⟨i,o,p⟩:=k3 j c (by simpa using hc)
     exact ⟨i,o,by simpa using p⟩
 | some i::r,q,h=>by
   unfold placed at h;split at h
   ·rename_i o c q' h1 h2 h3
    cases h;obtain ⟨k1,k2,k3⟩:=jH hg h3;refine ⟨by simp [k1],by simp [k2],fun j c' hc=>?_⟩
    cases j with
    | zero =>
      have e:c=c':=by simpa using hc
      subst e;obtain ⟨o',p1,p2⟩:=hg i c h2;rw [h1] at p2; cases p2;exact ⟨i,o,by simp,h2,p1,by simp,List.mem_of_getElem? h1⟩
    | succ j =>
      obtain ⟨i,o,p⟩:=k3 j c' (by simpa using hc)
      exact ⟨i,o,by simpa using p⟩
   ·cases h
def nodupP:List (Option Nat)→Bool
 | []=>true
 | none::r=>nodupP r
 | some i::r=>(r.all fun x=>match x with | some j=>!Nat.beq i j | none=>true)&&nodupP r
theorem lk:∀ {r:List (Option Nat)},nodupP r=true→gW r
 | [],_=>fun i j c h=>by simp at h
 | none::r,h=>fun i j c h1 h2=>by
   cases i with
   | zero=>simp at h1
   | succ i=>cases j with
     | zero=>simp at h2
     | succ j=>rw [lk (r:=r) h i j c (by simpa using h1) (by simpa using h2)]
 | some a::r,h=>fun i j c h1 h2=>by
   unfold nodupP at h;obtain ⟨q1,q2⟩:=Bool.and_eq_true_iff.1 h;have ne:∀ k,r[k]? = some (some a)→False:=fun k hk=>by
     have:=List.all_eq_true.1 q1 _ (List.mem_of_getElem? hk)
     simp [Nat.beq_refl] at this
   cases i with
   | zero =>
     cases j with
     | zero=>rfl
     | succ j =>
       have e:a=c:=by simpa using h1
       subst e;exact (ne j (by simpa using h2)).elim
   | succ i=>cases j with
     | zero =>
       have e:a=c:=by simpa using h2
       subst e;exact (ne i (by simpa using h1)).elim
     | succ j=>rw [lk q2 i j c (by simpa using h1) (by simpa using h2)]
structure BV (K0:Ks) (B:Nat) (O' Nw':List ae) (v':Value) (g:HG) (v:Value) (O:List ae) (K:List Nat) (Nw:List ae):Prop where
 okv:gz v=true
 oko:O.all cZ=true
 okn:(Nw.all fun o=>cZ o&&nT o)=true
 nd:(nodupB K&&K.all fun c=>Nat.ble K0.length c)=true
 len:O.length=K0.length
 plc:∃ r Nq Kq,nodupP r=true∧placed Nw K r=some (Nq,Kq)∧v'=mv3 (sgE K0 Kq B) v∧(∀ (i b:Nat),K0[i]? = some (some (b,true))→O'[i]? = (O[i]?).map (mvB (sgE K0 Kq B)))∧Nw'=Nq.map (mvB (sgE K0 Kq B))
 ro:∀ (i b:Nat),K0[i]? = some (some (b,false))→O[i]? = some .dead→g b=some .dead
theorem BV.fin{P:Program}{fn:Func}{K0:Ks}{B:Nat}{O Nw:List ae}{v:Value}{g:HG}{e:Exit}{st:St}(h:ft P fn (BV K0 B O Nw v g) e st) :
  (e = .normal∨e = .ret)∧st.df = []∧∃ v0 K,retVal P fn st=some v0∧gz v0=true∧Nw.length=K.length∧gW K∧Cf K0 O K∧rN K0 K B O Nw v v0 st.hp.get g:=by
 obtain ⟨h1,h2,v0,z,O0,K,N0,h3,h4,h5,q⟩:=h;obtain ⟨l1,g1⟩:=gJ h4;obtain ⟨l2,g2⟩:=gJ h5;obtain ⟨n1,n2⟩:=Bool.and_eq_true_iff.1 q.nd;obtain ⟨r,Nq,Kq,r1,r2,r3,r4,rfl⟩:=q.plc;obtain ⟨p1,p2,p3⟩:=jH g2 r2;simp only at p1 p2 p3;have hz:z=K0.length:=by have:=q.len; simp at l1; omega
 subst hz;refine ⟨h1,h2,v0,Kq,h3,q.okv,by simp [p1],fun i j c hi hj=>?_,fun c hc=>?_,r3,fun i b hi=>?_,fun i b hi hdd=>?_,fun j c hc=>?_⟩
 ·obtain ⟨a,oa,a1,a2,_⟩:=p3 i c hi
  obtain ⟨b,ob,b1,b2,_⟩:=p3 j c hj;have:=ln n1 a2 b2
  subst this;exact lk r1 i j a a1 b1
 ·obtain ⟨j,hj⟩:=List.getElem?_of_mem hc
  obtain ⟨i,o,_,a2,_⟩:=p3 j c hj;have:=List.all_eq_true.1 n2 c (List.mem_of_getElem? a2)
  exact .inl (by simpa [Nat.ble_eq] using this)
 ·have hlt:i<K0.length:=(List.getElem?_eq_some_iff.1 hi).1
  obtain ⟨o,p1,p2⟩:=g1 i i (by simp [hlt])
  exact ⟨o,p1,List.all_eq_true.1 q.oko o (List.mem_of_getElem? p2),.inl (by rw [r4 i b hi,p2]; rfl)⟩
 ·have hlt:i<K0.length:=(List.getElem?_eq_some_iff.1 hi).1
  obtain ⟨o,p1,p2⟩:=g1 i i (by simp [hlt])
  refine q.ro i b hi ?_
  rw [p1] at hdd;rw [p2]; exact hdd
 ·obtain ⟨i,o,_,_,a3,a4,a5⟩:=p3 j c hc
  have:=List.all_eq_true.1 q.okn o a5
  obtain ⟨r1,r2⟩:=Bool.and_eq_true_iff.1 this;exact ⟨o,a3,r1,r2,by rw [List.getElem?_map,a4]; rfl⟩
def N9(M i:Nat):Bool:=Nat.beq (Nat.land (Nat.shiftRight M i) 1) 1
def blkM(M:Nat)(hp:Hp)(K:List Nat):Nat→List Nat→List ae
 | _,[]=>[]
 | i,b::bs=>(match N9 M i with | true=>(hp.get b).getD .dead | false=>bX K ((hp.get b).getD .dead))::blkM M hp K (i+1) bs
def EC(M:Nat)(hp:Hp):Nat→List Nat→Bool
 | _,[]=>true
 | i,b::bs=>(match N9 M i with | true=>true | false=>fL ((hp.get b).getD .dead))&&EC M hp (i+1) bs
def lookM(M:Nat)(K:List Nat)(Ts:List Nat)(r:Exit×St):Exit×List ae×List (Nat×Value)×Bool :=
 (r.1,blkM M r.2.hp K 0 K,Ts.map fun t=>(t,mn K (r.2.dI t)),
   (K.all fun b=>match r.2.hp.get b with | some _=>true | none=>false)&&EC M r.2.hp 0 K&&(Ts.all fun t=>o5 (r.2.dI t))&&r.2.df.isEmpty)
def lH(M:Nat)(O:List ae):Prop:=∀ i,N9 M i=true→∀ o,O[i]? = some o→dD 0 o
theorem vf{M:Nat}{hp:Hp}{K:List Nat}:∀ {i:Nat} {bs:List Nat},(blkM M hp K i bs).length=bs.length
 | _,[]=>rfl
 | i,b::bs=>by rw [blkM,List.length_cons,vf,List.length_cons]
theorem ve{M:Nat}{hp:Hp}{K:List Nat}:∀ {i:Nat} {bs:List Nat} {j b:Nat},bs[j]? = some b→(blkM M hp K i bs)[j]? = some (match N9 M (i+j) with | true=>(hp.get b).getD .dead | false=>bX K ((hp.get b).getD .dead))
 | _,[],j,b,h=>by simp at h
 | i,c::bs,0,b,h=>by
   simp at h; subst h; rfl
 | i,c::bs,j+1,b,h=>by
   rw [blkM,List.getElem?_cons_succ,ve (j:=j) (by simpa using h),show i+1+j=i+(j+1) by omega]
theorem wy{M:Nat}{hp:Hp}:∀ {i:Nat} {bs:List Nat} {j b:Nat},EC M hp i bs=true→bs[j]? = some b→N9 M (i+j)=false→fL ((hp.get b).getD .dead)=true
 | _,[],j,b,_,h,_=>by simp at h
 | i,c::bs,0,b,hn,h,ho=>by
   simp at h; subst h;rw [EC] at hn;have:=(Bool.and_eq_true_iff.1 hn).1
   rw [Nat.add_zero] at ho;rw [ho] at this; exact this
 | i,c::bs,j+1,b,hn,h,ho=>by
   rw [EC] at hn;exact wy (i:=i+1) (j:=j) (Bool.and_eq_true_iff.1 hn).2 (by simpa using h) (by rw [show i+1+j=i+(j+1) by omega]; exact ho)
section
variable {P:Program} {N z:Nat} {W:bj} {X:fj}
theorem FM.C5{st':St}{a':Act}{w':World}{m':BM}(f':FM N W z X st' a' w' m'){e e':Exit}(M:Nat)(K Ts:List Nat)(O:List ae)(L:List (Nat×Value))
  (h2:lookM M K Ts (e',st')=(e,O,L,true)) (hK:nodupB K=true) (hT:Ts.all (fun t=>Nat.blt t N)=true)
  (hO:lH M O) (h0:∀ i,i<z→K[i]? = some i):e'=e∧∃ g m2,FM N W z X (av N g L O) a' w' m2:=by
 simp only [lookM,Prod.mk.injEq] at h2;obtain ⟨rfl,rfl,rfl,h5⟩:=h2;obtain ⟨h5,h7⟩:=Bool.and_eq_true_iff.1 h5;obtain ⟨h5,h6⟩:=Bool.and_eq_true_iff.1 h5;obtain ⟨h3,h4⟩:=Bool.and_eq_true_iff.1 h5;have hpin:=f'.pin
 have hlen:(blkM M st'.hp K 0 K).length=K.length:=vf
 have hget:∀ (i b:Nat),K[i]? = some b→∃ o,st'.hp.get b=some o:=fun i b hi=>by
  have:=List.all_eq_true.1 h3 b (List.mem_of_getElem? hi)
  cases hg:st'.hp.get b with
  | none=>rw [hg] at this; cases this
  | some o=>exact ⟨o,rfl⟩
 have hB:∀ (i b:Nat) (o2:ae),K[i]? = some b→(blkM M st'.hp K 0 K)[i]? = some o2→∃ o,st'.hp.get b=some o∧o2=bX K o∧fL o=true:=fun i b o2 hi ho=>by
  obtain ⟨o,hg⟩:=hget i b hi;refine ⟨o,hg,?_⟩
  have e1:=ve (M:=M) (hp:=st'.hp) (K:=K) (i:=0) hi
  rw [Nat.zero_add,hg,Option.getD_some] at e1;cases hq:N9 M i with
  | true =>
    rw [hq] at e1;rw [e1] at ho;have e3:o=o2:=by simpa using ho
    subst e3;obtain ⟨k1,k2⟩:=hO i hq o e1;exact ⟨(k2 K (fun i hi=>absurd hi (Nat.not_lt_zero _))).symm,k1⟩
  | false =>
    rw [hq] at e1;rw [e1] at ho;have e3:bX K o=o2:=by simpa using ho
    refine ⟨e3.symm,?_⟩
    have:=wy (i:=0) h4 hi (by rw [Nat.zero_add]; exact hq)
    rw [hg] at this; exact this
 obtain ⟨g,f2⟩:=f'.fr.tJ K (blkM M st'.hp K 0 K) (Ts.map fun t=>(t,mn K (st'.dI t))) (fC hK) hlen hB (fun x hx=>by
    obtain ⟨t,ht,rfl⟩:=List.mem_map.1 hx;exact ⟨by have:=List.all_eq_true.1 hT t ht; simpa [Nat.blt_eq] using this,List.all_eq_true.1 h6 t ht,rfl⟩) (List.isEmpty_iff.1 h7)
 refine ⟨rfl,_,_,f2,fun i hi x hx=>?_⟩
 have hKi:=h0 i hi
 have hlt:i<K.length:=(List.getElem?_eq_some_iff.1 hKi).1
 rcases hpin i hi x hx with hd | hd
 ·refine .inl ?_
  obtain ⟨o2,ho2⟩:∃ o2,(blkM M st'.hp K 0 K)[i]? = some o2:=⟨_,List.getElem?_eq_getElem (by omega)⟩
  obtain ⟨o,q1,q2,_⟩:=hB i i o2 hKi ho2;rw [hd] at q1; cases q1;show (heapOf _ aE).get i=_
  rw [al,List.getElem?_append_left (by omega),ho2,q2]
  rfl
 ·refine .inr ?_
  unfold canM;rw [hKi];exact hd
def leafM(N z:Nat)(Q:Exit→St→Prop)(e:Exit)(st:St)(p:bZ)(k:Nat):Prop :=
 match p with
 | .stop n K Ts=>match nodupB K&&pinK z K&&Ts.all (fun t=>Nat.blt t N),lookM n K Ts (e,st) with
   | true,(e',O,L,true)=>lH n O∧∀ g,Q e' (av N g L O)
   | _,_=>False
 | _=>False
def RM(P:Program)(ext:Ext)(N z d:Nat)(c:Code)(st:St)(p:bZ)(Q:Exit→St→Prop):Prop:=execT P (aCall P ext d) (callT P ext d) d c st p 0 (leafM N z Q)
theorem bh.leafM{c:Code}{st:St}{Q:Exit→St→Prop}(h:bh P N W z X c st fun e st'=>∃ p k,AI.leafM N z Q e st' p k):bh P N W z X c st Q:=fun a w m f =>
 wp_mono (h a w m f) fun e a' w' hh=>by
  obtain ⟨st',m',f',p,k,q⟩:=hh;unfold AI.leafM at q;split at q
  ·rename_i n K Ts
   split at q
   ·rename_i e' O L hk hl
    obtain ⟨h1,h2⟩:=Bool.and_eq_true_iff.1 hk;obtain ⟨h0,h1⟩:=Bool.and_eq_true_iff.1 h1;obtain ⟨rfl,g,m2,f2⟩:=f'.C5 n K Ts O L hl h0 h2 q.1 (fun i hi=>pW h1 hi)
    exact ⟨_,m2,f2,q.2 g⟩
   ·exact q.elim
  ·exact q.elim
theorem bh.oA{ext:Ext}(hx:ExtOk P ext)(hm:P.follows .mixedOrders=true){d:Nat}{c:Code}{st:St}{p:bZ}{Q:Exit→St→Prop}(hs:codeSafe P N c=true){Y:Prop}(e:Y=RM P ext N z d c st p Q)(h:Y):bh P N W z X c st Q:=by
 rw [e] at h;obtain ⟨e,st',p',k',q1,q2⟩:=cX (iZ ext d) h;exact bh.leafM (bh.run (aP hx hm d) hm q1 hs ⟨p',k',q2⟩)
end
def LQ{α : Type}(post : α→(Nat→Value)→Exit×St)(ok : α→Prop)(e:Exit)(st:St):Prop:=∃ a g,ok a∧e=(post a g).1∧st=(post a g).2
def Kv{α β : Type}(post : α→(Nat→Value)→Exit×St)(ok : α→Prop)(post2 : β→(Nat→Value)→Exit×St)(ok2 : β→Prop)(e:Exit)(st:St):Prop:=LQ post ok e st∨LQ post2 ok2 e st
def loopT(P:Program)(N:Nat)(W:bj)(z:Nat)(X:fj)(n:Nat)(K Ts:List Nat)(c:Code)(st:St)(Q:Exit→St→Prop)(Y:Prop):Prop :=
 match Nat.blt n 1000 with
 | true=>match nodupB K&&pinK z K&&Ts.all (fun t=>Nat.blt t N),look2 n K Ts (.normal,st) with
   | true,(_,O,L,true)=>match n with
     | 0=>(∀ g,bh P N W z X c (av N g L O) Q)∧Y
     | n=>rO n O∧(∀ g,bh P N W z X c (av N g L O) Q)∧Y
   | _,_=>False
 | false=>match nodupB K&&pinK z K&&Ts.all (fun t=>Nat.blt t N),lookM (n-1000) K Ts (.normal,st) with
   | true,(_,O,L,true)=>lH (n-1000) O∧(∀ g,bh P N W z X c (av N g L O) Q)∧Y
   | _,_=>False
def execW(P:Program)(call:aG)(cn:lL)(N:Nat)(W:bj)(z:Nat)(X:fj):Nat→Code→St→bZ→Nat→(Exit→St→bZ→Nat→Prop)→Prop
 | 0,_,_,_,_,_=>False
 | n+1,c,st,p,k,K=>match c with
   | .skip | .label _=>K .normal st p k
   | .region _ ops draw=>match draw with
     | false=>runOpsT P call cn ops ops.toList st p k fun st' p' k'=>K .normal st' p' k'
     | true=>match jx P ops with
       | []=>runOpsT P call cn ops ops.toList st p k fun st' p' k'=>K .normal st' p' k'
       | f::fs=>runLogT P call cn ops ops.toList 0 st p k fun st' l p' k'=>match pairsQ l (f::fs) with
         | some q=>Ih q (K .normal st' p' k')
         | none=>False
   | .seq x y=>execW P call cn N W z X n x st p k fun e st' p' k'=>match e with
     | .normal=>execW P call cn N W z X n y st' p' k' K
     | e=>K e st' p' k'
   | .cond x t f=>match st.eval x with
     | .bool true=>execW P call cn N W z X n t st p k K
     | .bool false=>execW P call cn N W z X n f st p k K
     | _=>False
   | .block id body=>execW P call cn N W z X n body st p k fun e st' p' k'=>match e with
     | .exit i=>match Nat.beq i id with
       | true=>K .normal st' p' k'
       | false=>K (.exit i) st' p' k'
     | e=>K e st' p' k'
   | .loop body=>match p with
     | .l j a b c α post ok x=>match Nat.beq j k with
       | true=>loopT P N W z X a b c (.loop body) st (LQ post ok) (∀ u g,ok u→K (post u g).1 (post u g).2 x k)
       | false=>execT P call cn (n+1) (.loop body) st p k K
     | .m j a b c α post ok x β post2 ok2 y=>match Nat.beq j k with
       | true=>loopT P N W z X a b c (.loop body) st (Kv post ok post2 ok2) ((∀ u g,ok u→K (post u g).1 (post u g).2 x k)∧(∀ u g,ok2 u→K (post2 u g).1 (post2 u g).2 y k))
       | false=>execT P call cn (n+1) (.loop body) st p k K
     | p=>execT P call cn (n+1) (.loop body) st p k K
   | .scope body=>execW P call cn N W z X n body st p k fun e st' p' k'=>match e with
     | .goto _=>False
     | e=>K e st' p' k'
   | .exit id=>K (.exit id) st p k
   | .ret=>K .ret st p k
   | _=>False
section
variable {P:Program} {N z:Nat} {W:bj} {X:fj}
theorem wh{n:Nat}{K Ts:List Nat}{c:Code}{st:St}{Q:Exit→St→Prop}{Y:Prop}(h:loopT P N W z X n K Ts c st Q Y):bh P N W z X c st Q∧Y:=by
 unfold loopT at h;split at h
 ·split at h
  ·rename_i e O L hk hl
   obtain ⟨h1,h2⟩:=Bool.and_eq_true_iff.1 hk;obtain ⟨h0,h1⟩:=Bool.and_eq_true_iff.1 h1;have key:rO n O→(∀ g,bh P N W z X c (av N g L O) Q)→bh P N W z X c st Q:=fun hf hq a w m f=>by
     obtain ⟨-,g,m2,f2⟩:=f.canon n K Ts O L hl h0 h2 hf (fun i hi=>pW h1 hi)
     exact hq g a w m2 f2
   split at h
   ·exact ⟨key (fun i hi=>by omega) h.1,h.2⟩
   ·exact ⟨key h.1 h.2.1,h.2.2⟩
  ·exact h.elim
 ·split at h
  ·rename_i e O L hk hl
   obtain ⟨h1,h2⟩:=Bool.and_eq_true_iff.1 hk;obtain ⟨h0,h1⟩:=Bool.and_eq_true_iff.1 h1;refine ⟨fun a w m f=>?_,h.2.2⟩
   obtain ⟨-,g,m2,f2⟩:=f.C5 _ K Ts O L hl h0 h2 h.1 (fun i hi=>pW h1 hi)
   exact h.2.1 g a w m2 f2
  ·exact h.elim
theorem bh.cond_true{y:Operand}{c d:Code}{st:St}{Q:Exit→St→Prop}(hx:gp y=true)(hv:st.eval y = .bool true)(h:bh P N W z X c st Q):bh P N W z X (.cond y c d) st Q:=fun a w m f=>by
 refine wp_cond_true ?_ (h a w m f)
 have:=f.fr.rel.tm.eval hx
 rw [hv] at this;exact this.of_bool
theorem bh.cond_false{y:Operand}{c d:Code}{st:St}{Q:Exit→St→Prop}(hx:gp y=true)(hv:st.eval y = .bool false)(h:bh P N W z X d st Q):bh P N W z X (.cond y c d) st Q:=fun a w m f=>by
 refine wp_cond_false ?_ (h a w m f)
 have:=f.fr.rel.tm.eval hx
 rw [hv] at this;exact this.of_bool
theorem bh.scope{c:Code}{st:St}{Q:Exit→St→Prop}(h:bh P N W z X c st fun e st'=>(∀ l,e≠.goto l)∧Q e st'):bh P N W z X (.scope c) st Q:=fun a w m f=>by
 refine wp_scope_straight (wp_mono (h a w m f) fun e a' w' hh=>?_)
 obtain ⟨st',m',f',q1,q⟩:=hh;cases e with
 | goto l=>exact absurd rfl (q1 l)
 | _=>exact ⟨st',m',f',q⟩
theorem gP{call:aG}{cn:lL}(hc:a8 P call)(hm:P.follows .mixedOrders=true)(hcn:xq call cn):∀ {n:Nat} {c:Code} {st:St} {p:bZ} {k:Nat} {K:Exit→St→bZ→Nat→Prop},codeSafe P N c=true→execW P call cn N W z X n c st p k K →
  bh P N W z X c st fun e st'=>∃ p' k',K e st' p' k'
 | 0,c,st,p,k,K,hs,he=>he.elim
 | n+1,c,st,p,k,K,hs,he=>by
   cases c with
   | skip=>exact bh.run hc hm (n:=1) (st':=st) (e:=.normal) rfl hs ⟨_,_,he⟩
   | label l=>exact bh.run hc hm (n:=1) (st':=st) (e:=.normal) rfl hs ⟨_,_,he⟩
   | exit i=>exact bh.run hc hm (n:=1) (st':=st) (e:=.exit i) rfl hs ⟨_,_,he⟩
   | ret=>exact bh.run hc hm (n:=1) (st':=st) (e:=.ret) rfl hs ⟨_,_,he⟩
   | region id ops draw =>
     obtain ⟨e,st',p',k',q1,q2⟩:=cX (n:=1) (c:=.region id ops draw) (K:=K) hcn (by simp only [execT]; simp only [execW] at he; exact he)
     exact bh.run hc hm q1 hs ⟨_,_,q2⟩
   | seq x y =>
     simp only [execW] at he;simp only [codeSafe,Bool.and_eq_true] at hs;refine bh.seq (gP hc hm hcn hs.1 he) (fun st' h=>?_) (fun e st' hne h=>?_)
     ·obtain ⟨p',k',q⟩:=h
      exact gP hc hm hcn hs.2 q
     ·obtain ⟨p',k',q⟩:=h
      cases e with
      | normal=>exact absurd rfl hne
      | _=>exact ⟨p',k',q⟩
   | cond x t f =>
     simp only [execW] at he;simp only [codeSafe,Bool.and_eq_true] at hs;split at he
     ·rename_i hx; exact bh.cond_true hs.1.1 hx (gP hc hm hcn hs.1.2 he)
     ·rename_i hx; exact bh.cond_false hs.1.1 hx (gP hc hm hcn hs.2 he)
     ·exact he.elim
   | block id b =>
     simp only [execW] at he;refine bh.block (bh.mono (gP hc hm hcn hs he) fun e st' h=>?_)
     obtain ⟨p',k',q⟩:=h;cases e with
     | exit i =>
       simp only at q ⊢;split at q
       ·rename_i hi
        rw [if_pos (Nat.eq_of_beq_eq_true hi)];exact ⟨p',k',q⟩
       ·rename_i hi
        rw [if_neg (fun e=>by subst e; rw [Nat.beq_refl] at hi; cases hi)]
        exact ⟨p',k',q⟩
     | _=>exact ⟨p',k',q⟩
   | loop b =>
     have plain:execT P call cn (n+1) (.loop b) st p k K→bh P N W z X (.loop b) st fun e st'=>∃ p' k',K e st' p' k':=fun he=>by
       obtain ⟨e,st',p',k',q1,q2⟩:=cX hcn he;exact bh.run hc hm q1 hs ⟨_,_,q2⟩
     simp only [execW] at he;split at he
     ·split at he
      ·obtain ⟨q1,q2⟩:=wh he
       refine bh.mono q1 fun e st' q=>?_
       obtain ⟨u,g,h1,rfl,rfl⟩:=q;exact ⟨_,_,q2 u g h1⟩
      ·exact plain he
     ·split at he
      ·obtain ⟨q1,q2⟩:=wh he
       refine bh.mono q1 fun e st' q=>?_
       rcases q with ⟨u,g,h1,rfl,rfl⟩ | ⟨u,g,h1,rfl,rfl⟩
       ·exact ⟨_,_,q2.1 u g h1⟩
       ·exact ⟨_,_,q2.2 u g h1⟩
      ·exact plain he
     ·exact plain he
   | scope b =>
     simp only [execW] at he;refine bh.scope (bh.mono (gP (c:=b) hc hm hcn hs he) fun e st' h=>?_)
     obtain ⟨p',k',q⟩:=h;cases e with
     | goto l=>exact q.elim
     | _=>exact ⟨fun l h=>Exit.noConfusion h,p',k',q⟩
   | _=>exact he.elim
def WF(P:Program)(ext:Ext)(fn:Func)(N:Nat)(W:bj)(z:Nat)(X:fj)(d:Nat)(c:Code)(st:St)(p:bZ)(Q:Value→List ae→List Nat→List ae→Prop):Prop:=execW P (aCall P ext d) (callT P ext d) N W z X d c st p 0 (leafF P fn Q)
theorem bh.uo{ext:Ext}(hx:ExtOk P ext)(hm:P.follows .mixedOrders=true){fn:Func}{d:Nat}{c:Code}{st:St}{p:bZ}{Q:Value→List ae→List Nat→List ae→Prop}(hs:codeSafe P N c=true){Y:Prop}(e:Y=WF P ext fn N W z X d c st p Q)(h:Y):bh P N W z X c st (ft P fn Q):=by
 rw [e] at h;exact bh.mono (gP (aP hx hm d) hm (iZ ext d) hs h) fun e st' ⟨p',k',q⟩=>wa q
theorem bh.count{c:Code}{Q:Exit→St→Prop}(n:Nat)(S:Nat→(Nat→Value)→St)(step:∀ i,i<n→∀ g,bh P N W z X c (S i g) fun e st'=>(e = .normal∧∃ g',st'=S (i+1) g')∨(e≠.normal∧Q e st'))
  (last:∀ g,bh P N W z X c (S n g) fun e st'=>e≠.normal∧Q e st') (g:Nat→Value):bh P N W z X (.loop c) (S 0 g) Q:=by
 refine bh.loop (fun k st=>∃ i g,k+i=n∧st=S i g) (fun k st=>?_) (k:=n) ⟨0,g,by omega,rfl⟩
 rintro ⟨i,g,hk,rfl⟩;rcases Nat.lt_or_ge i n with hi | hi
 ·refine bh.mono (step i hi g) fun e st' q=>?_
  rcases q with ⟨rfl,g',rfl⟩ | q
  ·exact .inl ⟨rfl,k-1,by omega,i+1,g',by omega,rfl⟩
  ·exact .inr q
 ·obtain rfl:i=n:=by omega
  exact bh.mono (last g) fun e st' q=>.inr q
end
end Go.Proofs.YtgeoommlmddgpaaGreat.AI
namespace Go.Proofs.YtgeoommlmddgpaaGreat.LtL
open Go Go.Proofs Go.Proofs.YtgeoommlmddgpaaGreat.AI Go.RowKit Go.Proofs.YtgeoommlmddgpaaGreat.Sort Go.Proofs.YtgeoommlmddgpaaGreat.LtA
def Q1(o:ae)(v0:Value):Value→List ae→List Nat→List ae→Prop:=fun v O K Nw=>v=v0∧O = [o]∧K = []∧Nw = []
theorem Q1.of{o:ae}{v v0:Value}(h:v=v0):Q1 o v0 v [o] [] []:=⟨h,rfl,rfl,rfl⟩
def eH(v:Value):Prop:=gz v=true∧∀ s,mv3 s v=v
theorem jl(k:IntKind)(z:Int):eH (.int k z):=⟨rfl,fun _=>rfl⟩
theorem mu(b:Bool):eH (.bool b):=⟨rfl,fun _=>rfl⟩
theorem IE(y:aa):eH (cN y):=⟨rfl,fun _=>by simp [mv3,mv2,mv1,cN]⟩
structure Kz (fn:Func) (code:Code) (N j:Nat) (vs:List aa) (rest:List Value) (v0:Value):Prop where
 okv:eH v0
 flat:∀ r∈rest,eH r
 len:rest.length+1≤N
 run:∀ f o c W X,aD o=true→(vs = []∨∃ ty ro,o = .cells ty (aI vs) ro)→(f=false→vs = []∧o = .dead) →
  bh Tryz.prog N W 1 X code ⟨tmsOf (rest.insertIdx j (vS f 0 vs.length c)) 0 .leaf,heapOf [o,.dead] aE,[]⟩ (ft Tryz.prog fn (Q1 o v0))
open Classical in
noncomputable def toldA(j:Nat)(A:List aa→List Value→Option Value):aB:=fun args hp=>match args[j]? with
 | some s=>if h:∃ vs,TN vs s hp∧vs.length<1000000 then (A h.choose (args.eraseIdx j)).map fun v=>(v,heapOf [.dead] hp) else none
 | none=>none
theorem lj{rest:List Value}(h:∀ r∈rest,eH r)(s:Nat→Nat):rest.map (mv3 s)=rest:=by
 induction rest with
 | nil=>rfl
 | cons r rest ih=>rw [List.map_cons,(h r (.head _)).2,ih fun x hx=>h x (.tail _ hx)]
theorem sx{α : Type}{l:List α}{j:Nat}{s : α}(h:l[j]? = some s):(l.eraseIdx j).insertIdx j s=l:=by
 induction l generalizing j with
 | nil=>simp at h
 | cons a l ih =>
   cases j with
   | zero=>simp at h; subst h; simp
   | succ j=>simp only [List.eraseIdx_cons_succ,List.insertIdx_succ_cons]; rw [ih (by simpa using h)]
theorem mem_erase{α : Type}{l:List α}{j:Nat}{s x : α}(h:l[j]? = some s)(hx:x∈l):x=s∨x∈l.eraseIdx j:=by
 have e:=sx h
 rw [← e] at hx;have hj:j≤(l.eraseIdx j).length:=by
  have:=(List.getElem?_eq_some_iff.1 h).1
  rw [List.length_eraseIdx]; split <;> omega
 rcases (List.mem_insertIdx hj).1 hx with h | h
 ·exact .inl h
 ·exact .inr h
theorem Ig{α β : Type}(f : α→β)(l:List α)(j:Nat)(s : α):(l.insertIdx j s).map f=(l.map f).insertIdx j (f s):=by
 induction l generalizing j with
 | nil=>cases j <;> simp
 | cons a l ih =>
   cases j with
   | zero=>simp
   | succ j=>simp [ih]
theorem bQ{s:Nat→Nat}{o:ae}(h:aD o=true):mvB s o=o:=by
 cases o with
 | cells ty cs ro =>
   have h':∀ v∈cs,inert v=true:=fun v hv=>List.all_eq_true.1 h v hv
   show ae.cells ty (cs.map (mv2 s)) ro=_
   have:cs.map (mv2 s)=cs.map id:=List.map_congr_left fun v hv=>by
     have:=h' v hv
     cases v with
     | pointer a=>cases a <;> first | rfl | cases this
     | slice a l c=>cases a <;> first | rfl | cases this
     | map a=>cases a <;> first | rfl | cases this
     | agg _=>cases this
     | func _ _ _=>cases this
     | _=>rfl
   rw [this]; simp
 | map=>cases h
 | dead=>rfl
theorem bN{vs:List aa}{o:ae}(hi:aD o=true):cZ o=true:=by
 have:=aY hi
 cases o with
 | cells ty cs ro=>exact (Bool.and_eq_true_iff.1 this).1
 | map=>exact this
 | dead=>rfl
theorem ru{j:Nat}{A:List aa→List Value→Option Value}{f:FuncId}{fn:Func}{code:Code}{N:Nat}(hf:Tryz.prog.funcs[f]? = some fn)(hb:fn.body=some code)(hnm:(fn.name == "runtime.NumGoroutine")=false)(hN:fn.ntmps=N)
  (H:∀ vs,vs.length<1000000→∀ rest v0,A vs rest=some v0→Kz fn code N j vs rest v0):aq Tryz.prog f (toldA j A):=jf follows hf hb hnm fun args hp v hp' h hk=>by
 rw [hN];unfold toldA at h;split at h
 case h_2=>cases h
 rename_i s hs;split at h
 case isFalse=>cases h
 rename_i hx;obtain ⟨hT,hn⟩:=hx.choose_spec;generalize hx.choose=vs at *;obtain ⟨v0,hA,h2⟩:=Option.map_eq_some_iff.1 h;cases h2;have R:=H vs hn _ v hA
 have hlen:args.length≤N:=by
  have:=R.len
  have h1:=(List.getElem?_eq_some_iff.1 hs).1
  rw [List.length_eraseIdx,if_pos h1] at this; omega
 have key:∀ (K0:Ks) (f:Bool) (o:ae) (c:Nat),K0.length=1→dz K0→mv3 (fV K0) s=vS f 0 vs.length c→di K0 hp=heapOf [o,.dead] aE→aD o=true→(vs = []∨∃ ty ro,o = .cells ty (aI vs) ro)→(f=false→vs = []∧o = .dead)→gz s=true →
    (∀ (i b:Nat) (wr:Bool),K0[i]? = some (some (b,wr))→(∃ o,hp.get b=some o∧(wr=true→o≠.dead)∧bP o=true)∧sf args hp b∧wr=false∧(o = .dead→hp.get b=some .dead)) →
    ∃ (K0:Ks) (O Nw:List ae),heapOf [.dead] hp=heapOf (Nw ++ [.dead]) (putO K0 O hp)∧dz K0 ∧
    (∀ (i b:Nat) (wr:Bool),K0[i]? = some (some (b,wr))→(∃ o,hp.get b=some o∧(wr=true→o≠.dead)∧bP o=true)∧sf args hp b)∧args.all gz=true∧args.length≤N ∧
    ∀ W X,bh Tryz.prog N W K0.length X code ⟨tmsOf (args.map (mv3 (fV K0))) 0 .leaf,di K0 hp,[]⟩ fun e st=>(e = .normal∨e = .ret)∧st.df = []∧∃ v0 K,retVal Tryz.prog fn st=some v0∧gz v0=true∧Nw.length=K.length∧gW K∧Cf K0 O K∧rN K0 K hp.sz O Nw v v0 st.hp.get hp.get:=by
  intro K0 f o c rX hnd he hpn hi hr hfl hok hst;refine ⟨K0,[o],[],?_,hnd,fun i b wr hi=>⟨(hst i b wr hi).1,(hst i b wr hi).2.1⟩,?_,hlen,fun W X=>?_⟩
  ·have e:putO K0 [o] hp=hp:=by
      match K0,rX with
      | [none],_=>rfl
      | [some (b,false)],_=>rfl
      | [some (b,true)],_=>exact absurd (hst 0 b true rfl).2.2.1 (by decide)
   rw [e]; rfl
  ·refine List.all_eq_true.2 fun x hx=>?_
   rcases mem_erase hs hx with rfl | hx
   ·exact hok
   ·exact (R.flat x hx).1
  ·have ea:args.map (mv3 (fV K0))=(args.eraseIdx j).insertIdx j (vS f 0 vs.length c):=by
      conv=>lhs; rw [← sx hs]
      rw [Ig,lj R.flat,he]
   rw [ea,hpn,rX];refine bh.mono (R.run f o c W X hi hr hfl) fun e st q=>?_
   have:=BV.fin (K0:=K0) (B:=hp.sz) (O:=[o]) (Nw:=[]) (v:=v) (g:=hp.get) (fn:=fn) (P:=Tryz.prog) (e:=e) (st:=st) (by
     obtain ⟨q1,q2,v1,z,O,K,Nw,q3,q4,q5,rfl,rfl,rfl,rfl⟩:=q;refine ⟨q1,q2,_,z,_,_,_,q3,q4,q5,?_⟩
     refine ⟨R.okv.1,by simp [bN (vs:=vs) hi],rfl,rfl,by simp [rX],⟨[],[],[],rfl,rfl,(R.okv.2 _).symm,fun i b hi'=>?_,rfl⟩,fun i b hi' hdd=>?_⟩
     ·exact absurd (hst i b true hi').2.2.1 (by decide)
     ·have h0:i=0:=by have:=(List.getElem?_eq_some_iff.1 hi').1; omega
      subst h0;exact (hst 0 b false hi').2.2.2 (by simpa using hdd))
   exact this
 rcases hT with ⟨rfl,rfl⟩ | ⟨b,c,ob,rfl,hb,hi,hr⟩
 ·exact key [none] false .dead 0 rfl (fun i j b wr wr' h1 h2=>by cases i <;> simp at h1) rfl rfl rfl (.inl rfl) (fun _=>⟨rfl,rfl⟩) rfl (fun i b wr h=>by cases i <;> simp at h)
 ·have e1:fV [some (b,false)] b=0:=by simp [fV,posO,Nat.beq_refl]
  refine key [some (b,false)] true (roBlk ob) c rfl (fun i j b wr wr' h1 h2=>?_) ?_ ?_ (bT hi) (eC hr) (fun h=>by cases h) rfl (fun i b' wr h=>?_)
  ·have:=(List.getElem?_eq_some_iff.1 h1).1
   have:=(List.getElem?_eq_some_iff.1 h2).1
   simp at *; omega
  ·show mv3 _ (af b vs.length c)=_
   simp [mv3,mv2,mv1,af,vS,e1]
  ·unfold di
   simp [pinB,hb,bQ hi,eD]
  ·have h0:i=0:=by have:=(List.getElem?_eq_some_iff.1 h).1; simpa using this
   subst h0;simp at h;obtain ⟨rfl,rfl⟩:=h;refine ⟨⟨ob,hb,(fun h=>by cases h),aY hi⟩,.arg (List.mem_of_getElem? hs) (by simp [j7,jD,af]),rfl,?_⟩
   intro h;cases ob <;> first | exact hb | cases h
theorem xf{j:Nat}{A:List aa→List Value→Option Value}{vs:List aa}{s:Value}{args:List Value}{hp:Hp}{v0:Value}(hs:args[j]? = some s)(h:TN vs s hp)(hn:vs.length<1000000)(hA:A vs (args.eraseIdx j)=some v0) :
  toldA j A args hp=some (v0,heapOf [.dead] hp):=by
 unfold toldA;have hx:∃ vs,TN vs s hp∧vs.length<1000000:=⟨vs,h,hn⟩
 simp only [hs];rw [dif_pos hx,hx.choose_spec.1.uniq h,hA];rfl
def Q0(v0:Value):Value→List ae→List Nat→List ae→Prop:=fun v O K Nw=>v=v0∧O = []∧K = []∧Nw = []
structure W1 (fn:Func) (code:Code) (N:Nat) (args:List Value) (v0:Value):Prop where
 okv:eH v0
 flat:∀ r∈args,eH r
 len:args.length≤N
 run:∀ W X,bh Tryz.prog N W 0 X code ⟨tmsOf args 0 .leaf,heapOf [.dead] aE,[]⟩ (ft Tryz.prog fn (Q0 v0))
end Go.Proofs.YtgeoommlmddgpaaGreat.LtL
