/- Part 5. -/
import Derived.Test.YtgeoommlmddgpaaGreatXfD
import Derived.Test.YtgeoommlmddgpaaGreatRows
set_option linter.unusedVariables false
set_option linter.unusedSimpArgs false
set_option maxRecDepth 100000
namespace Go.Proofs.YtgeoommlmddgpaaGreat.LtL
open Go Go.Proofs Go.Proofs.YtgeoommlmddgpaaGreat.AI Go.RowKit Go.Proofs.YtgeoommlmddgpaaGreat.Sort Go.Proofs.YtgeoommlmddgpaaGreat.LtA
open Classical in
noncomputable def g102(w:Nat)(us:List aa):aC:=fun args hp=>match args with
 | [.slice (some ⟨k,0,none⟩) n c,.int .i64 (.ofNat a),.int .i64 (.ofNat m),.int .i64 (.ofNat b),f] =>
   if f=Fc∧cL us (.slice (some ⟨k,0,none⟩) n c) hp∧a<m∧m<b∧b≤us.length∧b-a≤w∧(∀ z∈(us.drop a).take (m-a),Kn z)∧(∀ z∈(us.drop m).take (b-m),Kn z)∧mB bc ((us.drop a).take (m-a))∧mB bc ((us.drop m).take (b-m)) then
     some (vU,hp.put k (ab (us.take a++dB bc ((us.drop a).take (m-a)) ((us.drop m).take (b-m))++us.drop b))) else none
 | _=>none
open Classical in
theorem pz{w:Nat}{A X Y C us:List aa}{k n c a m b:Nat}{hp:Hp}(hus:us=A++X++Y++C)(hA:A.length=a)(hm:m=a+X.length)(hb':b=m+Y.length)(hX:0<X.length)(hY:0<Y.length)(hn:n=us.length)(hl:n<1000000)(hw:b-a≤w)
  (kX:∀ z∈X,Kn z) (kY:∀ z∈Y,Kn z) (sX:mB bc X) (sY:mB bc Y) (hb:hp.get k=some (ab us)) :
  atW (g102 w) [ae k n c,iN a,iN m,iN b,Fc] hp=some (vU,hp.put k (ab (A++dB bc X Y++C))):=by
 subst hn;have hr:cL us (ae k us.length c) hp:=⟨k,c,rfl,hb⟩
 rw [lW hr hl];obtain ⟨e1,e2,e3,e4⟩:=zi (C:=C) hA hm hb';show (if Fc=Fc∧cL us (ae k us.length c) hp∧a<m∧m<b∧b≤us.length∧b-a≤w∧(∀ z∈(us.drop a).take (m-a),Kn z)∧(∀ z∈(us.drop m).take (b-m),Kn z)∧mB bc ((us.drop a).take (m-a))∧mB bc ((us.drop m).take (b-m)) then
    some (vU,hp.put k (ab (us.take a++dB bc ((us.drop a).take (m-a)) ((us.drop m).take (b-m))++us.drop b))) else none)=_
 rw [hus] at hr ⊢;rw [e1,e2,e3,e4,if_pos ⟨rfl,hr,by omega,by omega,by simp; omega,hw,kX,kY,sX,sY⟩]
noncomputable def JP(w:Nat):Ext:=fh (cS Tryz.prog []) [(209,BO),(179,atW (g102 w))]
noncomputable def fQ(w:Nat):aG:=aCall Tryz.prog (JP w) 5
theorem Cj(w:Nat)(args:List Value)(hp:Hp):fQ w 209 args hp=BO args hp:=by
 show aCall Tryz.prog (JP w) 5 209 _ _=_
 rw [aCall]; rfl
theorem vb(w:Nat)(args:List Value)(hp:Hp):fQ w 179 args hp=atW (g102 w) args hp:=by
 show aCall Tryz.prog (JP w) 5 179 _ _=_
 rw [aCall]; rfl
theorem Mf{w:Nat}(hc:ba Tryz.prog (fQ w)){A X Y C us:List aa}{n c a m b:Nat}(hus:us=A++X++Y++C)(hA:A.length=a)(hm:m=a+X.length)(hb:b=m+Y.length)(hX:0<X.length)(hY:0<Y.length)(hw:b-a≤w+1)
  (hn:n=us.length) (hl:n<1000000) (kX:∀ u∈X,Kn u) (kY:∀ u∈Y,Kn u) (sX:mB bc X) (sY:mB bc Y) (W:bh) (x:Nat×Nat×Nat) (g:Nat→Value) :
  a8 Tryz.prog 220 W x Fz (rX n c a m b us false g) (uO (A++dB bc X Y++C)):=by
 have hlen:us.length=a+X.length+Y.length+C.length:=by rw [hus]; simp; omega

 have gX:∀ {i:Nat},a≤i→i<m→us[i]? = X[i-a]?:=fun {i} h1 h2=>by
  have:=KG hus hA (i:=i-a) (by omega)
  rwa [show a+(i-a)=i by omega] at this
 have gY:∀ {i:Nat},m≤i→i<b→us[i]? = Y[i-m]?:=fun {i} h1 h2=>by
  have:=KH hus hA hm (i:=i-m) (by omega)
  rwa [show m+(i-m)=i by omega] at this
 have KX:∀ {i u},a≤i→i<m→us[i]? = some u→Kn u:=fun h1 h2 h=>kX _ (List.mem_of_getElem? (by rw [← gX h1 h2]; exact h))
 have KY:∀ {i u},m≤i→i<b→us[i]? = some u→Kn u:=fun h1 h2 h=>kY _ (List.mem_of_getElem? (by rw [← gY h1 h2]; exact h))
 have SX:∀ {i j u v},a≤i→i≤j→j<m→us[i]? = some u→us[j]? = some v→bc v u=false:=fun {i j u v} h1 h2 h3 hu hv=>lv sX kX (show i-a≤j-a by omega) (by rw [← gX h1 (by omega)]; exact hu) (by rw [← gX (by omega) h3]; exact hv)
 have SY:∀ {i j u v},m≤i→i≤j→j<b→us[i]? = some u→us[j]? = some v→bc v u=false:=fun {i j u v} h1 h2 h3 hu hv=>lv sY kY (show i-m≤j-m by omega) (by rw [← gY h1 (by omega)]; exact hu) (by rw [← gY (by omega) h3]; exact hv)
 refine a8.seq (Q1:=fun e st=>e = .normal∧∃ g,st=OP n c a m b ((a+b) / 2) us g) (a8.piece bf follows 1 _ _ _ _ (QT us n c a m b ((a+b) / 2) g) (tV (by omega) Met.nil) ay.nil az.nil RX rfl rfl (bp us []) rfl fun g=>⟨rfl,g,rfl⟩) ?_ (fun x st hne hq=>absurd hq.1 hne)
 rintro st ⟨-,g,rfl⟩;have hmid1:2*((a+b) / 2)≤a+b:=by omega
 have hmid2:a+b≤2*((a+b) / 2)+1:=by omega
 generalize (a+b) / 2=aN at *;refine a8.seq (Q1:=fun e st=>e = .normal∧∃ g,st=BX n c a m b aN (aN+m) us g) (a8.piece bf follows 1 _ _ _ _ (QU us n c a m b aN g) (Met.cons (gL (by omega)) Met.nil) ay.nil az.nil RY rfl rfl (bp us []) rfl fun g=>⟨rfl,g,rfl⟩) ?_ (fun x st hne hq=>absurd hq.1 hne)
 rintro st ⟨-,g,rfl⟩;refine a8.seq (Q1:=fun e st=>e = .normal∧∃ g,st=BX n c a m b aN (aN+m) us g) (a8.piece bf follows 1 _ _ _ _ (QX us n c a m b aN (aN+m) g) Met.nil ay.nil az.nil RZ rfl rfl (bp us []) rfl fun g=>⟨rfl,g,rfl⟩) ?_ (fun x st hne hq=>absurd hq.1 hne)
 rintro st ⟨-,g,rfl⟩;refine a8.seq (Q1:=fun e st=>e = .normal∧∃ s0 r0 g,s0≤r0∧(m>aN∧s0+b=aN+m∧r0=aN∨m≤aN∧s0=a∧r0=m)∧st=OS n c a m b aN (aN+m) us s0 r0 g) ?_ ?_ (fun x st hne hq=>absurd hq.1 hne)
 ·cases h140:decide (aN<m) with
  | true =>
    have hlt:=of_decide_eq_true h140
    exact a8.piece bf follows 1 _ _ _ _ (Nj us n c a m b aN (aN+m) g) (Met.cons (jx h140) (Met.cons (dF (by omega) (by omega)) Met.nil)) ay.nil az.nil JC rfl rfl (bp us []) rfl fun g=>⟨rfl,aN+m-b,aN,g,by omega,.inl ⟨hlt,by omega,rfl⟩,rfl⟩
  | false =>
    have hlt:=of_decide_eq_false h140
    exact a8.piece bf follows 1 _ _ _ _ (Ni us n c a m b aN (aN+m) g) (Met.cons (jx h140) Met.nil) ay.nil az.nil JC rfl rfl (bp us []) rfl fun g=>⟨rfl,a,m,g,by omega,.inr ⟨by omega,rfl,rfl⟩,rfl⟩
 rintro st ⟨-,s0,r0,g,hs0,hcase,rfl⟩;refine a8.seq (Q1:=fun e st=>e = .normal∧∃ g,st=B0 n c a m b (aN+m-1) aN (aN+m) us s0 r0 g) (a8.piece bf follows 1 _ _ _ _ (QY us n c a m b s0 r0 aN (aN+m) g) (Met.cons (dF (by omega) (by omega)) Met.nil) ay.nil az.nil R0 rfl rfl (bp us []) rfl fun g=>⟨rfl,g,rfl⟩) ?_ (fun x st hne hq=>absurd hq.1 hne)
 rintro st ⟨-,g,rfl⟩;have H:∀ i,s0≤i→i<r0→a≤i∧i<m∧m≤aN+m-1-i∧aN+m-1-i<b∧i≤aN+m-1:=fun i h1 h2=>by
  rcases hcase with ⟨q1,q2,q3⟩ | ⟨q1,q2,q3⟩ <;> omega
 refine a8.seq (Q1:=fun e st=>e = .normal∧∃ s g,s0≤s∧s≤r0∧(∀ i u v,s0≤i→i<s→us[aN+m-1-i]? = some u→us[i]? = some v→bc u v=false)∧(∀ i u v,s≤i→i<r0→us[aN+m-1-i]? = some u→us[i]? = some v→bc u v=true)∧st=OX n c a m b aN (aN+m) us s g) ?_ ?_ (fun x st hne hq=>absurd hq.1 hne)
 ·refine a8.block ?_
  refine a8.loop (fun k st=>∃ s r g,s0≤s∧s≤r∧r≤r0∧k=r-s∧(∀ i u v,s0≤i→i<s→us[aN+m-1-i]? = some u→us[i]? = some v→bc u v=false)∧(∀ i u v,r≤i→i<r0→us[aN+m-1-i]? = some u→us[i]? = some v→bc u v=true)∧st=B0 n c a m b (aN+m-1) aN (aN+m) us s r g) ?_ (k:=r0-s0)
    ⟨s0,r0,g,Nat.le_refl _,hs0,Nat.le_refl _,rfl,(fun i u v h1 h2=>by omega),(fun i u v h1 h2=>by omega),rfl⟩
  rintro k st ⟨s,r,g,h1,h2,h3,rfl,hlo,hhi,rfl⟩;cases h151:decide (s<r) with
  | false =>
    have e:s=r:=by have:=of_decide_eq_false h151; omega
    subst e;refine a8.piece bf follows 1 _ _ _ _ (Nn us n c a m b s s (aN+m-1) aN (aN+m) g) (Met.cons (bu h151) Met.nil) ay.nil az.nil EU rfl rfl (bp us []) rfl fun g'=>.inr ⟨by simp,?_⟩
    show (if (8:Nat)=8 then _ else _)
    rw [if_pos rfl];exact ⟨rfl,s,g',h1,h3,hlo,hhi,rfl⟩
  | true =>
    have hlt:=of_decide_eq_true h151
    have hq1:s≤(s+r) / 2:=by omega
    have hq2:(s+r) / 2<r:=by omega
    have hhv:∀ l,Met l→Met (HN s r ((s+r) / 2) l):=fun l q=>tV (show s+r<3000000 by have:=H s h1 (by omega); omega) q
    generalize (s+r) / 2=h at *;obtain ⟨c1,c2,c3,c4,c5⟩:=H h (by omega) (by omega)
    obtain ⟨v,hv⟩:∃ v,us[h]? = some v:=gz (by omega)
    obtain ⟨u,hu⟩:∃ u,us[aN+m-1-h]? = some u:=gz (by omega)
    have met:∀ {b':Bool} {l:List db},bc u v=b'→Met l→Met (S8 us n c h s r (aN+m-1) u v b' l):=fun hb' hl =>
      Met.cons (bu h151) (hhv _ (Met.cons (dF (by omega) c5) (Met.cons (de (by omega)) (Met.cons (eU (fk _) hu) (Met.cons (de (by omega)) (Met.cons (eU (fk _) hv) (Met.cons (qe hb') hl)))))))
    cases h170:bc u v with
    | false =>
      refine a8.piece bf follows 1 _ _ _ _ (Nk us n c a m b h s r (aN+m-1) aN (aN+m) u v g) (met h170 (Met.cons (bz (by omega)) Met.nil)) ay.nil az.nil EU rfl rfl (bp us []) rfl fun g'=>.inl ⟨rfl,r-(h+1),by omega,h+1,r,g',by omega,by omega,h3,rfl,fun i u' v' i1 i2 hu' hv'=>?_,hhi,rfl⟩
      obtain ⟨d1,d2,d3,d4,d5⟩:=H i i1 (by omega)
      have s1:=SX d1 (show i≤h by omega) c2 hv' hv
      have s2:=SY c3 (show aN+m-1-h≤aN+m-1-i by omega) d4 hu hu'
      exact sw.ntr u' v v' (KY d3 d4 hu') (KX c1 c2 hv) (KX d1 d2 hv') (sw.ntr u' u v (KY d3 d4 hu') (KY c3 c4 hu) (KX c1 c2 hv) s2 h170) s1
    | true =>
      refine a8.piece bf follows 1 _ _ _ _ (Nl us n c a m b h s r (aN+m-1) aN (aN+m) u v g) (met h170 Met.nil) ay.nil az.nil EU rfl rfl (bp us []) rfl fun g'=>.inl ⟨rfl,h-s,by omega,s,h,g',h1,hq1,by omega,rfl,hlo,fun i u' v' i1 i2 hu' hv'=>?_,rfl⟩
      obtain ⟨d1,d2,d3,d4,d5⟩:=H i (by omega) i2
      cases e:bc u' v' with
      | true=>rfl
      | false =>
        have s1:=SX c1 i1 d2 hv hv'
        have s2:=SY d3 (show aN+m-1-i≤aN+m-1-h by omega) c4 hu' hu
        have:=sw.ntr u v' v (KY c3 c4 hu) (KX d1 d2 hv') (KX c1 c2 hv) (sw.ntr u u' v' (KY c3 c4 hu) (KY d3 d4 hu') (KX d1 d2 hv') s2 e) s1
        rw [this] at h170; cases h170
 rintro st ⟨-,s,g,hs1,hs2,hlo,hhi,rfl⟩;have bs:a≤s∧s≤m∧s≤aN∧m≤aN+m-s∧aN+m-s≤b:=by rcases hcase with ⟨q1,q2,q3⟩ | ⟨q1,q2,q3⟩ <;> omega
 obtain ⟨bs1,bs2,bs3,bs4,bs5⟩:=bs;obtain ⟨X1,X2,hXe,lX1⟩:∃ X1 X2,X=X1++X2∧X1.length=s-a:=⟨X.take (s-a),X.drop (s-a),(List.take_append_drop _ _).symm,by simp; omega⟩
 obtain ⟨Y1,Y2,hYe,lY1⟩:∃ Y1 Y2,Y=Y1++Y2∧Y1.length=aN-s:=⟨Y.take (aN-s),Y.drop (aN-s),(List.take_append_drop _ _).symm,by simp; omega⟩
 have lX:X.length=X1.length+X2.length:=by rw [hXe]; simp
 have lY:Y.length=Y1.length+Y2.length:=by rw [hYe]; simp
 have iX1:∀ z∈X1,∃ i,a≤i∧i<s∧us[i]? = some z:=fun z hz=>by
  obtain ⟨i,hi⟩:=List.mem_iff_getElem?.1 hz;have hlt:=(List.getElem?_eq_some_iff.1 hi).1
  exact ⟨a+i,by omega,by omega,by rw [gX (by omega) (by omega),hXe,show a+i-a=i by omega,List.getElem?_append_left hlt,hi]⟩
 have iX2:∀ z∈X2,∃ i,s≤i∧i<m∧us[i]? = some z:=fun z hz=>by
  obtain ⟨i,hi⟩:=List.mem_iff_getElem?.1 hz;have hlt:=(List.getElem?_eq_some_iff.1 hi).1
  exact ⟨s+i,by omega,by omega,by rw [gX (by omega) (by omega),hXe,List.getElem?_append_right (by omega),show s+i-a-X1.length=i by omega,hi]⟩
 have iY1:∀ z∈Y1,∃ i,m≤i∧i<aN+m-s∧us[i]? = some z:=fun z hz=>by
  obtain ⟨i,hi⟩:=List.mem_iff_getElem?.1 hz;have hlt:=(List.getElem?_eq_some_iff.1 hi).1
  exact ⟨m+i,by omega,by omega,by rw [gY (by omega) (by omega),hYe,show m+i-m=i by omega,List.getElem?_append_left hlt,hi]⟩
 have iY2:∀ z∈Y2,∃ i,aN+m-s≤i∧i<b∧us[i]? = some z:=fun z hz=>by
  obtain ⟨i,hi⟩:=List.mem_iff_getElem?.1 hz;have hlt:=(List.getElem?_eq_some_iff.1 hi).1
  exact ⟨aN+m-s+i,by omega,by omega,by rw [gY (by omega) (by omega),hYe,List.getElem?_append_right (by omega),show aN+m-s+i-m-Y1.length=i by omega,hi]⟩
 have C1:∀ y∈Y1,∀ z∈X2,bc y z=true:=fun y hy z hz=>by
  obtain ⟨j,j1,j2,hj⟩:=iY1 y hy;obtain ⟨i,i1,i2,hi⟩:=iX2 z hz;have hsr:s<r0:=by rcases hcase with ⟨q1,q2,q3⟩ | ⟨q1,q2,q3⟩ <;> omega
  obtain ⟨d1,d2,d3,d4,d5⟩:=H s hs1 hsr;obtain ⟨v,hv⟩:∃ v,us[s]? = some v:=gz (by omega)
  obtain ⟨u,hu⟩:∃ u,us[aN+m-1-s]? = some u:=gz (by omega)
  have hk:=hhi s u v (Nat.le_refl _) hsr hu hv
  cases e:bc y z with
  | true=>rfl
  | false =>
    have s1:=SX d1 i1 i2 hv hi
    have s2:=SY j1 (show j≤aN+m-1-s by omega) d4 hj hu
    have:=sw.ntr u z v (KY d3 d4 hu) (KX (by omega) i2 hi) (KX d1 d2 hv) (sw.ntr u y z (KY d3 d4 hu) (KY j1 (by omega) hj) (KX (by omega) i2 hi) s2 e) s1
    rw [this] at hk; cases hk
 have C2:∀ y∈Y2,∀ z∈X1,bc y z=false:=fun y hy z hz=>by
  obtain ⟨j,j1,j2,hj⟩:=iY2 y hy;obtain ⟨i,i1,i2,hi⟩:=iX1 z hz;have hsr:s0<s:=by rcases hcase with ⟨q1,q2,q3⟩ | ⟨q1,q2,q3⟩ <;> omega
  obtain ⟨d1,d2,d3,d4,d5⟩:=H (s-1) (by omega) (by omega)
  obtain ⟨v,hv⟩:∃ v,us[s-1]? = some v:=gz (by omega)
  obtain ⟨u,hu⟩:∃ u,us[aN+m-1-(s-1)]? = some u:=gz (by omega)
  have hk:=hlo (s-1) u v (by omega) (by omega) hu hv
  have s1:=SX i1 (show i≤s-1 by omega) d2 hi hv
  have s2:=SY d3 (show aN+m-1-(s-1)≤j by omega) j2 hu hj
  exact sw.ntr y v z (KY (by omega) j2 hj) (KX d1 d2 hv) (KX i1 (by omega) hi) (sw.ntr y u v (KY (by omega) j2 hj) (KY d3 d4 hu) (KX d1 d2 hv) s2 hk) s1
 obtain ⟨sX1,sX2,-⟩:=List.pairwise_append.1 (show mB bc (X1++X2) by rw [← hXe]; exact sX)
 obtain ⟨sY1,sY2,sY12⟩:=List.pairwise_append.1 (show mB bc (Y1++Y2) by rw [← hYe]; exact sY)
 have hsplit:dB bc X Y=dB bc X1 Y1++dB bc X2 Y2:=by rw [hXe,hYe]; exact su C1 C2 fun y hy z hz=>sY12 z hz y hy
 have kX1:∀ z∈X1,Kn z:=fun z hz=>kX z (by rw [hXe]; simp [hz])
 have kX2:∀ z∈X2,Kn z:=fun z hz=>kX z (by rw [hXe]; simp [hz])
 have kY1:∀ z∈Y1,Kn z:=fun z hz=>kY z (by rw [hYe]; simp [hz])
 have kY2:∀ z∈Y2,Kn z:=fun z hz=>kY z (by rw [hYe]; simp [hz])
 refine a8.seq (Q1:=fun e st=>e = .normal∧∃ g,st=pa n c a m b aN us s (aN+m-s) g) (a8.piece bf follows 1 _ _ _ _ (QZ us n c a m b s aN (aN+m) g) (Met.cons (dF (by omega) (by omega)) Met.nil) ay.nil az.nil R4 rfl rfl (bp us []) rfl fun g=>⟨rfl,g,rfl⟩) ?_ (fun x st hne hq=>absurd hq.1 hne)
 rintro st ⟨-,g,rfl⟩;have he:aN+m-s=m+Y1.length:=by omega
 have he2:aN+m-s=aN+X2.length:=by omega
 generalize aN+m-s=e at *;have ln2:(A++X1++Y1++X2++Y2++C).length=n:=by rw [hn,hlen]; simp; omega

 refine a8.seq (Q1:=fun ex st=>ex = .normal∧∃ g,st=pa n c a m b aN (A++X1++Y1++X2++Y2++C) s e g) ?_ ?_ (fun x st hne hq=>absurd hq.1 hne)
 ·cases h180:decide (s<m) with
  | false =>
    have:X2 = []:=List.eq_nil_of_length_eq_zero (by have:=of_decide_eq_false h180; omega)
    subst this;have e1:us=A++X1++Y1 ++ []++Y2++C:=by rw [hus,hXe,hYe]; simp
    rw [← e1];exact a8.piece hc follows 1 _ _ _ _ (No (fQ w) us n c a m b s e aN g) (Met.cons (bu h180) Met.nil) ay.nil az.nil EV rfl rfl (bp us []) rfl fun g=>⟨rfl,g,rfl⟩
  | true =>
    have l1:=of_decide_eq_true h180
    cases h184:decide (m<e) with
    | false =>
      have:Y1 = []:=List.eq_nil_of_length_eq_zero (by have:=of_decide_eq_false h184; omega)
      subst this;have e1:us=A++X1 ++ []++X2++Y2++C:=by rw [hus,hXe,hYe]; simp
      rw [← e1];exact a8.piece hc follows 1 _ _ _ _ (Np (fQ w) us n c a m b s e aN g) (Met.cons (bu h180) (Met.cons (bu h184) Met.nil)) ay.nil az.nil EV rfl rfl (bp us []) rfl fun g=>⟨rfl,g,rfl⟩
    | true =>
      have l2:=of_decide_eq_true h184
      have hcall:fQ w 209 [ae 0 n c,iN s,iN m,iN e,Fc] (hW us)=some (vU,(hW us).put 0 (ab (A++X1++Y1++X2++Y2++C))):=by
        rw [Cj];have:=Gp (A:=A++X1) (X:=X2) (Y:=Y1) (C:=Y2++C) (us:=us) (k:=0) (n:=n) (c:=c) (a:=s) (m:=m) (b:=e) (hp:=hW us) (by rw [hus,hXe,hYe]; simp) (by simp; omega) (by omega) he (by omega) (by omega) hn hl (dz us)
        rw [this]; simp
      exact a8.piece hc follows 1 _ _ _ _ (Nr (fQ w) us _ n c a m b s e aN g) (Met.cons (bu h180) (Met.cons (bu h184) Met.nil)) (ay.cons hcall ay.nil) az.nil EV rfl rfl (bp _ []) rfl fun g=>⟨rfl,g,rfl⟩
 rintro st ⟨-,g,rfl⟩

 have lm1:(dB bc X1 Y1).length=X1.length+Y1.length:=zB
 have ln3:(A++dB bc X1 Y1++X2++Y2++C).length=n:=by rw [hn,hlen]; simp [lm1]; omega
 refine a8.seq (Q1:=fun ex st=>ex = .normal∧∃ g,st=pa n c a m b aN (A++dB bc X1 Y1++X2++Y2++C) s e g) ?_ ?_ (fun x st hne hq=>absurd hq.1 hne)
 ·cases h194:decide (a<s) with
  | false =>
    have:X1 = []:=List.eq_nil_of_length_eq_zero (by have:=of_decide_eq_false h194; omega)
    subst this;rw [gu sY1,List.append_nil];exact a8.piece hc follows 1 _ _ _ _ (Ns (fQ w) _ n c a m b s e aN g) (Met.cons (bu h194) Met.nil) ay.nil az.nil EW rfl rfl (bp _ []) rfl fun g=>⟨rfl,g,rfl⟩
  | true =>
    have l1:=of_decide_eq_true h194
    cases h198:decide (s<aN) with
    | false =>
      have:Y1 = []:=List.eq_nil_of_length_eq_zero (by have:=of_decide_eq_false h198; omega)
      subst this;have e1:dB bc X1 []=X1:=rfl
      rw [e1,List.append_nil];exact a8.piece hc follows 1 _ _ _ _ (Nt (fQ w) _ n c a m b s e aN g) (Met.cons (bu h194) (Met.cons (bu h198) Met.nil)) ay.nil az.nil EW rfl rfl (bp _ []) rfl fun g=>⟨rfl,g,rfl⟩
    | true =>
      have l2:=of_decide_eq_true h198
      have hcall:fQ w 179 [ae 0 n c,iN a,iN s,iN aN,Fc] (hW (A++X1++Y1++X2++Y2++C))=some (vU,(hW (A++X1++Y1++X2++Y2++C)).put 0 (ab (A++dB bc X1 Y1++X2++Y2++C))):=by
        rw [vb];have:=pz (w:=w) (A:=A) (X:=X1) (Y:=Y1) (C:=X2++Y2++C) (us:=A++X1++Y1++X2++Y2++C) (k:=0) (n:=n) (c:=c) (a:=a) (m:=s) (b:=aN) (hp:=hW (A++X1++Y1++X2++Y2++C)) (by simp) hA (by omega) (by omega) (by omega) (by omega) ln2.symm hl (by omega) kX1 kY1 sX1 sY1 (dz _)
        rw [this]; simp
      exact a8.piece hc follows 1 _ _ _ _ (Nu (fQ w) _ _ n c a m b s e aN g) (Met.cons (bu h194) (Met.cons (bu h198) Met.nil)) (ay.cons hcall ay.nil) az.nil EW rfl rfl (bp _ []) rfl fun g=>⟨rfl,g,rfl⟩
 rintro st ⟨-,g,rfl⟩

 rw [hsplit];have fin:A++(dB bc X1 Y1++dB bc X2 Y2)++C=A++dB bc X1 Y1++dB bc X2 Y2++C:=by simp
 rw [fin];cases h208:decide (aN<e) with
 | false =>
   have:X2 = []:=List.eq_nil_of_length_eq_zero (by have:=of_decide_eq_false h208; omega)
   subst this;rw [gu sY2,List.append_nil];exact a8.piece hc follows 1 _ _ _ _ (Nv (fQ w) _ n c a m b s e aN g) (Met.cons (bu h208) Met.nil) ay.nil az.nil EX rfl rfl (bp _ []) rfl fun g=>⟨.inl rfl,g,rfl⟩
 | true =>
   have l1:=of_decide_eq_true h208
   cases h212:decide (e<b) with
   | false =>
     have:Y2 = []:=List.eq_nil_of_length_eq_zero (by have:=of_decide_eq_false h212; omega)
     subst this;have e1:dB bc X2 []=X2:=rfl
     rw [e1,List.append_nil];exact a8.piece hc follows 1 _ _ _ _ (Nx (fQ w) _ n c a m b s e aN g) (Met.cons (bu h208) (Met.cons (bu h212) Met.nil)) ay.nil az.nil EX rfl rfl (bp _ []) rfl fun g=>⟨.inl rfl,g,rfl⟩
   | true =>
     have l2:=of_decide_eq_true h212
     have hcall:fQ w 179 [ae 0 n c,iN aN,iN e,iN b,Fc] (hW (A++dB bc X1 Y1++X2++Y2++C))=some (vU,(hW (A++dB bc X1 Y1++X2++Y2++C)).put 0 (ab (A++dB bc X1 Y1++dB bc X2 Y2++C))):=by
       rw [vb];exact pz (w:=w) (A:=A++dB bc X1 Y1) (X:=X2) (Y:=Y2) (C:=C) rfl (by simp [lm1]; omega) he2 (by omega) (by omega) (by omega) ln3.symm hl (by omega) kX2 kY2 sX2 sY2 (dz _)
     exact a8.piece hc follows 1 _ _ _ _ (Ny (fQ w) _ _ n c a m b s e aN g) (Met.cons (bu h208) (Met.cons (bu h212) Met.nil)) (ay.cons hcall ay.nil) az.nil EX rfl rfl (bp _ []) rfl fun g=>⟨.inl rfl,g,rfl⟩
theorem NT{w:Nat}(hc:ba Tryz.prog (fQ w)){A X Y C us:List aa}{n c a m b:Nat}(hus:us=A++X++Y++C)(hA:A.length=a)(hm:m=a+X.length)(hb:b=m+Y.length)(hX:0<X.length)(hY:0<Y.length)(hw:b-a≤w+1)
  (hn:n=us.length) (hl:n<1000000) (kX:∀ u∈X,Kn u) (kY:∀ u∈Y,Kn u) (sX:mB bc X) (sY:mB bc Y) (W:bh) (x:Nat×Nat×Nat) :
  a8 Tryz.prog 220 W x ze ⟨tmsOf [ae 0 n c,iN a,iN m,iN b,Fc] 0 .leaf,heapOf [ab us,.dead] aE,[]⟩ (uO (A++dB bc X Y++C)):=by
 have hlen:us.length=a+X.length+Y.length+C.length:=by rw [hus]; simp; omega
 let Q1:Exit→St→Prop:=fun e st=>(e = .normal∧∃ g,st=BB n c a m b us false g)∨(e = .ret∧uO (A++dB bc X Y++C) e st)
 refine a8.seq (Q1:=Q1) ?_ ?_ ?_
 ·refine a8.seq (Q1:=fun e st=>e = .normal∧∃ g,st=BB n c a m b us (m-a==1) g) (a8.piece bf follows 1 _ _ _ _ (QL dO us n c a m b (m-a==1)) (Met.cons (dF (by omega) (by omega)) (Met.cons (De rfl) Met.nil)) ay.nil az.nil RN rfl rfl (bp us []) rfl fun g=>⟨rfl,g,rfl⟩) ?_ (fun x st hne hq=>absurd hq.1 hne)
  rintro st ⟨-,g,rfl⟩;cases h28:(m-a==1) with
  | true =>
    have e1:m-a=1:=by simpa using h28
    obtain ⟨z,rfl⟩:∃ z,X = [z]:=List.length_eq_one_iff.1 (by omega)
    refine a8.cond_true (by kernel_rfl) (by kernel_rfl) ?_
    have:=Fj (n:=n) (c:=c) (b:=b) hus hA (by simpa using hm) hb hn hl (kX z (.head _)) kY sY W x g
    exact a8.mono this fun e st q=>.inr ⟨q.1,.inr q.1,q.2⟩
  | false=>exact a8.cond_false (by kernel_rfl) (by kernel_rfl) (a8.skip (.inl ⟨rfl,g,rfl⟩))
 ·rintro st (⟨-,g,rfl⟩ | ⟨h,-⟩)
  ·let Q2:Exit→St→Prop:=fun e st=>(e = .normal∧∃ g,st=rX n c a m b us false g)∨(e = .ret∧uO (A++dB bc X Y++C) e st)
   refine a8.seq (Q1:=Q2) ?_ ?_ ?_
   ·refine a8.seq (Q1:=fun e st=>e = .normal∧∃ g,st=rX n c a m b us (b-m==1) g) (a8.piece bf follows 1 _ _ _ _ (QP us n c a m b (b-m==1) g) (Met.cons (dF (by omega) (by omega)) (Met.cons (De rfl) Met.nil)) ay.nil az.nil RS rfl rfl (bp us []) rfl fun g=>⟨rfl,g,rfl⟩) ?_ (fun x st hne hq=>absurd hq.1 hne)
    rintro st ⟨-,g,rfl⟩;cases h80:(b-m==1) with
    | true =>
      have e1:b-m=1:=by simpa using h80
      obtain ⟨y,rfl⟩:∃ y,Y = [y]:=List.length_eq_one_iff.1 (by omega)
      refine a8.cond_true (by kernel_rfl) (by kernel_rfl) ?_
      have:=Bi (n:=n) (c:=c) (b:=b) (d:=true) hus hA hm hn hl (kY y (.head _)) kX sX W x g
      exact a8.mono this fun e st q=>.inr ⟨q.1,.inr q.1,q.2⟩
    | false=>exact a8.cond_false (by kernel_rfl) (by kernel_rfl) (a8.skip (.inl ⟨rfl,g,rfl⟩))
   ·rintro st (⟨-,g,rfl⟩ | ⟨h,-⟩)
    ·exact Mf hc hus hA hm hb hX hY hw hn hl kX kY sX sY W x g
    ·cases h
   ·rintro e st hne (⟨h,-⟩ | ⟨-,h⟩)
    ·exact absurd h hne
    ·exact h
  ·cases h
 ·rintro e st hne (⟨h,-⟩ | ⟨-,h⟩)
  ·exact absurd h hne
  ·exact h
theorem Jn:∀ (w:Nat) (us:List aa),us.length<1000000→aq Tryz.prog 179 (g102 w us)
 | 0,us,hn=>ic follows Tryz.func179 yY (by kernel_rfl) fun args hp v hp' he hk=>by
   exfalso;unfold g102 at he;split at he
   case h_2=>cases he
   split at he
   case isFalse=>cases he
   rename_i hT;obtain ⟨-,-,h1,h2,h3,h4,-⟩:=hT;omega
 | w+1,us,hn=>ic follows Tryz.func179 yY (by kernel_rfl) fun args hp v hp' he hk=>by
   have hc:ba Tryz.prog (fQ w):=aQ (bC (aT .nil) (.cons Mq (.cons (fP fun us hn=>Jn w us hn) .nil))) follows 5
   unfold g102 at he;split at he
   case h_2=>cases he
   rename_i k n c a m b f;split at he
   case isFalse=>cases he
   rename_i hT;cases he;obtain ⟨rfl,⟨b',c',e,hb⟩,h1,h2,h3,h4,k1,k2,s1,s2⟩:=hT;simp only [ae,Value.slice.injEq,Option.some.injEq,Addr.mk.injEq,and_true] at e;obtain ⟨rfl,rfl,rfl⟩:=e;refine ky (is:=[a,m,b]) hk hb (by rw [ntmps102]; simp) fun W x=>?_
   rw [ntmps102];refine a8.mono (NT hc (Pk (us:=us) (Nat.le_of_lt h1) (Nat.le_of_lt h2)) (by simp; omega) (by simp; omega) (by simp; omega) (by simp; omega) (by simp; omega) h4 rfl hn k1 k2 s1 s2 W x) fun e st q=>?_
   obtain ⟨q1,g,rfl⟩:=q;exact ⟨q1,rfl,UT _ g,by show (heapOf _ aE).get 0=_; rw [ak]; rfl⟩
noncomputable def J':aC:=atW (g102 1000000)
theorem Mp:aq Tryz.prog 179 J':=fP fun us hn=>Jn 1000000 us hn
noncomputable def Ti:Ext:=fh (cS Tryz.prog []) [(178,BN),(179,J')]
noncomputable def pn:aG:=aCall Tryz.prog Ti 5
theorem fC:ba Tryz.prog pn:=aQ (bC (aT .nil) (.cons Mo (.cons Mp .nil))) follows 5
theorem za(args:List Value)(hp:Hp):pn 178 args hp=BN args hp:=by
 show aCall Tryz.prog Ti 5 178 _ _=_
 rw [aCall]; rfl
theorem zb(args:List Value)(hp:Hp):pn 179 args hp=J' args hp:=by
 show aCall Tryz.prog Ti 5 179 _ _=_
 rw [aCall]; rfl
noncomputable def Dm:Code:=(Tryz.f158.body).getD .skip
noncomputable def LI:Code:=sL Dm
noncomputable def LJ:Code:=sL (sR Dm)
noncomputable def CL:Code:=mr (jh (sL (sR (sR Dm))))
noncomputable def LK:Code:=sL (sR (sR (sR Dm)))
noncomputable def P9:Code:=mr (jh (sR (sR (sR (sR Dm)))))
noncomputable def G3:Code:=sL P9
noncomputable def LL:Code:=sL (jh (sR P9))
noncomputable def CM:Code:=mr (jh (sL (sR (jh (sR P9)))))
noncomputable def G4:Code:=sL (sR (sR (jh (sR P9))))
noncomputable def LM:Code:=sR (sR (sR (jh (sR P9))))
noncomputable abbrev C8:Code:=.seq LI (.seq LJ (.seq (.block 0 (.loop CL)) (.seq LK (.block 2 (.loop (.seq G3 (.block 3 (.seq LL (.seq (.block 4 (.loop CM)) (.seq G4 LM))))))))))
theorem KW:Tryz.f158.body=some C8:=by kernel_rfl
theorem ntmps88:Tryz.f158.ntmps=63:=by kernel_rfl
theorem XZ(O:List af)(g:Nat→Value):retVal Tryz.prog Tryz.f158 (av 63 g [] O)=some vU:=by kernel_rfl
theorem WE:codeSafe Tryz.prog 63 LI=true:=by kernel_rfl
theorem WG:codeSafe Tryz.prog 63 LJ=true:=by kernel_rfl
theorem Sh:codeSafe Tryz.prog 63 CL=true:=by kernel_rfl
theorem WH:codeSafe Tryz.prog 63 LK=true:=by kernel_rfl
theorem Si:codeSafe Tryz.prog 63 G3=true:=by kernel_rfl
theorem WI:codeSafe Tryz.prog 63 LL=true:=by kernel_rfl
theorem Sj:codeSafe Tryz.prog 63 CM=true:=by kernel_rfl
theorem Sk:codeSafe Tryz.prog 63 G4=true:=by kernel_rfl
theorem WJ:codeSafe Tryz.prog 63 LM=true:=by kernel_rfl
section
variable (us us':List aa) (n c a b s:Nat) (g:Nat→Value)
abbrev BC(us:List aa)(g:Nat→Value):St:=av 63 g [(0,ae 0 n c),(1,iN n),(2,Fc),(6,iN s)] [ab us]
abbrev F7(us:List aa)(a b:Nat)(g:Nat→Value):St:=av 63 g [(0,ae 0 n c),(1,iN n),(2,Fc),(6,iN s),(7,iN a),(8,iN b)] [ab us]
abbrev OO(us:List aa)(a:Nat)(g:Nat→Value):St:=av 63 g [(0,ae 0 n c),(1,iN n),(2,Fc),(6,iN s),(7,iN a)] [ab us]
theorem V8:(execE Tryz.prog pn [] [] [] 10 LI ⟨tmsOf [ae 0 n c,iN n,Fc] 0 .leaf,heapOf [ab us,.dead] aE,[]⟩).map (fun z=>(look2 1 [0] [0,1,2,6] (z.1,z.2.1),z.2.2)) =
 some ((.normal,[ab us],[(0,ae 0 n c),(1,iN n),(2,Fc),(6,iN 20)],true),[],[],[]):=by kernel_rfl
theorem V9:(execE Tryz.prog pn [] [] [] 10 LJ (BC n c s us g)).map (fun z=>(look2 1 [0] [0,1,2,6,7,8] (z.1,z.2.1),z.2.2)) =
 some ((.normal,[ab us],[(0,ae 0 n c),(1,iN n),(2,Fc),(6,iN s),(7,iN 0),(8,iN s)],true),[],[],[]):=by kernel_rfl
theorem Rn:(execE Tryz.prog pn [(13,.bool false)] [] [] 10 CL (F7 n c s us a b g)).map (fun z=>(look2 1 [0] [0,1,2,6,7] (z.1,z.2.1),z.2.2)) =
 some ((.exit 0,[ab us],[(0,ae 0 n c),(1,iN n),(2,Fc),(6,iN s),(7,iN a)],true),[Oc b n false],[],[]):=by kernel_rfl
theorem V':(execE Tryz.prog pn [(13,.bool true),(22,iN (b+s))] [] [(18,vU,[.put 0 (ab us')])] 10 CL (F7 n c s us a b g)).map (fun z=>(look2 1 [0] [0,1,2,6,7,8] (z.1,z.2.1),z.2.2)) =
 some ((.normal,[ab us'],[(0,ae 0 n c),(1,iN n),(2,Fc),(6,iN s),(7,iN b),(8,iN (b+s))],true),[Oc b n true,yW b s],[(pn 178 [ae 0 n c,iN a,iN b,Fc] (hW us),(vU,(hW us).put 0 (ab us')))],[]):=by kernel_rfl
theorem Wa:(execE Tryz.prog pn [] [] [(27,vU,[.put 0 (ab us')])] 10 LK (OO n c s us a g)).map (fun z=>(look2 1 [0] [0,1,2,6] (z.1,z.2.1),z.2.2)) =
 some ((.normal,[ab us'],[(0,ae 0 n c),(1,iN n),(2,Fc),(6,iN s)],true),[],[(pn 178 [ae 0 n c,iN a,iN n,Fc] (hW us),(vU,(hW us).put 0 (ab us')))],[]):=by kernel_rfl
theorem Ro:(execE Tryz.prog pn [(30,.bool false)] [] [] 10 G3 (BC n c s us g)).map (fun z=>(look2 1 [0] [] (z.1,z.2.1),z.2.2))=some ((.exit 2,[ab us],[],true),[iD s n false],[],[]):=by kernel_rfl
theorem Wb:(execE Tryz.prog pn [(30,.bool true)] [] [] 10 G3 (BC n c s us g)).map (fun z=>(look2 1 [0] [0,1,2,6] (z.1,z.2.1),z.2.2)) =
 some ((.normal,[ab us],[(0,ae 0 n c),(1,iN n),(2,Fc),(6,iN s)],true),[iD s n true],[],[]):=by kernel_rfl
theorem Wc:(execE Tryz.prog pn [(32,iN (2*s))] [] [] 10 LL (BC n c s us g)).map (fun z=>(look2 1 [0] [0,1,2,6,7,8] (z.1,z.2.1),z.2.2)) =
 some ((.normal,[ab us],[(0,ae 0 n c),(1,iN n),(2,Fc),(6,iN s),(7,iN 0),(8,iN (2*s))],true),[S' s],[],[]):=by kernel_rfl
theorem Rp:(execE Tryz.prog pn [(35,.bool false)] [] [] 10 CM (F7 n c s us a b g)).map (fun z=>(look2 1 [0] [0,1,2,6,7] (z.1,z.2.1),z.2.2)) =
 some ((.exit 4,[ab us],[(0,ae 0 n c),(1,iN n),(2,Fc),(6,iN s),(7,iN a)],true),[Oc b n false],[],[]):=by kernel_rfl
theorem Wd:(execE Tryz.prog pn [(35,.bool true),(40,iN (a+s)),(47,iN (2*s)),(48,iN (b+2*s))] [] [(43,vU,[.put 0 (ab us')])] 10 CM (F7 n c s us a b g)).map (fun z=>(look2 1 [0] [0,1,2,6,7,8] (z.1,z.2.1),z.2.2)) =
 some ((.normal,[ab us'],[(0,ae 0 n c),(1,iN n),(2,Fc),(6,iN s),(7,iN b),(8,iN (b+2*s))],true),[Oc b n true,yW a s,S' s,yW b (2*s)],[(pn 179 [ae 0 n c,iN a,iN (a+s),iN b,Fc] (hW us),(vU,(hW us).put 0 (ab us')))],[]):=by kernel_rfl
theorem Rq:(execE Tryz.prog pn [(51,iN (a+s)),(54,.bool false)] [] [] 10 G4 (OO n c s us a g)).map (fun z=>(look2 1 [0] [0,1,2,6] (z.1,z.2.1),z.2.2)) =
 some ((.normal,[ab us],[(0,ae 0 n c),(1,iN n),(2,Fc),(6,iN s)],true),[yW a s,iD (a+s) n false],[],[]):=by kernel_rfl
theorem Rr:(execE Tryz.prog pn [(51,iN (a+s)),(54,.bool true)] [] [(60,vU,[.put 0 (ab us')])] 10 G4 (OO n c s us a g)).map (fun z=>(look2 1 [0] [0,1,2,6] (z.1,z.2.1),z.2.2)) =
 some ((.normal,[ab us'],[(0,ae 0 n c),(1,iN n),(2,Fc),(6,iN s)],true),[yW a s,iD (a+s) n true],[(pn 179 [ae 0 n c,iN a,iN (a+s),iN n,Fc] (hW us),(vU,(hW us).put 0 (ab us')))],[]):=by kernel_rfl
theorem We:(execE Tryz.prog pn [(62,iN (2*s))] [] [] 10 LM (BC n c s us g)).map (fun z=>(look2 1 [0] [0,1,2,6] (z.1,z.2.1),z.2.2)) =
 some ((.normal,[ab us],[(0,ae 0 n c),(1,iN n),(2,Fc),(6,iN (2*s))],true),[TH s],[],[]):=by kernel_rfl
end
theorem Dw{us:List aa}{n c:Nat}(hn:n=us.length)(hl:n<1000000)(W:bh)(x:Nat×Nat×Nat)(g:Nat→Value) :
  a8 Tryz.prog 63 W x (.block 0 (.loop CL)) (F7 n c 20 us 0 20 g) (fun e st=>e = .normal∧∃ P R g,P++iW 20 R=iW 20 us∧P.length+R.length=n∧R.length<20∧st=OO n c 20 (P++R) P.length g):=by
 refine a8.block ?_
 refine a8.loop (fun k st=>∃ P R g,P++iW 20 R=iW 20 us∧P.length+R.length=n∧k=R.length∧st=F7 n c 20 (P++R) P.length (P.length+20) g) ?_ (k:=us.length) ⟨[],us,g,rfl,by simp [hn],rfl,rfl⟩
 rintro k st ⟨P,R,g,h1,h2,rfl,rfl⟩;cases h13:decide (P.length+20≤n) with
 | false =>
   have hlt:=of_decide_eq_false h13
   refine a8.piece fC follows 1 _ _ _ _ (Rn (P++R) n c P.length (P.length+20) 20 g) (Met.cons (tY h13) Met.nil) ay.nil az.nil Sh rfl rfl (bp _ []) rfl fun g'=>.inr ⟨by simp,?_⟩
   show (if (0:Nat)=0 then _ else _)
   rw [if_pos rfl];exact ⟨rfl,P,R,g',h1,h2,by omega,rfl⟩
 | true =>
   have hle:=of_decide_eq_true h13
   obtain ⟨R1,R2,rfl,Mh⟩:=cutAt (R:=R) (s:=20) (by omega)
   have hcall:pn 178 [ae 0 n c,iN P.length,iN (P.length+20),Fc] (hW (P++(R1++R2)))=some (vU,(hW (P++(R1++R2))).put 0 (ab (P++aO bc R1++R2))):=by
     rw [za];exact yT (A:=P) (X:=R1) (C:=R2) (by simp) rfl (by omega) (by rw [List.length_append]; exact h2.symm) hl (dz _)
   have hPl:(P++aO bc R1).length=P.length+20:=by rw [List.length_append,bP,Mh]
   refine a8.piece fC follows 1 _ _ _ _ (V' (P++(R1++R2)) (P++aO bc R1++R2) n c P.length (P.length+20) 20 g) (Met.cons (tY h13) (Met.cons (gL (by omega)) Met.nil)) (ay.cons hcall ay.nil) az.nil Sh rfl rfl (bp _ []) rfl
     fun g'=>.inl ⟨rfl,R2.length,by simp; omega,P++aO bc R1,R2,g',?_,?_,rfl,by rw [hPl]⟩
   ·rw [← h1,mK (by omega) Mh,List.append_assoc]
   ·rw [hPl]; rw [List.length_append] at h2; omega
theorem DQ{us:List aa}{n c s:Nat}(hs:0<s)(hsn:s<n)(hn:n=us.length)(hl:n<1000000)(hK:∀ z∈us,Kn z)(W:bh)(x:Nat×Nat×Nat)(g:Nat→Value) :
  a8 Tryz.prog 63 W x (.block 4 (.loop CM)) (F7 n c s (iW s us) 0 (2*s) g) (fun e st=>e = .normal∧∃ P R g,P++iW (2*s) R=iW (2*s) us∧P.length+R.length=n∧R.length<2*s∧(∀ z∈R,Kn z)∧st=OO n c s (P++iW s R) P.length g):=by
 refine a8.block ?_
 refine a8.loop (fun k st=>∃ P R g,P++iW (2*s) R=iW (2*s) us∧P.length+R.length=n∧k=R.length∧(∀ z∈R,Kn z)∧st=F7 n c s (P++iW s R) P.length (P.length+2*s) g) ?_ (k:=us.length) ⟨[],us,g,rfl,by simp [hn],rfl,hK,by simp⟩
 rintro k st ⟨P,R,g,h1,h2,rfl,hKR,rfl⟩;cases h35:decide (P.length+2*s≤n) with
 | false =>
   have hlt:=of_decide_eq_false h35
   refine a8.piece fC follows 1 _ _ _ _ (Rp (P++iW s R) n c P.length (P.length+2*s) s g) (Met.cons (tY h35) Met.nil) ay.nil az.nil Sj rfl rfl (bp _ []) rfl fun g'=>.inr ⟨by simp,?_⟩
   show (if (4:Nat)=4 then _ else _)
   rw [if_pos rfl];exact ⟨rfl,P,R,g',h1,h2,by omega,hKR,rfl⟩
 | true =>
   have hle:=of_decide_eq_true h35
   obtain ⟨R1,R',rfl,Mh⟩:=cutAt (R:=R) (s:=s) (by omega)
   rw [List.length_append] at h2;obtain ⟨R2,R3,rfl,hR2⟩:=cutAt (R:=R') (s:=s) (by omega)
   rw [List.length_append] at h2;have k1:∀ z∈R1,Kn z:=fun z hz=>hKR z (by simp [hz])
   have k2:∀ z∈R2,Kn z:=fun z hz=>hKR z (by simp [hz])
   have k3:∀ z∈R3,Kn z:=fun z hz=>hKR z (by simp [hz])
   have e1:iW s (R1++(R2++R3))=aO bc R1++(aO bc R2++iW s R3):=by rw [mK hs Mh,mK hs hR2]
   have e2:iW (2*s) (R1++(R2++R3))=aO bc (R1++R2)++iW (2*s) R3:=by rw [← List.append_assoc,mK (by omega) (by simp; omega)]
   rw [e1];have Ob:(iW s R3).length=R3.length:=GO
   have hcall:pn 179 [ae 0 n c,iN P.length,iN (P.length+s),iN (P.length+2*s),Fc] (hW (P++(aO bc R1++(aO bc R2++iW s R3))))=some (vU,(hW (P++(aO bc R1++(aO bc R2++iW s R3)))).put 0 (ab (P++aO bc (R1++R2)++iW s R3))):=by
     rw [zb,← sM k1 k2];exact pz (A:=P) (X:=aO bc R1) (Y:=aO bc R2) (C:=iW s R3) (by simp) rfl (by rw [bP]; omega) (by rw [bP]; omega) (by rw [bP]; omega) (by rw [bP]; omega) (by simp [bP,Ob]; omega) hl (by omega) (kS k1) (kS k2) (Iw k1) (Iw k2) (dz _)
   have hPl:(P++aO bc (R1++R2)).length=P.length+2*s:=by rw [List.length_append,bP]; simp; omega
   refine a8.piece fC follows 1 _ _ _ _ (Wd _ (P++aO bc (R1++R2)++iW s R3) n c P.length (P.length+2*s) s g) (Met.cons (tY h35) (Met.cons (gL (by omega)) (Met.cons (FJ (by omega)) (Met.cons (gL (by omega)) Met.nil)))) (ay.cons hcall ay.nil) az.nil Sj rfl rfl (bp _ []) rfl
     fun g'=>.inl ⟨rfl,R3.length,by simp; omega,P++aO bc (R1++R2),R3,g',?_,?_,rfl,k3,by rw [hPl]⟩
   ·rw [← h1,e2,List.append_assoc]
   ·rw [hPl]; omega
theorem Bj{us:List aa}{n c:Nat}(hn:n=us.length)(hl:n<1000000)(hK:∀ z∈us,Kn z)(W:bh)(x:Nat×Nat×Nat) :
  a8 Tryz.prog 63 W x C8 ⟨tmsOf [ae 0 n c,iN n,Fc] 0 .leaf,heapOf [ab us,.dead] aE,[]⟩ (uQ 63 (aO bc us)):=by
 refine a8.seq (Q1:=fun e st=>e = .normal∧∃ g,st=BC n c 20 us g) (a8.piece fC follows 1 _ _ _ _ (V8 us n c) Met.nil ay.nil az.nil WE rfl rfl (bp us []) rfl fun g=>⟨rfl,g,rfl⟩) ?_ (fun x st hne hq=>absurd hq.1 hne)
 rintro st ⟨-,g,rfl⟩;refine a8.seq (Q1:=fun e st=>e = .normal∧∃ g,st=F7 n c 20 us 0 20 g) (a8.piece fC follows 1 _ _ _ _ (V9 us n c 20 g) Met.nil ay.nil az.nil WG rfl rfl (bp us []) rfl fun g=>⟨rfl,g,rfl⟩) ?_ (fun x st hne hq=>absurd hq.1 hne)
 rintro st ⟨-,g,rfl⟩;refine a8.seq (Dw hn hl W x g) ?_ (fun x st hne hq=>absurd hq.1 hne)
 rintro st ⟨-,P,R,g,h1,h2,h3,rfl⟩;refine a8.seq (Q1:=fun e st=>e = .normal∧∃ g,st=BC n c 20 (iW 20 us) g) ?_ ?_ (fun x st hne hq=>absurd hq.1 hne)
 ·have hcall:pn 178 [ae 0 n c,iN P.length,iN n,Fc] (hW (P++R))=some (vU,(hW (P++R)).put 0 (ab (iW 20 us))):=by
   rw [za,← h1,iY (by omega) (by omega)]
   have:=yT (A:=P) (X:=R) (C:=[]) (us:=P++R) (k:=0) (n:=n) (c:=c) (a:=P.length) (b:=n) (hp:=hW (P++R)) (by simp) rfl (by omega) (by rw [List.length_append]; exact h2.symm) hl (dz _)
   rw [this]; simp
  exact a8.piece fC follows 1 _ _ _ _ (Wa (P++R) (iW 20 us) n c P.length 20 g) Met.nil (ay.cons hcall ay.nil) az.nil WH rfl rfl (bp _ []) rfl fun g=>⟨rfl,g,rfl⟩
 rintro st ⟨-,g,rfl⟩;refine a8.block ?_
 refine a8.loop (fun k st=>∃ s g,0<s∧k=n-s∧st=BC n c s (iW s us) g) ?_ (k:=n-20) ⟨20,g,by omega,rfl,rfl⟩
 rintro k st ⟨s,g,hs,rfl,rfl⟩;cases h30:decide (s<n) with
 | false =>
   have hge:=of_decide_eq_false h30
   refine a8.seq (Q1:=fun e st=>e = .exit 2∧∃ g,st=av 63 g [] [ab (aO bc us)]) ?_ (fun st hq=>by cases hq.1) ?_
   ·rw [iY hs (by omega)]
    exact a8.piece fC follows 1 _ _ _ _ (Ro (aO bc us) n c s g) (Met.cons (bu h30) Met.nil) ay.nil az.nil Si rfl rfl (bp _ []) rfl fun g'=>⟨rfl,g',rfl⟩
   ·rintro e st hne ⟨rfl,g',rfl⟩
    refine .inr ⟨by simp,?_⟩
    show (if (2:Nat)=2 then _ else _)
    rw [if_pos rfl];exact ⟨rfl,g',rfl⟩
 | true =>
   have hlt:=of_decide_eq_true h30
   refine a8.seq (Q1:=fun e st=>e = .normal∧∃ g,st=BC n c s (iW s us) g) (a8.piece fC follows 1 _ _ _ _ (Wb (iW s us) n c s g) (Met.cons (bu h30) Met.nil) ay.nil az.nil Si rfl rfl (bp _ []) rfl fun g=>⟨rfl,g,rfl⟩) ?_ (fun x st hne hq=>absurd hq.1 hne)
   rintro st ⟨-,g,rfl⟩;refine a8.block ?_
   refine a8.mono (Q:=fun e st=>e = .normal∧∃ g,st=BC n c (2*s) (iW (2*s) us) g) ?_ (fun e st q=>by
     obtain ⟨rfl,g,rfl⟩:=q;exact .inl ⟨rfl,n-2*s,by omega,2*s,g,by omega,rfl,rfl⟩)
   refine a8.seq (Q1:=fun e st=>e = .normal∧∃ g,st=F7 n c s (iW s us) 0 (2*s) g) (a8.piece fC follows 1 _ _ _ _ (Wc (iW s us) n c s g) (Met.cons (FJ (by omega)) Met.nil) ay.nil az.nil WI rfl rfl (bp _ []) rfl fun g=>⟨rfl,g,rfl⟩) ?_ (fun x st hne hq=>absurd hq.1 hne)
   rintro st ⟨-,g,rfl⟩;refine a8.seq (DQ hs hlt hn hl hK W x g) ?_ (fun x st hne hq=>absurd hq.1 hne)
   rintro st ⟨-,P,R,g,h1,h2,h3,hKR,rfl⟩;refine a8.seq (Q1:=fun e st=>e = .normal∧∃ g,st=BC n c s (iW (2*s) us) g) ?_ ?_ (fun x st hne hq=>absurd hq.1 hne)
   ·have eR:iW (2*s) R=aO bc R:=iY (by omega) (by omega)
    rw [← h1,eR];cases h54:decide (P.length+s<n) with
    | false =>
      have hge:=of_decide_eq_false h54
      rw [iY hs (by omega)]
      exact a8.piece fC follows 1 _ _ _ _ (Rq (P++aO bc R) n c P.length s g) (Met.cons (gL (by omega)) (Met.cons (bu h54) Met.nil)) ay.nil az.nil Sk rfl rfl (bp _ []) rfl fun g=>⟨rfl,g,rfl⟩
    | true =>
      have hlt2:=of_decide_eq_true h54
      obtain ⟨R1,R2,rfl,Mh⟩:=cutAt (R:=R) (s:=s) (by omega)
      rw [List.length_append] at h2 h3;have k1:∀ z∈R1,Kn z:=fun z hz=>hKR z (by simp [hz])
      have k2:∀ z∈R2,Kn z:=fun z hz=>hKR z (by simp [hz])
      have e1:iW s (R1++R2)=aO bc R1++aO bc R2:=by rw [mK hs Mh,iY hs (by omega)]
      rw [e1];have hcall:pn 179 [ae 0 n c,iN P.length,iN (P.length+s),iN n,Fc] (hW (P++(aO bc R1++aO bc R2)))=some (vU,(hW (P++(aO bc R1++aO bc R2))).put 0 (ab (P++aO bc (R1++R2)))):=by
        rw [zb,← sM k1 k2];have:=pz (w:=1000000) (A:=P) (X:=aO bc R1) (Y:=aO bc R2) (C:=[]) (us:=P++(aO bc R1++aO bc R2)) (k:=0) (n:=n) (c:=c) (a:=P.length) (m:=P.length+s) (b:=n) (hp:=hW (P++(aO bc R1++aO bc R2)))
          (by simp) rfl (by rw [bP]; omega) (by rw [bP]; omega) (by rw [bP]; omega) (by rw [bP]; omega) (by simp [bP]; omega) hl (by omega) (kS k1) (kS k2) (Iw k1) (Iw k2) (dz _)
        rw [List.append_nil] at this;exact this
      exact a8.piece fC follows 1 _ _ _ _ (Rr _ (P++aO bc (R1++R2)) n c P.length s g) (Met.cons (gL (by omega)) (Met.cons (bu h54) Met.nil)) (ay.cons hcall ay.nil) az.nil Sk rfl rfl (bp _ []) rfl fun g=>⟨rfl,g,rfl⟩
   ·rintro st ⟨-,g,rfl⟩
    exact a8.piece fC follows 1 _ _ _ _ (We (iW (2*s) us) n c s g) (Met.cons (LZ (by omega)) Met.nil) ay.nil az.nil WJ rfl rfl (bp _ []) rfl fun g=>⟨rfl,g,rfl⟩
open Classical in
noncomputable def g88(us:List aa):aC:=fun args hp=>match args with
 | [.slice (some ⟨k,0,none⟩) n c,.int .i64 (.ofNat n'),f]=>if f=Fc∧cL us (.slice (some ⟨k,0,none⟩) n c) hp∧n'=n∧(∀ z∈us,Kn z) then some (vU,hp.put k (ab (aO bc us))) else none
 | _=>none
theorem Ub(us:List aa)(hn:us.length<1000000):aq Tryz.prog 158 (g88 us):=ic follows Tryz.func158 KW (by kernel_rfl) fun args hp v hp' he hk=>by
 unfold g88 at he;split at he
 case h_2=>cases he
 rename_i k n c n' f;split at he
 case isFalse=>cases he
 rename_i hT;cases he;obtain ⟨rfl,⟨b',c',e,hb⟩,rfl,h2⟩:=hT;simp only [ae,Value.slice.injEq,Option.some.injEq,Addr.mk.injEq,and_true] at e;obtain ⟨rfl,rfl,rfl⟩:=e;refine ky (is:=[us.length]) hk hb (by rw [ntmps88]; simp) fun W x=>?_
 rw [ntmps88];refine a8.mono (Bj rfl hn h2 W x) fun e st q=>?_
 obtain ⟨rfl,g,rfl⟩:=q;exact ⟨.inl rfl,rfl,XZ _ g,by show (heapOf _ aE).get 0=_; rw [ak]; rfl⟩
noncomputable def OF:aC:=atW g88
theorem PQ:aq Tryz.prog 158 OF:=fP fun us hn=>Ub us hn
open Classical in
theorem Kg{us:List aa}{k n c:Nat}{hp:Hp}(hn:n=us.length)(hl:n<1000000)(hK:∀ z∈us,Kn z)(hb:hp.get k=some (ab us)):OF [ae k n c,iN n,Fc] hp=some (vU,hp.put k (ab (aO bc us))):=by
 subst hn;have hr:cL us (ae k us.length c) hp:=⟨k,c,rfl,hb⟩
 unfold OF;rw [lW hr hl];show (if Fc=Fc∧cL us (ae k us.length c) hp∧us.length=us.length∧(∀ z∈us,Kn z) then some (vU,hp.put k (ab (aO bc us))) else none)=_
 rw [if_pos ⟨rfl,hr,rfl,hK⟩]
noncomputable def W4:Ext:=fh (cS Tryz.prog []) [(158,OF)]
noncomputable def Pg:aG:=aCall Tryz.prog W4 5
theorem LD:ba Tryz.prog Pg:=aQ (bC (aT .nil) (.cons PQ .nil)) follows 5
theorem LC(args:List Value)(hp:Hp):Pg 158 args hp=OF args hp:=by
 show aCall Tryz.prog W4 5 158 _ _=_
 rw [aCall]; rfl
noncomputable def L7:Code:=(Tryz.f125.body).getD .skip
theorem KT:Tryz.f125.body=some L7:=by kernel_rfl
theorem ntmps76:Tryz.f125.ntmps=9:=by kernel_rfl
theorem Yc:codeSafe Tryz.prog 9 L7=true:=by kernel_rfl
theorem XX(O:List af)(g:Nat→Value):retVal Tryz.prog Tryz.f125 (av 9 g [] O)=some vU:=by kernel_rfl
theorem X4(us us':List aa)(n c:Nat):(execE Tryz.prog Pg [] [] [(8,vU,[.put 0 (ab us')])] 10 L7 ⟨tmsOf [ae 0 n c,Fc] 0 .leaf,heapOf [ab us,.dead] aE,[]⟩).map (fun z=>(look2 1 [0] [] (z.1,z.2.1),z.2.2)) =
 some ((.normal,[ab us'],[],true),[],[(Pg 158 [ae 0 n c,iN n,Fc] (hW us),(vU,(hW us).put 0 (ab us')))],[]):=by kernel_rfl
open Classical in
noncomputable def g76(us:List aa):aC:=fun args hp=>match args with
 | [.slice (some ⟨k,0,none⟩) n c,f]=>if f=Fc∧cL us (.slice (some ⟨k,0,none⟩) n c) hp∧(∀ z∈us,Kn z) then some (vU,hp.put k (ab (aO bc us))) else none
 | _=>none
theorem T7(us:List aa)(hn:us.length<1000000):aq Tryz.prog 125 (g76 us):=ic follows Tryz.func125 KT (by kernel_rfl) fun args hp v hp' he hk=>by
 unfold g76 at he;split at he
 case h_2=>cases he
 rename_i k n c f;split at he
 case isFalse=>cases he
 rename_i hT;cases he;obtain ⟨rfl,⟨b',c',e,hb⟩,h2⟩:=hT;simp only [ae,Value.slice.injEq,Option.some.injEq,Addr.mk.injEq,and_true] at e;obtain ⟨rfl,rfl,rfl⟩:=e;refine ky (is:=[]) hk hb (by rw [ntmps76]; simp) fun W x=>?_
 rw [ntmps76];have hcall:Pg 158 [ae 0 us.length c,iN us.length,Fc] (hW us)=some (vU,(hW us).put 0 (ab (aO bc us))):=by rw [LC]; exact Kg rfl hn h2 (dz us)
 exact a8.piece LD follows 1 _ _ _ _ (X4 us _ us.length c) Met.nil (ay.cons hcall ay.nil) az.nil Yc rfl rfl (bp _ []) rfl fun g=>⟨.inl rfl,rfl,XX _ g,by show (heapOf _ aE).get 0=_; rw [ak]; rfl⟩
noncomputable def OE:aC:=atW g76
theorem PO:aq Tryz.prog 125 OE:=fP fun us hn=>T7 us hn
open Classical in
theorem Kf{us:List aa}{k n c:Nat}{hp:Hp}(hn:n=us.length)(hl:n<1000000)(hK:∀ z∈us,Kn z)(hb:hp.get k=some (ab us)):OE [ae k n c,Fc] hp=some (vU,hp.put k (ab (aO bc us))):=by
 subst hn;have hr:cL us (ae k us.length c) hp:=⟨k,c,rfl,hb⟩
 unfold OE;rw [lW hr hl];show (if Fc=Fc∧cL us (ae k us.length c) hp∧(∀ z∈us,Kn z) then some (vU,hp.put k (ab (aO bc us))) else none)=_
 rw [if_pos ⟨rfl,hr,hK⟩]
theorem Mx:∃ i,Tryz.prog.info? 151=some i∧i.size=7∧i.bytes=56:=by
 have h:(Tryz.prog.info? 151).map (fun i=>(i.size,i.bytes))=some (7,56):=by kernel_rfl
 obtain ⟨i,h1,h2⟩:=Option.map_eq_some_iff.1 h;simp only [Prod.mk.injEq] at h2;exact ⟨i,h1,h2.1,h2.2⟩
theorem NZ:∃ z,tzero Tryz.prog 151=some z∧z.length=7:=by
 have h:(tzero Tryz.prog 151).map (fun z=>z.length)=some 7:=by kernel_rfl
 obtain ⟨z,h1,h2⟩:=Option.map_eq_some_iff.1 h;exact ⟨z,h1,h2⟩
def jC(vs:List aa):af:=match vs with
 | []=>.dead
 | _::_=>ab vs
theorem ma(us:List aa):aA (jC us)=true:=by
 cases us with
 | nil=>rfl
 | cons=>exact aw _
theorem pH{l:List aa}(h:l≠[]):jC l=ab l:=by
 cases l with
 | nil=>exact absurd rfl h
 | cons=>rfl
theorem yX{get:Nat→Option af}{sz b b2 k:Nat}{ws:List aa}{x:aa}{f:Bool}(hf:f = !ws.isEmpty)(hb:get b=some (jC ws))(hb2:get b2=some (vB x))(hk:k=ws.length)(hl:k<2000000) :
  aAppend Tryz.prog get sz [149,149] [vS f b k 22,ae b2 1 22]=some (aW sz (k+1),gl f b (ab (ws ++ [x]))):=by
 obtain ⟨i,hi,h7,pg⟩:=Mx;obtain ⟨z,hz,hzl⟩:=NZ;have hb2':get b2=some (.cells 151 (vc x) false):=hb2
 have hsrc:aSrc Tryz.prog get 7 z (.slice 151) (ae b2 1 22)=some (vc x,1):=by
  unfold aSrc;simp only [ae,srcLen,srcCells,hb2'];rw [if_neg (by omega),if_neg (by omega),cx (n:=1*7) rfl]
  rfl
 have e:aK [x]=vc x:=by unfold aK; simp
 cases ws with
 | cons w ws =>
   subst hf hk;have hbw:get b=some (.cells 151 (aK (w::ws)) false):=hb
   show aAppend Tryz.prog get sz [149,149] [aW b (w::ws).length,ae b2 1 22]=some (aW sz ((w::ws).length+1),[.put b .dead,.push (ab ((w::ws) ++ [x]))])
   generalize w::ws=us at *;have hg:eA (aK us) 0 (us.length*7)=some (aK us):=cx (bT us)
   unfold aAppend;simp only [underlying80,hi,hz,h7,pg,hzl];rw [if_neg (by decide)]
   simp only [hsrc];rw [if_neg (by simp [vc,isOne])]
   simp only [aW];rw [if_neg (by omega),if_neg (by omega)]
   simp only [hbw,hg];rw [if_neg (by omega),if_pos (by decide),if_neg (by rw [bT]; omega)]
   unfold ab;rw [e7,e]
 | nil =>
   subst hf hk;show aAppend Tryz.prog get sz [149,149] [au,ae b2 1 22]=some (aW sz 1,[.push (ab [x])])
   unfold aAppend;simp only [underlying80,hi,hz,h7,pg,hzl];rw [if_neg (by decide)]
   simp only [hsrc];rw [if_neg (by simp [vc,isOne])]
   simp only [au];rw [if_neg (by omega),if_neg (by omega)]
   unfold ab;rw [e]; rfl
noncomputable def Xd(h:Hp)(sz b k b2:Nat)(f:Bool)(us:List aa):jn:=(aAppend Tryz.prog h.get sz [149,149] [vS f b k 22,ae b2 1 22],(aW sz (k+1),gl f b (ab us)))
def Hh(own x:aa):Int:=dir own.n own.t own.o own.r own.d own.i x.n x.t x.o x.r x.d x.i
def pD(d:Int)(own x:aa):Bool:=Hh own x==d
theorem QB{d:Int}{own x:aa}(hd:d=1∨d=2)(h:pD d own x=true):Kn x:=by
 unfold pD Hh dir at h;cases hk:known x.n x.t x.o x.r x.d x.i with
 | true=>exact hk
 | false =>
   rw [hk] at h;rcases hd with rfl | rfl <;> simp at h
noncomputable def SV(own x:aa)(d:Int)(b:Bool):db:=(some (.bool (Hh own x==d)),.bool b)
noncomputable def Tg:Ext:=fh (cS Tryz.prog [(124,g14)]) [(125,OE)]
theorem JY:ExtOk Tryz.prog Tg:=bC (aT (.cons TO (.nil))) (.cons PO (.nil))
noncomputable def vk:aG:=aCall Tryz.prog Tg 5
theorem fB:ba Tryz.prog vk:=aQ JY follows 5
theorem Ly(args:List Value)(hp:Hp):vk 125 args hp=OE args hp:=by
 show aCall Tryz.prog Tg 5 125 _ _=_
 rw [aCall]; rfl
noncomputable def Pf:aG:=aCall Tryz.prog (cS Tryz.prog []) 60
theorem G1:ba Tryz.prog Pf:=aQ (aT .nil) follows 60
noncomputable def TJ:Code:=(Tryz.f63.body).getD .skip
noncomputable def F':Nat→Code
 | 0=>TJ
 | n+1=>sR (F' n)
noncomputable def GW:Code:=sL (F' 0)
noncomputable def Lz:Code:=sL (F' 1)
noncomputable def LA:Code:=sL (sL (F' 2))
noncomputable def CI:Code:=mr (jh (sR (sL (F' 2))))
noncomputable def GX:Code:=sL (F' 3)
noncomputable def GY:Code:=sL (F' 4)
noncomputable def GZ:Code:=sL (sL (F' 5))
noncomputable def CJ:Code:=mr (jh (sR (sL (F' 5))))
noncomputable def G0:Code:=F' 6
noncomputable abbrev C6:Code:=.seq GW (.seq Lz (.seq (.seq LA (.block 0 (.loop CI))) (.seq GX (.seq GY (.seq (.seq GZ (.block 2 (.loop CJ))) G0)))))
theorem KO:Tryz.f63.body=some C6:=by kernel_rfl
theorem ntmps56:Tryz.f63.ntmps=45:=by kernel_rfl
theorem Se:codeSafe Tryz.prog 45 GW=true:=by kernel_rfl
theorem Ws:codeSafe Tryz.prog 45 Lz=true:=by kernel_rfl
theorem Wt:codeSafe Tryz.prog 45 LA=true:=by kernel_rfl
theorem NJ:codeSafe Tryz.prog 45 CI=true:=by kernel_rfl
theorem Wu:codeSafe Tryz.prog 45 GX=true:=by kernel_rfl
theorem Wv:codeSafe Tryz.prog 45 GY=true:=by kernel_rfl
theorem Ww:codeSafe Tryz.prog 45 GZ=true:=by kernel_rfl
theorem Sf:codeSafe Tryz.prog 45 CJ=true:=by kernel_rfl
theorem Wx:codeSafe Tryz.prog 45 G0=true:=by kernel_rfl
noncomputable def EL:Code:=.seq GX (.seq GY (.seq (.seq GZ (.block 2 (.loop CJ))) G0))
theorem Wy:codeSafe Tryz.prog 45 EL=true:=by kernel_rfl
theorem Xo(v:Value)(O:List af)(g:Nat→Value):retVal Tryz.prog Tryz.f63 (av 45 g [(6,v)] O)=some v:=by kernel_rfl
section
variable (f fu fi:Bool) (o U I:af) (n c u i k q j:Nat) (d:Int) (x own:aa) (us ws zs:List aa) (ids:List Int) (g:Nat→Value)
theorem VM:(execE Tryz.prog vk [] [] [] 20 GW ⟨tmsOf [ae 0 n c,cP own,.int .i64 d] 0 .leaf,heapOf [o,.dead] aE,[]⟩).map (fun z=>(look2 1 [0,2] [0,2,4] (z.1,z.2.1),z.2.2)) =
 some ((.normal,[o,hB own],[(0,ae 0 n c),(2,.int .i64 d),(4,pb 1 0)],true),[],[],[]):=by kernel_rfl
theorem UB:(execE Tryz.prog vk [] [] [] 20 GW ⟨tmsOf [au,cP own,.int .i64 d] 0 .leaf,heapOf [.dead] aE,[]⟩).map (fun z=>(look2 1 [0,1] [0,2,4] (z.1,z.2.1),z.2.2)) =
 some ((.normal,[.dead,hB own],[(0,au),(2,.int .i64 d),(4,pb 1 0)],true),[],[],[]):=by kernel_rfl
theorem VN:(execE Tryz.prog vk [] [] [] 20 Lz (av 45 g [(0,vS f 0 n c),(2,.int .i64 d),(4,pb 1 0)] [o,hB own])).map (fun z=>(look2 2 [0,2,1] [0,2,4,7] (z.1,z.2.1),z.2.2)) =
 some ((.normal,[o,.dead,hB own],[(0,vS f 0 n c),(2,.int .i64 d),(4,pb 2 0),(7,au)],true),[],[],[]):=by cases f <;> kernel_rfl
theorem VO:(execE Tryz.prog vk [] [] [] 20 LA (av 45 g [(0,vS f 0 n c),(2,.int .i64 d),(4,pb 2 0),(7,au)] [o,.dead,hB own])).map (fun z=>(look2 2 [0,1,2] [2,4,7,13,14,15] (z.1,z.2.1),z.2.2)) =
 some ((.normal,[o,.dead,hB own],[(2,.int .i64 d),(4,pb 2 0),(7,au),(13,vS f 0 n c),(14,iN (kk f n)),(15,iN 0)],true),[],[],[]):=by cases f <;> kernel_rfl
abbrev OM(U:af)(fu:Bool)(u i:Nat)(g:Nat→Value):St:=(av 45 g [(2,.int .i64 d),(4,pb 2 0),(7,vS fu 1 u 22),(13,vS f 0 n c),(14,iN (kk f n)),(15,iN i)] [o,U,hB own])
def pg(o U:af)(own:aa):Hp:=heapOf ([o,U,hB own] ++ [.dead]) aE
theorem VV:(execE Tryz.prog vk [(16,.bool false)] [] [] 20 CI (OM f o n c d own U fu u i g)).map (fun z=>(look2 1 [1] [7] (z.1,z.2.1),z.2.2)) =
 some ((.exit 0,[U],[(7,vS fu 0 u 22)],true),[iD i (kk f n) false],[],[]):=by cases f <;> cases fu <;> kernel_rfl
theorem VQ:(execE Tryz.prog vk [(16,.bool true),(17,pb 0 (i*7)),(18,.agg ⟨vc x⟩),(29,iN (i+1)),(24,.bool false)] [] [] 20 CI (OM true o n c d own U fu u i g)).map (fun z=>(look2 2 [0,1,2] [2,4,7,13,14,15] (z.1,z.2.1),z.2.2)) =
 some ((.normal,[o,U,hB own],[(2,.int .i64 d),(4,pb 2 0),(7,vS fu 1 u 22),(13,ae 0 n c),(14,iN n),(15,iN (i+1))],true),[iD i n true,LtA.gV 0 n c i,j4 (pg o U own).get 78 0 (i*7) (.agg ⟨vc x⟩),SV own x d false,dI i],[],[]):=by cases fu <;> kernel_rfl
theorem VU:(execE Tryz.prog vk [(16,.bool true),(17,pb 0 (i*7)),(18,.agg ⟨vc x⟩),(29,iN (i+1)),(24,.bool true)] [] [(28,aW 6 (u+1),gl fu 1 (ab zs))] 20 CI (OM true o n c d own U fu u i g)).map (fun z=>(look2 2 [0,6,2] [2,4,7,13,14,15] (z.1,z.2.1),z.2.2)) =
 some ((.normal,[o,ab zs,hB own],[(2,.int .i64 d),(4,pb 2 0),(7,aW 1 (u+1)),(13,ae 0 n c),(14,iN n),(15,iN (i+1))],true),[iD i n true,LtA.gV 0 n c i,j4 (pg o U own).get 78 0 (i*7) (.agg ⟨vc x⟩),SV own x d true,dI i],[],[Xd (((pg o U own).push (LtA.vB x)).push (vB x)) 6 1 u 5 fu zs]):=by cases fu <;> kernel_rfl
theorem UC:(execQ Tryz.prog Pf [] 60 EL (av 45 g [(7,au)] [.dead])).map (fun z=>(look2 0 [] [6] (z.1,z.2.1),z.2.2))=some ((.ret,[],[(6,au)],true),[]):=by kernel_rfl
theorem VP:(execE Tryz.prog vk [] [] [(31,vU,[.put 0 (ab us)])] 20 GX (av 45 g [(7,aW 0 k)] [ab ws])).map (fun z=>(look2 1 [0] [7] (z.1,z.2.1),z.2.2)) =
 some ((.normal,[ab us],[(7,aW 0 k)],true),[],[(vk 125 [aW 0 k,Fc] (hW ws),(vU,(hW ws).put 0 (ab us)))],[]):=by kernel_rfl
theorem Rl:(execE Tryz.prog vk [] [] [] 20 GY (av 45 g [(7,aW 0 k)] [ab ws])).map (fun z=>(look2 2 [0,1] [7,10] (z.1,z.2.1),z.2.2)) =
 some ((.normal,[ab ws,.dead],[(7,aW 0 k),(10,au)],true),[],[],[]):=by kernel_rfl
theorem VR:(execE Tryz.prog vk [] [] [] 20 GZ (av 45 g [(7,aW 0 k),(10,au)] [ab ws,.dead])).map (fun z=>(look2 2 [0,1] [10,32,33,34] (z.1,z.2.1),z.2.2)) =
 some ((.normal,[ab ws,.dead],[(10,au),(32,aW 0 k),(33,iN k),(34,iN 0)],true),[],[],[]):=by kernel_rfl
abbrev SR(ws:List aa)(I:af)(fi:Bool)(n q j:Nat)(g:Nat→Value):St:=(av 45 g [(10,vI fi 1 q),(32,aW 0 n),(33,iN n),(34,iN j)] [ab ws,I])
theorem Rm:(execE Tryz.prog vk [(35,.bool false)] [] [] 20 CJ (SR ws I fi n q j g)).map (fun z=>(look2 1 [1] [10] (z.1,z.2.1),z.2.2)) =
 some ((.exit 2,[I],[(10,vI fi 0 q)],true),[iD j n false],[],[]):=by cases fi <;> kernel_rfl
def xW(ws:List aa)(I:af):Hp:=heapOf ([ab ws,I] ++ [.dead]) aE
theorem VS:(execE Tryz.prog vk [(35,.bool true),(36,pb 0 (j*7)),(37,.agg ⟨vc x⟩),(43,iN (j+1))] [] [(42,jd 5 (q+1),gl fi 1 (iB ids))] 20 CJ (SR ws I fi n q j g)).map (fun z=>(look2 2 [0,5] [10,32,33,34] (z.1,z.2.1),z.2.2)) =
 some ((.normal,[ab ws,iB ids],[(10,jd 1 (q+1)),(32,aW 0 n),(33,iN n),(34,iN (j+1))],true),[iD j n true,gV 0 n 22 j,j4 (xW ws I).get 151 0 (j*7) (.agg ⟨vc x⟩),dI j],[],[XQ (((xW ws I).push (vB x)).push (.cells 3 [iC x.id] false)) 5 1 q 4 fi ids]):=by cases fi <;> kernel_rfl
theorem VT:(execE Tryz.prog vk [] [] [] 20 G0 (av 45 g [(10,vI fi 0 q)] [I])).map (fun z=>(look2 1 [0] [6] (z.1,z.2.1),z.2.2)) =
 some ((.ret,[I],[(6,vI fi 0 q)],true),[],[],[]):=by cases fi <;> kernel_rfl
end
def gT(d:Int)(own:aa)(vs:List aa):List Int:=(aO bc (vs.filter (pD d own))).map fun x=>x.id
def ofR(vs:List aa):xm:=fun rest=>match rest with
 | [v,.int .i64 d]=>if d=1∨d=2 then (unH v).map fun own=>(rowIv (gT d own vs) 0,qQ (gT d own vs)) else none
 | _=>none
theorem oq(ids:List Int)(b:Nat):vI (!ids.isEmpty) b ids.length=rowIv ids b:=by cases ids <;> rfl
theorem tP{fn:Func}{N t:Nat}(q:∀ (v:Value) (O:List af) (g:Nat→Value),retVal Tryz.prog fn (av N g [(t,v)] O)=some v)(ids:List Int)(g:Nat→Value):BL fn (rowIv ids 0) (qQ ids) .ret (av N g [(t,rowIv ids 0)] [dv ids]):=by
 refine ⟨.inr rfl,rfl,q _ _ g,fun B hB=>?_⟩
 cases ids with
 | nil=>cases hB
 | cons i ids=>cases hB; show (heapOf _ aE).get 0=_; rw [ak]; rfl
theorem Ru(vs:List aa)(hn:vs.length<1000000):∀ rest v0 O,ofR vs rest=some (v0,O)→lU Tryz.f63 C6 45 vs rest v0 O:=fun rest v0 O h=>by
 unfold ofR at h;split at h
 case h_2=>cases h
 rename_i v d;split at h
 case isFalse=>cases h
 rename_i hd;obtain ⟨own,hown,h2⟩:=Option.map_eq_some_iff.1 h;obtain rfl:=nG hown;cases h2;refine ⟨wO _,z6 _,(by intro r hr; have e:r=cP own∨r = .int .i64 d:=(by simpa using hr); rcases e with e | e <;> rw [e]; exact yC _; exact wW _ _),by simp,fun f o c W ho hrow hfl=>?_⟩
 have hkk:=qt hfl
 have fx2:∀ us:List aa,∀ r:List af,∀ i,i<2→∀ o',(o::jC us::r)[i]? = some o'→dw 0 o':=fun us=>vC ho (ma us)
 refine ah.seq (Q1:=fun e st=>e = .normal∧∃ g,st=av 45 g [(0,vS f 0 vs.length c),(2,.int .i64 d),(4,pb 1 0)] [o,hB own]) ?_ ?_ (fun x st hne hq=>absurd hq.1 hne)
 ·cases f with
  | true=>exact ah.aL fB follows 1 _ _ _ _ (VM o vs.length c d own) Met.nil ay.nil az.nil Se rfl rfl (cq ho _) fun g=>⟨rfl,g,rfl⟩
  | false =>
    obtain ⟨rfl,rfl⟩:=hfl rfl;exact ah.aL fB follows 1 _ _ _ _ (UB d own) Met.nil ay.nil az.nil Se rfl rfl (cq rfl _) fun g=>⟨rfl,g,rfl⟩
 rintro st ⟨-,g,rfl⟩;refine ah.seq (Q1:=fun e st=>e = .normal∧∃ g,st=av 45 g [(0,vS f 0 vs.length c),(2,.int .i64 d),(4,pb 2 0),(7,au)] [o,.dead,hB own]) (ah.aL fB follows 2 _ _ _ _ (VN f o vs.length c d own g) Met.nil ay.nil az.nil Ws rfl rfl (fx2 [] _) fun g=>⟨rfl,g,rfl⟩) ?_ (fun x st hne hq=>absurd hq.1 hne)
 rintro st ⟨-,g,rfl⟩;refine ah.seq (Q1:=fun e st=>e = .normal∧∃ g,st=av 45 g [(7,vS (!(vs.filter (pD d own)).isEmpty) 0 (vs.filter (pD d own)).length 22)] [jC (vs.filter (pD d own))]) ?_ ?_ (fun x st hne hq=>absurd hq.1 hne)
 ·refine ah.seq (Q1:=fun e st=>e = .normal∧∃ g,st=OM f o vs.length c d own .dead false 0 0 g) (ah.aL fB follows 2 _ _ _ _ (VO f o vs.length c d own g) Met.nil ay.nil az.nil Wt rfl rfl (fx2 [] _) fun g=>⟨rfl,g,rfl⟩) ?_ (fun x st hne hq=>absurd hq.1 hne)
  rintro st ⟨-,g,rfl⟩;refine ah.mono (ju (Dt (pD d own)) [] (fun us i g=>OM f o vs.length c d own (jC us) (!us.isEmpty) us.length i g) (fun us st=>∃ g,st=av 45 g [(7,vS (!us.isEmpty) 0 us.length 22)] [jC us]) (fun us g hf=>?_) (fun i x us g hx hlt hf=>?_) g) fun e st q=>by rw [qi] at q; exact q
  ·exact ah.aL fB follows 1 _ _ _ _ (VV f (!us.isEmpty) o (jC us) vs.length c us.length vs.length d own g) (Met.cons (bu (by rw [hkk]; simp)) Met.nil) ay.nil az.nil NJ rfl rfl (cq (ma us) []) fun g'=>⟨rfl,g',rfl⟩
  ·have hft:f=true:=by cases f with
      | true=>rfl
      | false=>rw [(hfl rfl).1] at hlt; simp at hlt
   subst hft;have hr:∃ ty ro,o = .cells ty (aK vs) ro:=by
     rcases hrow with h | h
     ·rw [h] at hlt; simp at hlt
     ·exact h
   have hul:us.length≤i:=by
     rw [← hf,qi];have:=List.length_filter_le (pD d own) (vs.take i)
     rw [List.length_take] at this;simp; omega
   have b0:ez (pg o (jC us) own) 0 vs:=kB hr
   have met:∀ {l:List db},Met l→Met (iD i vs.length true::LtA.gV 0 vs.length c i::j4 (pg o (jC us) own).get 78 0 (i*7) (.agg ⟨vc x⟩)::l):=fun hl=>Met.cons (bu (decide_eq_true hlt)) (Met.cons (LtA.bH hlt) (Met.cons (LtA.bM b0 hx) hl))
   have hnx:Met [dI i]:=Met.cons (bz (by omega)) Met.nil
   have dok:∀ {b:Bool},pD d own x=b→(SV own x d b).1=some (SV own x d b).2:=fun h=>by show some (Value.bool (Hh own x==d))=_; unfold pD at h; rw [h]; rfl
   cases h24:pD d own x with
   | false =>
     refine ah.aL fB follows 2 _ _ _ _ (VQ (!us.isEmpty) o (jC us) vs.length c us.length i d x own g) (met (Met.cons (dok h24) hnx)) ay.nil az.nil NJ rfl rfl (fx2 us _) fun g'=>⟨rfl,g',?_⟩
     unfold Dt; rw [h24]; rfl
   | true =>
     have g1:(((pg o (jC us) own).push (LtA.vB x)).push (vB x)).get 1=some (jC us):=by rw [Hp.cy,if_neg (by show (1:Nat)≠5; omega),Hp.cy,if_neg (by show (1:Nat)≠4; omega)]; unfold pg; rw [ak]; rfl
     have g5:(((pg o (jC us) own).push (LtA.vB x)).push (vB x)).get 5=some (vB x):=by rw [Hp.cy,if_pos (by show (5:Nat)=5; rfl)]
     refine ah.aL fB follows 2 _ _ _ _ (VU (!us.isEmpty) o (jC us) vs.length c us.length i d x own (us ++ [x]) g) (met (Met.cons (dok h24) hnx)) ay.nil (az.cons (yX rfl g1 g5 rfl (by omega)) az.nil) NJ rfl rfl
       (by rw [← pH (qA us x)]; exact fx2 _ _) fun g'=>⟨rfl,g',?_⟩
     unfold Dt; rw [h24,cond_true,pF,pH (qA us x)];have e1:(us ++ [x]).length=us.length+1:=by simp
     rw [e1]; rfl
 rintro st ⟨-,g,rfl⟩;have hfl':(vs.filter (pD d own)).length<1000000:=by have:=List.length_filter_le (pD d own) vs; omega
 have hfk:∀ z∈vs.filter (pD d own),Kn z:=fun z hz=>QB hd (List.mem_filter.1 hz).2
 unfold gT;generalize vs.filter (pD d own)=us at *;cases us with
 | nil=>exact ah.piece G1 follows 0 _ _ _ _ (UC g) Met.nil Wy rfl rfl rfl (dg _) fun g=>⟨.inr rfl,rfl,Xo _ _ g,(fun B hB=>by cases hB)⟩
 | cons w ws =>
   have hun:w::ws≠[]:=by simp
   generalize w::ws=us at *;rw [pH hun,kP hun];have hsl:(aO bc us).length=us.length:=bP
   have hcall:vk 125 [aW 0 us.length,Fc] (hW us)=some (vU,(hW us).put 0 (ab (aO bc us))):=by rw [Ly]; exact Kf rfl (by omega) hfk (dz us)
   refine ah.seq (Q1:=fun e st=>e = .normal∧∃ g,st=av 45 g [(7,aW 0 us.length)] [ab (aO bc us)]) (ah.aL fB follows 1 _ _ _ _ (VP us.length (aO bc us) us g) Met.nil (ay.cons hcall ay.nil) az.nil Wu rfl rfl (bp _ []) fun g=>⟨rfl,g,rfl⟩) ?_ (fun x st hne hq=>absurd hq.1 hne)
   rintro st ⟨-,g,rfl⟩;generalize aO bc us=ss at *;rw [← hsl];have fx:∀ r:List af,∀ i,i<2→∀ o',(ab ss :: .dead::r)[i]? = some o'→dw 0 o':=vC (aw ss) rfl
   refine ah.seq (Q1:=fun e st=>e = .normal∧∃ g,st=av 45 g [(7,aW 0 ss.length),(10,au)] [ab ss,.dead]) (ah.aL fB follows 2 _ _ _ _ (Rl ss.length ss g) Met.nil ay.nil az.nil Wv rfl rfl (fx []) fun g=>⟨rfl,g,rfl⟩) ?_ (fun x st hne hq=>absurd hq.1 hne)
   rintro st ⟨-,g,rfl⟩;refine ah.seq (Q1:=fun e st=>e = .normal∧∃ g,st=av 45 g [(10,rowIv (ss.map fun x=>x.id) 0)] [dv (ss.map fun x=>x.id)]) ?_ ?_ (fun x st hne hq=>absurd hq.1 hne)
   ·refine ah.seq (Q1:=fun e st=>e = .normal∧∃ g,st=SR ss .dead false ss.length 0 0 g) (ah.aL fB follows 2 _ _ _ _ (VR ss.length ss g) Met.nil ay.nil az.nil Ww rfl rfl (fx []) fun g=>⟨rfl,g,rfl⟩) ?_ (fun x st hne hq=>absurd hq.1 hne)
    rintro st ⟨-,g,rfl⟩;refine ah.mono (ju (fun ids (x:aa)=>ids ++ [x.id]) [] (fun ids i g=>SR ss (dv ids) (!ids.isEmpty) ss.length ids.length i g) (fun ids st=>∃ g,st=av 45 g [(10,rowIv ids 0)] [dv ids]) (fun ids g hf=>?_) (fun i x ids g hx hlt hf=>?_) g) fun e st q=>by rw [qw] at q; exact q
    ·rw [← oq]
     exact ah.aL fB follows 1 _ _ _ _ (Rm (!ids.isEmpty) (dv ids) ss.length ids.length ss.length ss g) (Met.cons (bu (by simp)) Met.nil) ay.nil az.nil Sf rfl rfl (cq (eO ids) []) fun g'=>⟨rfl,g',rfl⟩
    ·have hil:ids.length≤i:=by rw [← hf,qw]; simp; omega
     have b0:ez (xW ss (dv ids)) 0 ss:=.of (ty:=151) (ro:=false) (by unfold xW; rw [ak]; rfl)
     have g1:(((xW ss (dv ids)).push (vB x)).push (.cells 3 [iC x.id] false)).get 1=some (dv ids):=by rw [Hp.cy,if_neg (by show (1:Nat)≠4; omega),Hp.cy,if_neg (by show (1:Nat)≠3; omega)]; unfold xW; rw [ak]; rfl
     have g4:(((xW ss (dv ids)).push (vB x)).push (.cells 3 [iC x.id] false)).get 4=some (.cells 3 [iC x.id] false):=by rw [Hp.cy,if_pos (by show (4:Nat)=4; rfl)]
     refine ah.aL fB follows 2 _ _ _ _ (VS (!ids.isEmpty) (dv ids) ss.length ids.length i x ss (ids ++ [x.id]) g) (Met.cons (bu (decide_eq_true hlt)) (Met.cons (bH hlt) (Met.cons (bM b0 hx) (Met.cons (bz (by omega)) Met.nil)))) ay.nil (az.cons (u5 rfl g1 g4 rfl (by omega)) az.nil) Sf rfl rfl
       (by rw [← ui (qA ids x.id)]; exact vC (aw ss) (eO _) []) fun g'=>⟨rfl,g',?_⟩
     rw [pF,ui (qA ids x.id)];have e1:(ids ++ [x.id]).length=ids.length+1:=by simp
     rw [e1]; rfl
   ·rintro st ⟨-,g,rfl⟩
    generalize ss.map (fun x=>x.id)=ids at *
    have hr:=VT (!ids.isEmpty) (dv ids) ids.length g
    rw [oq] at hr;exact ah.aL fB follows 1 _ _ _ _ hr Met.nil ay.nil az.nil Wx rfl rfl (cq (eO ids) []) fun g=>tP Xo ids g
noncomputable def SP:aC:=padF (nF ofR)
theorem PN:aq Tryz.prog 63 SP:=hZ (jR Tryz.func63 KO (by kernel_rfl) ntmps56 fun vs hn=>Ru vs hn)
theorem BQ{vs:List aa}{s:Value}{hp:Hp}{d:Int}(own:aa)(hd:d=1∨d=2)(h:TN vs s hp)(hn:vs.length<1000000):SP [s,cP own,.int .i64 d] hp=some (rowIv (gT d own vs) hp.sz,heapOf [dv (gT d own vs),.dead] hp):=sQ h hn (by show (if d=1∨d=2 then _ else _)=_; rw [if_pos hd]; rfl)
noncomputable def Te:Ext:=fh (cS Tryz.prog []) [(63,SP)]
theorem JR:ExtOk Tryz.prog Te:=bC (aT (.nil)) (.cons PN (.nil))
noncomputable def N8:aG:=aCall Tryz.prog Te 5
theorem CD:ba Tryz.prog N8:=aQ JR follows 5
theorem CC(args:List Value)(hp:Hp):N8 63 args hp=SP args hp:=by
 show aCall Tryz.prog Te 5 63 _ _=_
 rw [aCall]; rfl
noncomputable def Dg:Code:=(Tryz.f28.body).getD .skip
theorem KJ:Tryz.f28.body=some Dg:=by kernel_rfl
theorem ntmps19:Tryz.f28.ntmps=8:=by kernel_rfl
theorem Xt:codeSafe Tryz.prog 8 Dg=true:=by kernel_rfl
theorem Xl(v:Value)(O:List af)(g:Nat→Value):retVal Tryz.prog Tryz.f28 (av 8 g [(4,v)] O)=some v:=by kernel_rfl
section
variable (fi:Bool) (o I:af) (own:aa) (n c k:Nat)
theorem U2:(execE Tryz.prog N8 [] [(7,vI fi 3 k,[I,.dead])] [] 20 Dg ⟨tmsOf [ae 0 n c,cP own] 0 .leaf,heapOf [o,.dead] aE,[]⟩).map (fun z=>(look2 1 [3] [4] (z.1,z.2.1),z.2.2)) =
 some ((.ret,[I],[(4,vI fi 0 k)],true),[],[(N8 63 [ae 0 n c,cP own,.int .i64 1] (heapOf [o,.dead,hB own] aE),(vI fi 3 k,heapOf [I,.dead] (heapOf [o,.dead,hB own] aE)))],[]):=by cases fi <;> kernel_rfl
theorem U1:(execE Tryz.prog N8 [] [(7,vI fi 2 k,[I,.dead])] [] 20 Dg ⟨tmsOf [au,cP own] 0 .leaf,heapOf [.dead] aE,[]⟩).map (fun z=>(look2 1 [2] [4] (z.1,z.2.1),z.2.2)) =
 some ((.ret,[I],[(4,vI fi 0 k)],true),[],[(N8 63 [au,cP own,.int .i64 1] (heapOf [.dead,hB own] aE),(vI fi 2 k,heapOf [I,.dead] (heapOf [.dead,hB own] aE)))],[]):=by cases fi <;> kernel_rfl
end
def wayR19(vs:List aa):xm:=fun rest=>match rest with
 | [v]=>(unH v).map fun own=>(rowIv (gT 1 own vs) 0,qQ (gT 1 own vs))
 | _=>none
theorem Rs(vs:List aa)(hn:vs.length<1000000):∀ rest v0 O,wayR19 vs rest=some (v0,O)→lU Tryz.f28 Dg 8 vs rest v0 O:=fun rest v0 O h=>by
 unfold wayR19 at h;split at h
 case h_2=>cases h
 rename_i v;obtain ⟨own,hown,h2⟩:=Option.map_eq_some_iff.1 h;obtain rfl:=nG hown;cases h2;refine ⟨wO _,z6 _,(by intro r hr; have e:r=cP own:=(by simpa using hr); rw [e]; exact yC _),by simp,fun f o c W ho hrow hfl=>?_⟩
 cases f with
 | true =>
   have h:=(CC [ae 0 vs.length c,cP own,.int .i64 1] (heapOf [o,.dead,hB own] aE)).trans (BQ (d:=1) own (by simp) (.inr ⟨0,c,o,rfl,by rw [ak]; rfl,ho,hrow⟩) hn)
   generalize gT 1 own vs=ids at *;have hr:=U2 (!ids.isEmpty) o (dv ids) own vs.length c ids.length
   rw [oq,oq] at hr;exact ah.aL CD follows 1 _ _ _ _ hr Met.nil (ay.cons h ay.nil) az.nil Xt rfl rfl (cq (eO ids) []) fun g=>tP Xl ids g
 | false =>
   obtain ⟨rfl,rfl⟩:=hfl rfl;have h:=(CC [au,cP own,.int .i64 1] (heapOf [.dead,hB own] aE)).trans (BQ (vs:=[]) (d:=1) own (by simp) (.inl ⟨rfl,rfl⟩) (by simp))
   generalize gT 1 own []=ids at *;have hr:=U1 (!ids.isEmpty) (dv ids) own ids.length
   rw [oq,oq] at hr;exact ah.aL CD follows 1 _ _ _ _ hr Met.nil (ay.cons h ay.nil) az.nil Xt rfl rfl (cq (eO ids) []) fun g=>tP Xl ids g
noncomputable def Ka:aC:=padF (nF wayR19)
theorem PI:aq Tryz.prog 28 Ka:=hZ (jR Tryz.func28 KJ (by kernel_rfl) ntmps19 fun vs hn=>Rs vs hn)
section
variable (fi:Bool) (o I:af) (own:aa) (n c k:Nat)
end
section
variable (o I:af) (own:aa) (n c k:Nat) (z:Int)
end
section
variable (f fa fb b lb:Bool) (o A B B1 B2:af) (n c i q ka kb:Nat) (z:Int) (x y own:aa) (w1 w2:Value) (g:Nat→Value)
def h4(o:af)(own:aa):Hp:=heapOf ([o,hB own] ++ [.dead]) aE
end
def dh(u v:aa):Bool:=dD u.n u.t u.o u.r u.d u.i v.n v.t v.o v.r v.d v.i
theorem eZ{u v:aa}:dh u v=true↔u.n=v.n∧u.t=v.t∧u.o=v.o∧u.r=v.r∧u.d=v.d∧u.i=v.i:=by
 unfold dh dD;simp [and_assoc]
theorem fW{f:Bool}{vs:List aa}{o:af}{c:Nat}{hp:Hp}(ho:aA o=true)(hrow:vs = []∨∃ ty ro,o = .cells ty (aK vs) ro)(hfl:f=false→vs = []∧o = .dead)(hg:hp.get 0=some o):TN vs (vS f 0 vs.length c) hp:=by
 cases f with
 | true=>exact .inr ⟨0,c,o,rfl,hg,ho,hrow⟩
 | false=>exact .inl ⟨rfl,(hfl rfl).1⟩
def I0(e:Exit)(st:St):Prop:=e = .ret∧∃ g,st=av 121 g [(4,.bool true)] []
end Go.Proofs.YtgeoommlmddgpaaGreat.LtL
namespace Go.Proofs.YtgeoommlmddgpaaGreat.LtL
open Go Go.Proofs Go.Proofs.YtgeoommlmddgpaaGreat.AI Go.RowKit Go.ChangeShapes Go.Proofs.YtgeoommlmddgpaaGreat.LtA
theorem FZ{w:World}{r:Reach}{base:Nat}{a:Addr}{n c:Nat}(h:Value.okWide Tryz.prog w r base 24 (.slice (some a) n c)):n≤9223372036854775807:=by
 unfold Value.okWide at h;rw [Tryz.underlying24] at h;have h':Cell.okWide Tryz.prog w r base 24 (.slice (some a) n c):=h
 unfold Cell.okWide at h';rw [Tryz.underlying24] at h';have h2:Cell.ok Tryz.prog w r base 24 (.slice (some a) n c):=h'
 unfold Cell.ok at h2;rw [Tryz.underlying24] at h2;obtain ⟨h1,h3,-⟩:=h2;have h4:(c:Int)≤9223372036854775807:=h3
 omega
theorem EP{H:Type}{enc:TypeId×Value→H}{W:World}{base:Nat}{v:Value}{d:DataW H}{p:List MemPlace}(hval:Value.okWide Tryz.prog W .any base 24 v)(hT:∃ fuel,DataW.trod enc Tryz.prog W 0 (fun _=>true) true fuel 24 v.cells.toList=some (d,p)) :
  ∃ (f:Bool) (o:af) (vs:List aa) (m:BM),aA o=true∧cg m (heapOf [o,.dead] aE).get W∧(∀ b,rw? (heapOf [o,.dead] aE).get b=false)∧aj m (heapOf [o,.dead] aE).get (vS f 0 vs.length 2) v ∧
    vs.length≤9223372036854775807∧(vs = []∨∃ ty ro,o = .cells ty (aK vs) ro)∧(f=false→vs = []∧o = .dead):=by
 rcases rA Tryz.underlying24 hval with rfl | ⟨r,off,n,c,rfl,hn⟩
 ·exact ⟨false,.dead,[],KI,rfl,Aa,wN,.flat rfl,by simp,.inl rfl,fun _=>⟨rfl,rfl⟩⟩
 ·have hmax:=FZ hval
  by_cases hd:n=0
  ·subst hd
   exact ⟨true,.dead,[],KI,rfl,Aa,wN,.slice (.of hn (by decide)) (.inl (by rw [ak]; rfl)),by simp,.inl rfl,fun h=>by cases h⟩
  ·obtain ⟨fuel,hT⟩:=hT
   have hT':DataW.trod enc Tryz.prog W 0 (fun _=>true) true fuel 24 [.slice (some ⟨r,off,none⟩) n c]=some (d,p):=by simpa [Value.cells] using hT
   obtain ⟨ps,arr,ty,fr,hl,hcell,hlen,hv⟩:=IQ hT' (by omega)
   have hin:=dG ps
   refine ⟨true,.cells ty (aK ps) true,ps,_,hin,Fb (Ip (k:=7) (n:=n) hcell hlen hin hv),Bd,?_,by omega,.inr ⟨ty,true,rfl⟩,fun h=>by cases h⟩
   rw [hl];refine .slice (.of hn (by decide)) (.inr ⟨off,arr.size,rfl,.inl rfl,?_⟩)
   constructor <;> intro h <;> simp at h
end Go.Proofs.YtgeoommlmddgpaaGreat.LtL
namespace Go.Proofs.YtgeoommlmddgpaaGreat.LtL
open Go Go.Proofs Go.Proofs.YtgeoommlmddgpaaGreat.AI Go.RowKit Go.Proofs.YtgeoommlmddgpaaGreat.Sort Go.Proofs.YtgeoommlmddgpaaGreat.LtA
theorem F2{i:Nat}(h:i+1≤9223372036854775807):(some (Value.int .i64 (wrapF .i64 (Int.ofNat (i+1)-1))))=some (iN i):=by
 have e:Int.ofNat (i+1)-1=Int.ofNat i:=by simp only [Int.ofNat_eq_natCast]; omega
 rw [e,wrap64 (by have:=Int.natCast_nonneg i; simp only [Int.ofNat_eq_natCast]; omega) (by simp only [Int.ofNat_eq_natCast]; omega)]
 rfl
theorem AF(o:af)(ho:aA o=true)(vs:List aa)(hn:vs.length≤9223372036854775807)(hrow:vs = []∨∃ ty ro,o = .cells ty (aK vs) ro)(c:Nat)(W:bh) :
  ah Tryz.prog 34 W (.seq xH (.seq (.seq xI (.block 0 (.loop qa))) xJ)) (Ta o vs.length c) (fun e st=>(e = .normal∨e = .ret)∧st.df = []∧retVal Tryz.prog Tryz.f58 st=some (l4 (aF vs))):=by
 have hO:=Po ho
 refine ah.seq (Q1:=fun x st=>x = .normal∧∃ g,st=N2 o vs.length c g) (ah.piece cp follows 1 _ _ _ _ (Rc o vs.length c) Met.nil NC rfl rfl rfl (hO _) fun g=>⟨rfl,g,rfl⟩) ?_ (fun x st hne hq=>absurd hq.1 hne)
 rintro st ⟨-,g,rfl⟩;let Q2:Exit→St→Prop:=fun x st=>(x = .normal∧∃ g,st=N2 o vs.length c g∧aF vs=true)∨(x = .ret∧∃ g,st=Kt o (iN 1) g∧aF vs=false)
 refine ah.seq (Q1:=Q2) ?_ ?_ ?_
 ·refine ah.seq (Q1:=fun x st=>x = .normal∧∃ g,st=BV o vs.length c 0 g) (ah.piece cp follows 1 _ _ _ _ (Re o vs.length c g) Met.nil ND rfl rfl rfl (hO _) fun g=>⟨rfl,g,rfl⟩) ?_ (fun x st hne hq=>absurd hq.1 hne)
  rintro st ⟨-,g,rfl⟩;refine ah.block ?_
  refine ah.loop (fun k st=>∃ i g,i≤vs.length∧k=vs.length-i∧(∀ j,j<i→rightAt vs j=true)∧st=BV o vs.length c i g) ?_ (k:=vs.length) ⟨0,g,Nat.zero_le _,rfl,fun j hj=>absurd hj (Nat.not_lt_zero _),rfl⟩
  rintro k st ⟨i,g,hi,hk,hgood,rfl⟩;cases h8:decide (Int.ofNat i<Int.ofNat vs.length) with
  | false =>
    refine ah.piece cp follows 1 _ _ _ _ (Rk o vs.length c i g) (Met.cons (ag h8) Met.nil) qR rfl rfl rfl (hO _) fun g'=>.inr ⟨by simp,?_⟩
    show (if (0:Nat)=0 then Q2 .normal _ else Q2 (.exit 0) _)
    rw [if_pos rfl];have hii:i=vs.length:=by simp at h8; omega
    exact .inl ⟨rfl,g',rfl,n9 fun j hj=>hgood j (by omega)⟩
  | true =>
    have hlt:i<vs.length:=by simpa using h8
    obtain ⟨v,hv⟩:∃ v,vs[i]? = some v:=⟨_,List.getElem?_eq_getElem hlt⟩
    have hvm:v∈vs:=List.mem_of_getElem? hv
    have hr:∃ ty ro,o = .cells ty (aK vs) ro:=by
      rcases hrow with h | h
      ·subst h; cases hvm
      ·exact h
    have hmet:Met (wB o vs.length c i v):=Met.cons (ag h8) (Met.cons (LtA.bH hlt) (Met.cons (LtA.bM (kB hr) hv) Met.nil))
    have hret:∀ g',rightAt vs i=false→(Exit.ret=Exit.normal∧∃ k',k'<k∧∃ i g,i≤vs.length∧k'=vs.length-i∧(∀ j,j<i→rightAt vs j=true)∧Kt o (iN 1) g'=BV o vs.length c i g)∨(Exit.ret≠Exit.normal∧Q2 .ret (Kt o (iN 1) g')):=fun g' h=>.inr ⟨by simp,.inr ⟨rfl,g',rfl,qN hlt h⟩⟩
    have hnext:rightAt vs i=true→∀ j,j<i+1→rightAt vs j=true:=fun h j hj=>by
      rcases Nat.lt_succ_iff_lt_or_eq.1 hj with h' | h'
      ·exact hgood j h'
      ·subst h'; exact h
    cases h16:cU v with
    | false=>exact ah.piece cp follows 1 _ _ _ _ (Rg o vs.length c i v g) (ct hmet (Met.cons (ag h16) Met.nil)) qR rfl rfl rfl (hO _) fun g'=>hret g' (by simp only [rightAt,hv,h16,Bool.false_and])
    | true =>
      match i,hi,hk,hgood,h8,hlt,hv,hmet,hret,hnext with
      | 0,hi,hk,hgood,h8,hlt,hv,hmet,hret,hnext =>
        refine ah.piece cp follows 1 _ _ _ _ (Rh o vs.length c v g) (ct hmet (Met.cons (ag h16) (Met.cons (rE (by omega)) Met.nil))) qR rfl rfl rfl (hO _) fun g'=>.inl ⟨rfl,vs.length-1,by omega,1,g',by omega,rfl,hnext (by simp only [rightAt,hv,h16,Bool.true_and]),rfl⟩
      | j+1,hi,hk,hgood,h8,hlt,hv,hmet,hret,hnext =>
        obtain ⟨u,hu⟩:∃ u,vs[j]? = some u:=⟨_,List.getElem?_eq_getElem (by omega)⟩
        have hpre:Met (zW o vs.length c j u v):=ct hmet (Met.cons (ag h16) (Met.cons (ag (decide_eq_true (by simp only [Int.ofNat_eq_natCast]; omega))) (Met.cons (F2 (by omega)) (Met.cons (LtA.bH (by omega)) (Met.cons (xg (kB hr) hu) Met.nil)))))
        cases h30:decide (u.id≥v.id) with
        | true=>exact ah.piece cp follows 1 _ _ _ _ (Ri o vs.length c j u v g) (ct hpre (Met.cons (ag h30) Met.nil)) qR rfl rfl rfl (hO _) fun g'=>hret g' (by simp only [rightAt,hv,hu,h16,Bool.true_and]; have:=of_decide_eq_true h30; exact decide_eq_false (by omega))
        | false =>
          refine ah.piece cp follows 1 _ _ _ _ (Rj o vs.length c j u v g) (ct hpre (Met.cons (ag h30) (Met.cons (rE (by omega)) Met.nil))) qR rfl rfl rfl (hO _) fun g'=>.inl ⟨rfl,vs.length-(j+1+1),by omega,j+1+1,g',by omega,rfl,hnext (by simp only [rightAt,hv,hu,h16,Bool.true_and]; have:=of_decide_eq_false h30; exact decide_eq_true (by omega)),rfl⟩
 ·rintro st (⟨-,g,rfl,hf⟩ | ⟨h,-⟩)
  ·refine ah.piece cp follows 1 _ _ _ _ (Rf o vs.length c g) Met.nil NF rfl rfl rfl (hO _) fun g'=>⟨.inr rfl,rfl,?_⟩
   rw [hf];exact S6 o _ g'
  ·cases h
 ·rintro x st hne (⟨h,-⟩ | ⟨rfl,g,rfl,hf⟩)
  ·exact absurd h hne
  ·refine ⟨.inr rfl,rfl,?_⟩
   rw [hf];exact S6 o _ g
open Classical in
noncomputable def toldQ(P:List aa→Prop)(A:List aa→xm):aC:=fun args hp=>match args with
 | s::_=>if h:∃ vs,TN vs s hp∧P vs then rowG h.choose (A h.choose) args hp else none
 | _=>none
theorem re{P:List aa→Prop}{f:FuncId}{fn:Func}{code:Code}{N:Nat}{A:List aa→xm}(hf:Tryz.prog.funcs[f]? = some fn)(hb:fn.body=some code)(hnm:(fn.name == "runtime.NumGoroutine")=false)(hN:fn.ntmps=N)
  (H:∀ vs,P vs→∀ rest v0 O,A vs rest=some (v0,O)→lU fn code N vs rest v0 O):aq Tryz.prog f (toldQ P A):=by
 intro args hp v hp' he hk;unfold toldQ at he;split at he
 case h_2=>cases he
 split at he
 ·rename_i hx
  exact wP hf hb hnm hN (H _ hx.choose_spec.2) _ _ _ _ he hk
 ·cases he
open Classical in
theorem FH{P:List aa→Prop}{A:List aa→xm}{vs:List aa}{s:Value}{rest:List Value}{hp:Hp}{v0:Value}(h:TN vs s hp)(hP:P vs)(hA:A vs rest=some (v0,[]))(hv:sh3 [] hp.sz v0=v0) :
  toldQ P A (s::rest) hp=some (v0,heapOf [.dead] hp):=by
 unfold toldQ;have hx:∃ vs,TN vs s hp∧P vs:=⟨vs,h,hP⟩
 simp only;rw [dif_pos hx,hx.choose_spec.1.uniq h];show (if TN vs s hp then _ else _)=_
 rw [if_pos h,hA];show some (sh3 [] hp.sz v0,_)=_
 rw [hv]; rfl
def ckR(vs:List aa):xm:=fun rest=>match rest with
 | []=>some (l4 (aF vs),[])
 | _=>none
def Al(vs:List aa):Prop:=vs.length≤9223372036854775807
noncomputable def jX:aC:=toldQ Al ckR
theorem tT:aq Tryz.prog 58 jX:=re Tryz.func58 Cd (by kernel_rfl) ntmps18 fun vs hn rest v0 O h=>by
 unfold ckR at h;split at h
 case h_2=>cases h
 cases h;refine ⟨.inl rfl,(pv _).1,(fun r hr=>by cases hr),by simp,fun f o c W ho hrow hfl=>?_⟩
 cases f with
 | true=>exact ah.mono (AF o ho vs hn hrow c W) fun e st q=>⟨q.1,q.2.1,q.2.2,(fun B hB=>by cases hB)⟩
 | false =>
   obtain ⟨rfl,rfl⟩:=hfl rfl;exact ah.mono (sd W) fun e st q=>⟨q.1,q.2.1,q.2.2,(fun B hB=>by cases hB)⟩
theorem pk{vs:List aa}{s:Value}{hp:Hp}(h:TN vs s hp)(hn:Al vs):jX [s] hp=some (l4 (aF vs),heapOf [.dead] hp):=FH h hn rfl ((pv _).2 _ _)
noncomputable def JT:Ext:=fh (cS Tryz.prog [(123,g55)]) [(58,jX)]
theorem Gf:ExtOk Tryz.prog JT:=bC (aT (.cons DK (.nil))) (.cons tT (.nil))
noncomputable def GP:aG:=aCall Tryz.prog JT 5
theorem GR:ba Tryz.prog GP:=aQ Gf follows 5
theorem GQ(args:List Value)(hp:Hp):GP 58 args hp=jX args hp:=by
 show aCall Tryz.prog JT 5 58 _ _=_
 rw [aCall]; rfl
section
variable (o:af) (n c:Nat) (y:aa)
theorem Vd:(execE Tryz.prog GP [] [(12,iN 1,[.dead])] [] 40 qh (N3 o n c y)).map (fun z=>(look2 0 [] [6,7] (z.1,z.2.1),z.2.2)) =
 some ((.ret,[],[(6,au),(7,iN 1)],true),[],[(GP 58 [ae 0 n c] (rF o y),(iN 1,heapOf [.dead] (rF o y)))],[]):=by kernel_rfl
end
def setL(vs:List aa):xm:=fun rest=>match rest with
 | [.int .i64 id,v]=>(unH v).map fun _=>(.tuple #[au,iN 1],[])
 | _=>none
def XC(vs:List aa):Prop:=Al vs∧aF vs=false
noncomputable def OD:aC:=toldQ XC setL
theorem Ms:aq Tryz.prog 85 OD:=re Tryz.func85 Ce (by kernel_rfl) ntmps27 fun vs hn rest v0 O h=>by
 unfold setL at h;split at h
 case h_2=>cases h
 rename_i id v;obtain ⟨x,hx,h2⟩:=Option.map_eq_some_iff.1 h;obtain rfl:=nG hx;cases h2;refine ⟨.inl rfl,rfl,(by intro r hr; have e:r = .int .i64 id∨r=cP x:=(by simpa using hr); rcases e with e | e <;> rw [e]; exact wW _ _; exact yC _),by simp,fun f o c W ho hrow hfl=>?_⟩
 cases f with
 | true =>
   have hT:TN vs (ae 0 vs.length c) (rF o ⟨id,x.n,x.t,x.o,x.r,x.d,x.i⟩):=.inr ⟨0,c,o,rfl,by unfold rF; rw [ak]; rfl,ho,hrow⟩
   have hc:=(GQ [ae 0 vs.length c] (rF o ⟨id,x.n,x.t,x.o,x.r,x.d,x.i⟩)).trans (pk hT hn.1)
   rw [hn.2] at hc;exact ah.aL GR follows 0 _ _ _ _ (Vd o vs.length c ⟨id,x.n,x.t,x.o,x.r,x.d,x.i⟩) Met.nil (ay.cons hc ay.nil) az.nil NG rfl rfl (dg _) fun g=>⟨.inr rfl,rfl,QC _ _ _ g,(fun B hB=>by cases hB)⟩
 | false =>
   have h0:=(hfl rfl).1
   have h1:=hn.2
   rw [h0] at h1;cases h1
noncomputable def o7:aC:=orFn (padF SN) (padF OD)
theorem DL:aq Tryz.prog 85 o7:=A5 (hZ PK) (hZ Ms)
theorem kA{vs:List aa}(h:aF vs=true):vs.length≤64:=by
 obtain ⟨h1,h2⟩:=dp.1 h;have hid:∀ i,(hi:i<vs.length)→(i:Int)≤(vs[i]).id:=fun i=>by
  induction i with
  | zero =>
    intro hi;have:=h1 _ (List.getElem_mem hi)
    unfold cU rV at this;simp only [Bool.and_eq_true,decide_eq_true_eq] at this;simpa using this.1
  | succ i ih =>
    intro hi;have a:=ih (by omega)
    have b:=List.pairwise_iff_getElem.1 h2 i (i+1) (by omega) hi (by omega)
    omega
 rcases Nat.lt_or_ge 64 vs.length with hl | hl
 ·have:=hid 64 hl
  have h3:=h1 _ (List.getElem_mem hl)
  unfold cU rV at h3;simp only [Bool.and_eq_true,decide_eq_true_eq] at h3;omega
 ·exact hl
theorem tc{vs:List aa}{s:Value}{hp:Hp}(y:aa)(h:TN vs s hp)(hr:(aF vs&&cU y)=true) :
  o7 [s,.int .i64 y.id,cP y] hp=some (.tuple #[ae hp.sz (cD vs y).length (setC s vs y.id),iN 0],heapOf [LtA.ab (cD vs y),.dead] hp):=by
 have hl:=kA (Bool.and_eq_true_iff.1 hr).1
 have e:=Kd y h (by omega)
 rw [hr] at e;unfold o7 orFn;rw [ni e]
end Go.Proofs.YtgeoommlmddgpaaGreat.LtL
namespace Go.Proofs.YtgeoommlmddgpaaGreat.AI
open Go Go.Proofs Go.RowKit
abbrev fe:=Nat→Option (Nat×Nat×Nat)
structure FM (n:Nat) (W:bh) (z:Nat) (X:fe) (st:St) (a:Act) (w:World) (m:BM):Prop where
 fr:FR n W st a w m
 pin:∀ i,i<z→∀ x,X i=some x→st.hp.get i=some .dead∨m i=some x
def bm(P:Program)(N:Nat)(W:bh)(z:Nat)(X:fe)(c:Code)(st:St)(Q:Exit→St→Prop):Prop :=
 ∀ a w m,FM N W z X st a w m→c.wp P (fun e a' w'=>∃ st' m',FM N W z X st' a' w' m'∧Q e st') a w
section
variable {P:Program} {N:Nat} {W:bh} {z:Nat} {X:fe}
theorem bm.mono{c:Code}{st:St}{Q Q':Exit→St→Prop}(h:bm P N W z X c st Q)(hq:∀ e st',Q e st'→Q' e st'):bm P N W z X c st Q':=fun a w m f =>
 wp_mono (h a w m f) fun e a' w' hh=>by
  obtain ⟨st',m',f',q⟩:=hh;exact ⟨st',m',f',hq e st' q⟩
theorem bm.seq{c d:Code}{st:St}{Q1 Q:Exit→St→Prop}(h1:bm P N W z X c st Q1)(h2:∀ st',Q1 .normal st'→bm P N W z X d st' Q)(h3:∀ e st',e≠.normal→Q1 e st'→Q e st'):bm P N W z X (.seq c d) st Q:=fun a w m f=>by
 refine wp_seq (wp_mono (h1 a w m f) fun e a' w' hh=>?_)
 obtain ⟨st',m',f',q⟩:=hh;cases e with
 | normal=>exact h2 st' q a' w' m' f'
 | _=>exact ⟨st',m',f',h3 _ st' (by simp) q⟩
theorem bm.block{id:Nat}{c:Code}{st:St}{Q:Exit→St→Prop}(h:bm P N W z X c st fun e st'=>match e with | .exit i=>if i=id then Q .normal st' else Q (.exit i) st' | e=>Q e st'):bm P N W z X (.block id c) st Q:=fun a w m f=>by
 refine wp_block (wp_mono (h a w m f) fun e a' w' hh=>?_)
 obtain ⟨st',m',f',q⟩:=hh;cases e with
 | exit i =>
   show (if i=id then _ else _)
   by_cases hi:i=id
   ·simp only [hi,if_true] at q ⊢
    exact ⟨st',m',f',q⟩
   ·simp only [hi,if_false] at q ⊢
    exact ⟨st',m',f',q⟩
 | _=>exact ⟨st',m',f',q⟩
theorem bm.loop{c:Code}{Q:Exit→St→Prop}(I:Nat→St→Prop)(hI:∀ k st,I k st→bm P N W z X c st fun e st'=>(e = .normal∧∃ k',k'<k∧I k' st')∨(e≠.normal∧Q e st')){k:Nat}{st:St}(h:I k st):bm P N W z X (.loop c) st Q:=fun a w m f=>by
 have key:∀ k st a w m,I k st→FM N W z X st a w m→Code.rounds P c (fun e a' w'=>∃ st' m',FM N W z X st' a' w' m'∧Q e st') (k+1) a w:=by
  intro k;induction k using Nat.strongRecOn with
  | _ k ih =>
    intro st a w m hi f;rw [rounds_succ];refine wp_mono (hI k st hi a w m f) fun e a' w' hh=>?_
    obtain ⟨st',m',f',q⟩:=hh;rcases q with ⟨rfl,k',hk,hi'⟩ | ⟨hne,q⟩
    ·exact oe (show k'+1≤k by omega) (ih k' hk st' a' w' m' hi' f')
    ·cases e with
     | normal=>exact absurd rfl hne
     | _=>exact ⟨st',m',f',q⟩
 exact wp_loop_rounds (k+1) (key k st a w m h f)
theorem bm.WV{c:Code}{st:St}{Q:Exit→St→Prop}(h:∀ X,bm P N W 0 X c st Q):ah P N W c st Q:=fun a w m f =>
 wp_mono (h (fun _=>none) a w m ⟨f,fun i hi=>by omega⟩) fun e a' w' hh=>by
  obtain ⟨st',m',f',q⟩:=hh;exact ⟨st',m',f'.fr,q⟩
theorem FM.canon{st':St}{a':Act}{w':World}{m':BM}(f':FM N W z X st' a' w' m'){e e':Exit}(p:Nat)(K Ts:List Nat)(O:List af)(L:List (Nat×Value))
  (h2:look2 p K Ts (e',st')=(e,O,L,true)) (hK:nodupB K=true) (hT:Ts.all (fun t=>Nat.blt t N)=true)
  (hO:∀ i,i<p→∀ o,O[i]? = some o→dw 0 o) (h0:∀ i,i<z→K[i]? = some i):e'=e∧∃ g m2,FM N W z X (av N g L O) a' w' m2:=by
 simp only [look2,Prod.mk.injEq] at h2;obtain ⟨rfl,rfl,rfl,h5⟩:=h2;obtain ⟨h5,h7⟩:=Bool.and_eq_true_iff.1 h5;obtain ⟨h5,h6⟩:=Bool.and_eq_true_iff.1 h5;obtain ⟨h3,h4⟩:=Bool.and_eq_true_iff.1 h5;have hpin:=f'.pin
 have hlen:((K.take p).map (fun b=>(st'.hp.get b).getD .dead)++(K.drop p).map (fun b=>bX K ((st'.hp.get b).getD .dead))).length=K.length:=by
  simp; omega
 have hget:∀ (i b:Nat),K[i]? = some b→∃ o,st'.hp.get b=some o:=fun i b hi=>by
  have:=List.all_eq_true.1 h3 b (List.mem_of_getElem? hi)
  cases hg:st'.hp.get b with
  | none=>rw [hg] at this; cases this
  | some o=>exact ⟨o,rfl⟩
 have hB:∀ (i b:Nat) (o2:af),K[i]? = some b→((K.take p).map (fun b=>(st'.hp.get b).getD .dead)++(K.drop p).map (fun b=>bX K ((st'.hp.get b).getD .dead)))[i]? = some o2→∃ o,st'.hp.get b=some o∧o2=bX K o∧fM o=true:=fun i b o2 hi ho=>by
    obtain ⟨o,hg⟩:=hget i b hi;refine ⟨o,hg,?_⟩
    have hiK:i<K.length:=(List.getElem?_eq_some_iff.1 hi).1
    by_cases hip:i<p
    ·have e1:((K.take p).map (fun b=>(st'.hp.get b).getD .dead)++(K.drop p).map (fun b=>bX K ((st'.hp.get b).getD .dead)))[i]? = some o:=by
      rw [List.getElem?_append_left (by simp; omega),List.getElem?_map,List.getElem?_take,if_pos hip,hi]
      simp [hg]
     rw [e1] at ho;have e3:o=o2:=by simpa using ho
     subst e3;obtain ⟨k1,k2⟩:=hO i hip o e1;exact ⟨(k2 K (fun i hi=>absurd hi (Nat.not_lt_zero _))).symm,k1⟩
    ·have hmin:min p K.length=p:=by omega
     rw [List.getElem?_append_right (by simp; omega)] at ho
     simp only [List.length_map,List.length_take,hmin,List.getElem?_map,List.getElem?_drop] at ho
     rw [show p+(i-p)=i by omega,hi] at ho
     simp only [Option.map_some,Option.some.injEq,hg,Option.getD_some] at ho;refine ⟨ho.symm,?_⟩
     have hbm:b∈K.drop p:=List.mem_of_getElem? (by rw [List.getElem?_drop,show p+(i-p)=i by omega]; exact hi)
     have:=List.all_eq_true.1 h4 b hbm
     simpa [hg] using this
 obtain ⟨g,f2⟩:=f'.fr.tG K ((K.take p).map (fun b=>(st'.hp.get b).getD .dead)++(K.drop p).map (fun b=>bX K ((st'.hp.get b).getD .dead))) (Ts.map fun t=>(t,mb K (st'.dK t))) (fF hK) hlen hB (fun x hx=>by
    obtain ⟨t,ht,rfl⟩:=List.mem_map.1 hx;exact ⟨by have:=List.all_eq_true.1 hT t ht; simpa [Nat.blt_eq] using this,List.all_eq_true.1 h6 t ht,rfl⟩) (List.isEmpty_iff.1 h7)
 refine ⟨rfl,_,_,f2,fun i hi x hx=>?_⟩
 have hKi:=h0 i hi
 have hlt:i<K.length:=(List.getElem?_eq_some_iff.1 hKi).1
 rcases hpin i hi x hx with hd | hd
 ·refine .inl ?_
  obtain ⟨o2,ho2⟩:∃ o2,((K.take p).map (fun b=>(st'.hp.get b).getD .dead)++(K.drop p).map (fun b=>bX K ((st'.hp.get b).getD .dead)))[i]? = some o2:=⟨_,List.getElem?_eq_getElem (by omega)⟩
  obtain ⟨o,q1,q2,_⟩:=hB i i o2 hKi ho2;rw [hd] at q1; cases q1;show (heapOf _ aE).get i=_
  rw [ak,List.getElem?_append_left (by omega),ho2,q2]
  rfl
 ·refine .inr ?_
  unfold canM;rw [hKi];exact hd
theorem bm.leaf{c:Code}{st:St}{Q:Exit→St→Prop}(h:bm P N W z X c st fun e st'=>∃ p k,leafT N z Q e st' p k):bm P N W z X c st Q:=fun a w m f =>
 wp_mono (h a w m f) fun e a' w' hh=>by
  obtain ⟨st',m',f',p,k,q⟩:=hh;obtain ⟨n,K,Ts,O,L,hl,h1,h1',h2,h3,h4⟩:=D8 q;obtain ⟨-,g,m2,f2⟩:=f'.canon n K Ts O L hl h1 h2 h3 (fun i hi=>pK h1' hi)
  exact ⟨_,m2,f2,h4 g⟩
theorem bm.run{call:aG}(hc:ba P call)(hm:P.follows .mixedOrders=true){n:Nat}{c:Code}{st st':St}{e:Exit}(h1:exec P call n c st=some (e,st'))(hs:codeSafe P N c=true){Q:Exit→St→Prop}(hq:Q e st'):bm P N W z X c st Q:=fun a w m f=>by
 obtain ⟨_,k1,_,k3⟩:=bK hc hm n c st _ st' h1 hs f.fr.ok;refine wp_mono (eS (k3 m xX w a (fun _ _ _=>rfl) f.fr.rel)) fun e2 a' w' hh=>?_
 obtain ⟨rfl,m',gg,r⟩:=hh;refine ⟨st',m',⟨f.fr.go k1 gg r,fun i hi x hx=>?_⟩,hq⟩
 have le:=gg.le
 rw [cA f.fr.ok,cA k1] at le;rcases f.pin i hi x hx with h | h
 ·exact .inl (le.dead i h)
 ·exact le.keep i x h
theorem bm.EE{ext:Ext}(hx:ExtOk P ext)(hm:P.follows .mixedOrders=true){d:Nat}{c:Code}{st:St}{p:cd}{Q:Exit→St→Prop}(hs:codeSafe P N c=true){Y:Prop}(e:Y=RT P ext N z d c st p Q)(h:Y):bm P N W z X c st Q:=by
 rw [e] at h;obtain ⟨e,st',p',k',q1,q2⟩:=cY (iZ ext d) h;exact bm.leaf (bm.run (aQ hx hm d) hm q1 hs ⟨p',k',q2⟩)
end
def mv1(s:Nat→Nat):Value→Value
 | .pointer (some a)=>.pointer (some ⟨s a.block,a.off,a.spot⟩)
 | .slice (some a) l c=>.slice (some ⟨s a.block,a.off,a.spot⟩) l c
 | .map (some b)=>.map (some (s b))
 | v=>v
def mv2(s:Nat→Nat):Value→Value
 | .func f a b=>.func f (a.map (mv1 s)) (b.map (mv1 s))
 | .agg cs=>.agg (cs.map (mv1 s))
 | v=>mv1 s v
def mv3(s:Nat→Nat):Value→Value
 | .tuple cs=>.tuple (cs.map (mv2 s))
 | v=>mv2 s v
def mvB(s:Nat→Nat):af→af
 | .cells ty cs ro=>.cells ty (cs.map (mv2 s)) ro
 | .map es cl ro=>.map (es.map fun e=>(e.1,mv2 s e.2.1,e.2.2)) cl ro
 | .dead=>.dead
theorem zK{s:Nat→Nat}:∀ v b,mv2 s v = .map (some b)→∃ c,v = .map (some c):=by
 intro v b h;cases v with
 | map a=>cases a with
   | none=>cases h
   | some c=>exact ⟨c,rfl⟩
 | pointer a=>cases a <;> cases h
 | slice a l c=>cases a <;> cases h
 | _=>cases h
def PS(m:BM)(h:HG)(m2:BM)(h2:HG)(s:Nat→Nat):Prop :=
 ∀ b (Q:Prop),(h b=some .dead∨Q)→h2 (s b)=some .dead∨(Q∧m2 (s b)=m b)
section
variable {m m2:BM} {h h2:HG} {s:Nat→Nat}
theorem PS.one(pt:PS m h m2 h2 s){v v':Value}(r:aj m h v v')(hv:nice1 v=true):aj m2 h2 (mv1 s v) v':=by
 cases r with
 | flat hf =>
   have:mv1 s v=v:=by cases v with
     | pointer a=>cases a <;> first | rfl | (simp [AI.flat] at hf)
     | slice a l c=>cases a <;> first | rfl | (simp [AI.flat] at hf)
     | map a=>cases a <;> first | rfl | (simp [AI.flat] at hf)
     | _=>rfl
   rw [this]; exact .flat hf
 | ptr h1 =>
   rcases pt _ _ h1 with h | ⟨⟨δ,E,q1,q2⟩,e⟩
   ·exact .ptr (.inl h)
   ·exact .ptr (.inr ⟨δ,E,by rw [e]; exact q1,q2⟩)
 | slice h0 h1 =>
   rcases pt _ _ h1 with h | ⟨⟨δ,E,q1,q2⟩,e⟩
   ·exact .slice h0 (.inl h)
   ·exact .slice h0 (.inr ⟨δ,E,by rw [e]; exact q1,q2⟩)
 | blind h1=>exact .blind h1
 | blind0=>exact .blind0
 | junk h1=>exact .junk h1
 | map h1 =>
   rcases pt _ _ h1 with h | ⟨⟨x,q1⟩,e⟩
   ·exact .map (.inl h)
   ·exact .map (.inr ⟨x,by rw [e]; exact q1⟩)
 | func _ _ _ _=>cases hv
 | agg _ _=>cases hv
 | tuple _ _=>cases hv
theorem PS.two(pt:PS m h m2 h2 s){v v':Value}(r:aj m h v v')(hv:ok2 v=true):aj m2 h2 (mv2 s v) v':=by
 cases v with
 | agg cs =>
   obtain ⟨a',rfl,h1,h2⟩:=r.gZ;refine .agg (by simpa using h1) fun i x x' q1 q2=>?_
   simp only [Array.getElem?_map,Option.map_eq_some_iff] at q1
   obtain ⟨y,hy,rfl⟩:=q1;exact pt.one (h2 i y x' hy q2) (List.all_eq_true.1 hv y (Array.mem_toList_iff.2 (Array.mem_of_getElem? hy)))
 | func fn x y =>
   cases r with
   | flat hf=>simp [AI.flat] at hf
   | func h1 h2 h3 h4 =>
     have hv':=Bool.and_eq_true_iff.1 hv
     refine .func (by simpa using h1) (fun i u u' q1 q2=>?_) (by simpa using h3) (fun i u u' q1 q2=>?_)
     ·simp only [Array.getElem?_map,Option.map_eq_some_iff] at q1
      obtain ⟨z,hz,rfl⟩:=q1;exact pt.one (h2 i z u' hz q2) (List.all_eq_true.1 hv'.1 z (Array.mem_toList_iff.2 (Array.mem_of_getElem? hz)))
     ·simp only [Array.getElem?_map,Option.map_eq_some_iff] at q1
      obtain ⟨z,hz,rfl⟩:=q1;exact pt.one (h4 i z u' hz q2) (List.all_eq_true.1 hv'.2 z (Array.mem_toList_iff.2 (Array.mem_of_getElem? hz)))
 | tuple cs=>cases hv
 | _=>exact pt.one r hv
theorem PS.three(pt:PS m h m2 h2 s){v v':Value}(r:aj m h v v')(hv:hU v=true):aj m2 h2 (mv3 s v) v':=by
 cases v with
 | tuple cs =>
   obtain ⟨a',rfl,h1,h2⟩:=r.kx;refine .tuple (by simpa using h1) fun i x x' q1 q2=>?_
   simp only [Array.getElem?_map,Option.map_eq_some_iff] at q1
   obtain ⟨y,hy,rfl⟩:=q1;exact pt.two (h2 i y x' hy q2) (List.all_eq_true.1 hv y (Array.mem_toList_iff.2 (Array.mem_of_getElem? hy)))
 | _=>exact pt.two r hv
theorem PS.yL(pt:PS m h m2 h2 s){vs vs':List Value}(r:aD m h vs vs')(hv:vs.all hU=true):aD m2 h2 (vs.map (mv3 s)) vs':=by
 refine ⟨by simpa using r.1,fun i v v' q1 q2=>?_⟩
 simp only [List.getElem?_map,Option.map_eq_some_iff] at q1
 obtain ⟨y,hy,rfl⟩:=q1;exact pt.three (r.2 i y v' hy q2) (List.all_eq_true.1 hv y (List.mem_of_getElem? hy))
theorem PS.GJ(pt:PS m h m2 h2 s){w:World}{x:Nat×Nat×Nat}{o:af}(r:BRel m h w x o)(ho:cR o=true):BRel m2 h2 w x (mvB s o):=by
 cases o with
 | cells ty cs ro =>
   obtain ⟨cc,fr,g1,g2,g3,g4,g5⟩:=r;refine ⟨cc,fr,g1,by simpa using g2,g3,fun i v v' q1 q2=>?_,g5.1,fun hr hk=>g5.2 hr (eW zK hk)⟩
   simp only [List.getElem?_map,Option.map_eq_some_iff] at q1
   obtain ⟨z,hz,rfl⟩:=q1;exact pt.two (g4 i z v' hz q2) (List.all_eq_true.1 ho z (List.mem_of_getElem? hz))
 | map es cl ro =>
   obtain ⟨fs,g1,g2,g3⟩:=r;refine ⟨fs,g1,by simpa using g2,fun i e ff q1 q2=>?_⟩
   simp only [List.getElem?_map,Option.map_eq_some_iff] at q1
   obtain ⟨z,hz,rfl⟩:=q1;obtain ⟨p1,p2,p3,p4⟩:=g3 i z ff hz q2;exact ⟨p1,p2,pt.two p3 (List.all_eq_true.1 ho z (List.mem_of_getElem? hz)),p4⟩
 | dead=>trivial
end
def jY:Value→List Nat
 | .pointer (some a)=>[a.block]
 | .slice (some a) _ _=>[a.block]
 | .map (some b)=>[b]
 | _=>[]
def kv:Value→List Nat
 | .func _ a b=>(a.toList++b.toList).flatMap jY
 | .agg cs=>cs.toList.flatMap jY
 | v=>jY v
def Qq:af→List Nat
 | .cells _ cs _=>cs.flatMap kv
 | .map es _ _=>es.flatMap fun e=>kv e.2.1
 | .dead=>[]
inductive uK (args:List Value) (hp:Hp):Nat→Prop where
 | arg {v:Value} {b:Nat}:v∈args→b∈kv v→uK args hp b
 | GJ {b c:Nat} {o:af}:uK args hp b→hp.get b=some o→c∈Qq o→uK args hp c
section
variable {m:BM} {h:HG}
theorem aj.jY{v v':Value}(r:aj m h v v'){b:Nat}(hb:b∈AI.jY v):h b=some .dead∨∃ x,m b=some x:=by
 cases r with
 | ptr h1 =>
   simp only [AI.jY,List.mem_singleton] at hb;subst hb;rcases h1 with h1 | ⟨δ,E,h1,_⟩
   ·exact .inl h1
   ·exact .inr ⟨_,h1⟩
 | slice h0 h1 =>
   simp only [AI.jY,List.mem_singleton] at hb;subst hb;rcases h1 with h1 | ⟨δ,E,h1,_⟩
   ·exact .inl h1
   ·exact .inr ⟨_,h1⟩
 | map h1 =>
   simp only [AI.jY,List.mem_singleton] at hb;subst hb;rcases h1 with h1 | ⟨x,h1⟩
   ·exact .inl h1
   ·exact .inr ⟨_,h1⟩
 | flat hf =>
   cases v with
   | pointer a=>cases a with
     | none=>cases hb
     | some a=>simp [AI.flat] at hf
   | slice a l c=>cases a with
     | none=>cases hb
     | some a=>simp [AI.flat] at hf
   | map a=>cases a with
     | none=>cases hb
     | some a=>simp [AI.flat] at hf
   | _=>cases hb
 | _=>cases hb
theorem iS.Qp{a a':Array Value}(r:iS m h a a'){b:Nat}(hb:b∈a.toList.flatMap AI.jY):h b=some .dead∨∃ x,m b=some x:=by
 obtain ⟨v,hv,hb⟩:=List.mem_flatMap.1 hb;obtain ⟨i,hi⟩:=List.getElem?_of_mem hv
 have hi':a[i]? = some v:=by simpa using hi
 have hlt:i<a'.size:=by
  have:=(Array.getElem?_eq_some_iff.1 hi').1
  have:=r.1
  omega
 exact aj.jY (r.2 i v _ hi' (Array.getElem?_eq_getElem hlt)) hb
theorem aj.kv{v v':Value}(r:aj m h v v'){b:Nat}(hb:b∈AI.kv v):h b=some .dead∨∃ x,m b=some x:=by
 cases v with
 | agg cs =>
   obtain ⟨a',rfl,h1⟩:=r.gZ;exact h1.Qp hb
 | func f x y =>
   cases r with
   | flat hf=>simp [AI.flat] at hf
   | func h1 h2 h3 h4 =>
     rw [AI.kv,List.flatMap_append,List.mem_append] at hb;rcases hb with hb | hb
     ·exact iS.Qp ⟨h1,h2⟩ hb
     ·exact iS.Qp ⟨h3,h4⟩ hb
 | _=>exact r.jY hb
theorem BRel.Qp{w:World}{x:Nat×Nat×Nat}{o:af}(r:BRel m h w x o){b:Nat}(hb:b∈Qq o):h b=some .dead∨∃ x,m b=some x:=by
 cases o with
 | cells ty cs ro =>
   obtain ⟨cc,fr,g1,g2,g3,g4,g5⟩:=r;obtain ⟨v,hv,hb⟩:=List.mem_flatMap.1 hb;obtain ⟨i,hi⟩:=List.getElem?_of_mem hv
   have hlt:i<cs.length:=(List.getElem?_eq_some_iff.1 hi).1
   exact aj.kv (g4 i v _ hi (Array.getElem?_eq_getElem (by omega))) hb
 | map es cl ro =>
   obtain ⟨fs,g1,g2,g3⟩:=r;obtain ⟨e,he,hb⟩:=List.mem_flatMap.1 hb;obtain ⟨i,hi⟩:=List.getElem?_of_mem he
   have hlt:i<es.length:=(List.getElem?_eq_some_iff.1 hi).1
   exact aj.kv (g3 i e _ hi (Array.getElem?_eq_getElem (by omega))).2.2.1 hb
 | dead=>cases hb
theorem uK.has{args:List Value}{hp:Hp}(hk:hp.ok){w:World}{args':List Value}(s:cg m (aM hp h) w)(ra:aD m (aM hp h) args args'){b:Nat}(r:uK args hp b):aM hp h b=some .dead∨∃ x,m b=some x:=by
 induction r with
 | arg hv hb =>
   obtain ⟨i,hi⟩:=List.getElem?_of_mem hv
   have hlt:i<args'.length:=by
     have:=(List.getElem?_eq_some_iff.1 hi).1
     have:=ra.1
     omega
   exact aj.kv (ra.2 i _ _ hi (List.getElem?_eq_getElem hlt)) hb
 | @GJ b c o _ hg hc ih =>
   have ho:=bq hk h b o hg
   rcases ih with hd | ⟨x,hx⟩
   ·rw [ho] at hd; cases hd; cases hc
   ·obtain ⟨o',ho',hbr⟩:=s.dom b x hx
    rw [ho] at ho'; cases ho';exact hbr.Qp hc
end
abbrev Ks:=List (Option (Nat×Bool))
def eQ(o:af)(wr:Bool):af:=bif wr then o else roBlk o
def posO(b:Nat):Ks→Nat→Option Nat
 | [],_=>none
 | none::K,i=>posO b K (i+1)
 | some (c,_)::K,i=>match Nat.beq c b with
   | true=>some i
   | false=>posO b K (i+1)
theorem lh{b:Nat}:∀ {K:Ks} {i j:Nat},posO b K i=some j→∃ k wr,j=i+k∧K[k]? = some (some (b,wr))
 | [],i,j,h=>by cases h
 | none::K,i,j,h=>by
   obtain ⟨k,wr,rfl,hk⟩:=lh (K:=K) (i:=i+1) h;exact ⟨k+1,wr,by omega,by simpa using hk⟩
 | some (c,w)::K,i,j,h=>by
   unfold posO at h;split at h
   ·rename_i hb
    cases h;exact ⟨0,w,rfl,by rw [Nat.eq_of_beq_eq_true hb]; rfl⟩
   ·obtain ⟨k,wr,rfl,hk⟩:=lh (K:=K) (i:=i+1) h
    exact ⟨k+1,wr,by omega,by simpa using hk⟩
def ik(K0:Ks)(b:Nat):Nat:=(posO b K0 0).getD K0.length
def pinB(K0:Ks)(hp:Hp):Option (Nat×Bool)→af
 | some (b,wr)=>eQ (mvB (ik K0) ((hp.get b).getD .dead)) wr
 | none=>.dead
def dZ(K0:Ks)(hp:Hp):Hp:=heapOf (K0.map (pinB K0 hp) ++ [.dead]) aE
def canO(m:BM)(K0:Ks):BM:=fun i=>match K0[i]? with
 | some (some (b,_))=>m b
 | _=>none
def dX(K0:Ks):Prop:=∀ (i j b:Nat) (wr wr':Bool),K0[i]? = some (some (b,wr))→K0[j]? = some (some (b,wr'))→i=j
def putO:Ks→List af→Hp→Hp
 | [],_,h=>h
 | _::_,[],h=>h
 | some (b,true)::K,o::O,h=>putO K O (h.put b o)
 | some (_,false)::K,_::O,h=>putO K O h
 | none::K,_::O,h=>putO K O h
abbrev Kw:=List (Option Nat)
def posN(b:Nat):Kw→Nat→Option Nat
 | [],_=>none
 | none::K,i=>posN b K (i+1)
 | some c::K,i=>match Nat.beq c b with
   | true=>some i
   | false=>posN b K (i+1)
theorem lg{b:Nat}:∀ {K:Kw} {i j:Nat},posN b K i=some j→∃ k,j=i+k∧K[k]? = some (some b)
 | [],i,j,h=>by cases h
 | none::K,i,j,h=>by
   obtain ⟨k,rfl,hk⟩:=lg (K:=K) (i:=i+1) h;exact ⟨k+1,by omega,by simpa using hk⟩
 | some c::K,i,j,h=>by
   unfold posN at h;split at h
   ·rename_i hb
    cases h;exact ⟨0,rfl,by rw [Nat.eq_of_beq_eq_true hb]; rfl⟩
   ·obtain ⟨k,rfl,hk⟩:=lg (K:=K) (i:=i+1) h
    exact ⟨k+1,by omega,by simpa using hk⟩
def iP(K:Kw):Prop:=∀ (i j c:Nat),K[i]? = some (some c)→K[j]? = some (some c)→i=j
def sgE(K0:Ks)(K:Kw)(B:Nat)(b:Nat):Nat:=match posN b K 0 with
 | some j=>B+j
 | none=>match K0[b]? with
   | some (some (c,_))=>c
   | _=>B+K.length
def F6(K0:Ks)(O:List af)(K:Kw):Prop:=∀ c,some c∈K→K0.length≤c∨∃ b,K0[c]? = some (some (b,true))∧O[c]? = some .dead
def joinN(m m':BM)(K:Kw)(B:Nat):BM:=fun b=>if B≤b∧b≤B+K.length then (match K[b-B]? with | some (some c)=>m' c | _=>none) else m b
theorem iE:∀ (K:Ks) (O:List af) (h:Hp),(putO K O h).sz=h.sz
 | [],_,h=>by cases ‹List af› <;> rfl
 | _::_,[],h=>by unfold putO; rfl
 | some (b,true)::K,o::O,h=>by rw [putO,iE,Hp.kG]
 | some (_,false)::K,_::O,h=>by rw [putO,iE]
 | none::K,_::O,h=>by rw [putO,iE]
theorem gD{b:Nat}:∀ {K:Ks} {O:List af} {h:Hp},(∀ i:Nat,K[i]?≠some (some (b,true)))→(putO K O h).get b=h.get b
 | [],_,h,_=>by cases ‹List af› <;> rfl
 | _::_,[],h,_=>by unfold putO; rfl
 | some (c,true)::K,o::O,h,hm=>by
   rw [putO,gD (fun i=>by have:=hm (i+1); simpa using this),Hp.dy,if_neg (fun e=>hm 0 (by rw [e]; rfl))]
 | some (_,false)::K,_::O,h,hm=>by rw [putO,gD (fun i=>by have:=hm (i+1); simpa using this)]
 | none::K,_::O,h,hm=>by rw [putO,gD (fun i=>by have:=hm (i+1); simpa using this)]
theorem dX.tail{k:Option (Nat×Bool)}{K:Ks}(h:dX (k::K)):dX K:=fun i j b wr wr' h1 h2=>by
 have:=h (i+1) (j+1) b wr wr' (by simpa using h1) (by simpa using h2)
 omega
theorem jf{b:Nat}:∀ {K:Ks} {O:List af} {h:Hp} {i:Nat} {o:af},dX K→K[i]? = some (some (b,true))→O[i]? = some o→(putO K O h).get b=some o
 | [],O,h,i,o,_,h1,_=>by simp at h1
 | _::_,[],h,i,o,_,_,h2=>by simp at h2
 | k::K,o'::O,h,i,o,hd,h1,h2=>by
   cases i with
   | zero =>
     have e1:k=some (b,true):=by simpa using h1
     have e2:o'=o:=by simpa using h2
     subst e1 e2;rw [putO,gD (fun i hi=>by have:=hd 0 (i+1) b true true rfl (by simpa using hi); omega),Hp.dy,if_pos rfl]
   | succ i =>
     have h1':K[i]? = some (some (b,true)):=by simpa using h1
     have h2':O[i]? = some o:=by simpa using h2
     match k with
     | some (c,true)=>rw [putO]; exact jf hd.tail h1' h2'
     | some (_,false)=>rw [putO]; exact jf hd.tail h1' h2'
     | none=>rw [putO]; exact jf hd.tail h1' h2'
theorem Im{K:Ks}{O:List af}{hp:Hp}(hk:hp.ok)(hl:∀ (i b:Nat),K[i]? = some (some (b,true))→b<hp.sz):(putO K O hp).ok:=fun c hc=>by
 rw [iE] at hc;rw [gD (fun i hi=>by have:=hl i c hi; omega)]
 exact hk c hc
theorem ud{s:Nat→Nat}(o:af):mq (mvB s o)=mq o:=by cases o <;> rfl
theorem lP{h:HG}{b:Nat}{o:af}(e:h b=some o):rw? h b=mq o:=by unfold rw?; rw [e]; cases o <;> rfl
theorem fL{h:HG}{b:Nat}{o:af}(e:h b=some o):aV h b=true↔o≠.dead:=by
 unfold aV; rw [e];cases o <;> simp
section
variable {P:Program}
theorem Ik{m:BM}{h:HG}{w:World}{hp:Hp}{K0:Ks}(s:cg m (aM hp h) w)(hk:hp.ok)(hK:dX K0)(hok:∀ (i b:Nat) (wr:Bool),K0[i]? = some (some (b,wr))→∃ o,hp.get b=some o∧cj o=true) :
  cg (canO m K0) (dZ K0 hp).get w∧PS m (aM hp h) (canO m K0) (dZ K0 hp).get (ik K0) ∧
  (∀ i x,canO m K0 i=some x→rw? (dZ K0 hp).get i=true→∃ b,K0[i]? = some (some (b,true))∧m b=some x∧rw? (aM hp h) b=true):=by
 have hget:∀ b,(dZ K0 hp).get b=(K0.map (pinB K0 hp) ++ [af.dead])[b]?:=fun b=>ak _ b
 have hD:(dZ K0 hp).get K0.length=some .dead:=by rw [hget]; simp
 have hblk:∀ (i b:Nat) (wr:Bool),K0[i]? = some (some (b,wr))→∃ o,aM hp h b=some o∧cj o=true∧(dZ K0 hp).get i=some (eQ (mvB (ik K0) o) wr)∧canO m K0 i=m b:=by
  intro i b wr hi;obtain ⟨o,h1,h2⟩:=hok i b wr hi;refine ⟨o,bq hk h b o h1,h2,?_,by unfold canO; rw [hi]⟩
  have hlt:i<K0.length:=(List.getElem?_eq_some_iff.1 hi).1
  rw [hget,List.getElem?_append_left (by simpa using hlt),List.getElem?_map,hi]
  simp [pinB,h1]
 have pt:PS m (aM hp h) (canO m K0) (dZ K0 hp).get (ik K0):=by
  intro b Q hq;unfold ik;cases hi:posO b K0 0 with
  | none=>exact .inl hD
  | some j =>
    obtain ⟨k,wr,rfl,hk⟩:=lh hi;simp only [Nat.zero_add,Option.getD_some];obtain ⟨o,h1,_,h2,h3⟩:=hblk k b wr hk;rcases hq with hq | hq
    ·rw [hq] at h1; cases h1
     left; rw [h2]; cases wr <;> rfl
    ·exact .inr ⟨hq,h3⟩
 have hcan:∀ i x,canO m K0 i=some x→∃ b wr,K0[i]? = some (some (b,wr))∧m b=some x:=by
  intro i x hx;unfold canO at hx;split at hx
  ·rename_i b wr hb; exact ⟨b,wr,hb,hx⟩
  ·cases hx
 have hrw:∀ i x,canO m K0 i=some x→rw? (dZ K0 hp).get i=true→∃ b,K0[i]? = some (some (b,true))∧m b=some x∧rw? (aM hp h) b=true:=by
  intro i x hx hr;obtain ⟨b,wr,hb,hm⟩:=hcan i x hx;obtain ⟨o,h1,h2,h3,_⟩:=hblk i b wr hb;rw [lP h3] at hr;cases wr with
  | false=>exfalso; revert hr; unfold eQ; cases o <;> simp [mvB,roBlk,mq]
  | true=>exact ⟨b,hb,hm,by rw [lP h1]; simpa [eQ,ud] using hr⟩
 refine ⟨⟨fun i x hx=>?_,fun i j x x' hx hx' hr hl hxx=>?_⟩,pt,hrw⟩
 ·obtain ⟨b,wr,hb,hm⟩:=hcan i x hx
  obtain ⟨o,h1,h2,h3,_⟩:=hblk i b wr hb;refine ⟨_,h3,?_⟩
  obtain ⟨o',ho',hbr⟩:=s.dom b x hm;rw [h1] at ho'; cases ho';have h2':cR o=true:=by
    cases o with
    | cells ty cs ro=>exact (Bool.and_eq_true_iff.1 h2).1
    | map=>exact h2
    | dead=>rfl
  have q:=pt.GJ hbr h2'
  cases wr with
  | true=>exact q
  | false =>
    cases o with
    | cells ty cs ro =>
      obtain ⟨cc,fr,g1,g2,g3,g4,g5⟩:=q;refine ⟨cc,fr,g1,g2,g3,g4,(fun hr=>by cases hr),fun _ hkb=>?_⟩
      have hk':=eW zK hkb
      obtain ⟨_,k2⟩:=Bool.and_eq_true_iff.1 h2;rw [hk'] at k2;have hr:ro=true:=by simpa using k2
      exact g5.2 hr hkb
    | map es cl ro=>exact q
    | dead=>trivial
 ·obtain ⟨b,hb,hm,hrb⟩:=hrw i x hx hr
  obtain ⟨b',wr',hb',hm'⟩:=hcan j x' hx';obtain ⟨o',h1',_,h3',_⟩:=hblk j b' wr' hb';have hl':aV (aM hp h) b'=true:=by
    rw [fL h1'];intro e; subst e;rw [fL h3'] at hl;apply hl
    cases wr' <;> rfl
  have:=s.inj b b' x x' hm hm' hrb hl' hxx
  subst this;exact hK i j b true wr' hb hb'
theorem L8{w0:World}{S:Nat→Prop}{z:Nat}{X:fe}{f:FuncId}{fn:Func}{c:Code}{args:List Value}{args':Array Value}{hp:Hp}{m:BM}{R:Value→St→Prop}(hf:P.funcs[f]? = some fn)(hb:fn.body=some c)(hn:args.length≤fn.ntmps)(hk:hp.ok)
  (s:cg m hp.get w0) (h0:∀ i,i<z→∀ x,X i=some x→m i=some x) (ro:∀ b y,m b=some y→rw? hp.get b=true→S y.1) (r:aD m hp.get args args'.toList)
  (h:bm P fn.ntmps ⟨w0,S⟩ z X c ⟨tmsOf args 0 .leaf,hp,[]⟩ fun e st=>(e = .normal∨e = .ret)∧st.df = []∧∃ v,retVal P fn st=some v∧R v st) :
  Calls P f args' w0 fun e w'=>∃ v' v st' m',e = .returned v'∧R v st'∧aj m' st'.hp.get v v'∧cg m' st'.hp.get w'∧gI ⟨w0,S⟩ w'∧(∀ b x,m' b=some x→rw? st'.hp.get b=true→w0.heap.size≤x.1∨S x.1) ∧
    (∀ i,i<z→∀ x,X i=some x→st'.hp.get i=some .dead∨m' i=some x):=by
 refine calls_of_wp hf hb (wp_mono (h _ w0 m ⟨⟨hk,⟨by rw [cA hk]; exact s,by rw [cA hk]; exact mG r hn,.nil⟩,gI.refl _ _,fun b y hx hr=>.inr (ro b y hx hr)⟩,fun i hi x hx=>.inr (h0 i hi x hx)⟩) fun e a' w' hh=>?_)
 obtain ⟨st',m',f',q1,q2,v,q3,q4⟩:=hh;have hd:a'.defers = []:=by
  have:=f'.fr.rel.df
  rw [q2] at this;exact this.of_nil
 obtain ⟨v',h1,h2⟩:=fl f'.fr.ok f'.fr.rel.sim f'.fr.rel.tm q3;have e1:=cA f'.fr.ok
 have hs:=f'.fr.rel.sim
 rw [e1] at h2 hs;rcases q1 with rfl | rfl
 ·exact ⟨hd,v',h1,v',v,st',m',rfl,q4,h2,hs,f'.fr.below,f'.fr.own,f'.pin⟩
 ·exact ⟨hd,v',h1,v',v,st',m',rfl,q4,h2,hs,f'.fr.below,f'.fr.own,f'.pin⟩
structure s8 (K0:Ks) (K:Kw) (B:Nat) (O Nw:List af) (v v0:Value) (h g:HG):Prop where
 val:v=mv3 (sgE K0 K B) v0
 wr:∀ (i b:Nat),K0[i]? = some (some (b,true))→∃ o,h i=some o∧cR o=true∧(O[i]? = some (mvB (sgE K0 K B) o)∨O[i]? = some .dead)
 ro:∀ (i b:Nat),K0[i]? = some (some (b,false))→h i=some .dead→g b=some .dead
 nw:∀ (j c:Nat),K[j]? = some (some c)→∃ o,h c=some o∧cR o=true∧mq o=true∧Nw[j]? = some (mvB (sgE K0 K B) o)
set_option maxHeartbeats 4000000 in
theorem DW{m m':BM}{hp hpR:Hp}{h:HG}{w w':World}{K0:Ks}{K:Kw}{O Nw:List af}{v v0 v':Value}(hk:hp.ok)(s:cg m (aM hp h) w)(hsim:cg m' hpR.get w')(hK0:dX K0)(inj:iP K)(hge:F6 K0 O K)
  (hlive0:∀ (i b:Nat) (wr:Bool),K0[i]? = some (some (b,wr))→∃ o,hp.get b=some o∧(o = .dead∧wr=false∨o≠.dead∧∃ x,m b=some x)) (hNw:Nw.length=K.length)
  (kp:gI ⟨w,fun r=>∃ (i b:Nat) (x:Nat×Nat×Nat),K0[i]? = some (some (b,true))∧m b=some x∧rw? (aM hp h) b=true∧x.1=r⟩ w')
  (own:∀ b x,m' b=some x→rw? hpR.get b=true→w.heap.size≤x.1∨∃ (i b:Nat) (x':Nat×Nat×Nat),K0[i]? = some (some (b,true))∧m b=some x'∧rw? (aM hp h) b=true∧x'.1=x.1)
  (pin:∀ i,i<K0.length→∀ x,canO m K0 i=some x→hpR.get i=some .dead∨m' i=some x) (hfr:∀ b,hp.sz≤b→b≤hp.sz+K.length→h b=none)
  (E:s8 K0 K hp.sz O Nw v v0 hpR.get hp.get) (rv:aj m' hpR.get v0 v') (hok1:hU v0=true) :
  dR m (aM hp h) w (joinN m m' K hp.sz) (aM (heapOf (Nw ++ [.dead]) (putO K0 O hp)) h) w'∧aj (joinN m m' K hp.sz) (aM (heapOf (Nw ++ [.dead]) (putO K0 O hp)) h) v v':=by
 have hsz':(heapOf (Nw ++ [.dead]) (putO K0 O hp)).sz=hp.sz+(K.length+1):=by rw [cr,iE]; simp [hNw]
 have hov:∀ b,aM (heapOf (Nw ++ [.dead]) (putO K0 O hp)) h b=if hp.sz≤b∧b≤hp.sz+K.length then (Nw ++ [af.dead])[b-hp.sz]? else if b<hp.sz then (putO K0 O hp).get b else h b:=by
  intro b;unfold aM;rw [hsz',heapOf_get,iE];by_cases h1:b<hp.sz
  ·rw [if_pos (by omega),if_pos h1,if_neg (by omega),if_pos h1]
  ·by_cases h2:b≤hp.sz+K.length
   ·rw [if_pos (by omega),if_neg h1,if_pos ⟨by omega,h2⟩]
    have:b-hp.sz<(Nw ++ [af.dead]).length:=by simp [hNw]; omega
    rw [List.getElem?_eq_getElem this]
   ·rw [if_neg (by omega),if_neg (by omega),if_neg h1]
 have hnone:∀ b,hp.sz≤b→b≤hp.sz+K.length→aM hp h b=none:=by
  intro b h1 h2;unfold aM;rw [if_neg (by omega)]
  exact hfr b h1 h2
 have hmn:∀ b,hp.sz≤b→b≤hp.sz+K.length→m b=none:=by
  intro b h1 h2;cases e:m b with
  | none=>rfl
  | some x=>obtain ⟨o,ho,_⟩:=s.dom b x e; rw [hnone b h1 h2] at ho; cases ho
 have hlive:∀ (i b:Nat),K0[i]? = some (some (b,true))→(∃ o,hp.get b=some o∧o≠.dead)∧∃ x,m b=some x:=by
  intro i b hi;obtain ⟨o,ho,h | h⟩:=hlive0 i b true hi
  ·cases h.2
  ·exact ⟨⟨o,ho,h.1⟩,h.2⟩
 have hlt:∀ (i b:Nat) (wr:Bool),K0[i]? = some (some (b,wr))→b<hp.sz:=by
  intro i b wr hi;obtain ⟨o,ho,_⟩:=hlive0 i b wr hi;exact cV hk ho
 have hj:∀ b,joinN m m' K hp.sz b=if hp.sz≤b∧b≤hp.sz+K.length then (match K[b-hp.sz]? with | some (some c)=>m' c | _=>none) else m b:=fun _=>rfl
 have hD:aM (heapOf (Nw ++ [.dead]) (putO K0 O hp)) h (hp.sz+K.length)=some .dead:=by
  rw [hov,if_pos (by omega),show hp.sz+K.length-hp.sz=Nw.length by omega]; simp
 have hold:∀ b,b<hp.sz→joinN m m' K hp.sz b=m b:=fun b hb=>by rw [hj,if_neg (by omega)]

 have hnew:∀ (j c:Nat),K[j]? = some (some c)→∃ o,hpR.get c=some o∧cR o=true∧mq o=true∧aM (heapOf (Nw ++ [.dead]) (putO K0 O hp)) h (hp.sz+j)=some (mvB (sgE K0 K hp.sz) o)∧joinN m m' K hp.sz (hp.sz+j)=m' c:=by
  intro j c hc;have hjl:j<K.length:=(List.getElem?_eq_some_iff.1 hc).1
  obtain ⟨o,h1,h2,h3,h4⟩:=E.nw j c hc;refine ⟨o,h1,h2,h3,?_,?_⟩
  ·rw [hov,if_pos (by omega),show hp.sz+j-hp.sz=j by omega,List.getElem?_append_left (by omega),h4]
  ·rw [hj,if_pos (by omega),show hp.sz+j-hp.sz=j by omega,hc]
 have hhit:∀ (i b:Nat),K0[i]? = some (some (b,true))→∃ o,hpR.get i=some o∧cR o=true∧(aM (heapOf (Nw ++ [.dead]) (putO K0 O hp)) h b=some (mvB (sgE K0 K hp.sz) o)∨aM (heapOf (Nw ++ [.dead]) (putO K0 O hp)) h b=some .dead):=by
  intro i b hi;obtain ⟨o,h1,h2,h3⟩:=E.wr i b hi;have:=hlt i b true hi
  refine ⟨o,h1,h2,?_⟩
  rcases h3 with h3 | h3
  ·exact .inl (by rw [hov,if_neg (by omega),if_pos this,jf hK0 hi h3])
  ·exact .inr (by rw [hov,if_neg (by omega),if_pos this,jf hK0 hi h3])
 have hgone:∀ (c b:Nat),K0[c]? = some (some (b,true))→some c∈K→aM (heapOf (Nw ++ [.dead]) (putO K0 O hp)) h b=some .dead:=by
  intro c b hc hm;have hl:=(List.getElem?_eq_some_iff.1 hc).1
  rcases hge c hm with h | ⟨b2,h1,h2⟩
  ·omega
  ·rw [hc] at h1
   cases h1;have:=hlt c b true hc
   rw [hov,if_neg (by omega),if_pos this,jf hK0 hc h2]
 have hmiss:∀ b,¬ (hp.sz≤b∧b≤hp.sz+K.length)→(∀ i:Nat,K0[i]?≠some (some (b,true)))→aM (heapOf (Nw ++ [.dead]) (putO K0 O hp)) h b=aM hp h b:=by
  intro b h1 h2;rw [hov,if_neg h1];unfold aM;split
  ·rw [gD h2]
  ·rfl
 have hcan:∀ (i b:Nat) (wr:Bool),K0[i]? = some (some (b,wr))→canO m K0 i=m b:=fun i b wr hi=>by unfold canO; rw [hi]
 have hpin:∀ (i b:Nat) (wr:Bool),K0[i]? = some (some (b,wr))→(∃ x,m b=some x)→hpR.get i=some .dead∨m' i=m b:=by
  rintro i b wr hi ⟨x,hx⟩;rcases pin i (List.getElem?_eq_some_iff.1 hi).1 x (by rw [hcan i b wr hi,hx]) with h | h
  ·exact .inl h
  ·exact .inr (by rw [h,hx])
 have pt:PS m' hpR.get (joinN m m' K hp.sz) (aM (heapOf (Nw ++ [.dead]) (putO K0 O hp)) h) (sgE K0 K hp.sz):=by
  intro c Q hq;unfold sgE;split
  ·rename_i j hi
   obtain ⟨k,rfl,hk⟩:=lg hi;simp only [Nat.zero_add];obtain ⟨o,h1,_,_,h2,h3⟩:=hnew k c hk;rcases hq with hq | hq
   ·rw [hq] at h1; cases h1; exact .inl h2
   ·exact .inr ⟨hq,h3⟩
  split
  ·rename_i b wr hc
   have hb:=hlt c b wr hc
   cases wr with
   | true =>
     obtain ⟨o,h1,_,h3⟩:=hhit c b hc;rcases h3 with h3 | h3
     ·rcases hq with hq | hq
      ·rw [hq] at h1; cases h1; exact .inl h3
      ·rcases hpin c b true hc (hlive c b hc).2 with h | h
       ·rw [h] at h1; cases h1; exact .inl h3
       ·exact .inr ⟨hq,by rw [hold b hb,h]⟩
     ·exact .inl h3
   | false =>
     obtain ⟨o,ho,hd⟩:=hlive0 c b false hc;have hG:aM (heapOf (Nw ++ [.dead]) (putO K0 O hp)) h b=some o:=by
       rw [hmiss b (by omega) fun i hi=>by have:=hK0 i c b true false hi hc; subst this; rw [hi] at hc; cases hc]
       exact bq hk h b o ho
     have hdd:hpR.get c=some .dead→aM (heapOf (Nw ++ [.dead]) (putO K0 O hp)) h b=some .dead:=fun h=>by
       have:=E.ro c b hc h
       rw [ho] at this; cases this;exact hG
     rcases hd with ⟨rfl,_⟩ | ⟨_,hx⟩
     ·exact .inl hG
     ·rcases hq with hq | hq
      ·exact .inl (hdd hq)
      ·rcases hpin c b false hc hx with h | h
       ·exact .inl (hdd h)
       ·exact .inr ⟨hq,by rw [hold b hb,h]⟩
  ·exact .inl hD
 have hwmiss:∀ b x,m b=some x→aV (aM hp h) b=true→(∀ i:Nat,K0[i]?≠some (some (b,true)))→¬ ∃ (i b2:Nat) (x2:Nat×Nat×Nat),K0[i]? = some (some (b2,true))∧m b2=some x2∧rw? (aM hp h) b2=true∧x2.1=x.1:=by
  rintro b x hx hl hm ⟨i,b2,x2,q1,q2,q3,q4⟩;have:=s.inj b2 b x2 x q2 hx q3 hl q4
  subst this;exact hm i q1
 have hle:Le m (aM hp h) (joinN m m' K hp.sz) (aM (heapOf (Nw ++ [.dead]) (putO K0 O hp)) h):=by
  constructor
  ·intro b hb
   by_cases hr:hp.sz≤b∧b≤hp.sz+K.length
   ·rw [hnone b hr.1 hr.2] at hb; cases hb
   ·rw [hmiss b hr fun i hi=>?_]
    ·exact hb
    ·obtain ⟨⟨o,ho,hne⟩,_⟩:=hlive i b hi
     rw [bq hk h b o ho] at hb;cases hb; exact hne rfl
  ·intro b y hb
   refine .inr ?_
   rw [hj];split
   ·rename_i hc; rw [hmn b hc.1 hc.2] at hb; cases hb
   ·exact hb
 refine ⟨⟨hle,⟨?_,?_⟩,kp.size,?_,fun k hk' hn=>kp.block k hk' (fun ⟨i,b,x,q1,q2,q3,q4⟩=>hn b x q2 q3 q4),?_,?_,?_,?_,kp.os,kp.tape,kp.output⟩,by rw [E.val]; exact pt.three rv hok1⟩
 ·
  intro b x hx;rw [hj] at hx;split at hx
  ·rename_i hc
   split at hx
   ·rename_i c hcK
    obtain ⟨o,h1,h2,_,h3,_⟩:=hnew _ c hcK;rw [show hp.sz+(b-hp.sz)=b by omega] at h3
    obtain ⟨o',ho',hbr⟩:=hsim.dom c x hx;rw [h1] at ho'; cases ho';exact ⟨_,h3,pt.GJ hbr h2⟩
   ·cases hx
  ·rename_i hc
   by_cases hh:∃ i:Nat,K0[i]? = some (some (b,true))
   ·obtain ⟨i,hi⟩:=hh
    obtain ⟨o,h1,h2,h3⟩:=hhit i b hi;rcases h3 with h3 | h3
    case inr=>exact ⟨_,h3,trivial⟩
    refine ⟨_,h3,?_⟩
    rcases hpin i b true hi (hlive i b hi).2 with h | h
    ·rw [h] at h1; cases h1; trivial
    ·obtain ⟨o',ho',hbr⟩:=hsim.dom i x (by rw [h,hx])
     rw [h1] at ho'; cases ho';exact pt.GJ hbr h2
   ·have hm:∀ i:Nat,K0[i]?≠some (some (b,true)):=fun i hi=>hh ⟨i,hi⟩
    obtain ⟨o,ho,hbr⟩:=s.dom b x hx;refine ⟨o,by rw [hmiss b hc hm]; exact ho,?_⟩
    by_cases hd:o = .dead
    ·subst hd; trivial
    ·have hl:=(fL ho).2 hd
     refine hbr.mono hle (kp.block _ (s.lt hx hl) ?_)
     rintro ⟨i,b2,x2,q⟩;exact hwmiss b x hx hl hm ⟨i,b2,x2,q⟩
 ·
  intro b b' x x' hx hx' hr hl hxx

  have kind:∀ b x,joinN m m' K hp.sz b=some x→aV (aM (heapOf (Nw ++ [.dead]) (putO K0 O hp)) h) b=true →
      (∃ c o,hpR.get c=some o∧o≠.dead∧m' c=some x∧rw? (aM (heapOf (Nw ++ [.dead]) (putO K0 O hp)) h) b=mq o∧((∃ j:Nat,K[j]? = some (some c)∧b=hp.sz+j∧mq o=true)∨(K0[c]? = some (some (b,true))∧m b=some x))) ∨
      ((∀ i:Nat,K0[i]?≠some (some (b,true)))∧m b=some x∧aV (aM hp h) b=true∧rw? (aM (heapOf (Nw ++ [.dead]) (putO K0 O hp)) h) b=rw? (aM hp h) b):=by
    intro b x hx hl;have hx0:=hx
    rw [hj] at hx;split at hx
    ·rename_i hc
     split at hx
     case h_2=>cases hx
     rename_i c hcK;obtain ⟨o,h1,h2,h2',h3,_⟩:=hnew _ c hcK;rw [show hp.sz+(b-hp.sz)=b by omega] at h3
     refine .inl ⟨c,o,h1,fun e=>?_,hx,by rw [lP h3,ud],.inl ⟨_,hcK,by omega,h2'⟩⟩
     subst e; cases h2'
    ·rename_i hc
     by_cases hh:∃ i:Nat,K0[i]? = some (some (b,true))
     ·obtain ⟨i,hi⟩:=hh
      obtain ⟨o,h1,h2,h3⟩:=hhit i b hi;rcases h3 with h3 | h3
      case inr=>exact absurd rfl ((fL h3).1 hl)
      have hne:o≠.dead:=fun e=>by
        subst e;exact ((fL h3).1 hl) rfl
      refine .inl ⟨i,o,h1,hne,?_,by rw [lP h3,ud],.inr ⟨hi,hx⟩⟩
      rcases hpin i b true hi (hlive i b hi).2 with h | h
      ·rw [h] at h1; cases h1; exact absurd rfl hne
      ·rw [h,hx]
     ·have hm:∀ i:Nat,K0[i]?≠some (some (b,true)):=fun i hi=>hh ⟨i,hi⟩
      have e:=hmiss b hc hm
      refine .inr ⟨hm,hx,?_,?_⟩
      ·unfold aV at hl ⊢; rw [e] at hl; exact hl
      ·unfold rw?; rw [e]
  have hl0:aV (aM (heapOf (Nw ++ [.dead]) (putO K0 O hp)) h) b=true:=c8 hr
  rcases kind b x hx hl0 with ⟨c,o,h1,h2,h3,h4,h5⟩ | ⟨k1,k2,k3,k4⟩
  ·rw [h4] at hr
   have hrc:rw? hpR.get c=true:=by rw [lP h1]; exact hr
   rcases kind b' x' hx' hl with ⟨c',o',h1',h2',h3',h4',h5'⟩ | ⟨k1',k2',k3',k4'⟩
   ·have:=hsim.inj c c' x x' h3 h3' hrc ((fL h1').2 h2') hxx
    subst this;rcases h5 with ⟨j,hj1,rfl,_⟩ | ⟨hi,_⟩
    ·rcases h5' with ⟨j',hj1',rfl,_⟩ | ⟨hi',_⟩
     ·rw [inj _ _ _ hj1 hj1']
     ·exact absurd rfl ((fL (hgone c b' hi' (List.mem_of_getElem? hj1))).1 hl)
    ·rcases h5' with ⟨j',hj1',rfl,_⟩ | ⟨hi',_⟩
     ·exact absurd rfl ((fL (hgone c b hi (List.mem_of_getElem? hj1'))).1 hl0)
     ·rw [hi] at hi'
      simp only [Option.some.injEq,Prod.mk.injEq] at hi';exact hi'.1
   ·rcases own c x h3 hrc with q | q
    ·have:=s.lt k2' k3'; omega
    ·rw [hxx] at q
     exact absurd q (hwmiss b' x' k2' k3' k1')
  ·rw [k4] at hr
   rcases kind b' x' hx' hl with ⟨c',o',h1',h2',h3',h4',h5'⟩ | ⟨k1',k2',k3',k4'⟩
   ·rcases h5' with ⟨j',hj1',rfl,hrw'⟩ | ⟨hi',hm'⟩
    ·rcases own c' x' h3' (by rw [lP h1']; exact hrw') with q | q
     ·have:=s.lt k2 k3; omega
     ·rw [← hxx] at q
      exact absurd q (hwmiss b x k2 k3 k1)
    ·obtain ⟨⟨ob,hob,hne⟩,_⟩:=hlive c' b' hi'
     have:=s.inj b b' x x' k2 hm' hr ((fL (bq hk h b' ob hob)).2 hne) hxx
     subst this;exact absurd hi' (k1 c')
   ·exact s.inj b b' x x' k2 k2' hr k3' hxx
 ·intro b x hx
  rw [hj] at hx;split at hx
  ·split at hx
   ·rename_i c hcK
    obtain ⟨o,h1,_,h2,_⟩:=hnew _ c hcK;rcases own c x hx (by rw [lP h1]; exact h2) with q | ⟨i,b2,x2,q1,q2,q3,q4⟩
    ·exact .inr (.inl q)
    ·exact .inr (.inr ⟨b2,x2,q2,q3,q4⟩)
   ·cases hx
  ·exact .inl hx
 ·intro b o ho hm
  rw [hj];split
  ·rename_i hc; rw [hnone b hc.1 hc.2] at ho; cases ho
  ·exact hm
 ·intro b o ho hm
  by_cases hr:hp.sz≤b∧b≤hp.sz+K.length
  ·rw [hnone b hr.1 hr.2] at ho; cases ho
  ·rw [hmiss b hr fun i hi=>?_]
   ·exact ho
   ·obtain ⟨_,x,hx⟩:=hlive i b hi
    rw [hm] at hx; cases hx
 ·intro b o ho
  by_cases hr:hp.sz≤b∧b≤hp.sz+K.length
  ·rw [hnone b hr.1 hr.2] at ho; cases ho
  ·by_cases hh:∃ i:Nat,K0[i]? = some (some (b,true))
   ·obtain ⟨i,hi⟩:=hh
    obtain ⟨o',_,_,h3⟩:=hhit i b hi;rcases h3 with h3 | h3 <;> exact ⟨_,h3⟩
   ·exact ⟨o,by rw [hmiss b hr fun i hi=>hh ⟨i,hi⟩]; exact ho⟩
 ·intro b x hx hr
  obtain ⟨ob,hob,_⟩:=s.dom b x hx;have hnr:¬ (hp.sz≤b∧b≤hp.sz+K.length):=fun hc=>by rw [hnone b hc.1 hc.2] at hob; cases hob
  by_cases hh:∃ i:Nat,K0[i]? = some (some (b,true))
  ·obtain ⟨i,hi⟩:=hh
   obtain ⟨o,h1,h2,h3⟩:=hhit i b hi;rcases h3 with h3 | h3
   case inr=>rw [lP h3] at hr; cases hr
   rw [lP h3,ud] at hr;obtain ⟨⟨o2,ho2,hne⟩,_⟩:=hlive i b hi;have hl:=(fL (bq hk h b o2 ho2)).2 hne
   rcases hpin i b true hi (hlive i b hi).2 with q | q
   ·rw [q] at h1; cases h1; cases hr
   ·rcases own i x (by rw [q,hx]) (by rw [lP h1]; exact hr) with q | ⟨i2,b2,x2,q1,q2,q3,q4⟩
    ·have:=s.lt hx hl; omega
    ·have:=s.inj b2 b x2 x q2 hx q3 hl q4
     subst this;exact q3
  ·have e:=hmiss b hnr fun i hi=>hh ⟨i,hi⟩
   unfold rw? at hr ⊢;rw [e] at hr; exact hr
theorem ku(hm:P.follows .mixedOrders=true){f:FuncId}{fn:Func}{c:Code}{g:aC}(hf:P.funcs[f]? = some fn)(hb:fn.body=some c)(hnm:(fn.name == "runtime.NumGoroutine")=false)
  (H:∀ args hp v hp',g args hp=some (v,hp')→hp.ok→∃ (K0:Ks) (O Nw:List af),hp'=heapOf (Nw ++ [.dead]) (putO K0 O hp)∧dX K0 ∧
    (∀ (i b:Nat) (wr:Bool),K0[i]? = some (some (b,wr))→(∃ o,hp.get b=some o∧(wr=true→o≠.dead)∧cj o=true)∧uK args hp b)∧args.all hU=true∧args.length≤fn.ntmps ∧
    ∀ W X,bm P fn.ntmps W K0.length X c ⟨tmsOf (args.map (mv3 (ik K0))) 0 .leaf,dZ K0 hp,[]⟩ fun e st=>(e = .normal∨e = .ret)∧st.df = []∧∃ v0 K,retVal P fn st=some v0∧hU v0=true∧Nw.length=K.length∧iP K∧F6 K0 O K∧s8 K0 K hp.sz O Nw v v0 st.hp.get hp.get):aq P f g:=by
 intro args hp v hp' he hk;obtain ⟨K0,O,Nw,rfl,hK0,hst,hargs,hn,hrun⟩:=H args hp v hp' he hk;have hpo:(putO K0 O hp).ok:=Im hk fun i b hi=>by
  obtain ⟨⟨o,ho,_⟩,_⟩:=hst i b true hi;exact cV hk ho
 refine ⟨bF _ _ hpo,by rw [cr,iE]; omega,fun m h w args' hfr s ra=>.inr ⟨cC hf (by rw [hb]; rfl) hnm,?_⟩⟩
 obtain ⟨s0,pt,hrw⟩:=Ik s hk hK0 (fun i b wr hi=>by
  obtain ⟨⟨o,h1,_,h2⟩,_⟩:=hst i b wr hi;exact ⟨o,h1,h2⟩)
 refine (L8 (S:=fun r=>∃ (i b:Nat) (x:Nat×Nat×Nat),K0[i]? = some (some (b,true))∧m b=some x∧rw? (aM hp h) b=true∧x.1=r) (X:=canO m K0) (z:=K0.length) (R:=fun v0 st=>∃ K,hU v0=true∧Nw.length=K.length∧iP K∧F6 K0 O K∧s8 K0 K hp.sz O Nw v v0 st.hp.get hp.get) hf hb (by simpa using hn) (bF _ _ iO) s0 (fun i _ x hx=>hx) (fun i y hy hr=>by
    obtain ⟨b,q1,q2,q3⟩:=hrw i y hy hr;exact ⟨i,b,y,q1,q2,q3,rfl⟩) (pt.yL ra hargs) (bm.mono (hrun _ _) fun e st q=>by
    obtain ⟨q1,q2,v0,K,q3,q4,q5⟩:=q;exact ⟨q1,q2,v0,q3,K,q4,q5⟩)).mono fun e w' hh=>?_
 obtain ⟨v',v0,st',m',rfl,⟨K,q4,hNw,hK,hge,q5⟩,rv,hs',hkp,hown,hpin⟩:=hh;have hj:=DW hk s hs' hK0 hK hge (fun i b wr hi=>by
    obtain ⟨⟨o,ho,hne,_⟩,hr⟩:=hst i b wr hi;refine ⟨o,ho,?_⟩
    by_cases hd:o = .dead
    ·cases wr with
     | true=>exact absurd hd (hne rfl)
     | false=>exact .inl ⟨hd,rfl⟩
    ·refine .inr ⟨hd,?_⟩
     rcases hr.has hk s ra with q | q
     ·rw [bq hk h b o ho] at q; cases q; exact absurd rfl hd
     ·exact q) hNw hkp hown hpin (fun b h1 h2=>hfr b h1 (by rw [cr,iE]; simp [hNw]; omega)) q5 rv q4
 exact ⟨v',rfl,_,hj.1,hj.2⟩
end
def blksOf(hp:Hp):List Nat→Option (List af)
 | []=>some []
 | b::bs=>match hp.get b,blksOf hp bs with
   | some o,some os=>some (o::os)
   | _,_=>none
theorem gM{hp:Hp}:∀ {K:List Nat} {O:List af},blksOf hp K=some O→O.length=K.length∧∀ (j c:Nat),K[j]? = some c→∃ o,hp.get c=some o∧O[j]? = some o
 | [],O,h=>by cases h; exact ⟨rfl,fun j c hc=>by simp at hc⟩
 | b::bs,O,h=>by
   unfold blksOf at h;split at h
   ·rename_i o os h1 h2
    cases h;obtain ⟨q1,q2⟩:=gM h2;refine ⟨by simp [q1],fun j c hc=>?_⟩
    cases j with
    | zero =>
      have:b=c:=by simpa using hc
      subst this;exact ⟨o,h1,rfl⟩
    | succ j=>simpa using q2 j c (by simpa using hc)
   ·cases h
def leafF(P:Program)(fn:Func)(Q:Value→List af→List Nat→List af→Prop)(e:Exit)(st:St)(p:cd)(k:Nat):Prop :=
 match p with
 | .stop z K _=>match (match e with | .normal=>true | .ret=>true | _=>false)&&st.df.isEmpty,retVal P fn st,blksOf st.hp (List.range z),blksOf st.hp K with
   | true,some v,some O,some Nw=>Q v O K Nw
   | _,_,_,_=>False
 | _=>False
def RF(P:Program)(ext:Ext)(fn:Func)(d:Nat)(c:Code)(st:St)(p:cd)(Q:Value→List af→List Nat→List af→Prop):Prop:=execT P (aCall P ext d) (callT P ext d) d c st p 0 (leafF P fn Q)
def fc(P:Program)(fn:Func)(Q:Value→List af→List Nat→List af→Prop)(e:Exit)(st:St):Prop :=
 (e = .normal∨e = .ret)∧st.df = []∧∃ v z O K Nw,retVal P fn st=some v∧blksOf st.hp (List.range z)=some O∧blksOf st.hp K=some Nw∧Q v O K Nw
section
variable {P:Program} {N z:Nat} {W:bh} {X:fe}
theorem vW{fn:Func}{Q:Value→List af→List Nat→List af→Prop}{e:Exit}{st:St}{p:cd}{k:Nat}(h:leafF P fn Q e st p k):fc P fn Q e st:=by
 unfold leafF at h;split at h
 ·rename_i z K _
  split at h
  ·rename_i v O Nw h1 h2 h3 h4
   obtain ⟨h1,h5⟩:=Bool.and_eq_true_iff.1 h1;refine ⟨?_,List.isEmpty_iff.1 h5,v,z,O,K,Nw,h2,h3,h4,h⟩
   cases e <;> first | exact .inl rfl | exact .inr rfl | cases h1
  ·exact h.elim
 ·exact h.elim
theorem bm.bW{ext:Ext}(hx:ExtOk P ext)(hm:P.follows .mixedOrders=true){fn:Func}{d:Nat}{c:Code}{st:St}{p:cd}{Q:Value→List af→List Nat→List af→Prop}(hs:codeSafe P N c=true){Y:Prop}(e:Y=RF P ext fn d c st p Q)(h:Y):bm P N W z X c st (fc P fn Q):=by
 rw [e] at h;obtain ⟨e,st',p',k',q1,q2⟩:=cY (iZ ext d) h;exact bm.run (aQ hx hm d) hm q1 hs (vW q2)
end
def placed(Nw:List af)(K:List Nat):List (Option Nat)→Option (List af×Kw)
 | []=>some ([],[])
 | none::r=>(placed Nw K r).map fun q=>(.dead::q.1,none::q.2)
 | some i::r=>match Nw[i]?,K[i]?,placed Nw K r with
   | some o,some c,some q=>some (o::q.1,some c::q.2)
   | _,_,_=>none
theorem jE{Nw:List af}{K:List Nat}{get:Nat→Option af}(hg:∀ (j c:Nat),K[j]? = some c→∃ o,get c=some o∧Nw[j]? = some o):∀ {r:List (Option Nat)} {q:List af×Kw},placed Nw K r=some q→q.1.length=q.2.length∧r.length=q.2.length ∧
  ∀ (j c:Nat),q.2[j]? = some (some c)→∃ i o,r[j]? = some (some i)∧K[i]? = some c∧get c=some o∧q.1[j]? = some o∧o∈Nw
 | [],q,h=>by cases h; exact ⟨rfl,rfl,fun j c hc=>by simp at hc⟩
 | none::r,q,h=>by
   obtain ⟨q',h1,rfl⟩:=Option.map_eq_some_iff.1 h;obtain ⟨k1,k2,k3⟩:=jE hg h1;refine ⟨by simp [k1],by simp [k2],fun j c hc=>?_⟩
   cases j with
   | zero=>simp at hc
   | succ j =>
     obtain ⟨i,o,p⟩:=k3 j c (by simpa using hc)
     exact ⟨i,o,by simpa using p⟩
 | some i::r,q,h=>by
   unfold placed at h;split at h
   ·rename_i o c q' h1 h2 h3
    cases h;obtain ⟨k1,k2,k3⟩:=jE hg h3;refine ⟨by simp [k1],by simp [k2],fun j c' hc=>?_⟩
    cases j with
    | zero =>
      have e:c=c':=by simpa using hc
      subst e;obtain ⟨o',p1,p2⟩:=hg i c h2;rw [h1] at p2; cases p2;exact ⟨i,o,by simp,h2,p1,by simp,List.mem_of_getElem? h1⟩
    | succ j =>
      obtain ⟨i,o,p⟩:=k3 j c' (by simpa using hc)
      exact ⟨i,o,by simpa using p⟩
   ·cases h
def nodupP:List (Option Nat)→Bool
 | []=>true
 | none::r=>nodupP r
 | some i::r=>(r.all fun x=>match x with | some j=>!Nat.beq i j | none=>true)&&nodupP r
theorem k6:∀ {r:List (Option Nat)},nodupP r=true→iP r
 | [],_=>fun i j c h=>by simp at h
 | none::r,h=>fun i j c h1 h2=>by
   cases i with
   | zero=>simp at h1
   | succ i=>cases j with
     | zero=>simp at h2
     | succ j=>rw [k6 (r:=r) h i j c (by simpa using h1) (by simpa using h2)]
 | some a::r,h=>fun i j c h1 h2=>by
   unfold nodupP at h;obtain ⟨q1,q2⟩:=Bool.and_eq_true_iff.1 h;have ne:∀ k,r[k]? = some (some a)→False:=fun k hk=>by
     have:=List.all_eq_true.1 q1 _ (List.mem_of_getElem? hk)
     simp [Nat.beq_refl] at this
   cases i with
   | zero =>
     cases j with
     | zero=>rfl
     | succ j =>
       have e:a=c:=by simpa using h1
       subst e;exact (ne j (by simpa using h2)).elim
   | succ i=>cases j with
     | zero =>
       have e:a=c:=by simpa using h2
       subst e;exact (ne i (by simpa using h1)).elim
     | succ j=>rw [k6 q2 i j c (by simpa using h1) (by simpa using h2)]
structure Gm (K0:Ks) (B:Nat) (O' Nw':List af) (v':Value) (g:HG) (v:Value) (O:List af) (K:List Nat) (Nw:List af):Prop where
 okv:hU v=true
 oko:O.all cR=true
 okn:(Nw.all fun o=>cR o&&mq o)=true
 nd:(nodupB K&&K.all fun c=>Nat.ble K0.length c)=true
 len:O.length=K0.length
 plc:∃ r Nq Kq,nodupP r=true∧placed Nw K r=some (Nq,Kq)∧v'=mv3 (sgE K0 Kq B) v∧(∀ (i b:Nat),K0[i]? = some (some (b,true))→O'[i]? = (O[i]?).map (mvB (sgE K0 Kq B)))∧Nw'=Nq.map (mvB (sgE K0 Kq B))
 ro:∀ (i b:Nat),K0[i]? = some (some (b,false))→O[i]? = some .dead→g b=some .dead
theorem Gm.fin{P:Program}{fn:Func}{K0:Ks}{B:Nat}{O Nw:List af}{v:Value}{g:HG}{e:Exit}{st:St}(h:fc P fn (Gm K0 B O Nw v g) e st) :
  (e = .normal∨e = .ret)∧st.df = []∧∃ v0 K,retVal P fn st=some v0∧hU v0=true∧Nw.length=K.length∧iP K∧F6 K0 O K∧s8 K0 K B O Nw v v0 st.hp.get g:=by
 obtain ⟨h1,h2,v0,z,O0,K,N0,h3,h4,h5,q⟩:=h;obtain ⟨l1,g1⟩:=gM h4;obtain ⟨l2,g2⟩:=gM h5;obtain ⟨n1,n2⟩:=Bool.and_eq_true_iff.1 q.nd;obtain ⟨r,Nq,Kq,r1,r2,r3,r4,rfl⟩:=q.plc;obtain ⟨p1,p2,p3⟩:=jE g2 r2;simp only at p1 p2 p3;have hz:z=K0.length:=by have:=q.len; simp at l1; omega
 subst hz;refine ⟨h1,h2,v0,Kq,h3,q.okv,by simp [p1],fun i j c hi hj=>?_,fun c hc=>?_,r3,fun i b hi=>?_,fun i b hi hdd=>?_,fun j c hc=>?_⟩
 ·obtain ⟨a,oa,a1,a2,_⟩:=p3 i c hi
  obtain ⟨b,ob,b1,b2,_⟩:=p3 j c hj;have:=k7 n1 a2 b2
  subst this;exact k6 r1 i j a a1 b1
 ·obtain ⟨j,hj⟩:=List.getElem?_of_mem hc
  obtain ⟨i,o,_,a2,_⟩:=p3 j c hj;have:=List.all_eq_true.1 n2 c (List.mem_of_getElem? a2)
  exact .inl (by simpa [Nat.ble_eq] using this)
 ·have hlt:i<K0.length:=(List.getElem?_eq_some_iff.1 hi).1
  obtain ⟨o,p1,p2⟩:=g1 i i (by simp [hlt])
  exact ⟨o,p1,List.all_eq_true.1 q.oko o (List.mem_of_getElem? p2),.inl (by rw [r4 i b hi,p2]; rfl)⟩
 ·have hlt:i<K0.length:=(List.getElem?_eq_some_iff.1 hi).1
  obtain ⟨o,p1,p2⟩:=g1 i i (by simp [hlt])
  refine q.ro i b hi ?_
  rw [p1] at hdd;rw [p2]; exact hdd
 ·obtain ⟨i,o,_,_,a3,a4,a5⟩:=p3 j c hc
  have:=List.all_eq_true.1 q.okn o a5
  obtain ⟨r1,r2⟩:=Bool.and_eq_true_iff.1 this;exact ⟨o,a3,r1,r2,by rw [List.getElem?_map,a4]; rfl⟩
def Og(M i:Nat):Bool:=Nat.beq (Nat.land (Nat.shiftRight M i) 1) 1
def blkM(M:Nat)(hp:Hp)(K:List Nat):Nat→List Nat→List af
 | _,[]=>[]
 | i,b::bs=>(match Og M i with | true=>(hp.get b).getD .dead | false=>bX K ((hp.get b).getD .dead))::blkM M hp K (i+1) bs
def Em(M:Nat)(hp:Hp):Nat→List Nat→Bool
 | _,[]=>true
 | i,b::bs=>(match Og M i with | true=>true | false=>fM ((hp.get b).getD .dead))&&Em M hp (i+1) bs
def lookM(M:Nat)(K:List Nat)(Ts:List Nat)(r:Exit×St):Exit×List af×List (Nat×Value)×Bool :=
 (r.1,blkM M r.2.hp K 0 K,Ts.map fun t=>(t,mb K (r.2.dK t)),
   (K.all fun b=>match r.2.hp.get b with | some _=>true | none=>false)&&Em M r.2.hp 0 K&&(Ts.all fun t=>oO (r.2.dK t))&&r.2.df.isEmpty)
def lC(M:Nat)(O:List af):Prop:=∀ i,Og M i=true→∀ o,O[i]? = some o→dw 0 o
theorem va{M:Nat}{hp:Hp}{K:List Nat}:∀ {i:Nat} {bs:List Nat},(blkM M hp K i bs).length=bs.length
 | _,[]=>rfl
 | i,b::bs=>by rw [blkM,List.length_cons,va,List.length_cons]
theorem u9{M:Nat}{hp:Hp}{K:List Nat}:∀ {i:Nat} {bs:List Nat} {j b:Nat},bs[j]? = some b→(blkM M hp K i bs)[j]? = some (match Og M (i+j) with | true=>(hp.get b).getD .dead | false=>bX K ((hp.get b).getD .dead))
 | _,[],j,b,h=>by simp at h
 | i,c::bs,0,b,h=>by
   simp at h; subst h; rfl
 | i,c::bs,j+1,b,h=>by
   rw [blkM,List.getElem?_cons_succ,u9 (j:=j) (by simpa using h),show i+1+j=i+(j+1) by omega]
theorem wq{M:Nat}{hp:Hp}:∀ {i:Nat} {bs:List Nat} {j b:Nat},Em M hp i bs=true→bs[j]? = some b→Og M (i+j)=false→fM ((hp.get b).getD .dead)=true
 | _,[],j,b,_,h,_=>by simp at h
 | i,c::bs,0,b,hn,h,ho=>by
   simp at h; subst h;rw [Em] at hn;have:=(Bool.and_eq_true_iff.1 hn).1
   rw [Nat.add_zero] at ho;rw [ho] at this; exact this
 | i,c::bs,j+1,b,hn,h,ho=>by
   rw [Em] at hn;exact wq (i:=i+1) (j:=j) (Bool.and_eq_true_iff.1 hn).2 (by simpa using h) (by rw [show i+1+j=i+(j+1) by omega]; exact ho)
section
variable {P:Program} {N z:Nat} {W:bh} {X:fe}
theorem FM.CQ{st':St}{a':Act}{w':World}{m':BM}(f':FM N W z X st' a' w' m'){e e':Exit}(M:Nat)(K Ts:List Nat)(O:List af)(L:List (Nat×Value))
  (h2:lookM M K Ts (e',st')=(e,O,L,true)) (hK:nodupB K=true) (hT:Ts.all (fun t=>Nat.blt t N)=true)
  (hO:lC M O) (h0:∀ i,i<z→K[i]? = some i):e'=e∧∃ g m2,FM N W z X (av N g L O) a' w' m2:=by
 simp only [lookM,Prod.mk.injEq] at h2;obtain ⟨rfl,rfl,rfl,h5⟩:=h2;obtain ⟨h5,h7⟩:=Bool.and_eq_true_iff.1 h5;obtain ⟨h5,h6⟩:=Bool.and_eq_true_iff.1 h5;obtain ⟨h3,h4⟩:=Bool.and_eq_true_iff.1 h5;have hpin:=f'.pin
 have hlen:(blkM M st'.hp K 0 K).length=K.length:=va
 have hget:∀ (i b:Nat),K[i]? = some b→∃ o,st'.hp.get b=some o:=fun i b hi=>by
  have:=List.all_eq_true.1 h3 b (List.mem_of_getElem? hi)
  cases hg:st'.hp.get b with
  | none=>rw [hg] at this; cases this
  | some o=>exact ⟨o,rfl⟩
 have hB:∀ (i b:Nat) (o2:af),K[i]? = some b→(blkM M st'.hp K 0 K)[i]? = some o2→∃ o,st'.hp.get b=some o∧o2=bX K o∧fM o=true:=fun i b o2 hi ho=>by
  obtain ⟨o,hg⟩:=hget i b hi;refine ⟨o,hg,?_⟩
  have e1:=u9 (M:=M) (hp:=st'.hp) (K:=K) (i:=0) hi
  rw [Nat.zero_add,hg,Option.getD_some] at e1;cases hq:Og M i with
  | true =>
    rw [hq] at e1;rw [e1] at ho;have e3:o=o2:=by simpa using ho
    subst e3;obtain ⟨k1,k2⟩:=hO i hq o e1;exact ⟨(k2 K (fun i hi=>absurd hi (Nat.not_lt_zero _))).symm,k1⟩
  | false =>
    rw [hq] at e1;rw [e1] at ho;have e3:bX K o=o2:=by simpa using ho
    refine ⟨e3.symm,?_⟩
    have:=wq (i:=0) h4 hi (by rw [Nat.zero_add]; exact hq)
    rw [hg] at this; exact this
 obtain ⟨g,f2⟩:=f'.fr.tG K (blkM M st'.hp K 0 K) (Ts.map fun t=>(t,mb K (st'.dK t))) (fF hK) hlen hB (fun x hx=>by
    obtain ⟨t,ht,rfl⟩:=List.mem_map.1 hx;exact ⟨by have:=List.all_eq_true.1 hT t ht; simpa [Nat.blt_eq] using this,List.all_eq_true.1 h6 t ht,rfl⟩) (List.isEmpty_iff.1 h7)
 refine ⟨rfl,_,_,f2,fun i hi x hx=>?_⟩
 have hKi:=h0 i hi
 have hlt:i<K.length:=(List.getElem?_eq_some_iff.1 hKi).1
 rcases hpin i hi x hx with hd | hd
 ·refine .inl ?_
  obtain ⟨o2,ho2⟩:∃ o2,(blkM M st'.hp K 0 K)[i]? = some o2:=⟨_,List.getElem?_eq_getElem (by omega)⟩
  obtain ⟨o,q1,q2,_⟩:=hB i i o2 hKi ho2;rw [hd] at q1; cases q1;show (heapOf _ aE).get i=_
  rw [ak,List.getElem?_append_left (by omega),ho2,q2]
  rfl
 ·refine .inr ?_
  unfold canM;rw [hKi];exact hd
def leafM(N z:Nat)(Q:Exit→St→Prop)(e:Exit)(st:St)(p:cd)(k:Nat):Prop :=
 match p with
 | .stop n K Ts=>match nodupB K&&pinK z K&&Ts.all (fun t=>Nat.blt t N),lookM n K Ts (e,st) with
   | true,(e',O,L,true)=>lC n O∧∀ g,Q e' (av N g L O)
   | _,_=>False
 | _=>False
def RM(P:Program)(ext:Ext)(N z d:Nat)(c:Code)(st:St)(p:cd)(Q:Exit→St→Prop):Prop:=execT P (aCall P ext d) (callT P ext d) d c st p 0 (leafM N z Q)
theorem bm.leafM{c:Code}{st:St}{Q:Exit→St→Prop}(h:bm P N W z X c st fun e st'=>∃ p k,AI.leafM N z Q e st' p k):bm P N W z X c st Q:=fun a w m f =>
 wp_mono (h a w m f) fun e a' w' hh=>by
  obtain ⟨st',m',f',p,k,q⟩:=hh;unfold AI.leafM at q;split at q
  ·rename_i n K Ts
   split at q
   ·rename_i e' O L hk hl
    obtain ⟨h1,h2⟩:=Bool.and_eq_true_iff.1 hk;obtain ⟨h0,h1⟩:=Bool.and_eq_true_iff.1 h1;obtain ⟨rfl,g,m2,f2⟩:=f'.CQ n K Ts O L hl h0 h2 q.1 (fun i hi=>pK h1 hi)
    exact ⟨_,m2,f2,q.2 g⟩
   ·exact q.elim
  ·exact q.elim
theorem bm.n4{ext:Ext}(hx:ExtOk P ext)(hm:P.follows .mixedOrders=true){d:Nat}{c:Code}{st:St}{p:cd}{Q:Exit→St→Prop}(hs:codeSafe P N c=true){Y:Prop}(e:Y=RM P ext N z d c st p Q)(h:Y):bm P N W z X c st Q:=by
 rw [e] at h;obtain ⟨e,st',p',k',q1,q2⟩:=cY (iZ ext d) h;exact bm.leafM (bm.run (aQ hx hm d) hm q1 hs ⟨p',k',q2⟩)
end
def LQ{α : Type}(post : α→(Nat→Value)→Exit×St)(ok : α→Prop)(e:Exit)(st:St):Prop:=∃ a g,ok a∧e=(post a g).1∧st=(post a g).2
def ON{α β : Type}(post : α→(Nat→Value)→Exit×St)(ok : α→Prop)(post2 : β→(Nat→Value)→Exit×St)(ok2 : β→Prop)(e:Exit)(st:St):Prop:=LQ post ok e st∨LQ post2 ok2 e st
def loopT(P:Program)(N:Nat)(W:bh)(z:Nat)(X:fe)(n:Nat)(K Ts:List Nat)(c:Code)(st:St)(Q:Exit→St→Prop)(Y:Prop):Prop :=
 match Nat.blt n 1000 with
 | true=>match nodupB K&&pinK z K&&Ts.all (fun t=>Nat.blt t N),look2 n K Ts (.normal,st) with
   | true,(_,O,L,true)=>match n with
     | 0=>(∀ g,bm P N W z X c (av N g L O) Q)∧Y
     | n=>uS n O∧(∀ g,bm P N W z X c (av N g L O) Q)∧Y
   | _,_=>False
 | false=>match nodupB K&&pinK z K&&Ts.all (fun t=>Nat.blt t N),lookM (n-1000) K Ts (.normal,st) with
   | true,(_,O,L,true)=>lC (n-1000) O∧(∀ g,bm P N W z X c (av N g L O) Q)∧Y
   | _,_=>False
def execW(P:Program)(call:aG)(cn:lI)(N:Nat)(W:bh)(z:Nat)(X:fe):Nat→Code→St→cd→Nat→(Exit→St→cd→Nat→Prop)→Prop
 | 0,_,_,_,_,_=>False
 | n+1,c,st,p,k,K=>match c with
   | .skip | .label _=>K .normal st p k
   | .region _ ops draw=>match draw with
     | false=>runOpsT P call cn ops ops.toList st p k fun st' p' k'=>K .normal st' p' k'
     | true=>match js P ops with
       | []=>runOpsT P call cn ops ops.toList st p k fun st' p' k'=>K .normal st' p' k'
       | f::fs=>runLogT P call cn ops ops.toList 0 st p k fun st' l p' k'=>match pairsQ l (f::fs) with
         | some q=>H6 q (K .normal st' p' k')
         | none=>False
   | .seq x y=>execW P call cn N W z X n x st p k fun e st' p' k'=>match e with
     | .normal=>execW P call cn N W z X n y st' p' k' K
     | e=>K e st' p' k'
   | .cond x t f=>match st.eval x with
     | .bool true=>execW P call cn N W z X n t st p k K
     | .bool false=>execW P call cn N W z X n f st p k K
     | _=>False
   | .block id body=>execW P call cn N W z X n body st p k fun e st' p' k'=>match e with
     | .exit i=>match Nat.beq i id with
       | true=>K .normal st' p' k'
       | false=>K (.exit i) st' p' k'
     | e=>K e st' p' k'
   | .loop body=>match p with
     | .l j a b c α post ok x=>match Nat.beq j k with
       | true=>loopT P N W z X a b c (.loop body) st (LQ post ok) (∀ u g,ok u→K (post u g).1 (post u g).2 x k)
       | false=>execT P call cn (n+1) (.loop body) st p k K
     | .m j a b c α post ok x β post2 ok2 y=>match Nat.beq j k with
       | true=>loopT P N W z X a b c (.loop body) st (ON post ok post2 ok2) ((∀ u g,ok u→K (post u g).1 (post u g).2 x k)∧(∀ u g,ok2 u→K (post2 u g).1 (post2 u g).2 y k))
       | false=>execT P call cn (n+1) (.loop body) st p k K
     | p=>execT P call cn (n+1) (.loop body) st p k K
   | .scope body=>execW P call cn N W z X n body st p k fun e st' p' k'=>match e with
     | .goto _=>False
     | e=>K e st' p' k'
   | .exit id=>K (.exit id) st p k
   | .ret=>K .ret st p k
   | _=>False
section
variable {P:Program} {N z:Nat} {W:bh} {X:fe}
theorem wb{n:Nat}{K Ts:List Nat}{c:Code}{st:St}{Q:Exit→St→Prop}{Y:Prop}(h:loopT P N W z X n K Ts c st Q Y):bm P N W z X c st Q∧Y:=by
 unfold loopT at h;split at h
 ·split at h
  ·rename_i e O L hk hl
   obtain ⟨h1,h2⟩:=Bool.and_eq_true_iff.1 hk;obtain ⟨h0,h1⟩:=Bool.and_eq_true_iff.1 h1;have key:uS n O→(∀ g,bm P N W z X c (av N g L O) Q)→bm P N W z X c st Q:=fun hf hq a w m f=>by
     obtain ⟨-,g,m2,f2⟩:=f.canon n K Ts O L hl h0 h2 hf (fun i hi=>pK h1 hi)
     exact hq g a w m2 f2
   split at h
   ·exact ⟨key (fun i hi=>by omega) h.1,h.2⟩
   ·exact ⟨key h.1 h.2.1,h.2.2⟩
  ·exact h.elim
 ·split at h
  ·rename_i e O L hk hl
   obtain ⟨h1,h2⟩:=Bool.and_eq_true_iff.1 hk;obtain ⟨h0,h1⟩:=Bool.and_eq_true_iff.1 h1;refine ⟨fun a w m f=>?_,h.2.2⟩
   obtain ⟨-,g,m2,f2⟩:=f.CQ _ K Ts O L hl h0 h2 h.1 (fun i hi=>pK h1 hi)
   exact h.2.1 g a w m2 f2
  ·exact h.elim
theorem bm.cond_true{y:Operand}{c d:Code}{st:St}{Q:Exit→St→Prop}(hx:gv y=true)(hv:st.eval y = .bool true)(h:bm P N W z X c st Q):bm P N W z X (.cond y c d) st Q:=fun a w m f=>by
 refine wp_cond_true ?_ (h a w m f)
 have:=f.fr.rel.tm.eval hx
 rw [hv] at this;exact this.of_bool
theorem bm.cond_false{y:Operand}{c d:Code}{st:St}{Q:Exit→St→Prop}(hx:gv y=true)(hv:st.eval y = .bool false)(h:bm P N W z X d st Q):bm P N W z X (.cond y c d) st Q:=fun a w m f=>by
 refine wp_cond_false ?_ (h a w m f)
 have:=f.fr.rel.tm.eval hx
 rw [hv] at this;exact this.of_bool
theorem bm.scope{c:Code}{st:St}{Q:Exit→St→Prop}(h:bm P N W z X c st fun e st'=>(∀ l,e≠.goto l)∧Q e st'):bm P N W z X (.scope c) st Q:=fun a w m f=>by
 refine wp_scope_straight (wp_mono (h a w m f) fun e a' w' hh=>?_)
 obtain ⟨st',m',f',q1,q⟩:=hh;cases e with
 | goto l=>exact absurd rfl (q1 l)
 | _=>exact ⟨st',m',f',q⟩
theorem gS{call:aG}{cn:lI}(hc:ba P call)(hm:P.follows .mixedOrders=true)(hcn:xp call cn):∀ {n:Nat} {c:Code} {st:St} {p:cd} {k:Nat} {K:Exit→St→cd→Nat→Prop},codeSafe P N c=true→execW P call cn N W z X n c st p k K →
  bm P N W z X c st fun e st'=>∃ p' k',K e st' p' k'
 | 0,c,st,p,k,K,hs,he=>he.elim
 | n+1,c,st,p,k,K,hs,he=>by
   cases c with
   | skip=>exact bm.run hc hm (n:=1) (st':=st) (e:=.normal) rfl hs ⟨_,_,he⟩
   | label l=>exact bm.run hc hm (n:=1) (st':=st) (e:=.normal) rfl hs ⟨_,_,he⟩
   | exit i=>exact bm.run hc hm (n:=1) (st':=st) (e:=.exit i) rfl hs ⟨_,_,he⟩
   | ret=>exact bm.run hc hm (n:=1) (st':=st) (e:=.ret) rfl hs ⟨_,_,he⟩
   | region id ops draw =>
     obtain ⟨e,st',p',k',q1,q2⟩:=cY (n:=1) (c:=.region id ops draw) (K:=K) hcn (by simp only [execT]; simp only [execW] at he; exact he)
     exact bm.run hc hm q1 hs ⟨_,_,q2⟩
   | seq x y =>
     simp only [execW] at he;simp only [codeSafe,Bool.and_eq_true] at hs;refine bm.seq (gS hc hm hcn hs.1 he) (fun st' h=>?_) (fun e st' hne h=>?_)
     ·obtain ⟨p',k',q⟩:=h
      exact gS hc hm hcn hs.2 q
     ·obtain ⟨p',k',q⟩:=h
      cases e with
      | normal=>exact absurd rfl hne
      | _=>exact ⟨p',k',q⟩
   | cond x t f =>
     simp only [execW] at he;simp only [codeSafe,Bool.and_eq_true] at hs;split at he
     ·rename_i hx; exact bm.cond_true hs.1.1 hx (gS hc hm hcn hs.1.2 he)
     ·rename_i hx; exact bm.cond_false hs.1.1 hx (gS hc hm hcn hs.2 he)
     ·exact he.elim
   | block id b =>
     simp only [execW] at he;refine bm.block (bm.mono (gS hc hm hcn hs he) fun e st' h=>?_)
     obtain ⟨p',k',q⟩:=h;cases e with
     | exit i =>
       simp only at q ⊢;split at q
       ·rename_i hi
        rw [if_pos (Nat.eq_of_beq_eq_true hi)];exact ⟨p',k',q⟩
       ·rename_i hi
        rw [if_neg (fun e=>by subst e; rw [Nat.beq_refl] at hi; cases hi)]
        exact ⟨p',k',q⟩
     | _=>exact ⟨p',k',q⟩
   | loop b =>
     have plain:execT P call cn (n+1) (.loop b) st p k K→bm P N W z X (.loop b) st fun e st'=>∃ p' k',K e st' p' k':=fun he=>by
       obtain ⟨e,st',p',k',q1,q2⟩:=cY hcn he;exact bm.run hc hm q1 hs ⟨_,_,q2⟩
     simp only [execW] at he;split at he
     ·split at he
      ·obtain ⟨q1,q2⟩:=wb he
       refine bm.mono q1 fun e st' q=>?_
       obtain ⟨u,g,h1,rfl,rfl⟩:=q;exact ⟨_,_,q2 u g h1⟩
      ·exact plain he
     ·split at he
      ·obtain ⟨q1,q2⟩:=wb he
       refine bm.mono q1 fun e st' q=>?_
       rcases q with ⟨u,g,h1,rfl,rfl⟩ | ⟨u,g,h1,rfl,rfl⟩
       ·exact ⟨_,_,q2.1 u g h1⟩
       ·exact ⟨_,_,q2.2 u g h1⟩
      ·exact plain he
     ·exact plain he
   | scope b =>
     simp only [execW] at he;refine bm.scope (bm.mono (gS (c:=b) hc hm hcn hs he) fun e st' h=>?_)
     obtain ⟨p',k',q⟩:=h;cases e with
     | goto l=>exact q.elim
     | _=>exact ⟨fun l h=>Exit.noConfusion h,p',k',q⟩
   | _=>exact he.elim
def WF(P:Program)(ext:Ext)(fn:Func)(N:Nat)(W:bh)(z:Nat)(X:fe)(d:Nat)(c:Code)(st:St)(p:cd)(Q:Value→List af→List Nat→List af→Prop):Prop:=execW P (aCall P ext d) (callT P ext d) N W z X d c st p 0 (leafF P fn Q)
theorem bm.uj{ext:Ext}(hx:ExtOk P ext)(hm:P.follows .mixedOrders=true){fn:Func}{d:Nat}{c:Code}{st:St}{p:cd}{Q:Value→List af→List Nat→List af→Prop}(hs:codeSafe P N c=true){Y:Prop}(e:Y=WF P ext fn N W z X d c st p Q)(h:Y):bm P N W z X c st (fc P fn Q):=by
 rw [e] at h;exact bm.mono (gS (aQ hx hm d) hm (iZ ext d) hs h) fun e st' ⟨p',k',q⟩=>vW q
theorem bm.count{c:Code}{Q:Exit→St→Prop}(n:Nat)(S:Nat→(Nat→Value)→St)(step:∀ i,i<n→∀ g,bm P N W z X c (S i g) fun e st'=>(e = .normal∧∃ g',st'=S (i+1) g')∨(e≠.normal∧Q e st'))
  (last:∀ g,bm P N W z X c (S n g) fun e st'=>e≠.normal∧Q e st') (g:Nat→Value):bm P N W z X (.loop c) (S 0 g) Q:=by
 refine bm.loop (fun k st=>∃ i g,k+i=n∧st=S i g) (fun k st=>?_) (k:=n) ⟨0,g,by omega,rfl⟩
 rintro ⟨i,g,hk,rfl⟩;rcases Nat.lt_or_ge i n with hi | hi
 ·refine bm.mono (step i hi g) fun e st' q=>?_
  rcases q with ⟨rfl,g',rfl⟩ | q
  ·exact .inl ⟨rfl,k-1,by omega,i+1,g',by omega,rfl⟩
  ·exact .inr q
 ·obtain rfl:i=n:=by omega
  exact bm.mono (last g) fun e st' q=>.inr q
end
end Go.Proofs.YtgeoommlmddgpaaGreat.AI
namespace Go.Proofs.YtgeoommlmddgpaaGreat.LtL
open Go Go.Proofs Go.Proofs.YtgeoommlmddgpaaGreat.AI Go.RowKit Go.Proofs.YtgeoommlmddgpaaGreat.Sort Go.Proofs.YtgeoommlmddgpaaGreat.LtA
def Q1(o:af)(v0:Value):Value→List af→List Nat→List af→Prop:=fun v O K Nw=>v=v0∧O = [o]∧K = []∧Nw = []
theorem Q1.of{o:af}{v v0:Value}(h:v=v0):Q1 o v0 v [o] [] []:=⟨h,rfl,rfl,rfl⟩
def fv(v:Value):Prop:=hU v=true∧∀ s,mv3 s v=v
theorem lx(k:IntKind)(z:Int):fv (.int k z):=⟨rfl,fun _=>rfl⟩
theorem qX(b:Bool):fv (.bool b):=⟨rfl,fun _=>rfl⟩
theorem Ix(y:aa):fv (cP y):=⟨rfl,fun _=>by simp [mv3,mv2,mv1,cP]⟩
structure Ku (fn:Func) (code:Code) (N j:Nat) (vs:List aa) (rest:List Value) (v0:Value):Prop where
 okv:fv v0
 flat:∀ r∈rest,fv r
 len:rest.length+1≤N
 run:∀ f o c W X,aA o=true→(vs = []∨∃ ty ro,o = .cells ty (aK vs) ro)→(f=false→vs = []∧o = .dead) →
  bm Tryz.prog N W 1 X code ⟨tmsOf (rest.insertIdx j (vS f 0 vs.length c)) 0 .leaf,heapOf [o,.dead] aE,[]⟩ (fc Tryz.prog fn (Q1 o v0))
open Classical in
noncomputable def toldA(j:Nat)(A:List aa→List Value→Option Value):aC:=fun args hp=>match args[j]? with
 | some s=>if h:∃ vs,TN vs s hp∧vs.length<1000000 then (A h.choose (args.eraseIdx j)).map fun v=>(v,heapOf [.dead] hp) else none
 | none=>none
theorem na{rest:List Value}(h:∀ r∈rest,fv r)(s:Nat→Nat):rest.map (mv3 s)=rest:=by
 induction rest with
 | nil=>rfl
 | cons r rest ih=>rw [List.map_cons,(h r (.head _)).2,ih fun x hx=>h x (.tail _ hx)]
theorem sn{α : Type}{l:List α}{j:Nat}{s : α}(h:l[j]? = some s):(l.eraseIdx j).insertIdx j s=l:=by
 induction l generalizing j with
 | nil=>simp at h
 | cons a l ih =>
   cases j with
   | zero=>simp at h; subst h; simp
   | succ j=>simp only [List.eraseIdx_cons_succ,List.insertIdx_succ_cons]; rw [ih (by simpa using h)]
theorem mem_erase{α : Type}{l:List α}{j:Nat}{s x : α}(h:l[j]? = some s)(hx:x∈l):x=s∨x∈l.eraseIdx j:=by
 have e:=sn h
 rw [← e] at hx;have hj:j≤(l.eraseIdx j).length:=by
  have:=(List.getElem?_eq_some_iff.1 h).1
  rw [List.length_eraseIdx]; split <;> omega
 rcases (List.mem_insertIdx hj).1 hx with h | h
 ·exact .inl h
 ·exact .inr h
theorem H5{α β : Type}(f : α→β)(l:List α)(j:Nat)(s : α):(l.insertIdx j s).map f=(l.map f).insertIdx j (f s):=by
 induction l generalizing j with
 | nil=>cases j <;> simp
 | cons a l ih =>
   cases j with
   | zero=>simp
   | succ j=>simp [ih]
theorem bV{s:Nat→Nat}{o:af}(h:aA o=true):mvB s o=o:=by
 cases o with
 | cells ty cs ro =>
   have h':∀ v∈cs,inert v=true:=fun v hv=>List.all_eq_true.1 h v hv
   show af.cells ty (cs.map (mv2 s)) ro=_
   have:cs.map (mv2 s)=cs.map id:=List.map_congr_left fun v hv=>by
     have:=h' v hv
     cases v with
     | pointer a=>cases a <;> first | rfl | cases this
     | slice a l c=>cases a <;> first | rfl | cases this
     | map a=>cases a <;> first | rfl | cases this
     | agg _=>cases this
     | func _ _ _=>cases this
     | _=>rfl
   rw [this]; simp
 | map=>cases h
 | dead=>rfl
theorem bU{vs:List aa}{o:af}(hi:aA o=true):cR o=true:=by
 have:=aS hi
 cases o with
 | cells ty cs ro=>exact (Bool.and_eq_true_iff.1 this).1
 | map=>exact this
 | dead=>rfl
theorem q9{j:Nat}{A:List aa→List Value→Option Value}{f:FuncId}{fn:Func}{code:Code}{N:Nat}(hf:Tryz.prog.funcs[f]? = some fn)(hb:fn.body=some code)(hnm:(fn.name == "runtime.NumGoroutine")=false)(hN:fn.ntmps=N)
  (H:∀ vs,vs.length<1000000→∀ rest v0,A vs rest=some v0→Ku fn code N j vs rest v0):aq Tryz.prog f (toldA j A):=ku follows hf hb hnm fun args hp v hp' h hk=>by
 rw [hN];unfold toldA at h;split at h
 case h_2=>cases h
 rename_i s hs;split at h
 case isFalse=>cases h
 rename_i hx;obtain ⟨hT,hn⟩:=hx.choose_spec;generalize hx.choose=vs at *;obtain ⟨v0,hA,h2⟩:=Option.map_eq_some_iff.1 h;cases h2;have R:=H vs hn _ v hA
 have hlen:args.length≤N:=by
  have:=R.len
  have h1:=(List.getElem?_eq_some_iff.1 hs).1
  rw [List.length_eraseIdx,if_pos h1] at this; omega
 have key:∀ (K0:Ks) (f:Bool) (o:af) (c:Nat),K0.length=1→dX K0→mv3 (ik K0) s=vS f 0 vs.length c→dZ K0 hp=heapOf [o,.dead] aE→aA o=true→(vs = []∨∃ ty ro,o = .cells ty (aK vs) ro)→(f=false→vs = []∧o = .dead)→hU s=true →
    (∀ (i b:Nat) (wr:Bool),K0[i]? = some (some (b,wr))→(∃ o,hp.get b=some o∧(wr=true→o≠.dead)∧cj o=true)∧uK args hp b∧wr=false∧(o = .dead→hp.get b=some .dead)) →
    ∃ (K0:Ks) (O Nw:List af),heapOf [.dead] hp=heapOf (Nw ++ [.dead]) (putO K0 O hp)∧dX K0 ∧
    (∀ (i b:Nat) (wr:Bool),K0[i]? = some (some (b,wr))→(∃ o,hp.get b=some o∧(wr=true→o≠.dead)∧cj o=true)∧uK args hp b)∧args.all hU=true∧args.length≤N ∧
    ∀ W X,bm Tryz.prog N W K0.length X code ⟨tmsOf (args.map (mv3 (ik K0))) 0 .leaf,dZ K0 hp,[]⟩ fun e st=>(e = .normal∨e = .ret)∧st.df = []∧∃ v0 K,retVal Tryz.prog fn st=some v0∧hU v0=true∧Nw.length=K.length∧iP K∧F6 K0 O K∧s8 K0 K hp.sz O Nw v v0 st.hp.get hp.get:=by
  intro K0 f o c vO hnd he hpn hi hr hfl hok hst;refine ⟨K0,[o],[],?_,hnd,fun i b wr hi=>⟨(hst i b wr hi).1,(hst i b wr hi).2.1⟩,?_,hlen,fun W X=>?_⟩
  ·have e:putO K0 [o] hp=hp:=by
      match K0,vO with
      | [none],_=>rfl
      | [some (b,false)],_=>rfl
      | [some (b,true)],_=>exact absurd (hst 0 b true rfl).2.2.1 (by decide)
   rw [e]; rfl
  ·refine List.all_eq_true.2 fun x hx=>?_
   rcases mem_erase hs hx with rfl | hx
   ·exact hok
   ·exact (R.flat x hx).1
  ·have ea:args.map (mv3 (ik K0))=(args.eraseIdx j).insertIdx j (vS f 0 vs.length c):=by
      conv=>lhs; rw [← sn hs]
      rw [H5,na R.flat,he]
   rw [ea,hpn,vO];refine bm.mono (R.run f o c W X hi hr hfl) fun e st q=>?_
   have:=Gm.fin (K0:=K0) (B:=hp.sz) (O:=[o]) (Nw:=[]) (v:=v) (g:=hp.get) (fn:=fn) (P:=Tryz.prog) (e:=e) (st:=st) (by
     obtain ⟨q1,q2,v1,z,O,K,Nw,q3,q4,q5,rfl,rfl,rfl,rfl⟩:=q;refine ⟨q1,q2,_,z,_,_,_,q3,q4,q5,?_⟩
     refine ⟨R.okv.1,by simp [bU (vs:=vs) hi],rfl,rfl,by simp [vO],⟨[],[],[],rfl,rfl,(R.okv.2 _).symm,fun i b hi'=>?_,rfl⟩,fun i b hi' hdd=>?_⟩
     ·exact absurd (hst i b true hi').2.2.1 (by decide)
     ·have h0:i=0:=by have:=(List.getElem?_eq_some_iff.1 hi').1; omega
      subst h0;exact (hst 0 b false hi').2.2.2 (by simpa using hdd))
   exact this
 rcases hT with ⟨rfl,rfl⟩ | ⟨b,c,ob,rfl,hb,hi,hr⟩
 ·exact key [none] false .dead 0 rfl (fun i j b wr wr' h1 h2=>by cases i <;> simp at h1) rfl rfl rfl (.inl rfl) (fun _=>⟨rfl,rfl⟩) rfl (fun i b wr h=>by cases i <;> simp at h)
 ·have e1:ik [some (b,false)] b=0:=by simp [ik,posO,Nat.beq_refl]
  refine key [some (b,false)] true (roBlk ob) c rfl (fun i j b wr wr' h1 h2=>?_) ?_ ?_ (bO hi) (ee hr) (fun h=>by cases h) rfl (fun i b' wr h=>?_)
  ·have:=(List.getElem?_eq_some_iff.1 h1).1
   have:=(List.getElem?_eq_some_iff.1 h2).1
   simp at *; omega
  ·show mv3 _ (ae b vs.length c)=_
   simp [mv3,mv2,mv1,ae,vS,e1]
  ·unfold dZ
   simp [pinB,hb,bV hi,eQ]
  ·have h0:i=0:=by have:=(List.getElem?_eq_some_iff.1 h).1; simpa using this
   subst h0;simp at h;obtain ⟨rfl,rfl⟩:=h;refine ⟨⟨ob,hb,(fun h=>by cases h),aS hi⟩,.arg (List.mem_of_getElem? hs) (by simp [kv,jY,ae]),rfl,?_⟩
   intro h;cases ob <;> first | exact hb | cases h
theorem xa{j:Nat}{A:List aa→List Value→Option Value}{vs:List aa}{s:Value}{args:List Value}{hp:Hp}{v0:Value}(hs:args[j]? = some s)(h:TN vs s hp)(hn:vs.length<1000000)(hA:A vs (args.eraseIdx j)=some v0) :
  toldA j A args hp=some (v0,heapOf [.dead] hp):=by
 unfold toldA;have hx:∃ vs,TN vs s hp∧vs.length<1000000:=⟨vs,h,hn⟩
 simp only [hs];rw [dif_pos hx,hx.choose_spec.1.uniq h,hA];rfl
def Q0(v0:Value):Value→List af→List Nat→List af→Prop:=fun v O K Nw=>v=v0∧O = []∧K = []∧Nw = []
structure XJ (fn:Func) (code:Code) (N:Nat) (args:List Value) (v0:Value):Prop where
 okv:fv v0
 flat:∀ r∈args,fv r
 len:args.length≤N
 run:∀ W X,bm Tryz.prog N W 0 X code ⟨tmsOf args 0 .leaf,heapOf [.dead] aE,[]⟩ (fc Tryz.prog fn (Q0 v0))
end Go.Proofs.YtgeoommlmddgpaaGreat.LtL
