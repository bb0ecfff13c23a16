/- Part 3. -/
import Derived.Test.YtgeoommlmddgpaaGreatXfB
import Derived.Deep.Slices
set_option linter.unusedVariables false
set_option linter.unusedSimpArgs false
set_option maxRecDepth 100000
namespace Go.Proofs.YtgeoommlmddgpaaGreat.AI
open Go Go.RowKit Go.ChangeShapes
section
variable {H:Type} {enc:TypeId×Value→H} {P:Program} {w:World} {base:Nat} {spare:Nat→Bool} {held:Bool} {fuel:Nat} {t:TypeId} {cs:List Value} {x:DataW H×List MemPlace}
theorem trod_int{k:IntKind}(ht:P.underlying t=some (.int k))(h:DataW.trod enc P w base spare held fuel t cs=some x):∃ n,cs = [.int k n]:=by
 cases fuel with
 | zero=>cases h
 | succ fuel =>
   unfold DataW.trod at h;rw [ht] at h;split at h <;> first
     | (rename_i heq; cases heq; split at h
        ·rename_i hk; obtain ⟨rfl,_⟩:=hk; exact ⟨_,rfl⟩
        ·cases h)
     | (rename_i heq; cases heq)
     | cases h
theorem trod_bool(ht:P.underlying t=some .bool)(h:DataW.trod enc P w base spare held fuel t cs=some x):∃ b,cs = [.bool b]:=by
 cases fuel with
 | zero=>cases h
 | succ fuel =>
   unfold DataW.trod at h;rw [ht] at h;split at h <;> first
     | exact ⟨_,rfl⟩
     | (rename_i heq; cases heq)
     | cases h
theorem mn{fs:Array Field}(ht:P.underlying t=some (.struct fs))(h:DataW.trod enc P w base spare held fuel t cs=some x) :
  cs.length=P.cellsOf t∧∀ (i:Nat) (f:Field),fs[i]? = some f→∃ n y,DataW.trod enc P w base spare held n f.type ((cs.drop f.offset).take (P.cellsOf f.type))=some y:=by
 obtain ⟨xs,n,_,_,h1,h2,h3⟩:=DataW.trod_struct ht h;refine ⟨h1,fun i f hf=>?_⟩
 have hi:i<fs.size:=(Array.getElem?_eq_some_iff.1 hf).1
 have:=h3 i f hf
 rw [List.getElem?_eq_getElem (by omega)] at this
 exact ⟨n,_,this⟩
end
def inert:Value→Bool
 | .bool _ | .int _ _ | .string _ | .chan _=>true
 | v=>flat v
theorem DP{v:Value}(h:inert v=true)(K:List Nat)(B:Nat):sh2 K B v=v:=by
 cases v with
 | pointer a=>cases a with
   | none=>rfl
   | some a=>simp [inert,AI.flat] at h
 | slice a n c=>cases a with
   | none=>rfl
   | some a=>simp [inert,AI.flat] at h
 | map a=>cases a with
   | none=>rfl
   | some a=>simp [inert,AI.flat] at h
 | func f a b=>simp [inert,AI.flat] at h
 | agg cs=>simp [inert,AI.flat] at h
 | tuple cs=>simp [inert,AI.flat] at h
 | _=>rfl
theorem AW{v:Value}(h:inert v=true)(K:List Nat):mb K v=v:=by
 cases v with
 | pointer a=>cases a with
   | none=>rfl
   | some a=>simp [inert,AI.flat] at h
 | slice a n c=>cases a with
   | none=>rfl
   | some a=>simp [inert,AI.flat] at h
 | map a=>cases a with
   | none=>rfl
   | some a=>simp [inert,AI.flat] at h
 | func f a b=>simp [inert,AI.flat] at h
 | agg cs=>simp [inert,AI.flat] at h
 | tuple cs=>simp [inert,AI.flat] at h
 | _=>rfl
theorem qn{v:Value}(h:inert v=true):ok2 v=true∧oO v=true:=by
 cases v <;> first
  | exact ⟨rfl,rfl⟩
  | (simp [inert,AI.flat] at h)
def aA:af→Bool
 | .cells _ cs _=>cs.all inert
 | .map ..=>false
 | .dead=>true
theorem bb{o:af}(h:aA o=true)(p:Nat):dw p o:=by
 cases o with
 | cells ty cs ro =>
   have h':∀ v∈cs,inert v=true:=fun v hv=>List.all_eq_true.1 h v hv
   refine ⟨List.all_eq_true.2 fun v hv=>(qn (h' v hv)).2,fun K _=>?_⟩
   show af.cells ty (cs.map (mb K)) ro=_
   rw [List.map_congr_left (fun v hv=>AW (h' v hv) K)]; simp
 | map=>cases h
 | dead=>exact ⟨rfl,fun K _=>rfl⟩
theorem cG{o:af}(h:aA o=true)(K:List Nat)(B:Nat):jV K B o=o:=by
 cases o with
 | cells ty cs ro =>
   have h':∀ v∈cs,inert v=true:=fun v hv=>List.all_eq_true.1 h v hv
   show af.cells ty (cs.map (sh2 K B)) ro=_
   rw [List.map_congr_left (fun v hv=>DP (h' v hv) K B)]; simp
 | map=>cases h
 | dead=>rfl
theorem aS{o:af}(h:aA o=true):cj o=true:=by
 cases o with
 | cells ty cs ro =>
   have h':∀ v∈cs,inert v=true:=fun v hv=>List.all_eq_true.1 h v hv
   refine Bool.and_eq_true_iff.2 ⟨List.all_eq_true.2 fun v hv=>(qn (h' v hv)).1,?_⟩
   cases hk:keysBox cs with
   | false=>simp
   | true =>
     unfold keysBox at hk;split at hk
     ·have:=h' _ (.head _); simp [inert,AI.flat] at this
     ·cases hk
 | map=>cases h
 | dead=>rfl
theorem fj{α β : Type}(f : α→List β)(k:Nat):∀ (ps:List α),(∀ p∈ps,(f p).length=k)→∀ (i j:Nat) (p : α),ps[i]? = some p→j<k→(ps.flatMap f)[i*k+j]? = (f p)[j]?
 | [],_,i,j,p,h,_=>by cases h
 | q::ps,hk,0,j,p,h,hj=>by
   simp only [List.getElem?_cons_zero,Option.some.injEq] at h
   subst h;rw [List.flatMap_cons,Nat.zero_mul,Nat.zero_add,List.getElem?_append_left (by rw [hk q (.head _)]; exact hj)]
 | q::ps,hk,i+1,j,p,h,hj=>by
   rw [List.flatMap_cons,List.getElem?_append_right (by rw [hk q (.head _),Nat.succ_mul]; omega),hk q (.head _)]
   rw [show (i+1)*k+j-k=i*k+j by rw [Nat.succ_mul]; omega]
   exact fj f k ps (fun x hx=>hk x (.tail _ hx)) i j p (by simpa using h) hj
theorem mU{α β : Type}(f : α→List β)(k:Nat):∀ (ps:List α),(∀ p∈ps,(f p).length=k)→(ps.flatMap f).length=ps.length*k
 | [],_=>by simp
 | q::ps,hk=>by
   rw [List.flatMap_cons,List.length_append,hk q (.head _),mU f k ps (fun x hx=>hk x (.tail _ hx)),List.length_cons,Nat.succ_mul]; omega
theorem kM{α : Type}{f : α→List Value}{k:Nat}{ps:List α}(hk:∀ p∈ps,(f p).length=k){i:Nat}{p : α}(h:ps[i]? = some p):eA (ps.flatMap f) (i*k) k=some (f p):=by
 have hl:=mU f k ps hk
 have hi:i<ps.length:=(List.getElem?_eq_some_iff.1 h).1
 have hp:=hk p (List.mem_of_getElem? h)
 have hle:(i+1)*k≤ps.length*k:=Nat.mul_le_mul_right _ hi
 rw [Nat.succ_mul] at hle;have e:((ps.flatMap f).drop (i*k)).take k=f p:=by
  apply List.ext_getElem?
  intro j;rw [List.getElem?_take]
  by_cases hj:j<k
  ·rw [if_pos hj,List.getElem?_drop]
   exact fj f k ps hk i j p h hj
  ·rw [if_neg hj,List.getElem?_eq_none (by omega)]
 unfold eA;rw [e,if_pos hp]
theorem Ip{w:World}{r off n k:Nat}{c:Array Value}{ty:TypeId}{fr:Nat×Nat}{L:List Value}(hc:w.heap[r]? = some (.cells c ty fr))(hl:off+L.length≤c.size)(hi:L.all inert=true)
  (hv:∀ (i:Nat) (v v':Value),L[i]? = some v→c[off+i]? = some v'→aj KI (fun _=>none) v v') :
  cg (fun b=>if b=0 then some (r,off,c.size) else none) (heapOf [.cells ty L true] aE).get w:=by
 have hget:(heapOf [af.cells ty L true] aE).get 0=some (.cells ty L true):=by rw [ak]; rfl
 refine ⟨fun b x hx=>?_,fun b b' x x' hx hx' _ _ _=>?_⟩
 ·split at hx
  ·rename_i hb
   subst hb;cases hx;refine ⟨_,hget,c,fr,hc,hl,Nat.le_refl _,fun i v v' h1 h2=>?_,(fun h=>by cases h),fun _ hk=>?_⟩
   ·exact (hv i v v' h1 h2).mono ⟨(fun _ h=>by cases h),(fun _ _ h=>by cases h)⟩
   ·unfold keysBox at hk
    split at hk
    ·have:=List.all_eq_true.1 hi _ (.head _); simp [inert,AI.flat] at this
    ·cases hk
  ·cases hx
 ·split at hx <;> split at hx' <;> simp_all
end Go.Proofs.YtgeoommlmddgpaaGreat.AI
namespace Go.Proofs.YtgeoommlmddgpaaGreat.AI
open Go Go.RowKit
abbrev jn:=Option (Value×List eF)×(Value×List eF)
def az(l:List jn):Prop:=∀ o∈l,o.1=some o.2
theorem az.nil:az []:=fun o ho=>by cases ho
theorem az.cons{a:Option (Value×List eF)}{v:Value×List eF}{l:List jn}(h:a=some v)(hl:az l):az ((a,v)::l):=fun o ho=>by
 cases ho with
 | head=>exact h
 | tail _ ho=>exact hl o ho
theorem az.left{a b:List jn}(h:az (a++b)):az a:=fun o ho=>h o (List.mem_append_left _ ho)
theorem az.right{a b:List jn}(h:az (a++b)):az b:=fun o ho=>h o (List.mem_append_right _ ho)
abbrev JN:=List (Nat×Value×List eF)
def MH(o:Oper):Option Nat:=match o.dst with
 | some t=>some t
 | none=>match o.op with
   | .store _ (.tmp t) _=>some (1000+t)
   | .call c=>match c.args.toList with
     | .tmp t::_=>some (2000+t)
     | _=>none
   | _=>none
def LR(cl:JN):Option Nat→Option (Value×List eF)
 | none=>none
 | some t=>(cl.find? fun p=>Nat.beq p.1 t).map (·.2)
def callOf(o:Oper):Option Call:=match o.op with
 | .call c=>match c.callee with
   | .value _=>some c
   | _=>none
 | _=>none
theorem kh{o:Oper}{c:Call}(h:callOf o=some c):o.op = .call c∧∃ x,c.callee = .value x:=by
 unfold callOf at h;split at h
 ·rename_i c' ho
  split at h
  ·rename_i x hx; cases h; exact ⟨ho,x,hx⟩
  ·cases h
 ·cases h
def stepE(P:Program)(call:aG)(cl:List (Tmp×Value))(ch:Gb)(ce:JN)(o:Oper)(st:St):Option (Value×Hp×List (FuncId×List Value)×List db×List jo×List jn) :=
 match LR ce (MH o) with
 | some (v,es)=>match cls P o,callOf o with
   | .big,none=>some (v,st.hp.pr es,st.df,[],[],[(opB P st.eval st.hp.sz st.hp.get o,(v,es))])
   | .big,some c=>match target st.eval c with
     | some (f,args)=>some (v,st.hp.pr es,st.df,[],[(call f args st.hp,(v,st.hp.pr es))],[])
     | none=>none
   | _,_=>none
 | none=>match stepH P call cl ch o st with
   | some (v,h,d,q,r)=>some (v,h,d,q,r,[])
   | none=>none
def runOpsE(P:Program)(call:aG)(cl:List (Tmp×Value))(ch:Gb)(ce:JN)(ops:Array Oper):List Oper→St→Option (St×List db×List jo×List jn)
 | [],st=>some (st,[],[],[])
 | o::os,st=>match aWanted ops st o with
   | false=>runOpsE P call cl ch ce ops os (st.tput o.dst undef)
   | true=>match stepE P call cl ch ce o st with
     | some (v,h,d,q,r,x)=>match runOpsE P call cl ch ce ops os ({ st with hp:=h,df:=d }.tput o.dst v) with
       | some (st',q',r',x')=>some (st',q++q',r++r',x++x')
       | none=>none
     | none=>none
def execE(P:Program)(call:aG)(cl:List (Tmp×Value))(ch:Gb)(ce:JN):Nat→Code→St→Option (Exit×St×List db×List jo×List jn)
 | 0,_,_=>none
 | n+1,c,st=>match c with
   | .skip | .label _=>some (.normal,st,[],[],[])
   | .region _ ops draw=>match draw with
     | false=>match runOpsE P call cl ch ce ops ops.toList st with
       | some (st',q,r,x)=>some (.normal,st',q,r,x)
       | none=>none
     | true=>match js P ops with
       | []=>match runOpsE P call cl ch ce ops ops.toList st with
         | some (st',q,r,x)=>some (.normal,st',q,r,x)
         | none=>none
       | _::_=>match aRegionQ P call cl ops true st with
         | some (st',q)=>some (.normal,st',q,[],[])
         | none=>none
   | .seq a b=>match execE P call cl ch ce n a st with
     | some (.normal,st',q,r,x)=>match execE P call cl ch ce n b st' with
       | some (e,st2,q2,r2,x2)=>some (e,st2,q++q2,r++r2,x++x2)
       | none=>none
     | r=>r
   | .cond x a b=>match st.eval x with
     | .bool true=>execE P call cl ch ce n a st
     | .bool false=>execE P call cl ch ce n b st
     | _=>none
   | .block id body=>match execE P call cl ch ce n body st with
     | some (.exit i,st',q,r,x)=>match Nat.beq i id with
       | true=>some (.normal,st',q,r,x)
       | false=>some (.exit i,st',q,r,x)
     | r=>r
   | .scope body=>execE P call cl ch ce n body st
   | .exit id=>some (.exit id,st,[],[],[])
   | .ret=>some (.ret,st,[],[],[])
   | _=>none
section
variable {P:Program} {call:aG} {cl:List (Tmp×Value)} {ch:Gb} {ce:JN}
theorem Fs{o:Oper}{st:St}{v:Value}{hp:Hp}{d:List (FuncId×List Value)}{q:List db}{r:List jo}{x:List jn}(h:stepE P call cl ch ce o st=some (v,hp,d,q,r,x))(m:Met q)(mh:ay r)(me:az x):aStep P call o st=some (v,hp,d):=by
 unfold stepE at h;split at h
 ·split at h
  ·rename_i hc _
   cases h;have:=me _ (.head _)
   simp only at this;unfold aStep;simp only [hc,this]
  ·rename_i c hc hcall
   obtain ⟨ho,y,hy⟩:=kh hcall;split at h
   ·rename_i ht
    cases h;have:=mh _ (.head _)
    simp only at this;have hb:opB P st.eval st.hp.sz st.hp.get o=none:=by
      unfold opB;simp only [ho,hy]
    unfold aStep;simp only [hc,hb,ho,ht,this]
   ·cases h
  ·cases h
 ·split at h
  ·rename_i hs; cases h; exact Ft hs m mh
  ·cases h
theorem jF{ops:Array Oper}:∀ {os:List Oper} {st st':St} {q:List db} {r:List jo} {x:List jn},runOpsE P call cl ch ce ops os st=some (st',q,r,x)→Met q→ay r→az x→runOps P call ops os st=some st'
 | [],st,st',q,r,x,h,m,mh,me=>by cases h; rfl
 | o::os,st,st',q,r,x,h,m,mh,me=>by
   unfold runOpsE at h;unfold runOps;split at h
   ·rename_i hw; simp only [hw]; exact jF h m mh me
   ·rename_i hw
    simp only [hw];split at h
    ·rename_i hs
     split at h
     ·rename_i hr
      cases h;simp only [Fs hs m.left mh.left me.left];exact jF hr m.right mh.right me.right
     ·cases h
    ·cases h
theorem dU:∀ {n:Nat} {c:Code} {st st':St} {e:Exit} {q:List db} {r:List jo} {x:List jn},execE P call cl ch ce n c st=some (e,st',q,r,x)→Met q→ay r→az x→exec P call n c st=some (e,st')
 | 0,c,st,st',e,q,r,x,h,m,mh,me=>by cases h
 | n+1,c,st,st',e,q,r,x,h,m,mh,me=>by
   cases c with
   | skip=>cases h; rfl
   | label l=>cases h; rfl
   | exit i=>cases h; rfl
   | ret=>cases h; rfl
   | region id ops draw =>
     simp only [execE] at h;simp only [exec];cases draw with
     | false =>
       simp only at h;split at h
       ·rename_i hr; cases h; simp only [aRegion,jF hr m mh me]
       ·cases h
     | true =>
       simp only at h;split at h
       ·rename_i hf
        split at h
        ·rename_i hr; cases h; simp only [aRegion,hf,jF hr m mh me]
        ·cases h
       ·split at h
        ·rename_i hr; cases h; simp only [oA hr m]
        ·cases h
   | seq a b =>
     simp only [execE] at h;simp only [exec];split at h
     ·rename_i ha
      split at h
      ·rename_i hb
       cases h;simp only [dU ha m.left mh.left me.left];exact dU hb m.right mh.right me.right
      ·cases h
     ·rename_i hne
      rw [dU h m mh me];split
      ·rename_i heq; cases heq; exact absurd h (hne _ _ _ _)
      ·rfl
   | cond x a b =>
     simp only [execE] at h;simp only [exec];split at h
     ·rename_i hx; simp only [hx]; exact dU h m mh me
     ·rename_i hx; simp only [hx]; exact dU h m mh me
     ·cases h
   | block id b =>
     simp only [execE] at h;simp only [exec];split at h
     ·rename_i hb
      split at h
      ·rename_i hi; cases h; simp only [dU hb m mh me,hi]
      ·rename_i hi; cases h; simp only [dU hb m mh me,hi]
     ·rename_i hne
      rw [dU h m mh me];split
      ·rename_i heq; cases heq; exact absurd h (hne _ _ _ _ _)
      ·rfl
   | scope b =>
     simp only [execE] at h;simp only [exec];exact dU h m mh me
   | _=>cases h
end
section
variable {P:Program} {N:Nat} {W:bh}
theorem ah.pJ{call:aG}(hc:ba P call)(hm:P.follows .mixedOrders=true){n:Nat}{c:Code}{st:St}{e:Exit}{Q:Exit→St→Prop}(p:Nat)(K Ts:List Nat)(O:List af)(L:List (Nat×Value))
  (he:(exec P call n c st).map (look2 p K Ts)=some (e,O,L,true)) (hs:codeSafe P N c=true) (hK:nodupB K=true) (hT:Ts.all (fun t=>Nat.blt t N)=true)
  (hO:∀ i,i<p→∀ o,O[i]? = some o→dw 0 o) (h:∀ g,Q e (av N g L O)):ah P N W c st Q:=by
 obtain ⟨⟨e',st'⟩,h1,h2⟩:=Option.map_eq_some_iff.1 he;simp only [look2,Prod.mk.injEq] at h2;obtain ⟨rfl,rfl,rfl,h5⟩:=h2;obtain ⟨h5,h7⟩:=Bool.and_eq_true_iff.1 h5;obtain ⟨h5,h6⟩:=Bool.and_eq_true_iff.1 h5;obtain ⟨h3,h4⟩:=Bool.and_eq_true_iff.1 h5;intro a w m f;refine wp_mono (Xx hc hm h1 hs f) fun e2 a' w' hh=>?_
 obtain ⟨rfl,m',f'⟩:=hh;have hlen:((K.take p).map (fun b=>(st'.hp.get b).getD .dead)++(K.drop p).map (fun b=>bX K ((st'.hp.get b).getD .dead))).length=K.length:=by
  simp; omega
 have hget:∀ (i b:Nat),K[i]? = some b→∃ o,st'.hp.get b=some o:=fun i b hi=>by
  have:=List.all_eq_true.1 h3 b (List.mem_of_getElem? hi)
  cases hg:st'.hp.get b with
  | none=>rw [hg] at this; cases this
  | some o=>exact ⟨o,rfl⟩
 obtain ⟨g,m2,f2⟩:=f'.CP K ((K.take p).map (fun b=>(st'.hp.get b).getD .dead)++(K.drop p).map (fun b=>bX K ((st'.hp.get b).getD .dead))) (Ts.map fun t=>(t,mb K (st'.dK t))) (fF hK) hlen (fun i b o2 hi ho=>by
    obtain ⟨o,hg⟩:=hget i b hi;refine ⟨o,hg,?_⟩
    have hiK:i<K.length:=(List.getElem?_eq_some_iff.1 hi).1
    by_cases hip:i<p
    ·have e1:((K.take p).map (fun b=>(st'.hp.get b).getD .dead)++(K.drop p).map (fun b=>bX K ((st'.hp.get b).getD .dead)))[i]? = some o:=by
      rw [List.getElem?_append_left (by simp; omega),List.getElem?_map,List.getElem?_take,if_pos hip,hi]
      simp [hg]
     rw [e1] at ho;have e3:o=o2:=by simpa using ho
     subst e3;obtain ⟨k1,k2⟩:=hO i hip o e1;exact ⟨(k2 K (fun i hi=>absurd hi (Nat.not_lt_zero _))).symm,k1⟩
    ·have hmin:min p K.length=p:=by omega
     rw [List.getElem?_append_right (by simp; omega)] at ho
     simp only [List.length_map,List.length_take,hmin,List.getElem?_map,List.getElem?_drop] at ho
     rw [show p+(i-p)=i by omega,hi] at ho
     simp only [Option.map_some,Option.some.injEq,hg,Option.getD_some] at ho;refine ⟨ho.symm,?_⟩
     have hbm:b∈K.drop p:=List.mem_of_getElem? (by rw [List.getElem?_drop,show p+(i-p)=i by omega]; exact hi)
     have:=List.all_eq_true.1 h4 b hbm
     simpa [hg] using this) (fun x hx=>by
    obtain ⟨t,ht,rfl⟩:=List.mem_map.1 hx;exact ⟨by have:=List.all_eq_true.1 hT t ht; simpa [Nat.blt_eq] using this,List.all_eq_true.1 h6 t ht,rfl⟩) (List.isEmpty_iff.1 h7)
 exact ⟨_,m2,f2,h g⟩
theorem ah.aL{call:aG}(hc:ba P call)(hm:P.follows .mixedOrders=true){n:Nat}{c:Code}{cl:List (Tmp×Value)}{ch:Gb}{ce:JN}{st:St}{e:Exit}{q:List db}{r:List jo}{x:List jn}{Q:Exit→St→Prop}(p:Nat)(K Ts:List Nat)(O:List af)(L:List (Nat×Value))
  (he:(execE P call cl ch ce n c st).map (fun y=>(look2 p K Ts (y.1,y.2.1),y.2.2))=some ((e,O,L,true),q,r,x)) (hq:Met q) (hr:ay r) (hx:az x) (hs:codeSafe P N c=true) (hK:nodupB K=true) (hT:Ts.all (fun t=>Nat.blt t N)=true)
  (hO:∀ i,i<p→∀ o,O[i]? = some o→dw 0 o) (h:∀ g,Q e (av N g L O)):ah P N W c st Q:=by
 obtain ⟨⟨e',st',q',r',x'⟩,h1,h2⟩:=Option.map_eq_some_iff.1 he;simp only [Prod.mk.injEq] at h2;obtain ⟨h2,rfl,rfl,rfl⟩:=h2;refine ah.pJ hc hm (n:=n) p K Ts O L ?_ hs hK hT hO h
 rw [dU h1 hq hr hx];exact congrArg some h2
end
def killL:List Nat→Hp→Hp
 | [],h=>h
 | b::bs,h=>killL bs (h.put b .dead)
theorem cZ:∀ (D:List Nat) (h:Hp),(killL D h).sz=h.sz
 | [],h=>rfl
 | b::bs,h=>by rw [killL,cZ bs,Hp.kG]
theorem kR:∀ (D:List Nat) (h:Hp) (b:Nat),(killL D h).get b=if b∈D then some .dead else h.get b
 | [],h,b=>by simp [killL]
 | c::bs,h,b=>by
   rw [killL,kR bs,Hp.dy];by_cases h1:b=c
   ·subst h1; simp
   ·by_cases h2:b∈bs <;> simp [h1,h2]
def rowsOf(m:BM)(D:List Nat)(r:Nat):Prop:=∃ b∈D,∃ x,m b=some x∧x.1=r
set_option maxHeartbeats 2000000 in
theorem join_kill{m m':BM}{hp hpR:Hp}{h:HG}{w w':World}{K D:List Nat}(hkk:hp.ok)(s:cg m (aM hp h) w)(hDD:∀ b∈D,(∃ o,hp.get b=some o∧mq o=true)∧∃ x,m b=some x)(bw:gI ⟨w,rowsOf m D⟩ w')(hsim:cg m' hpR.get w')(hK:nodupB K=true)
  (hok:∀ b∈K,∃ o,hpR.get b=some o∧cR o=true) (hnew:∀ b∈K,∀ x,m' b=some x→w.heap.size≤x.1∨rowsOf m D x.1) (hfr:∀ b,hp.sz≤b→b≤hp.sz+K.length→h b=none) {v0 v':Value}
  (rv:aj m' hpR.get v0 v') (hok1:hU v0=true) :
  dR m (aM hp h) w (joinM m m' K hp.sz) (aM (heapOf (cH K hp.sz hpR ++ [.dead]) (killL D hp)) h) w'∧aj (joinM m m' K hp.sz) (aM (heapOf (cH K hp.sz hpR ++ [.dead]) (killL D hp)) h) (sh3 K hp.sz v0) v':=by
 have hlen:(cH K hp.sz hpR).length=K.length:=by simp [cH]
 have hsz':(heapOf (cH K hp.sz hpR ++ [.dead]) (killL D hp)).sz=hp.sz+(K.length+1):=by rw [cr,cZ]; simp [hlen]
 have inj:∀ (i j b:Nat),K[i]? = some b→K[j]? = some b→i=j:=fun i j b=>k7 hK
 have e2:cH K hp.sz hpR=K.map fun b=>jV K hp.sz ((hpR.get b).getD .dead):=rfl
 generalize cH K hp.sz hpR=O at *;have hDlt:∀ b∈D,b<hp.sz:=fun b hb=>by
  obtain ⟨⟨o,ho,_⟩,_⟩:=hDD b hb;rcases Nat.lt_or_ge b hp.sz with h1 | h1
  ·exact h1
  ·rw [hkk b h1] at ho; cases ho
 have hrwD:∀ b∈D,rw? (aM hp h) b=true:=fun b hb=>by
  obtain ⟨⟨o,ho,hr⟩,_⟩:=hDD b hb;unfold rw?;rw [bq hkk h b o ho];cases o <;> exact hr
 have hget:∀ b,(heapOf (O ++ [.dead]) (killL D hp)).get b=if b<hp.sz then (killL D hp).get b else match (O ++ [af.dead])[b-hp.sz]? with | some o=>some o | none=>(killL D hp).get b:=fun b=>by
  have:=heapOf_get (O ++ [.dead]) (killL D hp) b
  rw [cZ] at this;exact this
 have hov:∀ b,aM (heapOf (O ++ [.dead]) (killL D hp)) h b=if hp.sz≤b∧b≤hp.sz+K.length then (O ++ [af.dead])[b-hp.sz]? else if b∈D then some .dead else aM hp h b:=by
  intro b;unfold aM;rw [hsz'];by_cases h1:b<hp.sz
  ·rw [if_pos (by omega),if_neg (by omega),if_pos h1,hget,if_pos h1,kR]
  ·have h3:b∉D:=fun hb=>h1 (hDlt b hb)
   rw [if_neg h3];by_cases h2:b≤hp.sz+K.length
   ·rw [if_pos (by omega),if_pos ⟨by omega,h2⟩,hget,if_neg h1]
    have:b-hp.sz<(O ++ [af.dead]).length:=by simp [hlen]; omega
    rw [List.getElem?_eq_getElem this]
   ·rw [if_neg (by omega),if_neg (by omega),if_neg h1]
 have hnone:∀ b,hp.sz≤b→b≤hp.sz+K.length→aM hp h b=none:=by
  intro b h1 h2;unfold aM;rw [if_neg (by omega)]
  exact hfr b h1 h2
 have hmn:∀ b,hp.sz≤b→b≤hp.sz+K.length→m b=none:=by
  intro b h1 h2;cases e:m b with
  | none=>rfl
  | some x=>obtain ⟨o,ho,_⟩:=s.dom b x e; rw [hnone b h1 h2] at ho; cases ho
 have hD:aM (heapOf (O ++ [.dead]) (killL D hp)) h (hp.sz+K.length)=some .dead:=by
  rw [hov,if_pos (by omega)]
  rw [show hp.sz+K.length-hp.sz=O.length by omega]; simp
 have hj:∀ b,joinM m m' K hp.sz b=if hp.sz≤b∧b≤hp.sz+K.length then (match K[b-hp.sz]? with | some c=>m' c | none=>none) else m b:=fun _=>rfl
 have hblk:∀ i b,K[i]? = some b→∃ o,hpR.get b=some o∧cR o=true∧aM (heapOf (O ++ [.dead]) (killL D hp)) h (hp.sz+i)=some (jV K hp.sz o)∧joinM m m' K hp.sz (hp.sz+i)=m' b:=by
  intro i b hi;have hlt:i<K.length:=(List.getElem?_eq_some_iff.1 hi).1
  obtain ⟨o,hg,ho⟩:=hok b (List.mem_of_getElem? hi);refine ⟨o,hg,ho,?_,?_⟩
  ·rw [hov,if_pos (by omega),show hp.sz+i-hp.sz=i by omega,List.getElem?_append_left (by omega),e2,List.getElem?_map,hi]
   simp [hg]
  ·rw [hj,if_pos (by omega),show hp.sz+i-hp.sz=i by omega,hi]
 have pt:PT m' hpR.get (joinM m m' K hp.sz) (aM (heapOf (O ++ [.dead]) (killL D hp)) h) K hp.sz:=by
  intro b Q hq;unfold jj;cases hi:idxOf b K 0 with
  | none=>exact .inl hD
  | some j =>
    obtain ⟨k,rfl,hk⟩:=gU hi;simp only [Nat.zero_add,Option.getD_some];obtain ⟨o,h1,_,h2,h3⟩:=hblk k b hk;rcases hq with hq | hq
    ·rw [hq] at h1; cases h1
     exact .inl h2
    ·exact .inr ⟨hq,h3⟩
 have hle:Le m (aM hp h) (joinM m m' K hp.sz) (aM (heapOf (O ++ [.dead]) (killL D hp)) h):=by
  constructor
  ·intro b hb
   rw [hov];split
   ·rename_i hc; rw [hnone b hc.1 hc.2] at hb; cases hb
   ·split
    ·rfl
    ·exact hb
  ·intro b y hb
   refine .inr ?_
   rw [hj];split
   ·rename_i hc; rw [hmn b hc.1 hc.2] at hb; cases hb
   ·exact hb
 have hfree:∀ b x,m b=some x→b∉D→aV (aM hp h) b=true→¬ rowsOf m D x.1:=fun b x hx hb hl ⟨b0,hb0,x0,hx0,e⟩=>by
  have:=s.inj b0 b x0 x hx0 hx (hrwD b0 hb0) hl e
  subst this;exact hb hb0
 refine ⟨⟨hle,⟨?_,?_⟩,bw.size,?_,fun k hk hn=>bw.block k hk (fun ⟨b0,hb0,x0,hx0,e⟩=>hn b0 x0 hx0 (hrwD b0 hb0) e),?_,?_,?_,?_,bw.os,bw.tape,bw.output⟩,pt.three rv hok1⟩
 ·
  intro b x hx;rw [hj] at hx;split at hx
  ·rename_i hc
   split at hx
   ·rename_i c hcK
    obtain ⟨o,h1,h2,h3,_⟩:=hblk _ c hcK;rw [show hp.sz+(b-hp.sz)=b by omega] at h3
    refine ⟨_,h3,?_⟩
    obtain ⟨o',ho',hbr⟩:=hsim.dom c x hx;rw [h1] at ho'; cases ho';cases o with
    | cells ty cs ro =>
      obtain ⟨cc,fr,g1,g2,g3,g4,g5⟩:=hbr;refine ⟨cc,fr,g1,by simpa using g2,g3,fun i v v' q1 q2=>?_,g5.1,fun hr hk=>g5.2 hr (eW uD hk)⟩
      simp only [List.getElem?_map,Option.map_eq_some_iff] at q1
      obtain ⟨z,hz,rfl⟩:=q1;exact pt.two (g4 i z v' hz q2) (List.all_eq_true.1 h2 z (List.mem_of_getElem? hz))
    | map es cl ro =>
      obtain ⟨fs,g1,g2,g3⟩:=hbr;refine ⟨fs,g1,by simpa using g2,fun i e ff q1 q2=>?_⟩
      simp only [List.getElem?_map,Option.map_eq_some_iff] at q1
      obtain ⟨z,hz,rfl⟩:=q1;obtain ⟨p1,p2,p3,p4⟩:=g3 i z ff hz q2;exact ⟨p1,p2,pt.two p3 (List.all_eq_true.1 h2 z (List.mem_of_getElem? hz)),p4⟩
    | dead=>trivial
   ·cases hx
  ·rename_i hc
   by_cases hbD:b∈D
   ·exact ⟨.dead,by rw [hov,if_neg hc,if_pos hbD],trivial⟩
   ·obtain ⟨o,ho,hbr⟩:=s.dom b x hx
    refine ⟨o,by rw [hov,if_neg hc,if_neg hbD]; exact ho,?_⟩
    by_cases hd:o = .dead
    ·subst hd; trivial
    ·have hl:aV (aM hp h) b=true:=by unfold aV; rw [ho]; cases o <;> first | rfl | exact absurd rfl hd
     exact hbr.mono hle (bw.block _ (s.lt hx hl) (hfree b x hx hbD hl))
 ·
  have rwo:∀ b,¬ (hp.sz≤b∧b≤hp.sz+K.length)→rw? (aM (heapOf (O ++ [.dead]) (killL D hp)) h) b=true→b∉D∧rw? (aM hp h) b=true:=fun b hc hr=>by
    unfold rw? at hr ⊢;rw [hov,if_neg hc] at hr;split at hr
    ·rename_i h1
     split at h1
     ·cases h1
     ·rename_i h2; exact ⟨h2,by rw [h1]; exact hr⟩
    ·rename_i h1
     split at h1
     ·cases h1
     ·rename_i h2; exact ⟨h2,by rw [h1]; exact hr⟩
    ·cases hr
  have lio:∀ b,¬ (hp.sz≤b∧b≤hp.sz+K.length)→aV (aM (heapOf (O ++ [.dead]) (killL D hp)) h) b=true→b∉D∧aV (aM hp h) b=true:=fun b hc hl=>by
    unfold aV at hl ⊢;rw [hov,if_neg hc] at hl;by_cases h2:b∈D
    ·rw [if_pos h2] at hl; cases hl
    ·rw [if_neg h2] at hl; exact ⟨h2,hl⟩
  intro b b' x x' hx hx' hr hl hxx;rw [hj] at hx hx';split at hx
  ·rename_i hc
   split at hx
   case h_2=>cases hx
   rename_i c hcK;split at hx'
   ·rename_i hc'
    split at hx'
    case h_2=>cases hx'
    rename_i c' hcK';obtain ⟨o,h1,_,h3,_⟩:=hblk _ c hcK;obtain ⟨o',h1',_,h3',_⟩:=hblk _ c' hcK';rw [show hp.sz+(b-hp.sz)=b by omega] at h3
    rw [show hp.sz+(b'-hp.sz)=b' by omega] at h3'
    have hr':rw? hpR.get c=true:=by unfold rw? at hr ⊢; rw [h1]; rw [h3] at hr; cases o <;> exact hr
    have hl':aV hpR.get c'=true:=by unfold aV at hl ⊢; rw [h1']; rw [h3'] at hl; cases o' <;> exact hl
    have:=hsim.inj c c' x x' hx hx' hr' hl' hxx
    subst this;have:=inj _ _ c hcK hcK'
    omega
   ·rename_i hc'
    obtain ⟨hnD,hl⟩:=lio b' hc' hl;have h2:=s.lt hx' hl
    rcases hnew c (List.mem_of_getElem? hcK) x hx with h1 | h1
    ·omega
    ·rw [hxx] at h1; exact absurd h1 (hfree b' x' hx' hnD hl)
  ·rename_i hc
   obtain ⟨hnD,hr⟩:=rwo b hc hr;split at hx'
   ·rename_i hc'
    split at hx'
    case h_2=>cases hx'
    rename_i c' hcK';have h2:=s.lt hx (c8 hr)
    rcases hnew c' (List.mem_of_getElem? hcK') x' hx' with h1 | h1
    ·omega
    ·rw [← hxx] at h1; exact absurd h1 (hfree b x hx hnD (c8 hr))
   ·rename_i hc'
    exact s.inj b b' x x' hx hx' hr (lio b' hc' hl).2 hxx
 ·intro b x hx
  rw [hj] at hx;split at hx
  ·split at hx
   ·rename_i c hcK
    rcases hnew c (List.mem_of_getElem? hcK) _ hx with h1 | ⟨b0,hb0,x0,hx0,e⟩
    ·exact .inr (.inl h1)
    ·exact .inr (.inr ⟨b0,x0,hx0,hrwD b0 hb0,e⟩)
   ·cases hx
  ·exact .inl hx
 ·intro b o ho hmb
  rw [hj];split
  ·rename_i hc; rw [hnone b hc.1 hc.2] at ho; cases ho
  ·exact hmb
 ·intro b o ho hmb
  rw [hov];split
  ·rename_i hc; rw [hnone b hc.1 hc.2] at ho; cases ho
  ·split
   ·rename_i hbD
    obtain ⟨_,x,hx⟩:=hDD b hbD;rw [hmb] at hx; cases hx
   ·exact ho
 ·intro b o ho
  rw [hov];split
  ·rename_i hc; rw [hnone b hc.1 hc.2] at ho; cases ho
  ·split
   ·exact ⟨_,rfl⟩
   ·exact ⟨o,ho⟩
 ·intro b x hx hr
  have hc:¬ (hp.sz≤b∧b≤hp.sz+K.length):=fun hc=>by rw [hmn b hc.1 hc.2] at hx; cases hx
  unfold rw? at hr ⊢;rw [hov,if_neg hc] at hr;by_cases hbD:b∈D
  ·rw [if_pos hbD] at hr; cases hr
  ·rw [if_neg hbD] at hr; exact hr
theorem gB{m m':BM}{h h':HG}{v v':Value}(hi:inert v=true)(r:aj m h v v'):aj m' h' v v':=by
 cases r with
 | flat hf=>exact .flat hf
 | blind h1=>exact .blind h1
 | blind0=>exact .blind0
 | junk h1=>exact .junk h1
 | _=>simp [inert,AI.flat] at hi
def junkOf:Value→Value
 | .bool b=>.bool b
 | _=>.chan none
theorem ya{m:BM}{h:HG}(v:Value):aj m h (junkOf v) v:=by
 unfold junkOf;split
 ·exact .flat rfl
 ·rename_i hn; exact .junk fun b e=>hn b e
theorem tW(v:Value):inert (junkOf v)=true:=by
 unfold junkOf; split <;> rfl
theorem vV{D:List Nat}{hp:Hp}(hk:hp.ok)(hD:∀ b∈D,b<hp.sz):(killL D hp).ok:=fun b hb=>by
 rw [cZ] at hb;rw [kR,if_neg (fun h=>by have:=hD b h; omega)]
 exact hk b hb
section
variable {P:Program}
theorem cV{hp:Hp}(hk:hp.ok){b:Nat}{o:af}(h:hp.get b=some o):b<hp.sz:=by
 rcases Nat.lt_or_ge b hp.sz with h1 | h1
 ·exact h1
 ·rw [hk b h1] at h; cases h
theorem mi{m:BM}{h:HG}{w:World}{hp:Hp}(s:cg m (aM hp h) w)(hk:hp.ok){b b2:Nat}(hne:b≠b2){t1 t2:TypeId}{L X:List Value}{ro:Bool}(h1:hp.get b=some (.cells t1 L false))(h2:hp.get b2=some (.cells t2 X ro))(i1:L.all inert=true)(i2:X.all inert=true)
  {r δ E:Nat} (hm:m b=some (r,δ,E)) (k:Nat) (hE : δ + L.length+k≤E) :
  ∃ J:List Value,J.length=k∧J.all inert=true∧cg (canM m [b,b2]) (heapOf [.cells t1 (L++J) false,.cells t2 X ro,.dead] aE).get w:=by
 have g1:=bq hk h b _ h1
 have g2:=bq hk h b2 _ h2
 obtain ⟨o',ho',hbr⟩:=s.dom b _ hm;rw [g1] at ho'; cases ho';obtain ⟨c,fr,q1,q2,q3,q4,q5⟩:=hbr;dsimp only at q1 q2 q3 q4
 refine ⟨((c.toList.drop (δ + L.length)).take k).map junkOf,by simp; omega,?_,?_⟩
 ·rw [List.all_map]
  exact List.all_eq_true.2 fun v _=>tW v
 generalize hJ:((c.toList.drop (δ + L.length)).take k).map junkOf=J;have hJl:J.length=k:=by rw [← hJ]; simp; omega
 have e0:(heapOf [.cells t1 (L++J) false,.cells t2 X ro,.dead] aE).get 0=some (.cells t1 (L++J) false):=by rw [ak]; rfl
 have e1:(heapOf [.cells t1 (L++J) false,.cells t2 X ro,.dead] aE).get 1=some (.cells t2 X ro):=by rw [ak]; rfl
 have hrw:rw? (aM hp h) b=true:=by unfold rw?; rw [g1]; rfl
 have vO:aV (aM hp h) b=true:=by unfold aV; rw [g1]
 have hl2:aV (aM hp h) b2=true:=by unfold aV; rw [g2]
 have cM:∀ i x,canM m [b,b2] i=some x→(i=0∧m b=some x)∨(i=1∧m b2=some x):=by
  intro i x hx;unfold canM at hx;match i with
  | 0=>exact .inl ⟨rfl,hx⟩
  | 1=>exact .inr ⟨rfl,hx⟩
  | i+2=>simp at hx
 refine ⟨fun i x hx=>?_,fun i i' x x' hx hx' hr hl hxx=>?_⟩
 ·rcases cM i x hx with ⟨rfl,hy⟩ | ⟨rfl,hy⟩
  ·rw [hm] at hy; cases hy
   refine ⟨_,e0,c,fr,q1,by simp [hJl]; omega,q3,fun i v v' p1 p2=>?_,fun _=>q5.1 rfl,(fun hr=>by cases hr)⟩
   dsimp only at p2
   by_cases hi:i<L.length
   ·rw [List.getElem?_append_left hi] at p1
    exact gB (List.all_eq_true.1 i1 v (List.mem_of_getElem? p1)) (q4 i v v' p1 p2)
   ·rw [List.getElem?_append_right (by omega)] at p1
    rw [← hJ,List.getElem?_map,List.getElem?_take] at p1
    split at p1
    ·rw [List.getElem?_drop,show δ + L.length+(i-L.length) = δ + i by omega] at p1
     rw [Array.getElem?_toList,p2] at p1
     cases p1;exact ya v'
    ·cases p1
  ·obtain ⟨o',ho',hbr⟩:=s.dom b2 _ hy
   rw [g2] at ho'; cases ho';obtain ⟨c2,fr2,k1,k2,k3,k4,k5⟩:=hbr;refine ⟨_,e1,c2,fr2,k1,k2,k3,fun i v v' p1 p2=>gB (List.all_eq_true.1 i2 v (List.mem_of_getElem? p1)) (k4 i v v' p1 p2),k5⟩
 ·rcases cM i x hx with ⟨rfl,hy⟩ | ⟨rfl,hy⟩ <;> rcases cM i' x' hx' with ⟨rfl,hy'⟩ | ⟨rfl,hy'⟩
  ·rfl
  ·exact absurd (s.inj b b2 x x' hy hy' hrw hl2 hxx) hne
  ·exact absurd (s.inj b b2 x' x hy' hy hrw hl2 hxx.symm) hne
  ·rfl
theorem nV(hm:P.follows .mixedOrders=true){f:FuncId}{fn:Func}{c:Code}{g:aC}(hf:P.funcs[f]? = some fn)(hb:fn.body=some c)(hnm:(fn.name == "runtime.NumGoroutine")=false)
  (H:∀ args hp v hp',g args hp=some (v,hp')→hp.ok→∃ D:List Nat,∃ O:List af,hp'=heapOf (O ++ [.dead]) (killL D hp)∧(∀ b∈D,∃ o,hp.get b=some o∧mq o=true) ∧
    ∀ (m:BM) (h:HG) (w:World) (args':Array Value),cg m (aM hp h) w→aD m (aM hp h) args args'.toList→(∀ b∈D,∃ x,m b=some x) ∧
      ∃ (K:List Nat) (args0:List Value) (hpS:Hp) (mS:BM),O.length=K.length∧nodupB K=true∧hpS.ok∧cg mS hpS.get w∧(∀ b x,mS b=some x→rw? hpS.get b=true→rowsOf m D x.1)∧aD mS hpS.get args0 args'.toList∧args0.length≤fn.ntmps ∧
      ∀ W,ah P fn.ntmps W c ⟨tmsOf args0 0 .leaf,hpS,[]⟩ fun e st=>(e = .normal∨e = .ret)∧st.df = []∧∃ v0,retVal P fn st=some v0∧hU v0=true ∧
        (∀ b∈K,∃ o,st.hp.get b=some o∧cR o=true∧mq o=true)∧(∀ m h x,aj m h (sh3 K hp.sz v0) x→aj m h v x)∧O=cH K hp.sz st.hp):aq P f g:=by
 intro args hp v hp' he hk;obtain ⟨D,O,rfl,hD,hrun⟩:=H args hp v hp' he hk;have hDlt:∀ b∈D,b<hp.sz:=fun b hb=>by
  obtain ⟨o,ho,_⟩:=hD b hb;exact cV hk ho
 refine ⟨bF _ _ (vV hk hDlt),by rw [cr,cZ]; omega,fun m h w args' hfr s ra=>.inr ⟨cC hf (by rw [hb]; rfl) hnm,?_⟩⟩
 obtain ⟨hDm,K,args0,hpS,mS,hlen,hK,hkS,sS,hown0,rS,hn,hwp⟩:=hrun m h w args' s ra;refine (Dz (S:=rowsOf m D) (R:=fun v0 st=>hU v0=true∧(∀ b∈K,∃ o,st.hp.get b=some o∧cR o=true∧mq o=true)∧(∀ m h x,aj m h (sh3 K hp.sz v0) x→aj m h v x)∧O=cH K hp.sz st.hp) hf hb hn hkS sS hown0 rS (by
  refine ah.mono (hwp ⟨w,rowsOf m D⟩) fun e st q=>?_
  obtain ⟨q1,q2,v0,q3,q4,q5,q6,q7⟩:=q;exact ⟨q1,q2,v0,q3,q4,q5,q6,q7⟩)).mono fun e w' hh=>?_
 obtain ⟨v',v0,st',m',rfl,⟨q4,q5,q6,q7⟩,rv,hs',_,hbel,hown⟩:=hh;subst q7;have hj:=join_kill (K:=K) (D:=D) hk s (fun b hb=>⟨hD b hb,hDm b hb⟩) hbel hs' hK (fun b hb=>by
    obtain ⟨o,h1,h2,_⟩:=q5 b hb; exact ⟨o,h1,h2⟩) (fun b hb x hx=>hown b x hx (by
    obtain ⟨o,h1,_,h3⟩:=q5 b hb;unfold rw?; rw [h1]; cases o <;> exact h3)) (fun b h1 h2=>hfr b h1 (by rw [cr,cZ]; simp [cH]; omega)) rv q4
 exact ⟨v',rfl,_,hj.1,q6 _ _ _ hj.2⟩
end
structure N6 (n:Nat) (W:bh) (x:Nat×Nat×Nat) (st:St) (a:Act) (w:World) (m:BM):Prop where
 fr:FR n W st a w m
 pin:st.hp.get 0=some .dead∨m 0=some x
def a8(P:Program)(N:Nat)(W:bh)(x:Nat×Nat×Nat)(c:Code)(st:St)(Q:Exit→St→Prop):Prop :=
 ∀ a w m,N6 N W x st a w m→c.wp P (fun e a' w'=>∃ st' m',N6 N W x st' a' w' m'∧Q e st') a w
section
variable {P:Program} {N:Nat} {W:bh} {x:Nat×Nat×Nat}
theorem a8.mono{c:Code}{st:St}{Q Q':Exit→St→Prop}(h:a8 P N W x c st Q)(hq:∀ e st',Q e st'→Q' e st'):a8 P N W x c st Q':=fun a w m f =>
 wp_mono (h a w m f) fun e a' w' hh=>by
  obtain ⟨st',m',f',q⟩:=hh;exact ⟨st',m',f',hq e st' q⟩
theorem a8.seq{c d:Code}{st:St}{Q1 Q:Exit→St→Prop}(h1:a8 P N W x c st Q1)(h2:∀ st',Q1 .normal st'→a8 P N W x d st' Q)(h3:∀ e st',e≠.normal→Q1 e st'→Q e st'):a8 P N W x (.seq c d) st Q:=fun a w m f=>by
 refine wp_seq (wp_mono (h1 a w m f) fun e a' w' hh=>?_)
 obtain ⟨st',m',f',q⟩:=hh;cases e with
 | normal=>exact h2 st' q a' w' m' f'
 | _=>exact ⟨st',m',f',h3 _ st' (by simp) q⟩
theorem a8.block{id:Nat}{c:Code}{st:St}{Q:Exit→St→Prop}(h:a8 P N W x c st fun e st'=>match e with | .exit i=>if i=id then Q .normal st' else Q (.exit i) st' | e=>Q e st'):a8 P N W x (.block id c) st Q:=fun a w m f=>by
 refine wp_block (wp_mono (h a w m f) fun e a' w' hh=>?_)
 obtain ⟨st',m',f',q⟩:=hh;cases e with
 | exit i =>
   show (if i=id then _ else _)
   by_cases hi:i=id
   ·simp only [hi,if_true] at q ⊢
    exact ⟨st',m',f',q⟩
   ·simp only [hi,if_false] at q ⊢
    exact ⟨st',m',f',q⟩
 | _=>exact ⟨st',m',f',q⟩
theorem a8.cond_true{y:Operand}{c d:Code}{st:St}{Q:Exit→St→Prop}(hx:gv y=true)(hv:st.eval y = .bool true)(h:a8 P N W x c st Q):a8 P N W x (.cond y c d) st Q:=fun a w m f=>by
 refine wp_cond_true ?_ (h a w m f)
 have:=f.fr.rel.tm.eval hx
 rw [hv] at this;exact this.of_bool
theorem a8.cond_false{y:Operand}{c d:Code}{st:St}{Q:Exit→St→Prop}(hx:gv y=true)(hv:st.eval y = .bool false)(h:a8 P N W x d st Q):a8 P N W x (.cond y c d) st Q:=fun a w m f=>by
 refine wp_cond_false ?_ (h a w m f)
 have:=f.fr.rel.tm.eval hx
 rw [hv] at this;exact this.of_bool
theorem a8.skip{st:St}{Q:Exit→St→Prop}(h:Q .normal st):a8 P N W x .skip st Q:=fun a w m f=>wp_skip ⟨st,m,f,h⟩
theorem a8.loop{c:Code}{Q:Exit→St→Prop}(I:Nat→St→Prop)(hI:∀ k st,I k st→a8 P N W x c st fun e st'=>(e = .normal∧∃ k',k'<k∧I k' st')∨(e≠.normal∧Q e st')){k:Nat}{st:St}(h:I k st):a8 P N W x (.loop c) st Q:=fun a w m f=>by
 have key:∀ k st a w m,I k st→N6 N W x st a w m→Code.rounds P c (fun e a' w'=>∃ st' m',N6 N W x st' a' w' m'∧Q e st') (k+1) a w:=by
  intro k;induction k using Nat.strongRecOn with
  | _ k ih =>
    intro st a w m hi f;rw [rounds_succ];refine wp_mono (hI k st hi a w m f) fun e a' w' hh=>?_
    obtain ⟨st',m',f',q⟩:=hh;rcases q with ⟨rfl,k',hk,hi'⟩ | ⟨hne,q⟩
    ·exact oe (show k'+1≤k by omega) (ih k' hk st' a' w' m' hi' f')
    ·cases e with
     | normal=>exact absurd rfl hne
     | _=>exact ⟨st',m',f',q⟩
 exact wp_loop_rounds (k+1) (key k st a w m h f)
theorem WL{call:aG}(hc:ba P call)(hm:P.follows .mixedOrders=true){n:Nat}{c:Code}{st st':St}{e:Exit}(he:exec P call n c st=some (e,st'))(hs:codeSafe P N c=true){w:World}{a:Act}{m:BM}(f:N6 N W x st a w m) :
  c.wp P (fun e' a' w'=>e'=e∧∃ m',N6 N W x st' a' w' m') a w:=by
 obtain ⟨_,k1,_,k3⟩:=bK hc hm n c st e st' he hs f.fr.ok;refine wp_mono (eS (k3 m xX w a (fun _ _ _=>rfl) f.fr.rel)) fun e' a' w' q=>?_
 obtain ⟨q1,m',g,r⟩:=q;refine ⟨q1,m',f.fr.go k1 g r,?_⟩
 have le:=g.le
 rw [cA f.fr.ok,cA k1] at le;rcases f.pin with h | h
 ·exact .inl (le.dead 0 h)
 ·exact le.keep 0 x h
theorem a8.pJ{call:aG}(hc:ba P call)(hm:P.follows .mixedOrders=true){n:Nat}{c:Code}{st:St}{e:Exit}{Q:Exit→St→Prop}(p:Nat)(K Ts:List Nat)(O:List af)(L:List (Nat×Value))
  (he:(exec P call n c st).map (look2 p K Ts)=some (e,O,L,true)) (hs:codeSafe P N c=true) (hK:nodupB K=true) (hT:Ts.all (fun t=>Nat.blt t N)=true)
  (hO:∀ i,i<p→∀ o,O[i]? = some o→dw 0 o) (h0:K[0]? = some 0) (h:∀ g,Q e (av N g L O)):a8 P N W x c st Q:=by
 obtain ⟨⟨e',st'⟩,h1,h2⟩:=Option.map_eq_some_iff.1 he;simp only [look2,Prod.mk.injEq] at h2;obtain ⟨rfl,rfl,rfl,h5⟩:=h2;obtain ⟨h5,h7⟩:=Bool.and_eq_true_iff.1 h5;obtain ⟨h5,h6⟩:=Bool.and_eq_true_iff.1 h5;obtain ⟨h3,h4⟩:=Bool.and_eq_true_iff.1 h5;intro a w m f;refine wp_mono (WL hc hm h1 hs f) fun e2 a' w' hh=>?_
 obtain ⟨rfl,m',f'⟩:=hh;have hlen:((K.take p).map (fun b=>(st'.hp.get b).getD .dead)++(K.drop p).map (fun b=>bX K ((st'.hp.get b).getD .dead))).length=K.length:=by
  simp; omega
 have hget:∀ (i b:Nat),K[i]? = some b→∃ o,st'.hp.get b=some o:=fun i b hi=>by
  have:=List.all_eq_true.1 h3 b (List.mem_of_getElem? hi)
  cases hg:st'.hp.get b with
  | none=>rw [hg] at this; cases this
  | some o=>exact ⟨o,rfl⟩
 have hB:∀ (i b:Nat) (o2:af),K[i]? = some b→((K.take p).map (fun b=>(st'.hp.get b).getD .dead)++(K.drop p).map (fun b=>bX K ((st'.hp.get b).getD .dead)))[i]? = some o2→∃ o,st'.hp.get b=some o∧o2=bX K o∧fM o=true:=fun i b o2 hi ho=>by
    obtain ⟨o,hg⟩:=hget i b hi;refine ⟨o,hg,?_⟩
    have hiK:i<K.length:=(List.getElem?_eq_some_iff.1 hi).1
    by_cases hip:i<p
    ·have e1:((K.take p).map (fun b=>(st'.hp.get b).getD .dead)++(K.drop p).map (fun b=>bX K ((st'.hp.get b).getD .dead)))[i]? = some o:=by
      rw [List.getElem?_append_left (by simp; omega),List.getElem?_map,List.getElem?_take,if_pos hip,hi]
      simp [hg]
     rw [e1] at ho;have e3:o=o2:=by simpa using ho
     subst e3;obtain ⟨k1,k2⟩:=hO i hip o e1;exact ⟨(k2 K (fun i hi=>absurd hi (Nat.not_lt_zero _))).symm,k1⟩
    ·have hmin:min p K.length=p:=by omega
     rw [List.getElem?_append_right (by simp; omega)] at ho
     simp only [List.length_map,List.length_take,hmin,List.getElem?_map,List.getElem?_drop] at ho
     rw [show p+(i-p)=i by omega,hi] at ho
     simp only [Option.map_some,Option.some.injEq,hg,Option.getD_some] at ho;refine ⟨ho.symm,?_⟩
     have hbm:b∈K.drop p:=List.mem_of_getElem? (by rw [List.getElem?_drop,show p+(i-p)=i by omega]; exact hi)
     have:=List.all_eq_true.1 h4 b hbm
     simpa [hg] using this
 obtain ⟨g,f2⟩:=f'.fr.tG K ((K.take p).map (fun b=>(st'.hp.get b).getD .dead)++(K.drop p).map (fun b=>bX K ((st'.hp.get b).getD .dead))) (Ts.map fun t=>(t,mb K (st'.dK t))) (fF hK) hlen hB (fun x hx=>by
    obtain ⟨t,ht,rfl⟩:=List.mem_map.1 hx;exact ⟨by have:=List.all_eq_true.1 hT t ht; simpa [Nat.blt_eq] using this,List.all_eq_true.1 h6 t ht,rfl⟩) (List.isEmpty_iff.1 h7)
 refine ⟨_,_,⟨f2,?_⟩,h g⟩
 have hlt:0<K.length:=(List.getElem?_eq_some_iff.1 h0).1
 rcases f'.pin with hd | hd
 ·refine .inl ?_
  obtain ⟨o2,ho2⟩:∃ o2,((K.take p).map (fun b=>(st'.hp.get b).getD .dead)++(K.drop p).map (fun b=>bX K ((st'.hp.get b).getD .dead)))[0]? = some o2:=⟨_,List.getElem?_eq_getElem (by omega)⟩
  obtain ⟨o,q1,q2,_⟩:=hB 0 0 o2 h0 ho2;rw [hd] at q1; cases q1;show (heapOf _ aE).get 0=_
  rw [heapOf_get];simp only [aE,Nat.not_lt_zero,if_false,Nat.sub_zero];rw [List.getElem?_append_left (by omega),ho2,q2]
  rfl
 ·refine .inr ?_
  unfold canM;rw [h0];exact hd
theorem a8.piece{call:aG}(hc:ba P call)(hm:P.follows .mixedOrders=true){n:Nat}{c:Code}{cl:List (Tmp×Value)}{ch:Gb}{ce:JN}{st:St}{e:Exit}{q:List db}{r:List jo}{y:List jn}{Q:Exit→St→Prop}(p:Nat)(K Ts:List Nat)(O:List af)(L:List (Nat×Value))
  (he:(execE P call cl ch ce n c st).map (fun y=>(look2 p K Ts (y.1,y.2.1),y.2.2))=some ((e,O,L,true),q,r,y)) (hq:Met q) (hr:ay r) (hx:az y) (hs:codeSafe P N c=true) (hK:nodupB K=true) (hT:Ts.all (fun t=>Nat.blt t N)=true)
  (hO:∀ i,i<p→∀ o,O[i]? = some o→dw 0 o) (h0:K[0]? = some 0) (h:∀ g,Q e (av N g L O)):a8 P N W x c st Q:=by
 obtain ⟨⟨e',st',q',r',x'⟩,h1,h2⟩:=Option.map_eq_some_iff.1 he;simp only [Prod.mk.injEq] at h2;obtain ⟨h2,rfl,rfl,rfl⟩:=h2;refine a8.pJ hc hm (n:=n) p K Ts O L ?_ hs hK hT hO h0 h
 rw [dU h1 hq hr hx];exact congrArg some h2
theorem L9{w0:World}{f:FuncId}{fn:Func}{c:Code}{args:List Value}{args':Array Value}{hp:Hp}{m:BM}{R:Value→St→Prop}(hf:P.funcs[f]? = some fn)(hb:fn.body=some c)(hn:args.length≤fn.ntmps)(hk:hp.ok)
  (s:cg m hp.get w0) (h0:m 0=some x) (ro:∀ b y,m b=some y→rw? hp.get b=true→y.1=x.1) (r:aD m hp.get args args'.toList)
  (h:a8 P fn.ntmps ⟨w0,fun k=>k=x.1⟩ x c ⟨tmsOf args 0 .leaf,hp,[]⟩ fun e st=>(e = .normal∨e = .ret)∧st.df = []∧∃ v,retVal P fn st=some v∧R v st) :
  Calls P f args' w0 fun e w'=>∃ v' v st' m',e = .returned v'∧R v st'∧aj m' st'.hp.get v v'∧cg m' st'.hp.get w'∧gI ⟨w0,fun k=>k=x.1⟩ w'∧(st'.hp.get 0=some .dead∨m' 0=some x):=by
 refine calls_of_wp hf hb (wp_mono (h _ w0 m ⟨⟨hk,⟨by rw [cA hk]; exact s,by rw [cA hk]; exact mG r hn,.nil⟩,gI.refl _ _,fun b y hx hr=>.inr (ro b y hx hr)⟩,.inr h0⟩) fun e a' w' hh=>?_)
 obtain ⟨st',m',f',q1,q2,v,q3,q4⟩:=hh;have hd:a'.defers = []:=by
  have:=f'.fr.rel.df
  rw [q2] at this;exact this.of_nil
 obtain ⟨v',h1,h2⟩:=fl f'.fr.ok f'.fr.rel.sim f'.fr.rel.tm q3;have e1:=cA f'.fr.ok
 have hs:=f'.fr.rel.sim
 rw [e1] at h2 hs;rcases q1 with rfl | rfl
 ·exact ⟨hd,v',h1,v',v,st',m',rfl,q4,h2,hs,f'.fr.below,f'.pin⟩
 ·exact ⟨hd,v',h1,v',v,st',m',rfl,q4,h2,hs,f'.fr.below,f'.pin⟩
theorem wH{m m':BM}{hp hpR:Hp}{h:HG}{w w':World}(hk:hp.ok)(s:cg m (aM hp h) w){b:Nat}{ty:TypeId}{L L':List Value}(hb:hp.get b=some (.cells ty L false))(hx:m b=some x)(kp:gI ⟨w,fun k=>k=x.1⟩ w')
  (hsim:cg m' hpR.get w') (h0:m' 0=some x) (xX:hpR.get 0=some (.cells ty L' false)) (iL:L'.all inert=true):dR m (aM hp h) w m (aM (hp.put b (.cells ty L' false)) h) w':=by
 have hlt:=cV hk hb
 have gb:=bq hk h b _ hb
 have hov:∀ b',aM (hp.put b (.cells ty L' false)) h b'=if b'=b then some (.cells ty L' false) else aM hp h b':=by
  intro b';unfold aM;rw [Hp.kG,Hp.dy];by_cases h1:b'=b
  ·subst h1; rw [if_pos hlt,if_pos rfl,if_pos rfl]
  ·rw [if_neg h1,if_neg h1]
 have hrwb:rw? (aM hp h) b=true:=by unfold rw?; rw [gb]; rfl
 have le:Le m (aM hp h) m (aM (hp.put b (.cells ty L' false)) h):=⟨fun b' hd=>by
  rw [hov];by_cases h1:b'=b
  ·subst h1; rw [gb] at hd; cases hd
  ·rw [if_neg h1]; exact hd,fun b' y hy=>.inr hy⟩
 have hrw:∀ b',rw? (aM (hp.put b (.cells ty L' false)) h) b'=rw? (aM hp h) b':=fun b'=>by
  by_cases h1:b'=b
  ·subst h1; rw [hrwb]; unfold rw?; rw [hov,if_pos rfl]; rfl
  ·unfold rw?; rw [hov,if_neg h1]
 have hlv:∀ b',aV (aM (hp.put b (.cells ty L' false)) h) b'=aV (aM hp h) b':=fun b'=>by
  by_cases h1:b'=b
  ·subst h1; unfold aV; rw [hov,if_pos rfl,gb]
  ·unfold aV; rw [hov,if_neg h1]
 refine ⟨le,⟨fun b' y hy=>?_,fun b1 b2 x1 x2 q1 q2 hr hl e=>s.inj b1 b2 x1 x2 q1 q2 (by rw [← hrw]; exact hr) (by rw [← hlv]; exact hl) e⟩,kp.size,fun b' y hy=>.inl hy,fun r hr hn=>kp.block r hr (fun e=>hn b x hx hrwb e.symm),fun _ _ _ h=>h,fun b' o ho hm=>?_,fun b' o ho=>?_,fun b' y hy hr=>by rw [← hrw]; exact hr,kp.os,kp.tape,kp.output⟩
 ·by_cases h1:b'=b
  ·subst h1
   rw [hx] at hy; cases hy;refine ⟨_,by rw [hov,if_pos rfl],?_⟩
   obtain ⟨o,ho,hbr⟩:=hsim.dom 0 x h0;rw [xX] at ho; cases ho;obtain ⟨c,fr,q1,q2,q3,q4,q5⟩:=hbr;exact ⟨c,fr,q1,q2,q3,fun i v v' p1 p2=>gB (List.all_eq_true.1 iL v (List.mem_of_getElem? p1)) (q4 i v v' p1 p2),q5⟩
  ·obtain ⟨o,ho,hbr⟩:=s.dom b' y hy
   refine ⟨o,by rw [hov,if_neg h1]; exact ho,?_⟩
   by_cases hl:aV (aM hp h) b'=true
   ·refine hbr.mono le (kp.block y.1 (s.lt hy hl) fun e=>h1 ?_)
    exact (s.inj b b' x y hx hy hrwb hl e.symm).symm
   ·cases o with
    | dead=>trivial
    | cells=>unfold aV at hl; rw [ho] at hl; exact absurd rfl hl
    | map=>unfold aV at hl; rw [ho] at hl; exact absurd rfl hl
 ·rw [hov]
  by_cases h1:b'=b
  ·subst h1; rw [hx] at hm; cases hm
  ·rw [if_neg h1]; exact ho
 ·by_cases h1:b'=b
  ·exact ⟨_,by rw [hov,if_pos h1]⟩
  ·exact ⟨o,by rw [hov,if_neg h1]; exact ho⟩
theorem ic(hm:P.follows .mixedOrders=true){f:FuncId}{fn:Func}{c:Code}{g:aC}(hf:P.funcs[f]? = some fn)(hb:fn.body=some c)(hnm:(fn.name == "runtime.NumGoroutine")=false)
  (H:∀ args hp v hp',g args hp=some (v,hp')→hp.ok→∃ (b:Nat) (ty:TypeId) (L L':List Value),hp'=hp.put b (.cells ty L' false)∧hp.get b=some (.cells ty L false)∧L.all inert=true∧L'.all inert=true ∧
    ∀ (m:BM) (h:HG) (w:World) (args':Array Value),cg m (aM hp h) w→aD m (aM hp h) args args'.toList→∃ x,m b=some x ∧
      ∃ (args0:List Value),aD (canM m [b]) (heapOf [.cells ty L false,.dead] aE).get args0 args'.toList∧args0.length≤fn.ntmps ∧
      ∀ W x,a8 P fn.ntmps W x c ⟨tmsOf args0 0 .leaf,heapOf [.cells ty L false,.dead] aE,[]⟩ fun e st=>(e = .normal∨e = .ret)∧st.df = []∧∃ v0,retVal P fn st=some v0 ∧
        (∀ m h m' h' x,aj m h v0 x→aj m' h' v x)∧st.hp.get 0=some (.cells ty L' false)):aq P f g:=by
 intro args hp v hp' he hk;obtain ⟨b,ty,L,L',rfl,hg,iL,iL',hrun⟩:=H args hp v hp' he hk;have hlt:=cV hk hg
 have hkput:(hp.put b (.cells ty L' false)).ok:=fun c hc=>by
  rw [Hp.kG] at hc;rw [Hp.dy,if_neg (by omega)]
  exact hk c hc
 refine ⟨hkput,by rw [Hp.kG]; exact Nat.le_refl _,fun m h w args' hfr s ra=>.inr ⟨cC hf (by rw [hb]; rfl) hnm,?_⟩⟩
 obtain ⟨x,hx,args0,rS,hn,hwp⟩:=hrun m h w args' s ra;obtain ⟨r,δ,E⟩:=x;have g1:=bq hk h b _ hg
 have sS:cg (canM m [b]) (heapOf [.cells ty L false,.dead] aE).get w:=by
  obtain ⟨o',ho',hbr⟩:=s.dom b _ hx;rw [g1] at ho'; cases ho';obtain ⟨c,fr,q1,q2,q3,q4,q5⟩:=hbr;have e0:(heapOf [.cells ty L false,.dead] aE).get 0=some (.cells ty L false):=by rw [heapOf_get]; rfl
  have cM:∀ i y,canM m [b] i=some y→(i=0∧m b=some y):=by
    intro i y hy;unfold canM at hy;match i with
    | 0=>exact ⟨rfl,hy⟩
    | i+1=>simp at hy
  refine ⟨fun i y hy=>?_,fun i i' y y' hy hy' hr hl hxx=>?_⟩
  ·obtain ⟨rfl,hz⟩:=cM i y hy
   rw [hx] at hz; cases hz;exact ⟨_,e0,c,fr,q1,q2,q3,fun i v v' p1 p2=>gB (List.all_eq_true.1 iL v (List.mem_of_getElem? p1)) (q4 i v v' p1 p2),q5⟩
  ·obtain ⟨rfl,_⟩:=cM i y hy
   obtain ⟨rfl,_⟩:=cM i' y' hy';rfl
 refine (L9 (x:=(r,δ,E)) (R:=fun v0 st=>(∀ m h m' h' x,aj m h v0 x→aj m' h' v x)∧st.hp.get 0=some (.cells ty L' false)) hf hb hn (bF _ _ iO) sS (by unfold canM; exact hx) (fun b' y hy _=>by
    unfold canM at hy;match b' with
    | 0=>simp at hy; rw [hx] at hy; cases hy; rfl
    | b'+1=>simp at hy) rS (a8.mono (hwp _ _) fun e st q=>by
    obtain ⟨q1,q2,v0,q3,q4,q5⟩:=q;exact ⟨q1,q2,v0,q3,q4,q5⟩)).mono fun e w' hh=>?_
 obtain ⟨v',v0,st',m',rfl,⟨q4,q5⟩,rv,hs',hkp,hpin⟩:=hh;have h0:m' 0=some (r,δ,E):=by
  rcases hpin with hd | hd
  ·rw [q5] at hd; cases hd
  ·exact hd
 exact ⟨v',rfl,m,wH hk s hg hx hkp hs' h0 q5 iL',q4 _ _ _ _ _ rv⟩
end
end Go.Proofs.YtgeoommlmddgpaaGreat.AI
namespace Go.Proofs.YtgeoommlmddgpaaGreat.AI
open Go Go.Proofs Go.RowKit
inductive Cm where
 | v (w:Value):Cm
 | h (w:Value) (O:List af):Cm
 | e (w:Value) (es:List eF):Cm
structure Acc where
 cs:List (Nat×Cm)
 k:Nat
 q:List db
 r:List jo
 x:List jn
def Good(a:Acc):Prop:=Met a.q∧ay a.r∧az a.x
abbrev ou:=FuncId→List Value→Hp→Acc→Option (Value×Hp×Acc)
def Ag(call:aG)(cn:ou):Prop:=∀ f args h a v h' a',cn f args h a=some (v,h',a')→Good a'→Good a∧call f args h=some (v,h')
def pushV(hp:Hp)(r:Value×Option af):Value×Hp:=(r.1,match r.2 with
 | some b=>hp.push b
 | none=>hp)
def claimN(P:Program)(call:aG)(o:Oper)(st:St)(c:Cm)(a:Acc):Option (Value×Hp×List (FuncId×List Value)×Acc) :=
 match c with
 | .v w=>match cls P o with
   | .big=>match aStep P call o st with
     | some (u,h,d)=>some (w,h,d,⟨a.cs,a.k,(some u,w)::a.q,a.r,a.x⟩)
     | none=>none
   | _=>some (w,st.hp,st.df,⟨a.cs,a.k,(plainV P st.eval st.hp.get st.hp.sz o,w)::a.q,a.r,a.x⟩)
 | .h w O=>match cls P o with
   | .pure=>some (w,heapOf O st.hp,st.df,⟨a.cs,a.k,a.q,((opP P st.eval st.hp.sz o).map (pushV st.hp),(w,heapOf O st.hp))::a.r,a.x⟩)
   | .read=>none
   | .big=>match opB P st.eval st.hp.sz st.hp.get o,o.op with
     | none,.call c=>match target st.eval c with
       | some (f,args)=>some (w,heapOf O st.hp,st.df,⟨a.cs,a.k,a.q,(call f args st.hp,(w,heapOf O st.hp))::a.r,a.x⟩)
       | none=>none
     | _,_=>none
 | .e w es=>match cls P o,callOf o with
   | .big,none=>some (w,st.hp.pr es,st.df,⟨a.cs,a.k,a.q,a.r,(opB P st.eval st.hp.sz st.hp.get o,(w,es))::a.x⟩)
   | .big,some c=>match target st.eval c with
     | some (f,args)=>some (w,st.hp.pr es,st.df,⟨a.cs,a.k,a.q,(call f args st.hp,(w,st.hp.pr es))::a.r,a.x⟩)
     | none=>none
   | _,_=>none
def plainN(P:Program)(call:aG)(cn:ou)(o:Oper)(st:St)(a:Acc):Option (Value×Hp×List (FuncId×List Value)×Acc) :=
 match cls P o with
 | .big=>match opB P st.eval st.hp.sz st.hp.get o with
   | some (v,es)=>some (v,st.hp.pr es,st.df,a)
   | none=>match o.op with
     | .call c=>match target st.eval c with
       | some (f,args)=>match cn f args st.hp a with
         | some (v,h,a')=>some (v,h,st.df,a')
         | none=>none
       | none=>none
     | .defer c=>match target st.eval c with
       | some (f,args)=>some (undef,st.hp,(f,args)::st.df,a)
       | none=>none
     | _=>none
 | _=>match aStep P call o st with
   | some (v,h,d)=>some (v,h,d,a)
   | none=>none
def stepN(P:Program)(call:aG)(cn:ou)(o:Oper)(st:St)(a:Acc):Option (Value×Hp×List (FuncId×List Value)×Acc) :=
 match a.cs with
 | []=>plainN P call cn o st ⟨[],a.k+1,a.q,a.r,a.x⟩
 | (j,c)::cs=>match Nat.beq j a.k with
   | true=>claimN P call o st c ⟨cs,a.k+1,a.q,a.r,a.x⟩
   | false=>plainN P call cn o st ⟨(j,c)::cs,a.k+1,a.q,a.r,a.x⟩
def runOpsN(P:Program)(call:aG)(cn:ou)(ops:Array Oper):List Oper→St→Acc→Option (St×Acc)
 | [],st,a=>some (st,a)
 | o::os,st,a=>match aWanted ops st o with
   | false=>runOpsN P call cn ops os (st.tput o.dst undef) a
   | true=>match stepN P call cn o st a with
     | some (v,h,d,a')=>runOpsN P call cn ops os ({ st with hp:=h,df:=d }.tput o.dst v) a'
     | none=>none
def runLogN(P:Program)(call:aG)(cn:ou)(ops:Array Oper):List Oper→Nat→St→Acc→Option (St×List Log×Acc)
 | [],_,st,a=>some (st,[],a)
 | o::os,i,st,a=>match aWanted ops st o with
   | false=>runLogN P call cn ops os (i+1) (st.tput o.dst undef) a
   | true=>match stepN P call cn o st a with
     | some (v,h,d,a1)=>match runLogN P call cn ops os (i+1) ({ st with hp:=h,df:=d }.tput o.dst v) a1 with
       | some (st',l,a2)=>match cls P o with
         | .pure=>some (st',l,a2)
         | .read=>some (st',.read i (fun get=>opR P st.eval get o) v::l,a2)
         | .big=>some (st',.big i st.hp h::l,a2)
       | none=>none
     | none=>none
def execN(P:Program)(call:aG)(cn:ou):Nat→Code→St→Acc→Option (Exit×St×Acc)
 | 0,_,_,_=>none
 | n+1,c,st,a=>match c with
   | .skip | .label _=>some (.normal,st,a)
   | .region _ ops draw=>match draw with
     | false=>match runOpsN P call cn ops ops.toList st a with
       | some (st',a')=>some (.normal,st',a')
       | none=>none
     | true=>match js P ops with
       | []=>match runOpsN P call cn ops ops.toList st a with
         | some (st',a')=>some (.normal,st',a')
         | none=>none
       | p::ps=>match runLogN P call cn ops ops.toList 0 st a with
         | some (st',l,a')=>match pairsQ l (p::ps) with
           | some q2=>some (.normal,st',⟨a'.cs,a'.k,q2++a'.q,a'.r,a'.x⟩)
           | none=>none
         | none=>none
   | .seq x y=>match execN P call cn n x st a with
     | some (.normal,st',a')=>execN P call cn n y st' a'
     | r=>r
   | .cond x t f=>match st.eval x with
     | .bool true=>execN P call cn n t st a
     | .bool false=>execN P call cn n f st a
     | _=>none
   | .block id body=>match execN P call cn n body st a with
     | some (.exit i,st',a')=>match Nat.beq i id with
       | true=>some (.normal,st',a')
       | false=>some (.exit i,st',a')
     | r=>r
   | .loop body=>match execN P call cn n body st a with
     | some (.normal,st',a')=>execN P call cn n (.loop body) st' a'
     | r=>r
   | .scope body=>execN P call cn n body st a
   | .exit id=>some (.exit id,st,a)
   | .ret=>some (.ret,st,a)
   | _=>none
def endN(P:Program)(ext:Ext)(n:Nat)(fn:Func)(st:St)(a:Acc):Option (Value×Hp×Acc) :=
 match runDf (aPlain P ext (aCall P ext n) n) st.df st.hp with
 | some h'=>match retVal P fn { st with hp:=h' } with
   | some v=>some (v,h',a)
   | none=>none
 | none=>none
def callN(P:Program)(ext:Ext):Nat→ou
 | 0,_,_,_,_=>none
 | n+1,f,args,h,a=>match ext f with
   | some e=>match e (aCall P ext n) args h with
     | some (v,h')=>some (v,h',a)
     | none=>none
   | none=>match P.funcs[f]? with
     | none=>none
     | some fn=>match fn.body with
       | none=>none
       | some c=>match Nat.ble args.length fn.ntmps with
         | false=>none
         | true=>match execN P (aCall P ext n) (callN P ext n) n c ⟨tmsOf args 0 .leaf,h,[]⟩ a with
           | some (.normal,st,a')=>endN P ext n fn st a'
           | some (.ret,st,a')=>endN P ext n fn st a'
           | _=>none
section
variable {P:Program} {call:aG} {cn:ou}
theorem AG{o:Oper}{st:St}{c:Cm}{a a':Acc}{v:Value}{h:Hp}{d:List (FuncId×List Value)}(he:claimN P call o st c a=some (v,h,d,a'))(g:Good a'):Good a∧aStep P call o st=some (v,h,d):=by
 unfold claimN at he;obtain ⟨gq,gr,gx⟩:=g;cases c with
 | v w =>
   simp only at he;split at he
   ·split at he
    ·rename_i hs
     cases he;have:=gq _ (.head _)
     simp only [Option.some.injEq] at this;exact ⟨⟨fun o ho=>gq o (.tail _ ho),gr,gx⟩,by rw [hs,this]⟩
    ·cases he
   ·cases he
    exact ⟨⟨fun o ho=>gq o (.tail _ ho),gr,gx⟩,fS (gq _ (.head _))⟩
 | h w O =>
   simp only at he;split at he
   ·rename_i hc
    cases he;have:=gr _ (.head _)
    obtain ⟨⟨v1,b1⟩,h1,h2⟩:=Option.map_eq_some_iff.1 this;refine ⟨⟨gq,fun o ho=>gr o (.tail _ ho),gx⟩,?_⟩
    unfold aStep;simp only [hc,h1];unfold pushV at h2;simp only [Prod.mk.injEq] at h2;obtain ⟨rfl,h3⟩:=h2;cases b1 with
    | none=>simp only at h3 ⊢; rw [← h3]
    | some b=>simp only at h3 ⊢; rw [← h3]
   ·cases he
   ·rename_i hc
    split at he
    ·rename_i hb ho
     split at he
     ·rename_i ht
      cases he;have:=gr _ (.head _)
      simp only at this;refine ⟨⟨gq,fun o ho=>gr o (.tail _ ho),gx⟩,?_⟩
      unfold aStep;simp only [hc,hb,ho,ht,this]
     ·cases he
    ·cases he
 | e w es =>
   simp only at he;split at he
   ·rename_i hc _
    cases he;have:=gx _ (.head _)
    simp only at this;refine ⟨⟨gq,gr,fun o ho=>gx o (.tail _ ho)⟩,?_⟩
    unfold aStep;simp only [hc,this]
   ·rename_i c hc hcall
    obtain ⟨ho,y,hy⟩:=kh hcall;split at he
    ·rename_i ht
     cases he;have:=gr _ (.head _)
     simp only at this;have hb:opB P st.eval st.hp.sz st.hp.get o=none:=by
       unfold opB;simp only [ho,hy]
     refine ⟨⟨gq,fun o ho=>gr o (.tail _ ho),gx⟩,?_⟩
     unfold aStep;simp only [hc,hb,ho,ht,this]
    ·cases he
   ·cases he
theorem sB(hcn:Ag call cn){o:Oper}{st:St}{a a':Acc}{v:Value}{h:Hp}{d:List (FuncId×List Value)}(he:plainN P call cn o st a=some (v,h,d,a'))(g:Good a'):Good a∧aStep P call o st=some (v,h,d):=by
 unfold plainN at he;split at he
 ·rename_i hc
  split at he
  ·rename_i hb
   cases he;exact ⟨g,by unfold aStep; simp only [hc,hb]⟩
  ·rename_i hb
   split at he
   ·rename_i ho
    split at he
    ·rename_i ht
     split at he
     ·rename_i hcall
      cases he;obtain ⟨g1,g2⟩:=hcn _ _ _ _ _ _ _ hcall g;exact ⟨g1,by unfold aStep; simp only [hc,hb,ho,ht,g2]⟩
     ·cases he
    ·cases he
   ·rename_i ho
    split at he
    ·rename_i ht
     cases he;exact ⟨g,by unfold aStep; simp only [hc,hb,ho,ht]⟩
    ·cases he
   ·cases he
 ·split at he
  ·rename_i hs; cases he; exact ⟨g,hs⟩
  ·cases he
theorem nA(hcn:Ag call cn){o:Oper}{st:St}{a a':Acc}{v:Value}{h:Hp}{d:List (FuncId×List Value)}(he:stepN P call cn o st a=some (v,h,d,a'))(g:Good a'):Good a∧aStep P call o st=some (v,h,d):=by
 unfold stepN at he;split at he
 ·obtain ⟨g1,h1⟩:=sB (a:=⟨[],a.k+1,a.q,a.r,a.x⟩) hcn he g
  exact ⟨g1,h1⟩
 ·rename_i j c cs _
  split at he
  ·obtain ⟨g1,h1⟩:=AG (a:=⟨cs,a.k+1,a.q,a.r,a.x⟩) he g
   exact ⟨g1,h1⟩
  ·obtain ⟨g1,h1⟩:=sB (a:=⟨(j,c)::cs,a.k+1,a.q,a.r,a.x⟩) hcn he g
   exact ⟨g1,h1⟩
theorem jG(hcn:Ag call cn){ops:Array Oper}:∀ {os:List Oper} {st st':St} {a a':Acc},runOpsN P call cn ops os st a=some (st',a')→Good a'→Good a∧runOps P call ops os st=some st'
 | [],st,st',a,a',he,g=>by cases he; exact ⟨g,rfl⟩
 | o::os,st,st',a,a',he,g=>by
   unfold runOpsN at he;unfold runOps;split at he
   ·rename_i hw; simp only [hw]; exact jG hcn he g
   ·rename_i hw
    simp only [hw];split at he
    ·rename_i hs
     obtain ⟨g1,h1⟩:=jG hcn he g;obtain ⟨g2,h2⟩:=nA hcn hs g1;exact ⟨g2,by simp only [h2]; exact h1⟩
    ·cases he
theorem ie(hcn:Ag call cn){ops:Array Oper}:∀ {os:List Oper} {i:Nat} {st st':St} {l:List Log} {a a':Acc},runLogN P call cn ops os i st a=some (st',l,a')→Good a'→Good a∧runLog P call ops os i st=some (st',l)
 | [],i,st,st',l,a,a',he,g=>by cases he; exact ⟨g,rfl⟩
 | o::os,i,st,st',l,a,a',he,g=>by
   unfold runLogN at he;unfold runLog;split at he
   ·rename_i hw; simp only [hw]; exact ie hcn he g
   ·rename_i hw
    simp only [hw];split at he
    ·rename_i hs
     split at he
     ·rename_i hr
      split at he
      ·rename_i hc
       cases he;obtain ⟨g1,h1⟩:=ie hcn hr g;obtain ⟨g2,h2⟩:=nA hcn hs g1;exact ⟨g2,by simp only [h2,h1,hc]⟩
      ·rename_i hc
       cases he;obtain ⟨g1,h1⟩:=ie hcn hr g;obtain ⟨g2,h2⟩:=nA hcn hs g1;exact ⟨g2,by simp only [h2,h1,hc]⟩
      ·rename_i hc
       cases he;obtain ⟨g1,h1⟩:=ie hcn hr g;obtain ⟨g2,h2⟩:=nA hcn hs g1;exact ⟨g2,by simp only [h2,h1,hc]⟩
     ·cases he
    ·cases he
theorem cO(hcn:Ag call cn):∀ {n:Nat} {c:Code} {st st':St} {e:Exit} {a a':Acc},execN P call cn n c st a=some (e,st',a')→Good a'→Good a∧exec P call n c st=some (e,st')
 | 0,c,st,st',e,a,a',he,g=>by cases he
 | n+1,c,st,st',e,a,a',he,g=>by
   cases c with
   | skip=>cases he; exact ⟨g,rfl⟩
   | label l=>cases he; exact ⟨g,rfl⟩
   | exit i=>cases he; exact ⟨g,rfl⟩
   | ret=>cases he; exact ⟨g,rfl⟩
   | region id ops draw =>
     simp only [execN] at he;simp only [exec];cases draw with
     | false =>
       simp only at he;split at he
       ·rename_i hr
        cases he;obtain ⟨g1,h1⟩:=jG hcn hr g;exact ⟨g1,by simp only [aRegion,h1]⟩
       ·cases he
     | true =>
       simp only at he;split at he
       ·rename_i hf
        split at he
        ·rename_i hr
         cases he;obtain ⟨g1,h1⟩:=jG hcn hr g;exact ⟨g1,by simp only [aRegion,hf,h1]⟩
        ·cases he
       ·rename_i p ps hf
        split at he
        ·rename_i hr
         split at he
         ·rename_i hp
          cases he;obtain ⟨gq,gr,gx⟩:=g;obtain ⟨g1,h1⟩:=ie hcn hr ⟨gq.right,gr,gx⟩;exact ⟨g1,by simp only [aRegion,hf,h1,jD hp gq.left]⟩
         ·cases he
        ·cases he
   | seq x y =>
     simp only [execN] at he;simp only [exec];split at he
     ·rename_i ha
      obtain ⟨g1,h1⟩:=cO hcn he g;obtain ⟨g2,h2⟩:=cO hcn ha g1;exact ⟨g2,by simp only [h2]; exact h1⟩
     ·rename_i hne
      obtain ⟨g2,h2⟩:=cO hcn he g;refine ⟨g2,?_⟩
      rw [h2];split
      ·rename_i heq; cases heq; exact absurd he (hne _ _)
      ·rfl
   | cond x t f =>
     simp only [execN] at he;simp only [exec];split at he
     ·rename_i hx; simp only [hx]; exact cO hcn he g
     ·rename_i hx; simp only [hx]; exact cO hcn he g
     ·cases he
   | block id b =>
     simp only [execN] at he;simp only [exec];split at he
     ·rename_i hb
      split at he
      ·rename_i hi
       cases he;obtain ⟨g2,h2⟩:=cO hcn hb g;exact ⟨g2,by simp only [h2,hi]⟩
      ·rename_i hi
       cases he;obtain ⟨g2,h2⟩:=cO hcn hb g;exact ⟨g2,by simp only [h2,hi]⟩
     ·rename_i hne
      obtain ⟨g2,h2⟩:=cO hcn he g;refine ⟨g2,?_⟩
      rw [h2];split
      ·rename_i heq; cases heq; exact absurd he (hne _ _ _)
      ·rfl
   | loop b =>
     simp only [execN] at he;simp only [exec];split at he
     ·rename_i ha
      obtain ⟨g1,h1⟩:=cO hcn he g;obtain ⟨g2,h2⟩:=cO hcn ha g1;exact ⟨g2,by simp only [h2]; exact h1⟩
     ·rename_i hne
      obtain ⟨g2,h2⟩:=cO hcn he g;refine ⟨g2,?_⟩
      rw [h2];split
      ·rename_i heq; cases heq; exact absurd he (hne _ _)
      ·rfl
   | scope b =>
     simp only [execN] at he;simp only [exec];exact cO hcn he g
   | _=>cases he
theorem zj{ext:Ext}{n:Nat}{fn:Func}{st:St}{a a':Acc}{v:Value}{h':Hp}(he:endN P ext n fn st a=some (v,h',a')):a'=a∧runDf (aPlain P ext (aCall P ext n) n) st.df st.hp=some h'∧retVal P fn { st with hp:=h' } = some v:=by
 unfold endN at he;split at he
 ·rename_i h1
  split at he
  ·rename_i h2; cases he; exact ⟨rfl,h1,h2⟩
  ·cases he
 ·cases he
theorem qb(ext:Ext):∀ n,Ag (aCall P ext n) (callN P ext n)
 | 0=>fun f args h a v h' a' he=>by cases he
 | n+1=>fun f args h a v h' a' he g=>by
   simp only [callN] at he;simp only [aCall];split at he
   ·rename_i e hx
    split at he
    ·rename_i hr; cases he; exact ⟨g,by simp only [hx,hr]⟩
    ·cases he
   ·rename_i hx
    split at he
    ·cases he
    ·rename_i fn hf
     split at he
     ·cases he
     ·rename_i c hb
      split at he
      ·cases he
      ·rename_i hle
       split at he
       ·rename_i hr
        obtain ⟨e1,e2,e3⟩:=zj he;subst e1;obtain ⟨g1,h1⟩:=cO (qb ext n) hr g;exact ⟨g1,by simp only [hx,hf,aBody,hb,hle,h1,e2,e3]; rfl⟩
       ·rename_i hr
        obtain ⟨e1,e2,e3⟩:=zj he;subst e1;obtain ⟨g1,h1⟩:=cO (qb ext n) hr g;exact ⟨g1,by simp only [hx,hf,aBody,hb,hle,h1,e2,e3]; rfl⟩
       ·cases he
end
def ej(cl:List (Nat×Cm)):Acc:=⟨cl.reverse,0,[],[],[]⟩
section
variable {P:Program} {N:Nat} {W:bh}
theorem ah.bD{ext:Ext}(hx:ExtOk P ext)(hm:P.follows .mixedOrders=true)(d:Nat){n:Nat}{c:Code}{cl:List (Nat×Cm)}{st:St}{e:Exit}{q:List db}{r:List jo}{x:List jn}{Q:Exit→St→Prop}(p:Nat)(K Ts:List Nat)(O:List af)(L:List (Nat×Value))
  (he:(execN P (aCall P ext d) (callN P ext d) n c st (ej cl)).map (fun y=>(look2 p K Ts (y.1,y.2.1),y.2.2.q,y.2.2.r,y.2.2.x))=some ((e,O,L,true),q,r,x)) (hq:Met q) (hr:ay r) (hx':az x) (hs:codeSafe P N c=true) (hK:nodupB K=true) (hT:Ts.all (fun t=>Nat.blt t N)=true)
  (hO:∀ i,i<p→∀ o,O[i]? = some o→dw 0 o) (h:∀ g,Q e (av N g L O)):ah P N W c st Q:=by
 obtain ⟨⟨e',st',a'⟩,h1,h2⟩:=Option.map_eq_some_iff.1 he;simp only [Prod.mk.injEq] at h2;obtain ⟨h2,rfl,rfl,rfl⟩:=h2;refine ah.pJ (aQ hx hm d) hm (n:=n) p K Ts O L ?_ hs hK hT hO h
 rw [(cO (qb ext d) h1 ⟨hq,hr,hx'⟩).2];exact congrArg some h2
end
inductive cd where
 | stop (p:Nat) (K Ts:List Nat):cd
 | b (k:Nat) (x y:cd):cd
 | w (k:Nat) (c:Bool) (x y:cd):cd
 | v (k:Nat) (w:Value) (x:cd):cd
 | h (k:Nat) (w:Value) (O:List af) (x:cd):cd
 | e (k:Nat) (w:Value) (es:List eF) (x:cd):cd
 | l (k n:Nat) (K Ts:List Nat) (α : Type) (post : α→(Nat→Value)→Exit×St) (ok : α→Prop) (x:cd):cd
 | m (k n:Nat) (K Ts:List Nat) (α : Type) (post : α→(Nat→Value)→Exit×St) (ok : α→Prop) (x:cd) (β : Type) (post2 : β→(Nat→Value)→Exit×St) (ok2 : β→Prop) (y:cd):cd
abbrev KV:=Value→Hp→List (FuncId×List Value)→cd→Nat→Prop
abbrev lI:=FuncId→List Value→Hp→cd→Nat→(Value→Hp→cd→Nat→Prop)→Prop
def xp(call:aG)(cn:lI):Prop:=∀ f args h p k K,cn f args h p k K→∃ v h' p' k',call f args h=some (v,h')∧K v h' p' k'
def HT(r:Hp→Option (Value×Hp))(hp:Hp)(w:Value)(O:List af):Prop:=r hp=some (w,heapOf O hp)
def HE(r:Hp→Option (Value×Hp))(hp:Hp)(w:Value)(es:List eF):Prop:=r hp=some (w,hp.pr es)
def H6:List db→Prop→Prop
 | [],X=>X
 | (a,v)::l,X=>a=some v∧H6 l X
theorem ub:∀ {l:List db} {X:Prop},H6 l X→Met l∧X
 | [],X,h=>⟨Met.nil,h⟩
 | (a,v)::l,X,h=>⟨Met.cons h.1 (ub h.2).1,(ub h.2).2⟩
def uS(p:Nat)(O:List af):Prop:=∀ i,i<p→∀ o,O[i]? = some o→dw 0 o
def plainT(P:Program)(call:aG)(cn:lI)(o:Oper)(st:St)(p:cd)(k:Nat)(K:KV):Prop :=
 match cls P o with
 | .big=>match opB P st.eval st.hp.sz st.hp.get o with
   | some (v,es)=>K v (st.hp.pr es) st.df p k
   | none=>match o.op with
     | .call c=>match target st.eval c with
       | some (f,args)=>cn f args st.hp p k fun v h p' k'=>K v h st.df p' k'
       | none=>False
     | .defer c=>match target st.eval c with
       | some (f,args)=>K undef st.hp ((f,args)::st.df) p k
       | none=>False
     | _=>False
 | _=>match aStep P call o st with
   | some (v,h,d)=>K v h d p k
   | none=>False
def NW(P:Program)(call:aG)(o:Oper)(st:St)(w:Value)(X:Hp→List (FuncId×List Value)→Prop):Prop :=
 match cls P o with
 | .big=>match aStep P call o st with
   | some (u,h,d)=>u=w∧X h d
   | none=>False
 | _=>plainV P st.eval st.hp.get st.hp.sz o=some w∧X st.hp st.df
def layT(P:Program)(call:aG)(o:Oper)(st:St)(w:Value)(O:List af)(X:Hp→List (FuncId×List Value)→Prop):Prop :=
 match cls P o with
 | .pure=>match O with
   | [b]=>opP P st.eval st.hp.sz o=some (w,some b)∧X (st.hp.push b) st.df
   | _=>False
 | .read=>False
 | .big=>match opB P st.eval st.hp.sz st.hp.get o,o.op with
   | none,.call c=>match target st.eval c with
     | some (f,args)=>HT (call f args) st.hp w O∧X (heapOf O st.hp) st.df
     | none=>False
   | _,_=>False
def effT(P:Program)(call:aG)(o:Oper)(st:St)(w:Value)(es:List eF)(X:Hp→List (FuncId×List Value)→Prop):Prop :=
 match cls P o,callOf o with
 | .big,none=>opB P st.eval st.hp.sz st.hp.get o=some (w,es)∧X (st.hp.pr es) st.df
 | .big,some c=>match target st.eval c with
   | some (f,args)=>HE (call f args) st.hp w es∧X (st.hp.pr es) st.df
   | none=>False
 | _,_=>False
def forkT(P:Program)(call:aG)(o:Oper)(st:St)(X:Bool→Hp→List (FuncId×List Value)→Prop):Prop :=
 match aStep P call o st with
 | some (.bool c,h,d)=>(c=true→X true h d)∧(c=false→X false h d)
 | _=>False
def stepT(P:Program)(call:aG)(cn:lI)(o:Oper)(st:St)(p:cd)(k:Nat)(K:KV):Prop :=
 match p with
 | .stop a b c=>plainT P call cn o st (.stop a b c) (k+1) K
 | .b j x y=>match Nat.beq j k with
   | true=>forkT P call o st fun c h d=>match c with
     | true=>K (.bool true) h d x (k+1)
     | false=>K (.bool false) h d y (k+1)
   | false=>plainT P call cn o st (.b j x y) (k+1) K
 | .w j c x y=>match Nat.beq j k with
   | true=>plainV P st.eval st.hp.get st.hp.sz o=some (.bool c)∧(c=true→K (.bool true) st.hp st.df x (k+1))∧(c=false→K (.bool false) st.hp st.df y (k+1))
   | false=>plainT P call cn o st (.w j c x y) (k+1) K
 | .v j w x=>match Nat.beq j k with
   | true=>NW P call o st w fun h d=>K w h d x (k+1)
   | false=>plainT P call cn o st (.v j w x) (k+1) K
 | .h j w O x=>match Nat.beq j k with
   | true=>layT P call o st w O fun h d=>K w h d x (k+1)
   | false=>plainT P call cn o st (.h j w O x) (k+1) K
 | .e j w es x=>match Nat.beq j k with
   | true=>effT P call o st w es fun h d=>K w h d x (k+1)
   | false=>plainT P call cn o st (.e j w es x) (k+1) K
 | p=>plainT P call cn o st p (k+1) K
def runOpsT(P:Program)(call:aG)(cn:lI)(ops:Array Oper):List Oper→St→cd→Nat→(St→cd→Nat→Prop)→Prop
 | [],st,p,k,K=>K st p k
 | o::os,st,p,k,K=>match aWanted ops st o with
   | false=>runOpsT P call cn ops os (st.tput o.dst undef) p k K
   | true=>stepT P call cn o st p k fun v h d p' k'=>runOpsT P call cn ops os ({ st with hp:=h,df:=d }.tput o.dst v) p' k' K
def runLogT(P:Program)(call:aG)(cn:lI)(ops:Array Oper):List Oper→Nat→St→cd→Nat→(St→List Log→cd→Nat→Prop)→Prop
 | [],_,st,p,k,K=>K st [] p k
 | o::os,i,st,p,k,K=>match aWanted ops st o with
   | false=>runLogT P call cn ops os (i+1) (st.tput o.dst undef) p k K
   | true=>stepT P call cn o st p k fun v h d p' k'=>runLogT P call cn ops os (i+1) ({ st with hp:=h,df:=d }.tput o.dst v) p' k' fun st' l p2 k2 =>
       match cls P o with
       | .pure=>K st' l p2 k2
       | .read=>K st' (.read i (fun get=>opR P st.eval get o) v::l) p2 k2
       | .big=>K st' (.big i st.hp h::l) p2 k2
def execT(P:Program)(call:aG)(cn:lI):Nat→Code→St→cd→Nat→(Exit→St→cd→Nat→Prop)→Prop
 | 0,_,_,_,_,_=>False
 | n+1,c,st,p,k,K=>match c with
   | .skip | .label _=>K .normal st p k
   | .region _ ops draw=>match draw with
     | false=>runOpsT P call cn ops ops.toList st p k fun st' p' k'=>K .normal st' p' k'
     | true=>match js P ops with
       | []=>runOpsT P call cn ops ops.toList st p k fun st' p' k'=>K .normal st' p' k'
       | f::fs=>runLogT P call cn ops ops.toList 0 st p k fun st' l p' k'=>match pairsQ l (f::fs) with
         | some q=>H6 q (K .normal st' p' k')
         | none=>False
   | .seq x y=>execT P call cn n x st p k fun e st' p' k'=>match e with
     | .normal=>execT P call cn n y st' p' k' K
     | e=>K e st' p' k'
   | .cond x t f=>match st.eval x with
     | .bool true=>execT P call cn n t st p k K
     | .bool false=>execT P call cn n f st p k K
     | _=>False
   | .block id body=>execT P call cn n body st p k fun e st' p' k'=>match e with
     | .exit i=>match Nat.beq i id with
       | true=>K .normal st' p' k'
       | false=>K (.exit i) st' p' k'
     | e=>K e st' p' k'
   | .loop body=>execT P call cn n body st p k fun e st' p' k'=>match e with
     | .normal=>execT P call cn n (.loop body) st' p' k' K
     | e=>K e st' p' k'
   | .scope body=>execT P call cn n body st p k K
   | .exit id=>K (.exit id) st p k
   | .ret=>K .ret st p k
   | _=>False
def endT(P:Program)(ext:Ext)(n:Nat)(fn:Func)(st:St)(K:Value→Hp→Prop):Prop :=
 match runDf (aPlain P ext (aCall P ext n) n) st.df st.hp with
 | some h'=>match retVal P fn { st with hp:=h' } with
   | some v=>K v h'
   | none=>False
 | none=>False
def callT(P:Program)(ext:Ext):Nat→lI
 | 0,_,_,_,_,_,_=>False
 | n+1,f,args,h,p,k,K=>match ext f with
   | some e=>match e (aCall P ext n) args h with
     | some (v,h')=>K v h' p k
     | none=>False
   | none=>match P.funcs[f]? with
     | none=>False
     | some fn=>match fn.body with
       | none=>False
       | some c=>match Nat.ble args.length fn.ntmps with
         | false=>False
         | true=>execT P (aCall P ext n) (callT P ext n) n c ⟨tmsOf args 0 .leaf,h,[]⟩ p k fun e st p' k'=>match e with
           | .normal=>endT P ext n fn st fun v h'=>K v h' p' k'
           | .ret=>endT P ext n fn st fun v h'=>K v h' p' k'
           | _=>False
section
variable {P:Program} {call:aG} {cn:lI}
theorem fH(hcn:xp call cn){o:Oper}{st:St}{p:cd}{k:Nat}{K:KV}(he:plainT P call cn o st p k K):∃ v h d p' k',aStep P call o st=some (v,h,d)∧K v h d p' k':=by
 unfold plainT at he;split at he
 ·rename_i hc
  split at he
  ·rename_i hb
   exact ⟨_,_,_,_,_,by unfold aStep; simp only [hc,hb],he⟩
  ·rename_i hb
   split at he
   ·rename_i ho
    split at he
    ·rename_i ht
     obtain ⟨v,h',p',k',q1,q2⟩:=hcn _ _ _ _ _ _ he;exact ⟨_,_,_,_,_,by unfold aStep; simp only [hc,hb,ho,ht,q1],q2⟩
    ·exact he.elim
   ·rename_i ho
    split at he
    ·rename_i ht
     exact ⟨_,_,_,_,_,by unfold aStep; simp only [hc,hb,ho,ht],he⟩
    ·exact he.elim
   ·exact he.elim
 ·split at he
  ·rename_i hs; exact ⟨_,_,_,_,_,hs,he⟩
  ·exact he.elim
theorem IN{o:Oper}{st:St}{w:Value}{X:Hp→List (FuncId×List Value)→Prop}(he:NW P call o st w X):∃ h d,aStep P call o st=some (w,h,d)∧X h d:=by
 unfold NW at he;split at he
 ·split at he
  ·rename_i hs; exact ⟨_,_,by rw [hs,he.1],he.2⟩
  ·exact he.elim
 ·exact ⟨_,_,fS he.1,he.2⟩
theorem HU{o:Oper}{st:St}{w:Value}{O:List af}{X:Hp→List (FuncId×List Value)→Prop}(he:layT P call o st w O X):∃ h d,aStep P call o st=some (w,h,d)∧X h d:=by
 unfold layT at he;split at he
 ·rename_i hc
  split at he
  ·obtain ⟨he,hX⟩:=he
   exact ⟨_,_,by unfold aStep; simp only [hc,he],hX⟩
  ·exact he.elim
 ·exact he.elim
 ·rename_i hc
  split at he
  ·rename_i hb ho
   split at he
   ·rename_i ht
    obtain ⟨he,hX⟩:=he;refine ⟨_,_,?_,hX⟩
    unfold HT at he;unfold aStep;simp only [hc,hb,ho,ht,he]
   ·exact he.elim
  ·exact he.elim
theorem Hj{o:Oper}{st:St}{w:Value}{es:List eF}{X:Hp→List (FuncId×List Value)→Prop}(he:effT P call o st w es X):∃ h d,aStep P call o st=some (w,h,d)∧X h d:=by
 unfold effT at he;split at he
 ·rename_i hc _
  obtain ⟨he,hX⟩:=he;exact ⟨_,_,by unfold aStep; simp only [hc,he],hX⟩
 ·rename_i c hc hcall
  obtain ⟨ho,y,hy⟩:=kh hcall;split at he
  ·rename_i ht
   obtain ⟨he,hX⟩:=he;refine ⟨_,_,?_,hX⟩
   unfold HE at he;have hb:opB P st.eval st.hp.sz st.hp.get o=none:=by
     unfold opB;simp only [ho,hy]
   unfold aStep;simp only [hc,hb,ho,ht,he]
  ·exact he.elim
 ·exact he.elim
theorem DA{o:Oper}{st:St}{X:Bool→Hp→List (FuncId×List Value)→Prop}(he:forkT P call o st X):∃ c h d,aStep P call o st=some (.bool c,h,d)∧X c h d:=by
 unfold forkT at he;split at he
 ·rename_i c h d hs
  refine ⟨c,h,d,hs,?_⟩
  cases c with
  | true=>exact he.1 rfl
  | false=>exact he.2 rfl
 ·exact he.elim
theorem wY(hcn:xp call cn){o:Oper}{st:St}{p:cd}{k:Nat}{K:KV}(he:stepT P call cn o st p k K):∃ v h d p' k',aStep P call o st=some (v,h,d)∧K v h d p' k':=by
 unfold stepT at he;split at he
 ·exact fH hcn he
 ·split at he
  ·obtain ⟨c,h,d,q1,q2⟩:=DA he
   cases c with
   | true=>exact ⟨_,_,_,_,_,q1,q2⟩
   | false=>exact ⟨_,_,_,_,_,q1,q2⟩
  ·exact fH hcn he
 ·split at he
  ·rename_i j c x y _ _
   obtain ⟨q1,q2,q3⟩:=he;cases c with
   | true=>exact ⟨_,_,_,_,_,fS q1,q2 rfl⟩
   | false=>exact ⟨_,_,_,_,_,fS q1,q3 rfl⟩
  ·exact fH hcn he
 ·split at he
  ·obtain ⟨h,d,q1,q2⟩:=IN he; exact ⟨_,_,_,_,_,q1,q2⟩
  ·exact fH hcn he
 ·split at he
  ·obtain ⟨h,d,q1,q2⟩:=HU he; exact ⟨_,_,_,_,_,q1,q2⟩
  ·exact fH hcn he
 ·split at he
  ·obtain ⟨h,d,q1,q2⟩:=Hj he; exact ⟨_,_,_,_,_,q1,q2⟩
  ·exact fH hcn he
 ·exact fH hcn he
theorem jI(hcn:xp call cn){ops:Array Oper}:∀ {os:List Oper} {st:St} {p:cd} {k:Nat} {K:St→cd→Nat→Prop},runOpsT P call cn ops os st p k K→∃ st' p' k',runOps P call ops os st=some st'∧K st' p' k'
 | [],st,p,k,K,he=>⟨_,_,_,rfl,he⟩
 | o::os,st,p,k,K,he=>by
   unfold runOpsT at he;unfold runOps;split at he
   ·rename_i hw; simp only [hw]; exact jI hcn he
   ·rename_i hw
    simp only [hw];obtain ⟨v,h,d,p',k',q1,q2⟩:=wY hcn he;simp only [q1];exact jI hcn q2
theorem mg(hcn:xp call cn){ops:Array Oper}:∀ {os:List Oper} {i:Nat} {st:St} {p:cd} {k:Nat} {K:St→List Log→cd→Nat→Prop},runLogT P call cn ops os i st p k K→∃ st' l p' k',runLog P call ops os i st=some (st',l)∧K st' l p' k'
 | [],i,st,p,k,K,he=>⟨_,_,_,_,rfl,he⟩
 | o::os,i,st,p,k,K,he=>by
   unfold runLogT at he;unfold runLog;split at he
   ·rename_i hw; simp only [hw]; exact mg hcn he
   ·rename_i hw
    simp only [hw];obtain ⟨v,h,d,p',k',q1,q2⟩:=wY hcn he;simp only [q1];obtain ⟨st',l,p2,k2,r1,r2⟩:=mg hcn q2;simp only [r1];split at r2
    ·rename_i hc; simp only [hc]; exact ⟨_,_,_,_,rfl,r2⟩
    ·rename_i hc; simp only [hc]; exact ⟨_,_,_,_,rfl,r2⟩
    ·rename_i hc; simp only [hc]; exact ⟨_,_,_,_,rfl,r2⟩
theorem cY(hcn:xp call cn):∀ {n:Nat} {c:Code} {st:St} {p:cd} {k:Nat} {K:Exit→St→cd→Nat→Prop},execT P call cn n c st p k K→∃ e st' p' k',exec P call n c st=some (e,st')∧K e st' p' k'
 | 0,c,st,p,k,K,he=>he.elim
 | n+1,c,st,p,k,K,he=>by
   cases c with
   | skip=>exact ⟨_,_,_,_,rfl,he⟩
   | label l=>exact ⟨_,_,_,_,rfl,he⟩
   | exit i=>exact ⟨_,_,_,_,rfl,he⟩
   | ret=>exact ⟨_,_,_,_,rfl,he⟩
   | region id ops draw =>
     simp only [execT] at he;simp only [exec];cases draw with
     | false =>
       simp only at he;obtain ⟨st',p',k',q1,q2⟩:=jI hcn he;exact ⟨_,_,_,_,by simp only [aRegion,q1],q2⟩
     | true =>
       simp only at he;split at he
       ·rename_i hf
        obtain ⟨st',p',k',q1,q2⟩:=jI hcn he;exact ⟨_,_,_,_,by simp only [aRegion,hf,q1],q2⟩
       ·rename_i f fs hf
        obtain ⟨st',l,p',k',q1,q2⟩:=mg hcn he;split at q2
        ·rename_i q hq
         obtain ⟨m,q3⟩:=ub q2;exact ⟨_,_,_,_,by simp only [aRegion,hf,q1,jD hq m],q3⟩
        ·exact q2.elim
   | seq x y =>
     simp only [execT] at he;simp only [exec];obtain ⟨e,st',p',k',q1,q2⟩:=cY hcn he;simp only [q1];cases e with
     | normal=>exact cY hcn q2
     | _=>exact ⟨_,_,_,_,rfl,q2⟩
   | cond x t f =>
     simp only [execT] at he;simp only [exec];split at he
     ·rename_i hx; simp only [hx]; exact cY hcn he
     ·rename_i hx; simp only [hx]; exact cY hcn he
     ·exact he.elim
   | block id b =>
     simp only [execT] at he;simp only [exec];obtain ⟨e,st',p',k',q1,q2⟩:=cY hcn he;simp only [q1];cases e with
     | exit i =>
       simp only at q2 ⊢;split at q2
       ·rename_i hi; simp only [hi]; exact ⟨_,_,_,_,rfl,q2⟩
       ·rename_i hi; simp only [hi]; exact ⟨_,_,_,_,rfl,q2⟩
     | _=>exact ⟨_,_,_,_,rfl,q2⟩
   | loop b =>
     simp only [execT] at he;simp only [exec];obtain ⟨e,st',p',k',q1,q2⟩:=cY hcn he;simp only [q1];cases e with
     | normal=>exact cY hcn q2
     | _=>exact ⟨_,_,_,_,rfl,q2⟩
   | scope b =>
     simp only [execT] at he;simp only [exec];exact cY hcn he
   | _=>exact he.elim
theorem zk{ext:Ext}{n:Nat}{fn:Func}{st:St}{K:Value→Hp→Prop}(he:endT P ext n fn st K):∃ v h',runDf (aPlain P ext (aCall P ext n) n) st.df st.hp=some h'∧retVal P fn { st with hp:=h' } = some v∧K v h':=by
 unfold endT at he;split at he
 ·rename_i h1
  split at he
  ·rename_i h2; exact ⟨_,_,h1,h2,he⟩
  ·exact he.elim
 ·exact he.elim
theorem iZ(ext:Ext):∀ n,xp (aCall P ext n) (callT P ext n)
 | 0=>fun f args h p k K he=>he.elim
 | n+1=>fun f args h p k K he=>by
   simp only [callT] at he;simp only [aCall];split at he
   ·rename_i e hx
    split at he
    ·rename_i hr; exact ⟨_,_,_,_,by simp only [hx,hr],he⟩
    ·exact he.elim
   ·rename_i hx
    split at he
    ·exact he.elim
    ·rename_i fn hf
     split at he
     ·exact he.elim
     ·rename_i c hb
      split at he
      ·exact he.elim
      ·rename_i hle
       obtain ⟨e,st,p',k',q1,q2⟩:=cY (iZ ext n) he;cases e with
       | normal =>
         obtain ⟨v,h',e2,e3,q3⟩:=zk q2;exact ⟨_,_,_,_,by simp only [hx,hf,aBody,hb,hle,q1,e2,e3]; rfl,q3⟩
       | ret =>
         obtain ⟨v,h',e2,e3,q3⟩:=zk q2;exact ⟨_,_,_,_,by simp only [hx,hf,aBody,hb,hle,q1,e2,e3]; rfl,q3⟩
       | _=>exact q2.elim
end
def CT(P:Program)(ext:Ext)(n:Nat)(f:FuncId)(args:List Value)(p:cd)(Q:Value→Prop):Prop:=callT P ext n f args aE p 0 fun v _ _ _=>Q v
theorem s6{P:Program}{ext:Ext}{n:Nat}{f:FuncId}{args:List Value}{p:cd}{v:Value}{X:Prop}(e:X=CT P ext n f args p (fun u=>u=v))(h:X):∃ hp,aCall P ext n f args aE=some (v,hp):=by
 rw [e] at h;obtain ⟨u,hp,_,_,q1,rfl⟩:=iZ ext n _ _ _ _ _ _ h;exact ⟨hp,q1⟩
def pinK(p:Nat)(K:List Nat):Bool:=(List.range p).all fun i=>match K[i]? with
 | some j=>Nat.beq i j
 | none=>false
theorem pK{p:Nat}{K:List Nat}(h:pinK p K=true){i:Nat}(hi:i<p):K[i]? = some i:=by
 have:=List.all_eq_true.1 h i (List.mem_range.2 hi)
 split at this
 ·rename_i j hj
  rw [hj,Nat.eq_of_beq_eq_true this]
 ·cases this
def leafT(N z:Nat)(Q:Exit→St→Prop)(e:Exit)(st:St)(p:cd)(k:Nat):Prop :=
 match p with
 | .stop n K Ts=>match nodupB K&&pinK z K&&Ts.all (fun t=>Nat.blt t N),look2 n K Ts (e,st) with
   | true,(e',O,L,true)=>match n with
     | 0=>∀ g,Q e' (av N g L O)
     | n=>uS n O∧∀ g,Q e' (av N g L O)
   | _,_=>False
 | _=>False
def RT(P:Program)(ext:Ext)(N z d:Nat)(c:Code)(st:St)(p:cd)(Q:Exit→St→Prop):Prop:=execT P (aCall P ext d) (callT P ext d) d c st p 0 (leafT N z Q)
section
variable {P:Program} {N z:Nat} {W:bh}
theorem D8{Q:Exit→St→Prop}{e:Exit}{st:St}{p:cd}{k:Nat}(h:leafT N z Q e st p k):∃ n K Ts O L,look2 n K Ts (e,st)=(e,O,L,true)∧nodupB K=true∧pinK z K=true∧Ts.all (fun t=>Nat.blt t N)=true∧uS n O∧∀ g,Q e (av N g L O):=by
 unfold leafT at h;split at h
 ·rename_i n K Ts
  split at h
  ·rename_i e' O L hk hl
   obtain ⟨h1,h2⟩:=Bool.and_eq_true_iff.1 hk;obtain ⟨h0,h1⟩:=Bool.and_eq_true_iff.1 h1;have he:e'=e:=by
     have:=congrArg Prod.fst hl
     exact this.symm
   subst he;refine ⟨n,K,Ts,O,L,hl,h0,h1,h2,?_⟩
   split at h
   ·exact ⟨fun i hi=>by omega,h⟩
   ·exact h
  ·exact h.elim
 ·exact h.elim
end
end Go.Proofs.YtgeoommlmddgpaaGreat.AI
namespace Go.Proofs.YtgeoommlmddgpaaGreat.LtA
open Go Go.Proofs Go.Proofs.YtgeoommlmddgpaaGreat.AI
theorem IX:ExtOk Tryz.prog E0:=by unfold E0; exact aT (P:=Tryz.prog) (hs:=[]) jm.nil
theorem cN{c:Array Value}{l:List Value}(h:c.toList=l):c=l.toArray:=by cases c; simp at h; rw [h]
def yI(a:Int):Value:=(bif (a != a) then (.bool true) else (.bool false))
theorem FD(a:Int):∃ hp,aCall Tryz.prog E0 61 146 [.int .i64 a] aE=some (yI a,hp):=by
 cases h0:(a != a) with
 | true =>
   have e:yI a=(.bool true):=by simp only [yI,h0,cond_true,cond_false]
   rw [e];exact aP [(5,.bool true)] (q:=[(some (.bool (a != a)),.bool true)]) (by kernel_rfl) (Met.cons (ag h0) (Met.nil))
 | false =>
   have e:yI a=(.bool false):=by simp only [yI,h0,cond_true,cond_false]
   rw [e];exact aP [(5,.bool false)] (q:=[(some (.bool (a != a)),.bool false)]) (by kernel_rfl) (Met.cons (ag h0) (Met.nil))
def dQ(n:Bool)(t o r d i:Int):Bool :=
 bif n then decide (i≥0)&&(decide (i<64)&&dD n t o r d i true 0 0 0 0 i)
 else decide (i≥0)&&(decide (i<64)&&(decide (t≥0)&&(decide (t≤4611686018427387903)&&(decide (o≥0)&&(decide (o<64)&&((Int.fdiv r (2 ^ (min (Int.toNat 1) 64))==0)&&(decide (d≥(-1099511627776))&&decide (d≤1099511627776))))))))
def cm(n:Bool)(t o r d i:Int):Int:=bif dQ n t o r d i then 0 else 1
theorem L5(n:Bool)(t o r d i:Int)(n':Bool)(t' o' r' d' i':Int):fstV ((aBin Tryz.prog .eql 23 (.agg #[.bool n,.int .i64 t,.int .i64 o,.int .i64 r,.int .i64 d,.int .i64 i]) (.agg #[.bool n',.int .i64 t',.int .i64 o',.int .i64 r',.int .i64 d',.int .i64 i'])).map fun v=>(v,none))=some (.bool (dD n t o r d i n' t' o' r' d' i')):=by rw [Pm]
theorem TE{n:Bool}{t o r d i:Int}(h:dQ n t o r d i=true):iN 0 = .int .i64 (cm n t o r d i):=by unfold cm; rw [h]; rfl
theorem TD{n:Bool}{t o r d i:Int}(h:dQ n t o r d i=false):iN 1 = .int .i64 (cm n t o r d i):=by unfold cm; rw [h]; rfl
theorem FA(n:Bool)(t o r d i:Int)(Q:Value→Prop):(((decide (i≥(Int.ofNat 0)))=true→((decide (i<(Int.ofNat 64)))=true→(n=true→(fstV ((aBin Tryz.prog .eql 23 (.agg #[.bool n,.int .i64 t,.int .i64 o,.int .i64 r,.int .i64 d,.int .i64 i]) (.agg #[.bool true,iN 0,iN 0,iN 0,iN 0,.int .i64 i])).map fun v=>(v,none)):Option Value)=some (.bool (dD n t o r d i true (Int.ofNat 0) (Int.ofNat 0) (Int.ofNat 0) (Int.ofNat 0) i))∧((some (.agg #[.bool n,.int .i64 t,.int .i64 o,.int .i64 r,.int .i64 d,.int .i64 i]):Option Value)=some (.agg #[.bool n,.int .i64 t,.int .i64 o,.int .i64 r,.int .i64 d,.int .i64 i])∧(((!(dD n t o r d i true (Int.ofNat 0) (Int.ofNat 0) (Int.ofNat 0) (Int.ofNat 0) i))=true→Q (iN 1))∧((!(dD n t o r d i true (Int.ofNat 0) (Int.ofNat 0) (Int.ofNat 0) (Int.ofNat 0) i))=false→Q (iN 0)))))∧(n=false→((decide (t≥(Int.ofNat 0)))=true→((decide (t≤(Int.ofNat 4611686018427387903)))=true→((decide (o≥(Int.ofNat 0)))=true→((decide (o<(Int.ofNat 64)))=true→(((r.fdiv (2 ^ (min (Int.toNat (Int.ofNat 1)) (IntKind.bits .i64))))==(Int.ofNat 0))=true→((decide (d≥(Int.negSucc 1099511627775)))=true→((!(decide (d≤(Int.ofNat 1099511627776))))=true→Q (iN 1))∧((!(decide (d≤(Int.ofNat 1099511627776))))=false→Q (iN 0)))∧((decide (d≥(Int.negSucc 1099511627775)))=false→Q (iN 1)))∧(((r.fdiv (2 ^ (min (Int.toNat (Int.ofNat 1)) (IntKind.bits .i64))))==(Int.ofNat 0))=false→Q (iN 1)))∧((decide (o<(Int.ofNat 64)))=false→Q (iN 1)))∧((decide (o≥(Int.ofNat 0)))=false→Q (iN 1)))∧((decide (t≤(Int.ofNat 4611686018427387903)))=false→Q (iN 1)))∧((decide (t≥(Int.ofNat 0)))=false→Q (iN 1))))∧((decide (i<(Int.ofNat 64)))=false→(n=true→Q (iN 1))∧(n=false→Q (iN 1))))∧((decide (i≥(Int.ofNat 0)))=false→(n=true→Q (iN 1))∧(n=false→Q (iN 1))))=(CT Tryz.prog E0 61 57 [.agg #[.bool n,.int .i64 t,.int .i64 o,.int .i64 r,.int .i64 d,.int .i64 i]] (.b 4 (.b 8 (.b 12 (.v 23 (.bool (dD n t o r d i true (Int.ofNat 0) (Int.ofNat 0) (Int.ofNat 0) (Int.ofNat 0) i)) (.b 27 (.stop 0 [] []) (.stop 0 [] []))) (.b 17 (.b 22 (.b 27 (.b 32 (.b 38 (.b 43 (.b 52 (.stop 0 [] []) (.stop 0 [] [])) (.stop 0 [] [])) (.stop 0 [] [])) (.stop 0 [] [])) (.stop 0 [] [])) (.stop 0 [] [])) (.stop 0 [] []))) (.b 12 (.stop 0 [] []) (.stop 0 [] []))) (.b 9 (.stop 0 [] []) (.stop 0 [] []))) Q):=by kernel_rfl
theorem yF(n:Bool)(t o r d i:Int):∃ hp,aCall Tryz.prog E0 61 57 [.agg #[.bool n,.int .i64 t,.int .i64 o,.int .i64 r,.int .i64 d,.int .i64 i]] aE=some (.int .i64 (cm n t o r d i),hp):=by
 refine s6 (FA n t o r d i _) ?_
 refine ⟨fun h_4=>⟨fun h_8=>⟨fun h_12=>⟨L5 ..,rfl,fun h_27=>?_,fun h_27=>?_⟩,fun h_12=>⟨fun h_17=>⟨fun h_22=>⟨fun h_27=>⟨fun h_32=>⟨fun h_38=>⟨fun h_43=>⟨fun h_52=>?_,fun h_52=>?_⟩,fun h_43=>?_⟩,fun h_38=>?_⟩,fun h_32=>?_⟩,fun h_27=>?_⟩,fun h_22=>?_⟩,fun h_17=>?_⟩⟩,fun h_8=>⟨fun h_12=>?_,fun h_12=>?_⟩⟩,fun h_4=>⟨fun h_9=>?_,fun h_9=>?_⟩⟩
 all_goals (first | (refine TE ?_; unfold dQ; simp_all [IntKind.bits] <;> (intros; omega)) | (refine TD ?_; unfold dQ; simp_all [IntKind.bits] <;> (intros; omega)))
def gW(a:Int):Bool:=a != a
theorem H7(a:Int):gW a=false:=by simp [gW]
theorem IF(a:Int):yI a = .bool (gW a):=by
 unfold yI gW;cases h:(a != a) <;> rfl
def g15:List Value→Option Value
 | [.agg c0]=>match c0.toList with
   | [.bool hn,.int .i64 ht,.int .i64 ho,.int .i64 hr,.int .i64 hd,.int .i64 hi]=>some (.int .i64 (cm hn ht ho hr hd hi))
   | _=>none
 | _=>none
theorem vN:bL Tryz.prog 57 g15:=di (ext:=E0) IX follows Tryz.func57 (by kernel_rfl) fun args v h=>by
 unfold g15 at h;split at h
 ·rename_i c0
  split at h
  ·rename_i ec0
   cases h;obtain rfl:=cN ec0;refine ⟨rfl,rfl,?_⟩
   obtain ⟨hp,q⟩:=yF _ _ _ _ _ _;exact ⟨_,hp,q⟩
  ·cases h
 ·cases h
def g75:List Value→Option Value
 | [.int .i64 a]=>some (.bool (gW a))
 | _=>none
theorem T6:bL Tryz.prog 146 g75:=di (ext:=E0) IX follows Tryz.func146 (by kernel_rfl) fun args v h=>by
 unfold g75 at h;split at h
 ·cases h
  refine ⟨rfl,rfl,?_⟩
  obtain ⟨hp,q⟩:=FD _;rw [IF] at q;exact ⟨_,hp,q⟩
 ·cases h
noncomputable def E1:Ext:=cS Tryz.prog [(57,g15),(146,g75)]
theorem rY:ExtOk Tryz.prog E1:=by unfold E1; exact aT (.cons vN (.cons T6 .nil))
def mj(a:Int)(b:Int):Value:=(bif (gW (a)) then (bif (gW (b)) then (.int .i64 0) else (.int .i64 (-1))) else (bif (gW (b)) then (.int .i64 1) else (bif (decide (a<b)) then (.int .i64 (-1)) else (bif (decide (a>b)) then (.int .i64 1) else (.int .i64 0)))))
theorem FB(a:Int)(b:Int):∃ hp,aCall Tryz.prog E1 61 107 [.int .i64 a,.int .i64 b] aE=some (mj a b,hp):=by
 cases h0:(gW (a)) with
 | true =>
   cases h1:(gW (b)) with
   | true =>
     have e:mj a b=(.int .i64 0):=by simp only [mj,h0,h1,cond_true,cond_false]
     rw [e];exact aP [(8,.bool true),(10,.bool true)] (q:=[(some (.bool (gW (a))),.bool true),(some (.bool (gW (b))),.bool true)]) (by kernel_rfl) (Met.cons (ag h0) (Met.cons (ag h1) (Met.nil)))
   | false =>
     have e:mj a b=(.int .i64 (-1)):=by simp only [mj,h0,h1,cond_true,cond_false]
     rw [e];exact aP [(8,.bool true),(10,.bool false)] (q:=[(some (.bool (gW (a))),.bool true),(some (.bool (gW (b))),.bool false)]) (by kernel_rfl) (Met.cons (ag h0) (Met.cons (ag h1) (Met.nil)))
 | false =>
   cases h1:(gW (b)) with
   | true =>
     have e:mj a b=(.int .i64 1):=by simp only [mj,h0,h1,cond_true,cond_false]
     rw [e];exact aP [(8,.bool false),(10,.bool true)] (q:=[(some (.bool (gW (a))),.bool false),(some (.bool (gW (b))),.bool true)]) (by kernel_rfl) (Met.cons (ag h0) (Met.cons (ag h1) (Met.nil)))
   | false =>
     cases h2:(decide (a<b)) with
     | true =>
       have e:mj a b=(.int .i64 (-1)):=by simp only [mj,h0,h1,h2,cond_true,cond_false]
       rw [e];exact aP [(8,.bool false),(10,.bool false),(16,.bool true)] (q:=[(some (.bool (gW (a))),.bool false),(some (.bool (gW (b))),.bool false),(some (.bool (decide (a<b))),.bool true)]) (by kernel_rfl) (Met.cons (ag h0) (Met.cons (ag h1) (Met.cons (ag h2) (Met.nil))))
     | false =>
       cases h3:(decide (a>b)) with
       | true =>
         have e:mj a b=(.int .i64 1):=by simp only [mj,h0,h1,h2,h3,cond_true,cond_false]
         rw [e];exact aP [(8,.bool false),(10,.bool false),(16,.bool false),(19,.bool true)] (q:=[(some (.bool (gW (a))),.bool false),(some (.bool (gW (b))),.bool false),(some (.bool (decide (a<b))),.bool false),(some (.bool (decide (a>b))),.bool true)]) (by kernel_rfl) (Met.cons (ag h0) (Met.cons (ag h1) (Met.cons (ag h2) (Met.cons (ag h3) (Met.nil)))))
       | false =>
         have e:mj a b=(.int .i64 0):=by simp only [mj,h0,h1,h2,h3,cond_true,cond_false]
         rw [e];exact aP [(8,.bool false),(10,.bool false),(16,.bool false),(19,.bool false)] (q:=[(some (.bool (gW (a))),.bool false),(some (.bool (gW (b))),.bool false),(some (.bool (decide (a<b))),.bool false),(some (.bool (decide (a>b))),.bool false)]) (by kernel_rfl) (Met.cons (ag h0) (Met.cons (ag h1) (Met.cons (ag h2) (Met.cons (ag h3) (Met.nil)))))
def jP(hNull:Bool)(hTau:Int)(hOid:Int)(hR:Int)(hDelta:Int)(hId:Int):Value:=(bif hNull then (.bool false) else (bif ((cm (false) (hTau) (hOid) (hR) (hDelta) (hId))==0) then (.bool true) else (.bool false)))
theorem yG(hNull:Bool)(hTau:Int)(hOid:Int)(hR:Int)(hDelta:Int)(hId:Int):∃ hp,aCall Tryz.prog E1 61 103 [.agg #[.bool hNull,.int .i64 hTau,.int .i64 hOid,.int .i64 hR,.int .i64 hDelta,.int .i64 hId]] aE=some (jP hNull hTau hOid hR hDelta hId,hp):=by
 cases hNull with
 | true =>
   have e:jP true hTau hOid hR hDelta hId=(.bool false):=by simp only [jP,cond_true,cond_false]
   rw [e];exact aP [] (q:=[]) (by kernel_rfl) (Met.nil)
 | false =>
   cases h0:((cm (false) (hTau) (hOid) (hR) (hDelta) (hId))==0) with
   | true =>
     have e:jP false hTau hOid hR hDelta hId=(.bool true):=by simp only [jP,h0,cond_true,cond_false]
     rw [e];exact aP [(9,.bool true)] (q:=[(some (.bool ((cm (false) (hTau) (hOid) (hR) (hDelta) (hId))==0)),.bool true)]) (by kernel_rfl) (Met.cons (ag h0) (Met.nil))
   | false =>
     have e:jP false hTau hOid hR hDelta hId=(.bool false):=by simp only [jP,h0,cond_true,cond_false]
     rw [e];exact aP [(9,.bool false)] (q:=[(some (.bool ((cm (false) (hTau) (hOid) (hR) (hDelta) (hId))==0)),.bool false)]) (by kernel_rfl) (Met.cons (ag h0) (Met.nil))
def nB(hNull:Bool)(hTau:Int)(hOid:Int)(hR:Int)(hDelta:Int)(hId:Int):Value:=(bif hNull then (.bool false) else (bif ((cm (false) (hTau) (hOid) (hR) (hDelta) (hId))==0) then (.bool true) else (.bool false)))
theorem Br(hNull:Bool)(hTau:Int)(hOid:Int)(hR:Int)(hDelta:Int)(hId:Int):∃ hp,aCall Tryz.prog E1 61 157 [.agg #[.bool hNull,.int .i64 hTau,.int .i64 hOid,.int .i64 hR,.int .i64 hDelta,.int .i64 hId]] aE=some (nB hNull hTau hOid hR hDelta hId,hp):=by
 cases hNull with
 | true =>
   have e:nB true hTau hOid hR hDelta hId=(.bool false):=by simp only [nB,cond_true,cond_false]
   rw [e];exact aP [] (q:=[]) (by kernel_rfl) (Met.nil)
 | false =>
   cases h0:((cm (false) (hTau) (hOid) (hR) (hDelta) (hId))==0) with
   | true =>
     have e:nB false hTau hOid hR hDelta hId=(.bool true):=by simp only [nB,h0,cond_true,cond_false]
     rw [e];exact aP [(9,.bool true)] (q:=[(some (.bool ((cm (false) (hTau) (hOid) (hR) (hDelta) (hId))==0)),.bool true)]) (by kernel_rfl) (Met.cons (ag h0) (Met.nil))
   | false =>
     have e:nB false hTau hOid hR hDelta hId=(.bool false):=by simp only [nB,h0,cond_true,cond_false]
     rw [e];exact aP [(9,.bool false)] (q:=[(some (.bool ((cm (false) (hTau) (hOid) (hR) (hDelta) (hId))==0)),.bool false)]) (by kernel_rfl) (Met.cons (ag h0) (Met.nil))
def dP(a b:Int):Int:=bif decide (a<b) then -1 else bif decide (a>b) then 1 else 0
theorem IC(a b:Int):mj a b = .int .i64 (dP a b):=by
 unfold mj dP;simp only [H7,cond_false];cases decide (a<b) <;> cases decide (a>b) <;> rfl
def known(n:Bool)(t o r d i:Int):Bool:=!n&&dQ n t o r d i
theorem mQ(n:Bool)(t o r d i:Int):(cm n t o r d i==0)=dQ n t o r d i:=by
 unfold cm; cases dQ n t o r d i <;> rfl
theorem Bn(n:Bool)(t o r d i:Int):jP n t o r d i = .bool (known n t o r d i):=by
 unfold jP known;cases n <;> simp only [cond_true,cond_false,mQ]
 ·cases dQ false t o r d i <;> rfl
 ·rfl
theorem w6(n:Bool)(t o r d i:Int):nB n t o r d i = .bool (known n t o r d i):=by
 unfold nB known;cases n <;> simp only [cond_true,cond_false,mQ]
 ·cases dQ false t o r d i <;> rfl
 ·rfl
def told(n:Bool)(t o r d i:Int):Bool:=known n t o r d i
def g54:List Value→Option Value
 | [.int .i64 a,.int .i64 b]=>some (.int .i64 (dP a b))
 | _=>none
theorem Ml:bL Tryz.prog 107 g54:=di (ext:=E1) rY follows Tryz.func107 (by kernel_rfl) fun args v h=>by
 unfold g54 at h;split at h
 ·cases h
  refine ⟨rfl,rfl,?_⟩
  obtain ⟨hp,q⟩:=FB _ _;rw [IC] at q;exact ⟨_,hp,q⟩
 ·cases h
def S1:List Value→Option Value
 | [.agg c0]=>match c0.toList with
   | [.bool hn,.int .i64 ht,.int .i64 ho,.int .i64 hr,.int .i64 hd,.int .i64 hi]=>some (.bool (known hn ht ho hr hd hi))
   | _=>none
 | _=>none
theorem PB:bL Tryz.prog 103 S1:=di (ext:=E1) rY follows Tryz.func103 (by kernel_rfl) fun args v h=>by
 unfold S1 at h;split at h
 ·rename_i c0
  split at h
  ·rename_i ec0
   cases h;obtain rfl:=cN ec0;refine ⟨rfl,rfl,?_⟩
   obtain ⟨hp,q⟩:=yG _ _ _ _ _ _;rw [Bn] at q;exact ⟨_,hp,q⟩
  ·cases h
 ·cases h
def S0:List Value→Option Value
 | [.agg c0]=>match c0.toList with
   | [.bool hn,.int .i64 ht,.int .i64 ho,.int .i64 hr,.int .i64 hd,.int .i64 hi]=>some (.bool (told hn ht ho hr hd hi))
   | _=>none
 | _=>none
theorem Pz:bL Tryz.prog 157 S0:=di (ext:=E1) rY follows Tryz.func157 (by kernel_rfl) fun args v h=>by
 unfold S0 at h;split at h
 ·rename_i c0
  split at h
  ·rename_i ec0
   cases h;obtain rfl:=cN ec0;refine ⟨rfl,rfl,?_⟩
   obtain ⟨hp,q⟩:=Br _ _ _ _ _ _;rw [w6] at q;exact ⟨_,hp,q⟩
  ·cases h
 ·cases h
noncomputable def E2:Ext:=cS Tryz.prog [(107,g54),(103,S1)]
theorem IY:ExtOk Tryz.prog E2:=by unfold E2; exact aT (.cons Ml (.cons PB .nil))
def ml(hNull:Bool)(hTau:Int)(hOid:Int)(hR:Int)(hDelta:Int)(hId:Int):Value:=(bif (known (hNull) (hTau) (hOid) (hR) (hDelta) (hId)) then (.agg #[.int .i64 hTau,.int .i64 hOid,.int .i64 hR]) else (.agg #[.int .i64 0,.int .i64 0,.int .i64 0]))
theorem yH(hNull:Bool)(hTau:Int)(hOid:Int)(hR:Int)(hDelta:Int)(hId:Int):∃ hp,aCall Tryz.prog E2 61 106 [.agg #[.bool hNull,.int .i64 hTau,.int .i64 hOid,.int .i64 hR,.int .i64 hDelta,.int .i64 hId]] aE=some (ml hNull hTau hOid hR hDelta hId,hp):=by
 cases h0:(known (hNull) (hTau) (hOid) (hR) (hDelta) (hId)) with
 | true =>
   have e:ml hNull hTau hOid hR hDelta hId=(.agg #[.int .i64 hTau,.int .i64 hOid,.int .i64 hR]):=by simp only [ml,h0,cond_true,cond_false]
   rw [e];exact aP [(4,.bool true)] (q:=[(some (.bool (known (hNull) (hTau) (hOid) (hR) (hDelta) (hId))),.bool true)]) (by kernel_rfl) (Met.cons (ag h0) (Met.nil))
 | false =>
   have e:ml hNull hTau hOid hR hDelta hId=(.agg #[.int .i64 0,.int .i64 0,.int .i64 0]):=by simp only [ml,h0,cond_true,cond_false]
   rw [e];exact aP [(4,.bool false)] (q:=[(some (.bool (known (hNull) (hTau) (hOid) (hR) (hDelta) (hId))),.bool false)]) (by kernel_rfl) (Met.cons (ag h0) (Met.nil))
def km(n:Bool)(t o r d i:Int):Int:=bif known n t o r d i then t else 0
def kq(n:Bool)(t o r d i:Int):Int:=bif known n t o r d i then o else 0
def ks(n:Bool)(t o r d i:Int):Int:=bif known n t o r d i then r else 0
theorem Bp(n:Bool)(t o r d i:Int):ml n t o r d i = .agg #[.int .i64 (km n t o r d i),.int .i64 (kq n t o r d i),.int .i64 (ks n t o r d i)]:=by
 unfold ml km kq ks;cases known n t o r d i <;> rfl
def Ig(x y z:Int):Int:=bif x==0 then (bif y==0 then z else y) else x
def qF(a b c a' b' c':Int):Int:=Ig (dP a a') (dP b b') (dP c c')
theorem FF(a b c a' b' c':Int)(Q:Value→Prop):((((dP a a') != (Int.ofNat 0))=true→(some (.int .i64 b):Option Value)=some (.int .i64 b)∧((some (.int .i64 b'):Option Value)=some (.int .i64 b')∧((some (.int .i64 c):Option Value)=some (.int .i64 c)∧((some (.int .i64 c):Option Value)=some (.int .i64 c)∧((some (.int .i64 c'):Option Value)=some (.int .i64 c')∧((some (.int .i64 c'):Option Value)=some (.int .i64 c')∧(Q (.int .i64 (dP a a')))))))))∧(((dP a a') != (Int.ofNat 0))=false→(((dP b b') != (Int.ofNat 0))=true→(some (.int .i64 b):Option Value)=some (.int .i64 b)∧((some (.int .i64 b'):Option Value)=some (.int .i64 b')∧((some (.int .i64 c):Option Value)=some (.int .i64 c)∧((some (.int .i64 c):Option Value)=some (.int .i64 c)∧((some (.int .i64 c'):Option Value)=some (.int .i64 c')∧((some (.int .i64 c'):Option Value)=some (.int .i64 c')∧(Q (.int .i64 (dP b b')))))))))∧(((dP b b') != (Int.ofNat 0))=false→(((dP c c') != (Int.ofNat 0))=true→(some (.int .i64 b):Option Value)=some (.int .i64 b)∧((some (.int .i64 b'):Option Value)=some (.int .i64 b')∧((some (.int .i64 c):Option Value)=some (.int .i64 c)∧((some (.int .i64 c):Option Value)=some (.int .i64 c)∧((some (.int .i64 c'):Option Value)=some (.int .i64 c')∧((some (.int .i64 c'):Option Value)=some (.int .i64 c')∧(Q (.int .i64 (dP c c')))))))))∧(((dP c c') != (Int.ofNat 0))=false→(some (.int .i64 b):Option Value)=some (.int .i64 b)∧((some (.int .i64 b'):Option Value)=some (.int .i64 b')∧((some (.int .i64 c):Option Value)=some (.int .i64 c)∧((some (.int .i64 c):Option Value)=some (.int .i64 c)∧((some (.int .i64 c'):Option Value)=some (.int .i64 c')∧((some (.int .i64 c'):Option Value)=some (.int .i64 c')∧(Q (iN 0)))))))))))=(CT Tryz.prog E2 61 105 [.agg #[.int .i64 a,.int .i64 b,.int .i64 c],.agg #[.int .i64 a',.int .i64 b',.int .i64 c']] (.b 31 (.stop 0 [] []) (.b 40 (.stop 0 [] []) (.b 49 (.stop 0 [] []) (.stop 0 [] [])))) Q):=by kernel_rfl
theorem yJ(a b c a' b' c':Int):∃ hp,aCall Tryz.prog E2 61 105 [.agg #[.int .i64 a,.int .i64 b,.int .i64 c],.agg #[.int .i64 a',.int .i64 b',.int .i64 c']] aE=some (.int .i64 (qF a b c a' b' c'),hp):=by
 refine s6 (FF a b c a' b' c' _) ?_
 refine ⟨fun h_31=>⟨rfl,rfl,rfl,rfl,rfl,rfl,?_⟩,fun h_31=>⟨fun h_40=>⟨rfl,rfl,rfl,rfl,rfl,rfl,?_⟩,fun h_40=>⟨fun h_49=>⟨rfl,rfl,rfl,rfl,rfl,rfl,?_⟩,fun h_49=>⟨rfl,rfl,rfl,rfl,rfl,rfl,?_⟩⟩⟩⟩
 all_goals (unfold qF Ig; simp_all [Bool.cond_eq_ite] <;> rfl)
def HA:List Value→Option Value
 | [.agg c0]=>match c0.toList with
   | [.bool hn,.int .i64 ht,.int .i64 ho,.int .i64 hr,.int .i64 hd,.int .i64 hi]=>some (.agg #[.int .i64 (km hn ht ho hr hd hi),.int .i64 (kq hn ht ho hr hd hi),.int .i64 (ks hn ht ho hr hd hi)])
   | _=>none
 | _=>none
theorem xY:bL Tryz.prog 106 HA:=di (ext:=E2) IY follows Tryz.func106 (by kernel_rfl) fun args v h=>by
 unfold HA at h;split at h
 ·rename_i c0
  split at h
  ·rename_i ec0
   cases h;obtain rfl:=cN ec0;refine ⟨rfl,rfl,?_⟩
   obtain ⟨hp,q⟩:=yH _ _ _ _ _ _;rw [Bp] at q;exact ⟨_,hp,q⟩
  ·cases h
 ·cases h
def g30:List Value→Option Value
 | [.agg c0,.agg c1]=>match c0.toList,c1.toList with
   | [.int .i64 a,.int .i64 b,.int .i64 c],[.int .i64 d,.int .i64 e,.int .i64 f]=>some (.int .i64 (qF a b c d e f))
   | _,_=>none
 | _=>none
theorem Mk:bL Tryz.prog 105 g30:=di (ext:=E2) IY follows Tryz.func105 (by kernel_rfl) fun args v h=>by
 unfold g30 at h;split at h
 ·rename_i c0 c1
  split at h
  ·rename_i ec0 ec1
   cases h;obtain rfl:=cN ec0;obtain rfl:=cN ec1;refine ⟨rfl,rfl,?_⟩
   obtain ⟨hp,q⟩:=yJ _ _ _ _ _ _;exact ⟨_,hp,q⟩
  ·cases h
 ·cases h
noncomputable def E3:Ext:=cS Tryz.prog [(107,g54),(103,S1),(106,HA),(105,g30)]
theorem Oz:ExtOk Tryz.prog E3:=by unfold E3; exact aT (.cons Ml (.cons PB (.cons xY (.cons Mk .nil))))
def less(n:Bool)(t o r d i:Int)(n':Bool)(t' o' r' d' i':Int):Bool :=
 known n t o r d i&&(known n' t' o' r' d' i'&&decide (Ig (qF (km n t o r d i) (kq n t o r d i) (ks n t o r d i) (km n' t' o' r' d' i') (kq n' t' o' r' d' i') (ks n' t' o' r' d' i')) (dP d d') (dP i i')<0))
theorem IE(n:Bool)(t o r d i:Int)(n':Bool)(t' o' r' d' i':Int)(Q:Value→Prop):(((known n t o r d i)=true→((known n' t' o' r' d' i')=true→(((qF (km n t o r d i) (kq n t o r d i) (ks n t o r d i) (km n' t' o' r' d' i') (kq n' t' o' r' d' i') (ks n' t' o' r' d' i')) != (Int.ofNat 0))=true→(some (.agg #[.bool n',.int .i64 t',.int .i64 o',.int .i64 r',.int .i64 d',.int .i64 i']):Option Value)=some (.agg #[.bool n',.int .i64 t',.int .i64 o',.int .i64 r',.int .i64 d',.int .i64 i'])∧((some (.int .i64 d):Option Value)=some (.int .i64 d)∧((some (.int .i64 d):Option Value)=some (.int .i64 d)∧((some (.int .i64 d):Option Value)=some (.int .i64 d)∧((some (.int .i64 d'):Option Value)=some (.int .i64 d')∧((some (.int .i64 d'):Option Value)=some (.int .i64 d')∧((some (.int .i64 d'):Option Value)=some (.int .i64 d')∧((some (.int .i64 i):Option Value)=some (.int .i64 i)∧((some (.int .i64 i):Option Value)=some (.int .i64 i)∧((some (.int .i64 i):Option Value)=some (.int .i64 i)∧((some (.int .i64 i):Option Value)=some (.int .i64 i)∧((some (.int .i64 i'):Option Value)=some (.int .i64 i')∧((some (.int .i64 i'):Option Value)=some (.int .i64 i')∧((some (.int .i64 i'):Option Value)=some (.int .i64 i')∧((some (.int .i64 i'):Option Value)=some (.int .i64 i')∧(Q (.bool (decide ((qF (km n t o r d i) (kq n t o r d i) (ks n t o r d i) (km n' t' o' r' d' i') (kq n' t' o' r' d' i') (ks n' t' o' r' d' i'))<(Int.ofNat 0))))))))))))))))))))∧(((qF (km n t o r d i) (kq n t o r d i) (ks n t o r d i) (km n' t' o' r' d' i') (kq n' t' o' r' d' i') (ks n' t' o' r' d' i')) != (Int.ofNat 0))=false→(((dP d d') != (Int.ofNat 0))=true→(some (.agg #[.bool n',.int .i64 t',.int .i64 o',.int .i64 r',.int .i64 d',.int .i64 i']):Option Value)=some (.agg #[.bool n',.int .i64 t',.int .i64 o',.int .i64 r',.int .i64 d',.int .i64 i'])∧((some (.int .i64 d):Option Value)=some (.int .i64 d)∧((some (.int .i64 d):Option Value)=some (.int .i64 d)∧((some (.int .i64 d):Option Value)=some (.int .i64 d)∧((some (.int .i64 d'):Option Value)=some (.int .i64 d')∧((some (.int .i64 d'):Option Value)=some (.int .i64 d')∧((some (.int .i64 d'):Option Value)=some (.int .i64 d')∧((some (.int .i64 i):Option Value)=some (.int .i64 i)∧((some (.int .i64 i):Option Value)=some (.int .i64 i)∧((some (.int .i64 i):Option Value)=some (.int .i64 i)∧((some (.int .i64 i):Option Value)=some (.int .i64 i)∧((some (.int .i64 i'):Option Value)=some (.int .i64 i')∧((some (.int .i64 i'):Option Value)=some (.int .i64 i')∧((some (.int .i64 i'):Option Value)=some (.int .i64 i')∧((some (.int .i64 i'):Option Value)=some (.int .i64 i')∧(Q (.bool (decide ((dP d d')<(Int.ofNat 0))))))))))))))))))))∧(((dP d d') != (Int.ofNat 0))=false→(((dP i i') != (Int.ofNat 0))=true→(some (.agg #[.bool n',.int .i64 t',.int .i64 o',.int .i64 r',.int .i64 d',.int .i64 i']):Option Value)=some (.agg #[.bool n',.int .i64 t',.int .i64 o',.int .i64 r',.int .i64 d',.int .i64 i'])∧((some (.int .i64 d):Option Value)=some (.int .i64 d)∧((some (.int .i64 d):Option Value)=some (.int .i64 d)∧((some (.int .i64 d):Option Value)=some (.int .i64 d)∧((some (.int .i64 d'):Option Value)=some (.int .i64 d')∧((some (.int .i64 d'):Option Value)=some (.int .i64 d')∧((some (.int .i64 d'):Option Value)=some (.int .i64 d')∧((some (.int .i64 i):Option Value)=some (.int .i64 i)∧((some (.int .i64 i):Option Value)=some (.int .i64 i)∧((some (.int .i64 i):Option Value)=some (.int .i64 i)∧((some (.int .i64 i):Option Value)=some (.int .i64 i)∧((some (.int .i64 i'):Option Value)=some (.int .i64 i')∧((some (.int .i64 i'):Option Value)=some (.int .i64 i')∧((some (.int .i64 i'):Option Value)=some (.int .i64 i')∧((some (.int .i64 i'):Option Value)=some (.int .i64 i')∧(Q (.bool (decide ((dP i i')<(Int.ofNat 0))))))))))))))))))))∧(((dP i i') != (Int.ofNat 0))=false→(some (.agg #[.bool n',.int .i64 t',.int .i64 o',.int .i64 r',.int .i64 d',.int .i64 i']):Option Value)=some (.agg #[.bool n',.int .i64 t',.int .i64 o',.int .i64 r',.int .i64 d',.int .i64 i'])∧((some (.int .i64 d):Option Value)=some (.int .i64 d)∧((some (.int .i64 d):Option Value)=some (.int .i64 d)∧((some (.int .i64 d):Option Value)=some (.int .i64 d)∧((some (.int .i64 d'):Option Value)=some (.int .i64 d')∧((some (.int .i64 d'):Option Value)=some (.int .i64 d')∧((some (.int .i64 d'):Option Value)=some (.int .i64 d')∧((some (.int .i64 i):Option Value)=some (.int .i64 i)∧((some (.int .i64 i):Option Value)=some (.int .i64 i)∧((some (.int .i64 i):Option Value)=some (.int .i64 i)∧((some (.int .i64 i):Option Value)=some (.int .i64 i)∧((some (.int .i64 i'):Option Value)=some (.int .i64 i')∧((some (.int .i64 i'):Option Value)=some (.int .i64 i')∧((some (.int .i64 i'):Option Value)=some (.int .i64 i')∧((some (.int .i64 i'):Option Value)=some (.int .i64 i')∧(Q (.bool false))))))))))))))))))))∧((known n' t' o' r' d' i')=false→Q (.bool false)))∧((known n t o r d i)=false→Q (.bool false)))=(CT Tryz.prog E3 61 44 [.agg #[.bool n,.int .i64 t,.int .i64 o,.int .i64 r,.int .i64 d,.int .i64 i],.agg #[.bool n',.int .i64 t',.int .i64 o',.int .i64 r',.int .i64 d',.int .i64 i']] (.b 4 (.b 7 (.b 38 (.stop 0 [] []) (.b 47 (.stop 0 [] []) (.b 56 (.stop 0 [] []) (.stop 0 [] [])))) (.stop 0 [] [])) (.stop 0 [] [])) Q):=by kernel_rfl
theorem Bo(n:Bool)(t o r d i:Int)(n':Bool)(t' o' r' d' i':Int):∃ hp,aCall Tryz.prog E3 61 44 [.agg #[.bool n,.int .i64 t,.int .i64 o,.int .i64 r,.int .i64 d,.int .i64 i],.agg #[.bool n',.int .i64 t',.int .i64 o',.int .i64 r',.int .i64 d',.int .i64 i']] aE=some (.bool (less n t o r d i n' t' o' r' d' i'),hp):=by
 refine s6 (IE n t o r d i n' t' o' r' d' i' _) ?_
 refine ⟨fun h_4=>⟨fun h_7=>⟨fun h_38=>⟨rfl,rfl,rfl,rfl,rfl,rfl,rfl,rfl,rfl,rfl,rfl,rfl,rfl,rfl,rfl,?_⟩,fun h_38=>⟨fun h_47=>⟨rfl,rfl,rfl,rfl,rfl,rfl,rfl,rfl,rfl,rfl,rfl,rfl,rfl,rfl,rfl,?_⟩,fun h_47=>⟨fun h_56=>⟨rfl,rfl,rfl,rfl,rfl,rfl,rfl,rfl,rfl,rfl,rfl,rfl,rfl,rfl,rfl,?_⟩,fun h_56=>⟨rfl,rfl,rfl,rfl,rfl,rfl,rfl,rfl,rfl,rfl,rfl,rfl,rfl,rfl,rfl,?_⟩⟩⟩⟩,fun h_7=>?_⟩,fun h_4=>?_⟩
 all_goals (unfold less Ig; simp_all [Bool.cond_eq_ite] <;> rfl)
def g17:List Value→Option Value
 | [.agg c0,.agg c1]=>match c0.toList,c1.toList with
   | [.bool hn,.int .i64 ht,.int .i64 ho,.int .i64 hr,.int .i64 hd,.int .i64 hi],[.bool kn,.int .i64 kt,.int .i64 ko,.int .i64 kr,.int .i64 kd,.int .i64 ki]=>some (.bool (less hn ht ho hr hd hi kn kt ko kr kd ki))
   | _,_=>none
 | _=>none
theorem Mj:bL Tryz.prog 44 g17:=di (ext:=E3) Oz follows Tryz.func44 (by kernel_rfl) fun args v h=>by
 unfold g17 at h;split at h
 ·rename_i c0 c1
  split at h
  ·rename_i ec0 ec1
   cases h;obtain rfl:=cN ec0;obtain rfl:=cN ec1;refine ⟨rfl,rfl,?_⟩
   obtain ⟨hp,q⟩:=Bo _ _ _ _ _ _ _ _ _ _ _ _;exact ⟨_,hp,q⟩
  ·cases h
 ·cases h
noncomputable def E4:Ext:=cS Tryz.prog [(157,S0),(44,g17)]
theorem IZ:ExtOk Tryz.prog E4:=by unfold E4; exact aT (.cons Pz (.cons Mj .nil))
def om(aNull:Bool)(aTau:Int)(aOid:Int)(aR:Int)(aDelta:Int)(aId:Int)(bNull:Bool)(bTau:Int)(bOid:Int)(bR:Int)(bDelta:Int)(bId:Int):Value:=(bif (told (bNull) (bTau) (bOid) (bR) (bDelta) (bId)) then (bif (told (aNull) (aTau) (aOid) (aR) (aDelta) (aId)) then (bif (less (bNull) (bTau) (bOid) (bR) (bDelta) (bId) (aNull) (aTau) (aOid) (aR) (aDelta) (aId)) then (.int .i64 1) else (bif (less (aNull) (aTau) (aOid) (aR) (aDelta) (aId) (bNull) (bTau) (bOid) (bR) (bDelta) (bId)) then (.int .i64 2) else (.int .i64 0))) else (.int .i64 1)) else (.int .i64 0))
theorem FC(aNull:Bool)(aTau:Int)(aOid:Int)(aR:Int)(aDelta:Int)(aId:Int)(bNull:Bool)(bTau:Int)(bOid:Int)(bR:Int)(bDelta:Int)(bId:Int):∃ hp,aCall Tryz.prog E4 61 124 [.agg #[.bool aNull,.int .i64 aTau,.int .i64 aOid,.int .i64 aR,.int .i64 aDelta,.int .i64 aId],.agg #[.bool bNull,.int .i64 bTau,.int .i64 bOid,.int .i64 bR,.int .i64 bDelta,.int .i64 bId]] aE=some (om aNull aTau aOid aR aDelta aId bNull bTau bOid bR bDelta bId,hp):=by
 cases h0:(told (bNull) (bTau) (bOid) (bR) (bDelta) (bId)) with
 | true =>
   cases h1:(told (aNull) (aTau) (aOid) (aR) (aDelta) (aId)) with
   | true =>
     cases h2:(less (bNull) (bTau) (bOid) (bR) (bDelta) (bId) (aNull) (aTau) (aOid) (aR) (aDelta) (aId)) with
     | true =>
       have e:om aNull aTau aOid aR aDelta aId bNull bTau bOid bR bDelta bId=(.int .i64 1):=by simp only [om,h0,h1,h2,cond_true,cond_false]
       rw [e];exact aP [(7,.bool true),(11,.bool true),(16,.bool true)] (q:=[(some (.bool (told (bNull) (bTau) (bOid) (bR) (bDelta) (bId))),.bool true),(some (.bool (told (aNull) (aTau) (aOid) (aR) (aDelta) (aId))),.bool true),(some (.bool (less (bNull) (bTau) (bOid) (bR) (bDelta) (bId) (aNull) (aTau) (aOid) (aR) (aDelta) (aId))),.bool true)]) (by kernel_rfl) (Met.cons (ag h0) (Met.cons (ag h1) (Met.cons (ag h2) (Met.nil))))
     | false =>
       cases h3:(less (aNull) (aTau) (aOid) (aR) (aDelta) (aId) (bNull) (bTau) (bOid) (bR) (bDelta) (bId)) with
       | true =>
         have e:om aNull aTau aOid aR aDelta aId bNull bTau bOid bR bDelta bId=(.int .i64 2):=by simp only [om,h0,h1,h2,h3,cond_true,cond_false]
         rw [e];exact aP [(7,.bool true),(11,.bool true),(16,.bool false),(21,.bool true)] (q:=[(some (.bool (told (bNull) (bTau) (bOid) (bR) (bDelta) (bId))),.bool true),(some (.bool (told (aNull) (aTau) (aOid) (aR) (aDelta) (aId))),.bool true),(some (.bool (less (bNull) (bTau) (bOid) (bR) (bDelta) (bId) (aNull) (aTau) (aOid) (aR) (aDelta) (aId))),.bool false),(some (.bool (less (aNull) (aTau) (aOid) (aR) (aDelta) (aId) (bNull) (bTau) (bOid) (bR) (bDelta) (bId))),.bool true)]) (by kernel_rfl) (Met.cons (ag h0) (Met.cons (ag h1) (Met.cons (ag h2) (Met.cons (ag h3) (Met.nil)))))
       | false =>
         have e:om aNull aTau aOid aR aDelta aId bNull bTau bOid bR bDelta bId=(.int .i64 0):=by simp only [om,h0,h1,h2,h3,cond_true,cond_false]
         rw [e];exact aP [(7,.bool true),(11,.bool true),(16,.bool false),(21,.bool false)] (q:=[(some (.bool (told (bNull) (bTau) (bOid) (bR) (bDelta) (bId))),.bool true),(some (.bool (told (aNull) (aTau) (aOid) (aR) (aDelta) (aId))),.bool true),(some (.bool (less (bNull) (bTau) (bOid) (bR) (bDelta) (bId) (aNull) (aTau) (aOid) (aR) (aDelta) (aId))),.bool false),(some (.bool (less (aNull) (aTau) (aOid) (aR) (aDelta) (aId) (bNull) (bTau) (bOid) (bR) (bDelta) (bId))),.bool false)]) (by kernel_rfl) (Met.cons (ag h0) (Met.cons (ag h1) (Met.cons (ag h2) (Met.cons (ag h3) (Met.nil)))))
   | false =>
     have e:om aNull aTau aOid aR aDelta aId bNull bTau bOid bR bDelta bId=(.int .i64 1):=by simp only [om,h0,h1,cond_true,cond_false]
     rw [e];exact aP [(7,.bool true),(11,.bool false)] (q:=[(some (.bool (told (bNull) (bTau) (bOid) (bR) (bDelta) (bId))),.bool true),(some (.bool (told (aNull) (aTau) (aOid) (aR) (aDelta) (aId))),.bool false)]) (by kernel_rfl) (Met.cons (ag h0) (Met.cons (ag h1) (Met.nil)))
 | false =>
   have e:om aNull aTau aOid aR aDelta aId bNull bTau bOid bR bDelta bId=(.int .i64 0):=by simp only [om,h0,cond_true,cond_false]
   rw [e];exact aP [(7,.bool false)] (q:=[(some (.bool (told (bNull) (bTau) (bOid) (bR) (bDelta) (bId))),.bool false)]) (by kernel_rfl) (Met.cons (ag h0) (Met.nil))
def dir(n:Bool)(t o r d i:Int)(n':Bool)(t' o' r' d' i':Int):Int :=
 bif known n' t' o' r' d' i' then (bif known n t o r d i then (bif less n' t' o' r' d' i' n t o r d i then 1 else (bif less n t o r d i n' t' o' r' d' i' then 2 else 0)) else 1) else 0
theorem ID(n:Bool)(t o r d i:Int)(n':Bool)(t' o' r' d' i':Int):om n t o r d i n' t' o' r' d' i' = .int .i64 (dir n t o r d i n' t' o' r' d' i'):=by
 unfold om dir told;cases known n' t' o' r' d' i' <;> cases known n t o r d i <;> cases less n' t' o' r' d' i' n t o r d i <;> cases less n t o r d i n' t' o' r' d' i' <;> rfl
def g14:List Value→Option Value
 | [.agg c0,.agg c1]=>match c0.toList,c1.toList with
   | [.bool hn,.int .i64 ht,.int .i64 ho,.int .i64 hr,.int .i64 hd,.int .i64 hi],[.bool kn,.int .i64 kt,.int .i64 ko,.int .i64 kr,.int .i64 kd,.int .i64 ki]=>some (.int .i64 (dir hn ht ho hr hd hi kn kt ko kr kd ki))
   | _,_=>none
 | _=>none
theorem TO:bL Tryz.prog 124 g14:=di (ext:=E4) IZ follows Tryz.func124 (by kernel_rfl) fun args v h=>by
 unfold g14 at h;split at h
 ·rename_i c0 c1
  split at h
  ·rename_i ec0 ec1
   cases h;obtain rfl:=cN ec0;obtain rfl:=cN ec1;refine ⟨rfl,rfl,?_⟩
   obtain ⟨hp,q⟩:=FC _ _ _ _ _ _ _ _ _ _ _ _;rw [ID] at q;exact ⟨_,hp,q⟩
  ·cases h
 ·cases h
end Go.Proofs.YtgeoommlmddgpaaGreat.LtA
namespace Go.Proofs.YtgeoommlmddgpaaGreat.LtA
open Go Go.Proofs Go.Proofs.YtgeoommlmddgpaaGreat.AI Go.RowKit
def im(id:Int)(hNull:Bool)(hTau:Int)(hOid:Int)(hR:Int)(hDelta:Int)(hId:Int):Value:=(bif hNull then (bif (decide (id≥0)) then (bif (decide (id<64)) then (bif (hId==id) then (bif ((cm (true) (hTau) (hOid) (hR) (hDelta) (hId))==0) then (.bool true) else (.bool false)) else (.bool false)) else (.bool false)) else (.bool false)) else (bif (decide (id≥0)) then (bif (decide (id<64)) then (bif (hId==id) then (bif ((cm (false) (hTau) (hOid) (hR) (hDelta) (hId))==0) then (.bool true) else (.bool false)) else (.bool false)) else (.bool false)) else (.bool false)))
theorem FE(id:Int)(hNull:Bool)(hTau:Int)(hOid:Int)(hR:Int)(hDelta:Int)(hId:Int):∃ hp,aCall Tryz.prog E1 61 123 [.int .i64 id,.agg #[.bool hNull,.int .i64 hTau,.int .i64 hOid,.int .i64 hR,.int .i64 hDelta,.int .i64 hId]] aE=some (im id hNull hTau hOid hR hDelta hId,hp):=by
 cases hNull with
 | true =>
   cases h0:(decide (id≥0)) with
   | true =>
     cases h1:(decide (id<64)) with
     | true =>
       cases h2:(hId==id) with
       | true =>
         cases h3:((cm (true) (hTau) (hOid) (hR) (hDelta) (hId))==0) with
         | true =>
           have e:im id true hTau hOid hR hDelta hId=(.bool true):=by simp only [im,h0,h1,h2,h3,cond_true,cond_false]
           rw [e];exact aP [(6,.bool true),(9,.bool true),(15,.bool true),(20,.bool true)] (q:=[(some (.bool (decide (id≥0))),.bool true),(some (.bool (decide (id<64))),.bool true),(some (.bool (hId==id)),.bool true),(some (.bool ((cm (true) (hTau) (hOid) (hR) (hDelta) (hId))==0)),.bool true)]) (by kernel_rfl) (Met.cons (ag h0) (Met.cons (ag h1) (Met.cons (ag h2) (Met.cons (ag h3) (Met.nil)))))
         | false =>
           have e:im id true hTau hOid hR hDelta hId=(.bool false):=by simp only [im,h0,h1,h2,h3,cond_true,cond_false]
           rw [e];exact aP [(6,.bool true),(9,.bool true),(15,.bool true),(20,.bool false)] (q:=[(some (.bool (decide (id≥0))),.bool true),(some (.bool (decide (id<64))),.bool true),(some (.bool (hId==id)),.bool true),(some (.bool ((cm (true) (hTau) (hOid) (hR) (hDelta) (hId))==0)),.bool false)]) (by kernel_rfl) (Met.cons (ag h0) (Met.cons (ag h1) (Met.cons (ag h2) (Met.cons (ag h3) (Met.nil)))))
       | false =>
         have e:im id true hTau hOid hR hDelta hId=(.bool false):=by simp only [im,h0,h1,h2,cond_true,cond_false]
         rw [e];exact aP [(6,.bool true),(9,.bool true),(15,.bool false)] (q:=[(some (.bool (decide (id≥0))),.bool true),(some (.bool (decide (id<64))),.bool true),(some (.bool (hId==id)),.bool false)]) (by kernel_rfl) (Met.cons (ag h0) (Met.cons (ag h1) (Met.cons (ag h2) (Met.nil))))
     | false =>
       have e:im id true hTau hOid hR hDelta hId=(.bool false):=by simp only [im,h0,h1,cond_true,cond_false]
       rw [e];exact aP [(6,.bool true),(9,.bool false)] (q:=[(some (.bool (decide (id≥0))),.bool true),(some (.bool (decide (id<64))),.bool false)]) (by kernel_rfl) (Met.cons (ag h0) (Met.cons (ag h1) (Met.nil)))
   | false =>
     have e:im id true hTau hOid hR hDelta hId=(.bool false):=by simp only [im,h0,cond_true,cond_false]
     rw [e];exact aP [(6,.bool false)] (q:=[(some (.bool (decide (id≥0))),.bool false)]) (by kernel_rfl) (Met.cons (ag h0) (Met.nil))
 | false =>
   cases h0:(decide (id≥0)) with
   | true =>
     cases h1:(decide (id<64)) with
     | true =>
       cases h2:(hId==id) with
       | true =>
         cases h3:((cm (false) (hTau) (hOid) (hR) (hDelta) (hId))==0) with
         | true =>
           have e:im id false hTau hOid hR hDelta hId=(.bool true):=by simp only [im,h0,h1,h2,h3,cond_true,cond_false]
           rw [e];exact aP [(6,.bool true),(9,.bool true),(15,.bool true),(20,.bool true)] (q:=[(some (.bool (decide (id≥0))),.bool true),(some (.bool (decide (id<64))),.bool true),(some (.bool (hId==id)),.bool true),(some (.bool ((cm (false) (hTau) (hOid) (hR) (hDelta) (hId))==0)),.bool true)]) (by kernel_rfl) (Met.cons (ag h0) (Met.cons (ag h1) (Met.cons (ag h2) (Met.cons (ag h3) (Met.nil)))))
         | false =>
           have e:im id false hTau hOid hR hDelta hId=(.bool false):=by simp only [im,h0,h1,h2,h3,cond_true,cond_false]
           rw [e];exact aP [(6,.bool true),(9,.bool true),(15,.bool true),(20,.bool false)] (q:=[(some (.bool (decide (id≥0))),.bool true),(some (.bool (decide (id<64))),.bool true),(some (.bool (hId==id)),.bool true),(some (.bool ((cm (false) (hTau) (hOid) (hR) (hDelta) (hId))==0)),.bool false)]) (by kernel_rfl) (Met.cons (ag h0) (Met.cons (ag h1) (Met.cons (ag h2) (Met.cons (ag h3) (Met.nil)))))
       | false =>
         have e:im id false hTau hOid hR hDelta hId=(.bool false):=by simp only [im,h0,h1,h2,cond_true,cond_false]
         rw [e];exact aP [(6,.bool true),(9,.bool true),(15,.bool false)] (q:=[(some (.bool (decide (id≥0))),.bool true),(some (.bool (decide (id<64))),.bool true),(some (.bool (hId==id)),.bool false)]) (by kernel_rfl) (Met.cons (ag h0) (Met.cons (ag h1) (Met.cons (ag h2) (Met.nil))))
     | false =>
       have e:im id false hTau hOid hR hDelta hId=(.bool false):=by simp only [im,h0,h1,cond_true,cond_false]
       rw [e];exact aP [(6,.bool true),(9,.bool false)] (q:=[(some (.bool (decide (id≥0))),.bool true),(some (.bool (decide (id<64))),.bool false)]) (by kernel_rfl) (Met.cons (ag h0) (Met.cons (ag h1) (Met.nil)))
   | false =>
     have e:im id false hTau hOid hR hDelta hId=(.bool false):=by simp only [im,h0,cond_true,cond_false]
     rw [e];exact aP [(6,.bool false)] (q:=[(some (.bool (decide (id≥0))),.bool false)]) (by kernel_rfl) (Met.cons (ag h0) (Met.nil))
def kH(hNull:Bool)(hTau:Int)(hOid:Int)(hR:Int)(hDelta:Int)(hId:Int):Value:=(bif hNull then (.bool false) else (bif ((cm (false) (hTau) (hOid) (hR) (hDelta) (hId))==0) then (.bool true) else (.bool false)))
theorem yK(hNull:Bool)(hTau:Int)(hOid:Int)(hR:Int)(hDelta:Int)(hId:Int):∃ hp,aCall Tryz.prog E1 61 203 [.agg #[.bool hNull,.int .i64 hTau,.int .i64 hOid,.int .i64 hR,.int .i64 hDelta,.int .i64 hId]] aE=some (kH hNull hTau hOid hR hDelta hId,hp):=by
 cases hNull with
 | true =>
   have e:kH true hTau hOid hR hDelta hId=(.bool false):=by simp only [kH,cond_true,cond_false]
   rw [e];exact aP [] (q:=[]) (by kernel_rfl) (Met.nil)
 | false =>
   cases h0:((cm (false) (hTau) (hOid) (hR) (hDelta) (hId))==0) with
   | true =>
     have e:kH false hTau hOid hR hDelta hId=(.bool true):=by simp only [kH,h0,cond_true,cond_false]
     rw [e];exact aP [(9,.bool true)] (q:=[(some (.bool ((cm (false) (hTau) (hOid) (hR) (hDelta) (hId))==0)),.bool true)]) (by kernel_rfl) (Met.cons (ag h0) (Met.nil))
   | false =>
     have e:kH false hTau hOid hR hDelta hId=(.bool false):=by simp only [kH,h0,cond_true,cond_false]
     rw [e];exact aP [(9,.bool false)] (q:=[(some (.bool ((cm (false) (hTau) (hOid) (hR) (hDelta) (hId))==0)),.bool false)]) (by kernel_rfl) (Met.cons (ag h0) (Met.nil))
def qZ(id:Int):Value:=(.agg #[.bool true,.int .i64 0,.int .i64 0,.int .i64 0,.int .i64 0,.int .i64 id])
theorem Bq(id:Int):∃ hp,aCall Tryz.prog E1 61 29 [.int .i64 id] aE=some (qZ id,hp):=by
 have e:qZ id=(.agg #[.bool true,.int .i64 0,.int .i64 0,.int .i64 0,.int .i64 0,.int .i64 id]):=by simp only [qZ,cond_true,cond_false]
 rw [e];exact aP [] (q:=[]) (by kernel_rfl) (Met.nil)
def rV(id:Int)(n:Bool)(t o r d i:Int):Bool:=decide (id≥0)&&(decide (id<64)&&((i==id)&&(cm n t o r d i==0)))
theorem Pd(a b c d:Bool):(bif a then (bif b then (bif c then (bif d then Value.bool true else .bool false) else .bool false) else .bool false) else .bool false) = .bool (a&&(b&&(c&&d))):=by
 cases a <;> cases b <;> cases c <;> cases d <;> rfl
theorem IH(id:Int)(n:Bool)(t o r d i:Int):im id n t o r d i = .bool (rV id n t o r d i):=by
 unfold im rV;cases n
 ·exact Pd _ _ _ _
 ·exact Pd _ _ _ _
theorem Bs(n:Bool)(t o r d i:Int):kH n t o r d i = .bool (told n t o r d i):=w6 n t o r d i
def g55:List Value→Option Value
 | [.int .i64 id,.agg c0]=>match c0.toList with
   | [.bool hn,.int .i64 ht,.int .i64 ho,.int .i64 hr,.int .i64 hd,.int .i64 hi]=>some (.bool (rV id hn ht ho hr hd hi))
   | _=>none
 | _=>none
theorem DK:bL Tryz.prog 123 g55:=di (ext:=E1) rY follows Tryz.func123 (by kernel_rfl) fun args v h=>by
 unfold g55 at h;split at h
 ·rename_i id c0
  split at h
  ·rename_i ec0
   cases h;obtain rfl:=cN ec0;refine ⟨rfl,rfl,?_⟩
   obtain ⟨hp,q⟩:=FE _ _ _ _ _ _ _;rw [IH] at q;exact ⟨_,hp,q⟩
  ·cases h
 ·cases h
def g57:List Value→Option Value
 | [.agg c0]=>match c0.toList with
   | [.bool hn,.int .i64 ht,.int .i64 ho,.int .i64 hr,.int .i64 hd,.int .i64 hi]=>some (.bool (told hn ht ho hr hd hi))
   | _=>none
 | _=>none
theorem PC:bL Tryz.prog 203 g57:=di (ext:=E1) rY follows Tryz.func203 (by kernel_rfl) fun args v h=>by
 unfold g57 at h;split at h
 ·rename_i c0
  split at h
  ·rename_i ec0
   cases h;obtain rfl:=cN ec0;refine ⟨rfl,rfl,?_⟩
   obtain ⟨hp,q⟩:=yK _ _ _ _ _ _;rw [Bs] at q;exact ⟨_,hp,q⟩
  ·cases h
 ·cases h
def g32:List Value→Option Value
 | [.int .i64 id]=>some (qZ id)
 | _=>none
theorem TX:bL Tryz.prog 29 g32:=di (ext:=E1) rY follows Tryz.func29 (by kernel_rfl) fun args v h=>by
 unfold g32 at h;split at h
 ·cases h
  obtain ⟨hp,q⟩:=Bq _;exact ⟨rfl,rfl,_,hp,q⟩
 ·cases h
noncomputable def E5:Ext:=cS Tryz.prog [(123,g55),(203,g57),(29,g32),(106,HA),(105,g30),(44,g17),(57,g15)]
theorem BG:ExtOk Tryz.prog E5:=by unfold E5; exact aT (.cons DK (.cons PC (.cons TX (.cons xY (.cons Mk (.cons Mj (.cons vN .nil)))))))
noncomputable def cE:aG:=aCall Tryz.prog E5 5
theorem cp:ba Tryz.prog cE:=aQ BG follows 5
structure aa where
 (id:Int) (n:Bool) (t o r d i:Int)
def vc(v:aa):List Value:=[.int .i64 v.id,.bool v.n,.int .i64 v.t,.int .i64 v.o,.int .i64 v.r,.int .i64 v.d,.int .i64 v.i]
def aK(vs:List aa):List Value:=vs.flatMap vc
def cU(v:aa):Bool:=rV v.id v.n v.t v.o v.r v.d v.i
theorem dG(vs:List aa):(aK vs).all inert=true:=by
 unfold aK;rw [List.all_flatMap];exact List.all_eq_true.2 fun p _=>rfl
def sL:Code→Code
 | .seq a _=>a
 | c=>c
def sR:Code→Code
 | .seq _ b=>b
 | c=>c
def jh:Code→Code
 | .block _ b=>b
 | c=>c
def mr:Code→Code
 | .loop b=>b
 | c=>c
def ae(b n c:Nat):Value:=.slice (some ⟨b,0,none⟩) n c
theorem ct{x y:List db}(h1:Met x)(h2:Met y):Met (x++y):=fun o ho=>by
 rcases List.mem_append.1 ho with h | h
 ·exact h1 o h
 ·exact h2 o h
theorem kD:bZ Tryz.prog 78=some 7:=by kernel_rfl
theorem O7:tagg Tryz.prog 78=some true:=by kernel_rfl
theorem Sm:bZ Tryz.prog 3=some 1:=by kernel_rfl
theorem TA:tagg Tryz.prog 3=some false:=by kernel_rfl
theorem bH{b n i c:Nat}(h:i<n):fstV ((aIndexAddr Tryz.prog 24 (ae b n c) (iN i)).map fun v=>(v,none))=some (.pointer (some ⟨b,i*7,none⟩)):=by
 have h1:(0:Int)≤Int.ofNat i∧Int.ofNat i<(n:Int):=⟨Int.natCast_nonneg i,by simpa using h⟩
 simp only [aIndexAddr,ae,iN,Tryz.underlying24,kD];rw [if_pos h1];simp [fstV]
def ez(hp:Hp)(b:Nat)(vs:List aa):Prop:=∃ ty ro rest,hp.get b=some (.cells ty (aK vs++rest) ro)
theorem ez.of{hp:Hp}{b:Nat}{vs:List aa}{ty:TypeId}{ro:Bool}(h:hp.get b=some (.cells ty (aK vs) ro)):ez hp b vs:=⟨ty,ro,[],by rw [List.append_nil]; exact h⟩
def Holds(vs:List aa)(o:af):Prop:=vs = []∨∃ ty ro rest,o = .cells ty (aK vs++rest) ro
theorem Holds.of{vs:List aa}{o:af}(h:vs = []∨∃ ty ro,o = .cells ty (aK vs) ro):Holds vs o:=by
 rcases h with h | ⟨ty,ro,h⟩
 ·exact .inl h
 ·exact .inr ⟨ty,ro,[],by rw [List.append_nil]; exact h⟩
theorem vG{cs rest:List Value}{off n:Nat}{r:List Value}(h:eA cs off n=some r):eA (cs++rest) off n=some r:=by
 unfold eA at h ⊢;by_cases hl:((cs.drop off).take n).length=n
 ·rw [if_pos hl] at h
  have hle:n≤(cs.drop off).length:=by rw [List.length_take] at hl; omega
  have e:((cs++rest).drop off).take n=(cs.drop off).take n:=by
    by_cases ho:off≤cs.length
    ·rw [List.drop_append_of_le_length ho,List.take_append_of_le_length hle]
    ·have:n=0:=by rw [List.length_drop] at hle; omega
     subst this; simp
  rw [e,if_pos hl]; exact h
 ·rw [if_neg hl] at h; cases h
theorem zo{cs rest:List Value}{i:Nat}{v:Value}(h:cs[i]? = some v):(cs++rest)[i]? = some v:=by
 rw [List.getElem?_append_left (List.getElem?_eq_some_iff.1 h).1,h]
theorem bM{hp:Hp}{b:Nat}{vs:List aa}{i:Nat}{p:aa}(ho:ez hp b vs)(h:vs[i]? = some p):aLoad Tryz.prog hp.get 78 (.pointer (some ⟨b,i*7,none⟩))=some (.agg ⟨vc p⟩):=by
 obtain ⟨ty,ro,rest,hg⟩:=ho;simp only [aLoad,hg,O7,kD];have:=kM (f:=vc) (k:=7) (ps:=vs) (fun _ _=>rfl) h
 unfold aK;rw [vG this];rfl
theorem xg{hp:Hp}{b:Nat}{vs:List aa}{i:Nat}{p:aa}(ho:ez hp b vs)(h:vs[i]? = some p):aLoad Tryz.prog hp.get 3 (.pointer (some ⟨b,i*7,none⟩))=some (.int .i64 p.id):=by
 obtain ⟨ty,ro,rest,hg⟩:=ho;simp only [aLoad,hg,TA,Sm];have:=fj vc 7 vs (fun _ _=>rfl) i 0 p h (by omega)
 rw [Nat.add_zero] at this;unfold aK;rw [zo this]
theorem PV{x:Int}(h1 : -9223372036854775808≤x)(h2:x≤9223372036854775807):inR .i64 x=true:=Bool.and_eq_true_iff.2 ⟨decide_eq_true h1,decide_eq_true h2⟩
theorem wrap64{x:Int}(h1 : -9223372036854775808≤x)(h2:x≤9223372036854775807):wrapF .i64 x=x:=by
 unfold wrapF;rw [PV h1 h2]
theorem bz{i:Nat}(h:i<1000000):(some (Value.int .i64 (wrapF .i64 (Int.ofNat i+1))))=some (iN (i+1)):=by
 have e:Int.ofNat i+1=Int.ofNat (i+1):=rfl
 rw [e,wrap64 (by have:=Int.natCast_nonneg (i+1); simp only [Int.ofNat_eq_natCast]; omega) (by simp only [Int.ofNat_eq_natCast]; omega)]
 rfl
theorem gF{i:Nat}(h:i<1000000):(some (Value.int .i64 (wrapF .i64 (Int.ofNat (i+1)-1))))=some (iN i):=by
 have e:Int.ofNat (i+1)-1=Int.ofNat i:=by simp only [Int.ofNat_eq_natCast]; omega
 rw [e,wrap64 (by have:=Int.natCast_nonneg i; simp only [Int.ofNat_eq_natCast]; omega) (by simp only [Int.ofNat_eq_natCast]; omega)]
 rfl
noncomputable def Hk:Code:=(Tryz.f58.body).getD .skip
noncomputable def xH:Code:=sL Hk
noncomputable def xI:Code:=sL (sL (sR Hk))
noncomputable def qa:Code:=mr (jh (sR (sL (sR Hk))))
noncomputable def xJ:Code:=sR (sR Hk)
theorem Cd:Tryz.f58.body=some (.seq xH (.seq (.seq xI (.block 0 (.loop qa))) xJ)):=by kernel_rfl
section
variable (o:af) (n c:Nat)
abbrev N2(g:Nat→Value):St:=av 34 g [(0,ae 0 n c),(2,iN 0)] [o]
abbrev BV(i:Nat)(g:Nat→Value):St:=av 34 g [(0,ae 0 n c),(2,iN 0),(5,ae 0 n c),(6,iN n),(7,iN i)] [o]
abbrev Kt(v:Value)(g:Nat→Value):St:=av 34 g [(2,v)] [o]
abbrev Ta:St:=⟨tmsOf [ae 0 n c] 0 .leaf,heapOf [o,.dead] aE,[]⟩
theorem Rc:(execQ Tryz.prog cE [] 10 xH (Ta o n c)).map (fun r=>(look2 1 [0] [0,2] (r.1,r.2.1),r.2.2))=some ((.normal,[o],[(0,ae 0 n c),(2,iN 0)],true),[]):=by kernel_rfl
theorem Re(g:Nat→Value):(execQ Tryz.prog cE [] 10 xI (N2 o n c g)).map (fun r=>(look2 1 [0] [0,2,5,6,7] (r.1,r.2.1),r.2.2))=some ((.normal,[o],[(0,ae 0 n c),(2,iN 0),(5,ae 0 n c),(6,iN n),(7,iN 0)],true),[]):=by kernel_rfl
theorem Rf(g:Nat→Value):(execQ Tryz.prog cE [] 10 xJ (N2 o n c g)).map (fun r=>(look2 1 [0] [2] (r.1,r.2.1),r.2.2))=some ((.ret,[o],[(2,iN 0)],true),[]):=by kernel_rfl
theorem Rk(i:Nat)(g:Nat→Value):(execQ Tryz.prog cE [(8,.bool false)] 20 qa (BV o n c i g)).map (fun r=>(look2 1 [0] [0,2] (r.1,r.2.1),r.2.2)) =
 some ((.exit 0,[o],[(0,ae 0 n c),(2,iN 0)],true),[(some (.bool (decide (Int.ofNat i<Int.ofNat n))),.bool false)]):=by kernel_rfl
noncomputable def wB(i:Nat)(v:aa):List db :=
 [(some (.bool (decide (Int.ofNat i<Int.ofNat n))),.bool true),
  (fstV ((aIndexAddr Tryz.prog 24 (ae 0 n c) (iN i)).map fun v=>(v,none)),.pointer (some ⟨0,i*7,none⟩)),
  (aLoad Tryz.prog (heapOf ([o] ++ [.dead]) aE).get 78 (.pointer (some ⟨0,i*7,none⟩)),.agg ⟨vc v⟩)]
def E7(i:Nat)(v:aa):List (Tmp×Value):=[(8,.bool true),(10,.pointer (some ⟨0,i*7,none⟩)),(11,.agg ⟨vc v⟩)]
theorem Rg(i:Nat)(v:aa)(g:Nat→Value):(execQ Tryz.prog cE (E7 i v ++ [(16,.bool false)]) 20 qa (BV o n c i g)).map (fun r=>(look2 1 [0] [2] (r.1,r.2.1),r.2.2)) =
 some ((.ret,[o],[(2,iN 1)],true),wB o n c i v ++ [(some (.bool (cU v)),.bool false)]):=by kernel_rfl
theorem Rh(v:aa)(g:Nat→Value):(execQ Tryz.prog cE (E7 0 v ++ [(16,.bool true),(33,iN 1)]) 20 qa (BV o n c 0 g)).map (fun r=>(look2 1 [0] [0,2,5,6,7] (r.1,r.2.1),r.2.2)) =
 some ((.normal,[o],[(0,ae 0 n c),(2,iN 0),(5,ae 0 n c),(6,iN n),(7,iN 1)],true),wB o n c 0 v ++ [(some (.bool (cU v)),.bool true),(some (.int .i64 (wrapF .i64 (Int.ofNat 0+1))),iN 1)]):=by kernel_rfl
noncomputable def zW(j:Nat)(u v:aa):List db :=
 wB o n c (j+1) v ++ [(some (.bool (cU v)),.bool true),(some (.bool (decide (Int.ofNat (j+1)>0))),.bool true),(some (.int .i64 (wrapF .i64 (Int.ofNat (j+1)-1))),iN j),
  (fstV ((aIndexAddr Tryz.prog 24 (ae 0 n c) (iN j)).map fun v=>(v,none)),.pointer (some ⟨0,j*7,none⟩)),
  (aLoad Tryz.prog (heapOf [o,.dead,.cells 78 (vc v) false] aE).get 3 (.pointer (some ⟨0,j*7,none⟩)),.int .i64 u.id)]
def JH(j:Nat)(u v:aa):List (Tmp×Value):=E7 (j+1) v ++ [(16,.bool true),(20,.bool true),(24,iN j),(25,.pointer (some ⟨0,j*7,none⟩)),(27,.int .i64 u.id)]
theorem Ri(j:Nat)(u v:aa)(g:Nat→Value):(execQ Tryz.prog cE (JH j u v ++ [(30,.bool true)]) 20 qa (BV o n c (j+1) g)).map (fun r=>(look2 1 [0] [2] (r.1,r.2.1),r.2.2)) =
 some ((.ret,[o],[(2,iN 1)],true),zW o n c j u v ++ [(some (.bool (decide (u.id≥v.id))),.bool true)]):=by kernel_rfl
theorem Rj(j:Nat)(u v:aa)(g:Nat→Value):(execQ Tryz.prog cE (JH j u v ++ [(30,.bool false),(33,iN (j+1+1))]) 20 qa (BV o n c (j+1) g)).map (fun r=>(look2 1 [0] [0,2,5,6,7] (r.1,r.2.1),r.2.2)) =
 some ((.normal,[o],[(0,ae 0 n c),(2,iN 0),(5,ae 0 n c),(6,iN n),(7,iN (j+1+1))],true),
  zW o n c j u v ++ [(some (.bool (decide (u.id≥v.id))),.bool false),(some (.int .i64 (wrapF .i64 (Int.ofNat (j+1)+1))),iN (j+1+1))]):=by kernel_rfl
theorem S6(v:Value)(g:Nat→Value):retVal Tryz.prog Tryz.f58 (Kt o v g)=some v:=by kernel_rfl
end
theorem NC:codeSafe Tryz.prog 34 xH=true:=by kernel_rfl
theorem ND:codeSafe Tryz.prog 34 xI=true:=by kernel_rfl
theorem qR:codeSafe Tryz.prog 34 qa=true:=by kernel_rfl
theorem NF:codeSafe Tryz.prog 34 xJ=true:=by kernel_rfl
def rightAt(vs:List aa)(i:Nat):Bool:=match vs[i]? with
 | none=>true
 | some v=>cU v&&(match i with
   | 0=>true
   | j+1=>match vs[j]? with
     | some u=>decide (u.id<v.id)
     | none=>true)
def aF(vs:List aa):Bool:=(List.range vs.length).all (rightAt vs)
theorem n9{vs:List aa}(h:∀ j,j<vs.length→rightAt vs j=true):aF vs=true:=List.all_eq_true.2 fun j hj=>h j (List.mem_range.1 hj)
theorem qN{vs:List aa}{j:Nat}(hj:j<vs.length)(h:rightAt vs j=false):aF vs=false:=by
 cases e:aF vs with
 | false=>rfl
 | true =>
   have:=List.all_eq_true.1 e j (List.mem_range.2 hj)
   rw [h] at this; cases this
def l4(b:Bool):Value:=match b with
 | true=>iN 0
 | false=>iN 1
theorem Po{o:af}(ho:aA o=true):∀ r:List af,∀ i,i<1→∀ o',(o::r)[i]? = some o'→dw 1 o':=by
 intro r i hi o' h;have:i=0:=by omega
 subst this;simp at h;subst h;exact bb ho 1
theorem kB{o:af}{vs:List aa}{r:List af}(h:∃ ty ro,o = .cells ty (aK vs) ro):ez (heapOf (o::r) aE) 0 vs:=by
 obtain ⟨ty,ro,rfl⟩:=h;exact .of (ty:=ty) (ro:=ro) (by rw [ak]; rfl)
theorem CZ(o:af)(ho:aA o=true)(vs:List aa)(hn:vs.length<1000000)(hrow:vs = []∨∃ ty ro,o = .cells ty (aK vs) ro)(c:Nat)(W:bh) :
  ah Tryz.prog 34 W (.seq xH (.seq (.seq xI (.block 0 (.loop qa))) xJ)) (Ta o vs.length c) (fun e st=>(e = .normal∨e = .ret)∧st.df = []∧retVal Tryz.prog Tryz.f58 st=some (l4 (aF vs))):=by
 have hO:=Po ho
 refine ah.seq (Q1:=fun x st=>x = .normal∧∃ g,st=N2 o vs.length c g) (ah.piece cp follows 1 _ _ _ _ (Rc o vs.length c) Met.nil NC rfl rfl rfl (hO _) fun g=>⟨rfl,g,rfl⟩) ?_ (fun x st hne hq=>absurd hq.1 hne)
 rintro st ⟨-,g,rfl⟩;let Q2:Exit→St→Prop:=fun x st=>(x = .normal∧∃ g,st=N2 o vs.length c g∧aF vs=true)∨(x = .ret∧∃ g,st=Kt o (iN 1) g∧aF vs=false)
 refine ah.seq (Q1:=Q2) ?_ ?_ ?_
 ·refine ah.seq (Q1:=fun x st=>x = .normal∧∃ g,st=BV o vs.length c 0 g) (ah.piece cp follows 1 _ _ _ _ (Re o vs.length c g) Met.nil ND rfl rfl rfl (hO _) fun g=>⟨rfl,g,rfl⟩) ?_ (fun x st hne hq=>absurd hq.1 hne)
  rintro st ⟨-,g,rfl⟩;refine ah.block ?_
  refine ah.loop (fun k st=>∃ i g,i≤vs.length∧k=vs.length-i∧(∀ j,j<i→rightAt vs j=true)∧st=BV o vs.length c i g) ?_ (k:=vs.length) ⟨0,g,Nat.zero_le _,rfl,fun j hj=>absurd hj (Nat.not_lt_zero _),rfl⟩
  rintro k st ⟨i,g,hi,hk,hgood,rfl⟩;cases h8:decide (Int.ofNat i<Int.ofNat vs.length) with
  | false =>
    refine ah.piece cp follows 1 _ _ _ _ (Rk o vs.length c i g) (Met.cons (ag h8) Met.nil) qR rfl rfl rfl (hO _) fun g'=>.inr ⟨by simp,?_⟩
    show (if (0:Nat)=0 then Q2 .normal _ else Q2 (.exit 0) _)
    rw [if_pos rfl];have hii:i=vs.length:=by simp at h8; omega
    exact .inl ⟨rfl,g',rfl,n9 fun j hj=>hgood j (by omega)⟩
  | true =>
    have hlt:i<vs.length:=by simpa using h8
    obtain ⟨v,hv⟩:∃ v,vs[i]? = some v:=⟨_,List.getElem?_eq_getElem hlt⟩
    have hvm:v∈vs:=List.mem_of_getElem? hv
    have hr:∃ ty ro,o = .cells ty (aK vs) ro:=by
      rcases hrow with h | h
      ·subst h; cases hvm
      ·exact h
    have hmet:Met (wB o vs.length c i v):=Met.cons (ag h8) (Met.cons (bH hlt) (Met.cons (bM (kB hr) hv) Met.nil))
    have hret:∀ g',rightAt vs i=false→(Exit.ret=Exit.normal∧∃ k',k'<k∧∃ i g,i≤vs.length∧k'=vs.length-i∧(∀ j,j<i→rightAt vs j=true)∧Kt o (iN 1) g'=BV o vs.length c i g)∨(Exit.ret≠Exit.normal∧Q2 .ret (Kt o (iN 1) g')):=fun g' h=>.inr ⟨by simp,.inr ⟨rfl,g',rfl,qN hlt h⟩⟩
    have hnext:rightAt vs i=true→∀ j,j<i+1→rightAt vs j=true:=fun h j hj=>by
      rcases Nat.lt_succ_iff_lt_or_eq.1 hj with h' | h'
      ·exact hgood j h'
      ·subst h'; exact h
    cases h16:cU v with
    | false=>exact ah.piece cp follows 1 _ _ _ _ (Rg o vs.length c i v g) (ct hmet (Met.cons (ag h16) Met.nil)) qR rfl rfl rfl (hO _) fun g'=>hret g' (by simp only [rightAt,hv,h16,Bool.false_and])
    | true =>
      match i,hi,hk,hgood,h8,hlt,hv,hmet,hret,hnext with
      | 0,hi,hk,hgood,h8,hlt,hv,hmet,hret,hnext =>
        refine ah.piece cp follows 1 _ _ _ _ (Rh o vs.length c v g) (ct hmet (Met.cons (ag h16) (Met.cons (bz (by omega)) Met.nil))) qR rfl rfl rfl (hO _) fun g'=>.inl ⟨rfl,vs.length-1,by omega,1,g',by omega,rfl,hnext (by simp only [rightAt,hv,h16,Bool.true_and]),rfl⟩
      | j+1,hi,hk,hgood,h8,hlt,hv,hmet,hret,hnext =>
        obtain ⟨u,hu⟩:∃ u,vs[j]? = some u:=⟨_,List.getElem?_eq_getElem (by omega)⟩
        have hpre:Met (zW o vs.length c j u v):=ct hmet (Met.cons (ag h16) (Met.cons (ag (decide_eq_true (by simp only [Int.ofNat_eq_natCast]; omega))) (Met.cons (gF (by omega)) (Met.cons (bH (by omega)) (Met.cons (xg (kB hr) hu) Met.nil)))))
        cases h30:decide (u.id≥v.id) with
        | true=>exact ah.piece cp follows 1 _ _ _ _ (Ri o vs.length c j u v g) (ct hpre (Met.cons (ag h30) Met.nil)) qR rfl rfl rfl (hO _) fun g'=>hret g' (by simp only [rightAt,hv,hu,h16,Bool.true_and]; have:=of_decide_eq_true h30; exact decide_eq_false (by omega))
        | false =>
          refine ah.piece cp follows 1 _ _ _ _ (Rj o vs.length c j u v g) (ct hpre (Met.cons (ag h30) (Met.cons (bz (by omega)) Met.nil))) qR rfl rfl rfl (hO _) fun g'=>.inl ⟨rfl,vs.length-(j+1+1),by omega,j+1+1,g',by omega,rfl,hnext (by simp only [rightAt,hv,hu,h16,Bool.true_and]; have:=of_decide_eq_false h30; exact decide_eq_true (by omega)),rfl⟩
 ·rintro st (⟨-,g,rfl,hf⟩ | ⟨h,-⟩)
  ·refine ah.piece cp follows 1 _ _ _ _ (Rf o vs.length c g) Met.nil NF rfl rfl rfl (hO _) fun g'=>⟨.inr rfl,rfl,?_⟩
   rw [hf];exact S6 o _ g'
  ·cases h
 ·rintro x st hne (⟨h,-⟩ | ⟨rfl,g,rfl,hf⟩)
  ·exact absurd h hne
  ·refine ⟨.inr rfl,rfl,?_⟩
   rw [hf];exact S6 o _ g
def p7(r acc:Option Bool):Option Bool:=match r with
 | some true=>acc
 | some false=>some false
 | none=>none
def gh(u v:aa):Bool:=u.id==v.id&&(dD u.n u.t u.o u.r u.d u.i v.n v.t v.o v.r v.d v.i&&true)
theorem Jv(u v:aa):fstV ((aBin Tryz.prog .neq 78 (.agg ⟨vc u⟩) (.agg ⟨vc v⟩)).map fun v=>(v,none))=some (.bool (!gh u v)):=by
 have h:aBin Tryz.prog .neq 78 (.agg ⟨vc u⟩) (.agg ⟨vc v⟩) =
  (bE (u.id==v.id) (p7 (bE (u.n==v.n) (bE (u.t==v.t) (bE (u.o==v.o) (bE (u.r==v.r) (bE (u.d==v.d) (bE (u.i==v.i) (some true))))))) (some true))).map fun b=>.bool (!b):=by kernel_rfl
 rw [h];simp only [eT];unfold gh dD;generalize (u.n==v.n&&(u.t==v.t&&(u.o==v.o&&(u.r==v.r&&(u.d==v.d&&(u.i==v.i&&true))))))=x;generalize (u.id==v.id)=y;cases x <;> cases y <;> rfl
noncomputable def Dh:Code:=(Tryz.f56.body).getD .skip
noncomputable def CE:Code:=sL Dh
noncomputable def Ax:Code:=sL (sR Dh)
noncomputable def CF:Code:=sL (sL (sR (sR Dh)))
noncomputable def xL:Code:=mr (jh (sR (sL (sR (sR Dh)))))
noncomputable def CG:Code:=sR (sR (sR Dh))
theorem KK:Tryz.f56.body=some (.seq CE (.seq Ax (.seq (.seq CF (.block 0 (.loop xL))) CG))):=by kernel_rfl
section
variable (o1 o2:af) (n1 c1 n2 c2:Nat)
abbrev WZ:St:=⟨tmsOf [ae 0 n1 c1,ae 1 n2 c2] 0 .leaf,heapOf [o1,o2,.dead] aE,[]⟩
abbrev JM(g:Nat→Value):St:=av 26 g [(0,ae 0 n1 c1),(1,ae 1 n2 c2),(4,.bool false)] [o1,o2]
abbrev OK(i:Nat)(g:Nat→Value):St:=av 26 g [(0,ae 0 n1 c1),(1,ae 1 n2 c2),(4,.bool false),(5,iN i)] [o1,o2]
abbrev Tv(v:Value)(g:Nat→Value):St:=av 26 g [(4,v)] [o1,o2]
theorem Vk:(execQ Tryz.prog cE [] 10 CE (WZ o1 o2 n1 c1 n2 c2)).map (fun r=>(look2 2 [0,1] [0,1,4] (r.1,r.2.1),r.2.2))=some ((.normal,[o1,o2],[(0,ae 0 n1 c1),(1,ae 1 n2 c2),(4,.bool false)],true),[]):=by kernel_rfl
theorem Vl(g:Nat→Value):(execQ Tryz.prog cE [(10,.bool true)] 10 Ax (JM o1 o2 n1 c1 n2 c2 g)).map (fun r=>(look2 2 [0,1] [4] (r.1,r.2.1),r.2.2))=some ((.ret,[o1,o2],[(4,.bool false)],true),[(some (.bool (Int.ofNat n1 != Int.ofNat n2)),.bool true)]):=by kernel_rfl
theorem Vm(g:Nat→Value):(execQ Tryz.prog cE [(10,.bool false)] 10 Ax (JM o1 o2 n1 c1 n2 c2 g)).map (fun r=>(look2 2 [0,1] [0,1,4] (r.1,r.2.1),r.2.2))=some ((.normal,[o1,o2],[(0,ae 0 n1 c1),(1,ae 1 n2 c2),(4,.bool false)],true),[(some (.bool (Int.ofNat n1 != Int.ofNat n2)),.bool false)]):=by kernel_rfl
theorem Vn(g:Nat→Value):(execQ Tryz.prog cE [] 10 CF (JM o1 o2 n1 c1 n2 c2 g)).map (fun r=>(look2 2 [0,1] [0,1,4,5] (r.1,r.2.1),r.2.2))=some ((.normal,[o1,o2],[(0,ae 0 n1 c1),(1,ae 1 n2 c2),(4,.bool false),(5,iN 0)],true),[]):=by kernel_rfl
theorem Vo(g:Nat→Value):(execQ Tryz.prog cE [] 10 CG (JM o1 o2 n1 c1 n2 c2 g)).map (fun r=>(look2 2 [0,1] [4] (r.1,r.2.1),r.2.2))=some ((.ret,[o1,o2],[(4,.bool true)],true),[]):=by kernel_rfl
theorem Vr(i:Nat)(g:Nat→Value):(execQ Tryz.prog cE [(14,.bool false)] 20 xL (OK o1 o2 n1 c1 n2 c2 i g)).map (fun r=>(look2 2 [0,1] [0,1,4] (r.1,r.2.1),r.2.2))=some ((.exit 0,[o1,o2],[(0,ae 0 n1 c1),(1,ae 1 n2 c2),(4,.bool false)],true),[(some (.bool (decide (Int.ofNat i<Int.ofNat n1))),.bool false)]):=by kernel_rfl
noncomputable def Ey(i:Nat)(u v:aa):List db :=
 [(some (.bool (decide (Int.ofNat i<Int.ofNat n1))),.bool true),
  (fstV ((aIndexAddr Tryz.prog 24 (ae 0 n1 c1) (iN i)).map fun v=>(v,none)),.pointer (some ⟨0,i*7,none⟩)),
  (aLoad Tryz.prog (heapOf ([o1,o2] ++ [.dead]) aE).get 78 (.pointer (some ⟨0,i*7,none⟩)),.agg ⟨vc u⟩),
  (fstV ((aIndexAddr Tryz.prog 24 (ae 1 n2 c2) (iN i)).map fun v=>(v,none)),.pointer (some ⟨1,i*7,none⟩)),
  (aLoad Tryz.prog (heapOf ([o1,o2] ++ [.dead]) aE).get 78 (.pointer (some ⟨1,i*7,none⟩)),.agg ⟨vc v⟩)]
def JE(i:Nat)(u v:aa):List (Tmp×Value):=[(14,.bool true),(19,.pointer (some ⟨0,i*7,none⟩)),(20,.agg ⟨vc u⟩),(23,.pointer (some ⟨1,i*7,none⟩)),(24,.agg ⟨vc v⟩)]
theorem Vp(i:Nat)(u v:aa)(g:Nat→Value):(execQ Tryz.prog cE (JE i u v ++ [(25,.bool true)]) 20 xL (OK o1 o2 n1 c1 n2 c2 i g)).map (fun r=>(look2 2 [0,1] [4] (r.1,r.2.1),r.2.2)) =
 some ((.ret,[o1,o2],[(4,.bool false)],true),Ey o1 o2 n1 c1 n2 c2 i u v ++ [(fstV ((aBin Tryz.prog .neq 78 (.agg ⟨vc u⟩) (.agg ⟨vc v⟩)).map fun v=>(v,none)),.bool true)]):=by kernel_rfl
theorem Vq(i:Nat)(u v:aa)(g:Nat→Value):(execQ Tryz.prog cE (JE i u v ++ [(25,.bool false),(16,iN (i+1))]) 20 xL (OK o1 o2 n1 c1 n2 c2 i g)).map (fun r=>(look2 2 [0,1] [0,1,4,5] (r.1,r.2.1),r.2.2)) =
 some ((.normal,[o1,o2],[(0,ae 0 n1 c1),(1,ae 1 n2 c2),(4,.bool false),(5,iN (i+1))],true),
  Ey o1 o2 n1 c1 n2 c2 i u v ++ [(fstV ((aBin Tryz.prog .neq 78 (.agg ⟨vc u⟩) (.agg ⟨vc v⟩)).map fun v=>(v,none)),.bool false),(some (.int .i64 (wrapF .i64 (Int.ofNat i+1))),iN (i+1))]):=by kernel_rfl
theorem UY(v:Value)(g:Nat→Value):retVal Tryz.prog Tryz.f56 (Tv o1 o2 v g)=some v:=by kernel_rfl
end
theorem Wm:codeSafe Tryz.prog 26 CE=true:=by kernel_rfl
theorem R9:codeSafe Tryz.prog 26 Ax=true:=by kernel_rfl
theorem Wn:codeSafe Tryz.prog 26 CF=true:=by kernel_rfl
theorem NH:codeSafe Tryz.prog 26 xL=true:=by kernel_rfl
theorem Wo:codeSafe Tryz.prog 26 CG=true:=by kernel_rfl
def jq(us vs:List aa)(i:Nat):Bool:=match us[i]?,vs[i]? with
 | some u,some v=>gh u v
 | _,_=>true
def gy(us vs:List aa):Bool:=decide (us.length=vs.length)&&(List.range us.length).all (jq us vs)
theorem Pp{o1 o2:af}(h1:aA o1=true)(h2:aA o2=true):∀ r:List af,∀ i,i<2→∀ o',(o1::o2::r)[i]? = some o'→dw 2 o':=by
 intro r i hi o' h;match i,hi with
 | 0,_=>simp at h; subst h; exact bb h1 2
 | 1,_=>simp at h; subst h; exact bb h2 2
theorem zZ{o:af}{vs:List aa}{r:List af}(h:∃ ty ro rest,o = .cells ty (aK vs++rest) ro):ez (heapOf (o::r) aE) 0 vs:=by
 obtain ⟨ty,ro,rest,rfl⟩:=h;exact ⟨ty,ro,rest,by rw [ak]; rfl⟩
theorem NB{o1 o2:af}{vs:List aa}{r:List af}(h:∃ ty ro rest,o2 = .cells ty (aK vs++rest) ro):ez (heapOf (o1::o2::r) aE) 1 vs:=by
 obtain ⟨ty,ro,rest,rfl⟩:=h;exact ⟨ty,ro,rest,by rw [ak]; rfl⟩
theorem mf{o:af}{vs:List aa}{v:aa}(h:Holds vs o)(hv:v∈vs):∃ ty ro rest,o = .cells ty (aK vs++rest) ro:=by
 rcases h with h | h
 ·subst h; cases hv
 ·exact h
theorem Iq(o1 o2:af)(h1:aA o1=true)(h2:aA o2=true)(us vs:List aa)(hn:us.length<1000000)(hr1:Holds us o1)(hr2:Holds vs o2)(c1 c2:Nat)(W:bh) :
  ah Tryz.prog 26 W (.seq CE (.seq Ax (.seq (.seq CF (.block 0 (.loop xL))) CG))) (WZ o1 o2 us.length c1 vs.length c2) (fun e st=>(e = .normal∨e = .ret)∧st.df = []∧retVal Tryz.prog Tryz.f56 st=some (.bool (gy us vs))):=by
 have hO:=Pp h1 h2
 refine ah.seq (Q1:=fun x st=>x = .normal∧∃ g,st=JM o1 o2 us.length c1 vs.length c2 g) (ah.piece cp follows 2 _ _ _ _ (Vk o1 o2 us.length c1 vs.length c2) Met.nil Wm rfl rfl rfl (hO _) fun g=>⟨rfl,g,rfl⟩) ?_ (fun x st hne hq=>absurd hq.1 hne)
 rintro st ⟨-,g,rfl⟩;cases h10:(Int.ofNat us.length != Int.ofNat vs.length) with
 | true =>
   have hne:us.length≠vs.length:=by intro h; rw [h] at h10; simp at h10
   refine ah.seq (Q1:=fun x st=>x = .ret∧∃ g,st=Tv o1 o2 (.bool false) g) (ah.piece cp follows 2 _ _ _ _ (Vl o1 o2 us.length c1 vs.length c2 g) (Met.cons (ag h10) Met.nil) R9 rfl rfl rfl (hO _) fun g=>⟨rfl,g,rfl⟩) (fun st hq=>by cases hq.1) ?_
   rintro x st hx ⟨rfl,g,rfl⟩;refine ⟨.inr rfl,rfl,?_⟩
   have:gy us vs=false:=by unfold gy; rw [decide_eq_false hne]; rfl
   rw [this];exact UY o1 o2 _ g
 | false =>
   have heq:us.length=vs.length:=by
     simp only [bne_eq_false_iff_eq,Int.ofNat_eq_natCast] at h10; omega
   refine ah.seq (Q1:=fun x st=>x = .normal∧∃ g,st=JM o1 o2 us.length c1 vs.length c2 g) (ah.piece cp follows 2 _ _ _ _ (Vm o1 o2 us.length c1 vs.length c2 g) (Met.cons (ag h10) Met.nil) R9 rfl rfl rfl (hO _) fun g=>⟨rfl,g,rfl⟩) ?_ (fun x st hne hq=>absurd hq.1 hne)
   rintro st ⟨-,g,rfl⟩;let Q2:Exit→St→Prop:=fun x st=>(x = .normal∧∃ g,st=JM o1 o2 us.length c1 vs.length c2 g∧gy us vs=true)∨(x = .ret∧∃ g,st=Tv o1 o2 (.bool false) g∧gy us vs=false)
   refine ah.seq (Q1:=Q2) ?_ ?_ ?_
   ·refine ah.seq (Q1:=fun x st=>x = .normal∧∃ g,st=OK o1 o2 us.length c1 vs.length c2 0 g) (ah.piece cp follows 2 _ _ _ _ (Vn o1 o2 us.length c1 vs.length c2 g) Met.nil Wn rfl rfl rfl (hO _) fun g=>⟨rfl,g,rfl⟩) ?_ (fun x st hne hq=>absurd hq.1 hne)
    rintro st ⟨-,g,rfl⟩;refine ah.block ?_
    refine ah.loop (fun k st=>∃ i g,i≤us.length∧k=us.length-i∧(∀ j,j<i→jq us vs j=true)∧st=OK o1 o2 us.length c1 vs.length c2 i g) ?_ (k:=us.length) ⟨0,g,Nat.zero_le _,rfl,fun j hj=>absurd hj (Nat.not_lt_zero _),rfl⟩
    rintro k st ⟨i,g,hi,hk,hgood,rfl⟩;cases h14:decide (Int.ofNat i<Int.ofNat us.length) with
    | false =>
      refine ah.piece cp follows 2 _ _ _ _ (Vr o1 o2 us.length c1 vs.length c2 i g) (Met.cons (ag h14) Met.nil) NH rfl rfl rfl (hO _) fun g'=>.inr ⟨by simp,?_⟩
      show (if (0:Nat)=0 then Q2 .normal _ else Q2 (.exit 0) _)
      rw [if_pos rfl];have hii:i=us.length:=by simp at h14; omega
      refine .inl ⟨rfl,g',rfl,?_⟩
      unfold gy;rw [decide_eq_true heq,Bool.true_and];exact List.all_eq_true.2 fun j hj=>hgood j (by have:=List.mem_range.1 hj; omega)
    | true =>
      have hlt:i<us.length:=by simpa using h14
      obtain ⟨u,hu⟩:∃ u,us[i]? = some u:=⟨_,List.getElem?_eq_getElem hlt⟩
      obtain ⟨v,hv⟩:∃ v,vs[i]? = some v:=⟨_,List.getElem?_eq_getElem (by omega)⟩
      have hru:=mf hr1 (List.mem_of_getElem? hu)
      have hrv:=mf hr2 (List.mem_of_getElem? hv)
      have hmet:Met (Ey o1 o2 us.length c1 vs.length c2 i u v):=Met.cons (ag h14) (Met.cons (bH hlt) (Met.cons (bM (zZ hru) hu) (Met.cons (bH (by omega)) (Met.cons (bM (NB hrv) hv) Met.nil))))
      have hal:jq us vs i=gh u v:=by simp only [jq,hu,hv]
      cases h25:gh u v with
      | false =>
        refine ah.piece cp follows 2 _ _ _ _ (Vp o1 o2 us.length c1 vs.length c2 i u v g) (ct hmet (Met.cons (by rw [Jv,h25]; rfl) Met.nil)) NH rfl rfl rfl (hO _) fun g'=>.inr ⟨by simp,.inr ⟨rfl,g',rfl,?_⟩⟩
        unfold gy;cases e:(List.range us.length).all (jq us vs) with
        | false=>simp
        | true =>
          have:=List.all_eq_true.1 e i (List.mem_range.2 hlt)
          rw [hal,h25] at this; cases this
      | true =>
        refine ah.piece cp follows 2 _ _ _ _ (Vq o1 o2 us.length c1 vs.length c2 i u v g) (ct hmet (Met.cons (by rw [Jv,h25]; rfl) (Met.cons (bz (by omega)) Met.nil))) NH rfl rfl rfl (hO _) fun g'=>.inl ⟨rfl,us.length-(i+1),by omega,i+1,g',by omega,rfl,fun j hj=>?_,rfl⟩
        rcases Nat.lt_succ_iff_lt_or_eq.1 hj with h' | h'
        ·exact hgood j h'
        ·subst h'; rw [hal,h25]
   ·rintro st (⟨-,g,rfl,hf⟩ | ⟨h,-⟩)
    ·refine ah.piece cp follows 2 _ _ _ _ (Vo o1 o2 us.length c1 vs.length c2 g) Met.nil Wo rfl rfl rfl (hO _) fun g'=>⟨.inr rfl,rfl,?_⟩
     rw [hf];exact UY o1 o2 _ g'
    ·cases h
   ·rintro x st hne (⟨h,-⟩ | ⟨rfl,g,rfl,hf⟩)
    ·exact absurd h hne
    ·refine ⟨.inr rfl,rfl,?_⟩
     rw [hf];exact UY o1 o2 _ g
noncomputable def Dj:Code:=(Tryz.f79.body).getD .skip
theorem KP:Tryz.f79.body=some Dj:=by kernel_rfl
theorem Wz:codeSafe Tryz.prog 8 Dj=true:=by kernel_rfl
def aW(b n:Nat):Value:=.slice (some ⟨b,0,none⟩) n 22
section
variable (o:af) (n c:Nat) (vs:List aa)
abbrev W2:St:=⟨tmsOf [ae 0 n c] 0 .leaf,heapOf [o,.dead] aE,[]⟩
theorem X0:(execE Tryz.prog cE [] [] [(7,aW 3 n,[.put 2 .dead,.push (.cells 78 (aK vs) false)])] 20 Dj (W2 o n c)).map (fun y=>(look2 1 [3] [2] (y.1,y.2.1),y.2.2)) =
 some ((.ret,[.cells 78 (aK vs) false],[(2,aW 0 n)],true),[],[],[(aAppend Tryz.prog (heapOf [o,.dead,.cells 78 [] false] aE).get 3 [24,24] [aW 2 0,ae 0 n c],(aW 3 n,[.put 2 .dead,.push (.cells 78 (aK vs) false)]))]):=by kernel_rfl
theorem VW:(execE Tryz.prog cE [] [] [] 20 Dj (W2 o 0 c)).map (fun y=>(look2 0 [2] [2] (y.1,y.2.1),y.2.2)) =
 some ((.ret,[.cells 78 [] false],[(2,aW 0 0)],true),[],[],[]):=by kernel_rfl
theorem VX:(execE Tryz.prog cE [] [] [] 20 Dj ⟨tmsOf [.slice none 0 0] 0 .leaf,heapOf [.dead] aE,[]⟩).map (fun y=>(look2 0 [] [2] (y.1,y.2.1),y.2.2)) =
 some ((.ret,[],[(2,.slice none 0 0)],true),[],[],[]):=by kernel_rfl
end
theorem Xp(v:Value)(O:List af)(g:Nat→Value):retVal Tryz.prog Tryz.f79 (av 8 g [(2,v)] O)=some v:=by kernel_rfl
theorem l7:∃ i,Tryz.prog.info? 78=some i∧i.size=7∧i.bytes=56:=by
 have h:(Tryz.prog.info? 78).map (fun i=>(i.size,i.bytes))=some (7,56):=by kernel_rfl
 obtain ⟨i,h1,h2⟩:=Option.map_eq_some_iff.1 h;simp only [Prod.mk.injEq] at h2;exact ⟨i,h1,h2.1,h2.2⟩
theorem ot:∃ z,tzero Tryz.prog 78=some z∧z.length=7:=by
 have h:(tzero Tryz.prog 78).map (fun z=>z.length)=some 7:=by kernel_rfl
 obtain ⟨z,h1,h2⟩:=Option.map_eq_some_iff.1 h;exact ⟨z,h1,h2⟩
theorem bT(vs:List aa):(aK vs).length=vs.length*7:=mU vc 7 vs (fun _ _=>rfl)
theorem rC(vs:List aa):(aK vs).all isOne=true:=by
 unfold aK;rw [List.all_flatMap];exact List.all_eq_true.2 fun p _=>rfl
theorem cx{cs:List Value}{n:Nat}(h:cs.length=n):eA cs 0 n=some cs:=by
 unfold eA;simp [← h]
theorem AK{get:Nat→Option af}{sz b n c:Nat}{vs:List aa}{a:Nat}{ty:TypeId}{ro:Bool}(hb:get b=some (.cells 78 [] false))(ha:get a=some (.cells ty (aK vs) ro))(hn:n=vs.length)(h0:0<n)(hm:n<1000000) :
  aAppend Tryz.prog get sz [24,24] [aW b 0,ae a n c]=some (aW sz n,[.put b .dead,.push (.cells 78 (aK vs) false)]):=by
 obtain ⟨i,hi,h7,pg⟩:=l7;obtain ⟨z,hz,hzl⟩:=ot;have hlen:(aK vs).length=n*7:=by rw [bT,hn]
 have hg:eA (aK vs) 0 (n*7)=some (aK vs):=cx hlen
 have hsrc:aSrc Tryz.prog get 7 z (.slice 78) (ae a n c)=some (aK vs,n):=by
  unfold aSrc;simp only [ae,srcLen,srcCells,ha];rw [if_neg (by omega),if_neg (by omega),hg]
  rfl
 have xX:eA [] 0 (0*7)=some []:=rfl
 unfold aAppend;simp only [Tryz.underlying24,hi,hz,h7,pg,hzl];rw [if_neg (by decide)]
 simp only [hsrc,rC,hlen];rw [if_neg (by simp)]
 simp only [aW];rw [if_neg (by omega),if_neg (by omega)]
 simp only [hb,xX];rw [if_neg (by omega),if_pos (by decide),if_neg (by simp; omega)]
 simp
theorem ee{o:af}{vs:List aa}(h:vs = []∨∃ ty ro,o = .cells ty (aK vs) ro):vs = []∨∃ ty ro,roBlk o = .cells ty (aK vs) ro:=by
 rcases h with h | ⟨ty,ro,rfl⟩
 ·exact .inl h
 ·exact .inr ⟨ty,true,rfl⟩
theorem bO{o:af}(h:aA o=true):aA (roBlk o)=true:=by cases o <;> exact h
theorem fJ{hp:Hp}{b:Nat}{o:af}(hb:hp.get b=some o)(hi:aA o=true):dE [b] hp=heapOf [roBlk o,.dead] aE:=by
 unfold dE;simp [hb,cG hi]
theorem Fa{b n c:Nat}:sh3 [b] 0 (ae b n c)=ae 0 n c:=by simp [sh3,sh2,sh1,jj,idxOf,ae]
theorem aw(vs:List aa):aA (.cells 78 (aK vs) false)=true:=dG vs
open Classical in
noncomputable def vD(vs:List aa):aC:=fun args hp =>
 if args = [.slice none 0 0]∧vs = [] then some (.slice none 0 0,heapOf ([] ++ [.dead]) hp)
 else if ∃ b c o,args = [ae b vs.length c]∧hp.get b=some o∧aA o=true∧(vs = []∨∃ ty ro,o = .cells ty (aK vs) ro) then some (aW hp.sz vs.length,heapOf ([.cells 78 (aK vs) false] ++ [.dead]) hp)
 else none
theorem pA{vs:List aa}{hp:Hp}{b c:Nat}{o:af}(hb:hp.get b=some o)(hi:aA o=true)(hr:vs = []∨∃ ty ro,o = .cells ty (aK vs) ro):vD vs [ae b vs.length c] hp=some (aW hp.sz vs.length,heapOf ([.cells 78 (aK vs) false] ++ [.dead]) hp):=by
 unfold vD;rw [if_neg (by intro h; simp [ae] at h),if_pos ⟨b,c,o,rfl,hb,hi,hr⟩]
theorem ntmps61:Tryz.f79.ntmps=8:=by kernel_rfl
theorem eY{o:af}(h:aA o=true):cR o=true:=by
 cases o with
 | cells ty cs ro=>exact List.all_eq_true.2 fun v hv=>(qn (List.all_eq_true.1 h v hv)).1
 | map=>cases h
 | dead=>rfl
theorem HK(vs:List aa)(hn:vs.length<1000000):aq Tryz.prog 79 (vD vs):=cW follows Tryz.func79 KP (by kernel_rfl) fun args hp v hp' h hk=>by
 unfold vD at h;rw [ntmps61];split at h
 ·rename_i hN
  obtain ⟨rfl,rfl⟩:=hN;cases h;refine ⟨[],[],[],rfl,rfl,rfl,rfl,(fun b hb=>by cases hb),rfl,(by simp),fun W=>?_⟩
  exact ah.aL cp follows 0 _ _ _ _ VX Met.nil ay.nil az.nil Wz rfl rfl (fun i hi=>absurd hi (Nat.not_lt_zero _)) fun g=>⟨.inr rfl,rfl,_,Xp _ _ g,rfl,(fun b hb=>by cases hb),rfl,rfl⟩
 ·split at h
  ·rename_i hT
   obtain ⟨b,c,o,rfl,hb,hi,hr⟩:=hT;cases h;refine ⟨[b],[0],[.cells 78 (aK vs) false],rfl,rfl,rfl,rfl,fun b' hb'=>?_,rfl,(by simp),fun W=>?_⟩
   ·have:b'=b:=by simpa using hb'
    subst this;exact ⟨o,hb,aS hi⟩
   ·rw [fJ hb hi,show [ae b vs.length c].map (sh3 [b] 0) = [ae 0 vs.length c] from by simp [Fa]]
    have fin:∀ g,(Exit.ret=Exit.normal∨Exit.ret=Exit.ret)∧(av 8 g [(2,aW 0 vs.length)] [.cells 78 (aK vs) false]).df = []∧∃ v0,retVal Tryz.prog Tryz.f79 (av 8 g [(2,aW 0 vs.length)] [.cells 78 (aK vs) false])=some v0∧hU v0=true ∧
        (∀ b∈[0],∃ o,(av 8 g [(2,aW 0 vs.length)] [.cells 78 (aK vs) false]).hp.get b=some o∧cR o=true∧mq o=true)∧aW hp.sz vs.length=sh3 [0] hp.sz v0∧[.cells 78 (aK vs) false]=cH [0] hp.sz (av 8 g [(2,aW 0 vs.length)] [.cells 78 (aK vs) false]).hp:=by
      intro g;have hget:(av 8 g [(2,aW 0 vs.length)] [.cells 78 (aK vs) false]).hp.get 0=some (.cells 78 (aK vs) false):=by
        show (heapOf _ aE).get 0=_
        rw [ak]; rfl
      refine ⟨.inr rfl,rfl,_,Xp _ _ g,rfl,fun b' hb'=>?_,by simp [sh3,sh2,sh1,jj,idxOf,aW],?_⟩
      ·have:b'=0:=by simpa using hb'
       subst this;exact ⟨_,hget,eY (aw vs),rfl⟩
      ·simp only [cH,List.map_cons,List.map_nil,hget,Option.getD_some,cG (aw vs)]
    cases hl:vs with
    | nil =>
      rw [hl] at fin;exact ah.aL cp follows 0 _ _ _ _ (VW (roBlk o) c) Met.nil ay.nil az.nil Wz rfl rfl (fun i hi=>absurd hi (Nat.not_lt_zero _)) fin
    | cons v0 vs0 =>
      have hr':∃ ty ro,roBlk o = .cells ty (aK vs) ro:=by
        rcases ee hr with h | h
        ·rw [hl] at h; cases h
        ·exact h
      rw [← hl];obtain ⟨ty,ro,hro⟩:=hr';refine ah.aL cp follows 1 _ _ _ _ (X0 (roBlk o) vs.length c vs) Met.nil ay.nil (az.cons (AK (by rw [ak]; rfl) (ty:=ty) (ro:=ro) (by rw [ak,hro]; rfl) rfl (by rw [hl]; simp) hn) az.nil) Wz rfl rfl (fun i hi o' ho'=>?_) fin
      have:i=0:=by omega
      subst this;simp at ho';subst ho';exact bb (aw vs) 0
  ·cases h
noncomputable def E6(vs:List aa):Ext:=fh E5 [(79,vD vs)]
theorem OA(vs:List aa)(hn:vs.length<1000000):ExtOk Tryz.prog (E6 vs):=bC BG (.cons (HK vs hn) .nil)
noncomputable def c6(vs:List aa):aG:=aCall Tryz.prog (E6 vs) 5
theorem Jc(vs:List aa)(hn:vs.length<1000000):ba Tryz.prog (c6 vs):=aQ (OA vs hn) follows 5
noncomputable def Di:Code:=(Tryz.f169.body).getD .skip
noncomputable def Ay:Code:=sL Di
noncomputable def Az:Code:=sL (sR Di)
noncomputable def AA:Code:=sL (sL (sR (sR Di)))
noncomputable def rO:Code:=mr (jh (sR (sL (sR (sR Di)))))
noncomputable def AB:Code:=sR (sR (sR Di))
theorem KL:Tryz.f169.body=some (.seq Ay (.seq Az (.seq (.seq AA (.block 0 (.loop rO))) AB))):=by kernel_rfl
def jz(lt lo lr:Int):Value:=.agg #[.int .i64 lt,.int .i64 lo,.int .i64 lr]
def oM(lt lo lr:Int):af:=.cells 28 [.int .i64 lt,.int .i64 lo,.int .i64 lr] false
def p1:Value:=.pointer (some ⟨1,0,none⟩)
def ab(us:List aa):af:=.cells 78 (aK us) false
section
variable (o:af) (vs us:List aa) (n c:Nat) (lt lo lr keep:Int)
abbrev W0:St:=⟨tmsOf [ae 0 n c,jz lt lo lr,.int .i64 keep] 0 .leaf,heapOf [o,.dead] aE,[]⟩
abbrev WW(g:Nat→Value):St:=av 45 g [(0,ae 0 n c),(2,.int .i64 keep),(4,p1)] [o,oM lt lo lr]
abbrev SG(g:Nat→Value):St:=av 45 g [(2,.int .i64 keep),(4,p1),(7,aW 0 n)] [ab us,oM lt lo lr]
abbrev I2(i:Nat)(g:Nat→Value):St:=av 45 g [(2,.int .i64 keep),(4,p1),(7,aW 0 n),(12,aW 0 n),(13,iN n),(14,iN i)] [ab us,oM lt lo lr]
theorem Vs:(execE Tryz.prog (c6 vs) [] [] [] 10 Ay (W0 o n c lt lo lr keep)).map (fun y=>(look2 1 [0,2] [0,2,4] (y.1,y.2.1),y.2.2))=some ((.normal,[o,oM lt lo lr],[(0,ae 0 n c),(2,.int .i64 keep),(4,p1)],true),[],[],[]):=by kernel_rfl
theorem Vt(g:Nat→Value):(execE Tryz.prog (c6 vs) [] [(11,aW 3 n,[ab vs,.dead])] [] 10 Az (WW o n c lt lo lr keep g)).map (fun y=>(look2 1 [3,1] [2,4,7] (y.1,y.2.1),y.2.2)) =
 some ((.normal,[ab vs,oM lt lo lr],[(2,.int .i64 keep),(4,p1),(7,aW 0 n)],true),[],[(c6 vs 79 [ae 0 n c] (heapOf ([o,oM lt lo lr] ++ [.dead]) aE),(aW 3 n,heapOf [ab vs,.dead] (heapOf ([o,oM lt lo lr] ++ [.dead]) aE)))],[]):=by kernel_rfl
theorem Vu(g:Nat→Value):(execE Tryz.prog (c6 vs) [] [] [] 10 AA (SG us n lt lo lr keep g)).map (fun y=>(look2 1 [0,1] [2,4,7,12,13,14] (y.1,y.2.1),y.2.2)) =
 some ((.normal,[ab us,oM lt lo lr],[(2,.int .i64 keep),(4,p1),(7,aW 0 n),(12,aW 0 n),(13,iN n),(14,iN 0)],true),[],[],[]):=by kernel_rfl
theorem Vv(g:Nat→Value):(execE Tryz.prog (c6 vs) [] [] [] 10 AB (SG us n lt lo lr keep g)).map (fun y=>(look2 1 [0] [6] (y.1,y.2.1),y.2.2)) =
 some ((.ret,[ab us],[(6,aW 0 n)],true),[],[],[]):=by kernel_rfl
theorem VA(i:Nat)(g:Nat→Value):(execE Tryz.prog (c6 vs) [(15,.bool false)] [] [] 20 rO (I2 us n lt lo lr keep i g)).map (fun y=>(look2 1 [0,1] [2,4,7] (y.1,y.2.1),y.2.2)) =
 some ((.exit 0,[ab us,oM lt lo lr],[(2,.int .i64 keep),(4,p1),(7,aW 0 n)],true),[(some (.bool (decide (Int.ofNat i<Int.ofNat n))),.bool false)],[],[]):=by kernel_rfl
noncomputable def wC(i:Nat)(x:aa):List db :=
 [(some (.bool (decide (Int.ofNat i<Int.ofNat n))),.bool true),
  (fstV ((aIndexAddr Tryz.prog 24 (ae 0 n 22) (iN i)).map fun v=>(v,none)),.pointer (some ⟨0,i*7,none⟩)),
  (aLoad Tryz.prog (heapOf ([ab us,oM lt lo lr] ++ [.dead]) aE).get 78 (.pointer (some ⟨0,i*7,none⟩)),.agg ⟨vc x⟩)]
def z8(i:Nat)(x:aa):List (Tmp×Value):=[(15,.bool true),(17,.pointer (some ⟨0,i*7,none⟩)),(18,.agg ⟨vc x⟩),(43,iN (i+1))]
def dI(i:Nat):db:=(some (.int .i64 (wrapF .i64 (Int.ofNat i+1))),iN (i+1))
theorem Vw(i:Nat)(x:aa)(g:Nat→Value):(execE Tryz.prog (c6 vs) (z8 i x ++ [(22,.bool false)]) [] [] 20 rO (I2 us n lt lo lr keep i g)).map (fun y=>(look2 1 [0,1] [2,4,7,12,13,14] (y.1,y.2.1),y.2.2)) =
 some ((.normal,[ab us,oM lt lo lr],[(2,.int .i64 keep),(4,p1),(7,aW 0 n),(12,aW 0 n),(13,iN n),(14,iN (i+1))],true),wC us n lt lo lr i x ++ [(some (.bool (x.id != keep)),.bool false),dI i],[],[]):=by kernel_rfl
theorem Vx(i:Nat)(x:aa)(g:Nat→Value):(execE Tryz.prog (c6 vs) (z8 i x ++ [(22,.bool true),(26,.bool false)]) [] [] 20 rO (I2 us n lt lo lr keep i g)).map (fun y=>(look2 1 [0,1] [2,4,7,12,13,14] (y.1,y.2.1),y.2.2)) =
 some ((.normal,[ab us,oM lt lo lr],[(2,.int .i64 keep),(4,p1),(7,aW 0 n),(12,aW 0 n),(13,iN n),(14,iN (i+1))],true),wC us n lt lo lr i x ++ [(some (.bool (x.id != keep)),.bool true),(some (.bool (told x.n x.t x.o x.r x.d x.i)),.bool false),dI i],[],[]):=by kernel_rfl
def HW(x:aa):Value:=.agg #[.int .i64 (km x.n x.t x.o x.r x.d x.i),.int .i64 (kq x.n x.t x.o x.r x.d x.i),.int .i64 (ks x.n x.t x.o x.r x.d x.i)]
theorem Vy(i:Nat)(x:aa)(g:Nat→Value):(execE Tryz.prog (c6 vs) (z8 i x ++ [(22,.bool true),(26,.bool true),(33,.bool false)]) [] [] 20 rO (I2 us n lt lo lr keep i g)).map (fun y=>(look2 1 [0,1] [2,4,7,12,13,14] (y.1,y.2.1),y.2.2)) =
 some ((.normal,[ab us,oM lt lo lr],[(2,.int .i64 keep),(4,p1),(7,aW 0 n),(12,aW 0 n),(13,iN n),(14,iN (i+1))],true),
  wC us n lt lo lr i x ++ [(some (jz lt lo lr),jz lt lo lr),(some (.bool (x.id != keep)),.bool true),(some (.bool (told x.n x.t x.o x.r x.d x.i)),.bool true),(fstV ((aBin Tryz.prog .eql 28 (HW x) (jz lt lo lr)).map fun v=>(v,none)),.bool false),dI i],[],[]):=by kernel_rfl
theorem Vz(ws:List aa)(i:Nat)(x:aa)(g:Nat→Value):(execE Tryz.prog (c6 vs) (z8 i x ++ [(22,.bool true),(26,.bool true),(33,.bool true),(41,.pointer (some ⟨0,i*7,none⟩))]) [] [(1042,undef,[.put 0 (ab ws)])] 20 rO (I2 us n lt lo lr keep i g)).map (fun y=>(look2 1 [0,1] [2,4,7,12,13,14] (y.1,y.2.1),y.2.2)) =
 some ((.normal,[ab ws,oM lt lo lr],[(2,.int .i64 keep),(4,p1),(7,aW 0 n),(12,aW 0 n),(13,iN n),(14,iN (i+1))],true),
  wC us n lt lo lr i x ++ [(some (jz lt lo lr),jz lt lo lr),(some (.bool (x.id != keep)),.bool true),(some (.bool (told x.n x.t x.o x.r x.d x.i)),.bool true),(fstV ((aBin Tryz.prog .eql 28 (HW x) (jz lt lo lr)).map fun v=>(v,none)),.bool true),
   (fstV ((aIndexAddr Tryz.prog 24 (ae 0 n 22) (iN i)).map fun v=>(v,none)),.pointer (some ⟨0,i*7,none⟩)),dI i],[],
  [((aStore Tryz.prog (heapOf [ab us,oM lt lo lr,.dead,.cells 78 (vc x) false] aE).get 23 (.pointer (some ⟨0,i*7+1,none⟩)) (qZ x.i)).map fun es=>(undef,es),(undef,[.put 0 (ab ws)]))]):=by kernel_rfl
end
theorem Xm(v:Value)(O:List af)(g:Nat→Value):retVal Tryz.prog Tryz.f169 (av 45 g [(6,v)] O)=some v:=by kernel_rfl
theorem Sa:codeSafe Tryz.prog 45 Ay=true:=by kernel_rfl
theorem Sb:codeSafe Tryz.prog 45 Az=true:=by kernel_rfl
theorem Sc:codeSafe Tryz.prog 45 AA=true:=by kernel_rfl
theorem Be:codeSafe Tryz.prog 45 rO=true:=by kernel_rfl
theorem Sd:codeSafe Tryz.prog 45 AB=true:=by kernel_rfl
def zC(lt lo lr:Int)(x:aa):Bool:=km x.n x.t x.o x.r x.d x.i==lt&&(kq x.n x.t x.o x.r x.d x.i==lo&&(ks x.n x.t x.o x.r x.d x.i==lr&&true))
theorem Je(lt lo lr:Int)(x:aa):fstV ((aBin Tryz.prog .eql 28 (HW x) (jz lt lo lr)).map fun v=>(v,none))=some (.bool (zC lt lo lr x)):=by
 have h:aBin Tryz.prog .eql 28 (HW x) (jz lt lo lr)=(bE (km x.n x.t x.o x.r x.d x.i==lt) (bE (kq x.n x.t x.o x.r x.d x.i==lo) (bE (ks x.n x.t x.o x.r x.d x.i==lr) (some true)))).map .bool:=by kernel_rfl
 rw [h];simp only [eT,zC];rfl
def bG(x:aa):aa:=⟨x.id,true,0,0,0,0,x.i⟩
def lH(lt lo lr keep:Int)(x:aa):Bool:=(x.id != keep)&&(told x.n x.t x.o x.r x.d x.i&&zC lt lo lr x)
def lG(lt lo lr keep:Int)(x:aa):aa:=bif lH lt lo lr keep x then bG x else x
def iv(lt lo lr keep:Int)(vs:List aa)(i:Nat):List aa:=(vs.take i).map (lG lt lo lr keep)++vs.drop i
section
variable {lt lo lr keep:Int} {vs:List aa}
theorem vA{i:Nat}{x:aa}(h:vs[i]? = some x):(iv lt lo lr keep vs i)[i]? = some x:=by
 have hi:i<vs.length:=(List.getElem?_eq_some_iff.1 h).1
 unfold iv;rw [List.getElem?_append_right (by simp; omega)]
 simp only [List.length_map,List.length_take,Nat.min_eq_left (Nat.le_of_lt hi),Nat.sub_self,List.getElem?_drop,Nat.add_zero]
 exact h
theorem sh{i:Nat}{x:aa}(h:vs[i]? = some x):iv lt lo lr keep vs (i+1)=(iv lt lo lr keep vs i).set i (lG lt lo lr keep x):=by
 have hi:i<vs.length:=(List.getElem?_eq_some_iff.1 h).1
 have e1:vs.take (i+1)=vs.take i ++ [x]:=by rw [List.take_add_one,h]; rfl
 have e2:vs.drop i=x::vs.drop (i+1):=by rw [List.drop_eq_getElem_cons hi,(List.getElem?_eq_some_iff.1 h).2]
 unfold iv;rw [e1,e2,List.map_append,List.set_append_right _ _ (by simp; omega)]
 simp [Nat.min_eq_left (Nat.le_of_lt hi)]
theorem AN{i:Nat}{x:aa}(h:vs[i]? = some x)(hx:lG lt lo lr keep x=x):iv lt lo lr keep vs (i+1)=iv lt lo lr keep vs i:=by
 rw [sh h,hx];have:=vA (lt:=lt) (lo:=lo) (lr:=lr) (keep:=keep) h
 obtain ⟨h1,h2⟩:=List.getElem?_eq_some_iff.1 this
 conv=>lhs; rw [← h2]
 exact List.set_getElem_self h1
theorem Ds:iv lt lo lr keep vs vs.length=vs.map (lG lt lo lr keep):=by unfold iv; simp
end
theorem pM{us:List aa}{i k:Nat}{x y:aa}{ns:List Value}(hx:us[i]? = some x)(hk:k+ns.length≤7)(hy:∀ j,j<7→(vc y)[j]? = if k≤j∧j<k+ns.length then ns[j-k]? else (vc x)[j]?) :
  putL (aK us) (i*7+k) ns=aK (us.set i y):=by
 have hi:i<us.length:=(List.getElem?_eq_some_iff.1 hx).1
 have hl:=bT us
 apply List.ext_getElem?
 intro j;rw [fU];by_cases hj:j<us.length*7
 ·have hq:j / 7<us.length:=Nat.div_lt_of_lt_mul (by rw [Nat.mul_comm]; exact hj)
  have hr:j % 7<7:=Nat.mod_lt _ (by omega)
  have hs:j / 7*7+j % 7=j:=by omega
  obtain ⟨u,hu⟩:∃ u,us[j / 7]? = some u:=⟨_,List.getElem?_eq_getElem hq⟩
  have g1:(aK us)[j]? = (vc u)[j % 7]?:=by
    have:=fj vc 7 us (fun _ _=>rfl) (j / 7) (j % 7) u hu hr
    rw [hs] at this; exact this
  by_cases hqi:j / 7=i
  ·have hux:u=x:=by rw [hqi,hx] at hu; exact (Option.some.inj hu).symm
   subst hux;have hset:(us.set i y)[j / 7]? = some y:=by rw [hqi]; simp [hi]
   have g2:(aK (us.set i y))[j]? = (vc y)[j % 7]?:=by
     have:=fj vc 7 (us.set i y) (fun _ _=>rfl) (j / 7) (j % 7) y hset hr
     rw [hs] at this; exact this
   rw [g2,hy _ hr,g1];by_cases hc:k≤j % 7∧j % 7<k+ns.length
   ·rw [if_pos hc,if_pos (by rw [hl]; omega)]
    congr 1; omega
   ·rw [if_neg hc,if_neg (by rw [hl]; omega)]
  ·have hset:(us.set i y)[j / 7]? = some u:=by rw [List.getElem?_set_ne (by omega)]; exact hu
   have g2:(aK (us.set i y))[j]? = (vc u)[j % 7]?:=by
     have:=fj vc 7 (us.set i y) (fun _ _=>rfl) (j / 7) (j % 7) u hset hr
     rw [hs] at this; exact this
   rw [g2,g1,if_neg];intro hc;have:i*7≤j∧j<i*7+7:=by omega
   omega
 ·rw [if_neg (by rw [hl]; omega),List.getElem?_eq_none (by rw [hl]; omega),List.getElem?_eq_none (by rw [bT]; simp; omega)]
theorem yv:bZ Tryz.prog 23=some 6:=by kernel_rfl
theorem Fu{us:List aa}{i:Nat}{x:aa}{get:Nat→Option af}(hg:get 0=some (ab us))(hx:us[i]? = some x) :
  ((aStore Tryz.prog get 23 (.pointer (some ⟨0,i*7+1,none⟩)) (qZ x.i)).map fun es=>(undef,es))=some (undef,[.put 0 (ab (us.set i (bG x)))]):=by
 have hi:i<us.length:=(List.getElem?_eq_some_iff.1 hx).1
 have hcell:cellsL (qZ x.i) = [.bool true,.int .i64 0,.int .i64 0,.int .i64 0,.int .i64 0,.int .i64 x.i]:=rfl
 have hput:=pM (k:=1) (y:=bG x) (ns:=[.bool true,.int .i64 0,.int .i64 0,.int .i64 0,.int .i64 0,.int .i64 x.i]) hx (by simp) (fun j hj=>by
  match j,hj with
  | 0,_=>rfl
  | 1,_=>rfl
  | 2,_=>rfl
  | 3,_=>rfl
  | 4,_=>rfl
  | 5,_=>rfl
  | 6,_=>rfl)
 unfold ab at hg;simp only [aStore,hg,yv,hcell];rw [if_pos]
 ·rw [hput]; rfl
 ·rw [Bool.and_eq_true,Bool.and_eq_true]
  refine ⟨⟨rfl,rfl⟩,decide_eq_true ?_⟩
  rw [bT]; omega
theorem bp(us:List aa):∀ r:List af,∀ i,i<1→∀ o',(ab us::r)[i]? = some o'→dw 0 o':=by
 intro r i hi o' h;have:i=0:=by omega
 subst this;simp at h;subst h;exact bb (aw us) 0
theorem call61{vs:List aa}{hp:Hp}{b c:Nat}{o:af}(hb:hp.get b=some o)(hi:aA o=true)(hr:vs = []∨∃ ty ro,o = .cells ty (aK vs) ro) :
  c6 vs 79 [ae b vs.length c] hp=some (aW hp.sz vs.length,heapOf [ab vs,.dead] hp):=by
 show aCall Tryz.prog (E6 vs) 5 79 _ _=_
 rw [aCall];have hE:E6 vs 79=some fun _ args h=>vD vs args h:=rfl
 rw [hE];exact pA hb hi hr
theorem G6{hp:Hp}:c6 [] 79 [.slice none 0 0] hp=some (.slice none 0 0,heapOf [.dead] hp):=by
 show aCall Tryz.prog (E6 []) 5 79 _ _=_
 rw [aCall];have hE:E6 [] 79=some fun _ args h=>vD [] args h:=rfl
 rw [hE];show vD [] _ _=_
 unfold vD;rw [if_pos ⟨rfl,rfl⟩];rfl
theorem AQ(o:af)(ho:aA o=true)(vs:List aa)(hn:vs.length<1000000)(hrow:vs = []∨∃ ty ro,o = .cells ty (aK vs) ro)(c:Nat)(lt lo lr keep:Int)(W:bh) :
  ah Tryz.prog 45 W (.seq Ay (.seq Az (.seq (.seq AA (.block 0 (.loop rO))) AB))) (W0 o vs.length c lt lo lr keep)
   (fun e st=>e = .ret∧∃ g,st=av 45 g [(6,aW 0 vs.length)] [ab (vs.map (lG lt lo lr keep))]):=by
 have hc:=Jc vs hn
 refine ah.seq (Q1:=fun x st=>x = .normal∧∃ g,st=WW o vs.length c lt lo lr keep g) (ah.aL hc follows 1 _ _ _ _ (Vs o vs vs.length c lt lo lr keep) Met.nil ay.nil az.nil Sa rfl rfl (fun i hi o' h=>?_) fun g=>⟨rfl,g,rfl⟩) ?_ (fun x st hne hq=>absurd hq.1 hne)
 ·have:i=0:=by omega
  subst this;simp at h;subst h;exact bb ho 0
 rintro st ⟨-,g,rfl⟩;refine ah.seq (Q1:=fun x st=>x = .normal∧∃ g,st=SG vs vs.length lt lo lr keep g) (ah.aL hc follows 1 _ _ _ _ (Vt o vs vs.length c lt lo lr keep g) Met.nil (ay.cons (call61 (by rw [ak]; rfl) ho hrow) ay.nil) az.nil Sb rfl rfl (bp vs _) fun g=>⟨rfl,g,rfl⟩) ?_ (fun x st hne hq=>absurd hq.1 hne)
 rintro st ⟨-,g,rfl⟩;refine ah.seq (Q1:=fun x st=>x = .normal∧∃ g,st=SG (vs.map (lG lt lo lr keep)) vs.length lt lo lr keep g) ?_ ?_ (fun x st hne hq=>absurd hq.1 hne)
 ·refine ah.seq (Q1:=fun x st=>x = .normal∧∃ g,st=I2 (iv lt lo lr keep vs 0) vs.length lt lo lr keep 0 g) (ah.aL hc follows 1 _ _ _ _ (Vu vs vs vs.length lt lo lr keep g) Met.nil ay.nil az.nil Sc rfl rfl (bp vs _) fun g=>⟨rfl,g,by simp [iv]⟩) ?_ (fun x st hne hq=>absurd hq.1 hne)
  rintro st ⟨-,g,rfl⟩;refine ah.block ?_
  refine ah.loop (fun k st=>∃ i g,i≤vs.length∧k=vs.length-i∧st=I2 (iv lt lo lr keep vs i) vs.length lt lo lr keep i g) ?_ (k:=vs.length) ⟨0,g,Nat.zero_le _,rfl,rfl⟩
  rintro k st ⟨i,g,hi,hk,rfl⟩;have hf:=bp (iv lt lo lr keep vs i)
  cases h15:decide (Int.ofNat i<Int.ofNat vs.length) with
  | false =>
    refine ah.aL hc follows 1 _ _ _ _ (VA vs (iv lt lo lr keep vs i) vs.length lt lo lr keep i g) (Met.cons (ag h15) Met.nil) ay.nil az.nil Be rfl rfl (hf _) fun g'=>.inr ⟨by simp,?_⟩
    show (if (0:Nat)=0 then _ else _)
    rw [if_pos rfl];have hii:i=vs.length:=by simp at h15; omega
    exact ⟨rfl,g',by rw [hii,Ds]⟩
  | true =>
    have hlt:i<vs.length:=by simpa using h15
    obtain ⟨x,hx⟩:∃ x,vs[i]? = some x:=⟨_,List.getElem?_eq_getElem hlt⟩
    have hx':=vA (lt:=lt) (lo:=lo) (lr:=lr) (keep:=keep) hx
    have hmet:Met (wC (iv lt lo lr keep vs i) vs.length lt lo lr i x):=Met.cons (ag h15) (Met.cons (bH hlt) (Met.cons (bM (.of (ty:=78) (ro:=false) (by rw [ak]; rfl)) hx') Met.nil))
    have hnx:(dI i).1=some (dI i).2:=bz (by omega)
    have hsame:lH lt lo lr keep x=false→∀ g',(Exit.normal=Exit.normal∧∃ k',k'<k∧∃ i_1 g,i_1≤vs.length∧k'=vs.length-i_1∧av 45 g' [(2,.int .i64 keep),(4,p1),(7,aW 0 vs.length),(12,aW 0 vs.length),(13,iN vs.length),(14,iN (i+1))] [ab (iv lt lo lr keep vs i),oM lt lo lr]=I2 (iv lt lo lr keep vs i_1) vs.length lt lo lr keep i_1 g):=fun h g' =>
      ⟨rfl,vs.length-(i+1),by omega,i+1,g',by omega,rfl,by rw [AN hx (by unfold lG; rw [h]; rfl)]⟩
    cases h22:(x.id != keep) with
    | false=>exact ah.aL hc follows 1 _ _ _ _ (Vw vs (iv lt lo lr keep vs i) vs.length lt lo lr keep i x g) (ct hmet (Met.cons (ag h22) (Met.cons hnx Met.nil))) ay.nil az.nil Be rfl rfl (hf _) fun g'=>.inl (hsame (by unfold lH; rw [h22]; rfl) g')
    | true =>
      cases h26:told x.n x.t x.o x.r x.d x.i with
      | false=>exact ah.aL hc follows 1 _ _ _ _ (Vx vs (iv lt lo lr keep vs i) vs.length lt lo lr keep i x g) (ct hmet (Met.cons (ag h22) (Met.cons (ag h26) (Met.cons hnx Met.nil)))) ay.nil az.nil Be rfl rfl (hf _) fun g'=>.inl (hsame (by unfold lH; rw [h22,h26]; rfl) g')
      | true =>
        cases h33:zC lt lo lr x with
        | false=>exact ah.aL hc follows 1 _ _ _ _ (Vy vs (iv lt lo lr keep vs i) vs.length lt lo lr keep i x g) (ct hmet (Met.cons rfl (Met.cons (ag h22) (Met.cons (ag h26) (Met.cons (by rw [Je,h33]) (Met.cons hnx Met.nil)))))) ay.nil az.nil Be rfl rfl (hf _) fun g'=>.inl (hsame (by unfold lH; rw [h22,h26,h33]; rfl) g')
        | true =>
          have hat:lH lt lo lr keep x=true:=by unfold lH; rw [h22,h26,h33]; rfl
          refine ah.aL hc follows 1 _ _ _ _ (Vz vs (iv lt lo lr keep vs i) vs.length lt lo lr keep ((iv lt lo lr keep vs i).set i (bG x)) i x g) (ct hmet (Met.cons rfl (Met.cons (ag h22) (Met.cons (ag h26) (Met.cons (by rw [Je,h33]) (Met.cons (bH hlt) (Met.cons hnx Met.nil))))))) ay.nil
            (az.cons (Fu (by rw [ak]; rfl) hx') az.nil) Be rfl rfl (bp _ _) fun g'=>.inl ⟨rfl,vs.length-(i+1),by omega,i+1,g',by omega,rfl,?_⟩
          rw [sh hx];unfold lG;rw [hat];rfl
 ·rintro st ⟨-,g,rfl⟩
  exact ah.aL hc follows 1 _ _ _ _ (Vv vs (vs.map (lG lt lo lr keep)) vs.length lt lo lr keep g) Met.nil ay.nil az.nil Sd rfl rfl (bp _ _) fun g'=>⟨rfl,g',rfl⟩
section
variable (lt lo lr keep:Int)
def p0:Value:=.pointer (some ⟨0,0,none⟩)
def au:Value:=.slice none 0 0
abbrev OQ(g:Nat→Value):St:=av 45 g [(0,au),(2,.int .i64 keep),(4,p0)] [oM lt lo lr]
abbrev Gw(g:Nat→Value):St:=av 45 g [(2,.int .i64 keep),(4,p0),(7,au)] [oM lt lo lr]
abbrev Kr(g:Nat→Value):St:=av 45 g [(2,.int .i64 keep),(4,p0),(7,au),(12,au),(13,iN 0),(14,iN 0)] [oM lt lo lr]
theorem Uw:(execE Tryz.prog (c6 []) [] [] [] 10 Ay ⟨tmsOf [au,jz lt lo lr,.int .i64 keep] 0 .leaf,heapOf [.dead] aE,[]⟩).map (fun y=>(look2 0 [1] [0,2,4] (y.1,y.2.1),y.2.2))=some ((.normal,[oM lt lo lr],[(0,au),(2,.int .i64 keep),(4,p0)],true),[],[],[]):=by kernel_rfl
theorem Ux(g:Nat→Value):(execE Tryz.prog (c6 []) [] [(11,au,[.dead])] [] 10 Az (OQ lt lo lr keep g)).map (fun y=>(look2 0 [0] [2,4,7] (y.1,y.2.1),y.2.2)) =
 some ((.normal,[oM lt lo lr],[(2,.int .i64 keep),(4,p0),(7,au)],true),[],[(c6 [] 79 [au] (heapOf ([oM lt lo lr] ++ [.dead]) aE),(au,heapOf [.dead] (heapOf ([oM lt lo lr] ++ [.dead]) aE)))],[]):=by kernel_rfl
theorem Uy(g:Nat→Value):(execE Tryz.prog (c6 []) [] [] [] 10 AA (Gw lt lo lr keep g)).map (fun y=>(look2 0 [0] [2,4,7,12,13,14] (y.1,y.2.1),y.2.2)) =
 some ((.normal,[oM lt lo lr],[(2,.int .i64 keep),(4,p0),(7,au),(12,au),(13,iN 0),(14,iN 0)],true),[],[],[]):=by kernel_rfl
theorem UA(g:Nat→Value):(execE Tryz.prog (c6 []) [] [] [] 20 rO (Kr lt lo lr keep g)).map (fun y=>(look2 0 [0] [2,4,7] (y.1,y.2.1),y.2.2)) =
 some ((.exit 0,[oM lt lo lr],[(2,.int .i64 keep),(4,p0),(7,au)],true),[],[],[]):=by kernel_rfl
theorem Uz(g:Nat→Value):(execE Tryz.prog (c6 []) [] [] [] 10 AB (Gw lt lo lr keep g)).map (fun y=>(look2 0 [] [6] (y.1,y.2.1),y.2.2)) =
 some ((.ret,[],[(6,au)],true),[],[],[]):=by kernel_rfl
theorem xU(W:bh):ah Tryz.prog 45 W (.seq Ay (.seq Az (.seq (.seq AA (.block 0 (.loop rO))) AB))) ⟨tmsOf [au,jz lt lo lr,.int .i64 keep] 0 .leaf,heapOf [.dead] aE,[]⟩
   (fun e st=>e = .ret∧∃ g,st=av 45 g [(6,au)] []):=by
 have hc:=Jc [] (by simp)
 have h0:∀ (O:List af) (i:Nat),i<0→∀ o,O[i]? = some o→dw 0 o:=fun O i hi=>absurd hi (Nat.not_lt_zero _)
 refine ah.seq (Q1:=fun x st=>x = .normal∧∃ g,st=OQ lt lo lr keep g) (ah.aL hc follows 0 _ _ _ _ (Uw lt lo lr keep) Met.nil ay.nil az.nil Sa rfl rfl (h0 _) fun g=>⟨rfl,g,rfl⟩) ?_ (fun x st hne hq=>absurd hq.1 hne)
 rintro st ⟨-,g,rfl⟩;refine ah.seq (Q1:=fun x st=>x = .normal∧∃ g,st=Gw lt lo lr keep g) (ah.aL hc follows 0 _ _ _ _ (Ux lt lo lr keep g) Met.nil (ay.cons G6 ay.nil) az.nil Sb rfl rfl (h0 _) fun g=>⟨rfl,g,rfl⟩) ?_ (fun x st hne hq=>absurd hq.1 hne)
 rintro st ⟨-,g,rfl⟩;refine ah.seq (Q1:=fun x st=>x = .normal∧∃ g,st=Gw lt lo lr keep g) ?_ ?_ (fun x st hne hq=>absurd hq.1 hne)
 ·refine ah.seq (Q1:=fun x st=>x = .normal∧∃ g,st=Kr lt lo lr keep g) (ah.aL hc follows 0 _ _ _ _ (Uy lt lo lr keep g) Met.nil ay.nil az.nil Sc rfl rfl (h0 _) fun g=>⟨rfl,g,rfl⟩) ?_ (fun x st hne hq=>absurd hq.1 hne)
  rintro st ⟨-,g,rfl⟩;refine ah.block ?_
  refine ah.loop (fun k st=>∃ g,st=Kr lt lo lr keep g) ?_ (k:=0) ⟨g,rfl⟩
  rintro k st ⟨g,rfl⟩;refine ah.aL hc follows 0 _ _ _ _ (UA lt lo lr keep g) Met.nil ay.nil az.nil Be rfl rfl (h0 _) fun g'=>.inr ⟨by simp,?_⟩
  show (if (0:Nat)=0 then _ else _)
  rw [if_pos rfl];exact ⟨rfl,g',rfl⟩
 ·rintro st ⟨-,g,rfl⟩
  exact ah.aL hc follows 0 _ _ _ _ (Uz lt lo lr keep g) Met.nil ay.nil az.nil Sd rfl rfl (h0 _) fun g'=>⟨rfl,g',rfl⟩
end
def TR(vs:List aa)(s:Value)(hp:Hp):Prop:=∃ b c o,s=ae b vs.length c∧hp.get b=some o∧aA o=true∧(vs = []∨∃ ty ro,o = .cells ty (aK vs) ro)
theorem TR.not_nil{vs:List aa}{hp:Hp}(h:TR vs au hp):False:=by
 obtain ⟨b,c,o,h,_⟩:=h;simp [ae,au] at h
open Classical in
noncomputable def g29(vs:List aa):aC:=fun args hp=>match args with
 | [s,.agg cs,.int .i64 keep]=>match cs.toList with
   | [.int .i64 lt,.int .i64 lo,.int .i64 lr] =>
     if s=au∧vs = [] then some (au,heapOf ([] ++ [.dead]) hp)
     else if TR vs s hp then some (aW hp.sz vs.length,heapOf ([ab (vs.map (lG lt lo lr keep))] ++ [.dead]) hp)
     else none
   | _=>none
 | _=>none
open Classical in
theorem Hy{hp:Hp}{lt lo lr keep:Int}:g29 [] [au,jz lt lo lr,.int .i64 keep] hp=some (au,heapOf [.dead] hp):=by
 show (if au=au∧([]:List aa) = [] then _ else _)=_
 rw [if_pos ⟨rfl,rfl⟩];rfl
open Classical in
theorem Hz{vs:List aa}{hp:Hp}{s:Value}{lt lo lr keep:Int}(hT:TR vs s hp):g29 vs [s,jz lt lo lr,.int .i64 keep] hp=some (aW hp.sz vs.length,heapOf [ab (vs.map (lG lt lo lr keep)),.dead] hp):=by
 show (if s=au∧vs = [] then _ else if TR vs s hp then _ else _)=_
 rw [if_neg (by rintro ⟨rfl,_⟩; exact hT.not_nil),if_pos hT]
 rfl
theorem ntmps29:Tryz.f169.ntmps=45:=by kernel_rfl
theorem TW(vs:List aa)(hn:vs.length<1000000):aq Tryz.prog 169 (g29 vs):=cW follows Tryz.func169 KL (by kernel_rfl) fun args hp v hp' h hk=>by
 unfold g29 at h;rw [ntmps29];split at h
 case h_2=>cases h
 rename_i s cs keep;split at h
 case h_2=>cases h
 rename_i lt lo lr hcs;obtain rfl:=cN hcs;split at h
 ·rename_i hN
  obtain ⟨rfl,rfl⟩:=hN;cases h;refine ⟨[],[],[],rfl,rfl,rfl,rfl,(fun b hb=>by cases hb),rfl,(by simp),fun W=>?_⟩
  have e1 : [au,.agg [.int .i64 lt,.int .i64 lo,.int .i64 lr].toArray,.int .i64 keep].map (sh3 [] 0) = [au,jz lt lo lr,.int .i64 keep]:=by simp [sh3,sh2,sh1,au,jz]
  rw [e1];refine ah.mono (xU lt lo lr keep W) fun e st q=>?_
  obtain ⟨rfl,g,rfl⟩:=q;exact ⟨.inr rfl,rfl,_,Xm _ _ g,rfl,(fun b hb=>by cases hb),rfl,rfl⟩
 ·split at h
  ·rename_i hT
   obtain ⟨b,c,o,rfl,hb,hi,hr⟩:=hT;cases h;refine ⟨[b],[0],[ab (vs.map (lG lt lo lr keep))],rfl,rfl,rfl,rfl,fun b' hb'=>?_,rfl,(by simp),fun W=>?_⟩
   ·have:b'=b:=by simpa using hb'
    subst this;exact ⟨o,hb,aS hi⟩
   ·have e1 : [ae b vs.length c,.agg [.int .i64 lt,.int .i64 lo,.int .i64 lr].toArray,.int .i64 keep].map (sh3 [b] 0) = [ae 0 vs.length c,jz lt lo lr,.int .i64 keep]:=by
       simp [sh3,sh2,sh1,jj,idxOf,ae,jz]
    rw [e1,fJ hb hi];refine ah.mono (AQ (roBlk o) (bO hi) vs hn (ee hr) c lt lo lr keep W) fun e st q=>?_
    obtain ⟨rfl,g,rfl⟩:=q;have hget:(av 45 g [(6,aW 0 vs.length)] [ab (vs.map (lG lt lo lr keep))]).hp.get 0=some (ab (vs.map (lG lt lo lr keep))):=by
      show (heapOf _ aE).get 0=_
      rw [ak]; rfl
    refine ⟨.inr rfl,rfl,_,Xm _ _ g,rfl,fun b' hb'=>?_,by simp [sh3,sh2,sh1,jj,idxOf,aW],?_⟩
    ·have:b'=0:=by simpa using hb'
     subst this;exact ⟨_,hget,eY (aw _),rfl⟩
    ·simp only [cH,List.map_cons,List.map_nil,hget,Option.getD_some]
     exact congrArg (fun z=>[z]) (cG (o:=ab (vs.map (lG lt lo lr keep))) (aw _) [0] hp.sz).symm
  ·cases h
noncomputable abbrev LY:Code:=.seq xH (.seq (.seq xI (.block 0 (.loop qa))) xJ)
theorem Uo:(execQ Tryz.prog cE [] 10 xH ⟨tmsOf [au] 0 .leaf,heapOf [.dead] aE,[]⟩).map (fun r=>(look2 0 [] [0,2] (r.1,r.2.1),r.2.2))=some ((.normal,[],[(0,au),(2,iN 0)],true),[]):=by kernel_rfl
theorem Uq(g:Nat→Value):(execQ Tryz.prog cE [] 10 xI (av 34 g [(0,au),(2,iN 0)] [])).map (fun r=>(look2 0 [] [0,2,5,6,7] (r.1,r.2.1),r.2.2))=some ((.normal,[],[(0,au),(2,iN 0),(5,au),(6,iN 0),(7,iN 0)],true),[]):=by kernel_rfl
theorem Ur(g:Nat→Value):(execQ Tryz.prog cE [] 20 qa (av 34 g [(0,au),(2,iN 0),(5,au),(6,iN 0),(7,iN 0)] [])).map (fun r=>(look2 0 [] [0,2] (r.1,r.2.1),r.2.2))=some ((.exit 0,[],[(0,au),(2,iN 0)],true),[]):=by kernel_rfl
theorem Us(g:Nat→Value):(execQ Tryz.prog cE [] 10 xJ (av 34 g [(0,au),(2,iN 0)] [])).map (fun r=>(look2 0 [] [2] (r.1,r.2.1),r.2.2))=some ((.ret,[],[(2,iN 0)],true),[]):=by kernel_rfl
theorem UX(v:Value)(O:List af)(g:Nat→Value):retVal Tryz.prog Tryz.f58 (av 34 g [(2,v)] O)=some v:=by kernel_rfl
theorem dg(O:List af):∀ i,i<0→∀ o,O[i]? = some o→dw 0 o:=fun i hi=>absurd hi (Nat.not_lt_zero _)
theorem sd(W:bh):ah Tryz.prog 34 W LY ⟨tmsOf [au] 0 .leaf,heapOf [.dead] aE,[]⟩ (fun e st=>(e = .normal∨e = .ret)∧st.df = []∧retVal Tryz.prog Tryz.f58 st=some (iN 0)):=by
 refine ah.seq (Q1:=fun x st=>x = .normal∧∃ g,st=av 34 g [(0,au),(2,iN 0)] []) (ah.piece cp follows 0 _ _ _ _ Uo Met.nil NC rfl rfl rfl (dg _) fun g=>⟨rfl,g,rfl⟩) ?_ (fun x st hne hq=>absurd hq.1 hne)
 rintro st ⟨-,g,rfl⟩;refine ah.seq (Q1:=fun x st=>x = .normal∧∃ g,st=av 34 g [(0,au),(2,iN 0)] []) ?_ ?_ (fun x st hne hq=>absurd hq.1 hne)
 ·refine ah.seq (Q1:=fun x st=>x = .normal∧∃ g,st=av 34 g [(0,au),(2,iN 0),(5,au),(6,iN 0),(7,iN 0)] []) (ah.piece cp follows 0 _ _ _ _ (Uq g) Met.nil ND rfl rfl rfl (dg _) fun g=>⟨rfl,g,rfl⟩) ?_ (fun x st hne hq=>absurd hq.1 hne)
  rintro st ⟨-,g,rfl⟩;refine ah.block ?_
  refine ah.loop (fun k st=>∃ g,st=av 34 g [(0,au),(2,iN 0),(5,au),(6,iN 0),(7,iN 0)] []) ?_ (k:=0) ⟨g,rfl⟩
  rintro k st ⟨g,rfl⟩;refine ah.piece cp follows 0 _ _ _ _ (Ur g) Met.nil qR rfl rfl rfl (dg _) fun g'=>.inr ⟨by simp,?_⟩
  show (if (0:Nat)=0 then _ else _)
  rw [if_pos rfl];exact ⟨rfl,g',rfl⟩
 ·rintro st ⟨-,g,rfl⟩
  exact ah.piece cp follows 0 _ _ _ _ (Us g) Met.nil NF rfl rfl rfl (dg _) fun g'=>⟨.inr rfl,rfl,UX _ _ g'⟩
open Classical in
noncomputable def g18(vs:List aa):aC:=fun args hp=>match args with
 | [s]=>if s=au∧vs = []∨TR vs s hp then some (l4 (aF vs),heapOf ([] ++ [.dead]) hp) else none
 | _=>none
open Classical in
theorem tR{vs:List aa}{hp:Hp}{s:Value}(h:s=au∧vs = []∨TR vs s hp):g18 vs [s] hp=some (l4 (aF vs),heapOf [.dead] hp):=by
 show (if s=au∧vs = []∨TR vs s hp then _ else _)=_
 rw [if_pos h];rfl
theorem ntmps18:Tryz.f58.ntmps=34:=by kernel_rfl
theorem pv(b:Bool):hU (l4 b)=true∧∀ K B,sh3 K B (l4 b)=l4 b:=by cases b <;> exact ⟨rfl,fun _ _=>rfl⟩
theorem HJ(vs:List aa)(hn:vs.length<1000000):aq Tryz.prog 58 (g18 vs):=cW follows Tryz.func58 Cd (by kernel_rfl) fun args hp v hp' h hk=>by
 unfold g18 at h;rw [ntmps18];split at h
 case h_2=>cases h
 rename_i s;split at h
 case isFalse=>cases h
 rename_i hT;cases h;rcases hT with ⟨rfl,rfl⟩ | ⟨b,c,o,rfl,hb,hi,hr⟩
 ·refine ⟨[],[],[],rfl,rfl,rfl,rfl,(fun b hb=>by cases hb),rfl,(by simp),fun W=>?_⟩
  rw [show [au].map (sh3 [] 0) = [au] from by simp [sh3,sh2,sh1,au]]
  exact ah.mono (sd W) fun e st q=>⟨q.1,q.2.1,_,q.2.2,rfl,(fun b hb=>by cases hb),rfl,rfl⟩
 ·refine ⟨[b],[],[],rfl,rfl,rfl,rfl,fun b' hb'=>?_,rfl,(by simp),fun W=>?_⟩
  ·have:b'=b:=by simpa using hb'
   subst this;exact ⟨o,hb,aS hi⟩
  ·rw [fJ hb hi,show [ae b vs.length c].map (sh3 [b] 0) = [ae 0 vs.length c] from by simp [Fa]]
   exact ah.mono (CZ (roBlk o) (bO hi) vs hn (ee hr) c W) fun e st q=>⟨q.1,q.2.1,_,q.2.2,(pv _).1,(fun b hb=>by cases hb),((pv _).2 _ _).symm,rfl⟩
end Go.Proofs.YtgeoommlmddgpaaGreat.LtA
