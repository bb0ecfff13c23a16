/- Part 2. -/
import Derived.Test.YtgeoommlmddgpaaGreatXfA
import Derived.ProofKit
import Derived.OpenShut
import Derived.Carry
import Derived.Test.YtgeoommlmddgpaaGreatChecked
set_option linter.unusedVariables false
set_option linter.unusedSimpArgs false
set_option maxRecDepth 100000
namespace Go.Proofs.YtgeoommlmddgpaaGreat.AI
open Go
section
variable {P:Program} {c c':aG}
end
open Classical in
noncomputable def C(P:Program):aG:=fun f args h=>if e:∃ n r,aCall P (extOf P) n f args h=some r then some e.choose_spec.choose else none
open Classical in
noncomputable def X(P:Program)(c:Code)(st:St):Option (Exit×St):=if e:∃ n r,exec P (aCall P (extOf P) n) n c st=some r then some e.choose_spec.choose else none
section
variable {P:Program}
end
end Go.Proofs.YtgeoommlmddgpaaGreat.AI
namespace Go.Proofs.YtgeoommlmddgpaaGreat.AI
open Go Go.ChangeShapes Go.RowKit
section
variable {P:Program}
theorem lR{H:Type}{enc:TypeId×Value→H}(hl:laidOutB P=true){W W':World}(hb:Below W.heap.size W W'):∀ {ts:List TypeId} {vs:List Value} {ds:List (DataW H)} {p:List MemPlace},
  (∀ t∈ts,P.readableRec t=true∧t<P.types.size)→(∀ x∈p,x.block<W.heap.size)→DataW.TrodAll enc P W 0 (fun _=>true) true ts vs ds p →
  ∀ sp':Nat→Bool,(∀ x∈p,sp' x.block=true)→DataW.TrodAll enc P W' 0 sp' true ts vs ds p
 | [],vs,ds,p,_,_,h,sp',_=>by
   obtain ⟨rfl,rfl,rfl⟩:=trodAll_nil h;exact trodAll_mk0
 | t::ts,vs,ds,p,ht,hp,h,sp',hs=>by
   obtain ⟨v,vs1,d,ds1,a,b,rfl,rfl,rfl,h1,h2⟩:=trodAll_cons h;obtain ⟨q1,q2⟩:=ht t (.head _);refine trodAll_cons_mk ?_ (lR hl hb (fun u hu=>ht u (.tail _ hu)) (fun x hx=>hp x (List.mem_append_right _ hx)) h2 sp' (fun x hx=>hs x (List.mem_append_right _ hx)))
   exact WideElems.Trod_stays hl q1 q2 h1 (fun x hx=>hb.same (hp x (List.mem_append_left _ hx))) (fun x hx=>hs x (List.mem_append_left _ hx))
theorem A9{H:Type}{enc:TypeId×Value→H}{f:Func}{s:ChangeSpec}{apart fresh handsOn again:Bool}{W W':World}{args:Array Value}{ds gs:List (DataW H)}{before:List MemPlace}{tb:TypeId}
  (hl:laidOutB P=true) (hp:∀ t∈f.params.toList,P.readableRec t=true∧t<P.types.size) (hv:s.vars = []) (hr:f.resultTypes = #[tb]) (htb:P.underlying tb=some .bool)
  (hs:∀ ds:List (DataW H),ds.length=f.params.size→s.fn H ds = { results:=[.lit (.bool true)],args:=ds })
  (hW:DataW.Whole enc P f.params.toList s.vars apart W args.toList ds gs before) (hb:Below W.heap.size W W'):s.post enc P f apart fresh handsOn again W args (.bool true) W':=by
 have hW':=hW
 obtain ⟨p,q,hA,hV,e1,hz,hn⟩:=hW;rw [hv] at hV;obtain ⟨rfl,rfl⟩:=trodVars_none hV;have hlt:∀ x∈before,x.block<W.heap.size:=fun x hx=>hW'.lt x hx
 rw [e1,List.append_nil] at hlt;have hlen:ds.length=f.params.size:=by
  have:∀ {ts:List TypeId} {vs:List Value} {ds:List (DataW H)} {p:List MemPlace},DataW.TrodAll enc P W 0 (fun _=>true) true ts vs ds p→ds.length=ts.length:=by
    intro ts;induction ts with
    | nil=>intro vs ds p h; obtain ⟨rfl,rfl,rfl⟩:=trodAll_nil h; rfl
    | cons t ts ih =>
      intro vs ds p h;obtain ⟨v,vs1,d,ds1,a,b,rfl,rfl,rfl,h1,h2⟩:=trodAll_cons h;simp [ih h2]
  have:=this hA
  simpa using this
 have hfn:s.fn H (ds ++ []) = { results:=[.lit (.bool true)],args:=ds }:=by rw [List.append_nil]; exact hs ds hlen
 have hold:∀ sp:Nat→Bool,(∀ x∈p,sp x.block=true)→DataW.TrodAll enc P W' 0 sp true f.params.toList args.toList ds p:=fun sp hsp=>lR hl hb hp hlt hA sp hsp
 have hres:∀ (b:Nat) (sp:Nat→Bool) (hd:Bool),DataW.TrodAll enc P W' b sp hd f.resultTypes.toList ((Value.bool true).resultList f.resultTypes.size) (s.fn H (ds ++ [])).results []:=by
  intro b sp hd;rw [hfn,hr];exact trodAll_mk1 (shut_bool htb true)
 have hfz:∀ b off,MemPlace.cell b off∈p→W'.frozen? ⟨b,off,none⟩=W.frozen? ⟨b,off,none⟩:=fun b off hx=>hb.frozen (p:=⟨b,off,none⟩) (hlt _ hx)
 subst e1;refine ⟨ds,[],p ++ [],[],p,[],hW',hres _ _ _,?_,?_,?_,fun _=>?_⟩
 ·rw [hfn]; exact hold _ fun x hx=>by simpa using hlt x hx
 ·rw [hfn,hv]; exact rfl
 ·exact hb.frame _
 ·refine ⟨ok_one hr rfl (okWide_bool_mk htb true),[.lit (.bool true)]++ds,[],([]++p) ++ [],⟨[]++p,[],trodAll_append (hold _ fun _ _=>rfl) ?_,by rw [hv]; exact rfl,rfl,?_,?_⟩,?_⟩
  ·have:=hres 0 (fun _=>true) true
   rw [hfn] at this;exact this
  ·intro b off hx
   have hx':MemPlace.cell b off∈p:=by simpa using hx
   rw [hfz b off hx'];exact hz b off (by simpa using hx')
  ·intro ha
   have:=hn ha
   simpa using this
  ·intro x hx _
   simpa using hx
theorem yb{C:Checked}{os:Os}(started:os.Started){H:Type}{enc:TypeId×Value→H}{f:FuncId}{fn:Func}{s:ChangeSpec}{apart fresh handsOn again:Bool}{tb:TypeId}(own:ownKnob C.prog.godebug=none)(noInit:C.prog.inits.idxOf? f=none)
  (hf:C.prog.funcs[f]? = some fn) (hl:laidOutB C.prog=true) (hp:∀ t∈fn.params.toList,C.prog.readableRec t=true∧t<C.prog.types.size) (hv:s.vars = []) (hr:fn.resultTypes = #[tb]) (htb:C.prog.underlying tb=some .bool)
  (hs:∀ ds:List (DataW H),ds.length=fn.params.size→s.fn H ds = { results:=[.lit (.bool true)],args:=ds })
  (witness:∃ (w:World) (tape:Tape) (i:Input),w.os=os∧(w.forCall tape i).Shaped C.prog∧i.vars = []∧Input.okWide C.prog (w.forCall tape i) .any w.heap.size f i ∧
    s.pre6 enc C.prog fn [] apart (w.forCall tape i).memory i.args∧({}:Assume).holds C.prog (lone (Frame.enter C.prog f i.args .normal) [] (w.forCall tape i)))
  (walk:∀ (W:World) (base:Nat) (args:Array Value) (ds:List (DataW H)) (p:List MemPlace),args.size=fn.params.size→(∀ (j:Nat) t v,fn.params[j]? = some t→args[j]? = some v→Value.okWide C.prog W .any base t v) →
    DataW.TrodAll enc C.prog W 0 (fun _=>true) true fn.params.toList args.toList ds p→Calls C.prog f args W fun e W'=>e = .returned (.bool true)∧Below W.heap.size W W') :
  ReturnsInHanded {} C os f .any (s.pre6 enc C.prog fn [] apart) (s.post enc C.prog fn apart fresh handsOn again):=by
 refine returnsInHanded_of_change own started noInit hf witness ?_
 intro W base args ds gs before hval hW _ _;have hW':=hW
 obtain ⟨p,q,hA,hV,e1,hz,hn⟩:=hW;have hsz:args.size=fn.params.size:=by
  have:∀ {ts:List TypeId} {vs:List Value} {ds:List (DataW H)} {p:List MemPlace},DataW.TrodAll enc C.prog W 0 (fun _=>true) true ts vs ds p→vs.length=ts.length:=by
    intro ts;induction ts with
    | nil=>intro vs ds p h; obtain ⟨rfl,rfl,rfl⟩:=trodAll_nil h; rfl
    | cons t ts ih =>
      intro vs ds p h;obtain ⟨v,vs1,d,ds1,a,b,rfl,rfl,rfl,h1,h2⟩:=trodAll_cons h;simp [ih h2]
  have:=this hA
  simpa using this
 refine (walk W base args ds p hsz hval hA).mono fun e W' hh=>?_
 exact ⟨.bool true,hh.1,A9 hl hp hv hr htb hs hW' hh.2⟩
def KI:BM:=fun _=>none
def aE:Hp:=⟨0,.leaf⟩
theorem iO:aE.ok:=fun _ _=>rfl
theorem WN{w:World}:cg KI aE.get w:=⟨fun b x h=>(by cases h),fun b b' x x' h=>(by cases h)⟩
end
end Go.Proofs.YtgeoommlmddgpaaGreat.AI
namespace Go.Proofs.YtgeoommlmddgpaaGreat.AI
open Go
abbrev db:=Option Value×Value
def Met(l:List db):Prop:=∀ o∈l,o.1=some o.2
theorem Met.nil:Met []:=fun o ho=>by cases ho
theorem Met.cons{a:Option Value}{v:Value}{l:List db}(h:a=some v)(hl:Met l):Met ((a,v)::l):=fun o ho=>by
 cases ho with
 | head=>exact h
 | tail _ ho=>exact hl o ho
theorem ag{a b:Bool}(h:a=b):some (Value.bool a)=some (Value.bool b):=by rw [h]
theorem Met.left{a b:List db}(h:Met (a++b)):Met a:=fun o ho=>h o (List.mem_append_left _ ho)
theorem Met.right{a b:List db}(h:Met (a++b)):Met b:=fun o ho=>h o (List.mem_append_right _ ho)
def G9(cl:List (Tmp×Value)):Option Tmp→Option Value
 | none=>none
 | some t=>(cl.find? fun p=>Nat.beq p.1 t).map (·.2)
def fstV:Option (Value×Option af)→Option Value
 | some (v,none)=>some v
 | _=>none
def plainV(P:Program)(ρ : Operand→Value)(get:Nat→Option af)(sz:Nat)(o:Oper):Option Value :=
 match cls P o with
 | .pure=>fstV (opP P ρ sz o)
 | .read=>opR P ρ get o
 | .big=>none
def stepQ(P:Program)(call:aG)(cl:List (Tmp×Value))(o:Oper)(st:St):Option (Value×Hp×List (FuncId×List Value)×List db) :=
 match G9 cl o.dst with
 | some v=>match cls P o with
   | .big=>match aStep P call o st with
     | some (u,h,d)=>some (v,h,d,[(some u,v)])
     | none=>none
   | _=>some (v,st.hp,st.df,[(plainV P st.eval st.hp.get st.hp.sz o,v)])
 | none=>match aStep P call o st with
   | some (v,h,d)=>some (v,h,d,[])
   | none=>none
def runOpsQ(P:Program)(call:aG)(cl:List (Tmp×Value))(ops:Array Oper):List Oper→St→Option (St×List db)
 | [],st=>some (st,[])
 | o::os,st=>match aWanted ops st o with
   | false=>runOpsQ P call cl ops os (st.tput o.dst undef)
   | true=>match stepQ P call cl o st with
     | some (v,h,d,q)=>match runOpsQ P call cl ops os ({ st with hp:=h,df:=d }.tput o.dst v) with
       | some (st',q')=>some (st',q++q')
       | none=>none
     | none=>none
def runLogQ(P:Program)(call:aG)(cl:List (Tmp×Value))(ops:Array Oper):List Oper→Nat→St→Option (St×List Log×List db)
 | [],_,st=>some (st,[],[])
 | o::os,i,st=>match aWanted ops st o with
   | false=>runLogQ P call cl ops os (i+1) (st.tput o.dst undef)
   | true=>match stepQ P call cl o st with
     | some (v,h,d,q)=>match runLogQ P call cl ops os (i+1) ({ st with hp:=h,df:=d }.tput o.dst v) with
       | some (st',l,q')=>match cls P o with
         | .pure=>some (st',l,q++q')
         | .read=>some (st',.read i (fun get=>opR P st.eval get o) v::l,q++q')
         | .big=>some (st',.big i st.hp h::l,q++q')
       | none=>none
     | none=>none
def uJ:Value→Bool
 | .bool _ | .int _ _ | .string _ | .pointer _ | .slice .. | .map _ | .nilFunc | .nilIface=>true
 | _=>false
def F0:Value→Bool
 | .agg a=>a.toList.all uJ
 | v=>uJ v
def bigQ(f:(Nat→Option af)→Option Value)(v:Value)(j i2:Nat):List Log→List db
 | []=>[]
 | .big i hb ha::r=>match Nat.beq i i2 with
   | true=>(match Nat.ble i j with | true=>(f hb.get,v) | false=>(f ha.get,v))::bigQ f v j i2 r
   | false=>bigQ f v j i2 r
 | .read .. :: r=>bigQ f v j i2 r
def readQ(all:List Log)(p:Nat×Nat):List Log→Option (List db)
 | []=>some []
 | .read j f v::r=>match Nat.beq j p.1 with
   | true=>match F0 v,readQ all p r with
     | true,some q=>some (bigQ f v j p.2 all++q)
     | _,_=>none
   | false=>readQ all p r
 | .big .. :: r=>readQ all p r
def pairsQ(l:List Log):List (Nat×Nat)→Option (List db)
 | []=>some []
 | p::ps=>match readQ l p l,pairsQ l ps with
   | some a,some b=>some (a++b)
   | _,_=>none
theorem fK{v:Value}(h:uJ v=true):veq1 v v=true:=by
 cases v with
 | pointer a=>cases a <;> simp [veq1]
 | slice a n c=>cases a <;> simp [veq1,Nat.beq_refl]
 | map a=>cases a <;> simp [veq1,Nat.beq_refl]
 | string s=>simp [veq1,iG]
 | int k n=>simp [veq1]
 | bool b=>simp [veq1]
 | nilFunc=>rfl
 | nilIface=>rfl
 | _=>cases h
theorem sU:∀ {l:List Value},l.all uJ=true→veqL l l=true
 | [],_=>rfl
 | v::l,h=>by
   simp only [List.all_cons,Bool.and_eq_true] at h;simp only [veqL,fK h.1,sU h.2,Bool.and_self]
theorem xh{v:Value}(h:F0 v=true):veq v v=true:=by
 cases v with
 | agg a=>exact sU h
 | bool b=>exact fK (v:=.bool b) h
 | int k n=>exact fK (v:=.int k n) h
 | string s=>exact fK (v:=.string s) h
 | pointer a=>exact fK (v:=.pointer a) h
 | slice a n c=>exact fK (v:=.slice a n c) h
 | map a=>exact fK (v:=.map a) h
 | nilFunc=>rfl
 | nilIface=>rfl
 | _=>cases h
theorem mH{f:(Nat→Option af)→Option Value}{v:Value}(hv:F0 v=true){j i2:Nat}:∀ {l:List Log},Met (bigQ f v j i2 l)→∀ i hb ha,Log.big i hb ha∈l→Nat.beq i i2=true →
  (match Nat.ble i j with | true=>eE f v hb | false=>eE f v ha)=true
 | [],_,i,hb,ha,hm,_=>by cases hm
 | .read _ _ _::r,m,i,hb,ha,hm,hi=>by
   simp only [bigQ] at m;cases hm with
   | tail _ hm=>exact mH hv m i hb ha hm hi
 | .big i' hb' ha'::r,m,i,hb,ha,hm,hi=>by
   simp only [bigQ] at m;split at m
   ·rename_i hb2
    cases hm with
    | head =>
      have:=m _ (.head _)
      split at this
      ·rename_i hle; simp only [hle,eE]; simp only at this; simp only [this,xh hv]
      ·rename_i hle; simp only [hle,eE]; simp only at this; simp only [this,xh hv]
    | tail _ hm=>exact mH hv (fun o ho=>m o (.tail _ ho)) i hb ha hm hi
   ·rename_i hb2
    cases hm with
    | head=>rw [hi] at hb2; cases hb2
    | tail _ hm=>exact mH hv m i hb ha hm hi
theorem ln{all:List Log}{p:Nat×Nat}:∀ {l:List Log} {q:List db},readQ all p l=some q→Met q→∀ j f v,Log.read j f v∈l→Nat.beq j p.1=true →
  (all.all fun g=>match g with
     | .big i hb ha=>match Nat.beq i p.2 with
       | false=>true
       | true=>match Nat.ble i j with
         | true=>eE f v hb
         | false=>eE f v ha
     | _=>true)=true
 | [],q,_,_,j,f,v,hm,_=>by cases hm
 | .big _ _ _::r,q,h,m,j,f,v,hm,hj=>by
   simp only [readQ] at h;cases hm with
   | tail _ hm=>exact ln h m j f v hm hj
 | .read j' f' v'::r,q,h,m,j,f,v,hm,hj=>by
   simp only [readQ] at h;split at h
   ·rename_i hb
    split at h
    ·rename_i q' hv hr
     cases h;cases hm with
     | head =>
       rw [List.all_eq_true];intro g hg;cases g with
       | read _ _ _=>rfl
       | big i hb ha =>
         simp only;cases hi:Nat.beq i p.2 with
         | false=>rfl
         | true=>exact mH hv m.left i hb ha hg hi
     | tail _ hm=>exact ln hr m.right j f v hm hj
    ·cases h
   ·rename_i hb
    cases hm with
    | head=>rw [hj] at hb; cases hb
    | tail _ hm=>exact ln h m j f v hm hj
theorem jD{l:List Log}:∀ {ps:List (Nat×Nat)} {q:List db},pairsQ l ps=some q→Met q→ps.all (pairOk l)=true
 | [],q,_,_=>rfl
 | p::ps,q,h,m=>by
   simp only [pairsQ] at h;split at h
   ·rename_i a b h1 h2
    cases h;rw [List.all_cons,jD h2 m.right,Bool.and_true];unfold pairOk;rw [List.all_eq_true];intro r hr;cases r with
    | big _ _ _=>rfl
    | read j f v =>
      simp only;cases hj:Nat.beq j p.1 with
      | false=>rfl
      | true=>exact ln h1 m.left j f v hr hj
   ·cases h
def aRegionQ(P:Program)(call:aG)(cl:List (Tmp×Value))(ops:Array Oper)(draw:Bool)(st:St):Option (St×List db) :=
 match draw with
 | false=>runOpsQ P call cl ops ops.toList st
 | true=>match js P ops with
   | []=>runOpsQ P call cl ops ops.toList st
   | ps=>match runLogQ P call cl ops ops.toList 0 st with
     | some (st',l,q)=>match pairsQ l ps with
       | some q2=>some (st',q2++q)
       | none=>none
     | none=>none
def execQ(P:Program)(call:aG)(cl:List (Tmp×Value)):Nat→Code→St→Option (Exit×St×List db)
 | 0,_,_=>none
 | n+1,c,st=>match c with
   | .skip | .label _=>some (.normal,st,[])
   | .region _ ops draw=>match aRegionQ P call cl ops draw st with
     | some (st',q)=>some (.normal,st',q)
     | none=>none
   | .seq a b=>match execQ P call cl n a st with
     | some (.normal,st',q)=>match execQ P call cl n b st' with
       | some (e,st2,q2)=>some (e,st2,q++q2)
       | none=>none
     | r=>r
   | .cond x a b=>match st.eval x with
     | .bool true=>execQ P call cl n a st
     | .bool false=>execQ P call cl n b st
     | _=>none
   | .block id body=>match execQ P call cl n body st with
     | some (.exit i,st',q)=>match Nat.beq i id with
       | true=>some (.normal,st',q)
       | false=>some (.exit i,st',q)
     | r=>r
   | .loop body=>match execQ P call cl n body st with
     | some (.normal,st',q)=>match execQ P call cl n (.loop body) st' with
       | some (e,st2,q2)=>some (e,st2,q++q2)
       | none=>none
     | r=>r
   | .scope body=>execQ P call cl n body st
   | .exit id=>some (.exit id,st,[])
   | .ret=>some (.ret,st,[])
   | _=>none
section
variable {P:Program} {call:aG} {cl:List (Tmp×Value)}
theorem fS{o:Oper}{st:St}{v:Value}(h:plainV P st.eval st.hp.get st.hp.sz o=some v):aStep P call o st=some (v,st.hp,st.df):=by
 unfold plainV at h;unfold aStep;split at h
 ·rename_i hc
  simp only [hc];unfold fstV at h;split at h
  ·rename_i ho; cases h; simp only [ho]
  ·cases h
 ·rename_i hc
  simp only [hc,h]
 ·cases h
theorem kF{o:Oper}{st:St}{v:Value}{hp:Hp}{d:List (FuncId×List Value)}{q:List db}(h:stepQ P call cl o st=some (v,hp,d,q))(m:Met q):aStep P call o st=some (v,hp,d):=by
 unfold stepQ at h;split at h
 ·split at h
  ·split at h
   ·rename_i hs
    cases h;have:=m _ (.head _)
    simp only [Option.some.injEq] at this;rw [hs,this]
   ·cases h
  ·cases h
   exact fS (m _ (.head _))
 ·split at h
  ·rename_i hs; cases h; exact hs
  ·cases h
theorem jH{ops:Array Oper}:∀ {os:List Oper} {st st':St} {q:List db},runOpsQ P call cl ops os st=some (st',q)→Met q→runOps P call ops os st=some st'
 | [],st,st',q,h,m=>by cases h; rfl
 | o::os,st,st',q,h,m=>by
   unfold runOpsQ at h;unfold runOps;split at h
   ·rename_i hw; simp only [hw]; exact jH h m
   ·rename_i hw
    simp only [hw];split at h
    ·rename_i hs
     split at h
     ·rename_i hr
      cases h;simp only [kF hs m.left];exact jH hr m.right
     ·cases h
    ·cases h
theorem ig{ops:Array Oper}:∀ {os:List Oper} {i:Nat} {st st':St} {l:List Log} {q:List db},runLogQ P call cl ops os i st=some (st',l,q)→Met q→runLog P call ops os i st=some (st',l)
 | [],i,st,st',l,q,h,m=>by cases h; rfl
 | o::os,i,st,st',l,q,h,m=>by
   unfold runLogQ at h;unfold runLog;split at h
   ·rename_i hw; simp only [hw]; exact ig h m
   ·rename_i hw
    simp only [hw];split at h
    ·rename_i hs
     split at h
     ·rename_i hr
      split at h
      ·rename_i hc
       cases h;simp only [kF hs m.left,ig hr m.right,hc]
      ·rename_i hc
       cases h;simp only [kF hs m.left,ig hr m.right,hc]
      ·rename_i hc
       cases h;simp only [kF hs m.left,ig hr m.right,hc]
     ·cases h
    ·cases h
theorem oA{ops:Array Oper}{draw:Bool}{st st':St}{q:List db}(h:aRegionQ P call cl ops draw st=some (st',q))(m:Met q):aRegion P call ops draw st=some st':=by
 unfold aRegionQ at h;unfold aRegion;split at h
 ·exact jH h m
 ·cases hf:js P ops with
  | nil=>rw [hf] at h; exact jH h m
  | cons p ps =>
    rw [hf] at h;simp only at h ⊢;split at h
    ·rename_i hr
     split at h
     ·rename_i hp
      cases h;simp only [ig hr m.right,jD hp m.left]
     ·cases h
    ·cases h
theorem cX:∀ {n:Nat} {c:Code} {st st':St} {e:Exit} {q:List db},execQ P call cl n c st=some (e,st',q)→Met q→exec P call n c st=some (e,st')
 | 0,c,st,st',e,q,h,m=>by cases h
 | n+1,c,st,st',e,q,h,m=>by
   cases c with
   | skip=>cases h; rfl
   | label l=>cases h; rfl
   | exit i=>cases h; rfl
   | ret=>cases h; rfl
   | region id ops draw =>
     simp only [execQ] at h;simp only [exec];split at h
     ·rename_i hr; cases h; simp only [oA hr m]
     ·cases h
   | seq a b =>
     simp only [execQ] at h;simp only [exec];split at h
     ·rename_i ha
      split at h
      ·rename_i hb
       cases h;simp only [cX ha m.left];exact cX hb m.right
      ·cases h
     ·rename_i hne
      rw [cX h m];split
      ·rename_i heq; cases heq; exact absurd h (hne _ _)
      ·rfl
   | cond x a b =>
     simp only [execQ] at h;simp only [exec];split at h
     ·rename_i hx; simp only [hx]; exact cX h m
     ·rename_i hx; simp only [hx]; exact cX h m
     ·cases h
   | block id b =>
     simp only [execQ] at h;simp only [exec];split at h
     ·rename_i hb
      split at h
      ·rename_i hi; cases h; simp only [cX hb m,hi]
      ·rename_i hi; cases h; simp only [cX hb m,hi]
     ·rename_i hne
      rw [cX h m];split
      ·rename_i heq; cases heq; exact absurd h (hne _ _ _)
      ·rfl
   | loop b =>
     simp only [execQ] at h;simp only [exec];split at h
     ·rename_i ha
      split at h
      ·rename_i hb
       cases h;simp only [cX ha m.left];exact cX hb m.right
      ·cases h
     ·rename_i hne
      rw [cX h m];split
      ·rename_i heq; cases heq; exact absurd h (hne _ _)
      ·rfl
   | scope b =>
     simp only [execQ] at h;simp only [exec];exact cX h m
   | _=>cases h
end
def callQ(P:Program)(ext:Ext)(cl:List (Tmp×Value))(n:Nat)(f:FuncId)(args:List Value)(h:Hp):Option (Value×Hp×List db) :=
 match ext f with
 | some _=>none
 | none=>match P.funcs[f]? with
   | none=>none
   | some fn=>match fn.body with
     | none=>none
     | some c=>match Nat.ble args.length fn.ntmps with
       | false=>none
       | true=>match execQ P (aCall P ext n) cl n c ⟨tmsOf args 0 .leaf,h,[]⟩ with
         | some (.normal,st,q)=>match st.df with
           | []=>(retVal P fn st).map fun v=>(v,st.hp,q)
           | _::_=>none
         | some (.ret,st,q)=>match st.df with
           | []=>(retVal P fn st).map fun v=>(v,st.hp,q)
           | _::_=>none
         | _=>none
theorem CO{P:Program}{ext:Ext}{cl:List (Tmp×Value)}{n:Nat}{f:FuncId}{args:List Value}{h hp:Hp}{v:Value}{q:List db}(he:callQ P ext cl n f args h=some (v,hp,q))(m:Met q):aCall P ext (n+1) f args h=some (v,hp):=by
 unfold callQ at he;rw [aCall];split at he
 ·cases he
 ·rename_i hx
  simp only [hx];split at he
  ·cases he
  ·rename_i fn hf
   simp only [hf];split at he
   ·cases he
   ·rename_i c hb
    split at he
    ·cases he
    ·rename_i hn
     have key:∀ e st q',execQ P (aCall P ext n) cl n c ⟨tmsOf args 0 .leaf,h,[]⟩=some (e,st,q')→Met q'→(e = .normal∨e = .ret)→aBody P (aCall P ext n) n fn args h=some st:=by
       intro e st q' hx m' hee;unfold aBody;simp only [hb,hn,cX hx m'];rcases hee with rfl | rfl <;> rfl
     have fin:∀ (st:St),aBody P (aCall P ext n) n fn args h=some st→st.df = []→((retVal P fn st).map fun v=>(v,st.hp))=some (v,hp) →
         (match aBody P (aCall P ext n) n fn args h with
           | none=>none
           | some st=>match runDf (aPlain P ext (aCall P ext n) n) st.df st.hp with
             | some h'=>(retVal P fn { st with hp:=h' }).map fun v=>(v,h')
             | none=>none)=some (v,hp):=by
       intro st h1 h2 h3;obtain ⟨tm,dj,df⟩:=st;simp only at h2;subst h2;simp only [h1,runDf];exact h3
     split at he
     ·rename_i st q' hx
      split at he
      ·rename_i hd
       obtain ⟨v0,hv,e⟩:=Option.map_eq_some_iff.1 he;cases e;exact fin st (key _ st _ hx m (.inl rfl)) hd (by rw [hv]; rfl)
      ·cases he
     ·rename_i st q' hx
      split at he
      ·rename_i hd
       obtain ⟨v0,hv,e⟩:=Option.map_eq_some_iff.1 he;cases e;exact fin st (key _ st _ hx m (.inr rfl)) hd (by rw [hv]; rfl)
      ·cases he
     ·cases he
theorem aP{P:Program}{ext:Ext}(cl:List (Tmp×Value)){n:Nat}{f:FuncId}{args:List Value}{h:Hp}{v:Value}{q:List db}(he:(callQ P ext cl n f args h).map (fun r=>(r.1,r.2.2))=some (v,q))(m:Met q):∃ hp,aCall P ext (n+1) f args h=some (v,hp):=by
 obtain ⟨⟨v',hp,q'⟩,h1,h2⟩:=Option.map_eq_some_iff.1 he;cases h2;exact ⟨hp,CO h1 m⟩
end Go.Proofs.YtgeoommlmddgpaaGreat.AI
namespace Go.Proofs.YtgeoommlmddgpaaGreat.AI
open Go Go.RowKit
def flatD:Value→Bool
 | .agg cs=>cs.toList.all flat
 | v=>flat v
abbrev r7:=List (FuncId×(List Value→Option Value))
def hookOf:r7→FuncId→Option (List Value→Option Value)
 | [],_=>none
 | (g,k)::r,f=>match Nat.beq g f with
   | true=>some k
   | false=>hookOf r f
def cS(P:Program)(hs:r7):Ext:=fun f=>match hookOf hs f with
 | some g=>some fun _ args h=>(g args).map fun v=>(v,h)
 | none=>extOf P f
structure bL (P:Program) (f:FuncId) (g:List Value→Option Value):Prop where
 fn:∃ fn,P.funcs[f]? = some fn∧l5 P fn=true
 jc:∀ args v,g args=some v→args.all flatD=true∧flatD v=true
 run:∀ args v,g args=some v→∀ w,Calls P f args.toArray w fun e w'=>e = .returned v∧IU w.heap.size w w'
section
variable {P:Program}
theorem aj.wu{m:BM}{h:HG}{v v':Value}(hf:flatD v=true)(r:aj m h v v'):v'=v:=by
 cases v with
 | agg cs =>
   obtain ⟨a',rfl,r2⟩:=r.gZ;have:=aD.qC (by simpa [flatD] using hf) r2.toList
   congr 1
   cases a'; cases cs; simp_all
 | _=>exact r.of_flat (by simpa [flatD] using hf)
theorem aD.sy{m:BM}{h:HG}:∀ {asv bs:List Value},asv.all flatD=true→aD m h asv bs→bs=asv
 | [],bs,_,r=>r.of_nil
 | a::asv,bs,hf,r=>by
   obtain ⟨b,bs',rfl,h1,h2⟩:=r.of_cons;simp only [List.all_cons,Bool.and_eq_true] at hf;rw [h1.wu hf.1,aD.sy hf.2 h2]
theorem aj.flatD{m:BM}{h:HG}{v:Value}(hf:AI.flatD v=true):aj m h v v:=by
 cases v with
 | agg cs =>
   have:=aD.jc (m:=m) (h:=h) (asv:=cs.toList) (by simpa [AI.flatD] using hf)
   simpa using aj.Ar this
 | _=>exact .flat (by simpa [AI.flatD] using hf)
theorem aD.Dy{m:BM}{h:HG}:∀ {asv:List Value},asv.all AI.flatD=true→aD m h asv asv
 | [],_=>.nil
 | a::asv,hf=>by
   simp only [List.all_cons,Bool.and_eq_true] at hf;exact .cons (aj.flatD hf.1) (aD.Dy hf.2)
theorem DF{m:BM}{h:HG}{w w':World}(s:cg m h w)(b:IU w.heap.size w w'):dR m h w m h w':=by
 refine ⟨Le.refl _ _,⟨fun c x hx=>?_,s.inj⟩,b.size,fun _ _ hx=>.inl hx,fun r hr _=>b.block r hr,fun _ _ _ hm=>hm,fun _ _ ho _=>ho,fun _ o ho=>⟨o,ho⟩,fun _ _ _ hr=>hr,b.os,b.tape,b.output⟩
 obtain ⟨o,ho,hr⟩:=s.dom c x hx;refine ⟨o,ho,?_⟩
 by_cases hd:o = .dead
 ·subst hd; trivial
 ·refine hr.mono (Le.refl _ _) (b.block _ (s.lt hx ?_))
  unfold aV; rw [ho]; cases o <;> simp_all
theorem AU{f:FuncId}{g:List Value→Option Value}(hg:bL P f g):aq P f (fun args h=>(g args).map fun v=>(v,h)):=by
 intro args hp v hp' he hk;obtain ⟨v0,hv,e⟩:=Option.map_eq_some_iff.1 he;cases e;obtain ⟨q1,q2⟩:=hg.jc args v hv;obtain ⟨fn,hf,hs⟩:=hg.fn;obtain ⟨c,hb,_,hnm⟩:=gn hs;refine ⟨hk,Nat.le_refl _,fun m h w args' hfr s r=>.inr ⟨cC hf (by rw [hb]; rfl) hnm,?_⟩⟩
 have ha:args'=args.toArray:=by
  have:=aD.sy q1 r
  cases args'; simp_all
 subst ha;refine (hg.run args v hv w).mono fun e w' hh=>?_
 exact ⟨v,hh.1,m,DF s hh.2,aj.flatD q2⟩
def jm(P:Program)(hs:r7):Prop:=∀ p∈hs,bL P p.1 p.2
theorem qm:∀ {hs:r7} {f:FuncId} {g:List Value→Option Value},hookOf hs f=some g→(f,g)∈hs
 | [],f,g,h=>by cases h
 | (k,e)::r,f,g,h=>by
   unfold hookOf at h;split at h
   ·rename_i hb
    cases h;rw [Nat.eq_of_beq_eq_true hb];exact .head _
   ·exact .tail _ (qm h)
theorem aT{hs:r7}(h:jm P hs):ExtOk P (cS P hs):=by
 intro f;unfold cS;cases hf:hookOf hs f with
 | none=>exact vv P f
 | some g=>exact fun call _=>AU (h _ (qm hf))
theorem jm.nil:jm P []:=fun p hp=>by cases hp
theorem jm.cons{f:FuncId}{g:List Value→Option Value}{hs:r7}(h:bL P f g)(hr:jm P hs):jm P ((f,g)::hs):=fun p hp=>by
 cases hp with
 | head=>exact h
 | tail _ hp=>exact hr p hp
theorem vl{ext:Ext}(hx:ExtOk P ext)(hm:P.follows .mixedOrders=true){n:Nat}{f:FuncId}{args:List Value}{hp hp':Hp}{v:Value}(he:aCall P ext n f args hp=some (v,hp'))(hk:hp.ok)
  {m:BM} {w:World} {args':Array Value} (s:cg m hp.get w) (r:aD m hp.get args args'.toList) {fn:Func} (hf:P.funcs[f]? = some fn) (hb:fn.body.isSome=true) :
  Calls P f args' w fun e w'=>∃ v',e = .returned v'∧∃ m',dR m hp.get w m' hp'.get w'∧aj m' hp'.get v v':=by
 obtain ⟨k1,k2,k3⟩:=aQ hx hm n f args hp v hp' he hk;have e1:aM hp (fun _=>none)=hp.get:=by
  funext b; unfold aM
  split
  ·rfl
  ·rename_i hlt; exact (hk b (by omega)).symm
 have e2:aM hp' (fun _=>none)=hp'.get:=by
  funext b; unfold aM
  split
  ·rfl
  ·rename_i hlt; exact (k1 b (by omega)).symm
 have:=k3 m (fun _=>none) w args' (fun _ _ _=>rfl) (by rw [e1]; exact s) (by rw [e1]; exact r)
 rw [e1,e2] at this;rcases this with ⟨v',w',h1,_⟩ | ⟨_,h2⟩
 ·exfalso
  have hbn:fn.body.isNone=false:=by cases hq:fn.body <;> simp_all
  simp only [callFunc,Sem.run_bind,run_program,Result.andThen_ok,hf,hbn,Bool.false_eq_true,if_false] at h1;split at h1 <;> simp at h1
 ·exact h2
theorem di{ext:Ext}(hx:ExtOk P ext)(hm:P.follows .mixedOrders=true){f:FuncId}{fn:Func}{g:List Value→Option Value}(hf:P.funcs[f]? = some fn)(hs:l5 P fn=true)
  (h:∀ args v,g args=some v→args.all flatD=true∧flatD v=true∧∃ n hp',aCall P ext n f args aE=some (v,hp')):bL P f g:=by
 obtain ⟨c,hb,_,_⟩:=gn hs;refine ⟨⟨fn,hf,hs⟩,fun args v hg=>⟨(h args v hg).1,(h args v hg).2.1⟩,fun args v hg w=>?_⟩
 obtain ⟨q1,q2,n,hp',he⟩:=h args v hg;have r:aD KI aE.get args args.toArray.toList:=by simpa using aD.Dy q1
 refine (vl hx hm he iO WN r hf (by rw [hb]; rfl)).mono fun e w' hh=>?_
 obtain ⟨v',rfl,m',gg,rv⟩:=hh;exact ⟨by rw [rv.wu q2],gg.os,gg.tape,gg.output,gg.size,fun k hk=>gg.frame k hk fun b x hx _=>by cases hx⟩
end
end Go.Proofs.YtgeoommlmddgpaaGreat.AI
namespace Go.Proofs.YtgeoommlmddgpaaGreat.LtA
open Go Go.Proofs Go.Proofs.YtgeoommlmddgpaaGreat.AI
abbrev Iv(n:Int):Value:=.int .i64 n
abbrev OV:=Option Value
theorem mo:(∀ (α : Type) (a b : α),(bif true then a else b)=a)∧(∀ (α : Type) (a b : α),(bif false then a else b)=b)∧(!true)=false∧(!false)=true∧(∀ b,(b||true)=true)∧(∀ b,(b||false)=b)∧(∀ b,(true||b)=true)∧(∀ b,(false||b)=b)∧(∀ b,(b&&true)=b)∧(∀ b,(b&&false)=false)∧(∀ b,(true&&b)=b)∧(∀ b,(false&&b)=false):=⟨fun _ _ _=>rfl,fun _ _ _=>rfl,rfl,rfl,Bool.or_true,Bool.or_false,Bool.true_or,Bool.false_or,Bool.and_true,Bool.and_false,Bool.true_and,Bool.false_and⟩
theorem follows:Tryz.prog.follows .mixedOrders=true:=by kernel_rfl
def bE(b:Bool)(r:Option Bool):Option Bool:=match b with
 | true=>r
 | false=>some false
theorem eT(b c:Bool):bE b (some c)=some (b&&c):=by cases b <;> rfl
def dD(n1:Bool)(a1 b1 c1 d1 e1:Int)(n2:Bool)(a2 b2 c2 d2 e2:Int):Bool:=n1==n2&&(a1==a2&&(b1==b2&&(c1==c2&&(d1==d2&&(e1==e2&&true)))))
theorem TI(n1:Bool)(a1 b1 c1 d1 e1:Int)(n2:Bool)(a2 b2 c2 d2 e2:Int) :
  aBin Tryz.prog .eql 23 (.agg #[.bool n1,.int .i64 a1,.int .i64 b1,.int .i64 c1,.int .i64 d1,.int .i64 e1]) (.agg #[.bool n2,.int .i64 a2,.int .i64 b2,.int .i64 c2,.int .i64 d2,.int .i64 e2])=some (.bool (dD n1 a1 b1 c1 d1 e1 n2 a2 b2 c2 d2 e2)):=by
 have h:aBin Tryz.prog .eql 23 (.agg #[.bool n1,.int .i64 a1,.int .i64 b1,.int .i64 c1,.int .i64 d1,.int .i64 e1]) (.agg #[.bool n2,.int .i64 a2,.int .i64 b2,.int .i64 c2,.int .i64 d2,.int .i64 e2]) =
   (bE (n1==n2) (bE (a1==a2) (bE (b1==b2) (bE (c1==c2) (bE (d1==d2) (bE (e1==e2) (some true))))))).map .bool:=by kernel_rfl
 rw [h];simp only [eT,dD];rfl
theorem Pm(n1:Bool)(a1 b1 c1 d1 e1:Int)(n2:Bool)(a2 b2 c2 d2 e2:Int) :
  fstV ((aBin Tryz.prog .eql 23 (.agg #[.bool n1,.int .i64 a1,.int .i64 b1,.int .i64 c1,.int .i64 d1,.int .i64 e1]) (.agg #[.bool n2,.int .i64 a2,.int .i64 b2,.int .i64 c2,.int .i64 d2,.int .i64 e2])).map fun v=>(v,none))=some (.bool (dD n1 a1 b1 c1 d1 e1 n2 a2 b2 c2 d2 e2)):=by
 rw [TI]; rfl
def iN(n:Nat):Value:=.int .i64 (Int.ofNat n)
noncomputable def E0:Ext:=cS Tryz.prog []
end Go.Proofs.YtgeoommlmddgpaaGreat.LtA
namespace Go.Proofs.YtgeoommlmddgpaaGreat.AI
open Go Go.RowKit
def xX:HG:=fun _=>none
theorem cA{hp:Hp}(k:hp.ok):aM hp xX=hp.get:=by
 funext b; unfold aM
 split
 ·rfl
 ·rename_i hlt; exact (k b (by omega)).symm
structure bh where
 w:World
 S:Nat→Prop
def bh.shut(w:World):bh:=⟨w,fun _=>False⟩
structure gI (W:bh) (w':World):Prop where
 os:w'.os=W.w.os
 tape:Tp w' W.w
 output:w'.output=W.w.output
 size:W.w.heap.size≤w'.heap.size
 block:∀ k,k<W.w.heap.size→¬ W.S k→w'.heap[k]? = W.w.heap[k]?
theorem gI.refl(w:World)(S:Nat→Prop):gI ⟨w,S⟩ w:=⟨rfl,.refl _,rfl,Nat.le_refl _,fun _ _ _=>rfl⟩
theorem gI.shut{w w':World}(h:gI (bh.shut w) w'):IU w.heap.size w w':=⟨h.os,h.tape,h.output,h.size,fun k hk=>h.block k hk fun h=>h⟩
structure FR (n:Nat) (W:bh) (st:St) (a:Act) (w:World) (m:BM):Prop where
 ok:st.hp.ok
 rel:Rel n m xX w st a
 below:gI W w
 own:∀ b x,m b=some x→rw? st.hp.get b=true→W.w.heap.size≤x.1∨W.S x.1
theorem FR.go{n:Nat}{W:bh}{st st':St}{a a':Act}{w w':World}{m m':BM}(f:FR n W st a w m)(k:st'.hp.ok)(g:dR m (aM st.hp xX) w m' (aM st'.hp xX) w')(r:Rel n m' xX w' st' a'):FR n W st' a' w' m':=by
 rw [cA f.ok,cA k] at g;refine ⟨k,r,⟨g.os.trans f.below.os,g.tape.trans f.below.tape,g.output.trans f.below.output,Nat.le_trans f.below.size g.size,fun i hi hS=>?_⟩,fun b x hx hr=>?_⟩
 ·refine (g.frame i (Nat.lt_of_lt_of_le hi f.below.size) fun b x hx hr e=>?_).trans (f.below.block i hi hS)
  rcases f.own b x hx hr with h | h
  ·omega
  ·rw [e] at h; exact hS h
 ·rcases g.new b x hx with h | h | ⟨b0,x0,h0,hr0,e⟩
  ·exact f.own b x h (g.rwb b x h hr)
  ·exact .inl (Nat.le_trans f.below.size h)
  ·rw [← e]; exact f.own b0 x0 h0 hr0
section
variable {P:Program} {call:aG}
theorem Xx(hc:ba P call)(hm:P.follows .mixedOrders=true){N n:Nat}{c:Code}{st st':St}{e:Exit}(he:exec P call n c st=some (e,st'))(hs:codeSafe P N c=true){W:bh}{w:World}{a:Act}{m:BM}(f:FR N W st a w m) :
  c.wp P (fun e' a' w'=>e'=e∧∃ m',FR N W st' a' w' m') a w:=by
 obtain ⟨_,k1,_,k3⟩:=bK hc hm n c st e st' he hs f.ok;refine wp_mono (eS (k3 m xX w a (fun _ _ _=>rfl) f.rel)) fun e' a' w' q=>?_
 obtain ⟨q1,m',g,r⟩:=q;exact ⟨q1,m',f.go k1 g r⟩
theorem WM(hc:ba P call)(hm:P.follows .mixedOrders=true){N n:Nat}{c:Code}{cl:List (Tmp×Value)}{st st':St}{e:Exit}{q:List db}(he:execQ P call cl n c st=some (e,st',q))(hq:Met q)(hs:codeSafe P N c=true){W:bh}{w:World}{a:Act}{m:BM}(f:FR N W st a w m) :
 c.wp P (fun e' a' w'=>e'=e∧∃ m',FR N W st' a' w' m') a w:=Xx hc hm (cX he hq) hs f
end
def mkT(f:Nat→Value):Nat→Tr Value
 | 0=>.leaf
 | n+1=>Tr.set (f n) (n+1) n (mkT f n)
theorem zJ(f:Nat→Value):∀ n t,(mkT f n).get t=if t<n then some (f t) else none
 | 0,t=>by simp [mkT,Tr.vJ]
 | n+1,t=>by
   simp only [mkT,Tr.jv _ _ _ _ _ (Nat.lt_succ_self n),zJ f n];by_cases h:t=n
   ·subst h; simp
   ·rw [if_neg h]
    by_cases h2:t<n
    ·rw [if_pos h2,if_pos (by omega)]
    ·rw [if_neg h2,if_neg (by omega)]
def frame(g:Nat→Value)(L:List (Nat×Value)):Nat→Value:=fun t=>match L.find? (fun p=>Nat.beq p.1 t) with
 | some p=>p.2
 | none=>g t
def idxOf(b:Nat):List Nat→Nat→Option Nat
 | [],_=>none
 | c::cs,i=>match Nat.beq c b with
   | true=>some i
   | false=>idxOf b cs (i+1)
theorem gU{b:Nat}:∀ {K:List Nat} {i j:Nat},idxOf b K i=some j→∃ k,j=i+k∧K[k]? = some b
 | [],i,j,h=>by cases h
 | c::cs,i,j,h=>by
   unfold idxOf at h;split at h
   ·rename_i hb
    cases h;exact ⟨0,rfl,by simp [Nat.eq_of_beq_eq_true hb]⟩
   ·obtain ⟨k,h1,h2⟩:=gU h
    exact ⟨k+1,by omega,by simpa using h2⟩
def jj(K:List Nat)(b:Nat):Nat:=(idxOf b K 0).getD K.length
def ren1(K:List Nat):Value→Value
 | .pointer (some a)=>.pointer (some ⟨jj K a.block,a.off,a.spot⟩)
 | .slice (some a) l c=>.slice (some ⟨jj K a.block,a.off,a.spot⟩) l c
 | .map (some b)=>.map (some (jj K b))
 | v=>v
def ren(K:List Nat):Value→Value
 | .agg cs=>.agg (cs.map (ren1 K))
 | v=>ren1 K v
def nice:Value→Bool
 | .agg cs=>cs.toList.all fun v=>match v with | .agg _ | .tuple _ | .func ..=>false | _=>true
 | .tuple cs=>cs.isEmpty
 | .func ..=>false
 | _=>true
def heapOf:List af→Hp→Hp
 | [],h=>h
 | o::os,h=>heapOf os (h.push o)
theorem heapOf_get:∀ (os:List af) (h:Hp) (b:Nat),(heapOf os h).get b=if b<h.sz then h.get b else match os[b-h.sz]? with | some o=>some o | none=>h.get b
 | [],h,b=>by simp [heapOf]
 | o::os,h,b=>by
   rw [heapOf,heapOf_get os,Hp.jO,Hp.cy];by_cases h1:b<h.sz
   ·rw [if_pos (by omega),if_neg (by omega),if_pos h1]
   ·rw [if_neg h1]
    by_cases h2:b=h.sz
    ·subst h2; simp
    ·rw [if_neg (by omega),if_neg h2,show b-h.sz=(b-(h.sz+1))+1 from by omega]
     simp
theorem bF:∀ (os:List af) (h:Hp),h.ok→(heapOf os h).ok
 | [],h,k=>k
 | o::os,h,k=>bF os _ (k.push o)
theorem TM{m m2:BM}{h h2:HG}{D:Nat}(hD:h2 D=some .dead){v v':Value}(r:aj m h v v'):∃ u,aj m2 h2 u v':=by
 have arr:∀ {a a':Array Value},a.size=a'.size→(∀ (i:Nat) (x x':Value),a[i]? = some x→a'[i]? = some x'→∃ u,aj m2 h2 u x')→∃ b:Array Value,b.size=a'.size∧∀ (i:Nat) (x x':Value),b[i]? = some x→a'[i]? = some x'→aj m2 h2 x x':=by
  intro a a' hs hi;have hc:∀ i:Fin a'.size,∃ u,aj m2 h2 u a'[i]:=fun i =>
   hi i (a[i.1]'(by have:=i.2; omega)) a'[i] (Array.getElem?_eq_getElem _) (Array.getElem?_eq_getElem _)
  refine ⟨Array.ofFn fun i=>(hc i).choose,by simp,fun i x x' h1 h2=>?_⟩
  obtain ⟨hi1,rfl⟩:=Array.getElem?_eq_some_iff.1 h1
  obtain ⟨hi2,rfl⟩:=Array.getElem?_eq_some_iff.1 h2
  simp only [Array.getElem_ofFn];exact (hc ⟨i,hi2⟩).choose_spec
 induction r with
 | flat hf=>exact ⟨_,.flat hf⟩
 | blind h1=>exact ⟨_,.blind h1⟩
 | blind0=>exact ⟨_,.blind0⟩
 | junk h1=>exact ⟨_,.junk h1⟩
 | @ptr b off r off' h1=>exact ⟨.pointer (some ⟨D,off,none⟩),.ptr (.inl hD)⟩
 | @slice b off len c r off' cap h0 h1=>exact ⟨.slice (some ⟨D,off,none⟩) len c,.slice h0 (.inl hD)⟩
 | map h1=>exact ⟨.map (some D),.map (.inl hD)⟩
 | @func f a a' c c' h1 _ h3 _ ih1 ih2 =>
   obtain ⟨x,x1,x2⟩:=arr h1 ih1;obtain ⟨y,y1,y2⟩:=arr h3 ih2;exact ⟨.func (.func f) x y,.func x1 x2 y1 y2⟩
 | agg h1 _ ih =>
   obtain ⟨x,x1,x2⟩:=arr h1 ih;exact ⟨.agg x,.agg x1 x2⟩
 | tuple h1 _ ih =>
   obtain ⟨x,x1,x2⟩:=arr h1 ih;exact ⟨.tuple x,.tuple x1 x2⟩
def canM(m:BM)(K:List Nat):BM:=fun b2=>match K[b2]? with
 | some b=>m b
 | none=>none
def ah(P:Program)(N:Nat)(W:bh)(c:Code)(st:St)(Q:Exit→St→Prop):Prop :=
 ∀ a w m,FR N W st a w m→c.wp P (fun e a' w'=>∃ st' m',FR N W st' a' w' m'∧Q e st') a w
section
variable {P:Program} {N:Nat} {W:bh}
theorem ah.mono{c:Code}{st:St}{Q Q':Exit→St→Prop}(h:ah P N W c st Q)(hq:∀ e st',Q e st'→Q' e st'):ah P N W c st Q':=fun a w m f =>
 wp_mono (h a w m f) fun e a' w' hh=>by
  obtain ⟨st',m',f',q⟩:=hh;exact ⟨st',m',f',hq e st' q⟩
theorem ah.seq{x y:Code}{st:St}{Q1 Q:Exit→St→Prop}(h1:ah P N W x st Q1)(h2:∀ st',Q1 .normal st'→ah P N W y st' Q)(h3:∀ e st',e≠.normal→Q1 e st'→Q e st'):ah P N W (.seq x y) st Q:=fun a w m f=>by
 refine wp_seq (wp_mono (h1 a w m f) fun e a' w' hh=>?_)
 obtain ⟨st',m',f',q⟩:=hh;cases e with
 | normal=>exact h2 st' q a' w' m' f'
 | _=>exact ⟨st',m',f',h3 _ st' (by simp) q⟩
theorem ah.block{id:Nat}{x:Code}{st:St}{Q:Exit→St→Prop}(h:ah P N W x st fun e st'=>match e with | .exit i=>if i=id then Q .normal st' else Q (.exit i) st' | e=>Q e st'):ah P N W (.block id x) st Q:=fun a w m f=>by
 refine wp_block (wp_mono (h a w m f) fun e a' w' hh=>?_)
 obtain ⟨st',m',f',q⟩:=hh;cases e with
 | exit i =>
   show (if i=id then _ else _)
   by_cases hi:i=id
   ·simp only [hi,if_true] at q ⊢
    exact ⟨st',m',f',q⟩
   ·simp only [hi,if_false] at q ⊢
    exact ⟨st',m',f',q⟩
 | _=>exact ⟨st',m',f',q⟩
theorem ah.cond_true{x:Operand}{y z:Code}{st:St}{Q:Exit→St→Prop}(hx:gv x=true)(hv:st.eval x = .bool true)(h:ah P N W y st Q):ah P N W (.cond x y z) st Q:=fun a w m f=>by
 refine wp_cond_true ?_ (h a w m f)
 have:=f.rel.tm.eval hx
 rw [hv] at this;exact this.of_bool
theorem sE{c:Code}{Q:Exit→Act→World→Prop}:∀ n a w,Code.rounds P c Q n a w→Code.rounds P c Q (n+1) a w
 | 0,_,_,h=>h.elim
 | n+1,a,w,h=>by
   rw [rounds_succ] at h ⊢;refine wp_mono h fun e a' w' q=>?_
   cases e with
   | normal=>exact sE n a' w' q
   | _=>exact q
theorem oe{c:Code}{Q:Exit→Act→World→Prop}{n n':Nat}{a:Act}{w:World}(h:n≤n')(k:Code.rounds P c Q n a w):Code.rounds P c Q n' a w:=by
 induction n' with
 | zero =>
   have:n=0:=by omega
   subst this; exact k
 | succ n' ih =>
   rcases Nat.lt_or_ge n' n with q | q
   ·have:n=n'+1:=by omega
    subst this; exact k
   ·exact sE n' a w (ih q)
theorem ah.loop{x:Code}{Q:Exit→St→Prop}(I:Nat→St→Prop)(hI:∀ k st,I k st→ah P N W x st fun e st'=>(e = .normal∧∃ k',k'<k∧I k' st')∨(e≠.normal∧Q e st')){k:Nat}{st:St}(h:I k st):ah P N W (.loop x) st Q:=fun a w m f=>by
 have key:∀ k st a w m,I k st→FR N W st a w m→Code.rounds P x (fun e a' w'=>∃ st' m',FR N W st' a' w' m'∧Q e st') (k+1) a w:=by
  intro k;induction k using Nat.strongRecOn with
  | _ k ih =>
    intro st a w m hi f;rw [rounds_succ];refine wp_mono (hI k st hi a w m f) fun e a' w' hh=>?_
    obtain ⟨st',m',f',q⟩:=hh;rcases q with ⟨rfl,k',hk,hi'⟩ | ⟨hne,q⟩
    ·exact oe (show k'+1≤k by omega) (ih k' hk st' a' w' m' hi' f')
    ·cases e with
     | normal=>exact absurd rfl hne
     | _=>exact ⟨st',m',f',q⟩
 exact wp_loop_rounds (k+1) (key k st a w m h f)
theorem Dz{w0:World}{S:Nat→Prop}{f:FuncId}{fn:Func}{c:Code}{args:List Value}{args':Array Value}{hp:Hp}{m:BM}{R:Value→St→Prop}(hf:P.funcs[f]? = some fn)(hb:fn.body=some c)(hn:args.length≤fn.ntmps)(hk:hp.ok)
  (s:cg m hp.get w0) (ro:∀ b x,m b=some x→rw? hp.get b=true→S x.1) (r:aD m hp.get args args'.toList)
  (h:ah P fn.ntmps ⟨w0,S⟩ c ⟨tmsOf args 0 .leaf,hp,[]⟩ fun e st=>(e = .normal∨e = .ret)∧st.df = []∧∃ v,retVal P fn st=some v∧R v st) :
  Calls P f args' w0 fun e w'=>∃ v' v st' m',e = .returned v'∧R v st'∧aj m' st'.hp.get v v'∧cg m' st'.hp.get w'∧st'.hp.ok∧gI ⟨w0,S⟩ w'∧(∀ b x,m' b=some x→rw? st'.hp.get b=true→w0.heap.size≤x.1∨S x.1):=by
 refine calls_of_wp hf hb (wp_mono (h _ w0 m ⟨hk,⟨by rw [cA hk]; exact s,by rw [cA hk]; exact mG r hn,.nil⟩,gI.refl _ _,fun b x hx hr=>.inr (ro b x hx hr)⟩) fun e a' w' hh=>?_)
 obtain ⟨st',m',f',q1,q2,v,q3,q4⟩:=hh;have hd:a'.defers = []:=by
  have:=f'.rel.df
  rw [q2] at this;exact this.of_nil
 obtain ⟨v',h1,h2⟩:=fl f'.ok f'.rel.sim f'.rel.tm q3;have e1:=cA f'.ok
 have hs:=f'.rel.sim
 rw [e1] at h2 hs;rcases q1 with rfl | rfl
 ·exact ⟨hd,v',h1,v',v,st',m',rfl,q4,h2,hs,f'.ok,f'.below,f'.own⟩
 ·exact ⟨hd,v',h1,v',v,st',m',rfl,q4,h2,hs,f'.ok,f'.below,f'.own⟩
theorem Ji{w0:World}{f:FuncId}{fn:Func}{c:Code}{args:List Value}{args':Array Value}{hp:Hp}{m:BM}{R:Value→St→Prop}(hf:P.funcs[f]? = some fn)(hb:fn.body=some c)(hn:args.length≤fn.ntmps)(hk:hp.ok)
  (s:cg m hp.get w0) (ro:∀ b,rw? hp.get b=false) (r:aD m hp.get args args'.toList)
  (h:ah P fn.ntmps (bh.shut w0) c ⟨tmsOf args 0 .leaf,hp,[]⟩ fun e st=>(e = .normal∨e = .ret)∧st.df = []∧∃ v,retVal P fn st=some v∧R v st) :
  Calls P f args' w0 fun e w'=>∃ v' v st' m',e = .returned v'∧R v st'∧aj m' st'.hp.get v v'∧cg m' st'.hp.get w'∧st'.hp.ok∧IU w0.heap.size w0 w'∧(∀ b x,m' b=some x→rw? st'.hp.get b=true→w0.heap.size≤x.1):=by
 refine (Dz (S:=fun _=>False) hf hb hn hk s (fun b x _ hr=>by rw [ro b] at hr; cases hr) r h).mono fun e w' hh=>?_
 obtain ⟨v',v,st',m',q1,q2,q3,q4,q5,q6,q7⟩:=hh;exact ⟨v',v,st',m',q1,q2,q3,q4,q5,q6.shut,fun b x hx hr=>(q7 b x hx hr).elim id False.elim⟩
end
def mb(K:List Nat):Value→Value
 | .func f a b=>.func f (a.map (ren1 K)) (b.map (ren1 K))
 | v=>ren K v
def nice1:Value→Bool
 | .agg _ | .tuple _ | .func ..=>false
 | _=>true
def oO:Value→Bool
 | .func (.func _) a b=>a.toList.all nice1&&b.toList.all nice1
 | v=>nice v
theorem eW{f:Value→Value}(hf:∀ v b,f v = .map (some b)→∃ c,v = .map (some c)){cs:List Value}(h:keysBox (cs.map f)=true):keysBox cs=true:=by
 match cs,h with
 | [],h=>cases h
 | [v],h =>
   simp only [List.map_cons,List.map_nil] at h;cases e:f v with
   | map a =>
     cases a with
     | none=>rw [e] at h; cases h
     | some b=>obtain ⟨c,rfl⟩:=hf v b e; rfl
   | _=>rw [e] at h; cases h
 | _::_::_,h=>simp [keysBox] at h
theorem EK{K:List Nat}:∀ v b,mb K v = .map (some b)→∃ c,v = .map (some c):=by
 intro v b h;cases v with
 | map a=>cases a with
   | none=>cases h
   | some c=>exact ⟨c,rfl⟩
 | pointer a=>cases a <;> cases h
 | slice a l c=>cases a <;> cases h
 | _=>cases h
def bX(K:List Nat):af→af
 | .cells ty cs ro=>.cells ty (cs.map (mb K)) ro
 | .map es cl ro=>.map (es.map fun e=>(e.1,mb K e.2.1,e.2.2)) cl ro
 | .dead=>.dead
def fM:af→Bool
 | .cells _ cs _=>cs.all oO
 | .map es _ _=>es.all fun e=>oO e.2.1
 | .dead=>true
theorem FR.tG{n:Nat}{W:bh}{w:World}{st:St}{a:Act}{m:BM}(f:FR n W st a w m)(K:List Nat)(O:List af)(L:List (Nat×Value))(hK:K.Nodup)(hO:O.length=K.length)
  (hB:∀ (i b:Nat) (o2:af),K[i]? = some b→O[i]? = some o2→∃ o,st.hp.get b=some o∧o2=bX K o∧fM o=true)
  (hL:∀ p∈L,p.1<n∧oO (st.dK p.1)=true∧p.2=mb K (st.dK p.1)) (hd:st.df = []) :
  ∃ g,FR n W ⟨mkT (frame g L) n,heapOf (O ++ [.dead]) aE,[]⟩ a w (canM m K):=by
 have hget:∀ b2,(heapOf (O ++ [.dead]) aE).get b2=(O ++ [af.dead])[b2]?:=by
  intro b2;rw [heapOf_get];simp only [aE,Nat.not_lt_zero,if_false,Nat.sub_zero];cases (O ++ [af.dead])[b2]? <;> rfl
 have hD:(heapOf (O ++ [.dead]) aE).get K.length=some .dead:=by
  rw [hget,← hO]; simp
 have hold:∀ (i b:Nat),K[i]? = some b→∃ o o2,st.hp.get b=some o∧(heapOf (O ++ [.dead]) aE).get i=some o2∧o2=bX K o∧fM o=true:=by
  intro i b hi;have hlt:i<O.length:=by rw [hO]; exact (List.getElem?_eq_some_iff.1 hi).1
  have h2:O[i]? = some O[i]:=List.getElem?_eq_getElem hlt
  obtain ⟨o,h3,h4⟩:=hB i b _ hi h2;exact ⟨o,O[i],h3,by rw [hget,List.getElem?_append_left hlt,h2],h4⟩
 have inj:∀ (i j b:Nat),K[i]? = some b→K[j]? = some b→i=j:=by
  intro i j b h1 h2;obtain ⟨q1,e1⟩:=List.getElem?_eq_some_iff.1 h1
  obtain ⟨q2,e2⟩:=List.getElem?_eq_some_iff.1 h2
  have hp:=List.pairwise_iff_getElem.1 hK
  rcases Nat.lt_trichotomy i j with q | q | q
  ·exact absurd (e1.trans e2.symm) (hp i j q1 q2 q)
  ·exact q
  ·exact absurd (e2.trans e1.symm) (hp j i q2 q1 q)
 have hrel:=f.rel
 have e0:aM st.hp xX=st.hp.get:=cA f.ok
 have uL:(heapOf (O ++ [.dead]) aE).ok:=bF _ _ iO
 have sim:=hrel.sim
 rw [e0] at sim;have tm:=hrel.tm
 rw [e0] at tm

 have pt:∀ b (Q:Prop),(st.hp.get b=some .dead∨Q)→(heapOf (O ++ [.dead]) aE).get (jj K b)=some .dead∨(Q∧canM m K (jj K b)=m b):=by
  intro b Q hq;unfold jj;cases hi:idxOf b K 0 with
  | none=>exact .inl hD
  | some j =>
    obtain ⟨k,rfl,hk⟩:=gU hi;simp only [Nat.zero_add,Option.getD_some];rcases hq with hq | hq
    ·obtain ⟨o,o2,h1,h2,h3⟩:=hold k b hk
     rw [hq] at h1; cases h1;rw [h2,h3.1]; exact .inl rfl
    ·exact .inr ⟨hq,by unfold canM; rw [hk]⟩
 have one:∀ {v v':Value},aj m st.hp.get v v'→(match v with | .agg _ | .tuple _ | .func ..=>false | _=>true)=true→aj (canM m K) (heapOf (O ++ [.dead]) aE).get (ren1 K v) v':=by
  intro v v' r hv;cases r with
  | flat hf =>
    have:ren1 K v=v:=by cases v with
      | pointer a=>cases a <;> first | rfl | (simp [AI.flat] at hf)
      | slice a l c=>cases a <;> first | rfl | (simp [AI.flat] at hf)
      | map a=>cases a <;> first | rfl | (simp [AI.flat] at hf)
      | _=>rfl
    rw [this]; exact .flat hf
  | ptr h1 =>
    rcases pt _ _ h1 with h | ⟨⟨δ,E,q1,q2⟩,e⟩
    ·exact .ptr (.inl h)
    ·exact .ptr (.inr ⟨δ,E,by rw [e]; exact q1,q2⟩)
  | slice h0 h1 =>
    rcases pt _ _ h1 with h | ⟨⟨δ,E,q1,q2⟩,e⟩
    ·exact .slice h0 (.inl h)
    ·exact .slice h0 (.inr ⟨δ,E,by rw [e]; exact q1,q2⟩)
  | blind h1=>exact .blind h1
  | blind0=>exact .blind0
  | junk h1=>exact .junk h1
  | map h1 =>
    rcases pt _ _ h1 with h | ⟨⟨x,q1⟩,e⟩
    ·exact .map (.inl h)
    ·exact .map (.inr ⟨x,by rw [e]; exact q1⟩)
  | func _ _ _ _=>cases hv
  | agg _ _=>cases hv
  | tuple _ _=>cases hv
 have two:∀ {v v':Value},aj m st.hp.get v v'→nice v=true→aj (canM m K) (heapOf (O ++ [.dead]) aE).get (ren K v) v':=by
  intro v v' r hv;cases v with
  | agg cs =>
    obtain ⟨a',rfl,h1,h2⟩:=r.gZ;refine .agg (by simpa using h1) fun i x x' q1 q2=>?_
    simp only [Array.getElem?_map,Option.map_eq_some_iff] at q1
    obtain ⟨y,hy,rfl⟩:=q1;refine one (h2 i y x' hy q2) ?_
    have:=List.all_eq_true.1 hv y (Array.mem_toList_iff.2 (Array.mem_of_getElem? hy))
    exact this
  | tuple cs =>
    obtain ⟨a',rfl,h1,h2⟩:=r.kx;have he:cs = #[]:=by simpa [nice] using hv
    subst he;exact .tuple h1 fun i x x' q1 _=>by simp [ren,ren1] at q1
  | func fn x y=>cases hv
  | _=>exact one r rfl
 have three:∀ {v v':Value},aj m st.hp.get v v'→oO v=true→aj (canM m K) (heapOf (O ++ [.dead]) aE).get (mb K v) v':=by
  intro v v' r hv;cases v with
  | func fn x y =>
    cases r with
    | flat hf=>simp [AI.flat] at hf
    | func h1 h2 h3 h4 =>
      have hv':=Bool.and_eq_true_iff.1 hv
      refine .func (by simpa using h1) (fun i u u' q1 q2=>?_) (by simpa using h3) (fun i u u' q1 q2=>?_)
      ·simp only [Array.getElem?_map,Option.map_eq_some_iff] at q1
       obtain ⟨z,hz,rfl⟩:=q1;exact one (h2 i z u' hz q2) (List.all_eq_true.1 hv'.1 z (Array.mem_toList_iff.2 (Array.mem_of_getElem? hz)))
      ·simp only [Array.getElem?_map,Option.map_eq_some_iff] at q1
       obtain ⟨z,hz,rfl⟩:=q1;exact one (h4 i z u' hz q2) (List.all_eq_true.1 hv'.2 z (Array.mem_toList_iff.2 (Array.mem_of_getElem? hz)))
  | _=>exact two r hv
 have hgarb:∀ t,∃ u,aj (canM m K) (heapOf (O ++ [.dead]) aE).get u (a.tmps.getD t undef):=fun t=>TM hD (tm.tm t)
 refine ⟨fun t=>(hgarb t).choose,uL,⟨?_,⟨tm.size,fun t=>?_⟩,?_⟩,f.below,?_⟩
 ·
  rw [cA uL];refine ⟨fun b2 x hx=>?_,fun b b' x x' hx hx' hr hl e=>?_⟩
  ·unfold canM at hx
   split at hx
   ·rename_i b hb
    obtain ⟨o,o2,h1,h2,h3,h4⟩:=hold b2 b hb;refine ⟨o2,h2,?_⟩
    obtain ⟨o',ho',hbr⟩:=sim.dom b x hx;rw [h1] at ho'; cases ho';subst h3;cases o with
    | cells ty cs ro =>
      obtain ⟨c,fr,g1,g2,g3,g4,g5⟩:=hbr;refine ⟨c,fr,g1,by simpa using g2,g3,fun i v v' q1 q2=>?_,g5.1,fun hr hk=>g5.2 hr (eW EK hk)⟩
      simp only [List.getElem?_map,Option.map_eq_some_iff] at q1
      obtain ⟨z,hz,rfl⟩:=q1;exact three (g4 i z v' hz q2) (List.all_eq_true.1 h4 z (List.mem_of_getElem? hz))
    | map es cl ro =>
      obtain ⟨fs,g1,g2,g3⟩:=hbr;refine ⟨fs,g1,by simpa using g2,fun i e ff q1 q2=>?_⟩
      simp only [List.getElem?_map,Option.map_eq_some_iff] at q1
      obtain ⟨z,hz,rfl⟩:=q1;obtain ⟨p1,p2,p3,p4⟩:=g3 i z ff hz q2;exact ⟨p1,p2,three p3 (List.all_eq_true.1 h4 z (List.mem_of_getElem? hz)),p4⟩
    | dead=>trivial
   ·cases hx
  ·unfold canM at hx hx'
   split at hx
   ·rename_i c hc
    split at hx'
    ·rename_i c' hc'
     obtain ⟨o,o2,h1,h2,h3,_⟩:=hold b c hc;obtain ⟨o',o2',h1',h2',h3',_⟩:=hold b' c' hc';subst h3; subst h3';have hr':rw? st.hp.get c=true:=by unfold rw? at hr ⊢; rw [h1]; rw [h2] at hr; cases o <;> exact hr
     have hl':aV st.hp.get c'=true:=by unfold aV at hl ⊢; rw [h1']; rw [h2'] at hl; cases o' <;> exact hl
     have:=sim.inj c c' x x' hx hx' hr' hl' e
     subst this;exact inj b b' c hc hc'
    ·cases hx'
   ·cases hx
 ·rw [cA uL]
  simp only [St.dK,zJ];by_cases ht:t<n
  ·rw [if_pos ht]
   simp only [Option.getD_some,frame];cases hq:L.find? (fun p=>Nat.beq p.1 t) with
   | none=>exact (hgarb t).choose_spec
   | some p =>
     have h1:=List.find?_some hq
     have h2:=List.mem_of_find?_eq_some hq
     have e:p.1=t:=Nat.eq_of_beq_eq_true h1
     subst e;obtain ⟨_,h3,h4⟩:=hL p h2;simp only;rw [h4];exact three (tm.tm p.1) h3
  ·rw [if_neg ht]
   have:a.tmps.getD t undef=undef:=by
     have hs:=tm.size
     simp [Array.getElem?_eq_none (show a.tmps.size≤t by omega)]
   rw [this];exact aj.undef
 ·rw [cA uL]
  have:=hrel.df
  rw [hd] at this;rw [this.of_nil];exact .nil
 ·intro b2 x hx hr
  unfold canM at hx;split at hx
  ·rename_i b hb
   obtain ⟨o,o2,h1,h2,h3,_⟩:=hold b2 b hb;subst h3;exact f.own b x hx (by unfold rw? at hr ⊢; rw [h1]; rw [h2] at hr; cases o <;> exact hr)
  ·cases hx
theorem FR.CP{n:Nat}{W:bh}{w:World}{st:St}{a:Act}{m:BM}(f:FR n W st a w m)(K:List Nat)(O:List af)(L:List (Nat×Value))(hK:K.Nodup)(hO:O.length=K.length)
  (hB:∀ (i b:Nat) (o2:af),K[i]? = some b→O[i]? = some o2→∃ o,st.hp.get b=some o∧o2=bX K o∧fM o=true)
  (hL:∀ p∈L,p.1<n∧oO (st.dK p.1)=true∧p.2=mb K (st.dK p.1)) (hd:st.df = []) :
  ∃ g m2,FR n W ⟨mkT (frame g L) n,heapOf (O ++ [.dead]) aE,[]⟩ a w m2:=by
 obtain ⟨g,h⟩:=f.tG K O L hK hO hB hL hd;exact ⟨g,_,h⟩
def nodupB:List Nat→Bool
 | []=>true
 | a::asv=>(asv.all fun b=>!Nat.beq a b)&&nodupB asv
theorem fF:∀ {K:List Nat},nodupB K=true→K.Nodup
 | [],_=>List.nodup_nil
 | a::asv,h=>by
   unfold nodupB at h;obtain ⟨h1,h2⟩:=Bool.and_eq_true_iff.1 h;refine List.nodup_cons.2 ⟨fun hm=>?_,fF h2⟩
   have:=List.all_eq_true.1 h1 a hm
   simp at this
section
variable {P:Program} {N:Nat} {W:bh}
end
abbrev aC:=List Value→Hp→Option (Value×Hp)
def heapOfFn:List (FuncId×aC)→FuncId→Option aC
 | [],_=>none
 | (g,k)::r,f=>match Nat.beq g f with
   | true=>some k
   | false=>heapOfFn r f
def fh(base:Ext)(hs:List (FuncId×aC)):Ext:=fun f=>match heapOfFn hs f with
 | some g=>some fun _ args h=>g args h
 | none=>base f
def gA(P:Program)(hs:List (FuncId×aC)):Prop:=∀ p∈hs,aq P p.1 p.2
theorem mW:∀ {hs:List (FuncId×aC)} {f:FuncId} {g:aC},heapOfFn hs f=some g→(f,g)∈hs
 | [],f,g,h=>by cases h
 | (k,e)::r,f,g,h=>by
   unfold heapOfFn at h;split at h
   ·rename_i hb
    cases h;rw [Nat.eq_of_beq_eq_true hb];exact .head _
   ·exact .tail _ (mW h)
section
variable {P:Program}
theorem bC{base:Ext}{hs:List (FuncId×aC)}(hb:ExtOk P base)(h:gA P hs):ExtOk P (fh base hs):=by
 intro f;unfold fh;cases hf:heapOfFn hs f with
 | none=>exact hb f
 | some g=>exact fun call _=>h _ (mW hf)
theorem gA.nil:gA P []:=fun p hp=>by cases hp
theorem gA.cons{f:FuncId}{g:aC}{hs:List (FuncId×aC)}(h:aq P f g)(hr:gA P hs):gA P ((f,g)::hs):=fun p hp=>by
 cases hp with
 | head=>exact h
 | tail _ hp=>exact hr p hp
end
def sh1(K:List Nat)(B:Nat):Value→Value
 | .pointer (some a)=>.pointer (some ⟨B+jj K a.block,a.off,a.spot⟩)
 | .slice (some a) l c=>.slice (some ⟨B+jj K a.block,a.off,a.spot⟩) l c
 | .map (some b)=>.map (some (B+jj K b))
 | v=>v
def sh2(K:List Nat)(B:Nat):Value→Value
 | .func f a b=>.func f (a.map (sh1 K B)) (b.map (sh1 K B))
 | .agg cs=>.agg (cs.map (sh1 K B))
 | v=>sh1 K B v
def sh3(K:List Nat)(B:Nat):Value→Value
 | .tuple cs=>.tuple (cs.map (sh2 K B))
 | v=>sh2 K B v
def ok2:Value→Bool
 | .func (.func _) a b=>a.toList.all nice1&&b.toList.all nice1
 | .agg cs=>cs.toList.all nice1
 | v=>nice1 v
def hU:Value→Bool
 | .tuple cs=>cs.toList.all ok2
 | v=>ok2 v
theorem uD{K:List Nat}{B:Nat}:∀ v b,sh2 K B v = .map (some b)→∃ c,v = .map (some c):=by
 intro v b h;cases v with
 | map a=>cases a with
   | none=>cases h
   | some c=>exact ⟨c,rfl⟩
 | pointer a=>cases a <;> cases h
 | slice a l c=>cases a <;> cases h
 | _=>cases h
def jV(K:List Nat)(B:Nat):af→af
 | .cells ty cs ro=>.cells ty (cs.map (sh2 K B)) ro
 | .map es cl ro=>.map (es.map fun e=>(e.1,sh2 K B e.2.1,e.2.2)) cl ro
 | .dead=>.dead
def cR:af→Bool
 | .cells _ cs _=>cs.all ok2
 | .map es _ _=>es.all fun e=>ok2 e.2.1
 | .dead=>true
abbrev Deep:=List Value→Option (Nat→Value×List af)
section
variable {P:Program}
theorem cr:∀ (os:List af) (h:Hp),(heapOf os h).sz=h.sz+os.length
 | [],h=>rfl
 | o::os,h=>by rw [heapOf,cr os,Hp.jO]; simp; omega
def joinM(m m':BM)(K:List Nat)(B:Nat):BM:=fun b=>if B≤b∧b≤B+K.length then (match K[b-B]? with | some c=>m' c | none=>none) else m b
end
section
variable {P:Program} {w:World} {r:Reach} {base:Nat}
theorem gP{t:TypeId}{v:Value}(ht:P.underlying t=some .bool)(h:Cell.okWide P w r base t v):∃ b,v = .bool b:=by
 unfold Cell.okWide at h;rw [ht] at h;cases v <;> first | exact ⟨_,rfl⟩ | (simp [Cell.ok,ht] at h)
theorem bl{t:TypeId}{k:IntKind}{v:Value}(ht:P.underlying t=some (.int k))(h:Cell.okWide P w r base t v):∃ n,v = .int k n∧k.has n:=by
 unfold Cell.okWide at h;rw [ht] at h;cases v <;> first
  | (simp only [Cell.ok,ht] at h; obtain ⟨rfl,h2⟩:=h; exact ⟨_,rfl,h2⟩)
  | (simp [Cell.ok,ht] at h)
theorem vn{t e:TypeId}{v:Value}(ht:P.underlying t=some (.slice e))(h:Cell.okWide P w r base t v) :
  v = .slice none 0 0∨∃ b off n c,v = .slice (some ⟨b,off,none⟩) n c∧n≤c:=by
 unfold Cell.okWide at h;rw [ht] at h;cases v with
 | slice a n c =>
   cases a with
   | none =>
     cases n <;> cases c <;> first | exact .inl rfl | (simp [Cell.ok,ht] at h)
   | some a =>
     simp only [Cell.ok,ht] at h;obtain ⟨h1,_,_,h2,_⟩:=h;obtain ⟨b,off,sp⟩:=a;simp only at h2;subst h2;exact .inr ⟨b,off,n,c,rfl,h1⟩
 | _=>simp [Cell.ok,ht] at h
theorem oQ{t:TypeId}{fs:Array Field}{ts:List TypeId}{v:Value}(ht:P.underlying t=some (.struct fs))(hc:P.cellTypes P.depth t=some ts)(hn:P.cellsOf t=ts.length)(h:Value.okWide P w r base t v) :
  ∃ cs:Array Value,v = .agg cs∧cs.size=ts.length∧∀ (i:Nat) (u:TypeId) (x:Value),ts[i]? = some u→cs[i]? = some x→Cell.okWide P w r base u x:=by
 unfold Value.okWide at h;rw [ht] at h;obtain ⟨cs,rfl,h1,ts',h2,_,h3⟩:=h;rw [hc] at h2; cases h2;refine ⟨cs,rfl,h1.trans hn,fun i u x hu hx=>?_⟩
 have hi:i<ts.length:=(List.getElem?_eq_some_iff.1 hu).1
 obtain ⟨u',h4,h5⟩:=h3 i x hx;rw [Nat.mod_eq_of_lt hi,hu] at h4; cases h4;exact h5
end
def dj:Hp:=heapOf [.dead] aE
def blind(n:Nat):Value:=.slice (some ⟨0,0,none⟩) n 2
variable {P:Program}
end Go.Proofs.YtgeoommlmddgpaaGreat.AI
namespace Go.Proofs.YtgeoommlmddgpaaGreat.AI
open Go Go.RowKit
def PT(m:BM)(h:HG)(m2:BM)(h2:HG)(K:List Nat)(B:Nat):Prop :=
 ∀ b (Q:Prop),(h b=some .dead∨Q)→h2 (B+jj K b)=some .dead∨(Q∧m2 (B+jj K b)=m b)
section
variable {m m2:BM} {h h2:HG} {K:List Nat} {B:Nat}
theorem PT.one(pt:PT m h m2 h2 K B){v v':Value}(r:aj m h v v')(hv:nice1 v=true):aj m2 h2 (sh1 K B v) v':=by
 cases r with
 | flat hf =>
   have:sh1 K B v=v:=by cases v with
     | pointer a=>cases a <;> first | rfl | (simp [AI.flat] at hf)
     | slice a l c=>cases a <;> first | rfl | (simp [AI.flat] at hf)
     | map a=>cases a <;> first | rfl | (simp [AI.flat] at hf)
     | _=>rfl
   rw [this]; exact .flat hf
 | ptr h1 =>
   rcases pt _ _ h1 with h | ⟨⟨δ,E,q1,q2⟩,e⟩
   ·exact .ptr (.inl h)
   ·exact .ptr (.inr ⟨δ,E,by rw [e]; exact q1,q2⟩)
 | slice h0 h1 =>
   rcases pt _ _ h1 with h | ⟨⟨δ,E,q1,q2⟩,e⟩
   ·exact .slice h0 (.inl h)
   ·exact .slice h0 (.inr ⟨δ,E,by rw [e]; exact q1,q2⟩)
 | blind h1=>exact .blind h1
 | blind0=>exact .blind0
 | junk h1=>exact .junk h1
 | map h1 =>
   rcases pt _ _ h1 with h | ⟨⟨x,q1⟩,e⟩
   ·exact .map (.inl h)
   ·exact .map (.inr ⟨x,by rw [e]; exact q1⟩)
 | func _ _ _ _=>cases hv
 | agg _ _=>cases hv
 | tuple _ _=>cases hv
theorem PT.two(pt:PT m h m2 h2 K B){v v':Value}(r:aj m h v v')(hv:ok2 v=true):aj m2 h2 (sh2 K B v) v':=by
 cases v with
 | agg cs =>
   obtain ⟨a',rfl,h1,h2⟩:=r.gZ;refine .agg (by simpa using h1) fun i x x' q1 q2=>?_
   simp only [Array.getElem?_map,Option.map_eq_some_iff] at q1
   obtain ⟨y,hy,rfl⟩:=q1;exact pt.one (h2 i y x' hy q2) (List.all_eq_true.1 hv y (Array.mem_toList_iff.2 (Array.mem_of_getElem? hy)))
 | func fn x y =>
   cases r with
   | flat hf=>simp [AI.flat] at hf
   | func h1 h2 h3 h4 =>
     have hv':=Bool.and_eq_true_iff.1 hv
     refine .func (by simpa using h1) (fun i u u' q1 q2=>?_) (by simpa using h3) (fun i u u' q1 q2=>?_)
     ·simp only [Array.getElem?_map,Option.map_eq_some_iff] at q1
      obtain ⟨z,hz,rfl⟩:=q1;exact pt.one (h2 i z u' hz q2) (List.all_eq_true.1 hv'.1 z (Array.mem_toList_iff.2 (Array.mem_of_getElem? hz)))
     ·simp only [Array.getElem?_map,Option.map_eq_some_iff] at q1
      obtain ⟨z,hz,rfl⟩:=q1;exact pt.one (h4 i z u' hz q2) (List.all_eq_true.1 hv'.2 z (Array.mem_toList_iff.2 (Array.mem_of_getElem? hz)))
 | tuple cs=>cases hv
 | _=>exact pt.one r hv
theorem PT.three(pt:PT m h m2 h2 K B){v v':Value}(r:aj m h v v')(hv:hU v=true):aj m2 h2 (sh3 K B v) v':=by
 cases v with
 | tuple cs =>
   obtain ⟨a',rfl,h1,h2⟩:=r.kx;refine .tuple (by simpa using h1) fun i x x' q1 q2=>?_
   simp only [Array.getElem?_map,Option.map_eq_some_iff] at q1
   obtain ⟨y,hy,rfl⟩:=q1;exact pt.two (h2 i y x' hy q2) (List.all_eq_true.1 hv y (Array.mem_toList_iff.2 (Array.mem_of_getElem? hy)))
 | _=>exact pt.two r hv
theorem PT.yL(pt:PT m h m2 h2 K B){vs vs':List Value}(r:aD m h vs vs')(hv:vs.all hU=true):aD m2 h2 (vs.map (sh3 K B)) vs':=by
 refine ⟨by simpa using r.1,fun i v v' q1 q2=>?_⟩
 simp only [List.getElem?_map,Option.map_eq_some_iff] at q1
 obtain ⟨y,hy,rfl⟩:=q1;exact pt.three (r.2 i y v' hy q2) (List.all_eq_true.1 hv y (List.mem_of_getElem? hy))
end
theorem k7{K:List Nat}(hK:nodupB K=true){i j b:Nat}(h1:K[i]? = some b)(h2:K[j]? = some b):i=j:=by
 obtain ⟨q1,f1⟩:=List.getElem?_eq_some_iff.1 h1
 obtain ⟨q2,f2⟩:=List.getElem?_eq_some_iff.1 h2
 have hp:=List.pairwise_iff_getElem.1 (fF hK)
 rcases Nat.lt_trichotomy i j with q | q | q
 ·exact absurd (f1.trans f2.symm) (hp i j q1 q2 q)
 ·exact q
 ·exact absurd (f2.trans f1.symm) (hp j i q2 q1 q)
def cH(K:List Nat)(B:Nat)(hp:Hp):List af:=K.map fun b=>jV K B ((hp.get b).getD .dead)
set_option maxHeartbeats 2000000 in
theorem join_go{m m':BM}{hp hpR:Hp}{h:HG}{w w':World}{K:List Nat}(s:cg m (aM hp h) w)(bw:IU w.heap.size w w')(hsim:cg m' hpR.get w')(hK:nodupB K=true)
  (hok:∀ b∈K,∃ o,hpR.get b=some o∧cR o=true) (hnew:∀ b∈K,∀ x,m' b=some x→w.heap.size≤x.1) (hfr:∀ b,hp.sz≤b→b≤hp.sz+K.length→h b=none) {v0 v':Value}
  (rv:aj m' hpR.get v0 v') (hok1:hU v0=true) :
  dR m (aM hp h) w (joinM m m' K hp.sz) (aM (heapOf (cH K hp.sz hpR ++ [.dead]) hp) h) w'∧aj (joinM m m' K hp.sz) (aM (heapOf (cH K hp.sz hpR ++ [.dead]) hp) h) (sh3 K hp.sz v0) v':=by
 have hlen:(cH K hp.sz hpR).length=K.length:=by simp [cH]
 have hsz':(heapOf (cH K hp.sz hpR ++ [.dead]) hp).sz=hp.sz+(K.length+1):=by rw [cr]; simp [hlen]
 have inj:∀ (i j b:Nat),K[i]? = some b→K[j]? = some b→i=j:=fun i j b=>k7 hK
 have e2:cH K hp.sz hpR=K.map fun b=>jV K hp.sz ((hpR.get b).getD .dead):=rfl
 generalize cH K hp.sz hpR=O at *;have hget:∀ b,(heapOf (O ++ [.dead]) hp).get b=if b<hp.sz then hp.get b else match (O ++ [af.dead])[b-hp.sz]? with | some o=>some o | none=>hp.get b:=fun b=>heapOf_get _ _ _
 have hov:∀ b,aM (heapOf (O ++ [.dead]) hp) h b=if hp.sz≤b∧b≤hp.sz+K.length then (O ++ [af.dead])[b-hp.sz]? else aM hp h b:=by
  intro b;unfold aM;rw [hsz'];by_cases h1:b<hp.sz
  ·rw [if_pos (by omega),if_neg (by omega),if_pos h1,hget,if_pos h1]
  ·by_cases h2:b≤hp.sz+K.length
   ·rw [if_pos (by omega),if_pos ⟨by omega,h2⟩,hget,if_neg h1]
    have:b-hp.sz<(O ++ [af.dead]).length:=by simp [hlen]; omega
    rw [List.getElem?_eq_getElem this]
   ·rw [if_neg (by omega),if_neg (by omega),if_neg h1]
 have hnone:∀ b,hp.sz≤b→b≤hp.sz+K.length→aM hp h b=none:=by
  intro b h1 h2;unfold aM;rw [if_neg (by omega)]
  exact hfr b h1 h2
 have hmn:∀ b,hp.sz≤b→b≤hp.sz+K.length→m b=none:=by
  intro b h1 h2;cases e:m b with
  | none=>rfl
  | some x=>obtain ⟨o,ho,_⟩:=s.dom b x e; rw [hnone b h1 h2] at ho; cases ho
 have hD:aM (heapOf (O ++ [.dead]) hp) h (hp.sz+K.length)=some .dead:=by
  rw [hov,if_pos (by omega)]
  rw [show hp.sz+K.length-hp.sz=O.length by omega]; simp
 have hj:∀ b,joinM m m' K hp.sz b=if hp.sz≤b∧b≤hp.sz+K.length then (match K[b-hp.sz]? with | some c=>m' c | none=>none) else m b:=fun _=>rfl
 have hblk:∀ i b,K[i]? = some b→∃ o,hpR.get b=some o∧cR o=true∧aM (heapOf (O ++ [.dead]) hp) h (hp.sz+i)=some (jV K hp.sz o)∧joinM m m' K hp.sz (hp.sz+i)=m' b:=by
  intro i b hi;have hlt:i<K.length:=(List.getElem?_eq_some_iff.1 hi).1
  obtain ⟨o,hg,ho⟩:=hok b (List.mem_of_getElem? hi);refine ⟨o,hg,ho,?_,?_⟩
  ·rw [hov,if_pos (by omega),show hp.sz+i-hp.sz=i by omega,List.getElem?_append_left (by omega),e2,List.getElem?_map,hi]
   simp [hg]
  ·rw [hj,if_pos (by omega),show hp.sz+i-hp.sz=i by omega,hi]
 have pt:PT m' hpR.get (joinM m m' K hp.sz) (aM (heapOf (O ++ [.dead]) hp) h) K hp.sz:=by
  intro b Q hq;unfold jj;cases hi:idxOf b K 0 with
  | none=>exact .inl hD
  | some j =>
    obtain ⟨k,rfl,hk⟩:=gU hi;simp only [Nat.zero_add,Option.getD_some];obtain ⟨o,h1,_,h2,h3⟩:=hblk k b hk;rcases hq with hq | hq
    ·rw [hq] at h1; cases h1
     exact .inl h2
    ·exact .inr ⟨hq,h3⟩
 have hle:Le m (aM hp h) (joinM m m' K hp.sz) (aM (heapOf (O ++ [.dead]) hp) h):=by
  constructor
  ·intro b hb
   rw [hov];split
   ·rename_i hc; rw [hnone b hc.1 hc.2] at hb; cases hb
   ·exact hb
  ·intro b y hb
   refine .inr ?_
   rw [hj];split
   ·rename_i hc; rw [hmn b hc.1 hc.2] at hb; cases hb
   ·exact hb
 refine ⟨⟨hle,⟨?_,?_⟩,bw.size,?_,fun k hk _=>bw.block k hk,?_,?_,?_,?_,bw.os,bw.tape,bw.output⟩,pt.three rv hok1⟩
 ·
  intro b x hx;rw [hj] at hx;split at hx
  ·rename_i hc
   split at hx
   ·rename_i c hcK
    obtain ⟨o,h1,h2,h3,_⟩:=hblk _ c hcK;rw [show hp.sz+(b-hp.sz)=b by omega] at h3
    refine ⟨_,h3,?_⟩
    obtain ⟨o',ho',hbr⟩:=hsim.dom c x hx;rw [h1] at ho'; cases ho';cases o with
    | cells ty cs ro =>
      obtain ⟨cc,fr,g1,g2,g3,g4,g5⟩:=hbr;refine ⟨cc,fr,g1,by simpa using g2,g3,fun i v v' q1 q2=>?_,g5.1,fun hr hk=>g5.2 hr (eW uD hk)⟩
      simp only [List.getElem?_map,Option.map_eq_some_iff] at q1
      obtain ⟨z,hz,rfl⟩:=q1;exact pt.two (g4 i z v' hz q2) (List.all_eq_true.1 h2 z (List.mem_of_getElem? hz))
    | map es cl ro =>
      obtain ⟨fs,g1,g2,g3⟩:=hbr;refine ⟨fs,g1,by simpa using g2,fun i e ff q1 q2=>?_⟩
      simp only [List.getElem?_map,Option.map_eq_some_iff] at q1
      obtain ⟨z,hz,rfl⟩:=q1;obtain ⟨p1,p2,p3,p4⟩:=g3 i z ff hz q2;exact ⟨p1,p2,pt.two p3 (List.all_eq_true.1 h2 z (List.mem_of_getElem? hz)),p4⟩
    | dead=>trivial
   ·cases hx
  ·rename_i hc
   obtain ⟨o,ho,hbr⟩:=s.dom b x hx;refine ⟨o,by rw [hov,if_neg hc]; exact ho,?_⟩
   by_cases hd:o = .dead
   ·subst hd; trivial
   ·refine hbr.mono hle (bw.block _ (s.lt hx ?_))
    unfold aV; rw [ho]; cases o <;> first | rfl | exact absurd rfl hd
 ·
  have rwo:∀ b,¬ (hp.sz≤b∧b≤hp.sz+K.length)→rw? (aM (heapOf (O ++ [.dead]) hp) h) b=rw? (aM hp h) b:=fun b hc=>by unfold rw?; rw [hov,if_neg hc]
  have lio:∀ b,¬ (hp.sz≤b∧b≤hp.sz+K.length)→aV (aM (heapOf (O ++ [.dead]) hp) h) b=aV (aM hp h) b:=fun b hc=>by unfold aV; rw [hov,if_neg hc]
  intro b b' x x' hx hx' hr hl hxx;rw [hj] at hx hx';split at hx
  ·rename_i hc
   split at hx
   case h_2=>cases hx
   rename_i c hcK;split at hx'
   ·rename_i hc'
    split at hx'
    case h_2=>cases hx'
    rename_i c' hcK';obtain ⟨o,h1,_,h3,_⟩:=hblk _ c hcK;obtain ⟨o',h1',_,h3',_⟩:=hblk _ c' hcK';rw [show hp.sz+(b-hp.sz)=b by omega] at h3
    rw [show hp.sz+(b'-hp.sz)=b' by omega] at h3'
    have hr':rw? hpR.get c=true:=by unfold rw? at hr ⊢; rw [h1]; rw [h3] at hr; cases o <;> exact hr
    have hl':aV hpR.get c'=true:=by unfold aV at hl ⊢; rw [h1']; rw [h3'] at hl; cases o' <;> exact hl
    have:=hsim.inj c c' x x' hx hx' hr' hl' hxx
    subst this;have:=inj _ _ c hcK hcK'
    omega
   ·rename_i hc'
    have h1:=hnew c (List.mem_of_getElem? hcK) x hx
    rw [lio b' hc'] at hl;have h2:=s.lt hx' hl
    omega
  ·rename_i hc
   rw [rwo b hc] at hr;split at hx'
   ·rename_i hc'
    split at hx'
    case h_2=>cases hx'
    rename_i c' hcK';have h1:=hnew c' (List.mem_of_getElem? hcK') x' hx'
    have h2:=s.lt hx (c8 hr)
    omega
   ·rename_i hc'
    rw [lio b' hc'] at hl;exact s.inj b b' x x' hx hx' hr hl hxx
 ·intro b x hx
  rw [hj] at hx;split at hx
  ·split at hx
   ·rename_i c hcK; exact .inr (.inl (hnew c (List.mem_of_getElem? hcK) _ hx))
   ·cases hx
  ·exact .inl hx
 ·intro b o ho hmb
  rw [hj];split
  ·rename_i hc; rw [hnone b hc.1 hc.2] at ho; cases ho
  ·exact hmb
 ·intro b o ho hmb
  rw [hov];split
  ·rename_i hc; rw [hnone b hc.1 hc.2] at ho; cases ho
  ·exact ho
 ·intro b o ho
  rw [hov];split
  ·rename_i hc; rw [hnone b hc.1 hc.2] at ho; cases ho
  ·exact ⟨o,ho⟩
 ·intro b x hx hr
  have hc:¬ (hp.sz≤b∧b≤hp.sz+K.length):=fun hc=>by rw [hmn b hc.1 hc.2] at hx; cases hx
  unfold rw? at hr ⊢;rwa [hov,if_neg hc] at hr
def dw(p:Nat)(o:af):Prop:=fM o=true∧∀ K:List Nat,(∀ i,i<p→jj K i=i)→bX K o=o
def Pn(p:Nat)(K:List Nat):Bool:=(List.range p).all fun i=>Nat.beq (jj K i) i
theorem Hw{p:Nat}{K:List Nat}(h:Pn p K=true):∀ i,i<p→jj K i=i:=fun i hi =>
 Nat.eq_of_beq_eq_true (List.all_eq_true.1 h i (List.mem_range.2 hi))
def look2(p:Nat)(K:List Nat)(Ts:List Nat)(r:Exit×St):Exit×List af×List (Nat×Value)×Bool :=
 (r.1,(K.take p).map (fun b=>(r.2.hp.get b).getD .dead)++(K.drop p).map (fun b=>bX K ((r.2.hp.get b).getD .dead)),Ts.map fun t=>(t,mb K (r.2.dK t)),
   (K.all fun b=>match r.2.hp.get b with | some _=>true | none=>false)&&((K.drop p).all fun b=>fM ((r.2.hp.get b).getD .dead))&&(Ts.all fun t=>oO (r.2.dK t))&&r.2.df.isEmpty)
section
variable {P:Program} {N:Nat} {W:bh}
def av(N:Nat)(g:Nat→Value)(L:List (Nat×Value))(O:List af):St:=⟨mkT (frame g L) N,heapOf (O ++ [.dead]) aE,[]⟩
theorem ah.piece{call:aG}(hc:ba P call)(hm:P.follows .mixedOrders=true){n:Nat}{c:Code}{cl:List (Tmp×Value)}{st:St}{e:Exit}{q:List db}{Q:Exit→St→Prop}(p:Nat)(K Ts:List Nat)(O:List af)(L:List (Nat×Value))
  (he:(execQ P call cl n c st).map (fun r=>(look2 p K Ts (r.1,r.2.1),r.2.2))=some ((e,O,L,true),q)) (hq:Met q) (hs:codeSafe P N c=true) (hK:nodupB K=true) (hF:Pn p K=true) (hT:Ts.all (fun t=>Nat.blt t N)=true)
  (hO:∀ i,i<p→∀ o,O[i]? = some o→dw p o) (h:∀ g,Q e (av N g L O)):ah P N W c st Q:=by
 obtain ⟨⟨e',st',q'⟩,h1,h2⟩:=Option.map_eq_some_iff.1 he;simp only [look2,Prod.mk.injEq] at h2;obtain ⟨⟨rfl,rfl,rfl,h5⟩,rfl⟩:=h2;obtain ⟨h5,h7⟩:=Bool.and_eq_true_iff.1 h5;obtain ⟨h5,h6⟩:=Bool.and_eq_true_iff.1 h5;obtain ⟨h3,h4⟩:=Bool.and_eq_true_iff.1 h5;intro a w m f;refine wp_mono (WM hc hm h1 hq hs f) fun e2 a' w' hh=>?_
 obtain ⟨rfl,m',f'⟩:=hh;have hlen:((K.take p).map (fun b=>(st'.hp.get b).getD .dead)++(K.drop p).map (fun b=>bX K ((st'.hp.get b).getD .dead))).length=K.length:=by
  simp; omega
 have hget:∀ (i b:Nat),K[i]? = some b→∃ o,st'.hp.get b=some o:=fun i b hi=>by
  have:=List.all_eq_true.1 h3 b (List.mem_of_getElem? hi)
  cases hg:st'.hp.get b with
  | none=>rw [hg] at this; cases this
  | some o=>exact ⟨o,rfl⟩
 obtain ⟨g,m2,f2⟩:=f'.CP K ((K.take p).map (fun b=>(st'.hp.get b).getD .dead)++(K.drop p).map (fun b=>bX K ((st'.hp.get b).getD .dead))) (Ts.map fun t=>(t,mb K (st'.dK t))) (fF hK) hlen (fun i b o2 hi ho=>by
    obtain ⟨o,hg⟩:=hget i b hi;refine ⟨o,hg,?_⟩
    have hiK:i<K.length:=(List.getElem?_eq_some_iff.1 hi).1
    by_cases hip:i<p
    ·have e1:((K.take p).map (fun b=>(st'.hp.get b).getD .dead)++(K.drop p).map (fun b=>bX K ((st'.hp.get b).getD .dead)))[i]? = some o:=by
      rw [List.getElem?_append_left (by simp; omega),List.getElem?_map,List.getElem?_take,if_pos hip,hi]
      simp [hg]
     rw [e1] at ho;have e3:o=o2:=by simpa using ho
     subst e3;obtain ⟨k1,k2⟩:=hO i hip o e1;exact ⟨(k2 K (Hw hF)).symm,k1⟩
    ·have hmin:min p K.length=p:=by omega
     rw [List.getElem?_append_right (by simp; omega)] at ho
     simp only [List.length_map,List.length_take,hmin,List.getElem?_map,List.getElem?_drop] at ho
     rw [show p+(i-p)=i by omega,hi] at ho
     simp only [Option.map_some,Option.some.injEq,hg,Option.getD_some] at ho;refine ⟨ho.symm,?_⟩
     have hbm:b∈K.drop p:=List.mem_of_getElem? (by rw [List.getElem?_drop,show p+(i-p)=i by omega]; exact hi)
     have:=List.all_eq_true.1 h4 b hbm
     simpa [hg] using this) (fun x hx=>by
    obtain ⟨t,ht,rfl⟩:=List.mem_map.1 hx;exact ⟨by have:=List.all_eq_true.1 hT t ht; simpa [Nat.blt_eq] using this,List.all_eq_true.1 h6 t ht,rfl⟩) (List.isEmpty_iff.1 h7)
 exact ⟨_,m2,f2,h g⟩
def roBlk:af→af
 | .cells ty cs _=>.cells ty cs true
 | .map es cl _=>.map es cl true
 | .dead=>.dead
def cj:af→Bool
 | .cells _ cs ro=>cs.all ok2&&(ro || !keysBox cs)
 | .map es _ _=>es.all fun e=>ok2 e.2.1
 | .dead=>true
def dE(K:List Nat)(hp:Hp):Hp:=heapOf (K.map (fun b=>roBlk (jV K 0 ((hp.get b).getD .dead))) ++ [.dead]) aE
theorem ak(O:List af)(b:Nat):(heapOf O aE).get b=O[b]?:=by
 rw [heapOf_get];simp only [aE,Nat.not_lt_zero,if_false,Nat.sub_zero];cases O[b]? <;> rfl
theorem Bk{m:BM}{h:HG}{w:World}{hp:Hp}{K:List Nat}(s:cg m (aM hp h) w)(hk:hp.ok)(hK:nodupB K=true)(hok:∀ b∈K,∃ o,hp.get b=some o∧cj o=true) :
  cg (canM m K) (dE K hp).get w∧(∀ b,rw? (dE K hp).get b=false)∧PT m (aM hp h) (canM m K) (dE K hp).get K 0:=by
 have hget:∀ b,(dE K hp).get b=(K.map (fun b=>roBlk (jV K 0 ((hp.get b).getD .dead))) ++ [af.dead])[b]?:=fun b=>ak _ b
 have hD:(dE K hp).get K.length=some .dead:=by rw [hget]; simp
 have hblk:∀ i b,K[i]? = some b→∃ o,aM hp h b=some o∧cj o=true∧(dE K hp).get i=some (roBlk (jV K 0 o))∧canM m K i=m b:=by
  intro i b hi;obtain ⟨o,h1,h2⟩:=hok b (List.mem_of_getElem? hi);refine ⟨o,bq hk h b o h1,h2,?_,by unfold canM; rw [hi]⟩
  have hlt:i<K.length:=(List.getElem?_eq_some_iff.1 hi).1
  rw [hget,List.getElem?_append_left (by simpa using hlt),List.getElem?_map,hi]
  simp [h1]
 have pt:PT m (aM hp h) (canM m K) (dE K hp).get K 0:=by
  intro b Q hq;simp only [Nat.zero_add];unfold jj;cases hi:idxOf b K 0 with
  | none=>exact .inl hD
  | some j =>
    obtain ⟨k,rfl,hk⟩:=gU hi;simp only [Nat.zero_add,Option.getD_some];obtain ⟨o,h1,_,h2,h3⟩:=hblk k b hk;rcases hq with hq | hq
    ·rw [hq] at h1; cases h1
     exact .inl h2
    ·exact .inr ⟨hq,h3⟩
 have hro:∀ b,rw? (dE K hp).get b=false:=by
  intro b;unfold rw?;rw [hget];cases e:(K.map (fun b=>roBlk (jV K 0 ((hp.get b).getD .dead))) ++ [af.dead])[b]? with
  | none=>rfl
  | some o =>
    have hm:=List.mem_of_getElem? e
    rcases List.mem_append.1 hm with hm | hm
    ·obtain ⟨x,_,rfl⟩:=List.mem_map.1 hm
     generalize jV K 0 ((hp.get x).getD .dead)=y;cases y <;> rfl
    ·simp at hm; subst hm; rfl
 refine ⟨⟨fun i x hx=>?_,fun b b' x x' _ _ hr=>by rw [hro b] at hr; cases hr⟩,hro,pt⟩
 unfold canM at hx;split at hx
 ·rename_i b hb
  obtain ⟨o,h1,h2,h3,_⟩:=hblk i b hb;refine ⟨_,h3,?_⟩
  obtain ⟨o',ho',hbr⟩:=s.dom b x hx;rw [h1] at ho'; cases ho';cases o with
  | cells ty cs ro =>
    obtain ⟨cc,fr,g1,g2,g3,g4,g5⟩:=hbr;obtain ⟨k1,k2⟩:=Bool.and_eq_true_iff.1 h2;refine ⟨cc,fr,g1,by simpa using g2,g3,fun i v v' q1 q2=>?_,(fun hr=>by cases hr),fun _ hk=>?_⟩
    ·simp only [List.getElem?_map,Option.map_eq_some_iff] at q1
     obtain ⟨z,hz,rfl⟩:=q1;exact pt.two (g4 i z v' hz q2) (List.all_eq_true.1 k1 z (List.mem_of_getElem? hz))
    ·have hk':=eW uD hk
     rw [hk'] at k2;have hr:ro=true:=by simpa using k2
     exact g5.2 hr hk'
  | map es cl ro =>
    obtain ⟨fs,g1,g2,g3⟩:=hbr;refine ⟨fs,g1,by simpa using g2,fun i e ff q1 q2=>?_⟩
    simp only [List.getElem?_map,Option.map_eq_some_iff] at q1
    obtain ⟨z,hz,rfl⟩:=q1;obtain ⟨p1,p2,p3,p4⟩:=g3 i z ff hz q2;exact ⟨p1,p2,pt.two p3 (List.all_eq_true.1 h2 z (List.mem_of_getElem? hz)),p4⟩
  | dead=>trivial
 ·cases hx
def mq:af→Bool
 | .cells _ _ ro=>!ro
 | .map _ _ ro=>!ro
 | .dead=>false
theorem cW(hm:P.follows .mixedOrders=true){f:FuncId}{fn:Func}{c:Code}{g:aC}(hf:P.funcs[f]? = some fn)(hb:fn.body=some c)(hnm:(fn.name == "runtime.NumGoroutine")=false)
  (H:∀ args hp v hp',g args hp=some (v,hp')→hp.ok→∃ K0 K:List Nat,∃ O:List af,hp'=heapOf (O ++ [.dead]) hp∧O.length=K.length∧nodupB K0=true∧nodupB K=true∧(∀ b∈K0,∃ o,hp.get b=some o∧cj o=true)∧args.all hU=true∧args.length≤fn.ntmps ∧
    ∀ W,ah P fn.ntmps W c ⟨tmsOf (args.map (sh3 K0 0)) 0 .leaf,dE K0 hp,[]⟩ fun e st=>(e = .normal∨e = .ret)∧st.df = []∧∃ v0,retVal P fn st=some v0∧hU v0=true ∧
      (∀ b∈K,∃ o,st.hp.get b=some o∧cR o=true∧mq o=true)∧v=sh3 K hp.sz v0∧O=cH K hp.sz st.hp):aq P f g:=by
 intro args hp v hp' he hk;obtain ⟨K0,K,O,rfl,hlen,hK0,hK,hok,hargs,hn,hrun⟩:=H args hp v hp' he hk;refine ⟨bF _ _ hk,by rw [cr]; omega,fun m h w args' hfr s ra=>.inr ⟨cC hf (by rw [hb]; rfl) hnm,?_⟩⟩
 obtain ⟨s0,ro0,pt⟩:=Bk s hk hK0 hok;refine (Ji (R:=fun v0 st=>hU v0=true∧(∀ b∈K,∃ o,st.hp.get b=some o∧cR o=true∧mq o=true)∧v=sh3 K hp.sz v0∧O=cH K hp.sz st.hp) hf hb (by simpa using hn) (bF _ _ iO) s0 ro0 (pt.yL ra hargs) (by
  refine ah.mono (hrun (bh.shut w)) fun e st q=>?_
  obtain ⟨q1,q2,v0,q3,q4,q5,q6,q7⟩:=q;exact ⟨q1,q2,v0,q3,q4,q5,q6,q7⟩)).mono fun e w' hh=>?_
 obtain ⟨v',v0,st',m',rfl,⟨q4,q5,q6,q7⟩,rv,hs',_,hbel,hown⟩:=hh;subst q6;subst q7;have hj:=join_go (K:=K) s hbel hs' hK (fun b hb=>by
    obtain ⟨o,h1,h2,_⟩:=q5 b hb; exact ⟨o,h1,h2⟩) (fun b hb x hx=>hown b x hx (by
    obtain ⟨o,h1,_,h3⟩:=q5 b hb;unfold rw?; rw [h1]; cases o <;> exact h3)) (fun b h1 h2=>hfr b h1 (by rw [cr]; simp [hlen]; omega)) rv q4
 exact ⟨v',rfl,_,hj.1,hj.2⟩
end
abbrev jo:=Option (Value×Hp)×(Value×Hp)
def ay(l:List jo):Prop:=∀ o∈l,o.1=some o.2
theorem ay.nil:ay []:=fun o ho=>by cases ho
theorem ay.cons{a:Option (Value×Hp)}{v:Value×Hp}{l:List jo}(h:a=some v)(hl:ay l):ay ((a,v)::l):=fun o ho=>by
 cases ho with
 | head=>exact h
 | tail _ ho=>exact hl o ho
theorem ay.left{a b:List jo}(h:ay (a++b)):ay a:=fun o ho=>h o (List.mem_append_left _ ho)
theorem ay.right{a b:List jo}(h:ay (a++b)):ay b:=fun o ho=>h o (List.mem_append_right _ ho)
abbrev Gb:=List (Tmp×Value×List af)
def LS(cl:Gb):Option Tmp→Option (Value×List af)
 | none=>none
 | some t=>(cl.find? fun p=>Nat.beq p.1 t).map (·.2)
def stepH(P:Program)(call:aG)(cl:List (Tmp×Value))(ch:Gb)(o:Oper)(st:St):Option (Value×Hp×List (FuncId×List Value)×List db×List jo) :=
 match LS ch o.dst with
 | some (v,O)=>match cls P o,opB P st.eval st.hp.sz st.hp.get o,o.op with
   | .big,none,.call c=>match target st.eval c with
     | some (f,args)=>some (v,heapOf O st.hp,st.df,[],[(call f args st.hp,(v,heapOf O st.hp))])
     | none=>none
   | _,_,_=>none
 | none=>match stepQ P call cl o st with
   | some (v,h,d,q)=>some (v,h,d,q,[])
   | none=>none
section
variable {P:Program} {call:aG} {cl:List (Tmp×Value)} {ch:Gb}
theorem Ft{o:Oper}{st:St}{v:Value}{hp:Hp}{d:List (FuncId×List Value)}{q:List db}{r:List jo}(h:stepH P call cl ch o st=some (v,hp,d,q,r))(m:Met q)(mh:ay r):aStep P call o st=some (v,hp,d):=by
 unfold stepH at h;split at h
 ·split at h
  ·rename_i hc hb ho
   split at h
   ·rename_i ht
    cases h;have:=mh _ (.head _)
    simp only at this;unfold aStep;simp only [hc,hb,ho,ht,this]
   ·cases h
  ·cases h
 ·split at h
  ·rename_i hs; cases h; exact kF hs m
  ·cases h
end
section
variable {P:Program} {N:Nat} {W:bh}
end
end Go.Proofs.YtgeoommlmddgpaaGreat.AI
