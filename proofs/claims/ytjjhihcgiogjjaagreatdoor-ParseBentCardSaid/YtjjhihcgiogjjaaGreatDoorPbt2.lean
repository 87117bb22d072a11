/-
  Own work. Texts of a proof, laid together; no condition.
-/
import Derived.LoopN
import Derived.ChangeSame
import Derived.RowKit3
import Derived.OpenShut
import Derived.ChangeReads
import Derived.Lib.LaidTab
import Derived.MakeChecks
import Derived.Test.YtjjhihcgiogjjaaGreatDoorPbt1
set_option linter.unusedSectionVars false
set_option linter.unusedVariables false
set_option linter.unusedSimpArgs false
set_option maxRecDepth 1000000
open Go.Vs.qa renaming ptr → u0, str → u3, agg → u4, bool → u5, nilSlice → u6, tuple → u7, und → u9
open Go.Vs.qh renaming pan → U0, ret → U1
open Go.IntKind (i64)
section
namespace Go.Vs
variable [GTab] {P:Program} {H:qd} {nx:Nat} {w:World} {ops:Array Oper} {nt:Nat} {env:Env}
def qpi(P:Program)(f:FuncId)(args:List qa)(H:qd)(nx:Nat)(K:qpb):Prop:=
 ∀(σ:Sg) (w:World) (args':List Value) (R:Ending->World->Prop),Rel σ H nx w->zm σ args args'->
  (∀e H' nx' σ' w' en,K e H' nx'=true->Rel σ' H' nx' w'->Ext σ σ' H H' nx nx' w w'->Xx σ' e en->R en w')->Calls P f ⟨args'⟩ w R
def qec(P:Program)(call:Kk):Prop:=∀f args H nx K,call f args H nx K=true->qpi P f args H nx K
theorem qgz{call:Kk}{o:Oper}{dfs:Dfs}{rc:Option qA}{k:Env->qd->Nat->Bool}{K:qfo}{env0:Env}
  (hc:qec P call) (h:qeo P call ops o env H nx dfs rc k K env0=true) {envm:Env} {σ:Sg} {w:World} {a:Act} {next:Act->World->Prop} {Q:Exit->Act->World->Prop}
  (hr:Rel σ H nx w) (M:kD σ nt envm a.tmps) (e1:jq ops o.guard envm=jq ops o.guard env) (e2:∀x∈o.op.operands,aev envm x=aev env x)
  (hn:∀v H1 nx1 σ1 w1 v',k (put o.dst v env) H1 nx1=true->Rel σ1 H1 nx1 w1->Ext σ σ1 H H1 nx nx1 w w1->Den σ1 v v'->next (a.put o.dst v') w1)
  (hp:∀l H1 nx1 σ1 w1 c,K (.pan l) env0 H1 nx1 dfs rc=true->Rel σ1 H1 nx1 w1->Ext σ σ1 H H1 nx nx1 w w1->ko σ1 l c->Q (.panic c) a w1):qno P ops o a w next Q:=by
 unfold qeo at h;split at h<;>try (cases h;done)
 ·rename_i hw;unfold qno;rw [if_pos (kQ (e1.trans hw) M)];split at h<;>try (cases h;done)
  ·rename_i v H1 nx1 hop;obtain⟨σ',w',v',R,E,D,hrun⟩:=QX ((wx e2).trans hop) σ w a.eval hr M.aev
   refine .inl ?_
   unfold Oper.wp;rcases hrun with hrun|⟨hrun,rfl⟩
   ·rw [hrun];exact hn v H1 nx1 σ' w' _ h R E D
   ·rw [hrun];exact hn v H1 nx1 σ' w' _ h R E D
  ·rename_i f args hop;have tri:=hc f args H nx _ h
   obtain⟨args',hl,hrun⟩:=QX ((wx e2).trans hop) σ w a.eval hr M.aev
   refine .inl ?_
   unfold Oper.wp;rw [hrun];show Calls P f ⟨args'⟩ w _
   refine tri σ w args' _ hr hl λe H' nx' σ' w' en hk R E he=> ?_
   cases e with
   |ret v=>
    cases en with
    |returned v'=>exact hn v H' nx' σ' w' _ hk R E he
    |panicked c=>exact he.elim
    |outgrown=>exact he.elim
   |pan l=>
    cases en with
    |returned v'=>exact he.elim
    |panicked c=>exact hp l H' nx' σ' w' c hk R E he
    |outgrown=>exact he.elim
  ·rename_i v hop;obtain⟨v',dv,hrun⟩:=QX ((wx e2).trans hop) σ w a.eval hr M.aev
   refine .inl ?_
   unfold Oper.wp;rw [hrun];exact hp [(v,false)] H nx σ w [{v:=v',recovered:=false}] h hr (Ext.refl _ _ _ _) (.cons dv rfl rfl .nil)
 ·rename_i hw;unfold qno;rw [if_neg (by rw [kQ (e1.trans hw) M];simp)]
  exact hn (.tuple []) H nx σ w undef h hr (Ext.refl _ _ _ _) (.tuple .nil)
theorem vr:∀(a b:List Qj),named (a++b)=named a++named b
 |[],b=>rfl
 |(e,L,A)::a,b=>by
  rw [List.cons_append];simp only [named,List.cons_append,List.append_assoc,vr a b]
theorem Inv.act{call:Kk}{as:List Nat}{res:Nat}{σ0:Sg}{H0:qd}{w0:World}{dfs:Dfs}{rc:Option qA}{past past':List Nat}{e:Nat}{L A:List Nat}{R:List Qj}{oe:Oper}{listed:Array Bool}{σ:Sg}{a:Act}{k:Env->qd->Nat->Bool}{K:qfo}
  (hc:qec P call) (F:kj nt ops as) (hn:nt<=4096) (hlim:res+ops.size<=res+ops.size) (I:Inv P nt ops as res σ0 H0 w0 dfs past ((e,L,A)::R) env H nx listed σ w a) (hoe:ops[e]?=some oe) (he:e ∉ named R) (hr:∀j,bit (as.getD e 0) j=true->isL listed j)
  (hfresh:KJ ops past e oe=true) (hL:Qh (λi=>bit (as.getD i 0) e) L=true) (hF:ZG ops L past=some past') (hA:qom ops (as.getD e 0) A past'=true) (h':qeo P call ops oe env H nx dfs rc k K env=true) {RN:Env->qd->Nat->Prop}
  (hnext:∀env1 H1 nx1,k env1 H1 nx1=true->∃kf:Env->qd->Bool,Q8 P ops res nx1 kf L env1 H1=true/\∀env2 H2,kf env2 H2=true->VG P ops env2 H2 nx1 A=true/\RN env2 H2 nx1)
  {Q:Exit->Act->World->Prop} {next:Act->World->Prop}
  (hK:∀env2 H2 nx2 σ1 w1 a1,RN env2 H2 nx2->Inv P nt ops as res σ0 H0 w0 dfs past' R env2 H2 nx2 (listed.setIfInBounds e true) σ1 w1 a1->(∀t,t<4096->(∀(j:Nat) (q:Oper),ops[j]?=some q->q.dst≠some t)->get2 t env2=get2 t env)->next a1 w1)
  (hP:∀l H1 nx1 σ1 w1 c,K (.pan l) env H1 nx1 dfs rc=true->Rel σ1 H1 nx1 w1->Ext σ0 σ1 H0 H1 res nx1 w0 w1->(∀t,t<4096->(∀(j:Nat) (q:Oper),ops[j]?=some q->q.dst≠some t)->Den σ1 (get2 t env) (a.tmps.getD t undef))->wy σ1 dfs a.defers->a.tmps.size=nt->ko σ1 l c->Q (.panic c) a w1):
  wpOp P ops Q e next a w:=by
 have hde:=F.dst e oe hoe
 have helt:e<ops.size:=(Array.getElem?_eq_some_iff.1 hoe).1
 have pastiff:=vI hF
 have eun:¬isL listed e:=I.todo e (by unfold named;exact List.mem_cons_self ..)
 have Lun:∀j,j∈L->¬isL listed j:=λj hj=>I.todo j (by unfold named;exact List.mem_cons_of_mem _ (List.mem_append_left _ hj))
 have Lne:∀j,j∈L->j≠e:=λj hj q=>by
  subst q;have:=F.lt j oe hoe j (jN hL j hj)
  omega
 have Llt:∀j,j∈L->j<ops.size:=λj hj=>by
  obtain⟨o,ho,_⟩:=Jg hF j hj
  exact(Array.getElem?_eq_some_iff.1 ho).1
 have S:∀j,isL (listed.setIfInBounds e true) j↔(j=e\/isL listed j):=λj=>wk (by rw [I.size];exact helt)
 obtain⟨envm,M,hw,hx⟩:=I.view F hn hoe hr
 unfold wpOp;rw [hoe];refine qgz hc h' I.rel M hw hx (λv H1 nx1 σ1 w1 v' hk R' E D=> ?_) (λl H1 nx1 σ1 w1 c hk R' E C=> ?_)
 ·obtain⟨kf,hk1,hk4⟩:=hnext _ H1 nx1 hk
  obtain⟨env2,H2,hk2,b1,b2,b3,b4,b5⟩:=ZA F hn hlim L past past' _ H1 hF hk1
  obtain⟨hag,hk3⟩:=hk4 env2 H2 hk2
  have hnx:=E.le
  have hpl:=I.lim
  have pend1:∀j,j<ops.size->¬isL listed j->σ1 (res+j)=none/\zg (res+j) H1=zg (res+j) H:=λj hj hnl=>E.pend (res+j) (by omega) (I.pend j hj hnl)
  refine hK env2 H2 nx1 σ1 w1 _ hk3 ⟨?_,?_,?_,?_,?_,?_,?_,?_,?_,?_,?_,?_,?_⟩ λt ht hno=>by rw [b1 t ht λj q _ hq=>hno j q hq,ka hde hn ht (hno e oe hoe)]
  ·rw [Array.size_setIfInBounds];exact I.size
  ·cases hdst:oe.dst with
   |none=>exact I.tsize
   |some d=>show(a.tmps.setIfInBounds d v').size=nt;rw [Array.size_setIfInBounds];exact I.tsize
  ·intro j k hj hb;rw [S]at hj ⊢;rcases hj with rfl|hj
   ·exact .inr (hr k hb)
   ·exact .inr (I.closed j k hj hb)
  ·intro j hj hlj;rw [S]at hlj;have hj':j∈named ((e,L,A)::R):=by unfold named;exact List.mem_cons_of_mem _ (List.mem_append_right _ hj)
   rcases hlj with rfl|hlj
   ·exact he hj
   ·exact I.todo j hj' hlj
  ·intro j hj;rw [S];rcases I.all j hj with h|h|h
   ·exact .inl ((pastiff j).2 (.inl h))
   ·unfold named at h;rcases List.mem_cons.1 h with rfl|h
    ·exact .inr (.inr (.inl rfl))
    ·rcases List.mem_append.1 h with h|h
     ·exact .inl ((pastiff j).2 (.inr h))
     ·exact .inr (.inl h)
   ·exact .inr (.inr (.inr h))
  ·intro t ht hown;have hnotL:∀(j:Nat) (q:Oper),j∈L->ops[j]?=some q->q.dst≠some t:=by
    intro j q hj hq hd;have:=hown j q hq hd
    rw [S]at this;rcases this with h|h
    ·exact Lne j hj h
    ·exact Lun j hj h
   rw [b1 t ht hnotL];by_cases ed:oe.dst=some t
   ·rw [ed];show Den σ1 (get2 t (put (some t) v env)) ((a.tmps.setIfInBounds t v').getD t undef)
    have:t<a.tmps.size:=by rw [I.tsize];rw [ed]at hde;exact Nat.le_of_ble_eq_true hde
    rw [Qy _ _ _ _ this,if_pos rfl,kr];exact D
   ·rw [ka hde hn ht ed];have h1:(a.put oe.dst v').tmps.getD t undef=a.tmps.getD t undef:=by
     cases hdst:oe.dst with
     |none=>rfl
     |some d=>
      show(a.tmps.setIfInBounds d v').getD t undef=_
      have:d<a.tmps.size:=by rw [I.tsize];rw [hdst]at hde;exact Nat.le_of_ble_eq_true hde
      rw [Qy _ _ _ _ this,if_neg (λq=>ed (by rw [hdst,q]))]
    rw [h1];refine(I.den t ht λj q hj hq=> ?_).mono E.sub
    have:=hown j q hj hq
    rw [S]at this;rcases this with rfl|h
    ·rw [hoe]at hj;cases hj;exact(ed hq).elim
    ·exact h
  ·intro j q hj hq hlj hcl;have hnl:¬isL listed j:=λh=>hlj ((S j).2 (.inr h))
   have hjne:j≠e:=λh=>hlj ((S j).2 (.inl h))
   cases hip:QP q.op with
   |true=>
    have h1:=jN hA j hj
    rw [hq]at h1;simp only [hip]at h1
    have hmem:j∈A:=by
     split at h1
     ·exact KM ‹_›
     ·exact(hlj ((S j).2 (.inr (hr j h1)))).elim
    have h3:=jN hag j hmem
    rw [hq]at h3;exact Vb hcl h3
   |false=>
    rcases(pastiff j).1 hj with hj|hj
    ·obtain⟨_,q0,hq0,hfr⟩:=ZE hfresh j hj
     rw [hq]at hq0;cases hq0
     refine(I.fl0 j q hj hq hnl hcl).keep hcl hip ?_ ?_
     ·intro t ht hlt;rw [b1 t hlt λj' q' hj' hq' ed=> ?_]
      ·exact ka hde hn hlt λed=>hfr t ed ht
      ·obtain⟨_,q1,o1,e1,e2,e3⟩:=vh hF j hj j' hj'
       rw [hq]at e1;cases e1
       rw [hq']at e2;cases e2
       exact e3 t ed ht
     ·intro d hd;have hdl:d<4096:=Nat.lt_of_lt_of_le (by have:=F.dst j q hq;rw [hd]at this;exact Nat.le_of_ble_eq_true this) hn
      rw [b1 d hdl λj' q' hj' hq' ed=>(vh hF j hj j' hj').1 (F.uniq j j' q q' d hq hq' hd ed)]
      exact ka hde hn hdl λed=>hjne (F.uniq j e q oe d hq hoe hd ed)
    ·exact b5 j q hj hq hcl hip
  ·intro j q hj hq hlj hcl;have hnl:¬isL listed j:=λh=>hlj ((S j).2 (.inr h))
   have hjne:j≠e:=λh=>hlj ((S j).2 (.inl h))
   have hjlt:j<ops.size:=(Array.getElem?_eq_some_iff.1 hq).1
   rcases(pastiff j).1 hj with hj|hj
   ·obtain⟨_,q0,hq0,hfr⟩:=ZE hfresh j hj
    rw [hq]at hq0;cases hq0
    refine(I.fl1 j q hj hq hnl hcl).keep ?_ ?_ ?_
    ·intro t ht hlt;rw [b1 t hlt λj' q' hj' hq' ed=> ?_]
     ·exact ka hde hn hlt λed=>hfr t ed ht
     ·obtain⟨_,q1,o1,e1,e2,e3⟩:=vh hF j hj j' hj'
      rw [hq]at e1;cases e1
      rw [hq']at e2;cases e2
      exact e3 t ed ht
    ·intro d hd;have hdl:d<4096:=Nat.lt_of_lt_of_le (by have:=F.dst j q hq;rw [hd]at this;exact Nat.le_of_ble_eq_true this) hn
     rw [b1 d hdl λj' q' hj' hq' ed=>(vh hF j hj j' hj').1 (F.uniq j j' q q' d hq hq' hd ed)]
     exact ka hde hn hdl λed=>hjne (F.uniq j e q oe d hq hoe hd ed)
    ·rw [b2 _ (by omega) λj' hj' ed=>(vh hF j hj j' hj').1 (by omega)]
     exact(pend1 j hjlt hnl).2
   ·exact b4 j q hj hq hcl
  ·intro j hj hlj;exact(pend1 j hj λh=>hlj ((S j).2 (.inr h))).1
  ·omega
  ·exact b3 σ1 w1 R' λj hj=>(pend1 j (Llt j hj) (Lun j hj)).1
  ·have E2:=I.ext.trans E
   refine⟨E2.sub,E2.rng,?_,E2.le,E2.os,E2.tape,E2.output,E2.size,E2.frame⟩
   intro b hb h0;obtain⟨p1,p2⟩:=E2.pend b hb h0
   exact⟨p1,(b2 b (by omega) λj _=>by omega).trans p2⟩
  ·have:(a.put oe.dst v').defers=a.defers:=by cases oe.dst<;>rfl
   rw [this];exact I.dfs.mono E.sub
 ·exact hP l H1 nx1 σ1 w1 c hk R' (I.ext.trans E) (λt ht hno=>(I.den t ht λj q hj hq=>(hno j q hj hq).elim).mono E.sub) (I.dfs.mono E.sub) I.tsize C
def qos(P:Program)(call:Kk)(ops:Array Oper)(res:Nat)(dfs:Dfs)(rc:Option qA)(Kp:List (qa×Bool)->qd->Nat->Prop)(Kn:Env->qd->Nat->Prop):List Qj->Env->qd->Nat->Prop
 |[],env,H,nx=>Kn env H nx
 |(e,L,A)::rest,env,H,nx=>∀oe,ops[e]?=some oe->∃(k:Env->qd->Nat->Bool) (K:qfo),qeo P call ops oe env H nx dfs rc k K env=true/\
   (∀l H1 nx1,K (.pan l) env H1 nx1 dfs rc=true->Kp l H1 nx1)/\
   ∀env1 H1 nx1,k env1 H1 nx1=true->∃kf:Env->qd->Bool,Q8 P ops res nx1 kf L env1 H1=true/\
    ∀env2 H2,kf env2 H2=true->VG P ops env2 H2 nx1 A=true/\qos P call ops res dfs rc Kp Kn rest env2 H2 nx1
noncomputable def yg(ops:Array Oper):List Qj->List Nat->List Nat
 |[],past=>past
 |(_,L,_)::rest,past=>yg ops rest (match ZG ops L past with|some p=>p|none=>past)
theorem V5{call:Kk}{as:List Nat}{res:Nat}{dfs:Dfs}{rc:Option qA}{env0:Env}{Kp:List (qa×Bool)->qd->Nat->Prop}{Kn:Env->qd->Nat->Prop}(tail:List Qj)
  (hc:qec P call) (F:kj nt ops as) (hn:nt<=4096) (hlim:res+ops.size<=res+ops.size):
  ∀(rest:List Qj) (prev:Option Nat) (past:List Nat) (env:Env) (H:qd) (nx:Nat),qg0 ops as rest prev past=true->(∀s,s∈rest->∀i,i∈named tail->bit (as.getD i 0) s.1=true)->
   (∀i,i∈past->∃o,ops[i]?=some o/\(cls o.op=0\/cls o.op=1))->
   (∀t,t<4096->get2 t env0= .und\/((∀(j:Nat) (q:Oper),ops[j]?=some q->q.dst≠some t)/\get2 t env0=get2 t env))->qos P call ops res dfs rc Kp Kn rest env H nx->
   ∀σ0 H0 w0 Q,(∀l H' nx' σ' w' a' c,Kp l H' nx'->Rel σ' H' nx' w'->Ext σ0 σ' H0 H' res nx' w0 w'->vm σ' nt env0 dfs a'->ko σ' l c->Q (.panic c) a' w')->
    (∀env' H' nx',Kn env' H' nx'->(∀i,i∈yg ops rest past->∃o,ops[i]?=some o/\(cls o.op=0\/cls o.op=1))->
     ∀fuel listed σ w a,Inv P nt ops as res σ0 H0 w0 dfs (yg ops rest past) tail env' H' nx' listed σ w a->Z4 ops listed<=fuel->wpAny P .any ops Q fuel listed a w)->
    ∀fuel listed σ w a,Inv P nt ops as res σ0 H0 w0 dfs past (rest++tail) env H nx listed σ w a->Z4 ops listed<=fuel->wpAny P .any ops Q fuel listed a w
 |[],prev,past,env,H,nx,_,_,hpast,_,h=>λσ0 H0 w0 Q hQ hT=>hT env H nx h hpast
 |(e,L,A)::rest,prev,past,env,H,nx,hchk,htl,hpast,hblank,h=>by
  intro σ0 H0 w0 Q hQ hT;unfold qg0 at hchk;split at hchk<;>try (cases hchk;done)
  rename_i oe hoe hprev;split at hchk<;>try (cases hchk;done)
  rename_i hfresh hL;split at hchk<;>try (cases hchk;done)
  rename_i past' hF;split at hchk<;>try (cases hchk;done)
  rename_i hA;obtain⟨k,K,h',hpan,hnext⟩:=h oe hoe
  have hT:∀env' H' nx',Kn env' H' nx'->(∀i,i∈yg ops rest past'->∃o,ops[i]?=some o/\(cls o.op=0\/cls o.op=1))->
     ∀fuel listed σ w a,Inv P nt ops as res σ0 H0 w0 dfs (yg ops rest past') tail env' H' nx' listed σ w a->Z4 ops listed<=fuel->wpAny P .any ops Q fuel listed a w:=by
   have e0:yg ops ((e,L,A)::rest) past=yg ops rest past':=by
    show yg ops rest (match ZG ops L past with|some p=>p|none=>past)=_
    rw [hF]
   rw [e0]at hT;exact hT
  have hde:=F.dst e oe hoe
  have helt:e<ops.size:=(Array.getElem?_eq_some_iff.1 hoe).1
  have pastiff:=vI hF
  have who:∀{σ0 H0 w0 listed σ w a},Inv P nt ops as res σ0 H0 w0 dfs past ((e,L,A)::rest++tail) env H nx listed σ w a->∀i o,ops[i]?=some o->(∀j,bit (as.getD i 0) j=true->isL listed j)->i∈named ((e,L,A)::rest++tail)->i=e:=by
   intro σ0 H0 w0 listed σ w a I i o ho hr hi;have ebad:¬isL listed e:=I.todo e (by rw [List.cons_append];unfold named;exact List.mem_cons_self ..)
   rw [List.cons_append]at hi;unfold named at hi;rcases List.mem_cons.1 hi with rfl|hi
   ·rfl
   ·rcases List.mem_append.1 hi with hi|hi
    ·exact(ebad (hr e (jN hL i hi))).elim
    ·rw [vr]at hi;rcases List.mem_append.1 hi with hi|hi
     ·obtain⟨j,hj,hb⟩:=Jq hchk i hi
      rcases hj with rfl|hj
      ·exact(ebad (hr j hb)).elim
      ·exact(I.todo j (by rw [List.cons_append];unfold named;rw [vr];exact List.mem_cons_of_mem _ (List.mem_append_right _ (List.mem_append_left _ hj))) (hr j hb)).elim
     ·exact(ebad (hr e (htl (e,L,A) (List.mem_cons_self ..) i hi))).elim
  have loop:∀{Q:Exit->Act->World->Prop},(∀fuel listed σ w a,Inv P nt ops as res σ0 H0 w0 dfs past ((e,L,A)::rest++tail) env H nx listed σ w a->Z4 ops listed<=fuel+1->(∀j,bit (as.getD e 0) j=true->isL listed j)->
    wpOp P ops Q e (wpAny P .any ops Q fuel (listed.setIfInBounds e true)) a w)->
    ∀fuel listed σ w a,Inv P nt ops as res σ0 H0 w0 dfs past ((e,L,A)::rest++tail) env H nx listed σ w a->Z4 ops listed<=fuel->wpAny P .any ops Q fuel listed a w:=by
   intro Q hact fuel;have eun:∀{listed σ w a},Inv P nt ops as res σ0 H0 w0 dfs past ((e,L,A)::rest++tail) env H nx listed σ w a->¬isL listed e:=λI=>I.todo e (by rw [List.cons_append];unfold named;exact List.mem_cons_self ..)
   induction fuel with
   |zero=>
    intro listed σ w a I hl;exact(eun I (W4 (by omega:Z4 ops listed=0) e helt)).elim
   |succ fuel ih=>
    intro listed σ w a I hl;refine⟨λhnil=>(eun I (QZ F I.size hnil e helt)).elim,λi hi=> ?_⟩
    obtain⟨o,ho,hnl,hed⟩:=(jU I.size).1 hi
    have hlt:i<ops.size:=(Array.getElem?_eq_some_iff.1 ho).1
    have hr:∀j,bit (as.getD i 0) j=true->isL listed j:=λj hj=>by
     obtain⟨g,hg,hb,hc'⟩:=F.ahead i o ho j hj
     rcases hc' with rfl|hc'
     ·exact hed g hg hb
     ·exact I.closed _ j (hed g hg hb) hc'
    by_cases hin:i∈named ((e,L,A)::rest++tail)
    ·have:=who I i o ho hr hin
     subst this;exact hact fuel listed σ w a I hl hr
    ·have hp:i∈past:=by
      rcases I.all i hlt with h|h|h
      ·exact h
      ·exact(hin h).elim
      ·exact(hnl h).elim
     obtain⟨o',ho',hcl⟩:=hpast i hp
     rw [ho]at ho';cases ho'
     refine I.float F hn ho hp hnl hcl hr hin λσ1 w1 a1 I1=>ih _ σ1 w1 a1 I1 ?_
     have:=V6 I.size hlt hnl
     omega
  refine loop λfuel listed σ w a I hl hr=> ?_
  have eun:¬isL listed e:=I.todo e (by rw [List.cons_append];unfold named;exact List.mem_cons_self ..)
  have he:e ∉ named (rest++tail):=by
   intro hj;rw [vr]at hj;rcases List.mem_append.1 hj with hj|hj
   ·obtain⟨g,hg,hb⟩:=Jq hchk e hj
    rcases hg with rfl|hg
    ·exact eun (hr g hb)
    ·exact I.todo g (by rw [List.cons_append];unfold named;rw [vr];exact List.mem_cons_of_mem _ (List.mem_append_right _ (List.mem_append_left _ hg))) (hr g hb)
   ·have:=F.lt e oe hoe e (htl (e,L,A) (List.mem_cons_self ..) e hj)
    omega
  refine Inv.act hc F hn hlim I hoe he hr hfresh hL hF hA h' hnext (λenv2 H2 nx2 σ1 w1 a1 hk3 I1 hfix=> ?_) (λl H1 nx1 σ1 w1 c hk R E hden hdf hsz C=> ?_)
  ·have hnl:=V6 I.size helt eun
   have hpast':∀i,i∈past'->∃o,ops[i]?=some o/\(cls o.op=0\/cls o.op=1):=by
    intro i hi;rcases(pastiff i).1 hi with hi|hi
    ·exact hpast i hi
    ·obtain⟨o,ho,hne⟩:=Jg hF i hi
     refine⟨o,ho,?_⟩
     have:cls o.op=0\/cls o.op=1\/cls o.op=2:=by
      unfold cls;split<;>first|exact .inl rfl|exact .inr (.inl rfl)|exact .inr (.inr rfl)|skip
      split<;>first|exact .inl rfl|exact .inr (.inr rfl)
     rcases this with h|h|h
     ·exact .inl h
     ·exact .inr h
     ·exact(hne h).elim
   have hblank':∀t,t<4096->get2 t env0= .und\/((∀(j:Nat) (q:Oper),ops[j]?=some q->q.dst≠some t)/\get2 t env0=get2 t env2):=by
    intro t ht;rcases hblank t ht with h|⟨h1,h2⟩
    ·exact .inl h
    ·exact .inr ⟨h1,by rw [hfix t ht h1,h2]⟩
   exact V5 tail hc F hn hlim rest (some e) past' env2 H2 nx2 hchk (λs hs=>htl s (List.mem_cons_of_mem _ hs)) hpast' hblank' hk3 σ0 H0 w0 Q hQ hT fuel _ σ1 w1 a1 I1 (by omega)
  ·refine hQ l H1 nx1 σ1 w1 a c (hpan l H1 nx1 hk) R E ⟨⟨hsz,hn,λt ht=> ?_⟩,hdf⟩ C
   rcases hblank t ht with h|⟨h1,h2⟩
   ·rw [h];exact .und _
   ·rw [h2];exact hden t ht h1
theorem qhy{as:List Nat}{res:Nat}{σ0:Sg}{H0:qd}{w0:World}{dfs:Dfs}{past:List Nat}(F:kj nt ops as)(hn:nt<=4096){Q:Exit->Act->World->Prop}
  (hpast:∀i,i∈past->∃o,ops[i]?=some o/\(cls o.op=0\/cls o.op=1))
  (hQ:∀σ' w' a',Rel σ' H nx w'->Ext σ0 σ' H0 H res nx w0 w'->vm σ' nt env dfs a'->Q .normal a' w'):
  ∀fuel listed σ w a,Inv P nt ops as res σ0 H0 w0 dfs past [] env H nx listed σ w a->Z4 ops listed<=fuel->wpAny P .any ops Q fuel listed a w:=by
 have done:∀listed σ w a,Inv P nt ops as res σ0 H0 w0 dfs past [] env H nx listed σ w a->(∀i,i<ops.size->isL listed i)->Q .normal a w:=λlisted σ w a I hall=>
  hQ σ w a I.rel I.ext ⟨⟨I.tsize,hn,λt ht=>I.den t ht λj q hj _=>hall j (Array.getElem?_eq_some_iff.1 hj).1⟩,I.dfs⟩
 intro fuel
 induction fuel with
 |zero=>
  intro listed σ w a I hl;have hall:=W4 (by omega:Z4 ops listed=0)
  refine⟨?_,done listed σ w a I hall⟩
  refine List.eq_nil_iff_forall_not_mem.2 λi hi=> ?_
  obtain⟨o,ho,hnl,_⟩:=(jU I.size).1 hi
  exact hnl (hall i (Array.getElem?_eq_some_iff.1 ho).1)
 |succ fuel ih=>
  intro listed σ w a I hl;refine⟨λhnil=>done listed σ w a I (QZ F I.size hnil),λi hi=> ?_⟩
  obtain⟨o,ho,hnl,hed⟩:=(jU I.size).1 hi
  have hlt:i<ops.size:=(Array.getElem?_eq_some_iff.1 ho).1
  have hr:∀j,bit (as.getD i 0) j=true->isL listed j:=λj hj=>by
   obtain⟨e,he,hb,hc'⟩:=F.ahead i o ho j hj
   rcases hc' with rfl|hc'
   ·exact hed e he hb
   ·exact I.closed _ j (hed e he hb) hc'
  have hp:i∈past:=by
   rcases I.all i hlt with h|h|h
   ·exact h
   ·cases h
   ·exact(hnl h).elim
  obtain⟨o',ho',hcl⟩:=hpast i hp
  rw [ho]at ho';cases ho'
  refine I.float F hn ho hp hnl hcl hr (by intro h;cases h) λσ1 w1 a1 I1=>ih _ σ1 w1 a1 I1 ?_
  have:=V6 I.size hlt hnl
  omega
end Go.Vs
end
section
namespace Go.Vs
variable [GTab] {P:Program} {H:qd} {nx:Nat}
noncomputable section
inductive Sh where
 |bool
 |int (k:IntKind)
 |str
 |any
def qnd:TypeDesc->Sh
 | .bool=> .bool
 | .int k=> .int k
 | .string=> .str
 |_=> .any
def shs(P:Program):Nat->TypeId->Option (List Sh)
 |0,_=>none
 |n+1,t=>match P.underlying t with
  |some (.struct fs)=>fs.toList.foldr (λf acc=>match shs P n f.type,acc with
   |some a,some b=>some (a++b)
   |_,_=>none) (some [])
  |some (.array len e)=>match Nat.ble len 64,shs P n e with
   |true,some l=>some (List.replicate len l).flatten
   |_,_=>none
  |some d=>some [qnd d]
  |none=>none
def qng(s:Sh)(k:qa->Prop):Prop:=match s with
 | .bool=>∃b,k (.bool b)
 | .int kd=>∃n,k (.int kd n)
 | .str=>∃s,k (.str s)
 | .any=>∃v,k v
def qk3:List Sh->(List qa->Prop)->Prop
 |[],k=>k []
 |s::l,k=>qng s λv=>qk3 l λvs=>k (v::vs)
theorem qe0{s:Sh}{k:qa->Prop}(h:qng s k):∃v,k v:=by
 cases s<;>(obtain⟨x,h⟩:=h;exact⟨_,h⟩)
theorem qap:∀{l:List Sh} {k:List qa->Prop},qk3 l k->∃vs,k vs
 |[],_,h=>⟨_,h⟩
 |_::_,_,h=>let⟨_,h⟩:=qe0 h;let⟨_,h⟩:=qap h;⟨_,h⟩
def Vc(P:Program)(t:TypeId)(k:qa->Prop):Prop:=
 match P.underlying t with
 |some d=>match Wo d with
  |true=>match shs P 9 t with
   |some l=>qk3 l λcs=>k (.agg cs)
   |none=>∃v,k v
  |false=>qng (qnd d) k
 |none=>∃v,k v
theorem QH{t:TypeId}{k:qa->Prop}(h:Vc P t k):∃v,k v:=by
 unfold Vc at h;split at h
 ·split at h
  ·split at h
   ·exact let⟨_,h⟩:=qap h;⟨_,h⟩
   ·exact h
  ·exact qe0 h
 ·exact h
def qjs(P:Program):List TypeId->(List qa->Prop)->Prop
 |[],k=>k []
 |t::l,k=>Vc P t λv=>qjs P l λvs=>k (v::vs)
theorem YG:∀{l:List TypeId} {k:List qa->Prop},qjs P l k->∃vs,k vs
 |[],_,h=>⟨_,h⟩
 |_::_,_,h=>let⟨_,h⟩:=QH h;let⟨_,h⟩:=YG h;⟨_,h⟩
def JU(P:Program)(t:TypeId)(v:qa)(k:qa->Prop):Prop:=
 match P.underlying t with
 |some (.tuple ts)=>match ts.toList with
  |[]=>k v
  |ts=>qjs P ts λvs=>v= .tuple vs/\k (.tuple vs)
 |some d=>match Wo d,qnd d with
  |false,.any=>k v
  |_,_=>Vc P t λv'=>v=v'/\k v'
 |none=>k v
theorem Q7{t:TypeId}{v:qa}{k:qa->Prop}(h:JU P t v k):k v:=by
 unfold JU at h;split at h
 ·split at h
  ·exact h
  ·obtain⟨vs,e,h2⟩:=YG h;rw [e];exact h2
 ·split at h
  ·exact h
  ·obtain⟨v',e,h2⟩:=QH h;rw [e];exact h2
 ·exact h
def ld1(H:qd)(a:qa):Option qa:=
 match a with
 | .ptr b off=>match zg b H with
  |some (.cells n ct _ _)=>match Nat.ble (Nat.succ off) n with
   |true=>some (CT.get off ct)
   |false=>none
  |_=>none
 | .gptr g off=>match GTab.tab g with
  |some l=>l[off]?
  |none=>none
 |_=>none
def ldN(H:qd)(sz:Nat)(a:qa):Option qa:=
 match a with
 | .ptr b off=>match zg b H with
  |some (.cells n ct _ _)=>match Nat.ble (Nat.add off sz) n with
   |true=>some (.agg (CT.slab ct sz off))
   |false=>none
  |_=>none
 | .gptr g off=>match GTab.tab g with
  |some l=>match Nat.ble (Nat.add off sz) l.length with
   |true=>some (.agg ((l.drop off).take sz))
   |false=>none
  |none=>none
 |_=>none
def wf(P:Program)(t:TypeId)(H:qd)(a:qa)(k:qa->Prop):Prop:=
 match P.underlying t,P.info? t with
 |some d,some i=>match Wo d with
  |true=>Vc P t λv=>ldN H i.size a=some v/\k v
  |false=>Vc P t λv=>ld1 H a=some v/\k v
 |_,_=>False
theorem Vx{t:TypeId}{a:qa}{k:qa->Prop}(h:wf P t H a k):∃v,Zl P t H a=some v/\k v:=by
 unfold wf at h;split at h<;>try exact h.elim
 rename_i d i hd hi;split at h
 ·rename_i hag;obtain⟨v,e,h⟩:=QH h
  refine⟨v,?_,h⟩
  unfold ldN at e;unfold Zl;cases a<;>first|exact e|skip
  ·rename_i b off;simp only []at e ⊢
   cases hb:zg b H with
   |none=>rw [hb]at e;cases e
   |some o=>
    rw [hb]at e;cases o with
    |map _ _=>cases e
    |cells n ct o s=>simp only [hd,hi,hag];exact e
  ·rename_i g off;simp only []at e ⊢
   cases hb:GTab.tab g with
   |none=>rw [hb]at e;cases e
   |some l=>rw [hb]at e;simp only [hd,hi,hag];exact e
 ·rename_i hag;obtain⟨v,e,h⟩:=QH h
  refine⟨v,?_,h⟩
  unfold ld1 at e;unfold Zl;cases a<;>first|exact e|skip
  ·rename_i b off;simp only []at e ⊢
   cases hb:zg b H with
   |none=>rw [hb]at e;cases e
   |some o=>
    rw [hb]at e;cases o with
    |map _ _=>cases e
    |cells n ct o s=>simp only [hd,hi,hag];exact e
  ·rename_i g off;simp only []at e ⊢
   cases hb:GTab.tab g with
   |none=>rw [hb]at e;cases e
   |some l=>rw [hb]at e;simp only [hd,hi,hag];exact e
def Vf(P:Program)(t:TypeId)(v:qa)(k:List qa->Prop):Prop:=
 match P.underlying t with
 |some d=>match Wo d with
  |true=>match v with
   | .agg cs=>k cs
   |_=>False
  |false=>qI v=true/\k [v]
 |none=>False
theorem JX{t:TypeId}{v:qa}{k:List qa->Prop}(h:Vf P t v k):∃cs,JA v=some cs/\k cs:=by
 unfold Vf at h;split at h<;>try exact h.elim
 split at h
 ·split at h<;>first|exact h.elim|exact⟨_,rfl,h⟩
 ·obtain⟨h1,h2⟩:=h
  refine⟨[v],?_,h2⟩
  cases v<;>first|rfl|(simp [qI]at h1)
def stC(H:qd)(a:qa)(cs:List qa):Option qd:=
 match a with
 | .ptr b off=>match zg b H with
  |some (.cells n ct olds false)=>match Nat.ble (Nat.add off cs.length) n,qq cs with
   |true,true=>some (zS b (some (.cells n (relay cs cs.length off n ct) [] false)) (wY olds H))
   |_,_=>none
  |_=>none
 |_=>none
def qc5(P:Program)(t:TypeId)(H:qd)(a x:qa)(k:qd->Prop):Prop:=
 match P.info? t with
 |some i=>Vf P t x λcs=>match Nat.beq cs.length i.size with
  |true=>∃H',stC H a cs=some H'/\k H'
  |false=>False
 |none=>False
theorem qg5{t:TypeId}{a x:qa}{k:qd->Prop}(h:qc5 P t H a x k):∃H',Vd P t H a x=some H'/\k H':=by
 unfold qc5 at h;split at h<;>try exact h.elim
 rename_i i hi;obtain⟨cs,hcs,h⟩:=JX h
 split at h<;>try exact h.elim
 rename_i hl;obtain⟨H',e,h⟩:=h
 refine⟨H',?_,h⟩
 have hl':=Nat.eq_of_beq_eq_true hl
 unfold stC at e;unfold Vd;split at e<;>try (cases e;done)
 rename_i b off;split at e<;>try (cases e;done)
 rename_i n ct olds ho;split at e<;>try (cases e;done)
 rename_i h1 h2;cases e
 rw [hl']at h1;have hb:Nat.beq i.size i.size=true:=Nat.beq_refl _
 simp only [hcs,hi,ho,h1,h2,hl',hb]
def qo1(op:BinOp)(k:IntKind)(a b:Int)(K:qa->Prop):Prop:=
 match op with
 | .add=>K (.int k (k.wrap (a+b)))
 | .sub=>K (.int k (k.wrap (a - b)))
 | .mul=>K (.int k (k.wrap (a*b)))
 | .quo=>b≠0/\K (.int k (k.wrap (a.tdiv b)))
 | .rem=>b≠0/\K (.int k (a.tmod b))
 | .and=>K (.int k (k.wrap (BitVec.ofInt k.bits a&&&BitVec.ofInt k.bits b).toNat))
 | .or=>K (.int k (k.wrap (BitVec.ofInt k.bits a|||BitVec.ofInt k.bits b).toNat))
 | .xor=>K (.int k (k.wrap (BitVec.ofInt k.bits a ^^^ BitVec.ofInt k.bits b).toNat))
 | .andNot=>K (.int k (k.wrap (BitVec.ofInt k.bits a&&&~~~BitVec.ofInt k.bits b).toNat))
 | .eql=>K (.bool (decide (a=b)))
 | .neq=>K (.bool (!decide (a=b)))
 | .lss=>K (.bool (decide (a<b)))
 | .leq=>K (.bool (decide (a<=b)))
 | .gtr=>K (.bool (decide (b<a)))
 | .geq=>K (.bool (decide (b<=a)))
 |_=>False
theorem qat(a b:Int):(!decide (b<a))=decide (a<=b):=by rw [Bool.eq_iff_iff];simp
theorem qmq(a b:Int):(a==b)=decide (a=b):=by rw [Bool.eq_iff_iff];simp
theorem ql2{op:BinOp}{k:IntKind}{a b:Int}{K:qa->Prop}(h:qo1 op k a b K):∃v,qiu op k a b=some v/\K v:=by
 unfold qo1 at h;unfold qiu;cases op<;>simp only [zQ,yI,qhk,yp,wj]at h ⊢
 case quo=>
  obtain⟨h0,h⟩:=h;have:(b==0)=false:=by simpa using h0
  simp only [this];exact⟨_,rfl,h⟩
 case rem=>
  obtain⟨h0,h⟩:=h;have:(b==0)=false:=by simpa using h0
  simp only [this];exact⟨_,rfl,h⟩
 case leq=>rw [<-qat]at h;exact⟨_,rfl,h⟩
 case geq=>rw [<-qat]at h;exact⟨_,rfl,h⟩
 case eql=>rw [<-qmq]at h;exact⟨_,rfl,h⟩
 case neq=>rw [<-qmq]at h;exact⟨_,rfl,h⟩
 all_goals first|exact h.elim|exact⟨_,rfl,h⟩
def qip(op:BinOp)(s t:List UInt8)(K:qa->Prop):Prop:=
 match op with
 | .add=>s.length+t.length<=9223372036854775807/\K (.str (s++t))
 | .eql=>K (.bool (s==t))
 | .neq=>K (.bool (!(s==t)))
 | .lss=>K (.bool (Op.bytesLess s t))
 | .leq=>K (.bool (Op.bytesLess s t||s==t))
 | .gtr=>K (.bool !(Op.bytesLess s t||s==t))
 | .geq=>K (.bool !(Op.bytesLess s t))
 |_=>False
theorem qiv{op:BinOp}{s t:List UInt8}{K:qa->Prop}(h:qip op s t K):∃v,Yu op s t=some v/\K v:=by
 unfold qip at h;unfold Yu;cases op<;>simp only []at h ⊢
 case add=>
  obtain⟨h0,h⟩:=h;have hb:Nat.ble (s.length+t.length) 9223372036854775807=true:=(by rw [Nat.ble_eq];exact h0)
  rw [hb];exact⟨_,rfl,h⟩
 all_goals first|exact h.elim|exact⟨_,rfl,h⟩
inductive NK where
 |ptr|slice|map|func|iface
def qn2:TypeDesc->Option NK
 | .pointer _=>some .ptr
 | .slice _=>some .slice
 | .map _ _=>some .map
 | .func _ _ _=>some .func
 | .interface _=>some .iface
 |_=>none
def K3(k:NK)(v:qa):Option Bool:=
 match k,v with
 | .ptr,.ptr _ _=>some false
 | .ptr,.nilPtr=>some true
 | .slice,.slice ..=>some false
 | .slice,.nilSlice=>some true
 | .slice,.gslice ..=>some false
 | .map,.map _=>some false
 | .map,.nilMap=>some true
 | .func,.func _ _ _=>some false
 | .func,.nilFunc=>some true
 | .iface,.iface _ _=>some false
 | .iface,.nilIface=>some true
 |_,_=>none
theorem KT{d:TypeDesc}{k:NK}{v:qa}{p:Bool}(hk:qn2 d=some k)(h:K3 k v=some p):y6 d v=some p:=by
 cases d<;>simp only [qn2,reduceCtorEq,Option.some.injEq]at hk
 all_goals (subst hk;cases v<;>simp only [K3,reduceCtorEq]at h<;>exact h)
def qf0:List qa->List qa->(Bool->Prop)->Prop
 |[],[],K=>K true
 | .int k a::cs,.int k' b::ds,K=>match decide (k=k')with
  |true=>qf0 cs ds λr=>K (decide (a=b)&&r)
  |false=>False
 |_,_,_=>False
theorem qdr:∀{cs ds:List qa} {K:Bool->Prop},qf0 cs ds K->∃r,VL cs ds=some r/\K r
 |[],[],K,h=>⟨true,rfl,h⟩
 |c::cs,[],K,h=>by unfold qf0 at h;split at h<;>first|exact h.elim|contradiction
 |[],d::ds,K,h=>by unfold qf0 at h;exact h.elim
 |c::cs,d::ds,K,h=>by
  unfold qf0 at h;split at h
  ·rename_i e _;cases e
  ·rename_i k a cs' k' b ds' e1 e2;cases e1;cases e2
   split at h
   ·rename_i hk;obtain⟨r,e,h⟩:=qdr h
    exact⟨_,by unfold VL;simp only [hk,e],h⟩
   ·exact h.elim
  ·exact h.elim
def qnp(P:Program)(op:BinOp)(t:TypeId)(x y:Operand)(a b:qa)(K:qa->Prop):Prop:=
 match P.underlying t with
 |some (.int _)=>match op with
  | .shl=>match a,b with
   | .int k1 n,.int _ m=>0<=m/\K (.int k1 (k1.wrap (n*2 ^ (min m.toNat k1.bits))))
   |_,_=>False
  | .shr=>match a,b with
   | .int k1 n,.int _ m=>0<=m/\K (.int k1 (n.fdiv (2 ^ (min m.toNat k1.bits))))
   |_,_=>False
  |op=>match a,b with
   | .int k1 n,.int k2 m=>match decide (k1=k2)with
    |true=>qo1 op k1 n m K
    |false=>False
   |_,_=>False
 |some .string=>match a,b with
  | .str s,.str u=>qip op s u K
  |_,_=>False
 |some .bool=>match op with
  | .eql=>match a,b with
   | .bool p,.bool q=>K (.bool (p==q))
   |_,_=>False
  | .neq=>match a,b with
   | .bool p,.bool q=>K (.bool (!(p==q)))
   |_,_=>False
  |_=>False
 |some (.struct _)=>match a,b with
  | .agg cs,.agg ds=>Ja P t cs.length=true/\qf0 cs ds λr=>match op with
   | .eql=>K (.bool r)
   | .neq=>K (.bool (!r))
   |_=>False
  |_,_=>False
 |some d=>match qn2 d,kY x,kY y with
  |some k,false,true=>match K3 k b with
   |some true=>match op with
    | .eql=>∃p,K3 k a=some p/\K (.bool p)
    | .neq=>∃p,K3 k a=some p/\K (.bool (!p))
    |_=>False
   |_=>False
  |some k,true,_=>match K3 k a with
   |some true=>match op with
    | .eql=>∃p,K3 k b=some p/\K (.bool p)
    | .neq=>∃p,K3 k b=some p/\K (.bool (!p))
    |_=>False
   |_=>False
  |_,_,_=>False
 |none=>False
theorem eqB(p q:Bool):(Bool.rec (!q) q p:Bool)=(p==q):=by cases p<;>cases q<;>rfl
theorem qkl{op:BinOp}{t:TypeId}{x y:Operand}{ρ:Operand->qa}{K:qa->Prop}(h:qnp P op t x y (ρ x) (ρ y) K):
  ∃v,wN P op t x y ρ H nx=some (.val v H nx)/\K v:=by
 unfold qnp at h;split at h<;>try exact h.elim
 ·rename_i kd hu;split at h
  ·split at h<;>try exact h.elim
   rename_i k1 n k2 m hx hy;obtain⟨h0,h⟩:=h
   have:(ilt m 0)=false:=by rw [yp];simp;exact h0
   refine⟨_,?_,h⟩
   unfold wN;simp only [hx,hy,V1,this,zQ]
  ·split at h<;>try exact h.elim
   rename_i k1 n k2 m hx hy;obtain⟨h0,h⟩:=h
   have:(ilt m 0)=false:=by rw [yp];simp;exact h0
   refine⟨_,?_,h⟩
   unfold wN;simp only [hx,hy,V1,this,zQ]
  ·rename_i hn1 hn2;split at h<;>try exact h.elim
   rename_i k1 n k2 m hx hy;split at h<;>try exact h.elim
   rename_i hk;obtain⟨v,e,h⟩:=ql2 h
   refine⟨v,?_,h⟩
   cases op<;>first|exact(hn1 rfl).elim|exact(hn2 rfl).elim|(unfold wN;simp only [hx,hy,hk,e])
 ·rename_i hu;split at h<;>try exact h.elim
  rename_i s u hx hy;obtain⟨v,e,h⟩:=qiv h
  refine⟨v,?_,h⟩
  unfold wN;simp only [hx,hy,e]
 ·rename_i hu;split at h<;>try exact h.elim
  all_goals
   split at h<;>try exact h.elim
   rename_i p q hx hy;refine⟨_,?_,h⟩
   unfold wN;simp only [hx,hy,YP,aEq,hu,wj]
   rw [eqB]
 ·rename_i fs hu;split at h<;>try exact h.elim
  rename_i cs ds hx hy;obtain⟨hok,h⟩:=h
  obtain⟨r,hr,h⟩:=qdr h
  split at h<;>try exact h.elim
  all_goals
   refine⟨_,?_,h⟩
   unfold wN;simp only [hx,hy,YP,hok,hr,wj]
 ·rename_i d hnb hni hns hst hu;have other:∀k q,K3 k (ρ x)=some q->(op= .eql\/op= .neq)->∀s,aEq P t x y (ρ x) (ρ y)=some s->
    wN P op t x y ρ H nx=some (.val (.bool (match op with| .eql=>s|_=> !s)) H nx):=by
   intro k q ha hop s hs;have hs:YP P t x y (ρ x) (ρ y)=some s:=by
    unfold YP;split
    ·rename_i hx hy;rw [hx]at ha;cases k<;>cases ha
    ·exact hs
   unfold wN;split
   ·rename_i hx hy;rw [hx]at ha;cases k<;>cases ha
   ·rename_i hx hy;rw [hx]at ha;cases k<;>cases ha
   ·rcases hop with rfl|rfl<;>simp only [hs,wj]
  split at h<;>try exact h.elim
  ·rename_i k hk hcx hcy;split at h<;>try exact h.elim
   rename_i hb;have e:∀p,K3 k (ρ x)=some p->aEq P t x y (ρ x) (ρ y)=some p:=by
    intro p hp;unfold aEq;rw [hu];simp only [KT hk hp,KT hk hb,hcx,hcy]
   split at h<;>try exact h.elim
   ·obtain⟨p,hp,h⟩:=h
    exact⟨_,other k p hp (.inl rfl) p (e p hp),h⟩
   ·obtain⟨p,hp,h⟩:=h
    exact⟨_,other k p hp (.inr rfl) p (e p hp),h⟩
  ·rename_i k hk hcx;split at h<;>try exact h.elim
   rename_i hb;have e:∀p,K3 k (ρ y)=some p->aEq P t x y (ρ x) (ρ y)=some p:=by
    intro p hp;unfold aEq;rw [hu];simp only [KT hk hp,KT hk hb,hcx]
   split at h<;>try exact h.elim
   ·obtain⟨p,hp,h⟩:=h
    exact⟨_,other k true hb (.inl rfl) p (e p hp),h⟩
   ·obtain⟨p,hp,h⟩:=h
    exact⟨_,other k true hb (.inr rfl) p (e p hp),h⟩
def jl(a:qa)(c:Nat):Option qa:=
 match a with
 | .ptr b off=>some (.ptr b (Nat.add off c))
 | .gptr g off=>some (.gptr g (Nat.add off c))
 |_=>none
def zq(v:qa)(n esz:Nat):Option qa:=
 match v with
 | .slice b off len _ _=>match Nat.ble (Nat.succ n) len with
  |true=>some (.ptr b (Nat.add off (Nat.mul n esz)))
  |false=>none
 | .gslice g off len _=>match Nat.ble (Nat.succ n) len with
  |true=>some (.gptr g (Nat.add off (Nat.mul n esz)))
  |false=>none
 |_=>none
def kI(v:qa):Option Nat:=
 match v with
 | .slice _ _ n _ _=>some n
 | .nilSlice=>some 0
 | .gslice _ _ n _=>some n
 |_=>none
def qp9(v:qa)(esz l:Nat)(h:Option Nat):Option qa:=
 match v with
 | .slice b off len e full=>match h.getD len with
  |h=>match Nat.ble h len,Nat.ble l h,Nat.beq esz e with
   |true,true,true=>some (.slice b (Nat.add off (Nat.mul l e)) (Nat.sub h l) e (Bool.rec false full (Nat.beq h len)))
   |_,_,_=>none
 | .nilSlice=>match l,h with
  |0,none=>some .nilSlice
  |0,some 0=>some .nilSlice
  |_,_=>none
 | .gslice g off len e=>match h.getD len with
  |h=>match Nat.ble h len,Nat.ble l h,Nat.beq esz e with
   |true,true,true=>some (.gslice g (Nat.add off (Nat.mul l e)) (Nat.sub h l) e)
   |_,_,_=>none
 |_=>none
def Zq(H:qd)(v:qa):Option (List UInt8):=
 match v with
 | .slice b off n _ _=>match zg b H with
  |some (.cells cnt ct _ _)=>match Nat.ble (Nat.add off n) cnt with
   |true=>wZ (CT.slab ct n off)
   |false=>none
  |_=>none
 | .nilSlice=>some []
 |_=>none
def Zu(P:Program)(s:TypeId)(f:Nat)(a:qa)(K:qa->Prop):Prop:=
 match P.underlying s with
 |some (.struct fields)=>match fields[f]? with
  |some fd=>match P.info? fd.type with
   |some i=>match Nat.beq i.size 0 with
    |false=>∃v,jl a fd.offset=some v/\K v
    |true=>False
   |none=>False
  |none=>False
 |_=>False
theorem Wd{s:TypeId}{f:Nat}{x:Operand}{ρ:Operand->qa}{K:qa->Prop}(h:Zu P s f (ρ x) K):
  ∃v,ke P s x f ρ H nx=some (.val v H nx)/\K v:=by
 unfold Zu at h;split at h<;>try exact h.elim
 rename_i fields hu;split at h<;>try exact h.elim
 rename_i fd hf;split at h<;>try exact h.elim
 rename_i i hi;split at h<;>try exact h.elim
 rename_i hz;obtain⟨v,e,h⟩:=h
 refine⟨v,?_,h⟩
 unfold jl at e;unfold ke;simp only [hu,hf,hi,hz]
 split at e<;>try (cases e;done)
 ·rename_i hx;cases e;rw [hx]
 ·rename_i hx;cases e;rw [hx]
theorem yr{i:Int}(h:0<=i):Vl i=some i.toNat:=by
 cases i with
 |ofNat n=>rfl
 |negSucc n=>omega
def Zx(P:Program)(t:TypeId)(a ix:qa)(K:qa->Prop):Prop:=
 match ix with
 | .int _ i=>match P.underlying t with
  |some (.array len elem)=>match P.info? elem with
   |some e=>0<=i/\i.toNat<len/\∃v,jl a (Nat.mul i.toNat e.size)=some v/\K v
   |none=>False
  |some (.slice elem)=>match P.info? elem with
   |some e=>0<=i/\∃v,zq a i.toNat e.size=some v/\K v
   |none=>False
  |_=>False
 |_=>False
theorem Wx{t:TypeId}{x ix:Operand}{ρ:Operand->qa}{K:qa->Prop}(h:Zx P t (ρ x) (ρ ix) K):
  ∃v,jL P t x ix ρ H nx=some (.val v H nx)/\K v:=by
 unfold Zx at h;split at h<;>try exact h.elim
 rename_i k i hix;split at h<;>try exact h.elim
 ·rename_i len elem hu;split at h<;>try exact h.elim
  rename_i e he;obtain⟨h0,hlt,v,ev,h⟩:=h
  refine⟨v,?_,h⟩
  have hb:Nat.ble (Nat.succ i.toNat) len=true:=by rw [Nat.ble_eq];omega
  unfold jL;unfold jl at ev;simp only [hix,yr h0,hu]
  split at ev<;>try (cases ev;done)
  ·rename_i hx;cases ev;simp only [hx,hb,he]
  ·rename_i hx;cases ev;simp only [hx,hb,he]
 ·rename_i elem hu;split at h<;>try exact h.elim
  rename_i e he;obtain⟨h0,v,ev,h⟩:=h
  refine⟨v,?_,h⟩
  unfold jL;unfold zq at ev;simp only [hix,yr h0,hu]
  split at ev<;>try (cases ev;done)
  ·rename_i hx;split at ev<;>try (cases ev;done)
   rename_i hb;cases ev
   simp only [hx,hb,he]
  ·rename_i hx;split at ev<;>try (cases ev;done)
   rename_i hb;cases ev
   simp only [hx,hb,he]
def qcc(P:Program)(t:TypeId)(a ix:qa)(K:qa->Prop):Prop:=
 match ix with
 | .int _ i=>match P.underlying t with
  |some (.array len elem)=>match a with
   | .agg cs=>match P.info? elem with
    |some e=>0<=i/\i.toNat<len/\Vc P elem λv=>jM P elem cs (Nat.mul i.toNat e.size)=some v/\K v
    |none=>False
   |_=>False
  |some .string=>match a with
   | .str s=>0<=i/\∃c,s[i.toNat]?=some c/\K (.int .u8 (.ofNat c.toNat))
   |_=>False
  |_=>False
 |_=>False
theorem qfd{t:TypeId}{x ix:Operand}{ρ:Operand->qa}{K:qa->Prop}(h:qcc P t (ρ x) (ρ ix) K):
  ∃v,wq P t x ix ρ H nx=some (.val v H nx)/\K v:=by
 unfold qcc at h;split at h<;>try exact h.elim
 rename_i k i hix;split at h<;>try exact h.elim
 ·rename_i len elem hu;split at h<;>try exact h.elim
  rename_i cs hx;split at h<;>try exact h.elim
  rename_i e he;obtain⟨h0,hlt,h⟩:=h
  obtain⟨v,ev,h⟩:=QH h
  refine⟨v,?_,h⟩
  have hb:Nat.ble (Nat.succ i.toNat) len=true:=by rw [Nat.ble_eq];omega
  unfold wq;simp only [hix,yr h0,hu,hx,hb,he,ev]
 ·rename_i hu;split at h<;>try exact h.elim
  rename_i s hx;obtain⟨h0,c,ec,h⟩:=h
  refine⟨_,?_,h⟩
  unfold wq;simp only [hix,yr h0,hu,hx,ec]
def qgm(x:Option qa)(K:Option Nat->Prop):Prop:=
 match x with
 |none=>K none
 |some (.int _ i)=>0<=i/\K (some i.toNat)
 |some _=>False
theorem KU{x:Option Operand}{ρ:Operand->qa}{K:Option Nat->Prop}(h:qgm (x.map ρ) K):∃n,K n/\∀d,bnd d x ρ=some (n.getD d):=by
 unfold qgm at h;cases x with
 |none=>exact⟨none,h,λd=>rfl⟩
 |some y=>
  simp only [Option.map_some]at h
  split at h<;>try exact h.elim
  ·rename_i e;cases e
  ·rename_i k i e;obtain⟨h0,h⟩:=h
   refine⟨some i.toNat,h,λd=> ?_⟩
   have e':ρ y= .int k i:=Option.some.inj e
   simp only [bnd,e',yr h0,Option.getD_some]
def qc2(P:Program)(t:TypeId)(a:qa)(lo hi mx:Option qa)(H:qd)(K:qa->Prop):Prop:=
 match mx with
 |some _=>False
 |none=>match P.underlying t with
  |some .string=>match a with
   | .str s=>qgm lo λl=>qgm hi λh=>h.getD s.length<=s.length/\l.getD 0<=h.getD s.length/\K (.str ((s.drop (l.getD 0)).take (h.getD s.length - l.getD 0)))
   |_=>False
  |some (.slice elem)=>match P.info? elem with
   |some e=>qgm lo λl=>qgm hi λh=>∃v,qp9 a e.size (l.getD 0) h=some v/\K v
   |none=>False
  |_=>False
theorem qf4{t:TypeId}{x:Operand}{lo hi mx:Option Operand}{ρ:Operand->qa}{K:qa->Prop}(h:qc2 P t (ρ x) (lo.map ρ) (hi.map ρ) (mx.map ρ) H K):
  ∃v,yf P t x lo hi mx ρ H nx=some (.val v H nx)/\K v:=by
 unfold qc2 at h;split at h<;>try exact h.elim
 rename_i hm;have hm':mx=none:=by cases mx with
  |none=>rfl
  |some y=>cases hm
 subst hm';split at h<;>try exact h.elim
 ·rename_i hu;split at h<;>try exact h.elim
  rename_i s hx;obtain⟨l,h,hl⟩:=KU h
  obtain⟨hh,h,hhi⟩:=KU h
  obtain⟨h1,h2,h⟩:=h
  refine⟨_,?_,h⟩
  unfold yf;have b1:Nat.ble (hh.getD s.length) s.length=true:=by rw [Nat.ble_eq];exact h1
  have b2:Nat.ble (l.getD 0) (hh.getD s.length)=true:=by rw [Nat.ble_eq];exact h2
  simp only [hu,hx,hl,hhi,b1,b2]
 ·rename_i elem hu;split at h<;>try exact h.elim
  rename_i e he;obtain⟨l,h,hl⟩:=KU h
  obtain⟨hh,h,hhi⟩:=KU h
  obtain⟨v,ev,h⟩:=h
  refine⟨v,?_,h⟩
  unfold yf;unfold qp9 at ev;split at ev<;>try (cases ev;done)
  ·rename_i b off len es full hx;simp only []at ev
   split at ev<;>try (cases ev;done)
   rename_i b1 b2 b3;cases ev
   simp only [hu,hx,hl,hhi,he,b1,b2,b3,qM]
  ·rename_i hx;split at ev<;>try (cases ev;done)
   ·rename_i q1;cases ev;simp only [hu,hx,hl,hhi,he,Option.getD_none,q1]
   ·rename_i q1;cases ev;simp only [hu,hx,hl,hhi,he,Option.getD_some,q1]
  ·rename_i g off len es hx;simp only []at ev
   split at ev<;>try (cases ev;done)
   rename_i b1 b2 b3;cases ev
   simp only [hu,hx,hl,hhi,he,b1,b2,b3]
def qh4(P:Program)(src dst:TypeId)(a:qa)(H:qd)(K:qa->Prop):Prop:=
 match P.underlying src,P.underlying dst with
 |some (.int _),some (.int k)=>match a with
  | .int _ n=>K (.int k (k.wrap n))
  |_=>False
 |some .string,some .string=>match a with
  | .str s=>K (.str s)
  |_=>False
 |some (.slice e),some .string=>match P.underlying e with
  |some (.int .u8)=>∃s,Zq H a=some s/\K (.str s)
  |_=>False
 |_,_=>False
theorem qjy{src dst:TypeId}{x:Operand}{ρ:Operand->qa}{K:qa->Prop}(h:qh4 P src dst (ρ x) H K):
  ∃v,yh P src dst x ρ H nx=some (.val v H nx)/\K v:=by
 unfold qh4 at h;split at h<;>try exact h.elim
 ·rename_i k0 k hs hd;split at h<;>try exact h.elim
  rename_i k1 n hx;refine⟨_,?_,h⟩
  unfold yh;simp only [hs,hd,hx,zQ,yI]
 ·rename_i hs hd;split at h<;>try exact h.elim
  rename_i s hx;refine⟨_,?_,h⟩
  unfold yh;simp only [hs,hd,hx]
 ·rename_i el hs hd;split at h<;>try exact h.elim
  rename_i hel;obtain⟨s,es,h⟩:=h
  refine⟨_,?_,h⟩
  unfold yh;unfold Zq at es;split at es<;>try (cases es;done)
  ·rename_i b off n esz full hx;split at es<;>try (cases es;done)
   rename_i cnt ct o sp hb;split at es<;>try (cases es;done)
   rename_i hle;simp only [hs,hd,hx,hel,hb,hle,es]
  ·rename_i hx;cases es
   simp only [hs,hd,hx,hel]
def WP(P:Program)(place:Nat->Option (Nat×Nat×TypeId))(ρ:Operand->qa)(cells:List qa)(l:List (Nat×Operand))(K:List qa->Prop):Prop:=
 match l with
 |[]=>K cells
 |(i,x)::rest=>match place i with
  |some (off,size,t)=>Vf P t (ρ x) λcs=>match Nat.beq cs.length size,Nat.ble (Nat.add off size) cells.length with
   |true,true=>WP P place ρ (seg off cs cells) rest K
   |_,_=>False
  |none=>False
theorem Z0{place:Nat->Option (Nat×Nat×TypeId)}{ρ:Operand->qa}:∀{l:List (Nat×Operand)} {cells:List qa} {K:List qa->Prop},WP P place ρ cells l K->
  ∃cs,Qi (λi=>(place i).map λp=>(p.1,p.2.1)) ρ cells l=some cs/\K cs
 |[],_,_,h=>⟨_,rfl,h⟩
 |(i,x)::rest,cells,K,h=>by
  unfold WP at h;split at h<;>try exact h.elim
  rename_i off size t hp;obtain⟨cs,hcs,h⟩:=JX h
  split at h<;>try exact h.elim
  rename_i h1 h2;obtain⟨r,e,h⟩:=Z0 h
  refine⟨r,?_,h⟩
  unfold Qi;simp only [hp,hcs,h1,h2,Option.map_some]
  exact e
def KE(P:Program):List Field->Option (List (Nat×Nat×TypeId))
 |[]=>some []
 |f::l=>match P.info? f.type,KE P l with
  |some i,some r=>some ((f.offset,i.size,f.type)::r)
  |_,_=>none
theorem Vv:∀{l:List Field} {r:List (Nat×Nat×TypeId)},KE P l=some r->JP P l=some (r.map λp=>(p.1,p.2.1))
 |[],_,h=>by cases h;rfl
 |f::l,r,h=>by
  unfold KE at h;split at h<;>try (cases h;done)
  rename_i i r' hi hr;cases h
  unfold JP;simp only [hi,Vv hr,List.map_cons]
def qc1(P:Program)(t:TypeId)(parts:List (Nat×Operand))(ρ:Operand->qa)(K:List qa->Prop):Prop:=
 match wH P t,P.underlying t with
 |some z,some (.struct fields)=>match KE P fields.toList with
  |some pl=>WP P (λi=>pl[i]?) ρ z parts K
  |none=>False
 |some z,some (.array _ elem)=>match P.info? elem with
  |some e=>WP P (λi=>some (Nat.mul i e.size,e.size,elem)) ρ z parts K
  |none=>False
 |_,_=>False
theorem qf9{t:TypeId}{parts:Array (Nat×Operand)}{ρ:Operand->qa}{K:List qa->Prop}(h:qc1 P t parts.toList ρ K):∃cs,VT P t parts ρ=some cs/\K cs:=by
 unfold qc1 at h;unfold VT;split at h<;>try exact h.elim
 ·rename_i z fields hz hu;split at h<;>try exact h.elim
  rename_i pl hpl;obtain⟨cs,e,h⟩:=Z0 h
  refine⟨cs,?_,h⟩
  simp only [hz,hu,Vv hpl,List.getElem?_map]
  exact e
 ·rename_i z len elem hz hu;split at h<;>try exact h.elim
  rename_i e he;obtain⟨cs,e',h⟩:=Z0 h
  refine⟨cs,?_,h⟩
  simp only [hz,hu,he]
  exact e'
def Kh(P:Program)(op:Op)(ρ:Operand->qa)(K:Made->Prop):Prop:=
 match op with
 | .alloc t=>match wH P t with
  |some z=>match Nat.ble z.length 4096 with
   |true=>K ⟨z.length,z,λb=> .ptr b 0⟩
   |false=>False
  |none=>False
 | .box t x=>Vf P t (ρ x) λcs=>match Nat.ble cs.length 4096 with
  |true=>K ⟨cs.length,cs,λb=> .ptr b 0⟩
  |false=>False
 | .buildSlice t len parts=>match P.underlying t with
  |some (.slice elem)=>match wH P elem,P.info? elem with
   |some z,some e=>match Nat.ble (Nat.mul len e.size) 4096,Nat.beq e.size 0 with
    |true,false=>WP P (λi=>some (Nat.mul i e.size,e.size,elem)) ρ (Kv z len) parts.toList λcs=>K ⟨Nat.mul len e.size,cs,λb=> .slice b 0 len e.size true⟩
    |_,_=>False
   |_,_=>False
  |_=>False
 | .makeSlice t l c=>match P.underlying t with
  |some (.slice elem)=>match wH P elem,P.info? elem with
   |some z,some e=>match Nat.beq e.size 0 with
    |false=>match ρ l,ρ c with
     | .int _ n,.int _ m=>n=m/\0<=n/\n.toNat*e.size<=9223372036854775807/\n.toNat*e.bytes<=140737488355328/\n.toNat<=9223372036854775807/\
       K ⟨Nat.mul n.toNat e.size,Kv z n.toNat,λb=> .slice b 0 n.toNat e.size true⟩
     |_,_=>False
    |true=>False
   |_,_=>False
  |_=>False
 |_=>False
theorem jD{a b:Nat}(h:a<=b):Nat.ble a b=true:=by rw [Nat.ble_eq];exact h
theorem YU{op:Op}{ρ:Operand->qa}{K:Made->Prop}(h:Kh P op ρ K):∃m,ZI P op ρ=some m/\Nat.ble m.n 9223372036854775807=true/\K m:=by
 unfold Kh at h;split at h<;>try exact h.elim
 ·split at h<;>try exact h.elim
  rename_i z hz;split at h<;>try exact h.elim
  rename_i hb;refine⟨_,?_,jD (Nat.le_trans (Nat.le_of_ble_eq_true hb) (by decide)),h⟩
  simp only [ZI,Ze,hz]
 ·obtain⟨cs,hcs,h⟩:=JX h
  split at h<;>try exact h.elim
  rename_i hb;refine⟨_,?_,jD (Nat.le_trans (Nat.le_of_ble_eq_true hb) (by decide)),h⟩
  simp only [ZI,ZK,hcs,qM]
 ·rename_i t len parts;split at h<;>try exact h.elim
  rename_i elem hu;split at h<;>try exact h.elim
  rename_i z e hz he;split at h<;>try exact h.elim
  rename_i h1 h2;obtain⟨cs,e',h⟩:=Z0 h
  refine⟨_,?_,jD (Nat.le_trans (Nat.le_of_ble_eq_true h1) (by decide)),h⟩
  simp only [ZI,vn,hu,hz,he,h1,h2]
  have e2:Qi (λi=>some (Nat.mul i e.size,e.size)) ρ (Kv z len) parts.toList=some cs:=e'
  rw [e2]
 ·rename_i t l c;split at h<;>try exact h.elim
  rename_i elem hu;split at h<;>try exact h.elim
  rename_i z e hz he;split at h<;>try exact h.elim
  rename_i h0;split at h<;>try exact h.elim
  rename_i k1 n k2 m hl hc;obtain⟨rfl,hn,g1,g2,g3,h⟩:=h
  refine⟨_,?_,jD g1,h⟩
  have b0:Nat.beq n.toNat n.toNat=true:=Nat.beq_refl _
  have b1:Nat.ble (Nat.mul n.toNat e.size) 9223372036854775807=true:=jD g1
  have b2:Nat.ble (Nat.mul n.toNat e.bytes) 140737488355328=true:=jD g2
  simp only [ZI,Qo,hu,hz,he,hl,hc,yr hn,b0,b1,b2,h0,jD g3,qM]
def qfb(m:Made)(nx:Nat)(H:qd):qd:=zS nx (some (.cells m.n (CT.ofL m.n m.l) [] false)) H
def zt(H:qd)(nx esz ebytes:Nat)(s:qa)(n:Nat)(new:List qa):Option (qa×qd×Nat):=
 match n with
 |0=>match s with
  | .nilSlice=>some (.nilSlice,H,nx)
  | .slice b off len e full=>some (.slice b off len e full,H,nx)
  |_=>none
 |Nat.succ n'=>match s with
  | .nilSlice=>match Nat.ble (Nat.mul (Nat.succ n') esz) 9223372036854775807,Nat.ble (Nat.mul (Nat.succ n') ebytes) 140737488355328 with
   |true,true=>some (.slice nx 0 (Nat.succ n') esz false,zS nx (some (.cells (Nat.mul (Nat.succ n') esz) (CT.ofL (Nat.mul (Nat.succ n') esz) new) [] false)) H,Nat.succ nx)
   |_,_=>none
  | .slice b off len e full=>match zg b H,Nat.beq e esz,Nat.ble (Nat.mul (Nat.add len (Nat.succ n')) esz) 9223372036854775807,Nat.ble (Nat.mul (Nat.add len (Nat.succ n')) ebytes) 140737488355328 with
   |some (.cells cnt ct olds sup),true,true,true=>match Nat.ble (Nat.add off (Nat.mul len esz)) cnt,full with
    |true,true=>some (.slice nx 0 (Nat.add len (Nat.succ n')) esz false,
      zS nx (some (.cells (Nat.mul (Nat.add len (Nat.succ n')) esz) (CT.ofL (Nat.mul (Nat.add len (Nat.succ n')) esz) (CT.slab ct (Nat.mul len esz) off++new)) [] false)) H,Nat.succ nx)
    |true,false=>match off,sup with
     |0,false=>some (.slice nx 0 (Nat.add len (Nat.succ n')) esz false,
       grown b cnt ct olds (Nat.mul len esz) H nx (Nat.mul (Nat.add len (Nat.succ n')) esz) (CT.lay new (Nat.mul len esz) (CT.widen (Nat.mul (Nat.add len (Nat.succ n')) esz) ct)),Nat.succ nx)
     |_,_=>none
    |_,_=>none
   |_,_,_,_=>none
  |_=>none
theorem qe1{elem:TypeId}{s:qa}{src:Nat->Option (Nat×List qa)}{z:List qa}{e:TypeInfo}{n:Nat}{new:List qa}{v:qa}{H':qd}{nx':Nat}
  (hz:wH P elem=some z) (he:P.info? elem=some e) (hs:src e.size=some (n,new)) (h0:Nat.beq e.size 0=false) (h:zt H nx e.size e.bytes s n new=some (v,H',nx')):
  ya P elem H nx s src=some (.val v H' nx'):=by
 have hn:Nat.ble (Nat.succ nx) (Nat.succ nx)=true:=jD lR
 unfold zt at h;unfold ya;simp only [hz,he,hs,h0,hn]
 cases n with
 |zero=>
  simp only []at h ⊢
  split at h<;>first|(cases h;done)|(cases h;rfl)
 |succ n'=>
  simp only []at h ⊢
  split at h<;>try (cases h;done)
  ·split at h<;>try (cases h;done)
   rename_i g1 g2;cases h
   simp only [g1,g2,qM]
  ·split at h<;>try (cases h;done)
   rename_i g0 g1 g2 g3;split at h<;>try (cases h;done)
   ·rename_i g4;cases h
    simp only [g0,g1,g2,g3,g4,qM]
   ·rename_i g4;split at h<;>try (cases h;done)
    cases h
    simp only [g0,g1,g2,g3,g4,qM]
def qcq(z:List qa)(size:Nat)(x:qa):Option (Nat×List qa):=
 match x with
 | .int .i64 (.ofNat n)=>match Nat.ble (Nat.mul n size) 9223372036854775807,Nat.ble n 9223372036854775807 with
  |true,true=>some (n,Kv z n)
  |_,_=>none
 |_=>none
theorem qg9{elem:TypeId}{z:List qa}{size:Nat}{x:qa}{r:Nat×List qa}(hz:wH P elem=some z)(h:qcq z size x=some r):Zv P elem size x=some r:=by
 unfold qcq at h;split at h<;>try (cases h;done)
 split at h<;>try (cases h;done)
 rename_i g1 g2;cases h
 unfold Zv;simp only [hz,g1,g2]
def qn5(H:qd)(esz:Nat)(d s:qa):Option (Nat×qd):=
 match d,s with
 | .slice b off len _ _,.slice b2 off2 len2 _ _=>match zg b H,zg b2 H with
  |some (.cells cnt ct olds false),some (.cells cnt2 ct2 _ _)=>match Nat.ble (Nat.add off (Nat.mul (wX len2 len) esz)) cnt,Nat.ble (Nat.add off2 (Nat.mul (wX len2 len) esz)) cnt2,qq (CT.slab ct2 (Nat.mul (wX len2 len) esz) off2)with
   |true,true,true=>some (wX len2 len,zS b (some (.cells cnt (CT.lay (CT.slab ct2 (Nat.mul (wX len2 len) esz) off2) off ct) [] false)) (wY olds H))
   |_,_,_=>none
  |_,_=>none
 | .slice _ _ _ _ _,.nilSlice=>some (0,H)
 | .nilSlice,.nilSlice=>some (0,H)
 | .nilSlice,.slice _ _ _ _ _=>some (0,H)
 |_,_=>none
theorem qly{types:Array TypeId}{args:Array Operand}{ρ:Operand->qa}{dT elem:TypeId}{l:List TypeId}{d s:Operand}{e:TypeInfo}{n:Nat}{H':qd}
  (ht:types.toList=dT::l) (ha:args.toList=[d,s]) (hu:P.underlying dT=some (.slice elem)) (he:P.info? elem=some e) (h:qn5 H e.size (ρ d) (ρ s)=some (n,H')):
  Ju P types args ρ H nx=some (.val (.int .i64 (.ofNat n)) H' nx):=by
 unfold Ju;simp only [ht,ha,hu,he]
 unfold qn5 at h;split at h
 ·rename_i hd hs;simp only [hd,hs]
  split at h<;>try (cases h;done)
  rename_i g1 g2;split at h<;>try (cases h;done)
  rename_i g3 g4 g5;cases h
  simp only [g1,g2,qM,g3,g4,g5]
 ·rename_i hd hs;cases h;simp only [hd,hs];rfl
 ·rename_i hd hs;cases h;simp only [hd,hs];rfl
 ·rename_i hd hs;cases h;simp only [hd,hs];rfl
 ·cases h
def qe6(P:Program)(x:Operand)(a:qa)(args:List qa)(K:FuncId->List qa->Prop):Prop:=
 match x with
 | .tmp _=>∃f as,jO P a args=some (f,as)/\K f as
 |_=>match jO P a args with
  |some (f,as)=>K f as
  |none=>False
theorem Yw{x:Operand}{a:qa}{args:List qa}{K:FuncId->List qa->Prop}(h:qe6 P x a args K):∃f as,jO P a args=some (f,as)/\K f as:=by
 unfold qe6 at h;split at h
 ·exact h
 ·split at h<;>first|exact h.elim|exact⟨_,_,‹_›,h⟩
def qi7(P:Program)(c:Call)(ρ:Operand->qa)(H:qd)(nx:Nat)(κ:zK->Prop):Prop:=
 match c.callee with
 | .value f=>qe6 P f (ρ f) (c.args.toList.map ρ) λg as=>κ (.call g as)
 | .builtin .len=>match c.argTypes.toList,c.args.toList with
  |[t],[x]=>match P.underlying t with
   |some .string=>match ρ x with
    | .str s=>κ (.val (.int .i64 (.ofNat s.length)) H nx)
    |_=>False
   |some (.array n _)=>κ (.val (.int .i64 (.ofNat n)) H nx)
   |some (.slice _)=>∃n,kI (ρ x)=some n/\κ (.val (.int .i64 (.ofNat n)) H nx)
   |_=>False
  |_,_=>False
 | .builtin .append=>match c.argTypes.toList,c.args.toList with
  |[sT,xT],[s,x]=>match P.underlying sT,P.underlying xT with
   |some (.slice elem),some d=>match qeq d,P.info? elem,wH P elem with
    |true,some e,some _=>match Nat.beq e.size 0 with
     |false=>∃n l,zJ e.size H (ρ x)=some (n,l)/\qq l=true/\∃v H' nx',zt H nx e.size e.bytes (ρ s) n l=some (v,H',nx')/\κ (.val v H' nx')
     |true=>False
    |false,some e,some z=>match qmp d,Nat.beq e.size 0 with
     |true,false=>∃n l,qcq z e.size (ρ x)=some (n,l)/\qq l=true/\∃v H' nx',zt H nx e.size e.bytes (ρ s) n l=some (v,H',nx')/\κ (.val v H' nx')
     |_,_=>∃r,jr P c ρ H nx=some r/\κ r
    |_,_,_=>∃r,jr P c ρ H nx=some r/\κ r
   |_,_=>False
  |_,_=>False
 | .builtin .max=>match c.args.toList with
  |x::l=>match ρ x with
   | .int k n=>∃m,VX true k n (l.map ρ)=some m/\κ (.val (.int k m) H nx)
   |_=>False
  |_=>False
 | .builtin .min=>match c.args.toList with
  |x::l=>match ρ x with
   | .int k n=>∃m,VX false k n (l.map ρ)=some m/\κ (.val (.int k m) H nx)
   |_=>False
  |_=>False
 | .builtin .copy=>match c.argTypes.toList,c.args.toList with
  |dT::_,[d,s]=>match P.underlying dT with
   |some (.slice elem)=>match P.info? elem with
    |some e=>∃n H',qn5 H e.size (ρ d) (ρ s)=some (n,H')/\κ (.val (.int .i64 (.ofNat n)) H' nx)
    |none=>False
   |_=>False
  |_,_=>False
 | .builtin .recover=>match c.args.toList with
  |[]=>κ .rcv
  |_=>False
 | .invoke r name=>∃t v f byPtr u,ρ r= .iface t v/\Yp P t name=some (f,byPtr)/\vp P f=true/\qdu P H t v byPtr=some u/\κ (.call f (u::c.args.toList.map ρ))
 |_=>∃r,jr P c ρ H nx=some r/\κ r
theorem qim{c:Call}{ρ:Operand->qa}{κ:zK->Prop}(h:qi7 P c ρ H nx κ):∃r,jr P c ρ H nx=some r/\κ r:=by
 obtain⟨callee,args,types⟩:=c
 unfold qi7 at h;simp only []at h
 split at h
 ·obtain⟨g,as,e,h⟩:=Yw h
  refine⟨_,?_,h⟩
  simp only [jr,ZO,e]
 ·split at h<;>try exact h.elim
  rename_i t x ht hx;split at h<;>try exact h.elim
  ·rename_i hu;split at h<;>try exact h.elim
   rename_i s hs;refine⟨_,?_,h⟩
   simp only [jr,zL,ht,hx,Qp,hu,hs]
  ·rename_i n e hu;refine⟨_,?_,h⟩
   simp only [jr,zL,ht,hx,Qp,hu]
  ·rename_i el hu;obtain⟨n,e,h⟩:=h
   refine⟨_,?_,h⟩
   unfold kI at e;split at e<;>try (cases e;done)
   ·rename_i hs;cases e;simp only [jr,zL,ht,hx,Qp,hu,hs]
   ·rename_i hs;cases e;simp only [jr,zL,ht,hx,Qp,hu,hs]
   ·rename_i hs;cases e;simp only [jr,zL,ht,hx,Qp,hu,hs]
 ·split at h<;>try exact h.elim
  rename_i sT xT s x ht hx;split at h<;>try exact h.elim
  rename_i elem d hs hd;split at h<;>first|exact h|skip
  ·rename_i e z hsrc he hz;split at h<;>try exact h.elim
   rename_i h0;obtain⟨n,l,e1,e2,v,H',nx',e3,h⟩:=h
   refine⟨_,?_,h⟩
   simp only [jr,ht,hx,hs,hd,hsrc,he,e1,e2]
   exact qe1 hz he e1 h0 e3
  ·rename_i e z hsrc he hz;split at h<;>first|exact h|skip
   rename_i hi h0;obtain⟨n,l,e1,e2,v,H',nx',e3,h⟩:=h
   refine⟨_,?_,h⟩
   have e1':=qg9 (P:=P) (elem:=elem) hz e1
   simp only [jr,ht,hx,hs,hd,hsrc,he,hi,e1',e2]
   exact qe1 (src:=λsize=>Zv P elem size (ρ x)) hz he e1' h0 e3
 ·split at h<;>try exact h.elim
  rename_i x l hx;split at h<;>try exact h.elim
  rename_i k n hn;obtain⟨m,e,h⟩:=h
  refine⟨_,?_,h⟩
  simp only [jr,zL,hx,hn,e,zQ]
 ·split at h<;>try exact h.elim
  rename_i x l hx;split at h<;>try exact h.elim
  rename_i k n hn;obtain⟨m,e,h⟩:=h
  refine⟨_,?_,h⟩
  simp only [jr,zL,hx,hn,e,zQ]
 ·split at h<;>try exact h.elim
  rename_i dT l d s ht ha;split at h<;>try exact h.elim
  rename_i elem hu;split at h<;>try exact h.elim
  rename_i e he;obtain⟨n,H',e1,h⟩:=h
  refine⟨_,?_,h⟩
  simp only [jr]
  exact qly ht ha hu he e1
 ·split at h<;>try exact h.elim
  rename_i ha;refine⟨_,?_,h⟩
  simp only [jr,zL,ha]
 ·obtain⟨t,v,f,byPtr,u,e1,e2,e3,e4,h⟩:=h
  refine⟨_,?_,h⟩
  simp only [jr,QD,e1,e2,e3,e4]
 ·exact h
def wM:qa->Bool
 | .ptr _ _=>true
 | .gptr _ _=>true
 | .iface _ _=>true
 | .func (.func _) _ _=>true
 |_=>false
def qep(P:Program)(o:Oper)(ρ:Operand->qa)(H:qd)(nx:Nat)(κ:zK->Prop):Prop:=
 match o.op with
 | .move x=>κ (.val (ρ x) H nx)
 | .assign x=>κ (.val (ρ x) H nx)
 | .pick c a b=>match ρ c with
  | .bool p=>Bool.rec (κ (.val (ρ b) H nx)) (κ (.val (ρ a) H nx)) p
  |_=>False
 | .load t a=>wf P t H (ρ a) λv=>κ (.val v H nx)
 | .store t a x=>qc5 P t H (ρ a) (ρ x) λH'=>κ (.val .und H' nx)
 | .nilCheck x=>wM (ρ x)=true/\κ (.val (ρ x) H nx)
 | .binOp op t x y _=>qnp P op t x y (ρ x) (ρ y) λv=>κ (.val v H nx)
 | .unOp .neg _ x=>match ρ x with
  | .int k n=>κ (.val (.int k (k.wrap (0 - n))) H nx)
  |_=>False
 | .unOp .not _ x=>match ρ x with
  | .bool b=>κ (.val (.bool (!b)) H nx)
  |_=>False
 | .convert s d x=>qh4 P s d (ρ x) H λv=>κ (.val v H nx)
 | .makeInterface t x=>match P.underlying t with
  |some d=>match XC d with
   |false=>κ (.val (.iface t (ρ x)) H nx)
   |true=>False
  |none=>False
 | .makeFunc fn a b=>κ (.val (.func fn (a.toList.map ρ) (b.toList.map ρ)) H nx)
 | .slice t x lo hi mx=>qc2 P t (ρ x) (lo.map ρ) (hi.map ρ) (mx.map ρ) H λv=>κ (.val v H nx)
 | .fieldAddr s x f=>Zu P s f (ρ x) λv=>κ (.val v H nx)
 | .field t x f=>match y8 P t x f ρ H nx with
  |some r=>κ r
  |none=>False
 | .indexAddr t x i=>Zx P t (ρ x) (ρ i) λv=>κ (.val v H nx)
 | .index t x i=>qcc P t (ρ x) (ρ i) λv=>κ (.val v H nx)
 | .extract t i=>match vE t i ρ H nx with
  |some r=>κ r
  |none=>False
 | .build t ps=>qc1 P t ps.toList ρ λcs=>κ (.val (.agg cs) H nx)
 | .alloc t=>Kh P (.alloc t) ρ λm=>∃H',H'=qfb m nx H/\κ (.val (m.v nx) H' (Nat.succ nx))
 | .box t x=>Kh P (.box t x) ρ λm=>∃H',H'=qfb m nx H/\κ (.val (m.v nx) H' (Nat.succ nx))
 | .buildSlice t n ps=>Kh P (.buildSlice t n ps) ρ λm=>∃H',H'=qfb m nx H/\κ (.val (m.v nx) H' (Nat.succ nx))
 | .makeSlice t l c=>Kh P (.makeSlice t l c) ρ λm=>∃H',H'=qfb m nx H/\κ (.val (m.v nx) H' (Nat.succ nx))
 | .call c=>qi7 P c ρ H nx κ
 | .defer c=>match c.callee with
  | .value f=>qe6 P f (ρ f) (c.args.toList.map ρ) λg as=>κ (.dfr g as)
  |_=>False
 | .panic x=>∃t v,ρ x= .iface t v/\κ (.pan (.iface t v))
 | .typeAssert x _ a ok=>match ok with
  |true=>match KB P (ρ x) a true with
   |some v=>JU P o.type v λv=>κ (.val v H nx)
   |none=>False
  |false=>∃v,KB P (ρ x) a false=some v/\JU P o.type v λv=>κ (.val v H nx)
 |_=>∃r,aop P o ρ H nx=some r/\κ r
theorem KY{op:Op}{ρ:Operand->qa}{κ:zK->Prop}(h:Kh P op ρ λm=>∃H',H'=qfb m nx H/\κ (.val (m.v nx) H' (Nat.succ nx))):∃r,kC P op ρ H nx=some r/\κ r:=by
 obtain⟨m,e,hb,_,rfl,h⟩:=YU h
 refine⟨_,?_,h⟩
 have hn:Nat.ble (Nat.succ nx) (Nat.succ nx)=true:=jD lR
 simp only [kC,e,Yl,hb,hn,qM]
 rfl
theorem Jh{o:Oper}{ρ:Operand->qa}{κ:zK->Prop}(h:qep P o ρ H nx κ):∃r,aop P o ρ H nx=some r/\κ r:=by
 unfold qep at h;unfold aop;split at h
 ·rename_i e;rw [e];exact⟨_,rfl,h⟩
 ·rename_i e;rw [e];exact⟨_,rfl,h⟩
 ·rename_i e;rw [e];split at h<;>try exact h.elim
  rename_i p hp;cases p with
  |true=>exact⟨_,by simp only [QA,hp],h⟩
  |false=>exact⟨_,by simp only [QA,hp],h⟩
 ·rename_i e;rw [e];obtain⟨v,e1,h⟩:=Vx h;exact⟨_,by simp only [Jm,e1],h⟩
 ·rename_i e;rw [e];obtain⟨v,e1,h⟩:=qg5 h;exact⟨_,by simp only [ZW,e1],h⟩
 ·rename_i x e;rw [e];obtain⟨h1,h⟩:=h
  refine⟨_,?_,h⟩
  show kF x ρ H nx=_
  unfold kF;unfold wM at h1;split at h1<;>first|(cases h1;done)|(rename_i q;simp only [q])
 ·rename_i e;rw [e];obtain⟨v,e1,h⟩:=qkl h;exact⟨_,e1,h⟩
 ·rename_i e;rw [e];split at h<;>try exact h.elim
  rename_i k n hx;exact⟨_,by simp only [Yx,hx,zQ,yI];rfl,h⟩
 ·rename_i e;rw [e];split at h<;>try exact h.elim
  rename_i b hx;exact⟨_,by simp only [Yx,hx,wj],h⟩
 ·rename_i e;rw [e];obtain⟨v,e1,h⟩:=qjy h;exact⟨_,e1,h⟩
 ·rename_i t x e;rw [e];split at h<;>try exact h.elim
  rename_i d hu;split at h<;>try exact h.elim
  rename_i hi;exact⟨_,by simp only [js,hu,hi],h⟩
 ·rename_i e;rw [e];exact⟨_,rfl,h⟩
 ·rename_i e;rw [e];obtain⟨v,e1,h⟩:=qf4 h;exact⟨_,e1,h⟩
 ·rename_i e;rw [e];obtain⟨v,e1,h⟩:=Wd h;exact⟨_,e1,h⟩
 ·rename_i e;rw [e];split at h<;>first|exact h.elim|exact⟨_,‹_›,h⟩
 ·rename_i e;rw [e];obtain⟨v,e1,h⟩:=Wx h;exact⟨_,e1,h⟩
 ·rename_i e;rw [e];obtain⟨v,e1,h⟩:=qfd h;exact⟨_,e1,h⟩
 ·rename_i e;rw [e];split at h<;>first|exact h.elim|exact⟨_,‹_›,h⟩
 ·rename_i e;rw [e];obtain⟨v,e1,h⟩:=qf9 h;exact⟨_,by simp only [Qe,e1],h⟩
 ·rename_i e;rw [e];exact KY h
 ·rename_i e;rw [e];exact KY h
 ·rename_i e;rw [e];exact KY h
 ·rename_i e;rw [e];exact KY h
 ·rename_i e;rw [e];exact qim h
 ·rename_i c e;rw [e];split at h<;>try exact h.elim
  rename_i f hf;obtain⟨g,as,e1,h⟩:=Yw h
  refine⟨_,?_,h⟩
  simp only [QB,hf,ZV,e1]
 ·rename_i e;rw [e];obtain⟨t,v,e1,h⟩:=h
  exact⟨_,by simp only [ZS,e1],h⟩
 ·rename_i x xt a ok e;rw [e];split at h
  ·split at h<;>try exact h.elim
   rename_i v e1;exact⟨_,by simp only [vT,e1],Q7 h⟩
  ·obtain⟨v,e1,h⟩:=h
   exact⟨_,by simp only [vT,e1],Q7 h⟩
 ·exact h
end
end Go.Vs
end
section
namespace Go.Vs
variable [GTab] {P:Program} {H:qd} {nx:Nat} {w:World} {ops:Array Oper} {o:Oper} {nt:Nat} {env:Env}
noncomputable section
abbrev KC:=Env->qd->Nat->Dfs->Option qA->Prop
abbrev KP:=qad->KC
abbrev qv:=qh->qd->Nat->Prop
abbrev zA:=FuncId->List qa->qd->Nat->qv->Prop
abbrev JD:=FuncId->List qa->qA->qd->Nat->(qh->qA->qd->Nat->Prop)->Prop
abbrev jk:=Code->Env->qd->Nat->Dfs->Option qA->KP->Prop
def qk(P:Program):zA:=λf args H nx K=>
 ∀(σ:Sg) (w:World) (args':List Value) (R:Ending->World->Prop),Rel σ H nx w->zm σ args args'->
  (∀e H' nx' σ' w' en,K e H' nx'->Rel σ' H' nx' w'->Ext σ σ' H H' nx nx' w w'->Xx σ' e en->R en w')->Calls P f ⟨args'⟩ w R
def qB(P:Program):JD:=λf args m H nx K=>vp P f=true/\
 ∀(σ:Sg) (w:World) (args':List Value) (u:FrameMode) (R:Ending->FrameMode->World->Prop),Rel σ H nx w->zm σ args args'->Qw σ m u->
  (∀e m' H' nx' σ' w' en u',K e m' H' nx'->Rel σ' H' nx' w'->Ext σ σ' H H' nx nx' w w'->Xx σ' e en->Qw σ' m' u'->R en u' w')->CallsD P f ⟨args'⟩ u w R
def QW(P:Program)(call:zA):Prop:=∀f args H nx K,call f args H nx K->qk P f args H nx K
def qkh(P:Program)(calld:JD):Prop:=∀f args m H nx K,calld f args m H nx K->qB P f args m H nx K
theorem qk.mono{f:FuncId}{args:List qa}{K K':qv}(h:qk P f args H nx K)(hk:∀e H' nx',K e H' nx'->K' e H' nx'):qk P f args H nx K':=
 λσ w args' R hr hd hR=>h σ w args' R hr hd λe H' nx' σ' w' en k=>hR e H' nx' σ' w' en (hk _ _ _ k)
def qc(e:qh)(r:qa->Prop)(p:List (qa×Bool)->Prop):Prop:=(∀v,e= .ret v->r v)/\(∀l,e= .pan l->p l)
def qmn(P:Program)(call:zA)(ty:TypeId)(d:Option Nat)(r:zK)(env:Env)(H:qd)(nx:Nat)(dfs:Dfs)(rc:Option qA)(k:KC)(K:KP):Prop:=
 match r with
 | .val v H' nx'=>k (put d v env) H' nx' dfs rc
 | .call f args=>call f args H nx λe H' nx'=>qc e (λv=>JU P ty v λv=>k (put d v env) H' nx' dfs rc) (λl=>K (.pan l) env H' nx' dfs rc)
 | .dfr f args=>k (put d (.tuple []) env) H nx ((f,args)::dfs) rc
 | .pan v=>K (.pan [(v,false)]) env H nx dfs rc
 | .rcv=>match rc with
  |some (.panicking ((v,false)::older))=>k (put d v env) H nx dfs (some (.panicking ((v,true)::older)))
  |some .returning=>k (put d .nilIface env) H nx dfs rc
  |_=>False
theorem WW{t:Nat}{v:qa}(h:get2 t env=v):Qs t v env=env:=by
 funext s
 show(Bool.rec (env s) v (Nat.beq s t):qa)=env s
 cases e:Nat.beq s t with
 |false=>rfl
 |true=>have:=Nat.eq_of_beq_eq_true e;subst this;exact h.symm
def ifB(b:Bool)(p q:Prop):Prop:=Bool.rec q p b
theorem qi{b:Bool}{p q:Prop}:ifB b p q↔(b=true->p)/\(b=false->q):=by cases b<;>simp [ifB]
def JL(ops:Array Oper)(g:Option (Nat×Bool))(env:Env)(run skip:Env->Prop):Prop:=
 match g with
 |none=>run env
 |some (j,want)=>match(ops[j]?).bind (·.dst)with
  |some t=>match Nat.ble t 4095 with
   |true=>match get2 t env with
    | .bool b=>Bool.rec (Bool.rec (run (Qs t (.bool false) env)) (skip (Qs t (.bool false) env)) want) (Bool.rec (skip (Qs t (.bool true) env)) (run (Qs t (.bool true) env)) want) b
    | .tuple []=>skip env
    |_=>False
   |false=>False
  |none=>skip env
theorem yz{g:Option (Nat×Bool)}{run skip:Env->Prop}(h:JL ops g env run skip):
  (jq ops g env=some true/\run env)\/(jq ops g env=some false/\skip env):=by
 unfold JL at h;unfold jq;split at h
 ·exact .inl ⟨rfl,h⟩
 ·rename_i j want;simp only []
  split at h
  ·rename_i t ht;split at h<;>try exact h.elim
   rename_i hb;split at h<;>try exact h.elim
   ·rename_i b hv;simp only [ht,hb,hv]
    cases b<;>cases want
    all_goals
     simp only [WW hv]at h
     first
     |exact .inl ⟨by first|rfl|trivial,h⟩
     |exact .inr ⟨by first|rfl|trivial,h⟩
   ·rename_i hv;simp only [ht,hb,hv]
    exact .inr ⟨by first|rfl|trivial,h⟩
  ·rename_i ht;simp only [ht]
   exact .inr ⟨by first|rfl|trivial,h⟩
def vOp(P:Program)(call:zA)(nt:Nat)(ops:Array Oper)(o:Oper)(env:Env)(H:qd)(nx:Nat)(dfs:Dfs)(rc:Option qA)(k:KC)(K:KP):Prop:=
 match QS nt o.dst with
 |true=>JL ops o.guard env (λenv=>qep P o (aev env) H nx λr=>qmn P call o.type o.dst r env H nx dfs rc k K) (λenv=>k (put o.dst (.tuple []) env) H nx dfs rc)
 |false=>False
def Yk(P:Program)(call:zA)(nt:Nat)(ops:Array Oper)(K:KP):List Oper->KC
 |[]=>λenv H nx dfs rc=>K .normal env H nx dfs rc
 |o::l=>λenv H nx dfs rc=>vOp P call nt ops o env H nx dfs rc (Yk P call nt ops K l) K
def Z9(nt:Nat)(K:KP)(σ:Sg)(H:qd)(nx:Nat)(w:World)(Q:Exit->Act->World->Prop):Prop:=
 ∀ex env' H' nx' dfs' σ' w' a' e,K ex env' H' nx' dfs' none->Rel σ' H' nx' w'->Ext σ σ' H H' nx nx' w w'->vm σ' nt env' dfs' a'->qdn σ' ex e->Q e a' w'
def Vn(nt:Nat)(K:KP)(σ:Sg)(H:qd)(nx:Nat)(w:World)(c₀:Frame)(cs:List Frame)(Q:Exit->Act->List Frame->World->Prop):Prop:=
 ∀ex env' H' nx' dfs' m' σ' w' a' e u',K ex env' H' nx' dfs' (some m')->Rel σ' H' nx' w'->Ext σ σ' H H' nx nx' w w'->vm σ' nt env' dfs' a'->qdn σ' ex e->Qw σ' m' u'->
  Q e a' ({c₀ with mode:=u'}::cs) w'
theorem Z9.from{K:KP}{σ σ1:Sg}{H H1:qd}{nx nx1:Nat}{w w1:World}{Q:Exit->Act->World->Prop}(h:Z9 nt K σ H nx w Q)(E:Ext σ σ1 H H1 nx nx1 w w1):
  Z9 nt K σ1 H1 nx1 w1 Q:=λex env' H' nx' dfs' σ' w' a' e hk R E2 A X=>h ex env' H' nx' dfs' σ' w' a' e hk R (E.trans E2) A X
theorem Vn.from{K:KP}{σ σ1:Sg}{H H1:qd}{nx nx1:Nat}{w w1:World}{c₀:Frame}{cs:List Frame}{Q:Exit->Act->List Frame->World->Prop}(h:Vn nt K σ H nx w c₀ cs Q)(E:Ext σ σ1 H H1 nx nx1 w w1):
  Vn nt K σ1 H1 nx1 w1 c₀ cs Q:=λex env' H' nx' dfs' m' σ' w' a' e u' hk R E2 A X M=>h ex env' H' nx' dfs' m' σ' w' a' e u' hk R (E.trans E2) A X M
theorem Vr{call:zA}{dfs:Dfs}{rc:Option qA}{r:zK}{k:KC}{K:KP}{ty:TypeId}
  (hc:QW P call) (hok:zE P o (aev env) H nx r) (hdst:QS nt o.dst=true) (hnr:r≠ .rcv) (ht:qmn P call ty o.dst r env H nx dfs rc k K)
  {σ:Sg} {w:World} {a:Act} {next:Act->World->Prop} {Q:Exit->Act->World->Prop} (hr:Rel σ H nx w) (ha:vm σ nt env dfs a)
  (hn:∀env1 H1 nx1 dfs1 σ1 w1 a1,k env1 H1 nx1 dfs1 rc->Rel σ1 H1 nx1 w1->Ext σ σ1 H H1 nx nx1 w w1->vm σ1 nt env1 dfs1 a1->next a1 w1)
  (hp:∀l H1 nx1 σ1 w1 c,K (.pan l) env H1 nx1 dfs rc->Rel σ1 H1 nx1 w1->Ext σ σ1 H H1 nx nx1 w w1->ko σ1 l c->Q (.panic c) a w1):
  qp0 P o a w/\o.wp P a w next Q:=by
 cases r with
 |val v H' nx'=>
  obtain⟨σ',w',v',R,E,D,hrun⟩:=hok σ w a.eval hr ha.env.aev
  rcases hrun with hrun|⟨hrun,rfl⟩
  ·exact⟨(λw2 e=>by rw [hrun]at e;cases e),by unfold Oper.wp;rw [hrun];exact hn _ _ _ _ σ' w' _ ht R E ((ha.mono E.sub).put hdst D)⟩
  ·exact⟨(λw2 e=>by rw [hrun]at e;cases e),by unfold Oper.wp;rw [hrun];exact hn _ _ _ _ σ' w' _ ht R E ((ha.mono E.sub).put hdst D)⟩
 |call f args=>
  have tri:=hc f args H nx _ ht
  obtain⟨args',hl,hrun⟩:=hok σ w a.eval hr ha.env.aev
  refine⟨(λw2 e=>by rw [hrun]at e;cases e),?_⟩
  unfold Oper.wp;rw [hrun];show Calls P f ⟨args'⟩ w _
  refine tri σ w args' _ hr hl λe H' nx' σ' w' en hk R E he=> ?_
  cases e with
  |ret v=>
   cases en with
   |returned v'=>exact hn _ _ _ _ σ' w' _ (Q7 (hk.1 v rfl)) R E ((ha.mono E.sub).put hdst he)
   |panicked c=>exact he.elim
   |outgrown=>exact he.elim
  |pan l=>
   cases en with
   |returned v'=>exact he.elim
   |panicked c=>exact hp l H' nx' σ' w' c (hk.2 l rfl) R E he
   |outgrown=>exact he.elim
 |dfr f args=>
  obtain⟨d,hd,hrun⟩:=hok σ w a.eval hr ha.env.aev
  refine⟨(λw2 e=>by rw [hrun]at e;cases e),?_⟩
  unfold Oper.wp;rw [hrun];refine hn _ _ _ _ σ w _ ht hr (Ext.refl _ _ _ _) ⟨?_,?_⟩
  ·have h1:kD σ nt (put o.dst (.tuple []) env) (a.put o.dst undef).tmps:=ha.env.put hdst (.tuple .nil)
   have e:(({a with defers:=d::a.defers}:Act).put o.dst undef).tmps=(a.put o.dst undef).tmps:=by cases o.dst<;>rfl
   rw [e];exact h1
  ·have e:(({a with defers:=d::a.defers}:Act).put o.dst undef).defers=d::a.defers:=by cases o.dst<;>rfl
   rw [e];exact .cons hd ha.dfs
 |pan v=>
  obtain⟨v',dv,hrun⟩:=hok σ w a.eval hr ha.env.aev
  refine⟨(λw2 e=>by rw [hrun]at e;cases e),?_⟩
  unfold Oper.wp;rw [hrun];exact hp [(v,false)] H nx σ w [{v:=v',recovered:=false}] ht hr (Ext.refl _ _ _ _) (.cons dv rfl rfl .nil)
 |rcv=>exact(hnr rfl).elim
theorem Jy{call:zA}{K:KP}(hc:QW P call):∀(l:List Oper) (env:Env) (H:qd) (nx:Nat) (dfs:Dfs),Yk P call nt ops K l env H nx dfs none->
  ∀σ w a Q,Rel σ H nx w->vm σ nt env dfs a->Z9 nt K σ H nx w Q->wpList P ops Q l a w
 |[],env,H,nx,dfs,h,σ,w,a,Q,hr,ha,hQ=>hQ .normal env H nx dfs σ w a .normal h hr (Ext.refl _ _ _ _) ha trivial
 |o::l,env,H,nx,dfs,h,σ,w,a,Q,hr,ha,hQ=>by
  have h':vOp P call nt ops o env H nx dfs none (Yk P call nt ops K l) K:=h
  unfold vOp at h';split at h'<;>first|exact h'.elim|skip
  rename_i hdst;rcases yz h' with⟨hw,h'⟩|⟨hw,h'⟩
  ·obtain⟨r,hop,h'⟩:=Jh h'
   have hnr:r≠ .rcv:=by
    rintro rfl
    exact h'.elim
   unfold wpList;rw [if_pos (kQ hw ha.env)];refine .inl (Vr hc (QX hop) hdst hnr h' hr ha (λenv1 H1 nx1 dfs1 σ1 w1 a1 hk R1 E1 A1=>Jy hc l env1 H1 nx1 dfs1 hk σ1 w1 a1 Q R1 A1 (hQ.from E1)) λlp H1 nx1 σ1 w1 c hk R1 E1 C1=> ?_).2
   exact hQ (.pan lp) env H1 nx1 dfs σ1 w1 a (.panic c) hk R1 E1 (ha.mono E1.sub) C1
  ·exact qif (kQ hw ha.env) (Jy hc l _ H nx dfs h' σ w _ Q hr (ha.put hdst (.tuple .nil)) hQ)
theorem WN{call:zA}{K:KP}(hc:QW P call):∀(l:List Oper) (n:Nat) (env:Env) (H:qd) (nx:Nat) (dfs:Dfs) (m:qA),(∀j,l[j]?=ops[n+j]?)->Yk P call nt ops K l env H nx dfs (some m)->
  ∀σ w a u (c₀:Frame) cs Q,Rel σ H nx w->vm σ nt env dfs a->Qw σ m u->Vn nt K σ H nx w c₀ cs Q->wpOpsS P ops Q (List.range' n l.length) a ({c₀ with mode:=u}::cs) w
 |[],n,env,H,nx,dfs,m,_,h,σ,w,a,u,c₀,cs,Q,hr,ha,hm,hQ=>hQ .normal env H nx dfs m σ w a .normal u h hr (Ext.refl _ _ _ _) ha trivial hm
 |o::l,n,env,H,nx,dfs,m,hl,h,σ,w,a,u,c₀,cs,Q,hr,ha,hm,hQ=>by
  have ho:ops[n]?=some o:=by simpa using (hl 0).symm
  have hl':∀j,l[j]?=ops[n+1+j]?:=λj=>by have:=hl (j+1);simpa [Nat.add_assoc,Nat.add_comm 1 j]using this
  have h':vOp P call nt ops o env H nx dfs (some m) (Yk P call nt ops K l) K:=h
  unfold vOp at h';split at h'<;>first|exact h'.elim|skip
  rename_i hdst;have next:∀env1 H1 nx1 dfs1 m1 σ1 w1 a1 u1,Yk P call nt ops K l env1 H1 nx1 dfs1 (some m1)->Rel σ1 H1 nx1 w1->Ext σ σ1 H H1 nx nx1 w w1->vm σ1 nt env1 dfs1 a1->Qw σ1 m1 u1->
    wpOpsS P ops Q (List.range' (n+1) l.length) a1 ({c₀ with mode:=u1}::cs) w1:=
   λenv1 H1 nx1 dfs1 m1 σ1 w1 a1 u1 hk R1 E1 A1 M1=>WN hc l (n+1) env1 H1 nx1 dfs1 m1 hl' hk σ1 w1 a1 u1 c₀ cs Q R1 A1 M1 (hQ.from E1)
  rw [List.length_cons,List.range'_succ];simp only [wpOpsS,ho]
  rcases yz h' with⟨hw,h1⟩|⟨hw,h1⟩
  ·obtain⟨r,hop,h2⟩:=Jh h1
   rw [if_pos (kQ hw ha.env)];by_cases hrcv:r= .rcv
   ·subst hrcv;have hok:=QX hop
    have hrun:=hok σ w a.eval hr ha.env.aev
    simp only [hrun]
    have h3:(match some m with
     |some (.panicking ((v,false)::older))=>Yk P call nt ops K l (put o.dst v env) H nx dfs (some (.panicking ((v,true)::older)))
     |some .returning=>Yk P call nt ops K l (put o.dst .nilIface env) H nx dfs (some m)
     |_=>False):=h2
    split at h3<;>try exact h3.elim
    ·rename_i v older hm0;cases hm0
     cases u with
     |run=>exact hm.elim
     |returning=>exact hm.elim
     |panicking ch=>
      cases hm with
      | @cons _ _ p _ l' hv hrr hg t=>
       obtain⟨pv,pr,pg⟩:=p
       simp only at hv hrr hg
       subst hrr;subst hg;simp only [recoverD]
       exact next _ _ _ _ _ σ w _ (.panicking ({v:=pv,recovered:=true}::l')) h3 hr (Ext.refl _ _ _ _) (ha.put hdst hv) (.cons hv rfl rfl t)
    ·rename_i hm0;cases hm0
     cases u with
     |run=>exact hm.elim
     |panicking ch=>exact hm.elim
     |returning=>
      simp only [recoverD]
      exact next _ _ _ _ _ σ w _ .returning h3 hr (Ext.refl _ _ _ _) (ha.put hdst .nilIface) trivial
   ·obtain⟨hnr,hwp⟩:=Vr (next:=λa' w'=>wpOpsS P ops Q (List.range' (n+1) l.length) a' ({c₀ with mode:=u}::cs) w') (Q:=λe a' w'=>Q e a' ({c₀ with mode:=u}::cs) w')
     hc (QX hop) hdst hrcv h2 hr ha
     (λenv1 H1 nx1 dfs1 σ1 w1 a1 hk R1 E1 A1=>next env1 H1 nx1 dfs1 m σ1 w1 a1 u hk R1 E1 A1 (hm.mono E1.sub))
     (λlp H1 nx1 σ1 w1 c hk R1 E1 C1=>hQ (.pan lp) env H1 nx1 dfs m σ1 w1 a (.panic c) u hk R1 E1 (ha.mono E1.sub) C1 (hm.mono E1.sub))
    unfold Oper.wp at hwp;split
    ·rename_i w2 e2;exact(hnr w2 e2).elim
    ·exact hwp
  ·rw [if_neg (by rw [kQ hw ha.env];simp)]
   exact next _ _ _ _ m σ w _ u h1 hr (Ext.refl _ _ _ _) (ha.put hdst (.tuple .nil)) hm
def qo9(k:Env->qd->Prop):Env->qd->Bool:=λenv H=> @decide (k env H) (Classical.propDecidable _)
def qpj(k:Env->qd->Nat->Prop):Env->qd->Nat->Bool:=λenv H nx=> @decide (k env H nx) (Classical.propDecidable _)
def qm4(call:zA):Kk:=λf args H nx K=> @decide (call f args H nx λe H nx=>K e H nx=true) (Classical.propDecidable _)
def qpa(K:KP)(env0:Env):qfo:=λe _ H nx dfs rc=> @decide (K e env0 H nx dfs rc) (Classical.propDecidable _)
theorem jK{p:Prop}: @decide p (Classical.propDecidable _)=true↔p:= @decide_eq_true_iff p (Classical.propDecidable _)
theorem qlu{call:zA}(hc:QW P call):qec P (qm4 call):=by
 intro f args H nx K h;exact hc f args H nx _ (jK.1 h)
def XG(P:Program)(ops:Array Oper)(res:Nat)(o:Oper)(i:Nat)(env:Env)(H:qd)(nx:Nat)(k:Env->qd->Prop):Prop:=
 JL ops o.guard env
  (λenv=>match Nat.beq (cls o.op) 1 with
   |true=>Kh P o.op (aev env) λm=>∃H',H'=qfb m (Nat.add res i) H/\k (put o.dst (m.v (Nat.add res i)) env) H'
   |false=>qep P o (aev env) H nx λr=>match r with
    | .val v _ _=>k (put o.dst v env) H
    |_=>False)
  (λenv=>k (put o.dst (.tuple []) env) H)
theorem qf2{res:Nat}{i:Nat}{k:Env->qd->Prop}(h:XG P ops res o i env H nx k):ym P ops res o i env H nx (qo9 k)=true:=by
 unfold XG at h;unfold ym;rcases yz h with⟨hw,h⟩|⟨hw,h⟩
 ·simp only [hw]
  split at h
  ·rename_i hc;obtain⟨m,e,hb,_,rfl,h⟩:=YU h
   simp only [hc,e,hb,qM]
   exact jK.2 h
  ·rename_i hc;obtain⟨r,e,h⟩:=Jh h
   simp only [hc,e]
   split at h<;>first|exact h.elim|exact jK.2 h
 ·simp only [hw]
  exact jK.2 h
def Zd(P:Program)(ops:Array Oper)(res:Nat)(nx:Nat)(k:Env->qd->Prop):List Nat->Env->qd->Prop
 |[]=>k
 |i::l=>λenv H=>match ops[i]? with
  |some o=>XG P ops res o i env H nx (Zd P ops res nx k l)
  |none=>False
theorem qay{res:Nat}{i:Nat}{k k':Env->qd->Bool}(h:ym P ops res o i env H nx k=true)(hk:∀env H,k env H=true->k' env H=true):
  ym P ops res o i env H nx k'=true:=by
 unfold ym at h ⊢;split at h<;>try (cases h;done)
 ·split at h
  ·split at h<;>try (cases h;done)
   split at h<;>try (cases h;done)
   rw [qM]at h ⊢;exact hk _ _ h
  ·split at h<;>first|(cases h;done)|exact hk _ _ h
 ·exact hk _ _ h
theorem ZB{res nx:Nat}{k:Env->qd->Prop}:∀{l:List Nat} {env:Env} {H:qd},Zd P ops res nx k l env H->Q8 P ops res nx (qo9 k) l env H=true
 |[],_,_,h=>jK.2 h
 |i::l,env,H,h=>by
  have h':(match ops[i]? with|some o=>XG P ops res o i env H nx (Zd P ops res nx k l)|none=>False):=h
  show(match ops[i]? with|some o=>ym P ops res o i env H nx (Q8 P ops res nx (qo9 k) l)|none=>false)=true
  split at h'<;>first|exact h'.elim|skip
  rename_i o ho
  try simp only [ho]
  exact qay (qf2 h') λenv H hk=>ZB (jK.1 hk)
def V7(P:Program)(ops:Array Oper)(env:Env)(H:qd)(nx:Nat):List Nat->Prop
 |[]=>True
 |i::l=>(match ops[i]? with
  |some o=>JL ops o.guard env (λenv=>qep P o (aev env) H nx λr=>match r with
    | .val v _ _=>(match o.dst with
     |some d=>v=get2 d env
     |none=>True)
    |_=>False) (λenv=>match o.dst with
     |some d=>get2 d env= .tuple []
     |none=>True)
  |none=>False)/\V7 P ops env H nx l
theorem JZ:∀{l:List Nat},V7 P ops env H nx l->VG P ops env H nx l=true
 |[],_=>rfl
 |i::l,h=>by
  obtain⟨h1,h2⟩:=h
  show(Bool.rec false (VG P ops env H nx l) (match ops[i]? with|some o=>JS P ops env H nx o|none=>false):Bool)=true
  have:(match ops[i]? with|some o=>JS P ops env H nx o|none=>false)=true:=by
   split at h1<;>try exact h1.elim
   rename_i o ho
   try simp only [ho]
   unfold JS;rcases yz h1 with⟨hw,h1⟩|⟨hw,h1⟩
   ·simp only [hw]
    obtain⟨r,e,h1⟩:=Jh h1
    simp only [e]
    split at h1<;>try exact h1.elim
    simp only []
    split at h1
    ·rename_i d hd;simp only [hd];exact jK.2 h1
    ·rename_i hd;simp only [hd]
   ·simp only [hw]
    split at h1
    ·rename_i d hd;simp only [hd,h1]
    ·rename_i hd;simp only [hd]
  rw [this];exact JZ h2
def qlg(P:Program)(call:zA)(ops:Array Oper)(o:Oper)(env:Env)(H:qd)(nx:Nat)(dfs:Dfs)(rc:Option qA)(k:Env->qd->Nat->Prop)(K:KP)(env0:Env):Prop:=
 JL ops o.guard env
  (λenv=>qep P o (aev env) H nx λr=>match r with
   | .val v H' nx'=>k (put o.dst v env) H' nx'
   | .call f args=>call f args H nx λe H' nx'=>qc e (λv=>JU P o.type v λv=>k (put o.dst v env) H' nx') (λl=>K (.pan l) env0 H' nx' dfs rc)
   | .pan v=>K (.pan [(v,false)]) env0 H nx dfs rc
   |_=>False)
  (λenv=>k (put o.dst (.tuple []) env) H nx)
theorem qm9{call:zA}{dfs:Dfs}{rc:Option qA}{k:Env->qd->Nat->Prop}{K:KP}{env0:Env}
  (hm:∀f args H nx (K K':qv),call f args H nx K->(∀e H' nx',K e H' nx'->K' e H' nx')->call f args H nx K')
  (h:qlg P call ops o env H nx dfs rc k K env0):qeo P (qm4 call) ops o env H nx dfs rc (qpj k) (qpa K env0) env=true:=by
 unfold qlg at h;unfold qeo;rcases yz h with⟨hw,h⟩|⟨hw,h⟩
 ·simp only [hw]
  obtain⟨r,e,h⟩:=Jh h
  simp only [e]
  split at h<;>try exact h.elim
  ·exact jK.2 h
  ·refine jK.2 (hm _ _ _ _ _ _ h λe H' nx' he=> ?_)
   cases e with
   |ret v=>exact jK.2 (Q7 (he.1 v rfl))
   |pan l=>exact jK.2 (he.2 l rfl)
  ·exact jK.2 h
 ·simp only [hw]
  exact jK.2 h
def KO(P:Program)(call:zA)(ops:Array Oper)(res:Nat)(dfs:Dfs)(rc:Option qA)(K:KP)(env0:Env):List (Nat×List Nat×List Nat)->Env->qd->Nat->Prop
 |[]=>λenv H nx=>K .normal env H nx dfs rc
 |(e,F,A)::rest=>λenv H nx=>match ops[e]? with
  |some o=>qlg P call ops o env H nx dfs rc (λenv' H' nx'=>Zd P ops res nx' (λenv'' H''=>V7 P ops env'' H'' nx' A/\KO P call ops res dfs rc K env0 rest env'' H'' nx') F env' H') K env0
  |none=>False
theorem J2{call:zA}{res:Nat}{dfs:Dfs}{rc:Option qA}{K:KP}{env0:Env}
  (hm:∀f args H nx (K K':qv),call f args H nx K->(∀e H' nx',K e H' nx'->K' e H' nx')->call f args H nx K'):
  ∀(rest:List Qj) (env:Env) (H:qd) (nx:Nat),KO P call ops res dfs rc K env0 rest env H nx->
   qos P (qm4 call) ops res dfs rc (λl H nx=>K (.pan l) env0 H nx dfs rc) (λenv H nx=>K .normal env H nx dfs rc) rest env H nx
 |[],_,_,_,h=>h
 |(e,L,A)::rest,env,H,nx,h=>by
  intro oe hoe;have h':(match ops[e]? with
   |some o=>qlg P call ops o env H nx dfs rc (λenv' H' nx'=>Zd P ops res nx' (λenv'' H''=>V7 P ops env'' H'' nx' A/\KO P call ops res dfs rc K env0 rest env'' H'' nx') L env' H') K env0
   |none=>False):=h
  rw [hoe]at h';refine⟨_,qpa K env0,qm9 hm h',λl H1 nx1 hk=>jK.1 hk,λenv1 H1 nx1 hk=> ?_⟩
  refine⟨_,ZB (jK.1 hk),λenv2 H2 hk2=> ?_⟩
  obtain⟨h1,h2⟩:=jK.1 hk2
  exact⟨JZ h1,J2 hm rest env2 H2 nx1 h2⟩
def KX(P:Program)(call:zA)(nt:Nat)(ops:Array Oper)(K:KP):KC:=λenv H nx dfs rc=>
 match qcu nt ops with
 |true=>Zd P ops nx (Nat.add nx ops.size) (λenv' H'=>V7 P ops env' H' (Nat.add nx ops.size) (qdp ops)/\
   KO P call ops nx dfs rc K (VW ops.toList env) (qa0 ops) env' H' (Nat.add nx ops.size)) (qek ops) env H
 |false=>False
theorem J6{call:zA}{dfs:Dfs}{rc:Option qA}{K:KP}(hm:P.follows .mixedOrders=true)
  (hcm:∀f args H nx (K K':qv),call f args H nx K->(∀e H' nx',K e H' nx'->K' e H' nx')->call f args H nx K')
  (hc:QW P call) (h:KX P call nt ops K env H nx dfs rc)
  (σ:Sg) (w:World) (a:Act) (Q:Exit->Act->World->Prop) (hr:Rel σ H nx w) (ha:vm σ nt env dfs a)
  (hQ:∀ex env' H' nx' σ' w' a' e,K ex env' H' nx' dfs rc->Rel σ' H' nx' w'->Ext σ σ' H H' nx nx' w w'->vm σ' nt env' dfs a'->qdn σ' ex e->Q e a' w'):
  wpAny P .any ops Q ops.size (Array.replicate ops.size false) a {w with drawn:=w.drawn+1}:=by
 unfold KX at h;split at h<;>try exact h.elim
 rename_i hplan;have hlim:nx+ops.size<=nx+ops.size:=Nat.le_refl _
 unfold qcu at hplan;split at hplan<;>try (cases hplan;done)
 rename_i past hnt hops hF;split at hplan<;>try (cases hplan;done)
 rename_i hA hS hcov;have hn:nt<=4096:=Nat.le_of_ble_eq_true hnt
 have F:=Vp hops
 obtain⟨env1,H1,hk,b1,b2,b3,b4,b5⟩:=ZA F hn hlim (qek ops) [] past env H hF (ZB h)
 obtain⟨hag0,hk⟩:=jK.1 hk
 have hag:VG P ops env1 H1 (Nat.add nx ops.size) (qdp ops)=true:=JZ hag0
 have hpast:∀i,i∈past->∃o,ops[i]?=some o/\(cls o.op=0\/cls o.op=1):=by
  intro i hi;rcases(vI hF i).1 hi with hi|hi
  ·cases hi
  ·obtain⟨o,ho,hne⟩:=Jg hF i hi
   refine⟨o,ho,?_⟩
   have:cls o.op=0\/cls o.op=1\/cls o.op=2:=by
    unfold cls;split<;>first|exact .inl rfl|exact .inr (.inl rfl)|exact .inr (.inr rfl)|skip
    split<;>first|exact .inl rfl|exact .inr (.inr rfl)
   rcases this with h|h|h
   ·exact .inl h
   ·exact .inr h
   ·exact(hne h).elim
 have hblank:∀t,t<4096->get2 t (VW ops.toList env)= .und\/((∀(j:Nat) (q:Oper),ops[j]?=some q->q.dst≠some t)/\get2 t (VW ops.toList env)=get2 t env1):=by
  intro t ht;have hd:∀o,o∈ops.toList->QS nt o.dst=true:=λo ho=>by
   obtain⟨i,hi⟩:=List.mem_iff_getElem?.1 ho
   exact F.dst i o (by simpa using hi)
  rcases WH hn ops.toList env t ht hd with h|⟨h1,h2⟩
  ·exact .inl h
  ·have h3:∀(j:Nat) (q:Oper),ops[j]?=some q->q.dst≠some t:=λj q hq=>h1 q (by simpa using Array.mem_of_getElem? hq)
   exact .inr ⟨h3,by rw [h2,b1 t ht λj q _ hq=>h3 j q hq]⟩
 have hrun:=J2 hcm (qa0 ops) env1 H1 (Nat.add nx ops.size) hk
 have none':∀b,nx<=b->σ b=none:=λb hb=>by
  cases e:σ b with
  |none=>rfl
  |some p=>obtain⟨cb,sz⟩:=p;have:=(hr.dom b cb sz e).1;omega
 have:=V5 (call:=qm4 call) [] (qlu hc) F hn hlim (qa0 ops) none past env1 H1 (Nat.add nx ops.size) hS (λs _ i hi=>by cases hi) hpast hblank hrun σ H w Q
  (λl H' nx' σ' w' a' c hk R E A C=>hQ (.pan l) _ H' nx' σ' w' a' (.panic c) hk R E A C)
  (λenv' H' nx' hk hp=>qhy F hn hp λσ' w' a' R E A=>hQ .normal env' H' nx' σ' w' a' .normal hk R E A trivial)
 rw [List.append_nil]at this;refine this ops.size _ σ _ a ⟨by simp,ha.env.size,?_,?_,?_,?_,?_,?_,?_,Nat.le_refl _,?_,?_,ha.dfs⟩ ?_
 ·exactλi j h=>(wF h).elim
 ·exactλi _ h=>wF h
 ·intro i hi;have:=KM (jN hcov i (List.mem_range.2 hi))
  rcases List.mem_append.1 this with h|h
  ·exact .inl ((vI hF i).2 (.inr h))
  ·exact .inr (.inl h)
 ·intro t ht hown;rw [b1 t ht λj q _ hq hd=>wF (hown j q hq hd)]
  exact ha.env.den t ht
 ·intro j q hj hq _ hcl;cases hip:QP q.op with
  |true=>
   have h1:=jN hA j hj
   rw [hq]at h1;simp only [hip]at h1
   have hmem:j∈qdp ops:=by
    split at h1
    ·exact KM ‹_›
    ·rw [VR]at h1;simp at h1
   have h3:=jN hag j hmem
   rw [hq]at h3;exact Vb hcl h3
  |false=>
   rcases(vI hF j).1 hj with hj|hj
   ·cases hj
   ·exact b5 j q hj hq hcl hip
 ·intro j q hj hq _ hcl;rcases(vI hF j).1 hj with hj|hj
  ·cases hj
  ·exact b4 j q hj hq hcl
 ·exactλi _ _=>none' _ (by omega)
 ·exact(b3 σ w (hr.more (Nat.le_add_right _ _) hlim) λj _=>none' _ (by omega)).drew
 ·have E:=Ext.drew σ H nx w
  refine⟨E.sub,E.rng,?_,Nat.le_add_right _ _,rfl,rfl,rfl,Nat.le_refl _,λ_ _ _=>rfl⟩
  intro b hb h0;exact⟨h0,b2 b (by omega) λj _=>by omega⟩
 ·unfold Z4;have:=List.countP_le_length (p:=λi=> !(Array.replicate ops.size false).getD i false) (l:=List.range ops.size)
  simpa using this
def qh6(ops:Array Oper):Option (Oper×Nat×Operand):=match ops.toList.getLast? with
 |some o=>match o.op,o.guard,o.dst with
  | .assign x,none,some d=>some (o,d,x)
  |_,_,_=>none
 |none=>none
def qh7(nt:Nat)(init:Array Oper)(o:Oper):Bool:=
 match QS nt o.dst,Qh (λi=>bit (yj (ahead init) o.after.toList) i) (List.range init.size),Qh (λe=>Bool.rec true (Nat.ble (Nat.succ e.on) init.size) (Region.binds .any e)) o.after.toList,W1 nt init init.toList (ahead init) init.toList 0 with
 |true,true,true,true=>true
 |_,_,_,_=>false
def qmz(d:Nat)(x:Operand)(K:KP):KP:=λex env H nx dfs rc=>match ex with
 | .normal=>K .normal (put (some d) (aev env x) env) H nx dfs rc
 | .exit id=>K (.exit id) env H nx dfs rc
 | .ret=>K .ret env H nx dfs rc
 | .pan l=>K (.pan l) env H nx dfs rc
def qcx(P:Program)(call:zA)(nt:Nat)(ops:Array Oper)(K:KP):KC:=λenv H nx dfs rc=>
 match qcu nt ops with
 |true=>KX P call nt ops K env H nx dfs rc
 |false=>match qh6 ops with
  |some (o,d,x)=>match qh7 nt ops.pop o with
   |true=>KX P call nt ops.pop (qmz d x K) env H nx dfs rc
   |false=>False
  |none=>False
theorem qib{a:Act}{K K':Act->World->Prop}{Q Q':Exit->Act->World->Prop}(h:∀a w,K a w->K' a w)(hp:∀c a w,Q (.panic c) a w->Q' (.panic c) a w)(hl:LetsOut Q->LetsOut Q')
  (hh:o.wp P a w K Q):o.wp P a w K' Q':=by
 unfold Oper.wp at*
 generalize (execOp a.eval o).run P w=r at*
 cases r with
 |ok n w'=>
  cases n<;>simp only [Oper.upon]at hh ⊢<;>
   first
    |exact h _ _ hh
    |exact Calls.mono hh (λe w'' he=>by cases e<;>first|exact h _ _ he|exact hp _ _ _ he|exact hl he|exact he)
    |exact Rows.mono hh (λ_ _ he=>h _ _ he)
 |halt x w'=>cases x<;>simp only [Oper.upon]at hh ⊢<;>first|exact hp _ _ _ hh|exact hh
theorem qgg{ops init:Array Oper}{i:Nat}{oi:Oper}{a:Act}{K K':Act->World->Prop}{Q Q':Exit->Act->World->Prop}(hi:init[i]?=some oi)(ho:ops[i]?=some oi)
  (hg:∀(g:Nat) (b:Bool),oi.guard=some (g,b)->ops[g]?=init[g]?) (h:∀a w,K a w->K' a w) (hp:∀c a w,Q (.panic c) a w->Q' (.panic c) a w) (hl:LetsOut Q->LetsOut Q')
  (hh:wpOp P init Q i K a w):wpOp P ops Q' i K' a w:=by
 unfold wpOp at*;rw [hi]at hh;rw [ho];have e:Region.wanted oi (yielded ops a.tmps)=Region.wanted oi (yielded init a.tmps):=by
  unfold Region.wanted;cases hgd:oi.guard with
  |none=>rfl
  |some p=>
   obtain⟨g,b⟩:=p
   have:=hg g b hgd
   simp only [yielded,this]
 simp only [e]at hh ⊢
 by_cases hw:Region.wanted oi (yielded init a.tmps)=true
 ·rw [if_pos hw]at hh ⊢;exact hh.imp (qib h hp hl) λ⟨h1,h2⟩=>⟨h1,hl h2⟩
 ·rw [if_neg hw]at hh ⊢;exact h _ _ hh
def qj3(P:Program)(ops:Array Oper)(n:Nat)(Q:Exit->Act->World->Prop):Exit->Act->World->Prop:=λe a w=>match e with
 | .normal=>wpOp P ops Q n (λa w=>Q .normal a w) a w
 |e=>Q e a w
theorem qdj{ops init:Array Oper}{Q:Exit->Act->World->Prop}(F:kj nt init (ahead init))(hsz:ops.size=init.size+1)(hget:∀i,i<init.size->ops[i]?=init[i]?)(hlast:ops[init.size]?=some o)
  (hcov:∀i,i<init.size->bit (yj (ahead init) o.after.toList) i=true) (hedge:∀e,e∈o.after.toList->Region.binds .any e=true->e.on<init.size):
  ∀fuel listed a w,listed.size=init.size->(∀i j,isL listed i->bit ((ahead init).getD i 0) j=true->isL listed j)->wpAny P .any init (qj3 P ops init.size Q) fuel listed a w->
   ∀listed2:Array Bool,listed2.size=init.size+1->(∀i,i<init.size->(isL listed2 i↔isL listed i))->¬isL listed2 init.size->wpAny P .any ops Q (fuel+1) listed2 a w:=by
 have allready:∀listed:Array Bool,(∀i j,isL listed i->bit ((ahead init).getD i 0) j=true->isL listed j)->(∀e,e∈o.after.toList->Region.binds .any e=true->isL listed e.on)->∀i,i<init.size->isL listed i:=λlisted hc he i hi=>by
  obtain⟨e,h1,h2,h3⟩:=yY (hcov i hi)
  rcases h3 with rfl|h3
  ·exact he e h1 h2
  ·exact hc _ _ (he e h1 h2) h3
 have atEnd:∀(fuel:Nat) (listed2:Array Bool) (a:Act) (w:World),listed2.size=init.size+1->(∀i,i<init.size->isL listed2 i)->¬isL listed2 init.size->qj3 P ops init.size Q .normal a w->wpAny P .any ops Q (fuel+1) listed2 a w:=by
  intro fuel listed2 a w hs2 hall hn hq;have rd:init.size∈Region.ready .any ops listed2:=(jU (by omega)).2 ⟨o,hlast,hn,λe he hb=>hall _ (hedge e he hb)⟩
  refine⟨λhnil=>(by rw [hnil]at rd;cases rd),λi hi=> ?_⟩
  obtain⟨oi,ho,hnl,_⟩:=(jU (by omega)).1 hi
  have hlt:i<ops.size:=(Array.getElem?_eq_some_iff.1 ho).1
  have:i=init.size:=by
   rcases Nat.lt_or_ge i init.size with h|h
   ·exact(hnl (hall i h)).elim
   ·omega
  subst this;refine wpOp_mono (λa w hK=> ?_) hq
  have hnil:Region.ready .any ops (listed2.setIfInBounds init.size true)=[]:=by
   refine List.eq_nil_iff_forall_not_mem.2 λj hj=> ?_
   obtain⟨oj,hoj,hnj,_⟩:=(jU (by rw [Array.size_setIfInBounds];omega)).1 hj
   have hjl:j<ops.size:=(Array.getElem?_eq_some_iff.1 hoj).1
   rw [wk (by omega)]at hnj
   rcases Nat.lt_or_ge j init.size with h|h
   ·exact hnj (.inr (hall j h))
   ·exact hnj (.inl (by omega))
  exact wpAny_done hnil hK fuel
 intro fuel
 induction fuel with
 |zero=>
  intro listed a w hs hc h listed2 hs2 heq hn;have hall:=QZ F hs h.1
  exact atEnd 0 listed2 a w hs2 (λi hi=>(heq i hi).2 (hall i hi)) hn h.2
 |succ fuel ih=>
  intro listed a w hs hc h listed2 hs2 heq hn;by_cases hnil:Region.ready .any init listed=[]
  ·have hall:=QZ F hs hnil
   exact atEnd (fuel+1) listed2 a w hs2 (λi hi=>(heq i hi).2 (hall i hi)) hn (h.1 hnil)
  ·obtain⟨j,hj⟩:=List.exists_mem_of_ne_nil _ hnil
   obtain⟨oj,hoj,hnj,hej⟩:=(jU hs).1 hj
   have hjl:j<init.size:=(Array.getElem?_eq_some_iff.1 hoj).1
   have lt_of:∀(i:Nat) (oi:Oper),init[i]?=some oi->∀e,e∈oi.after.toList->Region.binds .any e=true->e.on<init.size:=λi oi hi e he hb=>by
    have:=F.edge i oi hi e he hb
    have:=(Array.getElem?_eq_some_iff.1 hi).1
    omega
   refine⟨λhnil2=> ?_,λi hi=> ?_⟩
   ·exfalso
    have:j∈Region.ready .any ops listed2:=(jU (by omega)).2 ⟨oj,by rw [hget j hjl];exact hoj,λhl=>hnj ((heq j hjl).1 hl),λe he hb=>(heq _ (lt_of j oj hoj e he hb)).2 (hej e he hb)⟩
    rw [hnil2]at this;cases this
   ·obtain⟨oi,hoi,hni,hei⟩:=(jU (by omega)).1 hi
    have hil:i<ops.size:=(Array.getElem?_eq_some_iff.1 hoi).1
    rcases Nat.lt_or_ge i init.size with hlt|hge
    ·have hoi':init[i]?=some oi:=by rw [<-hget i hlt];exact hoi
     have hi':i∈Region.ready .any init listed:=(jU hs).2 ⟨oi,hoi',λhl=>hni ((heq i hlt).2 hl),λe he hb=>(heq _ (lt_of i oi hoi' e he hb)).1 (hei e he hb)⟩
     refine qgg hoi' hoi (λg b hg=> ?_) (λa w hK=> ?_) (λ_ _ _ hq=>hq) (λ⟨a,w,hq⟩=>⟨a,w,hq⟩) (h.2 i hi')
     ·obtain⟨tt,ht⟩:=F.grd i oi g b hoi' hg
      refine hget g ?_
      rcases Nat.lt_or_ge g init.size with h|h
      ·exact h
      ·rw [Array.getElem?_eq_none h]at ht;cases ht
     ·refine ih (listed.setIfInBounds i true) a w (by rw [Array.size_setIfInBounds];exact hs) ?_ hK (listed2.setIfInBounds i true) (by rw [Array.size_setIfInBounds];exact hs2) ?_ ?_
      ·intro p q hp hb;rw [wk (by omega)]at hp ⊢
       rcases hp with rfl|hp
       ·obtain⟨g,hg,hb',hc'⟩:=F.ahead p oi hoi' q hb
        have hgl:=(heq _ (lt_of p oi hoi' g hg hb')).1 (hei g hg hb')
        rcases hc' with rfl|hc'
        ·exact .inr hgl
        ·exact .inr (hc _ q hgl hc')
       ·exact .inr (hc p q hp hb)
      ·intro p hp;rw [wk (by omega),wk (by omega),heq p hp]
      ·rw [wk (by omega)]
       rintro(h|h)
       ·omega
       ·exact hn h
    ·have:i=init.size:=by omega
     subst this;rw [hlast]at hoi;cases hoi
     exfalso
     have hall:=allready listed hc λe he hb=>(heq _ (hedge e he hb)).1 (hei e he hb)
     exact hnj (hall j hjl)
theorem Xb{call:zA}{dfs:Dfs}{rc:Option qA}{K:KP}(hm:P.follows .mixedOrders=true)
  (hcm:∀f args H nx (K K':qv),call f args H nx K->(∀e H' nx',K e H' nx'->K' e H' nx')->call f args H nx K')
  (hc:QW P call) (h:qcx P call nt ops K env H nx dfs rc) (id:Nat)
  (σ:Sg) (w:World) (a:Act) (Q:Exit->Act->World->Prop) (hr:Rel σ H nx w) (ha:vm σ nt env dfs a)
  (hQ:∀ex env' H' nx' σ' w' a' e,K ex env' H' nx' dfs rc->Rel σ' H' nx' w'->Ext σ σ' H H' nx nx' w w'->vm σ' nt env' dfs a'->qdn σ' ex e->Q e a' w'):
  (Code.region id ops true).wp P Q a w:=by
 refine wp_region_any hm ?_
 unfold qcx at h;split at h
 ·exact J6 hm hcm hc h σ w a Q hr ha hQ
 ·split at h<;>try exact h.elim
  rename_i o d x hlo;split at h<;>try exact h.elim
  rename_i hok;unfold qh6 at hlo;split at hlo<;>try (cases hlo;done)
  rename_i o' hgl;split at hlo<;>try (cases hlo;done)
  rename_i x' d' hop hgd hdst;cases hlo
  unfold qh7 at hok;split at hok<;>try (cases hok;done)
  rename_i hd hcov hedge hopsOK;have F:=Vp hopsOK
  obtain⟨l,hl⟩:∃l,ops.toList=l++[o]:=by
   obtain⟨l,hl⟩:=List.getLast?_eq_some_iff.1 hgl
   exact⟨l,hl⟩
  have hpop:ops.pop.toList=l:=by rw [Array.toList_pop,hl];simp
  have hps:ops.pop.size=l.length:=by rw [<-hpop];simp
  have hsz:ops.size=ops.pop.size+1:=by rw [hps,<-Array.length_toList,hl];simp
  have hget:∀i,i<ops.pop.size->ops[i]?=ops.pop[i]?:=λi hi=>by
   rw [<-Array.getElem?_toList,<-Array.getElem?_toList,hl,hpop,List.getElem?_append_left (by omega)]
  have hlast:ops[ops.pop.size]?=some o:=by
   rw [<-Array.getElem?_toList,hl,hps];simp
  have any:=J6 (K:=qmz d x K) hm hcm hc h σ w a (qj3 P ops ops.pop.size Q) hr ha ?_
  ·rw [hsz];refine qdj F hsz hget hlast (λi hi=>jN hcov i (List.mem_range.2 hi)) (λe he hb=> ?_) ops.pop.size _ a _ (by simp) (λi j h=>(wF h).elim) any _ (by simp) (λi _=>⟨λh=>(wF h).elim,λh=>(wF h).elim⟩) wF
   have h2:=jN hedge e he
   have h3:(Bool.rec true (Nat.ble (Nat.succ e.on) ops.pop.size) (Region.binds .any e):Bool)=true:=h2
   rw [hb]at h3;exact Nat.le_of_ble_eq_true h3
  ·intro ex env' H' nx' σ' w' a' e hk R E A X;cases ex with
   |normal=>
    cases e<;>try exact X.elim
    show wpOp P ops Q ops.pop.size (λa w=>Q .normal a w) a' w'
    unfold wpOp;rw [hlast];have hwd:Region.wanted o (yielded ops a'.tmps)=true:=by unfold Region.wanted;rw [hgd]
    simp only [hwd,if_true]
    have hao:aop P o (aev env') H' nx'=some (.val (aev env' x) H' nx'):=by
     unfold aop;rw [hop];rfl
    obtain⟨σ2,w2,v',R2,E2,D2,hrun⟩:=QX hao σ' w' a'.eval R A.env.aev
    have A2:vm σ2 nt (put (some d) (aev env' x) env') dfs (a'.put o.dst v'):=by
     rw [hdst];exact(A.mono E2.sub).put (by rw [<-hdst];exact hd) D2
    refine .inl ?_
    unfold Oper.wp;rcases hrun with hrun|⟨hrun,rfl⟩
    ·rw [hrun];exact hQ .normal _ H' nx' σ2 w2 _ .normal hk R2 (E.trans E2) A2 trivial
    ·rw [hrun];exact hQ .normal _ H' nx' σ2 w2 _ .normal hk R2 (E.trans E2) A2 trivial
   |exit id=>
    cases e<;>first|exact X.elim|exact hQ (.exit id) env' H' nx' σ' w' a' _ hk R E A X
   |ret=>
    cases e<;>first|exact X.elim|exact hQ .ret env' H' nx' σ' w' a' _ hk R E A X
   |pan l=>
    cases e<;>first|exact X.elim|exact hQ (.pan l) env' H' nx' σ' w' a' _ hk R E A X
def QI(c:Operand)(b:Bool)(env:Env):Env:=match c with
 | .tmp t=>Qs t (.bool b) env
 |_=>env
theorem Je{c:Operand}{b:Bool}(h:aev env c= .bool b):QI c b env=env:=by
 cases c with
 |tmp t=>
  have h':(Bool.rec .und (get2 t env) (Nat.ble t 4095):qa)= .bool b:=h
  cases e:Nat.ble t 4095 with
  |false=>rw [e]at h';cases h'
  |true=>rw [e]at h';exact WW h'
 |const v=>rfl
 |global g=>rfl
 |func f=>rfl
def vK(P:Program)(call:zA)(lp:jk)(nt:Nat):Code->Env->qd->Nat->Dfs->Option qA->KP->Prop
 | .skip=>λenv H nx dfs rc K=>K .normal env H nx dfs rc
 | .region _ ops false=>λenv H nx dfs rc K=>Yk P call nt ops K ops.toList env H nx dfs rc
 | .region _ ops true=>λenv H nx dfs rc K=>qcx P call nt ops K env H nx dfs rc
 | .seq a b=>λenv H nx dfs rc K=>vK P call lp nt a env H nx dfs rc λe env H nx dfs rc=>match e with
  | .normal=>vK P call lp nt b env H nx dfs rc K
  | .exit id=>K (.exit id) env H nx dfs rc
  | .ret=>K .ret env H nx dfs rc
  | .pan l=>K (.pan l) env H nx dfs rc
 | .cond c a b=>λenv H nx dfs rc K=>match aev env c with
  | .bool p=>Bool.rec (vK P call lp nt b (QI c false env) H nx dfs rc K) (vK P call lp nt a (QI c true env) H nx dfs rc K) p
  |_=>False
 | .block id a=>λenv H nx dfs rc K=>vK P call lp nt a env H nx dfs rc λe env H nx dfs rc=>match e with
  | .normal=>K .normal env H nx dfs rc
  | .exit j=>match Nat.beq j id with
   |true=>K .normal env H nx dfs rc
   |false=>K (.exit j) env H nx dfs rc
  | .ret=>K .ret env H nx dfs rc
  | .pan l=>K (.pan l) env H nx dfs rc
 | .loop a=>λenv H nx dfs rc K=>lp a env H nx dfs rc K
 | .exit id=>λenv H nx dfs rc K=>K (.exit id) env H nx dfs rc
 | .ret=>λenv H nx dfs rc K=>K .ret env H nx dfs rc
 |_=>λ_ _ _ _ _ _=>False
def qmt(P:Program)(nt:Nat)(lp:jk):Prop:=∀a env H nx dfs K,lp a env H nx dfs none K->
 ∀σ w act Q,Rel σ H nx w->vm σ nt env dfs act->Z9 nt K σ H nx w Q->(Code.loop a).wp P Q act w
theorem Yj{call:zA}{lp:jk}(hm:P.follows .mixedOrders=true)
  (hcm:∀f args H nx (K K':qv),call f args H nx K->(∀e H' nx',K e H' nx'->K' e H' nx')->call f args H nx K') (hc:QW P call) (hl:qmt P nt lp):
  ∀(c:Code) (env:Env) (H:qd) (nx:Nat) (dfs:Dfs) (K:KP),vK P call lp nt c env H nx dfs none K->
   ∀σ w a Q,Rel σ H nx w->vm σ nt env dfs a->Z9 nt K σ H nx w Q->c.wp P Q a w:=by
 intro c
 induction c with
 |skip=>exactλenv H nx dfs K h σ w a Q hr ha hQ=>wp_skip (hQ .normal env H nx dfs σ w a .normal h hr (Ext.refl _ _ _ _) ha trivial)
 |region id ops draw=>
  intro env H nx dfs K h σ w a Q hr ha hQ;cases draw with
  |false=>exact wp_region_list (Jy hc ops.toList env H nx dfs h σ w a Q hr ha hQ)
  |true=>exact Xb hm hcm hc h id σ w a Q hr ha λex env' H' nx' σ' w' a' e hk R E A X=>hQ ex env' H' nx' dfs σ' w' a' e hk R E A X
 |seq x y ihx ihy=>
  intro env H nx dfs K h σ w a Q hr ha hQ;refine wp_seq (ihx env H nx dfs _ h σ w a _ hr ha ?_)
  intro ex env' H' nx' dfs' σ' w' a' e hk R E A X;cases ex with
  |normal=>cases e<;>first|exact X.elim|exact ihy env' H' nx' dfs' K hk σ' w' a' Q R A (hQ.from E)
  |exit id=>cases e<;>first|exact X.elim|exact hQ _ _ _ _ _ σ' w' a' _ hk R E A X
  |ret=>cases e<;>first|exact X.elim|exact hQ _ _ _ _ _ σ' w' a' _ hk R E A X
  |pan l=>cases e<;>first|exact X.elim|exact hQ _ _ _ _ _ σ' w' a' _ hk R E A X
 |cond c x y ihx ihy=>
  intro env H nx dfs K h σ w a Q hr ha hQ;have h':(match aev env c with
   | .bool p=>Bool.rec (vK P call lp nt y (QI c false env) H nx dfs none K) (vK P call lp nt x (QI c true env) H nx dfs none K) p
   |_=>False):=h
  split at h'<;>first|exact h'.elim|skip
  rename_i p hp;cases p with
  |true=>
   have h2:vK P call lp nt x (QI c true env) H nx dfs none K:=h'
   rw [Je hp]at h2;exact wp_cond (t:=true) (wu ha hp) (ihx env H nx dfs K h2 σ w a Q hr ha hQ)
  |false=>
   have h2:vK P call lp nt y (QI c false env) H nx dfs none K:=h'
   rw [Je hp]at h2;exact wp_cond (t:=false) (wu ha hp) (ihy env H nx dfs K h2 σ w a Q hr ha hQ)
 |block id x ihx=>
  intro env H nx dfs K h σ w a Q hr ha hQ;refine wp_block (ihx env H nx dfs _ h σ w a _ hr ha ?_)
  intro ex env' H' nx' dfs' σ' w' a' e hk R E A X;cases ex with
  |normal=>cases e<;>first|exact X.elim|exact hQ _ _ _ _ _ σ' w' a' _ hk R E A X
  |exit j=>
   cases e<;>try exact X.elim
   have X':j=_:=X
   subst X';cases hb:Nat.beq j id with
   |true=>
    have hid:=Nat.eq_of_beq_eq_true hb
    simp only [hb]at hk
    simp only [Exit.inBlock,hid,if_true]
    exact hQ _ _ _ _ _ σ' w' a' .normal hk R E A trivial
   |false=>
    have hid:j≠id:=λe=>by subst e;simp at hb
    simp only [hb]at hk
    simp only [Exit.inBlock,hid,if_false]
    exact hQ _ _ _ _ _ σ' w' a' _ hk R E A rfl
  |ret=>cases e<;>first|exact X.elim|exact hQ _ _ _ _ _ σ' w' a' _ hk R E A X
  |pan l=>cases e<;>first|exact X.elim|exact hQ _ _ _ _ _ σ' w' a' _ hk R E A X
 |loop x _=>
  intro env H nx dfs K h σ w a Q hr ha hQ;exact hl x env H nx dfs _ h σ w a Q hr ha hQ
 |exit id=>exactλenv H nx dfs K h σ w a Q hr ha hQ=>wp_exit (hQ _ env H nx dfs σ w a (.exit id) h hr (Ext.refl _ _ _ _) ha rfl)
 |ret=>exactλenv H nx dfs K h σ w a Q hr ha hQ=>wp_ret (hQ _ env H nx dfs σ w a .ret h hr (Ext.refl _ _ _ _) ha trivial)
 |rangeFunc f p x y=>exactλenv H nx dfs K h=>h.elim
 |scope x=>exactλenv H nx dfs K h=>h.elim
 |label l=>exactλenv H nx dfs K h=>h.elim
 |goto l=>exactλenv H nx dfs K h=>h.elim
 |refuse s=>exactλenv H nx dfs K h=>h.elim
def ql(e env:Env):Prop:=∀t,t<4096->e t= .und\/e t=env t
theorem ql.refl(e:Env):ql e e:=λ_ _=> .inr rfl
theorem vm.weaken{σ:Sg}{e env:Env}{dfs:Dfs}{a:Act}(h:vm σ nt env dfs a)(hle:ql e env):vm σ nt e dfs a:=by
 refine⟨⟨h.env.size,h.env.le,λt ht=> ?_⟩,h.dfs⟩
 rcases hle t ht with q|q
 ·show Den σ (e t) _
  rw [q];exact .und _
 ·show Den σ (e t) _
  rw [q];exact h.env.den t ht
end
end Go.Vs
end
section
namespace Go.Vs
variable [GTab] {P:Program} {H:qd} {nx:Nat} {env:Env}
noncomputable section
def Ye(P:Program)(env:Env)(H:qd):List ResultVar->(List qa->Prop)->Prop
 |[],k=>k []
 | .tmp t::l,k=>match Nat.ble t 4095 with
  |true=>Ye P env H l λvs=>k (get2 t env::vs)
  |false=>False
 | .cell a t::l,k=>match Nat.ble a 4095 with
  |true=>wf P t H (get2 a env) λv=>Ye P env H l λvs=>k (v::vs)
  |false=>False
theorem wo:∀{l:List ResultVar} {k:List qa->Prop},Ye P env H l k->∃vs,jZ P env H l=some vs/\k vs
 |[],_,h=>⟨[],rfl,h⟩
 | .tmp t::l,k,h=>by
  unfold Ye at h;split at h<;>try exact h.elim
  rename_i hb;obtain⟨vs,e,h⟩:=wo h
  exact⟨_,by unfold jZ;simp only [hb,e],h⟩
 | .cell a t::l,k,h=>by
  unfold Ye at h;split at h<;>try exact h.elim
  rename_i hb;obtain⟨v,e1,h⟩:=Vx h
  obtain⟨vs,e,h⟩:=wo h
  exact⟨_,by unfold jZ;simp only [hb,e,e1],h⟩
def Qb(P:Program)(calld:JD)(rs:List ResultVar)(env:Env):Dfs->qA->qd->Nat->qv->Prop
 |[],m,H,nx,K=>match m with
  | .returning=>∃vs,jZ P env H rs=some vs/\K (.ret (w9 vs)) H nx
  | .panicking l=>K (.pan l) H nx
 |(g,args)::dfs,m,H,nx,K=>calld g args m H nx λe m' H' nx'=>qc e (λ_=>Qb P calld rs env dfs (KV m') H' nx' K) (λl=>Qb P calld rs env dfs (KH m' l) H' nx' K)
theorem Jw{calld:JD}(hcd:qkh P calld){fn:Func}{nt:Nat}:
  ∀(dfs:Dfs) (m:qA) (H:qd) (nx:Nat) (K:qv),Qb P calld fn.results.toList env dfs m H nx K->
   ∀σ w u ds tmps R,Rel σ H nx w->kD σ nt env tmps->wy σ dfs ds->Qw σ m u->
    (∀e H' nx' σ' w' en,K e H' nx'->Rel σ' H' nx' w'->Ext σ σ' H H' nx nx' w w'->Xx σ' e en->R en w')->Leaves P fn tmps R ds u w
 |[],m,H,nx,K,h=>by
  intro σ w u ds tmps R hr he hdf hm hR;cases m with
  |returning=>
   obtain⟨vs,hvs,h'⟩:=h
   cases hdf
   cases u<;>try exact hm.elim
   obtain⟨v',dv,hrun⟩:=wJ hr he hvs
   exact⟨v',hrun,hR _ _ _ σ w _ h' hr (Ext.refl _ _ _ _) dv⟩
  |panicking l=>
   cases hdf
   cases u<;>try exact hm.elim
   exact hR (.pan l) H nx σ w _ h hr (Ext.refl _ _ _ _) hm
 |(f,args)::dfs,m,H,nx,K,h=>by
  obtain⟨hbody,tri⟩:=hcd f args m H nx _ h
  intro σ w u ds tmps R hr he hdf hm hR;cases hdf with
  | @cons _ _ d _ l' hd ht=>
   obtain⟨cap,htar,hargs⟩:=hd
   refine⟨qll hm,.func f,cap,f,d.args++cap,htar,?_,?_⟩
   ·rw [htar];simp only [invoke]
    exact yP hbody _ w
   ·have hl:(⟨(d.args++cap).toList⟩:Array Value)=d.args++cap:=rfl
    rw [<-hl];refine tri σ w _ u _ hr hargs hm λe m' H1 nx1 σ1 w1 en u1 hk R1 E1 X1 M1=> ?_
    cases e with
    |ret v=>
     cases en with
     |returned v'=>exact Jw hcd dfs _ H1 nx1 K (hk.1 v rfl) σ1 w1 (settle u1) l' tmps R R1 (he.mono E1.sub) (ht.mono E1.sub) (qfm M1) λe2 H2 nx2 σ2 w2 en2 hk2 R2 E2 X2=>hR e2 H2 nx2 σ2 w2 en2 hk2 R2 (E1.trans E2) X2
     |panicked c=>exact X1.elim
     |outgrown=>exact X1.elim
    |pan l=>
     cases en with
     |returned v'=>exact X1.elim
     |panicked c=>exact Jw hcd dfs _ H1 nx1 K (hk.2 l rfl) σ1 w1 (raised u1 c) l' tmps R R1 (he.mono E1.sub) (ht.mono E1.sub) (qex M1 X1) λe2 H2 nx2 σ2 w2 en2 hk2 R2 E2 X2=>hR e2 H2 nx2 σ2 w2 en2 hk2 R2 (E1.trans E2) X2
     |outgrown=>exact X1.elim
def LpP(P:Program)(nt:Nat):jk:=λa env H nx dfs _ K=>
 ∀σ w act Q,Rel σ H nx w->vm σ nt env dfs act->Z9 nt K σ H nx w Q->(Code.loop a).wp P Q act w
theorem qbq(P:Program)(nt:Nat):qmt P nt (LpP P nt):=λ_ _ _ _ _ _ h=>h
def qD(P:Program)(call:zA)(lp:Nat->jk)(f:FuncId)(args:List qa)(H:qd)(nx:Nat)(K:List ResultVar->KP):Prop:=
 match P.funcs[f]? with
 |some fn=>match fn.body,Nat.ble fn.ntmps 4096,Nat.ble args.length fn.ntmps with
  |some c,true,true=>vK P call (lp fn.ntmps) fn.ntmps c (Qm args 0 (qhr (.tuple []))) H nx [] none (K fn.results.toList)
  |_,_,_=>False
 |none=>False
def wa(env:Env):List ResultVar->Option (List qa)
 |[]=>some []
 | .tmp t::l=>match Nat.ble t 4095,wa env l with
  |true,some vs=>some (get2 t env::vs)
  |_,_=>none
 | .cell _ _::_=>none
theorem Za:∀{l:List ResultVar} {vs:List qa} {k:List qa->Prop},wa env l=some vs->k vs->Ye P env H l k
 |[],_,_,e,h=>by cases e;exact h
 | .tmp t::l,vs,k,e,h=>by
  unfold wa at e;split at e<;>try (cases e;done)
  rename_i vs' hb hl;cases e
  unfold Ye;simp only [hb]
  exact Za hl h
 | .cell _ _::_,_,_,e,_=>by cases e
abbrev zU:=List qa->Dfs->qA->qd->Nat->qv->Prop
inductive zr where
 |val (v:qa)
 |cell (p:qa) (t:TypeId)
abbrev zT:=List zr->Dfs->qA->qd->Nat->qv->Prop
def ZH:List ResultVar->Bool
 |[]=>true
 | .tmp t::l=>match Nat.ble t 4095 with
  |true=>ZH l
  |false=>false
 | .cell a _::l=>match Nat.ble a 4095 with
  |true=>ZH l
  |false=>false
def Zn(env:Env):List ResultVar->List zr
 |[]=>[]
 | .tmp t::l=> .val (get2 t env)::Zn env l
 | .cell a t::l=> .cell (get2 a env) t::Zn env l
def YQ(P:Program)(H:qd):List zr->(List qa->Prop)->Prop
 |[],k=>k []
 | .val v::l,k=>YQ P H l λvs=>k (v::vs)
 | .cell p t::l,k=>wf P t H p λv=>YQ P H l λvs=>k (v::vs)
theorem Vy:∀{rs:List ResultVar} {k:List qa->Prop},ZH rs=true->YQ P H (Zn env rs) k->∃vs,jZ P env H rs=some vs/\k vs
 |[],_,_,h=>⟨[],rfl,h⟩
 | .tmp t::l,k,e,h=>by
  cases hb:Nat.ble t 4095 with
  |false=>unfold ZH at e;rw [hb]at e;cases e
  |true=>
   unfold ZH at e;rw [hb]at e;obtain⟨vs,e1,h⟩:=Vy e h
   exact⟨_,by unfold jZ;simp only [hb,e1],h⟩
 | .cell a t::l,k,e,h=>by
  cases hb:Nat.ble a 4095 with
  |false=>unfold ZH at e;rw [hb]at e;cases e
  |true=>
   unfold ZH at e;rw [hb]at e;obtain⟨v,e1,h⟩:=Vx h
   obtain⟨vs,e2,h⟩:=Vy e h
   exact⟨_,by unfold jZ;simp only [hb,e1,e2],h⟩
def qS(P:Program)(calld:JD):zT:=λrv dfs=>match dfs with
 |[]=>λm H nx K=>match m with
  | .returning=>YQ P H rv λvs=>K (.ret (w9 vs)) H nx
  | .panicking l=>K (.pan l) H nx
 |(g,args)::dfs=>λm H nx K=>calld g args m H nx λe m' H' nx'=>qc e (λ_=>qS P calld rv dfs (KV m') H' nx' K) (λl=>qS P calld rv dfs (KH m' l) H' nx' K)
def zx(calld:JD):zU:=λvs dfs=>match dfs with
 |[]=>λm H nx K=>match m with
  | .returning=>K (.ret (w9 vs)) H nx
  | .panicking l=>K (.pan l) H nx
 |(g,args)::dfs=>λm H nx K=>calld g args m H nx λe m' H' nx'=>qc e (λ_=>zx calld vs dfs (KV m') H' nx' K) (λl=>zx calld vs dfs (KH m' l) H' nx' K)
theorem VD(P:Program){f:FuncId}{args:List qa}{m:qA}{K K':qh->qA->qd->Nat->Prop}(h:qB P f args m H nx K)(hk:∀e m' H' nx',K e m' H' nx'->K' e m' H' nx'):qB P f args m H nx K':=
 ⟨h.1,λσ w args' u R hr hd hm hR=>h.2 σ w args' u R hr hd hm λe m' H' nx' σ' w' en u' k=>hR e m' H' nx' σ' w' en u' (hk _ _ _ _ k)⟩
theorem Qk{rs:List ResultVar}{vs:List qa}{K:qv}(e:wa env rs=some vs):∀{dfs:Dfs} {m:qA} {H:qd} {nx:Nat},zx (qB P) vs dfs m H nx K->Qb P (qB P) rs env dfs m H nx K
 |[],m,H,nx,h=>by
  cases m with
  |returning=>exact wo (Za (P:=P) (H:=H) (k:=λvs=>K (.ret (w9 vs)) H nx) e h)
  |panicking l=>exact h
 |(g,args)::dfs,m,H,nx,h=>by
  refine VD P h λe' m' H' nx' hk=>⟨λv hv=> ?_,λl hl=> ?_⟩
  ·exact Qk e (hk.1 v hv)
  ·exact Qk e (hk.2 l hl)
theorem yB{rs:List ResultVar}{K:qv}(e:ZH rs=true):∀{dfs:Dfs} {m:qA} {H:qd} {nx:Nat},qS P (qB P) (Zn env rs) dfs m H nx K->Qb P (qB P) rs env dfs m H nx K
 |[],m,H,nx,h=>by
  cases m with
  |returning=>exact Vy e h
  |panicking l=>exact h
 |(g,args)::dfs,m,H,nx,h=>by
  refine VD P h λe' m' H' nx' hk=>⟨λv hv=> ?_,λl hl=> ?_⟩
  ·exact yB e (hk.1 v hv)
  ·exact yB e (hk.2 l hl)
def qy(P:Program)(lv:zU)(lvc:zT)(K:qv)(rs:List ResultVar):KP:=λe env H nx dfs _=>match e with
 | .normal=>match dfs with
  |[]=>Ye P env H rs λvs=>K (.ret (w9 vs)) H nx
  |d::ds=>match wa env rs with
   |some vs=>lv vs (d::ds) .returning H nx K
   |none=>match ZH rs with
    |true=>lvc (Zn env rs) (d::ds) .returning H nx K
    |false=>False
 | .ret=>match dfs with
  |[]=>Ye P env H rs λvs=>K (.ret (w9 vs)) H nx
  |d::ds=>match wa env rs with
   |some vs=>lv vs (d::ds) .returning H nx K
   |none=>match ZH rs with
    |true=>lvc (Zn env rs) (d::ds) .returning H nx K
    |false=>False
 | .pan l=>match dfs with
  |[]=>K (.pan l) H nx
  |d::ds=>match wa env rs with
   |some vs=>lv vs (d::ds) (.panicking l) H nx K
   |none=>match ZH rs with
    |true=>lvc (Zn env rs) (d::ds) (.panicking l) H nx K
    |false=>False
 | .exit _=>False
theorem qkx{K:qv}{rs:List ResultVar}{dfs:Dfs}{rc:Option qA}{e:qad}(h:qy P (zx (qB P)) (qS P (qB P)) K rs e env H nx dfs rc):
  match e with
  | .normal=>Qb P (qB P) rs env dfs .returning H nx K
  | .ret=>Qb P (qB P) rs env dfs .returning H nx K
  | .pan l=>Qb P (qB P) rs env dfs (.panicking l) H nx K
  | .exit _=>False:=by
 cases e with
 |exit _=>exact h
 |normal=>
  cases dfs with
  |nil=>exact wo (k:=λvs=>K (.ret (w9 vs)) H nx) h
  |cons d ds=>
   have h':(match wa env rs with
    |some vs=>zx (qB P) vs (d::ds) .returning H nx K
    |none=>match ZH rs with
     |true=>qS P (qB P) (Zn env rs) (d::ds) .returning H nx K
     |false=>False):=h
   split at h'
   ·exact Qk ‹_› h'
   ·split at h'<;>first|exact h'.elim|exact yB ‹_› h'
 |ret=>
  cases dfs with
  |nil=>exact wo (k:=λvs=>K (.ret (w9 vs)) H nx) h
  |cons d ds=>
   have h':(match wa env rs with
    |some vs=>zx (qB P) vs (d::ds) .returning H nx K
    |none=>match ZH rs with
     |true=>qS P (qB P) (Zn env rs) (d::ds) .returning H nx K
     |false=>False):=h
   split at h'
   ·exact Qk ‹_› h'
   ·split at h'<;>first|exact h'.elim|exact yB ‹_› h'
 |pan l=>
  cases dfs with
  |nil=>exact h
  |cons d ds=>
   have h':(match wa env rs with
    |some vs=>zx (qB P) vs (d::ds) (.panicking l) H nx K
    |none=>match ZH rs with
     |true=>qS P (qB P) (Zn env rs) (d::ds) (.panicking l) H nx K
     |false=>False):=h
   split at h'
   ·exact Qk ‹_› h'
   ·split at h'<;>first|exact h'.elim|exact yB ‹_› h'
theorem Q5(P:Program):∀f args H nx (K K':qv),qk P f args H nx K->(∀e H' nx',K e H' nx'->K' e H' nx')->qk P f args H nx K':=λ_ _ _ _ _ _ h hk=>h.mono hk
theorem qk.of_body(hm:P.follows .mixedOrders=true){f:FuncId}{args:List qa}{K:qv}
  (h:qD P (qk P) (LpP P) f args H nx (qy P (zx (qB P)) (qS P (qB P)) K)):qk P f args H nx K:=by
 unfold qD at h;split at h<;>try exact h.elim
 rename_i fn hf;split at h<;>try exact h.elim
 rename_i c hb hn ha;have hn':fn.ntmps<=4096:=Nat.le_of_ble_eq_true hn
 have ha':args.length<=fn.ntmps:=Nat.le_of_ble_eq_true ha
 intro σ w args' R hr hda hR;refine calls_of_wp_defers hf hb ?_
 have hEnv:=JN hn' ha' hda
 refine Yj hm (Q5 P) (λ_ _ _ _ _ h=>h) (qbq P _) c _ H nx [] _ h σ w _ _ hr ⟨hEnv,.nil⟩ ?_
 intro ex env' H' nx' dfs' σ' w' a' e hk R1 E1 A1 X1;have fin:∀m u,Qw σ' m u->Qb P (qB P) fn.results.toList env' dfs' m H' nx' K->Leaves P fn a'.tmps R a'.defers u w':=by
  intro m u hmu hlv;exact Jw (fn:=fn) (nt:=fn.ntmps) (λ_ _ _ _ _ _ h=>h) dfs' m H' nx' K hlv σ' w' u a'.defers a'.tmps R R1 A1.env A1.dfs hmu
   λe2 H2 nx2 σ2 w2 en2 hk2 R2 E2 X2=>hR e2 H2 nx2 σ2 w2 en2 hk2 R2 (E1.trans E2) X2
 have hk:=qkx hk
 cases ex with
 |normal=>cases e<;>first|exact X1.elim|exact fin .returning .returning trivial hk
 |ret=>cases e<;>first|exact X1.elim|exact fin .returning .returning trivial hk
 |pan l=>
  cases e<;>try exact X1.elim
  exact fin (.panicking l) (.panicking _) X1 hk
 |exit i=>exact hk.elim
end
end Go.Vs
end
section
namespace Go.Vs
variable [GTab] {P:Program} {H:qd} {nx:Nat}
noncomputable section
def qb4:Nat->jk:=λ_ _ _ _ _ _ _ _=>False
theorem qme{call:zA}{nt:Nat}(hm:P.follows .mixedOrders=true)
  (hcm:∀f args H nx (K K':qv),call f args H nx K->(∀e H' nx',K e H' nx'->K' e H' nx')->call f args H nx K') (hc:QW P call):
  ∀(c:Code) (env:Env) (H:qd) (nx:Nat) (dfs:Dfs) (m:qA) (K:KP),vK P call (qb4 nt) nt c env H nx dfs (some m) K->
   ∀σ w a u (c₀:Frame) cs Q,Rel σ H nx w->vm σ nt env dfs a->Qw σ m u->Vn nt K σ H nx w c₀ cs Q->c.wpS P Q a ({c₀ with mode:=u}::cs) w:=by
 intro c
 induction c with
 |skip=>exactλenv H nx dfs m K h σ w a u c₀ cs Q hr ha hmr hQ=>wpS_of_wp (wp_skip (hQ .normal env H nx dfs m σ w a .normal u h hr (Ext.refl _ _ _ _) ha trivial hmr))
 |region id ops draw=>
  intro env H nx dfs m K h σ w a u c₀ cs Q hr ha hmr hQ;cases draw with
  |false=>
   refine wpS_region ?_
   have:=WN hc ops.toList 0 env H nx dfs m (by simp) h σ w a u c₀ cs Q hr ha hmr hQ
   rw [List.range_eq_range',<-Array.length_toList];exact this
  |true=>exact wpS_of_wp (Xb hm hcm hc h id σ w a _ hr ha λex env' H' nx' σ' w' a' e hk R E A X=>hQ ex env' H' nx' dfs m σ' w' a' e u hk R E A X (hmr.mono E.sub))
 |seq x y ihx ihy=>
  intro env H nx dfs m K h σ w a u c₀ cs Q hr ha hmr hQ;refine wpS_seq (ihx env H nx dfs m _ h σ w a u c₀ cs _ hr ha hmr ?_)
  intro ex env' H' nx' dfs' m' σ' w' a' e u' hk R E A X M;cases ex with
  |normal=>cases e<;>first|exact X.elim|exact ihy env' H' nx' dfs' m' K hk σ' w' a' u' c₀ cs Q R A M (hQ.from E)
  |exit id=>cases e<;>first|exact X.elim|exact hQ _ _ _ _ _ m' σ' w' a' _ u' hk R E A X M
  |ret=>cases e<;>first|exact X.elim|exact hQ _ _ _ _ _ m' σ' w' a' _ u' hk R E A X M
  |pan l=>cases e<;>first|exact X.elim|exact hQ _ _ _ _ _ m' σ' w' a' _ u' hk R E A X M
 |cond c x y ihx ihy=>
  intro env H nx dfs m K h σ w a u c₀ cs Q hr ha hmr hQ;have h':(match aev env c with
   | .bool p=>Bool.rec (vK P call (qb4 nt) nt y (QI c false env) H nx dfs (some m) K) (vK P call (qb4 nt) nt x (QI c true env) H nx dfs (some m) K) p
   |_=>False):=h
  split at h'<;>first|exact h'.elim|skip
  rename_i p hp;cases p with
  |true=>
   have h2:vK P call (qb4 nt) nt x (QI c true env) H nx dfs (some m) K:=h'
   rw [Je hp]at h2;exact wpS_cond (t:=true) (wu ha hp) (ihx env H nx dfs m K h2 σ w a u c₀ cs Q hr ha hmr hQ)
  |false=>
   have h2:vK P call (qb4 nt) nt y (QI c false env) H nx dfs (some m) K:=h'
   rw [Je hp]at h2;exact wpS_cond (t:=false) (wu ha hp) (ihy env H nx dfs m K h2 σ w a u c₀ cs Q hr ha hmr hQ)
 |block id x ihx=>
  intro env H nx dfs m K h σ w a u c₀ cs Q hr ha hmr hQ;refine qez (ihx env H nx dfs m _ h σ w a u c₀ cs _ hr ha hmr ?_)
  intro ex env' H' nx' dfs' m' σ' w' a' e u' hk R E A X M;cases ex with
  |normal=>cases e<;>first|exact X.elim|exact hQ _ _ _ _ _ m' σ' w' a' _ u' hk R E A X M
  |exit j=>
   cases e<;>try exact X.elim
   have X':j=_:=X
   subst X';cases hb:Nat.beq j id with
   |true=>
    have hid:=Nat.eq_of_beq_eq_true hb
    simp only [hb]at hk
    simp only [hid,if_true]
    exact hQ _ _ _ _ _ m' σ' w' a' .normal u' hk R E A trivial M
   |false=>
    have hid:j≠id:=λe=>by subst e;simp at hb
    simp only [hb]at hk
    simp only [hid,if_false]
    exact hQ _ _ _ _ _ m' σ' w' a' _ u' hk R E A rfl M
  |ret=>cases e<;>first|exact X.elim|exact hQ _ _ _ _ _ m' σ' w' a' _ u' hk R E A X M
  |pan l=>cases e<;>first|exact X.elim|exact hQ _ _ _ _ _ m' σ' w' a' _ u' hk R E A X M
 |loop x _=>exactλenv H nx dfs m K h=>h.elim
 |exit id=>exactλenv H nx dfs m K h σ w a u c₀ cs Q hr ha hmr hQ=>wpS_of_wp (wp_exit (hQ _ env H nx dfs m σ w a (.exit id) u h hr (Ext.refl _ _ _ _) ha rfl hmr))
 |ret=>exactλenv H nx dfs m K h σ w a u c₀ cs Q hr ha hmr hQ=>wpS_of_wp (wp_ret (hQ _ env H nx dfs m σ w a .ret u h hr (Ext.refl _ _ _ _) ha trivial hmr))
 |rangeFunc f p x y=>exactλenv H nx dfs m K h=>h.elim
 |scope x=>exactλenv H nx dfs m K h=>h.elim
 |label l=>exactλenv H nx dfs m K h=>h.elim
 |goto l=>exactλenv H nx dfs m K h=>h.elim
 |refuse s=>exactλenv H nx dfs m K h=>h.elim
def Yq(P:Program)(call:zA)(lp:Nat->jk)(f:FuncId)(args:List qa)(m:qA)(H:qd)(nx:Nat)(K:List ResultVar->KP):Prop:=
 match P.funcs[f]? with
 |some fn=>match fn.body,Nat.ble fn.ntmps 4096,Nat.ble args.length fn.ntmps with
  |some c,true,true=>vK P call (lp fn.ntmps) fn.ntmps c (Qm args 0 (qhr (.tuple []))) H nx [] (some m) (K fn.results.toList)
  |_,_,_=>False
 |none=>False
def qm3(K:qh->qA->qd->Nat->Prop)(rs:List ResultVar):KP:=λe env H nx dfs rc=>match e,dfs,rc with
 | .normal,[],some m=>match wa env rs with
  |some vs=>K (.ret (w9 vs)) m H nx
  |none=>False
 | .ret,[],some m=>match wa env rs with
  |some vs=>K (.ret (w9 vs)) m H nx
  |none=>False
 | .pan l,[],some m=>K (.pan l) m H nx
 |_,_,_=>False
theorem qB.of_bodyS(hm:P.follows .mixedOrders=true){f:FuncId}{args:List qa}{m:qA}{K:qh->qA->qd->Nat->Prop}(hbody:vp P f=true)
  (h:Yq P (qk P) qb4 f args m H nx (qm3 K)):qB P f args m H nx K:=by
 refine⟨hbody,?_⟩
 unfold Yq at h;split at h<;>try exact h.elim
 rename_i fn hf;split at h<;>try exact h.elim
 rename_i c hb hn ha;have hn':fn.ntmps<=4096:=Nat.le_of_ble_eq_true hn
 have ha':args.length<=fn.ntmps:=Nat.le_of_ble_eq_true ha
 intro σ w args' u R hr hda hmr hR;refine callsD_of_wpS hf hb λc₀ cs hu=> ?_
 have hc0:({c₀ with mode:=u}:Frame)=c₀:=by subst hu;rfl
 have hEnv:=JN hn' ha' hda
 rw [<-hc0];refine qme hm (Q5 P) (λ_ _ _ _ _ h=>h) c _ H nx [] m _ h σ w _ u c₀ cs _ hr ⟨hEnv,.nil⟩ hmr ?_
 intro ex env' H' nx' dfs' m' σ' w' a' e u' hk R1 E1 A1 X1 M1;have hdn:dfs'=[]->a'.defers=[]:=λhdf=>by
  have hA:=A1.dfs
  rw [hdf]at hA;cases hq:a'.defers with
  |nil=>rfl
  |cons x y=>rw [hq]at hA;cases hA
 unfold qm3 at hk;split at hk<;>try exact hk.elim
 ·rename_i hrc;cases hrc
  cases e<;>try exact X1.elim
  split at hk<;>try exact hk.elim
  rename_i vs htm;obtain⟨vs',hvs,hk2⟩:=wo (P:=P) (H:=H') (Za (k:=λvs'=>vs'=vs) htm rfl)
  obtain⟨v',dv,hrun⟩:=wJ (fn:=fn) R1 A1.env hvs
  subst hk2;exact⟨hdn rfl,u',rfl,v',hrun,hR _ _ _ _ σ' w' _ u' hk R1 E1 dv M1⟩
 ·rename_i hrc;cases hrc
  cases e<;>try exact X1.elim
  split at hk<;>try exact hk.elim
  rename_i vs htm;obtain⟨vs',hvs,hk2⟩:=wo (P:=P) (H:=H') (Za (k:=λvs'=>vs'=vs) htm rfl)
  obtain⟨v',dv,hrun⟩:=wJ (fn:=fn) R1 A1.env hvs
  subst hk2;exact⟨hdn rfl,u',rfl,v',hrun,hR _ _ _ _ σ' w' _ u' hk R1 E1 dv M1⟩
 ·rename_i hrc;cases hrc
  cases e<;>try exact X1.elim
  exact⟨hdn rfl,u',rfl,hR _ _ _ _ σ' w' _ u' hk R1 E1 X1 M1⟩
theorem qB.of_end(hm:P.follows .mixedOrders=true){f:FuncId}{args:List qa}{m:qA}{K:qh->qA->qd->Nat->Prop}(hbody:vp P f=true)
  (h:qD P (qk P) (LpP P) f args H nx (qy P (λ_ _ _ _ _ _=>False) (λ_ _ _ _ _ _=>False) λe H' nx'=>K e m H' nx')):qB P f args m H nx K:=by
 refine⟨hbody,?_⟩
 unfold qD at h;split at h<;>try exact h.elim
 rename_i fn hf;split at h<;>try exact h.elim
 rename_i c hb hn ha;have hn':fn.ntmps<=4096:=Nat.le_of_ble_eq_true hn
 have ha':args.length<=fn.ntmps:=Nat.le_of_ble_eq_true ha
 intro σ w args' u R hr hda hmr hR;refine callsD_of_wpS hf hb λc₀ cs hu=> ?_
 have hc0:({c₀ with mode:=u}:Frame)=c₀:=by subst hu;rfl
 have hEnv:=JN hn' ha' hda
 refine wpS_of_wp (Yj hm (Q5 P) (λ_ _ _ _ _ h=>h) (qbq P _) c _ H nx [] _ h σ w _ _ hr ⟨hEnv,.nil⟩ ?_)
 intro ex env' H' nx' dfs' σ' w' a' e hk R1 E1 A1 X1;have hdn:dfs'=[]->a'.defers=[]:=λhdf=>by
  have hA:=A1.dfs
  rw [hdf]at hA;cases hq:a'.defers with
  |nil=>rfl
  |cons x y=>rw [hq]at hA;cases hA
 cases dfs' with
 |cons q qs=>
  exfalso
  cases ex<;>(unfold qy at hk;dsimp only at hk;repeat' split at hk)<;>first|exact hk|exact hk.elim
 |nil=>
  cases ex with
  |normal=>
   cases e<;>try exact X1.elim
   obtain⟨vs,hvs,hk2⟩:=wo (k:=λvs=>K (.ret (w9 vs)) m H' nx') hk
   obtain⟨v',dv,hrun⟩:=wJ (fn:=fn) R1 A1.env hvs
   exact⟨hdn rfl,u,hc0.symm▸rfl,v',hrun,hR _ _ _ _ σ' w' _ u hk2 R1 E1 dv (hmr.mono E1.sub)⟩
  |ret=>
   cases e<;>try exact X1.elim
   obtain⟨vs,hvs,hk2⟩:=wo (k:=λvs=>K (.ret (w9 vs)) m H' nx') hk
   obtain⟨v',dv,hrun⟩:=wJ (fn:=fn) R1 A1.env hvs
   exact⟨hdn rfl,u,hc0.symm▸rfl,v',hrun,hR _ _ _ _ σ' w' _ u hk2 R1 E1 dv (hmr.mono E1.sub)⟩
  |pan l=>
   cases e<;>try exact X1.elim
   exact⟨hdn rfl,u,hc0.symm▸rfl,hR _ _ _ _ σ' w' _ u hk R1 E1 X1 (hmr.mono E1.sub)⟩
  |exit j=>exact(hk:False).elim
end
end Go.Vs
end
section
namespace Go.Vs
variable [GTab]
noncomputable section
def qn:Code->List Nat->Code
 | .seq a _,0::p=>qn a p
 | .seq _ b,_::p=>qn b p
 | .cond _ a _,0::p=>qn a p
 | .cond _ _ b,_::p=>qn b p
 | .block _ a,_::p=>qn a p
 | .loop a,_::p=>qn a p
 |c,_=>c
def qx(P:Program)(call:zA)(lp:jk)(nt:Nat):Code->List Nat->KP->KP
 | .seq a b,0::p,K=>qx P call lp nt a p λe env H nx dfs rc=>match e with
  | .normal=>vK P call lp nt b env H nx dfs rc K
  | .exit id=>K (.exit id) env H nx dfs rc
  | .ret=>K .ret env H nx dfs rc
  | .pan l=>K (.pan l) env H nx dfs rc
 | .seq _ b,_::p,K=>qx P call lp nt b p K
 | .cond _ a _,0::p,K=>qx P call lp nt a p K
 | .cond _ _ b,_::p,K=>qx P call lp nt b p K
 | .block id a,_::p,K=>qx P call lp nt a p λe env H nx dfs rc=>match e with
  | .normal=>K .normal env H nx dfs rc
  | .exit j=>match Nat.beq j id with
   |true=>K .normal env H nx dfs rc
   |false=>K (.exit j) env H nx dfs rc
  | .ret=>K .ret env H nx dfs rc
  | .pan l=>K (.pan l) env H nx dfs rc
 |_,_,K=>K
def qj(base:qa):List (Nat×qa)->Env
 |[]=>qhr base
 |(t,v)::l=>Qs t v (qj base l)
def Xy(env:Env):List (Nat×qa)->Prop
 |[]=>True
 |(t,v)::l=>env t=v/\Xy env l
theorem ql.of_list{env:Env}:∀{l:List (Nat×qa)},Xy env l->ql (qj .und l) env
 |[],_=>λ_ _=> .inl rfl
 |(t,v)::l,⟨h,hl⟩=>λs hs=>by
  show(Bool.rec (qj .und l s) v (Nat.beq s t):qa)= .und\/(Bool.rec (qj .und l s) v (Nat.beq s t):qa)=env s
  cases e:Nat.beq s t with
  |true=>have:=Nat.eq_of_beq_eq_true e;subst this;exact .inr h.symm
  |false=>exact ql.of_list hl s hs
theorem ql.okay{env:Env}{l:List (Nat×qa)}(h:Xy env l:=by repeat first|exact trivial|refine⟨rfl,?_⟩):ql (qj .und l) env:=ql.of_list h
def qe(P:Program)(f:FuncId):Code:=match P.funcs[f]? with
 |some fn=>match fn.body with
  |some c=>c
  |none=> .skip
 |none=> .skip
def qF(P:Program)(f:FuncId):List ResultVar:=match P.funcs[f]? with
 |some fn=>fn.results.toList
 |none=>[]
def qo(b:Nat)(cs:List qa)(H:qd):qd:=zS b (some (.cells cs.length (CT.ofL cs.length cs) [] false)) H
def newBN(b n:Nat)(cs:List qa)(H:qd):qd:=zS b (some (.cells n (CT.ofL n cs) [] false)) H
def qV(N:KC)(X:Nat->KC)(R:KC)(Pn:List (qa×Bool)->KC):KP:=λe env H nx dfs rc=>match e with
 | .normal=>N env H nx dfs rc
 | .exit id=>X id env H nx dfs rc
 | .ret=>R env H nx dfs rc
 | .pan l=>Pn l env H nx dfs rc
def ki(cs:List qa)(off:Nat)(vs:List qa):List qa:=cs.take off++vs++cs.drop (off+vs.length)
theorem Zr{cs vs:List qa}{off:Nat}(h:off+vs.length<=cs.length):(ki cs off vs).length=cs.length:=by
 simp [ki];omega
theorem qb{v:qa}{r:qa->Prop}{p:List (qa×Bool)->Prop}:qc (.ret v) r p↔r v:=by simp [qc]
theorem zN{l:List (qa×Bool)}{r:qa->Prop}{p:List (qa×Bool)->Prop}:qc (.pan l) r p↔p l:=by simp [qc]
theorem zW{b off len e n esz:Nat}{full:Bool}(h:n<len):zq (.slice b off len e full) n esz=some (.ptr b (off+n*esz)):=by
 have:Nat.ble (Nat.succ n) len=true:=jD h
 simp only [zq,this]
 rfl
theorem qw{n:Int}(h0: -9223372036854775808<=n)(h1:n<=9223372036854775807):i64.wrap n=n:=IntWalk.i64_in _ (by omega)
end
end Go.Vs
end
section
namespace Go.Vs
variable [GTab] {P:Program} {H:qd} {nx:Nat} {nt:Nat} {env:Env}
noncomputable section
def WpP(P:Program)(nt:Nat)(c:Code)(env:Env)(H:qd)(nx:Nat)(dfs:Dfs)(K:KP):Prop:=
 ∀σ w act Q,Rel σ H nx w->vm σ nt env dfs act->Z9 nt K σ H nx w Q->c.wp P Q act w
section
variable{P:Program}{nt:Nat}{c a b:Code}{env e:Env}{H:qd}{nx:Nat}{dfs:Dfs}{K K':KP}
theorem WpP.of_vK(hm:P.follows .mixedOrders=true)(h:vK P (qk P) (LpP P nt) nt c env H nx dfs none K):WpP P nt c env H nx dfs K:=
 Yj hm (Q5 P) (λ_ _ _ _ _ h=>h) (qbq P nt) c env H nx dfs K h
theorem WpP.weaken(hle:ql e env)(h:WpP P nt c e H nx dfs K):WpP P nt c env H nx dfs K:=
 λσ w act Q hr ha hQ=>h σ w act Q hr (ha.weaken hle) hQ
theorem WpP.mono(h:WpP P nt c env H nx dfs K)(hk:∀ex env' H' nx' dfs',K ex env' H' nx' dfs' none->K' ex env' H' nx' dfs' none):WpP P nt c env H nx dfs K':=
 λσ w act Q hr ha hQ=>h σ w act Q hr ha λex env' H' nx' dfs' σ' w' a' e k R E A X=>hQ ex env' H' nx' dfs' σ' w' a' e (hk _ _ _ _ _ k) R E A X
def trim(ts:List Nat)(env:Env):Env:=qj .und (ts.map λt=>(t,env t))
theorem qm1(ts:List Nat)(env:Env):ql (trim ts env) env:=by
 refine ql.of_list ?_
 induction ts with
 |nil=>trivial
 |cons t ts ih=>exact⟨rfl,ih⟩
def qW(ts:List Nat)(K:KP):KP:=λex env H nx dfs rc=>K ex (trim ts env) H nx dfs rc
theorem WpP.trim{ts:List Nat}(h:WpP P nt c env H nx dfs (qW ts K)):WpP P nt c env H nx dfs K:=
 λσ w act Q hr ha hQ=>h σ w act Q hr ha λex env' H' nx' dfs' σ' w' a' e k R E A X=>hQ ex _ H' nx' dfs' σ' w' a' e k R E (A.weaken (qm1 ts env')) X
def qmu(b:Env->qd->Nat->Dfs->Prop)(K:KP):KP:=λex env H nx dfs rc=>match ex with
 | .normal=>b env H nx dfs
 | .exit id=>K (.exit id) env H nx dfs rc
 | .ret=>K .ret env H nx dfs rc
 | .pan l=>K (.pan l) env H nx dfs rc
theorem WpP.seq(h:WpP P nt a env H nx dfs (qmu (λenv H nx dfs=>WpP P nt b env H nx dfs K) K)):WpP P nt (.seq a b) env H nx dfs K:=by
 intro σ w act Q hr ha hQ;refine wp_seq (h σ w act _ hr ha ?_)
 intro ex env' H' nx' dfs' σ' w' a' e hk R E A X;cases ex with
 |normal=>cases e<;>first|exact X.elim|exact hk σ' w' a' Q R A (hQ.from E)
 |exit id=>cases e<;>first|exact X.elim|exact hQ _ _ _ _ _ σ' w' a' _ hk R E A X
 |ret=>cases e<;>first|exact X.elim|exact hQ _ _ _ _ _ σ' w' a' _ hk R E A X
 |pan l=>cases e<;>first|exact X.elim|exact hQ _ _ _ _ _ σ' w' a' _ hk R E A X
theorem WpP.cond{x:Operand}{p:Bool}(hp:aev env x= .bool p)(h:WpP P nt (match p with|true=>a|false=>b) env H nx dfs K):WpP P nt (.cond x a b) env H nx dfs K:=by
 intro σ w act Q hr ha hQ;cases p with
 |true=>exact wp_cond (t:=true) (wu ha hp) (h σ w act Q hr ha hQ)
 |false=>exact wp_cond (t:=false) (wu ha hp) (h σ w act Q hr ha hQ)
def qog(i:Nat)(K:KP):KP:=λex env H nx dfs rc=>match ex with
 | .exit j=>if j=i then K .normal env H nx dfs rc else K (.exit j) env H nx dfs rc
 | .normal=>K .normal env H nx dfs rc
 | .ret=>K .ret env H nx dfs rc
 | .pan l=>K (.pan l) env H nx dfs rc
theorem WpP.block{i:Nat}(h:WpP P nt a env H nx dfs (qog i K)):WpP P nt (.block i a) env H nx dfs K:=by
 intro σ w act Q hr ha hQ;refine wp_block (h σ w act _ hr ha ?_)
 intro ex env' H' nx' dfs' σ' w' a' e hk R E A X;cases ex with
 |normal=>cases e<;>first|exact X.elim|exact hQ _ _ _ _ _ σ' w' a' _ hk R E A X
 |exit j=>
  cases e<;>try exact X.elim
  rename_i j';have hj:j=j':=by first|exact X|exact X.symm
  subst hj;have hk':(if j=i then K .normal env' H' nx' dfs' none else K (.exit j) env' H' nx' dfs' none):=hk
  show(if j=i then Q .normal a' w' else Q (.exit j) a' w')
  by_cases hji:j=i
  ·rw [if_pos hji]at hk' ⊢;exact hQ .normal _ _ _ _ σ' w' a' _ hk' R E A trivial
  ·rw [if_neg hji]at hk' ⊢;exact hQ (.exit j) _ _ _ _ σ' w' a' _ hk' R E A (by first|exact rfl|exact X)
 |ret=>cases e<;>first|exact X.elim|exact hQ _ _ _ _ _ σ' w' a' _ hk R E A X
 |pan l=>cases e<;>first|exact X.elim|exact hQ _ _ _ _ _ σ' w' a' _ hk R E A X
theorem WpP.skip(h:K .normal env H nx dfs none):WpP P nt .skip env H nx dfs K:=by
 intro σ w act Q hr ha hQ;exact wp_skip (hQ .normal env H nx dfs σ w act _ h hr (Ext.refl _ _ _ _) ha trivial)
theorem LpP.of_wp(h:WpP P nt (.loop a) env H nx dfs K){rc:Option qA}:LpP P nt a env H nx dfs rc K:=λσ w act Q hr ha hQ=>h σ w act Q hr ha hQ
theorem WpP.of_lp{rc:Option qA}(h:LpP P nt a env H nx dfs rc K):WpP P nt (.loop a) env H nx dfs K:=λσ w act Q hr ha hQ=>h σ w act Q hr ha hQ
end
theorem qag{a:Code}{K:KP}(Inv:Nat->Env->qd->Nat->Dfs->Prop)(Kx:Nat->Dfs->KP)
  (hKx:∀m dfs ex env' H' nx' dfs',Kx m dfs ex env' H' nx' dfs' none->match ex with
   | .normal=>∃m' env'',m'<m/\ql env'' env'/\Inv m' env'' H' nx' dfs'
   |ex=>∃env'',ql env'' env'/\K ex env'' H' nx' dfs' none)
  (step:∀m env H nx dfs,Inv m env H nx dfs->WpP P nt a env H nx dfs (Kx m dfs))
  {m0:Nat} {env:Env} {H:qd} {nx:Nat} {dfs:Dfs} (h0:Inv m0 env H nx dfs):WpP P nt (.loop a) env H nx dfs K:=by
 intro σ w act Q hr ha hQ
 let J:Nat->Act->World->Prop:=λm act w=>∃env H nx dfs σ,Inv m env H nx dfs/\Rel σ H nx w/\vm σ nt env dfs act/\Z9 nt K σ H nx w Q
 have hJ:J m0 act w:=⟨env,H,nx,dfs,σ,h0,hr,ha,hQ⟩
 have round:∀m act w,J m act w->a.wp P (Exit.then (λa' w'=>∃m',m'<m/\J m' a' w') Q) act w:=by
  rintro m act w ⟨env,H,nx,dfs,σ,hI,hr,ha,hQ⟩
  refine step m env H nx dfs hI σ w act _ hr ha ?_
  intro ex env' H' nx' dfs' σ' w' a' e hk R E A X;have hk':=hKx m dfs ex env' H' nx' dfs' hk
  cases ex with
  |normal=>
   cases e<;>try exact X.elim
   obtain⟨m',env'',hlt,hle,hI'⟩:=hk'
   exact⟨m',hlt,env'',H',nx',dfs',σ',hI',R,A.weaken hle,hQ.from E⟩
  |exit id=>
   obtain⟨env'',hle,hk2⟩:=hk'
   cases e<;>first|exact X.elim|exact hQ (.exit id) env'' _ _ _ σ' w' a' _ hk2 R E (A.weaken hle) X
  |ret=>
   obtain⟨env'',hle,hk2⟩:=hk'
   cases e<;>first|exact X.elim|exact hQ .ret env'' _ _ _ σ' w' a' _ hk2 R E (A.weaken hle) X
  |pan l=>
   obtain⟨env'',hle,hk2⟩:=hk'
   cases e<;>first|exact X.elim|exact hQ (.pan l) env'' _ _ _ σ' w' a' _ hk2 R E (A.weaken hle) X
 have least:∀act w,(∃m,J m act w)->∃m,J m act w/\∀m',J m' act w->m<=m':=by
  rintro act w ⟨m,h⟩
  induction m using Nat.strongRecOn with
  |_ m ih=>
   by_cases hx:∃m',m'<m/\J m' act w
   ·obtain⟨m',hlt,h'⟩:=hx
    exact ih m' hlt h'
   ·exact⟨m,h,λm' h'=>Nat.le_of_not_lt λhlt=>hx ⟨m',hlt,h'⟩⟩
 let μ:Act->World->Nat:=λact w=> @dite Nat (∃m,J m act w) (Classical.propDecidable _) (λh=>Classical.choose (least act w h)) (λ_=>0)
 have μs:∀act w,(∃m,J m act w)->J (μ act w) act w/\∀m',J m' act w->μ act w<=m':=by
  intro act w h;have:μ act w=Classical.choose (least act w h):=by simp only [μ,h,dite_true]
  rw [this];exact Classical.choose_spec (least act w h)
 refine wp_loop (λact w=>∃m,J m act w) μ ⟨m0,hJ⟩ ?_
 intro act w h;obtain⟨h1,_⟩:=μs act w h
 refine wp_mono (round _ act w h1) ?_
 intro e a' w' hq;cases e with
 |normal=>
  obtain⟨m',hlt,hj⟩:=hq
  exact⟨⟨m',hj⟩,Nat.lt_of_le_of_lt ((μs a' w' ⟨m',hj⟩).2 m' hj) hlt⟩
 |exit id=>exact hq
 |goto l=>exact hq
 |ret=>exact hq
 |panic c=>exact hq
 |outgrown=>exact hq
theorem zu{a:Code}{K:KP}{X Y:Type}(canon:X->Env)(canonY:Y->Env)
  (I:Nat->X->qd->Nat->Prop) (J:Nat->Y->qd->Nat->Prop) {env:Env} {H:qd} {nx:Nat} {dfs:Dfs} {rc:Option qA} (m0:Nat) (x0:X)
  (hle:ql (canon x0) env) (h0:I m0 x0 H nx)
  (step:∀m x H nx,I m x H nx->WpP P nt a (canon x) H nx dfs
   (qV (λenv' H' nx' dfs' _=>dfs'=dfs/\∃m' x',m'<m/\ql (canon x') env'/\I m' x' H' nx')
    (λid env' H' nx' dfs' _=>dfs'=dfs/\∃y,ql (canonY y) env'/\J id y H' nx')
    (λenv' H' nx' dfs' rc'=>K .ret env' H' nx' dfs' rc') (λl env' H' nx' dfs' rc'=>K (.pan l) env' H' nx' dfs' rc')))
  (after:∀id y H nx,J id y H nx->K (.exit id) (canonY y) H nx dfs none):
  LpP P nt a env H nx dfs rc K:=by
 refine LpP.of_wp (WpP.weaken hle ?_)
 refine qag (K:=K)
  (λm env' H' nx' dfs'=>dfs'=dfs/\∃x,env'=canon x/\I m x H' nx')
  (λm _=>qV (λenv' H' nx' dfs' _=>dfs'=dfs/\∃m' x',m'<m/\ql (canon x') env'/\I m' x' H' nx')
    (λid env' H' nx' dfs' _=>dfs'=dfs/\∃y,ql (canonY y) env'/\J id y H' nx')
    (λenv' H' nx' dfs' rc'=>K .ret env' H' nx' dfs' rc') (λl env' H' nx' dfs' rc'=>K (.pan l) env' H' nx' dfs' rc')) ?_ ?_
  (m0:=m0) ⟨rfl,x0,rfl,h0⟩
 ·intro m dfs1 ex env' H' nx' dfs' h;cases ex with
  |normal=>
   obtain⟨h1,m',x',h2,h3,h4⟩:=h
   exact⟨m',canon x',h2,h3,h1,x',rfl,h4⟩
  |exit id=>
   obtain⟨rfl,y,h2,h3⟩:=h
   exact⟨canonY y,h2,after id y H' nx' h3⟩
  |ret=>exact⟨env',ql.refl _,h⟩
  |pan l=>exact⟨env',ql.refl _,h⟩
 ·rintro m env' H' nx' dfs' ⟨rfl,x,rfl,hI⟩
  exact step m x H' nx' hI
end
end Go.Vs
end
section
namespace Go.Vs
variable [GTab] {H:qd}
noncomputable section
abbrev GH:=Nat->Option (List qa)
def gup(b:Nat)(x:Option (List qa))(Γ:GH):GH:=λc=>if c=b then x else Γ c
theorem qf(b:Nat)(x:Option (List qa))(Γ:GH):gup b x Γ b=x:=by simp [gup]
theorem qg{b c:Nat}{x:Option (List qa)}{Γ:GH}(h:c≠b):gup b x Γ c=Γ c:=by simp [gup,h]
theorem km(b:Nat)(x y:Option (List qa))(Γ:GH):gup b x (gup b y Γ)=gup b x Γ:=by
 funext c;by_cases h:c=b<;>simp [gup,h]
def Row(H:qd)(b:Nat)(cs:List qa)(olds:List Nat):Prop:=∃ct,H b=some (.cells cs.length ct olds false)/\ct.take cs.length=cs
theorem Jb{α:Type}{n:Nat}{l m:List α}(h:l.take n=m)(hm:m.length=n):n<=l.length:=by
 have:=congrArg List.length h
 rw [List.length_take,hm]at this;omega
theorem Zj{cs ct:CT}{off sz:Nat}(hc:ct.take cs.length=cs)(ho:off+sz<=cs.length):CT.slab ct sz off=(cs.drop off).take sz:=by
 have hl:=Jb hc rfl
 rw [CT.slab_eq (by omega)]
 conv=>rhs;rw [<-hc]
 rw [List.drop_take,List.take_take,Nat.min_eq_left (by omega)]
theorem JQ:∀{l:List Nat} {H:qd} {c:Nat},c ∉ l->wY l H c=H c
 |[],_,_,_=>rfl
 |b::l,H,c,h=>by
  rw [Xo,JQ (λx=>h (List.mem_cons_of_mem _ x))]
  show zg c (zS b _ H)=zg c H
  exact ji (λe=>h (by rw [e];exact List.mem_cons_self)) (by omega) (by omega)
theorem wA{b c:Nat}{x:Option vQ}(h:c≠b):zS b x H c=H c:=ji (H:=H) (x:=x) (λe=>h e.symm) (by omega) (by omega)
theorem ZM(b:Nat)(x:Option vQ)(H:qd):zS b x H b=x:=qT b x H
end
end Go.Vs
end
section
namespace Go.Vs
variable [GTab] {H:qd} {nx:Nat}
noncomputable section
def HZ(Z:Nat->Prop)(Γ:GH)(H:qd)(nx:Nat):Prop:=(∀b,Z b->b<nx)/\∀b cs,Γ b=some cs->(b<nx/\¬Z b)/\∃olds,Row H b cs olds/\∀o,o∈olds->(o<nx/\¬Z o)/\Γ o=none
theorem HZ.lt{Z:Nat->Prop}{Γ:GH}{nx b:Nat}{cs:List qa}(h:HZ Z Γ H nx)(e:Γ b=some cs):b<nx:=(h.2 b cs e).1.1
theorem HZ.nz{Z:Nat->Prop}{Γ:GH}{nx b:Nat}{cs:List qa}(h:HZ Z Γ H nx)(e:Γ b=some cs):¬Z b:=(h.2 b cs e).1.2
theorem HZ.non{Z:Nat->Prop}{Γ:GH}{nx b:Nat}(h:HZ Z Γ H nx)(e:nx<=b):Γ b=none:=by
 cases hb:Γ b with
 |none=>rfl
 |some cs=>exact absurd (h.lt hb) (by omega)
theorem HZ.more{Z:Nat->Prop}{Γ:GH}{nx nx':Nat}(h:HZ Z Γ H nx)(e:nx<=nx'):HZ Z Γ H nx':=⟨λb hb=>Nat.lt_of_lt_of_le (h.1 b hb) e,λb cs hb=>
 let⟨h1,olds,h2,h3⟩:=h.2 b cs hb
 ⟨⟨Nat.lt_of_lt_of_le h1.1 e,h1.2⟩,olds,h2,λo ho=>⟨⟨Nat.lt_of_lt_of_le (h3 o ho).1.1 e,(h3 o ho).1.2⟩,(h3 o ho).2⟩⟩⟩
theorem HZ.ld1{Z:Nat->Prop}{Γ:GH}{nx b:Nat}{cs:List qa}(h:HZ Z Γ H nx)(e:Γ b=some cs)(off:Nat):ld1 H (.ptr b off)=cs[off]?:=by
 obtain⟨_,olds,⟨ct,hb,hc⟩,_⟩:=h.2 b cs e
 unfold Vs.ld1;simp only [zg]
 rw [hb];have hl:=Jb hc rfl
 by_cases ho:off<cs.length
 ·have:Nat.ble (Nat.succ off) cs.length=true:=jD ho
  simp only [this,CT.get]
  rw [<-hc,List.getElem?_take_of_lt ho];simp [List.getD,show off<ct.length by omega]
 ·have:Nat.ble (Nat.succ off) cs.length=false:=by
   cases e:Nat.ble (Nat.succ off) cs.length with
   |false=>rfl
   |true=>exact(ho (Nat.le_of_ble_eq_true e)).elim
  simp only [this]
  rw [List.getElem?_eq_none (by omega)]
theorem HZ.ldN{Z:Nat->Prop}{Γ:GH}{nx b:Nat}{cs:List qa}(h:HZ Z Γ H nx)(e:Γ b=some cs){off sz:Nat}(ho:off+sz<=cs.length):
  ldN H sz (.ptr b off)=some (.agg ((cs.drop off).take sz)):=by
 obtain⟨_,olds,⟨ct,hb,hc⟩,_⟩:=h.2 b cs e
 unfold Vs.ldN;simp only [zg]
 rw [hb];have:Nat.ble (Nat.add off sz) cs.length=true:=jD ho
 simp only [this,Zj hc ho]
theorem HZ.newN{Z:Nat->Prop}{Γ:GH}{nx nx' b:Nat}(h:HZ Z Γ H nx)(hb:nx<=b)(hn:b<nx'){cs:List qa}{ct:CT}(hc:ct.take cs.length=cs):
  HZ Z (gup b (some cs) Γ) (zS b (some (.cells cs.length ct [] false)) H) nx':=by
 refine⟨λz hz=>by have:=h.1 z hz;omega,?_⟩
 intro c ds e;by_cases hc':c=b
 ·subst hc';rw [qf]at e;cases e
  exact⟨⟨hn,λz=>by have:=h.1 _ z;omega⟩,[],⟨ct,ZM _ _ _,hc⟩,by simp⟩
 ·rw [qg hc']at e;obtain⟨h1,olds,⟨ct',h2,h2'⟩,h3⟩:=h.2 c ds e
  exact⟨⟨by omega,h1.2⟩,olds,⟨ct',by rw [wA hc'];exact h2,h2'⟩,λo ho=>⟨⟨by have:=(h3 o ho).1.1;omega,(h3 o ho).1.2⟩,by rw [qg (by have:=(h3 o ho).1.1;omega)];exact(h3 o ho).2⟩⟩
theorem HZ.new{Z:Nat->Prop}{Γ:GH}{nx nx' b:Nat}(h:HZ Z Γ H nx)(hb:nx<=b)(hn:b<nx')(cs:List qa):HZ Z (gup b (some cs) Γ) (qo b cs H) nx':=
 h.newN hb hn (by rw [CT.ofL_eq rfl];exact List.take_length)
theorem HZ.st{Z:Nat->Prop}{Γ:GH}{nx b off:Nat}{cs vs:List qa}(h:HZ Z Γ H nx)(e:Γ b=some cs)(ho:off+vs.length<=cs.length)(hv:qq vs=true):
  ∃H',stC H (.ptr b off) vs=some H'/\HZ Z (gup b (some (ki cs off vs)) Γ) H' nx:=by
 obtain⟨hb,olds,⟨ct,h2,h2'⟩,h3⟩:=h.2 b cs e
 have hl:=Jb h2' rfl
 refine⟨zS b (some (.cells cs.length (relay vs vs.length off cs.length ct) [] false)) (wY olds H),?_,?_⟩
 ·unfold stC;simp only [zg]
  rw [h2];have:Nat.ble (Nat.add off vs.length) cs.length=true:=jD ho
  simp only [this,hv]
 ·refine⟨h.1,?_⟩
  intro c ds ec;by_cases hc:c=b
  ·subst hc;rw [qf]at ec;cases ec
   refine⟨hb,[],⟨_,by rw [ZM,Zr ho],?_⟩,by simp⟩
   rw [Zr ho];unfold relay ki;split
   ·rename_i g1 g2 _;have e1:=Nat.eq_of_beq_eq_true g1
    have e2:=Nat.eq_of_beq_eq_true g2
    subst e1;rw [CT.ofL_eq e2,<-e2,List.take_length];simp only [List.take_zero,List.nil_append,Nat.zero_add]
    rw [List.drop_eq_nil_of_le (by omega)]
    simp
   ·rw [CT.lay_eq (by omega)]
    have ea:(ct.take off++vs).length=off+vs.length:=by simp;omega
    rw [List.take_append,ea,List.take_of_length_le (by omega:(ct.take off++vs).length<=cs.length)]
    congr 1
    ·conv=>rhs;rw [<-h2']
     rw [List.take_take,Nat.min_eq_left (by omega)]
    ·conv=>rhs;rw [<-h2']
     rw [List.drop_take]
  ·rw [qg hc]at ec;obtain⟨h4,olds',⟨ct',h5,h5'⟩,h6⟩:=h.2 c ds ec
   refine⟨h4,olds',⟨ct',?_,h5'⟩,λo hoo=>⟨(h6 o hoo).1,?_⟩⟩
   ·rw [wA hc,JQ (λhm=>by have:=(h3 c hm).2;rw [ec]at this;cases this)]
    exact h5
   ·rw [qg (λx=>by have:=(h6 o hoo).2;rw [x,e]at this;cases this)]
    exact(h6 o hoo).2
theorem HZ.src{Z:Nat->Prop}{Γ:GH}{nx b off n sz e:Nat}{full:Bool}{cs:List qa}(h:HZ Z Γ H nx)(eb:Γ b=some cs)(ho:off+n*sz<=cs.length):
  zJ sz H (.slice b off n e full)=some (n,(cs.drop off).take (n*sz)):=by
 obtain⟨hb,olds,⟨ct,h2,h2'⟩,h3⟩:=h.2 b cs eb
 unfold zJ;simp only [zg]
 rw [h2];have:Nat.ble (Nat.add off (Nat.mul n sz)) cs.length=true:=jD ho
 simp only [this]
 rw [show Nat.mul n sz=n*sz from rfl,Zj h2' ho]
theorem HZ.appNil{Z:Nat->Prop}{Γ:GH}{nx esz ebytes k:Nat}{new:List qa}(h:HZ Z Γ H nx)(hk:new.length=k*esz)(hk0:0<k)
  (h1:k*esz<=9223372036854775807) (h2:k*ebytes<=140737488355328):
  ∃H',zt H nx esz ebytes .nilSlice k new=some (.slice nx 0 k esz false,H',nx+1)/\HZ Z (gup nx (some new) Γ) H' (nx+1):=by
 obtain⟨k',rfl⟩:∃k',k=Nat.succ k':=⟨k - 1,by omega⟩
 have g2:Nat.ble (Nat.mul (Nat.succ k') esz) 9223372036854775807=true:=jD h1
 have g3:Nat.ble (Nat.mul (Nat.succ k') ebytes) 140737488355328=true:=jD h2
 refine⟨zS nx (some (.cells (Nat.mul (Nat.succ k') esz) (CT.ofL (Nat.mul (Nat.succ k') esz) new) [] false)) H,?_,?_⟩
 ·unfold zt;simp only [g2,g3]
 ·have e:Nat.mul (Nat.succ k') esz=new.length:=hk.symm
  rw [e];exact h.newN lR (Nat.lt_succ_self _) (by rw [CT.ofL_eq rfl];exact List.take_length)
theorem HZ.appFull{Z:Nat->Prop}{Γ:GH}{nx b off len esz ebytes k:Nat}{cs new:List qa}(h:HZ Z Γ H nx)(e:Γ b=some cs)(hl:off+len*esz<=cs.length)(hk:new.length=k*esz)(hk0:0<k)
  (h1:(len+k)*esz<=9223372036854775807) (h2:(len+k)*ebytes<=140737488355328):
  ∃H',zt H nx esz ebytes (.slice b off len esz true) k new=some (.slice nx 0 (len+k) esz false,H',nx+1)/\HZ Z (gup nx (some ((cs.drop off).take (len*esz)++new)) Γ) H' (nx+1):=by
 obtain⟨hb,olds,⟨ct,h3,h3'⟩,h4⟩:=h.2 b cs e
 obtain⟨k',rfl⟩:∃k',k=Nat.succ k':=⟨k - 1,by omega⟩
 have g1:Nat.beq esz esz=true:=Nat.beq_refl esz
 have g2:Nat.ble (Nat.mul (Nat.add len (Nat.succ k')) esz) 9223372036854775807=true:=jD h1
 have g3:Nat.ble (Nat.mul (Nat.add len (Nat.succ k')) ebytes) 140737488355328=true:=jD h2
 have g4:Nat.ble (Nat.add off (Nat.mul len esz)) cs.length=true:=jD hl
 have hm:((cs.drop off).take (len*esz)++new).length=(len+Nat.succ k')*esz:=by
  rw [List.length_append,List.length_take,List.length_drop,hk,Nat.add_mul,Nat.min_eq_left (by omega)]
 refine⟨zS nx (some (.cells ((len+Nat.succ k')*esz) (CT.ofL ((len+Nat.succ k')*esz) ((cs.drop off).take (len*esz)++new)) [] false)) H,?_,?_⟩
 ·unfold zt;simp only [zg,h3,g1,g2,g3,g4]
  rw [show Nat.mul len esz=len*esz from rfl,Zj h3' hl];rfl
 ·rw [<-hm];exact h.newN lR (Nat.lt_succ_self _) (by rw [CT.ofL_eq rfl];exact List.take_length)
theorem HZ.app{Z:Nat->Prop}{Γ:GH}{nx b len esz ebytes k:Nat}{cs new:List qa}(h:HZ Z Γ H nx)(e:Γ b=some cs)(hl:len*esz<=cs.length)(hk:new.length=k*esz)(hk0:0<k)
  (h1:(len+k)*esz<=9223372036854775807) (h2:(len+k)*ebytes<=140737488355328):
  ∃H',zt H nx esz ebytes (.slice b 0 len esz false) k new=some (.slice nx 0 (len+k) esz false,H',nx+1)/\
   HZ Z (gup nx (some (cs.take (len*esz)++new)) (gup b none Γ)) H' (nx+1):=by
 obtain⟨hb,olds,⟨ct,h3,h3'⟩,h4⟩:=h.2 b cs e
 have hlen:=Jb h3' rfl
 obtain⟨k',rfl⟩:∃k',k=Nat.succ k':=⟨k - 1,by omega⟩
 have g1:Nat.beq esz esz=true:=Nat.beq_refl esz
 have g2:Nat.ble (Nat.mul (Nat.add len (Nat.succ k')) esz) 9223372036854775807=true:=jD h1
 have g3:Nat.ble (Nat.mul (Nat.add len (Nat.succ k')) ebytes) 140737488355328=true:=jD h2
 have g4:Nat.ble (Nat.add 0 (Nat.mul len esz)) cs.length=true:=jD (by show 0+len*esz<=_;omega)
 have hm:(cs.take (len*esz)++new).length=(len+Nat.succ k')*esz:=by
  rw [List.length_append,List.length_take,hk,Nat.add_mul,Nat.min_eq_left (by omega)]
 have hct:(CT.lay new (len*esz) (CT.widen ((len+Nat.succ k')*esz) ct)).take (cs.take (len*esz)++new).length=cs.take (len*esz)++new:=by
  have hw:(len+Nat.succ k')*esz<=(CT.widen ((len+Nat.succ k')*esz) ct).length:=by simp [CT.widen];omega
  have hn:len*esz+new.length=(len+Nat.succ k')*esz:=by rw [hk,Nat.add_mul]
  rw [CT.lay_eq (by omega),hm]
  have ht:(CT.widen ((len+Nat.succ k')*esz) ct).take (len*esz)=cs.take (len*esz):=by
   unfold CT.widen;rw [List.take_append_of_le_length (by omega)]
   conv=>rhs;rw [<-h3']
   rw [List.take_take,Nat.min_eq_left (by omega)]
  rw [ht];exact List.take_left' hm
 have hap:zt H nx esz ebytes (.slice b 0 len esz false) (Nat.succ k') new=some (.slice nx 0 (len+Nat.succ k') esz false,
   grown b cs.length ct olds (len*esz) H nx ((len+Nat.succ k')*esz) (CT.lay new (len*esz) (CT.widen ((len+Nat.succ k')*esz) ct)),nx+1):=by
  unfold zt;simp only [zg,h3,g1,g2,g3,g4]
  rfl
 refine⟨_,hap,?_⟩
 rw [<-hm];have hrest:∀c ds,c≠nx->c≠b->Γ c=some ds->wY olds H c=H c:=λc ds _ _ ec=>JQ λhx=>by have:=(h4 c hx).2;rw [ec]at this;cases this
 have key:∀(H2:qd) (ol:List Nat),(∀o,o∈ol->o=b)->(∀c,c≠nx->c≠b->H2 c=wY olds H c)->
   HZ Z (gup nx (some (cs.take (len*esz)++new)) (gup b none Γ)) (zS nx (some (.cells (cs.take (len*esz)++new).length (CT.lay new (len*esz) (CT.widen (cs.take (len*esz)++new).length ct)) ol false)) H2) (nx+1):=by
  intro H2 ol hol h2c;refine⟨λz hz=>by have:=h.1 z hz;omega,?_⟩
  intro c ds ec;by_cases hc:c=nx
  ·subst hc;rw [qf]at ec;cases ec
   refine⟨⟨Nat.lt_succ_self _,λz=>by have:=h.1 _ z;omega⟩,ol,⟨_,ZM _ _ _,by rw [hm];rw [hm]at hct;exact hct⟩,λo ho=> ?_⟩
   rw [hol o ho];exact⟨⟨by omega,hb.2⟩,by rw [qg (by omega),qf]⟩
  ·rw [qg hc]at ec;have hcb:c≠b:=λx=>by rw [x,qf]at ec;cases ec
   rw [qg hcb]at ec;obtain⟨h5,olds',⟨ct',h6,h6'⟩,h7⟩:=h.2 c ds ec
   refine⟨⟨by omega,h5.2⟩,olds',⟨ct',by rw [wA hc,h2c c hc hcb,hrest c ds hc hcb ec];exact h6,h6'⟩,λo ho=> ?_⟩
   have ho':=h7 o ho
   refine⟨⟨by omega,ho'.1.2⟩,?_⟩
   rw [qg (by omega)]
   by_cases hob:o=b
   ·rw [hob,qf]
   ·rw [qg hob];exact ho'.2
 unfold grown;split
 ·exact key _ [b] (by simp) (λc h1 h2=>by rw [wA h2])
 ·exact key _ [] (by simp) (λc h1 h2=>by rw [wA h2,wA h2])
theorem HZ.res{Z Z':Nat->Prop}{Γ:GH}{nx nx':Nat}(h:HZ Z Γ H nx)(hz:∀b,Z' b->Z b\/(nx<=b/\b<nx'))(hn:nx<=nx'):HZ Z' Γ H nx':=
 ⟨λb hb=>(hz b hb).elim (λg=>Nat.lt_of_lt_of_le (h.1 b g) hn) λg=>g.2,λb cs e=>
  let⟨h1,olds,h2,h3⟩:=h.2 b cs e
  ⟨⟨Nat.lt_of_lt_of_le h1.1 hn,λg=>(hz b g).elim (λg=>h1.2 g) λg=>by omega⟩,olds,h2,λo ho=>⟨⟨Nat.lt_of_lt_of_le (h3 o ho).1.1 hn,λg=>by
   rcases hz o g with g|g
   ·exact(h3 o ho).1.2 g
   ·have:=(h3 o ho).1.1;omega⟩,(h3 o ho).2⟩⟩⟩
theorem HZ.take{Z Z':Nat->Prop}{Γ:GH}{nx i:Nat}(h:HZ Z Γ H nx)(hi:Z i)(hz:∀b,Z' b->Z b/\b≠i)(cs:List qa):HZ Z' (gup i (some cs) Γ) (qo i cs H) nx:=by
 refine⟨λb hb=>h.1 b (hz b hb).1,?_⟩
 intro c ds e;by_cases hc':c=i
 ·subst hc';rw [qf]at e;cases e
  exact⟨⟨h.1 _ hi,λz=>(hz _ z).2 rfl⟩,[],⟨_,ZM _ _ _,by rw [CT.ofL_eq rfl];exact List.take_length⟩,by simp⟩
 ·rw [qg hc']at e;obtain⟨h1,olds,⟨ct',h2,h2'⟩,h3⟩:=h.2 c ds e
  refine⟨⟨h1.1,λz=>h1.2 (hz _ z).1⟩,olds,⟨ct',by unfold qo;rw [wA hc'];exact h2,h2'⟩,λo ho=>⟨⟨(h3 o ho).1.1,λz=>(h3 o ho).1.2 (hz _ z).1⟩,?_⟩⟩
  rw [qg λx=>(h3 o ho).1.2 (by rw [x];exact hi)];exact(h3 o ho).2
theorem HZ.free{Z:Nat->Prop}{Γ:GH}{nx i:Nat}(h:HZ Z Γ H nx)(hi:Z i):Γ i=none:=by
 cases e:Γ i with
 |none=>rfl
 |some cs=>exact absurd hi (h.nz e)
theorem HZ.less{Z Z':Nat->Prop}{Γ:GH}(h:HZ Z Γ H nx)(hz:∀b,Z' b->Z b):HZ Z' Γ H nx:=h.res (λb hb=> .inl (hz b hb)) lR
theorem HZ.sub{Z:Nat->Prop}{Γ Γ':GH}(h:HZ Z Γ' H nx)(hs:∀b cs,Γ b=some cs->Γ' b=some cs):HZ Z Γ H nx:=⟨h.1,λb cs e=>
 let⟨h1,olds,h2,h3⟩:=h.2 b cs (hs b cs e)
 ⟨h1,olds,h2,λo ho=>⟨(h3 o ho).1,by
  cases hq:Γ o with
  |none=>rfl
  |some ds=>have:=(h3 o ho).2;rw [hs _ _ hq]at this;cases this⟩⟩⟩
end
end Go.Vs
end
section
namespace Go.Vs
structure Tok where
 kind:Int
 text:List UInt8
 n:Int
 line:Int
 col:Int
inductive qu where
 |node (kind:Int) (name:List UInt8) (n line col:Int) (kids:List qu)
structure Flt where
 line:Int
 col:Int
 e:Int
abbrev Rs(α:Type):=Option (Except Flt α)
def Rs.ok{α:Type}(x:α):Rs α:=some (.ok x)
def Rs.bad{α:Type}(f:Flt):Rs α:=some (.error f)
def Rs.bind{α β:Type}(x:Rs α)(k:α->Rs β):Rs β:=match x with
 |none=>none
 |some (.error f)=>some (.error f)
 |some (.ok a)=>k a
namespace Ps
abbrev bs(s:List UInt8):=s
def wType:List UInt8:=[116,121,112,101]
def wStruct:List UInt8:=[115,116,114,117,99,116]
def wInterface:List UInt8:=[105,110,116,101,114,102,97,99,101]
def wFunc:List UInt8:=[102,117,110,99]
def wVar:List UInt8:=[118,97,114]
def wIf:List UInt8:=[105,102]
def wElse:List UInt8:=[101,108,115,101]
def wFor:List UInt8:=[102,111,114]
def wBreak:List UInt8:=[98,114,101,97,107]
def wContinue:List UInt8:=[99,111,110,116,105,110,117,101]
def wReturn:List UInt8:=[114,101,116,117,114,110]
def wPrint:List UInt8:=[112,114,105,110,116]
def wLen:List UInt8:=[108,101,110]
def wMake:List UInt8:=[109,97,107,101]
def wNew:List UInt8:=[110,101,119]
def wInput:List UInt8:=[105,110,112,117,116]
def wTrue:List UInt8:=[116,114,117,101]
def wFalse:List UInt8:=[102,97,108,115,101]
def wNil:List UInt8:=[110,105,108]
def wInt:List UInt8:=[105,110,116]
def wBool:List UInt8:=[98,111,111,108]
def wString:List UInt8:=[115,116,114,105,110,103]
def tk(l:List Tok)(at_:Nat):Tok:=l.getD at_ ⟨0,[],0,0,0⟩
def flt(l:List Tok)(at_:Nat)(e:Int):Flt:=⟨(tk l at_).line,(tk l at_).col,e⟩
def is(l:List Tok)(at_:Nat)(s:List UInt8):Bool:=
 ((tk l at_).kind==3||(tk l at_).kind==6||(tk l at_).kind==1)&&(tk l at_).text==s
def need(l:List Tok)(at_:Nat)(s:List UInt8):Except Flt Nat:=if is l at_ s then .ok (at_+1)else .error (flt l at_ 13)
def name(l:List Tok)(at_:Nat):Except Flt Nat:=if(tk l at_).kind==2 then .ok (at_+1)else .error (flt l at_ 13)
def gapsN(l:List Tok):Nat->Nat->Nat
 |0,a=>a
 |n+1,a=>if is l a [59]then gapsN l n (a+1)else a
def gaps(l:List Tok)(a:Nat):Nat:=gapsN l (l.length - a) a
def ends(l:List Tok)(a:Nat):Except Flt Nat:=if is l a [125]then .ok (gaps l a)else match need l a [59]with
 | .ok b=> .ok (gaps l b)
 | .error f=> .error f
def leaf(t:Tok)(kind:Int)(nm:List UInt8):qu:= .node kind nm 0 t.line t.col []
def mk(t:Tok)(kind:Int)(nm:List UInt8)(kids:List qu):qu:= .node kind nm 0 t.line t.col kids
def none_:qu:= .node 38 [] 0 0 0 []
def lift{α β:Type}(x:Except Flt α)(k:α->Rs β):Rs β:=match x with
 | .ok a=>k a
 | .error f=>some (.error f)
def rank(s:List UInt8):Int:=
 if s=[124,124]then 1
 else if s=[38,38]then 2
 else if s=[61,61]\/s=[33,61]\/s=[60]\/s=[60,61]\/s=[62]\/s=[62,61]then 3
 else if s=[43]\/s=[45]then 4
 else if s=[42]\/s=[47]\/s=[37]then 5
 else 0
inductive Rule where
 |typ|field|method|param|stmt|ifs|block|expr|binary (k:Int)|binGo (k:Int) (x:qu)|unary|post|postGo (x:qu)|prime
def rowGo(l:List Tok)(one:Nat->Rs (qu×Nat)):Nat->Nat->Rs (List qu×Nat)
 |0,_=>none
 |n+1,a=>Rs.bind (one a) λ(x,b)=>if is l b [44]then Rs.bind (rowGo l one n (b+1)) λ(xs,c)=> .ok (x::xs,c)
  else lift (need l b [41]) λc=> .ok ([x],c)
def row(l:List Tok)(one:Nat->Rs (qu×Nat))(n a:Nat):Rs (List qu×Nat):=
 lift (need l a [40]) λb=>if is l b [41]then .ok ([],b+1)else rowGo l one n b
def listGo(l:List Tok)(one:Nat->Rs (qu×Nat)):Nat->Nat->Rs (List qu×Nat)
 |0,_=>none
 |n+1,a=>if is l a [125]then .ok ([],a+1)else Rs.bind (one a) λ(x,b)=>lift (ends l b) λc=>Rs.bind (listGo l one n c) λ(xs,d)=> .ok (x::xs,d)
def list(l:List Tok)(one:Nat->Rs (qu×Nat))(n a:Nat):Rs (List qu×Nat):=
 lift (need l a [123]) λb=>listGo l one n (gaps l b)
def isTyp(l:List Tok)(a:Nat):Bool:=is l a wInt||is l a wBool||is l a wString
def run(l:List Tok):Nat->Rule->Nat->Nat->Rs (qu×Nat)
 |0,_,_,_=>none
 |n+1,rule,d,a=>
  let t:=tk l a
  let go:=run l n
  let result:=λb=>if(tk l b).kind==2||isTyp l b||is l b [91]then go .typ d b else .ok (none_,b)
  match rule with
  | .typ=>if 40<=d then .bad (flt l a 14)else
   if is l a [91]then lift (need l (a+1) [93]) λb=>Rs.bind (go .typ (d+1) b) λ(x,c)=> .ok (mk t 9 [] [x],c)
   else if isTyp l a then .ok (leaf t 8 t.text,a+1)
   else lift (name l a) λb=> .ok (leaf t 8 t.text,b)
  | .field=>lift (name l a) λb=>Rs.bind (go .typ d b) λ(x,c)=> .ok (mk t 4 t.text [x],c)
  | .param=>lift (name l a) λb=>Rs.bind (go .typ d b) λ(x,c)=> .ok (mk t 7 t.text [x],c)
  | .method=>lift (name l a) λb=>Rs.bind (row l (go .typ d) n b) λ(xs,c)=>Rs.bind (result c) λ(y,e)=> .ok (mk t 5 t.text (y::xs),e)
  | .block=>Rs.bind (list l (go .stmt d) n a) λ(xs,b)=> .ok (mk t 10 [] xs,b)
  | .ifs=>lift (need l a wIf) λb=>Rs.bind (go .expr d b) λ(e,b)=>Rs.bind (go .block d b) λ(y,b)=>
   if is l b wElse then
    if is l (b+1) wIf then Rs.bind (go .ifs d (b+1)) λ(z,c)=> .ok (mk t 14 [] [e,y,z],c)
    else if is l (b+1) [123]then Rs.bind (go .block d (b+1)) λ(z,c)=> .ok (mk t 14 [] [e,y,z],c)
    else .bad (flt l (b+1) 13)
   else .ok (mk t 14 [] [e,y,none_],b)
  | .stmt=>if 40<=d then .bad (flt l a 14)else
   let d:=d+1
   if is l a [123]then go .block d a
   else if is l a wVar then lift (name l (a+1)) λb=>Rs.bind (go .typ d b) λ(ty,c)=>
    if is l c [61]then Rs.bind (go .expr d (c+1)) λ(e,g)=> .ok (mk t 11 (tk l (a+1)).text [ty,e],g)
    else .ok (mk t 11 (tk l (a+1)).text [ty,none_],c)
   else if is l a wIf then go .ifs d a
   else if is l a wFor then
    if is l (a+1) [123]then Rs.bind (go .block d (a+1)) λ(y,c)=> .ok (mk t 15 [] [none_,y],c)
    else Rs.bind (go .expr d (a+1)) λ(e,b)=>Rs.bind (go .block d b) λ(y,c)=> .ok (mk t 15 [] [e,y],c)
   else if is l a wBreak then .ok (leaf t 16 [],a+1)
   else if is l a wContinue then .ok (leaf t 17 [],a+1)
   else if is l a wReturn then
    if is l (a+1) [59]||is l (a+1) [125]then .ok (mk t 18 [] [none_],a+1)
    else Rs.bind (go .expr d (a+1)) λ(e,b)=> .ok (mk t 18 [] [e],b)
   else if is l a wPrint then lift (need l (a+1) [40]) λb=>Rs.bind (go .expr d b) λ(e,c)=>lift (need l c [41]) λg=> .ok (mk t 20 [] [e],g)
   else Rs.bind (go .expr d a) λ(e,b)=>
    if is l b [58,61]then Rs.bind (go .expr d (b+1)) λ(y,c)=> .ok (mk (tk l b) 12 [] [e,y],c)
    else if is l b [61]then Rs.bind (go .expr d (b+1)) λ(y,c)=> .ok (mk (tk l b) 13 [] [e,y],c)
    else .ok (mk t 19 [] [e],b)
  | .expr=>if 40<=d then .bad (flt l a 14)else go (.binary 1) (d+1) a
  | .binary k=>Rs.bind (go .unary d a) λ(x,b)=>go (.binGo k x) d b
  | .binGo k x=>if(t.kind==6)&&decide (k<=rank t.text)then Rs.bind (go (.binary (rank t.text+1)) d (a+1)) λ(y,b)=>go (.binGo k (mk t 28 t.text [x,y])) d b
   else .ok (x,a)
  | .unary=>if is l a [45]||is l a [33]then Rs.bind (go .unary d (a+1)) λ(x,b)=> .ok (mk t 27 t.text [x],b)else go .post d a
  | .post=>Rs.bind (go .prime d a) λ(x,b)=>go (.postGo x) d b
  | .postGo x=>
   if is l a [91]then Rs.bind (go .expr d (a+1)) λ(i,b)=>lift (need l b [93]) λc=>go (.postGo (mk t 32 [] [x,i])) d c
   else if is l a [46]then
    if is l (a+1) [40]then Rs.bind (go .typ d (a+2)) λ(ty,b)=>lift (need l b [41]) λc=>go (.postGo (mk t 37 [] [x,ty])) d c
    else lift (name l (a+1)) λb=>
     if is l b [40]then Rs.bind (row l (go .expr d) n b) λ(xs,c)=>go (.postGo (mk t 31 (tk l (a+1)).text (x::xs))) d c
     else go (.postGo (mk t 30 (tk l (a+1)).text [x])) d b
   else .ok (x,a)
  | .prime=>
   if t.kind==4 then .ok (.node 21 [] t.n t.line t.col [],a+1)
   else if t.kind==5 then .ok (leaf t 24 t.text,a+1)
   else if t.kind==2 then
    if is l (a+1) [40]then Rs.bind (row l (go .expr d) n (a+1)) λ(xs,b)=> .ok (mk t 29 t.text xs,b)
    else .ok (leaf t 26 t.text,a+1)
   else if is l a wTrue then .ok (leaf t 22 [],a+1)
   else if is l a wFalse then .ok (leaf t 23 [],a+1)
   else if is l a wNil then .ok (leaf t 25 [],a+1)
   else if is l a [40]then Rs.bind (go .expr d (a+1)) λ(x,b)=>lift (need l b [41]) λc=> .ok (x,c)
   else if is l a wLen then lift (need l (a+1) [40]) λb=>Rs.bind (go .expr d b) λ(x,c)=>lift (need l c [41]) λg=> .ok (mk t 33 [] [x],g)
   else if is l a wNew then lift (need l (a+1) [40]) λb=>Rs.bind (go .typ d b) λ(x,c)=>lift (need l c [41]) λg=> .ok (mk t 35 [] [x],g)
   else if is l a wMake then lift (need l (a+1) [40]) λb=>Rs.bind (go .typ d b) λ(x,c)=>lift (need l c [44]) λe=>Rs.bind (go .expr d e) λ(y,g)=>lift (need l g [41]) λi=> .ok (mk t 34 [] [x,y],i)
   else if is l a wInput then lift (need l (a+1) [40]) λb=>lift (need l b [41]) λc=> .ok (leaf t 36 [],c)
   else .bad (flt l a 13)
def result(l:List Tok)(n:Nat)(b:Nat):Rs (qu×Nat):=if(tk l b).kind==2||isTyp l b||is l b [91]then run l n .typ 0 b else .ok (none_,b)
def typeDecl(l:List Tok)(n a:Nat):Rs (qu×Nat):=
 lift (need l a wType) λa1=>lift (name l a1) λb=>
  if is l b wInterface then Rs.bind (list l (run l n .method 0) n (b+1)) λ(xs,c)=> .ok (mk (tk l a) 3 (tk l a1).text xs,c)
  else lift (need l b wStruct) λb=>Rs.bind (list l (run l n .field 0) n b) λ(xs,c)=> .ok (mk (tk l a) 2 (tk l a1).text xs,c)
def recv(l:List Tok)(a:Nat):Except Flt (qu×Nat):=
 if is l a [40]then do
  let b <-name l (a+1)
  let c <-name l b
  let d <-need l c [41]
  .ok (mk (tk l (a+1)) 7 (tk l (a+1)).text [leaf (tk l b) 8 (tk l b).text],d)
 else .ok (none_,a)
def funcDecl(l:List Tok)(n a:Nat):Rs (qu×Nat):=
 lift (need l a wFunc) λa1=>lift (recv l a1) λ(rv,b)=>lift (name l b) λc=>
  Rs.bind (row l (run l n .param 0) n c) λ(ps,d)=>Rs.bind (result l n d) λ(y,e)=>Rs.bind (run l n .block 0 e) λ(body,f)=>
   .ok (mk (tk l a) 6 (tk l b).text (rv::y::body::ps),f)
def declsGo(l:List Tok)(n:Nat):Nat->Nat->Rs (List qu)
 |0,_=>none
 |k+1,a=>if(tk l a).kind==0 then .ok []else
  Rs.bind (if is l a wType then typeDecl l n a else if is l a wFunc then funcDecl l n a else .bad (flt l a 13)) λ(x,b)=>
   lift (need l b [59]) λc=>Rs.bind (declsGo l n k (gaps l c)) λxs=> .ok (x::xs)
def file(l:List Tok)(n:Nat):Rs qu:=Rs.bind (declsGo l n n (gaps l 0)) λxs=> .ok (mk (tk l 0) 1 [] xs)
end Ps
namespace Ps
theorem qaj{l:List Tok}{a:Nat}{s:List UInt8}(h:is l a s=true):a<l.length:=by
 by_cases hl:a<l.length
 ·exact hl
 ·exfalso
  have:tk l a=⟨0,[],0,0,0⟩:=by unfold tk;simp [List.getD,List.getElem?_eq_none (by omega:l.length<=a)]
  unfold is at h;rw [this]at h;simp at h
theorem K1{l:List Tok}{a:Nat}(h:(tk l a).kind≠0):a<l.length:=by
 by_cases hl:a<l.length
 ·exact hl
 ·exfalso;apply h
  unfold tk;simp [List.getD,List.getElem?_eq_none (by omega:l.length<=a)]
theorem need_ok{l:List Tok}{a b:Nat}{s:List UInt8}(h:need l a s= .ok b):is l a s=true/\b=a+1:=by
 unfold need at h;split at h
 ·rename_i h1;cases h;exact⟨h1,rfl⟩
 ·cases h
theorem name_ok{l:List Tok}{a b:Nat}(h:name l a= .ok b):(tk l a).kind=2/\b=a+1:=by
 unfold name at h;split at h
 ·rename_i h1;cases h;exact⟨by simpa using h1,rfl⟩
 ·cases h
theorem qa7(l:List Tok):∀n a,a<=gapsN l n a
 |0,a=>Nat.le_refl _
 |n+1,a=>by
  unfold gapsN;split
  ·exact Nat.le_trans (Nat.le_succ a) (qa7 l n (a+1))
  ·exact Nat.le_refl _
theorem gaps_le(l:List Tok)(a:Nat):a<=gaps l a:=qa7 _ _ _
theorem ends_ok{l:List Tok}{a b:Nat}(h:ends l a= .ok b):a<=b:=by
 unfold ends at h;split at h
 ·cases h;exact gaps_le _ _
 ·split at h
  ·rename_i b' h';cases h;have:=need_ok h';have:=gaps_le l b';omega
  ·cases h
theorem bind_some{α β:Type}{x:Rs α}{k:α->Rs β}{r:Except Flt β}(h:Rs.bind x k=some r):(∃f,x=some (.error f)/\r= .error f)\/∃a,x=some (.ok a)/\k a=some r:=by
 unfold Rs.bind at h;split at h
 ·cases h
 ·cases h;exact .inl ⟨_,rfl,rfl⟩
 ·exact .inr ⟨_,rfl,h⟩
theorem WS{α β:Type}{x:Except Flt α}{k:α->Rs β}{r:Except Flt β}(h:lift x k=some r):(∃f,x= .error f/\r= .error f)\/∃a,x= .ok a/\k a=some r:=by
 unfold lift at h;split at h
 ·exact .inr ⟨_,rfl,h⟩
 ·cases h;exact .inl ⟨_,rfl,rfl⟩
theorem jb{α β:Type}{x:Rs α}{k:α->Rs β}{r:β}(h:Rs.bind x k=some (.ok r)):∃a,x=some (.ok a)/\k a=some (.ok r):=by
 rcases bind_some h with⟨f,_,h⟩|h
 ·cases h
 ·exact h
theorem z9{α β:Type}{x:Except Flt α}{k:α->Rs β}{r:β}(h:lift x k=some (.ok r)):∃a,x= .ok a/\k a=some (.ok r):=by
 rcases WS h with⟨f,_,h⟩|h
 ·cases h
 ·exact h
theorem wT{α:Type}{c:Prop} [Decidable c] {x y r:α} (h:(if c then x else y)=r):(c/\x=r)\/(¬c/\y=r):=by
 by_cases hc:c
 ·rw [if_pos hc]at h;exact .inl ⟨hc,h⟩
 ·rw [if_neg hc]at h;exact .inr ⟨hc,h⟩
theorem qig{α:Type}{f:Flt}{r:α}(h:Rs.bad f=some (.ok r)):False:=by cases h
theorem ite_el{α:Type}{c G:Prop} [Decidable c] {x y r:α} (h:(if c then x else y)=r) (h1:c->x=r->G) (h2:¬c->y=r->G):G:=by
 by_cases hc:c
 ·rw [if_pos hc]at h;exact h1 hc h
 ·rw [if_neg hc]at h;exact h2 hc h
theorem ok_el{α β:Type}{G:Prop}{x r:α}{y s:β}(h:Rs.ok (x,y)=some (.ok (r,s)))(k:x=r->y=s->G):G:=by cases h;exact k rfl rfl
theorem lift_el{α β:Type}{G:Prop}{x:Except Flt α}{k:α->Rs β}{r:β}(h:lift x k=some (.ok r))(g:∀a,x= .ok a->k a=some (.ok r)->G):G:=
 let⟨a,h1,h2⟩:=z9 h;g a h1 h2
theorem bind_el{α β:Type}{G:Prop}{x:Rs (α×Nat)}{k:α×Nat->Rs β}{r:β}(h:Rs.bind x k=some (.ok r))(g:∀a b,x=some (.ok (a,b))->k (a,b)=some (.ok r)->G):G:=
 let⟨(a,b),h1,h2⟩:=jb h;g a b h1 h2
def adv:Rule->Nat
 | .binGo _ _=>0
 | .postGo _=>0
 |_=>1
def AdvOK(one:Nat->Rs (qu×Nat)):Prop:=∀a t b,one a=some (.ok (t,b))->a+1<=b
theorem JG{l:List Tok}{one:Nat->Rs (qu×Nat)}(ho:AdvOK one):∀n a xs b,rowGo l one n a=some (.ok (xs,b))->a+1<=b
 |0,_,_,_,h=>by simp [rowGo]at h
 |n+1,a,xs,b,h=>by
  unfold rowGo at h;obtain⟨⟨x,c⟩,h1,h⟩:=jb h
  have h1:=ho _ _ _ h1
  dsimp only at h
  split at h
  ·obtain⟨⟨ys,d⟩,h2,h⟩:=jb h
   have:=JG ho n _ _ _ h2
   cases h;omega
  ·obtain⟨d,h2,h⟩:=z9 h
   have:=need_ok h2
   cases h;omega
theorem row_adv{l:List Tok}{one:Nat->Rs (qu×Nat)}(ho:AdvOK one){n a:Nat}{xs:List qu}{b:Nat}(h:row l one n a=some (.ok (xs,b))):a+2<=b:=by
 unfold row at h;obtain⟨c,h1,h⟩:=z9 h
 have h1:=need_ok h1
 split at h
 ·cases h;omega
 ·have:=JG ho _ _ _ _ h;omega
theorem VJ{l:List Tok}{one:Nat->Rs (qu×Nat)}(ho:AdvOK one):∀n a xs b,listGo l one n a=some (.ok (xs,b))->a+1<=b
 |0,_,_,_,h=>by simp [listGo]at h
 |n+1,a,xs,b,h=>by
  unfold listGo at h;split at h
  ·cases h;omega
  ·obtain⟨⟨x,c⟩,h1,h⟩:=jb h
   have h1:=ho _ _ _ h1
   obtain⟨d,h2,h⟩:=z9 h
   have h2:=ends_ok h2
   obtain⟨⟨ys,e⟩,h3,h⟩:=jb h
   have:=VJ ho n _ _ _ h3
   cases h;omega
theorem list_adv{l:List Tok}{one:Nat->Rs (qu×Nat)}(ho:AdvOK one){n a:Nat}{xs:List qu}{b:Nat}(h:list l one n a=some (.ok (xs,b))):a+2<=b:=by
 unfold list at h;obtain⟨c,h1,h⟩:=z9 h
 have h1:=need_ok h1
 have:=VJ ho _ _ _ _ h
 have:=gaps_le l c
 omega
theorem run_adv(l:List Tok):∀n rule d a t b,run l n rule d a=some (.ok (t,b))->a+adv rule<=b:=by
 intro n
 induction n with
 |zero=>intro rule d a t b h;simp [run]at h
 |succ n ih=>
  intro rule d a t b h;have go1:∀rule d,adv rule=1->AdvOK (run l n rule d):=λrule d e a t b h=>by have:=ih _ _ _ _ _ h;omega
  have res1:∀{c d:Nat} {x:qu×Nat} {p:Prop} [Decidable p],(if p then run l n .typ d c else Rs.ok (none_,c))=some (.ok x)->c<=x.2:=λh=>by
   rcases wT h with⟨_,h⟩|⟨_,h⟩
   ·have:=ih .typ _ _ _ _ h;simp only [adv]at this;omega
   ·cases h;exact Nat.le_refl _
  cases rule<;>simp only [run]at h<;>simp only [adv]
  all_goals repeat' (with_reducible first
   |(refine ite_el h (λhc h=> ?_) (λhc h=> ?_))
   |exact(qig h).elim
   |(refine ok_el h λh1 h2=> ?_;omega)
   |(refine lift_el h λc h1 h=> ?_;first|(replace h1:=need_ok h1)|(replace h1:=name_ok h1))
   |(refine bind_el h λx c h1 h=> ?_;first|(replace h1:=row_adv (go1 _ _ rfl) h1)|(replace h1:=list_adv (go1 _ _ rfl) h1)|(replace h1:=ih _ _ _ _ _ h1;simp only [adv]at h1)|(replace h1:=res1 h1;dsimp only at h1))
   |(replace h:=ih _ _ _ _ _ h;simp only [adv]at h;omega))
end Ps
namespace Pt
def letter(c:UInt8):Bool:=(97<=c&&c<=122)||(65<=c&&c<=90)||c==95
def digit(c:UInt8):Bool:=48<=c&&c<=57
def words:List (List UInt8):=[Ps.wType,Ps.wStruct,Ps.wInterface,Ps.wFunc,Ps.wVar,Ps.wIf,Ps.wElse,Ps.wFor,Ps.wBreak,Ps.wContinue,Ps.wReturn,Ps.wPrint,Ps.wLen,Ps.wMake,Ps.wNew,Ps.wInput,Ps.wTrue,Ps.wFalse,Ps.wNil,Ps.wInt,Ps.wBool,Ps.wString]
def isWord(s:List UInt8):Bool:=decide (s∈words)
def endWords:List (List UInt8):=[Ps.wTrue,Ps.wFalse,Ps.wNil,Ps.wBreak,Ps.wContinue,Ps.wReturn,Ps.wInt,Ps.wBool,Ps.wString]
def endsTok(t:Tok):Bool:=
 if t.kind=2\/t.kind=4\/t.kind=5 then true
 else if t.kind=3 then decide (t.text∈endWords)
 else if t.kind=6 then t.text=[41]||t.text=[93]||t.text=[125]
 else false
def ends(out:List Tok):Bool:=match out.getLast? with
 |some t=>endsTok t
 |none=>false
def numGo:Nat->List UInt8->Option Nat
 |v,[]=>some v
 |v,c::s=>if digit c then(if(9223372036854775807 - (c.toNat - 48)) / 10<v then none else numGo (10*v+(c.toNat - 48)) s)else some v
def textGo:Nat->List UInt8->List UInt8->Option (List UInt8×Nat)
 |_,_,[]=>none
 |n,out,c::s=>
  if c=34/\out.length<=2000 then some (out,n+1)
  else if c=92 then match s with
   |[]=>none
   |e::s'=>if e=110 then textGo (n+2) (out++[10]) s' else if e=116 then textGo (n+2) (out++[9]) s' else if e=34\/e=92 then textGo (n+2) (out++[e]) s' else none
  else if c<32\/126<c\/c=34 then none
  else textGo (n+1) (out++[c]) s
def pairs:List (List UInt8):=[[58,61],[61,61],[33,61],[60,61],[62,61],[38,38],[124,124]]
def signs:List UInt8:=[43,45,42,47,37,60,62,61,33,40,41,91,93,123,125,44,46]
def sign(c:UInt8)(s:List UInt8):Except Int (Int×List UInt8×Int×Nat):=
 match s with
 |e::_=>if [c,e]∈pairs then .ok (6,[c,e],0,2)else if c=59 then .ok (1,[59],0,1)else if c∈signs then .ok (6,[c],0,1)else .error 10
 |[]=>if c=59 then .ok (1,[59],0,1)else if c∈signs then .ok (6,[c],0,1)else .error 10
def one(c:UInt8)(s:List UInt8):Except Int (Int×List UInt8×Int×Nat):=
 if letter c then
  let w:=c::s.takeWhile λc=>letter c||digit c
  .ok (if isWord w then 3 else 2,w,0,w.length)
 else if digit c then
  match numGo 0 (c::s)with
  |some v=> .ok (4,c::s.takeWhile digit,v,1+(s.takeWhile digit).length)
  |none=> .error 12
 else if c=34 then
  match textGo 1 [] s with
  |some (w,n)=> .ok (5,w,0,n)
  |none=> .error 11
 else sign c s
def put(out:List Tok)(t:Tok):Except Flt (List Tok):=if 4000<=out.length then .error ⟨t.line,t.col,6⟩else .ok (out++[t])
def qpq(line col:Int):Tok:=⟨1,[59],0,line,col⟩
def putEnd(out:List Tok)(line col:Int):Except Flt (List Tok):=if ends out then put out (qpq line col)else .ok out
def scan:Nat->List UInt8->Int->Int->List Tok->Except Flt (List Tok)
 |_,[],line,col,out=>do
  let out <-putEnd out line col
  put out ⟨0,[],0,line,col⟩
 |0,_::_,_,_,_=> .error ⟨0,0,0⟩
 |n+1,c::s,line,col,out=>
  if c=10 then do
   let out <-putEnd out line col
   scan n s (line+1) 1 out
  else if c=32\/c=9\/c=13 then scan n s line (col+1) out
  else if c=47/\s.head?=some 47 then
   let w:=s.takeWhile λc=>c !=10
   scan n (s.drop w.length) line (col+1+w.length) out
  else match one c s with
   | .error e=> .error ⟨line,col,e⟩
   | .ok (kind,text,v,k)=>do
    let out <-put out ⟨kind,text,v,line,col⟩
    scan n (s.drop (k - 1)) line (col+k) out
def toks(s:List UInt8):Except Flt (List Tok):=if 16384<s.length then .error ⟨1,1,6⟩else scan s.length s 1 1 []
end Pt
namespace Ps
theorem ky{α β:Type}{x:Rs (α×Nat)}{k:α×Nat->Rs β}(hx:x≠none)(hk:∀t b,x=some (.ok (t,b))->k (t,b)≠none):Rs.bind x k≠none:=by
 cases x with
 |none=>exact absurd rfl hx
 |some r=>cases r with
  |error f=>exactλh=>by cases h
  |ok p=>exact hk p.1 p.2 rfl
theorem kZ{α β:Type}{x:Except Flt α}{k:α->Rs β}(hk:∀b,x= .ok b->k b≠none):lift x k≠none:=by
 cases x with
 |error f=>exactλh=>by cases h
 |ok p=>exact hk p rfl
theorem wS{α:Type}{c:Prop} [Decidable c] {x y:Rs α} (hx:c->x≠none) (hy:¬c->y≠none):(if c then x else y)≠none:=by
 by_cases hc:c
 ·rw [if_pos hc];exact hx hc
 ·rw [if_neg hc];exact hy hc
theorem Yc{α:Type}{l:List Tok}{a:Nat}{s:List UInt8}{x y:Rs α}(hx:a<l.length->x≠none)(hy:y≠none):(if is l a s=true then x else y)≠none:=wS (λh=>hx (qaj h)) λ_=>hy
theorem qjr{α:Type}{l:List Tok}{a:Nat}{k:Int}{x y:Rs α}(hk:k≠0)(hx:a<l.length->x≠none)(hy:y≠none):(if((tk l a).kind==k)=true then x else y)≠none:=wS (λh=>hx (K1 (by simp at h;rw [h];exact hk))) λ_=>hy
theorem qkf{α:Type}{l:List Tok}{a:Nat}{k:Int}{p:Bool}{x y:Rs α}(hk:k≠0)(hx:a<l.length->x≠none)(hy:y≠none):(if((tk l a).kind==k&&p)=true then x else y)≠none:=
 wS (λh=>hx (K1 (by simp at h;rw [h.1];exact hk))) λ_=>hy
theorem qlw{α:Type}{l:List Tok}{a:Nat}{s u:List UInt8}{x y:Rs α}(hx:a<l.length->x≠none)(hy:y≠none):(if(is l a s||is l a u)=true then x else y)≠none:=
 wS (λh=>hx (by simp at h;exact h.elim qaj qaj)) λ_=>hy
theorem KG{l:List Tok}{a b:Nat}{s:List UInt8}(h:need l a s= .ok b):a<l.length/\b=a+1:=⟨qaj (need_ok h).1,(need_ok h).2⟩
theorem qlm{l:List Tok}{a b:Nat}(h:name l a= .ok b):a<l.length/\b=a+1:=⟨K1 (by rw [(name_ok h).1];decide),(name_ok h).2⟩
theorem qm8{l:List Tok}{a b:Nat}(h:ends l a= .ok b):a<l.length/\a<=b:=by
 refine⟨?_,ends_ok h⟩
 unfold ends at h;split at h
 ·rename_i h1;exact qaj h1
 ·split at h
  ·rename_i b' h';exact(KG h').1
  ·cases h
theorem w6{α:Type}{x:α}:Rs.ok x≠none:=λh=>by cases h
theorem qjd{α:Type}{f:Flt}:(Rs.bad f:Rs α)≠none:=λh=>by cases h
theorem YZ{l:List Tok}{one:Nat->Rs (qu×Nat)}(ho:AdvOK one):∀n a,(∀c,a<=c->one c≠none)->l.length+1 - a<n->rowGo l one n a≠none
 |0,_,_,h=>by omega
 |n+1,a,h1,h=>by
  unfold rowGo;refine ky (h1 a (Nat.le_refl a)) λx b h2=> ?_
  have h2:=ho _ _ _ h2
  refine Yc (λhl=>ky (YZ ho n (b+1) (λc hc=>h1 c (by omega)) (by omega)) λ_ _ _=>w6) (kZ λ_ _=>w6)
theorem qj6{l:List Tok}{one:Nat->Rs (qu×Nat)}{n a:Nat}(ho:AdvOK one)(h:∀c,a<l.length->a+1<=c->one c≠none)(hn:l.length+1 - a<n+1):row l one n a≠none:=by
 unfold row;refine kZ λb h1=> ?_
 have h1:=KG h1
 exact Yc (λ_=>w6) (YZ ho n b (λc hc=>h c h1.1 (by omega)) (by omega))
theorem W8{l:List Tok}{one:Nat->Rs (qu×Nat)}(ho:AdvOK one):∀n a,(∀c,a<=c->one c≠none)->l.length+1 - a<n->listGo l one n a≠none
 |0,_,_,h=>by omega
 |n+1,a,h1,h=>by
  unfold listGo;refine Yc (λ_=>w6) (ky (h1 a (Nat.le_refl a)) λx b h2=>kZ λc h3=> ?_)
  have h2:=ho _ _ _ h2
  have h3:=qm8 h3
  exact ky (W8 ho n c (λc hc=>h1 c (by omega)) (by omega)) λ_ _ _=>w6
theorem Yd{l:List Tok}{one:Nat->Rs (qu×Nat)}{n a:Nat}(ho:AdvOK one)(h:∀c,a<l.length->a+1<=c->one c≠none)(hn:l.length+1 - a<n+1):list l one n a≠none:=by
 unfold list;refine kZ λb h1=> ?_
 have h1:=KG h1
 have:=gaps_le l b
 exact W8 ho n (gaps l b) (λc hc=>h c h1.1 (by omega)) (by omega)
def rk:Rule->Nat
 | .stmt=>8
 | .expr=>6
 | .binary _=>5
 | .unary=>4
 | .post=>3
 | .prime=>2
 | .ifs=>1
 | .block=>1
 |_=>0
theorem VB(l:List Tok):∀n rule d a,30*(l.length+1 - a)+rk rule<n->run l n rule d a≠none:=by
 intro n
 induction n with
 |zero=>intro rule d a h;omega
 |succ n ih=>
  intro rule d a hn;have go1:∀rule d,adv rule=1->AdvOK (run l n rule d):=λrule d e a t b h=>by have:=run_adv l n _ _ _ _ _ h;omega
  have res1:∀{b d:Nat} {p:Prop} [Decidable p],30*(l.length+1 - b)<n->(if p then run l n .typ d b else Rs.ok (none_,b))≠none:=λh=>wS (λ_=>ih _ _ _ (by simp only [rk];omega)) λ_=>w6
  cases rule<;>simp only [run]<;>simp only [rk]at hn
  all_goals repeat' (with_reducible first
   |exact qjd
   |exact w6
   |(refine Yc (λhl=> ?_) ?_)
   |(refine qlw (λhl=> ?_) ?_)
   |(refine qkf (by decide) (λhl=> ?_) ?_)
   |(refine qjr (by decide) (λhl=> ?_) ?_)
   |(refine kZ λc h1=> ?_;first|(replace h1:=KG h1)|(replace h1:=qlm h1))
   |(refine ky (res1 (by omega)) λx c h1=> ?_)
   |(refine ky (qj6 (go1 _ _ rfl) (λc hl hc=>ih _ _ _ (by simp only [rk];omega)) (by omega)) λx c h1=> ?_;replace h1:=row_adv (go1 _ _ rfl) h1)
   |(refine ky (Yd (go1 _ _ rfl) (λc hl hc=>ih _ _ _ (by simp only [rk];omega)) (by omega)) λx c h1=> ?_;replace h1:=list_adv (go1 _ _ rfl) h1)
   |(refine ky (ih _ _ _ (by simp only [rk];omega)) λx c h1=> ?_;replace h1:=run_adv l n _ _ _ _ _ h1;simp only [adv]at h1)
   |(refine wS (λhc=> ?_) (λhc=> ?_))
   |(refine ih _ _ _ ?_;simp only [rk];omega))
end Ps
namespace Pt
def key(t:Tok):Int×List UInt8×Int:=(t.kind,t.text,t.n)
abbrev Key:=Int×List UInt8×Int
end Pt
end Go.Vs
end
section
namespace Go.Vs
variable [GTab] {Z:Nat->Prop}
noncomputable section
abbrev qN:=List (Nat×List qa)
abbrev qU:=List (GH->Prop)
def over:qN->GH->GH
 |[],Γ=>Γ
 |(b,cs)::A,Γ=>gup b (some cs) (over A Γ)
def vZ:qN->GH->Prop
 |[],_=>True
 |(b,_)::A,Γ=>over A Γ b=none/\vZ A Γ
inductive Own:qN->Nat->List qa->Prop
 |hd {A:qN} {b:Nat} {cs:List qa}:Own ((b,cs)::A) b cs
 |tl {A:qN} {b:Nat} {cs:List qa} {x:Nat×List qa} (h:Own A b cs):Own (x::A) b cs
inductive Upd:qN->Nat->List qa->List qa->qN->Prop
 |hd {A:qN} {b:Nat} {cs ds:List qa}:Upd ((b,cs)::A) b cs ds ((b,ds)::A)
 |tl {A A':qN} {b:Nat} {cs ds:List qa} {x:Nat×List qa} (h:Upd A b cs ds A'):Upd (x::A) b cs ds (x::A')
theorem Xj:∀{A:qN} {Γ:GH} {b:Nat},over A Γ b=none->Γ b=none
 |[],_,_,h=>h
 |(c,cs)::A,Γ,b,h=>by
  unfold over at h;by_cases hb:b=c
  ·subst hb;rw [qf]at h;cases h
  ·rw [qg hb]at h;exact Xj h
theorem vZ.at{A:qN}{Γ:GH}{b:Nat}{cs:List qa}(h:Own A b cs)(a:vZ A Γ):over A Γ b=some cs:=by
 induction h with
 |hd=>exact qf _ _ _
 | @tl A b cs x h ih=>
  obtain⟨c,ds⟩:=x
  have e:=ih a.2
  unfold over;rw [qg λx=>by rw [x,a.1]at e;cases e];exact e
theorem vZ.row:∀{A:qN} {Γ:GH} {b:Nat} {cs:List qa},vZ A Γ->Γ b=some cs->over A Γ b=some cs
 |[],_,_,_,_,e=>e
 |(c,ds)::A,Γ,b,cs,a,e=>by
  unfold over;have e':=vZ.row a.2 e
  rw [qg λx=>by rw [x,a.1]at e';cases e'];exact e'
theorem Upd.at{A A':qN}{b:Nat}{cs ds:List qa}(u:Upd A b cs ds A'):Own A b cs:=by
 induction u with
 |hd=>exact .hd
 |tl _ ih=>exact .tl ih
theorem Upd.over{A A':qN}{b:Nat}{cs ds:List qa}{Γ:GH}(u:Upd A b cs ds A')(a:vZ A Γ):over A' Γ=gup b (some ds) (over A Γ)/\vZ A' Γ:=by
 induction u with
 |hd=>exact⟨by unfold Vs.over;rw [km],a⟩
 | @tl A A' b cs ds x h ih=>
  obtain⟨c,es⟩:=x
  obtain⟨i1,i2⟩:=ih a.2
  have hb:=vZ.at h.at a.2
  have hne:b≠c:=λx=>by rw [x,a.1]at hb;cases hb
  constructor
  ·unfold Vs.over;rw [i1]
   funext d
   by_cases h1:d=c
   ·subst h1;rw [qf,qg (Ne.symm hne),qf]
   ·by_cases h2:d=b
    ·subst h2;rw [qg h1,qf,qf]
    ·rw [qg h1,qg h2,qg h2,qg h1]
  ·exact⟨by rw [i1,qg (Ne.symm hne)];exact a.1,i2⟩
def SH(Z:Nat->Prop)(A:qN)(F:qU)(H:qd)(nx:Nat):Prop:=
 ∃Γ,HZ Z (over A Γ) H nx/\vZ A Γ/\∀Γ',(∀b cs,Γ b=some cs->Γ' b=some cs)->∀P,P∈F->P Γ'
def RowF(b:Nat)(cs:List qa):GH->Prop:=λΓ=>Γ b=some cs
def qp3(Γ:GH):GH->Prop:=λΓ'=>∀b cs,Γ b=some cs->Γ' b=some cs
section
variable{A A':qN}{F G:qU}{H:qd}{nx nx':Nat}
theorem SH.of{Γ:GH}(h:HZ Z Γ H nx):SH Z [] [qp3 Γ] H nx:=⟨Γ,h,trivial,λΓ' hs P hP=>by
 have:P=qp3 Γ:=by simpa using hP
 subst this;exact hs⟩
theorem SH.to(h:SH Z A F H nx):∃Γ,HZ Z Γ H nx/\∀P,P∈F->P Γ:=let⟨Γ,h1,h2,h3⟩:=h
 ⟨Γ,h1.sub λb cs e=>h2.row e,λP hP=>h3 Γ (λ_ _ e=>e) P hP⟩
theorem SH.more(h:SH Z A F H nx)(hn:nx<=nx'):SH Z A F H nx':=let⟨Γ,h1,h2⟩:=h;⟨Γ,h1.more hn,h2⟩
theorem SH.sub(h:SH Z A F H nx)(hs:G⊆F):SH Z A G H nx:=let⟨Γ,h1,h2,h3⟩:=h;⟨Γ,h1,h2,λΓ' e P hP=>h3 Γ' e P (hs hP)⟩
theorem SH.add{P:GH->Prop}(h:SH Z A F H nx)(hp:∀Γ,(∀Q,Q∈F->Q Γ)->P Γ):SH Z A (P::F) H nx:=let⟨Γ,h1,h2,h3⟩:=h
 ⟨Γ,h1,h2,λΓ' e Q hQ=>by
  rcases List.mem_cons.1 hQ with rfl|hQ
  ·exact hp _ (h3 Γ' e)
  ·exact h3 Γ' e Q hQ⟩
theorem SH.ex{α:Type}{Q:α->GH->Prop}(hm:∀c Γ Γ',(∀b cs,Γ b=some cs->Γ' b=some cs)->Q c Γ->Q c Γ')(h:SH Z A F H nx)(hP:(λΓ=>∃c,Q c Γ)∈F):∃c,SH Z A (Q c::F) H nx:=by
 obtain⟨Γ,h1,h2,h3⟩:=h
 obtain⟨c,hc⟩:=h3 Γ (λ_ _ e=>e) _ hP
 refine⟨c,Γ,h1,h2,λΓ' e P hP=> ?_⟩
 rcases List.mem_cons.1 hP with rfl|hP
 ·exact hm c Γ Γ' e hc
 ·exact h3 Γ' e P hP
theorem SH.drop{x:Nat×List qa}(h:SH Z (x::A) F H nx):SH Z A F H nx:=by
 obtain⟨Γ,h1,h2,h3⟩:=h
 obtain⟨b,cs⟩:=x
 exact⟨Γ,h1.sub λc ds e=>by unfold over;rw [qg λx=>by have:=h2.1;rw [x,this]at e;cases e];exact e,h2.2,h3⟩
theorem SH.swap{x y:Nat×List qa}(h:SH Z (x::y::A) F H nx):SH Z (y::x::A) F H nx:=by
 obtain⟨Γ,h1,h2,h3⟩:=h
 obtain⟨b,cs⟩:=x
 obtain⟨c,ds⟩:=y
 have hbc:b≠c:=λe=>by have:=h2.1;unfold over at this;rw [e,qf]at this;cases this
 have e:over ((c,ds)::(b,cs)::A) Γ=over ((b,cs)::(c,ds)::A) Γ:=by
  unfold over;unfold over
  funext d
  clear h1 h2 h3;by_cases q1:d=b
  ·subst q1;rw [qg hbc,qf,qf]
  ·by_cases q2:d=c
   ·subst q2;rw [qf,qg q1,qf]
   ·rw [qg q2,qg q1,qg q1,qg q2]
 refine⟨Γ,by rw [e];exact h1,⟨?_,?_,h2.2.2⟩,h3⟩
 ·unfold over;rw [qg (Ne.symm hbc)];exact h2.2.1
 ·have:=h2.1;unfold over at this;rwa [qg hbc]at this
theorem SH.newN{i:Nat}{cs:List qa}(h:SH Z A F H nx)(h1:nx<=i)(h2:i<nx'):SH Z ((i,cs)::A) F (qo i cs H) nx':=let⟨Γ,g1,g2,g3⟩:=h
 ⟨Γ,g1.new h1 h2 cs,⟨g1.non h1,g2⟩,g3⟩
theorem qb5{A B:qN}{Γ:GH}(s:B.Sublist A):vZ A Γ->vZ B Γ/\∀b cs,over B Γ b=some cs->over A Γ b=some cs:=by
 induction s with
 |slnil=>exactλa=>⟨a,λ_ _ e=>e⟩
 | @cons l1 l2 x s ih=>
  obtain⟨c,ds⟩:=x
  intro a;obtain⟨i1,i2⟩:=ih a.2
  refine⟨i1,λb cs e=> ?_⟩
  have e':=i2 b cs e
  unfold over;rw [qg λx=>by rw [x,a.1]at e';cases e'];exact e'
 | @cons_cons l1 l2 x s ih=>
  obtain⟨c,ds⟩:=x
  intro a;obtain⟨i1,i2⟩:=ih a.2
  refine⟨⟨?_,i1⟩,λb cs e=> ?_⟩
  ·cases hb:over l1 Γ c with
   |none=>rfl
   |some es=>have:=i2 _ _ hb;rw [a.1]at this;cases this
  ·unfold over at e ⊢;by_cases hc:b=c
   ·subst hc;rw [qf]at e ⊢;exact e
   ·rw [qg hc]at e ⊢;exact i2 b cs e
theorem SH.sel(s:A'.Sublist A)(h:SH Z A F H nx):SH Z A' F H nx:=let⟨Γ,h1,h2,h3⟩:=h
 ⟨Γ,h1.sub (qb5 s h2).2,(qb5 s h2).1,h3⟩
inductive Ins(G:qN):qN->qN->Prop
 |hd {A:qN}:Ins G A (G++A)
 |tl {A1 A:qN} {x:Nat×List qa} (h:Ins G A1 A):Ins G (x::A1) (x::A)
theorem qb1{b:Nat}{cs:List qa}{A1 A:qN}{Γ:GH}(s:Ins [(b,cs)] A1 A):vZ A Γ->over A Γ=over ((b,cs)::A1) Γ/\vZ ((b,cs)::A1) Γ:=by
 induction s with
 |hd=>exactλa=>⟨rfl,a⟩
 | @tl A1 A x s ih=>
  obtain⟨c,ds⟩:=x
  intro a;obtain⟨i1,i2⟩:=ih a.2
  have hc:over ((b,cs)::A1) Γ c=none:=by rw [<-i1];exact a.1
  have hbc:c≠b:=λe=>by unfold over at hc;rw [e,qf]at hc;cases hc
  have hc1:over A1 Γ c=none:=by unfold over at hc;rwa [qg hbc]at hc
  refine⟨?_,?_,hc1,i2.2⟩
  ·show gup c (some ds) (over A Γ)=gup b (some cs) (gup c (some ds) (over A1 Γ))
   rw [i1];show gup c (some ds) (gup b (some cs) (over A1 Γ))=_
   funext d
   by_cases q1:d=c
   ·subst q1;rw [qf,qg hbc,qf]
   ·by_cases q2:d=b
    ·subst q2;rw [qg q1,qf,qf]
    ·rw [qg q1,qg q2,qg q2,qg q1]
  ·show gup c (some ds) (over A1 Γ) b=none
   rw [qg (Ne.symm hbc)];exact i2.1
theorem SH.ins{b:Nat}{cs:List qa}{A1:qN}(s:Ins [(b,cs)] A1 A)(h:SH Z A F H nx):SH Z ((b,cs)::A1) F H nx:=let⟨Γ,h1,h2,h3⟩:=h
 ⟨Γ,by rw [<-(qb1 s h2).1];exact h1,(qb1 s h2).2,h3⟩
theorem SH.res{i:Nat}(h:SH Z A F H nx)(h1:nx<=i)(h2:i<nx'):SH (λb=>b=i\/Z b) A F H nx'/\¬Z i:=let⟨Γ,g1,g2,g3⟩:=h
 ⟨⟨Γ,g1.res (λb h=>h.elim (λe=> .inr ⟨by omega,by omega⟩) .inl) (by omega),g2,g3⟩,λh=>by have:=g1.1 i h;omega⟩
theorem SH.take{i:Nat}{cs:List qa}(h:SH (λb=>b=i\/Z b) A F H nx)(hi:¬Z i):SH Z ((i,cs)::A) F (qo i cs H) nx:=let⟨Γ,g1,g2,g3⟩:=h
 ⟨Γ,g1.take (.inl rfl) (λb hb=>⟨.inr hb,λe=>hi (by rw [<-e];exact hb)⟩) cs,⟨g1.free (.inl rfl),g2⟩,g3⟩
theorem SH.freeze{i:Nat}{cs:List qa}(h:SH Z ((i,cs)::A) F H nx):SH Z A (RowF i cs::F) H nx:=by
 obtain⟨Γ,g1,g2,g3⟩:=h
 have hi:Γ i=none:=Xj g2.1
 have key:∀A:qN,over A Γ i=none->vZ A Γ->over A (gup i (some cs) Γ)=gup i (some cs) (over A Γ)/\vZ A (gup i (some cs) Γ):=by
  intro A
  induction A with
  |nil=>exactλ_ _=>⟨rfl,trivial⟩
  |cons x A ih=>
   obtain⟨c,ds⟩:=x
   intro e a;have hc:i≠c:=λx=>by unfold over at e;rw [x,qf]at e;cases e
   unfold over at e;rw [qg hc]at e;obtain⟨i1,i2⟩:=ih e a.2
   refine⟨?_,?_,i2⟩
   ·unfold over;rw [i1]
    funext d
    by_cases h1:d=c
    ·subst h1;rw [qf,qg (Ne.symm hc),qf]
    ·by_cases h2:d=i
     ·subst h2;rw [qg h1,qf,qf]
     ·rw [qg h1,qg h2,qg h2,qg h1]
   ·rw [i1,qg (Ne.symm hc)];exact a.1
 obtain⟨k1,k2⟩:=key A g2.1 g2.2
 refine⟨gup i (some cs) Γ,by rw [k1];exact g1,k2,λΓ' e P hP=> ?_⟩
 rcases List.mem_cons.1 hP with rfl|hP
 ·exact e _ _ (qf _ _ _)
 ·exact g3 Γ' (λb ds e'=>e _ _ (by rw [qg λx=>by rw [x,hi]at e';cases e'];exact e')) P hP
theorem SH.ld1{b:Nat}{cs:List qa}(h:SH Z A F H nx)(hb:Own A b cs)(off:Nat):ld1 H (.ptr b off)=cs[off]?:=let⟨Γ,g1,g2,g3⟩:=h;g1.ld1 (g2.at hb) off
theorem SH.ldN{b off sz:Nat}{cs:List qa}(h:SH Z A F H nx)(hb:Own A b cs)(ho:off+sz<=cs.length):ldN H sz (.ptr b off)=some (.agg ((cs.drop off).take sz)):=let⟨Γ,g1,g2,g3⟩:=h;g1.ldN (g2.at hb) ho
theorem SH.fact{P:GH->Prop}(h:SH Z A F H nx)(hp:P∈F):∃Γ,HZ Z Γ H nx/\P Γ:=let⟨Γ,h1,h2⟩:=h.to;⟨Γ,h1,h2 P hp⟩
theorem SH.row1{b:Nat}{cs:List qa}(h:SH Z A F H nx)(hb:RowF b cs∈F)(off:Nat):Vs.ld1 H (.ptr b off)=cs[off]?:=let⟨Γ,g1,g2⟩:=h.fact hb;g1.ld1 g2 off
theorem SH.st{b off:Nat}{cs vs:List qa}(h:SH Z A F H nx)(u:Upd A b cs (ki cs off vs) A')(ho:off+vs.length<=cs.length)(hv:qq vs=true):
  ∃H',stC H (.ptr b off) vs=some H'/\SH Z A' F H' nx:=by
 obtain⟨Γ,g1,g2,g3⟩:=h
 obtain⟨H1,e1,e2⟩:=g1.st (g2.at u.at) ho hv
 obtain⟨u1,u2⟩:=u.over g2
 exact⟨H1,e1,Γ,by rw [u1];exact e2,u2,g3⟩
theorem SH.src{b off n sz e:Nat}{full:Bool}{cs:List qa}(h:SH Z A F H nx)(hb:RowF b cs∈F)(ho:off+n*sz<=cs.length):zJ sz H (.slice b off n e full)=some (n,(cs.drop off).take (n*sz)):=let⟨Γ,g1,g2⟩:=h.fact hb;g1.src g2 ho
theorem SH.appNil{esz ebytes k:Nat}{new:List qa}(h:SH Z A F H nx)(hk:new.length=k*esz)(hk0:0<k)(h1:k*esz<=9223372036854775807)(h2:k*ebytes<=140737488355328):
  ∃H',zt H nx esz ebytes .nilSlice k new=some (.slice nx 0 k esz false,H',nx+1)/\SH Z ((nx,new)::A) F H' (nx+1):=by
 obtain⟨Γ,g1,g2,g3⟩:=h
 obtain⟨H',e1,e2⟩:=g1.appNil (esz:=esz) (ebytes:=ebytes) (k:=k) (new:=new) hk hk0 h1 h2
 exact⟨H',e1,Γ,e2,⟨g1.non lR,g2⟩,g3⟩
theorem SH.app{b len esz ebytes k:Nat}{cs new:List qa}(h:SH Z ((b,cs)::A) F H nx)(hl:cs.length=len*esz)(hk:new.length=k*esz)(hk0:0<k)(h1:(len+k)*esz<=9223372036854775807)(h2:(len+k)*ebytes<=140737488355328):
  ∃H',zt H nx esz ebytes (.slice b 0 len esz false) k new=some (.slice nx 0 (len+k) esz false,H',nx+1)/\SH Z ((nx,cs++new)::A) F H' (nx+1):=by
 obtain⟨Γ,g1,g2,g3⟩:=h
 obtain⟨H',e1,e2⟩:=g1.app (esz:=esz) (ebytes:=ebytes) (k:=k) (new:=new) (len:=len) (cs:=cs) (vZ.at .hd g2) (by omega) hk hk0 h1 h2
 rw [show cs.take (len*esz)=cs by rw [<-hl];exact List.take_length]at e2
 have e3:gup b none (over ((b,cs)::A) Γ)=over A Γ:=by
  show gup b none (gup b (some cs) (over A Γ))=over A Γ
  rw [km]
  funext c;by_cases hc:c=b
  ·subst hc;rw [qf,g2.1]
  ·rw [qg hc]
 rw [e3]at e2;refine⟨H',e1,Γ,e2,⟨?_,g2.2⟩,g3⟩
 rw [<-e3];by_cases hb:nx=b
 ·rw [hb,qf]
 ·rw [qg hb];exact g1.non lR
theorem SH.appFull{b off len esz ebytes k:Nat}{cs new:List qa}(h:SH Z A F H nx)(e:RowF b cs∈F)(hl:off+len*esz<=cs.length)(hk:new.length=k*esz)(hk0:0<k)(h1:(len+k)*esz<=9223372036854775807)(h2:(len+k)*ebytes<=140737488355328):
  ∃H',zt H nx esz ebytes (.slice b off len esz true) k new=some (.slice nx 0 (len+k) esz false,H',nx+1)/\SH Z ((nx,(cs.drop off).take (len*esz)++new)::A) F H' (nx+1):=by
 obtain⟨Γ,g1,g2,g3⟩:=h
 obtain⟨H',e1,e2⟩:=g1.appFull (esz:=esz) (ebytes:=ebytes) (k:=k) (new:=new) (g2.row (g3 Γ (λ_ _ e=>e) _ e)) hl hk hk0 h1 h2
 exact⟨H',e1,Γ,e2,⟨g1.non lR,g2⟩,g3⟩
section
variable{k:qd->Prop}
theorem qdf{cs vs:List qa}(h:vs.length=cs.length):ki cs 0 vs=vs:=by unfold ki;simp [h]
theorem qdk{cs:List qa}{v:qa}{j:Nat}(h:j<cs.length):ki cs j [v]=cs.set j v:=by unfold ki;rw [List.set_eq_take_append_cons_drop,if_pos h];simp
theorem SH.all{b:Nat}{cs vs:List qa}(h:SH Z A F H nx)(u:Upd A b cs vs A')(hl:vs.length=cs.length)(hv:qq vs=true)(hK:∀H',SH Z A' F H' nx->k H'):∃H1,stC H (.ptr b 0) vs=some H1/\k H1:=by
 obtain⟨H1,e1,e2⟩:=h.st (off:=0) (vs:=vs) (by rw [qdf hl];exact u) (by omega) hv
 exact⟨H1,e1,hK _ e2⟩
theorem SH.one{b j:Nat}{cs:List qa}{v:qa}(h:SH Z A F H nx)(u:Upd A b cs (cs.set j v) A')(hl:j<cs.length)(hv:qI v=true)(hK:∀H',SH Z A' F H' nx->k H'):∃H1,stC H (.ptr b j) [v]=some H1/\k H1:=by
 obtain⟨H1,e1,e2⟩:=h.st (off:=j) (vs:=[v]) (by rw [qdk hl];exact u) (by simp;omega) (by simp [qq,hv])
 exact⟨H1,e1,hK _ e2⟩
end
end
def OB(Z:Nat->Prop)(r:Nat)(I:List qa->Prop)(E:qU)(A:qN)(F:qU)(H:qd)(nx:Nat):Prop:=∃cs,I cs/\SH Z ((r,cs)::A) (F++E) H nx
section
variable{r:Nat}{I:List qa->Prop}{E:qU}{A A':qN}{F G:qU}{H:qd}{nx nx':Nat}{k:qd->Prop}
theorem OB.more(h:OB Z r I E A F H nx)(hn:nx<=nx'):OB Z r I E A F H nx':=let⟨cs,i,h⟩:=h;⟨cs,i,h.more hn⟩
theorem qlr{α:Type}{F G E:List α}(hs:G⊆F):G++E⊆F++E:=λx hx=>by
 rcases List.mem_append.1 hx with h|h
 ·exact List.mem_append.2 (.inl (hs h))
 ·exact List.mem_append.2 (.inr h)
theorem OB.fin(h:OB Z r I E A F H nx)(t:A'.Sublist A)(hs:G⊆F):OB Z r I E A' G H nx:=by
 obtain⟨cs,i,h⟩:=h
 exact⟨cs,i,(h.sel (.cons_cons _ t)).sub (qlr hs)⟩
theorem OB.res{i:Nat}(h:OB Z r I E A F H nx)(h1:nx<=i)(h2:i<nx'):OB (λb=>b=i\/Z b) r I E A F H nx'/\¬Z i:=let⟨cs,j,h⟩:=h;⟨⟨cs,j,(h.res h1 h2).1⟩,(h.res h1 h2).2⟩
theorem OB.takeF{i:Nat}{cs:List qa}(h:OB (λb=>b=i\/Z b) r I E A F H nx)(hi:¬Z i)(hK:∀H',OB Z r I E A (RowF i cs::F) H' nx->k H'):∃H0,H0=qo i cs H/\k H0:=by
 obtain⟨ds,g1,g2⟩:=h
 exact⟨_,rfl,hK _ ⟨ds,g1,(g2.take hi).freeze⟩⟩
theorem OB.new{i:Nat}{cs:List qa}(h:OB Z r I E A F H nx)(h1:nx<=i)(hK:∀H',OB Z r I E ((i,cs)::A) F H' (i+1)->k H'):∃H0,H0=qo i cs H/\k H0:=by
 obtain⟨ds,g1,g2⟩:=h
 exact⟨_,rfl,hK _ ⟨ds,g1,(g2.newN h1 (Nat.lt_succ_self i)).swap⟩⟩
theorem OB.newN{i:Nat}{cs:List qa}(h:OB Z r I E A F H nx)(h1:nx<=i)(hK:∀H',OB Z r I E ((i,cs)::A) F H' (i+1)->k H'):∃H0,H0=newBN i cs.length cs H/\k H0:=OB.new h h1 hK
theorem OB.newF{i:Nat}{cs:List qa}(h:OB Z r I E A F H nx)(h1:nx<=i)(hK:∀H',OB Z r I E A (RowF i cs::F) H' (i+1)->k H'):∃H0,H0=qo i cs H/\k H0:=by
 obtain⟨ds,g1,g2⟩:=h
 exact⟨_,rfl,hK _ ⟨ds,g1,(g2.newN h1 (Nat.lt_succ_self i)).freeze⟩⟩
theorem OB.all{b:Nat}{cs vs:List qa}(h:OB Z r I E A F H nx)(u:Upd A b cs vs A')(hl:vs.length=cs.length)(hv:qq vs=true)(hK:∀H',OB Z r I E A' F H' nx->k H'):∃H1,stC H (.ptr b 0) vs=some H1/\k H1:=by
 obtain⟨ds,g1,g2⟩:=h
 exact g2.all (.tl u) hl hv λH' h'=>hK H' ⟨ds,g1,h'⟩
theorem OB.one{b j:Nat}{cs:List qa}{v:qa}(h:OB Z r I E A F H nx)(u:Upd A b cs (cs.set j v) A')(hl:j<cs.length)(hv:qI v=true)(hK:∀H',OB Z r I E A' F H' nx->k H'):∃H1,stC H (.ptr b j) [v]=some H1/\k H1:=by
 obtain⟨ds,g1,g2⟩:=h
 exact g2.one (.tl u) hl hv λH' h'=>hK H' ⟨ds,g1,h'⟩
theorem OB.ld1{b:Nat}{cs:List qa}(h:OB Z r I E A F H nx)(hb:Own A b cs)(off:Nat):Vs.ld1 H (.ptr b off)=cs[off]?:=let⟨ds,g1,g2⟩:=h;g2.ld1 (.tl hb) off
theorem OB.ldN{b off sz:Nat}{cs:List qa}(h:OB Z r I E A F H nx)(hb:Own A b cs)(ho:off+sz<=cs.length):Vs.ldN H sz (.ptr b off)=some (.agg ((cs.drop off).take sz)):=let⟨ds,g1,g2⟩:=h;g2.ldN (.tl hb) ho
theorem OB.ldAll{b sz:Nat}{cs:List qa}(h:OB Z r I E A F H nx)(hb:Own A b cs)(ho:sz=cs.length):Vs.ldN H sz (.ptr b 0)=some (.agg cs):=by
 rw [h.ldN hb (by omega)];simp [ho]
theorem OB.add{P:GH->Prop}(h:OB Z r I E A F H nx)(hp:∀Γ,(∀Q,Q∈F++E->Q Γ)->P Γ):OB Z r I E A (P::F) H nx:=let⟨ds,g1,g2⟩:=h;⟨ds,g1,g2.add hp⟩
end
end
end Go.Vs
end
section
namespace Go.Vs
namespace Ps
def dn(n:Int):Int->Int:=λx=>i64.wrap (x+n)
end Ps
namespace Ps
section
variable{l:List Tok}{k:Int->Int}{n a:Nat}
theorem yy{α β:Type}{x:Except Flt α}{f:α->Except Flt β}{r:β}(h:(x>>=f)= .ok r):∃a,x= .ok a/\f a= .ok r:=by
 cases x with
 |error e=>cases h
 |ok a=>exact⟨a,rfl,h⟩
end
end Ps
namespace Pl
open Pt (Key key)
def dig(i:Nat):List UInt8:=if i<10 then [UInt8.ofNat (48+i)]else [UInt8.ofNat (48+i / 10),UInt8.ofNat (48+i % 10)]
def prm:Nat->List UInt8
 |0=>[]
 |i+1=>prm i++((if 0<i then [44,32]else [])++(112::(dig i++[32,105,110,116])))
def qt(m:Nat):List UInt8:=[102,117,110,99,32,102,40]++(prm m++[41,32,123,10])
def qp6(i:Nat)(b:Bool):List UInt8:=[112,114,105,110,116,40]++(dig i++([41,10]++if b then [59,59,10,59]else []))
def body(sem:Nat->Bool):Nat->List UInt8
 |0=>[]
 |i+1=>body sem i++qp6 i (sem i)
def qpl:List UInt8:=[125,10,59,59,10]
def text(m n:Nat)(sem:Nat->Bool):List UInt8:=qt m++(body sem n++qpl)
end Pl
end Go.Vs
end
section
namespace Go.Vs
variable [GTab]
structure Wk(a:qa)(us:List qa):Prop where
 len:kI a=some us.length
 at_:∀i (h:i<us.length),∃p,zq a i 1=some p/\∀H,ld1 H p=some us[i]
def qm2(a:qa)(l:List Int):Prop:=kI a=some l.length/\∀i,i<l.length->∃p,zq a i 1=some p/\∀H,ld1 H p=some (.int .i64 (l.getD i 0))
theorem Wk.ints{a:qa}{l:List Int}(h:Wk a (l.map (.int .i64))):qm2 a l:=by
 refine⟨by rw [h.len,List.length_map],λi hi=> ?_⟩
 obtain⟨p,h1,h2⟩:=h.at_ i (by simpa using hi)
 exact⟨p,h1,λH=>by rw [h2];simp [List.getD,hi]⟩
end Go.Vs
end
section
namespace Go.Vs
open Go Go.ChangeShapes Go.WideShapes
def ZP(W w':World):Prop:=w'.os=W.os/\w'.output=W.output/\W.heap.size<=w'.heap.size/\∀i,i<W.heap.size->w'.heap[i]?=W.heap[i]?
theorem ZP.keptBut{W w':World}(h:ZP W w')(may:MemPlace->Prop):W.keptBut w' may:=by
 refine⟨h.1,h.2.1,λi hi=> ?_⟩
 rw [h.2.2.2 i hi];cases e:W.heap[i]? with
 |none=>rfl
 |some o=>cases o<;>simp
theorem ZP.frozen{W w':World}(h:ZP W w')(a:Addr)(ha:a.block<W.heap.size):w'.frozen? a=W.frozen? a:=by
 simp only [World.frozen?,h.2.2.2 a.block ha]
theorem ZP.cell{W w':World}(h:ZP W w')(a:Addr)(ha:a.block<W.heap.size):w'.cell? a=W.cell? a:=by
 simp only [World.cell?,h.2.2.2 a.block ha]
theorem ZP.sameAt{W w':World}(h:ZP W w'){p:MemPlace}(hp:p.block<W.heap.size):W.sameAt w' p:=by
 cases p with
 |cell b off=>exact h.cell ⟨b,off,none⟩ hp
 |map b=>exact h.2.2.2 b hp
section
variable{H:Type}{enc:TypeId×Value->H}{P:Program}
theorem XV{f:Func}{s:ChangeSpec}{apart fresh handsOn Kg:Bool}{W W':World}{args:Array Value}{v:Value}{ds gs:List (DataW H)}{before pa pv:List MemPlace}
  (hW:DataW.Whole enc P f.params.toList s.vars apart W args.toList ds gs before)
  (hres:∀(b:Nat) (sp:Nat->Bool) (hd:Bool),DataW.TrodAll enc P W' b sp hd f.resultTypes.toList (v.resultList f.resultTypes.size) (s.fn H (ds++gs)).results [])
  (hargs:∀sp:Nat->Bool,(∀p∈before,sp p.block=true)->DataW.TrodAll enc P W' 0 sp true f.params.toList args.toList (s.fn H (ds++gs)).args pa)
  (hvars:∀sp:Nat->Bool,(∀p∈before,sp p.block=true)->DataW.TrodVars enc P W' sp s.vars (s.fn H (ds++gs)).vars pv)
  (hps:before=pa++pv) (hk:ZP W W')
  (hok:∀(j:Nat) (t:TypeId) (r:Value),f.resultTypes[j]?=some t->(v.resultList f.resultTypes.size)[j]?=some r->Value.okWide P W' .any 0 t r):
  s.post enc P f apart fresh handsOn Kg W args v W':=by
 have hlt:∀p∈before,p.block<W.heap.size:=λp hp=>hW.lt p hp
 have hold:∀p∈before,(λb=>decide (b<W.heap.size)) p.block=true:=λp hp=>by simpa using hlt p hp
 refine⟨ds,gs,before,[],pa,pv,hW,hres _ _ _,hargs _ hold,hvars _ hold,hk.keptBut _,λ_=> ?_⟩
 obtain⟨_,_,_,_,_,hz,hn⟩:=hW
 refine⟨hok,_,_,([]++pa)++pv,⟨[]++pa,pv,trodAll_append (hargs _ (λ_ _=>rfl)) (hres _ _ _),hvars _ (λ_ _=>rfl),rfl,?_,?_⟩,?_⟩
 ·intro b off hp;have hb:MemPlace.cell b off∈before:=by rw [hps];simpa using hp
  rw [hk.frozen _ (hlt _ hb)];exact hz b off hb
 ·intro ha;have:=hn ha
  rw [hps]at this
  simpa using this
 ·intro p hp _;rw [hps]
  simpa using hp
def yU(P:Program):Bool:=(List.range P.types.size).all λt=>match P.underlying t with
 |some (.slice e)=>Nat.blt 0 (P.cellsOf e)&&Nat.blt e P.types.size
 |some (.pointer e)=>Nat.blt e P.types.size
 |some (.array _ e)=>Nat.blt e P.types.size
 |some (.map _ e)=>Nat.blt e P.types.size
 |some (.struct fs)=>fs.toList.all λf=>Nat.blt f.type P.types.size
 |_=>true
theorem vL{a b:Nat}(h:Nat.blt a b=true):a<b:=Nat.le_of_ble_eq_true h
theorem qd9(h:yU P=true){t:TypeId}(ht:t<P.types.size):(match P.underlying t with
 |some (.slice e)=>Nat.blt 0 (P.cellsOf e)&&Nat.blt e P.types.size
 |some (.pointer e)=>Nat.blt e P.types.size
 |some (.array _ e)=>Nat.blt e P.types.size
 |some (.map _ e)=>Nat.blt e P.types.size
 |some (.struct fs)=>fs.toList.all λf=>Nat.blt f.type P.types.size
 |_=>true)=true:=List.all_eq_true.1 h t (List.mem_range.2 ht)
theorem Vm{w:World}{base:Nat}{sp:Nat->Bool}(hz:yU P=true){r r':TypeId->List Value->Option (DataW H×List MemPlace)}
  (hr:∀t cs x,t<P.types.size->r t cs=some x->(∀p∈x.2,sp p.block=true)->r' t cs=some x) {t:TypeId} {cs:List Value} {x:DataW H×List MemPlace} (hT:t<P.types.size)
  (h:DataW.trodStep enc P w base (λ_=>true) true r t cs=some x) (hs:∀p∈x.2,sp p.block=true):DataW.trodStep enc P w base sp true r' t cs=some x:=by
 have hcl:=qd9 hz hT
 unfold DataW.trodStep at h ⊢;split at h
 case h_1=>exact h
 case h_2=>exact h
 case h_3=>exact h
 case h_4=>exact h
 case h_5=>exact h
 case h_6 e a hu=>
  rw [hu]at hcl;simp only [Option.map_eq_some_iff,Option.bind_eq_some_iff]at h ⊢
  obtain⟨y,⟨cs',hc,hy⟩,rfl⟩:=h
  exact⟨y,⟨cs',hc,hr _ _ _ (vL hcl) hy (λp hp=>hs p (by simp [hp]))⟩,rfl⟩
 case h_7=>exact h
 case h_8 e a len cap hu=>
  rw [hu]at hcl
  dsimp only at hcl
  rw [Bool.and_eq_true]at hcl;simp only at h ⊢
  split at h
  ·rename_i hc;rw [if_pos hc];simp only [if_true,Option.map_eq_some_iff,Option.bind_eq_some_iff]at h ⊢
   obtain⟨elems,he,rest,hrest,rfl⟩:=h
   have hlen:elems.length=len:=by simpa using mapM_some_length he
   have hrl:rest.length=cap - len:=by simpa using mapM_some_length hrest
   have one:∀(i:Nat) (y:DataW H×List MemPlace),y∈elems++rest->
     (w.cells? base (a.add (i*P.cellsOf e)) (P.cellsOf e)).bind (r e)=some y->(w.cells? base (a.add (i*P.cellsOf e)) (P.cellsOf e)).bind (r' e)=some y:=by
    intro i y hy hv;simp only [Option.bind_eq_some_iff]at hv ⊢
    obtain⟨cs',hc',hy'⟩:=hv
    refine⟨cs',hc',hr _ _ _ (vL hcl.2) hy' (λp hp=>hs p ?_)⟩
    simp only [List.mem_append,List.mem_flatMap]
    right
    exact⟨y,by simpa using hy,hp⟩
   refine⟨elems,mapM_carry he (λi y _ hy=>one i y (by simp [hy])),rest,?_,rfl⟩
   by_cases hcap:cap=0
   ·have hr0:rest=[]:=List.length_eq_zero_iff.1 (by omega)
    have hcl:cap - len=0:=by omega
    subst hr0;split
    ·rw [hcl];rfl
    ·rfl
   ·have hpos:=vL hcl.1
    have hin:MemPlace.cell a.block (a.off+0)∈MemPlace.row a ((elems.length+rest.length)*P.cellsOf e):=MemPlace.mem_row.2 ⟨0,Nat.mul_pos (by omega) hpos,rfl⟩
    have hsp:sp a.block=true:=hs (.cell a.block (a.off+0)) (by simp only [List.mem_append];exact .inl hin)
    rw [if_pos hsp];exact mapM_carry hrest (λj y _ hy=>one (len+j) y (by simp [hy]))
  ·cases h
 case h_9 fs cs hu=>
  rw [hu]at hcl;split at h
  ·rename_i hc;rw [if_pos hc];simp only [Option.map_eq_some_iff]at h ⊢
   obtain⟨xs,hx,rfl⟩:=h
   exact⟨xs,mapM_carry hx (λf y hf hy hv=>hr _ _ _ (vL (List.all_eq_true.1 hcl f hf)) hv (λp hp=>hs p (List.mem_flatMap.2 ⟨y,hy,hp⟩))),rfl⟩
  ·cases h
 case h_10 n e cs hu=>
  rw [hu]at hcl;split at h
  ·rename_i hc;rw [if_pos hc];simp only [Option.map_eq_some_iff]at h ⊢
   obtain⟨xs,hx,rfl⟩:=h
   exact⟨xs,mapM_carry hx (λf y _ hy hv=>hr _ _ _ (vL hcl) hv (λp hp=>hs p (List.mem_flatMap.2 ⟨y,hy,hp⟩))),rfl⟩
  ·cases h
 case h_11=>exact h
 case h_12=>exact h
 case h_13=>exact h
 case h_14 k e b hu=>
  rw [hu]at hcl;split at h
  ·rename_i es clock hb;split at h
   ·rename_i hc;simp only [Option.bind_eq_some_iff]at h
    obtain⟨entries,he,hd⟩:=h
    split at hd
    ·rename_i hris;have hx:=Option.some.inj hd
     subst hx;simp only [if_pos hc,Option.bind_eq_some_iff]
     refine⟨entries,mapM_carry he (λx y _ hy hv=> ?_),by simp [hris]⟩
     simp only [Option.bind_eq_some_iff]at hv ⊢
     obtain⟨key,hk,hz⟩:=hv
     refine⟨key,hk,?_⟩
     split at hz
     ·rename_i hf;rw [if_pos hf];simp only [Option.map_eq_some_iff]at hz ⊢
      obtain⟨q,hq,rfl⟩:=hz
      exact⟨q,hr _ _ _ (vL hcl) hq (λp hp=>hs p (by simp only [List.mem_cons,List.mem_flatMap];right;exact⟨_,hy,hp⟩)),rfl⟩
     ·cases hz
    ·cases hd
   ·cases h
  ·cases h
 case h_15=>exact h
 case h_16=>exact h
 case h_17=>exact h
 case h_18=>exact h
 case h_19=>exact h
 case h_20=>exact h
 case h_21=>cases h
theorem qd6{w:World}{base:Nat}{sp:Nat->Bool}(hz:yU P=true):∀(n:Nat) (t:TypeId) (cs:List Value) (x:DataW H×List MemPlace),t<P.types.size->
  DataW.trod enc P w base (λ_=>true) true n t cs=some x->(∀p∈x.2,sp p.block=true)->DataW.trod enc P w base sp true n t cs=some x:=by
 intro n
 induction n with
 |zero=>intro t cs x _ h;simp [DataW.trod]at h
 |succ n ih=>
  intro t cs x hT h hs;rw [DataW.trod_step]at h ⊢;exact Vm hz ih hT h hs
theorem qfr{W W':World}{base:Nat}{sp:Nat->Bool}(hz:yU P=true)(hk:ZP W W'){t:TypeId}(hT:t<P.types.size){v:Value}{d:DataW H}{ps:List MemPlace}
  (h:DataW.Trod enc P W base (λ_=>true) true t v d ps) (hlt:∀p∈ps,p.block<W.heap.size) (hsp:∀p∈ps,sp p.block=true):DataW.Trod enc P W' base sp true t v d ps:=by
 obtain⟨n,hn⟩:=h
 exact⟨n,DataW.trod_carry n _ _ _ (qd6 hz n _ _ _ hT hn hsp) λp hp=>hk.sameAt (hlt p hp)⟩
theorem Jl{W W':World}{base:Nat}{sp:Nat->Bool}(hz:yU P=true)(hk:ZP W W'):∀{ts:List TypeId} {vs:List Value} {ds:List (DataW H)} {ps:List MemPlace},(ts.all λt=>Nat.blt t P.types.size)=true->
  DataW.TrodAll enc P W base (λ_=>true) true ts vs ds ps->(∀p∈ps,p.block<W.heap.size)->(∀p∈ps,sp p.block=true)->DataW.TrodAll enc P W' base sp true ts vs ds ps
 |[],[],[],_,_,h,_,_=>h
 |t::ts,_::_,_::_,_,hT,⟨p,q,h,hs,e⟩,hlt,hsp=>by
  subst e;rw [List.all_cons,Bool.and_eq_true]at hT;exact⟨p,q,qfr hz hk (vL hT.1) h (λx hx=>hlt x (List.mem_append_left _ hx)) (λx hx=>hsp x (List.mem_append_left _ hx)),Jl hz hk hT.2 hs (λx hx=>hlt x (List.mem_append_right _ hx)) (λx hx=>hsp x (List.mem_append_right _ hx)),rfl⟩
theorem qf1{f:Func}{s:ChangeSpec}{apart fresh handsOn Kg:Bool}{W W':World}{args:Array Value}{v:Value}{ds:List (DataW H)}{before:List MemPlace}(hz:yU P=true)(hT:(f.params.toList.all λt=>Nat.blt t P.types.size)=true)
  (hv:s.vars=[]) (hW:DataW.Whole enc P f.params.toList s.vars apart W args.toList ds [] before)
  (hres:∀(b:Nat) (sp:Nat->Bool) (hd:Bool),DataW.TrodAll enc P W' b sp hd f.resultTypes.toList (v.resultList f.resultTypes.size) (s.fn H (ds++[])).results [])
  (hargs:(s.fn H (ds++[])).args=ds) (hvars:(s.fn H (ds++[])).vars=[]) (hk:ZP W W')
  (hok:∀(j:Nat) (t:TypeId) (r:Value),f.resultTypes[j]?=some t->(v.resultList f.resultTypes.size)[j]?=some r->Value.okWide P W' .any 0 t r):
  s.post enc P f apart fresh handsOn Kg W args v W':=by
 have hlt:∀p∈before,p.block<W.heap.size:=λp hp=>hW.lt p hp
 have hW':=hW
 obtain⟨p,q,hA,hV,rfl,_,_⟩:=hW
 have hq:q=[]:=by
  rw [hv]at hV;exact hV
 subst hq;refine XV (pa:=p) (pv:=[]) hW' hres (λsp hsp=> ?_) (λsp hsp=> ?_) (by simp) hk hok
 ·rw [hargs];exact Jl hz hk hT hA (λx hx=>hlt x (by simp [hx])) λx hx=>hsp x (by simp [hx])
 ·rw [hv,hvars];rfl
end
def Xt:Value->qa
 | .int k n=> .int k n
 | .bool b=> .bool b
 | .string s=> .str s.data.toList
 |_=> .und
def qal(W:World)(g:Nat):Option (List qa):=match W.heap[g]? with
 |some (.cells c _ _)=>some (c.toList.map Xt)
 |_=>none
@[reducible] noncomputable def yC(W:World):GTab:={tab:=qal W}
theorem qhg(σ:Sg)(v:Value):Den σ (Xt v) v:=by
 cases v<;>first|exact .int _ _|exact .bool _|exact .und _|skip
 rename_i s;exact .str _
theorem qg6(W:World): @Ky (yC W) (λ_=>none) W:=by
 refine @Ky.mk (yC W) _ _ (λg l hg=> ?_) λb o' hb=>by cases hb
 have hg:qal W g=some l:=hg
 unfold qal at hg;split at hg
 ·rename_i c t fr hb;cases hg
  have hlt:g<W.heap.size:=by
   rcases Nat.lt_or_ge g W.heap.size with h|h
   ·exact h
   ·rw [Array.getElem?_eq_none h]at hb;cases hb
  refine⟨hlt,(λ_ _ e=>by cases e),λi v hv=> ?_⟩
  rw [List.getElem?_map,Array.getElem?_toList]at hv;cases hi:c[i]? with
  |none=>rw [hi]at hv;cases hv
  |some u=>
   rw [hi]at hv;cases hv
   exact⟨u,by simp [World.cell?,hb,hi],λτ=>qhg τ u⟩
 ·cases hg
theorem qdz{us:List qa}(h:∀x,x∈us->∃n,x= .int .i64 n):∃l:List Int,us=l.map (.int .i64):=by
 induction us with
 |nil=>exact⟨[],rfl⟩
 |cons x us ih=>
  obtain⟨b,rfl⟩:=h _ (List.mem_cons_self ..)
  obtain⟨l,rfl⟩:=ih λx hx=>h x (List.mem_cons_of_mem _ hx)
  exact⟨b::l,rfl⟩
theorem WB{H:Type}{enc:TypeId×Value->H}{P:Program}{W:World}{sp:Nat->Bool}{e:TypeId}{x:qa}{n:Nat}{u:Value}{y:DataW H×List MemPlace}(he:P.underlying e=some (.int .i64))(hx:x=Xt u)(h:DataW.trod enc P W 0 sp true n e [u]=some y):∃m,x= .int .i64 m:=by
 obtain⟨m,hb,_⟩:=DataW.trod_int he h
 cases hb;exact⟨m,hx⟩
theorem W5{H:Type}{enc:TypeId×Value->H}{P:Program}{W:World}{sp:Nat->Bool}{t e:TypeId}{v:Value}{d:DataW H}{ps:List MemPlace}(ht:P.underlying t=some (.slice e))(hc:P.cellsOf e=1)
  (hform:∃a len cap,v= .slice a len cap) (h:DataW.Trod enc P W 0 sp true t v d ps):
  ∃(a:qa) (us:List qa),(∀σ,Den σ a v)/\ @Wk (yC W) a us/\(qI a=true/\us.length<=9223372036854775807)/\∀x,x∈us->∃(n:Nat) (u:Value) (y:DataW H×List MemPlace),x=Xt u/\DataW.trod enc P W 0 sp true n e [u]=some y:=by
 obtain⟨a0,len0,cap0,rfl⟩:=hform
 obtain⟨fuel,hf⟩:=h
 rcases DataW.trod_slice ht hf with⟨hcs,_⟩|⟨a,len,cap,elems,rest,n,rfl,hcs,hx,_,hle,hmax,hlen,hel,_,_⟩
 ·simp [Value.cells]at hcs
  obtain⟨rfl,rfl,rfl⟩:=hcs
  exact⟨.nilSlice,[],λσ=>Den.nilSlice,@Wk.mk (yC W) _ _ rfl λi h=>by simp at h,⟨rfl,by simp⟩,λx hx=>by cases hx⟩
 ·simp [Value.cells]at hcs
  obtain⟨rfl,rfl,rfl⟩:=hcs
  have hcell:∀i,i<len0->∃u y,W.cell? (a.add i)=some u/\DataW.trod enc P W 0 sp true n e [u]=some y:=by
   intro i hi;have:=hel i hi
   rw [hc,Nat.mul_one,List.getElem?_eq_getElem (show i<elems.length by omega),Option.bind_eq_some_iff]at this
   obtain⟨cs,h1,h2⟩:=this
   have hl1:=(World.cells?_some h1).2.1
   obtain⟨u,rfl⟩:∃u,cs=[u]:=by
    match cs,hl1 with
    |[u],_=>exact⟨u,rfl⟩
    |[],h=>simp at h
    |_::_::_,h=>simp at h
   exact⟨u,_,cell_of_cells?_one h1,h2⟩
  by_cases hz:len0=0
  ·subst hz;exact⟨.gslice a.block a.off 0 1,[],λσ=>Den.gslice0,@Wk.mk (yC W) _ _ rfl λi h=>by simp at h,⟨rfl,by simp⟩,λx hx=>by cases hx⟩
  ·obtain⟨b,off,spot⟩:=a
   have hspot:spot=none:=by
    obtain⟨u,y,h1,_⟩:=hcell 0 (by omega)
    simpa [Addr.add]using World.cell?_spot h1
   subst hspot;have hat:∀i,i<len0->∃u y,W.cell? ⟨b,off+i,none⟩=some u/\DataW.trod enc P W 0 sp true n e [u]=some y:=λi hi=>by
    have:=hcell i hi
    rwa [Go.WideShapes.add_plain]at this
   obtain⟨c,tt,fr,hb⟩:∃c tt fr,W.heap[b]?=some (.cells c tt fr):=by
    obtain⟨u,y,h1,_⟩:=hat 0 (by omega)
    unfold World.cell? at h1
    dsimp only at h1
    cases hq:W.heap[b]? with
    |none=>rw [hq]at h1;cases h1
    |some o=>
     rw [hq]at h1;cases o with
     |cells c t fr=>exact⟨c,t,fr,rfl⟩
     |_=>cases h1
   have hci:∀i,i<len0->∃u y,c[off+i]?=some u/\DataW.trod enc P W 0 sp true n e [u]=some y:=λi hi=>by
    obtain⟨u,y,h1,h2⟩:=hat i hi
    refine⟨u,y,?_,h2⟩
    simpa [World.cell?,hb]using h1
   refine⟨.gslice b off len0 1,((c.toList.drop off).take len0).map Xt,λσ=>Den.gslice hle,@Wk.mk (yC W) _ _ ?_ λi h=> ?_,⟨rfl,?_⟩,λx hx=> ?_⟩
   ·have:((c.toList.drop off).take len0).length=len0:=by
     obtain⟨u,y,h1,_⟩:=hci (len0 - 1) (by omega)
     have:=(Array.getElem?_eq_some_iff.1 h1).1
     simp;omega
    show some len0=_
    rw [List.length_map,this]
   ·simp only [List.length_map,List.length_take]at h
    have hi:i<len0:=by omega
    refine⟨.gptr b (off+i*1),?_,λH=> ?_⟩
    ·have:Nat.ble (Nat.succ i) len0=true:=Nat.ble_eq_true_of_le hi
     simp only [zq,this];rfl
    ·show(match qal W b with|some l=>l[off+i*1]?|none=>none)=_
     have:qal W b=some (c.toList.map Xt):=by unfold qal;rw [hb]
     rw [this];show(c.toList.map Xt)[off+i*1]?=_
     obtain⟨u,y,h1,_⟩:=hci i hi
     have hlt:=(Array.getElem?_eq_some_iff.1 h1).1
     rw [Nat.mul_one,List.getElem?_map,Array.getElem?_toList,h1];simp only [List.getElem_map,List.getElem_take,List.getElem_drop]
     have h3:=(Array.getElem?_eq_some_iff.1 h1).2
     simp [h3]
   ·have:len0<=9223372036854775807:=Nat.le_trans hle (Nat.le_trans hmax (by decide))
    simp only [List.length_map,List.length_take];omega
   ·obtain⟨u,hu,rfl⟩:=List.mem_map.1 hx
    obtain⟨i,hi⟩:=List.getElem?_of_mem hu
    rw [List.getElem?_take]at hi;split at hi
    ·rename_i hil;rw [List.getElem?_drop,Array.getElem?_toList]at hi;obtain⟨u',y,h1,h2⟩:=hci i hil
     rw [h1]at hi;cases hi
     exact⟨n,_,y,rfl,h2⟩
    ·cases hi
section
variable [GTab]
theorem qhs{w:World}(hg:Ky (λ_=>none) w):Rel (λ_=>none) (qpf none) 0 w:=by
 refine⟨Nat.le_refl _,?_,?_,?_,?_,?_,hg⟩
 ·intro b cb sz e;cases e
 ·intro b o cb sz _ e;cases e
 ·intro b b' o o' cb sz sz' _ _ e;cases e
 ·intro b b' o o' p _ _ e;cases e
 ·intro b o p _ e;cases e
theorem qn3{P:Program}{f:FuncId}{argsV:List qa}{args':List Value}{w:World}(h:qk P f argsV (qpf none) 0 (λe _ _=>e= .ret (.bool true)))
  (hg:Ky (λ_=>none) w) (hd:zm (λ_=>none) argsV args'):Calls P f ⟨args'⟩ w λe w'=>e= .returned (.bool true)/\ZP w w':=by
 refine h (λ_=>none) w args' _ (qhs hg) hd ?_
 intro e H' nx' σ' w' en k R1 E1 X1;subst k;cases en<;>try exact X1.elim
 rename_i v;have hv:Den σ' (.bool true) v:=X1
 cases hv
 exact⟨rfl,E1.os,E1.output,E1.size,λi hi=>E1.frame i hi λ_ _ e=>by cases e⟩
end
def qdh{H:Type}(ss:List (List UInt8)):DataW H:= .agg (ss.map λs=> .lit (.string s))
theorem V9{H:Type}{enc:TypeId×Value->H}{P:Program}{w:World}{base:Nat}{sp:Nat->Bool}{held:Bool}{fuel:Nat}{t e:TypeId}{n:Nat}{cs:List Value}{ss:List (List UInt8)}{p:List MemPlace}
  (ht:P.underlying t=some (.array n e)) (he:P.underlying e=some .string) (hce:P.cellsOf e=1) (hct:P.cellsOf t=n)
  (h:DataW.trod enc P w base sp held fuel t cs=some (qdh ss,p)):cs.map Xt=ss.map .str:=by
 cases fuel with
 |zero=>simp [DataW.trod]at h
 |succ fuel=>
  simp only [DataW.trod,ht,hce,hct,Nat.mul_one]at h
  split at h
  ·rename_i hl;obtain⟨xs,hm,hx⟩:=Option.map_eq_some_iff.1 h
   have hxs:xs.map (·.1)=ss.map λz=>(DataW.lit (.string z):DataW H):=by
    have:=congrArg Prod.fst hx
    simpa [qdh]using this
   have hxl:xs.length=n:=by simpa using Lib.mapM_length hm
   have hzl:ss.length=n:=by
    have:=congrArg List.length hxs
    simp at this
    omega
   apply List.ext_getElem?
   intro i;by_cases hi:i<n
   ·obtain⟨b,hb,hf⟩:=Lib.mapM_at hm i i (by simp [hi])
    obtain⟨z,hc,rfl,_⟩:=DataW.trod_string he hf
    have h1:cs[i]?=some (.string z):=by
     have:=congrArg (·[0]?) hc
     simpa [List.getElem?_take,List.getElem?_drop]using this
    have h2:(xs.map (·.1))[i]?=some (DataW.lit (.string z.data.toList):DataW H):=by simp [hb]
    rw [hxs]at h2;simp only [List.getElem?_map,Option.map_eq_some_iff,DataW.lit.injEq,Lit.string.injEq]at h2
    obtain⟨z',hz',hzz⟩:=h2
    simp [h1,hz',Xt,hzz]
   ·rw [List.getElem?_eq_none (by simp;omega),List.getElem?_eq_none (by simp;omega)]
  ·cases h
theorem qfg{P:Program}{w:World}{nm:String}{ss:List (List UInt8)}{rest:List (String×DataW Unit)}{g:Nat}{t e:TypeId}{n:Nat}(h:laidMet P ((nm,qdh ss)::rest) w)
  (hn:P.globalNamed nm=some g) (hg:(P.globals[g]?).map (·.type)=some t) (ht:P.underlying t=some (.array n e)) (he:P.underlying e=some .string) (hce:P.cellsOf e=1) (hct:P.cellsOf t=n):qal w g=some (ss.map .str):=by
 obtain⟨ps,⟨g',t',cs,f,p,q,hg',ht',hv,hd,_,_⟩,_⟩:=h
 obtain rfl:=Option.some.inj (hn.symm.trans hg')
 obtain rfl:=Option.some.inj (hg.symm.trans ht')
 have hc:=V9 ht he hce hct hd
 unfold World.var? at hv;rw [hn]at hv;simp only [Option.bind_some]at hv
 split at hv<;>try (cases hv;done)
 rename_i c t fz hcell;cases hv
 unfold qal;rw [hcell];exact congrArg some hc
end Go.Vs
end
