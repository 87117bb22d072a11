/-
  Own work. Texts of a proof,laid together; no condition.
-/
import Derived.LoopN
import Derived.Maps.RangeRun
import Derived.Test.YtbbjihgkggahpaaGreatCee1
set_option linter.unusedSectionVars false
set_option linter.unusedVariables false
set_option linter.unusedSimpArgs false
set_option maxRecDepth 1000000
open Go.Vs.qa renaming ptr → u0, str → u5, agg → u6, bool → u7, nilSlice → u9, tuple → U0, und → U1
open Go.Vs.qg renaming pan → U2, ret → U3
open Go.IntKind (i64)
section
namespace Go.Vs
variable [GTab] {P:Program} {H:qc} {nx:Nat} {w:World} {ops:Array Oper} {nt:Nat} {env:Env}
def qvl(P:Program)(f:FuncId)(args:List qa)(H:qc)(nx:Nat)(K:qvb):Prop:=
 ∀(σ:Sg) (w:World) (args':List Value) (R:Ending->World->Prop),Rel σ H nx w->zj σ args args'->
  (∀e H' nx' σ' w' en,K e H' nx'=true->Rel σ' H' nx' w'->Ext σ σ' H H' nx nx' w w'->qb8 σ' e en->R en w')->Calls P f ⟨args'⟩ w R
def qbr(P:Program)(call:Za):Prop:=∀f args H nx K,call f args H nx K=true->qvl P f args H nx K
theorem qlu{call:Za}{o:Oper}{dfs:Dfs}{rc:Option qw}{k:Env->qc->Nat->Bool}{K:qj5}{env0:Env}
  (hc:qbr P call) (h:qa0 P call ops o env H nx dfs rc k K env0=true) {envm:Env} {σ:Sg} {w:World} {a:Act} {next:Act->World->Prop} {Q:Exit->Act->World->Prop}
  (hr:Rel σ H nx w) (M:kQ σ nt envm a.tmps) (e1:jd ops o.guard envm=jd ops o.guard env) (e2:∀x∈o.op.operands,aev envm x=aev env x)
  (hn:∀v H1 nx1 σ1 w1 v',k (put o.dst v env) H1 nx1=true->Rel σ1 H1 nx1 w1->Ext σ σ1 H H1 nx nx1 w w1->Den σ1 v v'->next (a.put o.dst v') w1)
  (hp:∀l H1 nx1 σ1 w1 c,K (.pan l) env0 H1 nx1 dfs rc=true->Rel σ1 H1 nx1 w1->Ext σ σ1 H H1 nx nx1 w w1->kA σ1 l c->Q (.panic c) a w1):qt2 P ops o a w next Q:=by
 unfold qa0 at h;split at h<;>try (cases h;done)
 ·rename_i hw;unfold qt2;rw [if_pos (vk (e1.trans hw) M)];split at h<;>try (cases h;done)
  ·rename_i v H1 nx1 hop;obtain⟨σ',w',v',R,E,D,hrun⟩:=K9 ((wY e2).trans hop) σ w a.eval hr M.aev
   refine .inl ?_
   unfold Oper.wp;rcases hrun with hrun|⟨hrun,rfl⟩
   ·rw [hrun];exact hn v H1 nx1 σ' w' _ h R E D
   ·rw [hrun];exact hn v H1 nx1 σ' w' _ h R E D
  ·rename_i f args hop;have tri:=hc f args H nx _ h
   obtain⟨args',hl,hrun⟩:=K9 ((wY e2).trans hop) σ w a.eval hr M.aev
   refine .inl ?_
   unfold Oper.wp;rw [hrun];show Calls P f ⟨args'⟩ w _
   refine tri σ w args' _ hr hl λe H' nx' σ' w' en hk R E he=> ?_
   cases e with
   |ret v=>
    cases en with
    |returned v'=>exact hn v H' nx' σ' w' _ hk R E he
    |panicked c=>exact he.elim
    |outgrown=>exact he.elim
   |pan l=>
    cases en with
    |returned v'=>exact he.elim
    |panicked c=>exact hp l H' nx' σ' w' c hk R E he
    |outgrown=>exact he.elim
  ·rename_i v hop;obtain⟨v',dv,hrun⟩:=K9 ((wY e2).trans hop) σ w a.eval hr M.aev
   refine .inl ?_
   unfold Oper.wp;rw [hrun];exact hp [(v,false)] H nx σ w [{v:=v',recovered:=false}] h hr (Ext.refl _ _ _ _) (.cons dv rfl rfl .nil)
 ·rename_i hw;unfold qt2;rw [if_neg (by rw [vk (e1.trans hw) M];simp)]
  exact hn (.tuple []) H nx σ w undef h hr (Ext.refl _ _ _ _) (.tuple .nil)
theorem vQ:∀(a b:List wH),named (a++b)=named a++named b
 |[],b=>rfl
 |(e,L,A)::a,b=>by
  rw [List.cons_append];simp only [named,List.cons_append,List.append_assoc,vQ a b]
theorem Inv.act{call:Za}{as:List Nat}{res:Nat}{σ0:Sg}{H0:qc}{w0:World}{dfs:Dfs}{rc:Option qw}{past past':List Nat}{e:Nat}{L A:List Nat}{R:List wH}{oe:Oper}{listed:Array Bool}{σ:Sg}{a:Act}{k:Env->qc->Nat->Bool}{K:qj5}
  (hc:qbr P call) (F:jU nt ops as) (hn:nt<=4096) (hlim:res+ops.size<=res+ops.size) (I:Inv P nt ops as res σ0 H0 w0 dfs past ((e,L,A)::R) env H nx listed σ w a) (hoe:ops[e]?=some oe) (he:e ∉ named R) (hr:∀j,bit (as.getD e 0) j=true->isL listed j)
  (hfresh:JS ops past e oe=true) (hL:yt (λi=>bit (as.getD i 0) e) L=true) (hF:JC ops L past=some past') (hA:qlm ops (as.getD e 0) A past'=true) (h':qa0 P call ops oe env H nx dfs rc k K env=true) {RN:Env->qc->Nat->Prop}
  (hnext:∀env1 H1 nx1,k env1 H1 nx1=true->∃kf:Env->qc->Bool,yG P ops res nx1 kf L env1 H1=true/\∀env2 H2,kf env2 H2=true->wF P ops env2 H2 nx1 A=true/\RN env2 H2 nx1)
  {Q:Exit->Act->World->Prop} {next:Act->World->Prop}
  (hK:∀env2 H2 nx2 σ1 w1 a1,RN env2 H2 nx2->Inv P nt ops as res σ0 H0 w0 dfs past' R env2 H2 nx2 (listed.setIfInBounds e true) σ1 w1 a1->(∀t,t<4096->(∀(j:Nat) (q:Oper),ops[j]?=some q->q.dst≠some t)->get2 t env2=get2 t env)->next a1 w1)
  (hP:∀l H1 nx1 σ1 w1 c,K (.pan l) env H1 nx1 dfs rc=true->Rel σ1 H1 nx1 w1->Ext σ0 σ1 H0 H1 res nx1 w0 w1->(∀t,t<4096->(∀(j:Nat) (q:Oper),ops[j]?=some q->q.dst≠some t)->Den σ1 (get2 t env) (a.tmps.getD t undef))->w5 σ1 dfs a.defers->a.tmps.size=nt->kA σ1 l c->Q (.panic c) a w1):
  wpOp P ops Q e next a w:=by
 have hde:=F.dst e oe hoe
 have helt:e<ops.size:=(Array.getElem?_eq_some_iff.1 hoe).1
 have pastiff:=kj hF
 have eun:¬isL listed e:=I.todo e (by unfold named;exact List.mem_cons_self ..)
 have Lun:∀j,j∈L->¬isL listed j:=λj hj=>I.todo j (by unfold named;exact List.mem_cons_of_mem _ (List.mem_append_left _ hj))
 have Lne:∀j,j∈L->j≠e:=λj hj q=>by
  subst q;have:=F.lt j oe hoe j (jg hL j hj)
  omega
 have Llt:∀j,j∈L->j<ops.size:=λj hj=>by
  obtain⟨o,ho,_⟩:=Zf hF j hj
  exact(Array.getElem?_eq_some_iff.1 ho).1
 have S:∀j,isL (listed.setIfInBounds e true) j↔(j=e\/isL listed j):=λj=>wK (by rw [I.size];exact helt)
 obtain⟨envm,M,hw,hx⟩:=I.view F hn hoe hr
 unfold wpOp;rw [hoe];refine qlu hc h' I.rel M hw hx (λv H1 nx1 σ1 w1 v' hk R' E D=> ?_) (λl H1 nx1 σ1 w1 c hk R' E C=> ?_)
 ·obtain⟨kf,hk1,hk4⟩:=hnext _ H1 nx1 hk
  obtain⟨env2,H2,hk2,b1,b2,b3,b4,b5⟩:=QK F hn hlim L past past' _ H1 hF hk1
  obtain⟨hag,hk3⟩:=hk4 env2 H2 hk2
  have hnx:=E.le
  have hpl:=I.lim
  have pend1:∀j,j<ops.size->¬isL listed j->σ1 (res+j)=none/\zf (res+j) H1=zf (res+j) H:=λj hj hnl=>E.pend (res+j) (by omega) (I.pend j hj hnl)
  refine hK env2 H2 nx1 σ1 w1 _ hk3 ⟨?_,?_,?_,?_,?_,?_,?_,?_,?_,?_,?_,?_,?_⟩ λt ht hno=>by rw [b1 t ht λj q _ hq=>hno j q hq,jX hde hn ht (hno e oe hoe)]
  ·rw [Array.size_setIfInBounds];exact I.size
  ·cases hdst:oe.dst with
   |none=>exact I.tsize
   |some d=>show(a.tmps.setIfInBounds d v').size=nt;rw [Array.size_setIfInBounds];exact I.tsize
  ·intro j k hj hb;rw [S]at hj ⊢;rcases hj with rfl|hj
   ·exact .inr (hr k hb)
   ·exact .inr (I.closed j k hj hb)
  ·intro j hj hlj;rw [S]at hlj;have hj':j∈named ((e,L,A)::R):=by unfold named;exact List.mem_cons_of_mem _ (List.mem_append_right _ hj)
   rcases hlj with rfl|hlj
   ·exact he hj
   ·exact I.todo j hj' hlj
  ·intro j hj;rw [S];rcases I.all j hj with h|h|h
   ·exact .inl ((pastiff j).2 (.inl h))
   ·unfold named at h;rcases List.mem_cons.1 h with rfl|h
    ·exact .inr (.inr (.inl rfl))
    ·rcases List.mem_append.1 h with h|h
     ·exact .inl ((pastiff j).2 (.inr h))
     ·exact .inr (.inl h)
   ·exact .inr (.inr (.inr h))
  ·intro t ht hown;have hnotL:∀(j:Nat) (q:Oper),j∈L->ops[j]?=some q->q.dst≠some t:=by
    intro j q hj hq hd;have:=hown j q hq hd
    rw [S]at this;rcases this with h|h
    ·exact Lne j hj h
    ·exact Lun j hj h
   rw [b1 t ht hnotL];by_cases ed:oe.dst=some t
   ·rw [ed];show Den σ1 (get2 t (put (some t) v env)) ((a.tmps.setIfInBounds t v').getD t undef)
    have:t<a.tmps.size:=by rw [I.tsize];rw [ed]at hde;exact Nat.le_of_ble_eq_true hde
    rw [Zw _ _ _ _ this,if_pos rfl,kD];exact D
   ·rw [jX hde hn ht ed];have h1:(a.put oe.dst v').tmps.getD t undef=a.tmps.getD t undef:=by
     cases hdst:oe.dst with
     |none=>rfl
     |some d=>
      show(a.tmps.setIfInBounds d v').getD t undef=_
      have:d<a.tmps.size:=by rw [I.tsize];rw [hdst]at hde;exact Nat.le_of_ble_eq_true hde
      rw [Zw _ _ _ _ this,if_neg (λq=>ed (by rw [hdst,q]))]
    rw [h1];refine(I.den t ht λj q hj hq=> ?_).mono E.sub
    have:=hown j q hj hq
    rw [S]at this;rcases this with rfl|h
    ·rw [hoe]at hj;cases hj;exact(ed hq).elim
    ·exact h
  ·intro j q hj hq hlj hcl;have hnl:¬isL listed j:=λh=>hlj ((S j).2 (.inr h))
   have hjne:j≠e:=λh=>hlj ((S j).2 (.inl h))
   cases hip:QL q.op with
   |true=>
    have h1:=jg hA j hj
    rw [hq]at h1;simp only [hip]at h1
    have hmem:j∈A:=by
     split at h1
     ·exact Z3 ‹_›
     ·exact(hlj ((S j).2 (.inr (hr j h1)))).elim
    have h3:=jg hag j hmem
    rw [hq]at h3;exact JA hcl h3
   |false=>
    rcases(pastiff j).1 hj with hj|hj
    ·obtain⟨_,q0,hq0,hfr⟩:=Jp hfresh j hj
     rw [hq]at hq0;cases hq0
     refine(I.fl0 j q hj hq hnl hcl).keep hcl hip ?_ ?_
     ·intro t ht hlt;rw [b1 t hlt λj' q' hj' hq' ed=> ?_]
      ·exact jX hde hn hlt λed=>hfr t ed ht
      ·obtain⟨_,q1,o1,e1,e2,e3⟩:=vC hF j hj j' hj'
       rw [hq]at e1;cases e1
       rw [hq']at e2;cases e2
       exact e3 t ed ht
     ·intro d hd;have hdl:d<4096:=Nat.lt_of_lt_of_le (by have:=F.dst j q hq;rw [hd]at this;exact Nat.le_of_ble_eq_true this) hn
      rw [b1 d hdl λj' q' hj' hq' ed=>(vC hF j hj j' hj').1 (F.uniq j j' q q' d hq hq' hd ed)]
      exact jX hde hn hdl λed=>hjne (F.uniq j e q oe d hq hoe hd ed)
    ·exact b5 j q hj hq hcl hip
  ·intro j q hj hq hlj hcl;have hnl:¬isL listed j:=λh=>hlj ((S j).2 (.inr h))
   have hjne:j≠e:=λh=>hlj ((S j).2 (.inl h))
   have hjlt:j<ops.size:=(Array.getElem?_eq_some_iff.1 hq).1
   rcases(pastiff j).1 hj with hj|hj
   ·obtain⟨_,q0,hq0,hfr⟩:=Jp hfresh j hj
    rw [hq]at hq0;cases hq0
    refine(I.fl1 j q hj hq hnl hcl).keep ?_ ?_ ?_
    ·intro t ht hlt;rw [b1 t hlt λj' q' hj' hq' ed=> ?_]
     ·exact jX hde hn hlt λed=>hfr t ed ht
     ·obtain⟨_,q1,o1,e1,e2,e3⟩:=vC hF j hj j' hj'
      rw [hq]at e1;cases e1
      rw [hq']at e2;cases e2
      exact e3 t ed ht
    ·intro d hd;have hdl:d<4096:=Nat.lt_of_lt_of_le (by have:=F.dst j q hq;rw [hd]at this;exact Nat.le_of_ble_eq_true this) hn
     rw [b1 d hdl λj' q' hj' hq' ed=>(vC hF j hj j' hj').1 (F.uniq j j' q q' d hq hq' hd ed)]
     exact jX hde hn hdl λed=>hjne (F.uniq j e q oe d hq hoe hd ed)
    ·rw [b2 _ (by omega) λj' hj' ed=>(vC hF j hj j' hj').1 (by omega)]
     exact(pend1 j hjlt hnl).2
   ·exact b4 j q hj hq hcl
  ·intro j hj hlj;exact(pend1 j hj λh=>hlj ((S j).2 (.inr h))).1
  ·omega
  ·exact b3 σ1 w1 R' λj hj=>(pend1 j (Llt j hj) (Lun j hj)).1
  ·have E2:=I.ext.trans E
   refine⟨E2.sub,E2.rng,?_,E2.le,E2.os,E2.tape,E2.output,E2.size,E2.frame,E2.drawn⟩
   intro b hb h0;obtain⟨p1,p2⟩:=E2.pend b hb h0
   exact⟨p1,(b2 b (by omega) λj _=>by omega).trans p2⟩
  ·have:(a.put oe.dst v').defers=a.defers:=by cases oe.dst<;>rfl
   rw [this];exact I.dfs.mono E.sub
 ·exact hP l H1 nx1 σ1 w1 c hk R' (I.ext.trans E) (λt ht hno=>(I.den t ht λj q hj hq=>(hno j q hj hq).elim).mono E.sub) (I.dfs.mono E.sub) I.tsize C
def qox(P:Program)(call:Za)(ops:Array Oper)(res:Nat)(dfs:Dfs)(rc:Option qw)(Kp:List (qa×Bool)->qc->Nat->Prop)(Kn:Env->qc->Nat->Prop):List wH->Env->qc->Nat->Prop
 |[],env,H,nx=>Kn env H nx
 |(e,L,A)::rest,env,H,nx=>∀oe,ops[e]?=some oe->∃(k:Env->qc->Nat->Bool) (K:qj5),qa0 P call ops oe env H nx dfs rc k K env=true/\
   (∀l H1 nx1,K (.pan l) env H1 nx1 dfs rc=true->Kp l H1 nx1)/\
   ∀env1 H1 nx1,k env1 H1 nx1=true->∃kf:Env->qc->Bool,yG P ops res nx1 kf L env1 H1=true/\
    ∀env2 H2,kf env2 H2=true->wF P ops env2 H2 nx1 A=true/\qox P call ops res dfs rc Kp Kn rest env2 H2 nx1
noncomputable def wo(ops:Array Oper):List wH->List Nat->List Nat
 |[],past=>past
 |(_,L,_)::rest,past=>wo ops rest (match JC ops L past with|some p=>p|none=>past)
theorem Qt{call:Za}{as:List Nat}{res:Nat}{dfs:Dfs}{rc:Option qw}{env0:Env}{Kp:List (qa×Bool)->qc->Nat->Prop}{Kn:Env->qc->Nat->Prop}(tail:List wH)
  (hc:qbr P call) (F:jU nt ops as) (hn:nt<=4096) (hlim:res+ops.size<=res+ops.size):
  ∀(rest:List wH) (prev:Option Nat) (past:List Nat) (env:Env) (H:qc) (nx:Nat),JN ops as rest prev past=true->(∀s,s∈rest->∀i,i∈named tail->bit (as.getD i 0) s.1=true)->
   (∀i,i∈past->∃o,ops[i]?=some o/\(cls o.op=0\/cls o.op=1))->
   (∀t,t<4096->get2 t env0= .und\/((∀(j:Nat) (q:Oper),ops[j]?=some q->q.dst≠some t)/\get2 t env0=get2 t env))->qox P call ops res dfs rc Kp Kn rest env H nx->
   ∀σ0 H0 w0 Q,(∀l H' nx' σ' w' a' c,Kp l H' nx'->Rel σ' H' nx' w'->Ext σ0 σ' H0 H' res nx' w0 w'->kT σ' nt env0 dfs a'->kA σ' l c->Q (.panic c) a' w')->
    (∀env' H' nx',Kn env' H' nx'->(∀i,i∈wo ops rest past->∃o,ops[i]?=some o/\(cls o.op=0\/cls o.op=1))->
     ∀fuel listed σ w a,Inv P nt ops as res σ0 H0 w0 dfs (wo ops rest past) tail env' H' nx' listed σ w a->left ops listed<=fuel->wpAny P .any ops Q fuel listed a w)->
    ∀fuel listed σ w a,Inv P nt ops as res σ0 H0 w0 dfs past (rest++tail) env H nx listed σ w a->left ops listed<=fuel->wpAny P .any ops Q fuel listed a w
 |[],prev,past,env,H,nx,_,_,hpast,_,h=>λσ0 H0 w0 Q hQ hT=>hT env H nx h hpast
 |(e,L,A)::rest,prev,past,env,H,nx,hchk,htl,hpast,hblank,h=>by
  intro σ0 H0 w0 Q hQ hT;unfold JN at hchk;split at hchk<;>try (cases hchk;done)
  rename_i oe hoe hprev;split at hchk<;>try (cases hchk;done)
  rename_i hfresh hL;split at hchk<;>try (cases hchk;done)
  rename_i past' hF;split at hchk<;>try (cases hchk;done)
  rename_i hA;obtain⟨k,K,h',hpan,hnext⟩:=h oe hoe
  have hT:∀env' H' nx',Kn env' H' nx'->(∀i,i∈wo ops rest past'->∃o,ops[i]?=some o/\(cls o.op=0\/cls o.op=1))->
     ∀fuel listed σ w a,Inv P nt ops as res σ0 H0 w0 dfs (wo ops rest past') tail env' H' nx' listed σ w a->left ops listed<=fuel->wpAny P .any ops Q fuel listed a w:=by
   have e0:wo ops ((e,L,A)::rest) past=wo ops rest past':=by
    show wo ops rest (match JC ops L past with|some p=>p|none=>past)=_
    rw [hF]
   rw [e0]at hT;exact hT
  have hde:=F.dst e oe hoe
  have helt:e<ops.size:=(Array.getElem?_eq_some_iff.1 hoe).1
  have pastiff:=kj hF
  have who:∀{σ0 H0 w0 listed σ w a},Inv P nt ops as res σ0 H0 w0 dfs past ((e,L,A)::rest++tail) env H nx listed σ w a->∀i o,ops[i]?=some o->(∀j,bit (as.getD i 0) j=true->isL listed j)->i∈named ((e,L,A)::rest++tail)->i=e:=by
   intro σ0 H0 w0 listed σ w a I i o ho hr hi;have ebad:¬isL listed e:=I.todo e (by rw [List.cons_append];unfold named;exact List.mem_cons_self ..)
   rw [List.cons_append]at hi;unfold named at hi;rcases List.mem_cons.1 hi with rfl|hi
   ·rfl
   ·rcases List.mem_append.1 hi with hi|hi
    ·exact(ebad (hr e (jg hL i hi))).elim
    ·rw [vQ]at hi;rcases List.mem_append.1 hi with hi|hi
     ·obtain⟨j,hj,hb⟩:=KR hchk i hi
      rcases hj with rfl|hj
      ·exact(ebad (hr j hb)).elim
      ·exact(I.todo j (by rw [List.cons_append];unfold named;rw [vQ];exact List.mem_cons_of_mem _ (List.mem_append_right _ (List.mem_append_left _ hj))) (hr j hb)).elim
     ·exact(ebad (hr e (htl (e,L,A) (List.mem_cons_self ..) i hi))).elim
  have loop:∀{Q:Exit->Act->World->Prop},(∀fuel listed σ w a,Inv P nt ops as res σ0 H0 w0 dfs past ((e,L,A)::rest++tail) env H nx listed σ w a->left ops listed<=fuel+1->(∀j,bit (as.getD e 0) j=true->isL listed j)->
    wpOp P ops Q e (wpAny P .any ops Q fuel (listed.setIfInBounds e true)) a w)->
    ∀fuel listed σ w a,Inv P nt ops as res σ0 H0 w0 dfs past ((e,L,A)::rest++tail) env H nx listed σ w a->left ops listed<=fuel->wpAny P .any ops Q fuel listed a w:=by
   intro Q hact fuel;have eun:∀{listed σ w a},Inv P nt ops as res σ0 H0 w0 dfs past ((e,L,A)::rest++tail) env H nx listed σ w a->¬isL listed e:=λI=>I.todo e (by rw [List.cons_append];unfold named;exact List.mem_cons_self ..)
   induction fuel with
   |zero=>
    intro listed σ w a I hl;exact(eun I (KM (by omega:left ops listed=0) e helt)).elim
   |succ fuel ih=>
    intro listed σ w a I hl;refine⟨λhnil=>(eun I (Qa F I.size hnil e helt)).elim,λi hi=> ?_⟩
    obtain⟨o,ho,hnl,hed⟩:=(jI I.size).1 hi
    have hlt:i<ops.size:=(Array.getElem?_eq_some_iff.1 ho).1
    have hr:∀j,bit (as.getD i 0) j=true->isL listed j:=λj hj=>by
     obtain⟨g,hg,hb,hc'⟩:=F.ahead i o ho j hj
     rcases hc' with rfl|hc'
     ·exact hed g hg hb
     ·exact I.closed _ j (hed g hg hb) hc'
    by_cases hin:i∈named ((e,L,A)::rest++tail)
    ·have:=who I i o ho hr hin
     subst this;exact hact fuel listed σ w a I hl hr
    ·have hp:i∈past:=by
      rcases I.all i hlt with h|h|h
      ·exact h
      ·exact(hin h).elim
      ·exact(hnl h).elim
     obtain⟨o',ho',hcl⟩:=hpast i hp
     rw [ho]at ho';cases ho'
     refine I.float F hn ho hp hnl hcl hr hin λσ1 w1 a1 I1=>ih _ σ1 w1 a1 I1 ?_
     have:=Ki I.size hlt hnl
     omega
  refine loop λfuel listed σ w a I hl hr=> ?_
  have eun:¬isL listed e:=I.todo e (by rw [List.cons_append];unfold named;exact List.mem_cons_self ..)
  have he:e ∉ named (rest++tail):=by
   intro hj;rw [vQ]at hj;rcases List.mem_append.1 hj with hj|hj
   ·obtain⟨g,hg,hb⟩:=KR hchk e hj
    rcases hg with rfl|hg
    ·exact eun (hr g hb)
    ·exact I.todo g (by rw [List.cons_append];unfold named;rw [vQ];exact List.mem_cons_of_mem _ (List.mem_append_right _ (List.mem_append_left _ hg))) (hr g hb)
   ·have:=F.lt e oe hoe e (htl (e,L,A) (List.mem_cons_self ..) e hj)
    omega
  refine Inv.act hc F hn hlim I hoe he hr hfresh hL hF hA h' hnext (λenv2 H2 nx2 σ1 w1 a1 hk3 I1 hfix=> ?_) (λl H1 nx1 σ1 w1 c hk R E hden hdf hsz C=> ?_)
  ·have hnl:=Ki I.size helt eun
   have hpast':∀i,i∈past'->∃o,ops[i]?=some o/\(cls o.op=0\/cls o.op=1):=by
    intro i hi;rcases(pastiff i).1 hi with hi|hi
    ·exact hpast i hi
    ·obtain⟨o,ho,hne⟩:=Zf hF i hi
     refine⟨o,ho,?_⟩
     have:cls o.op=0\/cls o.op=1\/cls o.op=2:=by
      unfold cls;split<;>first|exact .inl rfl|exact .inr (.inl rfl)|exact .inr (.inr rfl)|skip
      split<;>first|exact .inl rfl|exact .inr (.inr rfl)
     rcases this with h|h|h
     ·exact .inl h
     ·exact .inr h
     ·exact(hne h).elim
   have hblank':∀t,t<4096->get2 t env0= .und\/((∀(j:Nat) (q:Oper),ops[j]?=some q->q.dst≠some t)/\get2 t env0=get2 t env2):=by
    intro t ht;rcases hblank t ht with h|⟨h1,h2⟩
    ·exact .inl h
    ·exact .inr ⟨h1,by rw [hfix t ht h1,h2]⟩
   exact Qt tail hc F hn hlim rest (some e) past' env2 H2 nx2 hchk (λs hs=>htl s (List.mem_cons_of_mem _ hs)) hpast' hblank' hk3 σ0 H0 w0 Q hQ hT fuel _ σ1 w1 a1 I1 (by omega)
  ·refine hQ l H1 nx1 σ1 w1 a c (hpan l H1 nx1 hk) R E ⟨⟨hsz,hn,λt ht=> ?_⟩,hdf⟩ C
   rcases hblank t ht with h|⟨h1,h2⟩
   ·rw [h];exact .und _
   ·rw [h2];exact hden t ht h1
theorem qcl{as:List Nat}{res:Nat}{σ0:Sg}{H0:qc}{w0:World}{dfs:Dfs}{past:List Nat}(F:jU nt ops as)(hn:nt<=4096){Q:Exit->Act->World->Prop}
  (hpast:∀i,i∈past->∃o,ops[i]?=some o/\(cls o.op=0\/cls o.op=1))
  (hQ:∀σ' w' a',Rel σ' H nx w'->Ext σ0 σ' H0 H res nx w0 w'->kT σ' nt env dfs a'->Q .normal a' w'):
  ∀fuel listed σ w a,Inv P nt ops as res σ0 H0 w0 dfs past [] env H nx listed σ w a->left ops listed<=fuel->wpAny P .any ops Q fuel listed a w:=by
 have done:∀listed σ w a,Inv P nt ops as res σ0 H0 w0 dfs past [] env H nx listed σ w a->(∀i,i<ops.size->isL listed i)->Q .normal a w:=λlisted σ w a I hall=>
  hQ σ w a I.rel I.ext ⟨⟨I.tsize,hn,λt ht=>I.den t ht λj q hj _=>hall j (Array.getElem?_eq_some_iff.1 hj).1⟩,I.dfs⟩
 intro fuel
 induction fuel with
 |zero=>
  intro listed σ w a I hl;have hall:=KM (by omega:left ops listed=0)
  refine⟨?_,done listed σ w a I hall⟩
  refine List.eq_nil_iff_forall_not_mem.2 λi hi=> ?_
  obtain⟨o,ho,hnl,_⟩:=(jI I.size).1 hi
  exact hnl (hall i (Array.getElem?_eq_some_iff.1 ho).1)
 |succ fuel ih=>
  intro listed σ w a I hl;refine⟨λhnil=>done listed σ w a I (Qa F I.size hnil),λi hi=> ?_⟩
  obtain⟨o,ho,hnl,hed⟩:=(jI I.size).1 hi
  have hlt:i<ops.size:=(Array.getElem?_eq_some_iff.1 ho).1
  have hr:∀j,bit (as.getD i 0) j=true->isL listed j:=λj hj=>by
   obtain⟨e,he,hb,hc'⟩:=F.ahead i o ho j hj
   rcases hc' with rfl|hc'
   ·exact hed e he hb
   ·exact I.closed _ j (hed e he hb) hc'
  have hp:i∈past:=by
   rcases I.all i hlt with h|h|h
   ·exact h
   ·cases h
   ·exact(hnl h).elim
  obtain⟨o',ho',hcl⟩:=hpast i hp
  rw [ho]at ho';cases ho'
  refine I.float F hn ho hp hnl hcl hr (by intro h;cases h) λσ1 w1 a1 I1=>ih _ σ1 w1 a1 I1 ?_
  have:=Ki I.size hlt hnl
  omega
end Go.Vs
end
section
namespace Go.Vs
variable [GTab] {P:Program} {H:qc} {nx:Nat} {o:Oper}
noncomputable section
inductive Sh where
 |bool
 |int (k:IntKind)
 |str
 |any
def qtd:TypeDesc->Sh
 | .bool=> .bool
 | .int k=> .int k
 | .string=> .str
 |_=> .any
def shs(P:Program):Nat->TypeId->Option (List Sh)
 |0,_=>none
 |n+1,t=>match P.underlying t with
  |some (.struct fs)=>fs.toList.foldr (λf acc=>match shs P n f.type,acc with
   |some a,some b=>some (a++b)
   |_,_=>none) (some [])
  |some (.array len e)=>match Nat.ble len 64,shs P n e with
   |true,some l=>some (List.replicate len l).flatten
   |_,_=>none
  |some d=>some [qtd d]
  |none=>none
def quu(s:Sh)(k:qa->Prop):Prop:=match s with
 | .bool=>∃b,k (.bool b)
 | .int kd=>∃n,k (.int kd n)
 | .str=>∃s,k (.str s)
 | .any=>∃v,k v
def qo7:List Sh->(List qa->Prop)->Prop
 |[],k=>k []
 |s::l,k=>quu s λv=>qo7 l λvs=>k (v::vs)
theorem qh5{s:Sh}{k:qa->Prop}(h:quu s k):∃v,k v:=by
 cases s<;>(obtain⟨x,h⟩:=h;exact⟨_,h⟩)
theorem qd5:∀{l:List Sh} {k:List qa->Prop},qo7 l k->∃vs,k vs
 |[],_,h=>⟨_,h⟩
 |_::_,_,h=>let⟨_,h⟩:=qh5 h;let⟨_,h⟩:=qd5 h;⟨_,h⟩
def W2(P:Program)(t:TypeId)(k:qa->Prop):Prop:=
 match P.underlying t with
 |some d=>match XP d with
  |true=>match shs P 9 t with
   |some l=>qo7 l λcs=>k (.agg cs)
   |none=>∃v,k v
  |false=>quu (qtd d) k
 |none=>∃v,k v
theorem Zv{t:TypeId}{k:qa->Prop}(h:W2 P t k):∃v,k v:=by
 unfold W2 at h;split at h
 ·split at h
  ·split at h
   ·exact let⟨_,h⟩:=qd5 h;⟨_,h⟩
   ·exact h
  ·exact qh5 h
 ·exact h
def qmk(P:Program):List TypeId->(List qa->Prop)->Prop
 |[],k=>k []
 |t::l,k=>W2 P t λv=>qmk P l λvs=>k (v::vs)
theorem qd7:∀{l:List TypeId} {k:List qa->Prop},qmk P l k->∃vs,k vs
 |[],_,h=>⟨_,h⟩
 |_::_,_,h=>let⟨_,h⟩:=Zv h;let⟨_,h⟩:=qd7 h;⟨_,h⟩
def K6(P:Program)(t:TypeId)(v:qa)(k:qa->Prop):Prop:=
 match P.underlying t with
 |some (.tuple ts)=>match ts.toList with
  |[]=>k v
  |ts=>qmk P ts λvs=>v= .tuple vs/\k (.tuple vs)
 |some d=>match XP d,qtd d with
  |false,.any=>k v
  |_,_=>W2 P t λv'=>v=v'/\k v'
 |none=>k v
theorem ZU{t:TypeId}{v:qa}{k:qa->Prop}(h:K6 P t v k):k v:=by
 unfold K6 at h;split at h
 ·split at h
  ·exact h
  ·obtain⟨vs,e,h2⟩:=qd7 h;rw [e];exact h2
 ·split at h
  ·exact h
  ·obtain⟨v',e,h2⟩:=Zv h;rw [e];exact h2
 ·exact h
def ld1(H:qc)(a:qa):Option qa:=
 match a with
 | .ptr b off=>match zf b H with
  |some (.cells n ct _ _)=>match Nat.ble (Nat.succ off) n with
   |true=>some (CT.get off ct)
   |false=>none
  |_=>none
 | .gptr g off=>match GTab.tab g with
  |some l=>l[off]?
  |none=>none
 |_=>none
def ldN(H:qc)(sz:Nat)(a:qa):Option qa:=
 match a with
 | .ptr b off=>match zf b H with
  |some (.cells n ct _ _)=>match Nat.ble (Nat.add off sz) n with
   |true=>some (.agg (CT.slab ct sz off))
   |false=>none
  |_=>none
 | .gptr g off=>match GTab.tab g with
  |some l=>match Nat.ble (Nat.add off sz) l.length with
   |true=>some (.agg ((l.drop off).take sz))
   |false=>none
  |none=>none
 |_=>none
def vn(P:Program)(t:TypeId)(H:qc)(a:qa)(k:qa->Prop):Prop:=
 match P.underlying t,P.info? t with
 |some d,some i=>match XP d with
  |true=>W2 P t λv=>ldN H i.size a=some v/\k v
  |false=>W2 P t λv=>ld1 H a=some v/\k v
 |_,_=>False
theorem WO{t:TypeId}{a:qa}{k:qa->Prop}(h:vn P t H a k):∃v,Jd P t H a=some v/\k v:=by
 unfold vn at h;split at h<;>try exact h.elim
 rename_i d i hd hi;split at h
 ·rename_i hag;obtain⟨v,e,h⟩:=Zv h
  refine⟨v,?_,h⟩
  unfold ldN at e;unfold Jd;cases a<;>first|exact e|skip
  ·rename_i b off;simp only []at e ⊢
   cases hb:zf b H with
   |none=>rw [hb]at e;cases e
   |some o=>
    rw [hb]at e;cases o with
    |map _ _=>cases e
    |iter _ _ _ _=>cases e
    |cells n ct o s=>simp only [hd,hi,hag];exact e
  ·rename_i g off;simp only []at e ⊢
   cases hb:GTab.tab g with
   |none=>rw [hb]at e;cases e
   |some l=>rw [hb]at e;simp only [hd,hi,hag];exact e
 ·rename_i hag;obtain⟨v,e,h⟩:=Zv h
  refine⟨v,?_,h⟩
  unfold ld1 at e;unfold Jd;cases a<;>first|exact e|skip
  ·rename_i b off;simp only []at e ⊢
   cases hb:zf b H with
   |none=>rw [hb]at e;cases e
   |some o=>
    rw [hb]at e;cases o with
    |map _ _=>cases e
    |iter _ _ _ _=>cases e
    |cells n ct o s=>simp only [hd,hi,hag];exact e
  ·rename_i g off;simp only []at e ⊢
   cases hb:GTab.tab g with
   |none=>rw [hb]at e;cases e
   |some l=>rw [hb]at e;simp only [hd,hi,hag];exact e
def Xm(P:Program)(t:TypeId)(v:qa)(k:List qa->Prop):Prop:=
 match P.underlying t with
 |some d=>match XP d with
  |true=>match v with
   | .agg cs=>k cs
   |_=>False
  |false=>qZ v=true/\k [v]
 |none=>False
theorem KA{t:TypeId}{v:qa}{k:List qa->Prop}(h:Xm P t v k):∃cs,Kt v=some cs/\k cs:=by
 unfold Xm at h;split at h<;>try exact h.elim
 split at h
 ·split at h<;>first|exact h.elim|exact⟨_,rfl,h⟩
 ·obtain⟨h1,h2⟩:=h
  refine⟨[v],?_,h2⟩
  cases v<;>first|rfl|(simp [qZ]at h1)
def stC(H:qc)(a:qa)(cs:List qa):Option qc:=
 match a with
 | .ptr b off=>match zf b H with
  |some (.cells n ct olds false)=>match Nat.ble (Nat.add off cs.length) n,qt cs with
   |true,true=>some (zS b (some (.cells n (relay cs cs.length off n ct) [] false)) (yu olds H))
   |_,_=>none
  |_=>none
 |_=>none
def qf1(P:Program)(t:TypeId)(H:qc)(a x:qa)(k:qc->Prop):Prop:=
 match P.info? t with
 |some i=>Xm P t x λcs=>match Nat.beq cs.length i.size with
  |true=>∃H',stC H a cs=some H'/\k H'
  |false=>False
 |none=>False
theorem qjl{t:TypeId}{a x:qa}{k:qc->Prop}(h:qf1 P t H a x k):∃H',vH P t H a x=some H'/\k H':=by
 unfold qf1 at h;split at h<;>try exact h.elim
 rename_i i hi;obtain⟨cs,hcs,h⟩:=KA h
 split at h<;>try exact h.elim
 rename_i hl;obtain⟨H',e,h⟩:=h
 refine⟨H',?_,h⟩
 have hl':=Nat.eq_of_beq_eq_true hl
 unfold stC at e;unfold vH;split at e<;>try (cases e;done)
 rename_i b off;split at e<;>try (cases e;done)
 rename_i n ct olds ho;split at e<;>try (cases e;done)
 rename_i h1 h2;cases e
 rw [hl']at h1;have hb:Nat.beq i.size i.size=true:=Nat.beq_refl _
 simp only [hcs,hi,ho,h1,h2,hl',hb]
def qu0(op:BinOp)(k:IntKind)(a b:Int)(K:qa->Prop):Prop:=
 match op with
 | .add=>K (.int k (k.wrap (a+b)))
 | .sub=>K (.int k (k.wrap (a - b)))
 | .mul=>K (.int k (k.wrap (a*b)))
 | .quo=>b≠0/\K (.int k (k.wrap (a.tdiv b)))
 | .rem=>b≠0/\K (.int k (a.tmod b))
 | .and=>K (.int k (k.wrap (BitVec.ofInt k.bits a&&&BitVec.ofInt k.bits b).toNat))
 | .or=>K (.int k (k.wrap (BitVec.ofInt k.bits a|||BitVec.ofInt k.bits b).toNat))
 | .xor=>K (.int k (k.wrap (BitVec.ofInt k.bits a ^^^ BitVec.ofInt k.bits b).toNat))
 | .andNot=>K (.int k (k.wrap (BitVec.ofInt k.bits a&&&~~~BitVec.ofInt k.bits b).toNat))
 | .eql=>K (.bool (decide (a=b)))
 | .neq=>K (.bool (!decide (a=b)))
 | .lss=>K (.bool (decide (a<b)))
 | .leq=>K (.bool (decide (a<=b)))
 | .gtr=>K (.bool (decide (b<a)))
 | .geq=>K (.bool (decide (b<=a)))
 |_=>False
theorem qbs(a b:Int):(!decide (b<a))=decide (a<=b):=by rw [Bool.eq_iff_iff];simp
theorem qs7(a b:Int):(a==b)=decide (a=b):=by rw [Bool.eq_iff_iff];simp
theorem qqk{op:BinOp}{k:IntKind}{a b:Int}{K:qa->Prop}(h:qu0 op k a b K):∃v,qnr op k a b=some v/\K v:=by
 unfold qu0 at h;unfold qnr;cases op<;>simp only [zP,Qf,qm0,yK,wL]at h ⊢
 case quo=>
  obtain⟨h0,h⟩:=h;have:(b==0)=false:=by simpa using h0
  simp only [this];exact⟨_,rfl,h⟩
 case rem=>
  obtain⟨h0,h⟩:=h;have:(b==0)=false:=by simpa using h0
  simp only [this];exact⟨_,rfl,h⟩
 case leq=>rw [<-qbs]at h;exact⟨_,rfl,h⟩
 case geq=>rw [<-qbs]at h;exact⟨_,rfl,h⟩
 case eql=>rw [<-qs7]at h;exact⟨_,rfl,h⟩
 case neq=>rw [<-qs7]at h;exact⟨_,rfl,h⟩
 all_goals first|exact h.elim|exact⟨_,rfl,h⟩
def qm1(op:BinOp)(s t:List UInt8)(K:qa->Prop):Prop:=
 match op with
 | .add=>s.length+t.length<=9223372036854775807/\K (.str (s++t))
 | .eql=>K (.bool (s==t))
 | .neq=>K (.bool (!(s==t)))
 | .lss=>K (.bool (Op.bytesLess s t))
 | .leq=>K (.bool (Op.bytesLess s t||s==t))
 | .gtr=>K (.bool !(Op.bytesLess s t||s==t))
 | .geq=>K (.bool !(Op.bytesLess s t))
 |_=>False
theorem qlc{op:BinOp}{s t:List UInt8}{K:qa->Prop}(h:qm1 op s t K):∃v,qe3 op s t=some v/\K v:=by
 unfold qm1 at h;unfold qe3;cases op<;>simp only []at h ⊢
 case add=>
  obtain⟨h0,h⟩:=h;have hb:Nat.ble (s.length+t.length) 9223372036854775807=true:=(by rw [Nat.ble_eq];exact h0)
  rw [hb];exact⟨_,rfl,h⟩
 all_goals first|exact h.elim|exact⟨_,rfl,h⟩
inductive NK where
 |ptr|slice|map|func|iface
def qsi:TypeDesc->Option NK
 | .pointer _=>some .ptr
 | .slice _=>some .slice
 | .map _ _=>some .map
 | .func _ _ _=>some .func
 | .interface _=>some .iface
 |_=>none
def WR(k:NK)(v:qa):Option Bool:=
 match k,v with
 | .ptr,.ptr _ _=>some false
 | .ptr,.nilPtr=>some true
 | .slice,.slice ..=>some false
 | .slice,.nilSlice=>some true
 | .slice,.gslice ..=>some false
 | .map,.map _=>some false
 | .map,.nilMap=>some true
 | .func,.func _ _ _=>some false
 | .func,.nilFunc=>some true
 | .iface,.iface _ _=>some false
 | .iface,.nilIface=>some true
 |_,_=>none
theorem V9{d:TypeDesc}{k:NK}{v:qa}{p:Bool}(hk:qsi d=some k)(h:WR k v=some p):QB d v=some p:=by
 cases d<;>simp only [qsi,reduceCtorEq,Option.some.injEq]at hk
 all_goals (subst hk;cases v<;>simp only [WR,reduceCtorEq]at h<;>exact h)
def qj2:List qa->List qa->(Bool->Prop)->Prop
 |[],[],K=>K true
 | .int k a::cs,.int k' b::ds,K=>match decide (k=k')with
  |true=>qj2 cs ds λr=>K (decide (a=b)&&r)
  |false=>False
 |_,_,_=>False
theorem qgk:∀{cs ds:List qa} {K:Bool->Prop},qj2 cs ds K->∃r,WT cs ds=some r/\K r
 |[],[],K,h=>⟨true,rfl,h⟩
 |c::cs,[],K,h=>by unfold qj2 at h;split at h<;>first|exact h.elim|contradiction
 |[],d::ds,K,h=>by unfold qj2 at h;exact h.elim
 |c::cs,d::ds,K,h=>by
  unfold qj2 at h;split at h
  ·rename_i e _;cases e
  ·rename_i k a cs' k' b ds' e1 e2;cases e1;cases e2
   split at h
   ·rename_i hk;obtain⟨r,e,h⟩:=qgk h
    exact⟨_,by unfold WT;simp only [hk,e],h⟩
   ·exact h.elim
  ·exact h.elim
def qu5(P:Program)(op:BinOp)(t:TypeId)(x y:Operand)(a b:qa)(K:qa->Prop):Prop:=
 match P.underlying t with
 |some (.int _)=>match op with
  | .shl=>match a,b with
   | .int k1 n,.int _ m=>0<=m/\K (.int k1 (k1.wrap (n*2 ^ (min m.toNat k1.bits))))
   |_,_=>False
  | .shr=>match a,b with
   | .int k1 n,.int _ m=>0<=m/\K (.int k1 (n.fdiv (2 ^ (min m.toNat k1.bits))))
   |_,_=>False
  |op=>match a,b with
   | .int k1 n,.int k2 m=>match decide (k1=k2)with
    |true=>qu0 op k1 n m K
    |false=>False
   |_,_=>False
 |some .string=>match a,b with
  | .str s,.str u=>qm1 op s u K
  |_,_=>False
 |some .bool=>match op with
  | .eql=>match a,b with
   | .bool p,.bool q=>K (.bool (p==q))
   |_,_=>False
  | .neq=>match a,b with
   | .bool p,.bool q=>K (.bool (!(p==q)))
   |_,_=>False
  |_=>False
 |some (.struct _)=>match a,b with
  | .agg cs,.agg ds=>J1 P t cs.length=true/\qj2 cs ds λr=>match op with
   | .eql=>K (.bool r)
   | .neq=>K (.bool (!r))
   |_=>False
  |_,_=>False
 |some d=>match qsi d,vt x,vt y with
  |some k,false,true=>match WR k b with
   |some true=>match op with
    | .eql=>∃p,WR k a=some p/\K (.bool p)
    | .neq=>∃p,WR k a=some p/\K (.bool (!p))
    |_=>False
   |_=>False
  |some k,true,_=>match WR k a with
   |some true=>match op with
    | .eql=>∃p,WR k b=some p/\K (.bool p)
    | .neq=>∃p,WR k b=some p/\K (.bool (!p))
    |_=>False
   |_=>False
  |_,_,_=>False
 |none=>False
theorem eqB(p q:Bool):(Bool.rec (!q) q p:Bool)=(p==q):=by cases p<;>cases q<;>rfl
theorem qpq{op:BinOp}{t:TypeId}{x y:Operand}{ρ:Operand->qa}{K:qa->Prop}(h:qu5 P op t x y (ρ x) (ρ y) K):
  ∃v,yi P op t x y ρ H nx=some (.val v H nx)/\K v:=by
 unfold qu5 at h;split at h<;>try exact h.elim
 ·rename_i kd hu;split at h
  ·split at h<;>try exact h.elim
   rename_i k1 n k2 m hx hy;obtain⟨h0,h⟩:=h
   have:(ilt m 0)=false:=by rw [yK];simp;exact h0
   refine⟨_,?_,h⟩
   unfold yi;simp only [hx,hy,Xg,this,zP]
  ·split at h<;>try exact h.elim
   rename_i k1 n k2 m hx hy;obtain⟨h0,h⟩:=h
   have:(ilt m 0)=false:=by rw [yK];simp;exact h0
   refine⟨_,?_,h⟩
   unfold yi;simp only [hx,hy,Xg,this,zP]
  ·rename_i hn1 hn2;split at h<;>try exact h.elim
   rename_i k1 n k2 m hx hy;split at h<;>try exact h.elim
   rename_i hk;obtain⟨v,e,h⟩:=qqk h
   refine⟨v,?_,h⟩
   cases op<;>first|exact(hn1 rfl).elim|exact(hn2 rfl).elim|(unfold yi;simp only [hx,hy,hk,e])
 ·rename_i hu;split at h<;>try exact h.elim
  rename_i s u hx hy;obtain⟨v,e,h⟩:=qlc h
  refine⟨v,?_,h⟩
  unfold yi;simp only [hx,hy,e]
 ·rename_i hu;split at h<;>try exact h.elim
  all_goals
   split at h<;>try exact h.elim
   rename_i p q hx hy;refine⟨_,?_,h⟩
   unfold yi;simp only [hx,hy,qdz,aEq,hu,wL]
   rw [eqB]
 ·rename_i fs hu;split at h<;>try exact h.elim
  rename_i cs ds hx hy;obtain⟨hok,h⟩:=h
  obtain⟨r,hr,h⟩:=qgk h
  split at h<;>try exact h.elim
  all_goals
   refine⟨_,?_,h⟩
   unfold yi;simp only [hx,hy,qdz,hok,hr,wL]
 ·rename_i d hnb hni hns hst hu;have other:∀k q,WR k (ρ x)=some q->(op= .eql\/op= .neq)->∀s,aEq P t x y (ρ x) (ρ y)=some s->
    yi P op t x y ρ H nx=some (.val (.bool (match op with| .eql=>s|_=> !s)) H nx):=by
   intro k q ha hop s hs;have hs:qdz P t x y (ρ x) (ρ y)=some s:=by
    unfold qdz;split
    ·rename_i hx hy;rw [hx]at ha;cases k<;>cases ha
    ·exact hs
   unfold yi;split
   ·rename_i hx hy;rw [hx]at ha;cases k<;>cases ha
   ·rename_i hx hy;rw [hx]at ha;cases k<;>cases ha
   ·rcases hop with rfl|rfl<;>simp only [hs,wL]
  split at h<;>try exact h.elim
  ·rename_i k hk hcx hcy;split at h<;>try exact h.elim
   rename_i hb;have e:∀p,WR k (ρ x)=some p->aEq P t x y (ρ x) (ρ y)=some p:=by
    intro p hp;unfold aEq;rw [hu];simp only [V9 hk hp,V9 hk hb,hcx,hcy]
   split at h<;>try exact h.elim
   ·obtain⟨p,hp,h⟩:=h
    exact⟨_,other k p hp (.inl rfl) p (e p hp),h⟩
   ·obtain⟨p,hp,h⟩:=h
    exact⟨_,other k p hp (.inr rfl) p (e p hp),h⟩
  ·rename_i k hk hcx;split at h<;>try exact h.elim
   rename_i hb;have e:∀p,WR k (ρ y)=some p->aEq P t x y (ρ x) (ρ y)=some p:=by
    intro p hp;unfold aEq;rw [hu];simp only [V9 hk hp,V9 hk hb,hcx]
   split at h<;>try exact h.elim
   ·obtain⟨p,hp,h⟩:=h
    exact⟨_,other k true hb (.inl rfl) p (e p hp),h⟩
   ·obtain⟨p,hp,h⟩:=h
    exact⟨_,other k true hb (.inr rfl) p (e p hp),h⟩
def zg(a:qa)(c:Nat):Option qa:=
 match a with
 | .ptr b off=>some (.ptr b (Nat.add off c))
 | .gptr g off=>some (.gptr g (Nat.add off c))
 |_=>none
def qY(v:qa)(n esz:Nat):Option qa:=
 match v with
 | .slice b off len _ _=>match Nat.ble (Nat.succ n) len with
  |true=>some (.ptr b (Nat.add off (Nat.mul n esz)))
  |false=>none
 | .gslice g off len _=>match Nat.ble (Nat.succ n) len with
  |true=>some (.gptr g (Nat.add off (Nat.mul n esz)))
  |false=>none
 |_=>none
def zw(v:qa):Option Nat:=
 match v with
 | .slice _ _ n _ _=>some n
 | .nilSlice=>some 0
 | .gslice _ _ n _=>some n
 |_=>none
def ZL(v:qa)(esz l:Nat)(h:Option Nat):Option qa:=
 match v with
 | .slice b off len e full=>match h.getD len with
  |h=>match Nat.ble h len,Nat.ble l h,Nat.beq esz e with
   |true,true,true=>some (.slice b (Nat.add off (Nat.mul l e)) (Nat.sub h l) e (Bool.rec false full (Nat.beq h len)))
   |_,_,_=>none
 | .nilSlice=>match l,h with
  |0,none=>some .nilSlice
  |0,some 0=>some .nilSlice
  |_,_=>none
 | .gslice g off len e=>match h.getD len with
  |h=>match Nat.ble h len,Nat.ble l h,Nat.beq esz e with
   |true,true,true=>some (.gslice g (Nat.add off (Nat.mul l e)) (Nat.sub h l) e)
   |_,_,_=>none
 |_=>none
def Ya(H:qc)(v:qa):Option (List UInt8):=
 match v with
 | .slice b off n _ _=>match zf b H with
  |some (.cells cnt ct _ _)=>match Nat.ble (Nat.add off n) cnt with
   |true=>yz (CT.slab ct n off)
   |false=>none
  |_=>none
 | .nilSlice=>some []
 |_=>none
def Jl(P:Program)(s:TypeId)(f:Nat)(a:qa)(K:qa->Prop):Prop:=
 match P.underlying s with
 |some (.struct fields)=>match fields[f]? with
  |some fd=>match P.info? fd.type with
   |some i=>match Nat.beq i.size 0 with
    |false=>∃v,zg a fd.offset=some v/\K v
    |true=>False
   |none=>False
  |none=>False
 |_=>False
theorem XK{s:TypeId}{f:Nat}{x:Operand}{ρ:Operand->qa}{K:qa->Prop}(h:Jl P s f (ρ x) K):
  ∃v,kr P s x f ρ H nx=some (.val v H nx)/\K v:=by
 unfold Jl at h;split at h<;>try exact h.elim
 rename_i fields hu;split at h<;>try exact h.elim
 rename_i fd hf;split at h<;>try exact h.elim
 rename_i i hi;split at h<;>try exact h.elim
 rename_i hz;obtain⟨v,e,h⟩:=h
 refine⟨v,?_,h⟩
 unfold zg at e;unfold kr;simp only [hu,hf,hi,hz]
 split at e<;>try (cases e;done)
 ·rename_i hx;cases e;rw [hx]
 ·rename_i hx;cases e;rw [hx]
theorem y4{i:Int}(h:0<=i):Wk i=some i.toNat:=by
 cases i with
 |ofNat n=>rfl
 |negSucc n=>omega
def JD(P:Program)(t:TypeId)(a ix:qa)(K:qa->Prop):Prop:=
 match ix with
 | .int _ i=>match P.underlying t with
  |some (.array len elem)=>match P.info? elem with
   |some e=>0<=i/\i.toNat<len/\∃v,zg a (Nat.mul i.toNat e.size)=some v/\K v
   |none=>False
  |some (.slice elem)=>match P.info? elem with
   |some e=>0<=i/\∃v,qY a i.toNat e.size=some v/\K v
   |none=>False
  |_=>False
 |_=>False
theorem XS{t:TypeId}{x ix:Operand}{ρ:Operand->qa}{K:qa->Prop}(h:JD P t (ρ x) (ρ ix) K):
  ∃v,jK P t x ix ρ H nx=some (.val v H nx)/\K v:=by
 unfold JD at h;split at h<;>try exact h.elim
 rename_i k i hix;split at h<;>try exact h.elim
 ·rename_i len elem hu;split at h<;>try exact h.elim
  rename_i e he;obtain⟨h0,hlt,v,ev,h⟩:=h
  refine⟨v,?_,h⟩
  have hb:Nat.ble (Nat.succ i.toNat) len=true:=by rw [Nat.ble_eq];omega
  unfold jK;unfold zg at ev;simp only [hix,y4 h0,hu]
  split at ev<;>try (cases ev;done)
  ·rename_i hx;cases ev;simp only [hx,hb,he]
  ·rename_i hx;cases ev;simp only [hx,hb,he]
 ·rename_i elem hu;split at h<;>try exact h.elim
  rename_i e he;obtain⟨h0,v,ev,h⟩:=h
  refine⟨v,?_,h⟩
  unfold jK;unfold qY at ev;simp only [hix,y4 h0,hu]
  split at ev<;>try (cases ev;done)
  ·rename_i hx;split at ev<;>try (cases ev;done)
   rename_i hb;cases ev
   simp only [hx,hb,he]
  ·rename_i hx;split at ev<;>try (cases ev;done)
   rename_i hb;cases ev
   simp only [hx,hb,he]
def qg4(P:Program)(t:TypeId)(a ix:qa)(K:qa->Prop):Prop:=
 match ix with
 | .int _ i=>match P.underlying t with
  |some (.array len elem)=>match a with
   | .agg cs=>match P.info? elem with
    |some e=>0<=i/\i.toNat<len/\W2 P elem λv=>qee P elem cs (Nat.mul i.toNat e.size)=some v/\K v
    |none=>False
   |_=>False
  |some .string=>match a with
   | .str s=>0<=i/\∃c,s[i.toNat]?=some c/\K (.int .u8 (.ofNat c.toNat))
   |_=>False
  |_=>False
 |_=>False
theorem qjb{t:TypeId}{x ix:Operand}{ρ:Operand->qa}{K:qa->Prop}(h:qg4 P t (ρ x) (ρ ix) K):
  ∃v,wN P t x ix ρ H nx=some (.val v H nx)/\K v:=by
 unfold qg4 at h;split at h<;>try exact h.elim
 rename_i k i hix;split at h<;>try exact h.elim
 ·rename_i len elem hu;split at h<;>try exact h.elim
  rename_i cs hx;split at h<;>try exact h.elim
  rename_i e he;obtain⟨h0,hlt,h⟩:=h
  obtain⟨v,ev,h⟩:=Zv h
  refine⟨v,?_,h⟩
  have hb:Nat.ble (Nat.succ i.toNat) len=true:=by rw [Nat.ble_eq];omega
  unfold wN;simp only [hix,y4 h0,hu,hx,hb,he,ev]
 ·rename_i hu;split at h<;>try exact h.elim
  rename_i s hx;obtain⟨h0,c,ec,h⟩:=h
  refine⟨_,?_,h⟩
  unfold wN;simp only [hix,y4 h0,hu,hx,ec]
def qia(x:Option qa)(K:Option Nat->Prop):Prop:=
 match x with
 |none=>K none
 |some (.int _ i)=>0<=i/\K (some i.toNat)
 |some _=>False
theorem VY{x:Option Operand}{ρ:Operand->qa}{K:Option Nat->Prop}(h:qia (x.map ρ) K):∃n,K n/\∀d,bnd d x ρ=some (n.getD d):=by
 unfold qia at h;cases x with
 |none=>exact⟨none,h,λd=>rfl⟩
 |some y=>
  simp only [Option.map_some]at h
  split at h<;>try exact h.elim
  ·rename_i e;cases e
  ·rename_i k i e;obtain⟨h0,h⟩:=h
   refine⟨some i.toNat,h,λd=> ?_⟩
   have e':ρ y= .int k i:=Option.some.inj e
   simp only [bnd,e',y4 h0,Option.getD_some]
def qeq(P:Program)(t:TypeId)(a:qa)(lo hi mx:Option qa)(H:qc)(K:qa->Prop):Prop:=
 match mx with
 |some _=>False
 |none=>match P.underlying t with
  |some .string=>match a with
   | .str s=>qia lo λl=>qia hi λh=>h.getD s.length<=s.length/\l.getD 0<=h.getD s.length/\K (.str ((s.drop (l.getD 0)).take (h.getD s.length - l.getD 0)))
   |_=>False
  |some (.slice elem)=>match P.info? elem with
   |some e=>qia lo λl=>qia hi λh=>∃v,ZL a e.size (l.getD 0) h=some v/\K v
   |none=>False
  |_=>False
theorem qij{t:TypeId}{x:Operand}{lo hi mx:Option Operand}{ρ:Operand->qa}{K:qa->Prop}(h:qeq P t (ρ x) (lo.map ρ) (hi.map ρ) (mx.map ρ) H K):
  ∃v,yD P t x lo hi mx ρ H nx=some (.val v H nx)/\K v:=by
 unfold qeq at h;split at h<;>try exact h.elim
 rename_i hm;have hm':mx=none:=by cases mx with
  |none=>rfl
  |some y=>cases hm
 subst hm';split at h<;>try exact h.elim
 ·rename_i hu;split at h<;>try exact h.elim
  rename_i s hx;obtain⟨l,h,hl⟩:=VY h
  obtain⟨hh,h,hhi⟩:=VY h
  obtain⟨h1,h2,h⟩:=h
  refine⟨_,?_,h⟩
  unfold yD;have b1:Nat.ble (hh.getD s.length) s.length=true:=by rw [Nat.ble_eq];exact h1
  have b2:Nat.ble (l.getD 0) (hh.getD s.length)=true:=by rw [Nat.ble_eq];exact h2
  simp only [hu,hx,hl,hhi,b1,b2]
 ·rename_i elem hu;split at h<;>try exact h.elim
  rename_i e he;obtain⟨l,h,hl⟩:=VY h
  obtain⟨hh,h,hhi⟩:=VY h
  obtain⟨v,ev,h⟩:=h
  refine⟨v,?_,h⟩
  unfold yD;unfold ZL at ev;split at ev<;>try (cases ev;done)
  ·rename_i b off len es full hx;simp only []at ev
   split at ev<;>try (cases ev;done)
   rename_i b1 b2 b3;cases ev
   simp only [hu,hx,hl,hhi,he,b1,b2,b3,qS]
  ·rename_i hx;split at ev<;>try (cases ev;done)
   ·rename_i q1;cases ev;simp only [hu,hx,hl,hhi,he,Option.getD_none,q1]
   ·rename_i q1;cases ev;simp only [hu,hx,hl,hhi,he,Option.getD_some,q1]
  ·rename_i g off len es hx;simp only []at ev
   split at ev<;>try (cases ev;done)
   rename_i b1 b2 b3;cases ev
   simp only [hu,hx,hl,hhi,he,b1,b2,b3]
def qnh(P:Program)(src dst:TypeId)(a:qa)(H:qc)(K:qa->Prop):Prop:=
 match P.underlying src,P.underlying dst with
 |some (.int _),some (.int k)=>match a with
  | .int _ n=>K (.int k (k.wrap n))
  |_=>False
 |some .string,some .string=>match a with
  | .str s=>K (.str s)
  |_=>False
 |some (.slice e),some .string=>match P.underlying e with
  |some (.int .u8)=>∃s,Ya H a=some s/\K (.str s)
  |_=>False
 |_,_=>False
theorem qn8{src dst:TypeId}{x:Operand}{ρ:Operand->qa}{K:qa->Prop}(h:qnh P src dst (ρ x) H K):
  ∃v,yQ P src dst x ρ H nx=some (.val v H nx)/\K v:=by
 unfold qnh at h;split at h<;>try exact h.elim
 ·rename_i k0 k hs hd;split at h<;>try exact h.elim
  rename_i k1 n hx;refine⟨_,?_,h⟩
  unfold yQ;simp only [hs,hd,hx,zP,Qf]
 ·rename_i hs hd;split at h<;>try exact h.elim
  rename_i s hx;refine⟨_,?_,h⟩
  unfold yQ;simp only [hs,hd,hx]
 ·rename_i el hs hd;split at h<;>try exact h.elim
  rename_i hel;obtain⟨s,es,h⟩:=h
  refine⟨_,?_,h⟩
  unfold yQ;unfold Ya at es;split at es<;>try (cases es;done)
  ·rename_i b off n esz full hx;split at es<;>try (cases es;done)
   rename_i cnt ct o sp hb;split at es<;>try (cases es;done)
   rename_i hle;simp only [hs,hd,hx,hel,hb,hle,es]
  ·rename_i hx;cases es
   simp only [hs,hd,hx,hel]
def Yx(P:Program)(place:Nat->Option (Nat×Nat×TypeId))(ρ:Operand->qa)(cells:List qa)(l:List (Nat×Operand))(K:List qa->Prop):Prop:=
 match l with
 |[]=>K cells
 |(i,x)::rest=>match place i with
  |some (off,size,t)=>Xm P t (ρ x) λcs=>match Nat.beq cs.length size,Nat.ble (Nat.add off size) cells.length with
   |true,true=>Yx P place ρ (seg off cs cells) rest K
   |_,_=>False
  |none=>False
theorem J0{place:Nat->Option (Nat×Nat×TypeId)}{ρ:Operand->qa}:∀{l:List (Nat×Operand)} {cells:List qa} {K:List qa->Prop},Yx P place ρ cells l K->
  ∃cs,QS (λi=>(place i).map λp=>(p.1,p.2.1)) ρ cells l=some cs/\K cs
 |[],_,_,h=>⟨_,rfl,h⟩
 |(i,x)::rest,cells,K,h=>by
  unfold Yx at h;split at h<;>try exact h.elim
  rename_i off size t hp;obtain⟨cs,hcs,h⟩:=KA h
  split at h<;>try exact h.elim
  rename_i h1 h2;obtain⟨r,e,h⟩:=J0 h
  refine⟨r,?_,h⟩
  unfold QS;simp only [hp,hcs,h1,h2,Option.map_some]
  exact e
def V5(P:Program):List Field->Option (List (Nat×Nat×TypeId))
 |[]=>some []
 |f::l=>match P.info? f.type,V5 P l with
  |some i,some r=>some ((f.offset,i.size,f.type)::r)
  |_,_=>none
theorem Wy:∀{l:List Field} {r:List (Nat×Nat×TypeId)},V5 P l=some r->KT P l=some (r.map λp=>(p.1,p.2.1))
 |[],_,h=>by cases h;rfl
 |f::l,r,h=>by
  unfold V5 at h;split at h<;>try (cases h;done)
  rename_i i r' hi hr;cases h
  unfold KT;simp only [hi,Wy hr,List.map_cons]
def qfy(P:Program)(t:TypeId)(parts:List (Nat×Operand))(ρ:Operand->qa)(K:List qa->Prop):Prop:=
 match w8 P t,P.underlying t with
 |some z,some (.struct fields)=>match V5 P fields.toList with
  |some pl=>Yx P (λi=>pl[i]?) ρ z parts K
  |none=>False
 |some z,some (.array _ elem)=>match P.info? elem with
  |some e=>Yx P (λi=>some (Nat.mul i e.size,e.size,elem)) ρ z parts K
  |none=>False
 |_,_=>False
theorem qjn{t:TypeId}{parts:Array (Nat×Operand)}{ρ:Operand->qa}{K:List qa->Prop}(h:qfy P t parts.toList ρ K):∃cs,Xf P t parts ρ=some cs/\K cs:=by
 unfold qfy at h;unfold Xf;split at h<;>try exact h.elim
 ·rename_i z fields hz hu;split at h<;>try exact h.elim
  rename_i pl hpl;obtain⟨cs,e,h⟩:=J0 h
  refine⟨cs,?_,h⟩
  simp only [hz,hu,Wy hpl,List.getElem?_map]
  exact e
 ·rename_i z len elem hz hu;split at h<;>try exact h.elim
  rename_i e he;obtain⟨cs,e',h⟩:=J0 h
  refine⟨cs,?_,h⟩
  simp only [hz,hu,he]
  exact e'
def qfb(v:qa)(k:qa->Prop):Prop:=match v with
 | .int t n=>k (.int t n)
 | .bool b=>k (.bool b)
 | .str []=>k (.str [])
 | .nilSlice=>k .nilSlice
 | .nilPtr=>k .nilPtr
 |v=>k v
theorem qk4(v:qa)(k:qa->Prop):qfb v k=k v:=by unfold qfb;split<;>rfl
def qav:List qa->(List qa->Prop)->Prop
 |[],k=>k []
 |v::l,k=>qfb v λv=>qav l λl=>k (v::l)
theorem Yy:∀(l:List qa) (k:List qa->Prop),qav l k=k l
 |[],_=>rfl
 |v::l,k=>by unfold qav;rw [qk4,Yy l]
def Vt(P:Program)(op:Op)(ρ:Operand->qa)(K:Made->Prop):Prop:=
 match op with
 | .alloc t=>match w8 P t with
  |some z=>qav z λz=>match Nat.ble z.length 4096 with
   |true=>K ⟨z.length,z,λb=> .ptr b 0⟩
   |false=>False
  |none=>False
 | .box t x=>Xm P t (ρ x) λcs=>match Nat.ble cs.length 4096 with
  |true=>K ⟨cs.length,cs,λb=> .ptr b 0⟩
  |false=>False
 | .buildSlice t len parts=>match P.underlying t with
  |some (.slice elem)=>match w8 P elem,P.info? elem with
   |some z,some e=>match Nat.ble (Nat.mul len e.size) 4096,Nat.beq e.size 0 with
    |true,false=>Yx P (λi=>some (Nat.mul i e.size,e.size,elem)) ρ (VK z len) parts.toList λcs=>K ⟨Nat.mul len e.size,cs,λb=> .slice b 0 len e.size true⟩
    |_,_=>False
   |_,_=>False
  |_=>False
 | .makeSlice t l c=>match P.underlying t with
  |some (.slice elem)=>match w8 P elem,P.info? elem with
   |some z,some e=>match Nat.beq e.size 0 with
    |false=>match ρ l,ρ c with
     | .int _ n,.int _ m=>n=m/\0<=n/\n.toNat*e.size<=9223372036854775807/\n.toNat*e.bytes<=140737488355328/\n.toNat<=9223372036854775807/\
       K ⟨Nat.mul n.toNat e.size,VK z n.toNat,λb=> .slice b 0 n.toNat e.size true⟩
     |_,_=>False
    |true=>False
   |_,_=>False
  |_=>False
 |_=>False
theorem jH{a b:Nat}(h:a<=b):Nat.ble a b=true:=by rw [Nat.ble_eq];exact h
theorem qcy{op:Op}{ρ:Operand->qa}{K:Made->Prop}(h:Vt P op ρ K):∃m,made P op ρ=some m/\Nat.ble m.n 9223372036854775807=true/\K m:=by
 unfold Vt at h;split at h<;>try exact h.elim
 ·split at h<;>try exact h.elim
  rename_i z hz;rw [Yy]at h;split at h<;>try exact h.elim
  rename_i hb;refine⟨_,?_,jH (Nat.le_trans (Nat.le_of_ble_eq_true hb) (by decide)),h⟩
  simp only [made,Z1,hz]
 ·obtain⟨cs,hcs,h⟩:=KA h
  split at h<;>try exact h.elim
  rename_i hb;refine⟨_,?_,jH (Nat.le_trans (Nat.le_of_ble_eq_true hb) (by decide)),h⟩
  simp only [made,Kc,hcs,qS]
 ·rename_i t len parts;split at h<;>try exact h.elim
  rename_i elem hu;split at h<;>try exact h.elim
  rename_i z e hz he;split at h<;>try exact h.elim
  rename_i h1 h2;obtain⟨cs,e',h⟩:=J0 h
  refine⟨_,?_,jH (Nat.le_trans (Nat.le_of_ble_eq_true h1) (by decide)),h⟩
  simp only [made,vS,hu,hz,he,h1,h2]
  have e2:QS (λi=>some (Nat.mul i e.size,e.size)) ρ (VK z len) parts.toList=some cs:=e'
  rw [e2]
 ·rename_i t l c;split at h<;>try exact h.elim
  rename_i elem hu;split at h<;>try exact h.elim
  rename_i z e hz he;split at h<;>try exact h.elim
  rename_i h0;split at h<;>try exact h.elim
  rename_i k1 n k2 m hl hc;obtain⟨rfl,hn,g1,g2,g3,h⟩:=h
  refine⟨_,?_,jH g1,h⟩
  have b0:Nat.beq n.toNat n.toNat=true:=Nat.beq_refl _
  have b1:Nat.ble (Nat.mul n.toNat e.size) 9223372036854775807=true:=jH g1
  have b2:Nat.ble (Nat.mul n.toNat e.bytes) 140737488355328=true:=jH g2
  simp only [made,ZC,hu,hz,he,hl,hc,y4 hn,b0,b1,b2,h0,jH g3,qS]
def qje(m:Made)(nx:Nat)(H:qc):qc:=zS nx (some (.cells m.n (CT.ofL m.n m.l) [] false)) H
def z3(H:qc)(nx esz ebytes:Nat)(s:qa)(n:Nat)(new:List qa):Option (qa×qc×Nat):=
 match n with
 |0=>match s with
  | .nilSlice=>some (.nilSlice,H,nx)
  | .slice b off len e full=>some (.slice b off len e full,H,nx)
  |_=>none
 |Nat.succ n'=>match s with
  | .nilSlice=>match Nat.ble (Nat.mul (Nat.succ n') esz) 9223372036854775807,Nat.ble (Nat.mul (Nat.succ n') ebytes) 140737488355328 with
   |true,true=>some (.slice nx 0 (Nat.succ n') esz false,zS nx (some (.cells (Nat.mul (Nat.succ n') esz) (CT.ofL (Nat.mul (Nat.succ n') esz) new) [] false)) H,Nat.succ nx)
   |_,_=>none
  | .slice b off len e full=>match zf b H,Nat.beq e esz,Nat.ble (Nat.mul (Nat.add len (Nat.succ n')) esz) 9223372036854775807,Nat.ble (Nat.mul (Nat.add len (Nat.succ n')) ebytes) 140737488355328 with
   |some (.cells cnt ct olds sup),true,true,true=>match Nat.ble (Nat.add off (Nat.mul len esz)) cnt,full with
    |true,true=>some (.slice nx 0 (Nat.add len (Nat.succ n')) esz false,
      zS nx (some (.cells (Nat.mul (Nat.add len (Nat.succ n')) esz) (CT.ofL (Nat.mul (Nat.add len (Nat.succ n')) esz) (CT.slab ct (Nat.mul len esz) off++new)) [] false)) H,Nat.succ nx)
    |true,false=>match off,sup with
     |0,false=>some (.slice nx 0 (Nat.add len (Nat.succ n')) esz false,
       qcq b cnt ct olds (Nat.mul len esz) H nx (Nat.mul (Nat.add len (Nat.succ n')) esz) (CT.lay new (Nat.mul len esz) (CT.widen (Nat.mul (Nat.add len (Nat.succ n')) esz) ct)),Nat.succ nx)
     |_,_=>none
    |_,_=>none
   |_,_,_,_=>none
  |_=>none
theorem qhe{elem:TypeId}{s:qa}{src:Nat->Option (Nat×List qa)}{z:List qa}{e:TypeInfo}{n:Nat}{new:List qa}{v:qa}{H':qc}{nx':Nat}
  (hz:w8 P elem=some z) (he:P.info? elem=some e) (hs:src e.size=some (n,new)) (h0:Nat.beq e.size 0=false) (h:z3 H nx e.size e.bytes s n new=some (v,H',nx')):
  yF P elem H nx s src=some (.val v H' nx'):=by
 have hn:Nat.ble (Nat.succ nx) (Nat.succ nx)=true:=jH lR
 unfold z3 at h;unfold yF;simp only [hz,he,hs,h0,hn]
 cases n with
 |zero=>
  simp only []at h ⊢
  split at h<;>first|(cases h;done)|(cases h;rfl)
 |succ n'=>
  simp only []at h ⊢
  split at h<;>try (cases h;done)
  ·split at h<;>try (cases h;done)
   rename_i g1 g2;cases h
   simp only [g1,g2,qS]
  ·split at h<;>try (cases h;done)
   rename_i g0 g1 g2 g3;split at h<;>try (cases h;done)
   ·rename_i g4;cases h
    simp only [g0,g1,g2,g3,g4,qS]
   ·rename_i g4;split at h<;>try (cases h;done)
    cases h
    simp only [g0,g1,g2,g3,g4,qS]
def qfw(z:List qa)(size:Nat)(x:qa):Option (Nat×List qa):=
 match x with
 | .int .i64 (.ofNat n)=>match Nat.ble (Nat.mul n size) 9223372036854775807,Nat.ble n 9223372036854775807 with
  |true,true=>some (n,VK z n)
  |_,_=>none
 |_=>none
theorem qj9{elem:TypeId}{z:List qa}{size:Nat}{x:qa}{r:Nat×List qa}(hz:w8 P elem=some z)(h:qfw z size x=some r):Jq P elem size x=some r:=by
 unfold qfw at h;split at h<;>try (cases h;done)
 split at h<;>try (cases h;done)
 rename_i g1 g2;cases h
 unfold Jq;simp only [hz,g1,g2]
def qub(H:qc)(esz:Nat)(d s:qa):Option (Nat×qc):=
 match d,s with
 | .slice b off len _ _,.slice b2 off2 len2 _ _=>match zf b H,zf b2 H with
  |some (.cells cnt ct olds false),some (.cells cnt2 ct2 _ _)=>match Nat.ble (Nat.add off (Nat.mul (yw len2 len) esz)) cnt,Nat.ble (Nat.add off2 (Nat.mul (yw len2 len) esz)) cnt2,qt (CT.slab ct2 (Nat.mul (yw len2 len) esz) off2)with
   |true,true,true=>some (yw len2 len,zS b (some (.cells cnt (CT.lay (CT.slab ct2 (Nat.mul (yw len2 len) esz) off2) off ct) [] false)) (yu olds H))
   |_,_,_=>none
  |_,_=>none
 | .slice _ _ _ _ _,.nilSlice=>some (0,H)
 | .nilSlice,.nilSlice=>some (0,H)
 | .nilSlice,.slice _ _ _ _ _=>some (0,H)
 |_,_=>none
theorem qrj{types:Array TypeId}{args:Array Operand}{ρ:Operand->qa}{dT elem:TypeId}{l:List TypeId}{d s:Operand}{e:TypeInfo}{n:Nat}{H':qc}
  (ht:types.toList=dT::l) (ha:args.toList=[d,s]) (hu:P.underlying dT=some (.slice elem)) (he:P.info? elem=some e) (h:qub H e.size (ρ d) (ρ s)=some (n,H')):
  K5 P types args ρ H nx=some (.val (.int .i64 (.ofNat n)) H' nx):=by
 unfold K5;simp only [ht,ha,hu,he]
 unfold qub at h;split at h
 ·rename_i hd hs;simp only [hd,hs]
  split at h<;>try (cases h;done)
  rename_i g1 g2;split at h<;>try (cases h;done)
  rename_i g3 g4 g5;cases h
  simp only [g1,g2,qS,g3,g4,g5]
 ·rename_i hd hs;cases h;simp only [hd,hs];rfl
 ·rename_i hd hs;cases h;simp only [hd,hs];rfl
 ·rename_i hd hs;cases h;simp only [hd,hs];rfl
 ·cases h
def qgj(P:Program)(x:Operand)(a:qa)(args:List qa)(K:FuncId->List qa->Prop):Prop:=
 match x with
 | .tmp _=>∃f as,zR P a args=some (f,as)/\K f as
 |_=>match zR P a args with
  |some (f,as)=>K f as
  |none=>False
theorem qct{x:Operand}{a:qa}{args:List qa}{K:FuncId->List qa->Prop}(h:qgj P x a args K):∃f as,zR P a args=some (f,as)/\K f as:=by
 unfold qgj at h;split at h
 ·exact h
 ·split at h<;>first|exact h.elim|exact⟨_,_,‹_›,h⟩
def qon(P:Program)(c:Call)(ρ:Operand->qa)(H:qc)(nx:Nat)(κ:zG->Prop):Prop:=
 match c.callee with
 | .value f=>qgj P f (ρ f) (c.args.toList.map ρ) λg as=>κ (.call g as)
 | .builtin .len=>match c.argTypes.toList,c.args.toList with
  |[t],[x]=>match P.underlying t with
   |some .string=>match ρ x with
    | .str s=>κ (.val (.int .i64 (.ofNat s.length)) H nx)
    |_=>False
   |some (.array n _)=>κ (.val (.int .i64 (.ofNat n)) H nx)
   |some (.slice _)=>∃n,zw (ρ x)=some n/\κ (.val (.int .i64 (.ofNat n)) H nx)
   |_=>False
  |_,_=>False
 | .builtin .append=>match c.argTypes.toList,c.args.toList with
  |[sT,xT],[s,x]=>match P.underlying sT,P.underlying xT with
   |some (.slice elem),some d=>match qhy d,P.info? elem,w8 P elem with
    |true,some e,some _=>match Nat.beq e.size 0 with
     |false=>∃n l,jN e.size H (ρ x)=some (n,l)/\qt l=true/\∃v H' nx',z3 H nx e.size e.bytes (ρ s) n l=some (v,H',nx')/\κ (.val v H' nx')
     |true=>False
    |false,some e,some z=>match qsd d,Nat.beq e.size 0 with
     |true,false=>∃n l,qfw z e.size (ρ x)=some (n,l)/\qt l=true/\∃v H' nx',z3 H nx e.size e.bytes (ρ s) n l=some (v,H',nx')/\κ (.val v H' nx')
     |_,_=>∃r,js P c ρ H nx=some r/\κ r
    |_,_,_=>∃r,js P c ρ H nx=some r/\κ r
   |_,_=>False
  |_,_=>False
 | .builtin .max=>match c.args.toList with
  |x::l=>match ρ x with
   | .int k n=>∃m,W1 true k n (l.map ρ)=some m/\κ (.val (.int k m) H nx)
   |_=>False
  |_=>False
 | .builtin .min=>match c.args.toList with
  |x::l=>match ρ x with
   | .int k n=>∃m,W1 false k n (l.map ρ)=some m/\κ (.val (.int k m) H nx)
   |_=>False
  |_=>False
 | .builtin .copy=>match c.argTypes.toList,c.args.toList with
  |dT::_,[d,s]=>match P.underlying dT with
   |some (.slice elem)=>match P.info? elem with
    |some e=>∃n H',qub H e.size (ρ d) (ρ s)=some (n,H')/\κ (.val (.int .i64 (.ofNat n)) H' nx)
    |none=>False
   |_=>False
  |_,_=>False
 | .builtin .recover=>match c.args.toList with
  |[]=>κ .rcv
  |_=>False
 | .invoke r name=>∃t v f byPtr u,ρ r= .iface t v/\qb2 P t name=some (f,byPtr)/\vx P f=true/\qh7 P H t v byPtr=some u/\κ (.call f (u::c.args.toList.map ρ))
 |_=>∃r,js P c ρ H nx=some r/\κ r
theorem qm7{c:Call}{ρ:Operand->qa}{κ:zG->Prop}(h:qon P c ρ H nx κ):∃r,js P c ρ H nx=some r/\κ r:=by
 obtain⟨callee,args,types⟩:=c
 unfold qon at h;simp only []at h
 split at h
 ·obtain⟨g,as,e,h⟩:=qct h
  refine⟨_,?_,h⟩
  simp only [js,Kj,e]
 ·split at h<;>try exact h.elim
  rename_i t x ht hx;split at h<;>try exact h.elim
  ·rename_i hu;split at h<;>try exact h.elim
   rename_i s hs;refine⟨_,?_,h⟩
   simp only [js,zL,ht,hx,Zp,hu,hs]
  ·rename_i n e hu;refine⟨_,?_,h⟩
   simp only [js,zL,ht,hx,Zp,hu]
  ·rename_i el hu;obtain⟨n,e,h⟩:=h
   refine⟨_,?_,h⟩
   unfold zw at e;split at e<;>try (cases e;done)
   ·rename_i hs;cases e;simp only [js,zL,ht,hx,Zp,hu,hs]
   ·rename_i hs;cases e;simp only [js,zL,ht,hx,Zp,hu,hs]
   ·rename_i hs;cases e;simp only [js,zL,ht,hx,Zp,hu,hs]
 ·split at h<;>try exact h.elim
  rename_i sT xT s x ht hx;split at h<;>try exact h.elim
  rename_i elem d hs hd;split at h<;>first|exact h|skip
  ·rename_i e z hsrc he hz;split at h<;>try exact h.elim
   rename_i h0;obtain⟨n,l,e1,e2,v,H',nx',e3,h⟩:=h
   refine⟨_,?_,h⟩
   simp only [js,ht,hx,hs,hd,hsrc,he,e1,e2]
   exact qhe hz he e1 h0 e3
  ·rename_i e z hsrc he hz;split at h<;>first|exact h|skip
   rename_i hi h0;obtain⟨n,l,e1,e2,v,H',nx',e3,h⟩:=h
   refine⟨_,?_,h⟩
   have e1':=qj9 (P:=P) (elem:=elem) hz e1
   simp only [js,ht,hx,hs,hd,hsrc,he,hi,e1',e2]
   exact qhe (src:=λsize=>Jq P elem size (ρ x)) hz he e1' h0 e3
 ·split at h<;>try exact h.elim
  rename_i x l hx;split at h<;>try exact h.elim
  rename_i k n hn;obtain⟨m,e,h⟩:=h
  refine⟨_,?_,h⟩
  simp only [js,zL,hx,hn,e,zP]
 ·split at h<;>try exact h.elim
  rename_i x l hx;split at h<;>try exact h.elim
  rename_i k n hn;obtain⟨m,e,h⟩:=h
  refine⟨_,?_,h⟩
  simp only [js,zL,hx,hn,e,zP]
 ·split at h<;>try exact h.elim
  rename_i dT l d s ht ha;split at h<;>try exact h.elim
  rename_i elem hu;split at h<;>try exact h.elim
  rename_i e he;obtain⟨n,H',e1,h⟩:=h
  refine⟨_,?_,h⟩
  simp only [js]
  exact qrj ht ha hu he e1
 ·split at h<;>try exact h.elim
  rename_i ha;refine⟨_,?_,h⟩
  simp only [js,zL,ha]
 ·obtain⟨t,v,f,byPtr,u,e1,e2,e3,e4,h⟩:=h
  refine⟨_,?_,h⟩
  simp only [js,Zk,e1,e2,e3,e4]
 ·exact h
def qmr:qa->Bool
 | .ptr _ _=>true
 | .gptr _ _=>true
 | .iface _ _=>true
 | .func (.func _) _ _=>true
 |_=>false
def qil(P:Program)(o:Oper)(ρ:Operand->qa)(H:qc)(nx:Nat)(κ:zG->Prop):Prop:=
 match o.op with
 | .move x=>κ (.val (ρ x) H nx)
 | .assign x=>κ (.val (ρ x) H nx)
 | .pick c a b=>match ρ c with
  | .bool p=>Bool.rec (κ (.val (ρ b) H nx)) (κ (.val (ρ a) H nx)) p
  |_=>False
 | .load t a=>vn P t H (ρ a) λv=>κ (.val v H nx)
 | .store t a x=>qf1 P t H (ρ a) (ρ x) λH'=>κ (.val .und H' nx)
 | .nilCheck x=>qmr (ρ x)=true/\κ (.val (ρ x) H nx)
 | .binOp op t x y _=>qu5 P op t x y (ρ x) (ρ y) λv=>κ (.val v H nx)
 | .unOp .neg _ x=>match ρ x with
  | .int k n=>κ (.val (.int k (k.wrap (0 - n))) H nx)
  |_=>False
 | .unOp .not _ x=>match ρ x with
  | .bool b=>κ (.val (.bool (!b)) H nx)
  |_=>False
 | .convert s d x=>qnh P s d (ρ x) H λv=>κ (.val v H nx)
 | .makeInterface t x=>match P.underlying t with
  |some d=>match qan d with
   |false=>κ (.val (.iface t (ρ x)) H nx)
   |true=>False
  |none=>False
 | .makeFunc fn a b=>κ (.val (.func fn (a.toList.map ρ) (b.toList.map ρ)) H nx)
 | .slice t x lo hi mx=>qeq P t (ρ x) (lo.map ρ) (hi.map ρ) (mx.map ρ) H λv=>κ (.val v H nx)
 | .fieldAddr s x f=>Jl P s f (ρ x) λv=>κ (.val v H nx)
 | .field t x f=>match Qz P t x f ρ H nx with
  |some r=>κ r
  |none=>False
 | .indexAddr t x i=>JD P t (ρ x) (ρ i) λv=>κ (.val v H nx)
 | .index t x i=>qg4 P t (ρ x) (ρ i) λv=>κ (.val v H nx)
 | .extract t i=>match v3 t i ρ H nx with
  |some r=>κ r
  |none=>False
 | .build t ps=>qfy P t ps.toList ρ λcs=>κ (.val (.agg cs) H nx)
 | .alloc t=>Vt P (.alloc t) ρ λm=>∃H',H'=qje m nx H/\κ (.val (m.v nx) H' (nx+1))
 | .box t x=>Vt P (.box t x) ρ λm=>∃H',H'=qje m nx H/\κ (.val (m.v nx) H' (nx+1))
 | .buildSlice t n ps=>Vt P (.buildSlice t n ps) ρ λm=>∃H',H'=qje m nx H/\κ (.val (m.v nx) H' (nx+1))
 | .makeSlice t l c=>Vt P (.makeSlice t l c) ρ λm=>∃H',H'=qje m nx H/\κ (.val (m.v nx) H' (nx+1))
 | .call c=>qon P c ρ H nx κ
 | .defer c=>match c.callee with
  | .value f=>qgj P f (ρ f) (c.args.toList.map ρ) λg as=>κ (.dfr g as)
  |_=>False
 | .panic x=>∃t v,ρ x= .iface t v/\κ (.pan (.iface t v))
 | .typeAssert x _ a ok=>match ok with
  |true=>match VU P (ρ x) a true with
   |some v=>K6 P o.type v λv=>κ (.val v H nx)
   |none=>False
  |false=>∃v,VU P (ρ x) a false=some v/\K6 P o.type v λv=>κ (.val v H nx)
 |_=>∃r,aop P o ρ H nx=some r/\κ r
theorem Wa{op:Op}{ρ:Operand->qa}{κ:zG->Prop}(h:Vt P op ρ λm=>∃H',H'=qje m nx H/\κ (.val (m.v nx) H' (Nat.succ nx))):∃r,kR P op ρ H nx=some r/\κ r:=by
 obtain⟨m,e,hb,_,rfl,h⟩:=qcy h
 refine⟨_,?_,h⟩
 have hn:Nat.ble (Nat.succ nx) (Nat.succ nx)=true:=jH lR
 simp only [kR,e,qa5,hb,hn,qS]
 rfl
theorem V7{ρ:Operand->qa}{κ:zG->Prop}(h:qil P o ρ H nx κ):∃r,aop P o ρ H nx=some r/\κ r:=by
 unfold qil at h;unfold aop;split at h
 ·rename_i e;rw [e];exact⟨_,rfl,h⟩
 ·rename_i e;rw [e];exact⟨_,rfl,h⟩
 ·rename_i e;rw [e];split at h<;>try exact h.elim
  rename_i p hp;cases p with
  |true=>exact⟨_,by simp only [Q6,hp],h⟩
  |false=>exact⟨_,by simp only [Q6,hp],h⟩
 ·rename_i e;rw [e];obtain⟨v,e1,h⟩:=WO h;exact⟨_,by simp only [Vf,e1],h⟩
 ·rename_i e;rw [e];obtain⟨v,e1,h⟩:=qjl h;exact⟨_,by simp only [wR,e1],h⟩
 ·rename_i x e;rw [e];obtain⟨h1,h⟩:=h
  refine⟨_,?_,h⟩
  show kO x ρ H nx=_
  unfold kO;unfold qmr at h1;split at h1<;>first|(cases h1;done)|(rename_i q;simp only [q])
 ·rename_i e;rw [e];obtain⟨v,e1,h⟩:=qpq h;exact⟨_,e1,h⟩
 ·rename_i e;rw [e];split at h<;>try exact h.elim
  rename_i k n hx;exact⟨_,by simp only [qdo,hx,zP,Qf];rfl,h⟩
 ·rename_i e;rw [e];split at h<;>try exact h.elim
  rename_i b hx;exact⟨_,by simp only [qdo,hx,wL],h⟩
 ·rename_i e;rw [e];obtain⟨v,e1,h⟩:=qn8 h;exact⟨_,e1,h⟩
 ·rename_i t x e;rw [e];split at h<;>try exact h.elim
  rename_i d hu;split at h<;>try exact h.elim
  rename_i hi;exact⟨_,by simp only [jr,hu,hi],h⟩
 ·rename_i e;rw [e];exact⟨_,rfl,h⟩
 ·rename_i e;rw [e];obtain⟨v,e1,h⟩:=qij h;exact⟨_,e1,h⟩
 ·rename_i e;rw [e];obtain⟨v,e1,h⟩:=XK h;exact⟨_,e1,h⟩
 ·rename_i e;rw [e];split at h<;>first|exact h.elim|exact⟨_,‹_›,h⟩
 ·rename_i e;rw [e];obtain⟨v,e1,h⟩:=XS h;exact⟨_,e1,h⟩
 ·rename_i e;rw [e];obtain⟨v,e1,h⟩:=qjb h;exact⟨_,e1,h⟩
 ·rename_i e;rw [e];split at h<;>first|exact h.elim|exact⟨_,‹_›,h⟩
 ·rename_i e;rw [e];obtain⟨v,e1,h⟩:=qjn h;exact⟨_,by simp only [Qu,e1],h⟩
 ·rename_i e;rw [e];exact Wa h
 ·rename_i e;rw [e];exact Wa h
 ·rename_i e;rw [e];exact Wa h
 ·rename_i e;rw [e];exact Wa h
 ·rename_i e;rw [e];exact qm7 h
 ·rename_i c e;rw [e];split at h<;>try exact h.elim
  rename_i f hf;obtain⟨g,as,e1,h⟩:=qct h
  refine⟨_,?_,h⟩
  simp only [QY,hf,JO,e1]
 ·rename_i e;rw [e];obtain⟨t,v,e1,h⟩:=h
  exact⟨_,by simp only [J3,e1],h⟩
 ·rename_i x xt a ok e;rw [e];split at h
  ·split at h<;>try exact h.elim
   rename_i v e1;exact⟨_,by simp only [wC,e1],ZU h⟩
  ·obtain⟨v,e1,h⟩:=h
   exact⟨_,by simp only [wC,e1],ZU h⟩
 ·exact h
def qs6(P:Program)(o:Oper)(ρ:Operand->qa)(H:qc)(nx:Nat)(κ:zG->Prop):Prop:=
 qil P o ρ H nx κ
theorem qdt{ρ:Operand->qa}{κ:zG->Prop}(hany:∀Q,(∀v H' nx',Q v H' nx'->κ (.val v H' nx'))->κ (.any Q))(h:qs6 P o ρ H nx κ):∃r,zE P o ρ H nx r/\κ r:=by
 obtain⟨r,e,h⟩:=V7 h
 exact⟨r,K9 e,h⟩
end
end Go.Vs
end
section
namespace Go.Vs
variable [GTab] {P:Program} {H:qc} {nx:Nat} {w:World} {ops:Array Oper} {o:Oper} {nt:Nat} {env:Env}
noncomputable section
abbrev KC:=Env->qc->Nat->Dfs->Option qw->Prop
abbrev KP:=qhb->KC
abbrev qr:=qg->qc->Nat->Prop
abbrev zm:=FuncId->List qa->qc->Nat->qr->Prop
abbrev Vg:=FuncId->List qa->qw->qc->Nat->(qg->qw->qc->Nat->Prop)->Prop
abbrev jl:=Code->Env->qc->Nat->Dfs->Option qw->KP->Prop
def qo(P:Program):zm:=λf args H nx K=>
 ∀(σ:Sg) (w:World) (args':List Value) (R:Ending->World->Prop),Rel σ H nx w->zj σ args args'->
  (∀e H' nx' σ' w' en,K e H' nx'->Rel σ' H' nx' w'->Ext σ σ' H H' nx nx' w w'->qb8 σ' e en->R en w')->Calls P f ⟨args'⟩ w R
def qM(P:Program):Vg:=λf args m H nx K=>vx P f=true/\
 ∀(σ:Sg) (w:World) (args':List Value) (u:FrameMode) (R:Ending->FrameMode->World->Prop),Rel σ H nx w->zj σ args args'->QX σ m u->
  (∀e m' H' nx' σ' w' en u',K e m' H' nx'->Rel σ' H' nx' w'->Ext σ σ' H H' nx nx' w w'->qb8 σ' e en->QX σ' m' u'->R en u' w')->CallsD P f ⟨args'⟩ u w R
def QI(P:Program)(call:zm):Prop:=∀f args H nx K,call f args H nx K->qo P f args H nx K
def qp5(P:Program)(calld:Vg):Prop:=∀f args m H nx K,calld f args m H nx K->qM P f args m H nx K
theorem qo.mono{f:FuncId}{args:List qa}{K K':qr}(h:qo P f args H nx K)(hk:∀e H' nx',K e H' nx'->K' e H' nx'):qo P f args H nx K':=
 λσ w args' R hr hd hR=>h σ w args' R hr hd λe H' nx' σ' w' en k=>hR e H' nx' σ' w' en (hk _ _ _ k)
def qj(e:qg)(r:qa->Prop)(p:List (qa×Bool)->Prop):Prop:=(∀v,e= .ret v->r v)/\(∀l,e= .pan l->p l)
def qsa(P:Program)(call:zm)(ty:TypeId)(d:Option Nat)(r:zG)(env:Env)(H:qc)(nx:Nat)(dfs:Dfs)(rc:Option qw)(k:KC)(K:KP):Prop:=
 match r with
 | .val v H' nx'=>k (put d v env) H' nx' dfs rc
 | .call f args=>call f args H nx λe H' nx'=>qj e (λv=>K6 P ty v λv=>k (put d v env) H' nx' dfs rc) (λl=>K (.pan l) env H' nx' dfs rc)
 | .dfr f args=>k (put d (.tuple []) env) H nx ((f,args)::dfs) rc
 | .pan v=>K (.pan [(v,false)]) env H nx dfs rc
 | .rcv=>match rc with
  |some (.panicking ((v,false)::older))=>k (put d v env) H nx dfs (some (.panicking ((v,true)::older)))
  |some .returning=>k (put d .nilIface env) H nx dfs rc
  |_=>False
 | .any Q=>∀v H' nx',Q v H' nx'->k (put d v env) H' nx' dfs rc
theorem X7{t:Nat}{v:qa}(h:get2 t env=v):Zq t v env=env:=by
 funext s
 show(Bool.rec (env s) v (Nat.beq s t):qa)=env s
 cases e:Nat.beq s t with
 |false=>rfl
 |true=>have:=Nat.eq_of_beq_eq_true e;subst this;exact h.symm
def ifB(b:Bool)(p q:Prop):Prop:=Bool.rec q p b
theorem qf{b:Bool}{p q:Prop}:ifB b p q↔(b=true->p)/\(b=false->q):=by cases b<;>simp [ifB]
def KE(ops:Array Oper)(g:Option (Nat×Bool))(env:Env)(run skip:Env->Prop):Prop:=
 match g with
 |none=>run env
 |some (j,want)=>match(ops[j]?).bind (·.dst)with
  |some t=>match Nat.ble t 4095 with
   |true=>match get2 t env with
    | .bool b=>Bool.rec (Bool.rec (run (Zq t (.bool false) env)) (skip (Zq t (.bool false) env)) want) (Bool.rec (skip (Zq t (.bool true) env)) (run (Zq t (.bool true) env)) want) b
    | .tuple []=>skip env
    |_=>False
   |false=>False
  |none=>skip env
theorem y5{g:Option (Nat×Bool)}{run skip:Env->Prop}(h:KE ops g env run skip):
  (jd ops g env=some true/\run env)\/(jd ops g env=some false/\skip env):=by
 unfold KE at h;unfold jd;split at h
 ·exact .inl ⟨rfl,h⟩
 ·rename_i j want;simp only []
  split at h
  ·rename_i t ht;split at h<;>try exact h.elim
   rename_i hb;split at h<;>try exact h.elim
   ·rename_i b hv;simp only [ht,hb,hv]
    cases b<;>cases want
    all_goals
     simp only [X7 hv]at h
     first
     |exact .inl ⟨by first|rfl|trivial,h⟩
     |exact .inr ⟨by first|rfl|trivial,h⟩
   ·rename_i hv;simp only [ht,hb,hv]
    exact .inr ⟨by first|rfl|trivial,h⟩
  ·rename_i ht;simp only [ht]
   exact .inr ⟨by first|rfl|trivial,h⟩
def vOp(P:Program)(call:zm)(nt:Nat)(ops:Array Oper)(o:Oper)(env:Env)(H:qc)(nx:Nat)(dfs:Dfs)(rc:Option qw)(k:KC)(K:KP):Prop:=
 match Qp nt o.dst with
 |true=>KE ops o.guard env (λenv=>qs6 P o (aev env) H nx λr=>qsa P call o.type o.dst r env H nx dfs rc k K) (λenv=>k (put o.dst (.tuple []) env) H nx dfs rc)
 |false=>False
def qag(P:Program)(call:zm)(nt:Nat)(ops:Array Oper)(K:KP):List Oper->KC
 |[]=>λenv H nx dfs rc=>K .normal env H nx dfs rc
 |o::l=>λenv H nx dfs rc=>vOp P call nt ops o env H nx dfs rc (qag P call nt ops K l) K
def J6(nt:Nat)(K:KP)(σ:Sg)(H:qc)(nx:Nat)(w:World)(Q:Exit->Act->World->Prop):Prop:=
 ∀ex env' H' nx' dfs' σ' w' a' e,K ex env' H' nx' dfs' none->Rel σ' H' nx' w'->Ext σ σ' H H' nx nx' w w'->kT σ' nt env' dfs' a'->qck σ' ex e->Q e a' w'
def Wi(nt:Nat)(K:KP)(σ:Sg)(H:qc)(nx:Nat)(w:World)(c₀:Frame)(cs:List Frame)(Q:Exit->Act->List Frame->World->Prop):Prop:=
 ∀ex env' H' nx' dfs' m' σ' w' a' e u',K ex env' H' nx' dfs' (some m')->Rel σ' H' nx' w'->Ext σ σ' H H' nx nx' w w'->kT σ' nt env' dfs' a'->qck σ' ex e->QX σ' m' u'->
  Q e a' ({c₀ with mode:=u'}::cs) w'
theorem J6.from{K:KP}{σ σ1:Sg}{H H1:qc}{nx nx1:Nat}{w w1:World}{Q:Exit->Act->World->Prop}(h:J6 nt K σ H nx w Q)(E:Ext σ σ1 H H1 nx nx1 w w1):
  J6 nt K σ1 H1 nx1 w1 Q:=λex env' H' nx' dfs' σ' w' a' e hk R E2 A X=>h ex env' H' nx' dfs' σ' w' a' e hk R (E.trans E2) A X
theorem Wi.from{K:KP}{σ σ1:Sg}{H H1:qc}{nx nx1:Nat}{w w1:World}{c₀:Frame}{cs:List Frame}{Q:Exit->Act->List Frame->World->Prop}(h:Wi nt K σ H nx w c₀ cs Q)(E:Ext σ σ1 H H1 nx nx1 w w1):
  Wi nt K σ1 H1 nx1 w1 c₀ cs Q:=λex env' H' nx' dfs' m' σ' w' a' e u' hk R E2 A X M=>h ex env' H' nx' dfs' m' σ' w' a' e u' hk R (E.trans E2) A X M
theorem W4{call:zm}{dfs:Dfs}{rc:Option qw}{r:zG}{k:KC}{K:KP}{ty:TypeId}
  (hc:QI P call) (hok:zE P o (aev env) H nx r) (hdst:Qp nt o.dst=true) (hnr:r≠ .rcv) (ht:qsa P call ty o.dst r env H nx dfs rc k K)
  {σ:Sg} {w:World} {a:Act} {next:Act->World->Prop} {Q:Exit->Act->World->Prop} (hr:Rel σ H nx w) (ha:kT σ nt env dfs a)
  (hn:∀env1 H1 nx1 dfs1 σ1 w1 a1,k env1 H1 nx1 dfs1 rc->Rel σ1 H1 nx1 w1->Ext σ σ1 H H1 nx nx1 w w1->kT σ1 nt env1 dfs1 a1->next a1 w1)
  (hp:∀l H1 nx1 σ1 w1 c,K (.pan l) env H1 nx1 dfs rc->Rel σ1 H1 nx1 w1->Ext σ σ1 H H1 nx nx1 w w1->kA σ1 l c->Q (.panic c) a w1):
  qts P o a w/\o.wp P a w next Q:=by
 cases r with
 |val v H' nx'=>
  obtain⟨σ',w',v',R,E,D,hrun⟩:=hok σ w a.eval hr ha.env.aev
  rcases hrun with hrun|⟨hrun,rfl⟩
  ·exact⟨(λw2 e=>by rw [hrun]at e;cases e),by unfold Oper.wp;rw [hrun];exact hn _ _ _ _ σ' w' _ ht R E ((ha.mono E.sub).put hdst D)⟩
  ·exact⟨(λw2 e=>by rw [hrun]at e;cases e),by unfold Oper.wp;rw [hrun];exact hn _ _ _ _ σ' w' _ ht R E ((ha.mono E.sub).put hdst D)⟩
 |call f args=>
  have tri:=hc f args H nx _ ht
  obtain⟨args',hl,hrun⟩:=hok σ w a.eval hr ha.env.aev
  refine⟨(λw2 e=>by rw [hrun]at e;cases e),?_⟩
  unfold Oper.wp;rw [hrun];show Calls P f ⟨args'⟩ w _
  refine tri σ w args' _ hr hl λe H' nx' σ' w' en hk R E he=> ?_
  cases e with
  |ret v=>
   cases en with
   |returned v'=>exact hn _ _ _ _ σ' w' _ (ZU (hk.1 v rfl)) R E ((ha.mono E.sub).put hdst he)
   |panicked c=>exact he.elim
   |outgrown=>exact he.elim
  |pan l=>
   cases en with
   |returned v'=>exact he.elim
   |panicked c=>exact hp l H' nx' σ' w' c (hk.2 l rfl) R E he
   |outgrown=>exact he.elim
 |dfr f args=>
  obtain⟨d,hd,hrun⟩:=hok σ w a.eval hr ha.env.aev
  refine⟨(λw2 e=>by rw [hrun]at e;cases e),?_⟩
  unfold Oper.wp;rw [hrun];refine hn _ _ _ _ σ w _ ht hr (Ext.refl _ _ _ _) ⟨?_,?_⟩
  ·have h1:kQ σ nt (put o.dst (.tuple []) env) (a.put o.dst undef).tmps:=ha.env.put hdst (.tuple .nil)
   have e:(({a with defers:=d::a.defers}:Act).put o.dst undef).tmps=(a.put o.dst undef).tmps:=by cases o.dst<;>rfl
   rw [e];exact h1
  ·have e:(({a with defers:=d::a.defers}:Act).put o.dst undef).defers=d::a.defers:=by cases o.dst<;>rfl
   rw [e];exact .cons hd ha.dfs
 |pan v=>
  obtain⟨v',dv,hrun⟩:=hok σ w a.eval hr ha.env.aev
  refine⟨(λw2 e=>by rw [hrun]at e;cases e),?_⟩
  unfold Oper.wp;rw [hrun];exact hp [(v,false)] H nx σ w [{v:=v',recovered:=false}] ht hr (Ext.refl _ _ _ _) (.cons dv rfl rfl .nil)
 |rcv=>exact(hnr rfl).elim
 |any Q=>
  obtain⟨v,H',nx',σ',w',v',hq,R,E,D,hrun⟩:=hok σ w a.eval hr ha.env.aev
  exact⟨(λw2 e=>by rw [hrun]at e;cases e),by unfold Oper.wp;rw [hrun];exact hn _ _ _ _ σ' w' _ (ht v H' nx' hq) R E ((ha.mono E.sub).put hdst D)⟩
theorem KI{call:zm}{K:KP}(hc:QI P call):∀(l:List Oper) (env:Env) (H:qc) (nx:Nat) (dfs:Dfs),qag P call nt ops K l env H nx dfs none->
  ∀σ w a Q,Rel σ H nx w->kT σ nt env dfs a->J6 nt K σ H nx w Q->wpList P ops Q l a w
 |[],env,H,nx,dfs,h,σ,w,a,Q,hr,ha,hQ=>hQ .normal env H nx dfs σ w a .normal h hr (Ext.refl _ _ _ _) ha trivial
 |o::l,env,H,nx,dfs,h,σ,w,a,Q,hr,ha,hQ=>by
  have h':vOp P call nt ops o env H nx dfs none (qag P call nt ops K l) K:=h
  unfold vOp at h';split at h'<;>first|exact h'.elim|skip
  rename_i hdst;rcases y5 h' with⟨hw,h'⟩|⟨hw,h'⟩
  ·obtain⟨r,hop,h'⟩:=qdt (λQ h=>h) h'
   have hnr:r≠ .rcv:=by
    rintro rfl
    exact h'.elim
   unfold wpList;rw [if_pos (vk hw ha.env)];refine .inl (W4 hc hop hdst hnr h' hr ha (λenv1 H1 nx1 dfs1 σ1 w1 a1 hk R1 E1 A1=>KI hc l env1 H1 nx1 dfs1 hk σ1 w1 a1 Q R1 A1 (hQ.from E1)) λlp H1 nx1 σ1 w1 c hk R1 E1 C1=> ?_).2
   exact hQ (.pan lp) env H1 nx1 dfs σ1 w1 a (.panic c) hk R1 E1 (ha.mono E1.sub) C1
  ·exact qli (vk hw ha.env) (KI hc l _ H nx dfs h' σ w _ Q hr (ha.put hdst (.tuple .nil)) hQ)
theorem Yd{call:zm}{K:KP}(hc:QI P call):∀(l:List Oper) (n:Nat) (env:Env) (H:qc) (nx:Nat) (dfs:Dfs) (m:qw),(∀j,l[j]?=ops[n+j]?)->qag P call nt ops K l env H nx dfs (some m)->
  ∀σ w a u (c₀:Frame) cs Q,Rel σ H nx w->kT σ nt env dfs a->QX σ m u->Wi nt K σ H nx w c₀ cs Q->wpOpsS P ops Q (List.range' n l.length) a ({c₀ with mode:=u}::cs) w
 |[],n,env,H,nx,dfs,m,_,h,σ,w,a,u,c₀,cs,Q,hr,ha,hm,hQ=>hQ .normal env H nx dfs m σ w a .normal u h hr (Ext.refl _ _ _ _) ha trivial hm
 |o::l,n,env,H,nx,dfs,m,hl,h,σ,w,a,u,c₀,cs,Q,hr,ha,hm,hQ=>by
  have ho:ops[n]?=some o:=by simpa using (hl 0).symm
  have hl':∀j,l[j]?=ops[n+1+j]?:=λj=>by have:=hl (j+1);simpa [Nat.add_assoc,Nat.add_comm 1 j]using this
  have h':vOp P call nt ops o env H nx dfs (some m) (qag P call nt ops K l) K:=h
  unfold vOp at h';split at h'<;>first|exact h'.elim|skip
  rename_i hdst;have next:∀env1 H1 nx1 dfs1 m1 σ1 w1 a1 u1,qag P call nt ops K l env1 H1 nx1 dfs1 (some m1)->Rel σ1 H1 nx1 w1->Ext σ σ1 H H1 nx nx1 w w1->kT σ1 nt env1 dfs1 a1->QX σ1 m1 u1->
    wpOpsS P ops Q (List.range' (n+1) l.length) a1 ({c₀ with mode:=u1}::cs) w1:=
   λenv1 H1 nx1 dfs1 m1 σ1 w1 a1 u1 hk R1 E1 A1 M1=>Yd hc l (n+1) env1 H1 nx1 dfs1 m1 hl' hk σ1 w1 a1 u1 c₀ cs Q R1 A1 M1 (hQ.from E1)
  rw [List.length_cons,List.range'_succ];simp only [wpOpsS,ho]
  rcases y5 h' with⟨hw,h1⟩|⟨hw,h1⟩
  ·obtain⟨r,hop,h2⟩:=qdt (λQ h=>h) h1
   rw [if_pos (vk hw ha.env)];by_cases hrcv:r= .rcv
   ·subst hrcv;have hok:=hop
    have hrun:=hok σ w a.eval hr ha.env.aev
    simp only [hrun]
    have h3:(match some m with
     |some (.panicking ((v,false)::older))=>qag P call nt ops K l (put o.dst v env) H nx dfs (some (.panicking ((v,true)::older)))
     |some .returning=>qag P call nt ops K l (put o.dst .nilIface env) H nx dfs (some m)
     |_=>False):=h2
    split at h3<;>try exact h3.elim
    ·rename_i v older hm0;cases hm0
     cases u with
     |run=>exact hm.elim
     |returning=>exact hm.elim
     |panicking ch=>
      cases hm with
      | @cons _ _ p _ l' hv hrr hg t=>
       obtain⟨pv,pr,pg⟩:=p
       simp only at hv hrr hg
       subst hrr;subst hg;simp only [recoverD]
       exact next _ _ _ _ _ σ w _ (.panicking ({v:=pv,recovered:=true}::l')) h3 hr (Ext.refl _ _ _ _) (ha.put hdst hv) (.cons hv rfl rfl t)
    ·rename_i hm0;cases hm0
     cases u with
     |run=>exact hm.elim
     |panicking ch=>exact hm.elim
     |returning=>
      simp only [recoverD]
      exact next _ _ _ _ _ σ w _ .returning h3 hr (Ext.refl _ _ _ _) (ha.put hdst .nilIface) trivial
   ·obtain⟨hnr,hwp⟩:=W4 (next:=λa' w'=>wpOpsS P ops Q (List.range' (n+1) l.length) a' ({c₀ with mode:=u}::cs) w') (Q:=λe a' w'=>Q e a' ({c₀ with mode:=u}::cs) w')
     hc hop hdst hrcv h2 hr ha
     (λenv1 H1 nx1 dfs1 σ1 w1 a1 hk R1 E1 A1=>next env1 H1 nx1 dfs1 m σ1 w1 a1 u hk R1 E1 A1 (hm.mono E1.sub))
     (λlp H1 nx1 σ1 w1 c hk R1 E1 C1=>hQ (.pan lp) env H1 nx1 dfs m σ1 w1 a (.panic c) u hk R1 E1 (ha.mono E1.sub) C1 (hm.mono E1.sub))
    unfold Oper.wp at hwp;split
    ·rename_i w2 e2;exact(hnr w2 e2).elim
    ·exact hwp
  ·rw [if_neg (by rw [vk hw ha.env];simp)]
   exact next _ _ _ _ m σ w _ u h1 hr (Ext.refl _ _ _ _) (ha.put hdst (.tuple .nil)) hm
def qt8(k:Env->qc->Prop):Env->qc->Bool:=λenv H=> @decide (k env H) (Classical.propDecidable _)
def qvv(k:Env->qc->Nat->Prop):Env->qc->Nat->Bool:=λenv H nx=> @decide (k env H nx) (Classical.propDecidable _)
def qn9(call:zm):Za:=λf args H nx K=> @decide (call f args H nx λe H nx=>K e H nx=true) (Classical.propDecidable _)
def qvi(K:KP)(env0:Env):qj5:=λe _ H nx dfs rc=> @decide (K e env0 H nx dfs rc) (Classical.propDecidable _)
theorem jx{p:Prop}: @decide p (Classical.propDecidable _)=true↔p:= @decide_eq_true_iff p (Classical.propDecidable _)
theorem qba{call:zm}(hc:QI P call):qbr P (qn9 call):=by
 intro f args H nx K h;exact hc f args H nx _ (jx.1 h)
def qb4(P:Program)(ops:Array Oper)(res:Nat)(o:Oper)(i:Nat)(env:Env)(H:qc)(nx:Nat)(k:Env->qc->Prop):Prop:=
 KE ops o.guard env
  (λenv=>match Nat.beq (cls o.op) 1 with
   |true=>Vt P o.op (aev env) λm=>∃H',H'=qje m (Nat.add res i) H/\k (put o.dst (m.v (Nat.add res i)) env) H'
   |false=>qil P o (aev env) H nx λr=>match r with
    | .val v _ _=>k (put o.dst v env) H
    |_=>False)
  (λenv=>k (put o.dst (.tuple []) env) H)
theorem qjf{res:Nat}{i:Nat}{k:Env->qc->Prop}(h:qb4 P ops res o i env H nx k):yL P ops res o i env H nx (qt8 k)=true:=by
 unfold qb4 at h;unfold yL;rcases y5 h with⟨hw,h⟩|⟨hw,h⟩
 ·simp only [hw]
  split at h
  ·rename_i hc;obtain⟨m,e,hb,_,rfl,h⟩:=qcy h
   simp only [hc,e,hb,qS]
   exact jx.2 h
  ·rename_i hc;obtain⟨r,e,h⟩:=V7 h
   simp only [hc,e]
   split at h<;>first|exact h.elim|exact jx.2 h
 ·simp only [hw]
  exact jx.2 h
def QN(P:Program)(ops:Array Oper)(res:Nat)(nx:Nat)(k:Env->qc->Prop):List Nat->Env->qc->Prop
 |[]=>k
 |i::l=>λenv H=>match ops[i]? with
  |some o=>qb4 P ops res o i env H nx (QN P ops res nx k l)
  |none=>False
theorem qe1{res:Nat}{i:Nat}{k k':Env->qc->Bool}(h:yL P ops res o i env H nx k=true)(hk:∀env H,k env H=true->k' env H=true):
  yL P ops res o i env H nx k'=true:=by
 unfold yL at h ⊢;split at h<;>try (cases h;done)
 ·split at h
  ·split at h<;>try (cases h;done)
   split at h<;>try (cases h;done)
   rw [qS]at h ⊢;exact hk _ _ h
  ·split at h<;>first|(cases h;done)|exact hk _ _ h
 ·exact hk _ _ h
theorem QP{res nx:Nat}{k:Env->qc->Prop}:∀{l:List Nat} {env:Env} {H:qc},QN P ops res nx k l env H->yG P ops res nx (qt8 k) l env H=true
 |[],_,_,h=>jx.2 h
 |i::l,env,H,h=>by
  have h':(match ops[i]? with|some o=>qb4 P ops res o i env H nx (QN P ops res nx k l)|none=>False):=h
  show(match ops[i]? with|some o=>yL P ops res o i env H nx (yG P ops res nx (qt8 k) l)|none=>false)=true
  split at h'<;>first|exact h'.elim|skip
  rename_i o ho
  try simp only [ho]
  exact qe1 (qjf h') λenv H hk=>QP (jx.1 hk)
def yR(P:Program)(ops:Array Oper)(env:Env)(H:qc)(nx:Nat):List Nat->Prop
 |[]=>True
 |i::l=>(match ops[i]? with
  |some o=>KE ops o.guard env (λenv=>qil P o (aev env) H nx λr=>match r with
    | .val v _ _=>(match o.dst with
     |some d=>v=get2 d env
     |none=>True)
    |_=>False) (λenv=>match o.dst with
     |some d=>get2 d env= .tuple []
     |none=>True)
  |none=>False)/\yR P ops env H nx l
theorem vE:∀{l:List Nat},yR P ops env H nx l->wF P ops env H nx l=true
 |[],_=>rfl
 |i::l,h=>by
  obtain⟨h1,h2⟩:=h
  show(Bool.rec false (wF P ops env H nx l) (match ops[i]? with|some o=>KU P ops env H nx o|none=>false):Bool)=true
  have:(match ops[i]? with|some o=>KU P ops env H nx o|none=>false)=true:=by
   split at h1<;>try exact h1.elim
   rename_i o ho
   try simp only [ho]
   unfold KU;rcases y5 h1 with⟨hw,h1⟩|⟨hw,h1⟩
   ·simp only [hw]
    obtain⟨r,e,h1⟩:=V7 h1
    simp only [e]
    split at h1<;>try exact h1.elim
    simp only []
    split at h1
    ·rename_i d hd;simp only [hd];exact jx.2 h1
    ·rename_i hd;simp only [hd]
   ·simp only [hw]
    split at h1
    ·rename_i d hd;simp only [hd,h1]
    ·rename_i hd;simp only [hd]
  rw [this];exact vE h2
def qaf(P:Program)(call:zm)(ops:Array Oper)(o:Oper)(env:Env)(H:qc)(nx:Nat)(dfs:Dfs)(rc:Option qw)(k:Env->qc->Nat->Prop)(K:KP)(env0:Env):Prop:=
 KE ops o.guard env
  (λenv=>qil P o (aev env) H nx λr=>match r with
   | .val v H' nx'=>k (put o.dst v env) H' nx'
   | .call f args=>call f args H nx λe H' nx'=>qj e (λv=>K6 P o.type v λv=>k (put o.dst v env) H' nx') (λl=>K (.pan l) env0 H' nx' dfs rc)
   | .pan v=>K (.pan [(v,false)]) env0 H nx dfs rc
   |_=>False)
  (λenv=>k (put o.dst (.tuple []) env) H nx)
theorem qha{call:zm}{dfs:Dfs}{rc:Option qw}{k:Env->qc->Nat->Prop}{K:KP}{env0:Env}
  (hm:∀f args H nx (K K':qr),call f args H nx K->(∀e H' nx',K e H' nx'->K' e H' nx')->call f args H nx K')
  (h:qaf P call ops o env H nx dfs rc k K env0):qa0 P (qn9 call) ops o env H nx dfs rc (qvv k) (qvi K env0) env=true:=by
 unfold qaf at h;unfold qa0;rcases y5 h with⟨hw,h⟩|⟨hw,h⟩
 ·simp only [hw]
  obtain⟨r,e,h⟩:=V7 h
  simp only [e]
  split at h<;>try exact h.elim
  ·exact jx.2 h
  ·refine jx.2 (hm _ _ _ _ _ _ h λe H' nx' he=> ?_)
   cases e with
   |ret v=>exact jx.2 (ZU (he.1 v rfl))
   |pan l=>exact jx.2 (he.2 l rfl)
  ·exact jx.2 h
 ·simp only [hw]
  exact jx.2 h
def JK(P:Program)(call:zm)(ops:Array Oper)(res:Nat)(dfs:Dfs)(rc:Option qw)(K:KP)(env0:Env):List (Nat×List Nat×List Nat)->Env->qc->Nat->Prop
 |[]=>λenv H nx=>K .normal env H nx dfs rc
 |(e,F,A)::rest=>λenv H nx=>match ops[e]? with
  |some o=>qaf P call ops o env H nx dfs rc (λenv' H' nx'=>QN P ops res nx' (λenv'' H''=>yR P ops env'' H'' nx' A/\JK P call ops res dfs rc K env0 rest env'' H'' nx') F env' H') K env0
  |none=>False
theorem ZA{call:zm}{res:Nat}{dfs:Dfs}{rc:Option qw}{K:KP}{env0:Env}
  (hm:∀f args H nx (K K':qr),call f args H nx K->(∀e H' nx',K e H' nx'->K' e H' nx')->call f args H nx K'):
  ∀(rest:List wH) (env:Env) (H:qc) (nx:Nat),JK P call ops res dfs rc K env0 rest env H nx->
   qox P (qn9 call) ops res dfs rc (λl H nx=>K (.pan l) env0 H nx dfs rc) (λenv H nx=>K .normal env H nx dfs rc) rest env H nx
 |[],_,_,_,h=>h
 |(e,L,A)::rest,env,H,nx,h=>by
  intro oe hoe;have h':(match ops[e]? with
   |some o=>qaf P call ops o env H nx dfs rc (λenv' H' nx'=>QN P ops res nx' (λenv'' H''=>yR P ops env'' H'' nx' A/\JK P call ops res dfs rc K env0 rest env'' H'' nx') L env' H') K env0
   |none=>False):=h
  rw [hoe]at h';refine⟨_,qvi K env0,qha hm h',λl H1 nx1 hk=>jx.1 hk,λenv1 H1 nx1 hk=> ?_⟩
  refine⟨_,QP (jx.1 hk),λenv2 H2 hk2=> ?_⟩
  obtain⟨h1,h2⟩:=jx.1 hk2
  exact⟨vE h1,ZA hm rest env2 H2 nx1 h2⟩
def V2(P:Program)(call:zm)(nt:Nat)(ops:Array Oper)(K:KP):KC:=λenv H nx dfs rc=>
 match qg7 nt ops with
 |true=>QN P ops nx (nx+ops.size) (λenv' H'=>yR P ops env' H' (nx+ops.size) (qgi ops)/\
   JK P call ops nx dfs rc K (Zh ops.toList env) (qdu ops) env' H' (nx+ops.size)) (qh1 ops) env H
 |false=>False
theorem Vk{call:zm}{dfs:Dfs}{rc:Option qw}{K:KP}(hm:P.follows .mixedOrders=true)
  (hcm:∀f args H nx (K K':qr),call f args H nx K->(∀e H' nx',K e H' nx'->K' e H' nx')->call f args H nx K')
  (hc:QI P call) (h:V2 P call nt ops K env H nx dfs rc)
  (σ:Sg) (w:World) (a:Act) (Q:Exit->Act->World->Prop) (hr:Rel σ H nx w) (ha:kT σ nt env dfs a)
  (hQ:∀ex env' H' nx' σ' w' a' e,K ex env' H' nx' dfs rc->Rel σ' H' nx' w'->Ext σ σ' H H' nx nx' w w'->kT σ' nt env' dfs a'->qck σ' ex e->Q e a' w'):
  wpAny P .any ops Q ops.size (Array.replicate ops.size false) a {w with drawn:=w.drawn+1}:=by
 unfold V2 at h;split at h<;>try exact h.elim
 rename_i hplan;have hlim:nx+ops.size<=nx+ops.size:=Nat.le_refl _
 unfold qg7 at hplan;split at hplan<;>try (cases hplan;done)
 rename_i past hnt hops hF;split at hplan<;>try (cases hplan;done)
 rename_i hA hS hcov;have hn:nt<=4096:=Nat.le_of_ble_eq_true hnt
 have F:=JE hops
 obtain⟨env1,H1,hk,b1,b2,b3,b4,b5⟩:=QK F hn hlim (qh1 ops) [] past env H hF (QP h)
 obtain⟨hag0,hk⟩:=jx.1 hk
 have hag:wF P ops env1 H1 (nx+ops.size) (qgi ops)=true:=vE hag0
 have hpast:∀i,i∈past->∃o,ops[i]?=some o/\(cls o.op=0\/cls o.op=1):=by
  intro i hi;rcases(kj hF i).1 hi with hi|hi
  ·cases hi
  ·obtain⟨o,ho,hne⟩:=Zf hF i hi
   refine⟨o,ho,?_⟩
   have:cls o.op=0\/cls o.op=1\/cls o.op=2:=by
    unfold cls;split<;>first|exact .inl rfl|exact .inr (.inl rfl)|exact .inr (.inr rfl)|skip
    split<;>first|exact .inl rfl|exact .inr (.inr rfl)
   rcases this with h|h|h
   ·exact .inl h
   ·exact .inr h
   ·exact(hne h).elim
 have hblank:∀t,t<4096->get2 t (Zh ops.toList env)= .und\/((∀(j:Nat) (q:Oper),ops[j]?=some q->q.dst≠some t)/\get2 t (Zh ops.toList env)=get2 t env1):=by
  intro t ht;have hd:∀o,o∈ops.toList->Qp nt o.dst=true:=λo ho=>by
   obtain⟨i,hi⟩:=List.mem_iff_getElem?.1 ho
   exact F.dst i o (by simpa using hi)
  rcases ZS hn ops.toList env t ht hd with h|⟨h1,h2⟩
  ·exact .inl h
  ·have h3:∀(j:Nat) (q:Oper),ops[j]?=some q->q.dst≠some t:=λj q hq=>h1 q (by simpa using Array.mem_of_getElem? hq)
   exact .inr ⟨h3,by rw [h2,b1 t ht λj q _ hq=>h3 j q hq]⟩
 have hrun:=ZA hcm (qdu ops) env1 H1 (nx+ops.size) hk
 have none':∀b,nx<=b->σ b=none:=λb hb=>by
  cases e:σ b with
  |none=>rfl
  |some p=>obtain⟨cb,sz⟩:=p;have:=(hr.dom b cb sz e).1;omega
 have:=Qt (call:=qn9 call) [] (qba hc) F hn hlim (qdu ops) none past env1 H1 (nx+ops.size) hS (λs _ i hi=>by cases hi) hpast hblank hrun σ H w Q
  (λl H' nx' σ' w' a' c hk R E A C=>hQ (.pan l) _ H' nx' σ' w' a' (.panic c) hk R E A C)
  (λenv' H' nx' hk hp=>qcl F hn hp λσ' w' a' R E A=>hQ .normal env' H' nx' σ' w' a' .normal hk R E A trivial)
 rw [List.append_nil]at this;refine this ops.size _ σ _ a ⟨by simp,ha.env.size,?_,?_,?_,?_,?_,?_,?_,Nat.le_refl _,?_,?_,ha.dfs⟩ ?_
 ·exactλi j h=>(vo h).elim
 ·exactλi _ h=>vo h
 ·intro i hi;have:=Z3 (jg hcov i (List.mem_range.2 hi))
  rcases List.mem_append.1 this with h|h
  ·exact .inl ((kj hF i).2 (.inr h))
  ·exact .inr (.inl h)
 ·intro t ht hown;rw [b1 t ht λj q _ hq hd=>vo (hown j q hq hd)]
  exact ha.env.den t ht
 ·intro j q hj hq _ hcl;cases hip:QL q.op with
  |true=>
   have h1:=jg hA j hj
   rw [hq]at h1;simp only [hip]at h1
   have hmem:j∈qgi ops:=by
    split at h1
    ·exact Z3 ‹_›
    ·rw [KJ]at h1;simp at h1
   have h3:=jg hag j hmem
   rw [hq]at h3;exact JA hcl h3
  |false=>
   rcases(kj hF j).1 hj with hj|hj
   ·cases hj
   ·exact b5 j q hj hq hcl hip
 ·intro j q hj hq _ hcl;rcases(kj hF j).1 hj with hj|hj
  ·cases hj
  ·exact b4 j q hj hq hcl
 ·exactλi _ _=>none' _ (by omega)
 ·exact(b3 σ w (hr.more (Nat.le_add_right _ _) hlim) λj _=>none' _ (by omega)).drew
 ·have E:=Ext.drew σ H nx w
  refine⟨E.sub,E.rng,?_,Nat.le_add_right _ _,rfl,rfl,rfl,Nat.le_refl _,λ_ _ _=>rfl,Nat.le_succ _⟩
  intro b hb h0;exact⟨h0,b2 b (by omega) λj _=>by omega⟩
 ·unfold left;have:=List.countP_le_length (p:=λi=> !(Array.replicate ops.size false).getD i false) (l:=List.range ops.size)
  simpa using this
def qo6(ops:Array Oper):Option (Oper×Nat×Operand):=match ops.toList.getLast? with
 |some o=>match o.op,o.guard,o.dst with
  | .assign x,none,some d=>some (o,d,x)
  |_,_,_=>none
 |none=>none
def ql6(nt:Nat)(init:Array Oper)(o:Oper):Bool:=
 match Qp nt o.dst,yt (λi=>bit (yJ (ahead init) o.after.toList) i) (List.range init.size),yt (λe=>Bool.rec true (Nat.ble (Nat.succ e.on) init.size) (Region.binds .any e)) o.after.toList,Xl nt init init.toList (ahead init) init.toList 0 with
 |true,true,true,true=>true
 |_,_,_,_=>false
def qs2(d:Nat)(x:Operand)(K:KP):KP:=λex env H nx dfs rc=>match ex with
 | .normal=>K .normal (put (some d) (aev env x) env) H nx dfs rc
 | .exit id=>K (.exit id) env H nx dfs rc
 | .ret=>K .ret env H nx dfs rc
 | .pan l=>K (.pan l) env H nx dfs rc
def qfq(P:Program)(call:zm)(nt:Nat)(ops:Array Oper)(K:KP):KC:=λenv H nx dfs rc=>
 match qg7 nt ops with
 |true=>V2 P call nt ops K env H nx dfs rc
 |false=>match qo6 ops with
  |some (o,d,x)=>match ql6 nt ops.pop o with
   |true=>V2 P call nt ops.pop (qs2 d x K) env H nx dfs rc
   |false=>False
  |none=>False
theorem qlr{a:Act}{K K':Act->World->Prop}{Q Q':Exit->Act->World->Prop}(h:∀a w,K a w->K' a w)(hp:∀c a w,Q (.panic c) a w->Q' (.panic c) a w)(hl:LetsOut Q->LetsOut Q')
  (hh:o.wp P a w K Q):o.wp P a w K' Q':=by
 unfold Oper.wp at*
 generalize (execOp a.eval o).run P w=r at*
 cases r with
 |ok n w'=>
  cases n<;>simp only [Oper.upon]at hh ⊢<;>
   first
    |exact h _ _ hh
    |exact Calls.mono hh (λe w'' he=>by cases e<;>first|exact h _ _ he|exact hp _ _ _ he|exact hl he|exact he)
    |exact Rows.mono hh (λ_ _ he=>h _ _ he)
 |halt x w'=>cases x<;>simp only [Oper.upon]at hh ⊢<;>first|exact hp _ _ _ hh|exact hh
theorem qk6{ops init:Array Oper}{i:Nat}{oi:Oper}{a:Act}{K K':Act->World->Prop}{Q Q':Exit->Act->World->Prop}(hi:init[i]?=some oi)(ho:ops[i]?=some oi)
  (hg:∀(g:Nat) (b:Bool),oi.guard=some (g,b)->ops[g]?=init[g]?) (h:∀a w,K a w->K' a w) (hp:∀c a w,Q (.panic c) a w->Q' (.panic c) a w) (hl:LetsOut Q->LetsOut Q')
  (hh:wpOp P init Q i K a w):wpOp P ops Q' i K' a w:=by
 unfold wpOp at*;rw [hi]at hh;rw [ho];have e:Region.wanted oi (yielded ops a.tmps)=Region.wanted oi (yielded init a.tmps):=by
  unfold Region.wanted;cases hgd:oi.guard with
  |none=>rfl
  |some p=>
   obtain⟨g,b⟩:=p
   have:=hg g b hgd
   simp only [yielded,this]
 simp only [e]at hh ⊢
 by_cases hw:Region.wanted oi (yielded init a.tmps)=true
 ·rw [if_pos hw]at hh ⊢;exact hh.imp (qlr h hp hl) λ⟨h1,h2⟩=>⟨h1,hl h2⟩
 ·rw [if_neg hw]at hh ⊢;exact h _ _ hh
def qm2(P:Program)(ops:Array Oper)(n:Nat)(Q:Exit->Act->World->Prop):Exit->Act->World->Prop:=λe a w=>match e with
 | .normal=>wpOp P ops Q n (λa w=>Q .normal a w) a w
 |e=>Q e a w
theorem qf0{ops init:Array Oper}{Q:Exit->Act->World->Prop}(F:jU nt init (ahead init))(hsz:ops.size=init.size+1)(hget:∀i,i<init.size->ops[i]?=init[i]?)(hlast:ops[init.size]?=some o)
  (hcov:∀i,i<init.size->bit (yJ (ahead init) o.after.toList) i=true) (hedge:∀e,e∈o.after.toList->Region.binds .any e=true->e.on<init.size):
  ∀fuel listed a w,listed.size=init.size->(∀i j,isL listed i->bit ((ahead init).getD i 0) j=true->isL listed j)->wpAny P .any init (qm2 P ops init.size Q) fuel listed a w->
   ∀listed2:Array Bool,listed2.size=init.size+1->(∀i,i<init.size->(isL listed2 i↔isL listed i))->¬isL listed2 init.size->wpAny P .any ops Q (fuel+1) listed2 a w:=by
 have allready:∀listed:Array Bool,(∀i j,isL listed i->bit ((ahead init).getD i 0) j=true->isL listed j)->(∀e,e∈o.after.toList->Region.binds .any e=true->isL listed e.on)->∀i,i<init.size->isL listed i:=λlisted hc he i hi=>by
  obtain⟨e,h1,h2,h3⟩:=Qr (hcov i hi)
  rcases h3 with rfl|h3
  ·exact he e h1 h2
  ·exact hc _ _ (he e h1 h2) h3
 have atEnd:∀(fuel:Nat) (listed2:Array Bool) (a:Act) (w:World),listed2.size=init.size+1->(∀i,i<init.size->isL listed2 i)->¬isL listed2 init.size->qm2 P ops init.size Q .normal a w->wpAny P .any ops Q (fuel+1) listed2 a w:=by
  intro fuel listed2 a w hs2 hall hn hq;have rd:init.size∈Region.ready .any ops listed2:=(jI (by omega)).2 ⟨o,hlast,hn,λe he hb=>hall _ (hedge e he hb)⟩
  refine⟨λhnil=>(by rw [hnil]at rd;cases rd),λi hi=> ?_⟩
  obtain⟨oi,ho,hnl,_⟩:=(jI (by omega)).1 hi
  have hlt:i<ops.size:=(Array.getElem?_eq_some_iff.1 ho).1
  have:i=init.size:=by
   rcases Nat.lt_or_ge i init.size with h|h
   ·exact(hnl (hall i h)).elim
   ·omega
  subst this;refine wpOp_mono (λa w hK=> ?_) hq
  have hnil:Region.ready .any ops (listed2.setIfInBounds init.size true)=[]:=by
   refine List.eq_nil_iff_forall_not_mem.2 λj hj=> ?_
   obtain⟨oj,hoj,hnj,_⟩:=(jI (by rw [Array.size_setIfInBounds];omega)).1 hj
   have hjl:j<ops.size:=(Array.getElem?_eq_some_iff.1 hoj).1
   rw [wK (by omega)]at hnj
   rcases Nat.lt_or_ge j init.size with h|h
   ·exact hnj (.inr (hall j h))
   ·exact hnj (.inl (by omega))
  exact wpAny_done hnil hK fuel
 intro fuel
 induction fuel with
 |zero=>
  intro listed a w hs hc h listed2 hs2 heq hn;have hall:=Qa F hs h.1
  exact atEnd 0 listed2 a w hs2 (λi hi=>(heq i hi).2 (hall i hi)) hn h.2
 |succ fuel ih=>
  intro listed a w hs hc h listed2 hs2 heq hn;by_cases hnil:Region.ready .any init listed=[]
  ·have hall:=Qa F hs hnil
   exact atEnd (fuel+1) listed2 a w hs2 (λi hi=>(heq i hi).2 (hall i hi)) hn (h.1 hnil)
  ·obtain⟨j,hj⟩:=List.exists_mem_of_ne_nil _ hnil
   obtain⟨oj,hoj,hnj,hej⟩:=(jI hs).1 hj
   have hjl:j<init.size:=(Array.getElem?_eq_some_iff.1 hoj).1
   have lt_of:∀(i:Nat) (oi:Oper),init[i]?=some oi->∀e,e∈oi.after.toList->Region.binds .any e=true->e.on<init.size:=λi oi hi e he hb=>by
    have:=F.edge i oi hi e he hb
    have:=(Array.getElem?_eq_some_iff.1 hi).1
    omega
   refine⟨λhnil2=> ?_,λi hi=> ?_⟩
   ·exfalso
    have:j∈Region.ready .any ops listed2:=(jI (by omega)).2 ⟨oj,by rw [hget j hjl];exact hoj,λhl=>hnj ((heq j hjl).1 hl),λe he hb=>(heq _ (lt_of j oj hoj e he hb)).2 (hej e he hb)⟩
    rw [hnil2]at this;cases this
   ·obtain⟨oi,hoi,hni,hei⟩:=(jI (by omega)).1 hi
    have hil:i<ops.size:=(Array.getElem?_eq_some_iff.1 hoi).1
    rcases Nat.lt_or_ge i init.size with hlt|hge
    ·have hoi':init[i]?=some oi:=by rw [<-hget i hlt];exact hoi
     have hi':i∈Region.ready .any init listed:=(jI hs).2 ⟨oi,hoi',λhl=>hni ((heq i hlt).2 hl),λe he hb=>(heq _ (lt_of i oi hoi' e he hb)).1 (hei e he hb)⟩
     refine qk6 hoi' hoi (λg b hg=> ?_) (λa w hK=> ?_) (λ_ _ _ hq=>hq) (λ⟨a,w,hq⟩=>⟨a,w,hq⟩) (h.2 i hi')
     ·obtain⟨tt,ht⟩:=F.grd i oi g b hoi' hg
      refine hget g ?_
      rcases Nat.lt_or_ge g init.size with h|h
      ·exact h
      ·rw [Array.getElem?_eq_none h]at ht;cases ht
     ·refine ih (listed.setIfInBounds i true) a w (by rw [Array.size_setIfInBounds];exact hs) ?_ hK (listed2.setIfInBounds i true) (by rw [Array.size_setIfInBounds];exact hs2) ?_ ?_
      ·intro p q hp hb;rw [wK (by omega)]at hp ⊢
       rcases hp with rfl|hp
       ·obtain⟨g,hg,hb',hc'⟩:=F.ahead p oi hoi' q hb
        have hgl:=(heq _ (lt_of p oi hoi' g hg hb')).1 (hei g hg hb')
        rcases hc' with rfl|hc'
        ·exact .inr hgl
        ·exact .inr (hc _ q hgl hc')
       ·exact .inr (hc p q hp hb)
      ·intro p hp;rw [wK (by omega),wK (by omega),heq p hp]
      ·rw [wK (by omega)]
       rintro(h|h)
       ·omega
       ·exact hn h
    ·have:i=init.size:=by omega
     subst this;rw [hlast]at hoi;cases hoi
     exfalso
     have hall:=allready listed hc λe he hb=>(heq _ (hedge e he hb)).1 (hei e he hb)
     exact hnj (hall j hjl)
theorem Yt{call:zm}{dfs:Dfs}{rc:Option qw}{K:KP}(hm:P.follows .mixedOrders=true)
  (hcm:∀f args H nx (K K':qr),call f args H nx K->(∀e H' nx',K e H' nx'->K' e H' nx')->call f args H nx K')
  (hc:QI P call) (h:qfq P call nt ops K env H nx dfs rc) (id:Nat)
  (σ:Sg) (w:World) (a:Act) (Q:Exit->Act->World->Prop) (hr:Rel σ H nx w) (ha:kT σ nt env dfs a)
  (hQ:∀ex env' H' nx' σ' w' a' e,K ex env' H' nx' dfs rc->Rel σ' H' nx' w'->Ext σ σ' H H' nx nx' w w'->kT σ' nt env' dfs a'->qck σ' ex e->Q e a' w'):
  (Code.region id ops true).wp P Q a w:=by
 refine wp_region_any hm ?_
 unfold qfq at h;split at h
 ·exact Vk hm hcm hc h σ w a Q hr ha hQ
 ·split at h<;>try exact h.elim
  rename_i o d x hlo;split at h<;>try exact h.elim
  rename_i hok;unfold qo6 at hlo;split at hlo<;>try (cases hlo;done)
  rename_i o' hgl;split at hlo<;>try (cases hlo;done)
  rename_i x' d' hop hgd hdst;cases hlo
  unfold ql6 at hok;split at hok<;>try (cases hok;done)
  rename_i hd hcov hedge hopsOK;have F:=JE hopsOK
  obtain⟨l,hl⟩:∃l,ops.toList=l++[o]:=by
   obtain⟨l,hl⟩:=List.getLast?_eq_some_iff.1 hgl
   exact⟨l,hl⟩
  have hpop:ops.pop.toList=l:=by rw [Array.toList_pop,hl];simp
  have hps:ops.pop.size=l.length:=by rw [<-hpop];simp
  have hsz:ops.size=ops.pop.size+1:=by rw [hps,<-Array.length_toList,hl];simp
  have hget:∀i,i<ops.pop.size->ops[i]?=ops.pop[i]?:=λi hi=>by
   rw [<-Array.getElem?_toList,<-Array.getElem?_toList,hl,hpop,List.getElem?_append_left (by omega)]
  have hlast:ops[ops.pop.size]?=some o:=by
   rw [<-Array.getElem?_toList,hl,hps];simp
  have any:=Vk (K:=qs2 d x K) hm hcm hc h σ w a (qm2 P ops ops.pop.size Q) hr ha ?_
  ·rw [hsz];refine qf0 F hsz hget hlast (λi hi=>jg hcov i (List.mem_range.2 hi)) (λe he hb=> ?_) ops.pop.size _ a _ (by simp) (λi j h=>(vo h).elim) any _ (by simp) (λi _=>⟨λh=>(vo h).elim,λh=>(vo h).elim⟩) vo
   have h2:=jg hedge e he
   have h3:(Bool.rec true (Nat.ble (Nat.succ e.on) ops.pop.size) (Region.binds .any e):Bool)=true:=h2
   rw [hb]at h3;exact Nat.le_of_ble_eq_true h3
  ·intro ex env' H' nx' σ' w' a' e hk R E A X;cases ex with
   |normal=>
    cases e<;>try exact X.elim
    show wpOp P ops Q ops.pop.size (λa w=>Q .normal a w) a' w'
    unfold wpOp;rw [hlast];have hwd:Region.wanted o (yielded ops a'.tmps)=true:=by unfold Region.wanted;rw [hgd]
    simp only [hwd,if_true]
    have hao:aop P o (aev env') H' nx'=some (.val (aev env' x) H' nx'):=by
     unfold aop;rw [hop];rfl
    obtain⟨σ2,w2,v',R2,E2,D2,hrun⟩:=K9 hao σ' w' a'.eval R A.env.aev
    have A2:kT σ2 nt (put (some d) (aev env' x) env') dfs (a'.put o.dst v'):=by
     rw [hdst];exact(A.mono E2.sub).put (by rw [<-hdst];exact hd) D2
    refine .inl ?_
    unfold Oper.wp;rcases hrun with hrun|⟨hrun,rfl⟩
    ·rw [hrun];exact hQ .normal _ H' nx' σ2 w2 _ .normal hk R2 (E.trans E2) A2 trivial
    ·rw [hrun];exact hQ .normal _ H' nx' σ2 w2 _ .normal hk R2 (E.trans E2) A2 trivial
   |exit id=>
    cases e<;>first|exact X.elim|exact hQ (.exit id) env' H' nx' σ' w' a' _ hk R E A X
   |ret=>
    cases e<;>first|exact X.elim|exact hQ .ret env' H' nx' σ' w' a' _ hk R E A X
   |pan l=>
    cases e<;>first|exact X.elim|exact hQ (.pan l) env' H' nx' σ' w' a' _ hk R E A X
def Zo(c:Operand)(b:Bool)(env:Env):Env:=match c with
 | .tmp t=>Zq t (.bool b) env
 |_=>env
theorem J4{c:Operand}{b:Bool}(h:aev env c= .bool b):Zo c b env=env:=by
 cases c with
 |tmp t=>
  have h':(Bool.rec .und (get2 t env) (Nat.ble t 4095):qa)= .bool b:=h
  cases e:Nat.ble t 4095 with
  |false=>rw [e]at h';cases h'
  |true=>rw [e]at h';exact X7 h'
 |const v=>rfl
 |global g=>rfl
 |func f=>rfl
def vK(P:Program)(call:zm)(lp:jl)(nt:Nat):Code->Env->qc->Nat->Dfs->Option qw->KP->Prop
 | .skip=>λenv H nx dfs rc K=>K .normal env H nx dfs rc
 | .region _ ops false=>λenv H nx dfs rc K=>qag P call nt ops K ops.toList env H nx dfs rc
 | .region _ ops true=>λenv H nx dfs rc K=>qfq P call nt ops K env H nx dfs rc
 | .seq a b=>λenv H nx dfs rc K=>vK P call lp nt a env H nx dfs rc λe env H nx dfs rc=>match e with
  | .normal=>vK P call lp nt b env H nx dfs rc K
  | .exit id=>K (.exit id) env H nx dfs rc
  | .ret=>K .ret env H nx dfs rc
  | .pan l=>K (.pan l) env H nx dfs rc
 | .cond c a b=>λenv H nx dfs rc K=>match aev env c with
  | .bool p=>Bool.rec (vK P call lp nt b (Zo c false env) H nx dfs rc K) (vK P call lp nt a (Zo c true env) H nx dfs rc K) p
  |_=>False
 | .block id a=>λenv H nx dfs rc K=>vK P call lp nt a env H nx dfs rc λe env H nx dfs rc=>match e with
  | .normal=>K .normal env H nx dfs rc
  | .exit j=>match Nat.beq j id with
   |true=>K .normal env H nx dfs rc
   |false=>K (.exit j) env H nx dfs rc
  | .ret=>K .ret env H nx dfs rc
  | .pan l=>K (.pan l) env H nx dfs rc
 | .loop a=>λenv H nx dfs rc K=>lp a env H nx dfs rc K
 | .exit id=>λenv H nx dfs rc K=>K (.exit id) env H nx dfs rc
 | .ret=>λenv H nx dfs rc K=>K .ret env H nx dfs rc
 |_=>λ_ _ _ _ _ _=>False
def qsc(P:Program)(nt:Nat)(lp:jl):Prop:=∀a env H nx dfs K,lp a env H nx dfs none K->
 ∀σ w act Q,Rel σ H nx w->kT σ nt env dfs act->J6 nt K σ H nx w Q->(Code.loop a).wp P Q act w
theorem Y5{call:zm}{lp:jl}(hm:P.follows .mixedOrders=true)
  (hcm:∀f args H nx (K K':qr),call f args H nx K->(∀e H' nx',K e H' nx'->K' e H' nx')->call f args H nx K') (hc:QI P call) (hl:qsc P nt lp):
  ∀(c:Code) (env:Env) (H:qc) (nx:Nat) (dfs:Dfs) (K:KP),vK P call lp nt c env H nx dfs none K->
   ∀σ w a Q,Rel σ H nx w->kT σ nt env dfs a->J6 nt K σ H nx w Q->c.wp P Q a w:=by
 intro c
 induction c with
 |skip=>exactλenv H nx dfs K h σ w a Q hr ha hQ=>wp_skip (hQ .normal env H nx dfs σ w a .normal h hr (Ext.refl _ _ _ _) ha trivial)
 |region id ops draw=>
  intro env H nx dfs K h σ w a Q hr ha hQ;cases draw with
  |false=>exact wp_region_list (KI hc ops.toList env H nx dfs h σ w a Q hr ha hQ)
  |true=>exact Yt hm hcm hc h id σ w a Q hr ha λex env' H' nx' σ' w' a' e hk R E A X=>hQ ex env' H' nx' dfs σ' w' a' e hk R E A X
 |seq x y ihx ihy=>
  intro env H nx dfs K h σ w a Q hr ha hQ;refine wp_seq (ihx env H nx dfs _ h σ w a _ hr ha ?_)
  intro ex env' H' nx' dfs' σ' w' a' e hk R E A X;cases ex with
  |normal=>cases e<;>first|exact X.elim|exact ihy env' H' nx' dfs' K hk σ' w' a' Q R A (hQ.from E)
  |exit id=>cases e<;>first|exact X.elim|exact hQ _ _ _ _ _ σ' w' a' _ hk R E A X
  |ret=>cases e<;>first|exact X.elim|exact hQ _ _ _ _ _ σ' w' a' _ hk R E A X
  |pan l=>cases e<;>first|exact X.elim|exact hQ _ _ _ _ _ σ' w' a' _ hk R E A X
 |cond c x y ihx ihy=>
  intro env H nx dfs K h σ w a Q hr ha hQ;have h':(match aev env c with
   | .bool p=>Bool.rec (vK P call lp nt y (Zo c false env) H nx dfs none K) (vK P call lp nt x (Zo c true env) H nx dfs none K) p
   |_=>False):=h
  split at h'<;>first|exact h'.elim|skip
  rename_i p hp;cases p with
  |true=>
   have h2:vK P call lp nt x (Zo c true env) H nx dfs none K:=h'
   rw [J4 hp]at h2;exact wp_cond (t:=true) (wW ha hp) (ihx env H nx dfs K h2 σ w a Q hr ha hQ)
  |false=>
   have h2:vK P call lp nt y (Zo c false env) H nx dfs none K:=h'
   rw [J4 hp]at h2;exact wp_cond (t:=false) (wW ha hp) (ihy env H nx dfs K h2 σ w a Q hr ha hQ)
 |block id x ihx=>
  intro env H nx dfs K h σ w a Q hr ha hQ;refine wp_block (ihx env H nx dfs _ h σ w a _ hr ha ?_)
  intro ex env' H' nx' dfs' σ' w' a' e hk R E A X;cases ex with
  |normal=>cases e<;>first|exact X.elim|exact hQ _ _ _ _ _ σ' w' a' _ hk R E A X
  |exit j=>
   cases e<;>try exact X.elim
   have X':j=_:=X
   subst X';cases hb:Nat.beq j id with
   |true=>
    have hid:=Nat.eq_of_beq_eq_true hb
    simp only [hb]at hk
    simp only [Exit.inBlock,hid,if_true]
    exact hQ _ _ _ _ _ σ' w' a' .normal hk R E A trivial
   |false=>
    have hid:j≠id:=λe=>by subst e;simp at hb
    simp only [hb]at hk
    simp only [Exit.inBlock,hid,if_false]
    exact hQ _ _ _ _ _ σ' w' a' _ hk R E A rfl
  |ret=>cases e<;>first|exact X.elim|exact hQ _ _ _ _ _ σ' w' a' _ hk R E A X
  |pan l=>cases e<;>first|exact X.elim|exact hQ _ _ _ _ _ σ' w' a' _ hk R E A X
 |loop x _=>
  intro env H nx dfs K h σ w a Q hr ha hQ;exact hl x env H nx dfs _ h σ w a Q hr ha hQ
 |exit id=>exactλenv H nx dfs K h σ w a Q hr ha hQ=>wp_exit (hQ _ env H nx dfs σ w a (.exit id) h hr (Ext.refl _ _ _ _) ha rfl)
 |ret=>exactλenv H nx dfs K h σ w a Q hr ha hQ=>wp_ret (hQ _ env H nx dfs σ w a .ret h hr (Ext.refl _ _ _ _) ha trivial)
 |rangeFunc f p x y=>exactλenv H nx dfs K h=>h.elim
 |scope x=>exactλenv H nx dfs K h=>h.elim
 |label l=>exactλenv H nx dfs K h=>h.elim
 |goto l=>exactλenv H nx dfs K h=>h.elim
 |refuse s=>exactλenv H nx dfs K h=>h.elim
def qq(e env:Env):Prop:=∀t,t<4096->e t= .und\/e t=env t
theorem qq.refl(e:Env):qq e e:=λ_ _=> .inr rfl
theorem kT.weaken{σ:Sg}{e env:Env}{dfs:Dfs}{a:Act}(h:kT σ nt env dfs a)(hle:qq e env):kT σ nt e dfs a:=by
 refine⟨⟨h.env.size,h.env.le,λt ht=> ?_⟩,h.dfs⟩
 rcases hle t ht with q|q
 ·show Den σ (e t) _
  rw [q];exact .und _
 ·show Den σ (e t) _
  rw [q];exact h.env.den t ht
end
end Go.Vs
end
section
namespace Go.Vs
variable [GTab] {P:Program} {H:qc} {nx:Nat} {env:Env}
noncomputable section
def YT(P:Program)(env:Env)(H:qc):List ResultVar->(List qa->Prop)->Prop
 |[],k=>k []
 | .tmp t::l,k=>match Nat.ble t 4095 with
  |true=>YT P env H l λvs=>k (get2 t env::vs)
  |false=>False
 | .cell a t::l,k=>match Nat.ble a 4095 with
  |true=>vn P t H (get2 a env) λv=>YT P env H l λvs=>k (v::vs)
  |false=>False
theorem wP:∀{l:List ResultVar} {k:List qa->Prop},YT P env H l k->∃vs,km P env H l=some vs/\k vs
 |[],_,h=>⟨[],rfl,h⟩
 | .tmp t::l,k,h=>by
  unfold YT at h;split at h<;>try exact h.elim
  rename_i hb;obtain⟨vs,e,h⟩:=wP h
  exact⟨_,by unfold km;simp only [hb,e],h⟩
 | .cell a t::l,k,h=>by
  unfold YT at h;split at h<;>try exact h.elim
  rename_i hb;obtain⟨v,e1,h⟩:=WO h
  obtain⟨vs,e,h⟩:=wP h
  exact⟨_,by unfold km;simp only [hb,e,e1],h⟩
def yP(P:Program)(calld:Vg)(rs:List ResultVar)(env:Env):Dfs->qw->qc->Nat->qr->Prop
 |[],m,H,nx,K=>match m with
  | .returning=>∃vs,km P env H rs=some vs/\K (.ret (yr vs)) H nx
  | .panicking l=>K (.pan l) H nx
 |(g,args)::dfs,m,H,nx,K=>calld g args m H nx λe m' H' nx'=>qj e (λ_=>yP P calld rs env dfs (VQ m') H' nx' K) (λl=>yP P calld rs env dfs (VX m' l) H' nx' K)
theorem ZP{calld:Vg}(hcd:qp5 P calld){fn:Func}{nt:Nat}:
  ∀(dfs:Dfs) (m:qw) (H:qc) (nx:Nat) (K:qr),yP P calld fn.results.toList env dfs m H nx K->
   ∀σ w u ds tmps R,Rel σ H nx w->kQ σ nt env tmps->w5 σ dfs ds->QX σ m u->
    (∀e H' nx' σ' w' en,K e H' nx'->Rel σ' H' nx' w'->Ext σ σ' H H' nx nx' w w'->qb8 σ' e en->R en w')->Leaves P fn tmps R ds u w
 |[],m,H,nx,K,h=>by
  intro σ w u ds tmps R hr he hdf hm hR;cases m with
  |returning=>
   obtain⟨vs,hvs,h'⟩:=h
   cases hdf
   cases u<;>try exact hm.elim
   obtain⟨v',dv,hrun⟩:=w6 hr he hvs
   exact⟨v',hrun,hR _ _ _ σ w _ h' hr (Ext.refl _ _ _ _) dv⟩
  |panicking l=>
   cases hdf
   cases u<;>try exact hm.elim
   exact hR (.pan l) H nx σ w _ h hr (Ext.refl _ _ _ _) hm
 |(f,args)::dfs,m,H,nx,K,h=>by
  obtain⟨hbody,tri⟩:=hcd f args m H nx _ h
  intro σ w u ds tmps R hr he hdf hm hR;cases hdf with
  | @cons _ _ d _ l' hd ht=>
   obtain⟨cap,htar,hargs⟩:=hd
   refine⟨qp8 hm,.func f,cap,f,d.args++cap,htar,?_,?_⟩
   ·rw [htar];simp only [invoke]
    exact QG hbody _ w
   ·have hl:(⟨(d.args++cap).toList⟩:Array Value)=d.args++cap:=rfl
    rw [<-hl];refine tri σ w _ u _ hr hargs hm λe m' H1 nx1 σ1 w1 en u1 hk R1 E1 X1 M1=> ?_
    cases e with
    |ret v=>
     cases en with
     |returned v'=>exact ZP hcd dfs _ H1 nx1 K (hk.1 v rfl) σ1 w1 (settle u1) l' tmps R R1 (he.mono E1.sub) (ht.mono E1.sub) (qjz M1) λe2 H2 nx2 σ2 w2 en2 hk2 R2 E2 X2=>hR e2 H2 nx2 σ2 w2 en2 hk2 R2 (E1.trans E2) X2
     |panicked c=>exact X1.elim
     |outgrown=>exact X1.elim
    |pan l=>
     cases en with
     |returned v'=>exact X1.elim
     |panicked c=>exact ZP hcd dfs _ H1 nx1 K (hk.2 l rfl) σ1 w1 (raised u1 c) l' tmps R R1 (he.mono E1.sub) (ht.mono E1.sub) (qiy M1 X1) λe2 H2 nx2 σ2 w2 en2 hk2 R2 E2 X2=>hR e2 H2 nx2 σ2 w2 en2 hk2 R2 (E1.trans E2) X2
     |outgrown=>exact X1.elim
def LpP(P:Program)(nt:Nat):jl:=λa env H nx dfs _ K=>
 ∀σ w act Q,Rel σ H nx w->kT σ nt env dfs act->J6 nt K σ H nx w Q->(Code.loop a).wp P Q act w
theorem qef(P:Program)(nt:Nat):qsc P nt (LpP P nt):=λ_ _ _ _ _ _ h=>h
def qL(P:Program)(call:zm)(lp:Nat->jl)(f:FuncId)(args:List qa)(H:qc)(nx:Nat)(K:List ResultVar->KP):Prop:=
 match P.funcs[f]? with
 |some fn=>match fn.body,Nat.ble fn.ntmps 4096,Nat.ble args.length fn.ntmps with
  |some c,true,true=>vK P call (lp fn.ntmps) fn.ntmps c (yh args 0 (qeo (.tuple []))) H nx [] none (K fn.results.toList)
  |_,_,_=>False
 |none=>False
def wG(env:Env):List ResultVar->Option (List qa)
 |[]=>some []
 | .tmp t::l=>match Nat.ble t 4095,wG env l with
  |true,some vs=>some (get2 t env::vs)
  |_,_=>none
 | .cell _ _::_=>none
theorem Z0:∀{l:List ResultVar} {vs:List qa} {k:List qa->Prop},wG env l=some vs->k vs->YT P env H l k
 |[],_,_,e,h=>by cases e;exact h
 | .tmp t::l,vs,k,e,h=>by
  unfold wG at e;split at e<;>try (cases e;done)
  rename_i vs' hb hl;cases e
  unfold YT;simp only [hb]
  exact Z0 hl h
 | .cell _ _::_,_,_,e,_=>by cases e
abbrev zJ:=List qa->Dfs->qw->qc->Nat->qr->Prop
inductive zq where
 |val (v:qa)
 |cell (p:qa) (t:TypeId)
abbrev zI:=List zq->Dfs->qw->qc->Nat->qr->Prop
def Ka:List ResultVar->Bool
 |[]=>true
 | .tmp t::l=>match Nat.ble t 4095 with
  |true=>Ka l
  |false=>false
 | .cell a _::l=>match Nat.ble a 4095 with
  |true=>Ka l
  |false=>false
def Jc(env:Env):List ResultVar->List zq
 |[]=>[]
 | .tmp t::l=> .val (get2 t env)::Jc env l
 | .cell a t::l=> .cell (get2 a env) t::Jc env l
def X6(P:Program)(H:qc):List zq->(List qa->Prop)->Prop
 |[],k=>k []
 | .val v::l,k=>X6 P H l λvs=>k (v::vs)
 | .cell p t::l,k=>vn P t H p λv=>X6 P H l λvs=>k (v::vs)
theorem Wr:∀{rs:List ResultVar} {k:List qa->Prop},Ka rs=true->X6 P H (Jc env rs) k->∃vs,km P env H rs=some vs/\k vs
 |[],_,_,h=>⟨[],rfl,h⟩
 | .tmp t::l,k,e,h=>by
  cases hb:Nat.ble t 4095 with
  |false=>unfold Ka at e;rw [hb]at e;cases e
  |true=>
   unfold Ka at e;rw [hb]at e;obtain⟨vs,e1,h⟩:=Wr e h
   exact⟨_,by unfold km;simp only [hb,e1],h⟩
 | .cell a t::l,k,e,h=>by
  cases hb:Nat.ble a 4095 with
  |false=>unfold Ka at e;rw [hb]at e;cases e
  |true=>
   unfold Ka at e;rw [hb]at e;obtain⟨v,e1,h⟩:=WO h
   obtain⟨vs,e2,h⟩:=Wr e h
   exact⟨_,by unfold km;simp only [hb,e1,e2],h⟩
def ze(P:Program)(calld:Vg):zI:=λrv dfs=>match dfs with
 |[]=>λm H nx K=>match m with
  | .returning=>X6 P H rv λvs=>K (.ret (yr vs)) H nx
  | .panicking l=>K (.pan l) H nx
 |(g,args)::dfs=>λm H nx K=>calld g args m H nx λe m' H' nx'=>qj e (λ_=>ze P calld rv dfs (VQ m') H' nx' K) (λl=>ze P calld rv dfs (VX m' l) H' nx' K)
def z9(calld:Vg):zJ:=λvs dfs=>match dfs with
 |[]=>λm H nx K=>match m with
  | .returning=>K (.ret (yr vs)) H nx
  | .panicking l=>K (.pan l) H nx
 |(g,args)::dfs=>λm H nx K=>calld g args m H nx λe m' H' nx'=>qj e (λ_=>z9 calld vs dfs (VQ m') H' nx' K) (λl=>z9 calld vs dfs (VX m' l) H' nx' K)
theorem W3(P:Program){f:FuncId}{args:List qa}{m:qw}{K K':qg->qw->qc->Nat->Prop}(h:qM P f args m H nx K)(hk:∀e m' H' nx',K e m' H' nx'->K' e m' H' nx'):qM P f args m H nx K':=
 ⟨h.1,λσ w args' u R hr hd hm hR=>h.2 σ w args' u R hr hd hm λe m' H' nx' σ' w' en u' k=>hR e m' H' nx' σ' w' en u' (hk _ _ _ _ k)⟩
theorem ZG{rs:List ResultVar}{vs:List qa}{K:qr}(e:wG env rs=some vs):∀{dfs:Dfs} {m:qw} {H:qc} {nx:Nat},z9 (qM P) vs dfs m H nx K->yP P (qM P) rs env dfs m H nx K
 |[],m,H,nx,h=>by
  cases m with
  |returning=>exact wP (Z0 (P:=P) (H:=H) (k:=λvs=>K (.ret (yr vs)) H nx) e h)
  |panicking l=>exact h
 |(g,args)::dfs,m,H,nx,h=>by
  refine W3 P h λe' m' H' nx' hk=>⟨λv hv=> ?_,λl hl=> ?_⟩
  ·exact ZG e (hk.1 v hv)
  ·exact ZG e (hk.2 l hl)
theorem y8{rs:List ResultVar}{K:qr}(e:Ka rs=true):∀{dfs:Dfs} {m:qw} {H:qc} {nx:Nat},ze P (qM P) (Jc env rs) dfs m H nx K->yP P (qM P) rs env dfs m H nx K
 |[],m,H,nx,h=>by
  cases m with
  |returning=>exact Wr e h
  |panicking l=>exact h
 |(g,args)::dfs,m,H,nx,h=>by
  refine W3 P h λe' m' H' nx' hk=>⟨λv hv=> ?_,λl hl=> ?_⟩
  ·exact y8 e (hk.1 v hv)
  ·exact y8 e (hk.2 l hl)
def qy(P:Program)(lv:zJ)(lvc:zI)(K:qr)(rs:List ResultVar):KP:=λe env H nx dfs _=>match e with
 | .normal=>match dfs with
  |[]=>YT P env H rs λvs=>K (.ret (yr vs)) H nx
  |d::ds=>match wG env rs with
   |some vs=>lv vs (d::ds) .returning H nx K
   |none=>match Ka rs with
    |true=>lvc (Jc env rs) (d::ds) .returning H nx K
    |false=>False
 | .ret=>match dfs with
  |[]=>YT P env H rs λvs=>K (.ret (yr vs)) H nx
  |d::ds=>match wG env rs with
   |some vs=>lv vs (d::ds) .returning H nx K
   |none=>match Ka rs with
    |true=>lvc (Jc env rs) (d::ds) .returning H nx K
    |false=>False
 | .pan l=>match dfs with
  |[]=>K (.pan l) H nx
  |d::ds=>match wG env rs with
   |some vs=>lv vs (d::ds) (.panicking l) H nx K
   |none=>match Ka rs with
    |true=>lvc (Jc env rs) (d::ds) (.panicking l) H nx K
    |false=>False
 | .exit _=>False
theorem qgn{K:qr}{rs:List ResultVar}{dfs:Dfs}{rc:Option qw}{e:qhb}(h:qy P (z9 (qM P)) (ze P (qM P)) K rs e env H nx dfs rc):
  match e with
  | .normal=>yP P (qM P) rs env dfs .returning H nx K
  | .ret=>yP P (qM P) rs env dfs .returning H nx K
  | .pan l=>yP P (qM P) rs env dfs (.panicking l) H nx K
  | .exit _=>False:=by
 cases e with
 |exit _=>exact h
 |normal=>
  cases dfs with
  |nil=>exact wP (k:=λvs=>K (.ret (yr vs)) H nx) h
  |cons d ds=>
   have h':(match wG env rs with
    |some vs=>z9 (qM P) vs (d::ds) .returning H nx K
    |none=>match Ka rs with
     |true=>ze P (qM P) (Jc env rs) (d::ds) .returning H nx K
     |false=>False):=h
   split at h'
   ·exact ZG ‹_› h'
   ·split at h'<;>first|exact h'.elim|exact y8 ‹_› h'
 |ret=>
  cases dfs with
  |nil=>exact wP (k:=λvs=>K (.ret (yr vs)) H nx) h
  |cons d ds=>
   have h':(match wG env rs with
    |some vs=>z9 (qM P) vs (d::ds) .returning H nx K
    |none=>match Ka rs with
     |true=>ze P (qM P) (Jc env rs) (d::ds) .returning H nx K
     |false=>False):=h
   split at h'
   ·exact ZG ‹_› h'
   ·split at h'<;>first|exact h'.elim|exact y8 ‹_› h'
 |pan l=>
  cases dfs with
  |nil=>exact h
  |cons d ds=>
   have h':(match wG env rs with
    |some vs=>z9 (qM P) vs (d::ds) (.panicking l) H nx K
    |none=>match Ka rs with
     |true=>ze P (qM P) (Jc env rs) (d::ds) (.panicking l) H nx K
     |false=>False):=h
   split at h'
   ·exact ZG ‹_› h'
   ·split at h'<;>first|exact h'.elim|exact y8 ‹_› h'
theorem Qn(P:Program):∀f args H nx (K K':qr),qo P f args H nx K->(∀e H' nx',K e H' nx'->K' e H' nx')->qo P f args H nx K':=λ_ _ _ _ _ _ h hk=>h.mono hk
theorem qo.of_body(hm:P.follows .mixedOrders=true){f:FuncId}{args:List qa}{K:qr}
  (h:qL P (qo P) (LpP P) f args H nx (qy P (z9 (qM P)) (ze P (qM P)) K)):qo P f args H nx K:=by
 unfold qL at h;split at h<;>try exact h.elim
 rename_i fn hf;split at h<;>try exact h.elim
 rename_i c hb hn ha;have hn':fn.ntmps<=4096:=Nat.le_of_ble_eq_true hn
 have ha':args.length<=fn.ntmps:=Nat.le_of_ble_eq_true ha
 intro σ w args' R hr hda hR;refine calls_of_wp_defers hf hb ?_
 have hEnv:=ZO hn' ha' hda
 refine Y5 hm (Qn P) (λ_ _ _ _ _ h=>h) (qef P _) c _ H nx [] _ h σ w _ _ hr ⟨hEnv,.nil⟩ ?_
 intro ex env' H' nx' dfs' σ' w' a' e hk R1 E1 A1 X1;have fin:∀m u,QX σ' m u->yP P (qM P) fn.results.toList env' dfs' m H' nx' K->Leaves P fn a'.tmps R a'.defers u w':=by
  intro m u hmu hlv;exact ZP (fn:=fn) (nt:=fn.ntmps) (λ_ _ _ _ _ _ h=>h) dfs' m H' nx' K hlv σ' w' u a'.defers a'.tmps R R1 A1.env A1.dfs hmu
   λe2 H2 nx2 σ2 w2 en2 hk2 R2 E2 X2=>hR e2 H2 nx2 σ2 w2 en2 hk2 R2 (E1.trans E2) X2
 have hk:=qgn hk
 cases ex with
 |normal=>cases e<;>first|exact X1.elim|exact fin .returning .returning trivial hk
 |ret=>cases e<;>first|exact X1.elim|exact fin .returning .returning trivial hk
 |pan l=>
  cases e<;>try exact X1.elim
  exact fin (.panicking l) (.panicking _) X1 hk
 |exit i=>exact hk.elim
end
end Go.Vs
end
section
namespace Go.Vs
variable [GTab] {P:Program} {H:qc} {nx:Nat}
noncomputable section
def XB:Nat->jl:=λ_ _ _ _ _ _ _ _=>False
theorem qr1{call:zm}{nt:Nat}(hm:P.follows .mixedOrders=true)
  (hcm:∀f args H nx (K K':qr),call f args H nx K->(∀e H' nx',K e H' nx'->K' e H' nx')->call f args H nx K') (hc:QI P call):
  ∀(c:Code) (env:Env) (H:qc) (nx:Nat) (dfs:Dfs) (m:qw) (K:KP),vK P call (XB nt) nt c env H nx dfs (some m) K->
   ∀σ w a u (c₀:Frame) cs Q,Rel σ H nx w->kT σ nt env dfs a->QX σ m u->Wi nt K σ H nx w c₀ cs Q->c.wpS P Q a ({c₀ with mode:=u}::cs) w:=by
 intro c
 induction c with
 |skip=>exactλenv H nx dfs m K h σ w a u c₀ cs Q hr ha hmr hQ=>wpS_of_wp (wp_skip (hQ .normal env H nx dfs m σ w a .normal u h hr (Ext.refl _ _ _ _) ha trivial hmr))
 |region id ops draw=>
  intro env H nx dfs m K h σ w a u c₀ cs Q hr ha hmr hQ;cases draw with
  |false=>
   refine wpS_region ?_
   have:=Yd hc ops.toList 0 env H nx dfs m (by simp) h σ w a u c₀ cs Q hr ha hmr hQ
   rw [List.range_eq_range',<-Array.length_toList];exact this
  |true=>exact wpS_of_wp (Yt hm hcm hc h id σ w a _ hr ha λex env' H' nx' σ' w' a' e hk R E A X=>hQ ex env' H' nx' dfs m σ' w' a' e u hk R E A X (hmr.mono E.sub))
 |seq x y ihx ihy=>
  intro env H nx dfs m K h σ w a u c₀ cs Q hr ha hmr hQ;refine wpS_seq (ihx env H nx dfs m _ h σ w a u c₀ cs _ hr ha hmr ?_)
  intro ex env' H' nx' dfs' m' σ' w' a' e u' hk R E A X M;cases ex with
  |normal=>cases e<;>first|exact X.elim|exact ihy env' H' nx' dfs' m' K hk σ' w' a' u' c₀ cs Q R A M (hQ.from E)
  |exit id=>cases e<;>first|exact X.elim|exact hQ _ _ _ _ _ m' σ' w' a' _ u' hk R E A X M
  |ret=>cases e<;>first|exact X.elim|exact hQ _ _ _ _ _ m' σ' w' a' _ u' hk R E A X M
  |pan l=>cases e<;>first|exact X.elim|exact hQ _ _ _ _ _ m' σ' w' a' _ u' hk R E A X M
 |cond c x y ihx ihy=>
  intro env H nx dfs m K h σ w a u c₀ cs Q hr ha hmr hQ;have h':(match aev env c with
   | .bool p=>Bool.rec (vK P call (XB nt) nt y (Zo c false env) H nx dfs (some m) K) (vK P call (XB nt) nt x (Zo c true env) H nx dfs (some m) K) p
   |_=>False):=h
  split at h'<;>first|exact h'.elim|skip
  rename_i p hp;cases p with
  |true=>
   have h2:vK P call (XB nt) nt x (Zo c true env) H nx dfs (some m) K:=h'
   rw [J4 hp]at h2;exact wpS_cond (t:=true) (wW ha hp) (ihx env H nx dfs m K h2 σ w a u c₀ cs Q hr ha hmr hQ)
  |false=>
   have h2:vK P call (XB nt) nt y (Zo c false env) H nx dfs (some m) K:=h'
   rw [J4 hp]at h2;exact wpS_cond (t:=false) (wW ha hp) (ihy env H nx dfs m K h2 σ w a u c₀ cs Q hr ha hmr hQ)
 |block id x ihx=>
  intro env H nx dfs m K h σ w a u c₀ cs Q hr ha hmr hQ;refine qi1 (ihx env H nx dfs m _ h σ w a u c₀ cs _ hr ha hmr ?_)
  intro ex env' H' nx' dfs' m' σ' w' a' e u' hk R E A X M;cases ex with
  |normal=>cases e<;>first|exact X.elim|exact hQ _ _ _ _ _ m' σ' w' a' _ u' hk R E A X M
  |exit j=>
   cases e<;>try exact X.elim
   have X':j=_:=X
   subst X';cases hb:Nat.beq j id with
   |true=>
    have hid:=Nat.eq_of_beq_eq_true hb
    simp only [hb]at hk
    simp only [hid,if_true]
    exact hQ _ _ _ _ _ m' σ' w' a' .normal u' hk R E A trivial M
   |false=>
    have hid:j≠id:=λe=>by subst e;simp at hb
    simp only [hb]at hk
    simp only [hid,if_false]
    exact hQ _ _ _ _ _ m' σ' w' a' _ u' hk R E A rfl M
  |ret=>cases e<;>first|exact X.elim|exact hQ _ _ _ _ _ m' σ' w' a' _ u' hk R E A X M
  |pan l=>cases e<;>first|exact X.elim|exact hQ _ _ _ _ _ m' σ' w' a' _ u' hk R E A X M
 |loop x _=>exactλenv H nx dfs m K h=>h.elim
 |exit id=>exactλenv H nx dfs m K h σ w a u c₀ cs Q hr ha hmr hQ=>wpS_of_wp (wp_exit (hQ _ env H nx dfs m σ w a (.exit id) u h hr (Ext.refl _ _ _ _) ha rfl hmr))
 |ret=>exactλenv H nx dfs m K h σ w a u c₀ cs Q hr ha hmr hQ=>wpS_of_wp (wp_ret (hQ _ env H nx dfs m σ w a .ret u h hr (Ext.refl _ _ _ _) ha trivial hmr))
 |rangeFunc f p x y=>exactλenv H nx dfs m K h=>h.elim
 |scope x=>exactλenv H nx dfs m K h=>h.elim
 |label l=>exactλenv H nx dfs m K h=>h.elim
 |goto l=>exactλenv H nx dfs m K h=>h.elim
 |refuse s=>exactλenv H nx dfs m K h=>h.elim
def KO(P:Program)(call:zm)(lp:Nat->jl)(f:FuncId)(args:List qa)(m:qw)(H:qc)(nx:Nat)(K:List ResultVar->KP):Prop:=
 match P.funcs[f]? with
 |some fn=>match fn.body,Nat.ble fn.ntmps 4096,Nat.ble args.length fn.ntmps with
  |some c,true,true=>vK P call (lp fn.ntmps) fn.ntmps c (yh args 0 (qeo (.tuple []))) H nx [] (some m) (K fn.results.toList)
  |_,_,_=>False
 |none=>False
def qhv(K:qg->qw->qc->Nat->Prop)(rs:List ResultVar):KP:=λe env H nx dfs rc=>match e,dfs,rc with
 | .normal,[],some m=>match wG env rs with
  |some vs=>K (.ret (yr vs)) m H nx
  |none=>False
 | .ret,[],some m=>match wG env rs with
  |some vs=>K (.ret (yr vs)) m H nx
  |none=>False
 | .pan l,[],some m=>K (.pan l) m H nx
 |_,_,_=>False
theorem qM.of_bodyS(hm:P.follows .mixedOrders=true){f:FuncId}{args:List qa}{m:qw}{K:qg->qw->qc->Nat->Prop}(hbody:vx P f=true)
  (h:KO P (qo P) XB f args m H nx (qhv K)):qM P f args m H nx K:=by
 refine⟨hbody,?_⟩
 unfold KO at h;split at h<;>try exact h.elim
 rename_i fn hf;split at h<;>try exact h.elim
 rename_i c hb hn ha;have hn':fn.ntmps<=4096:=Nat.le_of_ble_eq_true hn
 have ha':args.length<=fn.ntmps:=Nat.le_of_ble_eq_true ha
 intro σ w args' u R hr hda hmr hR;refine callsD_of_wpS hf hb λc₀ cs hu=> ?_
 have hc0:({c₀ with mode:=u}:Frame)=c₀:=by subst hu;rfl
 have hEnv:=ZO hn' ha' hda
 rw [<-hc0];refine qr1 hm (Qn P) (λ_ _ _ _ _ h=>h) c _ H nx [] m _ h σ w _ u c₀ cs _ hr ⟨hEnv,.nil⟩ hmr ?_
 intro ex env' H' nx' dfs' m' σ' w' a' e u' hk R1 E1 A1 X1 M1;have hdn:dfs'=[]->a'.defers=[]:=λhdf=>by
  have hA:=A1.dfs
  rw [hdf]at hA;cases hq:a'.defers with
  |nil=>rfl
  |cons x y=>rw [hq]at hA;cases hA
 unfold qhv at hk;split at hk<;>try exact hk.elim
 ·rename_i hrc;cases hrc
  cases e<;>try exact X1.elim
  split at hk<;>try exact hk.elim
  rename_i vs htm;obtain⟨vs',hvs,hk2⟩:=wP (P:=P) (H:=H') (Z0 (k:=λvs'=>vs'=vs) htm rfl)
  obtain⟨v',dv,hrun⟩:=w6 (fn:=fn) R1 A1.env hvs
  subst hk2;exact⟨hdn rfl,u',rfl,v',hrun,hR _ _ _ _ σ' w' _ u' hk R1 E1 dv M1⟩
 ·rename_i hrc;cases hrc
  cases e<;>try exact X1.elim
  split at hk<;>try exact hk.elim
  rename_i vs htm;obtain⟨vs',hvs,hk2⟩:=wP (P:=P) (H:=H') (Z0 (k:=λvs'=>vs'=vs) htm rfl)
  obtain⟨v',dv,hrun⟩:=w6 (fn:=fn) R1 A1.env hvs
  subst hk2;exact⟨hdn rfl,u',rfl,v',hrun,hR _ _ _ _ σ' w' _ u' hk R1 E1 dv M1⟩
 ·rename_i hrc;cases hrc
  cases e<;>try exact X1.elim
  exact⟨hdn rfl,u',rfl,hR _ _ _ _ σ' w' _ u' hk R1 E1 X1 M1⟩
theorem qM.of_end(hm:P.follows .mixedOrders=true){f:FuncId}{args:List qa}{m:qw}{K:qg->qw->qc->Nat->Prop}(hbody:vx P f=true)
  (h:qL P (qo P) (LpP P) f args H nx (qy P (λ_ _ _ _ _ _=>False) (λ_ _ _ _ _ _=>False) λe H' nx'=>K e m H' nx')):qM P f args m H nx K:=by
 refine⟨hbody,?_⟩
 unfold qL at h;split at h<;>try exact h.elim
 rename_i fn hf;split at h<;>try exact h.elim
 rename_i c hb hn ha;have hn':fn.ntmps<=4096:=Nat.le_of_ble_eq_true hn
 have ha':args.length<=fn.ntmps:=Nat.le_of_ble_eq_true ha
 intro σ w args' u R hr hda hmr hR;refine callsD_of_wpS hf hb λc₀ cs hu=> ?_
 have hc0:({c₀ with mode:=u}:Frame)=c₀:=by subst hu;rfl
 have hEnv:=ZO hn' ha' hda
 refine wpS_of_wp (Y5 hm (Qn P) (λ_ _ _ _ _ h=>h) (qef P _) c _ H nx [] _ h σ w _ _ hr ⟨hEnv,.nil⟩ ?_)
 intro ex env' H' nx' dfs' σ' w' a' e hk R1 E1 A1 X1;have hdn:dfs'=[]->a'.defers=[]:=λhdf=>by
  have hA:=A1.dfs
  rw [hdf]at hA;cases hq:a'.defers with
  |nil=>rfl
  |cons x y=>rw [hq]at hA;cases hA
 cases dfs' with
 |cons q qs=>
  exfalso
  cases ex<;>(unfold qy at hk;dsimp only at hk;repeat' split at hk)<;>first|exact hk|exact hk.elim
 |nil=>
  cases ex with
  |normal=>
   cases e<;>try exact X1.elim
   obtain⟨vs,hvs,hk2⟩:=wP (k:=λvs=>K (.ret (yr vs)) m H' nx') hk
   obtain⟨v',dv,hrun⟩:=w6 (fn:=fn) R1 A1.env hvs
   exact⟨hdn rfl,u,hc0.symm▸rfl,v',hrun,hR _ _ _ _ σ' w' _ u hk2 R1 E1 dv (hmr.mono E1.sub)⟩
  |ret=>
   cases e<;>try exact X1.elim
   obtain⟨vs,hvs,hk2⟩:=wP (k:=λvs=>K (.ret (yr vs)) m H' nx') hk
   obtain⟨v',dv,hrun⟩:=w6 (fn:=fn) R1 A1.env hvs
   exact⟨hdn rfl,u,hc0.symm▸rfl,v',hrun,hR _ _ _ _ σ' w' _ u hk2 R1 E1 dv (hmr.mono E1.sub)⟩
  |pan l=>
   cases e<;>try exact X1.elim
   exact⟨hdn rfl,u,hc0.symm▸rfl,hR _ _ _ _ σ' w' _ u hk R1 E1 X1 (hmr.mono E1.sub)⟩
  |exit j=>exact(hk:False).elim
end
end Go.Vs
end
section
namespace Go.Vs
variable [GTab]
noncomputable section
def qi:Code->List Nat->Code
 | .seq a _,0::p=>qi a p
 | .seq _ b,_::p=>qi b p
 | .cond _ a _,0::p=>qi a p
 | .cond _ _ b,_::p=>qi b p
 | .block _ a,_::p=>qi a p
 | .loop a,_::p=>qi a p
 |c,_=>c
def qA(P:Program)(call:zm)(lp:jl)(nt:Nat):Code->List Nat->KP->KP
 | .seq a b,0::p,K=>qA P call lp nt a p λe env H nx dfs rc=>match e with
  | .normal=>vK P call lp nt b env H nx dfs rc K
  | .exit id=>K (.exit id) env H nx dfs rc
  | .ret=>K .ret env H nx dfs rc
  | .pan l=>K (.pan l) env H nx dfs rc
 | .seq _ b,_::p,K=>qA P call lp nt b p K
 | .cond _ a _,0::p,K=>qA P call lp nt a p K
 | .cond _ _ b,_::p,K=>qA P call lp nt b p K
 | .block id a,_::p,K=>qA P call lp nt a p λe env H nx dfs rc=>match e with
  | .normal=>K .normal env H nx dfs rc
  | .exit j=>match Nat.beq j id with
   |true=>K .normal env H nx dfs rc
   |false=>K (.exit j) env H nx dfs rc
  | .ret=>K .ret env H nx dfs rc
  | .pan l=>K (.pan l) env H nx dfs rc
 |_,_,K=>K
def qe(base:qa):List (Nat×qa)->Env
 |[]=>qeo base
 |(t,v)::l=>Zq t v (qe base l)
def qfo(env:Env):List (Nat×qa)->Prop
 |[]=>True
 |(t,v)::l=>env t=v/\qfo env l
theorem qq.of_list{env:Env}:∀{l:List (Nat×qa)},qfo env l->qq (qe .und l) env
 |[],_=>λ_ _=> .inl rfl
 |(t,v)::l,⟨h,hl⟩=>λs hs=>by
  show(Bool.rec (qe .und l s) v (Nat.beq s t):qa)= .und\/(Bool.rec (qe .und l s) v (Nat.beq s t):qa)=env s
  cases e:Nat.beq s t with
  |true=>have:=Nat.eq_of_beq_eq_true e;subst this;exact .inr h.symm
  |false=>exact qq.of_list hl s hs
theorem qq.okay{env:Env}{l:List (Nat×qa)}(h:qfo env l:=by repeat first|exact trivial|refine⟨rfl,?_⟩):qq (qe .und l) env:=qq.of_list h
def qd(P:Program)(f:FuncId):Code:=match P.funcs[f]? with
 |some fn=>match fn.body with
  |some c=>c
  |none=> .skip
 |none=> .skip
def qP(P:Program)(f:FuncId):List ResultVar:=match P.funcs[f]? with
 |some fn=>fn.results.toList
 |none=>[]
def qC(b:Nat)(cs:List qa)(H:qc):qc:=zS b (some (.cells cs.length (CT.ofL cs.length cs) [] false)) H
def zA(b n:Nat)(cs:List qa)(H:qc):qc:=zS b (some (.cells n (CT.ofL n cs) [] false)) H
def qF(N:KC)(X:Nat->KC)(R:KC)(Pn:List (qa×Bool)->KC):KP:=λe env H nx dfs rc=>match e with
 | .normal=>N env H nx dfs rc
 | .exit id=>X id env H nx dfs rc
 | .ret=>R env H nx dfs rc
 | .pan l=>Pn l env H nx dfs rc
def jw(cs:List qa)(off:Nat)(vs:List qa):List qa:=cs.take off++vs++cs.drop (off+vs.length)
theorem Je{cs vs:List qa}{off:Nat}(h:off+vs.length<=cs.length):(jw cs off vs).length=cs.length:=by
 simp [jw];omega
theorem qb{v:qa}{r:qa->Prop}{p:List (qa×Bool)->Prop}:qj (.ret v) r p↔r v:=by simp [qj]
theorem ql{l:List (qa×Bool)}{r:qa->Prop}{p:List (qa×Bool)->Prop}:qj (.pan l) r p↔p l:=by simp [qj]
theorem yc{b off len e n esz:Nat}{full:Bool}(h:n<len):qY (.slice b off len e full) n esz=some (.ptr b (off+n*esz)):=by
 have:Nat.ble (Nat.succ n) len=true:=jH h
 simp only [qY,this]
 rfl
theorem qB{n:Int}(h0: -9223372036854775808<=n)(h1:n<=9223372036854775807):i64.wrap n=n:=IntWalk.i64_in _ (by omega)
end
end Go.Vs
end
section
namespace Go.Vs
variable [GTab] {P:Program} {H:qc} {nx:Nat} {nt:Nat} {env:Env}
noncomputable section
def WpP(P:Program)(nt:Nat)(c:Code)(env:Env)(H:qc)(nx:Nat)(dfs:Dfs)(K:KP):Prop:=
 ∀σ w act Q,Rel σ H nx w->kT σ nt env dfs act->J6 nt K σ H nx w Q->c.wp P Q act w
section
variable{P:Program}{nt:Nat}{c a b:Code}{env e:Env}{H:qc}{nx:Nat}{dfs:Dfs}{K K':KP}
theorem WpP.of_vK(hm:P.follows .mixedOrders=true)(h:vK P (qo P) (LpP P nt) nt c env H nx dfs none K):WpP P nt c env H nx dfs K:=
 Y5 hm (Qn P) (λ_ _ _ _ _ h=>h) (qef P nt) c env H nx dfs K h
theorem WpP.weaken(hle:qq e env)(h:WpP P nt c e H nx dfs K):WpP P nt c env H nx dfs K:=
 λσ w act Q hr ha hQ=>h σ w act Q hr (ha.weaken hle) hQ
theorem WpP.mono(h:WpP P nt c env H nx dfs K)(hk:∀ex env' H' nx' dfs',K ex env' H' nx' dfs' none->K' ex env' H' nx' dfs' none):WpP P nt c env H nx dfs K':=
 λσ w act Q hr ha hQ=>h σ w act Q hr ha λex env' H' nx' dfs' σ' w' a' e k R E A X=>hQ ex env' H' nx' dfs' σ' w' a' e (hk _ _ _ _ _ k) R E A X
def trim(ts:List Nat)(env:Env):Env:=qe .und (ts.map λt=>(t,env t))
theorem qrw(ts:List Nat)(env:Env):qq (trim ts env) env:=by
 refine qq.of_list ?_
 induction ts with
 |nil=>trivial
 |cons t ts ih=>exact⟨rfl,ih⟩
def qG(ts:List Nat)(K:KP):KP:=λex env H nx dfs rc=>K ex (trim ts env) H nx dfs rc
theorem WpP.trim{ts:List Nat}(h:WpP P nt c env H nx dfs (qG ts K)):WpP P nt c env H nx dfs K:=
 λσ w act Q hr ha hQ=>h σ w act Q hr ha λex env' H' nx' dfs' σ' w' a' e k R E A X=>hQ ex _ H' nx' dfs' σ' w' a' e k R E (A.weaken (qrw ts env')) X
def qv4(b:Env->qc->Nat->Dfs->Prop)(K:KP):KP:=λex env H nx dfs rc=>match ex with
 | .normal=>b env H nx dfs
 | .exit id=>K (.exit id) env H nx dfs rc
 | .ret=>K .ret env H nx dfs rc
 | .pan l=>K (.pan l) env H nx dfs rc
theorem WpP.seq(h:WpP P nt a env H nx dfs (qv4 (λenv H nx dfs=>WpP P nt b env H nx dfs K) K)):WpP P nt (.seq a b) env H nx dfs K:=by
 intro σ w act Q hr ha hQ;refine wp_seq (h σ w act _ hr ha ?_)
 intro ex env' H' nx' dfs' σ' w' a' e hk R E A X;cases ex with
 |normal=>cases e<;>first|exact X.elim|exact hk σ' w' a' Q R A (hQ.from E)
 |exit id=>cases e<;>first|exact X.elim|exact hQ _ _ _ _ _ σ' w' a' _ hk R E A X
 |ret=>cases e<;>first|exact X.elim|exact hQ _ _ _ _ _ σ' w' a' _ hk R E A X
 |pan l=>cases e<;>first|exact X.elim|exact hQ _ _ _ _ _ σ' w' a' _ hk R E A X
theorem WpP.cond{x:Operand}{p:Bool}(hp:aev env x= .bool p)(h:WpP P nt (match p with|true=>a|false=>b) env H nx dfs K):WpP P nt (.cond x a b) env H nx dfs K:=by
 intro σ w act Q hr ha hQ;cases p with
 |true=>exact wp_cond (t:=true) (wW ha hp) (h σ w act Q hr ha hQ)
 |false=>exact wp_cond (t:=false) (wW ha hp) (h σ w act Q hr ha hQ)
def WC(i:Nat)(K:KP):KP:=λex env H nx dfs rc=>match ex with
 | .exit j=>if j=i then K .normal env H nx dfs rc else K (.exit j) env H nx dfs rc
 | .normal=>K .normal env H nx dfs rc
 | .ret=>K .ret env H nx dfs rc
 | .pan l=>K (.pan l) env H nx dfs rc
theorem WpP.block{i:Nat}(h:WpP P nt a env H nx dfs (WC i K)):WpP P nt (.block i a) env H nx dfs K:=by
 intro σ w act Q hr ha hQ;refine wp_block (h σ w act _ hr ha ?_)
 intro ex env' H' nx' dfs' σ' w' a' e hk R E A X;cases ex with
 |normal=>cases e<;>first|exact X.elim|exact hQ _ _ _ _ _ σ' w' a' _ hk R E A X
 |exit j=>
  cases e<;>try exact X.elim
  rename_i j';have hj:j=j':=by first|exact X|exact X.symm
  subst hj;have hk':(if j=i then K .normal env' H' nx' dfs' none else K (.exit j) env' H' nx' dfs' none):=hk
  show(if j=i then Q .normal a' w' else Q (.exit j) a' w')
  by_cases hji:j=i
  ·rw [if_pos hji]at hk' ⊢;exact hQ .normal _ _ _ _ σ' w' a' _ hk' R E A trivial
  ·rw [if_neg hji]at hk' ⊢;exact hQ (.exit j) _ _ _ _ σ' w' a' _ hk' R E A (by first|exact rfl|exact X)
 |ret=>cases e<;>first|exact X.elim|exact hQ _ _ _ _ _ σ' w' a' _ hk R E A X
 |pan l=>cases e<;>first|exact X.elim|exact hQ _ _ _ _ _ σ' w' a' _ hk R E A X
theorem WpP.skip(h:K .normal env H nx dfs none):WpP P nt .skip env H nx dfs K:=by
 intro σ w act Q hr ha hQ;exact wp_skip (hQ .normal env H nx dfs σ w act _ h hr (Ext.refl _ _ _ _) ha trivial)
theorem LpP.of_wp(h:WpP P nt (.loop a) env H nx dfs K){rc:Option qw}:LpP P nt a env H nx dfs rc K:=λσ w act Q hr ha hQ=>h σ w act Q hr ha hQ
theorem WpP.of_lp{rc:Option qw}(h:LpP P nt a env H nx dfs rc K):WpP P nt (.loop a) env H nx dfs K:=λσ w act Q hr ha hQ=>h σ w act Q hr ha hQ
end
theorem qbt{a:Code}{K:KP}(Inv:Nat->Env->qc->Nat->Dfs->Prop)(Kx:Nat->Dfs->KP)
  (hKx:∀m dfs ex env' H' nx' dfs',Kx m dfs ex env' H' nx' dfs' none->match ex with
   | .normal=>∃m' env'',m'<m/\qq env'' env'/\Inv m' env'' H' nx' dfs'
   |ex=>∃env'',qq env'' env'/\K ex env'' H' nx' dfs' none)
  (step:∀m env H nx dfs,Inv m env H nx dfs->WpP P nt a env H nx dfs (Kx m dfs))
  {m0:Nat} {env:Env} {H:qc} {nx:Nat} {dfs:Dfs} (h0:Inv m0 env H nx dfs):WpP P nt (.loop a) env H nx dfs K:=by
 intro σ w act Q hr ha hQ
 let J:Nat->Act->World->Prop:=λm act w=>∃env H nx dfs σ,Inv m env H nx dfs/\Rel σ H nx w/\kT σ nt env dfs act/\J6 nt K σ H nx w Q
 have hJ:J m0 act w:=⟨env,H,nx,dfs,σ,h0,hr,ha,hQ⟩
 have round:∀m act w,J m act w->a.wp P (Exit.then (λa' w'=>∃m',m'<m/\J m' a' w') Q) act w:=by
  rintro m act w ⟨env,H,nx,dfs,σ,hI,hr,ha,hQ⟩
  refine step m env H nx dfs hI σ w act _ hr ha ?_
  intro ex env' H' nx' dfs' σ' w' a' e hk R E A X;have hk':=hKx m dfs ex env' H' nx' dfs' hk
  cases ex with
  |normal=>
   cases e<;>try exact X.elim
   obtain⟨m',env'',hlt,hle,hI'⟩:=hk'
   exact⟨m',hlt,env'',H',nx',dfs',σ',hI',R,A.weaken hle,hQ.from E⟩
  |exit id=>
   obtain⟨env'',hle,hk2⟩:=hk'
   cases e<;>first|exact X.elim|exact hQ (.exit id) env'' _ _ _ σ' w' a' _ hk2 R E (A.weaken hle) X
  |ret=>
   obtain⟨env'',hle,hk2⟩:=hk'
   cases e<;>first|exact X.elim|exact hQ .ret env'' _ _ _ σ' w' a' _ hk2 R E (A.weaken hle) X
  |pan l=>
   obtain⟨env'',hle,hk2⟩:=hk'
   cases e<;>first|exact X.elim|exact hQ (.pan l) env'' _ _ _ σ' w' a' _ hk2 R E (A.weaken hle) X
 have least:∀act w,(∃m,J m act w)->∃m,J m act w/\∀m',J m' act w->m<=m':=by
  rintro act w ⟨m,h⟩
  induction m using Nat.strongRecOn with
  |_ m ih=>
   by_cases hx:∃m',m'<m/\J m' act w
   ·obtain⟨m',hlt,h'⟩:=hx
    exact ih m' hlt h'
   ·exact⟨m,h,λm' h'=>Nat.le_of_not_lt λhlt=>hx ⟨m',hlt,h'⟩⟩
 let μ:Act->World->Nat:=λact w=> @dite Nat (∃m,J m act w) (Classical.propDecidable _) (λh=>Classical.choose (least act w h)) (λ_=>0)
 have μs:∀act w,(∃m,J m act w)->J (μ act w) act w/\∀m',J m' act w->μ act w<=m':=by
  intro act w h;have:μ act w=Classical.choose (least act w h):=by simp only [μ,h,dite_true]
  rw [this];exact Classical.choose_spec (least act w h)
 refine wp_loop (λact w=>∃m,J m act w) μ ⟨m0,hJ⟩ ?_
 intro act w h;obtain⟨h1,_⟩:=μs act w h
 refine wp_mono (round _ act w h1) ?_
 intro e a' w' hq;cases e with
 |normal=>
  obtain⟨m',hlt,hj⟩:=hq
  exact⟨⟨m',hj⟩,Nat.lt_of_le_of_lt ((μs a' w' ⟨m',hj⟩).2 m' hj) hlt⟩
 |exit id=>exact hq
 |goto l=>exact hq
 |ret=>exact hq
 |panic c=>exact hq
 |outgrown=>exact hq
theorem zD{a:Code}{K:KP}{X Y:Type}(canon:X->Env)(canonY:Y->Env)
  (I:Nat->X->qc->Nat->Prop) (J:Nat->Y->qc->Nat->Prop) {env:Env} {H:qc} {nx:Nat} {dfs:Dfs} {rc:Option qw} (m0:Nat) (x0:X)
  (hle:qq (canon x0) env) (h0:I m0 x0 H nx)
  (step:∀m x H nx,I m x H nx->WpP P nt a (canon x) H nx dfs
   (qF (λenv' H' nx' dfs' _=>dfs'=dfs/\∃m' x',m'<m/\qq (canon x') env'/\I m' x' H' nx')
    (λid env' H' nx' dfs' _=>dfs'=dfs/\∃y,qq (canonY y) env'/\J id y H' nx')
    (λenv' H' nx' dfs' rc'=>K .ret env' H' nx' dfs' rc') (λl env' H' nx' dfs' rc'=>K (.pan l) env' H' nx' dfs' rc')))
  (after:∀id y H nx,J id y H nx->K (.exit id) (canonY y) H nx dfs none):
  LpP P nt a env H nx dfs rc K:=by
 refine LpP.of_wp (WpP.weaken hle ?_)
 refine qbt (K:=K)
  (λm env' H' nx' dfs'=>dfs'=dfs/\∃x,env'=canon x/\I m x H' nx')
  (λm _=>qF (λenv' H' nx' dfs' _=>dfs'=dfs/\∃m' x',m'<m/\qq (canon x') env'/\I m' x' H' nx')
    (λid env' H' nx' dfs' _=>dfs'=dfs/\∃y,qq (canonY y) env'/\J id y H' nx')
    (λenv' H' nx' dfs' rc'=>K .ret env' H' nx' dfs' rc') (λl env' H' nx' dfs' rc'=>K (.pan l) env' H' nx' dfs' rc')) ?_ ?_
  (m0:=m0) ⟨rfl,x0,rfl,h0⟩
 ·intro m dfs1 ex env' H' nx' dfs' h;cases ex with
  |normal=>
   obtain⟨h1,m',x',h2,h3,h4⟩:=h
   exact⟨m',canon x',h2,h3,h1,x',rfl,h4⟩
  |exit id=>
   obtain⟨rfl,y,h2,h3⟩:=h
   exact⟨canonY y,h2,after id y H' nx' h3⟩
  |ret=>exact⟨env',qq.refl _,h⟩
  |pan l=>exact⟨env',qq.refl _,h⟩
 ·rintro m env' H' nx' dfs' ⟨rfl,x,rfl,hI⟩
  exact step m x H' nx' hI
theorem qo.of_wp{f:FuncId}{fn:Func}{c:Code}{args:List qa}{K:qr}(hf:P.funcs[f]?=some fn)(hb:fn.body=some c)(hn:Nat.ble fn.ntmps 4096=true)(ha:Nat.ble args.length fn.ntmps=true)
  (h:WpP P fn.ntmps c (yh args 0 (qeo (.tuple []))) H nx [] (qy P (z9 (qM P)) (ze P (qM P)) K fn.results.toList)):qo P f args H nx K:=by
 have hn':fn.ntmps<=4096:=Nat.le_of_ble_eq_true hn
 have ha':args.length<=fn.ntmps:=Nat.le_of_ble_eq_true ha
 intro σ w args' R hr hda hR;refine calls_of_wp_defers hf hb ?_
 have hEnv:=ZO hn' ha' hda
 refine h σ w _ _ hr ⟨hEnv,.nil⟩ ?_
 intro ex env' H' nx' dfs' σ' w' a' e hk R1 E1 A1 X1;have fin:∀m u,QX σ' m u->yP P (qM P) fn.results.toList env' dfs' m H' nx' K->Leaves P fn a'.tmps R a'.defers u w':=by
  intro m u hmu hlv;exact ZP (fn:=fn) (nt:=fn.ntmps) (λ_ _ _ _ _ _ h=>h) dfs' m H' nx' K hlv σ' w' u a'.defers a'.tmps R R1 A1.env A1.dfs hmu
   λe2 H2 nx2 σ2 w2 en2 hk2 R2 E2 X2=>hR e2 H2 nx2 σ2 w2 en2 hk2 R2 (E1.trans E2) X2
 have hk:=qgn hk
 cases ex with
 |normal=>cases e<;>first|exact X1.elim|exact fin .returning .returning trivial hk
 |ret=>cases e<;>first|exact X1.elim|exact fin .returning .returning trivial hk
 |pan l=>
  cases e<;>try exact X1.elim
  exact fin (.panicking l) (.panicking _) X1 hk
 |exit i=>exact hk.elim
end
end Go.Vs
end
section
namespace Go.Vs
structure Tok where
 kind:Int
 text:List UInt8
 n:Int
 line:Int
 col:Int
inductive qu where
 |node (kind:Int) (name:List UInt8) (n line col:Int) (kids:List qu)
structure Flt where
 line:Int
 col:Int
 e:Int
abbrev Rs(α:Type):=Option (Except Flt α)
def Rs.ok{α:Type}(x:α):Rs α:=some (.ok x)
def Rs.bad{α:Type}(f:Flt):Rs α:=some (.error f)
def Rs.bind{α β:Type}(x:Rs α)(k:α->Rs β):Rs β:=match x with
 |none=>none
 |some (.error f)=>some (.error f)
 |some (.ok a)=>k a
namespace Ps
abbrev bs(s:List UInt8):=s
def wType:List UInt8:=[116,121,112,101]
def wStruct:List UInt8:=[115,116,114,117,99,116]
def wInterface:List UInt8:=[105,110,116,101,114,102,97,99,101]
def wFunc:List UInt8:=[102,117,110,99]
def wVar:List UInt8:=[118,97,114]
def wIf:List UInt8:=[105,102]
def wElse:List UInt8:=[101,108,115,101]
def wFor:List UInt8:=[102,111,114]
def wBreak:List UInt8:=[98,114,101,97,107]
def wContinue:List UInt8:=[99,111,110,116,105,110,117,101]
def wReturn:List UInt8:=[114,101,116,117,114,110]
def wPrint:List UInt8:=[112,114,105,110,116]
def wLen:List UInt8:=[108,101,110]
def wMake:List UInt8:=[109,97,107,101]
def wNew:List UInt8:=[110,101,119]
def wInput:List UInt8:=[105,110,112,117,116]
def wTrue:List UInt8:=[116,114,117,101]
def wFalse:List UInt8:=[102,97,108,115,101]
def wNil:List UInt8:=[110,105,108]
def wInt:List UInt8:=[105,110,116]
def wBool:List UInt8:=[98,111,111,108]
def wString:List UInt8:=[115,116,114,105,110,103]
def tk(l:List Tok)(at_:Nat):Tok:=l.getD at_ ⟨0,[],0,0,0⟩
def flt(l:List Tok)(at_:Nat)(e:Int):Flt:=⟨(tk l at_).line,(tk l at_).col,e⟩
def is(l:List Tok)(at_:Nat)(s:List UInt8):Bool:=
 ((tk l at_).kind==3||(tk l at_).kind==6||(tk l at_).kind==1)&&(tk l at_).text==s
def need(l:List Tok)(at_:Nat)(s:List UInt8):Except Flt Nat:=if is l at_ s then .ok (at_+1)else .error (flt l at_ 13)
def name(l:List Tok)(at_:Nat):Except Flt Nat:=if(tk l at_).kind==2 then .ok (at_+1)else .error (flt l at_ 13)
def gapsN(l:List Tok):Nat->Nat->Nat
 |0,a=>a
 |n+1,a=>if is l a [59]then gapsN l n (a+1)else a
def gaps(l:List Tok)(a:Nat):Nat:=gapsN l (l.length - a) a
def ends(l:List Tok)(a:Nat):Except Flt Nat:=if is l a [125]then .ok (gaps l a)else match need l a [59]with
 | .ok b=> .ok (gaps l b)
 | .error f=> .error f
def leaf(t:Tok)(kind:Int)(nm:List UInt8):qu:= .node kind nm 0 t.line t.col []
def mk(t:Tok)(kind:Int)(nm:List UInt8)(kids:List qu):qu:= .node kind nm 0 t.line t.col kids
def none_:qu:= .node 38 [] 0 0 0 []
def lift{α β:Type}(x:Except Flt α)(k:α->Rs β):Rs β:=match x with
 | .ok a=>k a
 | .error f=>some (.error f)
def rank(s:List UInt8):Int:=
 if s=[124,124]then 1
 else if s=[38,38]then 2
 else if s=[61,61]\/s=[33,61]\/s=[60]\/s=[60,61]\/s=[62]\/s=[62,61]then 3
 else if s=[43]\/s=[45]then 4
 else if s=[42]\/s=[47]\/s=[37]then 5
 else 0
inductive Rule where
 |typ|field|method|param|stmt|ifs|block|expr|binary (k:Int)|binGo (k:Int) (x:qu)|unary|post|postGo (x:qu)|prime
def rowGo(l:List Tok)(one:Nat->Rs (qu×Nat)):Nat->Nat->Rs (List qu×Nat)
 |0,_=>none
 |n+1,a=>Rs.bind (one a) λ(x,b)=>if is l b [44]then Rs.bind (rowGo l one n (b+1)) λ(xs,c)=> .ok (x::xs,c)
  else lift (need l b [41]) λc=> .ok ([x],c)
def row(l:List Tok)(one:Nat->Rs (qu×Nat))(n a:Nat):Rs (List qu×Nat):=
 lift (need l a [40]) λb=>if is l b [41]then .ok ([],b+1)else rowGo l one n b
def listGo(l:List Tok)(one:Nat->Rs (qu×Nat)):Nat->Nat->Rs (List qu×Nat)
 |0,_=>none
 |n+1,a=>if is l a [125]then .ok ([],a+1)else Rs.bind (one a) λ(x,b)=>lift (ends l b) λc=>Rs.bind (listGo l one n c) λ(xs,d)=> .ok (x::xs,d)
def list(l:List Tok)(one:Nat->Rs (qu×Nat))(n a:Nat):Rs (List qu×Nat):=
 lift (need l a [123]) λb=>listGo l one n (gaps l b)
def isTyp(l:List Tok)(a:Nat):Bool:=is l a wInt||is l a wBool||is l a wString
def run(l:List Tok):Nat->Rule->Nat->Nat->Rs (qu×Nat)
 |0,_,_,_=>none
 |n+1,rule,d,a=>
  let t:=tk l a
  let go:=run l n
  let result:=λb=>if(tk l b).kind==2||isTyp l b||is l b [91]then go .typ d b else .ok (none_,b)
  match rule with
  | .typ=>if 40<=d then .bad (flt l a 14)else
   if is l a [91]then lift (need l (a+1) [93]) λb=>Rs.bind (go .typ (d+1) b) λ(x,c)=> .ok (mk t 9 [] [x],c)
   else if isTyp l a then .ok (leaf t 8 t.text,a+1)
   else lift (name l a) λb=> .ok (leaf t 8 t.text,b)
  | .field=>lift (name l a) λb=>Rs.bind (go .typ d b) λ(x,c)=> .ok (mk t 4 t.text [x],c)
  | .param=>lift (name l a) λb=>Rs.bind (go .typ d b) λ(x,c)=> .ok (mk t 7 t.text [x],c)
  | .method=>lift (name l a) λb=>Rs.bind (row l (go .typ d) n b) λ(xs,c)=>Rs.bind (result c) λ(y,e)=> .ok (mk t 5 t.text (y::xs),e)
  | .block=>Rs.bind (list l (go .stmt d) n a) λ(xs,b)=> .ok (mk t 10 [] xs,b)
  | .ifs=>lift (need l a wIf) λb=>Rs.bind (go .expr d b) λ(e,b)=>Rs.bind (go .block d b) λ(y,b)=>
   if is l b wElse then
    if is l (b+1) wIf then Rs.bind (go .ifs d (b+1)) λ(z,c)=> .ok (mk t 14 [] [e,y,z],c)
    else if is l (b+1) [123]then Rs.bind (go .block d (b+1)) λ(z,c)=> .ok (mk t 14 [] [e,y,z],c)
    else .bad (flt l (b+1) 13)
   else .ok (mk t 14 [] [e,y,none_],b)
  | .stmt=>if 40<=d then .bad (flt l a 14)else
   let d:=d+1
   if is l a [123]then go .block d a
   else if is l a wVar then lift (name l (a+1)) λb=>Rs.bind (go .typ d b) λ(ty,c)=>
    if is l c [61]then Rs.bind (go .expr d (c+1)) λ(e,g)=> .ok (mk t 11 (tk l (a+1)).text [ty,e],g)
    else .ok (mk t 11 (tk l (a+1)).text [ty,none_],c)
   else if is l a wIf then go .ifs d a
   else if is l a wFor then
    if is l (a+1) [123]then Rs.bind (go .block d (a+1)) λ(y,c)=> .ok (mk t 15 [] [none_,y],c)
    else Rs.bind (go .expr d (a+1)) λ(e,b)=>Rs.bind (go .block d b) λ(y,c)=> .ok (mk t 15 [] [e,y],c)
   else if is l a wBreak then .ok (leaf t 16 [],a+1)
   else if is l a wContinue then .ok (leaf t 17 [],a+1)
   else if is l a wReturn then
    if is l (a+1) [59]||is l (a+1) [125]then .ok (mk t 18 [] [none_],a+1)
    else Rs.bind (go .expr d (a+1)) λ(e,b)=> .ok (mk t 18 [] [e],b)
   else if is l a wPrint then lift (need l (a+1) [40]) λb=>Rs.bind (go .expr d b) λ(e,c)=>lift (need l c [41]) λg=> .ok (mk t 20 [] [e],g)
   else Rs.bind (go .expr d a) λ(e,b)=>
    if is l b [58,61]then Rs.bind (go .expr d (b+1)) λ(y,c)=> .ok (mk (tk l b) 12 [] [e,y],c)
    else if is l b [61]then Rs.bind (go .expr d (b+1)) λ(y,c)=> .ok (mk (tk l b) 13 [] [e,y],c)
    else .ok (mk t 19 [] [e],b)
  | .expr=>if 40<=d then .bad (flt l a 14)else go (.binary 1) (d+1) a
  | .binary k=>Rs.bind (go .unary d a) λ(x,b)=>go (.binGo k x) d b
  | .binGo k x=>if(t.kind==6)&&decide (k<=rank t.text)then Rs.bind (go (.binary (rank t.text+1)) d (a+1)) λ(y,b)=>go (.binGo k (mk t 28 t.text [x,y])) d b
   else .ok (x,a)
  | .unary=>if is l a [45]||is l a [33]then Rs.bind (go .unary d (a+1)) λ(x,b)=> .ok (mk t 27 t.text [x],b)else go .post d a
  | .post=>Rs.bind (go .prime d a) λ(x,b)=>go (.postGo x) d b
  | .postGo x=>
   if is l a [91]then Rs.bind (go .expr d (a+1)) λ(i,b)=>lift (need l b [93]) λc=>go (.postGo (mk t 32 [] [x,i])) d c
   else if is l a [46]then
    if is l (a+1) [40]then Rs.bind (go .typ d (a+2)) λ(ty,b)=>lift (need l b [41]) λc=>go (.postGo (mk t 37 [] [x,ty])) d c
    else lift (name l (a+1)) λb=>
     if is l b [40]then Rs.bind (row l (go .expr d) n b) λ(xs,c)=>go (.postGo (mk t 31 (tk l (a+1)).text (x::xs))) d c
     else go (.postGo (mk t 30 (tk l (a+1)).text [x])) d b
   else .ok (x,a)
  | .prime=>
   if t.kind==4 then .ok (.node 21 [] t.n t.line t.col [],a+1)
   else if t.kind==5 then .ok (leaf t 24 t.text,a+1)
   else if t.kind==2 then
    if is l (a+1) [40]then Rs.bind (row l (go .expr d) n (a+1)) λ(xs,b)=> .ok (mk t 29 t.text xs,b)
    else .ok (leaf t 26 t.text,a+1)
   else if is l a wTrue then .ok (leaf t 22 [],a+1)
   else if is l a wFalse then .ok (leaf t 23 [],a+1)
   else if is l a wNil then .ok (leaf t 25 [],a+1)
   else if is l a [40]then Rs.bind (go .expr d (a+1)) λ(x,b)=>lift (need l b [41]) λc=> .ok (x,c)
   else if is l a wLen then lift (need l (a+1) [40]) λb=>Rs.bind (go .expr d b) λ(x,c)=>lift (need l c [41]) λg=> .ok (mk t 33 [] [x],g)
   else if is l a wNew then lift (need l (a+1) [40]) λb=>Rs.bind (go .typ d b) λ(x,c)=>lift (need l c [41]) λg=> .ok (mk t 35 [] [x],g)
   else if is l a wMake then lift (need l (a+1) [40]) λb=>Rs.bind (go .typ d b) λ(x,c)=>lift (need l c [44]) λe=>Rs.bind (go .expr d e) λ(y,g)=>lift (need l g [41]) λi=> .ok (mk t 34 [] [x,y],i)
   else if is l a wInput then lift (need l (a+1) [40]) λb=>lift (need l b [41]) λc=> .ok (leaf t 36 [],c)
   else .bad (flt l a 13)
def result(l:List Tok)(n:Nat)(b:Nat):Rs (qu×Nat):=if(tk l b).kind==2||isTyp l b||is l b [91]then run l n .typ 0 b else .ok (none_,b)
def typeDecl(l:List Tok)(n a:Nat):Rs (qu×Nat):=
 lift (need l a wType) λa1=>lift (name l a1) λb=>
  if is l b wInterface then Rs.bind (list l (run l n .method 0) n (b+1)) λ(xs,c)=> .ok (mk (tk l a) 3 (tk l a1).text xs,c)
  else lift (need l b wStruct) λb=>Rs.bind (list l (run l n .field 0) n b) λ(xs,c)=> .ok (mk (tk l a) 2 (tk l a1).text xs,c)
def recv(l:List Tok)(a:Nat):Except Flt (qu×Nat):=
 if is l a [40]then do
  let b <-name l (a+1)
  let c <-name l b
  let d <-need l c [41]
  .ok (mk (tk l (a+1)) 7 (tk l (a+1)).text [leaf (tk l b) 8 (tk l b).text],d)
 else .ok (none_,a)
def funcDecl(l:List Tok)(n a:Nat):Rs (qu×Nat):=
 lift (need l a wFunc) λa1=>lift (recv l a1) λ(rv,b)=>lift (name l b) λc=>
  Rs.bind (row l (run l n .param 0) n c) λ(ps,d)=>Rs.bind (result l n d) λ(y,e)=>Rs.bind (run l n .block 0 e) λ(body,f)=>
   .ok (mk (tk l a) 6 (tk l b).text (rv::y::body::ps),f)
def declsGo(l:List Tok)(n:Nat):Nat->Nat->Rs (List qu)
 |0,_=>none
 |k+1,a=>if(tk l a).kind==0 then .ok []else
  Rs.bind (if is l a wType then typeDecl l n a else if is l a wFunc then funcDecl l n a else .bad (flt l a 13)) λ(x,b)=>
   lift (need l b [59]) λc=>Rs.bind (declsGo l n k (gaps l c)) λxs=> .ok (x::xs)
def file(l:List Tok)(n:Nat):Rs qu:=Rs.bind (declsGo l n n (gaps l 0)) λxs=> .ok (mk (tk l 0) 1 [] xs)
end Ps
namespace Ck
abbrev Bs:=List UInt8
structure yM where
 name:Bs
 params:List Nat
 result:Nat
 fn:Int
structure Ty where
 kind:Nat
 name:Bs
 elem:Nat
 fields:List (Bs×Nat)
 methods:List yM
structure CSg where
 name:Bs
 recv:Nat
 params:List Nat
 result:Nat
structure Var where
 name:Bs
 t:Nat
 deep:Nat
structure Ku where
 types:List Ty
 funcs:List CSg
 main:Nat
abbrev Ex(α:Type):=Except Flt α
def ob{α β:Type}(x:Ex α)(k:α->Ex β):Ex β:=match x with
 | .ok a=>k a
 | .error f=> .error f
def kh:qu->Int| .node k _ _ _ _ _=>k
def jR:qu->Bs| .node _ s _ _ _ _=>s
def Zm:qu->List qu| .node _ _ _ _ _ l=>l
def WG(e:Int):qu->Flt| .node _ _ _ l c _=>⟨l,c,e⟩
def zx:qu:= .node 0 [] 0 0 0 []
def Q3(t:qu)(i:Nat):qu:=(Zm t).getD i zx
def zk{α:Type}(p:Nat->α->Bool):List α->Nat->Option Nat
 |[],_=>none
 |x::l,i=>if p i x then some i else zk p l (i+1)
def need{β:Type}(b:Bool)(n:qu)(e:Int)(k:Ex β):Ex β:=if b then k else .error (WG e n)
def base:List Ty:=[⟨0,[],0,[],[]⟩,⟨1,Ps.wInt,0,[],[]⟩,⟨2,Ps.wBool,0,[],[]⟩,⟨3,Ps.wString,0,[],[]⟩,⟨4,Ps.wNil,0,[],[]⟩]
def tyZ:Ty:=⟨0,[],0,[],[]⟩
def ty(T:List Ty)(t:Nat):Ty:=T.getD t tyZ
def kindT(T:List Ty)(t:Nat):Nat:=(ty T t).kind
def named(T:List Ty)(s:Bs):Option Nat:=zk (λi x=>decide (x.kind≠6)&&(decide (x.name=s)&&(decide (i≠0)&&decide (i≠4)))) T 0
def qaw(T:List Ty)(e:Nat):Option Nat:=zk (λ_ x=>decide (x.kind=6)&&decide (x.elem=e)) T 0
def Q9(T:List Ty)(n:qu)(e:Nat):Ex (Nat×List Ty):=match qaw T e with
 |some i=> .ok (i,T)
 |none=>need (decide (T.length<60)) n 18 (.ok (T.length,T++[⟨6,[],e,[],[]⟩]))
def VA(T:List Ty)(s:Bs)(f:Flt):Ex (Nat×List Ty):=match named T s with
 |some i=> .ok (i,T)
 |none=> .error f
mutual
def typ(T:List Ty):qu->Ex (Nat×List Ty)
 | .node k s n l c ks=>if k=9 then ob (Qs T ks) λp=>Q9 p.2 (.node k s n l c ks) p.1 else VA T s ⟨l,c,15⟩
def Qs(T:List Ty):List qu->Ex (Nat×List Ty)
 |[]=>VA T [] ⟨0,0,15⟩
 |x::_=>typ T x
end
def res(T:List Ty)(n:qu):Ex (Nat×List Ty):=if kh n=38 then .ok (0,T)else typ T n
def vV(T:List Ty):List qu->Ex (List Nat×List Ty)
 |[]=> .ok ([],T)
 |n::ns=>ob (typ T n) λ(x,T)=>ob (vV T ns) λ(xs,T)=> .ok (x::xs,T)
def field(T:List Ty)(t:Nat)(s:Bs):Option Nat:=if kindT T t=5 then zk (λ_ x=>decide (x.1=s)) (ty T t).fields 0 else none
def Jn(T:List Ty)(t:Nat)(s:Bs):Option Nat:=if kindT T t=5\/kindT T t=7 then zk (λ_ x=>decide (x.name=s)) (ty T t).methods 0 else none
def qvn:yM:=⟨[],[],0,0⟩
def vY(T:List Ty)(t i:Nat):yM:=(ty T t).methods.getD i qvn
def has(T:List Ty)(s f:Nat):Bool:=decide (kindT T s=5)&&decide (kindT T f=7)&&(ty T f).methods.all λm=>match Jn T s m.name with
 |none=>false
 |some i=>decide ((vY T s i).result=m.result)&&decide ((vY T s i).params=m.params)
def JG(k:Nat):Bool:=decide (k=5)||decide (k=6)||decide (k=7)
def fits(T:List Ty)(a b:Nat):Bool:=if a=b then decide (kindT T a≠0)&&decide (kindT T a≠4)else if kindT T a=4 then JG (kindT T b)else has T a b
def equal(T:List Ty)(a b:Nat):Bool:=
 if kindT T a=4\/kindT T b=4 then decide (kindT T a≠kindT T b)&&(JG (kindT T a)||JG (kindT T b))
 else if a=b then decide (kindT T a≠0)&&decide (kindT T a≠6)
 else has T a b||has T b a
def declared(T:List Ty)(n:qu):Ex (List Ty):=
 need (named T (jR n)).isNone n 16 (need (decide (T.length - 5<40)) n 18 (.ok (T++[⟨if kh n=3 then 7 else 5,jR n,0,[],[]⟩])))
def kc(T:List Ty):List qu->Ex (List Ty)
 |[]=> .ok T
 |n::ns=>ob (declared T n) λT=>kc T ns
def jL(T:List Ty)(t:Nat)(x:Ty):List Ty:=T.set t x
def ZD(T:List Ty)(t:Nat)(k:qu):Ex (List Ty):=
 if kh k=4 then ob (typ T (Q3 k 0)) λ(x,T)=> .ok (jL T t {ty T t with fields:=(ty T t).fields++[(jR k,x)]})
 else need (decide ((Zm k).length<=9)) k 18 (ob (res T (Q3 k 0)) λ(r,T)=>ob (vV T ((Zm k).drop 1)) λ(ps,T)=>
  .ok (jL T t {ty T t with methods:=(ty T t).methods++[⟨jR k,ps,r,-1⟩]}))
def z7(t:Nat)(T:List Ty)(names:List Bs):List qu->Ex (List Ty)
 |[]=> .ok T
 |k::ks=>need (!names.contains (jR k)) k 16 (need (decide (names.length<12)) k 18 (ob (ZD T t k) λT=>z7 t T (names++[jR k]) ks))
def zW(T:List Ty)(t:Nat):List qu->Ex (List Ty)
 |[]=> .ok T
 |n::ns=>ob (z7 t T [] (Zm n)) λT=>zW T (t+1) ns
def yW(names:List Bs):List qu->Ex Unit
 |[]=> .ok ()
 |p::ps=>need (!names.contains (jR p)) p 16 (yW (names++[jR p]) ps)
def receiver(T:List Ty)(n ty_:qu):Ex Nat:=match named T (jR ty_)with
 |none=> .error (WG 15 ty_)
 |some t=>need (decide (kindT T t=5)) ty_ 15 (need ((field T t (jR n)).isNone&&(Jn T t (jR n)).isNone) n 16 (need (decide ((ty T t).methods.length<12)) n 18 (.ok t)))
def Xc(n:qu):List qu:=(Zm n).drop 3
def kB(n:qu):List qu:=if kh (Q3 n 0)=38 then Xc n else Q3 n 0::Xc n
def Ju(T:List Ty)(fs:List CSg)(n:qu):Ex Nat:=
 if kh (Q3 n 0)=38 then need (fs.all λf=>decide (f.recv≠0\/f.name≠jR n)) n 16 (.ok 0)
 else receiver T n (Q3 (Q3 n 0) 0)
def function(T:List Ty)(fs:List CSg)(n:qu):Ex (List Ty×List CSg):=
 ob (Ju T fs n) λrv=>
 need (decide (fs.length<60)) n 18 (need (decide ((kB n).length<=8)) n 18 (
 ob (yW [] (kB n)) λ_=>ob (res T (Q3 n 1)) λ(r,T)=>ob (vV T ((kB n).map λp=>Q3 p 0)) λ(ps,T)=>
 let T:=if rv=0 then T else jL T rv {ty T rv with methods:=(ty T rv).methods++[⟨jR n,ps.drop 1,r,(fs.length:Int)⟩]}
 .ok (T,fs++[⟨jR n,rv,ps,r⟩])))
def jq(T:List Ty)(fs:List CSg):List qu->Ex (List Ty×List CSg)
 |[]=> .ok (T,fs)
 |n::ns=>ob (function T fs n) λ(T,fs)=>jq T fs ns
def qom:Bs:=[109,97,105,110]
def callee(s:Bs)(fs:List CSg):Option Nat:=zk (λ_ f=>decide (f.recv=0)&&decide (f.name=s)) fs 0
def sgZ:CSg:=⟨[],0,[],0⟩
def sg(fs:List CSg)(i:Nat):CSg:=fs.getD i sgZ
def main(fs:List CSg):Ex Nat:=match callee qom fs with
 |none=> .error ⟨1,1,15⟩
 |some i=>if(sg fs i).params.length=0/\(sg fs i).result=0 then .ok i else .error ⟨1,1,15⟩
def look(s:Bs):List Var->Option Nat
 |[]=>none
 |v::vs=>match look s vs with
  |some t=>some t
  |none=>if v.name=s then some v.t else none
def args(T:List Ty)(n:qu)(kids:List qu)(l ps:List Nat):Ex Unit:=
 need (decide (l.length=ps.length)) n 18 (go kids l ps)
where
 go:List qu->List Nat->List Nat->Ex Unit
 |k::ks,t::ts,p::ps=>need (fits T t p) k 17 (go ks ts ps)
 |_,_,_=> .ok ()
def sLt:List Bs:=[[60],[60,61],[62],[62,61]]
def binary(T:List Ty)(n:qu)(a b:Nat):Ex Nat:=
 let ints:=decide (a=1)&&decide (b=1)
 let texts:=decide (a=3)&&decide (b=3)
 let s:=jR n
 if s=[43]then need (ints||texts) n 17 (.ok a)
 else if s∈sLt then need (ints||texts) n 17 (.ok 2)
 else if s=[38,38]\/s=[124,124]then need (decide (a=2)&&decide (b=2)) n 17 (.ok 2)
 else if s=[61,61]\/s=[33,61]then need (equal T a b) n 17 (.ok 2)
 else need ints n 17 (.ok 1)
def made(T:List Ty)(fs:List CSg)(n:qu)(l:List Nat):Ex Nat:=
 let k:=kh n
 let a:=l.headD 0
 let z:=l.getLastD 0
 let ka:=kindT T a
 if k=29 then match callee (jR n) fs with
  |some i=>ob (args T n (Zm n) l (sg fs i).params) λ_=> .ok (sg fs i).result
  |none=> .error (WG 15 n)
 else if l=[]then .ok 0
 else if k=27 then(if jR n=[33]then need (decide (a=2)) n 17 (.ok 2)else need (decide (a=1)) n 17 (.ok 1))
 else if k=28 then binary T n a z
 else if k=30 then need (decide (ka=5)) n 17 (match field T a (jR n)with
  |some i=> .ok (((ty T a).fields.getD i ([],0)).2)
  |none=> .error (WG 15 n))
 else if k=31 then need (decide (ka=5)||decide (ka=7)) n 17 (match Jn T a (jR n)with
  |some i=>ob (args T n ((Zm n).drop 1) (l.drop 1) (vY T a i).params) λ_=> .ok (vY T a i).result
  |none=> .error (WG 15 n))
 else if k=32 then need ((decide (ka=6)||decide (ka=3))&&decide (z=1)) n 17 (.ok (if ka=3 then 1 else(ty T a).elem))
 else if k=33 then need (decide (ka=6)||decide (ka=3)) n 17 (.ok 1)
 else .ok 0
section
variable(fs:List CSg)(vs:List Var)
mutual
def expr(T:List Ty):qu->Ex (Nat×List Ty)
 | .node k s n l c ks=>
  if k=21\/k=36 then .ok (1,T)
  else if k=22\/k=23 then .ok (2,T)
  else if k=24 then .ok (3,T)
  else if k=25 then .ok (4,T)
  else if k=26 then(match look s vs with
   |some t=> .ok (t,T)
   |none=> .error ⟨l,c,15⟩)
  else if k=34 then ob (typ T (ks.getD 0 zx)) λp=>ob (Zy p.2 ks 1) λq=>need (decide (kindT q.2 p.1=6)&&decide (q.1=1)) (.node k s n l c ks) 17 (.ok (p.1,q.2))
  else if k=35 then ob (typ T (ks.getD 0 zx)) λp=>need (decide (kindT p.2 p.1=5)) (.node k s n l c ks) 17 (.ok (p.1,p.2))
  else if k=37 then ob (Zy T ks 0) λp=>ob (typ p.2 (ks.getD 1 zx)) λq=>need (has q.2 q.1 p.1) (.node k s n l c ks) 17 (.ok (q.1,q.2))
  else ob (QU T ks) λp=>ob (made p.2 fs (.node k s n l c ks) p.1) λt=> .ok (t,p.2)
def QU(T:List Ty):List qu->Ex (List Nat×List Ty)
 |[]=> .ok ([],T)
 |k::ks=>ob (expr T k) λp=>ob (QU p.2 ks) λq=> .ok (p.1::q.1,q.2)
def Zy(T:List Ty):List qu->Nat->Ex (Nat×List Ty)
 |[],_=> .ok (0,T)
 |k::_,0=>expr T k
 |_::ks,i+1=>Zy T ks i
end
end
structure St where
 T:List Ty
 vs:List Var
 many:Nat
def declare(S:St)(deep:Nat)(n:qu)(s:Bs)(t:Nat):Ex St:=
 need (S.vs.all λv=>decide (v.deep≠deep\/v.name≠s)) n 16 (need (decide (S.many<40)) n 18 (.ok ⟨S.T,S.vs++[⟨s,t,deep⟩],S.many+1⟩))
section
variable(fs:List CSg)(r:Nat)
mutual
def stmt(deep loops:Nat)(S:St):qu->Ex St
 | .node k s n l c ks=>
  if k=10 then ob (wJ (deep+1) loops S ks) λS'=> .ok ⟨S'.T,S'.vs.take S.vs.length,S'.many⟩
  else if k=11 then ob (typ S.T (ks.getD 0 zx)) λp=>ob (if kh (ks.getD 1 zx)=38 then .ok p.2 else ob (expr fs S.vs p.2 (ks.getD 1 zx)) λq=>need (fits q.2 q.1 p.1) (ks.getD 1 zx) 17 (.ok q.2)) λT=>declare ⟨T,S.vs,S.many⟩ deep (.node k s n l c ks) s p.1
  else if k=12 then need (decide (kh (ks.getD 0 zx)=26)) (.node k s n l c ks) 19 (ob (expr fs S.vs S.T (ks.getD 1 zx)) λp=>need (decide (p.1≠0)&&decide (p.1≠4)) (ks.getD 1 zx) 17 (declare ⟨p.2,S.vs,S.many⟩ deep (ks.getD 0 zx) (jR (ks.getD 0 zx)) p.1))
  else if k=13 then ob (expr fs S.vs S.T (ks.getD 0 zx)) λp=>
   ob (if kh (ks.getD 0 zx)=32 then ob (expr fs S.vs p.2 (Q3 (ks.getD 0 zx) 0)) λq=>need (decide (kindT q.2 q.1=6)) (.node k s n l c ks) 19 (.ok q.2)else need (decide (kh (ks.getD 0 zx)=26)||decide (kh (ks.getD 0 zx)=30)) (.node k s n l c ks) 19 (.ok p.2)) λT=>
   ob (expr fs S.vs T (ks.getD 1 zx)) λq=>need (fits q.2 q.1 p.1) (ks.getD 1 zx) 17 (.ok ⟨q.2,S.vs,S.many⟩)
  else if k=14 then ob (expr fs S.vs S.T (ks.getD 0 zx)) λp=>need (decide (p.1=2)) (ks.getD 0 zx) 17 (ob (jT deep loops ⟨p.2,S.vs,S.many⟩ ks 1) λS=>if kh (ks.getD 2 zx)=38 then .ok S else ke deep loops S ks 2)
  else if k=15 then ob (if kh (ks.getD 0 zx)=38 then .ok S.T else ob (expr fs S.vs S.T (ks.getD 0 zx)) λp=>need (decide (p.1=2)) (ks.getD 0 zx) 17 (.ok p.2)) λT=>jT deep (loops+1) ⟨T,S.vs,S.many⟩ ks 1
  else if k=16\/k=17 then need (decide (0<loops)) (.node k s n l c ks) 19 (.ok S)
  else if k=18 then(if kh (ks.getD 0 zx)=38 then need (decide (r=0)) (.node k s n l c ks) 17 (.ok S)else ob (expr fs S.vs S.T (ks.getD 0 zx)) λp=>need (decide (r≠0)) (ks.getD 0 zx) 17 (need (fits p.2 p.1 r) (ks.getD 0 zx) 17 (.ok ⟨p.2,S.vs,S.many⟩)))
  else if k=19 then need (decide (kh (ks.getD 0 zx)=29)||decide (kh (ks.getD 0 zx)=31)) (.node k s n l c ks) 19 (ob (expr fs S.vs S.T (ks.getD 0 zx)) λp=> .ok ⟨p.2,S.vs,S.many⟩)
  else if k=20 then ob (expr fs S.vs S.T (ks.getD 0 zx)) λp=>need (decide (p.1=1)||decide (p.1=2)||decide (p.1=3)) (ks.getD 0 zx) 17 (.ok ⟨p.2,S.vs,S.many⟩)
  else .ok S
def block(deep loops:Nat)(S:St):qu->Ex St
 | .node _ _ _ _ _ ks=>ob (wJ (deep+1) loops S ks) λS'=> .ok ⟨S'.T,S'.vs.take S.vs.length,S'.many⟩
def wJ(deep loops:Nat)(S:St):List qu->Ex St
 |[]=> .ok S
 |n::ns=>ob (stmt deep loops S n) λS=>wJ deep loops S ns
def ke(deep loops:Nat)(S:St):List qu->Nat->Ex St
 |[],_=> .ok S
 |n::_,0=>stmt deep loops S n
 |_::ns,i+1=>ke deep loops S ns i
def jT(deep loops:Nat)(S:St):List qu->Nat->Ex St
 |[],_=> .ok ⟨S.T,S.vs.take S.vs.length,S.many⟩
 |n::_,0=>block deep loops S n
 |_::ns,i+1=>jT deep loops S ns i
end
end
mutual
def yT:qu->Bool
 | .node k _ _ _ _ ks=>if k=16 then true else if k=10\/k=14 then qaj ks else false
def qaj:List qu->Bool
 |[]=>false
 |n::ns=>yT n||qaj ns
end
def qla(ks:List qu)(i:Nat):Bool:=yT (ks.getD i zx)
mutual
def ends:qu->Bool
 | .node k _ _ _ _ ks=>if k=18 then true else if k=10 then wx ks else if k=14 then YY ks 1&&YY ks 2
  else if k=15 then decide (kh (ks.getD 0 zx)=38)&& !qla ks 1 else false
def wx:List qu->Bool
 |[]=>false
 |[n]=>ends n
 |_::m::ns=>wx (m::ns)
def YY:List qu->Nat->Bool
 |[],_=>false
 |n::_,0=>ends n
 |_::ns,i+1=>YY ns i
end
def zN(ps:List qu)(ts:List Nat):List Var:=(ps.zip ts).map λ(p,t)=>⟨jR p,t,0⟩
def body(T:List Ty)(fs:List CSg)(f:CSg)(n:qu):Ex (List Ty):=
 let vs:=zN (kB n) f.params
 ob (block fs f.result 0 0 ⟨T,vs,vs.length⟩ (Q3 n 2)) λS=>need (decide (f.result=0)||ends (Q3 n 2)) n 20 (.ok S.T)
def we(T:List Ty)(fs:List CSg):List CSg->List qu->Ex (List Ty)
 |f::gs,n::ns=>ob (body T fs f n) λT=>we T fs gs ns
 |_,_=> .ok T
def qpv(n:qu):Bool:=decide (kh n=6)
def check(n:qu):Ex Ku:=
 let nodes:=(Zm n).filter qpv
 let decls:=(Zm n).filter λx=> !qpv x
 ob (kc base decls) λT=>ob (zW T 5 decls) λT=>ob (jq T [] nodes) λ(T,fs)=>ob (main fs) λm=>ob (we T fs fs nodes) λT=> .ok ⟨T,fs,m⟩
end Ck
end Go.Vs
end
section
namespace Go.Vs
variable [GTab] {H:qc}
noncomputable section
abbrev GH:=Nat->Option (List qa)
def gup(b:Nat)(x:Option (List qa))(Γ:GH):GH:=λc=>if c=b then x else Γ c
theorem qk(b:Nat)(x:Option (List qa))(Γ:GH):gup b x Γ b=x:=by simp [gup]
theorem qn{b c:Nat}{x:Option (List qa)}{Γ:GH}(h:c≠b):gup b x Γ c=Γ c:=by simp [gup,h]
theorem vz(b:Nat)(x y:Option (List qa))(Γ:GH):gup b x (gup b y Γ)=gup b x Γ:=by
 funext c;by_cases h:c=b<;>simp [gup,h]
def Row(H:qc)(b:Nat)(cs:List qa)(olds:List Nat):Prop:=∃ct,H b=some (.cells cs.length ct olds false)/\ct.take cs.length=cs
theorem Zd{α:Type}{n:Nat}{l m:List α}(h:l.take n=m)(hm:m.length=n):n<=l.length:=by
 have:=congrArg List.length h
 rw [List.length_take,hm]at this;omega
theorem ZM{cs ct:CT}{off sz:Nat}(hc:ct.take cs.length=cs)(ho:off+sz<=cs.length):CT.slab ct sz off=(cs.drop off).take sz:=by
 have hl:=Zd hc rfl
 rw [CT.slab_eq (by omega)]
 conv=>rhs;rw [<-hc]
 rw [List.drop_take,List.take_take,Nat.min_eq_left (by omega)]
theorem Vj:∀{l:List Nat} {H:qc} {c:Nat},c ∉ l->yu l H c=H c
 |[],_,_,_=>rfl
 |b::l,H,c,h=>by
  rw [YO,Vj (λx=>h (List.mem_cons_of_mem _ x))]
  show zf c (zS b _ H)=zf c H
  exact jm (λe=>h (by rw [e];exact List.mem_cons_self)) (by omega) (by omega)
theorem w9{b c:Nat}{x:Option wD}(h:c≠b):zS b x H c=H c:=jm (H:=H) (x:=x) (λe=>h e.symm) (by omega) (by omega)
theorem JV(b:Nat)(x:Option wD)(H:qc):zS b x H b=x:=qW b x H
end
end Go.Vs
end
section
namespace Go.Vs
variable [GTab] {H:qc} {nx:Nat}
noncomputable section
def HZ(Z:Nat->Prop)(Γ:GH)(H:qc)(nx:Nat):Prop:=(∀b,Z b->b<nx)/\∀b cs,Γ b=some cs->(b<nx/\¬Z b)/\∃olds,Row H b cs olds/\∀o,o∈olds->(o<nx/\¬Z o)/\Γ o=none
theorem HZ.lt{Z:Nat->Prop}{Γ:GH}{nx b:Nat}{cs:List qa}(h:HZ Z Γ H nx)(e:Γ b=some cs):b<nx:=(h.2 b cs e).1.1
theorem HZ.nz{Z:Nat->Prop}{Γ:GH}{nx b:Nat}{cs:List qa}(h:HZ Z Γ H nx)(e:Γ b=some cs):¬Z b:=(h.2 b cs e).1.2
theorem HZ.non{Z:Nat->Prop}{Γ:GH}{nx b:Nat}(h:HZ Z Γ H nx)(e:nx<=b):Γ b=none:=by
 cases hb:Γ b with
 |none=>rfl
 |some cs=>exact absurd (h.lt hb) (by omega)
theorem HZ.more{Z:Nat->Prop}{Γ:GH}{nx nx':Nat}(h:HZ Z Γ H nx)(e:nx<=nx'):HZ Z Γ H nx':=⟨λb hb=>Nat.lt_of_lt_of_le (h.1 b hb) e,λb cs hb=>
 let⟨h1,olds,h2,h3⟩:=h.2 b cs hb
 ⟨⟨Nat.lt_of_lt_of_le h1.1 e,h1.2⟩,olds,h2,λo ho=>⟨⟨Nat.lt_of_lt_of_le (h3 o ho).1.1 e,(h3 o ho).1.2⟩,(h3 o ho).2⟩⟩⟩
theorem HZ.ld1{Z:Nat->Prop}{Γ:GH}{nx b:Nat}{cs:List qa}(h:HZ Z Γ H nx)(e:Γ b=some cs)(off:Nat):ld1 H (.ptr b off)=cs[off]?:=by
 obtain⟨_,olds,⟨ct,hb,hc⟩,_⟩:=h.2 b cs e
 unfold Vs.ld1;simp only [zf]
 rw [hb];have hl:=Zd hc rfl
 by_cases ho:off<cs.length
 ·have:Nat.ble (Nat.succ off) cs.length=true:=jH ho
  simp only [this,CT.get]
  rw [<-hc,List.getElem?_take_of_lt ho];simp [List.getD,show off<ct.length by omega]
 ·have:Nat.ble (Nat.succ off) cs.length=false:=by
   cases e:Nat.ble (Nat.succ off) cs.length with
   |false=>rfl
   |true=>exact(ho (Nat.le_of_ble_eq_true e)).elim
  simp only [this]
  rw [List.getElem?_eq_none (by omega)]
theorem HZ.ldN{Z:Nat->Prop}{Γ:GH}{nx b:Nat}{cs:List qa}(h:HZ Z Γ H nx)(e:Γ b=some cs){off sz:Nat}(ho:off+sz<=cs.length):
  ldN H sz (.ptr b off)=some (.agg ((cs.drop off).take sz)):=by
 obtain⟨_,olds,⟨ct,hb,hc⟩,_⟩:=h.2 b cs e
 unfold Vs.ldN;simp only [zf]
 rw [hb];have:Nat.ble (Nat.add off sz) cs.length=true:=jH ho
 simp only [this,ZM hc ho]
theorem HZ.newN{Z:Nat->Prop}{Γ:GH}{nx nx' b:Nat}(h:HZ Z Γ H nx)(hb:nx<=b)(hn:b<nx'){cs:List qa}{ct:CT}(hc:ct.take cs.length=cs):
  HZ Z (gup b (some cs) Γ) (zS b (some (.cells cs.length ct [] false)) H) nx':=by
 refine⟨λz hz=>by have:=h.1 z hz;omega,?_⟩
 intro c ds e;by_cases hc':c=b
 ·subst hc';rw [qk]at e;cases e
  exact⟨⟨hn,λz=>by have:=h.1 _ z;omega⟩,[],⟨ct,JV _ _ _,hc⟩,by simp⟩
 ·rw [qn hc']at e;obtain⟨h1,olds,⟨ct',h2,h2'⟩,h3⟩:=h.2 c ds e
  exact⟨⟨by omega,h1.2⟩,olds,⟨ct',by rw [w9 hc'];exact h2,h2'⟩,λo ho=>⟨⟨by have:=(h3 o ho).1.1;omega,(h3 o ho).1.2⟩,by rw [qn (by have:=(h3 o ho).1.1;omega)];exact(h3 o ho).2⟩⟩
theorem HZ.new{Z:Nat->Prop}{Γ:GH}{nx nx' b:Nat}(h:HZ Z Γ H nx)(hb:nx<=b)(hn:b<nx')(cs:List qa):HZ Z (gup b (some cs) Γ) (qC b cs H) nx':=
 h.newN hb hn (by rw [CT.ofL_eq rfl];exact List.take_length)
theorem HZ.st{Z:Nat->Prop}{Γ:GH}{nx b off:Nat}{cs vs:List qa}(h:HZ Z Γ H nx)(e:Γ b=some cs)(ho:off+vs.length<=cs.length)(hv:qt vs=true):
  ∃H',stC H (.ptr b off) vs=some H'/\HZ Z (gup b (some (jw cs off vs)) Γ) H' nx:=by
 obtain⟨hb,olds,⟨ct,h2,h2'⟩,h3⟩:=h.2 b cs e
 have hl:=Zd h2' rfl
 refine⟨zS b (some (.cells cs.length (relay vs vs.length off cs.length ct) [] false)) (yu olds H),?_,?_⟩
 ·unfold stC;simp only [zf]
  rw [h2];have:Nat.ble (Nat.add off vs.length) cs.length=true:=jH ho
  simp only [this,hv]
 ·refine⟨h.1,?_⟩
  intro c ds ec;by_cases hc:c=b
  ·subst hc;rw [qk]at ec;cases ec
   refine⟨hb,[],⟨_,by rw [JV,Je ho],?_⟩,by simp⟩
   rw [Je ho];unfold relay jw;split
   ·rename_i g1 g2 _;have e1:=Nat.eq_of_beq_eq_true g1
    have e2:=Nat.eq_of_beq_eq_true g2
    subst e1;rw [CT.ofL_eq e2,<-e2,List.take_length];simp only [List.take_zero,List.nil_append,Nat.zero_add]
    rw [List.drop_eq_nil_of_le (by omega)]
    simp
   ·rw [CT.lay_eq (by omega)]
    have ea:(ct.take off++vs).length=off+vs.length:=by simp;omega
    rw [List.take_append,ea,List.take_of_length_le (by omega:(ct.take off++vs).length<=cs.length)]
    congr 1
    ·conv=>rhs;rw [<-h2']
     rw [List.take_take,Nat.min_eq_left (by omega)]
    ·conv=>rhs;rw [<-h2']
     rw [List.drop_take]
  ·rw [qn hc]at ec;obtain⟨h4,olds',⟨ct',h5,h5'⟩,h6⟩:=h.2 c ds ec
   refine⟨h4,olds',⟨ct',?_,h5'⟩,λo hoo=>⟨(h6 o hoo).1,?_⟩⟩
   ·rw [w9 hc,Vj (λhm=>by have:=(h3 c hm).2;rw [ec]at this;cases this)]
    exact h5
   ·rw [qn (λx=>by have:=(h6 o hoo).2;rw [x,e]at this;cases this)]
    exact(h6 o hoo).2
theorem HZ.src{Z:Nat->Prop}{Γ:GH}{nx b off n sz e:Nat}{full:Bool}{cs:List qa}(h:HZ Z Γ H nx)(eb:Γ b=some cs)(ho:off+n*sz<=cs.length):
  jN sz H (.slice b off n e full)=some (n,(cs.drop off).take (n*sz)):=by
 obtain⟨hb,olds,⟨ct,h2,h2'⟩,h3⟩:=h.2 b cs eb
 unfold jN;simp only [zf]
 rw [h2];have:Nat.ble (Nat.add off (Nat.mul n sz)) cs.length=true:=jH ho
 simp only [this]
 rw [show Nat.mul n sz=n*sz from rfl,ZM h2' ho]
theorem HZ.appNil{Z:Nat->Prop}{Γ:GH}{nx esz ebytes k:Nat}{new:List qa}(h:HZ Z Γ H nx)(hk:new.length=k*esz)(hk0:0<k)
  (h1:k*esz<=9223372036854775807) (h2:k*ebytes<=140737488355328):
  ∃H',z3 H nx esz ebytes .nilSlice k new=some (.slice nx 0 k esz false,H',nx+1)/\HZ Z (gup nx (some new) Γ) H' (nx+1):=by
 obtain⟨k',rfl⟩:∃k',k=Nat.succ k':=⟨k - 1,by omega⟩
 have g2:Nat.ble (Nat.mul (Nat.succ k') esz) 9223372036854775807=true:=jH h1
 have g3:Nat.ble (Nat.mul (Nat.succ k') ebytes) 140737488355328=true:=jH h2
 refine⟨zS nx (some (.cells (Nat.mul (Nat.succ k') esz) (CT.ofL (Nat.mul (Nat.succ k') esz) new) [] false)) H,?_,?_⟩
 ·unfold z3;simp only [g2,g3]
 ·have e:Nat.mul (Nat.succ k') esz=new.length:=hk.symm
  rw [e];exact h.newN lR (Nat.lt_succ_self _) (by rw [CT.ofL_eq rfl];exact List.take_length)
theorem HZ.appFull{Z:Nat->Prop}{Γ:GH}{nx b off len esz ebytes k:Nat}{cs new:List qa}(h:HZ Z Γ H nx)(e:Γ b=some cs)(hl:off+len*esz<=cs.length)(hk:new.length=k*esz)(hk0:0<k)
  (h1:(len+k)*esz<=9223372036854775807) (h2:(len+k)*ebytes<=140737488355328):
  ∃H',z3 H nx esz ebytes (.slice b off len esz true) k new=some (.slice nx 0 (len+k) esz false,H',nx+1)/\HZ Z (gup nx (some ((cs.drop off).take (len*esz)++new)) Γ) H' (nx+1):=by
 obtain⟨hb,olds,⟨ct,h3,h3'⟩,h4⟩:=h.2 b cs e
 obtain⟨k',rfl⟩:∃k',k=Nat.succ k':=⟨k - 1,by omega⟩
 have g1:Nat.beq esz esz=true:=Nat.beq_refl esz
 have g2:Nat.ble (Nat.mul (Nat.add len (Nat.succ k')) esz) 9223372036854775807=true:=jH h1
 have g3:Nat.ble (Nat.mul (Nat.add len (Nat.succ k')) ebytes) 140737488355328=true:=jH h2
 have g4:Nat.ble (Nat.add off (Nat.mul len esz)) cs.length=true:=jH hl
 have hm:((cs.drop off).take (len*esz)++new).length=(len+Nat.succ k')*esz:=by
  rw [List.length_append,List.length_take,List.length_drop,hk,Nat.add_mul,Nat.min_eq_left (by omega)]
 refine⟨zS nx (some (.cells ((len+Nat.succ k')*esz) (CT.ofL ((len+Nat.succ k')*esz) ((cs.drop off).take (len*esz)++new)) [] false)) H,?_,?_⟩
 ·unfold z3;simp only [zf,h3,g1,g2,g3,g4]
  rw [show Nat.mul len esz=len*esz from rfl,ZM h3' hl];rfl
 ·rw [<-hm];exact h.newN lR (Nat.lt_succ_self _) (by rw [CT.ofL_eq rfl];exact List.take_length)
theorem HZ.app{Z:Nat->Prop}{Γ:GH}{nx b len esz ebytes k:Nat}{cs new:List qa}(h:HZ Z Γ H nx)(e:Γ b=some cs)(hl:len*esz<=cs.length)(hk:new.length=k*esz)(hk0:0<k)
  (h1:(len+k)*esz<=9223372036854775807) (h2:(len+k)*ebytes<=140737488355328):
  ∃H',z3 H nx esz ebytes (.slice b 0 len esz false) k new=some (.slice nx 0 (len+k) esz false,H',nx+1)/\
   HZ Z (gup nx (some (cs.take (len*esz)++new)) (gup b none Γ)) H' (nx+1):=by
 obtain⟨hb,olds,⟨ct,h3,h3'⟩,h4⟩:=h.2 b cs e
 have hlen:=Zd h3' rfl
 obtain⟨k',rfl⟩:∃k',k=Nat.succ k':=⟨k - 1,by omega⟩
 have g1:Nat.beq esz esz=true:=Nat.beq_refl esz
 have g2:Nat.ble (Nat.mul (Nat.add len (Nat.succ k')) esz) 9223372036854775807=true:=jH h1
 have g3:Nat.ble (Nat.mul (Nat.add len (Nat.succ k')) ebytes) 140737488355328=true:=jH h2
 have g4:Nat.ble (Nat.add 0 (Nat.mul len esz)) cs.length=true:=jH (by show 0+len*esz<=_;omega)
 have hm:(cs.take (len*esz)++new).length=(len+Nat.succ k')*esz:=by
  rw [List.length_append,List.length_take,hk,Nat.add_mul,Nat.min_eq_left (by omega)]
 have hct:(CT.lay new (len*esz) (CT.widen ((len+Nat.succ k')*esz) ct)).take (cs.take (len*esz)++new).length=cs.take (len*esz)++new:=by
  have hw:(len+Nat.succ k')*esz<=(CT.widen ((len+Nat.succ k')*esz) ct).length:=by simp [CT.widen];omega
  have hn:len*esz+new.length=(len+Nat.succ k')*esz:=by rw [hk,Nat.add_mul]
  rw [CT.lay_eq (by omega),hm]
  have ht:(CT.widen ((len+Nat.succ k')*esz) ct).take (len*esz)=cs.take (len*esz):=by
   unfold CT.widen;rw [List.take_append_of_le_length (by omega)]
   conv=>rhs;rw [<-h3']
   rw [List.take_take,Nat.min_eq_left (by omega)]
  rw [ht];exact List.take_left' hm
 have hap:z3 H nx esz ebytes (.slice b 0 len esz false) (Nat.succ k') new=some (.slice nx 0 (len+Nat.succ k') esz false,
   qcq b cs.length ct olds (len*esz) H nx ((len+Nat.succ k')*esz) (CT.lay new (len*esz) (CT.widen ((len+Nat.succ k')*esz) ct)),nx+1):=by
  unfold z3;simp only [zf,h3,g1,g2,g3,g4]
  rfl
 refine⟨_,hap,?_⟩
 rw [<-hm];have hrest:∀c ds,c≠nx->c≠b->Γ c=some ds->yu olds H c=H c:=λc ds _ _ ec=>Vj λhx=>by have:=(h4 c hx).2;rw [ec]at this;cases this
 have key:∀(H2:qc) (ol:List Nat),(∀o,o∈ol->o=b)->(∀c,c≠nx->c≠b->H2 c=yu olds H c)->
   HZ Z (gup nx (some (cs.take (len*esz)++new)) (gup b none Γ)) (zS nx (some (.cells (cs.take (len*esz)++new).length (CT.lay new (len*esz) (CT.widen (cs.take (len*esz)++new).length ct)) ol false)) H2) (nx+1):=by
  intro H2 ol hol h2c;refine⟨λz hz=>by have:=h.1 z hz;omega,?_⟩
  intro c ds ec;by_cases hc:c=nx
  ·subst hc;rw [qk]at ec;cases ec
   refine⟨⟨Nat.lt_succ_self _,λz=>by have:=h.1 _ z;omega⟩,ol,⟨_,JV _ _ _,by rw [hm];rw [hm]at hct;exact hct⟩,λo ho=> ?_⟩
   rw [hol o ho];exact⟨⟨by omega,hb.2⟩,by rw [qn (by omega),qk]⟩
  ·rw [qn hc]at ec;have hcb:c≠b:=λx=>by rw [x,qk]at ec;cases ec
   rw [qn hcb]at ec;obtain⟨h5,olds',⟨ct',h6,h6'⟩,h7⟩:=h.2 c ds ec
   refine⟨⟨by omega,h5.2⟩,olds',⟨ct',by rw [w9 hc,h2c c hc hcb,hrest c ds hc hcb ec];exact h6,h6'⟩,λo ho=> ?_⟩
   have ho':=h7 o ho
   refine⟨⟨by omega,ho'.1.2⟩,?_⟩
   rw [qn (by omega)]
   by_cases hob:o=b
   ·rw [hob,qk]
   ·rw [qn hob];exact ho'.2
 unfold qcq;split
 ·exact key _ [b] (by simp) (λc h1 h2=>by rw [w9 h2])
 ·exact key _ [] (by simp) (λc h1 h2=>by rw [w9 h2,w9 h2])
theorem HZ.res{Z Z':Nat->Prop}{Γ:GH}{nx nx':Nat}(h:HZ Z Γ H nx)(hz:∀b,Z' b->Z b\/(nx<=b/\b<nx'))(hn:nx<=nx'):HZ Z' Γ H nx':=
 ⟨λb hb=>(hz b hb).elim (λg=>Nat.lt_of_lt_of_le (h.1 b g) hn) λg=>g.2,λb cs e=>
  let⟨h1,olds,h2,h3⟩:=h.2 b cs e
  ⟨⟨Nat.lt_of_lt_of_le h1.1 hn,λg=>(hz b g).elim (λg=>h1.2 g) λg=>by omega⟩,olds,h2,λo ho=>⟨⟨Nat.lt_of_lt_of_le (h3 o ho).1.1 hn,λg=>by
   rcases hz o g with g|g
   ·exact(h3 o ho).1.2 g
   ·have:=(h3 o ho).1.1;omega⟩,(h3 o ho).2⟩⟩⟩
theorem HZ.take{Z Z':Nat->Prop}{Γ:GH}{nx i:Nat}(h:HZ Z Γ H nx)(hi:Z i)(hz:∀b,Z' b->Z b/\b≠i)(cs:List qa):HZ Z' (gup i (some cs) Γ) (qC i cs H) nx:=by
 refine⟨λb hb=>h.1 b (hz b hb).1,?_⟩
 intro c ds e;by_cases hc':c=i
 ·subst hc';rw [qk]at e;cases e
  exact⟨⟨h.1 _ hi,λz=>(hz _ z).2 rfl⟩,[],⟨_,JV _ _ _,by rw [CT.ofL_eq rfl];exact List.take_length⟩,by simp⟩
 ·rw [qn hc']at e;obtain⟨h1,olds,⟨ct',h2,h2'⟩,h3⟩:=h.2 c ds e
  refine⟨⟨h1.1,λz=>h1.2 (hz _ z).1⟩,olds,⟨ct',by unfold qC;rw [w9 hc'];exact h2,h2'⟩,λo ho=>⟨⟨(h3 o ho).1.1,λz=>(h3 o ho).1.2 (hz _ z).1⟩,?_⟩⟩
  rw [qn λx=>(h3 o ho).1.2 (by rw [x];exact hi)];exact(h3 o ho).2
theorem HZ.free{Z:Nat->Prop}{Γ:GH}{nx i:Nat}(h:HZ Z Γ H nx)(hi:Z i):Γ i=none:=by
 cases e:Γ i with
 |none=>rfl
 |some cs=>exact absurd hi (h.nz e)
theorem HZ.less{Z Z':Nat->Prop}{Γ:GH}(h:HZ Z Γ H nx)(hz:∀b,Z' b->Z b):HZ Z' Γ H nx:=h.res (λb hb=> .inl (hz b hb)) lR
theorem HZ.sub{Z:Nat->Prop}{Γ Γ':GH}(h:HZ Z Γ' H nx)(hs:∀b cs,Γ b=some cs->Γ' b=some cs):HZ Z Γ H nx:=⟨h.1,λb cs e=>
 let⟨h1,olds,h2,h3⟩:=h.2 b cs (hs b cs e)
 ⟨h1,olds,h2,λo ho=>⟨(h3 o ho).1,by
  cases hq:Γ o with
  |none=>rfl
  |some ds=>have:=(h3 o ho).2;rw [hs _ _ hq]at this;cases this⟩⟩⟩
end
end Go.Vs
end
section
namespace Go.Vs
variable [GTab] {Z:Nat->Prop}
noncomputable section
abbrev qD:=List (Nat×List qa)
abbrev zr:=List (GH->Prop)
def over:qD->GH->GH
 |[],Γ=>Γ
 |(b,cs)::A,Γ=>gup b (some cs) (over A Γ)
def ko:qD->GH->Prop
 |[],_=>True
 |(b,_)::A,Γ=>over A Γ b=none/\ko A Γ
inductive Own:qD->Nat->List qa->Prop
 |hd {A:qD} {b:Nat} {cs:List qa}:Own ((b,cs)::A) b cs
 |tl {A:qD} {b:Nat} {cs:List qa} {x:Nat×List qa} (h:Own A b cs):Own (x::A) b cs
inductive Upd:qD->Nat->List qa->List qa->qD->Prop
 |hd {A:qD} {b:Nat} {cs ds:List qa}:Upd ((b,cs)::A) b cs ds ((b,ds)::A)
 |tl {A A':qD} {b:Nat} {cs ds:List qa} {x:Nat×List qa} (h:Upd A b cs ds A'):Upd (x::A) b cs ds (x::A')
theorem KY:∀{A:qD} {Γ:GH} {b:Nat},over A Γ b=none->Γ b=none
 |[],_,_,h=>h
 |(c,cs)::A,Γ,b,h=>by
  unfold over at h;by_cases hb:b=c
  ·subst hb;rw [qk]at h;cases h
  ·rw [qn hb]at h;exact KY h
theorem ko.at{A:qD}{Γ:GH}{b:Nat}{cs:List qa}(h:Own A b cs)(a:ko A Γ):over A Γ b=some cs:=by
 induction h with
 |hd=>exact qk _ _ _
 | @tl A b cs x h ih=>
  obtain⟨c,ds⟩:=x
  have e:=ih a.2
  unfold over;rw [qn λx=>by rw [x,a.1]at e;cases e];exact e
theorem ko.row:∀{A:qD} {Γ:GH} {b:Nat} {cs:List qa},ko A Γ->Γ b=some cs->over A Γ b=some cs
 |[],_,_,_,_,e=>e
 |(c,ds)::A,Γ,b,cs,a,e=>by
  unfold over;have e':=ko.row a.2 e
  rw [qn λx=>by rw [x,a.1]at e';cases e'];exact e'
theorem Upd.at{A A':qD}{b:Nat}{cs ds:List qa}(u:Upd A b cs ds A'):Own A b cs:=by
 induction u with
 |hd=>exact .hd
 |tl _ ih=>exact .tl ih
theorem Upd.over{A A':qD}{b:Nat}{cs ds:List qa}{Γ:GH}(u:Upd A b cs ds A')(a:ko A Γ):over A' Γ=gup b (some ds) (over A Γ)/\ko A' Γ:=by
 induction u with
 |hd=>exact⟨by unfold Vs.over;rw [vz],a⟩
 | @tl A A' b cs ds x h ih=>
  obtain⟨c,es⟩:=x
  obtain⟨i1,i2⟩:=ih a.2
  have hb:=ko.at h.at a.2
  have hne:b≠c:=λx=>by rw [x,a.1]at hb;cases hb
  constructor
  ·unfold Vs.over;rw [i1]
   funext d
   by_cases h1:d=c
   ·subst h1;rw [qk,qn (Ne.symm hne),qk]
   ·by_cases h2:d=b
    ·subst h2;rw [qn h1,qk,qk]
    ·rw [qn h1,qn h2,qn h2,qn h1]
  ·exact⟨by rw [i1,qn (Ne.symm hne)];exact a.1,i2⟩
def SH(Z:Nat->Prop)(A:qD)(F:zr)(H:qc)(nx:Nat):Prop:=
 ∃Γ,HZ Z (over A Γ) H nx/\ko A Γ/\∀Γ',(∀b cs,Γ b=some cs->Γ' b=some cs)->∀P,P∈F->P Γ'
def RowF(b:Nat)(cs:List qa):GH->Prop:=λΓ=>Γ b=some cs
def qru(Γ:GH):GH->Prop:=λΓ'=>∀b cs,Γ b=some cs->Γ' b=some cs
section
variable{A A':qD}{F G:zr}{H:qc}{nx nx':Nat}
theorem SH.of{Γ:GH}(h:HZ Z Γ H nx):SH Z [] [qru Γ] H nx:=⟨Γ,h,trivial,λΓ' hs P hP=>by
 have:P=qru Γ:=by simpa using hP
 subst this;exact hs⟩
theorem SH.to(h:SH Z A F H nx):∃Γ,HZ Z Γ H nx/\∀P,P∈F->P Γ:=let⟨Γ,h1,h2,h3⟩:=h
 ⟨Γ,h1.sub λb cs e=>h2.row e,λP hP=>h3 Γ (λ_ _ e=>e) P hP⟩
theorem SH.more(h:SH Z A F H nx)(hn:nx<=nx'):SH Z A F H nx':=let⟨Γ,h1,h2⟩:=h;⟨Γ,h1.more hn,h2⟩
theorem SH.sub(h:SH Z A F H nx)(hs:G⊆F):SH Z A G H nx:=let⟨Γ,h1,h2,h3⟩:=h;⟨Γ,h1,h2,λΓ' e P hP=>h3 Γ' e P (hs hP)⟩
theorem SH.add{P:GH->Prop}(h:SH Z A F H nx)(hp:∀Γ,(∀Q,Q∈F->Q Γ)->P Γ):SH Z A (P::F) H nx:=let⟨Γ,h1,h2,h3⟩:=h
 ⟨Γ,h1,h2,λΓ' e Q hQ=>by
  rcases List.mem_cons.1 hQ with rfl|hQ
  ·exact hp _ (h3 Γ' e)
  ·exact h3 Γ' e Q hQ⟩
theorem SH.drop{x:Nat×List qa}(h:SH Z (x::A) F H nx):SH Z A F H nx:=by
 obtain⟨Γ,h1,h2,h3⟩:=h
 obtain⟨b,cs⟩:=x
 exact⟨Γ,h1.sub λc ds e=>by unfold over;rw [qn λx=>by have:=h2.1;rw [x,this]at e;cases e];exact e,h2.2,h3⟩
theorem SH.swap{x y:Nat×List qa}(h:SH Z (x::y::A) F H nx):SH Z (y::x::A) F H nx:=by
 obtain⟨Γ,h1,h2,h3⟩:=h
 obtain⟨b,cs⟩:=x
 obtain⟨c,ds⟩:=y
 have hbc:b≠c:=λe=>by have:=h2.1;unfold over at this;rw [e,qk]at this;cases this
 have e:over ((c,ds)::(b,cs)::A) Γ=over ((b,cs)::(c,ds)::A) Γ:=by
  unfold over;unfold over
  funext d
  clear h1 h2 h3;by_cases q1:d=b
  ·subst q1;rw [qn hbc,qk,qk]
  ·by_cases q2:d=c
   ·subst q2;rw [qk,qn q1,qk]
   ·rw [qn q2,qn q1,qn q1,qn q2]
 refine⟨Γ,by rw [e];exact h1,⟨?_,?_,h2.2.2⟩,h3⟩
 ·unfold over;rw [qn (Ne.symm hbc)];exact h2.2.1
 ·have:=h2.1;unfold over at this;rwa [qn hbc]at this
theorem SH.newN{i:Nat}{cs:List qa}(h:SH Z A F H nx)(h1:nx<=i)(h2:i<nx'):SH Z ((i,cs)::A) F (qC i cs H) nx':=let⟨Γ,g1,g2,g3⟩:=h
 ⟨Γ,g1.new h1 h2 cs,⟨g1.non h1,g2⟩,g3⟩
theorem qdq{A B:qD}{Γ:GH}(s:B.Sublist A):ko A Γ->ko B Γ/\∀b cs,over B Γ b=some cs->over A Γ b=some cs:=by
 induction s with
 |slnil=>exactλa=>⟨a,λ_ _ e=>e⟩
 | @cons l1 l2 x s ih=>
  obtain⟨c,ds⟩:=x
  intro a;obtain⟨i1,i2⟩:=ih a.2
  refine⟨i1,λb cs e=> ?_⟩
  have e':=i2 b cs e
  unfold over;rw [qn λx=>by rw [x,a.1]at e';cases e'];exact e'
 | @cons_cons l1 l2 x s ih=>
  obtain⟨c,ds⟩:=x
  intro a;obtain⟨i1,i2⟩:=ih a.2
  refine⟨⟨?_,i1⟩,λb cs e=> ?_⟩
  ·cases hb:over l1 Γ c with
   |none=>rfl
   |some es=>have:=i2 _ _ hb;rw [a.1]at this;cases this
  ·unfold over at e ⊢;by_cases hc:b=c
   ·subst hc;rw [qk]at e ⊢;exact e
   ·rw [qn hc]at e ⊢;exact i2 b cs e
theorem SH.sel(s:A'.Sublist A)(h:SH Z A F H nx):SH Z A' F H nx:=let⟨Γ,h1,h2,h3⟩:=h
 ⟨Γ,h1.sub (qdq s h2).2,(qdq s h2).1,h3⟩
theorem SH.freeze{i:Nat}{cs:List qa}(h:SH Z ((i,cs)::A) F H nx):SH Z A (RowF i cs::F) H nx:=by
 obtain⟨Γ,g1,g2,g3⟩:=h
 have hi:Γ i=none:=KY g2.1
 have key:∀A:qD,over A Γ i=none->ko A Γ->over A (gup i (some cs) Γ)=gup i (some cs) (over A Γ)/\ko A (gup i (some cs) Γ):=by
  intro A
  induction A with
  |nil=>exactλ_ _=>⟨rfl,trivial⟩
  |cons x A ih=>
   obtain⟨c,ds⟩:=x
   intro e a;have hc:i≠c:=λx=>by unfold over at e;rw [x,qk]at e;cases e
   unfold over at e;rw [qn hc]at e;obtain⟨i1,i2⟩:=ih e a.2
   refine⟨?_,?_,i2⟩
   ·unfold over;rw [i1]
    funext d
    by_cases h1:d=c
    ·subst h1;rw [qk,qn (Ne.symm hc),qk]
    ·by_cases h2:d=i
     ·subst h2;rw [qn h1,qk,qk]
     ·rw [qn h1,qn h2,qn h2,qn h1]
   ·rw [i1,qn (Ne.symm hc)];exact a.1
 obtain⟨k1,k2⟩:=key A g2.1 g2.2
 refine⟨gup i (some cs) Γ,by rw [k1];exact g1,k2,λΓ' e P hP=> ?_⟩
 rcases List.mem_cons.1 hP with rfl|hP
 ·exact e _ _ (qk _ _ _)
 ·exact g3 Γ' (λb ds e'=>e _ _ (by rw [qn λx=>by rw [x,hi]at e';cases e'];exact e')) P hP
theorem SH.ld1{b:Nat}{cs:List qa}(h:SH Z A F H nx)(hb:Own A b cs)(off:Nat):ld1 H (.ptr b off)=cs[off]?:=let⟨Γ,g1,g2,g3⟩:=h;g1.ld1 (g2.at hb) off
theorem SH.ldN{b off sz:Nat}{cs:List qa}(h:SH Z A F H nx)(hb:Own A b cs)(ho:off+sz<=cs.length):ldN H sz (.ptr b off)=some (.agg ((cs.drop off).take sz)):=let⟨Γ,g1,g2,g3⟩:=h;g1.ldN (g2.at hb) ho
theorem SH.st{b off:Nat}{cs vs:List qa}(h:SH Z A F H nx)(u:Upd A b cs (jw cs off vs) A')(ho:off+vs.length<=cs.length)(hv:qt vs=true):
  ∃H',stC H (.ptr b off) vs=some H'/\SH Z A' F H' nx:=by
 obtain⟨Γ,g1,g2,g3⟩:=h
 obtain⟨H1,e1,e2⟩:=g1.st (g2.at u.at) ho hv
 obtain⟨u1,u2⟩:=u.over g2
 exact⟨H1,e1,Γ,by rw [u1];exact e2,u2,g3⟩
theorem SH.appNil{esz ebytes k:Nat}{new:List qa}(h:SH Z A F H nx)(hk:new.length=k*esz)(hk0:0<k)(h1:k*esz<=9223372036854775807)(h2:k*ebytes<=140737488355328):
  ∃H',z3 H nx esz ebytes .nilSlice k new=some (.slice nx 0 k esz false,H',nx+1)/\SH Z ((nx,new)::A) F H' (nx+1):=by
 obtain⟨Γ,g1,g2,g3⟩:=h
 obtain⟨H',e1,e2⟩:=g1.appNil (esz:=esz) (ebytes:=ebytes) (k:=k) (new:=new) hk hk0 h1 h2
 exact⟨H',e1,Γ,e2,⟨g1.non lR,g2⟩,g3⟩
theorem SH.app{b len esz ebytes k:Nat}{cs new:List qa}(h:SH Z ((b,cs)::A) F H nx)(hl:cs.length=len*esz)(hk:new.length=k*esz)(hk0:0<k)(h1:(len+k)*esz<=9223372036854775807)(h2:(len+k)*ebytes<=140737488355328):
  ∃H',z3 H nx esz ebytes (.slice b 0 len esz false) k new=some (.slice nx 0 (len+k) esz false,H',nx+1)/\SH Z ((nx,cs++new)::A) F H' (nx+1):=by
 obtain⟨Γ,g1,g2,g3⟩:=h
 obtain⟨H',e1,e2⟩:=g1.app (esz:=esz) (ebytes:=ebytes) (k:=k) (new:=new) (len:=len) (cs:=cs) (ko.at .hd g2) (by omega) hk hk0 h1 h2
 rw [show cs.take (len*esz)=cs by rw [<-hl];exact List.take_length]at e2
 have e3:gup b none (over ((b,cs)::A) Γ)=over A Γ:=by
  show gup b none (gup b (some cs) (over A Γ))=over A Γ
  rw [vz]
  funext c;by_cases hc:c=b
  ·subst hc;rw [qk,g2.1]
  ·rw [qn hc]
 rw [e3]at e2;refine⟨H',e1,Γ,e2,⟨?_,g2.2⟩,g3⟩
 rw [<-e3];by_cases hb:nx=b
 ·rw [hb,qk]
 ·rw [qn hb];exact g1.non lR
section
variable{k:qc->Prop}
theorem qfh{cs vs:List qa}(h:vs.length=cs.length):jw cs 0 vs=vs:=by unfold jw;simp [h]
theorem Jo{cs:List qa}{v:qa}{j:Nat}(h:j<cs.length):jw cs j [v]=cs.set j v:=by unfold jw;rw [List.set_eq_take_append_cons_drop,if_pos h];simp
theorem SH.all{b:Nat}{cs vs:List qa}(h:SH Z A F H nx)(u:Upd A b cs vs A')(hl:vs.length=cs.length)(hv:qt vs=true)(hK:∀H',SH Z A' F H' nx->k H'):∃H1,stC H (.ptr b 0) vs=some H1/\k H1:=by
 obtain⟨H1,e1,e2⟩:=h.st (off:=0) (vs:=vs) (by rw [qfh hl];exact u) (by omega) hv
 exact⟨H1,e1,hK _ e2⟩
theorem SH.one{b j:Nat}{cs:List qa}{v:qa}(h:SH Z A F H nx)(u:Upd A b cs (cs.set j v) A')(hl:j<cs.length)(hv:qZ v=true)(hK:∀H',SH Z A' F H' nx->k H'):∃H1,stC H (.ptr b j) [v]=some H1/\k H1:=by
 obtain⟨H1,e1,e2⟩:=h.st (off:=j) (vs:=[v]) (by rw [Jo hl];exact u) (by simp;omega) (by simp [qt,hv])
 exact⟨H1,e1,hK _ e2⟩
end
end
section
variable{r:Nat}{I:List qa->Prop}{E:zr}{A A':qD}{F G:zr}{H:qc}{nx nx':Nat}{k:qc->Prop}
end
end
end Go.Vs
end
section
namespace Go.Vs
namespace Ck
structure zK(T:List Ty)(fs:List CSg):Prop where
 b5:5<=T.length
 el:∀t∈T,t.elem<T.length
 fl:∀t∈T,∀f∈t.fields,f.2<T.length
 mr:∀t∈T,∀m∈t.methods,m.result<T.length
 mp:∀t∈T,∀m∈t.methods,∀p∈m.params,p<T.length
 fp:∀f∈fs,∀p∈f.params,p<T.length
 fr:∀f∈fs,f.result<T.length
def kK(T:List Ty)(vs:List Var):Prop:=∀v∈vs,v.t<T.length
theorem v8{α:Type}{p:Nat->α->Bool}:∀{l:List α} {k i:Nat},zk p l k=some i->i<k+l.length
 |[],_,_,h=>by cases h
 |x::l,k,i,h=>by
  unfold zk at h;split at h
  ·injection h with h;subst h;simp
  ·have:=v8 h
   simp only [List.length_cons];omega
theorem qgz{α:Type}{l:List α}{i:Nat}{d:α}(h:i<l.length):l.getD i d=l[i]:=by simp [List.getD,h]
theorem zy{α β:Type}{x:Ex α}{k:α->Ex β}{b:β}(h:ob x k= .ok b):∃a,x= .ok a/\k a= .ok b:=by
 cases x with
 |error f=>cases h
 |ok a=>exact⟨a,rfl,h⟩
theorem need_ok{β:Type}{b:Bool}{n:qu}{e:Int}{k:Ex β}{v:β}(h:need b n e k= .ok v):b=true/\k= .ok v:=by
 unfold need at h;cases b with
 |true=>exact⟨rfl,h⟩
 |false=>cases h
section
variable{T T':List Ty}{fs:List CSg}{vs:List Var}
theorem zK.add(g:zK T fs){t:Ty}(he:t.elem<T.length+1)(hf:t.fields=[])(hm:t.methods=[]):zK (T++[t]) fs:=by
 have hl:(T++[t]).length=T.length+1:=by simp
 refine⟨by have:=g.b5;omega,λx hx=> ?_,λx hx f hf'=> ?_,λx hx m hm'=> ?_,λx hx m hm' p hp=> ?_,λf hf p hp=>by have:=g.fp f hf p hp;omega,λf hf=>by have:=g.fr f hf;omega⟩
 all_goals rcases List.mem_append.1 hx with hx|hx
 ·have:=g.el x hx;omega
 ·rw [List.mem_singleton.1 hx];omega
 ·have:=g.fl x hx f hf';omega
 ·rw [List.mem_singleton.1 hx,hf]at hf';cases hf'
 ·have:=g.mr x hx m hm';omega
 ·rw [List.mem_singleton.1 hx,hm]at hm';cases hm'
 ·have:=g.mp x hx m hm' p hp;omega
 ·rw [List.mem_singleton.1 hx,hm]at hm';cases hm'
theorem kK.mono(g:kK T vs)(h:T.length<=T'.length):kK T' vs:=λv hv=>Nat.lt_of_lt_of_le (g v hv) h
def Jy(fs:List CSg)(T:List Ty)(a:Nat)(T':List Ty):Prop:=zK T' fs/\T.length<=T'.length/\a<T'.length
theorem Xk{s:Bs}{f:Flt}{a:Nat}(g:zK T fs)(h:VA T s f= .ok (a,T')):Jy fs T a T':=by
 unfold VA at h;cases hn:named T s with
 |none=>rw [hn]at h;cases h
 |some i=>
  rw [hn]at h
  injection h with h
  injection h with h1 h2
  subst h1 h2;have:=v8 hn
  exact⟨g,Nat.le_refl _,by omega⟩
theorem qcn{n:qu}{e a:Nat}(g:zK T fs)(he:e<T.length)(h:Q9 T n e= .ok (a,T')):Jy fs T a T':=by
 unfold Q9 at h;cases hn:qaw T e with
 |some i=>
  rw [hn]at h
  injection h with h
  injection h with h1 h2
  subst h1 h2;have:=v8 hn
  exact⟨g,Nat.le_refl _,by omega⟩
 |none=>
  rw [hn]at h;obtain⟨_,h⟩:=need_ok h
  injection h with h
  injection h with h1 h2
  subst h1 h2;exact⟨g.add (by simp;omega) rfl rfl,by simp,by simp⟩
mutual
theorem kX:∀(t:qu) {T T':List Ty} {a:Nat},zK T fs->typ T t= .ok (a,T')->Jy fs T a T'
 | .node k s n l c ks,T,T',a,g,h=>by
  unfold typ at h;split at h
  ·obtain⟨⟨e,T1⟩,h1,h2⟩:=zy h
   obtain⟨g1,g2,g3⟩:=qcm ks g h1
   obtain⟨k1,k2,k3⟩:=qcn g1 g3 h2
   exact⟨k1,Nat.le_trans g2 k2,k3⟩
  ·exact Xk g h
theorem qcm:∀(ks:List qu) {T T':List Ty} {a:Nat},zK T fs->Qs T ks= .ok (a,T')->Jy fs T a T'
 |[],T,T',a,g,h=>by unfold Qs at h;exact Xk g h
 |x::_,T,T',a,g,h=>by unfold Qs at h;exact kX x g h
end
theorem KG{i:Nat}(h:i<T.length):ty T i∈T:=by
 unfold ty;rw [show T.getD i tyZ=T[i] by simp [List.getD,h]]
 exact List.getElem_mem h
theorem qpi(g:kK T vs){s:Bs}{t:Nat}:Ck.look s vs=some t->t<T.length:=by
 induction vs with
 |nil=>intro h;cases h
 |cons v vs ih=>
  intro h;unfold look at h;split at h
  ·rename_i t' h'
   injection h with h
   subst h;exact ih (λv hv=>g v (.tail _ hv)) h'
  ·split at h
   ·injection h with h
    subst h;exact g v (.head _)
   ·cases h
theorem qrb{n:qu}{l:List Nat}{a:Nat}(g:zK T fs)(hl:∀t∈l,t<T.length)(h:made T fs n l= .ok a):a<T.length:=by
 have b5:=g.b5
 have hh:l≠[]->l.headD 0<T.length:=λhne=>by
  cases l with
  |nil=>exact absurd rfl hne
  |cons x l=>exact hl x (.head _)
 unfold made at h;simp only at h
 split at h
 ·split at h
  ·rename_i i hi;obtain⟨_,_,h⟩:=zy h
   injection h with h
   subst h;have:=v8 hi
   have hi':i<fs.length:=by omega
   unfold sg;rw [show fs.getD i sgZ=fs[i] by simp [List.getD,hi']]
   exact g.fr _ (List.getElem_mem hi')
  ·cases h
 ·split at h
  ·injection h with h;omega
  ·rename_i hne;have hh:=hh hne
   split at h
   ·split at h
    ·obtain⟨_,h⟩:=need_ok h
     injection h with h;omega
    ·obtain⟨_,h⟩:=need_ok h
     injection h with h;omega
   ·split at h
    ·unfold binary at h;simp only at h
     repeat' split at h
     all_goals
      obtain⟨_,h⟩:=need_ok h
      injection h with h
      omega
    ·split at h
     ·obtain⟨_,h⟩:=need_ok h
      split at h
      ·rename_i i hi
       injection h with h
       subst h;unfold field at hi;split at hi
       ·have:=v8 hi
        have hi':i<(ty T (l.headD 0)).fields.length:=by omega
        rw [qgz hi'];exact g.fl _ (KG hh) _ (List.getElem_mem hi')
       ·cases hi
      ·cases h
     ·split at h
      ·obtain⟨_,h⟩:=need_ok h
       split at h
       ·rename_i i hi;obtain⟨_,_,h⟩:=zy h
        injection h with h
        subst h;unfold Jn at hi;split at hi
        ·have:=v8 hi
         have hi':i<(ty T (l.headD 0)).methods.length:=by omega
         unfold vY;rw [qgz hi'];exact g.mr _ (KG hh) _ (List.getElem_mem hi')
        ·cases hi
       ·cases h
      ·split at h
       ·obtain⟨_,h⟩:=need_ok h
        injection h with h
        subst h;split
        ·omega
        ·exact g.el _ (KG hh)
       ·split at h
        ·obtain⟨_,h⟩:=need_ok h
         injection h with h;omega
        ·injection h with h;omega
mutual
theorem kE:∀(t:qu) {T T':List Ty} {a:Nat},zK T fs->kK T vs->expr fs vs T t= .ok (a,T')->Jy fs T a T'
 | .node k s n l c ks,T,T',a,g,gv,h=>by
  have b5:=g.b5
  have num {a a':Nat} {T T':List Ty} (g:zK T fs) (ha:a<T.length) (h:(Except.ok (a,T):Ex (Nat×List Ty))= .ok (a',T')):Jy fs T a' T':=by
   injection h with h
   injection h with h1 h2
   subst h1 h2;exact⟨g,Nat.le_refl _,ha⟩
  unfold expr at h;split at h
  ·exact num g (by omega) h
  split at h
  ·exact num g (by omega) h
  split at h
  ·exact num g (by omega) h
  split at h
  ·exact num g (by omega) h
  split at h
  ·split at h
   ·rename_i t ht;exact num g (qpi gv ht) h
   ·cases h
  split at h
  ·obtain⟨⟨t,T1⟩,h1,h⟩:=zy h
   obtain⟨⟨e,T2⟩,h2,h⟩:=zy h
   obtain⟨_,h⟩:=need_ok h
   obtain⟨g1,l1,a1⟩:=kX _ g h1
   obtain⟨g2,l2,a2⟩:=Ze ks 1 g1 (gv.mono l1) h2
   obtain⟨g3,l3,a3⟩:=num g2 (by omega:t<T2.length) h
   exact⟨g3,by omega,a3⟩
  split at h
  ·obtain⟨⟨t,T1⟩,h1,h⟩:=zy h
   obtain⟨_,h⟩:=need_ok h
   obtain⟨g1,l1,a1⟩:=kX _ g h1
   obtain⟨g3,l3,a3⟩:=num g1 a1 h
   exact⟨g3,by omega,a3⟩
  split at h
  ·obtain⟨⟨x,T1⟩,h1,h⟩:=zy h
   obtain⟨⟨t,T2⟩,h2,h⟩:=zy h
   obtain⟨_,h⟩:=need_ok h
   obtain⟨g1,l1,a1⟩:=Ze ks 0 g gv h1
   obtain⟨g2,l2,a2⟩:=kX _ g1 h2
   obtain⟨g3,l3,a3⟩:=num g2 a2 h
   exact⟨g3,by omega,a3⟩
  ·obtain⟨⟨l_,T1⟩,h1,h⟩:=zy h
   obtain⟨t,h2,h⟩:=zy h
   obtain⟨g1,l1,a1,_⟩:=WP ks g gv h1
   have a2:=qrb g1 a1 h2
   obtain⟨g3,l3,a3⟩:=num g1 a2 h
   exact⟨g3,by omega,a3⟩
theorem WP:∀(ks:List qu) {T T':List Ty} {l:List Nat},zK T fs->kK T vs->QU fs vs T ks= .ok (l,T')->zK T' fs/\T.length<=T'.length/\(∀t∈l,t<T'.length)/\l.length=ks.length
 |[],T,T',l,g,gv,h=>by
  unfold QU at h
  injection h with h
  injection h with h1 h2
  subst h1 h2;exact⟨g,Nat.le_refl _,(λ_ h=>nomatch h),rfl⟩
 |k::ks,T,T',l,g,gv,h=>by
  unfold QU at h;obtain⟨⟨t,T1⟩,h1,h⟩:=zy h
  obtain⟨⟨l',T2⟩,h2,h⟩:=zy h
  have h:(Except.ok (t::l',T2):Ex (List Nat×List Ty))= .ok (l,T'):=h
  injection h with h
  injection h with h3 h4
  subst h3 h4;obtain⟨g1,l1,a1⟩:=kE k g gv h1
  obtain⟨g2,l2,a2,e2⟩:=WP ks g1 (gv.mono l1) h2
  refine⟨g2,by omega,λx hx=> ?_,by simp [e2]⟩
  rcases List.mem_cons.1 hx with rfl|hx
  ·omega
  ·exact a2 x hx
theorem Ze:∀(ks:List qu) (i:Nat) {T T':List Ty} {a:Nat},zK T fs->kK T vs->Zy fs vs T ks i= .ok (a,T')->Jy fs T a T'
 |[],i,T,T',a,g,gv,h=>by
  unfold Zy at h
  injection h with h
  injection h with h1 h2
  subst h1 h2;exact⟨g,Nat.le_refl _,by have:=g.b5;omega⟩
 |k::_,0,T,T',a,g,gv,h=>by unfold Zy at h;exact kE k g gv h
 |_::ks,i+1,T,T',a,g,gv,h=>by unfold Zy at h;exact Ze ks i g gv h
end
end
end Ck
namespace Ck
structure Inv(fs:List CSg)(S:St):Prop where
 g:zK S.T fs
 v:kK S.T S.vs
 m:S.vs.length<=S.many
def vI(fs:List CSg)(S S':St):Prop:=Inv fs S'/\S.T.length<=S'.T.length/\S.vs.length<=S'.vs.length
section
variable{fs:List CSg}{rs:Nat}{S S':St}
theorem vI.refl(h:Inv fs S):vI fs S S:=⟨h,Nat.le_refl _,Nat.le_refl _⟩
theorem vI.trans{S1 S2 S3:St}(h:vI fs S1 S2)(h':vI fs S2 S3):vI fs S1 S3:=⟨h'.1,Nat.le_trans h.2.1 h'.2.1,Nat.le_trans h.2.2 h'.2.2⟩
theorem Jy.st{T':List Ty}{a:Nat}(i:Inv fs S)(h:Jy fs S.T a T'):vI fs S ⟨T',S.vs,S.many⟩:=⟨⟨h.1,i.v.mono h.2.1,i.m⟩,h.2.1,Nat.le_refl _⟩
theorem jP{α:Type}{a b:α}(h:(Except.ok a:Ex α)= .ok b):a=b:=by injection h
theorem jt{α:Type}{c:Prop} [Decidable c] {a b x:α} (h:(if c then a else b)=x):(c/\a=x)\/(¬c/\b=x):=by
 by_cases hc:c
 ·rw [if_pos hc]at h;exact .inl ⟨hc,h⟩
 ·rw [if_neg hc]at h;exact .inr ⟨hc,h⟩
theorem Qy{deep:Nat}{n:qu}{s:Bs}{t:Nat}(i:Inv fs S)(ht:t<S.T.length)(h:declare S deep n s t= .ok S'):vI fs S S':=by
 unfold declare at h;obtain⟨_,h⟩:=need_ok h
 obtain⟨_,h⟩:=need_ok h
 have h:=jP h
 subst h;refine⟨⟨i.g,λv hv=> ?_,?_⟩,Nat.le_refl _,by simp⟩
 ·rcases List.mem_append.1 hv with hv|hv
  ·exact i.v v hv
  ·rw [List.mem_singleton.1 hv];exact ht
 ·have:=i.m
  show(S.vs++[_]).length<=S.many+1
  rw [List.length_append];simp;omega
theorem vI.take{S1:St}(h:vI fs S S1):vI fs S ⟨S1.T,S1.vs.take S.vs.length,S1.many⟩:=
 ⟨⟨h.1.g,λv hv=>h.1.v v (List.mem_of_mem_take hv),by have:=h.1.m;show(S1.vs.take _).length<=S1.many;rw [List.length_take];omega⟩,h.2.1,by have:=h.2.2;show _<=(S1.vs.take _).length;rw [List.length_take];omega⟩
theorem Qm{t:qu}{p:Nat×List Ty}(i:Inv fs S)(h:expr fs S.vs S.T t= .ok p):Jy fs S.T p.1 p.2:=by
 obtain⟨a,T'⟩:=p
 exact kE t i.g i.v h
mutual
theorem Vi:∀(t:qu) {deep loops:Nat} {S S':St},Inv fs S->stmt fs rs deep loops S t= .ok S'->vI fs S S'
 | .node k s n l c ks,deep,loops,S,S',i,h=>by
  rw [stmt]at h;rcases jt h with⟨_,h⟩|⟨_,h⟩
  ·obtain⟨S1,h1,h⟩:=zy h
   have h:=jP h
   subst h;have g:=JB ks i h1
   exact g.take
  rcases jt h with⟨_,h⟩|⟨_,h⟩
  ·obtain⟨⟨t,T1⟩,h1,h⟩:=zy h
   have g1:=kX _ i.g h1
   obtain⟨T2,h2,h⟩:=zy h
   have s1:=g1.st i
   rcases jt h2 with⟨_,h2⟩|⟨_,h2⟩
   ·have h2:=jP h2
    subst h2;exact s1.trans (Qy s1.1 g1.2.2 h)
   ·obtain⟨⟨u,T3⟩,h3,h2⟩:=zy h2
    obtain⟨_,h2⟩:=need_ok h2
    have h2:=jP h2
    subst h2;have g3:Jy fs T1 u T3:=Qm (S:=⟨T1,S.vs,S.many⟩) s1.1 h3
    have s3:vI fs ⟨T1,S.vs,S.many⟩ ⟨T3,S.vs,S.many⟩:=g3.st s1.1
    have:=g1.2.2
    have:=g3.2.1
    exact(s1.trans s3).trans (Qy s3.1 (show t<T3.length by omega) h)
  rcases jt h with⟨_,h⟩|⟨_,h⟩
  ·obtain⟨_,h⟩:=need_ok h
   obtain⟨⟨t,T1⟩,h1,h⟩:=zy h
   obtain⟨_,h⟩:=need_ok h
   have g1:=Qm i h1
   have s1:=g1.st i
   exact s1.trans (Qy s1.1 g1.2.2 h)
  rcases jt h with⟨_,h⟩|⟨_,h⟩
  ·obtain⟨⟨t,T1⟩,h1,h⟩:=zy h
   have s1:=(Qm i h1).st i
   obtain⟨T2,h2,h⟩:=zy h
   have s2:vI fs ⟨T1,S.vs,S.many⟩ ⟨T2,S.vs,S.many⟩:=by
    rcases jt h2 with⟨_,h2⟩|⟨_,h2⟩
    ·obtain⟨⟨b,T3⟩,h3,h2⟩:=zy h2
     obtain⟨_,h2⟩:=need_ok h2
     have h2:=jP h2
     subst h2;exact(Qm (S:=⟨T1,S.vs,S.many⟩) s1.1 h3).st s1.1
    ·obtain⟨_,h2⟩:=need_ok h2
     have h2:=jP h2
     subst h2;exact vI.refl s1.1
   obtain⟨⟨u,T4⟩,h4,h⟩:=zy h
   obtain⟨_,h⟩:=need_ok h
   have h:=jP h
   subst h;exact(s1.trans s2).trans ((Qm (S:=⟨T2,S.vs,S.many⟩) s2.1 h4).st s2.1)
  rcases jt h with⟨_,h⟩|⟨_,h⟩
  ·obtain⟨⟨t,T1⟩,h1,h⟩:=zy h
   obtain⟨_,h⟩:=need_ok h
   have s1:=(Qm i h1).st i
   obtain⟨S2,h2,h⟩:=zy h
   have s2:=Qx ks 1 s1.1 h2
   rcases jt h with⟨_,h⟩|⟨_,h⟩
   ·have h:=jP h
    subst h;exact s1.trans s2
   ·exact(s1.trans s2).trans (Vz ks 2 s2.1 h)
  rcases jt h with⟨_,h⟩|⟨_,h⟩
  ·obtain⟨T1,h1,h⟩:=zy h
   have s1:vI fs S ⟨T1,S.vs,S.many⟩:=by
    rcases jt h1 with⟨_,h1⟩|⟨_,h1⟩
    ·have h1:=jP h1
     subst h1;exact vI.refl i
    ·obtain⟨⟨t,T2⟩,h2,h1⟩:=zy h1
     obtain⟨_,h1⟩:=need_ok h1
     have h1:=jP h1
     subst h1;exact(Qm i h2).st i
   exact s1.trans (Qx ks 1 s1.1 h)
  rcases jt h with⟨_,h⟩|⟨_,h⟩
  ·obtain⟨_,h⟩:=need_ok h
   have h:=jP h
   subst h;exact vI.refl i
  rcases jt h with⟨_,h⟩|⟨_,h⟩
  ·rcases jt h with⟨_,h⟩|⟨_,h⟩
   ·obtain⟨_,h⟩:=need_ok h
    have h:=jP h
    subst h;exact vI.refl i
   ·obtain⟨⟨t,T1⟩,h1,h⟩:=zy h
    obtain⟨_,h⟩:=need_ok h
    obtain⟨_,h⟩:=need_ok h
    have h:=jP h
    subst h;exact(Qm i h1).st i
  rcases jt h with⟨_,h⟩|⟨_,h⟩
  ·obtain⟨_,h⟩:=need_ok h
   obtain⟨⟨t,T1⟩,h1,h⟩:=zy h
   have h:=jP h
   subst h;exact(Qm i h1).st i
  rcases jt h with⟨_,h⟩|⟨_,h⟩
  ·obtain⟨⟨t,T1⟩,h1,h⟩:=zy h
   obtain⟨_,h⟩:=need_ok h
   have h:=jP h
   subst h;exact(Qm i h1).st i
  ·have h:=jP h
   subst h;exact vI.refl i
theorem Jv:∀(t:qu) {deep loops:Nat} {S S':St},Inv fs S->block fs rs deep loops S t= .ok S'->vI fs S S'
 | .node k s n l c ks,deep,loops,S,S',i,h=>by
  unfold block at h;obtain⟨S1,h1,h⟩:=zy h
  have h:=jP h
  subst h;have g:=JB ks i h1
  exact g.take
theorem JB:∀(ks:List qu) {deep loops:Nat} {S S':St},Inv fs S->wJ fs rs deep loops S ks= .ok S'->vI fs S S'
 |[],deep,loops,S,S',i,h=>by
  unfold wJ at h;have h:=jP h
  subst h;exact vI.refl i
 |k::ks,deep,loops,S,S',i,h=>by
  unfold wJ at h;obtain⟨S1,h1,h⟩:=zy h
  have g:=Vi k i h1
  exact g.trans (JB ks g.1 h)
theorem Vz:∀(ks:List qu) (j:Nat) {deep loops:Nat} {S S':St},Inv fs S->ke fs rs deep loops S ks j= .ok S'->vI fs S S'
 |[],j,deep,loops,S,S',i,h=>by
  unfold ke at h;have h:=jP h
  subst h;exact vI.refl i
 |k::_,0,deep,loops,S,S',i,h=>by unfold ke at h;exact Vi k i h
 |_::ks,j+1,deep,loops,S,S',i,h=>by unfold ke at h;exact Vz ks j i h
theorem Qx:∀(ks:List qu) (j:Nat) {deep loops:Nat} {S S':St},Inv fs S->jT fs rs deep loops S ks j= .ok S'->vI fs S S'
 |[],j,deep,loops,S,S',i,h=>by
  unfold jT at h;have h:=jP h
  subst h;exact(vI.refl i).take
 |k::_,0,deep,loops,S,S',i,h=>by unfold jT at h;exact Jv k i h
 |_::ks,j+1,deep,loops,S,S',i,h=>by unfold jT at h;exact Qx ks j i h
end
end
end Ck
end Go.Vs
end
section
namespace Go.Vs
variable [GTab]
noncomputable section
def Ji(c:Code):Array Oper:=match c with| .region _ ops _=>ops|_=>#[]
def pl0(ops:Array Oper)(ini:List Nat):List Nat:=WQ ops.toList (ahead ops) ini 0 0
def plA(ops:Array Oper)(ini:List Nat):List Nat:=Jb ops.toList (ahead ops) ini 0 0 0
def plS(ops:Array Oper)(ini:List Nat):List (Nat×List Nat×List Nat):=qew ops.toList (ahead ops) ini ini 1
def plB(ops:Array Oper)(ini:List Nat)(e:Nat):List Nat:=Jb ops.toList (ahead ops) ini 1000000 ((ahead ops).getD e 0) 0
def jG(o:Oper):Option (TypeId×Operand×Operand):=
 match o.op,o.guard,o.dst with
 | .store t a x,none,none=>some (t,a,x)
 |_,_,_=>none
def qg6(nt:Nat)(ops:Array Oper)(ini:List Nat)(e1 e2:Nat):Bool:=
 match Nat.ble nt 4096,Xl nt ops ops.toList (ahead ops) ops.toList 0,JC ops (pl0 ops ini) [],Nat.beq e1 e2 with
 |true,true,some past,false=>match qlm ops 0 (plA ops ini) past,JN ops (ahead ops) (plS ops ini) none past,yt (λi=>qoi i (pl0 ops ini++named (plS ops ini)++[e1,e2])) (List.range ops.size)with
  |true,true,true=>match yt (λs:wH=>bit ((ahead ops).getD e1 0) s.1) (plS ops ini),yt (λs:wH=>bit ((ahead ops).getD e2 0) s.1) (plS ops ini),JN ops (ahead ops) [(e1,[],plB ops ini e1)] none (wo ops (plS ops ini) past),JN ops (ahead ops) [(e2,[],plB ops ini e2)] none (wo ops (plS ops ini) past)with
   |true,true,true,true=>true
   |_,_,_,_=>false
  |_,_,_=>false
 |_,_,_,_=>false
def qs3(c:Code):Nat:=match c with| .region i _ _=>i|_=>0
def qlv(P:Program)(call:zm)(ops:Array Oper)(e1 e2:Nat)(B1 B2:List Nat)(dfs:Dfs)(rc:Option qw)(K:KP):KP:=λex env H nx _ _=>match ex with
 | .normal=>match ops[e1]?,ops[e2]? with
  |some o1,some o2=>
   qaf P call ops o1 env H nx dfs rc (λenv1 H1 nx1=>yR P ops env1 H1 nx1 B1/\qaf P call ops o2 env1 H1 nx1 dfs rc (λenv2 H2 nx2=>yR P ops env2 H2 nx2 B2/\K .normal env2 H2 nx2 dfs rc) K env1) K env/\
   qaf P call ops o2 env H nx dfs rc (λenv1 H1 nx1=>yR P ops env1 H1 nx1 B2/\qaf P call ops o1 env1 H1 nx1 dfs rc (λenv2 H2 nx2=>yR P ops env2 H2 nx2 B1/\K .normal env2 H2 nx2 dfs rc) K env1) K env
  |_,_=>False
 | .exit id=>K (.exit id) env H nx dfs rc
 | .ret=>K .ret env H nx dfs rc
 | .pan l=>K (.pan l) env H nx dfs rc
def Jk(P:Program)(call:zm)(ops:Array Oper)(P0 PA:List Nat)(PS:List (Nat×List Nat×List Nat))(e1 e2:Nat)(B1 B2:List Nat)(K:KP):KC:=λenv H nx dfs rc=>
 QN P ops nx (nx+ops.size) (λenv' H'=>yR P ops env' H' (nx+ops.size) PA/\JK P call ops nx dfs rc (qlv P call ops e1 e2 B1 B2 dfs rc K) (Zh ops.toList env) PS env' H' (nx+ops.size)) P0 env H
open Classical in
theorem KF{P:Program}{call:Za}{ops:Array Oper}{o:Oper}{t:TypeId}{a x:Operand}{env:Env}{H H':qc}{nx:Nat}{dfs:Dfs}{rc:Option qw}(hs:jG o=some (t,a,x))(h:vH P t H (aev env a) (aev env x)=some H'):
  qa0 P call ops o env H nx dfs rc (λenv1 H1 nx1=>decide (env1=env/\H1=H'/\nx1=nx)) (λ_ _ _ _ _ _=>false) env=true:=by
 unfold jG at hs;split at hs<;>try (cases hs;done)
 rename_i hop hg hd;cases hs
 unfold qa0;have hw:jd ops o.guard env=some true:=by rw [hg];rfl
 have ha:aop P o (aev env) H nx=some (.val .und H' nx):=by
  unfold aop;rw [hop];show wR P t a x (aev env) H nx=_
  simp only [wR,h]
 simp only [hw,ha,hd]
 exact decide_eq_true (by simp [put])
theorem ZN{P:Program}{call:zm}{ops:Array Oper}{o:Oper}{t:TypeId}{a x:Operand}{env:Env}{H:qc}{nx:Nat}{dfs:Dfs}{rc:Option qw}{k:Env->qc->Nat->Prop}{K:KP}
  (hcm:∀f args H nx (K K':qr),call f args H nx K->(∀e H' nx',K e H' nx'->K' e H' nx')->call f args H nx K') (hs:jG o=some (t,a,x)) (h:qaf P call ops o env H nx dfs rc k K env):
  ∃H',vH P t H (aev env a) (aev env x)=some H'/\k env H' nx:=by
 have h1:=qha hcm h
 unfold jG at hs;split at hs<;>try (cases hs;done)
 rename_i hop hg hd;cases hs
 unfold qa0 at h1;have hw:jd ops o.guard env=some true:=by rw [hg];rfl
 have ha:aop P o (aev env) H nx=wR P t a x (aev env) H nx:=by unfold aop;rw [hop]
 simp only [hw,ha,hd]at h1
 unfold wR at h1;cases hq:vH P t H (aev env a) (aev env x)with
 |none=>rw [hq]at h1;cases h1
 |some H'=>
  rw [hq]at h1;exact⟨H',rfl,jx.1 h1⟩
theorem qc2{o:Oper}{s:TypeId×Operand×Operand}(h:jG o=some s):o.dst=none:=by
 unfold jG at h;split at h<;>first|(cases h;done)|assumption
open Classical in
theorem qra{P:Program}{call:Za}{ops:Array Oper}{res:Nat}{dfs:Dfs}{rc:Option qw}{e:Nat}{A:List Nat}{o:Oper}{t:TypeId}{a x:Operand}{env:Env}{H H':qc}{nx:Nat}(ho:ops[e]?=some o)(hs:jG o=some (t,a,x))
  (h:vH P t H (aev env a) (aev env x)=some H') (hA:wF P ops env H' nx A=true):qox P call ops res dfs rc (λ_ _ _=>False) (λenv2 H2 nx2=>env2=env/\H2=H'/\nx2=nx) [(e,[],A)] env H nx:=by
 intro oe hoe;rw [ho]at hoe;cases hoe
 refine⟨_,_,KF hs h,(λ_ _ _ hk=>Bool.noConfusion hk),λenv1 H1 nx1 hk=> ?_⟩
 obtain⟨rfl,rfl,rfl⟩:=of_decide_eq_true hk
 refine⟨λenv2 H2=>decide (env2=env1/\H2=H1),decide_eq_true ⟨rfl,rfl⟩,λenv2 H2 hk2=> ?_⟩
 obtain⟨rfl,rfl⟩:=of_decide_eq_true hk2
 exact⟨hA,rfl,rfl,rfl⟩
theorem Inv.swap{P:Program}{nt:Nat}{ops:Array Oper}{as:List Nat}{res:Nat}{σ0:Sg}{H0:qc}{w0:World}{dfs:Dfs}{past:List Nat}{s1 s2:wH}{env:Env}{H:qc}{nx:Nat}{listed:Array Bool}{σ:Sg}{w:World}{a:Act}
  (I:Inv P nt ops as res σ0 H0 w0 dfs past [s1,s2] env H nx listed σ w a):Inv P nt ops as res σ0 H0 w0 dfs past [s2,s1] env H nx listed σ w a:=by
 have hiff:∀i,i∈named [s2,s1]↔i∈named [s1,s2]:=by
  intro i;obtain⟨e1,L1,A1⟩:=s1
  obtain⟨e2,L2,A2⟩:=s2
  simp only [named,List.append_nil,List.mem_cons,List.mem_append]
  constructor
  ·rintro(h|h|h|h)
   ·exact .inr (.inr (.inl h))
   ·exact .inr (.inr (.inr h))
   ·exact .inl h
   ·exact .inr (.inl h)
  ·rintro(h|h|h|h)
   ·exact .inr (.inr (.inl h))
   ·exact .inr (.inr (.inr h))
   ·exact .inl h
   ·exact .inr (.inl h)
 exact{I with todo:=λi hi=>I.todo i ((hiff i).1 hi),all:=λi hi=>by rcases I.all i hi with h|h|h;exact .inl h;exact .inr (.inl ((hiff i).2 h));exact .inr (.inr h)}
theorem qbk{ops:Array Oper}{as:List Nat}{e:Nat}{A past:List Nat}(h:JN ops as [(e,[],A)] none past=true):∃o,ops[e]?=some o/\JS ops past e o=true/\qlm ops (as.getD e 0) A past=true:=by
 unfold JN at h;split at h<;>try (cases h;done)
 rename_i o ho _;split at h<;>try (cases h;done)
 rename_i hf _;split at h<;>try (cases h;done)
 rename_i past' hF;cases hF
 split at h<;>try (cases h;done)
 exact⟨o,ho,hf,‹_›⟩
theorem qkp{P:Program}{call:Za}{nt:Nat}{ops:Array Oper}{as:List Nat}{res:Nat}{dfs:Dfs}{e1 e2:Nat}{A1 A2 past:List Nat}{o1 o2:Oper}{s1 s2:TypeId×Operand×Operand}{env:Env}{H H1 H2 H12 H21:qc}{nx:Nat}
  (hc:qbr P call) (F:jU nt ops as) (hn:nt<=4096) (hne:e1≠e2) (ho1:ops[e1]?=some o1) (ho2:ops[e2]?=some o2) (hs1:jG o1=some s1) (hs2:jG o2=some s2)
  (c1:JN ops as [(e1,[],A1)] none past=true) (c2:JN ops as [(e2,[],A2)] none past=true) (hpast:∀i,i∈past->∃o,ops[i]?=some o/\(cls o.op=0\/cls o.op=1))
  (h1:vH P s1.1 H (aev env s1.2.1) (aev env s1.2.2)=some H1) (h12:vH P s2.1 H1 (aev env s2.2.1) (aev env s2.2.2)=some H12) (h2:vH P s2.1 H (aev env s2.2.1) (aev env s2.2.2)=some H2) (h21:vH P s1.1 H2 (aev env s1.2.1) (aev env s1.2.2)=some H21)
  (g1:wF P ops env H1 nx A1=true) (g12:wF P ops env H12 nx A2=true) (g2:wF P ops env H2 nx A2=true) (g21:wF P ops env H21 nx A1=true)
  {σ0:Sg} {H0:qc} {w0:World} {Q:Exit->Act->World->Prop} (hQ:∀σ' w' a',Rel σ' H12 nx w'->Ext σ0 σ' H0 H12 res nx w0 w'->kT σ' nt env dfs a'->Q .normal a' w') (hQ2:∀σ' w' a',Rel σ' H21 nx w'->Ext σ0 σ' H0 H21 res nx w0 w'->kT σ' nt env dfs a'->Q .normal a' w'):
  ∀fuel listed σ w a,Inv P nt ops as res σ0 H0 w0 dfs past [(e1,[],A1),(e2,[],A2)] env H nx listed σ w a->left ops listed<=fuel->wpAny P .any ops Q fuel listed a w:=by
 have hlim:res+ops.size<=res+ops.size:=Nat.le_refl _
 have lt1:e1<ops.size:=(Array.getElem?_eq_some_iff.1 ho1).1
 have lt2:e2<ops.size:=(Array.getElem?_eq_some_iff.1 ho2).1
 obtain⟨t1,a1,x1⟩:=s1
 obtain⟨t2,a2,x2⟩:=s2
 have last:∀{e:Nat} {A:List Nat} {o:Oper} {t:TypeId} {a x:Operand} {G G':qc},ops[e]?=some o->jG o=some (t,a,x)->vH P t G (aev env a) (aev env x)=some G'->wF P ops env G' nx A=true->JN ops as [(e,[],A)] none past=true->
   (∀σ' w' a',Rel σ' G' nx w'->Ext σ0 σ' H0 G' res nx w0 w'->kT σ' nt env dfs a'->Q .normal a' w')->∀fuel listed σ w a,Inv P nt ops as res σ0 H0 w0 dfs past [(e,[],A)] env G nx listed σ w a->left ops listed<=fuel->wpAny P .any ops Q fuel listed a w:=by
  intro e A o t a x G G' ho hs hst hag hchk hq;have hd:=qc2 hs
  have:=Qt (rc:=none) (env0:=Zh ops.toList env) [] hc F hn hlim [(e,[],A)] none past env G nx hchk (λs _ i hi=>by cases hi) hpast
   (λt ht=>by
    have hdd:∀o,o∈ops.toList->Qp nt o.dst=true:=λo ho=>by
     obtain⟨i,hi⟩:=List.mem_iff_getElem?.1 ho
     exact F.dst i o (by simpa using hi)
    rcases ZS hn ops.toList env t ht hdd with h|⟨h1,h2⟩
    ·exact .inl h
    ·exact .inr ⟨λj q hq=>h1 q (by simpa using Array.mem_of_getElem? hq),h2⟩)
   (qra ho hs hst hag) σ0 H0 w0 Q (λ_ _ _ _ _ _ _ hk=>hk.elim) (λenv' H' nx' hk hp=>by
    obtain⟨rfl,rfl,rfl⟩:=hk
    exact qcl F hn hp hq)
  rwa [List.append_nil]at this
 intro fuel
 induction fuel with
 |zero=>
  intro listed σ w a I hl;exact(I.todo e1 (by simp [named]) (KM (by omega:left ops listed=0) e1 lt1)).elim
 |succ fuel ih=>
  intro listed σ w a I hl;refine⟨λhnil=>(I.todo e1 (by simp [named]) (Qa F I.size hnil e1 lt1)).elim,λi hi=> ?_⟩
  obtain⟨o,ho,hnl,hed⟩:=(jI I.size).1 hi
  have hlt:i<ops.size:=(Array.getElem?_eq_some_iff.1 ho).1
  have hr:∀j,bit (as.getD i 0) j=true->isL listed j:=λj hj=>by
   obtain⟨g,hg,hb,hc'⟩:=F.ahead i o ho j hj
   rcases hc' with rfl|hc'
   ·exact hed g hg hb
   ·exact I.closed _ j (hed g hg hb) hc'
  have hleft:=Ki I.size hlt hnl
  by_cases i1:i=e1
  ·subst i1;obtain⟨o',ho',hf,hA⟩:=qbk c1
   rw [ho1]at ho';cases ho'
   refine Inv.act (rc:=none) (L:=[]) (past':=past) hc F hn hlim I ho1 (by simp [named];exact hne) hr hf rfl rfl hA (KF hs1 h1) (RN:=λenv2 H2' nx2=>env2=env/\H2'=H1/\nx2=nx) (λenv1 H1' nx1 hk=> ?_) (λenv2 H2' nx2 σ1 w1 b1 hk I1 _=> ?_) (λl H1 nx1 σ1 w1 c hk=>Bool.noConfusion hk)
   ·obtain⟨r,⟨k,hk2,hk3⟩⟩:∃r:Unit,∃kf:Env->qc->Bool,yG P ops res nx1 kf [] env1 H1'=true/\∀env2 H2,kf env2 H2=true->env2=env1/\H2=H1':=by
     classical
     exact⟨(),λenv2 H2=>decide (env2=env1/\H2=H1'),decide_eq_true ⟨rfl,rfl⟩,λenv2 H2 h=>of_decide_eq_true h⟩
    simp only [decide_eq_true_eq]at hk
    obtain⟨rfl,rfl,rfl⟩:=hk
    refine⟨k,hk2,λenv2 H2 hk4=> ?_⟩
    obtain⟨rfl,rfl⟩:=hk3 env2 H2 hk4
    exact⟨g1,rfl,rfl,rfl⟩
   ·obtain⟨rfl,rfl,rfl⟩:=hk
    exact last ho2 hs2 h12 g12 c2 hQ fuel _ σ1 w1 b1 I1 (by omega)
  ·by_cases i2:i=e2
   ·subst i2;obtain⟨o',ho',hf,hA⟩:=qbk c2
    rw [ho2]at ho';cases ho'
    refine Inv.act (rc:=none) (L:=[]) (past':=past) hc F hn hlim I.swap ho2 (by simp [named];exact Ne.symm hne) hr hf rfl rfl hA (KF hs2 h2) (RN:=λenv2 H2' nx2=>env2=env/\H2'=H2/\nx2=nx) (λenv1 H1' nx1 hk=> ?_) (λenv2 H2' nx2 σ1 w1 b1 hk I1 _=> ?_) (λl H1 nx1 σ1 w1 c hk=>Bool.noConfusion hk)
    ·obtain⟨r,⟨k,hk2,hk3⟩⟩:∃r:Unit,∃kf:Env->qc->Bool,yG P ops res nx1 kf [] env1 H1'=true/\∀env2 H2,kf env2 H2=true->env2=env1/\H2=H1':=by
      classical
      exact⟨(),λenv2 H2=>decide (env2=env1/\H2=H1'),decide_eq_true ⟨rfl,rfl⟩,λenv2 H2 h=>of_decide_eq_true h⟩
     simp only [decide_eq_true_eq]at hk
     obtain⟨rfl,rfl,rfl⟩:=hk
     refine⟨k,hk2,λenv2 H2 hk4=> ?_⟩
     obtain⟨rfl,rfl⟩:=hk3 env2 H2 hk4
     exact⟨g2,rfl,rfl,rfl⟩
    ·obtain⟨rfl,rfl,rfl⟩:=hk
     exact last ho1 hs1 h21 g21 c1 hQ2 fuel _ σ1 w1 b1 I1 (by omega)
   ·have hin:i ∉ named [(e1,[],A1),(e2,[],A2)]:=by
     intro h;simp only [named,List.nil_append,List.mem_cons,List.not_mem_nil,or_false]at h
     rcases h with h|h
     ·exact i1 h
     ·exact i2 h
    have hp:i∈past:=by
     rcases I.all i hlt with h|h|h
     ·exact h
     ·exact(hin h).elim
     ·exact(hnl h).elim
    obtain⟨o',ho',hcl⟩:=hpast i hp
    rw [ho]at ho';cases ho'
    exact I.float F hn ho hp hnl hcl hr hin λσ1 w1 a1 I1=>ih _ σ1 w1 a1 I1 (by omega)
theorem KK:∀{a b:List wH},named (a++b)=named a++named b
 |[],_=>rfl
 |(e,L,A)::a,b=>by
  show e::(L++named (a++b))=(e::(L++named a))++named b
  rw [KK];simp
theorem qof{P:Program}{call:zm}{nt:Nat}{ops:Array Oper}{ini:List Nat}{e1 e2:Nat}{s1 s2:TypeId×Operand×Operand}{env:Env}{H:qc}{nx:Nat}{dfs:Dfs}{rc:Option qw}{K:KP}(hm:P.follows .mixedOrders=true)
  (hcm:∀f args H nx (K K':qr),call f args H nx K->(∀e H' nx',K e H' nx'->K' e H' nx')->call f args H nx K') (hc:QI P call) (hplan:qg6 nt ops ini e1 e2=true) (hs1:(ops[e1]?).bind jG=some s1) (hs2:(ops[e2]?).bind jG=some s2)
  (h:Jk P call ops (pl0 ops ini) (plA ops ini) (plS ops ini) e1 e2 (plB ops ini e1) (plB ops ini e2) K env H nx dfs rc) (id:Nat)
  (σ:Sg) (w:World) (a:Act) (Q:Exit->Act->World->Prop) (hr:Rel σ H nx w) (ha:kT σ nt env dfs a)
  (hQ:∀ex env' H' nx' σ' w' a' e,K ex env' H' nx' dfs rc->Rel σ' H' nx' w'->Ext σ σ' H H' nx nx' w w'->kT σ' nt env' dfs a'->qck σ' ex e->Q e a' w'):
  (Code.region id ops true).wp P Q a w:=by
 have hlim:nx+ops.size<=nx+ops.size:=Nat.le_refl _
 unfold qg6 at hplan;split at hplan<;>try (cases hplan;done)
 rename_i past hnt hops hF hne;split at hplan<;>try (cases hplan;done)
 rename_i hA hS hcov;split at hplan<;>try (cases hplan;done)
 rename_i ht1 ht2 hc1 hc2;have hn:nt<=4096:=Nat.le_of_ble_eq_true hnt
 have F:=JE hops
 unfold Jk at h;obtain⟨env1,H1,hk,b1,b2,b3,b4,b5⟩:=QK F hn hlim (pl0 ops ini) [] past env H hF (QP h)
 obtain⟨hag0,hk⟩:=jx.1 hk
 have hag:wF P ops env1 H1 (nx+ops.size) (plA ops ini)=true:=vE hag0
 have hpast:∀i,i∈past->∃o,ops[i]?=some o/\(cls o.op=0\/cls o.op=1):=by
  intro i hi;rcases(kj hF i).1 hi with hi|hi
  ·cases hi
  ·obtain⟨o,ho,hne⟩:=Zf hF i hi
   refine⟨o,ho,?_⟩
   have:cls o.op=0\/cls o.op=1\/cls o.op=2:=by
    unfold cls;split<;>first|exact .inl rfl|exact .inr (.inl rfl)|exact .inr (.inr rfl)|skip
    split<;>first|exact .inl rfl|exact .inr (.inr rfl)
   rcases this with h|h|h
   ·exact .inl h
   ·exact .inr h
   ·exact(hne h).elim
 have hblank:∀t,t<4096->get2 t (Zh ops.toList env)= .und\/((∀(j:Nat) (q:Oper),ops[j]?=some q->q.dst≠some t)/\get2 t (Zh ops.toList env)=get2 t env1):=by
  intro t ht;have hd:∀o,o∈ops.toList->Qp nt o.dst=true:=λo ho=>by
   obtain⟨i,hi⟩:=List.mem_iff_getElem?.1 ho
   exact F.dst i o (by simpa using hi)
  rcases ZS hn ops.toList env t ht hd with h|⟨h1,h2⟩
  ·exact .inl h
  ·have h3:∀(j:Nat) (q:Oper),ops[j]?=some q->q.dst≠some t:=λj q hq=>h1 q (by simpa using Array.mem_of_getElem? hq)
   exact .inr ⟨h3,by rw [h2,b1 t ht λj q _ hq=>h3 j q hq]⟩
 have hrun:=ZA hcm (plS ops ini) env1 H1 (nx+ops.size) hk
 obtain⟨o1,ho1,hs1⟩:=Option.bind_eq_some_iff.1 hs1
 obtain⟨o2,ho2,hs2⟩:=Option.bind_eq_some_iff.1 hs2
 have hne':e1≠e2:=λe=>by subst e;simp at hne
 refine wp_region_any hm ?_
 have none':∀b,nx<=b->σ b=none:=λb hb=>by
  cases e:σ b with
  |none=>rfl
  |some p=>obtain⟨cb,sz⟩:=p;have:=(hr.dom b cb sz e).1;omega
 refine Qt (call:=qn9 call) [(e1,[],plB ops ini e1),(e2,[],plB ops ini e2)] (qba hc) F hn hlim (plS ops ini) none past env1 H1 (nx+ops.size) hS ?_ hpast hblank hrun σ H w Q
  (λl H' nx' σ' w' a' c hk R E A C=>hQ (.pan l) _ H' nx' σ' w' a' (.panic c) hk R E A C) ?_ ops.size _ σ _ a ⟨by simp,ha.env.size,?_,?_,?_,?_,?_,?_,?_,Nat.le_refl _,?_,?_,ha.dfs⟩ ?_
 ·intro s hs i hi;simp only [named,List.nil_append,List.mem_cons,List.not_mem_nil,or_false]at hi
  rcases hi with rfl|rfl
  ·exact jg ht1 s hs
  ·exact jg ht2 s hs
 ·intro env' H' nx' hk hp;unfold qlv at hk;simp only [ho1,ho2]at hk
  obtain⟨hk1,hk2⟩:=hk
  obtain⟨G1,q1,r1,hk1⟩:=ZN (a:=s1.2.1) (x:=s1.2.2) (t:=s1.1) hcm hs1 hk1
  obtain⟨G12,q12,r2,hk1⟩:=ZN (a:=s2.2.1) (x:=s2.2.2) (t:=s2.1) hcm hs2 hk1
  obtain⟨G2,q2,r3,hk2⟩:=ZN (a:=s2.2.1) (x:=s2.2.2) (t:=s2.1) hcm hs2 hk2
  obtain⟨G21,q21,r4,hk2⟩:=ZN (a:=s1.2.1) (x:=s1.2.2) (t:=s1.1) hcm hs1 hk2
  exact qkp (qba hc) F hn hne' ho1 ho2 hs1 hs2 hc1 hc2 hp q1 q12 q2 q21 (vE r1) (vE r2) (vE r3) (vE r4)
   (λσ' w' a' R E A=>hQ .normal env' G12 nx' σ' w' a' .normal hk1 R E A trivial) (λσ' w' a' R E A=>hQ .normal env' G21 nx' σ' w' a' .normal hk2 R E A trivial)
 ·exactλi j h=>(vo h).elim
 ·exactλi _ h=>vo h
 ·intro i hi;have:=Z3 (jg hcov i (List.mem_range.2 hi))
  rcases List.mem_append.1 this with h|h
  ·rcases List.mem_append.1 h with h|h
   ·exact .inl ((kj hF i).2 (.inr h))
   ·refine .inr (.inl ?_)
    rw [KK];exact List.mem_append_left _ h
  ·refine .inr (.inl ?_)
   rw [KK];refine List.mem_append_right _ ?_
   simpa [named]using h
 ·intro t ht hown;rw [b1 t ht λj q _ hq hd=>vo (hown j q hq hd)]
  exact ha.env.den t ht
 ·intro j q hj hq _ hcl;cases hip:QL q.op with
  |true=>
   have h1:=jg hA j hj
   rw [hq]at h1;simp only [hip]at h1
   have hmem:j∈plA ops ini:=by
    split at h1
    ·exact Z3 ‹_›
    ·rw [KJ]at h1;simp at h1
   have h3:=jg hag j hmem
   rw [hq]at h3;exact JA hcl h3
  |false=>
   rcases(kj hF j).1 hj with hj|hj
   ·cases hj
   ·exact b5 j q hj hq hcl hip
 ·intro j q hj hq _ hcl;rcases(kj hF j).1 hj with hj|hj
  ·cases hj
  ·exact b4 j q hj hq hcl
 ·exactλi _ _=>none' _ (by omega)
 ·exact(b3 σ w (hr.more (Nat.le_add_right _ _) lR) λj _=>none' _ (by omega)).drew
 ·have E:=Ext.drew σ H nx w
  refine⟨E.sub,E.rng,?_,Nat.le_add_right _ _,rfl,rfl,rfl,Nat.le_refl _,λ_ _ _=>rfl,Nat.le_succ _⟩
  intro b hb h0;exact⟨h0,b2 b (by omega) λj _=>by omega⟩
 ·unfold left;have:=List.countP_le_length (p:=λi=> !(Array.replicate ops.size false).getD i false) (l:=List.range ops.size)
  simpa using this
theorem WpP.pair{P:Program}{nt id:Nat}{c:Code}{ops:Array Oper}{ini P0 PA:List Nat}{PS:List (Nat×List Nat×List Nat)}{e1 e2:Nat}{B1 B2:List Nat}{s1 s2:TypeId×Operand×Operand}{ts:List Nat}{env:Env}{H:qc}{nx:Nat}{dfs:Dfs}{K:KP}(hm:P.follows .mixedOrders=true)(hc:c= .region id ops true)(hp:qg6 nt ops ini e1 e2=true)
  (hs1:(ops[e1]?).bind jG=some s1) (hs2:(ops[e2]?).bind jG=some s2) (h0:pl0 ops ini=P0) (hA:plA ops ini=PA) (hS:plS ops ini=PS) (hB1:plB ops ini e1=B1) (hB2:plB ops ini e2=B2)
  (h:Jk P (qo P) ops P0 PA PS e1 e2 B1 B2 (qG ts (qF (λe H n d _=>K .normal e H n d none) (λid e H n d _=>K (.exit id) e H n d none) (λe H n d _=>K .ret e H n d none) (λl e H n d _=>K (.pan l) e H n d none))) env H nx dfs none):WpP P nt c env H nx dfs K:=by
 subst hc h0 hA hS hB1 hB2;refine WpP.trim (ts:=ts) (WpP.mono (K:=qG ts (qF (λe H n d _=>K .normal e H n d none) (λid e H n d _=>K (.exit id) e H n d none) (λe H n d _=>K .ret e H n d none) (λl e H n d _=>K (.pan l) e H n d none))) ?_ (by intro ex env' H' nx' dfs' h;cases ex<;>exact h))
 intro σ w act Q hr ha hQ;refine qof (call:=qo P) (rc:=none) hm (Qn P) (λ_ _ _ _ _ h=>h) hp hs1 hs2 h id σ w act Q hr ha ?_
 intro ex env' H' nx' σ' w' a' e hk R E A X;exact hQ ex env' H' nx' dfs σ' w' a' e hk R E A X
end
end Go.Vs
end
section
namespace Go.Vs
variable [GTab] {P:Program} {H:qc} {nx:Nat}
noncomputable section
def qbe(P:Program)(f:FuncId)(nt n:Nat):Bool:=match P.funcs[f]? with
 |some fn=>match fn.body with
  |some _=>Nat.beq fn.ntmps nt&&(Nat.ble fn.ntmps 4096&&Nat.ble n fn.ntmps)
  |none=>false
 |none=>false
theorem qo.of_code{f nt:Nat}{args:List qa}{K:qr}(h0:qbe P f nt args.length=true)
  (h:WpP P nt (qd P f) (yh args 0 (qeo (.tuple []))) H nx [] (qy P (z9 (qM P)) (ze P (qM P)) K (qP P f))):qo P f args H nx K:=by
 unfold qbe at h0;unfold qd qP at h;cases hf:P.funcs[f]? with
 |none=>rw [hf]at h0;cases h0
 |some fn=>
  rw [hf]at h0 h;cases hb:fn.body with
  |none=>simp only [hb]at h0;cases h0
  |some c=>
   simp only [hb,Bool.and_eq_true]at h0
   simp only [hb]at h
   obtain⟨h1,h2,h3⟩:=h0
   have h1:=Nat.eq_of_beq_eq_true h1
   subst h1;exact qo.of_wp hf hb h2 h3 h
section
variable{P:Program}{nt:Nat}{a b:Code}{x:Operand}{env:Env}{H:qc}{nx:Nat}{dfs:Dfs}{K:KP}
theorem WpP.exit{i:Nat}(h:K (.exit i) env H nx dfs none):WpP P nt (.exit i) env H nx dfs K:=by
 intro σ w act Q hr ha hQ;exact wp_exit (hQ (.exit i) env H nx dfs σ w act (.exit i) h hr (Ext.refl _ _ _ _) ha rfl)
theorem WpP.ret(h:K .ret env H nx dfs none):WpP P nt .ret env H nx dfs K:=by
 intro σ w act Q hr ha hQ;exact wp_ret (hQ .ret env H nx dfs σ w act .ret h hr (Ext.refl _ _ _ _) ha trivial)
theorem WpP.case{k j:Int}(hp:aev env x= .bool (decide (k=j)))(ht:k=j->WpP P nt a env H nx dfs K)(hf:¬k=j->WpP P nt b env H nx dfs K):WpP P nt (.cond x a b) env H nx dfs K:=by
 by_cases h:k=j
 ·exact WpP.cond (p:=true) (by rw [hp,decide_eq_true h]) (ht h)
 ·exact WpP.cond (p:=false) (by rw [hp,decide_eq_false h]) (hf h)
theorem WpP.caseB{p:Bool}(hp:aev env x= .bool p)(ht:p=true->WpP P nt a env H nx dfs K)(hf:p=false->WpP P nt b env H nx dfs K):WpP P nt (.cond x a b) env H nx dfs K:=by
 cases p with
 |true=>exact WpP.cond (p:=true) hp (ht rfl)
 |false=>exact WpP.cond (p:=false) hp (hf rfl)
end
end
end Go.Vs
end
section
namespace Go.Vs
namespace Ck
section
variable{T T':List Ty}{fs fs':List CSg}{t j:Nat}{x:Ty}
theorem qs8(h:j<T.length):ty T j=T[j]:=by unfold ty;simp [List.getD,h]
theorem KB(h:T.length<=j):ty T j=tyZ:=by unfold ty;simp [List.getD,List.getElem?_eq_none h]
theorem yx(h:t<T.length):ty (T.set t x) t=x:=by unfold ty;simp [List.getD,h]
theorem qi2(h:j≠t):ty (T.set t x) j=ty T j:=by unfold ty;simp [List.getD,Ne.symm h]
theorem Y4(L:List Ty)(h:j<T.length):ty (T++L) j=ty T j:=by unfold ty;simp [List.getD,List.getElem?_append_left h]
theorem qjm:zK base []:=by
 refine⟨by decide,?_,?_,?_,?_,(λ_ h=>nomatch h),(λ_ h=>nomatch h)⟩<;>(unfold base;simp)
theorem zK.set(g:zK T fs)(he:x.elem<T.length)(hf:∀f∈x.fields,f.2<T.length)(hr:∀m∈x.methods,m.result<T.length)(hp:∀m∈x.methods,∀p∈m.params,p<T.length):zK (T.set t x) fs:=by
 have hl:(T.set t x).length=T.length:=List.length_set
 refine⟨by rw [hl];exact g.b5,λy hy=> ?_,λy hy=> ?_,λy hy=> ?_,λy hy=> ?_,?_,?_⟩
 ·rw [hl];rcases List.mem_or_eq_of_mem_set hy with hy|rfl
  ·exact g.el y hy
  ·exact he
 ·rw [hl];rcases List.mem_or_eq_of_mem_set hy with hy|rfl
  ·exact g.fl y hy
  ·exact hf
 ·rw [hl];rcases List.mem_or_eq_of_mem_set hy with hy|rfl
  ·exact g.mr y hy
  ·exact hr
 ·rw [hl];rcases List.mem_or_eq_of_mem_set hy with hy|rfl
  ·exact g.mp y hy
  ·exact hp
 ·rw [hl];exact g.fp
 ·rw [hl];exact g.fr
def QW(T T':List Ty):Prop:=∃L:List Ty,T'=T++L/\∀x∈L,x.kind=6/\x.name=[]/\x.fields=[]/\x.methods=[]
theorem QW.refl:QW T T:=⟨[],by simp,by simp⟩
theorem QW.trans{T2:List Ty}(h:QW T T')(h':QW T' T2):QW T T2:=by
 obtain⟨L,rfl,h⟩:=h
 obtain⟨M,rfl,h'⟩:=h'
 refine⟨L++M,by simp,λx hx=> ?_⟩
 rcases List.mem_append.1 hx with hx|hx
 ·exact h x hx
 ·exact h' x hx
theorem QW.len(h:QW T T'):T.length<=T'.length:=by obtain⟨L,rfl,_⟩:=h;simp
theorem QW.at(h:QW T T')(hj:j<T.length):ty T' j=ty T j:=by obtain⟨L,rfl,_⟩:=h;exact Y4 L hj
def Qg(t:Nat)(T:List Ty):Prop:=∀j,t<=j->(ty T j).fields=[]/\(ty T j).methods=[]
theorem Qg.mono(h:Qg t T)(hj:t<=j):Qg j T:=λi hi=>h i (Nat.le_trans hj hi)
theorem QW.bare(h:QW T T')(hb:Qg t T):Qg t T':=by
 intro j hj;by_cases h1:j<T.length
 ·rw [h.at h1];exact hb j hj
 ·obtain⟨L,rfl,hL⟩:=h
  by_cases h2:j<(T++L).length
  ·rw [qs8 h2];have:(T++L)[j]∈L:=by
    rw [List.getElem_append_right (by omega)]
    exact List.getElem_mem _
   exact(hL _ this).2.2
  ·rw [KB (by omega)];exact⟨rfl,rfl⟩
theorem Qg.set(h:Qg (t+1) T):Qg (t+1) (T.set t x):=by
 intro j hj;rw [qi2 (by omega)];exact h j hj
theorem WE{s:Bs}{f:Flt}{a:Nat}(h:VA T s f= .ok (a,T')):QW T T':=by
 unfold VA at h;split at h
 ·injection h with h
  injection h with _ h
  subst h;exact .refl
 ·cases h
theorem qdl{n:qu}{e a:Nat}(h:Q9 T n e= .ok (a,T')):QW T T':=by
 unfold Q9 at h;split at h
 ·injection h with h
  injection h with _ h
  subst h;exact .refl
 ·obtain⟨_,h⟩:=need_ok h
  injection h with h
  injection h with _ h
  subst h;exact⟨_,rfl,by simp⟩
mutual
theorem yZ:∀(t:qu) {T T':List Ty} {a:Nat},typ T t= .ok (a,T')->QW T T'
 | .node k s n l c ks,T,T',a,h=>by
  unfold typ at h;split at h
  ·obtain⟨⟨e,T1⟩,h1,h2⟩:=zy h
   exact(qd4 ks h1).trans (qdl h2)
  ·exact WE h
theorem qd4:∀(ks:List qu) {T T':List Ty} {a:Nat},Qs T ks= .ok (a,T')->QW T T'
 |[],T,T',a,h=>by unfold Qs at h;exact WE h
 |x::_,T,T',a,h=>by unfold Qs at h;exact yZ x h
end
theorem JW{n:qu}{a:Nat}(h:res T n= .ok (a,T')):QW T T':=by
 unfold res at h;split at h
 ·injection h with h
  injection h with _ h
  subst h;exact .refl
 ·exact yZ n h
theorem YN:∀{l:List qu} {T T':List Ty} {xs:List Nat},vV T l= .ok (xs,T')->QW T T'
 |[],T,T',xs,h=>by
  injection h with h
  injection h with _ h
  subst h;exact .refl
 |n::ns,T,T',xs,h=>by
  unfold vV at h;obtain⟨⟨x,T1⟩,h1,h⟩:=zy h
  obtain⟨⟨ys,T2⟩,h2,h⟩:=zy h
  have h:(Except.ok (x::ys,T2):Ex (List Nat×List Ty))= .ok (xs,T'):=h
  injection h with h
  injection h with _ h
  subst h;exact(yZ n h1).trans (YN h2)
theorem qce{n:qu}{a:Nat}(g:zK T fs)(h:res T n= .ok (a,T')):Jy fs T a T':=by
 unfold res at h;split at h
 ·injection h with h
  injection h with h1 h
  subst h1 h;exact⟨g,Nat.le_refl _,by have:=g.b5;omega⟩
 ·exact kX n g h
theorem Ve:∀{l:List qu} {T T':List Ty} {xs:List Nat},zK T fs->vV T l= .ok (xs,T')->zK T' fs/\T.length<=T'.length/\(∀x∈xs,x<T'.length)/\xs.length=l.length
 |[],T,T',xs,g,h=>by
  injection h with h
  injection h with h1 h
  subst h1 h;exact⟨g,Nat.le_refl _,(λ_ h=>nomatch h),rfl⟩
 |n::ns,T,T',xs,g,h=>by
  unfold vV at h;obtain⟨⟨x,T1⟩,h1,h⟩:=zy h
  obtain⟨⟨ys,T2⟩,h2,h⟩:=zy h
  have h:(Except.ok (x::ys,T2):Ex (List Nat×List Ty))= .ok (xs,T'):=h
  injection h with h
  injection h with h3 h4
  subst h3 h4;obtain⟨g1,l1,a1⟩:=kX n g h1
  obtain⟨g2,l2,a2,e2⟩:=Ve g1 h2
  refine⟨g2,by omega,λy hy=> ?_,by simp [e2]⟩
  rcases List.mem_cons.1 hy with rfl|hy
  ·omega
  ·exact a2 y hy
theorem XF{n:qu}(g:zK T fs)(h:declared T n= .ok T'):zK T' fs/\T'.length=T.length+1/\T'.length<=45/\(Qg 5 T->Qg 5 T'):=by
 unfold declared at h;obtain⟨_,h⟩:=need_ok h
 obtain⟨h40,h⟩:=need_ok h
 injection h with h
 subst h;have h40:T.length - 5<40:=of_decide_eq_true h40
 refine⟨g.add (by show 0<_;omega) rfl rfl,by simp,by simp;omega,λhb j hj=> ?_⟩
 by_cases h1:j<T.length
 ·rw [Y4 _ h1];exact hb j hj
 ·by_cases h2:j=T.length
  ·subst h2;rw [qs8 (by simp)]
   simp
  ·rw [KB (by simp;omega)];exact⟨rfl,rfl⟩
theorem Zz:∀{l:List qu} {T T':List Ty},zK T fs->kc T l= .ok T'->zK T' fs/\T'.length=T.length+l.length/\(T.length<=45->T'.length<=45)/\(Qg 5 T->Qg 5 T')
 |[],T,T',g,h=>by
  injection h with h
  subst h;exact⟨g,rfl,id,id⟩
 |n::ns,T,T',g,h=>by
  unfold kc at h;obtain⟨T1,h1,h⟩:=zy h
  obtain⟨g1,e1,m1,b1⟩:=XF g h1
  obtain⟨g2,e2,m2,b2⟩:=Zz g1 h
  exact⟨g2,by simp only [List.length_cons];omega,λ_=>m2 m1,λb=>b2 (b1 b)⟩
theorem qis:Qg 5 base:=λj hj=>by rw [KB (by exact hj)];exact⟨rfl,rfl⟩
def Few(t m:Nat)(T:List Ty):Prop:=(ty T t).fields.length<=m/\(ty T t).methods.length<=m
theorem qbp{k:qu}{m:Nat}(g:zK T fs)(ht:t<T.length)(hb:Qg (t+1) T)(hf:Few t m T)(h:ZD T t k= .ok T'):zK T' fs/\T.length<=T'.length/\Qg (t+1) T'/\Few t (m+1) T':=by
 unfold ZD at h;split at h
 ·obtain⟨⟨x,T1⟩,h1,h⟩:=zy h
  have h:(Except.ok (jL T1 t {ty T1 t with fields:=(ty T1 t).fields++[(jR k,x)]}):Ex (List Ty))= .ok T':=h
  injection h with h
  subst h;obtain⟨g1,l1,a1⟩:=kX _ g h1
  have ad:=yZ _ h1
  have ht1:t<T1.length:=by omega
  have hm:=KG ht1
  refine⟨g1.set (show(ty T1 t).elem<_ from g1.el _ hm) (λf hf=> ?_) (show∀m∈(ty T1 t).methods,_ from g1.mr _ hm) (show∀m∈(ty T1 t).methods,_ from g1.mp _ hm),by unfold jL;rw [List.length_set];exact l1,(ad.bare hb).set,?_⟩
  ·rcases List.mem_append.1 hf with hf|hf
   ·exact g1.fl _ hm f hf
   ·rw [List.mem_singleton.1 hf];exact a1
  ·unfold Few jL;rw [yx ht1,ad.at ht];simp only [List.length_append,List.length_singleton]
   exact⟨by have:=hf.1;omega,by have:=hf.2;omega⟩
 ·obtain⟨_,h⟩:=need_ok h
  obtain⟨⟨r,T1⟩,h1,h⟩:=zy h
  obtain⟨⟨ps,T2⟩,h2,h⟩:=zy h
  have h:(Except.ok (jL T2 t {ty T2 t with methods:=(ty T2 t).methods++[⟨jR k,ps,r,-1⟩]}):Ex (List Ty))= .ok T':=h
  injection h with h
  subst h;obtain⟨g1,l1,a1⟩:=qce g h1
  obtain⟨g2,l2,a2,_⟩:=Ve g1 h2
  have ad:=(JW h1).trans (YN h2)
  have ht2:t<T2.length:=by omega
  have hm:=KG ht2
  refine⟨g2.set (show(ty T2 t).elem<_ from g2.el _ hm) (show∀f∈(ty T2 t).fields,_ from g2.fl _ hm) (λq hq=> ?_) (λq hq=> ?_),by unfold jL;rw [List.length_set];omega,(ad.bare hb).set,?_⟩
  ·rcases List.mem_append.1 hq with hq|hq
   ·exact g2.mr _ hm q hq
   ·rw [List.mem_singleton.1 hq];show r<_;omega
  ·rcases List.mem_append.1 hq with hq|hq
   ·exact g2.mp _ hm q hq
   ·rw [List.mem_singleton.1 hq];exact a2
  ·unfold Few jL;rw [yx ht2,ad.at ht];simp only [List.length_append,List.length_singleton]
   exact⟨by have:=hf.1;omega,by have:=hf.2;omega⟩
theorem wZ:∀{l:List qu} {T T':List Ty} {names:List Bs},zK T fs->t<T.length->Qg (t+1) T->Few t names.length T->z7 t T names l= .ok T'->zK T' fs/\T.length<=T'.length/\Qg (t+1) T'
 |[],T,T',names,g,ht,hb,hf,h=>by
  injection h with h
  subst h;exact⟨g,Nat.le_refl _,hb⟩
 |k::ks,T,T',names,g,ht,hb,hf,h=>by
  unfold z7 at h;obtain⟨_,h⟩:=need_ok h
  obtain⟨_,h⟩:=need_ok h
  obtain⟨T1,h1,h⟩:=zy h
  obtain⟨g1,l1,b1,f1⟩:=qbp g ht hb hf h1
  obtain⟨g2,l2,b2⟩:=wZ (names:=names++[jR k]) g1 (by omega) b1 (by rw [List.length_append];exact f1) h
  exact⟨g2,by omega,b2⟩
theorem QV:∀{l:List qu} {t:Nat} {T T':List Ty},zK T fs->t+l.length<=T.length->Qg t T->zW T t l= .ok T'->zK T' fs/\T.length<=T'.length
 |[],t,T,T',g,ht,hb,h=>by
  injection h with h
  subst h;exact⟨g,Nat.le_refl _⟩
 |n::ns,t,T,T',g,ht,hb,h=>by
  simp only [List.length_cons]at ht
  unfold zW at h;obtain⟨T1,h1,h⟩:=zy h
  obtain⟨g1,l1,b1⟩:=wZ (names:=[]) g (by omega) (hb.mono (by omega)) (by have:=hb t (Nat.le_refl t);unfold Few;rw [this.1,this.2];simp) h1
  obtain⟨g2,l2⟩:=QV g1 (by omega) b1 h
  exact⟨g2,by omega⟩
theorem qhh{α:Type}{p:Nat->α->Bool}:∀{l:List α} {k i:Nat},zk p l k=some i->∃x,p i x=true
 |[],_,_,h=>by cases h
 |x::l,k,i,h=>by
  unfold zk at h;split at h
  ·rename_i hx
   injection h with h
   subst h;exact⟨x,hx⟩
  ·exact qhh h
theorem zK.addSg{s:CSg}(g:zK T fs)(hp:∀p∈s.params,p<T.length)(hr:s.result<T.length):zK T (fs++[s]):=by
 refine⟨g.b5,g.el,g.fl,g.mr,g.mp,λf hf=> ?_,λf hf=> ?_⟩
 ·rcases List.mem_append.1 hf with hf|hf
  ·exact g.fp f hf
  ·rw [List.mem_singleton.1 hf];exact hp
 ·rcases List.mem_append.1 hf with hf|hf
  ·exact g.fr f hf
  ·rw [List.mem_singleton.1 hf];exact hr
theorem ZF{n u:qu}{a:Nat}(h:receiver T n u= .ok a):a<T.length/\(ty T a).methods.length<12/\a≠0:=by
 unfold receiver at h;split at h
 ·cases h
 ·rename_i i hi;obtain⟨_,h⟩:=need_ok h
  obtain⟨_,h⟩:=need_ok h
  obtain⟨h12,h⟩:=need_ok h
  injection h with h
  subst h;have h1:=v8 hi
  obtain⟨_,h2⟩:=qhh hi
  refine⟨by omega,of_decide_eq_true h12,?_⟩
  intro e;simp only [Bool.and_eq_true,decide_eq_true_eq]at h2
  exact h2.2.2.1 e
theorem qjr{n:qu}{a:Nat}(g:zK T fs)(h:Ju T fs n= .ok a):a<T.length/\(a≠0->(ty T a).methods.length<12):=by
 unfold Ju at h;split at h
 ·obtain⟨_,h⟩:=need_ok h
  injection h with h
  subst h;exact⟨by have:=g.b5;omega,λh=>absurd rfl h⟩
 ·obtain⟨h1,h2,_⟩:=ZF h
  exact⟨h1,λ_=>h2⟩
def qlq(f:CSg)(n:qu):Prop:=(f.recv=0↔kh (Q3 n 0)=38)/\f.params.length=(kB n).length/\(kB n).length<=8
theorem Yg:∀{l:List qu} {T T':List Ty} {xs:List Nat},vV T l= .ok (xs,T')->xs.length=l.length
 |[],T,T',xs,h=>by
  injection h with h
  injection h with h1 h
  subst h1
  rfl
 |n::ns,T,T',xs,h=>by
  unfold vV at h;obtain⟨⟨x,T1⟩,h1,h⟩:=zy h
  obtain⟨⟨ys,T2⟩,h2,h⟩:=zy h
  have h:(Except.ok (x::ys,T2):Ex (List Nat×List Ty))= .ok (xs,T'):=h
  injection h with h
  injection h with h3 h4
  subst h3;simp [Yg h2]
theorem XM{n:qu}(g:zK T fs)(h:function T fs n= .ok (T',fs')):zK T' fs'/\T.length<=T'.length/\∃f,fs'=fs++[f]/\qlq f n:=by
 unfold function at h;obtain⟨rv,hrv,h⟩:=zy h
 obtain⟨_,h⟩:=need_ok h
 obtain⟨h8,h⟩:=need_ok h
 obtain⟨_,_,h⟩:=zy h
 obtain⟨⟨r,T1⟩,h1,h⟩:=zy h
 obtain⟨⟨ps,T2⟩,h2,h⟩:=zy h
 have h:(Except.ok (if rv=0 then T2 else jL T2 rv {ty T2 rv with methods:=(ty T2 rv).methods++[⟨jR n,ps.drop 1,r,(fs.length:Int)⟩]},fs++[⟨jR n,rv,ps,r⟩]):Ex (List Ty×List CSg))= .ok (T',fs'):=h
 injection h with h
 injection h with h3 h4
 obtain⟨g1,l1,a1⟩:=qce g h1
 obtain⟨g2,l2,a2,_⟩:=Ve g1 h2
 obtain⟨hlt,_⟩:=qjr g hrv
 have hl:T'.length=T2.length:=by
  rw [<-h3];split
  ·rfl
  ·unfold jL;rw [List.length_set]
 have g3:zK T' fs:=by
  rw [<-h3];split
  ·exact g2
  ·have hm:=KG (show rv<T2.length by omega)
   refine g2.set (show(ty T2 rv).elem<_ from g2.el _ hm) (show∀f∈(ty T2 rv).fields,_ from g2.fl _ hm) (λq hq=> ?_) (λq hq=> ?_)
   ·rcases List.mem_append.1 hq with hq|hq
    ·exact g2.mr _ hm q hq
    ·rw [List.mem_singleton.1 hq];show r<_;omega
   ·rcases List.mem_append.1 hq with hq|hq
    ·exact g2.mp _ hm q hq
    ·rw [List.mem_singleton.1 hq];exactλp hp=>a2 p (List.mem_of_mem_drop hp)
 refine⟨?_,by omega,_,h4.symm,?_,?_,of_decide_eq_true h8⟩
 ·rw [<-h4];refine g3.addSg (λp hp=> ?_) ?_
  ·rw [hl];exact a2 p hp
  ·show r<_;omega
 ·show rv=0↔_
  unfold Ju at hrv;split at hrv
  ·rename_i hk;obtain⟨_,hrv⟩:=need_ok hrv
   injection hrv with hrv
   exact⟨λ_=>hk,λ_=>hrv.symm⟩
  ·rename_i hk;obtain⟨_,_,h0⟩:=ZF hrv
   exact⟨λe=>absurd e h0,λe=>absurd e hk⟩
 ·show ps.length=_
  rw [Yg h2,List.length_map]
inductive wE:List CSg->List qu->Prop
 |nil:wE [] []
 |cons {f:CSg} {n:qu} {fs:List CSg} {ns:List qu} (h:qlq f n) (t:wE fs ns):wE (f::fs) (n::ns)
theorem Q8:∀{l:List qu} {T T':List Ty} {fs fs':List CSg},zK T fs->jq T fs l= .ok (T',fs')->zK T' fs'/\T.length<=T'.length/\∃new,fs'=fs++new/\wE new l
 |[],T,T',fs,fs',g,h=>by
  injection h with h
  injection h with h1 h2
  subst h1 h2;exact⟨g,Nat.le_refl _,[],by simp,.nil⟩
 |n::ns,T,T',fs,fs',g,h=>by
  unfold jq at h;obtain⟨⟨T1,fs1⟩,h1,h⟩:=zy h
  have h:jq T1 fs1 ns= .ok (T',fs'):=h
  obtain⟨g1,l1,f,e1,r1⟩:=XM g h1
  obtain⟨g2,l2,new,e2,r2⟩:=Q8 g1 h
  subst e1;exact⟨g2,by omega,f::new,by rw [e2];simp,.cons r1 r2⟩
theorem wE.len{fs:List CSg}{ns:List qu}(h:wE fs ns):fs.length=ns.length:=by
 induction h with
 |nil=>rfl
 |cons _ _ ih=>simp [ih]
theorem wE.drop{fs:List CSg}{ns:List qu}(h:wE fs ns):∀i,wE (fs.drop i) (ns.drop i):=by
 induction h with
 |nil=>intro i;simp;exact .nil
 |cons h t ih=>
  intro i;cases i with
  |zero=>exact .cons h t
  |succ i=>exact ih i
theorem wE.at{fs:List CSg}{ns:List qu}(h:wE fs ns){i:Nat}(h1:i<fs.length)(h2:i<ns.length):qlq fs[i] ns[i]:=by
 have hd:=h.drop i
 rw [List.drop_eq_getElem_cons h1,List.drop_eq_getElem_cons h2]at hd;cases hd with
 |cons h _=>exact h
theorem qji{f:CSg}{n:qu}(g:zK T fs)(hf:f∈fs)(h:body T fs f n= .ok T'):zK T' fs/\T.length<=T'.length:=by
 unfold body at h;obtain⟨S,h1,h⟩:=zy h
 obtain⟨_,h⟩:=need_ok h
 injection h with h
 subst h;have i:Inv fs ⟨T,zN (kB n) f.params,(zN (kB n) f.params).length⟩:=by
  refine⟨g,λv hv=> ?_,Nat.le_refl _⟩
  unfold zN at hv;obtain⟨⟨p,t⟩,hp,rfl⟩:=List.mem_map.1 hv
  exact g.fp f hf t (List.of_mem_zip hp).2
 have gg:=Jv _ i h1
 exact⟨gg.1.g,gg.2.1⟩
end
end Ck
namespace Pt
def letter(c:UInt8):Bool:=(97<=c&&c<=122)||(65<=c&&c<=90)||c==95
def digit(c:UInt8):Bool:=48<=c&&c<=57
def words:List (List UInt8):=[Ps.wType,Ps.wStruct,Ps.wInterface,Ps.wFunc,Ps.wVar,Ps.wIf,Ps.wElse,Ps.wFor,Ps.wBreak,Ps.wContinue,Ps.wReturn,Ps.wPrint,Ps.wLen,Ps.wMake,Ps.wNew,Ps.wInput,Ps.wTrue,Ps.wFalse,Ps.wNil,Ps.wInt,Ps.wBool,Ps.wString]
def isWord(s:List UInt8):Bool:=decide (s∈words)
def endWords:List (List UInt8):=[Ps.wTrue,Ps.wFalse,Ps.wNil,Ps.wBreak,Ps.wContinue,Ps.wReturn,Ps.wInt,Ps.wBool,Ps.wString]
def endsTok(t:Tok):Bool:=
 if t.kind=2\/t.kind=4\/t.kind=5 then true
 else if t.kind=3 then decide (t.text∈endWords)
 else if t.kind=6 then t.text=[41]||t.text=[93]||t.text=[125]
 else false
def ends(out:List Tok):Bool:=match out.getLast? with
 |some t=>endsTok t
 |none=>false
def numGo:Nat->List UInt8->Option Nat
 |v,[]=>some v
 |v,c::s=>if digit c then(if(9223372036854775807 - (c.toNat - 48)) / 10<v then none else numGo (10*v+(c.toNat - 48)) s)else some v
def textGo:Nat->List UInt8->List UInt8->Option (List UInt8×Nat)
 |_,_,[]=>none
 |n,out,c::s=>
  if c=34/\out.length<=2000 then some (out,n+1)
  else if c=92 then match s with
   |[]=>none
   |e::s'=>if e=110 then textGo (n+2) (out++[10]) s' else if e=116 then textGo (n+2) (out++[9]) s' else if e=34\/e=92 then textGo (n+2) (out++[e]) s' else none
  else if c<32\/126<c\/c=34 then none
  else textGo (n+1) (out++[c]) s
def pairs:List (List UInt8):=[[58,61],[61,61],[33,61],[60,61],[62,61],[38,38],[124,124]]
def signs:List UInt8:=[43,45,42,47,37,60,62,61,33,40,41,91,93,123,125,44,46]
def sign(c:UInt8)(s:List UInt8):Except Int (Int×List UInt8×Int×Nat):=
 match s with
 |e::_=>if [c,e]∈pairs then .ok (6,[c,e],0,2)else if c=59 then .ok (1,[59],0,1)else if c∈signs then .ok (6,[c],0,1)else .error 10
 |[]=>if c=59 then .ok (1,[59],0,1)else if c∈signs then .ok (6,[c],0,1)else .error 10
def one(c:UInt8)(s:List UInt8):Except Int (Int×List UInt8×Int×Nat):=
 if letter c then
  let w:=c::s.takeWhile λc=>letter c||digit c
  .ok (if isWord w then 3 else 2,w,0,w.length)
 else if digit c then
  match numGo 0 (c::s)with
  |some v=> .ok (4,c::s.takeWhile digit,v,1+(s.takeWhile digit).length)
  |none=> .error 12
 else if c=34 then
  match textGo 1 [] s with
  |some (w,n)=> .ok (5,w,0,n)
  |none=> .error 11
 else sign c s
def put(out:List Tok)(t:Tok):Except Flt (List Tok):=if 4000<=out.length then .error ⟨t.line,t.col,6⟩else .ok (out++[t])
def semi(line col:Int):Tok:=⟨1,[59],0,line,col⟩
def putEnd(out:List Tok)(line col:Int):Except Flt (List Tok):=if ends out then put out (semi line col)else .ok out
def scan:Nat->List UInt8->Int->Int->List Tok->Except Flt (List Tok)
 |_,[],line,col,out=>do
  let out <-putEnd out line col
  put out ⟨0,[],0,line,col⟩
 |0,_::_,_,_,_=> .error ⟨0,0,0⟩
 |n+1,c::s,line,col,out=>
  if c=10 then do
   let out <-putEnd out line col
   scan n s (line+1) 1 out
  else if c=32\/c=9\/c=13 then scan n s line (col+1) out
  else if c=47/\s.head?=some 47 then
   let w:=s.takeWhile λc=>c !=10
   scan n (s.drop w.length) line (col+1+w.length) out
  else match one c s with
   | .error e=> .error ⟨line,col,e⟩
   | .ok (kind,text,v,k)=>do
    let out <-put out ⟨kind,text,v,line,col⟩
    scan n (s.drop (k - 1)) line (col+k) out
def toks(s:List UInt8):Except Flt (List Tok):=if 16384<s.length then .error ⟨1,1,6⟩else scan s.length s 1 1 []
end Pt
end Go.Vs
end
