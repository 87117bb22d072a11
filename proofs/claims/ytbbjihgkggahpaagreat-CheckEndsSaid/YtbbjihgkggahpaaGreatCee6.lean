/-
  Own work. Texts of a proof,laid together; no condition.
-/
import Derived.Test.YtbbjihgkggahpaaGreatCee5
import Derived.Test.YtbbjihgkggahpaaGreatCee2
import Derived.Test.YtbbjihgkggahpaaGreatCee4
import Derived.Test.YtbbjihgkggahpaaGreatCee3
set_option linter.unusedSectionVars false
set_option linter.unusedVariables false
set_option linter.unusedSimpArgs false
set_option maxRecDepth 1000000
open Go.Vs.qa renaming ptr → u0, str → u5, agg → u6, bool → u7, nilSlice → u9, tuple → U0, und → U1
open Go.Vs.qg renaming pan → U2, ret → U3
open Go.IntKind (i64)
section
namespace Go.Vs
open Go.Proofs Ck
variable [GTab] {Z:Nat->Prop}
noncomputable section
section
variable{r:Nat}{s s':DS}{A B:qD}{F G:zr}{H:qc}{nx nx':Nat}{K:qr}{d:DT}
def Sw(Z:Nat->Prop)(A:qD)(F:zr)(nx:Nat)(K:qr){σ:Type}(M:σ->qc->Nat->Prop)(x:Ex σ):Prop:=
 qE x (λt=>∀H' nx',nx<=nx'->M t H' nx'->K (.ret (.tuple [])) H' nx') λf=>∀H' nx',nx<=nx'->SH Z A F H' nx'->K (.pan [(jQ f,false)]) H' nx'
def Jh{σ:Type}(f:σ->qu->Ex σ):σ->List qu->Ex σ
 |t,[]=> .ok t
 |t,n::ns=>Ck.ob (f t n) λt=>Jh f t ns
theorem qpd(call:zm)(lp:jl)(lv:zJ)(lvc:zI)(K:qr)(r g:Nat)(o:qa)(n i:Int)(l:List (qa×Bool))(H:qc)(nx:Nat)(rc:Option qw):
  qA PG call lp 18 (qd PG wb) [1,0] (qy PG lv lvc K (qP PG wb)) (.pan l) (qe .und [(2,.func (.func g) [.ptr r 0] []),(8,o),(9,iv n),(10,iv i)]) H nx [] rc=K (.pan l) H nx:=by kernel_rfl
theorem Wg{σ:Type}{M:σ->qD->qc->Nat->Prop}{f:σ->qu->Ex σ}{g:Nat}{ks:List DT}{w:qa}{t0:σ}
  (hw:Ent F λΓ=>q9 DT.cells 6 Γ w ks/\DFs Γ ks)
  (hM:∀t A H nx,M t A H nx->∃s,CK Z r s A F H nx/\∀A' H' nx',CK Z r s A' F H' nx'->M t A' H' nx')
  (hg:∀e∈ks,∀t A H nx K,Ent F (λΓ=>DF Γ e)->M t A H nx->Sw Z A F nx K (λt=>M t A) (f t e.er)->qo PG g [.ptr r 0,e.val] H nx K)
  (hc:∀v,zR PG (.func (.func g) [.ptr r 0] []) [v]=some (g,[.ptr r 0,v]))
  (h:M t0 A H nx) (ho:Sw Z A F nx K (λt=>M t A) (Jh f t0 (ers ks))):qo PG wb [.ptr r 0,w,.func (.func g) [.ptr r 0] []] H nx K:=by
 refine qo.of_body qp ?_
 refine Eq.mpr (qcv ..) ?_
 obtain⟨s0,h0,_⟩:=hM _ _ _ _ h
 obtain⟨Γ0,_,_,_,_,hF0,_⟩:=h0.ro
 have hlen:=(hw Γ0 hF0).1.len
 have hN:=(hw Γ0 hF0).1.few
 refine⟨_,hlen,?_⟩
 refine zD (P:=PG) (X:=Nat) (Y:=Unit) (λi=>qe .und [(2,.func (.func g) [.ptr r 0] []),(8,w),(9,iv (ks.length:Int)),(10,iv (i:Int))]) (λ_=>qe .und [])
  (λm i H1 n1=>nx<=n1/\m=ks.length - i/\i<=ks.length/\∃t,M t A H1 n1/\Sw Z A F nx K (λt=>M t A) (Jh f t (ers (ks.drop i))))
  (λid _ H1 n1=>id=0/\nx<=n1/\K (.ret (.tuple [])) H1 n1) ks.length 0 (qq.okay) ⟨Nat.le_refl _,rfl,Nat.zero_le _,t0,h,ho⟩ ?_ ?_
 ·rintro m i H1 n1 ⟨g1,rfl,hi,t,h1,hf⟩
  refine WpP.partK (ts:=[2,8,9,10]) qp ?_
  refine Eq.mpr (qqa ..) ?_
  obtain⟨s1,c1,b1⟩:=hM _ _ _ _ h1
  obtain⟨Γ1,s1',_,_,_,hF1,_⟩:=c1.ro
  refine qf.2 ⟨λhc'=> ?_,λhc'=> ?_⟩
  ·have hc':(i:Int)<(ks.length:Int):=of_decide_eq_true hc'
   have hil:i<ks.length:=by omega
   obtain⟨b,off,i1,i2,_⟩:=q9.rd (sz:=6) zV (hw Γ1 hF1).1 s1'.toZ hil
   have ew:i64.wrap ((i:Int)+1)=((i+1:Nat):Int):=by rw [qB (by omega) (by omega)];omega
   have hkd:DF Γ1 ks[i]:=(hw Γ1 hF1).2.get (List.getElem_mem hil)
   rw [List.drop_eq_getElem_cons hil]at hf;have hf:Sw Z A F nx K (λt=>M t A) (Ck.ob (f t ks[i].er) λt=>Jh f t (ers (ks.drop (i+1)))):=hf
   rw [ew];refine⟨by omega,_,i1,_,_,_,_,_,_,i2,c1.mk1 lR λH2 c2=>c2.all (vs:=ks[i].cells) rfl hkd.cell λH3 c3=>⟨_,_,_,_,_,_,c3.ldA .hd rfl,_,_,hc _,?_⟩⟩
   refine hg _ (List.getElem_mem hil) t _ H3 _ _ (λΓ hq=>(hw Γ hq).2.get (List.getElem_mem hil)) (b1 _ _ _ c3) ((qE.ob hf).mono (λt' _ hx=> ?_) λfl _ hx=> ?_)
   ·intro H4 n4 g4 h4;obtain⟨s4,c4,b4⟩:=hM _ _ _ _ h4
    exact qb.2 ⟨rfl,ks.length - (i+1),i+1,by omega,qq.refl _,by omega,rfl,by omega,t',b4 _ _ _ c4.drop,hx⟩
   ·intro H4 n4 g4 s4;refine ql.2 ?_
    show qA PG _ _ 18 _ _ _ _ _ _ _ _ _
    refine Eq.mpr (qpd ..) ?_
    exact hx H4 n4 (by omega) s4.drop
  ·have hc':¬(i:Int)<(ks.length:Int):=of_decide_eq_false hc'
   have:i=ks.length:=by omega
   subst this;rw [List.drop_length]at hf;have hf:∀H' nx',nx<=nx'->M t A H' nx'->K (.ret (.tuple [])) H' nx':=hf
   exact⟨rfl,(),qq.of_list (by exact trivial),rfl,g1,hf H1 n1 g1 h1⟩
 ·rintro id _ H1 n1 ⟨rfl,g1,hf⟩
  exact hf
end
section
variable{r:Nat}{s s':DS}{A B:qD}{F G:zr}{H:qc}{nx nx':Nat}{K:qr}{d:DT}{k:qc->Prop}{Γ:GH}
theorem CK.set{j:Nat}{v:qa}(s':DS)(h:CK Z r s A F H nx)(hj:j<12)(hv:qZ v=true)(he:s.cells.set j v=s'.cells)
  (ho:∀Γ,s.ok Γ->s'.ok Γ) (hK:∀H',CK Z r s' A F H' nx->k H') (h1:s'.tb=s.tb:=by rfl) (h2:s'.T=s.T:=by rfl) (h3:s'.rest A=s.rest A:=by rfl):∃H1,stC H (.ptr r j) [v]=some H1/\k H1:=by
 refine SH.one (b:=r) (j:=j) h .hd (by simp [DS.cells];omega) hv λH' h'=>hK H' (CK.as h' ?_ ho)
 rw [he];show(r,s'.cells)::(s.tb,(s.T.map DTy.v).flatMap tyC)::s.rest A=(r,s'.cells)::(s'.tb,(s'.T.map DTy.v).flatMap tyC)::s'.rest A
 rw [h1,h2,h3]
theorem CkV.vars(hv:CkV Γ r s.sv)(hr:Γ r=some s.cells):qm5 Γ s.vw s.vs:=by
 obtain⟨wt,wf,wd,wn,wv,pw,hc,_,_,hV⟩:=hv
 rw [hr]at hc
 injection hc with hc
 injection hc with _ hc
 injection hc with _ hc
 injection hc with _ hc
 injection hc with _ hc
 injection hc with hc _
 rw [hc];exact hV
theorem CK.addVar{v:Var}(h:CK Z r s A F H nx)(hN:s.vs.length<1000):
  ∃H',z3 H nx 3 32 s.vw 1 (vT v)=some (.slice nx 0 (s.vs.length+1) 3 false,H',nx+1)/\
   ∃H'',stC H' (.ptr r 4) [.slice nx 0 (s.vs.length+1) 3 false]=some H''/\CK Z r {s with vb:=some (nx,[]),vs:=s.vs++[v]} A F H'' (nx+1):=by
 obtain⟨Γ0,ho0,_⟩:=h.okF
 have hv0:=ho0.v0
 have key:∃H',z3 H nx 3 32 s.vw 1 (vT v)=some (.slice nx 0 (s.vs.length+1) 3 false,H',nx+1)/\SH Z ((nx,s.vs.flatMap vT++vT v)::(r,s.cells)::(s.tb,(s.T.map DTy.v).flatMap tyC)::(zc sgC s.fb s.fs++(s.T.flatMap DTy.rows++A))) (s.ok::F) H' (nx+1):=by
  have p:(s.own r A).Perm (s.vrow++((r,s.cells)::(s.tb,(s.T.map DTy.v).flatMap tyC)::(zc sgC s.fb s.fs++(s.T.flatMap DTy.rows++A)))):=by
   show((r,s.cells)::(s.tb,(s.T.map DTy.v).flatMap tyC)::(zc sgC s.fb s.fs++(s.vrow++(s.T.flatMap DTy.rows++A)))).Perm _
   have e1:(zc sgC s.fb s.fs++(s.vrow++(s.T.flatMap DTy.rows++A))).Perm (s.vrow++(zc sgC s.fb s.fs++(s.T.flatMap DTy.rows++A))):=List.perm_append_comm_assoc _ _ _
   exact((e1.cons _).cons _).trans ((List.perm_middle.symm.cons _).trans List.perm_middle.symm)
  have h1:=SH.perm p h
  unfold DS.vrow at h1;unfold DS.vw;cases hb:s.vb with
  |none=>
   rw [hb]at h1;have e:=hv0 hb
   obtain⟨H',e1,e2⟩:=SH.appNil (esz:=3) (ebytes:=32) (k:=1) (new:=vT v) h1 rfl (by omega) (by omega) (by omega)
   refine⟨H',?_,?_⟩
   ·rw [e];exact e1
   ·rw [e];exact e2
  |some x=>
   obtain⟨b,j⟩:=x
   rw [hb]at h1;have hl:(s.vs.flatMap vT).length=s.vs.length*3:=zY (c:=vT) (sz:=3) λ_=>rfl
   obtain⟨H',e1,e2⟩:=SH.appW (esz:=3) (ebytes:=32) (k:=1) (new:=vT v) (len:=s.vs.length) h1 (by rw [List.length_append];omega) rfl (by omega) (by omega) (by omega)
   refine⟨H',e1,?_⟩
   rw [List.take_left' hl]at e2;exact e2
 obtain⟨H',e1,e2⟩:=key
 refine⟨H',e1,?_⟩
 obtain⟨H'',e3,e4⟩:=SH.st (off:=4) (vs:=[.slice nx 0 (s.vs.length+1) 3 false]) e2 (.tl .hd) (by simp [DS.cells]) rfl
 refine⟨H'',e3,?_⟩
 have e5:jw s.cells 4 [.slice nx 0 (s.vs.length+1) 3 false]=DS.cells {s with vb:=some (nx,[]),vs:=s.vs++[v]}:=by
  unfold DS.cells;simp [jw,DS.vw]
 rw [e5]at e4;have p2:((nx,s.vs.flatMap vT++vT v)::(r,DS.cells {s with vb:=some (nx,[]),vs:=s.vs++[v]})::(s.tb,(s.T.map DTy.v).flatMap tyC)::(zc sgC s.fb s.fs++(s.T.flatMap DTy.rows++A))).Perm (DS.own {s with vb:=some (nx,[]),vs:=s.vs++[v]} r A):=by
  show List.Perm _ ((r,DS.cells {s with vb:=some (nx,[]),vs:=s.vs++[v]})::(s.tb,(s.T.map DTy.v).flatMap tyC)::(zc sgC s.fb s.fs++([(nx,(s.vs++[v]).flatMap vT++[])]++(s.T.flatMap DTy.rows++A))))
  have e6:(s.vs++[v]).flatMap vT++[]=s.vs.flatMap vT++vT v:=by simp
  rw [e6];exact(List.Perm.swap _ _ _).trans (((List.Perm.swap _ _ _).trans (List.perm_middle.symm.cons _)).cons _)
 refine CK.as (SH.perm p2 e4) rfl λΓ ho=>⟨ho.ty,ho.fs,ho.fw,ho.tN,ho.fN,?_,(λh=>nomatch h),ho.dw,ho.nw⟩
 show(s.vs++[v]).length<=1000
 rw [List.length_append];simp;omega
def DS.st(s:DS):St:=⟨s.sv.T,s.vs,s.many⟩
def Chg(s s':DS)(S:St):Prop:=∃tb L vb,s'={s with tb:=tb,T:=s.T++L,vb:=vb,vs:=S.vs,many:=S.many}/\(s.T++L).map (·.t)=S.T
theorem Chg.refl:Chg s s s.st:=⟨s.tb,[],s.vb,by simp [DS.st],by simp [DS.st,DS.sv]⟩
theorem Chg.trans{s1 s2 s3:DS}{S1 S2:St}(h:Chg s1 s2 S1)(h':Chg s2 s3 S2):Chg s1 s3 S2:=by
 obtain⟨b,L,v,rfl,_⟩:=h
 obtain⟨c,M,w,rfl,e⟩:=h'
 exact⟨c,L++M,w,by simp [List.append_assoc],by simpa [List.append_assoc]using e⟩
theorem jC.chg{T:List Ty}(h:jC s s' T):Chg s s' ⟨T,s.vs,s.many⟩:=by
 obtain⟨b,L,rfl,e⟩:=h
 exact⟨b,L,s.vb,rfl,e⟩
theorem Chg.st{S:St}(h:Chg s s' S):s'.st=S:=by obtain⟨b,L,v,rfl,e⟩:=h;unfold DS.st DS.sv;rw [e]
def Cw(Z:Nat->Prop)(r:Nat)(s:DS)(A:qD)(F:zr)(nx:Nat)(K:qr)(x:Ex St):Prop:=
 qE x (λS=>∀s' H' nx',nx<=nx'->Chg s s' S->CK Z r s' A F H' nx'->K (.ret (.tuple [])) H' nx') λf=>∀H' nx',nx<=nx'->SH Z A F H' nx'->K (.pan [(jQ f,false)]) H' nx'
theorem qpk(call:zm)(lp:jl)(lv:zJ)(lvc:zI)(K:qr)(r q:Nat)(nm:Bs)(o:qa)(t n i:Int)(l:List (qa×Bool))(H:qc)(nx:Nat)(rc:Option qw):
  qA PG call lp 67 (qd PG zU) [1,0,1,0] (qy PG lv lvc K (qP PG zU)) (.pan l) (qe .und [(0,.ptr r 0),(2,.str nm),(3,iv t),(5,.ptr q 0),(13,o),(14,iv n),(15,iv i)]) H nx [] rc=K (.pan l) H nx:=by kernel_rfl
theorem qjw(v:Var):qt (vT v)=true:=rfl
theorem Vu{nm:Bs}{t:Nat}(h:CK Z r s A F H nx)(hvm:s.vs.length<=s.many)(ho:Cw Z r s A F nx K (Ck.declare s.st s.deep d.er nm t)):qo PG zU [.ptr r 0,d.val,.str nm,iv t] H nx K:=by
 refine qo.of_body qp ?_
 refine Eq.mpr (WV ..) ?_
 unfold Ck.declare at ho;have ho:Cw Z r s A F nx K (Ck.need (s.vs.all λv=>decide (v.deep≠s.deep\/v.name≠nm)) d.er 16 (Ck.need (decide (s.many<40)) d.er 18 (.ok ⟨s.sv.T,s.vs++[⟨nm,t,s.deep⟩],s.many+1⟩))):=ho
 generalize hp:(λv:Var=>decide (v.deep≠s.deep\/v.name≠nm))=p at ho
 refine h.mkN lR λH0 h0=> ?_
 have hlen:zw s.vw=some s.vs.length:=by
  obtain⟨Γ,_,hv,hr,_⟩:=h0.ro
  exact(hv.vars hr).len
 have hN:s.vs.length<=1000:=let⟨_,ho,_⟩:=h0.okF;ho.vN
 refine⟨rfl,_,rfl,_,h0.cell 4,_,hlen,?_⟩
 refine zD (P:=PG) (X:=Nat) (Y:=Unit) (λi=>qe .und [(0,.ptr r 0),(2,.str nm),(3,iv t),(5,.ptr nx 0),(13,s.vw),(14,iv (s.vs.length:Int)),(15,iv (i:Int))]) (λ_=>qe .und [(0,.ptr r 0),(2,.str nm),(3,iv t),(5,.ptr nx 0)])
  (λm i H1 n1=>nx+1<=n1/\m=s.vs.length - i/\i<=s.vs.length/\CK Z r s ((nx,d.cells)::A) F H1 n1/\s.vs.all p=(s.vs.drop i).all p)
  (λid _ H1 n1=>id=0/\nx+1<=n1/\CK Z r s ((nx,d.cells)::A) F H1 n1/\s.vs.all p=true) s.vs.length 0 (qq.okay) ⟨Nat.le_refl _,rfl,Nat.zero_le _,h0,rfl⟩ ?_ ?_
 ·rintro m i H1 n1 ⟨g1,rfl,hi,c1,hf⟩
  refine WpP.partK (ts:=[0,2,3,5,13,14,15]) qp ?_
  refine Eq.mpr (qp0 ..) ?_
  obtain⟨Γ1,s1,hv1,hr1,_,_,_,back1⟩:=c1.ro
  refine qf.2 ⟨λhc=> ?_,λhc=> ?_⟩
  ·have hc:(i:Int)<(s.vs.length:Int):=of_decide_eq_true hc
   have hil:i<s.vs.length:=by omega
   obtain⟨b,off,i1,i2,_⟩:=q9.rd (sz:=3) (λ_=>rfl) (hv1.vars hr1) s1.toZ hil
   have ew:i64.wrap ((i:Int)+1)=((i+1:Nat):Int):=by rw [qB (by omega) (by omega)];omega
   rw [List.drop_eq_getElem_cons hil,List.all_cons]at hf;rw [ew];refine⟨by omega,_,i1,_,_,_,i2,c1.mk1 lR λH2 c2=>c2.all (vs:=vT s.vs[i]) rfl (qjw _) λH3 c3=>⟨_,rfl,_,c3.ld1 .hd 2,rfl,_,rfl,_,c3.cell 6,?_⟩⟩
   have d7:ldN H3 6 (.ptr nx 0)=some (.agg [iv d.kd,.str d.nm,iv d.nn,iv d.li,iv d.co,d.kw]):=c3.ldA (.tl .hd) rfl
   have fin (X:Bool) (hX:X=p s.vs[i]) (Q:List (qa×Bool)->qc->Nat->Prop) (hQ:∀l H n,K (.pan l) H n->Q l H n):qo PG qh [.ptr r 0,.bool X,d.val,iv 16] H3 (n1+1+16) λe H i'=>qj e (λ_=>True/\(([]:Dfs)=[]/\∃m' x',m'<s.vs.length - i/\qq (qe .und [(0,.ptr r 0),(2,.str nm),(3,iv t),(5,.ptr nx 0),(13,s.vw),(14,iv (s.vs.length:Int)),(15,iv ((x':Nat):Int))]) (qe .und [(0,.ptr r 0),(2,.str nm),(3,iv t),(5,.ptr nx 0),(13,s.vw),(14,iv (s.vs.length:Int)),(15,iv ((i+1:Nat):Int))])/\nx+1<=i'/\m'=s.vs.length - x'/\x'<=s.vs.length/\CK Z r s ((nx,d.cells)::A) F H i'/\s.vs.all p=(s.vs.drop x').all p)) λl=>Q l H i':=by
    subst hX;obtain⟨Γ3,s3,_,_,_,_,_,back3⟩:=c3.ro
    refine zB (s3.more (by omega)) (λhb H4 n4 g4 s4=>qb.2 ⟨trivial,rfl,s.vs.length - (i+1),i+1,by omega,qq.refl _,by omega,rfl,by omega,(back3 H4 n4 s4).drop,?_⟩) λhb H4 n4 g4 s4=>ql.2 ?_
    ·rw [hb,Bool.true_and]at hf;exact hf
    ·rw [hb,Bool.false_and]at hf;have:=qE.needF ho hf
     rw [zh]at this;exact hQ _ _ _ (this H4 n4 (by omega) (back3 H4 n4 s4).drop.drop.end_)
   have hQ (l:List (qa×Bool)) (H:qc) (n:Nat) (h:K (.pan l) H n):qA PG (qo PG) (LpP PG 67) 67 (qd PG zU) [1,0,1,0] (qy PG (z9 (qM PG)) (ze PG (qM PG)) K (qP PG zU)) (.pan l) (qe .und [(0,.ptr r 0),(2,.str nm),(3,iv t),(5,.ptr nx 0),(13,s.vw),(14,iv (s.vs.length:Int)),(15,iv (i:Int))]) H n [] none:=by
    refine Eq.mpr (qpk ..) h
   refine qf.2 ⟨λhd=>⟨_,_,_,_,_,_,d7,⟨⟨_,c3.ld1 .hd 2,rfl⟩,⟨_,c3.cell 6,rfl⟩,rfl,⟨_,_,_,_,_,_,d7,rfl⟩,trivial⟩,fin _ ?_ _ hQ⟩,λhd=>⟨_,rfl,_,c3.ld1 .hd 0,_,_,_,_,_,_,d7,⟨⟨_,c3.ld1 .hd 2,rfl⟩,⟨_,c3.cell 6,rfl⟩,⟨_,c3.ld1 .hd 0,rfl⟩,⟨_,_,_,_,_,_,d7,rfl⟩,trivial⟩,fin _ ?_ _ hQ⟩⟩
   ·rw [<-hp];have:s.vs[i].deep≠s.deep:=λx=>by rw [x]at hd;simp at hd
    exact(decide_eq_true (.inl this)).symm
   ·rw [<-hp];have e1:s.vs[i].deep=s.deep:=Int.ofNat.inj (by simpa using hd)
    rw [qiw,Bool.eq_iff_iff];simp [e1]
  ·have hc:¬(i:Int)<(s.vs.length:Int):=of_decide_eq_false hc
   have:i=s.vs.length:=by omega
   subst this;rw [List.drop_length]at hf;exact⟨rfl,(),qq.okay,rfl,g1,c1,hf⟩
 ·rintro id _ H1 n1 ⟨rfl,g1,c1,hf⟩
  refine Eq.mpr (qoc ..) ?_
  have ho:=qE.needT ho hf
  obtain⟨Γ1,s1,_,_,_,_,_,back1⟩:=c1.ro
  refine⟨rfl,_,rfl,_,c1.cell 5,_,_,_,_,_,_,c1.ldA .hd rfl,⟨⟨_,c1.cell 5,rfl⟩,⟨_,_,_,_,_,_,c1.ldA .hd rfl,rfl⟩,trivial⟩,zB (s1.more (by omega)) (λhb H2 n2 g2 s2=>qb.2 ?_) λhb H2 n2 g2 s2=>ql.2 ?_⟩
  ·have h40:s.many<40:=by
    have:(s.many:Int)<40:=of_decide_eq_true hb
    omega
   have ho:=qE.needT ho (decide_eq_true h40)
   have c2:=back1 H2 n2 s2
   have ew:i64.wrap ((s.many:Int)+1)=((s.many+1:Nat):Int):=by rw [qB (by omega) (by omega)];omega
   refine⟨trivial,rfl,_,rfl,_,c2.cell 5,rfl,_,rfl,rfl,?_⟩
   rw [ew];refine c2.set (j:=5) {s with many:=s.many+1} (by omega) rfl rfl (λΓ o=>⟨o.ty,o.fs,o.fw,o.tN,o.fN,o.vN,o.v0,o.dw,o.nw⟩) λH3 c3=>⟨rfl,_,rfl,_,c3.cell 4,rfl,_,rfl,_,c3.cell 6,rfl,rfl,rfl,c3.mk1 (cs:=vT ⟨nm,t,s.deep⟩) (by omega) λH4 c4=>⟨⟨⟨_,c4.cell 4,rfl⟩,⟨_,c4.cell 6,rfl⟩,trivial⟩,_,_,SH.srcO (sz:=3) c4 (CK.ownA .hd) (by simp [vT]),rfl,?_⟩⟩
   obtain⟨H5,e5,H6,e6,c6⟩:=(c4.drop.drop.more (nx':=n2+17) (by omega)).addVar (v:=⟨nm,t,s.deep⟩) (by show s.vs.length<1000;omega)
   exact⟨_,H5,_,e5,rfl,_,rfl,trivial,rfl,H6,e6,trivial,ho _ H6 _ (by omega) ⟨s.tb,[],some (n2+17,[]),by simp,by simp [DS.sv]⟩ c6⟩
  ·have:=qE.needF ho (decide_eq_false (λx:s.many<40=>of_decide_eq_false hb (by show(s.many:Int)<40;omega)))
   rw [zh]at this;exact this H2 n2 (by omega) (back1 H2 n2 s2).drop.end_
end
section
variable{r:Nat}{s s':DS}{A B:qD}{F G:zr}{H:qc}{nx nx' n:Nat}{K:qr}{d x:DT}{k:qc->Prop}{Γ:GH}
theorem CK.need{X:Bool}{e:Int}(h:CK Z r s A F H n)(hT:X=true->∀H' n',n<=n'->CK Z r s A F H' n'->K (.ret (.tuple [])) H' n')
  (hF:X=false->∀H' n',n<=n'->CK Z r s A F H' n'->K (.pan [(jQ ⟨d.li,d.co,e⟩,false)]) H' n'):qo PG qh [.ptr r 0,.bool X,d.val,iv e] H n K:=by
 obtain⟨Γ,s0,_,_,_,_,_,back⟩:=h.ro
 exact zB s0 (λhb H1 n1 g1 s1=>hT hb H1 n1 g1 (back H1 n1 s1)) λhb H1 n1 g1 s1=>hF hb H1 n1 g1 (back H1 n1 s1)
theorem CK.fits{a b:Nat}(ha:a<s.sv.T.length)(hb:b<s.sv.T.length)(h:CK Z r s A F H n)(hT:Ck.fits s.sv.T a b=true->∀H' n',n<=n'->CK Z r s A F H' n'->K (.ret (.tuple [])) H' n')
  (hF:Ck.fits s.sv.T a b=false->∀H' n',n<=n'->CK Z r s A F H' n'->K (.pan [(jQ ⟨d.li,d.co,17⟩,false)]) H' n'):qo PG jY [.ptr r 0,d.val,iv a,iv b] H n K:=by
 obtain⟨Γ,s0,hv,_,_,_,_,back⟩:=h.ro
 exact qc9 (S:=s.sv) ha hb s0 hv (λhb H1 n1 g1 s1=>hT hb H1 n1 g1 (back H1 n1 s1)) λhb H1 n1 g1 s1=>hF hb H1 n1 g1 (back H1 n1 s1)
def qbu(fs:List CSg)(rs:Nat)(S:St)(me x:qu):Ex St:=
 if kh x=38 then Ck.need (decide (rs=0)) me 17 (.ok S)else Ck.ob (Ck.expr fs S.vs S.T x) λp=>Ck.need (decide (rs≠0)) x 17 (Ck.need (Ck.fits p.2 p.1 rs) x 17 (.ok ⟨p.2,S.vs,S.many⟩))
theorem qq1(hx:Ent F λΓ=>DF Γ x)(hg:zK s.sv.T s.sv.fs)(hgv:kK s.sv.T s.sv.vs)(hr:s.fn.result<s.sv.T.length)(h:CK Z r s A F H nx)(ho:Cw Z r s A F nx K (qbu s.sv.fs s.fn.result s.st d.er x.er)):
  qo PG Xo [.ptr r 0,d.val,x.val] H nx K:=by
 refine qo.of_body qp ?_
 refine Eq.mpr (qen ..) ?_
 unfold qbu at ho;rw [kL]at ho;refine h.mkN lR λH0 h0=>h0.mkN lR λH1 h1=>⟨_,rfl,_,h1.ld1 .hd 0,qf.2 ⟨λh38=> ?_,λh38=> ?_⟩⟩
 ·rw [if_pos (of_decide_eq_true h38)]at ho;refine⟨rfl,_,rfl,_,rfl,_,h1.cell 11,_,_,_,_,_,_,h1.ldA (.tl .hd) rfl,⟨⟨_,h1.cell 11,rfl⟩,⟨_,_,_,_,_,_,h1.ldA (.tl .hd) rfl,rfl⟩,trivial⟩,(h1.more (by omega)).need (λhb H2 n2 g2 h2=>qb.2 ⟨trivial,?_⟩) λhb H2 n2 g2 h2=>ql.2 ?_⟩
  ·exact qE.needT ho (decide_eq_true (Int.ofNat.inj (of_decide_eq_true hb))) s H2 n2 (by omega) Chg.refl h2.drop.drop
  ·have:=qE.needF ho (decide_eq_false λe=>of_decide_eq_false hb (congrArg Int.ofNat e))
   rw [zh]at this;exact this H2 n2 (by omega) h2.drop.drop.end_
 ·rw [if_neg (of_decide_eq_false h38)]at ho;refine⟨_,_,_,_,_,_,h1.ldA .hd rfl,vq x hx hg hgv h1 ((qE.ob ho).mono (λp hp hy=> ?_) λf _ hy H2 n2 g2 s2=>ql.2 (hy H2 n2 (by omega) s2.drop.drop))⟩
  obtain⟨t,T1⟩:=p
  obtain⟨G1,L1,a1⟩:=kE _ hg hgv hp
  intro s2 H2 n2 g2 e2 h2;have eT:=e2.T
  subst eT;have hy:Cw Z r s A F nx K (Ck.need (decide (s.fn.result≠0)) x.er 17 (Ck.need (Ck.fits s2.sv.T t s.fn.result) x.er 17 (.ok ⟨s2.sv.T,s.vs,s.many⟩))):=hy
  have ef:s2.fn=s.fn:=by obtain⟨b,L,rfl,_⟩:=e2;rfl
  have c11 {H:qc} {n:Nat} {A':qD} (h:CK Z r s2 A' F H n):ld1 H (.ptr r 11)=some (iv s.fn.result):=by rw [<-ef];exact h.cell 11
  refine qb.2 ⟨_,rfl,rfl,_,rfl,_,rfl,_,c11 h2,_,_,_,_,_,_,h2.ldA .hd rfl,⟨⟨_,c11 h2,rfl⟩,⟨_,_,_,_,_,_,h2.ldA .hd rfl,rfl⟩,trivial⟩,(h2.more (by omega)).need (λhb H3 n3 g3 h3=>qb.2 ⟨trivial,_,_,_,_,_,_,h3.ldA .hd rfl,rfl,_,rfl,_,rfl,_,c11 h3,⟨⟨_,_,_,_,_,_,h3.ldA .hd rfl,rfl⟩,⟨_,c11 h3,rfl⟩,trivial⟩,?_⟩) λhb H3 n3 g3 h3=>ql.2 ?_⟩
  ·have hz:s.fn.result≠0:=λe=>by rw [e]at hb;simp at hb
   have hy:=qE.needT hy (decide_eq_true hz)
   refine(h3.more (by omega)).fits a1 (by omega) (λhb H4 n4 g4 h4=>qb.2 ⟨trivial,qE.needT hy hb s2 H4 n4 (by omega) e2.chg h4.drop.drop⟩) λhb H4 n4 g4 h4=>ql.2 ?_
   have:=qE.needF hy hb
   rw [zh]at this;exact this H4 n4 (by omega) h4.drop.drop.end_
  ·have hz:¬s.fn.result≠0:=λe=>by
    have:¬(s.fn.result:Int)=0:=by omega
    rw [decide_eq_false this]at hb;simp at hb
   have:=qE.needF hy (decide_eq_false hz)
   rw [zh]at this;exact this H3 n3 (by omega) h3.drop.drop.end_
end
mutual
def DT.ht:DT->Nat
 | .node _ _ _ _ _ _ ks=>1+hts ks
def hts:List DT->Nat
 |[]=>0
 |d::ds=>d.ht+hts ds
end
theorem qhl:∀{ks:List DT} {e:DT},e∈ks->e.ht<=hts ks
 |_::ks,e,h=>by
  unfold hts;rcases List.mem_cons.1 h with rfl|h
  ·omega
  ·have:=qhl h;omega
theorem ZY:∀{d e:DT},e∈d.kids->e.ht+1<=d.ht
 | .node _ _ _ _ _ _ ks,e,h=>by
  have:=qhl (ks:=ks) h
  show e.ht+1<=1+hts ks
  omega
section
variable{r:Nat}{s s':DS}{A B:qD}{F G:zr}{H:qc}{nx nx' n:Nat}{K:qr}{d x:DT}{k:qc->Prop}{Γ:GH}
def StP(Z:Nat->Prop)(d:DT):Prop:=∀{r:Nat} {s:DS} {A:qD} {F:zr} {H:qc} {nx:Nat} {K:qr},Ent F (λΓ=>DF Γ d)->Ck.Inv s.sv.fs s.st->s.fn.result<s.sv.T.length->s.deep+d.ht<=1000000000->s.loops+d.ht<=1000000000->CK Z r s A F H nx->
 Cw Z r s A F nx K (stmt s.sv.fs s.fn.result s.deep s.loops s.st d.er)->qo PG qO [.ptr r 0,d.val] H nx K
theorem Vo{fs:List CSg}{rs deep loops:Nat}:∀(ks:List qu) (S:St),Jh (λS t=>stmt fs rs deep loops S t) S ks=wJ fs rs deep loops S ks
 |[],S=>by rw [wJ];rfl
 |k::ks,S=>by
  rw [wJ];show Ck.ob (stmt fs rs deep loops S k) (λt=>Jh (λS t=>stmt fs rs deep loops S t) t ks)=_
  congr 1
  funext t
  exact Vo ks t
theorem qd0(fs:List CSg)(rs deep loops:Nat)(S:St)(d:DT):block fs rs deep loops S d.er=Ck.ob (wJ fs rs (deep+1) loops S (ers d.kids)) λS'=> .ok ⟨S'.T,S'.vs.take S.vs.length,S'.many⟩:=by rw [QQ,block]
theorem DS.cut{m:Nat}(hm:m<=s.vs.length)(h0:s.vb=none->s.vs=[]):∃w vb,ZL s.vw 3 0 (some m)=some w/\qZ w=true/\DS.vw {s with vb:=vb,vs:=s.vs.take m}=w/\DS.vrow {s with vb:=vb,vs:=s.vs.take m}=s.vrow/\(vb=none->s.vs.take m=[]):=by
 cases hb:s.vb with
 |none=>
  have e:=h0 hb
  have e0:m=0:=by rw [e]at hm;simpa using hm
  subst e0;refine⟨.nilSlice,none,?_,rfl,rfl,?_,λ_=>rfl⟩
  ·unfold DS.vw;rw [hb];rfl
  ·unfold DS.vrow;rw [hb]
 |some x=>
  obtain⟨b,j⟩:=x
  refine⟨.slice b 0 m 3 false,some (b,(s.vs.drop m).flatMap vT++j),?_,rfl,?_,?_,λh=>nomatch h⟩
  ·unfold DS.vw;rw [hb];show(match Nat.ble m s.vs.length,Nat.ble 0 m,Nat.beq 3 3 with
    |true,true,true=>some (qa.slice b (Nat.add 0 (Nat.mul 0 3)) (Nat.sub m 0) 3 (Bool.rec false false (Nat.beq m s.vs.length)))
    |_,_,_=>none)=_
   rw [Nat.ble_eq_true_of_le hm,Nat.ble_eq_true_of_le (Nat.zero_le m)];show some (qa.slice b 0 m 3 (Bool.rec false false (Nat.beq m s.vs.length)))=_
   cases Nat.beq m s.vs.length<;>rfl
  ·unfold DS.vw;show qa.slice b 0 (s.vs.take m).length 3 false=_
   rw [List.length_take,Nat.min_eq_left hm]
  ·unfold DS.vrow;rw [hb];show [(b,(s.vs.take m).flatMap vT++((s.vs.drop m).flatMap vT++j))]=[(b,s.vs.flatMap vT++j)]
   rw [<-List.append_assoc,<-List.flatMap_append,List.take_append_drop]
theorem qio(hd:Ent F λΓ=>DF Γ d)(hk:∀e∈d.kids,StP Z e)(hi:Ck.Inv s.sv.fs s.st)(hr:s.fn.result<s.sv.T.length)(hb1:s.deep+d.ht<=1000000000)(hb2:s.loops+d.ht<=1000000001)(h:CK Z r s A F H nx)
  (ho:Cw Z r s A F nx K (block s.sv.fs s.fn.result s.deep s.loops s.st d.er)) (hc:∀v,zR PG (.func (.func qO) [.ptr r 0] []) [v]=some (qO,[.ptr r 0,v])):qo PG kx [.ptr r 0,d.val] H nx K:=by
 refine qo.of_body qp ?_
 refine Eq.mpr (Y1 ..) ?_
 rw [qd0,<-Vo]at ho;have ew:i64.wrap ((s.deep:Int)+1)=((s.deep+1:Nat):Int):=by rw [qB (by omega) (by omega)];omega
 have ew2:i64.wrap (((s.deep+1:Nat):Int) - 1)=(s.deep:Int):=by rw [qB (by omega) (by omega)];omega
 refine h.mkN lR λH0 h0=> ?_
 have hlen:zw s.vw=some s.vs.length:=by
  obtain⟨Γ,_,hv,hr,_⟩:=h0.ro
  exact(hv.vars hr).len
 refine⟨rfl,_,rfl,_,h0.cell 6,rfl,_,rfl,rfl,?_⟩
 rw [ew];refine h0.set (j:=6) {s with deep:=s.deep+1} (by omega) rfl rfl (λΓ o=>⟨o.ty,o.fs,o.fw,o.tN,o.fN,o.vN,o.v0,o.dw,o.nw⟩) λH4 c4=>⟨rfl,_,rfl,_,c4.cell 4,_,hlen,_,rfl,_,c4.ld1 .hd 5,?_⟩
 refine Wg (σ:=St) (M:=λt A' H' n'=>Ck.Inv s.sv.fs t/\s.sv.T.length<=t.T.length/\s.vs.length<=t.vs.length/\∃s',Chg {s with deep:=s.deep+1} s' t/\CK Z r s' A' F H' n') (f:=λS t=>stmt s.sv.fs s.fn.result (s.deep+1) s.loops S t) (t0:=s.st) (g:=qO) (ks:=d.kids)
  (λΓ hq=>⟨(hd Γ hq).row,(hd Γ hq).kids⟩) (λt A' H' n' ⟨i,l1,l2,s',e,c⟩=>⟨s',c,λA'' H'' n'' c'=>⟨i,l1,l2,s',e,c'⟩⟩) ?_ hc ⟨hi,Nat.le_refl _,Nat.le_refl _,_,Chg.refl,c4⟩ ?_
 ·rintro e he t A' H' n' K' hde ⟨i,l1,l2,s',ec,c⟩ hs
  have hst:=ec.st
  have hfix:s'.sv.fs=s.sv.fs/\s'.fn=s.fn/\s'.deep=s.deep+1/\s'.loops=s.loops:=by obtain⟨b,L,v,rfl,_⟩:=ec;exact⟨rfl,rfl,rfl,rfl⟩
  obtain⟨f1,f2,f3,f4⟩:=hfix
  have hT:s'.sv.T=t.T:=by rw [<-hst];rfl
  have hh:=ZY he
  refine hk e he hde (by rw [f1,hst];exact i) (by rw [f2,hT];omega) (by rw [f3];omega) (by rw [f4];omega) c ?_
  rw [f1,f2,f3,f4,hst];refine qE.mono hs (λS' hS hx s2 H2 n2 g2 e2 c2=> ?_) λf _ hx=>hx
  have gg:=Vi e.er i hS
  exact hx H2 n2 g2 ⟨gg.1,Nat.le_trans l1 gg.2.1,Nat.le_trans l2 gg.2.2,s2,ec.trans e2,c2⟩
 ·refine qE.mono (qE.ob ho) (λS' _ hx=> ?_) λf _ hx H2 n2 g2 s2=>ql.2 (hx H2 n2 (by omega) s2.drop)
  rintro H2 n2 g2 ⟨i,l1,l2,s2,e2,c2⟩
  obtain⟨tb,L,vb,es,eT⟩:=e2
  have hx:∀s' H' nx',nx<=nx'->Chg s s' ⟨S'.T,S'.vs.take s.vs.length,S'.many⟩->CK Z r s' A F H' nx'->K (.ret (.tuple [])) H' nx':=hx
  have evs:s2.vs=S'.vs:=by rw [es]
  have edp:s2.deep=s.deep+1:=by rw [es]
  obtain⟨Γ2,o2,_⟩:=c2.okF
  obtain⟨w,vb',k1,k2,k3,k4,k5⟩:=s2.cut (m:=s.vs.length) (by rw [evs];exact l2) o2.v0
  refine qb.2 ⟨rfl,_,rfl,_,c2.cell 4,Int.natCast_nonneg _,w,k1,rfl,_,rfl,k2,?_⟩
  refine c2.set (j:=4) {s2 with vb:=vb',vs:=s2.vs.take s.vs.length} (by omega) k2 ?_ (λΓ o=>⟨o.ty,o.fs,o.fw,o.tN,o.fN,?_,k5,o.dw,o.nw⟩) (λH5 c5=>⟨rfl,_,rfl,_,c5.cell 6,rfl,_,rfl,rfl,?_⟩) rfl rfl ?_
  ·unfold DS.cells;rw [k3];rfl
  ·show(s2.vs.take _).length<=1000
   have:=o.vN
   rw [List.length_take];omega
  ·show∃H22,stC H5 (.ptr r 6) [iv (i64.wrap ((s2.deep:Int) - 1))]=some H22/\_
   rw [edp,ew2];refine c5.set (j:=6) {s2 with vb:=vb',vs:=s2.vs.take s.vs.length,deep:=s.deep} (by omega) rfl rfl (λΓ o=>⟨o.ty,o.fs,o.fw,o.tN,o.fN,o.vN,o.v0,o.dw,o.nw⟩) λH6 c6=> ?_
   refine hx _ H6 _ (by omega) ⟨tb,L,vb',?_,eT⟩ c6.drop
   rw [es]
  ·unfold DS.rest;rw [k4]
end
section
variable{r:Nat}{s s':DS}{A B:qD}{F G:zr}{H:qc}{nx nx' n:Nat}{K:qr}{d x y:DT}{k:qc->Prop}{Γ:GH}
def qe4(fs:List CSg)(S:St)(me x y:qu):Ex St:=
 Ck.ob (Ck.expr fs S.vs S.T x) λp=>
  Ck.ob (if kh x=32 then Ck.ob (Ck.expr fs S.vs p.2 (Q3 x 0)) λq=>Ck.need (decide (kindT q.2 q.1=6)) me 19 (.ok q.2)else Ck.need (decide (kh x=26)||decide (kh x=30)) me 19 (.ok p.2)) λT=>
  Ck.ob (Ck.expr fs S.vs T y) λq=>Ck.need (Ck.fits q.2 q.1 p.1) y 17 (.ok ⟨q.2,S.vs,S.many⟩)
theorem qpj(hx:Ent F λΓ=>DF Γ x)(hy:Ent F λΓ=>DF Γ y)(hg:zK s.sv.T s.sv.fs)(hgv:kK s.sv.T s.sv.vs)(h:CK Z r s A F H nx)(ho:Cw Z r s A F nx K (qe4 s.sv.fs s.st d.er x.er y.er)):
  qo PG VB [.ptr r 0,d.val,x.val,y.val] H nx K:=by
 refine qo.of_body qp ?_
 refine Eq.mpr (Xy ..) ?_
 unfold qe4 at ho;simp only [kL,yd]at ho
 refine h.mkN lR λH0 h0=>h0.mkN lR λH1 h1=>h1.mkN lR λH2 h2=>⟨_,_,_,_,_,_,h2.ldA (.tl .hd) rfl,vq x hx hg hgv h2 ((qE.ob ho).mono (λp hp hz=> ?_) λf _ hz H3 n3 g3 s3=>ql.2 (hz H3 n3 (by omega) s3.drop.drop.drop))⟩
 obtain⟨t,T1⟩:=p
 obtain⟨G1,L1,a1⟩:=kE _ hg hgv hp
 intro s1 H1' n1 g1 e1 c1;have eT:=e1.T
 subst eT;have G1:zK s1.sv.T s1.sv.fs:=by rw [e1.fs];exact G1
 have V1:kK s1.sv.T s1.sv.vs:=by rw [e1.vs];exact hgv.mono L1
 have hz:Cw Z r s A F nx K (Ck.ob (if x.kd=32 then Ck.ob (Ck.expr s.sv.fs s.sv.vs s1.sv.T (qQ x.kids 0).er) λq=>Ck.need (decide (kindT q.2 q.1=6)) d.er 19 (.ok q.2)else Ck.need (decide (x.kd=26)||decide (x.kd=30)) d.er 19 (.ok s1.sv.T)) λT=>
  Ck.ob (Ck.expr s.sv.fs s.sv.vs T y.er) λq=>Ck.need (Ck.fits q.2 q.1 t) y.er 17 (.ok ⟨q.2,s.vs,s.many⟩)):=hz
 have tailK:∀(s3:DS) (H3:qc) (n3:Nat),nx<=n3->jC s s3 s3.sv.T->zK s3.sv.T s3.sv.fs->kK s3.sv.T s3.sv.vs->t<s3.sv.T.length->CK Z r s3 ((nx+1+1,y.cells)::(nx+1,x.cells)::(nx,d.cells)::A) F H3 n3->
   Cw Z r s A F nx K (Ck.ob (Ck.expr s.sv.fs s.sv.vs s3.sv.T y.er) λq=>Ck.need (Ck.fits q.2 q.1 t) y.er 17 (.ok ⟨q.2,s.vs,s.many⟩))->
   qo PG zt [.ptr r 0,y.val] H3 (n3+7) λe H i=>qj e (λv=>∃m:Int,v=iv m/\((∃n83 s84 n85 n86 n87 v88,ldN H 6 (u0 (nx+1+1) 0)=some (u6 [iv n83,u5 s84,iv n85,iv n86,iv n87,v88])/\u6 [iv n83,u5 s84,iv n85,iv n86,iv n87,v88]=y.val)/\True)/\
    qo PG jY [.ptr r 0,y.val,iv m,iv t] H i λe H i=>qj e (λ_=>True/\K (.ret (.tuple [])) H i) λl=>K (.pan l) H i) λl=>K (.pan l) H i:=by
  intro s3 H3 n3 g3 e3 G3 V3 a3 c3 hw;rw [<-e3.fs,<-e3.vs]at hw;refine vq y hy G3 V3 (c3.more (by omega)) ((qE.ob hw).mono (λq hq hu=> ?_) λf _ hu H4 n4 g4 s4=>ql.2 (hu H4 n4 (by omega) s4.drop.drop.drop))
  obtain⟨u,T4⟩:=q
  obtain⟨G4,L4,a4⟩:=kE _ G3 V3 hq
  intro s4 H4 n4 g4 e4 c4;have eT:=e4.T
  subst eT;have hu:Cw Z r s A F nx K (Ck.need (Ck.fits s4.sv.T u t) y.er 17 (.ok ⟨s4.sv.T,s.vs,s.many⟩)):=hu
  refine qb.2 ⟨_,rfl,⟨⟨_,_,_,_,_,_,c4.ldA .hd rfl,rfl⟩,trivial⟩,c4.fits a4 (by omega) (λhb H5 n5 g5 c5=>qb.2 ⟨trivial,qE.needT hu hb s4 H5 n5 (by omega) (e3.trans e4).chg c5.drop.drop.drop⟩) λhb H5 n5 g5 c5=>ql.2 ?_⟩
  have:=qE.needF hu hb
  rw [zh]at this;exact this H5 n5 (by omega) c5.drop.drop.drop.end_
 refine qb.2 ⟨_,rfl,_,rfl,_,c1.ld1 (.tl .hd) 0,qf.2 ⟨λh26=>⟨_,rfl,_,c1.ld1 (.tl .hd) 0,?_⟩,λh26=>⟨_,rfl,_,c1.ld1 (.tl .hd) 0,_,rfl,_,c1.ld1 (.tl .hd) 0,qf.2 ⟨λh32=> ?_,λh32=> ?_⟩⟩⟩⟩
 ·have k26:x.kd=26:=of_decide_eq_true h26
  rw [if_neg (by rw [k26];decide),decide_eq_true k26]at hz
  have hz:Cw Z r s A F nx K (Ck.ob (Ck.expr s.sv.fs s.sv.vs s1.sv.T y.er) λq=>Ck.need (Ck.fits q.2 q.1 t) y.er 17 (.ok ⟨q.2,s.vs,s.many⟩)):=hz
  refine ifF (decide_eq_false (by rw [k26];decide)) ⟨_,_,_,_,_,_,c1.ldA (.tl (.tl .hd)) rfl,c1.need (λ_ H3 n3 g3 c3=>qb.2 ⟨_,_,_,_,_,_,c3.ldA .hd rfl,_,_,_,_,_,_,c3.ldA .hd rfl,⟨⟨_,_,_,_,_,_,c3.ldA .hd rfl,rfl⟩,⟨_,_,_,_,_,_,c3.ldA .hd rfl,rfl⟩,trivial⟩,?_⟩) λhb=>nomatch hb⟩
  exact tailK s1 H3 n3 (by omega) e1 G1 V1 a1 c3 hz
 ·have k32:x.kd=32:=of_decide_eq_true h32
  rw [if_pos k32,Zs]at hz;obtain⟨Γ1,s1',hv1,hr1,_,hF1,_,back1⟩:=c1.ro
  refine⟨_,_,_,_,_,_,c1.ldA (.tl .hd) rfl,jf (i:=0) s1' (hx Γ1 hF1) λH3 n3 g3 s3=>qb.2 ⟨_,_,_,_,_,_,rfl,?_⟩⟩
  rw [<-e1.fs,<-e1.vs]at hz;refine vq _ (λΓ hq=>(hx Γ hq).kids.kid) G1 V1 (back1 H3 n3 s3) ((qE.ob hz).mono (λq hq hu=> ?_) λf _ hu H4 n4 g4 s4=>ql.2 (hu H4 n4 (by omega) s4.drop.drop.drop))
  obtain⟨b,T4⟩:=q
  obtain⟨G4,L4,a4⟩:=kE _ G1 V1 hq
  intro s4 H4 n4 g4 e4 c4;have eT:=e4.T
  subst eT;have G4:zK s4.sv.T s4.sv.fs:=by rw [e4.fs];exact G4
  have V4:kK s4.sv.T s4.sv.vs:=by rw [e4.vs];exact V1.mono L4
  rw [e1.fs,e1.vs]at hu;have hu:Cw Z r s A F nx K (Ck.ob (Ck.need (decide (kindT s4.sv.T b=6)) d.er 19 (.ok s4.sv.T)) λT=>Ck.ob (Ck.expr s.sv.fs s.sv.vs T y.er) λq=>Ck.need (Ck.fits q.2 q.1 t) y.er 17 (.ok ⟨q.2,s.vs,s.many⟩)):=hu
  obtain⟨Γ4,s4',hv4,hr4,_,hF4,_,back4⟩:=c4.ro
  obtain⟨bt,ot,_,_,_,_,it,rt⟩:=(hv4.ty hr4).rdA (Z:=Z) a4
  have t0:ld1 H4 (.ptr bt (ot+0))=some (iv (ty s4.sv.T b).kind):=(rt H4 n4 s4'.toZ).2 0 (by omega)
  refine qb.2 ⟨_,rfl,rfl,_,rfl,_,c4.cell 0,by omega,_,it,_,rfl,_,t0,_,_,_,_,_,_,c4.ldA (.tl (.tl .hd)) rfl,c4.need (λhb H5 n5 g5 c5=>qb.2 ⟨_,_,_,_,_,_,c5.ldA .hd rfl,_,_,_,_,_,_,c5.ldA .hd rfl,⟨⟨_,_,_,_,_,_,c5.ldA .hd rfl,rfl⟩,⟨_,_,_,_,_,_,c5.ldA .hd rfl,rfl⟩,trivial⟩,?_⟩) λhb H5 n5 g5 c5=>ql.2 ?_⟩
  ·rw [show decide (kindT s4.sv.T b=6)=true from decide_eq_true (Int.ofNat.inj (of_decide_eq_true hb))]at hu;exact tailK s4 H5 n5 (by omega) (e1.trans e4) G4 V4 (by omega) c5 hu
  ·rw [decide_eq_false (λe:kindT s4.sv.T b=6=>of_decide_eq_false hb (congrArg Int.ofNat e))]at hu
   have hu:∀H' nx',nx<=nx'->SH Z A F H' nx'->K (.pan [(jQ (WG 19 d.er),false)]) H' nx':=hu
   rw [zh]at hu;exact hu H5 n5 (by omega) c5.drop.drop.drop.end_
 ·have k32:¬x.kd=32:=of_decide_eq_false h32
  have k26:¬x.kd=26:=of_decide_eq_false h26
  rw [if_neg k32,decide_eq_false k26,Bool.false_or]at hz;refine⟨_,_,_,_,_,_,c1.ldA (.tl (.tl .hd)) rfl,c1.need (λhb H3 n3 g3 c3=>qb.2 ⟨_,_,_,_,_,_,c3.ldA .hd rfl,_,_,_,_,_,_,c3.ldA .hd rfl,⟨⟨_,_,_,_,_,_,c3.ldA .hd rfl,rfl⟩,⟨_,_,_,_,_,_,c3.ldA .hd rfl,rfl⟩,trivial⟩,?_⟩) λhb H3 n3 g3 c3=>ql.2 ?_⟩
  ·rw [hb]at hz;exact tailK s1 H3 n3 (by omega) e1 G1 V1 a1 c3 hz
  ·rw [hb]at hz;have hz:∀H' nx',nx<=nx'->SH Z A F H' nx'->K (.pan [(jQ (WG 19 d.er),false)]) H' nx':=hz
   rw [zh]at hz;exact hz H3 n3 (by omega) c3.drop.drop.drop.end_
end
abbrev stE(r q x y:Nat):Env:=qe .und [(0,.ptr r 0),(3,.ptr q 0),(4,.ptr x 0),(5,.ptr y 0)]
section
variable{r q xb yb:Nat}{s:DS}{A A':qD}{F:zr}{H:qc}{nx n:Nat}{K:qr}{K0:KP}{d x y:DT}
theorem CK.selA(h:CK Z r s A' F H n)(hs:A.Sublist A'):CK Z r s A F H n:=by
 refine SH.sel ?_ h
 exact .cons_cons _ (.cons_cons _ (List.Sublist.append (.refl _) (List.Sublist.append (.refl _) (List.Sublist.append (.refl _) hs))))
structure StK(K:qr)(K0:KP)(r q xb yb:Nat):Prop where
 nm:∀H n,K (.ret (.tuple [])) H n->K0 .normal (stE r q xb yb) H n [] none
 pn:∀l H n,K (.pan l) H n->K0 (.pan l) (stE r q xb yb) H n [] none
theorem qvr(k:StK K K0 r q xb yb)(hs:A.Sublist A')(c:CK Z r s A' F H n)(g:nx<=n)(hq:Own A' q d.cells)
  (hb:∀K',Cw Z r s A' F n K' (block s.sv.fs s.fn.result s.deep s.loops s.st d.er)->qo PG kx [.ptr r 0,d.val] H n K')
  (ho:Cw Z r s A F nx K (block s.sv.fs s.fn.result s.deep s.loops s.st d.er)):WpP PG 177 (qi (qd PG qO) [1,1,1,0,1,0]) (stE r q xb yb) H n [] K0:=by
 refine WpP.partK (ts:=[0,3,4,5]) qp ?_
 refine Eq.mpr (qo0 ..) ?_
 exact⟨_,_,_,_,_,_,c.ldA hq rfl,hb _ (ho.mono (λS _ hx s2 H2 n2 g2 e2 c2=>qb.2 (k.nm _ _ (hx s2 H2 n2 (by omega) e2 (c2.selA hs)))) λf _ hx H2 n2 g2 s2=>ql.2 (k.pn _ _ _ (hx H2 n2 (by omega) (SH.sel hs s2))))⟩
theorem qvx(k:StK K K0 r q xb yb)(hs:A.Sublist A')(c:CK Z r s A' F H n)(g:nx<=n)(hq:Own A' q d.cells)(hxb:Own A' xb x.cells)(hyb:Own A' yb y.cells)
  (hx:Ent F λΓ=>DF Γ x) (hy:Ent F λΓ=>DF Γ y) (hg:zK s.sv.T s.sv.fs) (hgv:kK s.sv.T s.sv.vs)
  (ho:Cw Z r s A F nx K (qe4 s.sv.fs s.st d.er x.er y.er)):WpP PG 177 (qi (qd PG qO) [1,1,1,0,1,1,1,1,1,1,1,0]) (stE r q xb yb) H n [] K0:=by
 refine WpP.partK (ts:=[0,3,4,5]) qp ?_
 refine Eq.mpr (qnv ..) ?_
 exact⟨_,_,_,_,_,_,c.ldA hq rfl,_,_,_,_,_,_,c.ldA hxb rfl,_,_,_,_,_,_,c.ldA hyb rfl,qpj hx hy hg hgv c (ho.mono (λS _ hx s2 H2 n2 g2 e2 c2=>qb.2 (k.nm _ _ (hx s2 H2 n2 (by omega) e2 (c2.selA hs)))) λf _ hx H2 n2 g2 s2=>ql.2 (k.pn _ _ _ (hx H2 n2 (by omega) (SH.sel hs s2))))⟩
theorem qvw(k:StK K K0 r q xb yb)(hs:A.Sublist A')(c:CK Z r s A' F H n)(g:nx<=n)(hq:Own A' q d.cells)(hxb:Own A' xb x.cells)
  (hx:Ent F λΓ=>DF Γ x) (hg:zK s.sv.T s.sv.fs) (hgv:kK s.sv.T s.sv.vs) (hr:s.fn.result<s.sv.T.length)
  (ho:Cw Z r s A F nx K (qbu s.sv.fs s.fn.result s.st d.er x.er)):WpP PG 177 (qi (qd PG qO) [1,1,1,0,1,1,1,1,1,1,1,1,1,1,1,1,1,1,1,0]) (stE r q xb yb) H n [] K0:=by
 refine WpP.partK (ts:=[0,3,4,5]) qp ?_
 refine Eq.mpr (qok ..) ?_
 exact⟨_,_,_,_,_,_,c.ldA hq rfl,_,_,_,_,_,_,c.ldA hxb rfl,qq1 hx hg hgv hr c (ho.mono (λS _ hx s2 H2 n2 g2 e2 c2=>qb.2 (k.nm _ _ (hx s2 H2 n2 (by omega) e2 (c2.selA hs)))) λf _ hx H2 n2 g2 s2=>ql.2 (k.pn _ _ _ (hx H2 n2 (by omega) (SH.sel hs s2))))⟩
theorem qva(k:StK K K0 r q xb yb)(hs:A.Sublist A')(c:CK Z r s A' F H n)(g:nx<=n)(hq:Own A' q d.cells)
  (ho:Cw Z r s A F nx K (Ck.need (decide (0<s.loops)) d.er 19 (.ok s.st))):WpP PG 177 (qi (qd PG qO) [1,1,1,0,1,1,1,1,1,1,1,1,1,1,1,1,1,0]) (stE r q xb yb) H n [] K0:=by
 refine WpP.partK (ts:=[0,3,4,5]) qp ?_
 refine Eq.mpr (qml ..) ?_
 refine⟨rfl,_,rfl,_,c.cell 7,_,_,_,_,_,_,c.ldA hq rfl,⟨⟨_,c.cell 7,rfl⟩,⟨_,_,_,_,_,_,c.ldA hq rfl,rfl⟩,trivial⟩,(c.more (by omega)).need (λhb H2 n2 g2 c2=>qb.2 ⟨trivial,k.nm _ _ ?_⟩) λhb H2 n2 g2 c2=>ql.2 (k.pn _ _ _ ?_)⟩
 ·have h0:0<s.loops:=by
   have:(0:Int)<(s.loops:Int):=of_decide_eq_true hb
   omega
  exact qE.needT ho (decide_eq_true h0) s H2 n2 (by omega) Chg.refl (c2.selA hs)
 ·have h0:¬0<s.loops:=λx=>of_decide_eq_false hb (by show(0:Int)<(s.loops:Int);omega)
  have:=qE.needF ho (decide_eq_false h0)
  rw [zh]at this;exact this H2 n2 (by omega) (c2.selA hs).end_
theorem qvo(k:StK K K0 r q xb yb)(hs:A.Sublist A')(c:CK Z r s A' F H n)(g:nx<=n)(hxo:Own A' xb x.cells)
  (hx:Ent F λΓ=>DF Γ x) (hg:zK s.sv.T s.sv.fs) (hgv:kK s.sv.T s.sv.vs)
  (ho:Cw Z r s A F nx K (Ck.ob (Ck.expr s.sv.fs s.sv.vs s.sv.T x.er) λp=>Ck.need (decide (p.1=1)||decide (p.1=2)||decide (p.1=3)) x.er 17 (.ok ⟨p.2,s.vs,s.many⟩))):
  WpP PG 177 (qi (qd PG qO) [1,1,1,0,1,1,1,1,1,1,1,1,1,1,1,1,1,1,1,1,1,1,1,0]) (stE r q xb yb) H n [] K0:=by
 refine WpP.partK (ts:=[0,3,4,5]) qp ?_
 refine Eq.mpr (qlz ..) ?_
 refine⟨_,_,_,_,_,_,c.ldA hxo rfl,vq x hx hg hgv c ((qE.ob ho).mono (λp hp hz=> ?_) λf _ hz H2 n2 g2 s2=>ql.2 (k.pn _ _ _ (hz H2 n2 (by omega) (SH.sel hs s2))))⟩
 obtain⟨t,T1⟩:=p
 intro s2 H2 n2 g2 e2 c2;have hz:Cw Z r s A F nx K (Ck.need (decide (t=1)||decide (t=2)||decide (t=3)) x.er 17 (.ok ⟨T1,s.vs,s.many⟩)):=hz
 have fin (X:Bool) (hX:X=(decide (t=1)||decide (t=2)||decide (t=3))):qo PG qh [.ptr r 0,.bool X,x.val,iv 17] H2 n2 λe H i=>qj e (λ_=>K0 .normal (stE r q xb yb) H i [] none) λl=>K0 (.pan l) (stE r q xb yb) H i [] none:=by
  subst hX;refine c2.need (λhb H3 n3 g3 c3=>qb.2 (k.nm _ _ (qE.needT hz hb s2 H3 n3 (by omega) e2.chg (c3.selA hs)))) λhb H3 n3 g3 c3=>ql.2 (k.pn _ _ _ ?_)
  have:=qE.needF hz hb
  rw [zh]at this;exact this H3 n3 (by omega) (c3.selA hs).end_
 refine qb.2 ⟨_,rfl,qf.2 ⟨λh1=>⟨_,_,_,_,_,_,c2.ldA hxo rfl,fin _ ?_⟩,λh1=>qf.2 ⟨λh2=>⟨_,_,_,_,_,_,c2.ldA hxo rfl,fin _ ?_⟩,λh2=>⟨_,_,_,_,_,_,c2.ldA hxo rfl,fin _ ?_⟩⟩⟩⟩
 ·rw [decide_eq_true (show t=1 from Int.ofNat.inj (of_decide_eq_true h1))];rfl
 ·rw [decide_eq_true (show t=2 from Int.ofNat.inj (of_decide_eq_true h2)),Bool.or_true];rfl
 ·rw [decide_eq_false (λe:t=1=>of_decide_eq_false h1 (congrArg Int.ofNat e)),decide_eq_false (λe:t=2=>of_decide_eq_false h2 (congrArg Int.ofNat e))]
  exact QR t 3
theorem qvt(k:StK K K0 r q xb yb)(hs:A.Sublist A')(c:CK Z r s A' F H n)(g:nx<=n)(hq:Own A' q d.cells)(hxo:Own A' xb x.cells)
  (hx:Ent F λΓ=>DF Γ x) (hg:zK s.sv.T s.sv.fs) (hgv:kK s.sv.T s.sv.vs)
  (ho:Cw Z r s A F nx K (Ck.need (decide (x.kd=29)||decide (x.kd=31)) d.er 19 (Ck.ob (Ck.expr s.sv.fs s.sv.vs s.sv.T x.er) λp=> .ok ⟨p.2,s.vs,s.many⟩))):
  WpP PG 177 (qi (qd PG qO) [1,1,1,0,1,1,1,1,1,1,1,1,1,1,1,1,1,1,1,1,1,0]) (stE r q xb yb) H n [] K0:=by
 refine WpP.partK (ts:=[0,3,4,5]) qp ?_
 refine Eq.mpr (qni ..) ?_
 have fin (X:Bool) (hX:X=(decide (x.kd=29)||decide (x.kd=31))):qo PG qh [.ptr r 0,.bool X,d.val,iv 19] H n λe H i=>qj e (λ_=>∃n12 s13 n14 n15 n16 v17,ldN H 6 (u0 xb 0)=some (u6 [iv n12,u5 s13,iv n14,iv n15,iv n16,v17])/\qo PG zt [u0 r 0,u6 [iv n12,u5 s13,iv n14,iv n15,iv n16,v17]] H i λe H i=>qj e (λv=>∃m:Int,v=iv m/\K0 .normal (stE r q xb yb) H i [] none) λl=>K0 (.pan l) (stE r q xb yb) H i [] none) λl=>K0 (.pan l) (stE r q xb yb) H i [] none:=by
  subst hX;refine c.need (λhb H3 n3 g3 c3=>qb.2 ⟨_,_,_,_,_,_,c3.ldA hxo rfl,vq x hx hg hgv c3 ((qE.ob (qE.needT ho hb)).mono (λp hp hz=> ?_) λf _ hz H4 n4 g4 s4=>ql.2 (k.pn _ _ _ (hz H4 n4 (by omega) (SH.sel hs s4))))⟩) λhb H3 n3 g3 c3=>ql.2 (k.pn _ _ _ ?_)
  ·obtain⟨t,T1⟩:=p
   intro s4 H4 n4 g4 e4 c4;have hz:∀s' H' nx',nx<=nx'->Chg s s' ⟨T1,s.vs,s.many⟩->CK Z r s' A F H' nx'->K (.ret (.tuple [])) H' nx':=hz
   exact qb.2 ⟨_,rfl,k.nm _ _ (hz s4 H4 n4 (by omega) e4.chg (c4.selA hs))⟩
  ·have:=qE.needF ho hb
   rw [zh]at this;exact this H3 n3 (by omega) (c3.selA hs).end_
 refine⟨_,rfl,_,c.ld1 hxo 0,qf.2 ⟨λh1=>⟨_,_,_,_,_,_,c.ldA hq rfl,fin _ ?_⟩,λh1=>⟨_,rfl,_,c.ld1 hxo 0,_,_,_,_,_,_,c.ldA hq rfl,fin _ ?_⟩⟩⟩
 ·rw [h1];rfl
 ·rw [h1,Bool.false_or]
theorem qvm(k:StK K K0 r q xb yb)(hs:A.Sublist A')(c:CK Z r s A' F H n)(g:nx<=n)(hq:Own A' q d.cells)(hxo:Own A' xb x.cells)(hyo:Own A' yb y.cells)
  (hy:Ent F λΓ=>DF Γ y) (hg:zK s.sv.T s.sv.fs) (hgv:kK s.sv.T s.sv.vs) (hvm:s.vs.length<=s.many)
  (ho:Cw Z r s A F nx K (Ck.need (decide (x.kd=26)) d.er 19 (Ck.ob (Ck.expr s.sv.fs s.sv.vs s.sv.T y.er) λp=>Ck.need (decide (p.1≠0)&&decide (p.1≠4)) y.er 17 (Ck.declare ⟨p.2,s.vs,s.many⟩ s.deep x.er x.nm p.1)))):
  WpP PG 177 (qi (qd PG qO) [1,1,1,0,1,1,1,1,1,0]) (stE r q xb yb) H n [] K0:=by
 refine WpP.partK (ts:=[0,3,4,5]) qp ?_
 refine Eq.mpr (qnu ..) ?_
 refine⟨_,rfl,_,c.ld1 hxo 0,_,_,_,_,_,_,c.ldA hq rfl,c.need (λhb H2 n2 g2 c2=>qb.2 ⟨_,_,_,_,_,_,c2.ldA hyo rfl,?_⟩) λhb H2 n2 g2 c2=>ql.2 (k.pn _ _ _ ?_)⟩
 ·refine vq y hy hg hgv c2 ((qE.ob (qE.needT ho hb)).mono (λp hp hz=> ?_) λf _ hz H3 n3 g3 s3=>ql.2 (k.pn _ _ _ (hz H3 n3 (by omega) (SH.sel hs s3))))
  obtain⟨t,T1⟩:=p
  intro s3 H3 n3 g3 e3 c3;have hz:Cw Z r s A F nx K (Ck.need (decide (t≠0)&&decide (t≠4)) y.er 17 (Ck.declare ⟨T1,s.vs,s.many⟩ s.deep x.er x.nm t)):=hz
  have est:s3.st=⟨T1,s.vs,s.many⟩:=e3.chg.st
  have edp:s3.deep=s.deep/\s3.vs=s.vs/\s3.many=s.many:=by obtain⟨b,L,rfl,_⟩:=e3;exact⟨rfl,rfl,rfl⟩
  obtain⟨e1,e2,e4⟩:=edp
  have fin (X:Bool) (hX:X=(decide (t≠0)&&decide (t≠4))):qo PG qh [.ptr r 0,.bool X,y.val,iv 17] H3 n3 λe H i=>qj e (λ_=>∃n33 s34 n35 n36 n37 v38,ldN H 6 (u0 xb 0)=some (u6 [iv n33,u5 s34,iv n35,iv n36,iv n37,v38])/\∃v39,some (u0 xb 1)=some v39/\∃s40,ld1 H v39=some (u5 s40)/\
    qo PG zU [u0 r 0,u6 [iv n33,u5 s34,iv n35,iv n36,iv n37,v38],u5 s40,iv t] H i λe H i=>qj e (λ_=>K0 .normal (stE r q xb yb) H i [] none) λl=>K0 (.pan l) (stE r q xb yb) H i [] none) λl=>K0 (.pan l) (stE r q xb yb) H i [] none:=by
   subst hX;refine c3.need (λhb H4 n4 g4 c4=>qb.2 ⟨_,_,_,_,_,_,c4.ldA hxo rfl,_,rfl,_,c4.ld1 hxo 1,Vu (d:=x) c4 (by rw [e2,e4];exact hvm) ?_⟩) λhb H4 n4 g4 c4=>ql.2 (k.pn _ _ _ ?_)
   ·rw [est,e1];exact(qE.needT hz hb).mono (λS _ hx s5 H5 n5 g5 e5 c5=>qb.2 (k.nm _ _ (hx s5 H5 n5 (by omega) (e3.chg.trans e5) (c5.selA hs)))) λf _ hx H5 n5 g5 s5=>ql.2 (k.pn _ _ _ (hx H5 n5 (by omega) (SH.sel hs s5)))
   ·have:=qE.needF hz hb
    rw [zh]at this;exact this H4 n4 (by omega) (c4.selA hs).end_
  refine qb.2 ⟨_,rfl,qf.2 ⟨λh1=>⟨_,_,_,_,_,_,c3.ldA hyo rfl,fin _ ?_⟩,λh1=>⟨_,_,_,_,_,_,c3.ldA hyo rfl,fin _ ?_⟩⟩⟩
  ·have h0:t≠0:=λe=>by rw [e]at h1;simp at h1
   rw [decide_eq_true h0,Bool.true_and];rw [Bool.eq_iff_iff];simp;omega
  ·have h0:¬t≠0:=λe=>by
    have:¬(t:Int)=0:=by omega
    rw [decide_eq_false this]at h1;simp at h1
   rw [decide_eq_false h0,Bool.false_and]
 ·have:=qE.needF ho hb
  rw [zh]at this;exact this H2 n2 (by omega) (c2.selA hs).end_
def BlP(Z:Nat->Prop)(d:DT):Prop:=∀{r:Nat} {s:DS} {A:qD} {F:zr} {H:qc} {nx:Nat} {K:qr},Ent F (λΓ=>DF Γ d)->Ck.Inv s.sv.fs s.st->s.fn.result<s.sv.T.length->s.deep+d.ht<=1000000000->s.loops+d.ht<=1000000001->CK Z r s A F H nx->
 Cw Z r s A F nx K (block s.sv.fs s.fn.result s.deep s.loops s.st d.er)->qo PG kx [.ptr r 0,d.val] H nx K
theorem qes(hk:∀e∈d.kids,StP Z e):BlP Z d:=λhd hi hr h1 h2 c ho=>qio hd hk hi hr h1 h2 c ho λ_=>rfl
theorem qvs(k:StK K K0 r q xb yb)(hs:A.Sublist A')(c:CK Z r s A' F H n)(g:nx<=n)(hq:Own A' q d.cells)(hxo:Own A' xb x.cells)(hyo:Own A' yb y.cells)
  (hd:Ent F λΓ=>DF Γ d) (hx:Ent F λΓ=>DF Γ x) (hy:Ent F λΓ=>DF Γ y) (hB:BlP Z y) (hSt:StP Z (qQ d.kids 2)) (hi:Ck.Inv s.sv.fs s.st) (hr:s.fn.result<s.sv.T.length)
  (b1:s.deep+y.ht<=1000000000) (b2:s.loops+y.ht<=1000000000) (b3:s.deep+(qQ d.kids 2).ht<=1000000000) (b4:s.loops+(qQ d.kids 2).ht<=1000000000)
  (ho:Cw Z r s A F nx K (Ck.ob (Ck.expr s.sv.fs s.sv.vs s.sv.T x.er) λp=>Ck.need (decide (p.1=2)) x.er 17 (Ck.ob (block s.sv.fs s.fn.result s.deep s.loops ⟨p.2,s.vs,s.many⟩ y.er) λS=>
   if(qQ d.kids 2).kd=38 then .ok S else stmt s.sv.fs s.fn.result s.deep s.loops S (qQ d.kids 2).er))):
  WpP PG 177 (qi (qd PG qO) [1,1,1,0,1,1,1,1,1,1,1,1,1,0]) (stE r q xb yb) H n [] K0:=by
 refine WpP.partK (ts:=[0,3,4,5]) qp ?_
 refine Eq.mpr (ql5 ..) ?_
 refine⟨_,_,_,_,_,_,c.ldA hxo rfl,_,_,_,_,_,_,c.ldA hxo rfl,⟨⟨_,_,_,_,_,_,c.ldA hxo rfl,rfl⟩,⟨_,_,_,_,_,_,c.ldA hxo rfl,rfl⟩,trivial⟩,vq x hx hi.g hi.v (c.more (by omega)) ((qE.ob ho).mono (λp hp hz=> ?_) λf _ hz H3 n3 g3 s3=>ql.2 (k.pn _ _ _ (hz H3 n3 (by omega) (SH.sel hs s3))))⟩
 obtain⟨t,T1⟩:=p
 have gS:=(Qm (S:=s.st) hi hp).st hi
 intro s3 H3 n3 g3 e3 c3;have est:s3.st=⟨T1,s.vs,s.many⟩:=e3.chg.st
 have hfx:s3.sv.fs=s.sv.fs/\s3.fn=s.fn/\s3.deep=s.deep/\s3.loops=s.loops:=by obtain⟨b,L,rfl,_⟩:=e3;exact⟨rfl,rfl,rfl,rfl⟩
 obtain⟨f1,f2,f3,f4⟩:=hfx
 have eT:=e3.T
 refine qb.2 ⟨_,rfl,⟨⟨_,_,_,_,_,_,c3.ldA hxo rfl,rfl⟩,trivial⟩,c3.need (λhb H4 n4 g4 c4=>qb.2 ⟨trivial,_,_,_,_,_,_,c4.ldA hyo rfl,?_⟩) λhb H4 n4 g4 c4=>ql.2 (k.pn _ _ _ ?_)⟩
 ·have h2:t=2:=Int.ofNat.inj (of_decide_eq_true hb)
  have hz:=qE.needT hz (decide_eq_true h2)
  have hlT:s.sv.T.length<=T1.length:=gS.2.1
  refine hB hy (by rw [f1,est];exact gS.1) (by rw [f2,eT];show _<T1.length;omega) (by rw [f3];exact b1) (by rw [f4];omega) c4 ?_
  rw [f1,f2,f3,f4,est];refine(qE.ob hz).mono (λS hS hu s5 H5 n5 g5 e5 c5=> ?_) λf _ hu H5 n5 g5 s5=>ql.2 (k.pn _ _ _ (hu H5 n5 (by omega) (SH.sel hs s5)))
  have gB:=Jv y.er gS.1 hS
  have est5:=e5.st
  have hfx:s5.sv.fs=s.sv.fs/\s5.fn=s.fn/\s5.deep=s.deep/\s5.loops=s.loops:=by
   obtain⟨b,L,v,rfl,_⟩:=e5
   exact⟨f1,f2,f3,f4⟩
  obtain⟨u1,u2,u3,u4⟩:=hfx
  obtain⟨Γ5,s5',_,_,_,hF5,_,back5⟩:=c5.ro
  refine qb.2 ⟨_,_,_,_,_,_,c5.ldA hq rfl,jf (i:=2) s5' (hd Γ5 hF5) λH6 n6 g6 s6=>qb.2 ⟨_,_,_,_,_,_,rfl,(back5 H6 n6 s6).mk1 lR λH7 c7=>c7.all (vs:=(qQ d.kids 2).cells) rfl (hd Γ5 hF5).kids.kid.cell λH8 c8=>⟨_,rfl,_,c8.ld1 .hd 0,qf.2 ⟨λh38=>⟨_,_,_,_,_,_,c8.ldA .hd rfl,?_⟩,λh38=>k.nm _ _ ?_⟩⟩⟩⟩
  ·have k38:¬(qQ d.kids 2).kd=38:=λe=>by rw [e]at h38;simp at h38
   rw [if_neg k38]at hu;have eT5:s5.sv.T=S.T:=by rw [<-est5];rfl
   refine hSt (λΓ hq=>(hd Γ hq).kids.kid) (by rw [u1,est5];exact gB.1) (by rw [u2,eT5];exact Nat.lt_of_lt_of_le hr (Nat.le_trans hlT gB.2.1)) (by rw [u3];exact b3) (by rw [u4];exact b4) c8 ?_
   rw [u1,u2,u3,u4,est5];exact qE.mono hu (λS6 _ hv s9 H9 n9 g9 e9 c9=>qb.2 (k.nm _ _ (hv s9 H9 n9 (by omega) ((e3.chg.trans e5).trans e9) (c9.drop.selA hs)))) λf _ hv H9 n9 g9 s9=>ql.2 (k.pn _ _ _ (hv H9 n9 (by omega) (SH.sel hs s9.drop)))
  ·have k38:(qQ d.kids 2).kd=38:=by simpa using h38
   rw [if_pos k38]at hu;exact hu s5 H8 _ (by omega) (e3.chg.trans e5) (c8.drop.selA hs)
 ·have hb':¬t=2:=λe=>of_decide_eq_false hb (congrArg Int.ofNat e)
  have:=qE.needF hz (decide_eq_false hb')
  rw [zh]at this;exact this H4 n4 (by omega) (c4.selA hs).end_
end
section
variable{r q xb yb:Nat}{s s2:DS}{A A':qD}{F:zr}{H H2:qc}{nx n n2:Nat}{K:qr}{K0:KP}{d x y:DT}{T1:List Ty}
theorem jC.fix(e:jC s s2 T1):s2.sv.fs=s.sv.fs/\s2.fn=s.fn/\s2.deep=s.deep/\s2.loops=s.loops/\s2.vs=s.vs/\s2.many=s.many/\s2.st=⟨T1,s.vs,s.many⟩/\s2.sv.T=T1:=by
 have e1:=e.chg.st
 have e2:=e.T
 obtain⟨b,L,rfl,_⟩:=e
 exact⟨rfl,rfl,rfl,rfl,rfl,rfl,e1,e2⟩
theorem qsf(k:StK K K0 r q xb yb)(hs:A.Sublist A')(c:CK Z r s2 A' F H2 n2)(g:nx<=n2)(e2:jC s s2 T1)(hyo:Own A' yb y.cells)
  (hy:Ent F λΓ=>DF Γ y) (hB:BlP Z y) (gS:vI s.sv.fs s.st ⟨T1,s.vs,s.many⟩) (hr:s.fn.result<s.sv.T.length)
  (b1:s.deep+y.ht<=1000000000) (b2:s.loops+1+y.ht<=1000000001)
  (hz:Cw Z r s A F nx K (block s.sv.fs s.fn.result s.deep (s.loops+1) ⟨T1,s.vs,s.many⟩ y.er)):
  true=true/\∃v25,some (u0 r 7)=some v25/\∃n26:Int,ld1 H2 v25=some (iv n26)/\true=true/\∃v27,some (u0 r 7)=some v27/\true=true/\∃H28,stC H2 v27 [iv (i64.wrap (n26+1))]=some H28/\
   ∃n29 s30 n31 n32 n33 v34,ldN H28 6 (u0 yb 0)=some (u6 [iv n29,u5 s30,iv n31,iv n32,iv n33,v34])/\qo PG kx [u0 r 0,u6 [iv n29,u5 s30,iv n31,iv n32,iv n33,v34]] H28 n2 λe35 H36 i37=>qj e35 (λv38=>
    true=true/\∃v39,some (u0 r 7)=some v39/\∃n40:Int,ld1 H36 v39=some (iv n40)/\true=true/\∃v41,some (u0 r 7)=some v41/\true=true/\∃H42,stC H36 v41 [iv (i64.wrap (n40 - 1))]=some H42/\K0 .normal (stE r q xb yb) H42 i37 [] none)
    λl43=>K0 (.pan l43) (stE r q xb yb) H36 i37 [] none:=by
 obtain⟨f1,f2,f3,f4,f5,f6,est,eT⟩:=e2.fix
 have lT:=gS.2.1
 have lT:s.sv.T.length<=T1.length:=lT
 refine⟨rfl,_,rfl,_,c.cell 7,rfl,_,rfl,rfl,?_⟩
 have ew:i64.wrap ((s2.loops:Int)+1)=((s.loops+1:Nat):Int):=by rw [f4,qB (by omega) (by omega)];omega
 rw [ew];refine c.set (j:=7) {s2 with loops:=s.loops+1} (by omega) rfl rfl (λΓ o=>⟨o.ty,o.fs,o.fw,o.tN,o.fN,o.vN,o.v0,o.dw,o.nw⟩) λH3 c3=>⟨_,_,_,_,_,_,c3.ldA hyo rfl,?_⟩
 refine hB hy (s:={s2 with loops:=s.loops+1}) ?_ (by show s2.fn.result<s2.sv.T.length;rw [f2,eT];omega) (by show s2.deep+_<=_;rw [f3];exact b1) b2 c3 ?_
 ·show Ck.Inv s2.sv.fs s2.st
  rw [f1,est];exact gS.1
 ·show Cw Z r {s2 with loops:=s.loops+1} A' F n2 _ (block s2.sv.fs s2.fn.result s2.deep (s.loops+1) s2.st y.er)
  rw [f1,f2,f3,est];refine qE.mono hz (λS hS hu s5 H5 n5 g5 e5 c5=> ?_) λf _ hu H5 n5 g5 s5=>ql.2 (k.pn _ _ _ (hu H5 n5 (by omega) (SH.sel hs s5)))
  have el:s5.loops=s.loops+1:=by obtain⟨b,L,v,rfl,_⟩:=e5;rfl
  have ew2:i64.wrap ((s5.loops:Int) - 1)=(s.loops:Int):=by rw [el,qB (by omega) (by omega)];omega
  refine qb.2 ⟨rfl,_,rfl,_,c5.cell 7,rfl,_,rfl,rfl,?_⟩
  rw [ew2];refine c5.set (j:=7) {s5 with loops:=s.loops} (by omega) rfl rfl (λΓ o=>⟨o.ty,o.fs,o.fw,o.tN,o.fN,o.vN,o.v0,o.dw,o.nw⟩) λH6 c6=>k.nm _ _ (hu _ H6 n5 (by omega) ?_ (c6.selA hs))
  obtain⟨b,L,rfl,eL⟩:=e2
  obtain⟨b',L',v',rfl,eL'⟩:=e5
  exact⟨b',L++L',v',by simp [List.append_assoc],by simpa [List.append_assoc]using eL'⟩
theorem qvu(k:StK K K0 r q xb yb)(hs:A.Sublist A')(c:CK Z r s A' F H n)(g:nx<=n)(hxo:Own A' xb x.cells)(hyo:Own A' yb y.cells)
  (hx:Ent F λΓ=>DF Γ x) (hy:Ent F λΓ=>DF Γ y) (hB:BlP Z y) (hi:Ck.Inv s.sv.fs s.st) (hr:s.fn.result<s.sv.T.length)
  (b1:s.deep+y.ht<=1000000000) (b2:s.loops+1+y.ht<=1000000001)
  (ho:Cw Z r s A F nx K (Ck.ob (if x.kd=38 then .ok s.sv.T else Ck.ob (Ck.expr s.sv.fs s.sv.vs s.sv.T x.er) λp=>Ck.need (decide (p.1=2)) x.er 17 (.ok p.2)) λT=>block s.sv.fs s.fn.result s.deep (s.loops+1) ⟨T,s.vs,s.many⟩ y.er)):
  WpP PG 177 (qi (qd PG qO) [1,1,1,0,1,1,1,1,1,1,1,1,1,1,1,0]) (stE r q xb yb) H n [] K0:=by
 refine WpP.partK (ts:=[0,3,4,5]) qp ?_
 refine Eq.mpr (qoh ..) ?_
 have dx {H:qc} {n:Nat} {s:DS} (c:CK Z r s A' F H n):=c.ldA (sz:=6) hxo rfl
 refine⟨_,rfl,_,c.ld1 hxo 0,qf.2 ⟨λh38=> ?_,λh38=> ?_⟩⟩
 ·rw [if_pos (of_decide_eq_true h38)]at ho;have ho:Cw Z r s A F nx K (block s.sv.fs s.fn.result s.deep (s.loops+1) ⟨s.sv.T,s.vs,s.many⟩ y.er):=ho
  refine⟨_,_,_,_,_,_,dx c,⟨⟨_,c.ld1 hxo 0,rfl⟩,rfl,⟨_,_,_,_,_,_,dx c,rfl⟩,trivial⟩,⟨⟨_,_,_,_,_,_,dx c,rfl⟩,trivial⟩,(c.more (by omega)).need (λhb H2 n2 g2 c2=>qb.2 ⟨trivial,?_⟩) λhb=>nomatch hb⟩
  exact qsf k hs c2 (by omega) jC.refl hyo hy hB (vI.refl hi) hr b1 b2 ho
 ·rw [if_neg (of_decide_eq_false h38)]at ho;refine⟨_,_,_,_,_,_,dx c,_,_,_,_,_,_,dx c,⟨⟨_,c.ld1 hxo 0,rfl⟩,⟨_,_,_,_,_,_,dx c,rfl⟩,⟨_,_,_,_,_,_,dx c,rfl⟩,trivial⟩,vq x hx hi.g hi.v (c.more (by omega)) ((qE.ob (qE.ob ho)).mono (λp hp hz=> ?_) λf _ hz H3 n3 g3 s3=>ql.2 (k.pn _ _ _ (hz H3 n3 (by omega) (SH.sel hs s3))))⟩
  obtain⟨t,T1⟩:=p
  have gS:=(Qm (S:=s.st) hi hp).st hi
  intro s3 H3 n3 g3 e3 c3;refine qb.2 ⟨_,rfl,⟨⟨_,_,_,_,_,_,dx c3,rfl⟩,trivial⟩,c3.need (λhb H4 n4 g4 c4=>qb.2 ⟨trivial,?_⟩) λhb H4 n4 g4 c4=>ql.2 (k.pn _ _ _ ?_)⟩
  ·have h2:t=2:=Int.ofNat.inj (of_decide_eq_true hb)
   have hz:=qE.needT hz (decide_eq_true h2)
   exact qsf k hs c4 (by omega) e3 hyo hy hB gS hr b1 b2 hz
  ·have hb':¬t=2:=λe=>of_decide_eq_false hb (congrArg Int.ofNat e)
   have:=qE.needF hz (decide_eq_false hb')
   rw [zh]at this;exact this H4 n4 (by omega) (c4.selA hs).end_
theorem qvq(k:StK K K0 r q xb yb)(hs:A.Sublist A')(c:CK Z r s A' F H n)(g:nx<=n)(hq:Own A' q d.cells)(hxo:Own A' xb x.cells)(hyo:Own A' yb y.cells)
  (hx:Ent F λΓ=>DF Γ x) (hy:Ent F λΓ=>DF Γ y) (hi:Ck.Inv s.sv.fs s.st)
  (ho:Cw Z r s A F nx K (Ck.ob (typ s.sv.T x.er) λp=>Ck.ob (if y.kd=38 then .ok p.2 else Ck.ob (Ck.expr s.sv.fs s.sv.vs p.2 y.er) λq=>Ck.need (Ck.fits q.2 q.1 p.1) y.er 17 (.ok q.2)) λT=>Ck.declare ⟨T,s.vs,s.many⟩ s.deep d.er d.nm p.1)):
  WpP PG 177 (qi (qd PG qO) [1,1,1,0,1,1,1,0]) (stE r q xb yb) H n [] K0:=by
 refine WpP.partK (ts:=[0,3,4,5]) qp ?_
 refine Eq.mpr (qm4 ..) ?_
 refine⟨_,_,_,_,_,_,c.ldA hxo rfl,yH x hx c ((qE.ob ho).mono (λp hp hz=> ?_) λf _ hz H3 n3 g3 s3=>ql.2 (k.pn _ _ _ (hz H3 n3 (by omega) (SH.sel hs s3))))⟩
 obtain⟨t,T1⟩:=p
 have gT:Jy s.sv.fs s.sv.T t T1:=kX x.er hi.g hp
 have gS:=Jy.st (S:=s.st) hi gT
 intro s2 H2 n2 g2 e2 c2;obtain⟨f1,f2,f3,f4,f5,f6,est,eT⟩:=e2.fix
 have hvm:s.vs.length<=s.many:=hi.m
 have dcl {s3:DS} {T2:List Ty} {H3:qc} {n3:Nat} (e3:jC s s3 T2) (c3:CK Z r s3 A' F H3 n3) (g3:nx<=n3) (hz:Cw Z r s A F nx K (Ck.declare ⟨T2,s.vs,s.many⟩ s.deep d.er d.nm t)):
   qo PG zU [.ptr r 0,d.val,.str d.nm,iv t] H3 n3 λe H i=>qj e (λ_=>K0 .normal (stE r q xb yb) H i [] none) λl=>K0 (.pan l) (stE r q xb yb) H i [] none:=by
  obtain⟨_,_,q3,_,q5,q6,qst,_⟩:=e3.fix
  refine Vu (d:=d) c3 (by rw [q5,q6];exact hvm) ?_
  rw [qst,q3];exact hz.mono (λS _ hx s5 H5 n5 g5 e5 c5=>qb.2 (k.nm _ _ (hx s5 H5 n5 (by omega) (e3.chg.trans e5) (c5.selA hs)))) λf _ hx H5 n5 g5 s5=>ql.2 (k.pn _ _ _ (hx H5 n5 (by omega) (SH.sel hs s5)))
 refine qb.2 ⟨_,rfl,_,rfl,_,c2.ld1 hyo 0,qf.2 ⟨λh38=> ?_,λh38=> ?_⟩⟩
 ·have k38:¬y.kd=38:=λe=>by rw [e]at h38;simp at h38
  have hz:=qE.ob hz
  rw [if_neg k38]at hz;have hz:=qE.ob hz
  have dy {H:qc} {n:Nat} {s:DS} (c:CK Z r s A' F H n):=c.ldA (sz:=6) hyo rfl
  refine⟨_,_,_,_,_,_,dy c2,_,_,_,_,_,_,dy c2,⟨⟨_,_,_,_,_,_,dy c2,rfl⟩,⟨_,_,_,_,_,_,dy c2,rfl⟩,trivial⟩,vq y hy (by rw [f1,eT];exact gT.1) (by show kK s2.sv.T s2.vs;rw [eT,f5];exact gS.1.v) (c2.more (by omega)) ?_⟩
  have e0:Ck.expr s2.sv.fs s2.sv.vs s2.sv.T y.er=Ck.expr s.sv.fs s.sv.vs T1 y.er:=by rw [f1,eT];show Ck.expr _ s2.vs _ _=Ck.expr _ s.vs _ _;rw [f5]
  rw [e0];refine hz.mono (λp hp hu=> ?_) λf _ hu H3 n3 g3 s3=>ql.2 (k.pn _ _ _ (hu H3 n3 (by omega) (SH.sel hs s3)))
  obtain⟨u,T2⟩:=p
  have gE:Jy s.sv.fs T1 u T2:=Qm (S:=⟨T1,s.vs,s.many⟩) gS.1 hp
  intro s3 H3 n3 g3 e3 c3;have eT3:=e3.T
  have hl3:T1.length<=s3.sv.T.length:=by rw [eT3];exact gE.2.1
  have ht3:t<s3.sv.T.length:=Nat.lt_of_lt_of_le gT.2.2 hl3
  have hu3:u<s3.sv.T.length:=by rw [eT3];exact gE.2.2
  refine qb.2 ⟨_,rfl,⟨⟨_,_,_,_,_,_,dy c3,rfl⟩,trivial⟩,c3.fits hu3 ht3 (λhb H4 n4 g4 c4=>qb.2 ⟨trivial,_,_,_,_,_,_,c4.ldA hq rfl,_,rfl,_,c4.ld1 hq 1,?_⟩) λhb H4 n4 g4 c4=>ql.2 (k.pn _ _ _ ?_)⟩
  ·rw [eT3]at hb;have hu:=qE.needT hu hb
   exact dcl (e2.trans e3) c4 (by omega) hu
  ·rw [eT3]at hb;have:=qE.needF hu hb
   rw [zh]at this;exact this H4 n4 (by omega) (c4.selA hs).end_
 ·have k38:y.kd=38:=by simpa using h38
  have hz:=qE.ob hz
  rw [if_pos k38]at hz;exact⟨_,_,_,_,_,_,c2.ldA hq rfl,_,rfl,_,c2.ld1 hq 1,dcl e2 c2 (by omega) hz⟩
end
theorem qj4:qbe PG qO 177 2=true:=by kernel_rfl
theorem qi9:qd PG qO= .seq (qi (qd PG qO) [0]) (.seq (qi (qd PG qO) [1,0]) (.seq (qi (qd PG qO) [1,1,0]) (.block 0 (.seq (qi (qd PG qO) [1,1,1,0,0]) (.cond (.tmp 16) (qi (qd PG qO) [1,1,1,0,1,0]) (.seq (qi (qd PG qO) [1,1,1,0,1,1,0]) (.cond (.tmp 21) (qi (qd PG qO) [1,1,1,0,1,1,1,0]) (.seq (qi (qd PG qO) [1,1,1,0,1,1,1,1,0]) (.cond (.tmp 42) (qi (qd PG qO) [1,1,1,0,1,1,1,1,1,0]) (.seq (qi (qd PG qO) [1,1,1,0,1,1,1,1,1,1,0]) (.cond (.tmp 68) (qi (qd PG qO) [1,1,1,0,1,1,1,1,1,1,1,0]) (.seq (qi (qd PG qO) [1,1,1,0,1,1,1,1,1,1,1,1,0]) (.cond (.tmp 75) (qi (qd PG qO) [1,1,1,0,1,1,1,1,1,1,1,1,1,0]) (.seq (qi (qd PG qO) [1,1,1,0,1,1,1,1,1,1,1,1,1,1,0]) (.cond (.tmp 95) (qi (qd PG qO) [1,1,1,0,1,1,1,1,1,1,1,1,1,1,1,0]) (.seq (qi (qd PG qO) [1,1,1,0,1,1,1,1,1,1,1,1,1,1,1,1,0]) (.cond (.tmp 126) (qi (qd PG qO) [1,1,1,0,1,1,1,1,1,1,1,1,1,1,1,1,1,0]) (.seq (qi (qd PG qO) [1,1,1,0,1,1,1,1,1,1,1,1,1,1,1,1,1,1,0]) (.cond (.tmp 137) (qi (qd PG qO) [1,1,1,0,1,1,1,1,1,1,1,1,1,1,1,1,1,1,1,0]) (.seq (qi (qd PG qO) [1,1,1,0,1,1,1,1,1,1,1,1,1,1,1,1,1,1,1,1,0]) (.cond (.tmp 143) (qi (qd PG qO) [1,1,1,0,1,1,1,1,1,1,1,1,1,1,1,1,1,1,1,1,1,0]) (.seq (qi (qd PG qO) [1,1,1,0,1,1,1,1,1,1,1,1,1,1,1,1,1,1,1,1,1,1,0]) (.cond (.tmp 159) (qi (qd PG qO) [1,1,1,0,1,1,1,1,1,1,1,1,1,1,1,1,1,1,1,1,1,1,1,0]) .skip))))))))))))))))))))))):=by kernel_rfl
section
variable{r q xb yb:Nat}{s s2:DS}{A A':qD}{F:zr}{H H2:qc}{nx n n2:Nat}{K:qr}{K0:KP}{d x y:DT}{T1:List Ty}
theorem qmo(lv:zJ)(lvc:zI)(K:qr)(env:Env)(H:qc)(nx:Nat):WC 0 (qy PG lv lvc K (qP PG qO)) .normal env H nx [] none=K (.ret (.tuple [])) H nx:=by kernel_rfl
theorem qly(lv:zJ)(lvc:zI)(K:qr)(l:List (qa×Bool))(env:Env)(H:qc)(nx:Nat):WC 0 (qy PG lv lvc K (qP PG qO)) (.pan l) env H nx [] none=K (.pan l) H nx:=by kernel_rfl
def qfc(fs:List CSg)(rs deep loops:Nat)(S:St)(k:Int)(d x y z:DT):Ex St:=
  if k=10 then block fs rs deep loops S d.er
  else if k=11 then Ck.ob (typ S.T x.er) λp=>Ck.ob (if y.kd=38 then .ok p.2 else Ck.ob (Ck.expr fs S.vs p.2 y.er) λq=>Ck.need (Ck.fits q.2 q.1 p.1) y.er 17 (.ok q.2)) λT=>Ck.declare ⟨T,S.vs,S.many⟩ deep d.er d.nm p.1
  else if k=12 then Ck.need (decide (x.kd=26)) d.er 19 (Ck.ob (Ck.expr fs S.vs S.T y.er) λp=>Ck.need (decide (p.1≠0)&&decide (p.1≠4)) y.er 17 (Ck.declare ⟨p.2,S.vs,S.many⟩ deep x.er x.nm p.1))
  else if k=13 then qe4 fs S d.er x.er y.er
  else if k=14 then Ck.ob (Ck.expr fs S.vs S.T x.er) λp=>Ck.need (decide (p.1=2)) x.er 17 (Ck.ob (block fs rs deep loops ⟨p.2,S.vs,S.many⟩ y.er) λS=>if z.kd=38 then .ok S else stmt fs rs deep loops S z.er)
  else if k=15 then Ck.ob (if x.kd=38 then .ok S.T else Ck.ob (Ck.expr fs S.vs S.T x.er) λp=>Ck.need (decide (p.1=2)) x.er 17 (.ok p.2)) λT=>block fs rs deep (loops+1) ⟨T,S.vs,S.many⟩ y.er
  else if k=16\/k=17 then Ck.need (decide (0<loops)) d.er 19 (.ok S)
  else if k=18 then qbu fs rs S d.er x.er
  else if k=19 then Ck.need (decide (x.kd=29)||decide (x.kd=31)) d.er 19 (Ck.ob (Ck.expr fs S.vs S.T x.er) λp=> .ok ⟨p.2,S.vs,S.many⟩)
  else if k=20 then Ck.ob (Ck.expr fs S.vs S.T x.er) λp=>Ck.need (decide (p.1=1)||decide (p.1=2)||decide (p.1=3)) x.er 17 (.ok ⟨p.2,S.vs,S.many⟩)
  else .ok S
theorem qpu(fs:List CSg)(rs deep loops:Nat)(S:St)(d:DT):stmt fs rs deep loops S d.er=qfc fs rs deep loops S d.kd d (qQ d.kids 0) (qQ d.kids 1) (qQ d.kids 2):=by
 unfold qfc;have hb:∀(S:St) (loops:Nat),jT fs rs deep loops S (ers d.kids) 1=block fs rs deep loops S (qQ d.kids 1).er:=by
  intro S loops
  match d.kids with
  |[]=>show jT fs rs deep loops S [] 1=block fs rs deep loops S zx;rw [jT,zx,block,wJ];rfl
  |[a]=>show jT fs rs deep loops S (a.er::[]) 1=block fs rs deep loops S zx;rw [jT,jT,zx,block,wJ];rfl
  |a::b::l=>show jT fs rs deep loops S (a.er::b.er::ers l) 1=block fs rs deep loops S b.er;rw [jT,jT]
 have hs:∀S:St,ke fs rs deep loops S (ers d.kids) 2=stmt fs rs deep loops S (qQ d.kids 2).er:=by
  intro S;have z:stmt fs rs deep loops S zx= .ok S:=by rw [zx,stmt];rfl
  match d.kids with
  |[]=>show ke fs rs deep loops S [] 2=stmt fs rs deep loops S zx;rw [ke,z]
  |[a]=>show ke fs rs deep loops S (a.er::[]) 2=stmt fs rs deep loops S zx;rw [ke,ke,z]
  |[a,b]=>show ke fs rs deep loops S (a.er::b.er::[]) 2=stmt fs rs deep loops S zx;rw [ke,ke,ke,z]
  |a::b::c::l=>show ke fs rs deep loops S (a.er::b.er::c.er::ers l) 2=stmt fs rs deep loops S c.er;rw [ke,ke,ke]
 conv=>lhs;rw [QQ,stmt]
 simp only [ZQ,hb,hs]
 simp only [<-QQ,kL,qe4,qbu,yd,jo,qd0]
theorem qbc{r:Nat}{s:DS}{A B:qD}(p:A.Perm B):(s.own r A).Perm (s.own r B):=by
 unfold DS.own DS.rest;exact((((p.append_left _).append_left _).append_left _).cons _).cons _
theorem CK.swap{x y:Nat×List qa}(h:CK Z r s (x::y::A) F H nx):CK Z r s (y::x::A) F H nx:=SH.perm (qbc (List.Perm.swap _ _ _)) h
abbrev stF(r q x y:Nat)(k:Int):Env:=qe .und [(0,.ptr r 0),(3,.ptr q 0),(4,.ptr x 0),(5,.ptr y 0),(15,iv k)]
theorem Yn(d:DT)(hk:d.kd=10->∀e∈d.kids,StP Z e)(hB:d.kd=14\/d.kd=15->BlP Z (qQ d.kids 1))(h2:d.kd=14->StP Z (qQ d.kids 2))(hy:(qQ d.kids 1).ht<=d.ht)(hz:(qQ d.kids 2).ht<=d.ht):StP Z d:=by
 intro r s A F H nx K hd hi hr b1 b2 h ho;rw [qpu]at ho;unfold qfc at ho;refine qo.of_code (nt:=177) qj4 ?_
 rw [qi9];refine WpP.weaken (e:=qe .und [(0,.ptr r 0),(1,.agg [iv d.kd,.str d.nm,iv d.nn,iv d.li,iv d.co,d.kw])]) (qq.okay) ?_
 refine WpP.seq (WpP.partK (ts:=[0,3]) qp ?_)
 refine Eq.mpr (qrh ..) ?_
 refine h.mkN (cs:=d.cells) lR λH0 c0=> ?_
 show WpP PG 177 _ _ _ _ _ _
 refine WpP.seq (WpP.partK (ts:=[0,3,4,5]) qp ?_)
 refine Eq.mpr (qrd ..) ?_
 refine⟨_,_,_,_,_,_,c0.ldA .hd rfl,_,_,_,_,_,_,c0.ldA .hd rfl,c0.mk1 (cs:=zT.cells) (by omega) λH1 c1=>c1.mk1 (cs:=zT.cells) (by omega) λH2 c2=> ?_⟩
 have lq {H:qc} {n a b:Nat} {u v:List qa} (c:CK Z r s ((a,u)::(b,v)::(nx,d.cells)::A) F H n):=c.ldA (sz:=6) (.tl (.tl .hd)) rfl
 obtain⟨Γ,s2,_,_,_,hF,_,back⟩:=c2.ro
 refine⟨⟨⟨_,_,_,_,_,_,lq c2,rfl⟩,⟨_,_,_,_,_,_,lq c2,rfl⟩,trivial⟩,jf (i:=0) (s2.more (by omega)) (hd Γ hF) λH3 n3 g3 s3=>qb.2 ⟨_,_,_,_,_,_,rfl,⟨⟨_,_,_,_,_,_,lq (back H3 n3 s3),rfl⟩,trivial⟩,
  jf (i:=1) s3 (hd Γ hF) λH4 n4 g4 s4=>qb.2 ⟨_,_,_,_,_,_,rfl,trivial,?_⟩⟩⟩
 refine(back H4 n4 s4).swap.all (vs:=(qQ d.kids 0).cells) rfl (hd Γ hF).kids.kid.cell λH5 c5=>⟨trivial,c5.swap.all (vs:=(qQ d.kids 1).cells) rfl (hd Γ hF).kids.kid.cell λH6 c6=>⟨trivial,?_⟩⟩
 show WpP PG 177 _ _ _ _ _ _
 have g6:nx<=n4:=by omega
 have hx:Ent F λΓ=>DF Γ (qQ d.kids 0):=λΓ hq=>(hd Γ hq).kids.kid
 have hyd:Ent F λΓ=>DF Γ (qQ d.kids 1):=λΓ hq=>(hd Γ hq).kids.kid
 clear back s4 s3 s2 hF c0 c1 c2 c5 g3 g4 lq
 generalize nx+1+4=xb at c6
 generalize nx+1+5=yb at c6
 generalize hx_:qQ d.kids 0=x at*
 generalize hy_:qQ d.kids 1=y at*
 refine WpP.seq (WpP.partK (ts:=[0,3,4,5,15]) qp ?_)
 refine Eq.mpr (qqj ..) ?_
 refine⟨_,rfl,_,c6.ld1 (.tl (.tl .hd)) 0,?_⟩
 show WpP PG 177 _ _ _ _ _ _
 have k:StK K (WC 0 (qy PG (z9 (qM PG)) (ze PG (qM PG)) K (qP PG qO))) r nx xb yb:=⟨λH n h=>by rw [qmo];exact h,λl H n h=>by rw [qly];exact h⟩
 have hs:A.Sublist ((yb,y.cells)::(xb,x.cells)::(nx,d.cells)::A):= .cons _ (.cons _ (.cons _ (.refl _)))
 have oq:Own ((yb,y.cells)::(xb,x.cells)::(nx,d.cells)::A) nx d.cells:= .tl (.tl .hd)
 have ox:Own ((yb,y.cells)::(xb,x.cells)::(nx,d.cells)::A) xb x.cells:= .tl .hd
 have oy:Own ((yb,y.cells)::(xb,x.cells)::(nx,d.cells)::A) yb y.cells:= .hd
 refine WpP.block ?_
 refine WpP.seq (WpP.partK (ts:=[0,3,4,5,15,16]) qp ?_)
 refine Eq.mpr (qn6 ..) ?_
 show WpP PG 177 _ _ _ _ _ _
 refine WpP.case (k:=d.kd) (j:=10) rfl (λh=> ?_) (λh=> ?_)
 ·rw [if_pos h]at ho;exact WpP.weaken (e:=stE r nx xb yb) (qq.okay) (qvr k hs c6 g6 oq (λK' ho'=>qes (hk h) hd hi hr b1 (by omega) c6 ho') ho)
 rw [if_neg h]at ho;refine WpP.weaken (e:=stF r nx xb yb d.kd) (qq.okay) ?_
 refine WpP.seq (WpP.partK (ts:=[0,3,4,5,15,21]) qp ?_)
 refine Eq.mpr (qna ..) ?_
 show WpP PG 177 _ _ _ _ _ _
 refine WpP.case (k:=d.kd) (j:=11) rfl (λh=> ?_) (λh=> ?_)
 ·rw [if_pos h]at ho;exact WpP.weaken (e:=stE r nx xb yb) (qq.okay) (qvq k hs c6 g6 oq ox oy hx hyd hi ho)
 rw [if_neg h]at ho;refine WpP.weaken (e:=stF r nx xb yb d.kd) (qq.okay) ?_
 refine WpP.seq (WpP.partK (ts:=[0,3,4,5,15,42]) qp ?_)
 refine Eq.mpr (qki ..) ?_
 show WpP PG 177 _ _ _ _ _ _
 refine WpP.case (k:=d.kd) (j:=12) rfl (λh=> ?_) (λh=> ?_)
 ·rw [if_pos h]at ho;exact WpP.weaken (e:=stE r nx xb yb) (qq.okay) (qvm k hs c6 g6 oq ox oy hyd hi.g hi.v hi.m ho)
 rw [if_neg h]at ho;refine WpP.weaken (e:=stF r nx xb yb d.kd) (qq.okay) ?_
 refine WpP.seq (WpP.partK (ts:=[0,3,4,5,15,68]) qp ?_)
 refine Eq.mpr (ql0 ..) ?_
 show WpP PG 177 _ _ _ _ _ _
 refine WpP.case (k:=d.kd) (j:=13) rfl (λh=> ?_) (λh=> ?_)
 ·rw [if_pos h]at ho;exact WpP.weaken (e:=stE r nx xb yb) (qq.okay) (qvx k hs c6 g6 oq ox oy hx hyd hi.g hi.v ho)
 rw [if_neg h]at ho;refine WpP.weaken (e:=stF r nx xb yb d.kd) (qq.okay) ?_
 refine WpP.seq (WpP.partK (ts:=[0,3,4,5,15,75]) qp ?_)
 refine Eq.mpr (qol ..) ?_
 show WpP PG 177 _ _ _ _ _ _
 refine WpP.case (k:=d.kd) (j:=14) rfl (λh=> ?_) (λh=> ?_)
 ·rw [if_pos h]at ho;exact WpP.weaken (e:=stE r nx xb yb) (qq.okay) (qvs k hs c6 g6 oq ox oy hd hx hyd (hB (.inl h)) (h2 h) hi hr (by omega) (by omega) (by omega) (by omega) ho)
 rw [if_neg h]at ho;refine WpP.weaken (e:=stF r nx xb yb d.kd) (qq.okay) ?_
 refine WpP.seq (WpP.partK (ts:=[0,3,4,5,15,95]) qp ?_)
 refine Eq.mpr (qnm ..) ?_
 show WpP PG 177 _ _ _ _ _ _
 refine WpP.case (k:=d.kd) (j:=15) rfl (λh=> ?_) (λh=> ?_)
 ·rw [if_pos h]at ho;exact WpP.weaken (e:=stE r nx xb yb) (qq.okay) (qvu k hs c6 g6 ox oy hx hyd (hB (.inr h)) hi hr (by omega) (by omega) ho)
 rw [if_neg h]at ho;refine WpP.weaken (e:=stF r nx xb yb d.kd) (qq.okay) ?_
 refine WpP.seq (WpP.partK (ts:=[0,3,4,5,15,126]) qp ?_)
 refine Eq.mpr (qmq ..) ?_
 by_cases h1617:d.kd=16\/d.kd=17
 ·rw [if_pos h1617]at ho;refine qf.2 ⟨λh=> ?_,λh=> ?_⟩
  ·show WpP PG 177 _ _ _ _ _ _
   refine WpP.cond (p:=true) rfl (WpP.weaken (e:=stE r nx xb yb) (qq.okay) (qva k hs c6 g6 oq ho))
  ·show WpP PG 177 _ _ _ _ _ _
   have h:¬d.kd=16:=of_decide_eq_false h
   exact WpP.case (k:=d.kd) (j:=17) rfl (λ_=>WpP.weaken (e:=stE r nx xb yb) (qq.okay) (qva k hs c6 g6 oq ho)) λh'=>absurd (h1617.resolve_left h) h'
 rw [if_neg h1617]at ho;refine ifF (decide_eq_false λe=>h1617 (.inl e)) ?_
 show WpP PG 177 _ _ _ _ _ _
 refine WpP.case (k:=d.kd) (j:=17) rfl (λh=>absurd (.inr h) h1617) (λh=> ?_)
 refine WpP.weaken (e:=stF r nx xb yb d.kd) (qq.okay) ?_
 refine WpP.seq (WpP.partK (ts:=[0,3,4,5,15,137]) qp ?_)
 refine Eq.mpr (qo1 ..) ?_
 show WpP PG 177 _ _ _ _ _ _
 refine WpP.case (k:=d.kd) (j:=18) rfl (λh=> ?_) (λh=> ?_)
 ·rw [if_pos h]at ho;exact WpP.weaken (e:=stE r nx xb yb) (qq.okay) (qvw k hs c6 g6 oq ox hx hi.g hi.v hr ho)
 rw [if_neg h]at ho;refine WpP.weaken (e:=stF r nx xb yb d.kd) (qq.okay) ?_
 refine WpP.seq (WpP.partK (ts:=[0,3,4,5,15,143]) qp ?_)
 refine Eq.mpr (qmt ..) ?_
 show WpP PG 177 _ _ _ _ _ _
 refine WpP.case (k:=d.kd) (j:=19) rfl (λh=> ?_) (λh=> ?_)
 ·rw [if_pos h]at ho;exact WpP.weaken (e:=stE r nx xb yb) (qq.okay) (qvt k hs c6 g6 oq ox hx hi.g hi.v ho)
 rw [if_neg h]at ho;refine WpP.weaken (e:=stF r nx xb yb d.kd) (qq.okay) ?_
 refine WpP.seq (WpP.partK (ts:=[0,3,4,5,15,159]) qp ?_)
 refine Eq.mpr (qnx ..) ?_
 show WpP PG 177 _ _ _ _ _ _
 refine WpP.case (k:=d.kd) (j:=20) rfl (λh=> ?_) (λh=> ?_)
 ·rw [if_pos h]at ho;exact WpP.weaken (e:=stE r nx xb yb) (qq.okay) (qvo k hs c6 g6 ox hx hi.g hi.v ho)
 rw [if_neg h]at ho;refine WpP.weaken (e:=stF r nx xb yb d.kd) (qq.okay) ?_
 exact WpP.skip (k.nm H6 n4 (ho s H6 n4 g6 Chg.refl (c6.selA hs)))
theorem qve:zT.ht=1:=rfl
theorem qow:StP Z zT:=Yn zT (λh=>nomatch h) (λh=>h.elim (λh=>nomatch h) (λh=>nomatch h)) (λh=>nomatch h) lR lR
theorem qa6{d:DT}(i:Nat):(qQ d.kids i).ht<=d.ht:=by
 by_cases hi:i<d.kids.length
 ·have e:qQ d.kids i=d.kids[i]:=by unfold qQ;simp [List.getD,hi]
  rw [e];have:=ZY (List.getElem_mem hi);omega
 ·have e:qQ d.kids i=zT:=by unfold qQ;simp [List.getD,List.getElem?_eq_none (by omega:d.kids.length<=i)]
  rw [e,qve];cases d with
  |node=>unfold DT.ht;omega
theorem KX:∀(n:Nat) (d:DT),d.ht<=n->StP Z d
 |0,d,h=>by
  cases d with
  |node=>unfold DT.ht at h;omega
 |n+1,d,h=>by
  have kid (e:DT) (he:e∈d.kids):StP Z e:= @KX n e (by have:=ZY he;omega)
  have hB:BlP Z (qQ d.kids 1):=qes λe he=>by
   refine KX n e ?_
   by_cases hi:1<d.kids.length
   ·have e1:qQ d.kids 1=d.kids[1]:=by unfold qQ;simp [List.getD,hi]
    rw [e1]at he;have:=ZY he
    have:=ZY (List.getElem_mem hi)
    omega
   ·have e1:qQ d.kids 1=zT:=by unfold qQ;simp [List.getD,List.getElem?_eq_none (by omega:d.kids.length<=1)]
    rw [e1]at he;cases he
  have hS:StP Z (qQ d.kids 2):=by
   by_cases hi:2<d.kids.length
   ·have e1:qQ d.kids 2=d.kids[2]:=by unfold qQ;simp [List.getD,hi]
    rw [e1];exact kid _ (List.getElem_mem hi)
   ·have e1:qQ d.kids 2=zT:=by unfold qQ;simp [List.getD,List.getElem?_eq_none (by omega:d.kids.length<=2)]
    rw [e1];exact qow
  have res:= @Yn _ Z d (λ_=> @kid) (λ_=> @hB) (λ_=> @hS) (qa6 1) (qa6 2)
  exact res
theorem qkj(d:DT):StP Z d:= @KX _ Z d.ht d lR
theorem qqt(d:DT):BlP Z d:=qes λe _=> @qkj _ Z e
end
def qhf(K:qr):qr:=λe H nx=>match e with
 | .ret (.slice b off n esz true)=>K (.ret (.slice b off n esz false)) H nx
 |e=>K e H nx
theorem qo.unfull{P:Program}{f:FuncId}{args:List qa}{H:qc}{nx:Nat}{K:qr}(h:qo P f args H nx (qhf K)):qo P f args H nx K:=by
 intro σ w args' R hr hd hR;refine h σ w args' R hr hd λe H' nx' σ' w' en hk R1 E1 X1=> ?_
 unfold qhf at hk;split at hk
 ·refine hR _ H' nx' σ' w' en hk R1 E1 ?_
  cases en with
  |returned v=>
   have X1:Den σ' _ v:=X1
   show Den σ' _ v
   cases X1 with
   |slice a b c _=>exact .slice a b c (λh=>nomatch h)
   |slice0 a=>exact .slice0 a
  |panicked c=>exact X1.elim
  |outgrown=>exact X1.elim
 ·exact hR _ H' nx' σ' w' en hk R1 E1 X1
section
variable{r:Nat}{s s':DS}{A B:qD}{F G:zr}{H:qc}{nx nx' n:Nat}{K:qr}{d x:DT}{Γ:GH}
def qv7:List qa:=[iv 0,u5 [],iv 0,u9,u9,iv 1,u5 [105,110,116],iv 0,u9,u9,iv 2,u5 [98,111,111,108],iv 0,u9,u9,iv 3,u5 [115,116,114,105,110,103],iv 0,u9,u9,iv 4,u5 [110,105,108],iv 0,u9,u9]
theorem qcu(h:SH Z A F H nx)(hK:∀H',SH Z ((nx,qv7)::A) F H' (nx+1)->K (.ret (.slice nx 0 5 5 false)) H' (nx+1)):qo PG wT [] H nx K:=by
 refine qo.unfull (qo.of_body qp ?_)
 refine Eq.mpr (qca (_u:=0) ..) ?_
 exact⟨rfl,rfl,rfl,rfl,rfl,rfl,rfl,rfl,rfl,h.mk1 lR λH1 h1=>hK H1 h1⟩
theorem CK.base(h:CK Z r s A F H nx)(hK:∀H' n',nx<=n'->CK Z r s A F H' n'->K (.ret (.slice nx 0 5 5 false)) H' n'):qo PG wT [] H nx K:=
 qcu h λH' h'=>hK H' _ (by omega) (SH.drop h')
def Dw(Z:Nat->Prop)(r:Nat)(s:DS)(A:qD)(F:zr)(nx:Nat)(K:qr)(x:Ex (List Ty)):Prop:=
 qE x (λT=>∀s' H' nx',nx<=nx'->jC s s' T->CK Z r s' A F H' nx'->K (.ret (.tuple [])) H' nx') λf=>∀H' nx',nx<=nx'->SH Z A F H' nx'->K (.pan [(jQ f,false)]) H' nx'
theorem qa1(hd:Ent F λΓ=>DF Γ d)(h:CK Z r s A F H nx)(ho:Dw Z r s A F nx K (Ck.declared s.sv.T d.er)):qo PG yV [.ptr r 0,d.val] H nx K:=by
 refine qo.of_body qp ?_
 refine Eq.mpr (VD ..) ?_
 unfold Ck.declared at ho;rw [jo,kL]at ho;have hlen:s.sv.T.length=s.T.length:=by simp [DS.sv]
 refine h.mkN (cs:=d.cells) lR λH0 h0=> ?_
 obtain⟨Γ,s0,hv,hr,hok,hF,hA,back⟩:=h0.ro
 have hN:s.T.length<=1000:=hok.tN
 refine⟨_,rfl,_,h0.ld1 .hd 1,KQ s0 hv λH1 n1 g1 s1=> ?_⟩
 have c1:=back H1 n1 s1
 have go (b:Bool) (hb:b=(Ck.named s.sv.T d.nm).isSome) (k:Int):∃n9 s10 n11 n12 n13 v14,ldN H1 6 (u0 nx 0)=some (u6 [iv n9,u5 s10,iv n11,iv n12,iv n13,v14])/\True:=⟨_,_,_,_,_,_,c1.ldA .hd rfl,trivial⟩
 have e2:XX (Ck.named s.sv.T d.nm)= .tuple [iv ((Ck.named s.sv.T d.nm).getD 0),.bool (Ck.named s.sv.T d.nm).isSome]:=by cases Ck.named s.sv.T d.nm<;>rfl
 rw [e2];refine qb.2 ⟨_,_,rfl,_,_,_,_,_,_,c1.ldA .hd rfl,c1.need (λhb H2 n2 g2 c2=>qb.2 ?_) λhb H2 n2 g2 c2=>ql.2 ?_⟩
 ·have hb':(Ck.named s.sv.T d.nm).isNone=true:=by cases hq:Ck.named s.sv.T d.nm with
   |none=>rfl
   |some i=>rw [hq]at hb;cases hb
  have ho:=qE.needT ho hb'
  have l0 {H:qc} {n:Nat} {A:qD} (c:CK Z r s A F H n):=c.cell 0
  have dq {H:qc} {n:Nat} (c:CK Z r s ((nx,d.cells)::A) F H n):=c.ldA (sz:=6) .hd rfl
  refine⟨rfl,_,rfl,_,c2.cell 0,_,rfl,_,_,_,_,_,_,dq c2,⟨⟨_,c2.cell 0,rfl⟩,⟨_,_,_,_,_,_,dq c2,rfl⟩,trivial⟩,(c2.more (by omega)).base λH3 n3 g3 c3=>qb.2 ⟨_,rfl,⟨⟨_,c3.cell 0,rfl⟩,⟨_,_,_,_,_,_,dq c3,rfl⟩,trivial⟩,c3.need (λhb H4 n4 g4 c4=>qb.2 ?_) λhb H4 n4 g4 c4=>ql.2 ?_⟩⟩
  ·have h40:s.sv.T.length - 5<40:=by
    have:=of_decide_eq_true hb
    simp only [Int.ofNat_eq_natCast]at this
    rw [qB (by omega) (by omega)]at this
    omega
   have ho:=qE.needT ho (decide_eq_true h40)
   have fin (kk:Nat) (hk:kk=if d.kd=3 then 7 else 5):∃H57,H57=qC (n4+9) [iv kk,u5 d.nm,iv 0,u9,u9] H4/\((∃v58,ld1 H57 (.ptr r 0)=some v58/\v58= .slice s.tb 0 s.T.length 5 false)/\(∃s59,ld1 H57 (.ptr nx 1)=some (u5 s59)/\u5 s59=u5 d.nm)/\True)/\
     ∃i60 l61,jN 5 H57 (qa.slice (n4+9) 0 1 5 true)=some (i60,l61)/\qt l61=true/\∃v62 H63 i64,z3 H57 (n4+14) 5 80 (.slice s.tb 0 s.T.length 5 false) i60 l61=some (v62,H63,i64)/\true=true/\∃v65,some (u0 r 0)=some v65/\True/\qZ v62=true/\∃H66,stC H63 v65 [v62]=some H66/\True/\K (U3 (U0 [])) H66 i64:=by
    refine c4.mk1 (cs:=tyC (⟨kk,d.nm,0,[],[]⟩,.nilSlice,.nilSlice)) (by omega) λH5 h5=>⟨⟨⟨_,h5.cell 0,rfl⟩,⟨_,h5.ld1 (.tl .hd) 1,rfl⟩,trivial⟩,_,_,SH.srcO (sz:=5) h5 (CK.ownA .hd) (by simp [tyC]),rfl,?_⟩
    obtain⟨H6,e6,H7,e7,h7⟩:=(h5.more (nx':=n4+14) (by omega)).addTy (t:=⟨kk,d.nm,0,[],[]⟩) rfl rfl (by omega)
    refine⟨_,H6,_,e6,rfl,_,rfl,trivial,rfl,H7,e7,trivial,ho _ H7 _ (by omega) ⟨_,_,rfl,?_⟩ h7.drop.drop⟩
    simp [DS.sv,hk]
   refine⟨trivial,_,rfl,_,c4.ld1 .hd 0,qf.2 ⟨λh3=>⟨rfl,_,rfl,_,c4.cell 0,_,rfl,_,c4.ld1 .hd 1,rfl,rfl,?_⟩,λh3=>⟨rfl,_,rfl,_,c4.cell 0,_,rfl,_,c4.ld1 .hd 1,rfl,rfl,?_⟩⟩⟩
   ·exact fin 7 (by rw [if_pos (of_decide_eq_true h3)])
   ·exact fin 5 (by rw [if_neg (of_decide_eq_false h3)])
  ·have h40:¬s.sv.T.length - 5<40:=by
    have:=of_decide_eq_false hb
    simp only [Int.ofNat_eq_natCast]at this
    rw [qB (by omega) (by omega)]at this
    omega
   have:=qE.needF ho (decide_eq_false h40)
   rw [zh]at this;exact this H4 n4 (by omega) c4.drop.end_
 ·have hb':(Ck.named s.sv.T d.nm).isNone=false:=by cases hq:Ck.named s.sv.T d.nm with
   |none=>rw [hq]at hb;cases hb
   |some i=>rfl
  have:=qE.needF ho hb'
  rw [zh]at this;exact this H2 n2 (by omega) c2.drop.end_
end
section
variable{α:Type}{r:Nat}{s s':DS}{A B R Q:qD}{F G:zr}{H:qc}{nx nx' n b sz eb j:Nat}{c:α->List qa}{l:List α}{e:α}{T1 T2:List DTy}{x x':DTy}
theorem qho:(R++s.own r A).Perm (s.own r (R++A)):=by
 induction R with
 |nil=>exact .refl _
 |cons y R ih=>exact(ih.cons y).trans Wd
theorem CK.appA(hc:∀x,(c x).length=sz)(h0:0<sz)(h9:sz<=16)(h8:eb<=128)(hN:l.length<=100000)(h:CK Z r s (zc c b l++A) F H nx):
  ∃H',z3 H nx sz eb (qT b sz l) 1 (c e)=some (qT nx sz (l++[e]),H',nx+1)/\CK Z r s (zc c nx (l++[e])++A) F H' (nx+1):=by
 obtain⟨H',e1,e2⟩:=SH.appO (x:=e) hc h0 h9 h8 hN (SH.perm qho.symm h)
 exact⟨H',e1,SH.perm qho e2⟩
theorem CK.asF(h:SH Z B (s.ok::F) H nx)(he:B.Perm (s'.own r A))(ho:∀Γ,s.ok Γ->(∀P,P∈F->P Γ)->s'.ok Γ):CK Z r s' A F H nx:=by
 refine SH.sub (SH.add (SH.perm he h) (P:=s'.ok) λΓ hq=>ho Γ (hq _ (.head _)) λP hP=>hq _ (.tail _ hP)) λP hP=> ?_
 rcases List.mem_cons.1 hP with rfl|hP
 ·exact .head _
 ·exact .tail _ (.tail _ hP)
theorem CK.sub(h:CK Z r s A F H nx)(hs:G⊆F):CK Z r s A G H nx:=SH.sub h λP hP=>by
 rcases List.mem_cons.1 hP with rfl|hP
 ·exact .head _
 ·exact .tail _ (hs hP)
theorem CK.freezeO(hc:∀x,(c x).length=sz)(hN:l.length<=100000)(h:CK Z r s (zc c b l++A) F H nx):CK Z r s A ((λΓ=>q9 c sz Γ (qT b sz l) l)::F) H nx:=by
 cases l with
 |nil=>
  refine SH.sub (SH.add (P:=λΓ=>q9 c sz Γ .nilSlice ([]:List α)) h λΓ _=> .nil) λP hP=> ?_
  rcases List.mem_cons.1 hP with rfl|hP
  ·exact .tail _ (.head _)
  ·rcases List.mem_cons.1 hP with rfl|hP
   ·exact .head _
   ·exact .tail _ (.tail _ hP)
 |cons y l=>
  have h1:=SH.freeze (CK.top h)
  refine SH.sub (SH.add (P:=λΓ=>q9 c sz Γ (qT b sz (y::l)) (y::l)) h1 λΓ hq=>ZJ hc hN λb' cs hb=> ?_) λP hP=> ?_
  ·obtain⟨rfl,rfl⟩:=Prod.mk.inj (List.mem_singleton.1 hb)
   exact hq _ (.head _)
  ·rcases List.mem_cons.1 hP with rfl|hP
   ·exact .tail _ (.tail _ (.head _))
   ·rcases List.mem_cons.1 hP with rfl|hP
    ·exact .head _
    ·exact .tail _ (.tail _ (.tail _ hP))
theorem qkl(v:Ty×qa×qa):(tyC v).length=5:=rfl
theorem qry{v:qa}(hj:j<5)(hx:tyC x'.v=(tyC x.v).set j v):((((T1++x::T2).map DTy.v).flatMap tyC).set (T1.length*5+j) v)=((T1++x'::T2).map DTy.v).flatMap tyC:=by
 have hl:((T1.map DTy.v).flatMap tyC).length=T1.length*5:=by rw [zY (c:=tyC) (sz:=5) qkl,List.length_map]
 rw [List.map_append,List.flatMap_append,List.map_append,List.flatMap_append,List.map_cons,List.map_cons,List.flatMap_cons,List.flatMap_cons];rw [List.set_append_right _ _ (by omega),hl,List.set_append_left _ _ (by rw [qkl];omega),hx]
 congr 4
 omega
theorem CK.addRow(hT:s.T=T1++x::T2)(hc:∀x,(c x).length=sz)(h0:0<sz)(h9:sz<=16)(h8:eb<=128)(hN:l.length<=100000)(hj:j<5)
  (hr:x.rows.Perm (zc c b l++Q)) (hr':x'.rows.Perm (zc c nx (l++[e])++Q)) (hx:tyC x'.v=(tyC x.v).set j (qT nx sz (l++[e])))
  (hok:∀Γ,x.ok Γ->(∀P,P∈F->P Γ)->x'.ok Γ) (h:CK Z r s A F H nx):
  ∃H',z3 H nx sz eb (qT b sz l) 1 (c e)=some (qT nx sz (l++[e]),H',nx+1)/\Vs.ld1 H' (.ptr r 0)=some (.slice s.tb 0 s.T.length 5 false)/\(∀b cs,(b,cs)∈A->∀j,Vs.ld1 H' (.ptr b j)=cs[j]?)/\
   ∃H'',stC H' (.ptr s.tb (T1.length*5+j)) [qT nx sz (l++[e])]=some H''/\CK Z r {s with T:=T1++x'::T2} A F H'' (nx+1):=by
 have p1 (x:DTy) {B:qD} (hr:x.rows.Perm (B++Q)) (fs vr:qD):(fs++(vr++((T1++x::T2).flatMap DTy.rows++A))).Perm (B++(fs++(vr++(T1.flatMap DTy.rows++(Q++(T2.flatMap DTy.rows++A)))))):=by
  rw [List.flatMap_append,List.flatMap_cons];have e1:(T1.flatMap DTy.rows++(x.rows++T2.flatMap DTy.rows)++A).Perm (B++(T1.flatMap DTy.rows++(Q++(T2.flatMap DTy.rows++A)))):=by
   have e2:(T1.flatMap DTy.rows++(x.rows++T2.flatMap DTy.rows)++A).Perm (T1.flatMap DTy.rows++((B++Q)++T2.flatMap DTy.rows)++A):=((hr.append_right _).append_left _).append_right _
   refine e2.trans ?_
   have e3:T1.flatMap DTy.rows++((B++Q)++T2.flatMap DTy.rows)++A=T1.flatMap DTy.rows++(B++(Q++(T2.flatMap DTy.rows++A))):=by simp [List.append_assoc]
   rw [e3];exact List.perm_append_comm_assoc _ _ _
  exact((e1.append_left vr).append_left fs).trans (((List.perm_append_comm_assoc vr B _).append_left fs).trans (List.perm_append_comm_assoc fs B _))
 have hrest:=p1 x hr (zc sgC s.fb s.fs) s.vrow
 have h1:SH Z (zc c b l++((r,s.cells)::(s.tb,(s.T.map DTy.v).flatMap tyC)::(zc sgC s.fb s.fs++(s.vrow++(T1.flatMap DTy.rows++(Q++(T2.flatMap DTy.rows++A))))))) (s.ok::F) H nx:=by
  refine SH.perm ?_ h
  unfold DS.own DS.rest;rw [hT];refine((hrest.cons _).cons _).trans ?_
  exact(List.perm_middle.symm.cons _).trans List.perm_middle.symm
 obtain⟨H',e1,e2⟩:=SH.appO (x:=e) hc h0 h9 h8 hN h1
 refine⟨H',e1,?_,λb' cs' hb' j=>SH.ld1 e2 (Own.mem (List.mem_append.2 (.inr (.tail _ (.tail _ (List.mem_append.2 (.inr (List.mem_append.2 (.inr (List.mem_append.2 (.inr (List.mem_append.2 (.inr (List.mem_append.2 (.inr hb'))))))))))))))) j,?_⟩
 ·have:Own (zc c nx (l++[e])++((r,s.cells)::(s.tb,(s.T.map DTy.v).flatMap tyC)::(zc sgC s.fb s.fs++(s.vrow++(T1.flatMap DTy.rows++(Q++(T2.flatMap DTy.rows++A))))))) r s.cells:=Own.mem (List.mem_append.2 (.inr (.head _)))
  rw [SH.ld1 e2 this];rfl
 have h3:SH Z ((s.tb,(s.T.map DTy.v).flatMap tyC)::(r,s.cells)::(zc c nx (l++[e])++(zc sgC s.fb s.fs++(s.vrow++(T1.flatMap DTy.rows++(Q++(T2.flatMap DTy.rows++A))))))) (s.ok::F) H' (nx+1):=by
  refine SH.perm ?_ e2
  exact(List.perm_middle.trans (List.perm_middle.cons _)).trans (List.Perm.swap _ _ _)
 have hv:qZ (qT nx sz (l++[e]))=true:=zp
 have hlen:T1.length*5+j<((s.T.map DTy.v).flatMap tyC).length:=by
  rw [zY (c:=tyC) (sz:=5) qkl,List.length_map,hT,List.length_append,List.length_cons];omega
 obtain⟨H'',e3,e4⟩:=SH.st (off:=T1.length*5+j) (vs:=[qT nx sz (l++[e])]) h3 (by rw [Jo hlen];exact .hd) hlen (by simp [qt,hv])
 refine⟨H'',e3,CK.asF e4 ?_ λΓ o hF=> ?_⟩
 ·rw [hT,qry hj hx];show List.Perm _ ((r,DS.cells {s with T:=T1++x'::T2})::(s.tb,((T1++x'::T2).map DTy.v).flatMap tyC)::(zc sgC s.fb s.fs++(s.vrow++((T1++x'::T2).flatMap DTy.rows++A))))
  have ec:DS.cells {s with T:=T1++x'::T2}=s.cells:=by
   unfold DS.cells;rw [hT];simp only [List.length_append,List.length_cons]
   rfl
  rw [ec];exact(List.Perm.swap _ _ _).trans ((((p1 x' hr' _ _).symm).cons _).cons _)
 ·refine⟨λy hy=> ?_,o.fs,o.fw,?_,o.fN,o.vN,o.v0,o.dw,o.nw⟩
  ·have ht:=o.ty
   rw [hT]at ht;rcases List.mem_append.1 hy with hy|hy
   ·exact ht y (List.mem_append.2 (.inl hy))
   ·rcases List.mem_cons.1 hy with rfl|hy
    ·exact hok Γ (ht x (List.mem_append.2 (.inr (.head _)))) hF
    ·exact ht y (List.mem_append.2 (.inr (.tail _ hy)))
  ·have:=o.tN
   rw [hT]at this;show(T1++x'::T2).length<=1000
   simp only [List.length_append,List.length_cons]at this ⊢
   exact this
theorem V0{t:Nat}{T:List DTy}(h:t<T.length):∃T1 x T2,T=T1++x::T2/\T1.length=t/\x=T[t]:=⟨T.take t,T[t],T.drop (t+1),by rw [<-List.drop_eq_getElem_cons h,List.take_append_drop],by rw [List.length_take];omega,rfl⟩
theorem CK.addFld{f:Bs×Nat}(hT:s.T=T1++x::T2)(hN:x.t.fields.length<1000)(h:CK Z r s A F H nx):
  ∃H',z3 H nx 2 24 (qT x.fb 2 x.t.fields) 1 (Xw f)=some (qT nx 2 (x.t.fields++[f]),H',nx+1)/\Vs.ld1 H' (.ptr r 0)=some (.slice s.tb 0 s.T.length 5 false)/\(∀b cs,(b,cs)∈A->∀j,Vs.ld1 H' (.ptr b j)=cs[j]?)/\
   ∃H'',stC H' (.ptr s.tb (T1.length*5+3)) [qT nx 2 (x.t.fields++[f])]=some H''/\CK Z r {s with T:=T1++{x with t:={x.t with fields:=x.t.fields++[f]},fb:=nx}::T2} A F H'' (nx+1):=
 CK.addRow (x':={x with t:={x.t with fields:=x.t.fields++[f]},fb:=nx}) (c:=Xw) (l:=x.t.fields) (b:=x.fb) (Q:=zc wg x.mb x.ms) (e:=f) hT (λ_=>rfl) (by omega) (by omega) (by omega) (by omega) (by omega) (.refl _) (.refl _) rfl
  (λΓ o _=>⟨o.1,by show(x.t.fields++[f]).length<=1000;rw [List.length_append];simp;omega,o.2.2.1,o.2.2.2⟩) h
theorem CK.addMth{m:yM}{pw:qa}(hT:s.T=T1++x::T2)(hN:x.t.methods.length<1000)(h:CK Z r s A F H nx)(hp:(λΓ=>kY Γ pw m.params)∈F):
  ∃H',z3 H nx 4 56 (qT x.mb 4 x.ms) 1 (wg (m,pw))=some (qT nx 4 (x.ms++[(m,pw)]),H',nx+1)/\Vs.ld1 H' (.ptr r 0)=some (.slice s.tb 0 s.T.length 5 false)/\(∀b cs,(b,cs)∈A->∀j,Vs.ld1 H' (.ptr b j)=cs[j]?)/\
   ∃H'',stC H' (.ptr s.tb (T1.length*5+4)) [qT nx 4 (x.ms++[(m,pw)])]=some H''/\CK Z r {s with T:=T1++{x with t:={x.t with methods:=x.t.methods++[m]},mb:=nx,pw:=x.pw++[pw]}::T2} A F H'' (nx+1):=by
 have ho:∃Γ,x.ok Γ:=by
  obtain⟨Γ,o,_⟩:=h.okF
  exact⟨Γ,o.ty x (by rw [hT];simp)⟩
 obtain⟨Γ0,o0⟩:=ho
 have ems:DTy.ms {x with t:={x.t with methods:=x.t.methods++[m]},mb:=nx,pw:=x.pw++[pw]}=x.ms++[(m,pw)]:=by
  unfold DTy.ms;show(x.t.methods++[m]).zip (x.pw++[pw])=_
  rw [List.zip_append o0.1.symm];rfl
 have hl:x.ms.length<=100000:=by unfold DTy.ms;rw [qa3 o0.1];omega
 refine CK.addRow (x':={x with t:={x.t with methods:=x.t.methods++[m]},mb:=nx,pw:=x.pw++[pw]}) (c:=wg) (l:=x.ms) (b:=x.mb) (Q:=zc Xw x.fb x.t.fields) (e:=(m,pw)) hT (λ_=>rfl) (by omega) (by omega) (by omega) hl (by omega) List.perm_append_comm ?_ ?_ (λΓ o hF=>⟨?_,o.2.1,?_,?_⟩) h
 ·unfold DTy.rows;rw [ems];exact List.perm_append_comm
 ·unfold DTy.v tyC;rw [ems];rfl
 ·show(x.pw++[pw]).length=(x.t.methods++[m]).length
  rw [List.length_append,List.length_append,o0.1];rfl
 ·show(x.t.methods++[m]).length<=1000
  rw [List.length_append];simp;omega
 ·rw [ems];intro y hy;rcases List.mem_append.1 hy with hy|hy
  ·exact o.2.2.2 y hy
  ·rw [List.mem_singleton.1 hy];exact hF _ hp
end
theorem vU{α:Type}{b sz:Nat}{l:List α}:zw (qT b sz l)=some l.length:=by cases l<;>rfl
theorem qgl(s:Bs):(VH s).length=1:=rfl
theorem WX(n:Nat):(yv n).length=1:=rfl
section
variable{r q xb yb nb pb t:Nat}{s s':DS}{A B R Q:qD}{F G:zr}{H:qc}{nx n n0:Nat}{K:qr}{K0 K1:KP}{d x k:DT}{Γ:GH}{T1:List Ty}{kk:qc->Prop}{names:List Bs}{ps:List Nat}{nw o:qa}{m i:Int}{b j:Nat}{cs:List qa}{v:qa}
theorem CK.permA(p:A.Perm B)(h:CK Z r s A F H nx):CK Z r s B F H nx:=SH.perm (qbc p) h
theorem CK.one1(h:CK Z r s ((b,cs)::A) F H nx)(hl:j<cs.length)(hv:qZ v=true)(hK:∀H',CK Z r s ((b,cs.set j v)::A) F H' nx->kk H'):∃H1,stC H (.ptr b j) [v]=some H1/\kk H1:=
 h.top.one .hd hl hv λH' h'=>hK H' (CK.of_top h')
def RCh(s s':DS)(T:List Ty):Prop:=∃tb L,s'={s with tb:=tb,T:=L}/\L.map (·.t)=T
theorem jC.rch(h:jC s s' T1):RCh s s' T1:=by obtain⟨tb,L,rfl,e⟩:=h;exact⟨tb,_,rfl,e⟩
theorem RCh.refl:RCh s s s.sv.T:=⟨s.tb,s.T,rfl,rfl⟩
theorem RCh.trans{s1 s2 s3:DS}{T1 T2:List Ty}(h:RCh s1 s2 T1)(h':RCh s2 s3 T2):RCh s1 s3 T2:=by
 obtain⟨b,L,rfl,_⟩:=h
 obtain⟨c,M,rfl,e⟩:=h'
 exact⟨c,M,rfl,e⟩
theorem RCh.T(h:RCh s s' T1):s'.sv.T=T1:=by obtain⟨tb,L,rfl,e⟩:=h;exact e
theorem qrv{T1 T2:List DTy}{x:DTy}{j:Nat}(hj:j<5):(((T1++x::T2).map DTy.v).flatMap tyC)[T1.length*5+j]?=(tyC x.v)[j]?:=by
 have hl:((T1.map DTy.v).flatMap tyC).length=T1.length*5:=by rw [zY (c:=tyC) (sz:=5) qkl,List.length_map]
 rw [List.map_append,List.flatMap_append,List.map_cons,List.flatMap_cons,List.getElem?_append_right (by omega),hl,List.getElem?_append_left (by rw [qkl];omega)]
 congr 1
 omega
theorem CK.tyAt{T1 T2:List DTy}{x:DTy}(hT:s.T=T1++x::T2)(h:CK Z r s A F H nx)(hj:j<5):Vs.ld1 H (.ptr s.tb (T1.length*5+j))=(tyC x.v)[j]?:=by
 rw [SH.ld1 h (.tl .hd),hT,qrv hj]
theorem ZK{T1 T2:List DTy}{x:DTy}(hT:s.T=T1++x::T2):qY (.slice s.tb 0 s.T.length 5 false) ((T1.length:Nat):Int).toNat 5=some (.ptr s.tb (T1.length*5)):=by
 rw [Int.toNat_natCast,yc (by rw [hT,List.length_append,List.length_cons];omega)]
 congr 2
 omega
abbrev EMl(r t:Nat)(nw o:qa)(m i:Int):List (Nat×qa):=[(0,.ptr r 0),(1,iv t),(6,nw),(15,o),(16,iv m),(17,iv i)]
abbrev EMy(r t:Nat)(nw:qa)(x y:Nat)(o:qa)(m i:Int):List (Nat×qa):=[(0,.ptr r 0),(1,iv t),(6,nw),(8,.ptr x 0),(10,.ptr y 0),(15,o),(16,iv m),(17,iv i)]
abbrev EMp(r t:Nat)(nw:qa)(x y:Nat)(o:qa)(m i:Int)(p:qa)(pm pi:Int):List (Nat×qa):=[(0,.ptr r 0),(1,iv t),(6,nw),(8,.ptr x 0),(10,.ptr y 0),(15,o),(16,iv m),(17,iv i),(84,p),(85,iv pm),(86,iv pi)]
theorem qgu{T:List Ty}{n:qu}{ns:List qu}{acc:List Nat}:(Ck.ob (vV T (n::ns)) λq=>(.ok (acc++q.1,q.2):Ex (List Nat×List Ty)))=Ck.ob (typ T n) λp=>Ck.ob (vV p.2 ns) λq=> .ok ((acc++[p.1])++q.1,q.2):=by
 show Ck.ob (Ck.ob (typ T n) _) _=_
 rw [Zs]
 congr 1
 funext p
 obtain⟨x,T1⟩:=p
 show Ck.ob (Ck.ob (vV T1 ns) _) _=_
 rw [Zs]
 congr 1
 funext q
 obtain⟨xs,T2⟩:=q
 show(Except.ok (acc++(x::xs),T2):Ex (List Nat×List Ty))= .ok ((acc++[x])++xs,T2)
 rw [List.append_assoc];rfl
theorem qgd{p:qa}{ks:List DT}{nm:Bs}{rs fn_:Int}{okp:List Nat×List Ty->Prop}{no:Flt->Prop}(hw:Ent F λΓ=>q9 DT.cells 6 Γ p ks/\DFs Γ ks)(hks:ks.length<=1000)
  (h:CK Z r s ((yb,[.str nm,qT pb 1 ([]:List Nat),iv rs,iv fn_])::(zc yv pb ([]:List Nat)++A)) F H n) (g0:nx<=n)
  (ho:qE (Ck.ob (vV s.sv.T (ers ks)) λq=>(.ok ([]++q.1,q.2):Ex (List Nat×List Ty))) okp no)
  (hno:∀f,no f->∀H' n' env,nx<=n'->SH Z A F H' n'->K0 (.pan [(jQ f,false)]) env H' n' [] none)
  (hK:∀s' ps pb' T' H' n',nx<=n'->jC s s' T'->okp (ps,T')->ps.length<=1000->CK Z r s' ((yb,[.str nm,qT pb' 1 ps,iv rs,iv fn_])::(zc yv pb' ps++A)) F H' n'->K0 (.exit 2) (qe .und (EMy r t nw xb yb o m i)) H' n' [] none)
  {env:Env} (he:qq (qe .und (EMp r t nw xb yb o m i p (Int.ofNat ks.length) 0)) env):
  LpP PG 119 (qi (qd PG qK) [1,1,1,0,0,1,1,0,0,1,1,1,1,1,1,1,1,0,1,0,0]) env H n [] none K0:=by
 refine zD (P:=PG) (X:=Nat) (Y:=Unit) (λi'=>qe .und (EMp r t nw xb yb o m i p (ks.length:Int) (i':Int))) (λ_=>qe .und (EMy r t nw xb yb o m i))
  (λm' i' H1 n1=>m'=ks.length - i'/\i'<=ks.length/\nx<=n1/\∃s1 acc pb1 T1,jC s s1 T1/\acc.length<=i'/\CK Z r s1 ((yb,[.str nm,qT pb1 1 acc,iv rs,iv fn_])::(zc yv pb1 acc++A)) F H1 n1/\qE (Ck.ob (vV T1 (ers (ks.drop i'))) λq=>(.ok (acc++q.1,q.2):Ex (List Nat×List Ty))) okp no)
  (λid _ H1 n1=>id=2/\nx<=n1/\∃s1 acc pb1 T1,jC s s1 T1/\acc.length<=ks.length/\okp (acc,T1)/\CK Z r s1 ((yb,[.str nm,qT pb1 1 acc,iv rs,iv fn_])::(zc yv pb1 acc++A)) F H1 n1) ks.length 0 he ⟨rfl,Nat.zero_le _,g0,s,[],pb,_,jC.refl,Nat.le_refl _,h,ho⟩ ?_ ?_
 ·rintro m' i' H1 n1 ⟨rfl,hi,g1,s1,acc,pb1,T1,e1,ha,c1,hf⟩
  refine WpP.partK (ts:=[0,1,6,8,10,15,16,17,84,85,86]) qp ?_
  refine Eq.mpr (qut ..) ?_
  obtain⟨Γ1,s1',_,_,_,hF1,_⟩:=c1.ro
  refine qf.2 ⟨λhc=> ?_,λhc=> ?_⟩
  ·have hc:(i':Int)<(ks.length:Int):=of_decide_eq_true hc
   have hil:i'<ks.length:=by omega
   obtain⟨b,off,i1,i2,_⟩:=q9.rd (sz:=6) zV (hw Γ1 hF1).1 s1'.toZ hil
   have ew:i64.wrap ((i':Int)+1)=((i'+1:Nat):Int):=by rw [qB (by omega) (by omega)];omega
   have hkd:DF Γ1 ks[i']:=(hw Γ1 hF1).2.get (List.getElem_mem hil)
   rw [List.drop_eq_getElem_cons hil]at hf;have hf:qE (Ck.ob (vV T1 (ks[i'].er::ers (ks.drop (i'+1)))) λq=>(.ok (acc++q.1,q.2):Ex (List Nat×List Ty))) okp no:=hf
   rw [qgu]at hf;rw [ew];refine⟨by omega,_,i1,_,_,_,_,_,_,i2,c1.mk1 (cs:=zT.cells) lR λH2 c2=>c2.all (vs:=ks[i'].cells) rfl hkd.cell λH3 c3=>⟨_,_,_,_,_,_,c3.ldA .hd rfl,?_⟩⟩
   refine yH ks[i'] (λΓ hq=>(hw Γ hq).2.get (List.getElem_mem hil)) c3 ?_
   rw [e1.T];refine(qE.ob hf).mono (λpr hp hz=> ?_) λf _ hz H4 n4 g4 s4=>ql.2 ?_
   ·obtain⟨x,T2⟩:=pr
    intro s4 H4 n4 g4 e4 c4;have c4':=c4.drop
    refine qb.2 ⟨_,rfl,_,rfl,_,c4'.ld1 .hd 1,rfl,c4'.mk1 (cs:=[iv x]) lR λH5 c5=>⟨_,_,SH.srcO (sz:=1) c5 (CK.ownA .hd) (by simp),rfl,?_⟩⟩
    have c6:CK Z r s4 (zc yv pb1 acc++((yb,[.str nm,qT pb1 1 acc,iv rs,iv fn_])::A)) F H5 (n4+1):=c5.drop.permA List.perm_middle.symm
    obtain⟨H6,e6,c7⟩:=CK.appA (sz:=1) (eb:=8) (e:=x) WX (by omega) (by omega) (by omega) (by omega) c6
    have c8:CK Z r s4 ((yb,[.str nm,qT pb1 1 acc,iv rs,iv fn_])::(zc yv (n4+1) (acc++[x])++A)) F H6 (n4+1+1):=c7.permA List.perm_middle
    refine⟨_,H6,_,e6,_,rfl,zp,c8.one1 (j:=1) (by simp) zp λH7 c9=> ?_⟩
    exact⟨rfl,ks.length - (i'+1),i'+1,by omega,qq.refl _,rfl,by omega,by omega,s4,acc++[x],n4+1,T2,e1.trans e4,by rw [List.length_append];simp;omega,c9,hz⟩
   ·exact hno f hz _ _ _ (by omega) (SH.sel (List.sublist_append_right _ _) (SH.drop (SH.drop s4)))
  ·have hc:¬(i':Int)<(ks.length:Int):=of_decide_eq_false hc
   have:i'=ks.length:=by omega
   subst this;rw [List.drop_length]at hf;have hf:okp (acc++[],T1):=hf
   rw [List.append_nil]at hf;exact⟨rfl,(),qq.okay,rfl,g1,s1,acc,pb1,T1,e1,ha,hf,c1⟩
 ·rintro id _ H1 n1 ⟨rfl,g1,s1,acc,pb1,T1,e1,ha,hf,c1⟩
  exact hK s1 acc pb1 T1 H1 n1 g1 e1 hf (by omega) c1
end
theorem qop:qi (qd PG qK) [1,1,1,0,0]= .seq (qi (qd PG qK) [1,1,1,0,0,0]) (.seq (.cond (.tmp 18) .skip (.exit 0)) (.seq (.block 1 (.seq (qi (qd PG qK) [1,1,1,0,0,1,1,0,0,0]) (.seq (qi (qd PG qK) [1,1,1,0,0,1,1,0,0,1,0]) (.seq (qi (qd PG qK) [1,1,1,0,0,1,1,0,0,1,1,0]) (.seq (qi (qd PG qK) [1,1,1,0,0,1,1,0,0,1,1,1,0]) (.seq (qi (qd PG qK) [1,1,1,0,0,1,1,0,0,1,1,1,1,0]) (.seq (qi (qd PG qK) [1,1,1,0,0,1,1,0,0,1,1,1,1,1,0]) (.seq (qi (qd PG qK) [1,1,1,0,0,1,1,0,0,1,1,1,1,1,1,0]) (.seq (qi (qd PG qK) [1,1,1,0,0,1,1,0,0,1,1,1,1,1,1,1,0]) (.seq (.seq (qi (qd PG qK) [1,1,1,0,0,1,1,0,0,1,1,1,1,1,1,1,1,0,0]) (.block 2 (.loop (qi (qd PG qK) [1,1,1,0,0,1,1,0,0,1,1,1,1,1,1,1,1,0,1,0,0])))) (qi (qd PG qK) [1,1,1,0,0,1,1,0,0,1,1,1,1,1,1,1,1,1]))))))))))) (qi (qd PG qK) [1,1,1,0,0,1,1,1]))):=by kernel_rfl
section
variable{r q xb yb nb pb t:Nat}{s s':DS}{A B R Q:qD}{F G:zr}{H:qc}{nx n n0:Nat}{K:qr}{K0 K1:KP}{d x k:DT}{Γ:GH}{T1:List Ty}{kk:qc->Prop}{names:List Bs}{ps:List Nat}{nw o:qa}{m i:Int}{b j:Nat}{cs:List qa}{v:qa}
theorem qrm{T T':List Ty}{n:qu}{a mm:Nat}(h:typ T n= .ok (a,T'))(ht:t<T.length)(hf:Few t mm T):Few t mm T':=by
 unfold Few;rw [(yZ _ h).at ht];exact hf
theorem YW{T1 T2:List DTy}{x:DTy}(hT:s.T=T1++x::T2)(e:T1.length=t):ty s.sv.T t=x.t:=by
 subst e;unfold ty DS.sv;rw [hT];simp [List.getD]
theorem qi7{rest:List qu}{okp:List Ty->Prop}{no:Flt->Prop}{v:qa}(hk:Ent F λΓ=>DF Γ k)(ht:t<s.sv.T.length)(hf:Few t names.length s.sv.T)(hnN:names.length<=1000)
  (hi0:0<=i) (hv:qY o i.toNat 6=some v) (hvl:ldN H 6 v=some k.val) (h:CK Z r s (zc VH nb names++A) F H n) (g0:nx<=n)
  (ho:qE (z7 t s.sv.T names (k.er::rest)) okp no)
  (hno:∀f,no f->∀H' n' env,nx<=n'->SH Z A F H' n'->K1 (.pan [(jQ f,false)]) env H' n' [] none)
  (hN:∀s' nb' T' H' n' env,n<=n'->names.length<12->RCh s s' T'->t<T'.length->Few t (names.length+1) T'->CK Z r s' (zc VH nb' (names++[k.nm])++A) F H' n'->qE (z7 t T' (names++[k.nm]) rest) okp no->
   qq (qe .und (EMl r t (qT nb' 1 (names++[k.nm])) o m i)) env->K1 .normal env H' n' [] none):
  WpP PG 119 (.block 1 (.seq (qi (qd PG qK) [1,1,1,0,0,1,1,0,0,0]) (.seq (qi (qd PG qK) [1,1,1,0,0,1,1,0,0,1,0]) (.seq (qi (qd PG qK) [1,1,1,0,0,1,1,0,0,1,1,0]) (.seq (qi (qd PG qK) [1,1,1,0,0,1,1,0,0,1,1,1,0]) (.seq (qi (qd PG qK) [1,1,1,0,0,1,1,0,0,1,1,1,1,0]) (.seq (qi (qd PG qK) [1,1,1,0,0,1,1,0,0,1,1,1,1,1,0]) (.seq (qi (qd PG qK) [1,1,1,0,0,1,1,0,0,1,1,1,1,1,1,0]) (.seq (qi (qd PG qK) [1,1,1,0,0,1,1,0,0,1,1,1,1,1,1,1,0]) (.seq (.seq (qi (qd PG qK) [1,1,1,0,0,1,1,0,0,1,1,1,1,1,1,1,1,0,0]) (.block 2 (.loop (qi (qd PG qK) [1,1,1,0,0,1,1,0,0,1,1,1,1,1,1,1,1,0,1,0,0])))) (qi (qd PG qK) [1,1,1,0,0,1,1,0,0,1,1,1,1,1,1,1,1,1]))))))))))) (qe .und (EMl r t (qT nb 1 names) o m i)) H n [] K1:=by
 have hnm:z7 t s.sv.T names (k.er::rest)=Ck.need (!names.contains k.nm) k.er 16 (Ck.need (decide (names.length<12)) k.er 18 (Ck.ob (ZD s.sv.T t k.er) λT=>z7 t T (names++[k.nm]) rest)):=by
  rw [z7,jo]
 rw [hnm]at ho;refine WpP.block (WpP.seq (WpP.partK (ts:=[0,1,6,8,15,16,17]) qp ?_))
 refine Eq.mpr (qso ..) ?_
 have hkc:qt k.cells=true:=by
  obtain⟨Γ,_,hF⟩:=h.okF
  exact(hk Γ hF).cell
 refine⟨hi0,_,hv,_,_,_,_,_,_,hvl,h.mk1 (cs:=zT.cells) lR λH1 c1=>c1.all (vs:=k.cells) rfl hkc λH2 c2=> ?_⟩
 show WpP PG 119 _ _ _ _ _ _
 have c2:CK Z r s (zc VH nb names++((n,k.cells)::A)) F H2 (n+1):=c2.permA List.perm_middle.symm
 have pan (f:Flt) (hf:no f) (H':qc) (n':Nat) (env:Env) (g:n<=n') (s:SH Z ((n,k.cells)::A) F H' n'):WC 1 K1 (.pan [(jQ f,false)]) env H' n' [] none:=hno f hf H' n' env (by omega) (SH.drop s)
 have ox {s:DS} {nb:Nat} {names:List Bs} {H:qc} {n1:Nat} (c:CK Z r s (zc VH nb names++((n,k.cells)::A)) F H n1):ldN H 6 (.ptr n 0)=some (.agg k.cells):=c.ldA (sz:=6) (Own.mem (List.mem_append.2 (.inr (.head _)))) rfl
 have ox1 {s:DS} {nb:Nat} {names:List Bs} {H:qc} {n1:Nat} (c:CK Z r s (zc VH nb names++((n,k.cells)::A)) F H n1) (j:Nat):ld1 H (.ptr n j)=k.cells[j]?:=c.ld1 (Own.mem (List.mem_append.2 (.inr (.head _)))) j
 refine WpP.seq (WpP.partK (ts:=[0,1,6,8,15,16,17]) qp ?_)
 refine Eq.mpr (qu1 ..) ?_
 obtain⟨Γ2,s2,_,_,_,hF2,hA2,back2⟩:=c2.ro
 have hnl:names.length<=100000:=by omega
 have hstr:qm9 Γ2 (qT nb 1 names) names:=ZJ qgl hnl λb cs hb=>hA2 b cs (List.mem_append.2 (.inl hb))
 refine⟨_,rfl,_,ox1 c2 1,_,_,_,_,_,_,ox c2,⟨⟨_,ox1 c2 1,rfl⟩,⟨_,_,_,_,_,_,ox c2,rfl⟩,trivial⟩,qd3 (s2.more (by omega)) hstr λH3 n3 g3 s3=>qb.2 ⟨_,rfl,⟨⟨_,_,_,_,_,_,ox (back2 H3 n3 s3),rfl⟩,trivial⟩,(back2 H3 n3 s3).need (λhb H4 n4 g4 c4=>qb.2 ⟨trivial,?_⟩) λhb H4 n4 g4 c4=>ql.2 ?_⟩⟩
 rotate_left
 ·have:=qE.needF ho hb
  rw [zh]at this;exact pan _ this H4 n4 _ (by omega) (SH.sel (List.sublist_append_right _ _) c4.end_)
 have ho:=qE.needT ho hb
 show WpP PG 119 _ _ _ _ _ _
 refine WpP.seq (WpP.partK (ts:=[0,1,6,8,15,16,17]) qp ?_)
 refine Eq.mpr (qsj ..) ?_
 refine⟨_,vU,_,_,_,_,_,_,ox c4,c4.need (λhb H5 n5 g5 c5=>qb.2 ?_) λhb H5 n5 g5 c5=>ql.2 ?_⟩
 rotate_left
 ·have h12:¬names.length<12:=by
   have:=of_decide_eq_false hb
   simp only [Int.ofNat_eq_natCast]at this
   omega
  have:=qE.needF ho (decide_eq_false h12)
  rw [zh]at this;exact pan _ this H5 n5 _ (by omega) (SH.sel (List.sublist_append_right _ _) c5.end_)
 have h12:names.length<12:=by
  have:=of_decide_eq_true hb
  simp only [Int.ofNat_eq_natCast]at this
  omega
 have ho:=qE.needT ho (decide_eq_true h12)
 show WpP PG 119 _ _ _ _ _ _
 refine WpP.seq (WpP.partK (ts:=[0,1,6,8,15,16,17]) qp ?_)
 refine Eq.mpr (qto ..) ?_
 refine⟨_,rfl,_,ox1 c5 1,rfl,c5.mk1 (cs:=[.str k.nm]) lR λH6 c6=>⟨_,_,SH.srcO (sz:=1) c6 (CK.ownA .hd) (by simp),rfl,?_⟩⟩
 obtain⟨H7,e7,c7⟩:=CK.appA (sz:=1) (eb:=16) (e:=k.nm) qgl (by omega) (by omega) (by omega) (by omega) c6.drop
 refine⟨_,H7,_,e7,?_⟩
 show WpP PG 119 _ _ _ _ _ _
 have g7:n<=n5+1+1:=by omega
 generalize n5+1=nb' at c7 g7
 generalize nb'+1=n7 at c7 g7
 clear e7 c6 c5 c4 c2 s3 s2 hstr back2 hA2 hF2 g5 g4 g3;have hlT:s.sv.T.length=s.T.length:=by simp [DS.sv]
 refine WpP.seq (WpP.partK (ts:=[0,1,6,8,15,16,17]) qp ?_)
 refine Eq.mpr (qtv ..) ?_
 obtain⟨Γ7,s7,_,_,_,hF7,_,back7⟩:=c7.ro
 refine⟨_,rfl,_,ox1 c7 0,qf.2 ⟨λh4=>⟨_,_,_,_,_,_,ox c7,jf (i:=0) s7 (hk Γ7 hF7) λH8 n8 g8 s8=>qb.2 ⟨_,_,_,_,_,_,rfl,?_⟩⟩,λh4=> ?_⟩⟩
 ·have h4:k.kd=4:=of_decide_eq_true h4
  have hm:ZD s.sv.T t k.er=Ck.ob (typ s.sv.T (qQ k.kids 0).er) λp=> .ok (jL p.2 t {ty p.2 t with fields:=(ty p.2 t).fields++[(k.nm,p.1)]}):=by
   unfold ZD;rw [kL,if_pos h4,yd,jo]
  rw [hm]at ho;refine yH (qQ k.kids 0) (λΓ hq=>(hk Γ hq).kids.kid) (back7 H8 n8 s8) ((qE.ob (qE.ob ho)).mono (λp hp hz=> ?_) λf _ hz H9 n9 g9 s9=>ql.2 (pan f hz H9 n9 _ (by omega) (SH.sel (List.sublist_append_right _ _) s9)))
  obtain⟨a,T1⟩:=p
  intro s9 H9 n9 g9 e9 c9;have hf1:=qrm hp ht hf
  have ht1:t<T1.length:=Nat.lt_of_lt_of_le ht (yZ _ hp).len
  have eT:=e9.T
  subst eT;have hlT9:s9.sv.T.length=s9.T.length:=by simp [DS.sv]
  obtain⟨L1,x,L2,hT,hl1,_⟩:=V0 (t:=t) (T:=s9.T) (by omega)
  have hx:=YW hT hl1
  subst hl1;rw [hx]at hz;have hfx:=hf1
  unfold Few at hfx;rw [hx]at hfx;have hz:qE (z7 L1.length (jL s9.sv.T L1.length {x.t with fields:=x.t.fields++[(k.nm,a)]}) (names++[k.nm]) rest) okp no:=hz
  refine qb.2 ⟨_,rfl,rfl,_,rfl,_,c9.cell 0,rfl,_,rfl,_,c9.cell 0,Int.natCast_nonneg _,_,ZK hT,_,rfl,_,c9.tyAt hT (j:=3) (by omega),_,rfl,_,ox1 c9 1,rfl,rfl,c9.mk1 (cs:=Xw (k.nm,a)) (by omega) λH10 c10=> ?_⟩
  refine⟨⟨⟨_,c10.cell 0,rfl⟩,⟨_,c10.cell 0,rfl⟩,⟨_,c10.tyAt hT (j:=3) (by omega),rfl⟩,⟨_,c10.ld1 (Own.mem (.tail _ (List.mem_append.2 (.inr (.head _))))) 1,rfl⟩,trivial⟩,_,_,SH.srcO (sz:=2) c10 (CK.ownA .hd) (by simp [Xw]),rfl,?_⟩
  obtain⟨H11,e11,l11,_,H12,e12,c12⟩:=(c10.drop.more (nx':=n9+22) (by omega)).addFld (f:=(k.nm,a)) hT (by omega)
  refine⟨_,H11,_,e11,Int.natCast_nonneg _,_,ZK hT,_,rfl,⟨⟨_,l11,rfl⟩,trivial⟩,zp,H12,e12,trivial,?_⟩
  have hT':(L1++{x with t:={x.t with fields:=x.t.fields++[(k.nm,a)]},fb:=n9+22}::L2).map (·.t)=jL s9.sv.T L1.length {x.t with fields:=x.t.fields++[(k.nm,a)]}:=by
   unfold jL DS.sv;rw [hT];simp
  refine hN _ nb' _ H12 _ _ (by omega) h12 (e9.rch.trans ⟨_,_,rfl,hT'⟩) (by unfold jL;rw [List.length_set];exact ht1) ?_ (c12.permA List.perm_middle).drop hz (qq.okay)
  unfold Few jL;rw [yx ht1];simp only [List.length_append,List.length_singleton]
  exact⟨by omega,by omega⟩
 show WpP PG 119 _ _ _ _ _ _
 have h4:¬k.kd=4:=of_decide_eq_false h4
 have hm:ZD s.sv.T t k.er=Ck.need (decide (k.kids.length<=9)) k.er 18 (Ck.ob (Ck.res s.sv.T (qQ k.kids 0).er) λp=>Ck.ob (vV p.2 (ers (k.kids.drop 1))) λq=>
   .ok (jL q.2 t {ty q.2 t with methods:=(ty q.2 t).methods++[⟨k.nm,q.1,p.1,-1⟩]})):=by
  unfold ZD;rw [kL,if_neg h4,yd,jo,yI,jk,JH]
 rw [hm]at ho;have ho:=qE.ob ho
 clear s7 back7 hF7;refine WpP.seq (WpP.partK (ts:=[0,1,6,8,15,16,17]) qp ?_)
 refine Eq.mpr (qsx ..) ?_
 have hlk:zw k.kw=some k.kids.length:=by
  obtain⟨Γ,_,hF⟩:=c7.okF
  exact(hk Γ hF).row.len
 refine⟨_,rfl,_,ox1 c7 5,_,hlk,_,_,_,_,_,_,ox c7,c7.need (λhb H8 n8 g8 c8=>qb.2 ?_) λhb H8 n8 g8 c8=>ql.2 ?_⟩
 rotate_left
 ·have h9:¬k.kids.length<=9:=by
   have:=of_decide_eq_false hb
   simp only [Int.ofNat_eq_natCast]at this
   omega
  have:=qE.needF ho (decide_eq_false h9)
  rw [zh]at this;exact pan _ this H8 n8 _ (by omega) (SH.sel (List.sublist_append_right _ _) c8.end_)
 have h9:k.kids.length<=9:=by
  have:=of_decide_eq_true hb
  simp only [Int.ofNat_eq_natCast]at this
  omega
 have ho:=qE.needT ho (decide_eq_true h9)
 show WpP PG 119 _ _ _ _ _ _
 refine WpP.seq (WpP.partK (ts:=[0,1,6,8,10,15,16,17]) qp ?_)
 refine Eq.mpr (quc ..) ?_
 refine⟨_,rfl,_,ox1 c8 1,rfl,rfl,c8.mk1 (cs:=[.str [],.nilSlice,iv 0,iv 0]) lR λH9 c9=>c9.all (vs:=[.str k.nm,.nilSlice,iv 0,iv (-1)]) rfl rfl λH10 c10=> ?_⟩
 show WpP PG 119 _ _ _ _ _ _
 have c10:CK Z r s ((n8,[.str k.nm,qT 0 1 ([]:List Nat),iv 0,iv (-1)])::(zc VH nb' (names++[k.nm])++((n,k.cells)::A))) F H10 (n8+1):=c10
 refine WpP.seq (WpP.partK (ts:=[0,1,6,8,10,15,16,17]) qp ?_)
 refine Eq.mpr (qtw ..) ?_
 have oy {s:DS} {C:Nat×List qa} {H:qc} {n1:Nat} (c:CK Z r s (C::(zc VH nb' (names++[k.nm])++((n,k.cells)::A))) F H n1):ldN H 6 (.ptr n 0)=some (.agg k.cells):=c.ldA (sz:=6) (.tl (Own.mem (List.mem_append.2 (.inr (.head _))))) rfl
 obtain⟨Γ10,s10,_,_,_,hF10,_,back10⟩:=c10.ro
 refine⟨_,_,_,_,_,_,oy c10,jf (i:=0) s10 (hk Γ10 hF10) λH11 n11 g11 s11=>qb.2 ⟨_,_,_,_,_,_,rfl,?_⟩⟩
 refine Xe (d:=qQ k.kids 0) (λΓ hq=>(hk Γ hq).kids.kid) (back10 H11 n11 s11) ((qE.ob ho).mono (λp hp hz=> ?_) λf _ hz H12 n12 g12 s12=>ql.2 (pan f hz H12 n12 _ (by omega) (SH.sel (List.sublist_append_right _ _) (SH.drop s12))))
 obtain⟨a,T1⟩:=p
 intro s12 H12 n12 g12 e12 c12;have hz:qE (Ck.ob (vV T1 (ers (k.kids.drop 1))) λq=>(.ok (jL q.2 t {ty q.2 t with methods:=(ty q.2 t).methods++[⟨k.nm,q.1,a,-1⟩]}):Ex (List Ty))) (λT=>qE (z7 t T (names++[k.nm]) rest) okp no) no:=hz
 refine qb.2 ⟨_,rfl,_,rfl,rfl,c12.one1 (j:=2) (by simp) rfl λH13 c13=> ?_⟩
 show WpP PG 119 _ _ _ _ _ _
 refine WpP.seq (WpP.seq (WpP.partK (ts:=[0,1,6,8,10,15,16,17,84,85,86]) qp ?_))
 refine Eq.mpr (quy ..) ?_
 obtain⟨Γ13,s13,_,_,_,hF13,_,back13⟩:=c13.ro
 have hmin:min 1 k.kids.length<=k.kids.length:=Nat.min_le_right _ _
 obtain⟨w',hw',_⟩:=(hk Γ13 hF13).row.drop zV hmin
 have hdrop:k.kids.drop (min 1 k.kids.length)=k.kids.drop 1:=by
  by_cases h1:1<=k.kids.length
  ·rw [Nat.min_eq_left h1]
  ·rw [List.drop_eq_nil_of_le (by omega),List.drop_eq_nil_of_le (by omega)]
 have hrow:Ent F λΓ=>q9 DT.cells 6 Γ w' (k.kids.drop 1)/\DFs Γ (k.kids.drop 1):=λΓ hq=>by
  obtain⟨w2,h1,h2⟩:=(hk Γ hq).row.drop zV hmin
  rw [hw']at h1
  injection h1 with h1
  subst h1;rw [hdrop]at h2;exact⟨h2,(hk Γ hq).kids.drop⟩
 refine⟨_,_,_,_,_,_,oy c13,w4 (i:=1) s13 (hk Γ13 hF13) hw' λH14 n14 g14 s14=>qb.2 ⟨_,(hrow Γ13 hF13).1.len,?_⟩⟩
 show WpP PG 119 _ _ _ _ _ _
 have c14:=back13 H14 n14 s14
 have el:k.kids.length - 1=(k.kids.drop 1).length:=by rw [List.length_drop]
 refine WpP.block (WpP.of_lp (rc:=none) ?_)
 refine qgd (nx:=n14) (pb:=0) (okp:=λq=>qE (z7 t (jL q.2 t {ty q.2 t with methods:=(ty q.2 t).methods++[⟨k.nm,q.1,a,-1⟩]}) (names++[k.nm]) rest) okp no) (no:=no) hrow (by rw [List.length_drop];omega) c14 (by omega) ?_ ?_ ?_ (qq.refl _)
 ·rw [e12.T];have:=qE.ob hz
  cases hq:vV T1 (ers (k.kids.drop 1))with
  |ok q=>rw [hq]at this;exact this
  |error f=>rw [hq]at this;exact this
 ·intro f hf H' n' env g s;exact hno f hf H' n' env (by omega) (SH.drop (SH.sel (List.sublist_append_right _ _) s))
 intro s15 ps pb T2 H15 n15 g15 e15 hz hps c15;show WpP PG 119 _ _ _ _ _ _
 refine WpP.partK (ts:=[0,1,6,15,16,17]) qp ?_
 refine Eq.mpr (qtc ..) ?_
 have c16:=CK.freezeO (sz:=1) WX (by omega) (c15.permA List.perm_middle.symm)
 have hf2:Few t names.length T2:=by
  have hf1:Few t names.length T1:=by unfold Few;rw [(JW hp).at ht];exact hf
  have ht1:t<T1.length:=Nat.lt_of_lt_of_le ht (JW hp).len
  obtain⟨tb,L,es,eL⟩:=e15
  have e1:s12.sv.T=T1:=e12.T
  have:T2=T1++L.map (·.t):=by rw [<-eL,List.map_append,<-e1];rfl
  unfold Few;rw [this,Y4 _ ht1];exact hf1
 have ht2:t<T2.length:=by
  obtain⟨tb,L,es,eL⟩:=e15
  have e1:s12.sv.T=T1:=e12.T
  have ht1:t<T1.length:=Nat.lt_of_lt_of_le ht (JW hp).len
  rw [<-eL,List.map_append,List.length_append];have:(s12.T.map (·.t)).length=T1.length:=by rw [<-e1];rfl
  omega
 have eT:=e15.T
 subst eT;have hl15:s15.sv.T.length=s15.T.length:=by simp [DS.sv]
 obtain⟨L1,x,L2,hT,hl1,_⟩:=V0 (t:=t) (T:=s15.T) (by omega)
 have hx:=YW hT hl1
 subst hl1;unfold Few at hf2;rw [hx]at hz hf2;have hz:qE (z7 L1.length (jL s15.sv.T L1.length {x.t with methods:=x.t.methods++[⟨k.nm,ps,a,-1⟩]}) (names++[k.nm]) rest) okp no:=hz
 refine⟨rfl,_,rfl,_,c16.cell 0,rfl,_,rfl,_,c16.cell 0,Int.natCast_nonneg _,_,ZK hT,_,rfl,_,c16.tyAt hT (j:=4) (by omega),_,_,_,_,c16.ldA (sz:=4) .hd rfl,c16.mk1 (cs:=wg (⟨k.nm,ps,a,-1⟩,qT pb 1 ps)) (by omega) λH16 c17=> ?_⟩
 refine⟨⟨⟨_,c17.cell 0,rfl⟩,⟨_,c17.cell 0,rfl⟩,⟨_,c17.tyAt hT (j:=4) (by omega),rfl⟩,⟨_,_,_,_,c17.ldA (sz:=4) (.tl .hd) rfl,rfl⟩,trivial⟩,_,_,SH.srcO (sz:=4) c17 (CK.ownA .hd) (by simp [wg]),?_,?_⟩
 ·simp only [wg,List.drop_zero,List.take,qt,zp];rfl
 obtain⟨H17,e17,l17,_,H18,e18,c18⟩:=(c17.drop.more (nx':=n15+19) (by omega)).addMth (m:=⟨k.nm,ps,a,-1⟩) (pw:=qT pb 1 ps) hT (by omega) (.head _)
 refine⟨_,H17,_,e17,Int.natCast_nonneg _,_,ZK hT,_,rfl,⟨⟨_,l17,rfl⟩,trivial⟩,zp,H18,e18,trivial,?_⟩
 have hT':(L1++{x with t:={x.t with methods:=x.t.methods++[⟨k.nm,ps,a,-1⟩]},mb:=n15+19,pw:=x.pw++[qT pb 1 ps]}::L2).map (·.t)=jL s15.sv.T L1.length {x.t with methods:=x.t.methods++[⟨k.nm,ps,a,-1⟩]}:=by
  unfold jL DS.sv;rw [hT];simp
 refine hN _ nb' _ H18 _ _ (by omega) h12 ((e12.rch.trans e15.rch).trans ⟨_,_,rfl,hT'⟩) (by unfold jL;rw [List.length_set];exact ht2) ?_ ((c18.sub λP hP=> .tail _ hP).drop.permA List.perm_middle).drop hz (qq.okay)
 unfold Few jL;rw [yx ht2];simp only [List.length_append,List.length_singleton]
 exact⟨by omega,by omega⟩
def Mw(Z:Nat->Prop)(r:Nat)(s:DS)(A:qD)(F:zr)(nx:Nat)(K:qr)(x:Ex (List Ty)):Prop:=
 qE x (λT=>∀s' H' nx',nx<=nx'->RCh s s' T->CK Z r s' A F H' nx'->K (.ret (.tuple [])) H' nx') λf=>∀H' nx',nx<=nx'->SH Z A F H' nx'->K (.pan [(jQ f,false)]) H' nx'
theorem qrn(call:zm)(lp:jl)(lv:zJ)(lvc:zI)(K:qr)(env:Env)(l:List (qa×Bool))(H:qc)(nx:Nat)(rc:Option qw):
  qA PG call lp 119 (qd PG qK) [1,1,1,0] (qy PG lv lvc K (qP PG qK)) (.pan l) env H nx [] rc=K (.pan l) H nx:=by kernel_rfl
theorem qqz(call:zm)(lp:jl)(lv:zJ)(lvc:zI)(K:qr)(env:Env)(H:qc)(nx:Nat)(rc:Option qw):
  qA PG call lp 119 (qd PG qK) [1,1,1,0] (qy PG lv lvc K (qP PG qK)) (.exit 0) env H nx [] rc=K (.ret (.tuple [])) H nx:=by kernel_rfl
theorem qbn(hd:Ent F λΓ=>DF Γ d)(ht:t<s.sv.T.length)(hf:Few t 0 s.sv.T)(h:CK Z r s A F H nx)(ho:Mw Z r s A F nx K (z7 t s.sv.T [] (ers d.kids))):qo PG qK [.ptr r 0,iv t,d.val] H nx K:=by
 refine qo.of_body qp ?_
 refine Eq.mpr (WY ..) ?_
 refine h.mkN (cs:=d.cells) lR λH0 c0=> ?_
 obtain⟨Γ0,o0,hF0⟩:=c0.okF
 have hlen:=(hd Γ0 hF0).row.len
 have hN:=(hd Γ0 hF0).row.few
 have hrow:Ent F λΓ=>q9 DT.cells 6 Γ d.kw d.kids:=λΓ hq=>(hd Γ hq).row
 refine⟨_,rfl,_,c0.ld1 .hd 5,_,hlen,?_⟩
 have c0:CK Z r s (zc VH 0 ([]:List Bs)++((nx,d.cells)::A)) F H0 (nx+1):=c0
 refine zD (P:=PG) (X:=Nat×Nat×List Bs) (Y:=Unit) (λx=>qe .und (EMl r t (qT x.2.1 1 x.2.2) d.kw (d.kids.length:Int) (x.1:Int))) (λ_=>qe .und [])
  (λm x H1 n1=>m=d.kids.length - x.1/\x.1<=d.kids.length/\nx<=n1/\x.2.2.length<=12/\∃s1 T1,RCh s s1 T1/\t<T1.length/\Few t x.2.2.length T1/\CK Z r s1 (zc VH x.2.1 x.2.2++((nx,d.cells)::A)) F H1 n1/\
   qE (z7 t T1 x.2.2 (ers (d.kids.drop x.1))) (λT=>∀s' H' nx',nx<=nx'->RCh s s' T->CK Z r s' A F H' nx'->K (.ret (.tuple [])) H' nx') λf=>∀H' nx',nx<=nx'->SH Z A F H' nx'->K (.pan [(jQ f,false)]) H' nx')
  (λid _ H1 n1=>id=0/\nx<=n1/\∃s1 T1,RCh s s1 T1/\CK Z r s1 A F H1 n1/\∀s' H' nx',nx<=nx'->RCh s s' T1->CK Z r s' A F H' nx'->K (.ret (.tuple [])) H' nx')
  d.kids.length (0,0,[]) (qq.okay) ⟨rfl,Nat.zero_le _,by omega,by simp,s,_,RCh.refl,ht,hf,c0,ho⟩ ?_ ?_
 ·rintro m ⟨i,nb,names⟩ H1 n1 ⟨rfl,hi,g1,h12,s1,T1,e1,ht1,hf1,c1,hq⟩
  dsimp only at hi h12 hf1 c1 hq ⊢
  rw [qop];refine WpP.seq (WpP.partK (ts:=[0,1,6,15,16,17,18]) qp ?_)
  refine Eq.mpr (qsq ..) ?_
  show WpP PG 119 _ _ _ _ _ _
  refine WpP.seq (WpP.caseB (p:=decide ((i:Int)<(d.kids.length:Int))) rfl (λhc=> ?_) λhc=> ?_)
  ·refine WpP.skip ?_
   show WpP PG 119 _ _ _ _ _ _
   have hc:(i:Int)<(d.kids.length:Int):=of_decide_eq_true hc
   have hil:i<d.kids.length:=by omega
   obtain⟨Γ1,s1',_,_,_,hF1,_⟩:=c1.ro
   obtain⟨b,off,i1,i2,_⟩:=q9.rd (sz:=6) zV (hrow Γ1 hF1) s1'.toZ hil
   have ew:i64.wrap ((i:Int)+1)=((i+1:Nat):Int):=by rw [qB (by omega) (by omega)];omega
   rw [List.drop_eq_getElem_cons hil]at hq;have hq:qE (z7 t T1 names (d.kids[i].er::ers (d.kids.drop (i+1)))) (λT=>∀s' H' nx',nx<=nx'->RCh s s' T->CK Z r s' A F H' nx'->K (.ret (.tuple [])) H' nx') λf=>∀H' nx',nx<=nx'->SH Z A F H' nx'->K (.pan [(jQ f,false)]) H' nx':=hq
   have eT:=e1.T
   rw [<-eT]at hq ht1 hf1;refine WpP.seq (WpP.weaken (e:=qe .und (EMl r t (qT nb 1 names) d.kw (d.kids.length:Int) (i:Int))) (qq.okay) ?_)
   refine qi7 (k:=d.kids[i]) (nx:=nx) (λΓ hq=>(hd Γ hq).kids.get (List.getElem_mem hil)) ht1 hf1 (by omega) (Int.natCast_nonneg _) i1 i2 c1 g1 hq ?_ ?_
   ·intro f hf H' n' env g s';show qA PG _ _ 119 _ _ _ _ _ _ _ _ _
    refine Eq.mpr (qrn ..) ?_
    exact hf H' n' g (SH.drop s')
   ·intro s' nb' T' H' n' env g hl12 e' ht' hf' c' hq' he;show WpP PG 119 _ _ _ _ _ _
    refine WpP.weaken he (WpP.partK (ts:=[0,1,6,15,16,17]) qp ?_)
    refine Eq.mpr (qsn ..) ?_
    rw [ew];refine⟨rfl,d.kids.length - (i+1),(i+1,nb',names++[d.kids[i].nm]),by omega,qq.refl _,rfl,by show i+1<=_;omega,by omega,by show(names++[_]).length<=12;rw [List.length_append];simp;omega,s',T',e1.trans e',ht',?_,c',hq'⟩
    show Few t (names++[_]).length T'
    rw [List.length_append];exact hf'
  ·refine WpP.exit ?_
   have hc:¬(i:Int)<(d.kids.length:Int):=of_decide_eq_false hc
   have:i=d.kids.length:=by omega
   subst this;rw [List.drop_length]at hq;exact⟨rfl,(),qq.of_list (by exact trivial),rfl,g1,s1,T1,e1,(CK.permA List.perm_append_comm c1|>λc=>by
    have:=c.permA List.perm_append_comm
    exact SH.sel (.cons_cons _ (.cons_cons _ (List.Sublist.append (.refl _) (List.Sublist.append (.refl _) (List.Sublist.append (.refl _) ((List.sublist_cons_self _ _).trans (List.sublist_append_right _ _))))))) this),hq⟩
 ·rintro id _ H1 n1 ⟨rfl,g1,s1,T1,e1,c1,hk⟩
  refine Eq.mpr (qqz ..) ?_
  exact hk s1 H1 n1 g1 e1 c1
end
theorem qe6(o:Option Nat):XX o= .tuple [iv (o.getD 0),.bool o.isSome]:=by cases o<;>rfl
section
variable{r t:Nat}{s s':DS}{A B:qD}{F:zr}{H:qc}{nx n:Nat}{K:qr}{d u x:DT}
def Nw(Z:Nat->Prop)(r:Nat)(s:DS)(A:qD)(F:zr)(nx:Nat)(K:qr)(x:Ex Nat):Prop:=
 qE x (λt=>∀H' nx',nx<=nx'->CK Z r s A F H' nx'->K (.ret (iv t)) H' nx') λf=>∀H' nx',nx<=nx'->SH Z A F H' nx'->K (.pan [(jQ f,false)]) H' nx'
theorem qad(h:CK Z r s A F H nx)(ho:Nw Z r s A F nx K (Ck.receiver s.sv.T d.er u.er))(hdc:qt d.cells=true)(huc:qt u.cells=true):qo PG yN [.ptr r 0,d.val,u.val] H nx K:=by
 refine qo.of_body qp ?_
 refine Eq.mpr (VF ..) ?_
 unfold Ck.receiver at ho;rw [jo,jo]at ho;refine h.mkN (cs:=d.cells) lR λH0 c0=>c0.mkN (cs:=u.cells) lR λH1 c1=> ?_
 obtain⟨Γ,s1,hv,hr,hok,hF,hA,back⟩:=c1.ro
 have lu {H:qc} {n:Nat} (c:CK Z r s ((nx+1,u.cells)::(nx,d.cells)::A) F H n):=c.ldA (sz:=6) .hd rfl
 have ld {H:qc} {n:Nat} (c:CK Z r s ((nx+1,u.cells)::(nx,d.cells)::A) F H n):=c.ldA (sz:=6) (.tl .hd) rfl
 refine⟨_,rfl,_,c1.ld1 .hd 1,KQ s1 hv λH2 n2 g2 s2=> ?_⟩
 have c2:=back H2 n2 s2
 cases hn:Ck.named s.sv.T u.nm with
 |none=>
  rw [hn]at ho;refine qb.2 ⟨_,_,rfl,ifF rfl ⟨_,_,_,_,_,_,lu c2,⟨rfl,rfl,⟨_,_,_,_,_,_,lu c2,rfl⟩,trivial⟩,(c2.more (by omega)).need (λhb=>nomatch hb) λ_ H3 n3 g3 c3=>ql.2 ?_⟩⟩
  have ho:∀H' nx',nx<=nx'->SH Z A F H' nx'->K (.pan [(jQ (WG 15 u.er),false)]) H' nx':=ho
  rw [zh]at ho;exact ho H3 n3 (by omega) c3.drop.drop.end_
 |some t=>
  rw [hn]at ho;have ho:Nw Z r s A F nx K (Ck.need (decide (kindT s.sv.T t=5)) u.er 15 (Ck.need ((field s.sv.T t d.nm).isNone&&(Jn s.sv.T t d.nm).isNone) d.er 16 (Ck.need (decide ((ty s.sv.T t).methods.length<12)) d.er 18 (.ok t)))):=ho
  have ht:=(Kb hn).1
  have hlT:s.sv.T.length=s.T.length:=by simp [DS.sv]
  obtain⟨L1,x,L2,hT,hl1,_⟩:=V0 (t:=t) (T:=s.T) (by omega)
  have hx:=YW hT hl1
  have hk:kindT s.sv.T t=x.t.kind:=by unfold kindT;rw [hx]
  rw [hk,hx]at ho;subst hl1;have i0 {H:qc} {n:Nat} {A:qD} (c:CK Z r s A F H n):ld1 H (.ptr s.tb (L1.length*5+0))=some (iv x.t.kind):=c.tyAt hT (j:=0) (by omega)
  have i4 {H:qc} {n:Nat} {A:qD} (c:CK Z r s A F H n):ld1 H (.ptr s.tb (L1.length*5+4))=some (qT x.mb 4 x.ms):=c.tyAt hT (j:=4) (by omega)
  refine qb.2 ⟨_,_,rfl,ifT rfl ⟨rfl,_,rfl,_,c2.cell 0,Int.natCast_nonneg _,_,ZK hT,_,rfl,_,i0 c2,_,_,_,_,_,_,lu c2,⟨⟨_,c2.cell 0,rfl⟩,⟨_,i0 c2,rfl⟩,⟨_,_,_,_,_,_,lu c2,rfl⟩,trivial⟩,(c2.more (by omega)).need (λhb H3 n3 g3 c3=>qb.2 ?_) λhb H3 n3 g3 c3=>ql.2 ?_⟩⟩
  rotate_left
  ·have:=qE.needF ho (decide_eq_false λe=>of_decide_eq_false hb (congrArg Int.ofNat e))
   rw [zh]at this;exact this H3 n3 (by omega) c3.drop.drop.end_
  have ho:=qE.needT ho (decide_eq_true (Int.ofNat.inj (of_decide_eq_true hb)))
  obtain⟨Γ3,s3,hv3,hr3,hok3,_,_,back3⟩:=c3.ro
  refine⟨trivial,rfl,_,rfl,_,c3.cell 0,_,rfl,_,c3.ld1 (.tl .hd) 1,⟨⟨_,c3.cell 0,rfl⟩,⟨_,c3.ld1 (.tl .hd) 1,rfl⟩,trivial⟩,YD (s3.more (by omega)) (hv3.ty hr3) λH4 n4 g4 s4=> ?_⟩
  have c4:=back3 H4 n4 s4
  rw [qe6];refine qb.2 ⟨_,_,rfl,trivial,rfl,_,rfl,_,c4.cell 0,_,rfl,_,c4.ld1 (.tl .hd) 1,⟨⟨_,c4.cell 0,rfl⟩,⟨_,c4.ld1 (.tl .hd) 1,rfl⟩,trivial⟩,Qv (s4.more (by omega)) (hv3.ty hr3) λH5 n5 g5 s5=> ?_⟩
  have c5:=back3 H5 n5 s5
  rw [qe6];have hms:x.ms.length=x.t.methods.length:=by
   have:=hok3.ty x (by rw [hT];simp)
   unfold DTy.ms;rw [qa3 this.1]
  have fin (X:Bool) (hX:X=((field s.sv.T L1.length d.nm).isNone&&(Jn s.sv.T L1.length d.nm).isNone)):∃n57 s58 n59 n60 n61 v62,ldN H5 6 (u0 nx 0)=some (u6 [iv n57,u5 s58,iv n59,iv n60,iv n61,v62])/\qo PG qh [u0 r 0,u7 X,u6 [iv n57,u5 s58,iv n59,iv n60,iv n61,v62],iv 16] H5 n5 λe63 H64 i65=>qj e63 (λv66=>
    true=true/\∃v67,some (u0 r 0)=some v67/\∃v68,ld1 H64 v67=some v68/\0<=((L1.length:Nat):Int)/\∃v69,qY v68 ((L1.length:Nat):Int).toNat 5=some v69/\∃v70,zg v69 4=some v70/\∃v71,ld1 H64 v70=some v71/\∃i72,zw v71=some i72/\∃n73 s74 n75 n76 n77 v78,ldN H64 6 (u0 nx 0)=some (u6 [iv n73,u5 s74,iv n75,iv n76,iv n77,v78])/\
    ((∃v79,ld1 H64 v67=some v79/\v79=v68)/\(∃v80,ld1 H64 v70=some v80/\v80=v71)/\(∃n81 s82 n83 n84 n85 v86,ldN H64 6 (u0 nx 0)=some (u6 [iv n81,u5 s82,iv n83,iv n84,iv n85,v86])/\u6 [iv n81,u5 s82,iv n83,iv n84,iv n85,v86]=u6 [iv n73,u5 s74,iv n75,iv n76,iv n77,v78])/\True)/\
    qo PG qh [u0 r 0,u7 (decide (Int.ofNat i72<12)),u6 [iv n73,u5 s74,iv n75,iv n76,iv n77,v78],iv 18] H64 (i65+13) λe87 H88 i89=>qj e87 (λv90=>True/\K (U3 (iv ((L1.length:Nat):Int))) H88 i89) λl91=>K (U2 l91) H88 i89) λl92=>K (U2 l92) H64 i65:=by
   subst hX;refine⟨_,_,_,_,_,_,ld c5,c5.need (λhb H6 n6 g6 c6=>qb.2 ⟨rfl,_,rfl,_,c6.cell 0,Int.natCast_nonneg _,_,ZK hT,_,rfl,_,i4 c6,_,vU,_,_,_,_,_,_,ld c6,⟨⟨_,c6.cell 0,rfl⟩,⟨_,i4 c6,rfl⟩,⟨_,_,_,_,_,_,ld c6,rfl⟩,trivial⟩,(c6.more (by omega)).need (λhc H7 n7 g7 c7=>qb.2 ⟨trivial,?_⟩) λhc H7 n7 g7 c7=>ql.2 ?_⟩) λhb H6 n6 g6 c6=>ql.2 ?_⟩
   ·have h12:x.t.methods.length<12:=by
     have:=of_decide_eq_true hc
     simp only [Int.ofNat_eq_natCast]at this
     omega
    exact qE.needT (qE.needT ho hb) (decide_eq_true h12) H7 n7 (by omega) c7.drop.drop
   ·have h12:¬x.t.methods.length<12:=by
     have:=of_decide_eq_false hc
     simp only [Int.ofNat_eq_natCast]at this
     omega
    have:=qE.needF (qE.needT ho hb) (decide_eq_false h12)
    rw [zh]at this;exact this H7 n7 (by omega) c7.drop.drop.end_
   ·have:=qE.needF ho hb
    rw [zh]at this;exact this H6 n6 (by omega) c6.drop.drop.end_
  refine qb.2 ⟨_,_,rfl,trivial,qf.2 ⟨λhf=>fin _ ?_,λhf=>fin _ ?_⟩⟩
  ·have hf:(field s.sv.T L1.length d.nm).isNone=true:=by cases hq:field s.sv.T L1.length d.nm with
    |none=>rfl
    |some i=>rw [hq]at hf;cases hf
   rw [hf,Bool.true_and];cases Jn s.sv.T L1.length d.nm<;>rfl
  ·have hf:(field s.sv.T L1.length d.nm).isNone=false:=by cases hq:field s.sv.T L1.length d.nm with
    |none=>rw [hq]at hf;cases hf
    |some i=>rfl
   rw [hf,Bool.false_and]
end
theorem WW{l m:List qa}:qt (l++m)=(qt l&&qt m):=by
 induction l with
 |nil=>rfl
 |cons a l ih=>cases h:qZ a<;>simp [qt,h,ih]
theorem QO{α:Type}{c:α->List qa}:∀{l:List α},(∀x∈l,qt (c x)=true)->qt (l.flatMap c)=true
 |[],_=>rfl
 |x::l,h=>by rw [List.flatMap_cons,WW,h x (.head _),QO λy hy=>h y (.tail _ hy)];rfl
theorem DFs.cells{Γ:GH}{ks:List DT}(h:DFs Γ ks):qt (ks.flatMap DT.cells)=true:=QO λx hx=>(h.get hx).cell
theorem qg2{l:List Nat}:qt (l.flatMap yv)=true:=QO λ_ _=>rfl
section
variable{r q g b t:Nat}{s s':DS}{A B:qD}{F G:zr}{H:qc}{nx n:Nat}{K:qr}{K0:KP}{d x:DT}{cs new:List qa}{off len esz ebytes k:Nat}
theorem SH.appFullO(h:SH Z A F H nx)(e:Own A b cs)(hl:off+len*esz<=cs.length)(hk:new.length=k*esz)(hk0:0<k)(h1:(len+k)*esz<=9223372036854775807)(h2:(len+k)*ebytes<=140737488355328):
  ∃H',z3 H nx esz ebytes (.slice b off len esz true) k new=some (.slice nx 0 (len+k) esz false,H',nx+1)/\SH Z ((nx,(cs.drop off).take (len*esz)++new)::A) F H' (nx+1):=by
 obtain⟨Γ,g1,g2,g3⟩:=h
 obtain⟨H',e1,e2⟩:=g1.appFull (esz:=esz) (ebytes:=ebytes) (k:=k) (new:=new) (g2.at e) hl hk hk0 h1 h2
 exact⟨H',e1,Γ,e2,⟨g1.non lR,g2⟩,g3⟩
theorem CK.appKnown{α:Type}{c:α->List qa}{sz eb:Nat}{l m:List α}(hc:∀x,(c x).length=sz)(h0:0<sz)(h9:sz<=16)(h8:eb<=128)(hN:(l++m).length<=100000)(h:CK Z r s ((b,l.flatMap c)::A) F H nx):
  ∃v H' n',z3 H nx sz eb (.slice b 0 l.length sz true) m.length (m.flatMap c)=some (v,H',n')/\nx<=n'/\qZ v=true/\CK Z r s A ((λΓ=>q9 c sz Γ v (l++m))::F) H' n'/\∀b' cs',b'≠b->Own A b' cs'->∀j,Vs.ld1 H' (.ptr b' j)=cs'[j]?:=by
 have hl:(l.flatMap c).length=l.length*sz:=zY hc
 have key (v:qa) (i:Nat) (full:Bool) (ll:List α) (hll:ll.length<=100000) (hv:v= .slice i 0 ll.length sz full) {H':qc} {n':Nat} (h':CK Z r s ((i,ll.flatMap c)::A) F H' n'):CK Z r s A ((λΓ=>q9 c sz Γ v ll)::F) H' n':=by
  have h1:=SH.freeze (CK.top h')
  refine SH.sub (SH.add (P:=λΓ=>q9 c sz Γ v ll) h1 λΓ hq=> ?_) λP hP=> ?_
  ·have hr:Γ i=some (ll.flatMap c):=hq _ (.head _)
   exact⟨.inr ⟨i,0,full,_,hv,hr,by rw [zY hc];omega,by rw [List.drop_zero,<-zY hc,List.take_length]⟩,hll⟩
  ·rcases List.mem_cons.1 hP with rfl|hP
   ·exact .tail _ (.tail _ (.head _))
   ·rcases List.mem_cons.1 hP with rfl|hP
    ·exact .head _
    ·exact .tail _ (.tail _ (.tail _ hP))
 cases m with
 |nil=>
  refine⟨_,H,nx,rfl,Nat.le_refl _,rfl,?_,λb' cs' _ ho j=>CK.ld1 h (.tl ho) j⟩
  rw [List.append_nil];rw [List.append_nil]at hN;exact key _ b true l hN rfl h
 |cons y m=>
  have b1:(l.length+(y::m).length)*sz<=100000*16:=Nat.mul_le_mul (by rw [<-List.length_append];exact hN) h9
  have b2:(l.length+(y::m).length)*eb<=100000*128:=Nat.mul_le_mul (by rw [<-List.length_append];exact hN) h8
  obtain⟨H',e1,e2⟩:=SH.appFullO (off:=0) (len:=l.length) (esz:=sz) (ebytes:=eb) (k:=(y::m).length) (new:=(y::m).flatMap c) (CK.top h) .hd (by omega) (zY hc) (by simp) (by omega) (by omega)
  have e3:(((l.flatMap c).drop 0).take (l.length*sz)++(y::m).flatMap c)=(l++y::m).flatMap c:=by
   rw [List.drop_zero,<-hl,List.take_length,List.flatMap_append]
  rw [e3]at e2;have h2:CK Z r s ((nx,(l++y::m).flatMap c)::A) F H' (nx+1):=CK.of_top (SH.drop (SH.swap e2))
  refine⟨_,H',_,e1,by omega,rfl,key _ nx false _ hN (by rw [List.length_append]) h2,λb' cs' _ ho j=>CK.ld1 h2 (.tl ho) j⟩
theorem CkV.sgs{Γ:GH}(hv:CkV Γ r s.sv)(hr:Γ r=some s.cells):qac Γ (qT s.fb 4 s.fs) s.sv.fs:=by
 obtain⟨wt,wf,wd,wn,wv,pw,hc,_,hS,_⟩:=hv
 rw [hr]at hc
 injection hc with hc
 injection hc with _ hc
 injection hc with hc _
 rw [hc];exact hS
theorem CK.addSg{f:CSg}{pw:qa}(hN:s.fs.length<1000)(h:CK Z r s A F H nx)(hp:(λΓ=>kY Γ pw f.params)∈F):
  ∃H',z3 H nx 4 56 (qT s.fb 4 s.fs) 1 (sgC (f,pw))=some (qT nx 4 (s.fs++[(f,pw)]),H',nx+1)/\
   ∃H'',stC H' (.ptr r 1) [qT nx 4 (s.fs++[(f,pw)])]=some H''/\CK Z r {s with fb:=nx,fs:=s.fs++[(f,pw)]} A F H'' (nx+1):=by
 have h1:SH Z (zc sgC s.fb s.fs++((r,s.cells)::(s.tb,(s.T.map DTy.v).flatMap tyC)::(s.vrow++(s.T.flatMap DTy.rows++A)))) (s.ok::F) H nx:=by
  refine SH.perm ?_ h
  show((r,s.cells)::(s.tb,(s.T.map DTy.v).flatMap tyC)::(zc sgC s.fb s.fs++(s.vrow++(s.T.flatMap DTy.rows++A)))).Perm _
  exact(List.perm_middle.symm.cons _).trans List.perm_middle.symm
 obtain⟨H',e1,e2⟩:=SH.appO (c:=sgC) (sz:=4) (eb:=56) (b:=s.fb) (l:=s.fs) (x:=(f,pw)) (λ_=>rfl) (by omega) (by omega) (by omega) (by omega) h1
 refine⟨H',e1,?_⟩
 have h3:SH Z ((r,s.cells)::(s.tb,(s.T.map DTy.v).flatMap tyC)::(zc sgC nx (s.fs++[(f,pw)])++(s.vrow++(s.T.flatMap DTy.rows++A)))) (s.ok::F) H' (nx+1):=SH.perm (List.perm_middle.trans (List.perm_middle.cons _)) e2
 obtain⟨H'',e3,e4⟩:=SH.st (off:=1) (vs:=[qT nx 4 (s.fs++[(f,pw)])]) h3 (by rw [Jo (show 1<s.cells.length by show 1<12;omega)];exact .hd) (by show 1+1<=12;omega) (by simp [qt,zp])
 refine⟨H'',e3,CK.asF e4 (.refl _) λΓ o hF=>⟨o.ty,λy hy=> ?_,o.fw,o.tN,?_,o.vN,o.v0,o.dw,o.nw⟩⟩
 ·rcases List.mem_append.1 hy with hy|hy
  ·exact o.fs y hy
  ·rw [List.mem_singleton.1 hy];exact hF _ hp
 ·show(s.fs++[_]).length<=1000
  rw [List.length_append];simp;omega
abbrev EF(r q g:Nat):List (Nat×qa):=[(0,.ptr r 0),(3,.ptr q 0),(4,.ptr g 0)]
theorem qoq{p:qa}(hq:Own A q d.cells)(h:CK Z r s A F H n)(hN:s.fs.length<=1000){P:Prop}
  (hT:s.sv.fs.all (λf=>decide (f.recv≠0\/f.name≠d.nm))=true->∀H' n',n<=n'->CK Z r s A F H' n'->K0 (.exit 0) (qe .und (EF r q g++[(6,p)])) H' n' [] none)
  (hF:s.sv.fs.all (λf=>decide (f.recv≠0\/f.name≠d.nm))=false->∀H' n' env,n<=n'->CK Z r s A F H' n'->K0 (.pan [(jQ ⟨d.li,d.co,16⟩,false)]) env H' n' [] none)
  {env:Env} (he:qq (qe .und (EF r q g++[(6,p),(29,qT s.fb 4 s.fs),(30,iv (s.fs.length:Int)),(31,iv 0)])) env):
  LpP PG 164 (qi (qd PG qv) [1,1,1,0,1,0,1,0,0]) env H n [] none K0:=by
 have hlen:s.sv.fs.length=s.fs.length:=by simp [DS.sv]
 generalize hp:(λf:CSg=>decide (f.recv≠0\/f.name≠d.nm))=pp at hT hF
 refine zD (P:=PG) (X:=Nat) (Y:=Unit) (λi=>qe .und (EF r q g++[(6,p),(29,qT s.fb 4 s.fs),(30,iv (s.fs.length:Int)),(31,iv (i:Int))])) (λ_=>qe .und (EF r q g++[(6,p)]))
  (λm i H1 n1=>m=s.fs.length - i/\i<=s.fs.length/\n<=n1/\CK Z r s A F H1 n1/\s.sv.fs.all pp=(s.sv.fs.drop i).all pp)
  (λid _ H1 n1=>id=0/\n<=n1/\CK Z r s A F H1 n1/\s.sv.fs.all pp=true) s.fs.length 0 he ⟨rfl,Nat.zero_le _,Nat.le_refl _,h,rfl⟩ ?_ ?_
 ·rintro m i H1 n1 ⟨rfl,hi,g1,c1,hf⟩
  refine WpP.partK (ts:=[0,3,4,6,29,30,31]) qp ?_
  refine Eq.mpr (qun ..) ?_
  obtain⟨Γ1,s1',hv,hr,_,hF1,_⟩:=c1.ro
  refine qf.2 ⟨λhc=> ?_,λhc=> ?_⟩
  ·have hc:(i:Int)<(s.fs.length:Int):=of_decide_eq_true hc
   have hil:i<s.sv.fs.length:=by omega
   obtain⟨b,off,pw,hpw,i1,i2,_⟩:=(hv.sgs hr).rd s1'.toZ hil
   have ew:i64.wrap ((i:Int)+1)=((i+1:Nat):Int):=by rw [qB (by omega) (by omega)];omega
   rw [List.drop_eq_getElem_cons hil,List.all_cons]at hf;rw [ew];refine⟨by omega,_,i1,_,_,_,_,i2,c1.mk1 (cs:=[.str [],iv 0,.nilSlice,iv 0]) lR λH2 c2=>c2.all (vs:=sgC (s.sv.fs[i],pw)) rfl (qe9 hpw) λH3 c3=>⟨_,rfl,_,c3.ld1 .hd 1,?_⟩⟩
   have fin (X:Bool) (hX:X=pp s.sv.fs[i]) (e:Env):qo PG qh [.ptr r 0,.bool X,d.val,iv 16] H3 (n1+1) λe15 H16 i17=>qj e15 (λ_=>([]:Dfs)=[]/\∃m' x',m'<s.fs.length - i/\qq (qe .und (EF r q g++[(6,p),(29,qT s.fb 4 s.fs),(30,iv (s.fs.length:Int)),(31,iv ((x':Nat):Int))])) (qe .und (EF r q g++[(6,p),(29,qT s.fb 4 s.fs),(30,iv (s.fs.length:Int)),(31,iv ((i+1:Nat):Int))]))/\m'=s.fs.length - x'/\x'<=s.fs.length/\n<=i17/\CK Z r s A F H16 i17/\s.sv.fs.all pp=(s.sv.fs.drop x').all pp) λl=>K0 (.pan l) e H16 i17 [] none:=by
    subst hX;refine c3.need (λhb H4 n4 g4 c4=>qb.2 ⟨rfl,s.fs.length - (i+1),i+1,by omega,qq.refl _,rfl,by omega,by omega,c4.drop,?_⟩) λhb H4 n4 g4 c4=>ql.2 ?_
    ·rw [hb,Bool.true_and]at hf;exact hf
    ·rw [hb,Bool.false_and]at hf;exact hF hf H4 n4 _ (by omega) c4.drop
   have hqd:=c3.ldA (sz:=6) (.tl hq) rfl
   refine qf.2 ⟨λh1=>⟨_,_,_,_,_,_,hqd,fin _ ?_ _⟩,λh1=>⟨_,rfl,_,c3.ld1 .hd 0,_,rfl,_,c3.ld1 (.tl hq) 1,_,_,_,_,_,_,hqd,fin _ ?_ _⟩⟩
   ·rw [<-hp];have:s.sv.fs[i].recv≠0:=λe=>by rw [e]at h1;simp at h1
    exact(decide_eq_true (.inl this)).symm
   ·rw [<-hp];have e1:s.sv.fs[i].recv=0:=Int.ofNat.inj (by simpa using h1)
    rw [qiw,Bool.eq_iff_iff];simp [e1]
  ·have hc:¬(i:Int)<(s.fs.length:Int):=of_decide_eq_false hc
   have:i=s.sv.fs.length:=by omega
   subst this;rw [List.drop_length]at hf;exact⟨rfl,(),qq.okay,rfl,g1,c1,hf⟩
 ·rintro id _ H1 n1 ⟨rfl,g1,c1,hf⟩
  exact hT hf H1 n1 g1 c1
theorem qk1{p:qa}{ks:List DT}{ok:Prop}{no:Flt->Prop}(hw:Ent F λΓ=>q9 DT.cells 6 Γ p ks/\DFs Γ ks)(hks:ks.length<=1000)(h:CK Z r s A F H n)
  (ho:qE (yW [] (ers ks)) (λ_=>ok) no)
  (hno:∀f,no f->∀H' n' env,n<=n'->SH Z A F H' n'->K0 (.pan [(jQ f,false)]) env H' n' [] none)
  (hK:ok->∀H' n',n<=n'->CK Z r s A F H' n'->K0 (.exit 2) (qe .und (EF r q g++[(6,p)])) H' n' [] none)
  {env:Env} (he:qq (qe .und (EF r q g++[(6,p),(9,.nilSlice),(74,p),(75,iv (Int.ofNat ks.length)),(76,iv 0)])) env):
  LpP PG 164 (qi (qd PG qv) [1,1,1,1,1,1,1,0,1,0,0]) env H n [] none K0:=by
 refine zD (P:=PG) (X:=Nat×Nat×List Bs) (Y:=Unit) (λx=>qe .und (EF r q g++[(6,p),(9,qT x.2.1 1 x.2.2),(74,p),(75,iv (ks.length:Int)),(76,iv (x.1:Int))])) (λ_=>qe .und (EF r q g++[(6,p)]))
  (λm x H1 n1=>m=ks.length - x.1/\x.1<=ks.length/\x.2.2.length=x.1/\n<=n1/\CK Z r s (zc VH x.2.1 x.2.2++A) F H1 n1/\qE (yW x.2.2 (ers (ks.drop x.1))) (λ_=>ok) no)
  (λid _ H1 n1=>id=2/\n<=n1/\CK Z r s A F H1 n1/\ok) ks.length (0,0,[]) he ⟨rfl,Nat.zero_le _,rfl,Nat.le_refl _,h,ho⟩ ?_ ?_
 ·rintro m ⟨i,nb,names⟩ H1 n1 ⟨rfl,hi,hnl,g1,c1,hf⟩
  dsimp only at hi hnl c1 hf ⊢
  refine WpP.partK (ts:=[0,3,4,6,9,74,75,76]) qp ?_
  refine Eq.mpr (qss ..) ?_
  obtain⟨Γ1,s1',_,_,_,hF1,_⟩:=c1.ro
  refine qf.2 ⟨λhc=> ?_,λhc=> ?_⟩
  ·have hc:(i:Int)<(ks.length:Int):=of_decide_eq_true hc
   have hil:i<ks.length:=by omega
   obtain⟨b,off,i1,i2,_⟩:=q9.rd (sz:=6) zV (hw Γ1 hF1).1 s1'.toZ hil
   have ew:i64.wrap ((i:Int)+1)=((i+1:Nat):Int):=by rw [qB (by omega) (by omega)];omega
   have hkd:DF Γ1 ks[i]:=(hw Γ1 hF1).2.get (List.getElem_mem hil)
   rw [List.drop_eq_getElem_cons hil]at hf;have hf:qE (Ck.need (!names.contains ks[i].nm) ks[i].er 16 (yW (names++[ks[i].nm]) (ers (ks.drop (i+1))))) (λ_=>ok) no:=by
    have e:yW names (ks[i].er::ers (ks.drop (i+1)))=Ck.need (!names.contains ks[i].nm) ks[i].er 16 (yW (names++[ks[i].nm]) (ers (ks.drop (i+1)))):=by rw [yW,jo]
    rw [<-e];exact hf
   rw [ew];refine⟨by omega,_,i1,_,_,_,_,_,_,i2,c1.mk1 (cs:=zT.cells) lR λH2 c2=>c2.all (vs:=ks[i].cells) rfl hkd.cell λH3 c3=> ?_⟩
   have lq {H:qc} {n:Nat} {B:qD} (c:CK Z r s ((n1,ks[i].cells)::B) F H n):=c.ldA (sz:=6) .hd rfl
   obtain⟨Γ3,s3,_,_,_,hF3,hA3,back3⟩:=c3.ro
   have hstr:qm9 Γ3 (qT nb 1 names) names:=ZJ qgl (by omega) λb cs hb=>hA3 b cs (.tail _ (List.mem_append.2 (.inl hb)))
   refine⟨_,rfl,_,c3.ld1 .hd 1,_,_,_,_,_,_,lq c3,⟨⟨_,c3.ld1 .hd 1,rfl⟩,⟨_,_,_,_,_,_,lq c3,rfl⟩,trivial⟩,qd3 (s3.more (by omega)) hstr λH4 n4 g4 s4=>qb.2 ⟨_,rfl,⟨⟨_,_,_,_,_,_,lq (back3 H4 n4 s4),rfl⟩,trivial⟩,(back3 H4 n4 s4).need (λhb H5 n5 g5 c5=>qb.2 ?_) λhb H5 n5 g5 c5=>ql.2 ?_⟩⟩
   ·refine⟨trivial,_,rfl,_,c5.ld1 .hd 1,rfl,c5.mk1 (cs:=[.str ks[i].nm]) lR λH6 c6=>⟨_,_,SH.srcO (sz:=1) c6 (CK.ownA .hd) (by simp),rfl,?_⟩⟩
    obtain⟨H7,e7,c7⟩:=CK.appA (sz:=1) (eb:=16) (e:=ks[i].nm) qgl (by omega) (by omega) (by omega) (by omega) c6.drop.drop
    exact⟨_,H7,_,e7,rfl,ks.length - (i+1),(i+1,n5+1,names++[ks[i].nm]),by omega,qq.refl _,rfl,by show i+1<=_;omega,by show(names++[_]).length=i+1;rw [List.length_append,hnl];rfl,by omega,c7,qE.needT hf hb⟩
   ·have:=qE.needF hf hb
    rw [zh]at this;exact hno _ this H5 n5 _ (by omega) (SH.sel (List.sublist_append_right _ _) c5.drop.end_)
  ·have hc:¬(i:Int)<(ks.length:Int):=of_decide_eq_false hc
   have:i=ks.length:=by omega
   subst this;rw [List.drop_length]at hf;exact⟨rfl,(),qq.okay,rfl,g1,c1.drops,hf⟩
 ·rintro id _ H1 n1 ⟨rfl,g1,c1,hf⟩
  exact hK hf H1 n1 g1 c1
theorem qit{p:qa}{ks:List DT}{nm:Bs}{rv rs:Int}{okp:List Nat×List Ty->Prop}{no:Flt->Prop}(hw:Ent F λΓ=>q9 DT.cells 6 Γ p ks/\DFs Γ ks)(hks:ks.length<=1000)
  (h:CK Z r s ((g,[.str nm,iv rv,.nilSlice,iv rs])::A) F H n)
  (ho:qE (Ck.ob (vV s.sv.T (ers (ks.map λk=>qQ k.kids 0))) λq=>(.ok ([]++q.1,q.2):Ex (List Nat×List Ty))) okp no)
  (hno:∀f,no f->∀H' n' env,n<=n'->SH Z A F H' n'->K0 (.pan [(jQ f,false)]) env H' n' [] none)
  (hK:∀s' ps pb T' H' n',n<=n'->jC s s' T'->okp (ps,T')->ps.length<=1000->CK Z r s' ((g,[.str nm,iv rv,qT pb 1 ps,iv rs])::(zc yv pb ps++A)) F H' n'->K0 (.exit 4) (qe .und (EF r q g)) H' n' [] none)
  {env:Env} (he:qq (qe .und (EF r q g++[(99,p),(100,iv (Int.ofNat ks.length)),(101,iv 0)])) env):
  LpP PG 164 (qi (qd PG qv) [1,1,1,1,1,1,1,1,1,0,1,0,0]) env H n [] none K0:=by
 have h:CK Z r s ((g,[.str nm,iv rv,qT 0 1 ([]:List Nat),iv rs])::(zc yv 0 ([]:List Nat)++A)) F H n:=h
 refine zD (P:=PG) (X:=Nat) (Y:=Unit) (λi=>qe .und (EF r q g++[(99,p),(100,iv (ks.length:Int)),(101,iv (i:Int))])) (λ_=>qe .und (EF r q g))
  (λm i H1 n1=>m=ks.length - i/\i<=ks.length/\n<=n1/\∃s1 acc pb1 T1,jC s s1 T1/\acc.length<=i/\CK Z r s1 ((g,[.str nm,iv rv,qT pb1 1 acc,iv rs])::(zc yv pb1 acc++A)) F H1 n1/\qE (Ck.ob (vV T1 (ers ((ks.drop i).map λk=>qQ k.kids 0))) λq=>(.ok (acc++q.1,q.2):Ex (List Nat×List Ty))) okp no)
  (λid _ H1 n1=>id=4/\n<=n1/\∃s1 acc pb1 T1,jC s s1 T1/\acc.length<=ks.length/\okp (acc,T1)/\CK Z r s1 ((g,[.str nm,iv rv,qT pb1 1 acc,iv rs])::(zc yv pb1 acc++A)) F H1 n1) ks.length 0 he ⟨rfl,Nat.zero_le _,Nat.le_refl _,s,[],0,_,jC.refl,Nat.le_refl _,h,ho⟩ ?_ ?_
 ·rintro m i H1 n1 ⟨rfl,hi,g1,s1,acc,pb1,T1,e1,ha,c1,hf⟩
  refine WpP.partK (ts:=[0,3,4,99,100,101]) qp ?_
  refine Eq.mpr (qu6 ..) ?_
  obtain⟨Γ1,s1',_,_,_,hF1,_⟩:=c1.ro
  refine qf.2 ⟨λhc=> ?_,λhc=> ?_⟩
  ·have hc:(i:Int)<(ks.length:Int):=of_decide_eq_true hc
   have hil:i<ks.length:=by omega
   obtain⟨b,off,i1,i2,_⟩:=q9.rd (sz:=6) zV (hw Γ1 hF1).1 s1'.toZ hil
   have ew:i64.wrap ((i:Int)+1)=((i+1:Nat):Int):=by rw [qB (by omega) (by omega)];omega
   have hkd:DF Γ1 ks[i]:=(hw Γ1 hF1).2.get (List.getElem_mem hil)
   rw [List.drop_eq_getElem_cons hil]at hf;have hf:qE (Ck.ob (vV T1 ((qQ ks[i].kids 0).er::ers ((ks.drop (i+1)).map λk=>qQ k.kids 0))) λq=>(.ok (acc++q.1,q.2):Ex (List Nat×List Ty))) okp no:=hf
   rw [qgu]at hf;rw [ew];refine⟨by omega,_,i1,_,_,_,_,_,_,i2,c1.mk1 (cs:=zT.cells) lR λH2 c2=>c2.all (vs:=ks[i].cells) rfl hkd.cell λH3 c3=> ?_⟩
   obtain⟨Γ3,s3,_,_,_,hF3,hA3,back3⟩:=c3.ro
   refine⟨_,_,_,_,_,_,c3.ldA .hd rfl,jf (i:=0) s3 ((hw Γ3 hF3).2.get (List.getElem_mem hil)) λH4 n4 g4 s4=>qb.2 ⟨_,_,_,_,_,_,rfl,?_⟩⟩
   refine yH (qQ ks[i].kids 0) (λΓ hq=>((hw Γ hq).2.get (List.getElem_mem hil)).kids.kid) (back3 H4 n4 s4) ?_
   rw [e1.T];refine(qE.ob hf).mono (λpr hp hz=> ?_) λf _ hz H5 n5 g5 s5=>ql.2 ?_
   ·obtain⟨x,T2⟩:=pr
    intro s5 H5 n5 g5 e5 c5;have c5':=c5.drop
    refine qb.2 ⟨_,rfl,_,rfl,_,c5'.ld1 .hd 2,rfl,c5'.mk1 (cs:=[iv x]) lR λH6 c6=>⟨_,_,SH.srcO (sz:=1) c6 (CK.ownA .hd) (by simp),rfl,?_⟩⟩
    have c7:CK Z r s5 (zc yv pb1 acc++((g,[.str nm,iv rv,qT pb1 1 acc,iv rs])::A)) F H6 (n5+1):=c6.drop.permA List.perm_middle.symm
    obtain⟨H7,e7,c8⟩:=CK.appA (sz:=1) (eb:=8) (e:=x) WX (by omega) (by omega) (by omega) (by omega) c7
    have c9:CK Z r s5 ((g,[.str nm,iv rv,qT pb1 1 acc,iv rs])::(zc yv (n5+1) (acc++[x])++A)) F H7 (n5+1+1):=c8.permA List.perm_middle
    refine⟨_,H7,_,e7,_,rfl,zp,c9.one1 (j:=2) (by simp) zp λH8 c10=> ?_⟩
    exact⟨rfl,ks.length - (i+1),i+1,by omega,qq.refl _,rfl,by omega,by omega,s5,acc++[x],n5+1,T2,e1.trans e5,by rw [List.length_append];simp;omega,c10,hz⟩
   ·exact hno f hz _ _ _ (by omega) (SH.sel (List.sublist_append_right _ _) (SH.drop (SH.drop s5)))
  ·have hc:¬(i:Int)<(ks.length:Int):=of_decide_eq_false hc
   have:i=ks.length:=by omega
   subst this;rw [List.drop_length]at hf;have hf:okp (acc++[],T1):=hf
   rw [List.append_nil]at hf;exact⟨rfl,(),qq.okay,rfl,g1,s1,acc,pb1,T1,e1,ha,hf,c1⟩
 ·rintro id _ H1 n1 ⟨rfl,g1,s1,acc,pb1,T1,e1,ha,hf,c1⟩
  exact hK s1 acc pb1 T1 H1 n1 g1 e1 hf (by omega) c1
end
theorem qoy:qbe PG qv 164 2=true:=by kernel_rfl
theorem qq5:qd PG qv= .seq (qi (qd PG qv) [0]) (.seq (qi (qd PG qv) [1,0]) (.seq (qi (qd PG qv) [1,1,0]) (.seq (.seq (qi (qd PG qv) [1,1,1,0,0]) (.cond (.tmp 25) (.seq (qi (qd PG qv) [1,1,1,0,1,0,0]) (.block 0 (.loop (qi (qd PG qv) [1,1,1,0,1,0,1,0,0])))) (.seq (qi (qd PG qv) [1,1,1,0,1,1,0]) (qi (qd PG qv) [1,1,1,0,1,1,1])))) (.seq (qi (qd PG qv) [1,1,1,1,0]) (.seq (qi (qd PG qv) [1,1,1,1,1,0]) (.seq (qi (qd PG qv) [1,1,1,1,1,1,0]) (.seq (.seq (qi (qd PG qv) [1,1,1,1,1,1,1,0,0]) (.block 2 (.loop (qi (qd PG qv) [1,1,1,1,1,1,1,0,1,0,0])))) (.seq (qi (qd PG qv) [1,1,1,1,1,1,1,1,0]) (.seq (.seq (qi (qd PG qv) [1,1,1,1,1,1,1,1,1,0,0]) (.block 4 (.loop (qi (qd PG qv) [1,1,1,1,1,1,1,1,1,0,1,0,0])))) (.seq (.seq (qi (qd PG qv) [1,1,1,1,1,1,1,1,1,1,0,0]) (.cond (.tmp 118) (.seq (qi (qd PG qv) [1,1,1,1,1,1,1,1,1,1,0,1,0,0]) (qi (qd PG qv) [1,1,1,1,1,1,1,1,1,1,0,1,0,1])) .skip)) (qi (qd PG qv) [1,1,1,1,1,1,1,1,1,1,1]))))))))))):=by kernel_rfl
section
variable{r q g b t x p_:Nat}{s s':DS}{A B:qD}{F G:zr}{H:qc}{nx n pb rv rs:Nat}{K:qr}{K0:KP}{d:DT}{ps:List Nat}{f:CSg}{pw:qa}
theorem quz(lv:zJ)(lvc:zI)(K:qr)(env:Env)(H:qc)(nx:Nat):qy PG lv lvc K (qP PG qv) .normal env H nx [] none=K (.ret (.tuple [])) H nx:=by kernel_rfl
theorem qul(lv:zJ)(lvc:zI)(K:qr)(l:List (qa×Bool))(env:Env)(H:qc)(nx:Nat):qy PG lv lvc K (qP PG qv) (.pan l) env H nx [] none=K (.pan l) H nx:=by kernel_rfl
def FCh(s s':DS)(T:List Ty)(fs:List CSg):Prop:=∃tb L fb gs,s'={s with tb:=tb,T:=L,fb:=fb,fs:=gs}/\L.map (·.t)=T/\gs.map (·.1)=fs
theorem qt0(h:CK Z r s ((g,sgC (f,pw))::B) F H n)(hp:(λΓ=>kY Γ pw f.params)∈F)(hpc:qZ pw=true)(hN:s.fs.length<1000)
  (hK:∀fb H' n' env,n<=n'->CK Z r {s with fb:=fb,fs:=s.fs++[(f,pw)]} ((g,sgC (f,pw))::B) F H' n'->K0 .normal env H' n' [] none):
  WpP PG 164 (qi (qd PG qv) [1,1,1,1,1,1,1,1,1,1,1]) (qe .und (EF r q g)) H n [] K0:=by
 refine WpP.partK (ts:=[0]) qp ?_
 refine Eq.mpr (qt7 ..) ?_
 refine⟨rfl,_,rfl,_,h.cell 1,_,_,_,_,h.ldA (sz:=4) .hd rfl,h.mk1 (cs:=sgC (f,pw)) (by omega) λH6 c6=>⟨⟨⟨_,c6.cell 1,rfl⟩,⟨_,_,_,_,c6.ldA (sz:=4) (.tl .hd) rfl,rfl⟩,trivial⟩,_,_,SH.srcO (sz:=4) c6 (CK.ownA .hd) (by simp [sgC]),?_,?_⟩⟩
 ·simp only [sgC,List.drop_zero,List.take,qt,hpc];rfl
 obtain⟨H7,e7,H8,e8,c8⟩:=(c6.drop.more (nx':=n+11) (by omega)).addSg (f:=f) (pw:=pw) hN hp
 exact⟨_,H7,_,e7,rfl,_,rfl,trivial,zp,H8,e8,trivial,hK _ H8 _ _ (by omega) c8⟩
theorem qpc(h:CK Z r s ((g,sgC (⟨d.nm,rv,ps,rs⟩,qT pb 1 ps))::(q,d.cells)::A) F H n)(hI:(λΓ=>kY Γ (qT pb 1 ps) ps)∈F)(hps:1<=ps.length)(hpl:ps.length<=1000)(hrv:rv<s.sv.T.length)(hm:(ty s.sv.T rv).methods.length<1000)
  (hK:∀s' H' n',n<=n'->RCh s s' (jL s.sv.T rv {ty s.sv.T rv with methods:=(ty s.sv.T rv).methods++[⟨d.nm,ps.drop 1,rs,((s.fs.length:Nat):Int)⟩]})->CK Z r s' ((g,sgC (⟨d.nm,rv,ps,rs⟩,qT pb 1 ps))::(q,d.cells)::A) F H' n'->K0 .normal (qe .und (EF r q g)) H' n' [] none):
  WpP PG 164 (.seq (qi (qd PG qv) [1,1,1,1,1,1,1,1,1,1,0,1,0,0]) (qi (qd PG qv) [1,1,1,1,1,1,1,1,1,1,0,1,0,1])) (qe .und (EF r q g)) H n [] K0:=by
 refine WpP.seq (WpP.partK (ts:=[0,3,4,15]) qp ?_)
 refine Eq.mpr (qtx ..) ?_
 have hlT:s.sv.T.length=s.T.length:=by simp [DS.sv]
 obtain⟨Γ0,o0,hF0⟩:=h.okF
 obtain⟨w,hw,_⟩:=q9.drop (sz:=1) WX (hF0 _ hI) hps
 have hE:Ent F λΓ=>kY Γ w (ps.drop 1):=λΓ hq=>by
  obtain⟨w2,h1,h2⟩:=q9.drop (sz:=1) WX (hq _ hI) hps
  rw [hw]at h1
  injection h1 with h1
  subst h1;exact h2
 refine⟨_,rfl,_,h.ld1 (.tl .hd) 1,h.mk1 (cs:=[]) (by omega) λH2 c2=>⟨_,rfl,_,c2.ld1 (.tl .hd) 2,by omega,w,hw,_,rfl,_,c2.ld1 (.tl .hd) 3,rfl,_,rfl,_,c2.cell 1,_,vU,c2.mk1 (cs:=[.str [],.nilSlice,iv 0,iv 0]) (by omega) λH3 c3=> ?_⟩⟩
 obtain⟨Γ3,s3,_,_,_,hF3,_⟩:=c3.ro
 refine⟨⟨⟨_,c3.ld1 (.tl (.tl (.tl .hd))) 1,rfl⟩,⟨_,c3.ld1 (.tl (.tl .hd)) 2,rfl⟩,⟨by omega,_,hw,rfl⟩,⟨_,c3.ld1 (.tl (.tl .hd)) 3,rfl⟩,⟨_,c3.cell 1,rfl⟩,trivial⟩,_,_,Z9.src (hE Γ3 hF3).1 s3.toZ,qg2,?_⟩
 have c3':CK Z r s ((n+2,([]:List Nat).flatMap yv)::(n+15,[.str [],.nilSlice,iv 0,iv 0])::(g,sgC (⟨d.nm,rv,ps,rs⟩,qT pb 1 ps))::(q,d.cells)::A) F H3 (n+17):=c3.swap.more (by omega)
 obtain⟨v,H4,n4,e4,g4,hvc,c4,_⟩:=CK.appKnown (c:=yv) (sz:=1) (eb:=8) (m:=ps.drop 1) WX (by omega) (by omega) (by omega) (by rw [List.nil_append,List.length_drop];omega) c3'
 refine⟨v,H4,n4,e4,rfl,hvc,rfl,rfl,⟨⟨_,c4.ld1 (.tl (.tl .hd)) 1,rfl⟩,⟨_,c4.ld1 (.tl .hd) 3,rfl⟩,⟨_,c4.cell 1,rfl⟩,trivial⟩,c4.all (vs:=wg (⟨d.nm,ps.drop 1,rs,((s.fs.length:Nat):Int)⟩,v)) rfl (by simp only [wg,qt,hvc];rfl) λH5 c5=>⟨trivial,?_⟩⟩
 show WpP PG 164 _ _ _ _ _ _
 refine WpP.partK (ts:=[0,3,4]) qp ?_
 refine Eq.mpr (qt6 ..) ?_
 obtain⟨L1,x,L2,hT,hl1,_⟩:=V0 (t:=rv) (T:=s.T) (by omega)
 have hx:=YW hT hl1
 subst hl1;rw [hx]at hm hK;refine⟨rfl,_,rfl,_,c5.cell 0,_,rfl,_,c5.ld1 (.tl .hd) 1,rfl,_,rfl,_,c5.cell 0,_,rfl,_,c5.ld1 (.tl .hd) 1,Int.natCast_nonneg _,_,ZK hT,_,rfl,_,c5.tyAt hT (j:=4) (by omega),_,_,_,_,c5.ldA (sz:=4) .hd rfl,c5.mk1 (cs:=wg (⟨d.nm,ps.drop 1,rs,((s.fs.length:Nat):Int)⟩,v)) (by omega) λH6 c6=> ?_⟩
 refine⟨⟨⟨_,c6.cell 0,rfl⟩,⟨_,c6.ld1 (.tl (.tl .hd)) 1,rfl⟩,⟨_,c6.cell 0,rfl⟩,⟨_,c6.ld1 (.tl (.tl .hd)) 1,rfl⟩,⟨_,c6.tyAt hT (j:=4) (by omega),rfl⟩,⟨_,_,_,_,c6.ldA (sz:=4) (.tl .hd) rfl,rfl⟩,trivial⟩,_,_,SH.srcO (sz:=4) c6 (CK.ownA .hd) (by simp [wg]),?_,?_⟩
 ·simp only [wg,List.drop_zero,List.take,qt,hvc];rfl
 obtain⟨H7,e7,l7,lg,H8,e8,c8⟩:=(c6.drop.more (nx':=n4+21) (by omega)).addMth (m:=⟨d.nm,ps.drop 1,rs,((s.fs.length:Nat):Int)⟩) (pw:=v) hT hm (.head _)
 have l7g:ld1 H7 (.ptr g 1)=some (iv L1.length):=lg g _ (.tail _ (.head _)) 1
 refine⟨_,H7,_,e7,Int.natCast_nonneg _,_,ZK hT,_,rfl,⟨⟨_,l7,rfl⟩,⟨_,l7g,rfl⟩,trivial⟩,zp,H8,e8,trivial,?_⟩
 have hT':(L1++{x with t:={x.t with methods:=x.t.methods++[⟨d.nm,ps.drop 1,rs,((s.fs.length:Nat):Int)⟩]},mb:=n4+21,pw:=x.pw++[v]}::L2).map (·.t)=jL s.sv.T L1.length {x.t with methods:=x.t.methods++[⟨d.nm,ps.drop 1,rs,((s.fs.length:Nat):Int)⟩]}:=by
  unfold jL DS.sv;rw [hT];simp
 exact hK _ H8 _ (by omega) ⟨_,_,rfl,hT'⟩ (c8.sub λP hP=> .tail _ hP).drop
theorem qcz:∀{l:List qu} {T T':List Ty} {xs:List Nat},vV T l= .ok (xs,T')->xs.length=l.length
 |[],T,T',xs,h=>by
  injection h with h
  injection h with h1 h
  subst h1
  rfl
 |n::ns,T,T',xs,h=>by
  unfold vV at h;obtain⟨⟨x,T1⟩,h1,h⟩:=zy h
  obtain⟨⟨ys,T2⟩,h2,h⟩:=zy h
  have h:(Except.ok (x::ys,T2):Ex (List Nat×List Ty))= .ok (xs,T'):=h
  injection h with h
  injection h with h3 h4
  subst h3;simp [qcz h2]
def Zt(rv:Nat)(nm:Bs)(fs:List CSg)(a:Nat)(ps:List Nat)(T:List Ty):List Ty×List CSg:=
 (if rv=0 then T else jL T rv {ty T rv with methods:=(ty T rv).methods++[⟨nm,ps.drop 1,a,((fs.length:Nat):Int)⟩]},fs++[⟨nm,rv,ps,a⟩])
theorem qhj{p:qa}{ks:List DT}{okp:List Ty×List CSg->Prop}{no:Flt->Prop}(hd:Ent F λΓ=>DF Γ d)(hw:Ent F λΓ=>q9 DT.cells 6 Γ p ks/\DFs Γ ks)
  (h:CK Z r s ((g,[.str d.nm,iv rv,.nilSlice,iv 0])::(q,d.cells)::A) F H n) (hrv:rv≠0->rv<s.sv.T.length/\(ty s.sv.T rv).methods.length<12/\1<=ks.length)
  (ho:qE (Ck.need (decide (s.sv.fs.length<60)) d.er 18 (Ck.need (decide (ks.length<=8)) d.er 18 (Ck.ob (yW [] (ers ks)) λ_=>Ck.ob (Ck.res s.sv.T (qQ d.kids 1).er) λq=>Ck.ob (vV q.2 (ers (ks.map λk=>qQ k.kids 0))) λu=> .ok (Zt rv d.nm s.sv.fs q.1 u.1 u.2)))) okp no)
  (hno:∀f,no f->∀H' n' env,n<=n'->SH Z A F H' n'->K0 (.pan [(jQ f,false)]) env H' n' [] none)
  (hK:∀pr s' H' n' env,n<=n'->okp pr->FCh s s' pr.1 pr.2->CK Z r s' A F H' n'->K0 .normal env H' n' [] none):
  WpP PG 164 (.seq (qi (qd PG qv) [1,1,1,1,0]) (.seq (qi (qd PG qv) [1,1,1,1,1,0]) (.seq (qi (qd PG qv) [1,1,1,1,1,1,0]) (.seq (.seq (qi (qd PG qv) [1,1,1,1,1,1,1,0,0]) (.block 2 (.loop (qi (qd PG qv) [1,1,1,1,1,1,1,0,1,0,0])))) (.seq (qi (qd PG qv) [1,1,1,1,1,1,1,1,0]) (.seq (.seq (qi (qd PG qv) [1,1,1,1,1,1,1,1,1,0,0]) (.block 4 (.loop (qi (qd PG qv) [1,1,1,1,1,1,1,1,1,0,1,0,0])))) (.seq (.seq (qi (qd PG qv) [1,1,1,1,1,1,1,1,1,1,0,0]) (.cond (.tmp 118) (.seq (qi (qd PG qv) [1,1,1,1,1,1,1,1,1,1,0,1,0,0]) (qi (qd PG qv) [1,1,1,1,1,1,1,1,1,1,0,1,0,1])) .skip)) (qi (qd PG qv) [1,1,1,1,1,1,1,1,1,1,1])))))))) (qe .und (EF r q g++[(6,p)])) H n [] K0:=by
 have hlf:s.sv.fs.length=s.fs.length:=by simp [DS.sv]
 obtain⟨Γ0,o0,hF0⟩:=h.okF
 have hlp:=(hw Γ0 hF0).1.len
 have hks:ks.length<=100000:=(hw Γ0 hF0).1.few
 have hN:=o0.fN
 clear o0 hF0;refine WpP.seq (WpP.partK (ts:=[0,3,4,6]) qp ?_)
 refine Eq.mpr (qtg ..) ?_
 have lq {s:DS} {C:Nat×List qa} {H:qc} {n:Nat} (c:CK Z r s (C::(q,d.cells)::A) F H n):=c.ldA (sz:=6) (.tl .hd) rfl
 refine⟨rfl,_,rfl,_,h.cell 1,_,vU,_,_,_,_,_,_,lq h,⟨⟨_,h.cell 1,rfl⟩,⟨_,_,_,_,_,_,lq h,rfl⟩,trivial⟩,(h.more (by omega)).need (λhb H1 n1 g1 c1=>qb.2 ⟨trivial,?_⟩) λhb H1 n1 g1 c1=>ql.2 ?_⟩
 rotate_left
 ·have h60:¬s.sv.fs.length<60:=by
   have:=of_decide_eq_false hb
   simp only [Int.ofNat_eq_natCast]at this
   omega
  have:=qE.needF ho (decide_eq_false h60)
  rw [zh]at this;exact hno _ this H1 n1 _ (by omega) c1.drop.drop.end_
 have h60:s.sv.fs.length<60:=by
  have:=of_decide_eq_true hb
  simp only [Int.ofNat_eq_natCast]at this
  omega
 have ho:=qE.needT ho (decide_eq_true h60)
 show WpP PG 164 _ _ _ _ _ _
 refine WpP.seq (WpP.partK (ts:=[0,3,4,6]) qp ?_)
 refine Eq.mpr (qsp ..) ?_
 refine⟨_,hlp,_,_,_,_,_,_,lq c1,c1.need (λhb H2 n2 g2 c2=>qb.2 ?_) λhb H2 n2 g2 c2=>ql.2 ?_⟩
 rotate_left
 ·have h8:¬ks.length<=8:=by
   have:=of_decide_eq_false hb
   simp only [Int.ofNat_eq_natCast]at this
   omega
  have:=qE.needF ho (decide_eq_false h8)
  rw [zh]at this;exact hno _ this H2 n2 _ (by omega) c2.drop.drop.end_
 have h8:ks.length<=8:=by
  have:=of_decide_eq_true hb
  simp only [Int.ofNat_eq_natCast]at this
  omega
 have ho:=qE.ob (qE.needT ho (decide_eq_true h8))
 show WpP PG 164 _ _ _ _ _ _
 refine WpP.seq (WpP.partK (ts:=[0,3,4,6,9]) qp ?_)
 refine Eq.mpr (qum ..) ?_
 show WpP PG 164 _ _ _ _ _ _
 refine WpP.seq (WpP.seq (WpP.partK (ts:=[0,3,4,6,9,74,75,76]) qp ?_))
 refine Eq.mpr (qtp ..) ?_
 refine⟨_,hlp,?_⟩
 show WpP PG 164 _ _ _ _ _ _
 refine WpP.block (WpP.of_lp (rc:=none) ?_)
 refine qk1 (q:=q) (g:=g) hw (by omega) c2 (ok:=qE (Ck.ob (Ck.res s.sv.T (qQ d.kids 1).er) λq=>Ck.ob (vV q.2 (ers (ks.map λk=>qQ k.kids 0))) λu=> .ok (Zt rv d.nm s.sv.fs q.1 u.1 u.2)) okp no) (no:=no) ho ?_ ?_ (qq.refl _)
 ·exactλf hf H' n' env g s=>hno f hf H' n' env (by omega) (SH.drop (SH.drop s))
 intro ho H3 n3 g3 c3;show WpP PG 164 _ _ _ _ _ _
 refine WpP.seq (WpP.partK (ts:=[0,3,4,6]) qp ?_)
 refine Eq.mpr (qsu ..) ?_
 obtain⟨Γ3,s3,_,_,_,hF3,_,back3⟩:=c3.ro
 refine⟨_,_,_,_,_,_,lq c3,jf (i:=1) s3 (hd Γ3 hF3) λH4 n4 g4 s4=>qb.2 ⟨_,_,_,_,_,_,rfl,?_⟩⟩
 refine Xe (d:=qQ d.kids 1) (λΓ hq=>(hd Γ hq).kids.kid) (back3 H4 n4 s4) ((qE.ob ho).mono (λpr hp hz=> ?_) λf _ hz H5 n5 g5 s5=>ql.2 (hno f hz H5 n5 _ (by omega) (SH.drop (SH.drop s5))))
 obtain⟨a,T1⟩:=pr
 intro s5 H5 n5 g5 e5 c5;have hz:qE (Ck.ob (vV T1 (ers (ks.map λk=>qQ k.kids 0))) λu=>(.ok (Zt rv d.nm s.sv.fs a u.1 u.2):Ex (List Ty×List CSg))) okp no:=hz
 refine qb.2 ⟨_,rfl,_,rfl,rfl,c5.one1 (j:=3) (by simp) rfl λH6 c6=> ?_⟩
 show WpP PG 164 _ _ _ _ _ _
 refine WpP.seq (WpP.seq (WpP.partK (ts:=[0,3,4,99,100,101]) qp ?_))
 refine Eq.mpr (qtm ..) ?_
 refine⟨_,hlp,?_⟩
 show WpP PG 164 _ _ _ _ _ _
 refine WpP.block (WpP.of_lp (rc:=none) ?_)
 refine qit (q:=q) hw (by omega) c6 (okp:=λu=>vV T1 (ers (ks.map λk=>qQ k.kids 0))= .ok u/\okp (Zt rv d.nm s.sv.fs a u.1 u.2)) (no:=no) ?_ ?_ ?_ (qq.refl _)
 ·rw [e5.T];cases hq:vV T1 (ers (ks.map λk=>qQ k.kids 0))with
  |ok u=>rw [hq]at hz;exact⟨rfl,hz⟩
  |error f=>rw [hq]at hz;exact hz
 ·exactλf hf H' n' env g s=>hno f hf H' n' env (by omega) (SH.drop s)
 rintro s7 ps pb T2 H7 n7 g7 e7 ⟨hty,hz⟩ hps c7
 show WpP PG 164 _ _ _ _ _ _
 have hpl:ps.length=ks.length:=by rw [qcz hty,jk,List.length_map]
 have c8:=CK.freezeO (sz:=1) WX (by omega) (c7.permA List.perm_middle.symm)
 have e57:=e5.trans e7
 obtain⟨k1,k2,_⟩:=e57.fix
 have efs:s7.fs=s.fs:=by obtain⟨tb,L,rfl,_⟩:=e57;rfl
 have eT7:=e57.T
 have hlT:s.sv.T.length<=T2.length:=by
  obtain⟨tb,L,_,eL⟩:=e57
  rw [<-eL,List.map_append,List.length_append];show(s.T.map (·.t)).length<=_
  omega
 have hat:rv≠0->ty T2 rv=ty s.sv.T rv:=λh0=>by
  obtain⟨tb,L,_,eL⟩:=e57
  rw [<-eL,List.map_append];exact Y4 _ (hrv h0).1
 refine WpP.seq (WpP.seq (WpP.partK (ts:=[0,3,4,118]) qp ?_))
 refine Eq.mpr (quk ..) ?_
 have c8:CK Z r s7 ((g,sgC (⟨d.nm,rv,ps,a⟩,qT pb 1 ps))::(q,d.cells)::A) ((λΓ=>kY Γ (qT pb 1 ps) ps)::F) H7 n7:=c8
 refine⟨_,rfl,_,c8.ld1 .hd 1,?_⟩
 show WpP PG 164 _ _ _ _ _ _
 have fin (s9:DS) (T9:List Ty) (H9:qc) (n9:Nat) (g9:n7<=n9) (e9:RCh s7 s9 T9) (hT9:T9=(Zt rv d.nm s.sv.fs a ps T2).1) (c9:CK Z r s9 ((g,sgC (⟨d.nm,rv,ps,a⟩,qT pb 1 ps))::(q,d.cells)::A) ((λΓ=>kY Γ (qT pb 1 ps) ps)::F) H9 n9):
   WpP PG 164 (qi (qd PG qv) [1,1,1,1,1,1,1,1,1,1,1]) (qe .und (EF r q g)) H9 n9 [] K0:=by
  have ef9:s9.fs=s.fs:=by obtain⟨tb,L,rfl,_⟩:=e9;exact efs
  refine qt0 (f:=⟨d.nm,rv,ps,a⟩) (pw:=qT pb 1 ps) c9 (.head _) zp (by rw [ef9];omega) λfb H' n' env g' c'=> ?_
  refine hK _ _ H' n' env (by omega) hz ?_ (c'.sub λP hP=> .tail _ hP).drop.drop
  obtain⟨tb,L,es,eL⟩:=e57
  obtain⟨tb',L',es',eL'⟩:=e9
  refine⟨tb',L',fb,s.fs++[(⟨d.nm,rv,ps,a⟩,qT pb 1 ps)],?_,?_,?_⟩
  ·rw [es',es]
  ·rw [eL',hT9]
  ·show List.map (·.1) (s.fs++[((⟨d.nm,rv,ps,a⟩:CSg),qT pb 1 ps)])=s.sv.fs++[⟨d.nm,rv,ps,a⟩]
   rw [List.map_append];rfl
 refine WpP.caseB (p:= !decide (((rv:Nat):Int)=0)) rfl (λh0=> ?_) λh0=> ?_
 ·have h0:rv≠0:=λe=>by rw [e]at h0;simp at h0
  obtain⟨k3,k4,k5⟩:=hrv h0
  refine WpP.weaken (e:=qe .und (EF r q g)) (qq.okay) ?_
  refine qpc (rs:=a) c8 (.head _) (by omega) (by omega) (by rw [eT7];omega) (by rw [eT7,hat h0];omega) λs9 H9 n9 g9 e9 c9=> ?_
  show WpP PG 164 _ _ _ _ _ _
  rw [eT7]at e9;refine fin s9 _ H9 n9 g9 e9 ?_ c9
  unfold Zt;rw [if_neg h0,efs,hlf]
 ·have h0:rv=0:=by
   have:((rv:Nat):Int)=0:=by simpa using h0
   omega
  refine WpP.skip ?_
  show WpP PG 164 _ _ _ _ _ _
  refine WpP.weaken (e:=qe .und (EF r q g)) (qq.okay) ?_
  refine fin s7 _ H7 n7 lR RCh.refl ?_ c8
  unfold Zt;rw [if_pos h0,eT7]
def vW(d:DT):List DT:=if(qQ d.kids 0).kd=38 then d.kids.drop 3 else qQ d.kids 0::d.kids.drop 3
theorem QM(d:DT):kB d.er=ers (vW d):=by
 unfold kB vW Xc;rw [yd,kL,yI,JH];by_cases h:(qQ d.kids 0).kd=38
 ·rw [if_pos h,if_pos h]
 ·rw [if_neg h,if_neg h];rfl
theorem qii(T:List Ty)(fs:List CSg)(d:DT):Ju T fs d.er=if(qQ d.kids 0).kd=38 then Ck.need (fs.all λf=>decide (f.recv≠0\/f.name≠d.nm)) d.er 16 (.ok 0)else Ck.receiver T d.er (qQ (qQ d.kids 0).kids 0).er:=by
 unfold Ju;rw [yd,kL,yd,jo]
theorem qe7(T:List Ty)(fs:List CSg)(d:DT):Ck.function T fs d.er=Ck.ob (Ju T fs d.er) λrv=>Ck.need (decide (fs.length<60)) d.er 18 (Ck.need (decide ((vW d).length<=8)) d.er 18 (Ck.ob (yW [] (ers (vW d))) λ_=>Ck.ob (Ck.res T (qQ d.kids 1).er) λq=>
  Ck.ob (vV q.2 (ers ((vW d).map λk=>qQ k.kids 0))) λu=> .ok (Zt rv d.nm fs q.1 u.1 u.2))):=by
 unfold Ck.function;have e1:∀l:List DT,(ers l).map (λp=>Q3 p 0)=ers (l.map λk=>qQ k.kids 0):=λl=>by
  rw [vi,vi,List.map_map,List.map_map]
  congr 1
  funext k
  exact yd k 0
 rw [QM,jk,e1,yd,jo]
 rfl
def Fw(Z:Nat->Prop)(r:Nat)(s:DS)(A:qD)(F:zr)(nx:Nat)(K:qr)(x:Ex (List Ty×List CSg)):Prop:=
 qE x (λp=>∀s' H' nx',nx<=nx'->FCh s s' p.1 p.2->CK Z r s' A F H' nx'->K (.ret (.tuple [])) H' nx') λf=>∀H' nx',nx<=nx'->SH Z A F H' nx'->K (.pan [(jQ f,false)]) H' nx'
theorem qa7(hd:Ent F λΓ=>DF Γ d)(h:CK Z r s A F H nx)(ho:Fw Z r s A F nx K (Ck.function s.sv.T s.sv.fs d.er)):qo PG qv [.ptr r 0,d.val] H nx K:=by
 rw [qe7,qii]at ho;refine qo.of_code (nt:=164) qoy ?_
 rw [qq5];refine WpP.weaken (e:=qe .und [(0,.ptr r 0),(1,.agg [iv d.kd,.str d.nm,iv d.nn,iv d.li,iv d.co,d.kw])]) (qq.okay) ?_
 refine WpP.seq (WpP.partK (ts:=[0,3]) qp ?_)
 refine Eq.mpr (qsm ..) ?_
 refine h.mkN (cs:=d.cells) lR λH0 c0=> ?_
 show WpP PG 164 _ _ _ _ _ _
 refine WpP.seq (WpP.partK (ts:=[0,3,4]) qp ?_)
 refine Eq.mpr (qud ..) ?_
 refine⟨_,rfl,_,c0.ld1 .hd 1,rfl,c0.mk1 (cs:=[.str [],iv 0,.nilSlice,iv 0]) lR λH1 c1=>c1.all (vs:=[.str d.nm,iv 0,.nilSlice,iv 0]) rfl rfl λH2 c2=> ?_⟩
 show WpP PG 164 _ _ _ _ _ _
 generalize hg:nx+1=g at c2
 generalize hn2:g+1=n2 at c2
 refine WpP.seq (WpP.partK (ts:=[0,3,4,5,6]) qp ?_)
 refine Eq.mpr (qui ..) ?_
 have lq {s:DS} {C D:Nat×List qa} {H:qc} {n:Nat} (c:CK Z r s (C::D::(nx,d.cells)::A) F H n):=c.ldA (sz:=6) (.tl (.tl .hd)) rfl
 refine⟨_,_,_,_,_,_,c2.ldA (.tl .hd) rfl,_,_,_,_,_,_,c2.ldA (.tl .hd) rfl,c2.mk1 (cs:=zT.cells) (by omega) λH3 c3=> ?_⟩
 obtain⟨Γ3,s3,_,_,_,hF3,_,back3⟩:=c3.ro
 have hmin:min 3 d.kids.length<=d.kids.length:=Nat.min_le_right _ _
 obtain⟨w',hw',_⟩:=(hd Γ3 hF3).row.drop zV hmin
 have hdrop:d.kids.drop (min 3 d.kids.length)=d.kids.drop 3:=by
  by_cases h1:3<=d.kids.length
  ·rw [Nat.min_eq_left h1]
  ·rw [Nat.min_eq_right (by omega),List.drop_length,List.drop_eq_nil_of_le (by omega)]
 have hrow:Ent F λΓ=>q9 DT.cells 6 Γ w' (d.kids.drop 3)/\DFs Γ (d.kids.drop 3):=λΓ hq=>by
  obtain⟨w2,h1,h2⟩:=(hd Γ hq).row.drop zV hmin
  rw [hw']at h1
  injection h1 with h1
  subst h1;rw [hdrop]at h2;exact⟨h2,(hd Γ hq).kids.drop⟩
 refine⟨⟨⟨_,_,_,_,_,_,lq c3,rfl⟩,⟨_,_,_,_,_,_,lq c3,rfl⟩,trivial⟩,jf (i:=0) (s3.more (by omega)) (hd Γ3 hF3) λH4 n4 g4 s4=>qb.2 ⟨_,_,_,_,_,_,rfl,⟨⟨_,_,_,_,_,_,lq (back3 H4 n4 s4),rfl⟩,trivial⟩,
  w4 (i:=3) s4 (hd Γ3 hF3) hw' λH5 n5 g5 s5=>qb.2 ⟨trivial,(back3 H5 n5 s5).all (vs:=(qQ d.kids 0).cells) rfl (hd Γ3 hF3).kids.kid.cell λH6 c6=>⟨trivial,?_⟩⟩⟩⟩
 show WpP PG 164 _ _ _ _ _ _
 have hxc:qt (qQ d.kids 0).cells=true:=(hd Γ3 hF3).kids.kid.cell
 have hdc:qt d.cells=true:=(hd Γ3 hF3).cell
 have g6:nx+2<=n5:=by omega
 clear s5 s4 back3 s3 hF3 lq c3 g5 g4 c0 c1 c2
 generalize n2+4=xb at c6
 have hN (env:Env) (H:qc) (n:Nat) (hk:K (.ret (.tuple [])) H n):qy PG (z9 (qM PG)) (ze PG (qM PG)) K (qP PG qv) .normal env H n [] none:=by rw [quz];exact hk
 have hP (env:Env) (l:List (qa×Bool)) (H:qc) (n:Nat) (hk:K (.pan l) H n):qy PG (z9 (qM PG)) (ze PG (qM PG)) K (qP PG qv) (.pan l) env H n [] none:=by rw [qul];exact hk
 generalize qy PG (z9 (qM PG)) (ze PG (qM PG)) K (qP PG qv)=K0 at hN hP
 refine WpP.seq (WpP.seq (WpP.partK (ts:=[0,3,4,5,6,25]) qp ?_))
 refine Eq.mpr (qv0 ..) ?_
 refine⟨_,rfl,_,c6.ld1 .hd 0,?_⟩
 show WpP PG 164 _ _ _ _ _ _
 refine WpP.case (k:=(qQ d.kids 0).kd) (j:=38) rfl (λh38=> ?_) λh38=> ?_
 ·
  rw [if_pos h38]at ho;have ho:=qE.ob ho
  have epd:vW d=d.kids.drop 3:=by unfold vW;rw [if_pos h38]
  have c7:=c6.drop
  refine WpP.weaken (e:=qe .und (EF r nx g++[(6,w')])) (qq.okay) ?_
  refine WpP.seq (WpP.partK (ts:=[0,3,4,6,29,30,31]) qp ?_)
  refine Eq.mpr (quj ..) ?_
  refine⟨rfl,_,rfl,_,c7.cell 1,_,vU,?_⟩
  show WpP PG 164 _ _ _ _ _ _
  have hfN:s.fs.length<=1000:=let⟨_,o,_⟩:=c7.okF;o.fN
  refine WpP.block (WpP.of_lp (rc:=none) ?_)
  refine qoq (d:=d) (q:=nx) (g:=g) (p:=w') (.tl .hd) c7 hfN (P:=True) (λht H8 n8 g8 c8=> ?_) (λhf H8 n8 env g8 c8=> ?_) (qq.refl _)
  ·show WpP PG 164 _ _ _ _ _ _
   have ho:=qE.needT ho ht
   refine qhj (rv:=0) (okp:=λp=>∀s' H' nx',nx<=nx'->FCh s s' p.1 p.2->CK Z r s' A F H' nx'->K (.ret (.tuple [])) H' nx') (no:=λf=>∀H' nx',nx<=nx'->SH Z A F H' nx'->K (.pan [(jQ f,false)]) H' nx') hd hrow c8 (λh=>absurd rfl h) ?_ ?_ ?_
   ·rw [epd]at ho;exact ho
   ·exactλf hf H' n' env g s=>hP _ _ _ _ (hf H' n' (by omega) s)
   ·exactλpr s' H' n' env g hk e c=>hN _ _ _ (hk s' H' n' (by omega) e c)
  ·have:=qE.needF ho hf
   rw [zh]at this;exact hP _ _ _ _ (this H8 n8 (by omega) c8.drop.drop.end_)
 ·
  rw [if_neg h38]at ho;have ho:=qE.ob ho
  have epd:vW d=qQ d.kids 0::d.kids.drop 3:=by unfold vW;rw [if_neg h38]
  rw [epd]at ho;refine WpP.weaken (e:=qe .und (EF r nx g++[(5,.ptr xb 0),(6,w')])) (qq.okay) ?_
  refine WpP.seq (WpP.partK (ts:=[0,3,4,5,6]) qp ?_)
  refine Eq.mpr (qug ..) ?_
  have lq {s:DS} {C D:Nat×List qa} {H:qc} {n:Nat} (c:CK Z r s (C::D::(nx,d.cells)::A) F H n):=c.ldA (sz:=6) (.tl (.tl .hd)) rfl
  have lx {s:DS} {B:qD} {H:qc} {n:Nat} (c:CK Z r s ((xb,(qQ d.kids 0).cells)::B) F H n):=c.ldA (sz:=6) .hd rfl
  obtain⟨Γ7,s7,_,_,_,hF7,_,back7⟩:=c6.ro
  refine⟨_,_,_,_,_,_,lq c6,_,_,_,_,_,_,lx c6,⟨⟨_,_,_,_,_,_,lq c6,rfl⟩,⟨_,_,_,_,_,_,lx c6,rfl⟩,trivial⟩,jf (i:=0) (s7.more (by omega)) (hd Γ7 hF7).kids.kid λH8 n8 g8 s8=>qb.2 ⟨_,_,_,_,_,_,rfl,⟨⟨_,_,_,_,_,_,lq (back7 H8 n8 s8),rfl⟩,trivial⟩,?_⟩⟩
  refine qad (d:=d) (u:=qQ (qQ d.kids 0).kids 0) (back7 H8 n8 s8) (ho.mono (λrv hrc hz=> ?_) λf _ hz H9 n9 g9 s9=>ql.2 (hP _ _ _ _ (hz H9 n9 (by omega) (SH.drop (SH.drop (SH.drop s9)))))) hdc (hd Γ7 hF7).kids.kid.kids.kid.cell
  obtain⟨hr1,hr2,_⟩:=ZF hrc
  intro H9 n9 g9 c9;refine qb.2 ⟨_,rfl,_,rfl,trivial,rfl,c9.swap.one1 (j:=1) (by simp) rfl λH10 c10=>⟨trivial,?_⟩⟩
  show WpP PG 164 _ _ _ _ _ _
  have c10:CK Z r s ((xb,(qQ d.kids 0).cells)::(g,[.str d.nm,iv rv,.nilSlice,iv 0])::(nx,d.cells)::A) F H10 n9:=c10.swap
  refine WpP.partK (ts:=[0,3,4,6]) qp ?_
  refine Eq.mpr (quf ..) ?_
  refine⟨_,_,_,_,_,_,lx c10,c10.mk1 (cs:=(qQ d.kids 0).cells) lR λH11 c11=> ?_⟩
  obtain⟨Γ11,s11,_,_,_,hF11,_⟩:=c11.ro
  have hk3:(d.kids.drop 3).length<=100000 - 1\/¬(d.kids.drop 3).length<=100000 - 1:=by omega
  have hkf:=(hrow Γ11 hF11).1.few
  have hkf':([qQ d.kids 0]++d.kids.drop 3).length<=100000:=by
   have h1:=(hd Γ11 hF11).row.few
   simp only [List.length_append,List.length_singleton,List.length_drop]
   omega
  have c11':CK Z r s ((n9,[qQ d.kids 0].flatMap DT.cells)::(xb,(qQ d.kids 0).cells)::(g,[.str d.nm,iv rv,.nilSlice,iv 0])::(nx,d.cells)::A) F H11 (n9+1):=c11
  obtain⟨v,H12,n12,e12,g12,hvc,c12,_⟩:=CK.appKnown (c:=DT.cells) (sz:=6) (eb:=72) (m:=d.kids.drop 3) zV (by omega) (by omega) (by omega) hkf' c11'
  refine⟨_,_,Z9.src (hrow Γ11 hF11).1.1 s11.toZ,(hrow Γ11 hF11).2.cells,v,H12,n12,e12,?_⟩
  show WpP PG 164 _ _ _ _ _ _
  refine qhj (rv:=rv) (ks:=qQ d.kids 0::d.kids.drop 3) (F:=(λΓ=>q9 DT.cells 6 Γ v ([qQ d.kids 0]++d.kids.drop 3))::F) (okp:=λp=>∀s' H' nx',nx<=nx'->FCh s s' p.1 p.2->CK Z r s' A F H' nx'->K (.ret (.tuple [])) H' nx') (no:=λf=>∀H' nx',nx<=nx'->SH Z A F H' nx'->K (.pan [(jQ f,false)]) H' nx')
   (λΓ hq=>hd Γ λP hP=>hq P (.tail _ hP)) (λΓ hq=>⟨hq _ (.head _),(hd Γ λP hP=>hq P (.tail _ hP)).kids.kid,(hrow Γ λP hP=>hq P (.tail _ hP)).2⟩) c12.drop (λ_=>⟨hr1,hr2,by simp⟩) hz ?_ ?_
  ·exactλf hf H' n' env g s=>hP _ _ _ _ (hf H' n' (by omega) (SH.sub s λP hP=> .tail _ hP))
  ·exactλpr s' H' n' env g hk e c=>hN _ _ _ (hk s' H' n' (by omega) e (c.sub λP hP=> .tail _ hP))
end
section
variable{Γ:GH}{A:qD}{H:qc}{nx:Nat}{K:qr}
theorem qks(call:zm)(lp:jl)(lv:zJ)(lvc:zI)(K:qr)(o:qa)(f:qa)(w n i:Int)(H:qc)(nx:Nat)(rc:Option qw):
  qA PG call lp 19 (qd PG q7) [1,0,1,0] (qy PG lv lvc K (qP PG q7)) .ret (qe .und [(0,o),(1,f),(4,iv w),(7,iv n),(8,iv i)]) H nx [] rc=K (.ret (iv w)) H nx:=by kernel_rfl
theorem qrp{o:qa}{g:Nat}{l:List (CSg×qa)}{p:CSg×qa->Bool}(h:RS Z Γ A H nx)(ho:q9 sgC 4 Γ o l)
  (hg:∀x∈l,∀H nx K,RS Z Γ A H nx->Rt Z Γ A nx K (.bool (p x))->qo PG g [.agg (sgC x)] H nx K)
  (hc:∀v,zR PG (.func (.func g) [] []) [v]=some (g,[v]))
  (hK:Rt Z Γ A nx K (iv (Jt (zk (λ_ x=>p x) l 0)))):qo PG q7 [o,(.func (.func g) [] [])] H nx K:=by
 refine qo.of_body qp ?_
 refine Eq.mpr (kN ..) ?_
 have hN:=ho.few
 refine⟨_,ho.len,?_⟩
 refine zD (P:=PG) (X:=Nat) (Y:=Unit) (λi=>qe .und [(0,o),(1,.func (.func g) [] []),(4,iv 0),(7,iv (l.length:Int)),(8,iv (i:Int))]) (λ_=>qe .und [(4,iv 0)])
  (λm i H1 nx1=>nx<=nx1/\RS Z Γ A H1 nx1/\m=l.length - i/\i<=l.length/\zk (λ_ x=>p x) l 0=zk (λ_ x=>p x) (l.drop i) i)
  (λid _ H1 nx1=>id=0/\nx<=nx1/\RS Z Γ A H1 nx1/\zk (λ_ x=>p x) l 0=none) l.length 0 (qq.okay) ⟨Nat.le_refl _,h,rfl,Nat.zero_le _,rfl⟩ ?_ ?_
 ·rintro m i H1 nx1 ⟨g1,s1,rfl,hi,hf⟩
  refine WpP.partK (ts:=[0,1,4,7,8]) qp ?_
  refine Eq.mpr (qns ..) ?_
  refine qf.2 ⟨λhc'=> ?_,λhc'=> ?_⟩
  ·have hc':(i:Int)<(l.length:Int):=of_decide_eq_true hc'
   have hil:i<l.length:=by omega
   obtain⟨b,off,i1,i2,_⟩:=q9.rd (sz:=4) (λ_=>rfl) ho s1.toZ hil
   have e1:i64.wrap ((i:Int)+1)=((i+1:Nat):Int):=by rw [qB (by omega) (by omega)];omega
   rw [yj hil]at hf;refine⟨by omega,_,i1,_,_,_,_,i2,_,_,hc _,hg _ (List.getElem_mem hil) _ _ _ s1 λH2 n2 g2 p2=>qb.2 ⟨_,rfl,qf.2 ⟨λhd=> ?_,λhd=> ?_⟩⟩⟩
   ·show qA PG _ _ 19 _ _ _ _ _ _ _ _ _
    refine Eq.mpr (qks ..) ?_
    rw [if_pos hd]at hf;rw [hf]at hK;exact hK H2 n2 (by omega) p2
   ·rw [e1];rw [if_neg (by rw [hd];simp)]at hf
    exact⟨rfl,l.length - (i+1),i+1,by omega,qq.okay,by omega,p2,rfl,by omega,hf⟩
  ·have hc':¬(i:Int)<(l.length:Int):=of_decide_eq_false hc'
   have:i=l.length:=by omega
   subst this;rw [wa]at hf;exact⟨rfl,(),qq.okay,rfl,g1,s1,hf⟩
 ·rintro id _ H1 nx1 ⟨rfl,g1,s1,hf⟩
  refine Eq.mpr (qig (_u:=0) ..) ?_
  rw [hf]at hK;exact hK H1 nx1 g1 s1
theorem qht{x:CSg×qa}(h:RS Z Γ A H nx)(hK:Rt Z Γ A nx K (.bool (decide (x.1.recv=0)&&decide (x.1.name=qom)))):qo PG Vn [.agg (sgC x)] H nx K:=by
 refine qo.of_body qp ?_
 refine Eq.mpr (XL ..) ?_
 refine h.mkN (cs:=sgC x) lR λH0 s0=>⟨_,rfl,_,s0.ld1 .hd 1,qf.2 ⟨λh0=>⟨_,rfl,_,s0.ld1 .hd 0,?_⟩,λh0=> ?_⟩⟩
 ·have e:x.1.recv=0:=Int.ofNat.inj (of_decide_eq_true h0)
  rw [decide_eq_true e,Bool.true_and]at hK;rw [qiw];exact hK H0 _ (by omega) s0.drop
 ·have e:¬x.1.recv=0:=λe=>of_decide_eq_false h0 (congrArg Int.ofNat e)
  rw [decide_eq_false e,Bool.false_and]at hK;exact hK H0 _ (by omega) s0.drop
end
section
variable{r q g b t:Nat}{s s':DS}{A B:qD}{F G:zr}{H:qc}{nx n:Nat}{K:qr}{K0:KP}{d x:DT}{Γ:GH}
theorem CK.rows(h:CK Z r s A F H nx):∃Γ,RS Z Γ [] H nx/\CkV Γ r s.sv/\Γ r=some s.cells/\s.ok Γ/\(∀P,P∈F->P Γ)/\q9 sgC 4 Γ (qT s.fb 4 s.fs) s.fs/\∀H' nx',RS Z Γ [] H' nx'->CK Z r s A F H' nx':=by
 obtain⟨Γ,h1,h2,h3,h4⟩:=SH.ro h
 have ho:s.ok Γ:=h2 _ (.head _)
 have hN:=ho.fN
 exact⟨Γ,SH.of h1,DS.see ho h3,h3 r _ .hd,ho,λP hP=>h2 P (.tail _ hP),ZJ (λ_=>rfl) (by omega) λb cs hb=>h3 b cs (.tl (.tl (Own.mem (Qh.2 (.inl hb))))),λH' nx' h'=>h4 H' nx' h'.toZ⟩
theorem qge(s0:Bs)(fs:List (CSg×qa)):zk (λ_ x=>decide (x.1.recv=0)&&decide (x.1.name=s0)) fs 0=callee s0 (fs.map (·.1)):=Km (f:=λx:CSg×qa=>x.1) (p:=λf=>decide (f.recv=0)&&decide (f.name=s0))
theorem qkk(h:CK Z r s A F H nx)(ho:Nw Z r s A F nx K (Ck.main s.sv.fs)):qo PG Vd [.ptr r 0] H nx K:=by
 refine qo.of_body qp ?_
 refine Eq.mpr (qbm ..) ?_
 obtain⟨Γ,s1,hv,hr,hok,hF,hrow,back⟩:=h.rows
 have hfl:s.fs.length<=1000:=hok.fN
 refine⟨rfl,_,rfl,_,h.cell 1,qrp s1 hrow (λx hx H nx K h hK=>qht h hK) (λ_=>rfl) λH1 n1 g1 p1=> ?_⟩
 have c1:=back H1 n1 p1
 rw [qge];have e0:s.fs.map (·.1)=s.sv.fs:=rfl
 rw [e0];unfold Ck.main at ho;cases hc:callee qom s.sv.fs with
 |none=>
  rw [hc]at ho;exact qb.2 ⟨_,rfl,ifT rfl ⟨rfl,rfl,rfl,_,_,rfl,ho H1 n1 g1 c1.end_⟩⟩
 |some i=>
  rw [hc]at ho;have ho:Nw Z r s A F nx K (if(sg s.sv.fs i).params.length=0/\(sg s.sv.fs i).result=0 then .ok i else .error ⟨1,1,15⟩):=ho
  have hi:i<s.fs.length:=by
   have:=(Kb hc).1
   simpa [DS.sv]using this
  have es:sg s.sv.fs i=s.fs[i].1:=by
   rw [qs1 (by simpa [DS.sv]using hi)]
   simp [DS.sv]
  rw [es]at ho;obtain⟨b,off,i1,_,i3⟩:=q9.rd (sz:=4) (λ_=>rfl) hrow p1.toZ hi
  have hpw:=hok.fs _ (List.getElem_mem hi)
  refine qb.2 ⟨_,rfl,ifF (decide_eq_false (by show¬(i:Int)<0;omega)) ⟨rfl,_,rfl,_,c1.cell 1,Int.natCast_nonneg _,_,i1,_,rfl,_,i3 2 (by omega),_,hpw.len,qf.2 ⟨λh0=> ?_,λh0=> ?_⟩⟩⟩
  ·have h0:¬s.fs[i].1.params.length=0:=by
    have:=of_decide_eq_true h0
    simp only [Int.ofNat_eq_natCast]at this
    omega
   rw [if_neg λe=>h0 e.1]at ho
   exact⟨rfl,rfl,rfl,_,_,rfl,ho H1 n1 g1 c1.end_⟩
  ·have h0:s.fs[i].1.params.length=0:=by
    have:=of_decide_eq_false h0
    simp only [Int.ofNat_eq_natCast]at this
    omega
   refine⟨rfl,_,rfl,_,c1.cell 1,Int.natCast_nonneg _,_,i1,_,rfl,_,i3 3 (by omega),qf.2 ⟨λh1=> ?_,λh1=> ?_⟩⟩
   ·have h1:¬s.fs[i].1.result=0:=λe=>by rw [e]at h1;simp at h1
    rw [if_neg λe=>h1 e.2]at ho
    exact⟨rfl,rfl,rfl,_,_,rfl,ho H1 n1 g1 c1.end_⟩
   ·have h1:s.fs[i].1.result=0:=by
     have:((s.fs[i].1.result:Nat):Int)=0:=by simpa using h1
     omega
    rw [if_pos ⟨h0,h1⟩]at ho;exact ho H1 n1 g1 c1
def BCh(s s':DS)(T:List Ty):Prop:=s'.sv.T=T/\s'.fs=s.fs/\s'.dw=s.dw/\s'.nw=s.nw
def Bw(Z:Nat->Prop)(r:Nat)(s:DS)(A:qD)(F:zr)(nx:Nat)(K:qr)(x:Ex (List Ty)):Prop:=
 qE x (λT=>∀s' H' nx',nx<=nx'->BCh s s' T->CK Z r s' A F H' nx'->K (.ret (.tuple [])) H' nx') λf=>∀H' nx',nx<=nx'->SH Z A F H' nx'->K (.pan [(jQ f,false)]) H' nx'
def DS.fresh(s:DS)(f:CSg)(pw:qa):DS:={s with vb:=none,vs:=[],many:=0,deep:=0,loops:=0,fn:=f,fpw:=pw}
theorem CK.fresh(f:CSg)(pw:qa){k:qc->Prop}(h:CK Z r s A F H n)(hf:(f,pw)∈s.fs)(hpc:qZ pw=true)
  (hK:∀H',CK Z r (s.fresh f pw) A F H' n->k H'):
  ∃H9,stC H (.ptr r 8) [.str f.name,iv f.recv,pw,iv f.result]=some H9/\∃H11,stC H9 (.ptr r 4) [.nilSlice]=some H11/\∃H13,stC H11 (.ptr r 5) [iv 0]=some H13/\∃H15,stC H13 (.ptr r 6) [iv 0]=some H15/\∃H17,stC H15 (.ptr r 7) [iv 0]=some H17/\k H17:=by
 have h0:SH Z ((r,s.cells)::(s.tb,(s.T.map DTy.v).flatMap tyC)::s.rest A) (s.ok::F) H n:=h
 obtain⟨H9,e9,h9⟩:=SH.st (off:=8) (vs:=[.str f.name,iv f.recv,pw,iv f.result]) h0 .hd (by simp [DS.cells]) (by simp only [qt,hpc];rfl)
 refine⟨H9,e9,?_⟩
 have e:jw s.cells 8 [.str f.name,iv f.recv,pw,iv f.result]=[.slice s.tb 0 s.T.length 5 false,qT s.fb 4 s.fs,s.dw,s.nw,s.vw,iv s.many,iv s.deep,iv s.loops,.str f.name,iv f.recv,pw,iv f.result]:=by
  unfold DS.cells;simp [jw]
 rw [e]at h9;refine h9.one (j:=4) .hd (by simp) rfl λH11 h11=>h11.one (j:=5) .hd (by simp) rfl λH13 h13=>h13.one (j:=6) .hd (by simp) rfl λH15 h15=>h15.one (j:=7) .hd (by simp) rfl λH17 h17=>hK H17 ?_
 have h18:SH Z ((r,(s.fresh f pw).cells)::(s.tb,(s.T.map DTy.v).flatMap tyC)::(zc sgC s.fb s.fs++(s.T.flatMap DTy.rows++A))) (s.ok::F) H17 n:=SH.sel (.cons_cons _ (.cons_cons _ (List.Sublist.append (.refl _) (List.sublist_append_right _ _)))) h17
 refine CK.as h18 rfl λΓ o=>⟨o.ty,o.fs,?_,o.tN,o.fN,Nat.zero_le _,λ_=>rfl,o.dw,o.nw⟩
 exact o.fs _ hf
theorem Wl{ks:List DT}{ts:List Nat}{i:Nat}(h1:i<ks.length)(h2:i<ts.length):(zN (ers ks) ts).take (i+1)=(zN (ers ks) ts).take i++[⟨ks[i].nm,ts[i],0⟩]:=by
 have hl:i<(zN (ers ks) ts).length:=by
  unfold zN;rw [List.length_map,List.length_zip,jk];omega
 rw [List.take_add_one,List.getElem?_eq_getElem hl]
 congr 1
 have:(zN (ers ks) ts)[i]=⟨ks[i].nm,ts[i],0⟩:=by
  unfold zN;simp [vi,jo]
 rw [this];rfl
theorem Vp{ks:List DT}{ts:List Nat}(h:ts.length=ks.length):(zN (ers ks) ts).length=ks.length:=by
 unfold zN;rw [List.length_map,List.length_zip,jk];omega
theorem Vl{p:qa}{ks:List DT}{f:CSg}{pw:qa}(hw:Ent F λΓ=>q9 DT.cells 6 Γ p ks/\DFs Γ ks)(hks:ks.length<=100)(hpl:f.params.length=ks.length)(h:CK Z r (s.fresh f pw) ((q,d.cells)::A) F H n)
  (hK:∀vb H' n',n<=n'->CK Z r {s.fresh f pw with vb:=vb,vs:=zN (ers ks) f.params,many:=ks.length} ((q,d.cells)::A) F H' n'->K0 (.exit 0) (qe .und [(0,.ptr r 0),(5,.ptr q 0)]) H' n' [] none)
  {env:Env} (he:qq (qe .und [(0,.ptr r 0),(5,.ptr q 0),(45,p),(46,iv (ks.length:Int)),(47,iv 0)]) env):
  LpP PG 98 (qi (qd PG wU) [1,1,1,1,0,1,0,0]) env H n [] none K0:=by
 have hpv:=Vp hpl
 refine zD (P:=PG) (X:=Nat) (Y:=Unit) (λi=>qe .und [(0,.ptr r 0),(5,.ptr q 0),(45,p),(46,iv (ks.length:Int)),(47,iv (i:Int))]) (λ_=>qe .und [(0,.ptr r 0),(5,.ptr q 0)])
  (λm i H1 n1=>m=ks.length - i/\i<=ks.length/\n<=n1/\∃vb,CK Z r {s.fresh f pw with vb:=vb,vs:=(zN (ers ks) f.params).take i,many:=i} ((q,d.cells)::A) F H1 n1)
  (λid _ H1 n1=>id=0/\n<=n1/\∃vb,CK Z r {s.fresh f pw with vb:=vb,vs:=zN (ers ks) f.params,many:=ks.length} ((q,d.cells)::A) F H1 n1) ks.length 0 he ⟨rfl,Nat.zero_le _,Nat.le_refl _,none,by rw [List.take_zero];exact h⟩ ?_ ?_
 ·rintro m i H1 n1 ⟨rfl,hi,g1,vb,c1⟩
  refine WpP.partK (ts:=[0,5,45,46,47]) qp ?_
  refine Eq.mpr (qtt ..) ?_
  obtain⟨Γ1,s1',_,_,hok,hF1,_⟩:=c1.ro
  refine qf.2 ⟨λhc=> ?_,λhc=> ?_⟩
  ·have hc:(i:Int)<(ks.length:Int):=of_decide_eq_true hc
   have hil:i<ks.length:=by omega
   have hip:i<f.params.length:=by omega
   obtain⟨b,off,i1,i2,_⟩:=q9.rd (sz:=6) zV (hw Γ1 hF1).1 s1'.toZ hil
   have ew:i64.wrap ((i:Int)+1)=((i+1:Nat):Int):=by rw [qB (by omega) (by omega)];omega
   have hkd:DF Γ1 ks[i]:=(hw Γ1 hF1).2.get (List.getElem_mem hil)
   have rdp {B:qD} {H:qc} {n2:Nat} (c:CK Z r {s.fresh f pw with vb:=vb,vs:=(zN (ers ks) f.params).take i,many:=i} B F H n2):∃b off,qY pw i 1=some (.ptr b off)/\ld1 H (.ptr b off)=some (iv f.params[i]):=by
    obtain⟨Γ,sΓ,_,_,hok,_⟩:=c.ro
    obtain⟨b,off,j1,_,j2⟩:=q9.rd (sz:=1) (λ_=>rfl) hok.fw sΓ.toZ hip
    exact⟨b,off,j1,j2 0 (by omega)⟩
   rw [ew];refine⟨by omega,_,i1,_,_,_,_,_,_,i2,c1.mk1 (cs:=zT.cells) lR λH2 c2=>c2.all (vs:=ks[i].cells) rfl hkd.cell λH3 c3=> ?_⟩
   obtain⟨b2,off2,j1,j2⟩:=rdp c3
   refine⟨rfl,_,rfl,_,c3.cell 4,_,rfl,_,c3.ld1 .hd 1,rfl,_,rfl,_,rfl,_,c3.cell 10,Int.natCast_nonneg _,_,j1,_,j2,rfl,rfl,rfl,c3.mk1 (cs:=vT ⟨ks[i].nm,f.params[i],0⟩) (by omega) λH4 c4=> ?_⟩
   obtain⟨b3,off3,k1,k2⟩:=rdp c4
   rw [k1]at j1
   injection j1 with j1
   rw [j1]at k2;refine⟨⟨⟨_,c4.cell 4,rfl⟩,⟨_,c4.ld1 (.tl .hd) 1,rfl⟩,⟨_,c4.cell 10,rfl⟩,⟨_,k2,rfl⟩,trivial⟩,_,_,SH.srcO (sz:=3) c4 (CK.ownA .hd) (by simp [vT]),rfl,?_⟩
   have hvl:((zN (ers ks) f.params).take i).length=i:=by rw [List.length_take];omega
   obtain⟨H5,e5,H6,e6,c6⟩:=(c4.drop.drop.more (nx':=n1+1+21) (by omega)).addVar (v:=⟨ks[i].nm,f.params[i],0⟩) (by show((zN (ers ks) f.params).take i).length<1000;omega)
   refine⟨_,H5,_,e5,rfl,_,rfl,trivial,rfl,H6,e6,trivial,rfl,_,rfl,_,c6.cell 5,rfl,_,rfl,rfl,?_⟩
   rw [ew];refine c6.set (j:=5) {s.fresh f pw with vb:=some (n1+1+21,[]),vs:=(zN (ers ks) f.params).take (i+1),many:=i+1} (by omega) rfl ?_ ?_ (λH7 c7=> ?_) rfl rfl ?_
   ·unfold DS.cells DS.vw;rw [Wl hil hip]
    rfl
   ·intro Γ o;refine⟨o.ty,o.fs,o.fw,o.tN,o.fN,?_,(λh=>nomatch h),o.dw,o.nw⟩
    show((zN (ers ks) f.params).take (i+1)).length<=1000
    rw [List.length_take];omega
   ·exact⟨rfl,ks.length - (i+1),i+1,by omega,qq.refl _,rfl,by omega,by omega,_,c7⟩
   ·unfold DS.rest DS.vrow;rw [Wl hil hip]
  ·have hc:¬(i:Int)<(ks.length:Int):=of_decide_eq_false hc
   have:i=ks.length:=by omega
   subst this;rw [List.take_of_length_le (by omega)]at c1
   exact⟨rfl,(),qq.okay,rfl,g1,vb,c1⟩
 ·rintro id _ H1 n1 ⟨rfl,g1,vb,c1⟩
  exact hK vb H1 n1 g1 c1
theorem qq4(T:List Ty)(fs:List CSg)(f:CSg)(d:DT):Ck.body T fs f d.er=Ck.ob (block fs f.result 0 0 ⟨T,zN (ers (vW d)) f.params,(zN (ers (vW d)) f.params).length⟩ (qQ d.kids 2).er) λS=>Ck.need (decide (f.result=0)||ends (qQ d.kids 2).er) d.er 20 (.ok S.T):=by
 unfold Ck.body;rw [QM,yd]
theorem Ye{f:CSg}{pw:qa}{vb:Option (Nat×List qa)}{vs:List Var}(hd:Ent F λΓ=>DF Γ d)(hg:zK s.sv.T s.sv.fs)(hv:kK s.sv.T vs)(hr:f.result<s.sv.T.length)(hht:d.ht<=1000000000)
  (h:CK Z r {s.fresh f pw with vb:=vb,vs:=vs,many:=vs.length} ((q,d.cells)::A) F H n) (g:nx<=n)
  (ho:Bw Z r s A F nx K (Ck.ob (block s.sv.fs f.result 0 0 ⟨s.sv.T,vs,vs.length⟩ (qQ d.kids 2).er) λS=>Ck.need (decide (f.result=0)||ends (qQ d.kids 2).er) d.er 20 (.ok S.T))):
  qA PG (qo PG) (LpP PG 98) 98 (qd PG wU) [1,1,1,1,0,1,0] (qy PG (z9 (qM PG)) (ze PG (qM PG)) K (qP PG wU)) (.exit 0) (qe .und [(0,.ptr r 0),(5,.ptr q 0)]) H n [] none:=by
 refine Eq.mpr (qp7 ..) ?_
 obtain⟨Γ,s1,_,_,_,hF,_,back⟩:=h.ro
 refine⟨_,_,_,_,_,_,h.ldA .hd rfl,jf (i:=2) s1 (hd Γ hF) λH1 n1 g1 p1=>qb.2 ⟨_,_,_,_,_,_,rfl,(back H1 n1 p1).mk1 (cs:=zT.cells) lR λH2 c2=>c2.all (vs:=(qQ d.kids 2).cells) rfl (hd Γ hF).kids.kid.cell λH3 c3=>⟨_,_,_,_,_,_,c3.ldA .hd rfl,?_⟩⟩⟩
 have hk2:=qa6 (d:=d) 2
 have hE:Ent F λΓ=>DF Γ (qQ d.kids 2):=λΓ hq=>(hd Γ hq).kids.kid
 have hB:BlP Z (qQ d.kids 2):=qqt _
 refine hB (s:={s.fresh f pw with vb:=vb,vs:=vs,many:=vs.length}) hE ⟨hg,hv,Nat.le_refl _⟩ hr (by show 0+_<=_;omega) (by show 0+_<=_;omega) c3 ?_
 refine(qE.ob ho).mono (λS hS hz=> ?_) λf _ hz H4 n4 g4 s4=>ql.2 (hz H4 n4 (by omega) s4.drop.drop)
 intro s4 H4 n4 g4 e4 c4;have er:s4.fn.result=f.result:=by obtain⟨b,L,v,rfl,_⟩:=e4;rfl
 have eT:s4.sv.T=S.T:=by have:=e4.st;rw [<-this];rfl
 have hfx:s4.fs=s.fs/\s4.dw=s.dw/\s4.nw=s.nw:=by obtain⟨b,L,v,rfl,_⟩:=e4;exact⟨rfl,rfl,rfl⟩
 have hz:Bw Z r s A F nx K (Ck.need (decide (f.result=0)||ends (qQ d.kids 2).er) d.er 20 (.ok S.T)):=hz
 have c11 {B:qD} {H:qc} {n:Nat} (c:CK Z r s4 B F H n):ld1 H (.ptr r 11)=some (iv f.result):=by rw [<-er];exact c.cell 11
 have lq {H:qc} {n:Nat} (c:CK Z r s4 ((n1,(qQ d.kids 2).cells)::(q,d.cells)::A) F H n):=c.ldA (sz:=6) (.tl .hd) rfl
 have lb {H:qc} {n:Nat} (c:CK Z r s4 ((n1,(qQ d.kids 2).cells)::(q,d.cells)::A) F H n):=c.ldA (sz:=6) .hd rfl
 have done (H':qc) (n':Nat) (hn:nx<=n') (hb:(decide (f.result=0)||ends (qQ d.kids 2).er)=true) (c:CK Z r s4 ((n1,(qQ d.kids 2).cells)::(q,d.cells)::A) F H' n'):K (.ret (.tuple [])) H' n':=
  qE.needT hz hb s4 H' n' hn ⟨eT,hfx.1,hfx.2.1,hfx.2.2⟩ c.drop.drop
 refine qb.2 ⟨rfl,_,rfl,_,rfl,_,c11 c4,qf.2 ⟨λh0=> ?_,λh0=> ?_⟩⟩
 ·have h0:f.result=0:=Int.ofNat.inj (of_decide_eq_true h0)
  refine⟨_,_,_,_,_,_,lq c4,⟨⟨_,c11 c4,rfl⟩,rfl,⟨_,_,_,_,_,_,lq c4,rfl⟩,trivial⟩,⟨⟨_,_,_,_,_,_,lq c4,rfl⟩,trivial⟩,(c4.more (by omega)).need (λ_ H5 n5 g5 c5=>qb.2 ⟨trivial,done H5 n5 (by omega) (by rw [decide_eq_true h0];rfl) c5⟩) λhb=>nomatch hb⟩
 ·have h0:¬f.result=0:=λe=>of_decide_eq_false h0 (congrArg Int.ofNat e)
  obtain⟨Γ4,s4',_,_,_,hF4,_,back4⟩:=c4.ro
  refine⟨_,_,_,_,_,_,lb c4,_,_,_,_,_,_,lq c4,⟨⟨_,c11 c4,rfl⟩,⟨_,_,_,_,_,_,lb c4,rfl⟩,⟨_,_,_,_,_,_,lq c4,rfl⟩,trivial⟩,qny (qQ d.kids 2) (hE Γ4 hF4) (s4'.more (by omega)) λH5 n5 g5 p5=>qb.2 ⟨_,rfl,⟨⟨_,_,_,_,_,_,lq (back4 H5 n5 p5),rfl⟩,trivial⟩,(back4 H5 n5 p5).need (λhb H6 n6 g6 c6=>qb.2 ⟨trivial,done H6 n6 (by omega) (by rw [hb,Bool.or_true]) c6⟩) λhb H6 n6 g6 c6=>ql.2 ?_⟩⟩
  have:=qE.needF hz (by rw [decide_eq_false h0,hb];rfl)
  rw [zh]at this;exact this H6 n6 (by omega) c6.drop.drop.end_
theorem qlo{i:Nat}{f:CSg}{pw:qa}(hd:Ent F λΓ=>DF Γ d)(hi:i<s.fs.length)(hf:s.fs[i]=(f,pw))(hg:zK s.sv.T s.sv.fs)(hrc:f.recv=0↔(qQ d.kids 0).kd=38)(hpl:f.params.length=(vW d).length)(hks:(vW d).length<=100)(hht:d.ht<=1000000000)
  (h:CK Z r s A F H nx) (ho:Bw Z r s A F nx K (Ck.body s.sv.T s.sv.fs f d.er)):qo PG wU [.ptr r 0,iv i,d.val] H nx K:=by
 rw [qq4]at ho;refine qo.of_body qp ?_
 refine Eq.mpr (qc8 ..) ?_
 have hmem:(f,pw)∈s.fs:=by rw [<-hf];exact List.getElem_mem hi
 have hfs:f∈s.sv.fs:=List.mem_map_of_mem (f:=λx:CSg×qa=>x.1) hmem
 have hpc:qZ pw=true:=by
  obtain⟨Γ,o,_⟩:=h.okF
  exact(o.fs _ hmem).cell
 have hgv:kK s.sv.T (zN (ers (vW d)) f.params):=by
  intro v hv;unfold zN at hv;obtain⟨⟨p,t⟩,hp,rfl⟩:=List.mem_map.1 hv
  exact hg.fp f hfs t (List.of_mem_zip hp).2
 have hpvl:=Vp hpl
 refine h.mkN (cs:=d.cells) lR λH0 c0=> ?_
 obtain⟨Γ,s0,hv,hr,hok,hF,hrow,back⟩:=c0.rows
 obtain⟨b,off,i1,i2,_⟩:=q9.rd (sz:=4) (λ_=>rfl) hrow s0.toZ hi
 rw [hf]at i2;obtain⟨H9,e9,H11,e11,H13,e13,H15,e15,H17,e17,c17⟩:=c0.fresh f pw (k:=λH'=>CK Z r (s.fresh f pw) ((nx,d.cells)::A) F H' (nx+1)) hmem hpc λ_ c=>c
 refine⟨rfl,_,rfl,_,c0.cell 1,Int.natCast_nonneg _,_,i1,_,_,_,_,i2,rfl,_,rfl,H9,e9,rfl,_,rfl,rfl,H11,e11,rfl,_,rfl,rfl,H13,e13,rfl,_,rfl,rfl,H15,e15,rfl,_,rfl,rfl,H17,e17,_,_,_,_,_,_,c17.ldA .hd rfl,?_⟩
 obtain⟨Γ1,s1,_,_,_,hF1,_,back1⟩:=c17.ro
 have hmin:min 3 d.kids.length<=d.kids.length:=Nat.min_le_right _ _
 obtain⟨w',hw',_⟩:=(hd Γ1 hF1).row.drop zV hmin
 have hdrop:d.kids.drop (min 3 d.kids.length)=d.kids.drop 3:=by
  by_cases h1:3<=d.kids.length
  ·rw [Nat.min_eq_left h1]
  ·rw [Nat.min_eq_right (by omega),List.drop_length,List.drop_eq_nil_of_le (by omega)]
 have hrow:Ent F λΓ=>q9 DT.cells 6 Γ w' (d.kids.drop 3)/\DFs Γ (d.kids.drop 3):=λΓ hq=>by
  obtain⟨w2,h1,h2⟩:=(hd Γ hq).row.drop zV hmin
  rw [hw']at h1
  injection h1 with h1
  subst h1;rw [hdrop]at h2;exact⟨h2,(hd Γ hq).kids.drop⟩
 refine w4 (i:=3) s1 (hd Γ1 hF1) hw' λH18 n18 g18 p18=>qb.2 ?_
 have c18:=back1 H18 n18 p18
 refine⟨rfl,_,rfl,_,rfl,_,c18.cell 9,qf.2 ⟨λh0=> ?_,λh0=> ?_⟩⟩
 ·have h0:f.recv≠0:=λe=>by
   have e':(s.fresh f pw).fn.recv=0:=e
   rw [e']at h0;simp at h0
  have h38:¬(qQ d.kids 0).kd=38:=λe=>h0 (hrc.2 e)
  have epd:vW d=qQ d.kids 0::d.kids.drop 3:=by unfold vW;rw [if_neg h38]
  rw [epd]at ho hpl hks hgv hpvl;obtain⟨Γ2,s2,_,_,_,hF2,_,back2⟩:=c18.ro
  refine⟨_,_,_,_,_,_,c18.ldA .hd rfl,jf (i:=0) s2 (hd Γ2 hF2) λH19 n19 g19 p19=>qb.2 ⟨_,_,_,_,_,_,rfl,(back2 H19 n19 p19).mk1 (cs:=(qQ d.kids 0).cells) lR λH20 c20=> ?_⟩⟩
  obtain⟨Γ3,s3,_,_,_,hF3,_⟩:=c20.ro
  have hkf':([qQ d.kids 0]++d.kids.drop 3).length<=100000:=by
   show(qQ d.kids 0::d.kids.drop 3).length<=100000
   omega
  have c20':CK Z r (s.fresh f pw) ((n19,[qQ d.kids 0].flatMap DT.cells)::(nx,d.cells)::A) F H20 (n19+1):=c20
  obtain⟨v,H21,n21,e21,g21,hvc,c21,_⟩:=CK.appKnown (c:=DT.cells) (sz:=6) (eb:=72) (m:=d.kids.drop 3) zV (by omega) (by omega) (by omega) hkf' c20'
  have hlv:zw v=some (qQ d.kids 0::d.kids.drop 3).length:=by
   obtain⟨Γ4,_,hF4⟩:=c21.okF
   exact q9.len (hF4 _ (.head _))
  refine⟨_,_,Z9.src (hrow Γ3 hF3).1.1 s3.toZ,(hrow Γ3 hF3).2.cells,v,H21,n21,e21,_,hlv,?_⟩
  refine Vl (s:=s) (ks:=qQ d.kids 0::d.kids.drop 3) (F:=(λΓ=>q9 DT.cells 6 Γ v ([qQ d.kids 0]++d.kids.drop 3))::F) (λΓ hq=>⟨hq _ (.head _),(hd Γ λP hP=>hq P (.tail _ hP)).kids.kid,(hrow Γ λP hP=>hq P (.tail _ hP)).2⟩) hks hpl c21 (λvb H' n' g' c'=> ?_) (qq.okay)
  refine Ye (pw:=pw) (nx:=nx) (vb:=vb) (vs:=zN (ers (qQ d.kids 0::d.kids.drop 3)) f.params) hd hg hgv (hg.fr f hfs) hht ?_ (by omega) ho
  rw [hpvl];exact c'.sub λP hP=> .tail _ hP
 ·have h0:f.recv=0:=by
   have:(((s.fresh f pw).fn.recv:Nat):Int)=0:=by simpa using h0
   have:((f.recv:Nat):Int)=0:=this
   omega
  have h38:(qQ d.kids 0).kd=38:=hrc.1 h0
  have epd:vW d=d.kids.drop 3:=by unfold vW;rw [if_pos h38]
  rw [epd]at ho hpl hks hgv hpvl;obtain⟨Γ2,_,hF2⟩:=c18.okF
  refine⟨_,(hrow Γ2 hF2).1.len,?_⟩
  refine Vl (s:=s) (ks:=d.kids.drop 3) hrow hks hpl c18 (λvb H' n' g' c'=> ?_) (qq.okay)
  refine Ye (pw:=pw) (nx:=nx) (vb:=vb) (vs:=zN (ers (d.kids.drop 3)) f.params) hd hg hgv (hg.fr f hfs) hht ?_ (by omega) ho
  rw [hpvl];exact c'
end
theorem qnt:qbe PG qI 112 1=true:=by kernel_rfl
theorem qmf:qd PG qI= .seq (qi (qd PG qI) [0]) (.seq (qi (qd PG qI) [1,0]) (.seq (qi (qd PG qI) [1,1,0]) (.seq (.seq (qi (qd PG qI) [1,1,1,0,0]) (.block 0 (.loop (qi (qd PG qI) [1,1,1,0,1,0,0])))) (.seq (qi (qd PG qI) [1,1,1,1,0]) (.seq (.seq (qi (qd PG qI) [1,1,1,1,1,0,0]) (.block 2 (.loop (qi (qd PG qI) [1,1,1,1,1,0,1,0,0])))) (.seq (qi (qd PG qI) [1,1,1,1,1,1,0]) (.seq (qi (qd PG qI) [1,1,1,1,1,1,1,0]) (.seq (.seq (qi (qd PG qI) [1,1,1,1,1,1,1,1,0,0]) (.block 4 (.loop (qi (qd PG qI) [1,1,1,1,1,1,1,1,0,1,0,0])))) (.seq (qi (qd PG qI) [1,1,1,1,1,1,1,1,1,0]) .ret))))))))):=by kernel_rfl
theorem qiz:qi (qd PG qI) [1,1,1,0,1,0,0]= .seq (qi (qd PG qI) [1,1,1,0,1,0,0,0]) (.seq (.cond (.tmp 21) .skip (.exit 0)) (.seq (.block 1 (.seq (qi (qd PG qI) [1,1,1,0,1,0,0,1,1,0,0,0]) (.seq (qi (qd PG qI) [1,1,1,0,1,0,0,1,1,0,0,1,0]) (.cond (.tmp 26) (qi (qd PG qI) [1,1,1,0,1,0,0,1,1,0,0,1,1,0]) (qi (qd PG qI) [1,1,1,0,1,0,0,1,1,0,0,1,1,1]))))) (qi (qd PG qI) [1,1,1,0,1,0,0,1,1,1]))):=by kernel_rfl
section
variable{r q a b c t i:Nat}{s s':DS}{A B:qD}{F G:zr}{H:qc}{nx n:Nat}{K:qr}{K0:KP}{d x:DT}{Γ:GH}
abbrev dfC(a b c:Nat):Dfs:=[(kC,[u0 a 0,u0 b 0,u0 c 0])]
abbrev EC(a b c r:Nat):List (Nat×qa):=[(2,.ptr a 0),(3,.ptr b 0),(4,.ptr c 0),(5,.ptr r 0)]
theorem XW{α:Type}{c:α->List qa}{b:Nat}{l:List α}{e:α}:zc c b (l++[e])=[(b,(l++[e]).flatMap c)]:=by cases l<;>rfl
theorem ve{α:Type}{b sz:Nat}{l:List α}{e:α}:qT b sz (l++[e])= .slice b 0 (l.length+1) sz false:=by
 cases l with
 |nil=>rfl
 |cons y l=>show qa.slice b 0 (y::(l++[e])).length sz false=_;simp
theorem qfd{α:Type}{c:α->List qa}{sz:Nat}(hc:∀x,(c x).length=sz){l:List α}{e x:α}:jw ((l++[e]).flatMap c) (l.length*sz) (c x)=(l++[x]).flatMap c:=by
 have hl:(l.flatMap c).length=l.length*sz:=zY hc
 unfold jw;rw [List.flatMap_append,List.flatMap_append,<-hl];simp [hc]
theorem CK.rowStore{l:List DT}{e:DT}(hx:qt x.cells=true)(h:CK Z r s (zc DT.cells b (l++[e])++A) F H nx):∃H',stC H (.ptr b (l.length*6)) x.cells=some H'/\CK Z r s (zc DT.cells b (l++[x])++A) F H' nx:=by
 rw [XW]at h;obtain⟨H',e1,e2⟩:=SH.st (off:=l.length*6) (vs:=x.cells) (CK.top h) .hd (by rw [zY zV,List.length_append,zV];show _<=(l.length+1)*6;omega) hx
 rw [qfd zV]at e2;rw [XW];exact⟨H',e1,CK.of_top e2⟩
theorem CK.setN{v:qa}{k:qc->Prop}(h:CK Z r s A F H n)(hv:qZ v=true)(hK:∀H',CK Z r {s with nw:=v} A F H' n->k H'):∃H1,stC H (.ptr r 3) [v]=some H1/\k H1:=
 h.set (j:=3) {s with nw:=v} (by omega) hv rfl (λΓ o=>⟨o.ty,o.fs,o.fw,o.tN,o.fN,o.vN,o.v0,o.dw,hv⟩) hK
theorem CK.setD{v:qa}{k:qc->Prop}(h:CK Z r s A F H n)(hv:qZ v=true)(hK:∀H',CK Z r {s with dw:=v} A F H' n->k H'):∃H1,stC H (.ptr r 2) [v]=some H1/\k H1:=
 h.set (j:=2) {s with dw:=v} (by omega) hv rfl (λΓ o=>⟨o.ty,o.fs,o.fw,o.tN,o.fN,o.vN,o.v0,hv,o.nw⟩) hK
theorem qed{l:List DT}:qY (qT b 6 (l++[x])) (Int.ofNat l.length).toNat 6=some (.ptr b (l.length*6)):=by
 rw [ve];show qY _ ((l.length:Nat):Int).toNat 6=_
 rw [Int.toNat_natCast,yc (by omega)]
 congr 2
 omega
theorem qky{o:qa}{m:Int}{i:Int}{nb:Nat}{ns:List DT}(hnl:ns.length<=100000)(hxc:qt x.cells=true)
  (h:CK Z r {s with nw:=qT nb 6 ns} (zc DT.cells nb ns++((q,x.cells)::A)) F H n)
  (hK:∀nb' H' n' env,n<=n'->qq (qe .und (EC a b c r++[(18,o),(19,iv m),(20,iv i)])) env->CK Z r {s with nw:=qT nb' 6 (ns++[x])} (zc DT.cells nb' (ns++[x])++((q,x.cells)::A)) F H' n'->K0 .normal env H' n' (dfC a b c) none):
  WpP PG 112 (qi (qd PG qI) [1,1,1,0,1,0,0,1,1,0,0,1,1,0]) (qe .und (EC a b c r++[(7,.ptr q 0),(18,o),(19,iv m),(20,iv i)])) H n (dfC a b c) K0:=by
 refine qhq (ts:=[2,3,4,5,18,19,20]) qp ?_
 refine Eq.mpr (qq9 ..) ?_
 have oq {s:DS} {nb:Nat} {l:List DT} {C:qD} {H:qc} {n:Nat} (c:CK Z r s (C++(zc DT.cells nb l++((q,x.cells)::A))) F H n):ldN H 6 (.ptr q 0)=some (.agg x.cells):=c.ldA (sz:=6) (Own.mem (List.mem_append.2 (.inr (List.mem_append.2 (.inr (.head _)))))) rfl
 refine⟨rfl,_,rfl,_,h.cell 3,_,_,_,_,_,_,oq (C:=[]) h,_,vU,h.mk1 (cs:=zT.cells) (by omega) λH1 c1=>⟨⟨⟨_,c1.cell 3,rfl⟩,⟨_,_,_,_,_,_,oq (C:=[_]) c1,rfl⟩,trivial⟩,_,_,SH.srcO (sz:=6) c1 (CK.ownA .hd) (by simp [DT.cells]),rfl,?_⟩⟩
 obtain⟨H2,e2,c2⟩:=CK.appA (sz:=6) (eb:=72) (e:=zT) zV (by omega) (by omega) (by omega) hnl (c1.drop.more (nx':=n+13) (by omega))
 refine⟨_,H2,_,e2,Int.natCast_nonneg _,_,qed,rfl,_,rfl,trivial,?_,zp,?_⟩
 ·obtain⟨H3,e3,c3⟩:=c2.rowStore (x:=x) hxc
  refine⟨H3,e3,trivial,zp,c3.setN zp λH4 c4=>⟨trivial,hK (n+13) H4 _ _ (by omega) (qq.refl _) ?_⟩⟩
  have es:qT (n+13) 6 (ns++[zT])=qT (n+13) 6 (ns++[x]):=by rw [ve,ve]
  rw [es]at c4;exact c4
 ·refine c2.setN zp λH3 c3=>⟨trivial,?_⟩
  obtain⟨H4,e4,c4⟩:=c3.rowStore (x:=x) hxc
  refine⟨H4,e4,trivial,hK (n+13) H4 _ _ (by omega) (qq.refl _) ?_⟩
  have es:qT (n+13) 6 (ns++[zT])=qT (n+13) 6 (ns++[x]):=by rw [ve,ve]
  rw [es]at c4;exact c4
theorem qmb{o:qa}{m:Int}{i:Int}{nb:Nat}{ns:List DT}(hnl:ns.length<=100000)(hxc:qt x.cells=true)
  (h:CK Z r {s with dw:=qT nb 6 ns} (zc DT.cells nb ns++((q,x.cells)::A)) F H n)
  (hK:∀nb' H' n' env,n<=n'->qq (qe .und (EC a b c r++[(18,o),(19,iv m),(20,iv i)])) env->CK Z r {s with dw:=qT nb' 6 (ns++[x])} (zc DT.cells nb' (ns++[x])++((q,x.cells)::A)) F H' n'->K0 .normal env H' n' (dfC a b c) none):
  WpP PG 112 (qi (qd PG qI) [1,1,1,0,1,0,0,1,1,0,0,1,1,1]) (qe .und (EC a b c r++[(7,.ptr q 0),(18,o),(19,iv m),(20,iv i)])) H n (dfC a b c) K0:=by
 refine qjq (ts:=[2,3,4,5,18,19,20]) qp ?_
 refine Eq.mpr (qr9 ..) ?_
 have oq {s:DS} {nb:Nat} {l:List DT} {C:qD} {H:qc} {n:Nat} (c:CK Z r s (C++(zc DT.cells nb l++((q,x.cells)::A))) F H n):ldN H 6 (.ptr q 0)=some (.agg x.cells):=c.ldA (sz:=6) (Own.mem (List.mem_append.2 (.inr (List.mem_append.2 (.inr (.head _)))))) rfl
 refine⟨rfl,_,rfl,_,h.cell 2,_,_,_,_,_,_,oq (C:=[]) h,_,vU,h.mk1 (cs:=zT.cells) (by omega) λH1 c1=>⟨⟨⟨_,c1.cell 2,rfl⟩,⟨_,_,_,_,_,_,oq (C:=[_]) c1,rfl⟩,trivial⟩,_,_,SH.srcO (sz:=6) c1 (CK.ownA .hd) (by simp [DT.cells]),rfl,?_⟩⟩
 obtain⟨H2,e2,c2⟩:=CK.appA (sz:=6) (eb:=72) (e:=zT) zV (by omega) (by omega) (by omega) hnl (c1.drop.more (nx':=n+13) (by omega))
 refine⟨_,H2,_,e2,Int.natCast_nonneg _,_,qed,rfl,_,rfl,trivial,?_,zp,?_⟩
 ·obtain⟨H3,e3,c3⟩:=c2.rowStore (x:=x) hxc
  refine⟨H3,e3,trivial,zp,c3.setD zp λH4 c4=>⟨trivial,hK (n+13) H4 _ _ (by omega) (qq.refl _) ?_⟩⟩
  have es:qT (n+13) 6 (ns++[zT])=qT (n+13) 6 (ns++[x]):=by rw [ve,ve]
  rw [es]at c4;exact c4
 ·refine c2.setD zp λH3 c3=>⟨trivial,?_⟩
  obtain⟨H4,e4,c4⟩:=c3.rowStore (x:=x) hxc
  refine⟨H4,e4,trivial,hK (n+13) H4 _ _ (by omega) (qq.refl _) ?_⟩
  have es:qT (n+13) 6 (ns++[zT])=qT (n+13) 6 (ns++[x]):=by rw [ve,ve]
  rw [es]at c4;exact c4
def fnD(e:DT):Bool:=decide (e.kd=6)
theorem qk2{w:qa}{ks:List DT}(hw:Ent F λΓ=>q9 DT.cells 6 Γ w ks/\DFs Γ ks)(hks:ks.length<=100000)(h:CK Z r {s with dw:= .nilSlice,nw:= .nilSlice} A F H n)
  (hK:∀nb db H' n',n<=n'->CK Z r {s with dw:=qT db 6 (ks.filter λe=> !fnD e),nw:=qT nb 6 (ks.filter fnD)} (zc DT.cells nb (ks.filter fnD)++(zc DT.cells db (ks.filter λe=> !fnD e)++A)) F H' n'->K0 (.exit 0) (qe .und (EC a b c r)) H' n' (dfC a b c) none)
  {env:Env} (he:qq (qe .und (EC a b c r++[(18,w),(19,iv (ks.length:Int)),(20,iv 0)])) env):
  LpP PG 112 (qi (qd PG qI) [1,1,1,0,1,0,0]) env H n (dfC a b c) none K0:=by
 refine zD (P:=PG) (X:=Nat) (Y:=Unit) (λi=>qe .und (EC a b c r++[(18,w),(19,iv (ks.length:Int)),(20,iv (i:Int))])) (λ_=>qe .und (EC a b c r))
  (λm i H1 n1=>m=ks.length - i/\i<=ks.length/\n<=n1/\∃nb db,CK Z r {s with dw:=qT db 6 ((ks.take i).filter λe=> !fnD e),nw:=qT nb 6 ((ks.take i).filter fnD)} (zc DT.cells nb ((ks.take i).filter fnD)++(zc DT.cells db ((ks.take i).filter λe=> !fnD e)++A)) F H1 n1)
  (λid _ H1 n1=>id=0/\n<=n1/\∃nb db,CK Z r {s with dw:=qT db 6 (ks.filter λe=> !fnD e),nw:=qT nb 6 (ks.filter fnD)} (zc DT.cells nb (ks.filter fnD)++(zc DT.cells db (ks.filter λe=> !fnD e)++A)) F H1 n1) ks.length 0 he ⟨rfl,Nat.zero_le _,Nat.le_refl _,0,0,h⟩ ?_ ?_
 ·rintro m i H1 n1 ⟨rfl,hi,g1,nb,db,c1⟩
  rw [qiz];refine WpP.seq (WpP.partK (ts:=[2,3,4,5,18,19,20,21]) qp ?_)
  refine Eq.mpr (qp3 ..) ?_
  show WpP PG 112 _ _ _ _ _ _
  refine WpP.seq (WpP.caseB (p:=decide ((i:Int)<(ks.length:Int))) rfl (λhc=> ?_) λhc=> ?_)
  ·refine WpP.skip ?_
   show WpP PG 112 _ _ _ _ _ _
   have hc:(i:Int)<(ks.length:Int):=of_decide_eq_true hc
   have hil:i<ks.length:=by omega
   obtain⟨Γ1,s1',_,_,_,hF1,_⟩:=c1.ro
   obtain⟨b',off,i1,i2,_⟩:=q9.rd (sz:=6) zV (hw Γ1 hF1).1 s1'.toZ hil
   have hkd:qt ks[i].cells=true:=((hw Γ1 hF1).2.get (List.getElem_mem hil)).cell
   have ew:i64.wrap ((i:Int)+1)=((i+1:Nat):Int):=by rw [qB (by omega) (by omega)];omega
   have hln:((ks.take i).filter fnD).length<=100000:=Nat.le_trans (List.length_filter_le _ _) (by rw [List.length_take];omega)
   have hld:((ks.take i).filter λe=> !fnD e).length<=100000:=Nat.le_trans (List.length_filter_le _ _) (by rw [List.length_take];omega)
   have et:ks.take (i+1)=ks.take i++[ks[i]]:=by rw [List.take_add_one,List.getElem?_eq_getElem hil];rfl
   refine WpP.seq (WpP.block (WpP.seq (WpP.weaken (e:=qe .und (EC a b c r++[(18,w),(19,iv (ks.length:Int)),(20,iv (i:Int))])) (qq.okay) (WpP.partK (ts:=[2,3,4,5,7,18,19,20]) qp ?_))))
   refine Eq.mpr (qr8 ..) ?_
   refine⟨Int.natCast_nonneg _,_,i1,_,_,_,_,_,_,i2,c1.mk1 (cs:=zT.cells) lR λH2 c2=>c2.all (vs:=ks[i].cells) rfl hkd λH3 c3=> ?_⟩
   show WpP PG 112 _ _ _ _ _ _
   refine WpP.seq (WpP.partK (ts:=[2,3,4,5,7,18,19,20,26]) qp ?_)
   refine Eq.mpr (qp1 ..) ?_
   refine⟨_,rfl,_,c3.ld1 .hd 0,?_⟩
   show WpP PG 112 _ _ _ _ _ _
   have fin (nb' db':Nat) (H':qc) (n':Nat) (env:Env) (g':n1<=n') (he:qq (qe .und (EC a b c r++[(18,w),(19,iv (ks.length:Int)),(20,iv (i:Int))])) env)
     (c':CK Z r {s with dw:=qT db' 6 ((ks.take (i+1)).filter λe=> !fnD e),nw:=qT nb' 6 ((ks.take (i+1)).filter fnD)} (zc DT.cells nb' ((ks.take (i+1)).filter fnD)++(zc DT.cells db' ((ks.take (i+1)).filter λe=> !fnD e)++A)) F H' n'):
     WpP PG 112 (qi (qd PG qI) [1,1,1,0,1,0,0,1,1,1]) env H' n' (dfC a b c) (qF (λenv' H'' nx' dfs' _=>dfs'=dfC a b c/\∃m' x',m'<ks.length - i/\qq (qe .und (EC a b c r++[(18,w),(19,iv (ks.length:Int)),(20,iv ((x':Nat):Int))])) env'/\m'=ks.length - x'/\x'<=ks.length/\n<=nx'/\∃nb db,CK Z r {s with dw:=qT db 6 ((ks.take x').filter λe=> !fnD e),nw:=qT nb 6 ((ks.take x').filter fnD)} (zc DT.cells nb ((ks.take x').filter fnD)++(zc DT.cells db ((ks.take x').filter λe=> !fnD e)++A)) F H'' nx')
      (λid env' H'' nx' dfs' _=>dfs'=dfC a b c/\∃y:Unit,qq (qe .und (EC a b c r)) env'/\id=0/\n<=nx'/\∃nb db,CK Z r {s with dw:=qT db 6 (ks.filter λe=> !fnD e),nw:=qT nb 6 (ks.filter fnD)} (zc DT.cells nb (ks.filter fnD)++(zc DT.cells db (ks.filter λe=> !fnD e)++A)) F H'' nx')
      (λenv' H'' nx' dfs' rc'=>K0 .ret env' H'' nx' dfs' rc') (λl env' H'' nx' dfs' rc'=>K0 (.pan l) env' H'' nx' dfs' rc')):=by
    refine WpP.weaken he (WpP.partK (ts:=[2,3,4,5,18,19,20]) qp ?_)
    refine Eq.mpr (qrg ..) ?_
    rw [ew];exact⟨rfl,ks.length - (i+1),i+1,by omega,qq.refl _,rfl,by omega,by omega,nb',db',c'⟩
   refine WpP.case (k:=ks[i].kd) (j:=6) rfl (λh6=> ?_) λh6=> ?_
   ·have ef:fnD ks[i]=true:=decide_eq_true h6
    have e1:(ks.take (i+1)).filter fnD=(ks.take i).filter fnD++[ks[i]]:=by rw [et,List.filter_append];simp [ef]
    have e2:((ks.take (i+1)).filter λe=> !fnD e)=(ks.take i).filter λe=> !fnD e:=by rw [et,List.filter_append];simp [ef]
    refine WpP.weaken (e:=qe .und (EC a b c r++[(7,.ptr n1 0),(18,w),(19,iv (ks.length:Int)),(20,iv (i:Int))])) (qq.okay) ?_
    have c4:CK Z r {({s with dw:=qT db 6 ((ks.take i).filter λe=> !fnD e)}:DS)with nw:=qT nb 6 ((ks.take i).filter fnD)} (zc DT.cells nb ((ks.take i).filter fnD)++((n1,ks[i].cells)::(zc DT.cells db ((ks.take i).filter λe=> !fnD e)++A))) F H3 (n1+1):=c3.permA List.perm_middle.symm
    refine qky (s:={s with dw:=qT db 6 ((ks.take i).filter λe=> !fnD e)}) hln hkd c4 λnb' H' n' env g' he c'=> ?_
    show WpP PG 112 _ _ _ _ _ _
    refine fin nb' db H' n' env (by omega) he ?_
    rw [e1,e2];exact(c'.permA List.perm_middle).drop
   ·have ef:fnD ks[i]=false:=decide_eq_false h6
    have e1:(ks.take (i+1)).filter fnD=(ks.take i).filter fnD:=by rw [et,List.filter_append];simp [ef]
    have e2:((ks.take (i+1)).filter λe=> !fnD e)=((ks.take i).filter λe=> !fnD e)++[ks[i]]:=by rw [et,List.filter_append];simp [ef]
    refine WpP.weaken (e:=qe .und (EC a b c r++[(7,.ptr n1 0),(18,w),(19,iv (ks.length:Int)),(20,iv (i:Int))])) (qq.okay) ?_
    have p1:((n1,ks[i].cells)::(zc DT.cells nb ((ks.take i).filter fnD)++(zc DT.cells db ((ks.take i).filter λe=> !fnD e)++A))).Perm (zc DT.cells db ((ks.take i).filter λe=> !fnD e)++((n1,ks[i].cells)::(zc DT.cells nb ((ks.take i).filter fnD)++A))):=
     ((List.perm_append_comm_assoc _ _ _).cons _).trans List.perm_middle.symm
    have c4:CK Z r {({s with nw:=qT nb 6 ((ks.take i).filter fnD)}:DS)with dw:=qT db 6 ((ks.take i).filter λe=> !fnD e)} (zc DT.cells db ((ks.take i).filter λe=> !fnD e)++((n1,ks[i].cells)::(zc DT.cells nb ((ks.take i).filter fnD)++A))) F H3 (n1+1):=c3.permA p1
    refine qmb (s:={s with nw:=qT nb 6 ((ks.take i).filter fnD)}) hld hkd c4 λdb' H' n' env g' he c'=> ?_
    show WpP PG 112 _ _ _ _ _ _
    refine fin nb db' H' n' env (by omega) he ?_
    rw [e1,e2];exact(c'.permA List.perm_middle).drop.permA (List.perm_append_comm_assoc _ _ _)
  ·refine WpP.exit ?_
   have hc:¬(i:Int)<(ks.length:Int):=of_decide_eq_false hc
   have:i=ks.length:=by omega
   subst this;rw [List.take_length]at c1;exact⟨rfl,(),qq.okay,rfl,g1,nb,db,c1⟩
 ·rintro id _ H1 n1 ⟨rfl,g1,nb,db,c1⟩
  exact hK nb db H1 n1 g1 c1
end
theorem qfn{H:qc}{a:qa}{k:qa->Prop}:vn PG Wt H a k=(∃(v w:qa) (n1:Int),ldN H 3 a=some (.agg [v,w,.int .i64 n1])/\k (.agg [v,w,.int .i64 n1])):=by kernel_rfl
theorem Y6{H:qc}{a:qa}{k:qa->Prop}:vn PG yy H a k=(∃n1 n2:Int,ldN H 2 a=some (.agg [.int .i64 n1,.int .i64 n2])/\k (.agg [.int .i64 n1,.int .i64 n2])):=by kernel_rfl
theorem Y2{H:qc}{a:qa}{k:qa->Prop}:vn PG yC H a k=(∃n1:Int,ld1 H a=some (.int .i64 n1)/\k (.int .i64 n1)):=by kernel_rfl
theorem Yf:vx PG kC=true:=by kernel_rfl
section
variable{r q a b c t i n0:Nat}{s s':DS}{A B:qD}{F G:zr}{H:qc}{nx n:Nat}{K:qr}{K0:KP}{d x:DT}{Γ:GH}
theorem qp6(ks:List DT):(ers ks).filter qpv=ers (ks.filter fnD):=by
 rw [vi,vi,List.filter_map]
 congr 2
 funext e
 show decide (kh e.er=6)=decide (e.kd=6)
 rw [kL]
theorem qkn(ks:List DT):(ers ks).filter (λx=> !qpv x)=ers (ks.filter λe=> !fnD e):=by
 rw [vi,vi,List.filter_map]
 congr 2
 funext e
 show(!decide (kh e.er=6))= !decide (e.kd=6)
 rw [kL]
theorem Xd:∀(ks:List qu) (T:List Ty),Jh declared T ks=kc T ks
 |[],_=>rfl
 |k::ks,T=>by
  show Ck.ob (declared T k) (λT=>Jh declared T ks)=_
  rw [kc]
  congr 1
  funext T
  exact Xd ks T
theorem qbz:∀(ks:List qu) (p:List Ty×List CSg),Jh (λp n=>function p.1 p.2 n) p ks=jq p.1 p.2 ks
 |[],_=>rfl
 |k::ks,p=>by
  show Ck.ob (function p.1 p.2 k) (λp=>Jh (λp n=>function p.1 p.2 n) p ks)=_
  rw [jq]
  congr 1
  funext p
  exact qbz ks p
def PnC(Z:Nat->Prop)(a b c:Nat)(A:qD)(F:zr)(n0:Nat)(K0:KP)(no:Flt->Prop):Prop:=
 ∀f env H' n',no f->env 2= .ptr a 0->env 3= .ptr b 0->env 4= .ptr c 0->n0<=n'->SH Z A F H' n'->K0 (.pan [(jQ f,false)]) env H' n' (dfC a b c) none
theorem qch{w:qa}{ds:List DT}{okp:List Ty->Prop}{no:Flt->Prop}(hw:Ent F λΓ=>q9 DT.cells 6 Γ w ds/\DFs Γ ds)(hks:ds.length<=1000)(hg:zK s.sv.T [])(hb:Qg 5 s.sv.T)(hl:5+ds.length<=s.sv.T.length)(h:CK Z r s A F H n)(g0:n0<=n)
  (ho:qE (zW s.sv.T 5 (ers ds)) okp no) (hP:PnC Z a b c A F n0 K0 no)
  (hK:∀s' T' H' n',n0<=n'->RCh s s' T'->okp T'->CK Z r s' A F H' n'->K0 (.exit 2) (qe .und (EC a b c r)) H' n' (dfC a b c) none)
  {env:Env} (he:qq (qe .und (EC a b c r++[(61,w),(62,iv (Int.ofNat ds.length)),(63,iv 0)])) env):
  LpP PG 112 (qi (qd PG qI) [1,1,1,1,1,0,1,0,0]) env H n (dfC a b c) none K0:=by
 refine zD (P:=PG) (X:=Nat) (Y:=Unit) (λi=>qe .und (EC a b c r++[(61,w),(62,iv (ds.length:Int)),(63,iv (i:Int))])) (λ_=>qe .und (EC a b c r))
  (λm i H1 n1=>m=ds.length - i/\i<=ds.length/\n0<=n1/\∃s1 T1,RCh s s1 T1/\zK T1 []/\Qg (5+i) T1/\5+ds.length<=T1.length/\CK Z r s1 A F H1 n1/\qE (zW T1 (5+i) (ers (ds.drop i))) okp no)
  (λid _ H1 n1=>id=2/\n0<=n1/\∃s1 T1,RCh s s1 T1/\okp T1/\CK Z r s1 A F H1 n1) ds.length 0 he ⟨rfl,Nat.zero_le _,g0,s,_,RCh.refl,hg,hb,hl,h,ho⟩ ?_ ?_
 ·rintro m i H1 n1 ⟨rfl,hi,g1,s1,T1,e1,hg1,hb1,hl1,c1,hf⟩
  refine WpP.partK (ts:=[2,3,4,5,61,62,63]) qp ?_
  refine Eq.mpr (qte ..) ?_
  obtain⟨Γ1,s1',_,_,_,hF1,_⟩:=c1.ro
  refine qf.2 ⟨λhc=> ?_,λhc=> ?_⟩
  ·have hc:(i:Int)<(ds.length:Int):=of_decide_eq_true hc
   have hil:i<ds.length:=by omega
   obtain⟨b',off,i1,i2,_⟩:=q9.rd (sz:=6) zV (hw Γ1 hF1).1 s1'.toZ hil
   have hkd:DF Γ1 ds[i]:=(hw Γ1 hF1).2.get (List.getElem_mem hil)
   have ew:i64.wrap ((i:Int)+1)=((i+1:Nat):Int):=by rw [qB (by omega) (by omega)];omega
   have ew5:i64.wrap (Int.ofNat 5+(i:Int))=((5+i:Nat):Int):=by
    rw [qB (by simp only [Int.ofNat_eq_natCast];omega) (by simp only [Int.ofNat_eq_natCast];omega)]
    simp only [Int.ofNat_eq_natCast];omega
   rw [List.drop_eq_getElem_cons hil]at hf;have hf:qE (zW T1 (5+i) (ds[i].er::ers (ds.drop (i+1)))) okp no:=hf
   rw [zW,yI]at hf;rw [ew];refine⟨Int.natCast_nonneg _,_,i1,_,_,_,_,_,_,i2,c1.mk1 (cs:=zT.cells) lR λH2 c2=>c2.all (vs:=ds[i].cells) rfl hkd.cell λH3 c3=> ?_⟩
   have lq {H:qc} {n:Nat} (c:CK Z r s1 ((n1,ds[i].cells)::A) F H n):=c.ldA (sz:=6) .hd rfl
   refine⟨_,_,_,_,_,_,lq c3,⟨⟨_,_,_,_,_,_,lq c3,rfl⟩,trivial⟩,(c3.more (by omega)).base λH4 n4 g4 c4=>qb.2 ⟨_,rfl,⟨⟨_,_,_,_,_,_,lq c4,rfl⟩,trivial⟩,?_⟩⟩
   rw [ew5];have eT:=e1.T
   have hb0:=hb1 (5+i) lR
   have hf0:Few (5+i) 0 T1:=by unfold Few;rw [hb0.1,hb0.2];simp
   refine qbn (t:=5+i) (λΓ hq=>(hw Γ hq).2.get (List.getElem_mem hil)) (by rw [eT];omega) (by rw [eT];exact hf0) c4 ?_
   rw [eT];refine(qE.ob hf).mono (λT2 hT2 hz=> ?_) λf _ hz H5 n5 g5 s5=>ql.2 (hP f _ H5 n5 hz rfl rfl rfl (by omega) (SH.drop s5))
   obtain⟨g2,l2,b2⟩:=wZ (names:=[]) hg1 (by omega) (hb1.mono (by omega)) hf0 hT2
   intro s5 H5 n5 g5 e5 c5;exact qb.2 ⟨trivial,rfl,ds.length - (i+1),i+1,by omega,qq.refl _,rfl,by omega,by omega,s5,T2,e1.trans e5,g2,b2,by omega,c5.drop,hz⟩
  ·have hc:¬(i:Int)<(ds.length:Int):=of_decide_eq_false hc
   have:i=ds.length:=by omega
   subst this;rw [List.drop_length]at hf;exact⟨rfl,(),qq.okay,rfl,g1,s1,T1,e1,hf,c1⟩
 ·rintro id _ H1 n1 ⟨rfl,g1,s1,T1,e1,hf,c1⟩
  exact hK s1 T1 H1 n1 g1 e1 hf c1
theorem qf4{w:qa}{ns:List DT}{mn:Nat}{okp:List Ty->Prop}{no:Flt->Prop}(hw:Ent F λΓ=>q9 DT.cells 6 Γ w ns/\DFs Γ ns)(hg:zK s.sv.T s.sv.fs)(hr:wE s.sv.fs (ers ns))(hht:∀e∈ns,e.ht<=1000000000)(h:CK Z r s A F H n)(g0:n0<=n)
  (ho:qE (we s.sv.T s.sv.fs s.sv.fs (ers ns)) okp no) (hP:PnC Z a b c A F n0 K0 no)
  (hK:∀s' T' H' n',n0<=n'->BCh s s' T'->okp T'->CK Z r s' A F H' n'->K0 (.exit 4) (qe .und (EC a b c r++[(10,iv mn)])) H' n' (dfC a b c) none)
  {env:Env} (he:qq (qe .und (EC a b c r++[(10,iv mn),(89,w),(90,iv (Int.ofNat ns.length)),(91,iv 0)])) env):
  LpP PG 112 (qi (qd PG qI) [1,1,1,1,1,1,1,1,0,1,0,0]) env H n (dfC a b c) none K0:=by
 have hlf:s.sv.fs.length=s.fs.length:=by simp [DS.sv]
 have hln:s.fs.length=ns.length:=by rw [<-hlf,hr.len,jk]
 have hN:s.fs.length<=1000:=let⟨_,o,_⟩:=h.okF;o.fN
 refine zD (P:=PG) (X:=Nat) (Y:=Unit) (λi=>qe .und (EC a b c r++[(10,iv mn),(89,w),(90,iv (ns.length:Int)),(91,iv (i:Int))])) (λ_=>qe .und (EC a b c r++[(10,iv mn)]))
  (λm i H1 n1=>m=ns.length - i/\i<=ns.length/\n0<=n1/\∃s1 T1,BCh s s1 T1/\zK T1 s.sv.fs/\CK Z r s1 A F H1 n1/\qE (we T1 s.sv.fs (s.sv.fs.drop i) (ers (ns.drop i))) okp no)
  (λid _ H1 n1=>id=4/\n0<=n1/\∃s1 T1,BCh s s1 T1/\okp T1/\CK Z r s1 A F H1 n1) ns.length 0 he ⟨rfl,Nat.zero_le _,g0,s,_,⟨rfl,rfl,rfl,rfl⟩,hg,h,ho⟩ ?_ ?_
 ·rintro m i H1 n1 ⟨rfl,hi,g1,s1,T1,e1,hg1,c1,hf⟩
  refine WpP.partK (ts:=[2,3,4,5,10,89,90,91]) qp ?_
  refine Eq.mpr (qtr ..) ?_
  obtain⟨Γ1,s1',_,_,_,hF1,_⟩:=c1.ro
  refine qf.2 ⟨λhc=> ?_,λhc=> ?_⟩
  ·have hc:(i:Int)<(ns.length:Int):=of_decide_eq_true hc
   have hil:i<ns.length:=by omega
   obtain⟨b',off,i1,i2,_⟩:=q9.rd (sz:=6) zV (hw Γ1 hF1).1 s1'.toZ hil
   have hkd:DF Γ1 ns[i]:=(hw Γ1 hF1).2.get (List.getElem_mem hil)
   have ew:i64.wrap ((i:Int)+1)=((i+1:Nat):Int):=by rw [qB (by omega) (by omega)];omega
   have hif:i<s.sv.fs.length:=by omega
   have hrel:=hr.at (i:=i) hif (by rw [jk];exact hil)
   have een:(ers ns)[i]'(by rw [jk];exact hil)=ns[i].er:=by simp [vi]
   rw [een]at hrel;obtain⟨r1,r2,r3⟩:=hrel
   rw [yd,kL]at r1;rw [QM,jk]at r2 r3;rw [List.drop_eq_getElem_cons hil,List.drop_eq_getElem_cons hif]at hf;have hf:qE (Ck.ob (Ck.body T1 s.sv.fs s.sv.fs[i] ns[i].er) λT=>we T s.sv.fs (s.sv.fs.drop (i+1)) (ers (ns.drop (i+1)))) okp no:=hf
   have ei:i<s1.fs.length:=by rw [e1.2.1];omega
   have ef:s1.fs[i]=(s.sv.fs[i],(s1.fs[i]).2):=by
    have:(s1.fs[i]).1=s.sv.fs[i]:=by
     have h1:s1.sv.fs=s.sv.fs:=by unfold DS.sv;rw [e1.2.1]
     have h2:s1.sv.fs[i]'(by rw [h1];exact hif)=s1.fs[i].1:=by simp [DS.sv]
     rw [<-h2];simp only [h1]
    rw [<-this]
   rw [ew];refine⟨Int.natCast_nonneg _,_,i1,_,_,_,_,_,_,i2,c1.mk1 (cs:=zT.cells) lR λH2 c2=>c2.all (vs:=ns[i].cells) rfl hkd.cell λH3 c3=>⟨_,_,_,_,_,_,c3.ldA .hd rfl,?_⟩⟩
   have eT:=e1.1
   have efs:s1.sv.fs=s.sv.fs:=by unfold DS.sv;rw [e1.2.1]
   refine qlo (f:=s.sv.fs[i]) (λΓ hq=>(hw Γ hq).2.get (List.getElem_mem hil)) ei ef (by rw [eT,efs];exact hg1) r1 r2 (by omega) (hht _ (List.getElem_mem hil)) c3 ?_
   rw [eT,efs];refine(qE.ob hf).mono (λT2 hT2 hz=> ?_) λf _ hz H5 n5 g5 s5=>ql.2 (hP f _ H5 n5 hz rfl rfl rfl (by omega) (SH.drop s5))
   obtain⟨g2,l2⟩:=qji hg1 (List.getElem_mem hif) hT2
   intro s5 H5 n5 g5 e5 c5;exact qb.2 ⟨rfl,ns.length - (i+1),i+1,by omega,qq.refl _,rfl,by omega,by omega,s5,T2,⟨e5.1,e5.2.1.trans e1.2.1,e5.2.2.1.trans e1.2.2.1,e5.2.2.2.trans e1.2.2.2⟩,g2,c5.drop,hz⟩
  ·have hc:¬(i:Int)<(ns.length:Int):=of_decide_eq_false hc
   have:i=ns.length:=by omega
   subst this;have hd0:s.sv.fs.drop ns.length=[]:=List.drop_eq_nil_of_le (by omega)
   rw [List.drop_length,hd0]at hf;exact⟨rfl,(),qq.okay,rfl,g1,s1,T1,e1,hf,c1⟩
 ·rintro id _ H1 n1 ⟨rfl,g1,s1,T1,e1,hf,c1⟩
  exact hK s1 T1 H1 n1 g1 e1 hf c1
def AllRows(B:qD):GH->Prop:=λΓ=>∀b cs,(b,cs)∈B->Γ b=some cs
theorem SH.freezeAll:∀{B:qD} {F:zr},SH Z (B++A) F H nx->SH Z A (AllRows B::F) H nx
 |[],F,h=>SH.add h λ_ _ _ _ hm=>nomatch hm
 |(b,cs)::B,F,h=>by
  have h1:SH Z (B++A) (RowF b cs::F) H nx:=SH.freeze h
  have h2:=SH.freezeAll h1
  refine SH.sub (SH.add (P:=AllRows ((b,cs)::B)) h2 λΓ hq b' cs' hm=> ?_) λP hP=> ?_
  ·rcases List.mem_cons.1 hm with e|hm
   ·obtain⟨rfl,rfl⟩:=Prod.mk.inj e
    exact hq _ (.tail _ (.head _))
   ·exact hq _ (.head _) _ _ hm
  ·rcases List.mem_cons.1 hP with rfl|hP
   ·exact .head _
   ·exact .tail _ (.tail _ (.tail _ hP))
def InfoF(wt wf:qa)(T:List Ty)(fs:List CSg):GH->Prop:=λΓ=>ZE Γ wt T/\qac Γ wf fs
theorem CK.told(h:CK Z r s A F H nx):SH Z A (InfoF (.slice s.tb 0 s.T.length 5 false) (qT s.fb 4 s.fs) s.sv.T s.sv.fs::F) H nx:=by
 have h1:SH Z (s.own r []++A) (s.ok::F) H nx:=by
  have e:s.own r A=s.own r []++A:=by unfold DS.own DS.rest;simp [List.append_assoc]
  rw [<-e];exact h
 have h2:=SH.freezeAll h1
 refine SH.sub (SH.add (P:=InfoF (.slice s.tb 0 s.T.length 5 false) (qT s.fb 4 s.fs) s.sv.T s.sv.fs) h2 λΓ hq=> ?_) λP hP=> ?_
 ·have ho:s.ok Γ:=hq _ (.tail _ (.head _))
  have hr:AllRows (s.own r []) Γ:=hq _ (.head _)
  have hv:=DS.see (r:=r) (A:=[]) ho λb cs hb=>hr b cs hb.to_mem
  have hrr:Γ r=some s.cells:=hr r _ (.head _)
  exact⟨hv.ty hrr,hv.sgs hrr⟩
 ·rcases List.mem_cons.1 hP with rfl|hP
  ·exact .head _
  ·exact .tail _ (.tail _ (.tail _ hP))
def qvh(Z:Nat->Prop)(A:qD)(F:zr)(nx:Nat)(K:qr)(R:Ex Ku):Prop:=match R with
 | .ok i=>∀wt wf H' n',nx<=n'->SH Z A (InfoF wt wf i.types i.funcs::F) H' n'->qZ wt=true->qZ wf=true->K (.ret (.tuple [.agg [wt,wf,iv i.main],.agg [iv 0,iv 0],iv 0])) H' n'
 | .error f=>∀H' n',nx<=n'->SH Z A F H' n'->K (.ret (.tuple [.agg [.nilSlice,.nilSlice,iv 0],.agg [iv f.line,iv f.col],iv f.e])) H' n'
theorem qqf(lv:zJ)(lvc:zI)(K:qr)(a b c:Nat)(H:qc)(nx:Nat):qy PG lv lvc K (qP PG qI) .ret (qe .und [(2,.ptr a 0),(3,.ptr b 0),(4,.ptr c 0)]) H nx (dfC a b c) none=lvc [.cell (.ptr a 0) Wt,.cell (.ptr b 0) yy,.cell (.ptr c 0) yC] (dfC a b c) .returning H nx K:=by kernel_rfl
theorem qps(lv:zJ)(lvc:zI)(K:qr)(l:List (qa×Bool))(env:Env)(a b c:Nat)(H:qc)(nx:Nat):qy PG lv lvc K (qP PG qI) (.pan l) env H nx (dfC a b c) none=lvc [.cell (env 2) Wt,.cell (env 3) yy,.cell (env 4) yC] (dfC a b c) (.panicking l) H nx K:=by kernel_rfl
theorem qoj{v w:qa}{m x y e:Int}(ha:ldN H 3 (.ptr a 0)=some (.agg [v,w,iv m]))(hb:ldN H 2 (.ptr b 0)=some (.agg [iv x,iv y]))(hc:ld1 H (.ptr c 0)=some (iv e))
  (h:K (.ret (.tuple [.agg [v,w,iv m],.agg [iv x,iv y],iv e])) H nx):X6 PG H [.cell (.ptr a 0) Wt,.cell (.ptr b 0) yy,.cell (.ptr c 0) yC] λvs=>K (.ret (yr vs)) H nx:=by
 show vn PG Wt H (.ptr a 0) λv=>vn PG yy H (.ptr b 0) λw=>vn PG yC H (.ptr c 0) λe=>K (.ret (.tuple [v,w,e])) H nx
 rw [qfn];refine⟨_,_,_,ha,?_⟩
 rw [Y6];refine⟨_,_,hb,?_⟩
 rw [Y2];exact⟨_,hc,h⟩
end
section
variable{r q a b c t i n0:Nat}{s s':DS}{A B:qD}{F G:zr}{H:qc}{nx n:Nat}{K:qr}{K0:KP}{d x:DT}{Γ:GH}
def DS.zero(tb:Nat):DS:=⟨tb,base.map λt=>⟨t,0,0,[]⟩,0,[],.nilSlice,.nilSlice,none,[],0,0,0,⟨[],0,[],0⟩,.nilSlice⟩
theorem qr0(tb:Nat):(DS.zero tb).ok Γ:=by
 refine⟨λx hx=> ?_,(λ_ h=>nomatch h),.nil,by show 5<=1000;omega,Nat.zero_le _,Nat.zero_le _,λ_=>rfl,rfl,rfl⟩
 obtain⟨t,ht,rfl⟩:=List.mem_map.1 hx
 have:t.fields=[]/\t.methods=[]:=by
  unfold base at ht;simp only [List.mem_cons,List.not_mem_nil,or_false]at ht
  rcases ht with rfl|rfl|rfl|rfl|rfl<;>exact⟨rfl,rfl⟩
 refine⟨by show([]:List qa).length=t.methods.length;rw [this.2];rfl,by show t.fields.length<=1000;rw [this.1];simp,by show t.methods.length<=1000;rw [this.2];simp,λm hm=> ?_⟩
 simp [DTy.ms]at hm
abbrev qie(q a b c:Nat)(d:DT)(va vb vc:List qa)(A:qD):qD:=(c,vc)::(b,vb)::(a,va)::(q,d.cells)::A
theorem qin{f:Flt}{env:Env}(h:SH Z (qie q a b c d [.nilSlice,.nilSlice,iv 0] [iv 0,iv 0] [iv 0] A) F H n)(e2:env 2= .ptr a 0)(e3:env 3= .ptr b 0)(e4:env 4= .ptr c 0)(g:nx<=n)
  (hK:∀H' nx',nx<=nx'->SH Z A F H' nx'->K (.ret (.tuple [.agg [.nilSlice,.nilSlice,iv 0],.agg [iv f.line,iv f.col],iv f.e])) H' nx'):
  qy PG (z9 (qM PG)) (ze PG (qM PG)) K (qP PG qI) (.pan [(jQ f,false)]) env H n (dfC a b c) none:=by
 rw [qps,e2,e3,e4];show qM PG kC _ _ _ _ _
 refine qM.of_bodyS qp Yf ?_
 refine Eq.mpr (qph (li:=f.line) (co:=f.col) (e:=f.e) ..) ?_
 refine⟨false,rfl,ifF rfl (h.mk1 (cs:=[iv 0,iv 0,iv 0]) lR λH1 h1=>h1.all (vs:=[iv f.line,iv f.col,iv f.e]) .hd rfl rfl λH2 h2=> ?_)⟩
 have lp {B:qD} {H:qc} {m:Nat} (h:SH Z ((n,[iv f.line,iv f.col,iv f.e])::B) F H m):ldN H 2 (.ptr n 0)=some (.agg [iv f.line,iv f.col]):=by rw [h.ldN .hd (by simp)];rfl
 have le {B:qD} {H:qc} {m:Nat} (h:SH Z ((n,[iv f.line,iv f.col,iv f.e])::B) F H m):ld1 H (.ptr n 2)=some (iv f.e):=by rw [h.ld1 .hd];rfl
 refine⟨_,rfl,_,_,lp h2,_,rfl,_,le h2,⟨⟨_,_,lp h2,rfl⟩,⟨_,le h2,rfl⟩,trivial⟩,?_⟩
 refine h2.all (b:=a) (vs:=[.nilSlice,.nilSlice,iv 0]) (.tl (.tl (.tl .hd))) rfl rfl λH3 h3=>⟨⟨⟨_,_,lp h3,rfl⟩,⟨_,le h3,rfl⟩,trivial⟩,?_⟩
 refine h3.all (b:=b) (vs:=[iv f.line,iv f.col]) (.tl (.tl .hd)) rfl rfl λH4 h4=>⟨⟨⟨_,le h4,rfl⟩,trivial⟩,rfl,?_⟩
 refine h4.all (b:=c) (vs:=[iv f.e]) (.tl .hd) rfl rfl λH5 h5=>⟨trivial,qb.2 ?_⟩
 have h6:=h5.more (nx':=n+1+8) (by omega)
 refine qoj (SH.ldA h6 (.tl (.tl (.tl .hd))) rfl) (SH.ldA h6 (.tl (.tl .hd)) rfl) (by rw [h6.ld1 (.tl .hd)];rfl) (hK _ _ (by omega) h6.drop.drop.drop.drop.drop)
theorem qiu{mn:Nat}{wt wf:qa}(h:SH Z (qie q a b c d [wt,wf,iv mn] [iv 0,iv 0] [iv 0] A) F H n)(g:nx<=n)
  (hK:∀H' nx',nx<=nx'->SH Z A F H' nx'->K (.ret (.tuple [.agg [wt,wf,iv mn],.agg [iv 0,iv 0],iv 0])) H' nx'):
  qy PG (z9 (qM PG)) (ze PG (qM PG)) K (qP PG qI) .ret (qe .und [(2,.ptr a 0),(3,.ptr b 0),(4,.ptr c 0)]) H n (dfC a b c) none:=by
 rw [qqf];show qM PG kC _ _ _ _ _
 refine qM.of_bodyS qp Yf ?_
 refine Eq.mpr (qor ..) ?_
 refine⟨true,rfl,ifT rfl (qb.2 ?_)⟩
 exact qoj (SH.ldA h (.tl (.tl .hd)) rfl) (SH.ldA h (.tl .hd) rfl) (by rw [h.ld1 .hd];rfl) (hK _ _ g h.drop.drop.drop.drop)
theorem qme(d:DT):Ck.check d.er=Ck.ob (kc base (ers (d.kids.filter λe=> !fnD e))) λT=>Ck.ob (zW T 5 (ers (d.kids.filter λe=> !fnD e))) λT=>Ck.ob (jq T [] (ers (d.kids.filter fnD))) λp=>Ck.ob (Ck.main p.2) λm=>Ck.ob (we p.1 p.2 p.2 (ers (d.kids.filter fnD))) λT=> .ok ⟨T,p.2,m⟩:=by
 unfold Ck.check;rw [yI,qp6,qkn]
theorem DFs.filter{p:DT->Bool}:∀{ks:List DT},DFs Γ ks->DFs Γ (ks.filter p)
 |[],_=>trivial
 |k::ks,h=>by
  rw [List.filter_cons];split
  ·exact⟨h.1,DFs.filter h.2⟩
  ·exact DFs.filter h.2
theorem FCh.refl(h:s.fs=[]):FCh s s s.sv.T []:=⟨s.tb,s.T,s.fb,s.fs,rfl,rfl,by rw [h];rfl⟩
theorem FCh.trans{s1 s2 s3:DS}{T1 T2:List Ty}{f1 f2:List CSg}(h:FCh s1 s2 T1 f1)(h':FCh s2 s3 T2 f2):FCh s1 s3 T2 f2:=by
 obtain⟨b,L,fb,gs,rfl,_,_⟩:=h
 obtain⟨c,M,fc,hs,rfl,e1,e2⟩:=h'
 exact⟨c,M,fc,hs,rfl,e1,e2⟩
theorem FCh.T{T1:List Ty}{f1:List CSg}(h:FCh s s' T1 f1):s'.sv.T=T1/\s'.sv.fs=f1/\s'.nw=s.nw/\s'.dw=s.dw:=by obtain⟨b,L,fb,gs,rfl,e1,e2⟩:=h;exact⟨e1,e2,rfl,rfl⟩
theorem check_ok(hd:Ent F λΓ=>DF Γ d)(hht:d.ht<=1000000000)(h:SH Z A F H nx)(hK:qvh Z A F nx K (Ck.check d.er)):qo PG qI [d.val] H nx K:=by
 rw [qme]at hK;have hKE (f:Flt) (hf:(Ck.ob (kc base (ers (d.kids.filter λe=> !fnD e))) λT=>Ck.ob (zW T 5 (ers (d.kids.filter λe=> !fnD e))) λT=>Ck.ob (jq T [] (ers (d.kids.filter fnD))) λp=>Ck.ob (Ck.main p.2) λm=>Ck.ob (we p.1 p.2 p.2 (ers (d.kids.filter fnD))) λT=>(.ok ⟨T,p.2,m⟩:Ex Ku))= .error f):
   ∀H' nx',nx<=nx'->SH Z A F H' nx'->K (.ret (.tuple [.agg [.nilSlice,.nilSlice,iv 0],.agg [iv f.line,iv f.col],iv f.e])) H' nx':=by rw [hf]at hK;exact hK
 have hKO (i:Ku) (hf:(Ck.ob (kc base (ers (d.kids.filter λe=> !fnD e))) λT=>Ck.ob (zW T 5 (ers (d.kids.filter λe=> !fnD e))) λT=>Ck.ob (jq T [] (ers (d.kids.filter fnD))) λp=>Ck.ob (Ck.main p.2) λm=>Ck.ob (we p.1 p.2 p.2 (ers (d.kids.filter fnD))) λT=>(.ok ⟨T,p.2,m⟩:Ex Ku))= .ok i):
   ∀wt wf H' n',nx<=n'->SH Z A (InfoF wt wf i.types i.funcs::F) H' n'->qZ wt=true->qZ wf=true->K (.ret (.tuple [.agg [wt,wf,iv i.main],.agg [iv 0,iv 0],iv 0])) H' n':=by rw [hf]at hK;exact hK
 obtain⟨okI,hok⟩:∃okI:Ku->Prop,∀i,okI i↔(∀wt wf H' n',nx<=n'->SH Z A (InfoF wt wf i.types i.funcs::F) H' n'->qZ wt=true->qZ wf=true->K (.ret (.tuple [.agg [wt,wf,iv i.main],.agg [iv 0,iv 0],iv 0])) H' n'):=⟨_,λ_=>Iff.rfl⟩
 obtain⟨no,hno⟩:∃no:Flt->Prop,∀f,no f↔(∀H' nx',nx<=nx'->SH Z A F H' nx'->K (.ret (.tuple [.agg [.nilSlice,.nilSlice,iv 0],.agg [iv f.line,iv f.col],iv f.e])) H' nx'):=⟨_,λ_=>Iff.rfl⟩
 have ho:qE (Ck.ob (kc base (ers (d.kids.filter λe=> !fnD e))) λT=>Ck.ob (zW T 5 (ers (d.kids.filter λe=> !fnD e))) λT=>Ck.ob (jq T [] (ers (d.kids.filter fnD))) λp=>Ck.ob (Ck.main p.2) λm=>Ck.ob (we p.1 p.2 p.2 (ers (d.kids.filter fnD))) λT=>(.ok ⟨T,p.2,m⟩:Ex Ku))
   okI no:=by
  generalize (Ck.ob (kc base (ers (d.kids.filter λe=> !fnD e))) λT=>Ck.ob (zW T 5 (ers (d.kids.filter λe=> !fnD e))) λT=>Ck.ob (jq T [] (ers (d.kids.filter fnD))) λp=>Ck.ob (Ck.main p.2) λm=>Ck.ob (we p.1 p.2 p.2 (ers (d.kids.filter fnD))) λT=>(.ok ⟨T,p.2,m⟩:Ex Ku))=R at hKE hKO
  cases R with
  |ok i=>exact(hok i).2 (hKO i rfl)
  |error f=>exact(hno f).2 (hKE f rfl)
 clear hK hKE hKO;refine qo.of_code (nt:=112) qnt ?_
 rw [qmf];refine WpP.weaken (e:=qe .und [(0,.agg [iv d.kd,.str d.nm,iv d.nn,iv d.li,iv d.co,d.kw])]) (qq.okay) ?_
 refine WpP.seq (WpP.partK (ts:=[1,2,3,4]) qp ?_)
 refine Eq.mpr (qt5 ..) ?_
 refine h.mkN (cs:=d.cells) lR λH0 h0=>h0.mk1 lR λH1 h1=>h1.mk1 lR λH2 h2=>h2.mk1 lR λH3 h3=> ?_
 show WpP PG 112 _ _ _ _ _ _
 generalize ha:nx+1=a at h3
 generalize hb:a+1=b at h3
 generalize hc:b+1=c at h3
 have h3:SH Z (qie nx a b c d [.nilSlice,.nilSlice,iv 0] [iv 0,iv 0] [iv 0] A) F H3 (c+1):=h3
 have hP (no:Flt->Prop) (hno:∀f,no f->∀H' nx',nx<=nx'->SH Z A F H' nx'->K (.ret (.tuple [.agg [.nilSlice,.nilSlice,iv 0],.agg [iv f.line,iv f.col],iv f.e])) H' nx') (G:zr) (hG:F⊆G) (n0:Nat) (hn:nx<=n0):
   PnC Z a b c (qie nx a b c d [.nilSlice,.nilSlice,iv 0] [iv 0,iv 0] [iv 0] A) G n0 (qy PG (z9 (qM PG)) (ze PG (qM PG)) K (qP PG qI)) no:=
  λf env H' n' hf e2 e3 e4 g s=>qin (SH.sub s hG) e2 e3 e4 (by omega) (hno f hf)
 have hR (mn:Nat) (wt wf:qa) (H':qc) (n':Nat) (hn:nx<=n') (G:zr) (s:SH Z (qie nx a b c d [wt,wf,iv mn] [iv 0,iv 0] [iv 0] A) G H' n') (hk:∀H' nx',nx<=nx'->SH Z A G H' nx'->K (.ret (.tuple [.agg [wt,wf,iv mn],.agg [iv 0,iv 0],iv 0])) H' nx'):
   qy PG (z9 (qM PG)) (ze PG (qM PG)) K (qP PG qI) .ret (qe .und [(2,.ptr a 0),(3,.ptr b 0),(4,.ptr c 0)]) H' n' (dfC a b c) none:=qiu s hn hk
 generalize qy PG (z9 (qM PG)) (ze PG (qM PG)) K (qP PG qI)=K0 at hP hR
 refine WpP.seq (WpP.partK (ts:=[1,2,3,4]) qp ?_)
 refine Eq.mpr (qrq ..) ?_
 refine⟨_,_,rfl,?_⟩
 show WpP PG 112 _ _ _ _ _ _
 refine WpP.seq (WpP.partK (ts:=[1,2,3,4,5]) qp ?_)
 refine Eq.mpr (qu2 ..) ?_
 refine qcu h3 λH4 h4=>qb.2 ⟨rfl,h4.mkN (cs:=(DS.zero (c+1)).cells) lR λH5 h5=> ?_⟩
 have c5:CK Z (c+1+1) (DS.zero (c+1)) (qie nx a b c d [.nilSlice,.nilSlice,iv 0] [iv 0,iv 0] [iv 0] A) F H5 (c+1+1+1):=SH.add (P:=(DS.zero (c+1)).ok) h5 λΓ _=>qr0 _
 show WpP PG 112 _ _ _ _ _ _
 generalize hr:c+1+1=r at c5
 refine WpP.seq (WpP.seq (WpP.partK (ts:=[2,3,4,5,18,19,20]) qp ?_))
 refine Eq.mpr (que ..) ?_
 obtain⟨Γ5,o5,hF5⟩:=c5.okF
 have hrow:=(hd Γ5 hF5).row
 refine⟨_,rfl,_,c5.ld1 (.tl (.tl (.tl .hd))) 5,_,hrow.len,?_⟩
 show WpP PG 112 _ _ _ _ _ _
 refine WpP.block (WpP.of_lp (rc:=none) ?_)
 have r5:nx<=r+1:=by omega
 have ns100:(d.kids.filter fnD).length<=100000:=Nat.le_trans (List.length_filter_le _ _) hrow.few
 have ds100:(d.kids.filter λe=> !fnD e).length<=100000:=Nat.le_trans (List.length_filter_le _ _) hrow.few
 have hnht:∀e∈d.kids.filter fnD,e.ht<=1000000000:=λe he=>by
  have:=ZY ((List.mem_filter.1 he).1);omega
 refine qk2 (s:=DS.zero (c+1)) (λΓ hq=>⟨(hd Γ hq).row,(hd Γ hq).kids⟩) hrow.few c5 (λnb db H6 n6 g6 c6=> ?_) (qq.refl _)
 show WpP PG 112 _ _ _ _ _ _
 generalize hns:d.kids.filter fnD=ns at*
 generalize hds:(d.kids.filter λe=> !fnD e)=ds at*
 have c7:=CK.freezeO zV ds100 (CK.freezeO zV ns100 c6)
 clear c6;obtain⟨G,hG,eG⟩:∃G:zr,F⊆G/\G=(λΓ=>q9 DT.cells 6 Γ (qT db 6 ds) ds)::(λΓ=>q9 DT.cells 6 Γ (qT nb 6 ns) ns)::F:=⟨_,λP hP=> .tail _ (.tail _ hP),rfl⟩
 have hwn:Ent G λΓ=>q9 DT.cells 6 Γ (qT nb 6 ns) ns/\DFs Γ ns:=λΓ hq=>⟨hq _ (by rw [eG];exact .tail _ (.head _)),by rw [<-hns];exact(hd Γ λP hP=>hq P (hG hP)).kids.filter⟩
 have hwd:Ent G λΓ=>q9 DT.cells 6 Γ (qT db 6 ds) ds/\DFs Γ ds:=λΓ hq=>⟨hq _ (by rw [eG];exact .head _),by rw [<-hds];exact(hd Γ λP hP=>hq P (hG hP)).kids.filter⟩
 rw [<-eG]at c7
 generalize hs6:({DS.zero (c+1)with dw:=qT db 6 ds,nw:=qT nb 6 ns}:DS)=s6 at c7
 have ez:s6.sv.T=base/\s6.fs=[]/\s6.dw=qT db 6 ds/\s6.nw=qT nb 6 ns:=by rw [<-hs6];exact⟨rfl,rfl,rfl,rfl⟩
 obtain⟨ez1,ez2,ez3,ez4⟩:=ez
 have hPP:=hP no (λf h=>(hno f).1 h) G hG nx lR
 clear hP;refine WpP.seq (WpP.partK (ts:=[2,3,4,5]) qp ?_)
 refine Eq.mpr (quw ..) ?_
 have cd {s:DS} {B:qD} {H:qc} {n:Nat} (e:s.dw=qT db 6 ds) (c:CK Z r s B G H n):ld1 H (.ptr r 2)=some (qT db 6 ds):=by rw [<-e];exact c.cell 2
 have cn {s:DS} {B:qD} {H:qc} {n:Nat} (e:s.nw=qT nb 6 ns) (c:CK Z r s B G H n):ld1 H (.ptr r 3)=some (qT nb 6 ns):=by rw [<-e];exact c.cell 3
 refine⟨rfl,_,rfl,_,cd ez3 c7,?_⟩
 refine Wg (σ:=List Ty) (M:=λt A' H' n'=>∃s',jC s6 s' t/\CK Z r s' A' G H' n') (f:=declared) (g:=yV) (ks:=ds) (t0:=base) hwd (λt A' H' n' ⟨s',e,c⟩=>⟨s',c,λA'' H'' n'' c'=>⟨s',e,c'⟩⟩) ?_ (λ_=>rfl) ⟨s6,by have:=jC.refl (s:=s6);rw [ez1]at this;exact this,c7⟩ ?_
 ·rintro e he t A' H' n' K' hde ⟨s',es,cc⟩ hs
  refine qa1 hde cc ?_
  rw [es.T];exact qE.mono hs (λT' _ hx s'' H'' n'' g'' e'' c''=>hx H'' n'' g'' ⟨s'',es.trans e'',c''⟩) λf _ hx=>hx
 rw [Xd];refine qE.mono (qE.ob ho) (λT1 hT1 hz=> ?_) λf _ hz H8 n8 g8 s8=>ql.2 (hPP f _ H8 n8 hz rfl rfl rfl (by omega) s8)
 rintro H8 n8 g8 ⟨s8,e8,c8⟩
 obtain⟨G1,l1,m1,b1⟩:=Zz qjm hT1
 have b1:=b1 qis
 have m1:=m1 (by show 5<=45;omega)
 rw [jk]at l1;have l1:T1.length=5+ds.length:=l1
 have e8':s8.dw=qT db 6 ds/\s8.nw=qT nb 6 ns/\s8.fs=[]:=by obtain⟨tb,L,rfl,_⟩:=e8;exact⟨ez3,ez4,ez2⟩
 obtain⟨e8d,e8n,e8f⟩:=e8'
 have eT8:=e8.T
 refine qb.2 ?_
 show WpP PG 112 _ _ _ _ _ _
 refine WpP.seq (WpP.seq (WpP.partK (ts:=[2,3,4,5,61,62,63]) qp ?_))
 refine Eq.mpr (qtj ..) ?_
 refine⟨rfl,_,rfl,_,cd e8d c8,_,vU,?_⟩
 show WpP PG 112 _ _ _ _ _ _
 refine WpP.block (WpP.of_lp (rc:=none) ?_)
 refine qch (s:=s8) (okp:=λT2=>zW T1 5 (ers ds)= .ok T2/\qE (Ck.ob (jq T2 [] (ers ns)) λp=>Ck.ob (Ck.main p.2) λm=>Ck.ob (we p.1 p.2 p.2 (ers ns)) λT=>(.ok ⟨T,p.2,m⟩:Ex Ku)) okI no) (no:=no) hwd (by omega) (by rw [eT8];exact G1) (by rw [eT8];exact b1) (by rw [eT8];omega) c8 (by omega:nx<=n8) ?_ ?_ ?_ (qq.refl _)
 ·rw [eT8];have hz:=qE.ob hz
  cases hq:zW T1 5 (ers ds)with
  |ok T2=>rw [hq]at hz;exact⟨rfl,hz⟩
  |error f=>rw [hq]at hz;exact hz
 ·exactλf env H' n' h1 h2 h3 h4 h5 h6=>hPP f env H' n' h1 h2 h3 h4 h5 h6
 rintro s9 T2 H9 n9 g9 e9 ⟨hT2,hz⟩ c9
 show WpP PG 112 _ _ _ _ _ _
 obtain⟨G2,l2⟩:=QV G1 (by rw [jk];omega) b1 hT2
 have e9':s9.dw=qT db 6 ds/\s9.nw=qT nb 6 ns/\s9.fs=[]:=by obtain⟨tb,L,rfl,_⟩:=e9;exact⟨e8d,e8n,e8f⟩
 obtain⟨e9d,e9n,e9f⟩:=e9'
 have eT9:=e9.T
 refine WpP.seq (WpP.partK (ts:=[2,3,4,5]) qp ?_)
 refine Eq.mpr (qti ..) ?_
 refine⟨rfl,_,rfl,_,cn e9n c9,?_⟩
 refine Wg (σ:=List Ty×List CSg) (M:=λt A' H' n'=>∃s',FCh s9 s' t.1 t.2/\CK Z r s' A' G H' n') (f:=λp n=>function p.1 p.2 n) (g:=qv) (ks:=ns) (t0:=(T2,[])) hwn (λt A' H' n' ⟨s',e,c⟩=>⟨s',c,λA'' H'' n'' c'=>⟨s',e,c'⟩⟩) ?_ (λ_=>rfl) ⟨s9,by have:=FCh.refl e9f;rw [eT9]at this;exact this,c9⟩ ?_
 ·rintro e he t A' H' n' K' hde ⟨s',es,cc⟩ hs
  refine qa7 hde cc ?_
  obtain⟨q1,q2,_⟩:=es.T
  rw [q1,q2];exact qE.mono hs (λT' _ hx s'' H'' n'' g'' e'' c''=>hx H'' n'' g'' ⟨s'',es.trans e'',c''⟩) λf _ hx=>hx
 rw [qbz];refine qE.mono (qE.ob hz) (λp hT3 hz=> ?_) λf _ hz H10 n10 g10 s10=>ql.2 (hPP f _ H10 n10 hz rfl rfl rfl (by omega) s10)
 obtain⟨T3,fs⟩:=p
 rintro H10 n10 g10 ⟨s10,e10,c10⟩
 obtain⟨G3,l3,new,efs,hrel⟩:=Q8 G2 hT3
 have efs:fs=new:=by simpa using efs
 subst efs;obtain⟨q1,q2,q3,q4⟩:=e10.T
 have q1:s10.sv.T=T3:=q1
 have q2:s10.sv.fs=fs:=q2
 refine qb.2 ?_
 show WpP PG 112 _ _ _ _ _ _
 refine WpP.seq (WpP.partK (ts:=[2,3,4,5,10]) qp ?_)
 refine Eq.mpr (qsz ..) ?_
 refine qkk c10 ?_
 rw [q2];have hz:qE (Ck.ob (Ck.main fs) λm=>Ck.ob (we T3 fs fs (ers ns)) λT=>(.ok ⟨T,fs,m⟩:Ex Ku)) okI no:=hz
 refine qE.mono (qE.ob hz) (λmn hmn hz=> ?_) λf _ hz H11 n11 g11 s11=>ql.2 (hPP f _ H11 n11 hz rfl rfl rfl (by omega) s11)
 intro H11 n11 g11 c11;refine qb.2 ⟨_,rfl,?_⟩
 show WpP PG 112 _ _ _ _ _ _
 refine WpP.seq (WpP.seq (WpP.partK (ts:=[2,3,4,5,10,89,90,91]) qp ?_))
 refine Eq.mpr (qus ..) ?_
 refine⟨rfl,_,rfl,_,cn (by rw [q3];exact e9n) c11,_,vU,?_⟩
 show WpP PG 112 _ _ _ _ _ _
 refine WpP.block (WpP.of_lp (rc:=none) ?_)
 refine qf4 (s:=s10) (mn:=mn) (okp:=λT4=>okI ⟨T4,fs,mn⟩) (no:=no) hwn (by rw [q1,q2];exact G3) (by rw [q2];exact hrel) hnht c11 (by omega:nx<=n11) ?_ ?_ ?_ (qq.refl _)
 ·rw [q1,q2];exact qE.ob hz
 ·exactλf env H' n' h1 h2 h3 h4 h5 h6=>hPP f env H' n' h1 h2 h3 h4 h5 h6
 rintro s12 T4 H12 n12 g12 e12 hz c12
 show WpP PG 112 _ _ _ _ _ _
 have hz:∀wt wf H' n',nx<=n'->SH Z A (InfoF wt wf T4 fs::F) H' n'->qZ wt=true->qZ wf=true->K (.ret (.tuple [.agg [wt,wf,iv mn],.agg [iv 0,iv 0],iv 0])) H' n':=(hok _).1 hz
 refine WpP.seq (WpP.partK (ts:=[2,3,4]) qp ?_)
 refine Eq.mpr (qtf ..) ?_
 have h13:=c12.told
 have eT12:s12.sv.T=T4:=e12.1
 have ef12:s12.sv.fs=fs:=by rw [<-q2];unfold DS.sv;rw [e12.2.1]
 rw [eT12,ef12]at h13;refine⟨rfl,_,rfl,_,c12.cell 0,rfl,_,rfl,_,c12.cell 1,rfl,zp,rfl,⟨⟨_,c12.cell 0,rfl⟩,⟨_,c12.cell 1,rfl⟩,trivial⟩,?_⟩
 refine h13.all (b:=a) (vs:=[.slice s12.tb 0 s12.T.length 5 false,qT s12.fb 4 s12.fs,iv mn]) (.tl (.tl .hd)) rfl (by simp only [qt,zp];rfl) λH13 h14=>⟨trivial,h14.all (b:=b) (vs:=[iv 0,iv 0]) (.tl .hd) rfl rfl λH14 h15=>⟨trivial,rfl,h15.all (b:=c) (vs:=[iv 0]) .hd rfl rfl λH15 h16=>⟨trivial,?_⟩⟩⟩
 show WpP PG 112 _ _ _ _ _ _
 refine WpP.ret ?_
 refine hR mn _ _ H15 (n12+14) (by omega) _ (h16.more (by omega)) λH' nx' g' s'=>hz _ _ H' nx' g' (SH.sub s' λP hP=> ?_) rfl zp
 rcases List.mem_cons.1 hP with rfl|hP
 ·exact .head _
 ·exact .tail _ (hG hP)
end
end
end Go.Vs
end
section
namespace Go.Vs
open Go.Proofs
variable [GTab] {Z:Nat->Prop}
noncomputable section
theorem HZ.drop{Γ:GH}{H:qc}{nx i:Nat}{x:Option (List qa)}(h:HZ Z (gup i x Γ) H nx)(hi:Γ i=none):HZ Z Γ H nx:=
 h.sub λb cs e=>by rw [qn λy=>by rw [y,hi]at e;cases e];exact e
theorem qt3{Γ:GH}{H:qc}{nx i:Nat}{cs:List qa}{K:qr}{n x y z:Int}{s:List UInt8}(hk:HZ Z Γ H nx)(hi:Γ i=some cs)(hl:cs.length=5)
  (hK:∀H',HZ Z (gup i (some [iv n,.str s,iv x,iv y,iv z]) Γ) H' nx->K (.ret (.agg [iv n,.str s,iv x,iv y,iv z])) H' nx):
  ∃H1,stC H (.ptr i 0) [iv n,.str s,iv x,iv y,iv z]=some H1/\∃(n1:Int) (s1:List UInt8) (x1 y1 z1:Int),ldN H1 5 (.ptr i 0)=some (.agg [iv n1,.str s1,iv x1,iv y1,iv z1])/\K (.ret (.agg [iv n1,.str s1,iv x1,iv y1,iv z1])) H1 nx:=
 jS hk hi (by simp [hl]) rfl λH1 h=>⟨n,s,x,y,z,qX h (qk _ _ _) rfl,hK H1 h⟩
theorem qv9{Γ:GH}{H:qc}{nx i:Nat}{cs:List qa}{K:qr}{n x y z:Int}{s:List UInt8}{v:qa}(hk:HZ Z Γ H nx)(hi:Γ i=some cs)(hl:cs.length=6)(hv:qZ v=true)
  (hK:∀H',HZ Z (gup i (some [iv n,.str s,iv x,iv y,iv z,v]) Γ) H' nx->K (.ret (.agg [iv n,.str s,iv x,iv y,iv z,v])) H' nx):
  ∃H1,stC H (.ptr i 0) [iv n,.str s,iv x,iv y,iv z,v]=some H1/\∃(n1:Int) (s1:List UInt8) (x1 y1 z1:Int) (v1:qa),ldN H1 6 (.ptr i 0)=some (.agg [iv n1,.str s1,iv x1,iv y1,iv z1,v1])/\K (.ret (.agg [iv n1,.str s1,iv x1,iv y1,iv z1,v1])) H1 nx:=
 jS hk hi (by simp [hl]) (by simp only [qt,hv];rfl) λH1 h=>⟨n,s,x,y,z,v,qX h (qk _ _ _) rfl,hK H1 h⟩
section
variable{Γ:GH}{H:qc}{nx a d:Nat}{C:RC}{K:qr}
theorem HZ.fresh{Γ:GH}{H:qc}{nx i:Nat}(h:HZ Z Γ H nx)(hi:nx<=i):Γ i=none:=h.non hi
theorem Js(hk:HZ Z Γ H nx)(hr:Rd Γ C a d)(hK:∀H' nx',nx<=nx'->HZ Z Γ H' nx'->K (.ret (wQ (Ps.tk C.l a))) H' nx'):qo PG zZ [.ptr C.r 0] H nx K:=by
 refine qo.of_body qp ?_
 rw [qej];have hf:=hk.fresh (Nat.le_refl nx)
 refine Qe hk (nx':=nx+1+11) lR (by omega) λH0 h0=> ?_
 obtain⟨full,e1,e2,e3,e4,e5⟩:=(hr.new (cs:=some [iv 0,u5 [],iv 0,iv 0,iv 0]) hf).tok h0
 refine⟨rfl,_,rfl,_,e1,rfl,_,rfl,_,e2,by omega,_,by rw [Int.toNat_natCast];exact e4,_,_,_,_,_,e5,⟨⟨_,e1,rfl⟩,⟨_,e2,rfl⟩,⟨_,_,_,_,_,e5,rfl⟩,trivial⟩,?_⟩
 obtain⟨H1,g1,g2⟩:=h0.st (qk nx _ Γ) (off:=0) (vs:=ky (Ps.tk C.l a)) (by simp [ky]) rfl
 rw [vz]at g2;refine⟨H1,g1,trivial,_,_,_,_,_,qX g2 (qk _ _ _) rfl,hK _ _ (by omega) (g2.drop hf)⟩
theorem qdp{t:Tok}(hk:HZ Z Γ H nx)(hK:∀H' nx',nx<=nx'->HZ Z Γ H' nx'->K (.ret (.agg [iv t.line,iv t.col])) H' nx'):qo PG ZV [wQ t] H nx K:=by
 refine qo.of_body qp ?_
 rw [qci];have hf:=hk.fresh (Nat.le_refl nx)
 refine⟨_,rfl,?_⟩
 have h0:HZ Z (gup nx (some [iv t.kind,.str t.text,iv t.n,iv t.line,iv t.col]) Γ) (zA nx [iv t.kind,u5 t.text,iv t.n,iv t.line,iv t.col].length [iv t.kind,u5 t.text,iv t.n,iv t.line,iv t.col] H) (nx+1):=hk.new lR (by omega) _
 have hf1:=h0.fresh (Nat.le_refl (nx+1))
 refine Qe h0 (nx':=nx+1+1) lR (by omega) λH1 h1=> ?_
 have e:gup (nx+1) (some [iv 0,iv 0]) (gup nx (some [iv t.kind,u5 t.text,iv t.n,iv t.line,iv t.col]) Γ) nx=some [iv t.kind,u5 t.text,iv t.n,iv t.line,iv t.col]:=by rw [qn (by omega),qk]
 refine⟨_,rfl,t.line,by rw [h1.ld1 e];rfl,_,rfl,t.col,by rw [h1.ld1 e];rfl,rfl,rfl,?_⟩
 refine jS h1 (qk _ _ _) rfl rfl λH2 h2=>⟨_,_,qX h2 (qk _ _ _) rfl,hK _ _ (by omega) ?_⟩
 rw [vz]at h2;exact(h2.drop hf1).drop hf
theorem y2{e:Int}(hk:HZ Z Γ H nx)(hr:Rd Γ C a d)(hK:∀H' nx',nx<=nx'->HZ Z Γ H' nx'->K (.pan [(Ja (Ps.flt C.l a e),false)]) H' nx'):qo PG kS [.ptr C.r 0,iv e] H nx K:=by
 refine qo.of_body qp ?_
 rw [YV];refine Js hk hr λH1 nx1 h1 hk1=>qb.2 ⟨_,_,_,_,_,rfl,qdp (t:=Ps.tk C.l a) hk1 λH2 nx2 h2 hk2=>qb.2 ⟨_,_,rfl,rfl,_,_,rfl,hK _ _ (by omega) hk2⟩⟩
theorem qcr{s:List UInt8}(hk:HZ Z Γ H nx)(hr:Rd Γ C a d)(hK:∀H' nx',nx<=nx'->HZ Z Γ H' nx'->K (.ret (.bool (Ps.is C.l a s))) H' nx'):qo PG jn [.ptr C.r 0,.str s] H nx K:=by
 refine qo.of_body qp ?_
 rw [qj0];refine Js hk hr λH1 nx1 h1 hk1=>qb.2 ⟨_,_,_,_,_,rfl,?_⟩
 have hf:=hk1.fresh (Nat.le_refl nx1)
 refine scr hk1 (nx':=nx1+1) lR (by omega) rfl rfl λH2 h2=> ?_
 have e0:=h2.ld1 (qk _ _ _) 0
 have e1:=h2.ld1 (qk _ _ _) 1
 have hK':=hK H2 (nx1+1) (by omega) (h2.drop hf)
 unfold Ps.is at hK';simp only [List.getElem?_cons_zero,List.getElem?_cons_succ]at e0 e1
 refine⟨_,rfl,_,e0,qf.2 ⟨λh=> ?_,λh=>⟨_,rfl,_,e0,qf.2 ⟨λh'=> ?_,λh'=>⟨_,rfl,_,e0,qf.2 ⟨λh''=> ?_,λh''=> ?_⟩⟩⟩⟩⟩⟩
 all_goals simp only [decide_eq_true_eq,decide_eq_false_iff_not]at h
 all_goals try simp only [decide_eq_true_eq,decide_eq_false_iff_not]at h'
 all_goals try simp only [decide_eq_true_eq,decide_eq_false_iff_not]at h''
 ·exact⟨_,rfl,_,e1,by simpa [h]using hK'⟩
 ·exact⟨_,rfl,_,e1,by simpa [h']using hK'⟩
 ·exact⟨_,rfl,_,e1,by simpa [h'']using hK'⟩
 ·have:(((Ps.tk C.l a).kind==3||(Ps.tk C.l a).kind==6||(Ps.tk C.l a).kind==1)&&(Ps.tk C.l a).text==s)=false:=by simp [h,h',h'']
  rw [this]at hK';exact hK'
theorem kv.next(W:kv C.l)(h:(Ps.tk C.l a).kind≠0)(hl:a<C.l.length):a+1<C.l.length:=by
 by_cases h1:a+1<C.l.length
 ·exact h1
 ·have:=W.last
  rw [show C.l.length - 1=a by omega]at this
  exact absurd this h
theorem qp9{s:List UInt8}(h:Ps.is C.l a s=true):(Ps.tk C.l a).kind≠0:=λe=>by simp [Ps.is,e]at h
theorem Kz{s:List UInt8}(W:kv C.l)(hk:HZ Z Γ H nx)(hr:Rd Γ C a d)(hno:Ps.is C.l a s=false->∀H' nx',nx<=nx'->HZ Z Γ H' nx'->K (.ret (.bool false)) H' nx')
  (hyes:Ps.is C.l a s=true->∀Γ' H' nx',nx<=nx'->HZ Z Γ' H' nx'->qU C.r nx Γ Γ'->Rd Γ' C (a+1) d->K (.ret (.bool true)) H' nx'):qo PG zb [.ptr C.r 0,.str s] H nx K:=by
 refine qo.of_body qp ?_
 rw [qfs];refine qcr hk hr λH1 nx1 h1 hk1=>qb.2 ⟨_,rfl,qf.2 ⟨λh=> ?_,λh=> ?_⟩⟩
 ·exact hno (by simpa using h) _ _ h1 hk1
 ·have h:Ps.is C.l a s=true:=by simpa using h
  have hn:=W.next (qp9 h) hr.lt
  have hW:=W.few
  obtain⟨full,e,hr'⟩:=hr.set (a':=a+1) (d':=d) hn hr.deep
  refine⟨rfl,_,rfl,(a:Int),by rw [hk1.ld1 e];rfl,rfl,_,rfl,rfl,?_⟩
  rw [qB (by omega) (by omega)]
  refine Wh hk1 e (j:=1) (by simp) rfl λH2 h2=>hyes h _ _ _ h1 h2 (.upd e) ?_
  simpa using hr'
theorem Ql{s:List UInt8}(W:kv C.l)(hk:HZ Z Γ H nx)(hr:Rd Γ C a d)(hno:Ps.is C.l a s=false->∀H' nx',nx<=nx'->HZ Z Γ H' nx'->K (.pan [(Ja (Ps.flt C.l a 13),false)]) H' nx')
  (hyes:Ps.is C.l a s=true->∀Γ' H' nx',nx<=nx'->HZ Z Γ' H' nx'->qU C.r nx Γ Γ'->Rd Γ' C (a+1) d->K (.ret (wQ (Ps.tk C.l a))) H' nx'):qo PG zd [.ptr C.r 0,.str s] H nx K:=by
 refine qo.of_body qp ?_
 rw [qe8];have hf:=hk.fresh (Nat.le_refl nx)
 refine Qe hk (nx':=nx+1) lR (by omega) λH0 h0=> ?_
 have hr0:=hr.new (cs:=some [iv 0,u5 [],iv 0,iv 0,iv 0]) hf
 refine Js h0 hr0 λH1 nx1 h1 hk1=>qb.2 ⟨_,_,_,_,_,rfl,?_⟩
 have hf1:=hk1.fresh (Nat.le_refl nx1)
 refine scr hk1 (nx':=nx1+1) lR (by omega) rfl rfl λH2 h2=> ?_
 refine Kz W h2 (hr0.new hf1) (λh H3 nx3 h3 hk3=>qb.2 ⟨_,rfl,?_⟩) λh Γ' H3 nx3 h3 hk3 kp hr3=>qb.2 ⟨_,rfl,?_⟩
 ·show ifB (!false) _ _
  refine y2 hk3 (hr0.new hf1) λH4 nx4 h4 hk4=>ql.2 (hno h _ _ (by omega) ((hk4.drop hf1).drop hf))
 ·show ifB (!true) _ _
  have e1:Γ' nx1=some (ky (Ps.tk C.l a)):=kp.1 _ _ (hr0.r_ne hf1) (qk _ _ _)
  have e2:Γ' nx=some [iv 0,u5 [],iv 0,iv 0,iv 0]:=kp.1 _ _ (hr.r_ne hf) (by rw [qn (by omega),qk])
  refine⟨_,_,_,_,_,qX hk3 e1 rfl,qt3 hk3 e2 rfl λH4 h4=> ?_⟩
  exact hyes h _ _ _ (by omega) h4 ((((qU.new (nx:=nx) hf).trans (qU.new (nx:=nx1) hf1)).trans kp).upd' hf) (hr3.upd (hr.r_ne hf) (hr.tb_ne hf))
theorem JX(W:kv C.l)(hk:HZ Z Γ H nx)(hr:Rd Γ C a d)(hkd:(Ps.tk C.l a).kind≠0)
  (hyes:∀Γ' H' nx',nx<=nx'->HZ Z Γ' H' nx'->qU C.r nx Γ Γ'->Rd Γ' C (a+1) d->K (.ret (wQ (Ps.tk C.l a))) H' nx'):qo PG vZ [.ptr C.r 0] H nx K:=by
 refine qo.of_body qp ?_
 rw [qcd];have hf:=hk.fresh (Nat.le_refl nx)
 refine Qe hk (nx':=nx+1) lR (by omega) λH0 h0=> ?_
 have hr0:=hr.new (cs:=some [iv 0,u5 [],iv 0,iv 0,iv 0]) hf
 refine Js h0 hr0 λH1 nx1 h1 hk1=>qb.2 ⟨_,_,_,_,_,rfl,?_⟩
 have hf1:=hk1.fresh (Nat.le_refl nx1)
 refine scr hk1 (nx':=nx1+1) lR (by omega) rfl rfl λH2 h2=> ?_
 have hr1:=hr0.new (cs:=some [iv (Ps.tk C.l a).kind,.str (Ps.tk C.l a).text,iv (Ps.tk C.l a).n,iv (Ps.tk C.l a).line,iv (Ps.tk C.l a).col]) hf1
 have hn:=W.next hkd hr.lt
 have hW:=W.few
 obtain⟨full,e,hr'⟩:=hr1.set (a':=a+1) (d':=d) hn hr.deep
 refine⟨_,rfl,_,h2.ld1 (qk _ _ _) 0,qf.2 ⟨λ_=>⟨rfl,_,rfl,(a:Int),by rw [h2.ld1 e];rfl,rfl,_,rfl,rfl,?_⟩,λh=>by simp [hkd]at h⟩⟩
 rw [qB (by omega) (by omega)]
 refine Wh h2 e (j:=1) (by simp) rfl λH3 h3=> ?_
 have g1:nx1≠C.r:=hr0.r_ne hf1
 have g0:nx≠C.r:=hr.r_ne hf
 refine⟨_,_,_,_,_,qX h3 (by rw [qn g1,qk]) rfl,?_⟩
 refine qt3 h3 (cs:=[iv 0,u5 [],iv 0,iv 0,iv 0]) (by rw [qn g0,qn (by omega),qk]) rfl λH4 h4=> ?_
 exact hyes _ _ _ (by omega) h4 ((((qU.new (nx:=nx) hf).trans (qU.new (nx:=nx1) hf1)).trans (qU.upd (nx:=nx1) e)).upd' hf) (Rd.upd (by simpa using hr') g0 (hr.tb_ne hf))
theorem qo2(W:kv C.l)(hk:HZ Z Γ H nx)(hr:Rd Γ C a d)(hno:(Ps.tk C.l a).kind≠2->∀H' nx',nx<=nx'->HZ Z Γ H' nx'->K (.pan [(Ja (Ps.flt C.l a 13),false)]) H' nx')
  (hyes:(Ps.tk C.l a).kind=2->∀Γ' H' nx',nx<=nx'->HZ Z Γ' H' nx'->qU C.r nx Γ Γ'->Rd Γ' C (a+1) d->K (.ret (wQ (Ps.tk C.l a))) H' nx'):qo PG jp [.ptr C.r 0] H nx K:=by
 refine qo.of_body qp ?_
 rw [qea];have hf:=hk.fresh (Nat.le_refl nx)
 refine Qe hk (nx':=nx+1) lR (by omega) λH0 h0=> ?_
 have hr0:=hr.new (cs:=some [iv 0,u5 [],iv 0,iv 0,iv 0]) hf
 refine Js h0 hr0 λH1 nx1 h1 hk1=>qb.2 ⟨_,_,_,_,_,rfl,qf.2 ⟨λh=> ?_,λh=> ?_⟩⟩
 ·refine y2 hk1 hr0 λH2 nx2 h2 hk2=>ql.2 (hno (by simpa using h) _ _ (by omega) (hk2.drop hf))
 ·have h:(Ps.tk C.l a).kind=2:=by simpa using h
  refine JX W hk1 hr0 (by omega) λΓ' H2 nx2 h2 hk2 kp hr2=>qb.2 ⟨_,_,_,_,_,rfl,?_⟩
  refine qt3 hk2 (kp.1 _ _ (hr.r_ne hf) (qk _ _ _)) rfl λH3 h3=> ?_
  exact hyes h _ _ _ (by omega) h3 (((qU.new (nx:=nx) hf).trans kp).upd' hf) (hr2.upd (hr.r_ne hf) (hr.tb_ne hf))
theorem Xs(hk:HZ Z Γ H nx)(hr:Rd Γ C a d)(hd:d<=40)(hno:40<=d->∀Γ' H' nx',nx<=nx'->HZ Z Γ' H' nx'->qU C.r nx Γ Γ'->Rd Γ' C a (d+1)->K (.pan [(Ja (Ps.flt C.l a 14),false)]) H' nx')
  (hyes:¬40<=d->∀Γ' H' nx',nx<=nx'->HZ Z Γ' H' nx'->qU C.r nx Γ Γ'->Rd Γ' C a (d+1)->K (.ret (.tuple [])) H' nx'):qo PG ya [.ptr C.r 0] H nx K:=by
 refine qo.of_body qp ?_
 rw [YR];obtain⟨full,e,hr'⟩:=hr.set (a':=a) (d':=d+1) hr.lt (by omega)
 refine⟨rfl,_,rfl,(d:Int),by rw [hk.ld1 e];rfl,rfl,_,rfl,rfl,?_⟩
 rw [qB (by omega) (by omega)]
 refine Wh hk e (j:=2) (by simp) rfl λH1 h1=>⟨rfl,_,rfl,(d:Int)+1,by rw [h1.ld1 (qk _ _ _)];simp,qf.2 ⟨λh=> ?_,λh=> ?_⟩⟩
 ·have hd':40<=d:=by simp at h;omega
  refine y2 h1 (a:=a) (d:=d+1) (by simpa using hr') λH2 nx2 h2 hk2=>ql.2 (hno hd' _ _ _ h2 hk2 (.upd e) (by simpa using hr'))
 ·have hd':¬40<=d:=by simp at h;omega
  exact hyes hd' _ _ _ lR h1 (.upd e) (by simpa using hr')
theorem qh6{t:Tok}{k:Int}{s:List UInt8}{v:qa}(hv:qZ v=true)(hk:HZ Z Γ H nx)(hK:∀H' nx',nx<=nx'->HZ Z Γ H' nx'->K (.ret (.agg [iv k,.str s,iv 0,iv t.line,iv t.col,v])) H' nx'):qo PG qH [wQ t,iv k,.str s,v] H nx K:=by
 refine qo.of_body qp ?_
 rw [qfg];have hf:=hk.fresh (Nat.le_refl nx)
 refine⟨_,rfl,?_⟩
 have h0:HZ Z (gup nx (some [iv t.kind,.str t.text,iv t.n,iv t.line,iv t.col]) Γ) (zA nx [iv t.kind,u5 t.text,iv t.n,iv t.line,iv t.col].length [iv t.kind,u5 t.text,iv t.n,iv t.line,iv t.col] H) (nx+1):=hk.new lR (by omega) _
 have hf1:=h0.fresh (Nat.le_refl (nx+1))
 refine Qe h0 (nx':=nx+1+1) lR (by omega) λH1 h1=> ?_
 have e:gup (nx+1) (some [iv 0,u5 [],iv 0,iv 0,iv 0,u9]) (gup nx (some [iv t.kind,u5 t.text,iv t.n,iv t.line,iv t.col]) Γ) nx=some [iv t.kind,u5 t.text,iv t.n,iv t.line,iv t.col]:=by rw [qn (by omega),qk]
 refine⟨_,rfl,t.line,by rw [h1.ld1 e];rfl,_,rfl,t.col,by rw [h1.ld1 e];rfl,rfl,rfl,rfl,rfl,hv,?_⟩
 refine jS h1 (qk _ _ _) rfl (by simp only [qt,hv];rfl) λH2 h2=>⟨_,_,_,_,_,_,qX h2 (qk _ _ _) rfl,hK _ _ (by omega) ?_⟩
 rw [vz]at h2;exact(h2.drop hf1).drop hf
theorem qri(hk:HZ Z Γ H nx)(hK:∀H' nx',nx<=nx'->HZ Z Γ H' nx'->K (.ret (.agg [iv 38,.str [],iv 0,iv 0,iv 0,.nilSlice])) H' nx'):qo PG vu [] H nx K:=by
 refine qo.of_body qp ?_
 rw [qgc (_u:=0)];have hf:=hk.fresh (Nat.le_refl nx)
 refine Qe hk (nx':=nx+1) lR (by omega) λH0 h0=> ?_
 refine qh6 (t:=⟨0,[],0,0,0⟩) rfl h0 λH1 nx1 h1 hk1=>qb.2 ⟨_,_,_,_,_,_,rfl,?_⟩
 exact qv9 hk1 (qk _ _ _) rfl rfl λH2 h2=>hK _ _ (by omega) (by rw [vz]at h2;exact h2.drop hf)
end
end
end Go.Vs
end
