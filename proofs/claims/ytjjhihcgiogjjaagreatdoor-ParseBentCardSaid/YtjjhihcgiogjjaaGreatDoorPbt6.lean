/-
  Own work. Texts of a proof, laid together; no condition.
-/
import Derived.Test.YtjjhihcgiogjjaaGreatDoorPbt5
import Derived.Test.YtjjhihcgiogjjaaGreatDoorPbt3
import Derived.Test.YtjjhihcgiogjjaaGreatDoorPbt4
set_option linter.unusedSectionVars false
set_option linter.unusedVariables false
set_option linter.unusedSimpArgs false
set_option maxRecDepth 1000000
open Go.Vs.qa renaming ptr → u0, str → u3, agg → u4, bool → u5, nilSlice → u6, tuple → u7, und → u9
open Go.Vs.qh renaming pan → U0, ret → U1
open Go.IntKind (i64)
section
namespace Go.Vs
open Go.Proofs Ps
variable [GTab] {Z:Nat->Prop}
noncomputable section
structure qda(r tb:Nat)(l:List Tok)(n:Nat):Prop where
 ex:vt r tb l zB [.ptr r 0] (run l n .expr)
 bi:∀k,vt r tb l kg [.ptr r 0,iv k] (run l n (.binary k))
 un:vt r tb l vf [.ptr r 0] (run l n .unary)
 po:vt r tb l kP [.ptr r 0] (run l n .post)
 pr:vt r tb l y9 [.ptr r 0] (run l n .prime)
def wR(Z:Nat->Prop)(r tb:Nat)(l:List Tok)(d xb:Nat)(B:qN)(F:qU)(R:Option Flt->Nat->qu->Prop)(H:qd)(nx:Nat):Prop:=
 ∃b bad k s n li co w ts F',PS Z r tb l b bad d ((xb,[iv k,.str s,iv n,iv li,iv co,w])::B) F' H nx/\F⊆F'/\Kids w ts∈F'/\qI w=true/\R bad b (.node k s n li co ts)
section
variable{r tb:Nat}{l:List Tok}{a d:Nat}{bad:Option Flt}{A A1:qN}{F:qU}{H:qd}{nx:Nat}{K:qv}{res:Except Flt (qu×Nat)}
theorem Yr{s:List UInt8}(h:K (.ret (iv (Ps.rank s))) H nx):qk PG Qg [.str s] H nx K:=by
 refine qk.of_body qr ?_
 rw [XE];have st:∀{u:List UInt8} {p q:Prop},(s=u->p)->(s≠u->q)->ifB (s==u) p q:=λh1 h2=>qi.2 ⟨λe=>h1 (by simpa using e),λe=>h2 (by simpa using e)⟩
 unfold Ps.rank at h;refine st (λe=>by subst e;simpa using h) λe1=> ?_
 refine st (λe=>by subst e;simpa using h) λe2=> ?_
 refine st (λe=>by subst e;simpa using h) λe3=> ?_
 refine st (λe=>by subst e;simpa using h) λe4=> ?_
 refine st (λe=>by subst e;simpa using h) λe5=> ?_
 refine st (λe=>by subst e;simpa using h) λe6=> ?_
 refine st (λe=>by subst e;simpa using h) λe7=> ?_
 refine st (λe=>by subst e;simpa using h) λe8=> ?_
 refine st (λe=>by subst e;simpa using h) λe9=> ?_
 refine st (λe=>by subst e;simpa using h) λe10=> ?_
 refine st (λe=>by subst e;simpa using h) λe11=> ?_
 refine st (λe=>by subst e;simpa using h) λe12=> ?_
 refine st (λe=>by subst e;simpa using h) λe13=> ?_
 simpa [e1,e2,e3,e4,e5,e6,e7,e8,e9,e10,e11,e12,e13]using h
theorem qfn(s:List UInt8):0<=Ps.rank s/\Ps.rank s<=5:=by
 unfold Ps.rank
 repeat' split
 all_goals omega
theorem OB.zero{I:List qa->Prop}{E:qU}(h:OB Z r I E A F H nx):OB Z r I E A (Kids .nilSlice []::F) H nx:=h.add λΓ _=>Kids.nil
theorem wQ:Kd r tb l zB [.ptr r 0]:=by
 intro Z A F H nx K a d e h hK;refine qk.of_body qr ?_
 rw [J3];refine h.new lR λH0 p0=>qk7 p0 λH1 p1=>qb.2 ⟨_,rfl,qK rfl (p1.all .hd rfl rfl λH2 p2=>⟨_,_,_,_,_,_,p2.ldAll .hd rfl,hK.nilNo rfl p2⟩)⟩
theorem qcr{n:Nat}(ih:qda r tb l n):vt r tb l zB [.ptr r 0] (run l (n+1) .expr):=by
 intro Z A F H nx K a d res hrun h hK;refine qk.of_body qr ?_
 rw [J3];have hrun:(if 40<=d then .bad (flt l a 14)else run l n (.binary 1) (d+1) a)=some res:=hrun
 refine h.new lR λH0 p0=>qjk p0 (λhd H1 n1 g1 p1=>qb.2 ⟨_,rfl,qK rfl (p1.all .hd rfl rfl λH2 p2=>⟨_,_,_,_,_,_,p2.ldAll .hd rfl,hK.nilNo ?_ p2⟩)⟩) λhd H1 n1 g1 p1=>qb.2 ⟨_,rfl,qH rfl ?_⟩
 ·rw [if_pos hd]at hrun;cases hrun;rfl
 ·rw [if_neg hd]at hrun;refine ih.bi 1 _ _ _ _ _ _ _ _ _ hrun p1 ⟨λk s n li co w ts b H2 n2 e g2 p2 hw=>qb.2 ⟨_,_,_,_,_,_,rfl,p2.new lR λH3 p3=>p3.all .hd rfl (jg hw) λH4 p4=>qct p4 λH5 p5=>qb.2 ?_⟩,λf a1 k s n li co w ts H2 n2 e g2 p2 hw=>qb.2 ⟨_,_,_,_,_,_,rfl,p2.new lR λH3 p3=>p3.all .hd rfl (jg hw) λH4 p4=>X8 (d':=d) p4 λH5 p5=>qb.2 ?_⟩⟩
  ·exact rb6 p5 .hd (.tl .hd) rfl hw λH6 p6=>hK.ok e p6 hw
  ·exact rb6 p5 .hd (.tl .hd) rfl hw λH6 p6=>hK.no ts e p6 hw
theorem YD(W:zj l){n:Nat}(ihs:∀m,m<=n->qda r tb l m)(k:Int):vt r tb l kg [.ptr r 0,iv k] (run l (n+1) (.binary k)):=by
 intro Z A F H nx K a d res hrun h hK;refine qk.of_body qr ?_
 rw [Wt];have hrun:Rs.bind (run l n .unary d a) (λ(x,b)=>run l n (.binGo k x) d b)=some res:=hrun
 have go:∀(xb:Nat) H1 n1,nx<=n1->wR Z r tb l d xb ((nx,[iv 0,.str [],iv 0,iv 0,iv 0,.nilSlice])::A) F (λbad b x=>match bad with|none=>run l n (.binGo k x) d b=some res|some f=>res= .error f) H1 n1->∀env,ql (qj .und [(5,.ptr xb 0),(4,.ptr nx 0),(1,iv k),(0,.ptr r 0)]) env->
   LpP PG 51 (qn (qe PG kg) [1,1,0,0,0]) env H1 n1 [] none (qx PG (qk PG) (LpP PG 51) 51 (qe PG kg) [1,1,0,0] (qy PG (zx (qB PG)) (qS PG (qB PG)) K (qF PG kg))):=by
  intro xb H1 n1 gn hst env henv;refine zu (P:=PG) (X:=Unit) (Y:=Unit) (λ_=>qj .und [(5,.ptr xb 0),(4,.ptr nx 0),(1,iv k),(0,.ptr r 0)]) (λ_=>qj .und [(5,.ptr xb 0),(4,.ptr nx 0),(1,iv k),(0,.ptr r 0)])
   (λm _ H2 n2=>m<=n/\nx<=n2/\wR Z r tb l d xb ((nx,[iv 0,.str [],iv 0,iv 0,iv 0,.nilSlice])::A) F (λbad b x=>match bad with|none=>run l m (.binGo k x) d b=some res|some f=>res= .error f) H2 n2)
   (λid _ H2 n2=>id=0/\nx<=n2/\wR Z r tb l d xb ((nx,[iv 0,.str [],iv 0,iv 0,iv 0,.nilSlice])::A) F (λbad b x=>match bad with|none=>res= .ok (x,b)|some f=>res= .error f) H2 n2) n () henv ⟨Nat.le_refl _,gn,hst⟩ ?_ ?_
  ·rintro m ⟨⟩ H2 n2 ⟨hm,g2,b,bad,xk,xs,xn,xl,xc,w,ts,F1,p1,s1,kw,hw,hR⟩
   refine WpP.part (ts:=[0,1,4,5]) qr ?_
   rw [qj4];cases bad with
   |some f=>exact ron p1 (qb.2 ⟨_,rfl,qH rfl ⟨rfl,(),ql.okay,rfl,g2,_,_,_,_,_,_,_,_,_,_,p1,s1,kw,hw,hR⟩⟩)
   |none=>
   cases m with
   |zero=>cases hR
   |succ m=>
   have hR:(if((tk l b).kind==6)&&decide (k<=rank (tk l b).text)then Rs.bind (run l m (.binary (rank (tk l b).text+1)) d (b+1)) λ(y,c)=>run l m (.binGo k (mk (tk l b) 28 (tk l b).text [.node xk xs xn xl xc ts,y])) d c else .ok (.node xk xs xn xl xc ts,b))=some res:=hR
   refine ron p1 (qb.2 ⟨_,rfl,qK rfl (QU p1 λH3 n3 g3 p3=>qb.2 ⟨_,_,_,_,_,rfl,qi.2 ⟨λh6=> ?_,λh6=> ?_⟩⟩)⟩)
   ·have h6:(tk l b).kind=6:=of_decide_eq_true h6
    refine QU p3 λH4 n4 g4 p4=>qb.2 ⟨_,_,_,_,_,rfl,Yr (qb.2 ⟨_,rfl,qi.2 ⟨λhk=> ?_,λhk=> ?_⟩⟩)⟩
    ·have hk:k<=rank (tk l b).text:=of_decide_eq_true hk
     rw [if_pos (by simp [h6,hk])]at hR
     obtain⟨q0,q1⟩:=qfn (tk l b).text
     refine kS p4 λH5 n5 g5 p5=>qb.2 ⟨_,_,_,_,_,_,rfl,p5.new lR λH6 p6=>p6.all .hd rfl rfl λH7 p7=>QU p7 λH8 n8 g8 p8=>qb.2 ⟨_,_,_,_,_,rfl,_,rfl,rfl,p8.one .hd (by simp) rfl λH9 p9=>PS.bump W p9 (by rw [h6];decide) λH10 p10=>⟨_,rfl,_,p10.ld1 .hd 1,Yr (qb.2 ⟨_,rfl,?_⟩)⟩⟩⟩
     rw [qw (by omega) (by omega)]
     refine jE ((ihs m (by omega)).bi _) hR p10 (λyk ys yn yl yc yw yts c H11 n11 hr g11 p11 yhw=>⟨_,_,_,_,_,_,rfl,p11.new lR λH12 p12=>p12.all .hd rfl (jg yhw) λH13 p13=>⟨_,_,_,_,_,_,p13.ldAll (.tl (.tl .hd)) rfl,_,_,_,_,_,_,p13.ldAll .hd rfl,p13.newF lR λH14 p14=>⟨_,rfl,rfl,p14.one (.tl .hd) (by simp) rfl λH15 p15=>⟨_,_,_,_,_,_,p15.ldAll (.tl .hd) rfl,p15.all (.tl (.tl .hd)) rfl rfl λH16 p16=> ?_⟩⟩⟩⟩)
      λf c yk ys yn yl yc yw yts H11 n11 hr g11 p11 yhw=>⟨_,_,_,_,_,_,rfl,p11.new lR λH12 p12=>p12.all .hd rfl (jg yhw) λH13 p13=>⟨_,_,_,_,_,_,p13.ldAll (.tl (.tl .hd)) rfl,_,_,_,_,_,_,p13.ldAll .hd rfl,p13.newF lR λH14 p14=>⟨_,rfl,rfl,p14.one (.tl .hd) (by simp) rfl λH15 p15=>⟨_,_,_,_,_,_,p15.ldAll (.tl .hd) rfl,p15.all (.tl (.tl .hd)) rfl rfl λH16 p16=> ?_⟩⟩⟩⟩
     all_goals
      have p17:=p16.add (P:=Kids (.slice (n11+1) 0 2 6 true) [.node xk xs xn xl xc ts,.node yk ys yn yl yc yts]) λΓ q=>qgv (q _ (.head _)) (q _ (List.mem_append.2 (.inl (.tail _ (.tail _ kw))))) (q _ (.tail _ (.head _)))
      have p18:=p17.fin (A':=(xb,_)::(nx,_)::A) (.cons _ (.cons _ (.refl _))) (λ_ h=>h)
     ·exact⟨rfl,m,(),Nat.lt_succ_self m,ql.okay,by omega,by omega,c,none,_,_,_,_,_,_,_,_,p18,λP hP=> .tail _ (.tail _ (.tail _ (s1 hP))),.head _,rfl,hr⟩
     ·exact⟨rfl,m,(),Nat.lt_succ_self m,ql.okay,by omega,by omega,c,some f,_,_,_,_,_,_,_,_,p18,λP hP=> .tail _ (.tail _ (.tail _ (s1 hP))),.head _,rfl,hr⟩
    ·have hk:¬k<=rank (tk l b).text:=of_decide_eq_false hk
     rw [if_neg (by simp [hk])]at hR
     cases hR
     exact⟨rfl,(),ql.okay,rfl,by omega,_,none,_,_,_,_,_,_,_,_,p4,s1,kw,hw,rfl⟩
   ·have h6:¬(tk l b).kind=6:=of_decide_eq_false h6
    rw [if_neg (by simp [h6])]at hR
    cases hR
    exact⟨rfl,(),ql.okay,rfl,by omega,_,none,_,_,_,_,_,_,_,_,p3,s1,kw,hw,rfl⟩
  ·rintro id ⟨⟩ H2 n2 ⟨rfl,g2,b,bad,xk,xs,xn,xl,xc,w,ts,F1,p1,s1,kw,hw,hR⟩
   rw [qk8];cases bad with
   |none=>exact rb6 p1 .hd (.tl .hd) rfl hw λH6 p6=>hK.ok hR p6 hw (m:=kw) (ss:=s1)
   |some f=>exact rb6 p1 .hd (.tl .hd) rfl hw λH6 p6=>hK.no ts hR p6 hw (m:=kw) (ss:=s1)
 refine h.new lR λH0 p0=>jE (ihs n lR).un hrun p0 (λxk xs xn xl xc w ts b H2 n2 hr g2 p2 hw=>⟨_,_,_,_,_,_,rfl,p2.new lR λH3 p3=>p3.all .hd rfl (jg hw) λH4 p4=> ?_⟩) λf b xk xs xn xl xc w ts H2 n2 hr g2 p2 hw=>⟨_,_,_,_,_,_,rfl,p2.new lR λH3 p3=>p3.all .hd rfl (jg hw) λH4 p4=> ?_⟩
 ·exact go n2 _ _ (by omega) ⟨b,none,_,_,_,_,_,_,_,_,p4,List.subset_cons_self _ _,.head _,hw,hr⟩ _ (ql.okay)
 ·exact go n2 _ _ (by omega) ⟨b,some f,_,_,_,_,_,_,_,_,p4,List.subset_cons_self _ _,.head _,hw,hr⟩ _ (ql.okay)
end
def qpo(Z:Nat->Prop)(r tb:Nat)(l:List Tok)(d:Nat)(A:qN)(F:qU)(nx:Nat)(K:qv)(res:Except Flt (List qu×Nat)):Prop:=
 (∀v ts b H' nx',res= .ok (ts,b)->nx<=nx'->PS Z r tb l b none d A (Kids v ts::F) H' nx'->qI v=true->ts.length<=5000->K (.ret v) H' nx')/\
 (∀f a v ts H' nx',res= .error f->nx<=nx'->PS Z r tb l a (some f) d A (Kids v ts::F) H' nx'->qI v=true->ts.length<=5000->K (.ret v) H' nx')
def rest(l:List Tok)(one:Nat->Rs (qu×Nat))(n b:Nat):Rs (List qu×Nat):=if is l b [44]then rowGo l one n (b+1)else lift (need l b [41]) λc=> .ok ([],c)
theorem vH{l:List Tok}{one:Nat->Rs (qu×Nat)}{n a:Nat}:rowGo l one (n+1) a=Rs.bind (one a) λ(x,b)=>Rs.bind (rest l one n b) λ(xs,c)=> .ok (x::xs,c):=by
 conv=>lhs;unfold rowGo
 congr 1
 funext ⟨x,b⟩
 unfold rest;by_cases h:is l b [44]=true
 ·simp only [h,if_true]
 ·simp only [h]
  cases need l b [41]<;>rfl
theorem zV{α β γ:Type}{x:Rs α}{f:α->Rs β}{g:β->Rs γ}:Rs.bind (Rs.bind x f) g=Rs.bind x λa=>Rs.bind (f a) g:=by
 match x with
 |none=>rfl
 |some (.error _)=>rfl
 |some (.ok _)=>rfl
theorem kq{α β γ:Type}{x:α}{y:β}{g:α×β->Rs γ}:Rs.bind (Rs.ok (x,y)) g=g (x,y):=rfl
section
variable{r tb:Nat}{l:List Tok}{a d:Nat}{bad:Option Flt}{A A1 A':qN}{F:qU}{H:qd}{nx:Nat}{K:qv}{res:Except Flt (qu×Nat)}{I:List qa->Prop}{E:qU}
 {x:Nat->Nat->Rs (qu×Nat)} {f:FuncId} {args:List qa} {pK:List (qa×Bool)->qd->Nat->Prop} {rest:qd->Nat->Prop} {pre:Prop}
def qmo(xb yb:Nat)(f:FuncId)(args:List qa)(H:qd)(nx:Nat)(rest:qd->Nat->Prop)(pK:List (qa×Bool)->qd->Nat->Prop):Prop:=
 ∃(n1:Int) (s1:List UInt8) (x1 y1 z1:Int) (v1:qa),ldN H 6 (.ptr xb 0)=some (.agg [iv n1,.str s1,iv x1,iv y1,iv z1,v1])/\
  ((∃(n2:Int) (s2:List UInt8) (x2 y2 z2:Int) (v2:qa),ldN H 6 (.ptr xb 0)=some (.agg [iv n2,.str s2,iv x2,iv y2,iv z2,v2])/\u4 [iv n2,.str s2,iv x2,iv y2,iv z2,v2]= .agg [iv n1,.str s1,iv x1,iv y1,iv z1,v1])/\True)/\
  qk PG f args H (nx+6) λe H2 i2=>qc e (λv=>∃(n3:Int) (s3:List UInt8) (x3 y3 z3:Int) (v3:qa),v= .agg [iv n3,.str s3,iv x3,iv y3,iv z3,v3]/\
   ∃H3,H3=qo (nx+3) [iv n1,.str s1,iv x1,iv y1,iv z1,v1,iv n3,.str s3,iv x3,iv y3,iv z3,v3] H2/\∃v4,some (u0 yb 5)=some v4/\
   ((∃(n2:Int) (s2:List UInt8) (x2 y2 z2:Int) (v2:qa),ldN H3 6 (.ptr xb 0)=some (.agg [iv n2,.str s2,iv x2,iv y2,iv z2,v2])/\u4 [iv n2,.str s2,iv x2,iv y2,iv z2,v2]= .agg [iv n1,.str s1,iv x1,iv y1,iv z1,v1])/\True)/\
   true=true/\∃H4,stC H3 v4 [qa.slice (nx+3) 0 2 6 true]=some H4/\True/\rest H4 i2) λl=>pK l H2 i2
theorem Vg{β:Type}{res:Except Flt β}{k:qu×Nat->Rs β}{xb yb:Nat}{xk:Int}{xs:List UInt8}{xn xl xc:Int}{xw:qa}{xts:List qu}{ycs:List qa}(hf:vt r tb l f args x)(hrun:Rs.bind (x d a) k=some res)(p:PS Z r tb l a none d A F H nx)
  (hx:Own A xb [iv xk,.str xs,iv xn,iv xl,iv xc,xw]) (kw:Kids xw xts∈F) (hw:qI xw=true) (u:Upd A yb ycs (ycs.set 5 (.slice (nx+3) 0 2 6 true)) A') (hy:ycs.length=6)
  (hok:∀z b H' n',k (z,b)=some res->nx<=n'->PS Z r tb l b none d A' (Kids (.slice (nx+3) 0 2 6 true) [.node xk xs xn xl xc xts,z]::F) H' n'->rest H' n')
  (hno:∀e b z H' n',res= .error e->nx<=n'->PS Z r tb l b (some e) d A' (Kids (.slice (nx+3) 0 2 6 true) [.node xk xs xn xl xc xts,z]::F) H' n'->rest H' n'):qmo xb yb f args H nx rest pK:=by
 obtain⟨p1,hz⟩:=OB.res (i:=nx+3) (nx':=nx+6) p (by omega) (by omega)
 refine⟨_,_,_,_,_,_,p.ldAll hx rfl,⟨⟨_,_,_,_,_,_,p.ldAll hx rfl,rfl⟩,trivial⟩,?_⟩
 refine jE hf hrun p1 (λzk zs zn zl zc zw zts b H2 n2 e g2 p2 zw'=>⟨_,_,_,_,_,_,rfl,OB.takeF p2 hz λH3 p3=>⟨_,rfl,⟨⟨_,_,_,_,_,_,p3.ldAll hx rfl,rfl⟩,trivial⟩,rfl,p3.one u (by omega) rfl λH4 p4=>⟨trivial,hok (.node zk zs zn zl zc zts) b _ _ e (by omega) ?_⟩⟩⟩)
  λe b zk zs zn zl zc zw zts H2 n2 he g2 p2 zw'=>⟨_,_,_,_,_,_,rfl,OB.takeF p2 hz λH3 p3=>⟨_,rfl,⟨⟨_,_,_,_,_,_,p3.ldAll hx rfl,rfl⟩,trivial⟩,rfl,p3.one u (by omega) rfl λH4 p4=>⟨trivial,hno e b (.node zk zs zn zl zc zts) _ _ he (by omega) ?_⟩⟩⟩
 all_goals
  refine(p4.add (P:=Kids (.slice (nx+3) 0 2 6 true) [.node xk xs xn xl xc xts,.node zk zs zn zl zc zts]) λΓ q=>qgv (q _ (.head _)) (q _ (List.mem_append.2 (.inl (.tail _ (.tail _ kw))))) (q _ (.tail _ (.head _)))).fin (.refl _) ?_
  intro P hP;rcases List.mem_cons.1 hP with rfl|hP
  ·exact .head _
  ·exact .tail _ (.tail _ (.tail _ hP))
theorem XR{xb yb:Nat}{e:Flt}{xk:Int}{xs:List UInt8}{xn xl xc:Int}{xw:qa}{xts:List qu}{ycs:List qa}(hf:Kd r tb l f args)(p:PS Z r tb l a (some e) d A F H nx)
  (hx:Own A xb [iv xk,.str xs,iv xn,iv xl,iv xc,xw]) (kw:Kids xw xts∈F) (hw:qI xw=true) (u:Upd A yb ycs (ycs.set 5 (.slice (nx+3) 0 2 6 true)) A') (hy:ycs.length=6)
  (hno:∀b z H' n',nx<=n'->PS Z r tb l b (some e) d A' (Kids (.slice (nx+3) 0 2 6 true) [.node xk xs xn xl xc xts,z]::F) H' n'->rest H' n'):qmo xb yb f args H nx rest pK:=by
 obtain⟨p1,hz⟩:=OB.res (i:=nx+3) (nx':=nx+6) p (by omega) (by omega)
 refine⟨_,_,_,_,_,_,p.ldAll hx rfl,⟨⟨_,_,_,_,_,_,p.ldAll hx rfl,rfl⟩,trivial⟩,?_⟩
 refine ja hf p1 λb zk zs zn zl zc zw zts H2 n2 g2 p2 zw'=>⟨_,_,_,_,_,_,rfl,OB.takeF p2 hz λH3 p3=>⟨_,rfl,⟨⟨_,_,_,_,_,_,p3.ldAll hx rfl,rfl⟩,trivial⟩,rfl,p3.one u (by omega) rfl λH4 p4=>⟨trivial,hno b (.node zk zs zn zl zc zts) _ _ (by omega) ?_⟩⟩⟩
 refine(p4.add (P:=Kids (.slice (nx+3) 0 2 6 true) [.node xk xs xn xl xc xts,.node zk zs zn zl zc zts]) λΓ q=>qgv (q _ (.head _)) (q _ (List.mem_append.2 (.inl (.tail _ (.tail _ kw))))) (q _ (.tail _ (.head _)))).fin (.refl _) ?_
 intro P hP;rcases List.mem_cons.1 hP with rfl|hP
 ·exact .head _
 ·exact .tail _ (.tail _ (.tail _ hP))
theorem OB.appAll{i n1:Nat}{v:qa}{xc:List qa}{t1 ts:List qu}(h:OB Z r I E A F H nx)(hb:RowF i xc∈F)(hc:vd xc t1∈F)(hv:Kids v ts∈F)(hn1:n1=t1.length)(h1:0<t1.length)(hfew:t1.length+ts.length<=6000){k:qa->qd->Nat->Prop}
  (hK:∀w H' nx',nx<=nx'->OB Z r I E A (Kids w (t1++ts)::F) H' nx'->qI w=true->k w H' nx'):
  ∃m l,zJ 6 H v=some (m,l)/\qq l=true/\∃w H' nx',zt H nx 6 72 (.slice i 0 n1 6 true) m l=some (w,H',nx')/\k w H' nx':=by
 subst hn1;obtain⟨ds,g1,g0⟩:=h
 obtain⟨cs,g2⟩:=g0.ex (Q:=λcs Γ=>VC (ZL (λ_=>False) Γ) v 6 ts.length cs/\zf (λ_=>False) Γ cs ts)
  (λc Γ Γ' e q=>⟨q.1.mono (Jp (λ_ h=>h) λb cs _ h=>e b cs h),q.2.mono (λ_ h=>h) λb cs _ h=>e b cs h⟩) (List.mem_append.2 (.inl hv))
 obtain⟨Γ,hkz,hq⟩:=g2.to
 have hcq:zf (λ_=>False) Γ xc t1:=hq _ (.tail _ (List.mem_append.2 (.inl hc)))
 obtain⟨hs,hkc⟩:=hq _ (.head _)
 rw [yR]at hs;refine⟨ts.length,cs,hs.src hkz,hkc.all,?_⟩
 have hl:=hcq.len
 cases hts:ts with
 |nil=>
  refine⟨_,_,_,rfl,hK _ _ _ lR ⟨ds,g1,g0.add λΓ' q=> ?_⟩ rfl⟩
  subst hts;rw [List.append_nil];have hb':RowF i xc Γ':=q _ (List.mem_append.2 (.inl hb))
  exact⟨xc,.inr ⟨i,0,true,xc,rfl,by rw [yR];exact hb',by omega,by rw [List.drop_zero,<-hl];exact List.take_length⟩,q (vd xc t1) (List.mem_append.2 (.inl hc))⟩
 |cons t0 r0=>
  rw [<-hts];have hlc:=hkc.len
  obtain⟨H',e1,e2⟩:=g2.appFull (off:=0) (len:=t1.length) (esz:=6) (ebytes:=72) (k:=ts.length) (new:=cs) (.tail _ (List.mem_append.2 (.inl hb))) (by omega) hlc (by rw [hts];simp) (by omega) (by omega)
  have hd:(xc.drop 0).take (t1.length*6)=xc:=by rw [<-hl];simp
  rw [hd]at e2;refine⟨_,H',_,e1,hK _ _ _ (by omega) ⟨ds,g1,SH.sub (SH.add e2.freeze (P:=Kids (.slice nx 0 (t1.length+ts.length) 6 false) (t1++ts)) λΓ' q=> ?_) ?_⟩ rfl⟩
  ·obtain⟨_,hkc'⟩:=q _ (.tail _ (.head _))
   exact⟨xc++cs,.inr ⟨nx,0,false,xc++cs,by simp,by rw [yR];exact q _ (.head _),by simp [hl,hlc];omega,by rw [List.drop_zero];apply List.take_of_length_le;simp [hl,hlc];omega⟩,zf.app (q (vd xc t1) (.tail _ (.tail _ (List.mem_append.2 (.inl hc))))) hkc'⟩
  ·intro P hP;rcases List.mem_cons.1 hP with rfl|hP
   ·exact .head _
   ·exact .tail _ (.tail _ (.tail _ hP))
end
section
variable{r tb:Nat}{l:List Tok}{a d:Nat}{bad:Option Flt}{A A1 A':qN}{F:qU}{H:qd}{nx:Nat}{K:qv}{res:Except Flt (qu×Nat)}
theorem K8{s u:List UInt8}(h:is l a s=true)(hn:s≠u):is l a u=false:=by
 cases e:is l a u with
 |false=>rfl
 |true=>simp [is]at e h;exact absurd (h.2.symm.trans e.2) hn
theorem KK(W:zj l){m N:Nat}(he:vt r tb l zB [.ptr r 0] (run l m .expr)){rr:Except Flt (List qu×Nat)}(hrun:row l (run l m .expr d) N a=some rr)(h:PS Z r tb l a none d A F H nx)(hK:qpo Z r tb l d A F nx K rr):
  qk PG vG [.ptr r 0] H nx K:=by
 refine qk.of_body qr ?_
 rw [qaf];have hadv:AdvOK (run l m .expr d):=wb rfl
 have hW:=W.few
 have go:∀N H1 n1 o b bad ts G F1,nx<=n1->PS Z r tb l b bad d (G++A) F1 H1 n1->z0 o ts G F1->F⊆F1->ts.length<=5000->(match bad with|none=>ts.length<=b/\Rs.bind (rest l (run l m .expr d) N b) (λ(xs,c)=>Rs.ok (ts++xs,c))=some rr|some f=>rr= .error f)->∀env,ql (qj .und [(3,o),(0,.ptr r 0)]) env->
   LpP PG 24 (qn (qe PG vG) [1,1,1,0,1,0,1,0,0]) env H1 n1 [] none (qx PG (qk PG) (LpP PG 24) 24 (qe PG vG) [1,1,1,0,1,0,1,0] (qy PG (zx (qB PG)) (qS PG (qB PG)) K (qF PG vG))):=by
  intro N H1 n1 o b bad ts G F1 gn p1 gr s1 few hR env henv;refine zu (P:=PG) (X:=qa) (Y:=qa) (λo=>qj .und [(3,o),(0,.ptr r 0)]) (λo=>qj .und [(3,o),(0,.ptr r 0)])
   (λN o H2 n2=>nx<=n2/\∃b bad ts G F2,PS Z r tb l b bad d (G++A) F2 H2 n2/\z0 o ts G F2/\F⊆F2/\ts.length<=5000/\(match bad with|none=>ts.length<=b/\Rs.bind (rest l (run l m .expr d) N b) (λ(xs,c)=>Rs.ok (ts++xs,c))=some rr|some f=>rr= .error f))
   (λid o H2 n2=>id=0/\nx<=n2/\∃b bad ts G F2,PS Z r tb l b bad d (G++A) F2 H2 n2/\z0 o ts G F2/\F⊆F2/\ts.length<=5000/\(match bad with|none=>lift (need l b [41]) (λc=>Rs.ok (ts,c))=some rr|some f=>rr= .error f)) N o henv ⟨gn,b,bad,ts,G,F1,p1,gr,s1,few,hR⟩ ?_ ?_
  ·rintro N o H2 n2 ⟨g2,b,bad,ts,G,F2,p2,gr,s2,few,hR⟩
   refine WpP.part (ts:=[0,3]) qr ?_
   rw [qh8];refine kA W p2 (λhno H3 n3 g3 p3=>qb.2 ⟨_,rfl,qH rfl ⟨rfl,o,ql.okay,rfl,by omega,b,bad,ts,G,F2,p3,gr,s2,few,?_⟩⟩) λhbad hyes H3 n3 g3 p3=>qb.2 ⟨_,rfl,qK rfl ?_⟩
   ·cases bad with
    |some f=>exact hR
    |none=>
     have hR:=hR.2
     unfold rest at hR;rw [show is l b [44]=false from hno]at hR;simp only [Bool.false_eq_true,if_false]at hR
     cases hn:need l b [41]with
     |error f=>rw [hn]at hR;exact hR
     |ok c=>rw [hn]at hR;simpa [lift,Rs.bind,Rs.ok]using hR
   ·subst hbad;obtain⟨hlb,hR⟩:=hR
    unfold rest at hR;rw [hyes]at hR;simp only [if_true]at hR
    have hb5:=PS.lt p3
    cases N with
    |zero=>simp [rowGo,Rs.bind]at hR
    |succ N=>
    rw [vH,zV]at hR;refine wi he hR p3 (λk s n li co w us c H4 n4 hx hr g4 p4 hw=>⟨_,_,_,_,_,_,rfl,p4.newF lR λH5 p5=> ?_⟩) λf c k s n li co w us H4 n4 hr g4 p4 hw=>⟨_,_,_,_,_,_,rfl,p4.newF lR λH5 p5=> ?_⟩
    ·have hac:=hadv _ _ _ hx
     refine OB.app1 p5 (gr.sub λP hP=> .tail _ (.tail _ hP)) .hd (.head _) (.tail _ (.head _)) hw (by omega) λv H6 G' F' gr' sf hv p6=>⟨rfl,N,v,Nat.lt_succ_self N,ql.okay,by omega,c,none,_,G',F',p6,gr',λP hP=>sf (.tail _ (.tail _ (s2 hP))),by simp;omega,by simp;omega,?_⟩
     rw [zV]at hr
     simpa [kq]using hr
    ·exact OB.app1 p5 (gr.sub λP hP=> .tail _ (.tail _ hP)) .hd (.head _) (.tail _ (.head _)) hw (by omega) λv H6 G' F' gr' sf hv p6=>⟨rfl,N,v,Nat.lt_succ_self N,ql.okay,by omega,c,some f,_,G',F',p6,gr',λP hP=>sf (.tail _ (.tail _ (s2 hP))),by simp;omega,hr⟩
  ·rintro id o H2 n2 ⟨rfl,g2,b,bad,ts,G,F2,p2,gr,s2,few,hR⟩
   rw [qi1];have fin:∀{b bad d' H3 n3},PS Z r tb l b bad d' (G++A) F2 H3 n3->PS Z r tb l b bad d' A (Kids o ts::F) H3 n3:=λp=>(OB.grown p gr .hd).fin (.refl _) (List.cons_subset.2 ⟨.head _,λP hP=> .tail _ (s2 hP)⟩)
   cases bad with
   |some f=>exact zd p2 (qb.2 (hK.2 _ _ _ _ _ _ hR (by omega) (fin p2) gr.cell few))
   |none=>
    refine zo W p2 (λhno H3 n3 g3 p3=>qb.2 (hK.2 _ _ _ _ _ _ ?_ (by omega) (fin p3) gr.cell few)) λhyes H3 n3 g3 p3=>qb.2 (hK.1 _ _ _ _ _ ?_ (by omega) (fin p3) gr.cell few)
    ·simp [need,hno,lift]at hR;exact hR.symm
    ·simp [need,hyes,lift,Rs.ok]at hR;exact hR.symm
 unfold row at hrun;refine zo W h (λhno H1 n1 g1 p1=>qb.2 (ris p1 λH2 n2 g2 p2=>qb.2 ⟨_,rfl,qK rfl ?_⟩)) λhyes H1 n1 g1 p1=>qb.2 (ris p1 λH2 n2 g2 p2=>qb.2 ⟨_,rfl,qi.2 ⟨λh1=> ?_,λh1=> ?_⟩⟩)
 ·simp [need,hno,lift]at hrun
  refine ja wQ p2 λc k s n li co w us H4 n4 g4 p4 hw=>⟨_,_,_,_,_,_,rfl,p4.newF lR λH5 p5=> ?_⟩
  exact OB.app1 p5 z0.nil .hd (.head _) (.tail _ (.head _)) hw (by simp) λv H6 G' F' gr' sf hv p6=>go 0 _ _ _ _ (some _) _ G' F' (by omega) p6 gr' (λP hP=>sf (.tail _ (.tail _ hP))) (by simp) hrun.symm _ (ql.okay)
 ·have h1:is l (a+1) [41]=false:=by simpa [isR]using h1
  simp only [need,hyes,lift,if_true,h1,Bool.false_eq_true,if_false]at hrun
  cases N with
  |zero=>simp [rowGo]at hrun
  |succ N=>
  rw [vH]at hrun;refine wi he hrun p2 (λk s n li co w us c H4 n4 hx hr g4 p4 hw=>⟨_,_,_,_,_,_,rfl,p4.newF lR λH5 p5=> ?_⟩) λf c k s n li co w us H4 n4 hr g4 p4 hw=>⟨_,_,_,_,_,_,rfl,p4.newF lR λH5 p5=> ?_⟩
  ·have hac:=hadv _ _ _ hx
   exact OB.app1 p5 z0.nil .hd (.head _) (.tail _ (.head _)) hw (by simp) λv H6 G' F' gr' sf hv p6=>go N _ _ _ c none _ G' F' (by omega) p6 gr' (λP hP=>sf (.tail _ (.tail _ hP))) (by simp) ⟨by simp;omega,by simpa using hr⟩ _ (ql.okay)
  ·exact OB.app1 p5 z0.nil .hd (.head _) (.tail _ (.head _)) hw (by simp) λv H6 G' F' gr' sf hv p6=>go 0 _ _ _ _ (some f) _ G' F' (by omega) p6 gr' (λP hP=>sf (.tail _ (.tail _ hP))) (by simp) hr _ (ql.okay)
 ·have h1:is l (a+1) [41]=true:=by simpa [isR]using h1
  simp only [need,hyes,lift,if_true,h1]at hrun
  cases hrun
  exact zo W p2 (λhno=>by rw [h1]at hno;cases hno) λ_ H3 n3 g3 p3=>qb.2 (hK.1 _ [] _ _ _ rfl (by omega) (p3.add λΓ _=>Kids.nil) rfl (by simp))
end
def Y6:qu->qu->qu
 | .node k s n l c _,x=> .node k s n l c [x]
def QV(ts:List qu)(x:qu):qu:=ts.foldr Y6 x
theorem WG(ts:List qu)(t x:qu):QV (ts++[t]) x=QV ts (Y6 t x):=by simp [QV,List.foldr_append]
theorem qc4{ts:List qu}{j:Nat}(h:j<ts.length)(x:qu):QV (ts.drop j) x=Y6 ts[j] (QV (ts.drop (j+1)) x):=by
 rw [List.drop_eq_getElem_cons h];rfl
section
variable{r tb:Nat}{l:List Tok}{a d:Nat}{bad:Option Flt}{A A1 A':qN}{F:qU}{H:qd}{nx:Nat}{K:qv}{res:Except Flt (qu×Nat)}
theorem OB.kid{I:List qa->Prop}{E:qU}{w:qa}{ts:List qu}{j:Nat}(h:OB Z r I E A F H nx)(hw:Kids w ts∈F)(hj:j<ts.length):
  ∃b off k s n l c w' us,zq w j 6=some (.ptr b off)/\ts[j]= .node k s n l c us/\Vs.ldN H 6 (.ptr b off)=some (.agg [iv k,.str s,iv n,iv l,iv c,w'])/\qI w'=true:=by
 obtain⟨ds,g1,g2⟩:=h
 obtain⟨Γ,hk,q⟩:=g2.fact (P:=Kids w ts) (List.mem_append.2 (.inl hw))
 obtain⟨b,off,k,s,n,l,c,w',us,h1,h2,h3⟩:=Qu hk q hj
 exact⟨b,off,k,s,n,l,c,w',us,h1,h2,h3.all,h3.kids.cell⟩
theorem un2{xb:Nat}{o:qa}{ts:List qu}{F0:qU}(few:ts.length<=5000)(hF:F⊆F0)(ho:Kids o ts∈F0)(hK:vu Z r tb l d A F nx K res){q:Nat}(hq:q<=ts.length){H1:qd}{n1:Nat}(hn:nx<=n1)
  (hst:wR Z r tb l d xb ((nx,[iv 0,.str [],iv 0,iv 0,iv 0,.nilSlice])::A) F0 (λbad b x=>∃x0,x=QV (ts.drop q) x0/\match bad with|none=>res= .ok (QV ts x0,b)|some f=>res= .error f) H1 n1) {env:Env} (he:ql (qj .und [(6,iv ((q:Int) - 1)),(5,.ptr xb 0),(3,o),(2,.ptr nx 0),(0,.ptr r 0)]) env):
  LpP PG 49 (qn (qe PG vf) [1,1,1,1,0,1,0,0]) env H1 n1 [] none (qx PG (qk PG) (LpP PG 49) 49 (qe PG vf) [1,1,1,1,0,1,0] (qy PG (zx (qB PG)) (qS PG (qB PG)) K (qF PG vf))):=by
 refine zu (P:=PG) (X:=Nat) (Y:=Unit) (λq=>qj .und [(6,iv ((q:Int) - 1)),(5,.ptr xb 0),(3,o),(2,.ptr nx 0),(0,.ptr r 0)]) (λ_=>qj .und [(6,iv (-1)),(5,.ptr xb 0),(3,o),(2,.ptr nx 0),(0,.ptr r 0)])
  (λm q H2 n2=>m=q/\q<=ts.length/\nx<=n2/\wR Z r tb l d xb ((nx,[iv 0,.str [],iv 0,iv 0,iv 0,.nilSlice])::A) F0 (λbad b x=>∃x0,x=QV (ts.drop q) x0/\match bad with|none=>res= .ok (QV ts x0,b)|some f=>res= .error f) H2 n2)
  (λid _ H2 n2=>id=2/\nx<=n2/\wR Z r tb l d xb ((nx,[iv 0,.str [],iv 0,iv 0,iv 0,.nilSlice])::A) F0 (λbad b x=>match bad with|none=>res= .ok (x,b)|some f=>res= .error f) H2 n2) q q he ⟨rfl,hq,hn,hst⟩ ?_ ?_
 ·rintro m q H2 n2 ⟨rfl,hq,g2,b,bad,xk,xs,xn,xl,xc,w,us,F1,p1,s1,kw,hw,x0,hx0,hR⟩
  refine WpP.part (ts:=[0,2,3,5,6]) qr ?_
  rw [qhi];refine qi.2 ⟨λh=> ?_,λh=> ?_⟩
  ·have h:(0:Int)<=(m:Int) - 1:=of_decide_eq_true h
   obtain⟨j,rfl⟩:∃j,m=j+1:=⟨m - 1,by omega⟩
   have hj:j<ts.length:=by omega
   have e1:((j+1:Nat):Int) - 1=(j:Int):=by omega
   rw [e1];obtain⟨bb,off,k,s,n,li,c,w',us',i1,i2,i3,i4⟩:=OB.kid p1 (s1 ho) hj
   refine⟨by omega,_,by rw [Int.toNat_natCast];exact i1,_,_,_,_,_,_,i3,p1.new lR λH3 p3=>p3.all .hd rfl (jg i4) λH4 p4=>⟨_,_,_,_,_,_,p4.ldAll (.tl .hd) rfl,p4.newF lR λH5 p5=>⟨_,rfl,rfl,p5.one .hd (by simp) rfl λH6 p6=>⟨_,_,_,_,_,_,p6.ldAll .hd rfl,p6.all (.tl .hd) rfl rfl λH7 p7=> ?_⟩⟩⟩⟩
   have p8:=p7.add (P:=Kids (.slice (n2+1) 0 1 6 true) [.node xk xs xn xl xc us]) λΓ q=>jS (q _ (.head _)) (q _ (List.mem_append.2 (.inl (.tail _ kw))))
   rw [qw (by omega) (by omega)]
   refine⟨rfl,j,j,Nat.lt_succ_self j,ql.okay,rfl,by omega,by omega,b,bad,_,_,_,_,_,_,_,_,p8.fin (.cons _ (.refl _)) (λ_ h=>h),λP hP=> .tail _ (.tail _ (s1 hP)),.head _,rfl,x0,?_,hR⟩
   rw [qc4 hj,i2,<-hx0];rfl
  ·have h:¬(0:Int)<=(m:Int) - 1:=of_decide_eq_false h
   have h0:m=0:=by omega
   subst h0;refine⟨rfl,(),ql.okay,rfl,g2,b,bad,_,_,_,_,_,_,_,F1,p1,s1,kw,hw,?_⟩
   rw [List.drop_zero]at hx0;cases bad with
   |none=>rw [hx0];exact hR
   |some f=>exact hR
 ·rintro id ⟨⟩ H2 n2 ⟨rfl,g2,b,bad,xk,xs,xn,xl,xc,w,ts,F1,p1,s1,kw,hw,hR⟩
  rw [qht];cases bad with
  |none=>exact rb6 p1 .hd (.tl .hd) rfl hw λH6 p6=>hK.ok hR p6 hw (m:=kw) (ss:=λP hP=>s1 (hF hP))
  |some f=>exact rb6 p1 .hd (.tl .hd) rfl hw λH6 p6=>hK.no ts hR p6 hw (m:=kw) (ss:=λP hP=>s1 (hF hP))
theorem qbw(W:zj l){n:Nat}(ihs:∀m,m<=n->qda r tb l m):vt r tb l vf [.ptr r 0] (run l (n+1) .unary):=by
 intro Z A F H nx K a d res hrun h hK;refine qk.of_body qr ?_
 rw [XU];have hW:=W.few
 refine h.new lR λH0 p0=> ?_
 refine zu (P:=PG) (X:=qa) (Y:=qa) (λo=>qj .und [(3,o),(2,.ptr nx 0),(0,.ptr r 0)]) (λo=>qj .und [(3,o),(2,.ptr nx 0),(0,.ptr r 0)])
  (λm o H2 n2=>m<=n+1/\nx<=n2/\∃b ts G F2,PS Z r tb l b none d (G++(nx,[iv 0,.str [],iv 0,iv 0,iv 0,.nilSlice])::A) F2 H2 n2/\z0 o ts G F2/\F⊆F2/\ts.length<=b/\Rs.bind (run l m .unary d b) (λ(x,c)=>Rs.ok (QV ts x,c))=some res)
  (λid o H2 n2=>id=0/\nx<=n2/\∃m b ts G F2,m<=n/\PS Z r tb l b none d (G++(nx,[iv 0,.str [],iv 0,iv 0,iv 0,.nilSlice])::A) F2 H2 n2/\z0 o ts G F2/\F⊆F2/\ts.length<=b/\Rs.bind (run l m .post d b) (λ(x,c)=>Rs.ok (QV ts x,c))=some res) (n+1) .nilSlice
  (ql.okay) ⟨Nat.le_refl _,by omega,a,[],[],F,p0,z0.nil,λ_ h=>h,by simp,?_⟩ ?_ ?_
 ·rw [hrun];cases res<;>rfl
 ·rintro m o H2 n2 ⟨hm,g2,b,ts,G,F2,p2,gr,s2,few,hR⟩
  refine WpP.part (ts:=[0,2,3]) qr ?_
  rw [qkr];have hb:=PS.lt p2
  cases m with
  |zero=>cases hR
  |succ m=>
  have hu:run l (m+1) .unary d b=if is l b [45]||is l b [33]then Rs.bind (run l m .unary d (b+1)) λ(x,c)=> .ok (mk (tk l b) 27 (tk l b).text [x],c)else run l m .post d b:=rfl
  rw [hu]at hR;refine ris p2 λH3 n3 g3 p3=>qb.2 ⟨_,rfl,qi.2 ⟨λh3=> ?_,λh3=>ris p3 λH4 n4 g4 p4=>qb.2 ⟨_,rfl,qi.2 ⟨λh4=> ?_,λh4=> ?_⟩⟩⟩⟩
  ·have h3:is l b [45]=true:=by simpa [isR]using h3
   rw [if_pos (by simp [h3]),zV]at hR
   refine kS p3 λH5 n5 g5 p5=>qb.2 ⟨_,_,_,_,_,_,rfl,p5.new lR λH6 p6=>p6.all .hd rfl rfl λH7 p7=>QU p7 λH8 n8 g8 p8=>qb.2 ⟨_,_,_,_,_,rfl,_,rfl,rfl,p8.one .hd (by simp) rfl λH9 p9=>PS.bump W p9 (isk h3) λH10 p10=>⟨_,_,_,_,_,_,p10.ldAll .hd rfl,p10.newF lR λH11 p11=> ?_⟩⟩⟩
   refine OB.app1 (us:=[]) p11.zero (gr.sub λP hP=> .tail _ (.tail _ hP)) (.tl .hd) (.tail _ (.head _)) (.head _) rfl (by omega) λv H12 G' F' gr' sf hv p12=>⟨rfl,m,v,Nat.lt_succ_self m,ql.okay,by omega,by omega,b+1,_,G',F',OB.fin p12 (List.Sublist.append (.refl _) (.cons _ (.refl _))) (λ_ h=>h),gr',λP hP=>sf (.tail _ (.tail _ (s2 hP))),by simp;omega,?_⟩
   simpa [kq,WG,Y6,mk]using hR
  ·have h4:is l b [33]=true:=by simpa [isR]using h4
   rw [if_pos (by simp [h4]),zV]at hR
   refine kS p4 λH5 n5 g5 p5=>qb.2 ⟨_,_,_,_,_,_,rfl,p5.new lR λH6 p6=>p6.all .hd rfl rfl λH7 p7=>QU p7 λH8 n8 g8 p8=>qb.2 ⟨_,_,_,_,_,rfl,_,rfl,rfl,p8.one .hd (by simp) rfl λH9 p9=>PS.bump W p9 (isk h4) λH10 p10=>⟨_,_,_,_,_,_,p10.ldAll .hd rfl,p10.newF lR λH11 p11=> ?_⟩⟩⟩
   refine OB.app1 (us:=[]) p11.zero (gr.sub λP hP=> .tail _ (.tail _ hP)) (.tl .hd) (.tail _ (.head _)) (.head _) rfl (by omega) λv H12 G' F' gr' sf hv p12=>⟨rfl,m,v,Nat.lt_succ_self m,ql.okay,by omega,by omega,b+1,_,G',F',OB.fin p12 (List.Sublist.append (.refl _) (.cons _ (.refl _))) (λ_ h=>h),gr',λP hP=>sf (.tail _ (.tail _ (s2 hP))),by simp;omega,?_⟩
   simpa [kq,WG,Y6,mk]using hR
  ·have h3:is l b [45]=false:=by simpa [isR]using h3
   have h4:is l b [33]=false:=by simpa [isR]using h4
   rw [if_neg (by simp [h3,h4])]at hR
   exact⟨rfl,o,ql.okay,rfl,by omega,m,b,ts,G,F2,by omega,p4,gr,s2,few,hR⟩
 ·rintro id o H2 n2 ⟨rfl,g2,m,b,ts,G,F2,hm,p2,gr,s2,few,hR⟩
  rw [qm5];unfold qot;have hb:=PS.lt p2
  have p3:=OB.grown p2 gr .hd
  refine jE (ihs m hm).po hR p3 (λxk xs xn xl xc w us c H4 n4 hr g4 p4 hw=>⟨_,_,_,_,_,_,rfl,p4.new lR λH5 p5=>p5.all .hd rfl (jg hw) λH6 p6=>⟨_,gr.len,?_⟩⟩) λf c xk xs xn xl xc w us H4 n4 hr g4 p4 hw=>⟨_,_,_,_,_,_,rfl,p4.new lR λH5 p5=>p5.all .hd rfl (jg hw) λH6 p6=>⟨_,gr.len,?_⟩⟩
  ·cases hr
   refine un2 (F0:=Kids w us::Kids o ts::F2) (by omega) (λP hP=> .tail _ (.tail _ (s2 hP))) (.tail _ (.head _)) hK lR (by omega) ⟨c,none,_,_,_,_,_,_,_,_,p6,λ_ h=>h,.head _,hw,_,by rw [List.drop_length];rfl,rfl⟩ (ql.of_list ?_)
   rw [show Int.ofNat ts.length=(ts.length:Int)from rfl,qw (by omega) (by omega)]
   exact⟨rfl,rfl,rfl,rfl,rfl,trivial⟩
  ·refine un2 (F0:=Kids w us::Kids o ts::F2) (by omega) (λP hP=> .tail _ (.tail _ (s2 hP))) (.tail _ (.head _)) hK lR (by omega) ⟨c,some f,_,_,_,_,_,_,_,_,p6,λ_ h=>h,.head _,hw,_,by rw [List.drop_length];rfl,hr⟩ (ql.of_list ?_)
   rw [show Int.ofNat ts.length=(ts.length:Int)from rfl,qw (by omega) (by omega)]
   exact⟨rfl,rfl,rfl,rfl,rfl,trivial⟩
end
theorem qg2(call:zA)(lp:Nat->jk)(lv:zU)(lvc:zT)(r i x:Nat)(H:qd)(nx:Nat)(K:qv):
  qx PG call (lp 53) 53 (qe PG kP) [1,1,0,0] (qy PG lv lvc K (qF PG kP)) .ret (qj .und [(0,.ptr r 0),(2,.ptr i 0),(3,.ptr x 0)]) H nx [] none=wf PG qG H (.ptr i 0) λv=>K (.ret v) H nx:=by kernel_rfl
section
variable{r tb:Nat}{l:List Tok}{a d:Nat}{bad:Option Flt}{A A1 A':qN}{F:qU}{H:qd}{nx:Nat}{K:qv}{res:Except Flt (qu×Nat)}{I:List qa->Prop}{E:qU}
theorem qp2{b c:Nat}{k:Int}{s:List UInt8}{n li co:Int}{w:qa}{c0:List qa}{N:qd->Prop}(h:OB Z r I E A F H nx)(hb:Own A b [iv k,.str s,iv n,iv li,iv co,w])(u:Upd A c c0 [iv k,.str s,iv n,iv li,iv co,w] A')(hl:c0.length=6)(hw:qI w=true)
  (hK:∀H',OB Z r I E A' F H' nx->N H'):
  ∃(n1:Int) (s1:List UInt8) (x1 y1 z1:Int) (v1:qa),ldN H 6 (.ptr b 0)=some (.agg [iv n1,.str s1,iv x1,iv y1,iv z1,v1])/\∃H1,stC H (.ptr c 0) [iv n1,.str s1,iv x1,iv y1,iv z1,v1]=some H1/\N H1:=
 ⟨_,_,_,_,_,_,h.ldAll hb rfl,h.all u hl.symm (jg hw) hK⟩
theorem qg8(W:zj l){n:Nat}(ihs:∀m,m<=n->qda r tb l m):vt r tb l kP [.ptr r 0] (run l (n+1) .post):=by
 intro Z A F H nx K a d res hrun h hK;refine qk.of_body qr ?_
 rw [qa6];have hW:=W.few
 have hrun:Rs.bind (run l n .prime d a) (λ(x,b)=>run l n (.postGo x) d b)=some res:=hrun
 have go:∀(xb:Nat) H1 n1,nx<=n1->wR Z r tb l d xb ((nx,[iv 0,.str [],iv 0,iv 0,iv 0,.nilSlice])::A) F (λbad b x=>match bad with|none=>run l n (.postGo x) d b=some res|some f=>res= .error f) H1 n1->∀env,ql (qj .und [(3,.ptr xb 0),(2,.ptr nx 0),(0,.ptr r 0)]) env->
   LpP PG 53 (qn (qe PG kP) [1,1,0,0,0]) env H1 n1 [] none (qx PG (qk PG) (LpP PG 53) 53 (qe PG kP) [1,1,0,0] (qy PG (zx (qB PG)) (qS PG (qB PG)) K (qF PG kP))):=by
  intro xb H1 n1 gn hst env henv;refine zu (P:=PG) (X:=Unit) (Y:=Unit) (λ_=>qj .und [(3,.ptr xb 0),(2,.ptr nx 0),(0,.ptr r 0)]) (λ_=>qj .und [(3,.ptr xb 0),(2,.ptr nx 0),(0,.ptr r 0)])
   (λm _ H2 n2=>m<=n/\nx<=n2/\wR Z r tb l d xb ((nx,[iv 0,.str [],iv 0,iv 0,iv 0,.nilSlice])::A) F (λbad b x=>match bad with|none=>run l m (.postGo x) d b=some res|some f=>res= .error f) H2 n2)
   (λid _ H2 n2=>id=0/\nx<=n2/\wR Z r tb l d xb ((nx,[iv 0,.str [],iv 0,iv 0,iv 0,.nilSlice])::A) F (λbad b x=>match bad with|none=>False|some f=>res= .error f) H2 n2) n () henv ⟨Nat.le_refl _,gn,hst⟩ ?_ ?_
  ·rintro m ⟨⟩ H2 n2 ⟨hm,g2,b,bad,xk,xs,xn,xl,xc,w,ts,F1,p1,s1,kw,hw,hR⟩
   refine WpP.part (ts:=[0,2,3]) qr ?_
   rw [qf6];cases bad with
   |some f=>exact ron p1 (qb.2 ⟨_,rfl,qH rfl ⟨rfl,(),ql.okay,rfl,g2,_,_,_,_,_,_,_,_,_,_,p1,s1,kw,hw,hR⟩⟩)
   |none=>
   cases m with
   |zero=>cases hR
   |succ m=>
   have ihm:=ihs m (by omega)
   have hR:(if is l b [91]then Rs.bind (run l m .expr d (b+1)) λ(i,b)=>lift (need l b [93]) λc=>run l m (.postGo (mk (tk l _) 32 [] [.node xk xs xn xl xc ts,i])) d c
    else if is l b [46]then
     if is l (b+1) [40]then Rs.bind (run l m .typ d (b+2)) λ(ty,b)=>lift (need l b [41]) λc=>run l m (.postGo (mk (tk l _) 37 [] [.node xk xs xn xl xc ts,ty])) d c
     else lift (name l (b+1)) λc=>
      if is l c [40]then Rs.bind (row l (run l m .expr d) m c) λ(xs',c)=>run l m (.postGo (mk (tk l b) 31 (tk l (b+1)).text (.node xk xs xn xl xc ts::xs'))) d c
      else run l m (.postGo (mk (tk l b) 30 (tk l (b+1)).text [.node xk xs xn xl xc ts])) d c
    else .ok (.node xk xs xn xl xc ts,b))=some res:=hR
   have more:∀{c:Nat} {bad:Option Flt} {k:Int} {s:List UInt8} {li co:Int} {v:qa} {us:List qu} {nb:Nat} {F2:qU} {H3 n3},PS Z r tb l c bad d ((nb,[iv k,.str s,iv 0,iv li,iv co,v])::(xb,[iv xk,.str xs,iv xn,iv xl,iv xc,w])::(nx,[iv 0,.str [],iv 0,iv 0,iv 0,.nilSlice])::A) F2 H3 n3->Kids v us∈F2->F⊆F2->qI v=true->nx<=n3->
     (match bad with|none=>run l m (.postGo (.node k s 0 li co us)) d c=some res|some f=>res= .error f)->
     ∃(n1:Int) (s1:List UInt8) (x1 y1 z1:Int) (v1:qa),ldN H3 6 (.ptr nb 0)=some (.agg [iv n1,.str s1,iv x1,iv y1,iv z1,v1])/\∃H1,stC H3 (.ptr xb 0) [iv n1,.str s1,iv x1,iv y1,iv z1,v1]=some H1/\
      ([]=([]:Dfs)/\∃(m':Nat) (x':Unit),m'<m+1/\ql (qj .und [(3,.ptr xb 0),(2,.ptr nx 0),(0,.ptr r 0)]) (qj .und [(0,.ptr r 0),(2,.ptr nx 0),(3,.ptr xb 0)])/\m'<=n/\nx<=n3/\wR Z r tb l d xb ((nx,[iv 0,.str [],iv 0,iv 0,iv 0,.nilSlice])::A) F (λbad b x=>match bad with|none=>run l m' (.postGo x) d b=some res|some f=>res= .error f) H1 n3):=by
    intro c bad k s li co v us nb F2 H3 n3 p hv hs hc hn hR2;refine qp2 p .hd (.tl .hd) rfl hc λH4 p4=>⟨rfl,m,(),Nat.lt_succ_self m,ql.okay,by omega,hn,c,bad,_,_,_,_,_,_,us,F2,OB.fin p4 (.cons _ (.refl _)) (λ_ h=>h),hs,hv,hc,hR2⟩
   refine ron p1 (qb.2 ⟨_,rfl,qK rfl (kS p1 λH3 n3 g3 p3=>qb.2 ⟨_,_,_,_,_,_,rfl,p3.new lR λH4 p4=>p4.all .hd rfl rfl λH5 p5=>kA W p5 (λhdot H6 n6 g6 p6=>qb.2 ⟨_,rfl,qH rfl ?_⟩) λ_ hdot H6 n6 g6 p6=>qb.2 ⟨_,rfl,qK rfl ?_⟩⟩)⟩)
   ·have hdot:is l b [46]=false:=hdot
    refine kA W p6 (λhbr H7 n7 g7 p7=>qb.2 ⟨_,rfl,qH rfl ?_⟩) λ_ hbr H7 n7 g7 p7=>qb.2 ⟨_,rfl,qK rfl ⟨_,rfl,rfl,p7.one .hd (by simp) rfl λH8 p8=> ?_⟩⟩
    ·rw [show is l b [91]=false from hbr,hdot]at hR;simp only [Bool.false_eq_true,if_false]at hR
     cases hR
     refine qp2 p7 (.tl .hd) (.tl (.tl .hd)) rfl hw λH8 p8=> ?_
     show qx PG _ _ _ _ _ _ .ret _ _ _ _ _
     rw [qg2,yV];exact⟨_,_,_,_,_,_,p8.ldAll (.tl (.tl .hd)) rfl,hK.ok rfl p8 hw (m:=kw) (ss:=s1)⟩
    ·rw [hbr]at hR;simp only [if_true]at hR
     refine Vg ihm.ex hR p8 (.tl .hd) kw hw .hd rfl (λz c H9 n9 hr g9 p9=> ?_) λf c z H9 n9 hr g9 p9=> ?_
     ·refine zo W p9 (λhno H10 n10 g10 p10=>qb.2 ?_) λhyes H10 n10 g10 p10=>qb.2 ?_
      ·simp [need,hno,lift]at hr
       exact more p10 (.head _) (λP hP=> .tail _ (s1 hP)) rfl (by omega) hr.symm
      ·simp only [need,hyes,lift,if_true]at hr
       exact more p10 (.head _) (λP hP=> .tail _ (s1 hP)) rfl (by omega) hr
     ·exact zd p9 (qb.2 (more p9 (.head _) (λP hP=> .tail _ (s1 hP)) rfl (by omega) hr))
   ·rw [K8 hdot (by decide),hdot]at hR
    simp only [Bool.false_eq_true,if_false,if_true]at hR
    refine kA W p6 (λhpar H7 n7 g7 p7=>qb.2 ⟨_,rfl,qH rfl ?_⟩) λ_ hpar H7 n7 g7 p7=>qb.2 ⟨_,rfl,qK rfl ⟨_,rfl,rfl,p7.one .hd (by simp) rfl λH8 p8=> ?_⟩⟩
    ·rw [show is l (b+1) [40]=false from hpar]at hR;simp only [Bool.false_eq_true,if_false]at hR
     refine vO W p7 (λhk H8 n8 g8 p8=>qb.2 ⟨_,rfl,_,rfl,rfl,p8.one .hd (by simp) rfl λH9 p9=>⟨_,_,_,_,_,_,p9.ldAll (.tl .hd) rfl,p9.newF lR λH10 p10=>⟨_,rfl,rfl,p10.one .hd (by simp) rfl λH11 p11=>ris p11 λH12 n12 g12 p12=>qb.2 ⟨_,rfl,qH rfl ?_⟩⟩⟩⟩)
      λhk H8 n8 g8 p8=>qb.2 ⟨_,rfl,_,rfl,rfl,p8.one .hd (by simp) rfl λH9 p9=>⟨_,_,_,_,_,_,p9.ldAll (.tl .hd) rfl,p9.newF lR λH10 p10=>⟨_,rfl,rfl,p10.one .hd (by simp) rfl λH11 p11=>ris p11 λH12 n12 g12 p12=>qb.2 ⟨_,rfl,qi.2 ⟨λh12=> ?_,λh12=> ?_⟩⟩⟩⟩⟩
     ·simp [name,hk,lift]at hR
      have p13:=p12.add (P:=Kids (.slice n8 0 1 6 true) [.node xk xs xn xl xc ts]) λΓ q=>jS (q _ (.head _)) (q _ (.tail _ (List.mem_append.2 (.inl kw))))
      exact more p13 (.head _) (λP hP=> .tail _ (.tail _ (s1 hP))) rfl (by omega) hR.symm
     ·have h12:is l (b+1+1) [40]=true:=by simpa [isR]using h12
      simp only [name,hk,lift,beq_self_eq_true,if_true,h12]at hR
      obtain⟨q1,hz⟩:True/\True:=⟨trivial,trivial⟩
      refine⟨_,rfl,rfl,p12.one .hd (by simp) rfl λH13 p13=>⟨_,rfl,_,p13.ld1 .hd 5,⟨⟨_,p13.ld1 .hd 5,rfl⟩,trivial⟩,?_⟩⟩
      have p13':PS Z r tb l (b+1+1) none d _ _ H13 (n12+7):=OB.more p13 (by omega)
      have fin:∀{c:Nat} {bad:Option Flt} {v:qa} {us:List qu} {H14 n14},PS Z r tb l c bad d ((n3,[iv 31,.str (tk l (b+1)).text,iv 0,iv (tk l b).line,iv (tk l b).col,.slice n8 0 1 6 true])::(xb,[iv xk,.str xs,iv xn,iv xl,iv xc,w])::(nx,[iv 0,.str [],iv 0,iv 0,iv 0,.nilSlice])::A) (Kids v us::RowF n8 [iv xk,.str xs,iv xn,iv xl,iv xc,w]::F1) H14 n14->us.length<=5000->n12+7<=n14->
        (match bad with|none=>run l m (.postGo (mk (tk l b) 31 (tk l (b+1)).text (.node xk xs xn xl xc ts::us))) d c=some res|some f=>res= .error f)->
        ((∃v1,ld1 H14 (.ptr n3 5)=some v1/\v1= .slice n8 0 1 6 true)/\True)/\∃i1 l1,zJ 6 H14 v=some (i1,l1)/\qq l1=true/\∃v2 H15 i2,zt H14 n14 6 72 (.slice n8 0 1 6 true) i1 l1=some (v2,H15,i2)/\∃v3,some (u0 n3 5)=some v3/\True/\qI v2=true/\∃H16,stC H15 v3 [v2]=some H16/\True/\
         ∃(n1:Int) (s1:List UInt8) (x1 y1 z1:Int) (v1:qa),ldN H16 6 (.ptr n3 0)=some (.agg [iv n1,.str s1,iv x1,iv y1,iv z1,v1])/\∃H1,stC H16 (.ptr xb 0) [iv n1,.str s1,iv x1,iv y1,iv z1,v1]=some H1/\
          ([]=([]:Dfs)/\∃(m':Nat) (x':Unit),m'<m+1/\ql (qj .und [(3,.ptr xb 0),(2,.ptr nx 0),(0,.ptr r 0)]) (qj .und [(0,.ptr r 0),(2,.ptr nx 0),(3,.ptr xb 0)])/\m'<=n/\nx<=i2/\wR Z r tb l d xb ((nx,[iv 0,.str [],iv 0,iv 0,iv 0,.nilSlice])::A) F (λbad b x=>match bad with|none=>run l m' (.postGo x) d b=some res|some f=>res= .error f) H1 i2):=by
       intro c bad v us H14 n14 p14 few g14 hR2;refine⟨⟨⟨_,p14.ld1 .hd 5,rfl⟩,trivial⟩,?_⟩
       have p15:=p14.add (P:=vd [iv xk,.str xs,iv xn,iv xl,iv xc,w] [.node xk xs xn xl xc ts]) λΓ q=>by
        have:=zf.cons (yZ (k:=xk) (s:=xs) (n:=xn) (li:=xl) (co:=xc) (q (Kids w ts) (List.mem_append.2 (.inl (.tail _ (.tail _ kw)))))) (.nil (ex:=λ_=>False) (Γ:=Γ))
        simpa [vd]using this
       refine p15.appAll (t1:=[.node xk xs xn xl xc ts]) (.tail _ (.tail _ (.head _))) (.head _) (.tail _ (.head _)) rfl (by simp) (by simp;omega) λv2 H15 n15 g15 p16 hv2=>⟨_,rfl,trivial,hv2,p16.one .hd (by simp) hv2 λH16 p17=>⟨trivial,?_⟩⟩
       exact more p17 (.head _) (λP hP=> .tail _ (.tail _ (.tail _ (.tail _ (s1 hP))))) hv2 (by omega) hR2
      rcases Ps.bind_some hR with⟨e,e1,e2⟩|⟨⟨us,c⟩,e1,e2⟩
      ·exact KK W ihm.ex e1 p13' ⟨λv ts b H' nx' e=>(by cases e),λf c v us H14 n14 e g14 p14 hv few=>qb.2 (fin p14 few g14 (by cases e;exact e2))⟩
      ·exact KK W ihm.ex e1 p13' ⟨λv us c H14 n14 e g14 p14 hv few=>qb.2 (fin p14 few g14 (by cases e;exact e2)),λf c v us H14 n14 e=>(by cases e)⟩
     ·have h12:is l (b+1+1) [40]=false:=by simpa [isR]using h12
      simp only [name,hk,lift,beq_self_eq_true,if_true,h12,Bool.false_eq_true,if_false]at hR
      have p13:=p12.add (P:=Kids (.slice n8 0 1 6 true) [.node xk xs xn xl xc ts]) λΓ q=>jS (q _ (.head _)) (q _ (.tail _ (List.mem_append.2 (.inl kw))))
      exact more p13 (.head _) (λP hP=> .tail _ (.tail _ (s1 hP))) rfl (by omega) hR
    ·rw [hpar]at hR;simp only [if_true]at hR
     refine Vg (yi W m) hR p8 (.tl .hd) kw hw .hd rfl (λz c H9 n9 hr g9 p9=> ?_) λf c z H9 n9 hr g9 p9=> ?_
     ·refine zo W p9 (λhno H10 n10 g10 p10=>qb.2 ?_) λhyes H10 n10 g10 p10=>qb.2 ?_
      ·simp [need,hno,lift]at hr
       exact more p10 (.head _) (λP hP=> .tail _ (s1 hP)) rfl (by omega) hr.symm
      ·simp only [need,hyes,lift,if_true]at hr
       exact more p10 (.head _) (λP hP=> .tail _ (s1 hP)) rfl (by omega) hr
     ·exact zd p9 (qb.2 (more p9 (.head _) (λP hP=> .tail _ (s1 hP)) rfl (by omega) hr))
  ·rintro id ⟨⟩ H2 n2 ⟨rfl,g2,b,bad,xk,xs,xn,xl,xc,w,ts,F1,p1,s1,kw,hw,hR⟩
   rw [qff];cases bad with
   |none=>exact hR.elim
   |some f=>exact rb6 p1 .hd (.tl .hd) rfl hw λH6 p6=>hK.no ts hR p6 hw (m:=kw) (ss:=s1)
 refine h.new lR λH0 p0=>jE (ihs n lR).pr hrun p0 (λxk xs xn xl xc w ts b H2 n2 hr g2 p2 hw=>⟨_,_,_,_,_,_,rfl,p2.new lR λH3 p3=>p3.all .hd rfl (jg hw) λH4 p4=> ?_⟩) λf b xk xs xn xl xc w ts H2 n2 hr g2 p2 hw=>⟨_,_,_,_,_,_,rfl,p2.new lR λH3 p3=>p3.all .hd rfl (jg hw) λH4 p4=> ?_⟩
 ·exact go n2 _ _ (by omega) ⟨b,none,_,_,_,_,_,_,_,_,p4,List.subset_cons_self _ _,.head _,hw,hr⟩ _ (ql.okay)
 ·exact go n2 _ _ (by omega) ⟨b,some f,_,_,_,_,_,_,_,_,p4,List.subset_cons_self _ _,.head _,hw,hr⟩ _ (ql.okay)
end
section
variable{r tb:Nat}{l:List Tok}{a d:Nat}{bad:Option Flt}{A A1 A':qN}{F:qU}{H:qd}{nx:Nat}{K:qv}{res:Except Flt (qu×Nat)}{I:List qa->Prop}{E:qU}
theorem qdc(W:zj l){n:Nat}(ih:qda r tb l n):vt r tb l y9 [.ptr r 0] (run l (n+1) .prime):=by
 intro Z A F H nx K a d res hrun h hK;refine qk.of_body qr ?_
 rw [X7];have hrun:(if(tk l a).kind==4 then .ok (.node 21 [] (tk l a).n (tk l a).line (tk l a).col [],a+1)
   else if(tk l a).kind==5 then .ok (leaf (tk l a) 24 (tk l a).text,a+1)
   else if(tk l a).kind==2 then
    if is l (a+1) [40]then Rs.bind (row l (run l n .expr d) n (a+1)) λ(xs,b)=> .ok (mk (tk l a) 29 (tk l a).text xs,b)
    else .ok (leaf (tk l a) 26 (tk l a).text,a+1)
   else if is l a wTrue then .ok (leaf (tk l a) 22 [],a+1)
   else if is l a wFalse then .ok (leaf (tk l a) 23 [],a+1)
   else if is l a wNil then .ok (leaf (tk l a) 25 [],a+1)
   else if is l a [40]then Rs.bind (run l n .expr d (a+1)) λ(x,b)=>lift (need l b [41]) λc=> .ok (x,c)
   else if is l a wLen then lift (need l (a+1) [40]) λb=>Rs.bind (run l n .expr d b) λ(x,c)=>lift (need l c [41]) λg=> .ok (mk (tk l a) 33 [] [x],g)
   else if is l a wNew then lift (need l (a+1) [40]) λb=>Rs.bind (run l n .typ d b) λ(x,c)=>lift (need l c [41]) λg=> .ok (mk (tk l a) 35 [] [x],g)
   else if is l a wMake then lift (need l (a+1) [40]) λb=>Rs.bind (run l n .typ d b) λ(x,c)=>lift (need l c [44]) λe=>Rs.bind (run l n .expr d e) λ(y,g)=>lift (need l g [41]) λi=> .ok (mk (tk l a) 34 [] [x,y],i)
   else if is l a wInput then lift (need l (a+1) [40]) λb=>lift (need l b [41]) λc=> .ok (leaf (tk l a) 36 [],c)
   else .bad (flt l a 13))=some res:=hrun
 refine h.new lR λH0 p0=>kS p0 λH1 n1 g1 p1=>qb.2 ⟨_,_,_,_,_,_,rfl,p1.new lR λH2 p2=>p2.all .hd rfl rfl λH3 p3=>ron p3 (qb.2 ⟨_,rfl,qH rfl (QU p3 λH4 n4 g4 p4=>qb.2 ⟨_,_,_,_,_,rfl,p4.new lR λH5 p5=>p5.all .hd rfl rfl λH6 p6=>⟨_,rfl,_,p6.ld1 .hd 0,qi.2 ⟨λh4=> ?_,λh4=>⟨_,rfl,_,p6.ld1 .hd 0,qi.2 ⟨λh5=> ?_,λh5=>⟨_,rfl,_,p6.ld1 .hd 0,qi.2 ⟨λh2=> ?_,λh2=> ?_⟩⟩⟩⟩⟩⟩⟩)⟩)⟩
 ·have h4:(tk l a).kind=4:=of_decide_eq_true h4
  rw [if_pos (by simp [h4])]at hrun
  cases hrun
  exact⟨_,rfl,rfl,p6.one (.tl .hd) (by simp) rfl λH7 p7=>⟨_,rfl,_,p7.ld1 .hd 2,_,rfl,rfl,p7.one (.tl .hd) (by simp) rfl λH8 p8=>PS.bump W p8 (by rw [h4];decide) λH9 p9=>rb6 p9 (.tl .hd) (.tl (.tl .hd)) rfl rfl λH10 p10=>hK.nilOk rfl p10⟩⟩
 ·have h4:¬(tk l a).kind=4:=of_decide_eq_false h4
  have h5:(tk l a).kind=5:=of_decide_eq_true h5
  rw [if_neg (by simp [h4]),if_pos (by simp [h5])]at hrun
  cases hrun
  exact⟨_,rfl,rfl,p6.one (.tl .hd) (by simp) rfl λH7 p7=>⟨_,rfl,_,p7.ld1 .hd 1,_,rfl,rfl,p7.one (.tl .hd) (by simp) rfl λH8 p8=>PS.bump W p8 (by rw [h5];decide) λH9 p9=>rb6 p9 (.tl .hd) (.tl (.tl .hd)) rfl rfl λH10 p10=>hK.nilOk rfl p10⟩⟩
 ·have h4:¬(tk l a).kind=4:=of_decide_eq_false h4
  have h5:¬(tk l a).kind=5:=of_decide_eq_false h5
  have h2:(tk l a).kind=2:=of_decide_eq_true h2
  rw [if_neg (by simp [h4]),if_neg (by simp [h5]),if_pos (by simp [h2])]at hrun
  refine⟨_,rfl,_,p6.ld1 .hd 1,_,rfl,rfl,p6.one (.tl .hd) (by simp) rfl λH8 p8=>PS.bump W p8 (by rw [h2];decide) λH9 p9=>ris p9 λH10 n10 g10 p10=>qb.2 ⟨_,rfl,qi.2 ⟨λhp=> ?_,λhp=> ?_⟩⟩⟩
  ·have hp:is l (a+1) [40]=true:=by simpa [isR]using hp
   rw [if_pos hp]at hrun;refine⟨_,rfl,rfl,p10.one (.tl .hd) (by simp) rfl λH11 p11=> ?_⟩
   rcases Ps.bind_some hrun with⟨e,e1,e2⟩|⟨⟨us,c⟩,e1,e2⟩
   ·refine KK W ih.ex e1 p11 ⟨λv ts b H' nx' e=>(by cases e),λf c v us H14 n14 e g14 p14 hv few=>qb.2 ⟨_,rfl,hv,p14.one (.tl .hd) (by simp) hv λH15 p15=>rb6 p15 (.tl .hd) (.tl (.tl .hd)) rfl hv λH16 p16=>hK.no us ?_ p16 hv⟩⟩
    cases e;exact e2
   ·refine KK W ih.ex e1 p11 ⟨λv us c H14 n14 e g14 p14 hv few=>qb.2 ⟨_,rfl,hv,p14.one (.tl .hd) (by simp) hv λH15 p15=>rb6 p15 (.tl .hd) (.tl (.tl .hd)) rfl hv λH16 p16=>hK.ok ?_ p16 hv⟩,λf c v us H14 n14 e=>(by cases e)⟩
    cases e;cases e2;rfl
  ·have hp:is l (a+1) [40]=false:=by simpa [isR]using hp
   rw [if_neg (by simp [hp])]at hrun
   cases hrun
   exact rb6 p10 (.tl .hd) (.tl (.tl .hd)) rfl rfl λH11 p11=>hK.nilOk rfl p11
 have h4:¬(tk l a).kind=4:=of_decide_eq_false h4
 have h5:¬(tk l a).kind=5:=of_decide_eq_false h5
 have h2:¬(tk l a).kind=2:=of_decide_eq_false h2
 rw [if_neg (by simp [h4]),if_neg (by simp [h5]),if_neg (by simp [h2])]at hrun
 have T:∀{s:List UInt8} {α:Type} {x y:α},is l a s=true->(if is l a s=true then x else y)=x:=λh=>if_pos h
 have N:∀{s:List UInt8} {α:Type} {x y:α},is l a s=false->(if is l a s=true then x else y)=y:=λh=>if_neg (by rw [h];decide)
 refine kA W p6 (λq1 H7 n7 g7 p7=>qb.2 ⟨_,rfl,qH rfl ?_⟩) λ_ q1 H7 n7 g7 p7=>qb.2 ⟨_,rfl,qK rfl ⟨_,rfl,rfl,p7.one (.tl .hd) (by simp) rfl λH8 p8=> ?_⟩⟩
 rotate_left
 ·rw [T (s:=wTrue) q1]at hrun;cases hrun
  exact rb6 p8 (.tl .hd) (.tl (.tl .hd)) rfl rfl λH9 p9=>hK.nilOk rfl p9
 rw [N (s:=wTrue) q1]at hrun;refine kA W p7 (λq2 H7 n7 g7 p7=>qb.2 ⟨_,rfl,qH rfl ?_⟩) λ_ q2 H7 n7 g7 p7=>qb.2 ⟨_,rfl,qK rfl ⟨_,rfl,rfl,p7.one (.tl .hd) (by simp) rfl λH8 p8=> ?_⟩⟩
 rotate_left
 ·rw [T (s:=wFalse) q2]at hrun;cases hrun
  exact rb6 p8 (.tl .hd) (.tl (.tl .hd)) rfl rfl λH9 p9=>hK.nilOk rfl p9
 rw [N (s:=wFalse) q2]at hrun;refine kA W p7 (λq3 H7 n7 g7 p7=>qb.2 ⟨_,rfl,qH rfl ?_⟩) λ_ q3 H7 n7 g7 p7=>qb.2 ⟨_,rfl,qK rfl ⟨_,rfl,rfl,p7.one (.tl .hd) (by simp) rfl λH8 p8=> ?_⟩⟩
 rotate_left
 ·rw [T (s:=wNil) q3]at hrun;cases hrun
  exact rb6 p8 (.tl .hd) (.tl (.tl .hd)) rfl rfl λH9 p9=>hK.nilOk rfl p9
 rw [N (s:=wNil) q3]at hrun;refine kA W p7 (λq4 H7 n7 g7 p7=>qb.2 ⟨_,rfl,qH rfl ?_⟩) λ_ q4 H7 n7 g7 p7=>qb.2 ⟨_,rfl,qK rfl ?_⟩
 rotate_left
 ·rw [T (s:=[40]) q4]at hrun;refine jE ih.ex hrun p7 (λk s nn li co w us c H9 n9 hr g9 p9 hw=>⟨_,_,_,_,_,_,rfl,p9.all (.tl .hd) rfl (jg hw) λH10 p10=> ?_⟩) λf c k s nn li co w us H9 n9 hr g9 p9 hw=>⟨_,_,_,_,_,_,rfl,p9.all (.tl .hd) rfl (jg hw) λH10 p10=> ?_⟩
  ·refine zo W p10 (λhno H11 n11 g11 p11=>qb.2 (rb6 p11 (.tl .hd) (.tl (.tl .hd)) rfl hw λH12 p12=>hK.no us ?_ p12 hw)) λhyes H11 n11 g11 p11=>qb.2 (rb6 p11 (.tl .hd) (.tl (.tl .hd)) rfl hw λH12 p12=>hK.ok ?_ p12 hw)
   ·simp [need,hno,lift]at hr;exact hr.symm
   ·simp [need,hyes,lift,Rs.ok]at hr;exact hr.symm
  ·exact zd p10 (qb.2 (rb6 p10 (.tl .hd) (.tl (.tl .hd)) rfl hw λH12 p12=>hK.no us hr p12 hw))
 rw [N (s:=[40]) q4]at hrun;refine kA W p7 (λq5 H7 n7 g7 p7=>qb.2 ⟨_,rfl,qH rfl ?_⟩) λ_ q5 H7 n7 g7 p7=>qb.2 ⟨_,rfl,qK rfl ⟨_,rfl,rfl,p7.one (.tl .hd) (by simp) rfl λH8 p8=> ?_⟩⟩
 rotate_left
 ·rw [T (s:=wLen) q5]at hrun;refine zo W p8 (λhno H9 n9 g9 p9=>qb.2 (ja wQ p9 λc k s nn li co w us H10 n10 g10 p10 hw=>⟨_,_,_,_,_,_,rfl,p10.newF lR λH11 p11=>⟨_,rfl,rfl,p11.one (.tl .hd) (by simp) rfl λH12 p12=>zd p12 (qb.2 (rb6 p12 (.tl .hd) (.tl (.tl .hd)) rfl rfl λH13 p13=> ?_))⟩⟩)) λhyes H9 n9 g9 p9=>qb.2 ?_
  ·have p14:=p13.add (P:=Kids (.slice n10 0 1 6 true) [.node k s nn li co us]) λΓ q=>jS (q _ (.head _)) (q _ (.tail _ (.head _)))
   simp [need,hno,lift]at hrun
   exact hK.no _ hrun.symm p14 rfl
  ·simp only [need,hyes,lift,if_true]at hrun
   refine jE ih.ex hrun p9 (λk s nn li co w us c H10 n10 hr g10 p10 hw=>⟨_,_,_,_,_,_,rfl,p10.newF lR λH11 p11=>⟨_,rfl,rfl,p11.one (.tl .hd) (by simp) rfl λH12 p12=> ?_⟩⟩) λf c k s nn li co w us H10 n10 hr g10 p10 hw=>⟨_,_,_,_,_,_,rfl,p10.newF lR λH11 p11=>⟨_,rfl,rfl,p11.one (.tl .hd) (by simp) rfl λH12 p12=>zd p12 (qb.2 (rb6 p12 (.tl .hd) (.tl (.tl .hd)) rfl rfl λH13 p13=> ?_))⟩⟩
   ·have p12:=p12.add (P:=Kids (.slice n10 0 1 6 true) [.node k s nn li co us]) λΓ q=>jS (q _ (.head _)) (q _ (.tail _ (.head _)))
    refine zo W p12 (λhno H11 n11 g11 p11=>qb.2 (rb6 p11 (.tl .hd) (.tl (.tl .hd)) rfl rfl λH12 p12=>hK.no _ ?_ p12 rfl)) λhyes H11 n11 g11 p11=>qb.2 (rb6 p11 (.tl .hd) (.tl (.tl .hd)) rfl rfl λH12 p12=>hK.ok ?_ p12 rfl (m:= .head _))
    ·simp [need,hno]at hr;exact hr.symm
    ·simp [need,hyes,Rs.ok]at hr;exact hr.symm
   ·have p14:=p13.add (P:=Kids (.slice n10 0 1 6 true) [.node k s nn li co us]) λΓ q=>jS (q _ (.head _)) (q _ (.tail _ (.head _)))
    exact hK.no _ hr p14 rfl
 rw [N (s:=wLen) q5]at hrun;refine kA W p7 (λq6 H7 n7 g7 p7=>qb.2 ⟨_,rfl,qH rfl ?_⟩) λ_ q6 H7 n7 g7 p7=>qb.2 ⟨_,rfl,qK rfl ⟨_,rfl,rfl,p7.one (.tl .hd) (by simp) rfl λH8 p8=> ?_⟩⟩
 rotate_left
 ·rw [N (s:=wNew) (K8 q6 (by decide)),T (s:=wMake) q6]at hrun
  refine zo W p8 (λhno H9 n9 g9 p9=>qb.2 (ja wr p9 λc k s nn li co w us H10 n10 g10 p10 hw=>⟨_,_,_,_,_,_,rfl,p10.new lR λH11 p11=>p11.all .hd rfl (jg hw) λH12 p12=>zd p12 (qb.2 (XR wQ p12 .hd (.head _) hw (.tl (.tl .hd)) rfl λc z H13 n13 g13 p13=>zd p13 (qb.2 (rb6 p13 (.tl (.tl .hd)) (.tl (.tl (.tl .hd))) rfl rfl λH14 p14=>hK.no _ ?_ p14 rfl (m:= .head _)))))⟩)) λhyes H9 n9 g9 p9=>qb.2 ?_
  ·simp [need,hno,lift]at hrun;exact hrun.symm
  ·simp only [need,hyes,lift,if_true]at hrun
   refine jE (yi W n) hrun p9 (λk s nn li co w us c H10 n10 hr g10 p10 hw=>⟨_,_,_,_,_,_,rfl,p10.new lR λH11 p11=>p11.all .hd rfl (jg hw) λH12 p12=> ?_⟩) λf c k s nn li co w us H10 n10 hr g10 p10 hw=>⟨_,_,_,_,_,_,rfl,p10.new lR λH11 p11=>p11.all .hd rfl (jg hw) λH12 p12=>zd p12 (qb.2 (XR wQ p12 .hd (.head _) hw (.tl (.tl .hd)) rfl λc z H13 n13 g13 p13=>zd p13 (qb.2 (rb6 p13 (.tl (.tl .hd)) (.tl (.tl (.tl .hd))) rfl rfl λH14 p14=>hK.no _ hr p14 rfl (m:= .head _)))))⟩
   refine zo W p12 (λhno H11 n11 g11 p11=>qb.2 (XR wQ p11 .hd (.head _) hw (.tl (.tl .hd)) rfl λc z H13 n13 g13 p13=>zd p13 (qb.2 (rb6 p13 (.tl (.tl .hd)) (.tl (.tl (.tl .hd))) rfl rfl λH14 p14=>hK.no _ ?_ p14 rfl (m:= .head _))))) λhyes H11 n11 g11 p11=>qb.2 ?_
   ·simp [need,hno]at hr;exact hr.symm
   ·simp only [need,hyes,if_true]at hr
    refine Vg ih.ex hr p11 .hd (.head _) hw (.tl (.tl .hd)) rfl (λz c H13 n13 hr g13 p13=> ?_) λf c z H13 n13 hr g13 p13=>zd p13 (qb.2 (rb6 p13 (.tl (.tl .hd)) (.tl (.tl (.tl .hd))) rfl rfl λH14 p14=>hK.no _ hr p14 rfl (m:= .head _)))
    refine zo W p13 (λhno H11 n11 g11 p11=>qb.2 (rb6 p11 (.tl (.tl .hd)) (.tl (.tl (.tl .hd))) rfl rfl λH14 p14=>hK.no _ ?_ p14 rfl (m:= .head _))) λhyes H11 n11 g11 p11=>qb.2 (rb6 p11 (.tl (.tl .hd)) (.tl (.tl (.tl .hd))) rfl rfl λH14 p14=>hK.ok ?_ p14 rfl (m:= .head _))
    ·simp [need,hno]at hr;exact hr.symm
    ·simp [need,hyes,Rs.ok]at hr;exact hr.symm
 refine kA W p7 (λq7 H7 n7 g7 p7=>qb.2 ⟨_,rfl,qH rfl ?_⟩) λ_ q7 H7 n7 g7 p7=>qb.2 ⟨_,rfl,qK rfl ⟨_,rfl,rfl,p7.one (.tl .hd) (by simp) rfl λH8 p8=> ?_⟩⟩
 rotate_left
 ·rw [T (s:=wNew) q7]at hrun;refine zo W p8 (λhno H9 n9 g9 p9=>qb.2 (ja wr p9 λc k s nn li co w us H10 n10 g10 p10 hw=>⟨_,_,_,_,_,_,rfl,p10.newF lR λH11 p11=>⟨_,rfl,rfl,p11.one (.tl .hd) (by simp) rfl λH12 p12=>zd p12 (qb.2 (rb6 p12 (.tl .hd) (.tl (.tl .hd)) rfl rfl λH13 p13=> ?_))⟩⟩)) λhyes H9 n9 g9 p9=>qb.2 ?_
  ·have p14:=p13.add (P:=Kids (.slice n10 0 1 6 true) [.node k s nn li co us]) λΓ q=>jS (q _ (.head _)) (q _ (.tail _ (.head _)))
   simp [need,hno,lift]at hrun
   exact hK.no _ hrun.symm p14 rfl
  ·simp only [need,hyes,lift,if_true]at hrun
   refine jE (yi W n) hrun p9 (λk s nn li co w us c H10 n10 hr g10 p10 hw=>⟨_,_,_,_,_,_,rfl,p10.newF lR λH11 p11=>⟨_,rfl,rfl,p11.one (.tl .hd) (by simp) rfl λH12 p12=> ?_⟩⟩) λf c k s nn li co w us H10 n10 hr g10 p10 hw=>⟨_,_,_,_,_,_,rfl,p10.newF lR λH11 p11=>⟨_,rfl,rfl,p11.one (.tl .hd) (by simp) rfl λH12 p12=>zd p12 (qb.2 (rb6 p12 (.tl .hd) (.tl (.tl .hd)) rfl rfl λH13 p13=> ?_))⟩⟩
   ·have p12:=p12.add (P:=Kids (.slice n10 0 1 6 true) [.node k s nn li co us]) λΓ q=>jS (q _ (.head _)) (q _ (.tail _ (.head _)))
    refine zo W p12 (λhno H11 n11 g11 p11=>qb.2 (rb6 p11 (.tl .hd) (.tl (.tl .hd)) rfl rfl λH12 p12=>hK.no _ ?_ p12 rfl)) λhyes H11 n11 g11 p11=>qb.2 (rb6 p11 (.tl .hd) (.tl (.tl .hd)) rfl rfl λH12 p12=>hK.ok ?_ p12 rfl (m:= .head _))
    ·simp [need,hno]at hr;exact hr.symm
    ·simp [need,hyes,Rs.ok]at hr;exact hr.symm
   ·have p14:=p13.add (P:=Kids (.slice n10 0 1 6 true) [.node k s nn li co us]) λΓ q=>jS (q _ (.head _)) (q _ (.tail _ (.head _)))
    exact hK.no _ hr p14 rfl
 rw [N (s:=wNew) q7,N (s:=wMake) q6]at hrun;refine kA W p7 (λq8 H7 n7 g7 p7=>qb.2 ⟨_,rfl,qH rfl ?_⟩) λ_ q8 H7 n7 g7 p7=>qb.2 ⟨_,rfl,qK rfl ⟨_,rfl,rfl,p7.one (.tl .hd) (by simp) rfl λH8 p8=> ?_⟩⟩
 rotate_left
 ·rw [T (s:=wInput) q8]at hrun;refine zo W p8 (λhno H9 n9 g9 p9=>qb.2 (zd p9 (qb.2 (rb6 p9 (.tl .hd) (.tl (.tl .hd)) rfl rfl λH13 p13=>hK.nilNo ?_ p13)))) λhyes H9 n9 g9 p9=>qb.2 (zo W p9 (λhno H10 n10 g10 p10=>qb.2 (rb6 p10 (.tl .hd) (.tl (.tl .hd)) rfl rfl λH13 p13=>hK.nilNo ?_ p13)) λhyes2 H10 n10 g10 p10=>qb.2 (rb6 p10 (.tl .hd) (.tl (.tl .hd)) rfl rfl λH13 p13=>hK.nilOk ?_ p13))
  ·simp [need,hno,lift]at hrun;exact hrun.symm
  ·simp [need,hyes,hno,lift]at hrun;exact hrun.symm
  ·simp [need,hyes,hyes2,lift,Rs.ok]at hrun;exact hrun.symm
 rw [N (s:=wInput) q8]at hrun;cases hrun
 exact yQ (by decide) p7 λH8 n8 g8 p8=>qb.2 (rb6 p8 (.tl .hd) (.tl (.tl .hd)) rfl rfl λH13 p13=>hK.nilNo rfl p13)
theorem qha(W:zj l):∀n,qda r tb l n:=by
 intro n
 induction n using Nat.strongRecOn with
 |_ n ih=>
  cases n with
  |zero=>exact⟨λ_ _ _ _ _ _ _ _ _ h=>(by cases h),λ_ _ _ _ _ _ _ _ _ _ h=>(by cases h),λ_ _ _ _ _ _ _ _ _ h=>(by cases h),λ_ _ _ _ _ _ _ _ _ h=>(by cases h),λ_ _ _ _ _ _ _ _ _ h=>(by cases h)⟩
  |succ n=>
   have ihs:∀m,m<=n->qda r tb l m:=λm hm=>ih m (by omega)
   exact⟨qcr (ihs n lR),YD W ihs,qbw W ihs,qg8 W ihs,qdc W (ihs n lR)⟩
end
theorem Upd.app{A A':qN}{b:Nat}{cs ds:List qa}(u:Upd A b cs ds A'):∀G:qN,Upd (G++A) b cs ds (G++A')
 |[]=>u
 |x::G=> .tl (u.app G)
theorem Own.app{A:qN}{b:Nat}{cs:List qa}(u:Own A b cs):∀G:qN,Own (G++A) b cs
 |[]=>u
 |x::G=> .tl (u.app G)
structure ql9(r tb:Nat)(l:List Tok)(n:Nat):Prop where
 bl:vt r tb l zF [.ptr r 0] (run l n .block)
 fi:vt r tb l QE [.ptr r 0] (run l n .ifs)
 st:vt r tb l yL [.ptr r 0] (run l n .stmt)
section
variable{r tb:Nat}{l:List Tok}{a d:Nat}{bad:Option Flt}{A A1 A':qN}{F:qU}{H:qd}{nx:Nat}{K:qv}{res:Except Flt (qu×Nat)}{I:List qa->Prop}{E:qU}
theorem OB.freezeK{b:Nat}{cs:List qa}{ts:List qu}{full:Bool}{n:Nat}(h:OB Z r I E A F H nx)(hi:Ins [(b,cs)] A1 A)(hn:n=ts.length)(hl:cs.length=ts.length*6)(hk:∀Γ,(∀Q,Q∈F++E->Q Γ)->zf (λ_=>False) Γ cs ts):
  OB Z r I E A1 (Kids (.slice b 0 n 6 full) ts::F) H nx:=by
 subst hn;obtain⟨ds,g1,g2⟩:=h
 have g3:SH Z ((b,cs)::(r,ds)::A1) (F++E) H nx:=g2.ins (.tl hi)
 refine⟨ds,g1,SH.sub (SH.add g3.freeze (P:=Kids (.slice b 0 ts.length 6 full) ts) λΓ q=> ?_) ?_⟩
 ·exact⟨cs,.inr ⟨b,0,full,cs,rfl,by rw [yR];exact q (RowF b cs) (by simp),by omega,by rw [List.drop_zero,<-hl];exact List.take_length⟩,hk Γ λQ hQ=>q Q (.tail _ hQ)⟩
 ·intro P hP;rcases List.mem_cons.1 hP with rfl|hP
  ·exact .head _
  ·exact .tail _ (.tail _ hP)
theorem qi9{k k':Int}{s s':List UInt8}{n li co n' li' co':Int}{w w':qa}{us us':List qu}{Γ:GH}(h:Kids w us Γ)(h':Kids w' us' Γ):
  zf (λ_=>False) Γ [iv k,.str s,iv n,iv li,iv co,w,iv k',.str s',iv n',iv li',iv co',w'] [.node k s n li co us,.node k' s' n' li' co' us']:=by
 have:=zf.cons (yZ (k:=k) (s:=s) (n:=n) (li:=li) (co:=co) h) (zf.cons (yZ (k:=k') (s:=s') (n:=n') (li:=li') (co:=co') h') (.nil (ex:=λ_=>False) (Γ:=Γ)))
 simpa using this
theorem XI{k:Int}{s:List UInt8}{n li co:Int}{w:qa}{us:List qu}{Γ:GH}(h:Kids w us Γ):
  zf (λ_=>False) Γ [iv k,.str s,iv n,iv li,iv co,w] [.node k s n li co us]:=by
 have:=zf.cons (yZ (k:=k) (s:=s) (n:=n) (li:=li) (co:=co) h) (.nil (ex:=λ_=>False) (Γ:=Γ))
 simpa using this
theorem qii{k k' k'':Int}{s s' s'':List UInt8}{n li co n' li' co' n'' li'' co'':Int}{w w' w'':qa}{us us' us'':List qu}{Γ:GH}(h:Kids w us Γ)(h':Kids w' us' Γ)(h'':Kids w'' us'' Γ):
  zf (λ_=>False) Γ [iv k,.str s,iv n,iv li,iv co,w,iv k',.str s',iv n',iv li',iv co',w',iv k'',.str s'',iv n'',iv li'',iv co'',w''] [.node k s n li co us,.node k' s' n' li' co' us',.node k'' s'' n'' li'' co'' us'']:=by
 have:=zf.cons (yZ (k:=k) (s:=s) (n:=n) (li:=li) (co:=co) h) (zf.cons (yZ (k:=k') (s:=s') (n:=n') (li:=li') (co:=co') h') (zf.cons (yZ (k:=k'') (s:=s'') (n:=n'') (li:=li'') (co:=co'') h'') (.nil (ex:=λ_=>False) (Γ:=Γ))))
 simpa using this
def qjw(nb j:Nat)(jz:Int)(f:FuncId)(args:List qa)(H:qd)(nx:Nat)(rest:qd->Nat->Prop)(pK:List (qa×Bool)->qd->Nat->Prop):Prop:=
 ∃v1,some (u0 nb 5)=some v1/\∃v2,ld1 H v1=some v2/\((∃v3,ld1 H v1=some v3/\v3=v2)/\True)/\
  qk PG f args H (nx+6) λe H2 i2=>qc e (λv=>∃(n3:Int) (s3:List UInt8) (x3 y3 z3:Int) (v3:qa),v= .agg [iv n3,.str s3,iv x3,iv y3,iv z3,v3]/\(0:Int)<=jz/\
   ∃v4,zq v2 j 6=some v4/\((∃v5,ld1 H2 v1=some v5/\v5=v2)/\True)/\∃H3,stC H2 v4 [iv n3,.str s3,iv x3,iv y3,iv z3,v3]=some H3/\True/\rest H3 i2) λl=>pK l H2 i2
theorem OB.some6{b off:Nat}{cs vs:List qa}{k:qd->Prop}(h:OB Z r I E A F H nx)(u:Upd A b cs (ki cs off vs) A')(ho:off+vs.length<=cs.length)(hv:qq vs=true)(hK:∀H',OB Z r I E A' F H' nx->k H'):∃H1,stC H (.ptr b off) vs=some H1/\k H1:=by
 obtain⟨ds,g1,g2⟩:=h
 obtain⟨H1,e1,e2⟩:=g2.st (.tl u) ho hv
 exact⟨H1,e1,hK _ ⟨ds,g1,e2⟩⟩
section
variable{nb j arr len:Nat}{jz:Int}{f:FuncId}{args:List qa}{x:Nat->Nat->Rs (qu×Nat)}{pK:List (qa×Bool)->qd->Nat->Prop}{rest:qd->Nat->Prop}{ncs cs:List qa}{A':List qa->qN}
theorem Km{β:Type}{res:Except Flt β}{k:qu×Nat->Rs β}(hf:vt r tb l f args x)(hrun:Rs.bind (x d a) k=some res)(p:PS Z r tb l a none d A F H nx)(hn:Own A nb ncs)(h5:ncs[5]?=some (.slice arr 0 len 6 true))(hj:j<len)(hz:0<=jz)(u:∀vs,Upd A arr cs (ki cs (0+j*6) vs) (A' vs))(ho:0+j*6+6<=cs.length)(hb:∀vs,Own (A' vs) nb ncs)
  (hok:∀zk zs zn zl zc zw zts b H' n',k (.node zk zs zn zl zc zts,b)=some res->nx<=n'->PS Z r tb l b none d (A' [iv zk,.str zs,iv zn,iv zl,iv zc,zw]) (Kids zw zts::F) H' n'->qI zw=true->rest H' n')
  (hno:∀e b zk zs zn zl zc zw zts H' n',res= .error e->nx<=n'->PS Z r tb l b (some e) d (A' [iv zk,.str zs,iv zn,iv zl,iv zc,zw]) (Kids zw zts::F) H' n'->qI zw=true->rest H' n'):qjw nb j jz f args H nx rest pK:=by
 have p1:PS Z r tb l a none d A F H (nx+6):=p.more (by omega)
 refine⟨_,rfl,_,(p.ld1 hn 5).trans h5,⟨⟨_,(p.ld1 hn 5).trans h5,rfl⟩,trivial⟩,?_⟩
 refine jE hf hrun p1 (λzk zs zn zl zc zw zts b H2 n2 e g2 p2 hw=>⟨_,_,_,_,_,_,rfl,hz,_,zW hj,⟨⟨_,(p2.ld1 hn 5).trans h5,rfl⟩,trivial⟩,p2.some6 (u _) ho (jg hw) λH3 p3=>⟨trivial,hok _ _ _ _ _ _ _ _ _ _ e (by omega) p3 hw⟩⟩)
  λe b zk zs zn zl zc zw zts H2 n2 he g2 p2 hw=>⟨_,_,_,_,_,_,rfl,hz,_,zW hj,⟨⟨_,(p2.ld1 hn 5).trans h5,rfl⟩,trivial⟩,p2.some6 (u _) ho (jg hw) λH3 p3=>⟨trivial,hno _ _ _ _ _ _ _ _ _ _ _ he (by omega) p3 hw⟩⟩
theorem qo8{e:Flt}(hf:Kd r tb l f args)(p:PS Z r tb l a (some e) d A F H nx)(hn:Own A nb ncs)(h5:ncs[5]?=some (.slice arr 0 len 6 true))(hj:j<len)(hz:0<=jz)(u:∀vs,Upd A arr cs (ki cs (0+j*6) vs) (A' vs))(ho:0+j*6+6<=cs.length)
  (hno:∀b zk zs zn zl zc zw zts H' n',nx<=n'->PS Z r tb l b (some e) d (A' [iv zk,.str zs,iv zn,iv zl,iv zc,zw]) (Kids zw zts::F) H' n'->qI zw=true->rest H' n'):qjw nb j jz f args H nx rest pK:=by
 have p1:PS Z r tb l a (some e) d A F H (nx+6):=p.more (by omega)
 refine⟨_,rfl,_,(p.ld1 hn 5).trans h5,⟨⟨_,(p.ld1 hn 5).trans h5,rfl⟩,trivial⟩,?_⟩
 exact ja hf p1 λb zk zs zn zl zc zw zts H2 n2 g2 p2 hw=>⟨_,_,_,_,_,_,rfl,hz,_,zW hj,⟨⟨_,(p2.ld1 hn 5).trans h5,rfl⟩,trivial⟩,p2.some6 (u _) ho (jg hw) λH3 p3=>⟨trivial,hno _ _ _ _ _ _ _ _ _ _ (by omega) p3 hw⟩⟩
end
theorem qnm(W:zj l){i n:Nat}{C:KP}(h:PS Z r tb l a bad d A F H nx)(hK:∀b H' nx',(bad=none->b=gaps l a)->nx<=nx'->PS Z r tb l b bad d A F H' nx'->C (.exit 0) (qj .und [(3,.ptr n 0),(2,.ptr i 0),(0,.ptr r 0)]) H' nx' [] none){env:Env}(he:ql (qj .und [(3,.ptr n 0),(2,.ptr i 0),(0,.ptr r 0)]) env):
  LpP PG 29 (qn (qe PG zF) [1,1,1,0,0,0]) env H nx [] none C:=by
 refine zu (P:=PG) (X:=Nat) (Y:=Unit) (λ_=>qj .und [(3,.ptr n 0),(2,.ptr i 0),(0,.ptr r 0)]) (λ_=>qj .und [(3,.ptr n 0),(2,.ptr i 0),(0,.ptr r 0)])
  (λm b H1 nx1=>nx<=nx1/\PS Z r tb l b bad d A F H1 nx1/\m=l.length - b/\(bad=none->gapsN l m b=gaps l a))
  (λid _ H1 nx1=>id=0/\nx<=nx1/\∃b,PS Z r tb l b bad d A F H1 nx1/\(bad=none->b=gaps l a)) (l.length - a) a he ⟨Nat.le_refl _,h,rfl,λ_=>rfl⟩ ?_ ?_
 ·rintro m b H1 nx1 ⟨h1,p1,rfl,hg⟩
  refine WpP.part (ts:=[0,2,3]) qr ?_
  rw [qjl];have hlt:=PS.lt p1
  obtain⟨m,hm⟩:∃m,l.length - b=m+1:=⟨l.length - b - 1,by omega⟩
  refine kA W p1 (λhq H2 nx2 h2 p2=>qb.2 ⟨_,rfl,qH rfl ?_⟩) λhb hq H2 nx2 h2 p2=>qb.2 ⟨_,rfl,qK rfl ?_⟩
  ·refine⟨rfl,(),ql.okay,rfl,by omega,b,p2,λhb=> ?_⟩
   subst hb;rw [<-hg rfl,hm];unfold gapsN;rw [show is l b [59]=false from hq];rfl
  ·subst hb;refine⟨rfl,_,b+1,Nat.sub_lt_sub_left hlt (Nat.lt_succ_self b),ql.okay,by omega,p2,rfl,λ_=> ?_⟩
   rw [<-hg rfl,hm];rw [show l.length - (b+1)=m by omega]
   conv=>rhs;unfold gapsN
   rw [hq];rfl
 ·rintro id _ H1 nx1 ⟨rfl,h1,b,p1,hb⟩
  exact hK _ _ _ hb h1 p1
theorem yM(W:zj l):Kd r tb l zF [.ptr r 0]:=by
 intro Z A F H nx K a d e h hK;refine qk.of_body qr ?_
 rw [ZU];refine h.new lR λH0 p0=>kS p0 λH1 n1 g1 p1=>qb.2 ⟨_,_,_,_,_,_,rfl,p1.new lR λH2 p2=>p2.all .hd rfl rfl λH3 p3=>zd p3 (qb.2 (qnm W p3 (λb H4 n4 _ g4 p4=> ?_) (ql.okay)))⟩
 rw [Vq];unfold qac;refine zu (P:=PG) (X:=Unit) (Y:=Unit) (λ_=>qj .und [(3,.ptr n1 0),(2,.ptr nx 0),(0,.ptr r 0)]) (λ_=>qj .und [(3,.ptr n1 0),(2,.ptr nx 0),(0,.ptr r 0)])
  (λm _ H2 n2=>H2=H4/\n2=n4) (λid _ H2 n2=>id=2/\H2=H4/\n2=n4) 0 () (ql.refl _) ⟨rfl,rfl⟩ ?_ ?_
 ·rintro m _ H2 n2 ⟨rfl,rfl⟩
  refine WpP.part (ts:=[0,2,3]) qr ?_
  rw [WU];exact ron p4 (qb.2 ⟨_,rfl,qH rfl ⟨rfl,(),ql.okay,rfl,rfl,rfl⟩⟩)
 ·rintro id _ H2 n2 ⟨rfl,rfl,rfl⟩
  rw [WQ];exact zd p4 (qb.2 (rb6 p4 .hd (.tl .hd) rfl rfl λH5 p5=>hK.nilNo rfl p5))
theorem VF(W:zj l){n:Nat}(hst:vt r tb l yL [.ptr r 0] (run l n .stmt)):vt r tb l zF [.ptr r 0] (run l (n+1) .block):=by
 intro Z A F H nx K a d res hrun h hK;refine qk.of_body qr ?_
 rw [ZU];have hW:=W.few
 have hadv:AdvOK (run l n .stmt d):=wb rfl
 have hrun:Rs.bind (list l (run l n .stmt d) n a) (λ(xs,b)=>Rs.ok (mk (tk l a) 10 [] xs,b))=some res:=hrun
 refine h.new lR λH0 p0=>kS p0 λH1 n1 g1 p1=>qb.2 ⟨_,_,_,_,_,_,rfl,p1.new lR λH2 p2=>p2.all .hd rfl rfl λH3 p3=> ?_⟩
 have go:∀m H1 n1' o b bad ts G F1,nx<=n1'->PS Z r tb l b bad d (G++(n1,[iv 10,.str [],iv 0,iv (tk l a).line,iv (tk l a).col,o])::(nx,[iv 0,.str [],iv 0,iv 0,iv 0,.nilSlice])::A) F1 H1 n1'->z0 o ts G F1->F⊆F1->ts.length<=5000->
   (match bad with|none=>ts.length<=b/\Rs.bind (listGo l (run l n .stmt d) m b) (λ(xs,c)=>Rs.ok (mk (tk l a) 10 [] (ts++xs),c))=some res|some f=>res= .error f)->∀env,ql (qj .und [(3,.ptr n1 0),(2,.ptr nx 0),(0,.ptr r 0)]) env->
   LpP PG 29 (qn (qe PG zF) [1,1,1,1,0,0,0]) env H1 n1' [] none (qx PG (qk PG) (LpP PG 29) 29 (qe PG zF) [1,1,1,1,0,0] (qy PG (zx (qB PG)) (qS PG (qB PG)) K (qF PG zF))):=by
  intro m H1 n1' o b bad ts G F1 gn p1 gr s1 few hR env henv;refine zu (P:=PG) (X:=Unit) (Y:=Unit) (λ_=>qj .und [(3,.ptr n1 0),(2,.ptr nx 0),(0,.ptr r 0)]) (λ_=>qj .und [(3,.ptr n1 0),(2,.ptr nx 0),(0,.ptr r 0)])
   (λm _ H2 n2=>nx<=n2/\∃o b bad ts G F2,PS Z r tb l b bad d (G++(n1,[iv 10,.str [],iv 0,iv (tk l a).line,iv (tk l a).col,o])::(nx,[iv 0,.str [],iv 0,iv 0,iv 0,.nilSlice])::A) F2 H2 n2/\z0 o ts G F2/\F⊆F2/\ts.length<=5000/\(match bad with|none=>ts.length<=b/\Rs.bind (listGo l (run l n .stmt d) m b) (λ(xs,c)=>Rs.ok (mk (tk l a) 10 [] (ts++xs),c))=some res|some f=>res= .error f))
   (λid _ H2 n2=>id=2/\nx<=n2/\∃o b bad ts G F2,PS Z r tb l b bad d (G++(n1,[iv 10,.str [],iv 0,iv (tk l a).line,iv (tk l a).col,o])::(nx,[iv 0,.str [],iv 0,iv 0,iv 0,.nilSlice])::A) F2 H2 n2/\z0 o ts G F2/\F⊆F2/\(match bad with|none=>is l b [125]=true/\res= .ok (mk (tk l a) 10 [] ts,b+1)|some f=>res= .error f)) m () henv ⟨gn,o,b,bad,ts,G,F1,p1,gr,s1,few,hR⟩ ?_ ?_
  ·rintro m _ H2 n2 ⟨g2,o,b,bad,ts,G,F2,p2,gr,s2,few,hR⟩
   refine WpP.part (ts:=[0,2,3]) qr ?_
   rw [WU];cases bad with
   |some f=>exact ron p2 (qb.2 ⟨_,rfl,qH rfl ⟨rfl,(),ql.okay,rfl,g2,o,b,some f,ts,G,F2,p2,gr,s2,hR⟩⟩)
   |none=>
   obtain⟨hlb,hR⟩:=hR
   cases m with
   |zero=>simp [listGo,Rs.bind]at hR
   |succ m=>
   unfold listGo at hR;refine ron p2 (qb.2 ⟨_,rfl,qK rfl (ris p2 λH3 n3 g3 p3=>qb.2 ⟨_,rfl,qi.2 ⟨λh3=> ?_,λh3=> ?_⟩⟩)⟩)
   ·have h3:is l b [125]=false:=by simpa [isR]using h3
    rw [h3]at hR;simp only [Bool.false_eq_true,if_false]at hR
    rw [zV]at hR;have hb5:=PS.lt p3
    obtain⟨p4,hz⟩:=OB.res (i:=n3+4) (nx':=n3+8) p3 (by omega) (by omega)
    have c5:∀{Z:Nat->Prop} {I E F H nx},OB Z r I E (G++(n1,[iv 10,.str [],iv 0,iv (tk l a).line,iv (tk l a).col,o])::(nx,[iv 0,.str [],iv 0,iv 0,iv 0,.nilSlice])::A) F H nx->ld1 H (.ptr n1 5)=some o:=λp=>p.ld1 (Own.app .hd G) 5
    have c5:∀{Z:Nat->Prop} {I E F H n0},OB Z r I E (G++(n1,[iv 10,.str [],iv 0,iv (tk l a).line,iv (tk l a).col,o])::(nx,[iv 0,.str [],iv 0,iv 0,iv 0,.nilSlice])::A) F H n0->ld1 H (.ptr n1 5)=some o:=λp=>p.ld1 (Own.app .hd G) 5
    refine⟨_,rfl,_,c5 p3,⟨⟨_,c5 p3,rfl⟩,trivial⟩,?_⟩
    refine wi hst hR p4 (λk s nn li co w us c H5 n5 hx hr g5 p5 hw=>⟨_,_,_,_,_,_,rfl,OB.takeF p5 hz λH6 p6=>⟨⟨⟨_,c5 p6,rfl⟩,trivial⟩,?_⟩⟩) λf c k s nn li co w us H5 n5 hr g5 p5 hw=>⟨_,_,_,_,_,_,rfl,OB.takeF p5 hz λH6 p6=>⟨⟨⟨_,c5 p6,rfl⟩,trivial⟩,?_⟩⟩
    ·have hac:=hadv _ _ _ hx
     refine OB.app1 p6 (gr.sub λP hP=> .tail _ (.tail _ hP)) .hd (.head _) (.tail _ (.head _)) hw (by omega) λv H7 G' F' gr' sf hv p7=>⟨_,rfl,trivial,hv,p7.one (Upd.app .hd G') (by simp) hv λH8 p8=>⟨trivial,?_⟩⟩
     have hc5:=PS.lt p8
     refine YA W p8 (λe he H9 n9 g9 p9=>qb.2 ⟨rfl,m,(),Nat.lt_succ_self m,ql.okay,by omega,v,e,none,_,G',F',p9,gr',λP hP=>sf (.tail _ (.tail _ (s2 hP))),by simp;omega,?_,?_⟩) λf he H9 n9 g9 p9=>qb.2 ⟨rfl,m,(),Nat.lt_succ_self m,ql.okay,by omega,v,c,some f,_,G',F',p9,gr',λP hP=>sf (.tail _ (.tail _ (s2 hP))),by simp;omega,?_⟩
     ·have:=ends_ok he;simp;omega
     ·rw [he]at hr;simp only [lift]at hr
      rw [zV]at hr
      simpa [kq]using hr
     ·rw [he]at hr
      simpa [lift,Rs.bind,eq_comm]using hr
    ·refine OB.app1 p6 (gr.sub λP hP=> .tail _ (.tail _ hP)) .hd (.head _) (.tail _ (.head _)) hw (by omega) λv H7 G' F' gr' sf hv p7=>⟨_,rfl,trivial,hv,p7.one (Upd.app .hd G') (by simp) hv λH8 p8=>⟨trivial,?_⟩⟩
     exact WV W p8 λH9 n9 g9 p9=>qb.2 ⟨rfl,m,(),Nat.lt_succ_self m,ql.okay,by omega,v,c,some f,_,G',F',p9,gr',λP hP=>sf (.tail _ (.tail _ (s2 hP))),by simp;omega,hr⟩
   ·have h3:is l b [125]=true:=by simpa [isR]using h3
    rw [h3]at hR;simp only [if_true]at hR
    rw [kq]at hR;refine⟨rfl,(),ql.okay,rfl,by omega,o,b,none,ts,G,F2,p3,gr,s2,h3,?_⟩
    cases hR;simp
  ·rintro id _ H2 n2 ⟨rfl,g2,o,b,bad,ts,G,F2,p2,gr,s2,hR⟩
   rw [WQ];have fin:∀{b bad d' H3 n3},PS Z r tb l b bad d' (G++(n1,[iv 10,.str [],iv 0,iv (tk l a).line,iv (tk l a).col,o])::(nx,[iv 0,.str [],iv 0,iv 0,iv 0,.nilSlice])::A) F2 H3 n3->PS Z r tb l b bad d' ((n1,[iv 10,.str [],iv 0,iv (tk l a).line,iv (tk l a).col,o])::(nx,[iv 0,.str [],iv 0,iv 0,iv 0,.nilSlice])::A) (Kids o ts::F2) H3 n3:=λp=>OB.grown p gr .hd
   cases bad with
   |some f=>exact zd p2 (qb.2 (rb6 (fin p2) .hd (.tl .hd) rfl gr.cell λH5 p5=>hK.no ts hR p5 gr.cell (m:= .head _) (ss:=λP hP=> .tail _ (s2 hP))))
   |none=>
    obtain⟨h3,hR⟩:=hR
    exact zo W p2 (λhno=>by rw [h3]at hno;cases hno) λ_ H3 n3 g3 p3=>qb.2 (rb6 (fin p3) .hd (.tl .hd) rfl gr.cell λH5 p5=>hK.ok hR p5 gr.cell (m:= .head _) (ss:=λP hP=> .tail _ (s2 hP)))
 unfold list at hrun;refine zo W p3 (λhno H4 n4 g4 p4=>qb.2 (qnm W p4 (λb H5 n5 _ g5 p5=> ?_) (ql.okay))) λhyes H4 n4 g4 p4=>qb.2 (qnm W p4 (λb H5 n5 hb g5 p5=> ?_) (ql.okay))
 ·rw [Vq];unfold qac;simp [need,hno,lift,Rs.bind]at hrun
  exact go 0 _ _ _ _ _ _ [] _ (by omega) p5 z0.nil (λ_ h=>h) (by simp) hrun.symm _ (ql.refl _)
 ·rw [Vq];unfold qac;have hb:=hb rfl
  simp only [need,hyes,lift,if_true]at hrun
  exact go n _ _ _ _ none _ [] _ (by omega) p5 z0.nil (λ_ h=>h) (by simp) ⟨by simp,by rw [hb];simpa using hrun⟩ _ (ql.refl _)
end
end
end Go.Vs
end
section
namespace Go.Vs
open Go.Proofs
variable [GTab] {Z:Nat->Prop}
noncomputable section
theorem SH.new{A:qN}{F:qU}{H:qd}{nx i:Nat}{cs:List qa}{k:qd->Prop}(h:SH Z A F H nx)(h1:nx<=i)(hK:∀H',SH Z ((i,cs)::A) F H' (i+1)->k H'):∃H0,H0=qo i cs H/\k H0:=⟨_,rfl,hK _ (h.newN h1 (Nat.lt_succ_self i))⟩
theorem SH.ldAll{A:qN}{F:qU}{H:qd}{nx b sz:Nat}{cs:List qa}(h:SH Z A F H nx)(hb:Own A b cs)(ho:sz=cs.length):Vs.ldN H sz (.ptr b 0)=some (.agg cs):=by rw [h.ldN hb (by omega)];simp [ho]
section
variable{A A':qN}{F:qU}{H:qd}{nx:Nat}{K:qv}
theorem Wa{c:UInt8}(h:K (.ret (.bool (Pt.letter c))) H nx):qk PG yd [bv (Int.ofNat c.toNat)] H nx K:=by
 refine qk.of_body qr ?_
 rw [Wi];have yes:(97<=c.toNat/\c.toNat<=122)\/(65<=c.toNat/\c.toNat<=90)\/c.toNat=95->K (.ret (.bool true)) H nx:=λe=>by rw [wC.2 e]at h;exact h
 have no:¬((97<=c.toNat/\c.toNat<=122)\/(65<=c.toNat/\c.toNat<=90)\/c.toNat=95)->K (.ret (.bool false)) H nx:=λe=>by
  have:Pt.letter c=false:=by
   cases e':Pt.letter c with
   |false=>rfl
   |true=>exact absurd (wC.1 e') e
  rw [this]at h;exact h
 have last:¬(97<=c.toNat/\c.toNat<=122)->c.toNat≠95->65<=c.toNat->K (.ret (.bool (decide (Int.ofNat c.toNat<=90)))) H nx:=λe1 e2 e3=>by
  have:Pt.letter c=decide (Int.ofNat c.toNat<=90):=KL (wC.trans ⟨λx=>by simp;omega,λx=>by simp at x;omega⟩)
  rw [this]at h;exact h
 have hm:(Int.ofNat c.toNat)=(c.toNat:Int):=rfl
 refine qi.2 ⟨λh0=>yes ?_,λh0=>qi.2 ⟨λh1=>qi.2 ⟨λh2=>yes ?_,λh2=>qi.2 ⟨λh3=>last ?_ ?_ ?_,λh3=>no ?_⟩⟩,λh1=>qi.2 ⟨λh3=>last ?_ ?_ ?_,λh3=>no ?_⟩⟩⟩
 all_goals
  simp only [decide_eq_true_eq,decide_eq_false_iff_not,hm]at*
  omega
theorem JY{c:UInt8}(h:K (.ret (.bool (Pt.digit c))) H nx):qk PG wW [bv (Int.ofNat c.toNat)] H nx K:=by
 refine qk.of_body qr ?_
 rw [X9];refine qi.2 ⟨λh1=> ?_,λh1=> ?_⟩
 ·have h1:48<=(c.toNat:Int):=of_decide_eq_true h1
  have:Pt.digit c=decide (Int.ofNat c.toNat<=57):=KL (wt.trans ⟨λx=>by simp;omega,λx=>by simp at x;omega⟩)
  rw [this]at h;exact h
 ·have h1:¬48<=(c.toNat:Int):=of_decide_eq_false h1
  have:Pt.digit c=false:=by
   cases e:Pt.digit c with
   |false=>rfl
   |true=>have:=wt.1 e;omega
  rw [this]at h;exact h
theorem qco{s:List UInt8}(h:K (.ret (.bool (Pt.isWord s))) H nx):qk PG Qv [.str s] H nx K:=by
 refine qk.of_body qr ?_
 rw [Wf];have yes:s∈Pt.words->K (.ret (.bool true)) H nx:=λe=>by unfold Pt.isWord at h;rw [decide_eq_true e]at h;exact h
 refine qY (λe=>yes (by subst e;decide)) λe0=> ?_
 refine qY (λe=>yes (by subst e;decide)) λe1=> ?_
 refine qY (λe=>yes (by subst e;decide)) λe2=> ?_
 refine qY (λe=>yes (by subst e;decide)) λe3=> ?_
 refine qY (λe=>yes (by subst e;decide)) λe4=> ?_
 refine qY (λe=>yes (by subst e;decide)) λe5=> ?_
 refine qY (λe=>yes (by subst e;decide)) λe6=> ?_
 refine qY (λe=>yes (by subst e;decide)) λe7=> ?_
 refine qY (λe=>yes (by subst e;decide)) λe8=> ?_
 refine qY (λe=>yes (by subst e;decide)) λe9=> ?_
 refine qY (λe=>yes (by subst e;decide)) λe10=> ?_
 refine qY (λe=>yes (by subst e;decide)) λe11=> ?_
 refine qY (λe=>yes (by subst e;decide)) λe12=> ?_
 refine qY (λe=>yes (by subst e;decide)) λe13=> ?_
 refine qY (λe=>yes (by subst e;decide)) λe14=> ?_
 refine qY (λe=>yes (by subst e;decide)) λe15=> ?_
 refine qY (λe=>yes (by subst e;decide)) λe16=> ?_
 refine qY (λe=>yes (by subst e;decide)) λe17=> ?_
 refine qY (λe=>yes (by subst e;decide)) λe18=> ?_
 refine qY (λe=>yes (by subst e;decide)) λe19=> ?_
 refine qY (λe=>yes (by subst e;decide)) λe20=> ?_
 refine qY (λe=>yes (by subst e;decide)) λe21=> ?_
 have:Pt.isWord s=false:=decide_eq_false λe=>by
  simp only [Pt.words,List.mem_cons,List.not_mem_nil,or_false]at e
  rcases e with e|e|e|e|e|e|e|e|e|e|e|e|e|e|e|e|e|e|e|e|e|e
  ·exact e0 e
  ·exact e1 e
  ·exact e2 e
  ·exact e3 e
  ·exact e4 e
  ·exact e5 e
  ·exact e6 e
  ·exact e7 e
  ·exact e8 e
  ·exact e9 e
  ·exact e10 e
  ·exact e11 e
  ·exact e12 e
  ·exact e13 e
  ·exact e14 e
  ·exact e15 e
  ·exact e16 e
  ·exact e17 e
  ·exact e18 e
  ·exact e19 e
  ·exact e20 e
  ·exact e21 e
 rw [this]at h;exact h
theorem qj0{t:Tok}(h:SH Z A F H nx)(hK:∀H' nx',nx<=nx'->SH Z A F H' nx'->K (.ret (.bool (Pt.endsTok t))) H' nx'):qk PG Q6 [vz t] H nx K:=by
 refine qk.of_body qr ?_
 rw [YR];refine h.new (cs:=[iv t.kind,.str t.text,iv t.n,iv t.line,iv t.col]) lR λH0 p0=> ?_
 have hK:=hK H0 (nx+1) (by omega) p0.drop
 unfold Pt.endsTok at hK;refine⟨_,rfl,_,p0.ld1 .hd 0,qi.2 ⟨λh2=> ?_,λh2=>qi.2 ⟨λh4=> ?_,λh4=>qi.2 ⟨λh5=> ?_,λh5=>qi.2 ⟨λh3=>⟨_,rfl,_,p0.ld1 .hd 1,?_⟩,λh3=>qi.2 ⟨λh6=>⟨_,rfl,_,p0.ld1 .hd 1,?_⟩,λh6=> ?_⟩⟩⟩⟩⟩⟩
 ·have h2:t.kind=2:=of_decide_eq_true h2
  rw [if_pos (.inl h2)]at hK;exact hK
 ·have h4:t.kind=4:=of_decide_eq_true h4
  rw [if_pos (.inr (.inl h4))]at hK;exact hK
 ·have h5:t.kind=5:=of_decide_eq_true h5
  rw [if_pos (.inr (.inr h5))]at hK;exact hK
 all_goals
  have h2:¬t.kind=2:=of_decide_eq_false h2
  have h4:¬t.kind=4:=of_decide_eq_false h4
  have h5:¬t.kind=5:=of_decide_eq_false h5
  rw [if_neg (by rintro(e|e|e)<;>contradiction)]at hK
 ·have h3:t.kind=3:=of_decide_eq_true h3
  rw [if_pos h3]at hK;have yes:t.text∈Pt.endWords->K (.ret (.bool true)) H0 (nx+1):=λe=>by rw [decide_eq_true e]at hK;exact hK
  refine qY (λe=>yes (by rw [e];decide)) λe0=> ?_
  refine qY (λe=>yes (by rw [e];decide)) λe1=> ?_
  refine qY (λe=>yes (by rw [e];decide)) λe2=> ?_
  refine qY (λe=>yes (by rw [e];decide)) λe3=> ?_
  refine qY (λe=>yes (by rw [e];decide)) λe4=> ?_
  refine qY (λe=>yes (by rw [e];decide)) λe5=> ?_
  refine qY (λe=>yes (by rw [e];decide)) λe6=> ?_
  refine qY (λe=>yes (by rw [e];decide)) λe7=> ?_
  refine qY (λe=>yes (by rw [e];decide)) λe8=> ?_
  have:t.text ∉ Pt.endWords:=by
   unfold Pt.endWords;simp only [List.mem_cons,List.not_mem_nil,or_false,not_or]
   exact⟨e0,e1,e2,e3,e4,e5,e6,e7,e8⟩
  rw [decide_eq_false this]at hK;exact hK
 ·have h3:¬t.kind=3:=of_decide_eq_false h3
  have h6:t.kind=6:=of_decide_eq_true h6
  rw [if_neg h3,if_pos h6]at hK;refine qY (λe=> ?_) λe0=>⟨_,rfl,_,p0.ld1 .hd 1,qY (λe=> ?_) λe1=>⟨_,rfl,_,p0.ld1 .hd 1,?_⟩⟩
  ·simpa [e]using hK
  ·simpa [e]using hK
  ·have:(decide (t.text=[41])||decide (t.text=[93])||decide (t.text=[125]))=(t.text==[125]):=by by_cases e2:t.text=[125]<;>simp [e0,e1,e2]
   have hK2:K (.ret (.bool (decide (t.text=[41])||decide (t.text=[93])||decide (t.text=[125])))) H0 (nx+1):=hK
   rw [this]at hK2;exact hK2
 ·have h3:¬t.kind=3:=of_decide_eq_false h3
  have h6:¬t.kind=6:=of_decide_eq_false h6
  rw [if_neg h3,if_neg h6]at hK;exact hK
theorem qjp(call:zA)(lp:Nat->jk)(lv:zU)(lvc:zT)(i:Nat)(x y n:Int)(s b:List UInt8)(H:qd)(nx:Nat)(K:qv):
  qx PG call (lp 71) 71 (qe PG qX) [1,1,0,1,0] (qy PG lv lvc K (qF PG qX)) .ret (qj .und [(0,.str s),(2,.ptr i 0),(3,iv x),(4,iv y),(5,.str b),(6,iv n)]) H nx [] none=
   (∃(n1:Int) (s1:List UInt8) (x1 y1 z1:Int),ldN H 5 (.ptr i 0)=some (.agg [iv n1,.str s1,iv x1,iv y1,iv z1])/\K (.ret (.tuple [.agg [iv n1,.str s1,iv x1,iv y1,iv z1],iv x,iv y])) H nx):=by kernel_rfl
theorem qli:qn (qe PG qX) [1,1,0,1,0,0]= .seq (qn (qe PG qX) [1,1,0,1,0,0,0]) (.seq (.block 1 (.seq (qn (qe PG qX) [1,1,0,1,0,0,1,0,0,0]) (.block 2 (.seq (qn (qe PG qX) [1,1,0,1,0,0,1,0,0,1,0,0]) (.cond (.tmp 25) (qn (qe PG qX) [1,1,0,1,0,0,1,0,0,1,0,1,0])
  (.seq (qn (qe PG qX) [1,1,0,1,0,0,1,0,0,1,0,1,1,0]) (.cond (.tmp 36) (.seq (qn (qe PG qX) [1,1,0,1,0,0,1,0,0,1,0,1,1,1,0,0]) (.seq (qn (qe PG qX) [1,1,0,1,0,0,1,0,0,1,0,1,1,1,0,1,0]) (.seq (qn (qe PG qX) [1,1,0,1,0,0,1,0,0,1,0,1,1,1,0,1,1,0]) (qn (qe PG qX) [1,1,0,1,0,0,1,0,0,1,0,1,1,1,0,1,1,1]))))
   (qn (qe PG qX) [1,1,0,1,0,0,1,0,0,1,0,1,1,1,1])))))))) (qn (qe PG qX) [1,1,0,1,0,0,1,1])):=by kernel_rfl
def qpp:Option (List UInt8×Nat)->qa
 |some (w,n)=> .tuple [.agg [iv 5,.str w,iv 0,iv 0,iv 0],iv n,iv 0]
 |none=> .tuple [.agg [iv 0,.str [],iv 0,iv 0,iv 0],iv 0,iv 11]
abbrev qpg(i:Nat)(n:Int)(s b:List UInt8)(e:Int):Env:=qj .und [(0,.str s),(2,.ptr i 0),(3,iv 0),(4,iv e),(5,.str b),(6,iv n)]
def qh3(i:Nat)(u b:List UInt8)(H2:qd)(nx2:Nat)(K0:KP):Prop:=∀n':Int,∃H0,stC H2 (.ptr i 0) [iv 0,.str [],iv 0,iv 0,iv 0]=some H0/\K0 .ret (qpg i n' u b 11) H0 nx2 [] none
def qnv(i n:Nat)(u:List UInt8)(H2:qd)(nx2:Nat)(K0:KP):Prop:=∀(n':Nat) (b':List UInt8),n<=n'->n'+1<=u.length->b'.length<=n'+1->Pt.textGo 1 [] (u.drop 1)=Pt.textGo (n'+1) b' (u.drop (n'+1))->K0 .normal (qpg i n' u b' 0) H2 nx2 [] none
theorem qok{K0:KP}{u b:List UInt8}{c:UInt8}{n i nx2:Nat}{H2:qd}(hul:u.length<=16384)(hlt:n<u.length)(hwn:b.length<=n)(h92:c=92)
  (hg:Pt.textGo 1 [] (u.drop 1)=match u.drop (n+1)with|[]=>none|e::s'=>if e=110 then Pt.textGo (n+2) (b++[10]) s' else if e=116 then Pt.textGo (n+2) (b++[9]) s' else if e=34\/e=92 then Pt.textGo (n+2) (b++[e]) s' else none)
  (hbad:Pt.textGo 1 [] (u.drop 1)=none->qh3 i u b H2 nx2 K0) (hgo:qnv i n u H2 nx2 K0):
  WpP PG 71 (.seq (qn (qe PG qX) [1,1,0,1,0,0,1,0,0,1,0,1,1,1,0,0]) (.seq (qn (qe PG qX) [1,1,0,1,0,0,1,0,0,1,0,1,1,1,0,1,0]) (.seq (qn (qe PG qX) [1,1,0,1,0,0,1,0,0,1,0,1,1,1,0,1,1,0]) (qn (qe PG qX) [1,1,0,1,0,0,1,0,0,1,0,1,1,1,0,1,1,1]))))
   (qj .und [(7,bv (Int.ofNat c.toNat)),(6,iv n),(5,.str b),(4,iv 0),(3,iv 0),(2,.ptr i 0),(0,.str u)]) H2 nx2 [] K0:=by
 refine WpP.seq (WpP.part (ts:=[0,2,3,4,5,6,7]) qr ?_)
 refine Eq.mpr (qoa (qk PG) (LpP PG) _ _ _ _ i n (Int.ofNat c.toNat) u b H2 nx2) ?_
 rw [qw (by omega) (by omega),show((n:Int)+1)=((n+1:Nat):Int) by omega]
 show WpP _ _ (.seq _ (.seq _ _)) _ _ _ _ _
 refine WpP.weaken (e:=qj .und [(7,bv (Int.ofNat c.toNat)),(6,iv (n+1:Nat)),(5,.str b),(4,iv 0),(3,iv 0),(2,.ptr i 0),(0,.str u)]) (ql.okay) ?_
 refine WpP.seq (WpP.part (ts:=[0,2,3,4,5,6,8]) qr ?_)
 refine Eq.mpr (qoe (qk PG) (LpP PG) _ _ _ _ i (n+1:Nat) (Int.ofNat c.toNat) u b H2 nx2) ?_
 show WpP _ _ (.seq _ _) _ _ _ _ _
 refine WpP.weaken (e:=qj .und [(8,.str []),(6,iv (n+1:Nat)),(5,.str b),(4,iv 0),(3,iv 0),(2,.ptr i 0),(0,.str u)]) (ql.okay) ?_
 refine WpP.seq (WpP.part (ts:=[0,2,3,4,5,6,8]) qr ?_)
 have tail:∀x:List UInt8,(x=[]->Pt.textGo 1 [] (u.drop 1)=none)->(x≠[]->n+2<=u.length/\x.length=1/\Pt.textGo 1 [] (u.drop 1)=Pt.textGo (n+2) (b++x) (u.drop (n+2)))->
   WpP PG 71 (qn (qe PG qX) [1,1,0,1,0,0,1,0,0,1,0,1,1,1,0,1,1,1]) (qj .und [(0,.str u),(2,.ptr i 0),(3,iv 0),(4,iv 0),(5,.str b),(6,iv (n+1:Nat)),(8,.str x)]) H2 nx2 [] K0:=λx hx0 hx1=>by
  refine WpP.weaken (e:=qj .und [(8,.str x),(6,iv (n+1:Nat)),(5,.str b),(4,iv 0),(3,iv 0),(2,.ptr i 0),(0,.str u)]) (ql.okay) (WpP.part (ts:=[0,2,3,4,5,6]) qr ?_)
  refine Eq.mpr (qox (qk PG) (LpP PG) _ _ _ _ i (n+1:Nat) u b x H2 nx2) ?_
  refine qi.2 ⟨λe=>hbad (hx0 (by simpa using e)) _,λe=> ?_⟩
  obtain⟨q1,q2,q3⟩:=hx1 (by simpa using e)
  exact⟨by omega,hgo (n+1) (b++x) (by omega) q1 (by simp;omega) q3⟩
 refine Eq.mpr (qn8 (qk PG) (LpP PG) _ _ _ _ i (n+1:Nat) u b [] H2 nx2) ?_
 refine qi.2 ⟨λh=> ?_,λh=> ?_⟩
 ·have h:((n+1:Nat):Int)<(u.length:Int):=of_decide_eq_true h
  have hl:n+1<u.length:=by omega
  obtain⟨e,he⟩:∃e,e=u[n+1]:=⟨_,rfl⟩
  have hd2:u.drop (n+1)=e::u.drop (n+2):=by rw [he];exact kR hl
  have ec:∀m:UInt8,e=m↔Int.ofNat e.toNat=Int.ofNat m.toNat:=λm=>by rw [<-UInt8.toNat_inj];show _↔((e.toNat:Int)=(m.toNat:Int));omega
  rw [hd2]at hg
  dsimp only at hg
  refine⟨by omega,e,by rw [show(((n+1:Nat):Int)).toNat=n+1 by omega];simp [hl,he],?_⟩
  refine qi.2 ⟨λq=> ?_,λq=>qi.2 ⟨λq2=> ?_,λq2=>qi.2 ⟨λq3=> ?_,λq3=>qi.2 ⟨λq4=> ?_,λq4=> ?_⟩⟩⟩⟩
  ·have q:e=110:=(ec 110).2 (of_decide_eq_true q)
   rw [if_pos q]at hg;exact tail [10] (λx=>nomatch x) λ_=>⟨by omega,rfl,hg⟩
  all_goals
   have q:¬e=110:=λx=>of_decide_eq_false q ((ec 110).1 x)
   rw [if_neg q]at hg
  ·have q2:e=116:=(ec 116).2 (of_decide_eq_true q2)
   rw [if_pos q2]at hg;exact tail [9] (λx=>nomatch x) λ_=>⟨by omega,rfl,hg⟩
  all_goals
   have q2:¬e=116:=λx=>of_decide_eq_false q2 ((ec 116).1 x)
   rw [if_neg q2]at hg
  ·have q3:e=34:=(ec 34).2 (of_decide_eq_true q3)
   rw [if_pos (.inl q3),q3]at hg;exact tail [34] (λx=>nomatch x) λ_=>⟨by omega,rfl,hg⟩
  ·have q4:e=92:=(ec 92).2 (of_decide_eq_true q4)
   rw [if_pos (.inr q4),q4]at hg;exact tail [92] (λx=>nomatch x) λ_=>⟨by omega,rfl,hg⟩
  ·have q3:¬e=34:=λx=>of_decide_eq_false q3 ((ec 34).1 x)
   have q4:¬e=92:=λx=>of_decide_eq_false q4 ((ec 92).1 x)
   rw [if_neg (by rintro(x|x)<;>contradiction)]at hg
   exact tail [] (λ_=>hg) λx=>absurd rfl x
 ·have h:¬((n+1:Nat):Int)<(u.length:Int):=of_decide_eq_false h
  rw [show u.drop (n+1)=[]from List.drop_eq_nil_of_le (by omega)]at hg
  exact tail [] (λ_=>hg) λx=>absurd rfl x
theorem qoq{K0:KP}{u b:List UInt8}{c:UInt8}{n i nx2:Nat}{H2:qd}(hul:u.length<=16384)(hlt:n<u.length)(hwn:b.length<=n)(hd:u.drop n=c::u.drop (n+1))(h34:c≠34)
  (hg:Pt.textGo 1 [] (u.drop 1)=if c<32\/126<c\/c=34 then none else Pt.textGo (n+1) (b++[c]) (u.drop (n+1)))
  (hbad:Pt.textGo 1 [] (u.drop 1)=none->qh3 i u b H2 nx2 K0) (hgo:qnv i n u H2 nx2 K0):
  WpP PG 71 (qn (qe PG qX) [1,1,0,1,0,0,1,0,0,1,0,1,1,1,1]) (qj .und [(7,bv (Int.ofNat c.toNat)),(6,iv n),(5,.str b),(4,iv 0),(3,iv 0),(2,.ptr i 0),(0,.str u)]) H2 nx2 [] K0:=by
 refine WpP.part (ts:=[0,2,3,4,5,6]) qr ?_
 refine Eq.mpr (qn9 (qk PG) (LpP PG) _ _ _ _ i n (Int.ofNat c.toNat) u b H2 nx2) ?_
 refine qi.2 ⟨λh5=> ?_,λh5=>qi.2 ⟨λh6=> ?_,λh6=> ?_⟩⟩
 ·have h5:(c.toNat:Int)<32:=of_decide_eq_true h5
  rw [if_pos (.inl (by rw [UInt8.lt_iff_toNat_lt];show c.toNat<32;omega))]at hg
  exact hbad hg n
 ·have h6:(126:Int)<(c.toNat:Int):=of_decide_eq_true h6
  rw [if_pos (.inr (.inl (by rw [UInt8.lt_iff_toNat_lt];show 126<c.toNat;omega)))]at hg
  exact hbad hg n
 ·have h5:¬(c.toNat:Int)<32:=of_decide_eq_false h5
  have h6:¬(126:Int)<(c.toNat:Int):=of_decide_eq_false h6
  rw [if_neg (by
   rintro(x|x|x)
   ·rw [UInt8.lt_iff_toNat_lt]at x;have x:c.toNat<32:=x;omega
   ·rw [UInt8.lt_iff_toNat_lt]at x;have x:126<c.toNat:=x;omega
   ·exact h34 x)]at hg
  rw [qw (by omega) (by omega),show((n:Int)+1)=((n+1:Nat):Int) by omega]
  have et:List.take ((some (((n+1:Nat):Int)).toNat).getD u.length - (some ((n:Nat):Int).toNat).getD 0) (List.drop ((some ((n:Nat):Int).toNat).getD 0) u)=[c]:=by
   have:(some (((n+1:Nat):Int)).toNat).getD u.length - (some ((n:Nat):Int).toNat).getD 0=1:=by simp
   rw [this];show List.take 1 (u.drop n)=[c]
   rw [hd];rfl
  rw [et];exact⟨by omega,by omega,by simp;omega,by simp,by simp;omega,hgo n (b++[c]) lR (by omega) (by simp;omega) hg⟩
theorem qo5{K0:KP}{u b:List UInt8}{c:UInt8}{n i nx2:Nat}{H2:qd}(hul:u.length<=16384)(hlt:n<u.length)(hwn:b.length<=n)(hd:u.drop n=c::u.drop (n+1))
  (hg:Pt.textGo 1 [] (u.drop 1)=Pt.textGo n b (c::u.drop (n+1)))
  (hbad:Pt.textGo 1 [] (u.drop 1)=none->qh3 i u b H2 nx2 K0) (hgo:qnv i n u H2 nx2 K0)
  (hok:Pt.textGo 1 [] (u.drop 1)=some (b,n+1)->∃H0,stC H2 (.ptr i 0) [iv 5,.str b,iv 0,iv 0,iv 0]=some H0/\K0 .ret (qj .und [(0,.str u),(2,.ptr i 0),(3,iv (n+1:Nat)),(4,iv 0),(5,.str b),(6,iv n)]) H0 nx2 [] none):
  WpP PG 71 (.seq (qn (qe PG qX) [1,1,0,1,0,0,1,0,0,1,0,0]) (.cond (.tmp 25) (qn (qe PG qX) [1,1,0,1,0,0,1,0,0,1,0,1,0])
  (.seq (qn (qe PG qX) [1,1,0,1,0,0,1,0,0,1,0,1,1,0]) (.cond (.tmp 36) (.seq (qn (qe PG qX) [1,1,0,1,0,0,1,0,0,1,0,1,1,1,0,0]) (.seq (qn (qe PG qX) [1,1,0,1,0,0,1,0,0,1,0,1,1,1,0,1,0]) (.seq (qn (qe PG qX) [1,1,0,1,0,0,1,0,0,1,0,1,1,1,0,1,1,0]) (qn (qe PG qX) [1,1,0,1,0,0,1,0,0,1,0,1,1,1,0,1,1,1]))))
   (qn (qe PG qX) [1,1,0,1,0,0,1,0,0,1,0,1,1,1,1]))))) (qj .und [(7,bv (Int.ofNat c.toNat)),(6,iv n),(5,.str b),(4,iv 0),(3,iv 0),(2,.ptr i 0),(0,.str u)]) H2 nx2 [] K0:=by
 have ec:∀m:UInt8,c=m↔Int.ofNat c.toNat=Int.ofNat m.toNat:=λm=>by rw [<-UInt8.toNat_inj];show _↔((c.toNat:Int)=(m.toNat:Int));omega
 refine WpP.seq (WpP.part (ts:=[0,2,3,4,5,6,7,25]) qr ?_)
 refine Eq.mpr (qol (qk PG) (LpP PG) _ _ _ _ i n (Int.ofNat c.toNat) u b H2 nx2) ?_
 show WpP _ _ (.cond _ _ _) _ _ _ _ _
 have hq:=Pt.textGo.eq_def n b (c::u.drop (n+1))
 dsimp only at hq
 rw [hq]at hg;clear hq;by_cases h34:c=34
 ·refine WpP.cond (p:=true) (congrArg u5 (decide_eq_true (p:=Int.ofNat c.toNat=34) ((ec 34).1 h34))) ?_
  refine WpP.weaken (e:=qj .und [(7,bv (Int.ofNat c.toNat)),(6,iv n),(5,.str b),(4,iv 0),(3,iv 0),(2,.ptr i 0),(0,.str u)]) (ql.okay) (WpP.part (ts:=[0,2,3,4,5,6]) qr ?_)
  refine Eq.mpr (qo0 (qk PG) (LpP PG) _ _ _ _ i n (Int.ofNat c.toNat) u b H2 nx2) ?_
  refine qi.2 ⟨λhb=> ?_,λhb=> ?_⟩
  ·have hb:2000<(b.length:Int):=of_decide_eq_true hb
   rw [if_neg (by omega),if_neg (by rw [h34];decide),if_pos (.inr (.inr h34))]at hg
   exact hbad hg n
  ·have hb:¬2000<(b.length:Int):=of_decide_eq_false hb
   rw [if_pos ⟨h34,by omega⟩]at hg
   rw [qw (by omega) (by omega),show((n:Int)+1)=((n+1:Nat):Int) by omega]
   exact⟨rfl,rfl,hok hg⟩
 ·refine WpP.cond (p:=false) (congrArg u5 (decide_eq_false (p:=Int.ofNat c.toNat=34) λx=>h34 ((ec 34).2 x))) ?_
  refine WpP.weaken (e:=qj .und [(7,bv (Int.ofNat c.toNat)),(6,iv n),(5,.str b),(4,iv 0),(3,iv 0),(2,.ptr i 0),(0,.str u)]) (ql.okay) ?_
  rw [if_neg λx=>h34 x.1]at hg
  refine WpP.seq (WpP.part (ts:=[0,2,3,4,5,6,7,36]) qr ?_)
  refine Eq.mpr (qnk (qk PG) (LpP PG) _ _ _ _ i n (Int.ofNat c.toNat) u b H2 nx2) ?_
  show WpP _ _ (.cond _ _ _) _ _ _ _ _
  by_cases h92:c=92
  ·refine WpP.cond (p:=true) (congrArg u5 (decide_eq_true (p:=Int.ofNat c.toNat=92) ((ec 92).1 h92))) ?_
   refine WpP.weaken (e:=qj .und [(7,bv (Int.ofNat c.toNat)),(6,iv n),(5,.str b),(4,iv 0),(3,iv 0),(2,.ptr i 0),(0,.str u)]) (ql.okay) ?_
   rw [if_pos h92]at hg;exact qok hul hlt hwn h92 hg hbad hgo
  ·refine WpP.cond (p:=false) (congrArg u5 (decide_eq_false (p:=Int.ofNat c.toNat=92) λx=>h92 ((ec 92).2 x))) ?_
   refine WpP.weaken (e:=qj .und [(7,bv (Int.ofNat c.toNat)),(6,iv n),(5,.str b),(4,iv 0),(3,iv 0),(2,.ptr i 0),(0,.str u)]) (ql.okay) ?_
   rw [if_neg h92]at hg;exact qoq hul hlt hwn hd h34 hg hbad hgo
def TI(Z:Nat->Prop)(A:qN)(F:qU)(i nx:Nat)(u:List UInt8)(n:Nat×List UInt8)(H2:qd)(nx2:Nat):Prop:=
 nx<=nx2/\SH Z ((i,[iv 0,.str [],iv 0,iv 0,iv 0])::A) F H2 nx2/\1<=n.1/\n.1<=u.length/\n.2.length<=n.1/\Pt.textGo 1 [] (u.drop 1)=Pt.textGo n.1 n.2 (u.drop n.1)
theorem qho{u:List UInt8}(h:SH Z A F H nx)(hul:u.length<=16384)(hne:1<=u.length)(hK:∀H' nx',nx<=nx'->SH Z A F H' nx'->K (.ret (qpp (Pt.textGo 1 [] (u.drop 1)))) H' nx'):qk PG qX [.str u] H nx K:=by
 refine qk.of_body qr ?_
 rw [qav];refine h.new (cs:=[iv 0,.str [],iv 0,iv 0,iv 0]) lR λH0 p0=> ?_
 obtain⟨i,hi⟩:∃i,i=nx:=⟨_,rfl⟩
 rw [<-hi];rw [<-hi]at p0;refine zu (P:=PG) (X:=Nat×List UInt8) (Y:=Nat×List UInt8) (λn=>qj .und [(6,iv n.1),(5,.str n.2),(4,iv 0),(3,iv 0),(2,.ptr i 0),(0,.str u)]) (λn=>qj .und [(6,iv n.1),(5,.str n.2),(4,iv 0),(3,iv 0),(2,.ptr i 0),(0,.str u)])
  (λm n H2 nx2=>m=u.length - n.1/\TI Z A F i nx u n H2 nx2)
  (λid n H2 nx2=>id=0/\nx<=nx2/\SH Z ((i,[iv 0,.str [],iv 0,iv 0,iv 0])::A) F H2 nx2/\Pt.textGo 1 [] (u.drop 1)=none) (u.length - 1) (1,[]) (ql.okay)
  ⟨rfl,by omega,p0.more (by omega),Nat.le_refl _,hne,by simp,rfl⟩ ?_ ?_
 ·rintro m ⟨n,b⟩ H2 nx2 ⟨rfl,h2,p2,hn1,hn2,hwn,hg⟩
  dsimp only at hn1 hn2 hwn hg ⊢
  rw [qli];refine WpP.seq (WpP.part (ts:=[0,2,3,4,5,6]) qr ?_)
  rw [qow];refine qi.2 ⟨λh=> ?_,λh=> ?_⟩
  ·have h:(n:Int)<(u.length:Int):=of_decide_eq_true h
   have hlt:n<u.length:=by omega
   have hd:u.drop n=u[n]::u.drop (n+1):=kR hlt
   obtain⟨c,hc⟩:∃c,c=u[n]:=⟨_,rfl⟩
   rw [<-hc]at hd;rw [hd]at hg;show WpP _ _ (.seq _ _) _ _ _ _ _
   refine WpP.weaken (e:=qj .und [(6,iv n),(5,.str b),(4,iv 0),(3,iv 0),(2,.ptr i 0),(0,.str u)]) (ql.okay) ?_
   refine WpP.seq (WpP.block (WpP.seq (WpP.part (ts:=[0,2,3,4,5,6,7]) qr ?_)))
   rw [qnf];refine⟨by omega,c,by simp [hlt,hc],?_⟩
   show WpP _ _ (.block 2 _) _ _ _ _ _
   refine WpP.weaken (e:=qj .und [(7,bv (Int.ofNat c.toNat)),(6,iv n),(5,.str b),(4,iv 0),(3,iv 0),(2,.ptr i 0),(0,.str u)]) (ql.okay) ?_
   refine WpP.block (qo5 hul hlt hwn hd hg (λe n'=> ?_) (λn' b' g4 g5 g6 g7=> ?_) λe=> ?_)
   ·refine p2.all .hd rfl rfl λH3 p3=> ?_
    refine Eq.mpr (qjp (qk PG) (LpP PG) (zx (qB PG)) (qS PG (qB PG)) i 0 11 n' u b H3 nx2 K) ⟨_,_,_,_,_,p3.ldAll .hd rfl,?_⟩
    have:=hK H3 nx2 h2 p3.drop
    rw [e]at this;exact this
   ·show WpP _ _ _ _ _ _ _ _
    refine WpP.weaken (e:=qj .und [(6,iv n'),(5,.str b'),(4,iv 0),(3,iv 0),(2,.ptr i 0),(0,.str u)]) (ql.okay) (WpP.part (ts:=[0,2,3,4,5,6]) qr ?_)
    rw [qoz];rw [qw (by omega) (by omega),show((n':Int)+1)=((n'+1:Nat):Int) by omega]
    exact⟨rfl,u.length - (n'+1),(n'+1,b'),by omega,ql.okay,rfl,h2,p2,by show 1<=n'+1;omega,g5,g6,g7⟩
   ·refine p2.all .hd rfl rfl λH3 p3=> ?_
    refine Eq.mpr (qjp (qk PG) (LpP PG) (zx (qB PG)) (qS PG (qB PG)) i _ 0 n u b H3 nx2 K) ⟨_,_,_,_,_,p3.ldAll .hd rfl,?_⟩
    have:=hK H3 nx2 h2 p3.drop
    rw [e]at this;exact this
  ·have h:¬(n:Int)<(u.length:Int):=of_decide_eq_false h
   have he:n=u.length:=by omega
   refine⟨rfl,(n,b),ql.okay,rfl,h2,p2,?_⟩
   rw [hg,List.drop_eq_nil_of_le (by omega)]
   rw [Pt.textGo.eq_def]
 ·rintro id ⟨n,b⟩ H2 nx2 ⟨rfl,h2,p2,hg⟩
  rw [qor];refine p2.all .hd rfl rfl λH3 p3=>⟨_,_,_,_,_,p3.ldAll .hd rfl,?_⟩
  have:=hK H3 nx2 h2 p3.drop
  rw [hg]at this;exact this
end
def jv:List (List UInt8):=Pt.pairs++(Pt.signs.map (λx=>[x])++[[59]])
def jP(u:List UInt8):List (List UInt8)->Except Int (Int×List UInt8×Int×Nat)
 |[]=> .error 10
 |w::ws=>if w.length<=u.length/\u.take w.length=w then .ok (if w=[59]then 1 else 6,w,0,w.length)else jP u ws
theorem go2{c e:UInt8}{s:List UInt8}{vs:List (List UInt8)}:∀{ws:List (List UInt8)},(∀w,w∈ws->w.length=2)->jP (c::e::s) (ws++vs)=if [c,e]∈ws then .ok (6,[c,e],0,2)else jP (c::e::s) vs
 |[],_=>by simp
 |w::ws,h=>by
  have hw:=h w (.head _)
  show(if w.length<=(c::e::s).length/\(c::e::s).take w.length=w then _ else jP (c::e::s) (ws++vs))=_
  rw [hw];by_cases hq:[c,e]=w
  ·subst hq;rw [if_pos ⟨by simp,rfl⟩,if_pos (c:=[c,e]∈ [c,e]::ws) (.head _)];simp
  ·rw [if_neg λx=>hq x.2,go2 λw hw=>h w (.tail _ hw)]
   simp [hq]
theorem qpc{c:UInt8}{vs:List (List UInt8)}:∀{ws:List (List UInt8)},(∀w,w∈ws->w.length=2)->jP [c] (ws++vs)=jP [c] vs
 |[],_=>rfl
 |w::ws,h=>by
  have hw:=h w (.head _)
  show(if w.length<=[c].length/\[c].take w.length=w then _ else jP [c] (ws++vs))=_
  rw [if_neg λx=>by have:=x.1;rw [hw]at this;simp at this,qpc λw hw=>h w (.tail _ hw)]
theorem go1{c:UInt8}{s:List UInt8}{vs:List (List UInt8)}:∀{xs:List UInt8},59 ∉ xs->jP (c::s) (xs.map (λx=>[x])++vs)=if c∈xs then .ok (6,[c],0,1)else jP (c::s) vs
 |[],_=>by simp
 |x::xs,h=>by
  have h1:x≠59:=λe=>h (by rw [e];exact .head _)
  show(if [x].length<=(c::s).length/\(c::s).take [x].length=[x]then _ else jP (c::s) (xs.map (λx=>[x])++vs))=_
  by_cases hq:c=x
  ·subst hq;rw [if_pos ⟨by simp,by simp⟩,if_pos (c:=c∈c::xs) (.head _)];simp [h1]
  ·rw [if_neg λx=>hq (by simpa using x.2),go1 λe=>h (.tail _ e)]
   simp [hq]
theorem qky(c:UInt8)(s:List UInt8):Pt.sign c s=jP (c::s) jv:=by
 have h1:jP (c::s) (Pt.signs.map (λx=>[x])++[[59]])=if c=59 then .ok (1,[59],0,1)else if c∈Pt.signs then .ok (6,[c],0,1)else .error 10:=by
  rw [go1 (by decide)]
  show(if c∈Pt.signs then _ else(if [59].length<=(c::s).length/\(c::s).take [59].length=[59]then _ else _))=_
  by_cases hq:c=59
  ·subst hq;rw [if_neg (by decide),if_pos rfl,if_pos ⟨by simp,by simp⟩];rfl
  ·rw [if_neg (c:=[59].length<=(c::s).length/\(c::s).take [59].length=[59]) λx=>hq (by simpa using x.2),if_neg hq];rfl
 unfold jv;cases s with
 |nil=>rw [qpc (by decide),h1];rfl
 |cons e s=>rw [go2 (by decide),h1];rfl
def vj:List qa:=(jv++[[],[]]).map u3
theorem XM{n:Nat}(h:n<jv.length):vj[n]?=some (.str jv[n]):=by
 unfold vj;rw [List.getElem?_map,List.getElem?_append_left h,List.getElem?_eq_getElem h];rfl
def qp4:Except Int (Int×List UInt8×Int×Nat)->qa
 | .ok (k,tx,v,n)=> .tuple [.agg [iv k,.str tx,iv v,iv 0,iv 0],iv n,iv 0]
 | .error e=> .tuple [.agg [iv 0,.str [],iv 0,iv 0,iv 0],iv 0,iv e]
theorem qik(call:zA)(lp:Nat->jk)(lv:zU)(lvc:zT)(i:Nat)(x y n v:Int)(s:List UInt8)(H:qd)(nx:Nat)(K:qv):
  qx PG call (lp 132) 132 (qe PG ju) [1,1,0,0,1,1,1,0,1,1,0,0] (qy PG lv lvc K (qF PG ju)) .ret (qj .und [(0,.str s),(2,.ptr i 0),(3,iv x),(4,iv y),(7,iv n),(8,iv v)]) H nx [] none=
   (∃(n1:Int) (s1:List UInt8) (x1 y1 z1:Int),ldN H 5 (.ptr i 0)=some (.agg [iv n1,.str s1,iv x1,iv y1,iv z1])/\K (.ret (.tuple [.agg [iv n1,.str s1,iv x1,iv y1,iv z1],iv x,iv y])) H nx):=by kernel_rfl
theorem WC(call:zA)(lp:Nat->jk)(lv:zU)(lvc:zT)(i a:Nat)(x y n:Int)(s:List UInt8)(H:qd)(nx:Nat)(K:qv):
  qx PG call (lp 132) 132 (qe PG ju) [1,1,1,1,0,1,0] (qy PG lv lvc K (qF PG ju)) .ret (qj .und [(0,.str s),(2,.ptr i 0),(3,iv x),(4,iv y),(10,.ptr a 0),(11,iv n)]) H nx [] none=
   (∃(n1:Int) (s1:List UInt8) (x1 y1 z1:Int),ldN H 5 (.ptr i 0)=some (.agg [iv n1,.str s1,iv x1,iv y1,iv z1])/\K (.ret (.tuple [.agg [iv n1,.str s1,iv x1,iv y1,iv z1],iv x,iv y])) H nx):=by kernel_rfl
section
variable{A:qN}{F:qU}{H:qd}{nx:Nat}{K:qv}
def Y7(Z:Nat->Prop)(A:qN)(F:qU)(i nx:Nat)(K:qv)(res:Except Int (Int×List UInt8×Int×Nat)):Prop:=∀H' nx',nx<=nx'->SH Z A F H' nx'->K (.ret (qp4 res)) H' nx'
theorem Y7.give{i nx2:Nat}{H2:qd}{cs:List qa}{k v:Int}{tx:List UInt8}{n:Nat}{m:Int}(h:Y7 Z A F i nx K (.ok (k,tx,v,n)))(hl:cs.length=5)(hm:m=n)(hn:nx<=nx2)(p:SH Z ((i,cs)::A) F H2 nx2):
  ∃H5,stC H2 (.ptr i 0) [iv k,.str tx,iv v,iv 0,iv 0]=some H5/\∃(n1:Int) (s1:List UInt8) (x1 y1 z1:Int),ldN H5 5 (.ptr i 0)=some (.agg [iv n1,.str s1,iv x1,iv y1,iv z1])/\K (.ret (.tuple [.agg [iv n1,.str s1,iv x1,iv y1,iv z1],iv m,iv 0])) H5 nx2:=by
 subst hm;exact p.all .hd (by simp [hl]) rfl λH3 p3=>⟨_,_,_,_,_,p3.ldAll .hd rfl,h H3 nx2 hn p3.drop⟩
theorem Y7.bad{i nx2:Nat}{H2:qd}{cs:List qa}{e:Int}(h:Y7 Z A F i nx K (.error e))(hl:cs.length=5)(hn:nx<=nx2)(p:SH Z ((i,cs)::A) F H2 nx2):
  ∃H5,stC H2 (.ptr i 0) [iv 0,.str [],iv 0,iv 0,iv 0]=some H5/\∃(n1:Int) (s1:List UInt8) (x1 y1 z1:Int),ldN H5 5 (.ptr i 0)=some (.agg [iv n1,.str s1,iv x1,iv y1,iv z1])/\K (.ret (.tuple [.agg [iv n1,.str s1,iv x1,iv y1,iv z1],iv 0,iv e])) H5 nx2:=
 p.all .hd (by simp [hl]) rfl λH3 p3=>⟨_,_,_,_,_,p3.ldAll .hd rfl,h H3 nx2 hn p3.drop⟩
abbrev kh:List qa:=[iv 0,.str [],iv 0,iv 0,iv 0]
theorem qhe{u w:List UInt8}{i nx1:Nat}{env:Env}(hul:u.length<=16384)(hw:w=u.takeWhile λc=>Pt.letter c||Pt.digit c)(h1:1<=w.length)(hn:nx<=nx1)(p:SH Z ((i,kh)::A) F H nx1)(he:ql (qj .und [(6,iv 1),(4,iv 0),(3,iv 0),(2,.ptr i 0),(0,.str u)]) env)
  (hK:Y7 Z A F i nx K (.ok (if Pt.isWord w then 3 else 2,w,0,w.length))):
  LpP PG 132 (qn (qe PG ju) [1,1,0,0,1,0,1,0,0,0]) env H nx1 [] none (qx PG (qk PG) (LpP PG 132) 132 (qe PG ju) [1,1,0,0,1,0,1,0,0] (qy PG (zx (qB PG)) (qS PG (qB PG)) K (qF PG ju))):=by
 have htw:=Vj (p:=λc:UInt8=>Pt.letter c||Pt.digit c) (u:=u)
 refine zu (P:=PG) (X:=Nat) (Y:=Nat) (λn=>qj .und [(6,iv n),(4,iv 0),(3,iv 0),(2,.ptr i 0),(0,.str u)]) (λn=>qj .und [(6,iv n),(4,iv 0),(3,iv 0),(2,.ptr i 0),(0,.str u)])
  (λm n H2 nx2=>H2=H/\nx2=nx1/\m=u.length - n/\n<=w.length)
  (λid n H2 nx2=>id=1/\H2=H/\nx2=nx1/\n=w.length) (u.length - 1) 1 he ⟨rfl,rfl,rfl,h1⟩ ?_ ?_
 ·rintro m n H2 nx2 ⟨rfl,rfl,rfl,hn⟩
  refine WpP.part (ts:=[0,2,3,4,6]) qr ?_
  refine Eq.mpr (qid (qk PG) (LpP PG) _ _ _ _ i 0 n u H2 nx2) ?_
  rw [hw]at hn;have hs:=yX hn
  rw [<-hw]at hs;have out:w.length=n->_:=λe=>(⟨rfl,n,ql.okay,rfl,rfl,rfl,e.symm⟩:([]:Dfs)=([]:Dfs)/\∃y,ql (qj .und [(6,iv (y:Nat)),(4,iv 0),(3,iv 0),(2,.ptr i 0),(0,.str u)]) (qj .und [(0,.str u),(2,.ptr i 0),(3,iv 0),(4,iv 0),(6,iv n)])/\1=1/\H2=H2/\nx2=nx2/\y=w.length)
  refine qi.2 ⟨λh=> ?_,λh=> ?_⟩
  ·have h:(n:Int)<(u.length:Int):=of_decide_eq_true h
   have hlt:n<u.length:=by omega
   have hget:u[(n:Int).toNat]?=some u[n]:=by simp [hlt]
   have on:(Pt.letter u[n]||Pt.digit u[n])=true->_:=λhp=>(⟨rfl,u.length - (n+1),n+1,by omega,ql.of_list (by rw [qw (by omega) (by omega)];exact⟨rfl,rfl,rfl,rfl,rfl,trivial⟩),rfl,rfl,rfl,(hs.1 u[n] (by simp [hlt])).1 hp⟩:
    ([]:Dfs)=([]:Dfs)/\∃m' n',m'<u.length - n/\ql (qj .und [(6,iv (n':Nat)),(4,iv 0),(3,iv 0),(2,.ptr i 0),(0,.str u)]) (qj .und [(0,.str u),(2,.ptr i 0),(3,iv 0),(4,iv 0),(6,iv (i64.wrap (n+1)))])/\H2=H2/\nx2=nx2/\m'=u.length - n'/\n'<=w.length)
   refine⟨by omega,u[n],hget,Wa (qb.2 ⟨_,rfl,qi.2 ⟨λh2=>on (by simp [h2]),λh2=>⟨by omega,u[n],hget,JY (qb.2 ⟨_,rfl,qi.2 ⟨λh3=>on (by simp [h3]),λh3=> ?_⟩⟩)⟩⟩⟩)⟩
   exact out ((hs.1 u[n] (by simp [hlt])).2 (by simp [h2,h3]))
  ·have h:¬(n:Int)<(u.length:Int):=of_decide_eq_false h
   exact out (hs.2 (by rw [List.getElem?_eq_none (by omega)]))
 ·rintro id n H2 nx2 ⟨rfl,rfl,rfl,hnn⟩
  refine Eq.mpr (qf8 (qk PG) (LpP PG) (zx (qB PG)) (qS PG (qB PG)) i 0 n u H2 nx2 K) ?_
  have hle:n<=u.length:=by rw [hnn,hw];exact htw
  have ew:List.take ((some ((n:Nat):Int).toNat).getD u.length - 0) (List.drop 0 u)=w:=by rw [qdo,hnn,hw,Q4]
  rw [ew];refine⟨by omega,Kc hle,by omega,qco (qb.2 ⟨_,rfl,qi.2 ⟨λh2=>⟨by omega,Kc hle,by omega,rfl,rfl,?_⟩,λh2=>⟨by omega,Kc hle,by omega,rfl,rfl,?_⟩⟩⟩)⟩
  ·rw [h2]at hK;exact hK.give rfl (by omega) hn p
  ·rw [h2]at hK;exact hK.give rfl (by omega) hn p
theorem ql1{u w:List UInt8}{i nx1:Nat}{env:Env}(hul:u.length<=16384)(hw:w=u.takeWhile Pt.digit)(hnx:nx<=nx1)(p:SH Z ((i,kh)::A) F H nx1)(he:ql (qj .und [(8,iv 0),(7,iv 0),(4,iv 0),(3,iv 0),(2,.ptr i 0),(0,.str u)]) env)
  (hK:Y7 Z A F i nx K (match Pt.numGo 0 u with|some v=> .ok (4,w,v,w.length)|none=> .error 12)):
  LpP PG 132 (qn (qe PG ju) [1,1,0,0,1,1,1,0,1,1,0,0,0]) env H nx1 [] none (qx PG (qk PG) (LpP PG 132) 132 (qe PG ju) [1,1,0,0,1,1,1,0,1,1,0,0] (qy PG (zx (qB PG)) (qS PG (qB PG)) K (qF PG ju))):=by
 have htw:=Vj (p:=Pt.digit) (u:=u)
 refine zu (P:=PG) (X:=Nat×Nat) (Y:=Nat×Nat) (λn=>qj .und [(8,iv n.2),(7,iv n.1),(4,iv 0),(3,iv 0),(2,.ptr i 0),(0,.str u)]) (λn=>qj .und [(8,iv n.2),(7,iv n.1),(4,iv 0),(3,iv 0),(2,.ptr i 0),(0,.str u)])
  (λm n H2 nx2=>H2=H/\nx2=nx1/\m=u.length - n.1/\n.1<=w.length/\n.2<=9223372036854775807/\Pt.numGo 0 u=Pt.numGo n.2 (u.drop n.1))
  (λid n H2 nx2=>id=3/\H2=H/\nx2=nx1/\n.1=w.length/\n.2<=9223372036854775807/\Pt.numGo 0 u=some n.2) (u.length - 0) (0,0) he ⟨rfl,rfl,rfl,by simp,by simp,rfl⟩ ?_ ?_
 ·rintro m ⟨n,v⟩ H2 nx2 ⟨rfl,rfl,rfl,hn,hv,hg⟩
  dsimp only at hn hv hg ⊢
  refine WpP.part (ts:=[0,2,3,4,7,8]) qr ?_
  refine Eq.mpr (qmg (qk PG) (LpP PG) _ _ _ _ i n v u H2 nx2) ?_
  rw [hw]at hn;have hs:=yX hn
  rw [<-hw]at hs;have out:w.length=n->Pt.numGo v (u.drop n)=some v->_:=λe e2=>(⟨rfl,(n,v),ql.okay,rfl,rfl,rfl,e.symm,hv,hg.trans e2⟩:
   ([]:Dfs)=([]:Dfs)/\∃y:Nat×Nat,ql (qj .und [(8,iv y.2),(7,iv y.1),(4,iv 0),(3,iv 0),(2,.ptr i 0),(0,.str u)]) (qj .und [(0,.str u),(2,.ptr i 0),(3,iv 0),(4,iv 0),(7,iv n),(8,iv v)])/\3=3/\H2=H2/\nx2=nx2/\y.1=w.length/\y.2<=9223372036854775807/\Pt.numGo 0 u=some y.2)
  refine qi.2 ⟨λh=> ?_,λh=> ?_⟩
  ·have h:(n:Int)<(u.length:Int):=of_decide_eq_true h
   have hlt:n<u.length:=by omega
   have hget:u[(n:Int).toNat]?=some u[n]:=by simp [hlt]
   have hd:u.drop n=u[n]::u.drop (n+1):=kR hlt
   refine⟨by omega,u[n],hget,JY (qb.2 ⟨_,rfl,qi.2 ⟨λh2=> ?_,λh2=> ?_⟩⟩)⟩
   ·obtain⟨d1,d2⟩:=wt.1 h2
    obtain⟨d,hd0⟩:∃d,d=u[n].toNat - 48:=⟨_,rfl⟩
    have e1:i64.wrap (IntKind.u8.wrap (Int.ofNat u[n].toNat - 48))=(d:Int):=by
     have:Int.ofNat u[n].toNat - 48=(d:Int):=by show(u[n].toNat:Int) - 48=_;omega
     rw [this,wu8 (by omega) (by omega),qw (by omega) (by omega)]
    have e2:(i64.wrap (9223372036854775807 - (d:Int))).tdiv 10=(((9223372036854775807 - d) / 10:Nat):Int):=by
     rw [qw (by omega) (by omega),Int.tdiv_eq_ediv_of_nonneg (by omega)];omega
    have hg':Pt.numGo 0 u=if(9223372036854775807 - d) / 10<v then none else Pt.numGo (10*v+d) (u.drop (n+1)):=by
     rw [hg,hd,Pt.numGo,if_pos h2,<-hd0]
    refine⟨by omega,u[n],hget,by decide,?_⟩
    rw [e1,e2,qw (n:=(((9223372036854775807 - d) / 10:Nat):Int)) (by omega) (by omega)]
    refine qi.2 ⟨λh3=> ?_,λh3=> ?_⟩
    ·have h3:(((9223372036854775807 - d) / 10:Nat):Int)<(v:Int):=of_decide_eq_true h3
     rw [if_pos (by omega)]at hg'
     rw [hg']at hK;obtain⟨H5,q1,q2⟩:=hK.bad rfl hnx p
     exact⟨H5,q1,Eq.mpr (qik (qk PG) (LpP PG) (zx (qB PG)) (qS PG (qB PG)) i 0 12 n v u H5 nx2 K) q2⟩
    ·have h3:¬(((9223372036854775807 - d) / 10:Nat):Int)<(v:Int):=of_decide_eq_false h3
     rw [if_neg (by omega)]at hg'
     have:=(hs.1 u[n] (by simp [hlt])).1 h2
     refine⟨rfl,u.length - (n+1),(n+1,10*v+d),by omega,ql.of_list ?_,rfl,rfl,rfl,this,?_,hg'⟩
     ·rw [qw (by omega) (by omega),qw (n:=10*(v:Int)) (by omega) (by omega),qw (by omega) (by omega),show(10*(v:Int)+(d:Int))=((10*v+d:Nat):Int) by omega]
      exact⟨rfl,rfl,rfl,rfl,rfl,rfl,trivial⟩
     ·show 10*v+d<=_;omega
   ·exact out ((hs.1 u[n] (by simp [hlt])).2 h2) (by rw [hd,Pt.numGo,if_neg (by rw [h2];simp)])
  ·have h:¬(n:Int)<(u.length:Int):=of_decide_eq_false h
   exact out (hs.2 (by rw [List.getElem?_eq_none (by omega)])) (by rw [List.drop_eq_nil_of_le (by omega)];rfl)
 ·rintro id ⟨n,v⟩ H2 nx2 ⟨rfl,rfl,rfl,hn,hv,hg⟩
  dsimp only at hn hv hg ⊢
  refine Eq.mpr (qh0 (qk PG) (LpP PG) (zx (qB PG)) (qS PG (qB PG)) i n v u H2 nx2 K) ?_
  have hle:n<=u.length:=by rw [hn,hw];exact htw
  have ew:List.take ((some ((n:Nat):Int).toNat).getD u.length - 0) (List.drop 0 u)=w:=by rw [qdo,hn,hw,Q4]
  rw [ew];rw [hg]at hK;exact⟨by omega,Kc hle,by omega,rfl,rfl,rfl,hK.give rfl (by omega) hnx p⟩
theorem qit{u:List UInt8}{i a nx1:Nat}{env:Env}(hul:u.length<=16384)(hnx:nx<=nx1)(p:SH Z ((a,vj)::(i,kh)::A) F H nx1)(he:ql (qj .und [(11,iv 0),(10,.ptr a 0),(4,iv 0),(3,iv 0),(2,.ptr i 0),(0,.str u)]) env)
  (hK:Y7 Z A F i nx K (jP u jv)):
  LpP PG 132 (qn (qe PG ju) [1,1,1,1,0,1,0,0]) env H nx1 [] none (qx PG (qk PG) (LpP PG 132) 132 (qe PG ju) [1,1,1,1,0,1,0] (qy PG (zx (qB PG)) (qS PG (qB PG)) K (qF PG ju))):=by
 have h25:jv.length=25:=by decide
 refine zu (P:=PG) (X:=Nat) (Y:=Nat) (λn=>qj .und [(11,iv n),(10,.ptr a 0),(4,iv 0),(3,iv 0),(2,.ptr i 0),(0,.str u)]) (λn=>qj .und [(11,iv n),(10,.ptr a 0),(4,iv 0),(3,iv 0),(2,.ptr i 0),(0,.str u)])
  (λm n H2 nx2=>nx<=nx2/\SH Z ((a,vj)::(i,kh)::A) F H2 nx2/\m=25 - n/\n<=25/\jP u jv=jP u (jv.drop n))
  (λid n H2 nx2=>id=5/\nx<=nx2/\SH Z ((a,vj)::(i,kh)::A) F H2 nx2/\jP u jv= .error 10) 25 0 he ⟨hnx,p,rfl,by omega,rfl⟩ ?_ ?_
 ·rintro m n H2 nx2 ⟨h2,p2,rfl,hn,hg⟩
  refine WpP.part (ts:=[0,2,3,4,10,11]) qr ?_
  refine Eq.mpr (qj9 (qk PG) (LpP PG) _ _ _ _ i a n u H2 nx2) ?_
  refine qi.2 ⟨λh=> ?_,λh=> ?_⟩
  ·have h:(n:Int)<25:=of_decide_eq_true h
   have hlt:n<jv.length:=by omega
   have hd:jv.drop n=jv[n]::jv.drop (n+1):=List.drop_eq_getElem_cons hlt
   obtain⟨w,hw⟩:∃w,w=jv[n]:=⟨_,rfl⟩
   rw [hd,<-hw,jP]at hg;have hc:∀{H3:qd} {B:qN} {n3:Nat},SH Z ((a,vj)::B) F H3 n3->ld1 H3 (.ptr a (0+(n:Int).toNat*1))=some (.str w):=λp=>by
    rw [p.ld1 .hd,show 0+(n:Int).toNat*1=n by omega,XM hlt,hw]
   have hc2:=hc p2
   have hn27:(n:Int).toNat<27:=by omega
   have hn0:(0:Int)<=n:=by omega
   have next:∀nx3,nx2<=nx3->jP u jv=jP u (jv.drop (n+1))->_:=λnx3 hx e=>(⟨rfl,25 - (n+1),n+1,by omega,ql.of_list (by rw [qw (by omega) (by omega)];exact⟨rfl,rfl,rfl,rfl,rfl,rfl,trivial⟩),by omega,p2.more hx,rfl,by omega,e⟩:
    ([]:Dfs)=([]:Dfs)/\∃m' n',m'<25 - n/\ql (qj .und [(11,iv (n':Nat)),(10,.ptr a 0),(4,iv 0),(3,iv 0),(2,.ptr i 0),(0,.str u)]) (qj .und [(0,.str u),(2,.ptr i 0),(3,iv 0),(4,iv 0),(10,.ptr a 0),(11,iv (i64.wrap (n+1)))])/\nx<=nx3/\SH Z ((a,vj)::(i,kh)::A) F H2 nx3/\m'=25 - n'/\n'<=25/\jP u jv=jP u (jv.drop n'))
   refine⟨hn0,hn27,_,rfl,_,hc2,qi.2 ⟨λh3=> ?_,λh3=> ?_⟩⟩
   ·have h3:(w.length:Int)<=(u.length:Int):=of_decide_eq_true h3
    have hwl:w.length<=u.length:=by omega
    have es:List.take ((some (Int.ofNat w.length).toNat).getD u.length - 0) (List.drop 0 u)=u.take w.length:=by simp
    have g1:(0:Int)<=Int.ofNat w.length:=Int.natCast_nonneg _
    have g2:(some (Int.ofNat w.length).toNat).getD u.length<=u.length:=by simpa using hwl
    refine⟨hn0,hn27,_,rfl,_,hc2,g1,g2,Nat.zero_le _,hn0,hn27,_,rfl,_,hc2,⟨⟨_,hc2,rfl⟩,⟨_,hc2,rfl⟩,⟨g1,g2,Nat.zero_le _,rfl⟩,⟨_,hc2,rfl⟩,trivial⟩,?_⟩
    rw [es];refine qi.2 ⟨λh4=> ?_,λh4=> ?_⟩
    ·have h4:u.take w.length=w:=by simpa using h4
     rw [if_pos ⟨hwl,h4⟩]at hg;rw [hg]at hK;refine⟨hn0,hn27,_,rfl,_,hc2,qi.2 ⟨λh5=> ?_,λh5=> ?_⟩⟩
     ·have h5:w=[59]:=by simpa using h5
      rw [if_pos h5]at hK;have p3:=p2.swap
      refine⟨hn0,hn27,_,rfl,_,hc2,rfl,rfl,hn0,hn27,_,rfl,_,hc2,⟨⟨_,hc2,rfl⟩,⟨_,hc2,rfl⟩,trivial⟩,?_⟩
      refine p3.all .hd rfl rfl λH4 p4=>⟨⟨⟨_,hc p4.swap,rfl⟩,trivial⟩,?_⟩
      exact Eq.mpr (WC (qk PG) (LpP PG) (zx (qB PG)) (qS PG (qB PG)) i a _ 0 n u H4 _ K) ⟨_,_,_,_,_,p4.ldAll .hd rfl,hK H4 _ (by omega) (p4.drop.drop.more (by omega))⟩
     ·have h5:¬w=[59]:=by simpa using h5
      rw [if_neg h5]at hK;have p3:=p2.swap
      refine⟨hn0,hn27,_,rfl,_,hc2,rfl,rfl,hn0,hn27,_,rfl,_,hc2,⟨⟨_,hc2,rfl⟩,⟨_,hc2,rfl⟩,trivial⟩,?_⟩
      refine p3.all .hd rfl rfl λH4 p4=>⟨⟨⟨_,hc p4.swap,rfl⟩,trivial⟩,?_⟩
      exact Eq.mpr (WC (qk PG) (LpP PG) (zx (qB PG)) (qS PG (qB PG)) i a _ 0 n u H4 _ K) ⟨_,_,_,_,_,p4.ldAll .hd rfl,hK H4 _ (by omega) (p4.drop.drop.more (by omega))⟩
    ·have h4:¬u.take w.length=w:=by simpa using h4
     rw [if_neg λx=>h4 x.2]at hg
     exact next _ (by omega) hg
   ·have h3:¬(w.length:Int)<=(u.length:Int):=of_decide_eq_false h3
    rw [if_neg λx=>h3 (by omega)]at hg
    exact⟨⟨⟨_,hc2,rfl⟩,rfl,rfl,rfl,trivial⟩,next _ (by omega) hg⟩
  ·have h:¬(n:Int)<25:=of_decide_eq_false h
   refine⟨rfl,n,ql.okay,rfl,h2,p2,?_⟩
   rw [hg,List.drop_eq_nil_of_le (by omega)];rfl
 ·rintro id n H2 nx2 ⟨rfl,h2,p2,hg⟩
  refine Eq.mpr (qfu (qk PG) (LpP PG) (zx (qB PG)) (qS PG (qB PG)) i a n u H2 nx2 K) ?_
  rw [hg]at hK;exact hK.bad rfl h2 p2.drop
theorem ql0{c:UInt8}{s:List UInt8}(h:SH Z A F H nx)(hul:s.length<16384)(hK:∀H' nx',nx<=nx'->SH Z A F H' nx'->K (.ret (qp4 (Pt.one c s))) H' nx'):qk PG ju [.str (c::s)] H nx K:=by
 refine qk.of_body qr ?_
 rw [qck];obtain⟨i,hi⟩:∃i,i=nx:=⟨_,rfl⟩
 refine h.new (cs:=kh) lR λH0 p0=>⟨by decide,c,rfl,Wa (qb.2 ⟨_,rfl,?_⟩)⟩
 have hK:Y7 Z A F nx nx K (Pt.one c s):=hK
 have hlen:(c::s).length<=16384:=by simp;omega
 unfold Pt.one at hK;refine qi.2 ⟨λhl=> ?_,λhl=>JY (qb.2 ⟨_,rfl,qi.2 ⟨λhd=> ?_,λhd=>qi.2 ⟨λhq=> ?_,λhq=> ?_⟩⟩⟩)⟩
 ·rw [if_pos hl]at hK;have hw:(c::s.takeWhile λc=>Pt.letter c||Pt.digit c)=(c::s).takeWhile λc=>Pt.letter c||Pt.digit c:=by rw [List.takeWhile_cons,if_pos (by simp [hl])]
  exact qhe (nx:=nx) (nx1:=nx+1) hlen hw (by simp) (by omega) p0 (ql.okay) hK
 all_goals rw [if_neg (by simp [hl])]at hK
 ·rw [if_pos hd]at hK;have hw:(c::s.takeWhile Pt.digit)=(c::s).takeWhile Pt.digit:=by rw [List.takeWhile_cons,if_pos hd]
  refine ql1 (nx:=nx) (nx1:=nx+1) hlen hw (by omega) p0 (ql.okay) ?_
  cases e:Pt.numGo 0 (c::s)with
  |none=>rw [e]at hK;exact hK
  |some v=>rw [e]at hK;rw [show(c::s.takeWhile Pt.digit).length=1+(s.takeWhile Pt.digit).length by simp;omega];exact hK
 all_goals rw [if_neg (by simp [hd])]at hK
 ·have hq:c=34:=by
   have hq:(c.toNat:Int)=34:=of_decide_eq_true hq
   rw [<-UInt8.toNat_inj];show c.toNat=34;omega
  rw [if_pos hq]at hK;refine qho p0 hlen (by simp) λH1 n1 g1 p1=>qb.2 ?_
  rw [List.drop_succ_cons,List.drop_zero];cases e:Pt.textGo 1 [] s with
  |none=>rw [e]at hK;exact⟨_,_,_,_,_,_,_,rfl,hK.bad rfl (by omega) p1⟩
  |some v=>rw [e]at hK;exact⟨_,_,_,_,_,_,_,rfl,hK.give rfl rfl (by omega) p1⟩
 ·have hq:¬c=34:=λe=>of_decide_eq_false hq (by rw [e];rfl)
  rw [if_neg hq,qky]at hK;refine⟨rfl,rfl,rfl,rfl,rfl,rfl,rfl,rfl,rfl,rfl,rfl,rfl,rfl,rfl,rfl,rfl,rfl,rfl,rfl,rfl,rfl,rfl,rfl,rfl,rfl,rfl,rfl,?_⟩
  refine p0.new lR λH1 p1=>p1.all (vs:=vj) .hd rfl rfl λH2 p2=> ?_
  exact qit hlen (by omega) p2 (ql.okay) hK
end
def TkS(o:qa)(ts:List Tok)(G:qN):Prop:=(o= .nilSlice/\ts=[]/\G=[])\/∃b,o= .slice b 0 ts.length 5 false/\G=[(b,ts.flatMap jd)]
def FO(Z:Nat->Prop)(r:Nat)(ts:List Tok)(line col:Int)(full:Bool)(A:qN)(F:qU)(H:qd)(nx:Nat):Prop:=∃o G,TkS o ts G/\SH Z ((r,[o,iv line,iv col,.bool full])::(G++A)) F H nx
theorem wK:∀ts:List Tok,(ts.flatMap jd).length=ts.length*5
 |[]=>rfl
 |t::ts=>by rw [List.flatMap_cons,List.length_append,wK ts];simp [jd];omega
section
variable{r i:Nat}{ts:List Tok}{line col:Int}{fl:Bool}{o:qa}{G A:qN}{F:qU}{H:qd}{nx:Nat}{K:qv}
theorem TkS.len(g:TkS o ts G):kI o=some ts.length:=by rcases g with⟨rfl,rfl,_⟩|⟨b,rfl,_⟩<;>rfl
theorem FO.more{nx':Nat}(h:FO Z r ts line col fl A F H nx)(hn:nx<=nx'):FO Z r ts line col fl A F H nx':=let⟨o,G,g,p⟩:=h;⟨o,G,g,p.more hn⟩
theorem SH.newBN{A:qN}{F:qU}{H:qd}{nx i:Nat}{cs:List qa}{k:qd->Prop}(h:SH Z A F H nx)(h1:nx<=i)(hK:∀H',SH Z ((i,cs)::A) F H' (i+1)->k H'):∃H0,H0=Vs.newBN i cs.length cs H/\k H0:=SH.new h h1 hK
theorem XA{tk tn tl tc:Int}{tt:List UInt8}(h:FO Z r ts line col fl A F H nx)
  (hfull:4000<=ts.length->∀H' nx',nx<=nx'->FO Z r ts line col true A F H' nx'->K (.ret (.tuple [])) H' nx')
  (hok:¬4000<=ts.length->∀H' nx',nx<=nx'->FO Z r (ts++[⟨tk,tt,tn,line,col⟩]) line col false A F H' nx'->K (.ret (.tuple [])) H' nx'):
  qk PG kG [.ptr r 0,.agg [iv tk,.str tt,iv tn,iv tl,iv tc]] H nx K:=by
 refine qk.of_body qr ?_
 rw [qc6];obtain⟨o,G,g,p⟩:=h
 refine p.newBN (cs:=[iv tk,.str tt,iv tn,iv tl,iv tc]) lR λH0 p0=> ?_
 refine⟨rfl,_,rfl,o,p0.ld1 (.tl .hd) 0,ts.length,g.len,rfl,_,rfl,rfl,p0.one (.tl .hd) (by simp) rfl λH1 p1=>⟨rfl,_,rfl,line,p1.ld1 (.tl .hd) 1,_,rfl,rfl,p1.one .hd (by simp) rfl λH2 p2=>⟨rfl,_,rfl,col,p2.ld1 (.tl .hd) 2,_,rfl,rfl,p2.one .hd (by simp) rfl λH3 p3=>⟨rfl,_,rfl,_,p3.ld1 (.tl .hd) 3,qi.2 ⟨λhf=> ?_,λhf=> ?_⟩⟩⟩⟩⟩
 ·have hf:¬4000<=ts.length:=by
   have hf:¬(4000:Int)<=Int.ofNat ts.length:=by simpa using hf
   intro x;exact hf (Int.ofNat_le.2 x)
  rw [decide_eq_false (p:=(4000:Int)<=Int.ofNat ts.length) (λx=>hf (Int.ofNat_le.1 x))]at p3
  have p3:SH Z ((nx,[iv tk,.str tt,iv tn,iv line,iv col])::(r,[o,iv line,iv col,.bool false])::(G++A)) F H3 (nx+1):=p3
  refine⟨rfl,_,rfl,o,p3.ld1 (.tl .hd) 0,_,_,_,_,_,p3.ldAll .hd rfl,p3.new (i:=nx+1+6) (by omega) λH4 p4=>⟨⟨⟨_,p4.ld1 (.tl (.tl .hd)) 0,rfl⟩,⟨_,_,_,_,_,p4.ldAll (.tl .hd) rfl,rfl⟩,trivial⟩,?_⟩⟩
  have p5:=p4.freeze
  refine⟨1,[iv tk,.str tt,iv tn,iv line,iv col],by rw [p5.src (.head _) (by simp)];rfl,rfl,?_⟩
  have fin:∀{v:qa} {b:Nat} {H5:qd} {G':qN},v= .slice b 0 (ts.length+1) 5 false->SH Z ((b,ts.flatMap jd++[iv tk,.str tt,iv tn,iv line,iv col])::(nx,[iv tk,.str tt,iv tn,iv line,iv col])::(r,[o,iv line,iv col,.bool false])::A) (RowF (nx+1+6) [iv tk,.str tt,iv tn,iv line,iv col]::F) H5 (nx+1+11+1)->
    true=true/\∃v35,some (u0 r 0)=some v35/\True/\qI v=true/\∃H36,stC H5 v35 [v]=some H36/\True/\K (.ret (.tuple [])) H36 (nx+1+11+1):=by
   intro v b H5 G' hv p6;subst hv;refine⟨rfl,_,rfl,trivial,rfl,p6.one (.tl (.tl .hd)) (by simp) rfl λH6 p7=>⟨trivial,hok hf H6 _ (by omega) ⟨.slice b 0 (ts.length+1) 5 false,[(b,ts.flatMap jd++[iv tk,.str tt,iv tn,iv line,iv col])],.inr ⟨b,by simp,by simp [jd]⟩,?_⟩⟩⟩
   exact((p7.sel (A':=(b,ts.flatMap jd++[iv tk,.str tt,iv tn,iv line,iv col])::(r,[.slice b 0 (ts.length+1) 5 false,iv line,iv col,.bool false])::A) (.cons_cons _ (.cons _ (.refl _)))).swap).sub λP hP=> .tail _ hP
  rcases g with⟨rfl,rfl,rfl⟩|⟨b,rfl,rfl⟩
  ·obtain⟨H5,e1,e2⟩:=(p5.more (nx':=nx+1+11) (by omega)).appNil (esz:=5) (ebytes:=48) (k:=1) (new:=[iv tk,.str tt,iv tn,iv line,iv col]) rfl (by omega) (by omega) (by omega)
   exact⟨_,H5,_,e1,fin (b:=nx+1+11) (G':=[]) rfl e2⟩
  ·have p6:=(p5.more (nx':=nx+1+11) (by omega)).ins (b:=b) (cs:=ts.flatMap jd) (A1:=(nx,[iv tk,.str tt,iv tn,iv line,iv col])::(r,[.slice b 0 ts.length 5 false,iv line,iv col,.bool false])::A) (.tl (.tl .hd))
   obtain⟨H5,e1,e2⟩:=p6.app (esz:=5) (ebytes:=48) (k:=1) (len:=ts.length) (new:=[iv tk,.str tt,iv tn,iv line,iv col]) (wK ts) rfl (by omega) (by omega) (by omega)
   exact⟨_,H5,_,e1,fin (b:=nx+1+11) (G':=[]) rfl e2⟩
 ·have hf:4000<=ts.length:=by
   have hf:(4000:Int)<=Int.ofNat ts.length:=by simpa using hf
   exact Int.ofNat_le.1 hf
  rw [decide_eq_true (p:=(4000:Int)<=Int.ofNat ts.length) (Int.ofNat_le.2 hf)]at p3;have p3:SH Z ((nx,[iv tk,.str tt,iv tn,iv line,iv col])::(r,[o,iv line,iv col,.bool true])::(G++A)) F H3 (nx+1):=p3
  exact hfull hf H3 _ (by omega) ⟨o,G,g,p3.drop⟩
theorem qeh{A:qN}{t:Tok}{ts':List Tok}(g:TkS o (ts'++[t]) G)(p:SH Z ((r,[o,iv line,iv col,.bool fl])::(G++A)) F H nx):∃v,zq o ts'.length 5=some v/\ldN H 5 v=some (vz t):=by
 rcases g with⟨_,e,_⟩|⟨b,rfl,rfl⟩
 ·simp at e
 ·refine⟨_,zW (by simp),?_⟩
  rw [p.ldN (.tl .hd) (by rw [wK];simp;omega),Nat.zero_add]
  have:(ts'++[t]).flatMap jd=ts'.flatMap jd++jd t:=by simp
  rw [this,List.drop_append_of_le_length (by rw [wK];omega),List.drop_eq_nil_of_le (by rw [wK];omega)]
  rfl
def ql4(Z:Nat->Prop)(r:Nat)(ts:List Tok)(line col:Int)(A:qN)(F:qU)(nx:Nat)(T:qd->Nat->Prop):Prop:=match Pt.putEnd ts line col with
 | .ok out=>∀H' n',nx<=n'->FO Z r out line col false A F H' n'->T H' n'
 | .error f=>f=⟨line,col,6⟩->∀H' n',nx<=n'->FO Z r ts line col true A F H' n'->T H' n'
theorem qee{t:Tok}{ts':List Tok}{T:qd->Nat->Prop}{q1 q2:List (qa×Bool)->qd->Nat->Prop}{nx0:Nat}(h:FO Z r (ts'++[t]) line col false A F H nx)(hn:nx0<=nx)(hK:ql4 Z r (ts'++[t]) line col A F nx0 T):
  qk PG Q6 [vz t] H nx λe H1 i2=>qc e (λv25=>∃b26,v25= .bool b26/\True/\ifB b26 (true=true/\true=true/\qk PG kG [.ptr r 0,.agg [iv 1,.str [59],iv 0,iv 0,iv 0]] H1 i2 λe27 H28 i29=>qc e27 (λ_=>T H28 i29) λl=>q1 l H28 i29) (T H1 i2)) λl=>q2 l H1 i2:=by
 unfold ql4 Pt.putEnd at hK;have he:Pt.ends (ts'++[t])=Pt.endsTok t:=by unfold Pt.ends;simp
 rw [he]at hK;obtain⟨o,G,g,p⟩:=h
 refine qj0 p λH1 n1 g1 p1=>qb.2 ⟨_,rfl,trivial,qi.2 ⟨λe=>⟨rfl,rfl,?_⟩,λe=> ?_⟩⟩
 ·rw [if_pos e]at hK;unfold Pt.put at hK;refine XA ⟨o,G,g,p1⟩ (λhf H2 n2 g2 p2=>qb.2 ?_) λhf H2 n2 g2 p2=>qb.2 ?_
  ·rw [if_pos hf]at hK;exact hK rfl H2 n2 (by omega) p2
  ·rw [if_neg hf]at hK;exact hK H2 n2 (by omega) p2
 ·rw [if_neg (by rw [e];simp)]at hK
  exact hK H1 n1 (by omega) ⟨o,G,g,p1⟩
def qbd(Z:Nat->Prop)(A:qN)(F:qU)(nx:Nat)(K:qv):Except Flt (List Tok)->Prop
 | .ok ts=>∀b H' nx',nx<=nx'->SH Z A (TokF b ts::F) H' nx'->K (.ret (.tuple [.slice b 0 ts.length 5 false,.agg kh,iv 0])) H' nx'
 | .error f=>∀H' nx',nx<=nx'->SH Z A F H' nx'->K (.ret (.tuple [.nilSlice,.agg [iv 0,.str [],iv 0,iv f.line,iv f.col],iv f.e])) H' nx'
def qel(r i:Nat)(K:qv)(H:qd)(n:Nat):Prop:=
 true=true/\∃v40,some (u0 r 3)=some v40/\∃b41,ld1 H v40=some (.bool b41)/\ifB b41
  (true=true/\∃v42,some (u0 r 1)=some v42/\∃n43:Int,ld1 H v42=some (iv n43)/\true=true/\∃v44,some (u0 r 2)=some v44/\∃n45:Int,ld1 H v44=some (iv n45)/\true=true/\true=true/\((∃n46:Int,ld1 H v42=some (iv n46)/\iv n46=iv n43)/\(∃n47:Int,ld1 H v44=some (iv n47)/\iv n47=iv n45)/\True)/\
   ∃H48,stC H (.ptr i 0) [iv 0,.str [],iv 0,iv n43,iv n45]=some H48/\True/\∃(n1:Int) (s1:List UInt8) (x1 y1 z1:Int),ldN H48 5 (.ptr i 0)=some (.agg [iv n1,.str s1,iv x1,iv y1,iv z1])/\K (.ret (.tuple [.nilSlice,.agg [iv n1,.str s1,iv x1,iv y1,iv z1],iv 6])) H48 (n+12))
  (true=true/\∃v54,some (u0 r 0)=some v54/\∃v55,ld1 H v54=some v55/\∃H56,stC H (.ptr i 0) [iv 0,.str [],iv 0,iv 0,iv 0]=some H56/\∃(n1:Int) (s1:List UInt8) (x1 y1 z1:Int),ldN H56 5 (.ptr i 0)=some (.agg [iv n1,.str s1,iv x1,iv y1,iv z1])/\K (.ret (.tuple [v55,.agg [iv n1,.str s1,iv x1,iv y1,iv z1],iv 0])) H56 n)
theorem YW{nx0:Nat}(hn:nx0<=nx)(h:FO Z r ts line col true ((i,kh)::A) F H nx)(hK:qbd Z A F nx0 K (.error ⟨line,col,6⟩)):qel r i K H nx:=by
 obtain⟨o,G,g,p⟩:=h
 refine⟨rfl,_,rfl,true,p.ld1 .hd 3,qK rfl ⟨rfl,_,rfl,line,p.ld1 .hd 1,rfl,_,rfl,col,p.ld1 .hd 2,rfl,rfl,⟨⟨_,p.ld1 .hd 1,rfl⟩,⟨_,p.ld1 .hd 2,rfl⟩,trivial⟩,p.all (.tl (Upd.app .hd G)) rfl rfl λH1 p1=>⟨trivial,_,_,_,_,_,p1.ldAll (.tl (Own.app .hd G)) rfl,hK H1 _ (by omega) ?_⟩⟩⟩
 exact(p1.sel (.cons _ (List.Sublist.trans (.cons _ (.refl _)) (List.sublist_append_right _ _)))).more (by omega)
theorem qjo{nx0:Nat}(hn:nx0<=nx)(h:FO Z r ts line col false ((i,kh)::A) F H nx)(h0:ts≠[])(hK:qbd Z A F nx0 K (.ok ts)):qel r i K H nx:=by
 obtain⟨o,G,g,p⟩:=h
 rcases g with⟨_,e,_⟩|⟨b,rfl,rfl⟩
 ·exact absurd e h0
 refine⟨rfl,_,rfl,false,p.ld1 .hd 3,qH rfl ⟨rfl,_,rfl,_,p.ld1 .hd 0,p.all (.tl (.tl .hd)) rfl rfl λH1 p1=>⟨_,_,_,_,_,p1.ldAll (.tl (.tl .hd)) rfl,hK b H1 _ hn ?_⟩⟩⟩
 have p2:=(p1.sel (A':=(b,ts.flatMap jd)::A) (.cons _ (.cons_cons _ (.cons _ (.refl _))))).freeze
 refine(p2.add (P:=TokF b ts) λΓ q=> ?_).sub (List.cons_subset_cons _ (List.subset_cons_self _ _))
 exact⟨_,q _ (.head _),by rw [wK];omega,by rw [<-wK,List.take_length]⟩
def qix(r i:Nat)(K:qv)(q:List (qa×Bool)->qd->Nat->Prop)(H:qd)(n:Nat):Prop:=
 true=true/\∃v34,some (u0 r 3)=some v34/\∃b35,ld1 H v34=some (.bool b35)/\ifB (!b35) (true=true/\qk PG kG [.ptr r 0,.agg [iv 0,.str [],iv 0,iv 0,iv 0]] H n λe36 H37 i38=>qc e36 (λv39=>qel r i K H37 i38) λl=>q l H37 i38) (qel r i K H n)
theorem qdv{nx0:Nat}{q:List (qa×Bool)->qd->Nat->Prop}(hn:nx0<=nx)(h:FO Z r ts line col false ((i,kh)::A) F H nx)(hK:qbd Z A F nx0 K (Pt.put ts ⟨0,[],0,line,col⟩)):qix r i K q H nx:=by
 have h':=h
 obtain⟨o,G,g,p⟩:=h'
 refine⟨rfl,_,rfl,false,p.ld1 .hd 3,qK rfl ⟨rfl,XA h (λhf H1 n1 g1 p1=>qb.2 ?_) λhf H1 n1 g1 p1=>qb.2 ?_⟩⟩
 ·unfold Pt.put at hK;rw [if_pos hf]at hK;exact YW (by omega) p1 hK
 ·unfold Pt.put at hK;rw [if_neg hf]at hK;exact qjo (by omega) p1 (by simp) hK
theorem WO{nx0:Nat}{q:List (qa×Bool)->qd->Nat->Prop}(hn:nx0<=nx)(h:FO Z r ts line col true ((i,kh)::A) F H nx)(hK:qbd Z A F nx0 K (.error ⟨line,col,6⟩)):qix r i K q H nx:=by
 have h':=h
 obtain⟨o,G,g,p⟩:=h'
 exact⟨rfl,_,rfl,true,p.ld1 .hd 3,qH rfl (YW hn h hK)⟩
theorem qe3{ts:List Tok}(h:0<ts.length):∃ts' t,ts=ts'++[t]:=⟨ts.dropLast,ts.getLast (by intro e;subst e;simp at h),(List.dropLast_concat_getLast _).symm⟩
theorem qls{n:Int}{s:List UInt8}{lv:zU}{lvc:zT}{nx0:Nat}(hn:nx0<=nx)
  (h:(FO Z r ts line col true ((i,kh)::A) F H nx/\qbd Z A F nx0 K (.error ⟨line,col,6⟩))\/(FO Z r ts line col false ((i,kh)::A) F H nx/\qbd Z A F nx0 K (do let out <-Pt.putEnd ts line col;Pt.put out ⟨0,[],0,line,col⟩))) (few:ts.length<=4000):
  qie (qk PG) (LpP PG) lv lvc i r n s H nx K:=by
 unfold qie;rcases h with⟨h,hK⟩|⟨h,hK⟩
 ·have h':=h
  obtain⟨o,G,g,p⟩:=h'
  exact⟨rfl,_,rfl,true,p.ld1 .hd 3,qH rfl ⟨⟨⟨_,p.ld1 .hd 3,rfl⟩,rfl,rfl,rfl,rfl,trivial⟩,trivial,WO (q:=λl H n=>K (.pan l) H n) (nx:=nx+28) (by omega) (h.more (by omega)) hK⟩⟩
 have h':=h
 obtain⟨o,G,g,p⟩:=h'
 refine⟨rfl,_,rfl,false,p.ld1 .hd 3,qK rfl ⟨rfl,_,rfl,o,p.ld1 .hd 0,ts.length,g.len,qi.2 ⟨λh0=> ?_,λh0=> ?_⟩⟩⟩
 ·have h0:0<ts.length:=by simpa using h0
  obtain⟨ts',t,rfl⟩:=qe3 h0
  obtain⟨v,e1,e2⟩:=qeh g p
  have ew:i64.wrap (Int.ofNat (ts'++[t]).length - 1)=(ts'.length:Int):=by
   have:Int.ofNat (ts'++[t]).length - 1=(ts'.length:Int):=by simp
   rw [this,qw (by omega) (by simp at few;omega)]
  refine⟨rfl,_,rfl,o,p.ld1 .hd 0,rfl,_,rfl,o,p.ld1 .hd 0,_,g.len,by rw [ew];omega,v,by rw [ew,Int.toNat_natCast];exact e1,_,_,_,_,_,e2,⟨⟨_,p.ld1 .hd 3,rfl⟩,⟨_,p.ld1 .hd 0,rfl⟩,⟨_,p.ld1 .hd 0,rfl⟩,⟨_,p.ld1 .hd 0,rfl⟩,⟨_,_,_,_,_,e2,rfl⟩,trivial⟩,?_⟩
  have key:=qee (q1:=λl H n=>K (.pan l) H n) (q2:=λl H n=>K (.pan l) H n) (T:=qix r i K λl H n=>K (.pan l) H n) (nx0:=nx+28) (h.more (by omega:nx<=nx+28)) lR ?_
  ·exact key
  ·unfold ql4;cases e:Pt.putEnd (ts'++[t]) line col with
   |error f=>rw [e]at hK;exactλhf H' n' g' p'=>WO (nx0:=nx0) (by omega) p' (by rw [hf]at hK;exact hK)
   |ok out=>rw [e]at hK;exactλH' n' g' p'=>qdv (nx0:=nx0) (by omega) p' hK
 ·have h0:ts=[]:=by
   have h0:¬0<ts.length:=by simpa using h0
   exact List.length_eq_zero_iff.1 (by omega)
  subst h0;exact⟨⟨⟨_,p.ld1 .hd 3,rfl⟩,⟨_,p.ld1 .hd 0,rfl⟩,rfl,rfl,rfl,trivial⟩,trivial,qdv (q:=λl H n=>K (.pan l) H n) (nx:=nx+28) (by omega) (h.more (by omega)) hK⟩
end
abbrev cvA(r i:Nat)(u:List UInt8)(n:Int):Env:=qj .und [(6,iv n),(5,.ptr r 0),(4,iv 0),(3,.ptr i 0),(2,.nilSlice),(0,.str u)]
abbrev cvC(r i:Nat)(u:List UInt8)(n c:Int):Env:=qj .und [(7,bv c),(6,iv n),(5,.ptr r 0),(4,iv 0),(3,.ptr i 0),(2,.nilSlice),(0,.str u)]
def Wj(Z:Nat->Prop)(r i nx0:Nat)(A:qN)(F:qU)(u:List UInt8)(R:Except Flt (List Tok))(n:Nat)(H:qd)(n2:Nat):Prop:=
 nx0<=n2/\n<=u.length/\∃ts line col k,FO Z r ts line col false ((i,kh)::A) F H n2/\0<=line/\line<=n+1/\0<=col/\col<=n+1/\ts.length<=4000/\u.length - n<=k/\R=Pt.scan k (u.drop n) line col ts
def qeb(Z:Nat->Prop)(r i nx0:Nat)(A:qN)(F:qU)(R:Except Flt (List Tok))(H:qd)(n2:Nat):Prop:=
 nx0<=n2/\∃ts line col,ts.length<=4000/\((FO Z r ts line col true ((i,kh)::A) F H n2/\R= .error ⟨line,col,6⟩)\/(FO Z r ts line col false ((i,kh)::A) F H n2/\R=(do let out <-Pt.putEnd ts line col;Pt.put out ⟨0,[],0,line,col⟩)))
def LOn(ex:qad)(Z:Nat->Prop)(r i nx0:Nat)(A:qN)(F:qU)(u:List UInt8)(R:Except Flt (List Tok))(n:Nat)(K0:KP):Prop:=
 ∀(n':Nat) env H' nx',n<n'->ql (cvA r i u n') env->Wj Z r i nx0 A F u R n' H' nx'->K0 ex env H' nx' [] none
def qnw(Z:Nat->Prop)(r i nx0:Nat)(A:qN)(F:qU)(u:List UInt8)(R:Except Flt (List Tok))(K0:KP):Prop:=
 ∀(n':Nat) env H' nx',ql (cvA r i u n') env->qeb Z r i nx0 A F R H' nx'->K0 (.exit 0) env H' nx' [] none
def qp1(Z:Nat->Prop)(r i nx0:Nat)(A:qN)(F:qU)(u:List UInt8)(R:Except Flt (List Tok))(K0:KP):Prop:=
 ∀(e line col:Int) (n':Nat) H' nx',nx0<=nx'->R= .error ⟨line,col,e⟩->SH Z ((i,[iv 0,.str [],iv 0,iv line,iv col])::A) F H' nx'->K0 .ret (qj .und [(0,.str u),(2,.nilSlice),(3,.ptr i 0),(4,iv e),(5,.ptr r 0),(6,iv n')]) H' nx' [] none
theorem qko{out out':List Tok}{t:Tok}(h:Pt.put out t= .ok out'):out'.length<=4000:=by
 unfold Pt.put at h;split at h
 ·cases h
 ·cases h;simp;omega
theorem qbu{out out':List Tok}{line col:Int}(h:Pt.putEnd out line col= .ok out')(h0:out.length<=4000):out'.length<=4000:=by
 unfold Pt.putEnd at h;split at h
 ·exact qko h
 ·cases h;exact h0
section
variable{r i n nx0 nx:Nat}{ts:List Tok}{line col:Int}{A:qN}{F:qU}{u:List UInt8}{H:qd}{R:Except Flt (List Tok)}{K0:KP}{c:UInt8}
def VT3(r:Nat)(X0 X1:qd->Nat->Prop)(H:qd)(n:Nat):Prop:=
 true=true/\∃v31,some (u0 r 3)=some v31/\∃b32,ld1 H v31=some (.bool b32)/\ifB b32 (X0 H n) (true=true/\∃v33,some (u0 r 1)=some v33/\∃n34:Int,ld1 H v33=some (iv n34)/\true=true/\∃v35,some (u0 r 1)=some v35/\true=true/\∃H36,stC H v35 [iv (i64.wrap (n34+1))]=some H36/\true=true/\∃v37,some (u0 r 2)=some v37/\true=true/\∃H38,stC H36 v37 [iv 1]=some H38/\X1 H38 n)
theorem qjc{X0 X1:qd->Nat->Prop}{B:qN}(h:FO Z r ts line col false B F H nx)(h1:0<=line)(h2:line<=20000)(hK:∀H',FO Z r ts (line+1) 1 false B F H' nx->X1 H' nx):VT3 r X0 X1 H nx:=by
 obtain⟨o,G,g,p⟩:=h
 refine⟨rfl,_,rfl,false,p.ld1 .hd 3,qH rfl ⟨rfl,_,rfl,line,p.ld1 .hd 1,rfl,_,rfl,rfl,p.one .hd (by simp) rfl λH1 p1=>⟨rfl,_,rfl,rfl,p1.one .hd (by simp) rfl λH2 p2=>hK H2 ⟨o,G,g,?_⟩⟩⟩⟩
 rw [qw (by omega) (by omega)]at p2
 exact p2
theorem qlp{X0 X1:qd->Nat->Prop}{B:qN}(h:FO Z r ts line col true B F H nx)(hK:X0 H nx):VT3 r X0 X1 H nx:=by
 obtain⟨o,G,g,p⟩:=h
 exact⟨rfl,_,rfl,true,p.ld1 .hd 3,qK rfl hK⟩
theorem va3(hul:u.length<=16384)(hlt:n<u.length)(hd:u.drop n=c::u.drop (n+1))(h:Wj Z r i nx0 A F u R n H nx)(on:LOn (.exit 1) Z r i nx0 A F u R n K0)(off:qnw Z r i nx0 A F u R K0)
  (hno:c≠10->K0 .normal (qj .und [(0,.str u),(2,.nilSlice),(3,.ptr i 0),(4,iv 0),(5,.ptr r 0),(6,iv n),(7,bv (Int.ofNat c.toNat))]) H nx [] none):
  WpP PG 220 (qn (qe PG zG) [1,1,1,0,1,0,0,1,0,1,1,0]) (cvC r i u n (Int.ofNat c.toNat)) H nx [] K0:=by
 refine WpP.part (ts:=[0,2,3,4,5,6,7]) qr ?_
 refine Eq.mpr (qnb (qk PG) (LpP PG) _ _ _ _ i r n (Int.ofNat c.toNat) u H nx) ?_
 refine qi.2 ⟨λhc=> ?_,λhc=>hno λe=>of_decide_eq_false hc (by rw [e];rfl)⟩
 have hc:c=10:=by
  have hc:(c.toNat:Int)=10:=of_decide_eq_true hc
  rw [<-UInt8.toNat_inj];show c.toNat=10;omega
 obtain⟨g0,gn,ts,line,col,k,fo,l1,l2,c1,c2,few,hk,hR⟩:=h
 rw [hd]at hR;cases k with
 |zero=>omega
 |succ k=>
 rw [Pt.scan,if_pos hc]at hR;have X0:∀{B:Prop} {H':qd} {n':Nat} {ts':List Tok},nx<=n'->ts'.length<=4000->FO Z r ts' line col true ((i,kh)::A) F H' n'->R= .error ⟨line,col,6⟩->K0 (.exit 0) (qj .und [(0,.str u),(2,.nilSlice),(3,.ptr i 0),(4,iv 0),(5,.ptr r 0),(6,iv n),(7,bv (Int.ofNat c.toNat))]) H' n' [] none:=
  λg f p e=>off n _ _ _ (ql.okay) ⟨by omega,_,_,_,f,.inl ⟨p,e⟩⟩
 have X1:∀{H':qd} {n':Nat} {ts':List Tok},nx<=n'->ts'.length<=4000->FO Z r ts' (line+1) 1 false ((i,kh)::A) F H' n'->R=Pt.scan k (u.drop (n+1)) (line+1) 1 ts'->K0 (.exit 1) (qj .und [(0,.str u),(2,.nilSlice),(3,.ptr i 0),(4,iv 0),(5,.ptr r 0),(6,iv (i64.wrap (n+1))),(7,bv (Int.ofNat c.toNat))]) H' n' [] none:=
  λg f p e=>on (n+1) _ _ _ (by omega) (ql.of_list (by rw [qw (by omega) (by omega)];exact⟨rfl,rfl,rfl,rfl,rfl,rfl,trivial⟩)) ⟨by omega,by omega,_,_,_,k,p,by omega,by omega,by omega,by omega,f,by omega,e⟩
 have fo':=fo
 obtain⟨o,G,g,p⟩:=fo'
 refine⟨rfl,_,rfl,o,p.ld1 .hd 0,ts.length,g.len,qi.2 ⟨λh0=> ?_,λh0=> ?_⟩⟩
 ·have h0:0<ts.length:=by simpa using h0
  obtain⟨ts',t,rfl⟩:=qe3 h0
  obtain⟨v,e1,e2⟩:=qeh g p
  have ew:i64.wrap (Int.ofNat (ts'++[t]).length - 1)=(ts'.length:Int):=by
   have:Int.ofNat (ts'++[t]).length - 1=(ts'.length:Int):=by simp
   rw [this,qw (by omega) (by simp at few;omega)]
  refine⟨rfl,_,rfl,o,p.ld1 .hd 0,rfl,_,rfl,o,p.ld1 .hd 0,_,g.len,by rw [ew];omega,v,by rw [ew,Int.toNat_natCast];exact e1,_,_,_,_,_,e2,⟨⟨_,p.ld1 .hd 0,rfl⟩,⟨_,p.ld1 .hd 0,rfl⟩,⟨_,p.ld1 .hd 0,rfl⟩,⟨_,_,_,_,_,e2,rfl⟩,trivial⟩,?_⟩
  refine qee (T:=VT3 r (λH' n'=>K0 (.exit 0) (qj .und [(0,.str u),(2,.nilSlice),(3,.ptr i 0),(4,iv 0),(5,.ptr r 0),(6,iv n),(7,bv (Int.ofNat c.toNat))]) H' n' [] none) λH' n'=>K0 (.exit 1) (qj .und [(0,.str u),(2,.nilSlice),(3,.ptr i 0),(4,iv 0),(5,.ptr r 0),(6,iv (i64.wrap (n+1))),(7,bv (Int.ofNat c.toNat))]) H' n' [] none) (nx0:=nx+21) (fo.more (by omega:nx<=nx+21)) lR ?_
  unfold ql4;cases e:Pt.putEnd (ts'++[t]) line col with
  |error f=>rw [e]at hR;exactλhf H' n' g' p'=>qlp p' (X0 (B:=True) (by omega) few p' (by rw [hf]at hR;exact hR))
  |ok out=>rw [e]at hR;exactλH' n' g' p'=>qjc p' l1 (by omega) λH2 p2=>X1 (by omega) (qbu e few) p2 hR
 ·have h0:ts=[]:=by
   have h0:¬0<ts.length:=by simpa using h0
   exact List.length_eq_zero_iff.1 (by omega)
  subst h0;exact⟨⟨⟨_,p.ld1 .hd 0,rfl⟩,rfl,rfl,rfl,trivial⟩,trivial,qjc (X0:=λH' n'=>K0 (.exit 0) (qj .und [(0,.str u),(2,.nilSlice),(3,.ptr i 0),(4,iv 0),(5,.ptr r 0),(6,iv n),(7,bv (Int.ofNat c.toNat))]) H' n' [] none) (X1:=λH' n'=>K0 (.exit 1) (qj .und [(0,.str u),(2,.nilSlice),(3,.ptr i 0),(4,iv 0),(5,.ptr r 0),(6,iv (i64.wrap (n+1))),(7,bv (Int.ofNat c.toNat))]) H' n' [] none) (nx:=nx+21) (fo.more (by omega)) l1 (by omega) λH2 p2=>X1 (by omega) few p2 hR⟩
theorem va4(hul:u.length<=16384)(hlt:n<u.length)(hd:u.drop n=c::u.drop (n+1))(hc10:c≠10)(h:Wj Z r i nx0 A F u R n H nx)(on:LOn (.exit 1) Z r i nx0 A F u R n K0)
  (hno:¬(c=32\/c=9\/c=13)->K0 .normal (qj .und [(0,.str u),(2,.nilSlice),(3,.ptr i 0),(4,iv 0),(5,.ptr r 0),(6,iv n),(7,bv (Int.ofNat c.toNat))]) H nx [] none):
  WpP PG 220 (qn (qe PG zG) [1,1,1,0,1,0,0,1,0,1,1,1,0]) (cvC r i u n (Int.ofNat c.toNat)) H nx [] K0:=by
 refine WpP.part (ts:=[0,2,3,4,5,6,7]) qr ?_
 refine Eq.mpr (qo4 (qk PG) (LpP PG) _ _ _ _ i r n (Int.ofNat c.toNat) u H nx) ?_
 have ec:∀m:UInt8,c=m↔Int.ofNat c.toNat=Int.ofNat m.toNat:=λm=>by rw [<-UInt8.toNat_inj];show _↔((c.toNat:Int)=(m.toNat:Int));omega
 have go:(c=32\/c=9\/c=13)->true=true/\∃v0,some (u0 r 2)=some v0/\∃n1:Int,ld1 H v0=some (iv n1)/\true=true/\∃v2,some (u0 r 2)=some v2/\true=true/\∃H3,stC H v2 [iv (i64.wrap (n1+1))]=some H3/\K0 (.exit 1) (qj .und [(0,.str u),(2,.nilSlice),(3,.ptr i 0),(4,iv 0),(5,.ptr r 0),(6,iv (i64.wrap (n+1))),(7,bv (Int.ofNat c.toNat))]) H3 nx [] none:=by
  intro hb;obtain⟨g0,gn,ts,line,col,k,fo,l1,l2,c1,c2,few,hk,hR⟩:=h
  rw [hd]at hR;cases k with
  |zero=>omega
  |succ k=>
  rw [Pt.scan,if_neg hc10,if_pos hb]at hR;obtain⟨o,G,g,p⟩:=fo
  refine⟨rfl,_,rfl,col,p.ld1 .hd 2,rfl,_,rfl,rfl,p.one .hd (by simp) rfl λH1 p1=>on (n+1) _ _ _ (by omega) (ql.of_list (by rw [qw (by omega) (by omega)];exact⟨rfl,rfl,rfl,rfl,rfl,rfl,trivial⟩)) ⟨g0,by omega,ts,line,col+1,k,⟨o,G,g,?_⟩,l1,by omega,by omega,by omega,few,by omega,hR⟩⟩
  rw [qw (by omega) (by omega)]at p1
  exact p1
 refine qi.2 ⟨λh1=>go (.inl ((ec 32).2 (of_decide_eq_true h1))),λh1=>qi.2 ⟨λh2=>go (.inr (.inl ((ec 9).2 (of_decide_eq_true h2)))),λh2=>qi.2 ⟨λh3=>go (.inr (.inr ((ec 13).2 (of_decide_eq_true h3)))),λh3=>hno ?_⟩⟩⟩
 rintro(e|e|e)
 ·exact of_decide_eq_false h1 ((ec 32).1 e)
 ·exact of_decide_eq_false h2 ((ec 9).1 e)
 ·exact of_decide_eq_false h3 ((ec 13).1 e)
theorem va6(hul:u.length<=16384)(hlt:n<u.length)(hd:u.drop n=c::u.drop (n+1))(hc10:c≠10)(hcb:¬(c=32\/c=9\/c=13))(hr:c=47/\(u.drop (n+1)).head?=some 47)(h:Wj Z r i nx0 A F u R n H nx)
  (hK:∀(n':Nat) H' nx',n<n'->Wj Z r i nx0 A F u R n' H' nx'->K0 (.exit 2) (cvA r i u n') H' nx' [] none) {env:Env} (he:ql (cvA r i u n) env):
  LpP PG 220 (qn (qe PG zG) [1,1,1,0,1,0,0,1,0,1,1,1,1,0,1,0,0,0,0]) env H nx [] none K0:=by
 obtain⟨g0,gn,ts,line,col,k,fo,l1,l2,c1,c2,few,hk,hR⟩:=h
 have hd0:=hd
 obtain⟨v,hv⟩:∃v,v=u.drop n:=⟨_,rfl⟩
 rw [hd]at hR;cases k with
 |zero=>omega
 |succ k=>
 rw [Pt.scan,if_neg hc10,if_neg hcb,if_pos hr]at hR;have hvl:v.length=u.length - n:=by rw [hv,List.length_drop]
 have hw:v.takeWhile (λc=>c !=10)=c::(u.drop (n+1)).takeWhile λc=>c !=10:=by rw [hv,hd,List.takeWhile_cons,if_pos (by simpa using hc10)]
 have htw:=Vj (p:=λc:UInt8=>c !=10) (u:=v)
 refine zu (P:=PG) (X:=Nat) (Y:=Nat) (λj=>cvA r i u ((n+j:Nat):Int)) (λj=>cvA r i u ((n+j:Nat):Int))
  (λm j H2 nx2=>nx2=nx/\m=v.length - j/\j<=(v.takeWhile λc=>c !=10).length/\FO Z r ts line (col+j) false ((i,kh)::A) F H2 nx2)
  (λid j H2 nx2=>id=2/\nx2=nx/\j=(v.takeWhile λc=>c !=10).length/\FO Z r ts line (col+j) false ((i,kh)::A) F H2 nx2) (v.length - 0) 0 he ⟨rfl,rfl,by omega,by simpa using fo⟩ ?_ ?_
 ·rintro m j H2 nx2 ⟨rfl,rfl,hj,p2⟩
  refine WpP.part (ts:=[0,2,3,4,5,6]) qr ?_
  refine Eq.mpr (qoy (qk PG) (LpP PG) _ _ _ _ i r (n+j:Nat) u H2 nx2) ?_
  have hs:=yX hj
  have out:(v.takeWhile λc=>c !=10).length=j->_:=λe=>(⟨rfl,j,ql.okay,rfl,rfl,e.symm,p2⟩:([]:Dfs)=([]:Dfs)/\∃y,ql (cvA r i u ((n+y:Nat):Int)) (qj .und [(0,.str u),(2,.nilSlice),(3,.ptr i 0),(4,iv 0),(5,.ptr r 0),(6,iv (n+j:Nat))])/\2=2/\nx2=nx2/\y=(v.takeWhile λc=>c !=10).length/\FO Z r ts line (col+(y:Nat)) false ((i,kh)::A) F H2 nx2)
  have hvj:v[j]?=u[n+j]?:=by rw [hv,List.getElem?_drop]
  refine qi.2 ⟨λh=> ?_,λh=> ?_⟩
  ·have h:((n+j:Nat):Int)<(u.length:Int):=of_decide_eq_true h
   have hlt2:n+j<u.length:=by omega
   have hg:v[j]?=some u[n+j]:=by rw [hvj];simp [hlt2]
   refine⟨by omega,u[n+j],by rw [Int.toNat_natCast];simp [hlt2],qi.2 ⟨λh2=> ?_,λh2=> ?_⟩⟩
   ·have hp:(u[n+j] !=10)=true:=by
     rw [bne_iff_ne];intro e;have h2:¬(Int.ofNat u[n+j].toNat=10):=by simpa using h2
     rw [e]at h2;exact h2 rfl
    have hj1:=(hs.1 u[n+j] hg).1 hp
    obtain⟨o,G,g,p⟩:=p2
    refine⟨rfl,_,rfl,col+j,p.ld1 .hd 2,rfl,_,rfl,rfl,p.one .hd (by simp) rfl λH3 p3=>⟨rfl,v.length - (j+1),j+1,by omega,ql.of_list (by rw [qw (by omega) (by omega),show((n+j:Nat):Int)+1=((n+(j+1):Nat):Int) by omega];exact⟨rfl,rfl,rfl,rfl,rfl,rfl,trivial⟩),rfl,rfl,hj1,o,G,g,?_⟩⟩
    rw [qw (by omega) (by omega)]at p3
    rw [show col+((j+1:Nat):Int)=col+(j:Int)+1 by omega]
    exact p3
   ·have hp:(u[n+j] !=10)=false:=by
     have h2:Int.ofNat u[n+j].toNat=10:=by simpa using h2
     have:u[n+j]=10:=by rw [<-UInt8.toNat_inj];show u[n+j].toNat=10;have h2:(u[n+j].toNat:Int)=10:=h2;omega
     simp [this]
    exact out ((hs.1 u[n+j] hg).2 hp)
  ·have h:¬((n+j:Nat):Int)<(u.length:Int):=of_decide_eq_false h
   exact out (hs.2 (by rw [List.getElem?_eq_none (by omega)]))
 ·rintro id j H2 nx2 ⟨rfl,rfl,hj,p2⟩
  have hj1:j=1+((u.drop (n+1)).takeWhile λc=>c !=10).length:=by rw [hj,hw];simp;omega
  refine hK (n+j) H2 nx2 (by omega) ⟨g0,by omega,ts,line,col+j,k,p2,l1,by omega,by omega,by omega,few,by omega,?_⟩
  dsimp only at hR
  rw [hR,List.drop_drop];have e1:n+1+((u.drop (n+1)).takeWhile λc=>c !=10).length=n+j:=by omega
  have e2:col+1+(((u.drop (n+1)).takeWhile λc=>c !=10).length:Int)=col+(j:Int):=by omega
  rw [e1,e2]
theorem va7(hul:u.length<=16384)(hlt:n<u.length)(hd:u.drop n=c::u.drop (n+1))(hc10:c≠10)(hcb:¬(c=32\/c=9\/c=13))(hr:¬(c=47/\(u.drop (n+1)).head?=some 47))(h:Wj Z r i nx0 A F u R n H nx)
  (on:LOn .normal Z r i nx0 A F u R n K0) (off:qnw Z r i nx0 A F u R K0) (bad:qp1 Z r i nx0 A F u R K0):
  WpP PG 220 (qn (qe PG zG) [1,1,1,0,1,0,0,1,0,1,1,1,1,1]) (cvA r i u n) H nx [] K0:=by
 refine WpP.part (ts:=[0,2,3,4,5,6]) qr ?_
 refine Eq.mpr (qo6 (qk PG) (LpP PG) _ _ _ _ i r n u H nx) ?_
 obtain⟨g0,gn,ts,line,col,k,fo,l1,l2,c1,c2,few,hk,hR⟩:=h
 rw [hd]at hR;cases k with
 |zero=>omega
 |succ k=>
 rw [Pt.scan,if_neg hc10,if_neg hcb,if_neg hr]at hR;have es:List.take ((none:Option Nat).getD u.length - (some (n:Int).toNat).getD 0) (List.drop ((some (n:Int).toNat).getD 0) u)=c::u.drop (n+1):=by
  rw [<-hd];show List.take (u.length - n) (u.drop n)=u.drop n
  exact List.take_of_length_le (by simp)
 rw [es];obtain⟨o,G,g,p⟩:=fo
 refine⟨by omega,by simp,by simp;omega,ql0 p (by rw [List.length_drop];omega) λH1 n1 g1 p1=>qb.2 ?_⟩
 cases e1:Pt.one c (u.drop (n+1))with
 |error e=>
  rw [e1]at hR;have he:=Pt.one_err e1
  refine⟨_,_,_,_,_,_,_,rfl,p1.new lR λH2 p2=>p2.all .hd rfl rfl λH3 p3=>qK (by simpa using he) ⟨rfl,_,rfl,line,p3.ld1 (.tl .hd) 1,rfl,_,rfl,col,p3.ld1 (.tl .hd) 2,rfl,rfl,⟨⟨_,p3.ld1 (.tl .hd) 1,rfl⟩,⟨_,p3.ld1 (.tl .hd) 2,rfl⟩,trivial⟩,p3.all (.tl (.tl (Upd.app .hd G))) rfl rfl λH4 p4=>⟨trivial,bad e line col n H4 _ (by omega) hR ?_⟩⟩⟩
  exact(p4.sel (.cons _ (.cons _ (List.sublist_append_right _ _)))).more (by omega)
 |ok q=>
  obtain⟨kd,tx,v,m⟩:=q
  rw [e1]at hR;obtain⟨m1,m2,_⟩:=Pt.one_len e1
  rw [List.length_drop]at m2;refine⟨_,_,_,_,_,_,_,rfl,p1.new lR λH2 p2=>p2.all .hd rfl rfl λH3 p3=>qH rfl ⟨_,_,_,_,_,p3.ldAll .hd rfl,?_⟩⟩
  have hR:R=Except.bind (Pt.put ts ⟨kd,tx,v,line,col⟩) λout=>Pt.scan k ((u.drop (n+1)).drop (m - 1)) line (col+m) out:=hR
  refine XA ⟨o,G,g,p3.drop⟩ (λhf H4 n4 g4 p4=>qb.2 ?_) λhf H4 n4 g4 p4=>qb.2 ?_
  ·rw [Pt.put,if_pos hf]at hR;have p4':=p4
   obtain⟨o4,G4,gg4,q4⟩:=p4'
   exact⟨rfl,_,rfl,true,q4.ld1 .hd 3,qK rfl (off n _ _ _ (ql.okay) ⟨by omega,ts,line,col,few,.inl ⟨p4,hR⟩⟩)⟩
  ·rw [Pt.put,if_neg hf]at hR;obtain⟨o4,G4,gg4,q4⟩:=p4
   refine⟨rfl,_,rfl,false,q4.ld1 .hd 3,qH rfl ⟨rfl,_,rfl,col,q4.ld1 .hd 2,rfl,_,rfl,rfl,q4.one .hd (by simp) rfl λH5 q5=>on (n+m) _ _ _ (by omega) (ql.of_list (by rw [qw (by omega) (by omega),show(n:Int)+(m:Int)=((n+m:Nat):Int) by omega];exact⟨rfl,rfl,rfl,rfl,rfl,rfl,trivial⟩)) ⟨by omega,by omega,ts++[⟨kd,tx,v,line,col⟩],line,col+m,k,⟨o4,G4,gg4,?_⟩,l1,by omega,by omega,by omega,by simp;omega,by omega,?_⟩⟩⟩
   ·rw [qw (by omega) (by omega)]at q5;exact q5
   ·rw [hR,List.drop_drop,show n+1+(m - 1)=n+m by omega];rfl
end
theorem qnn(call:zA)(lp:Nat->jk)(lv:zU)(lvc:zT)(i r:Nat)(y n:Int)(s:List UInt8)(H:qd)(nx:Nat)(K:qv):
  qx PG call (lp 220) 220 (qe PG zG) [1,1,1,0,1,0] (qy PG lv lvc K (qF PG zG)) .ret (qj .und [(0,.str s),(2,.nilSlice),(3,.ptr i 0),(4,iv y),(5,.ptr r 0),(6,iv n)]) H nx [] none=
   (∃(n1:Int) (s1:List UInt8) (x1 y1 z1:Int),ldN H 5 (.ptr i 0)=some (.agg [iv n1,.str s1,iv x1,iv y1,iv z1])/\K (.ret (.tuple [.nilSlice,.agg [iv n1,.str s1,iv x1,iv y1,iv z1],iv y])) H nx):=by kernel_rfl
theorem qlv:qn (qe PG zG) [1,1,1,0,1,0,0]= .seq (qn (qe PG zG) [1,1,1,0,1,0,0,0]) (.block 1 (.seq (qn (qe PG zG) [1,1,1,0,1,0,0,1,0,0]) (.seq (qn (qe PG zG) [1,1,1,0,1,0,0,1,0,1,0]) (.seq (qn (qe PG zG) [1,1,1,0,1,0,0,1,0,1,1,0]) (.seq (qn (qe PG zG) [1,1,1,0,1,0,0,1,0,1,1,1,0])
  (.seq (.seq (qn (qe PG zG) [1,1,1,0,1,0,0,1,0,1,1,1,1,0,0]) (.cond (.tmp 104) (.seq (.block 2 (.loop (qn (qe PG zG) [1,1,1,0,1,0,0,1,0,1,1,1,1,0,1,0,0,0,0]))) (.exit 1)) .skip)) (qn (qe PG zG) [1,1,1,0,1,0,0,1,0,1,1,1,1,1]))))))):=by kernel_rfl
section
variable{r i n nx0 nx:Nat}{A:qN}{F:qU}{u:List UInt8}{H:qd}{R:Except Flt (List Tok)}{K0:KP}{c:UInt8}{K:qv}
theorem qp5(hul:u.length<=16384)(hlt:n<u.length)(hd:u.drop n=c::u.drop (n+1))(hc10:c≠10)(hcb:¬(c=32\/c=9\/c=13))(h:Wj Z r i nx0 A F u R n H nx)
  (on0:LOn .normal Z r i nx0 A F u R n K0) (on:LOn (.exit 1) Z r i nx0 A F u R n K0) (off:qnw Z r i nx0 A F u R K0) (bad:qp1 Z r i nx0 A F u R K0):
  WpP PG 220 (.seq (.seq (qn (qe PG zG) [1,1,1,0,1,0,0,1,0,1,1,1,1,0,0]) (.cond (.tmp 104) (.seq (.block 2 (.loop (qn (qe PG zG) [1,1,1,0,1,0,0,1,0,1,1,1,1,0,1,0,0,0,0]))) (.exit 1)) .skip)) (qn (qe PG zG) [1,1,1,0,1,0,0,1,0,1,1,1,1,1])) (cvC r i u n (Int.ofNat c.toNat)) H nx [] K0:=by
 have ec:∀m:UInt8,c=m↔Int.ofNat c.toNat=Int.ofNat m.toNat:=λm=>by rw [<-UInt8.toNat_inj];show _↔((c.toNat:Int)=(m.toNat:Int));omega
 refine WpP.seq (WpP.seq (WpP.part (ts:=[0,2,3,4,5,6,104]) qr ?_))
 refine Eq.mpr (qny (qk PG) (LpP PG) _ _ _ _ i r n (Int.ofNat c.toNat) u H nx) ?_
 have no:¬(c=47/\(u.drop (n+1)).head?=some 47)->WpP PG 220 (.cond (.tmp 104) (.seq (.block 2 (.loop (qn (qe PG zG) [1,1,1,0,1,0,0,1,0,1,1,1,1,0,1,0,0,0,0]))) (.exit 1)) .skip) (qj .und [(0,.str u),(2,.nilSlice),(3,.ptr i 0),(4,iv 0),(5,.ptr r 0),(6,iv n),(104,.bool false)]) H nx []
   (qmu (λenv H nx dfs=>WpP PG 220 (qn (qe PG zG) [1,1,1,0,1,0,0,1,0,1,1,1,1,1]) env H nx dfs K0) K0):=λhr=>by
  refine WpP.cond (p:=false) rfl (WpP.skip ?_)
  show WpP _ _ _ _ _ _ _ _
  exact WpP.weaken (e:=cvA r i u n) (ql.okay) (va7 hul hlt hd hc10 hcb hr h on0 off bad)
 refine qi.2 ⟨λh1=> ?_,λh1=>no λx=>of_decide_eq_false h1 ((ec 47).1 x.1)⟩
 have h1:c=47:=(ec 47).2 (of_decide_eq_true h1)
 rw [qw (by omega) (by omega)]
 refine qi.2 ⟨λh2=> ?_,λh2=>no λx=> ?_⟩
 ·have h2:(n:Int)+1<(u.length:Int):=of_decide_eq_true h2
  have hl:n+1<u.length:=by omega
  refine⟨by omega,u[n+1],by rw [show((n:Int)+1).toNat=n+1 by omega];simp [hl],?_⟩
  have hh:(u.drop (n+1)).head?=some u[n+1]:=by rw [kR hl];rfl
  by_cases h3:u[n+1]=47
  ·have:decide (Int.ofNat u[n+1].toNat=47)=true:=by rw [h3];rfl
   rw [this];show WpP _ _ (.cond _ _ _) _ _ _ _ _
   refine WpP.cond (p:=true) rfl (WpP.seq (WpP.block (WpP.of_lp (rc:=none) ?_)))
   refine va6 hul hlt hd hc10 hcb ⟨h1,by rw [hh,h3]⟩ h (λn' H' nx' g st=> ?_) (ql.okay)
   show WpP _ _ _ _ _ _ _ _
   refine WpP.of_vK qr ?_
   exact on n' _ _ _ g (ql.refl _) st
  ·have:decide (Int.ofNat u[n+1].toNat=47)=false:=by
    refine decide_eq_false λe=>h3 ?_
    have e:(u[n+1].toNat:Int)=47:=e
    rw [<-UInt8.toNat_inj];show u[n+1].toNat=47;omega
   rw [this];exact no λx=>by have:=x.2;rw [hh]at this;exact h3 (Option.some.inj this)
 ·have h2:¬(n:Int)+1<(u.length:Int):=of_decide_eq_false h2
  have:=x.2
  rw [List.drop_eq_nil_of_le (by omega)]at this
  cases this
theorem qkt{s:List UInt8}(h:SH Z A F H nx)(hK:qbd Z A F nx K (Pt.toks s)):qk PG zG [.str s] H nx K:=by
 refine qk.of_body qr ?_
 rw [qcs];refine h.new (cs:=kh) lR λH0 p0=>qi.2 ⟨λhl=> ?_,λhl=> ?_⟩
 ·have hl:16384<s.length:=by
   have hl:(16384:Int)<(s.length:Int):=of_decide_eq_true hl
   omega
  unfold Pt.toks at hK;rw [if_pos hl]at hK;exact⟨rfl,rfl,p0.all .hd rfl rfl λH1 p1=>⟨_,_,_,_,_,p1.ldAll .hd rfl,hK H1 _ (by omega) p1.drop⟩⟩
 have hul:s.length<=16384:=by
  have hl:¬(16384:Int)<(s.length:Int):=of_decide_eq_false hl
  omega
 unfold Pt.toks at hK;rw [if_neg (by omega)]at hK
 refine⟨rfl,rfl,p0.newBN (cs:=[.nilSlice,iv 1,iv 1,.bool false]) lR λH1 p1=> ?_⟩
 obtain⟨R,hR⟩:∃R,R=Pt.scan s.length s 1 1 []:=⟨_,rfl⟩
 rw [<-hR]at hK;obtain⟨i,hi⟩:∃i,i=nx:=⟨_,rfl⟩
 obtain⟨r,hr⟩:∃r,r=nx+1:=⟨_,rfl⟩
 have fo:FO Z r [] 1 1 false ((i,kh)::A) F H1 (nx+1+1):=⟨.nilSlice,[],.inl ⟨rfl,rfl,rfl⟩,by rw [hr,hi];exact p1⟩
 rw [<-hr,<-hi];rw [<-hr]at fo;refine zu (P:=PG) (X:=Nat) (Y:=Nat) (λn=>cvA r i s n) (λn=>cvA r i s n)
  (λm n H2 nx2=>m=s.length - n/\Wj Z r i nx A F s R n H2 nx2)
  (λid n H2 nx2=>id=0/\qeb Z r i nx A F R H2 nx2) (s.length - 0) 0 (ql.okay)
  ⟨rfl,by omega,by omega,[],1,1,s.length,fo,by omega,by omega,by omega,by omega,by simp,by omega,by rw [hR];rfl⟩ ?_ ?_
 ·rintro m n H2 nx2 ⟨rfl,st⟩
  rw [qlv];refine WpP.seq (WpP.part (ts:=[0,2,3,4,5,6]) qr ?_)
  refine Eq.mpr (qon (qk PG) (LpP PG) _ _ _ _ i r n s H2 nx2) ?_
  refine qi.2 ⟨λh=> ?_,λh=> ?_⟩
  ·have h:(n:Int)<(s.length:Int):=of_decide_eq_true h
   have hlt:n<s.length:=by omega
   have hd:s.drop n=s[n]::s.drop (n+1):=kR hlt
   obtain⟨c,hc⟩:∃c,c=s[n]:=⟨_,rfl⟩
   rw [<-hc]at hd;show WpP _ _ (.block _ _) _ _ _ _ _
   refine WpP.weaken (e:=cvA r i s n) (ql.okay) (WpP.block (WpP.seq (WpP.part (ts:=[0,2,3,4,5,6]) qr ?_)))
   refine Eq.mpr (qo7 (qk PG) (LpP PG) _ _ _ _ i r n s H2 nx2) ?_
   have st':=st
   obtain⟨_,_,ts,line,col,k,⟨o,G,g,p⟩,_⟩:=st'
   refine⟨rfl,_,rfl,false,p.ld1 .hd 3,qH rfl ?_⟩
   show WpP _ _ (.seq _ _) _ _ _ _ _
   refine WpP.weaken (e:=cvA r i s n) (ql.okay) (WpP.seq (WpP.part (ts:=[0,2,3,4,5,6,7]) qr ?_))
   refine Eq.mpr (qnh (qk PG) (LpP PG) _ _ _ _ i r n s H2 nx2) ?_
   refine⟨by omega,c,by simp [hlt,hc],?_⟩
   show WpP _ _ (.seq _ _) _ _ _ _ _
   have go:∀(n':Nat) env H' nx',n<n'->ql (cvA r i s n') env->Wj Z r i nx A F s R n' H' nx'->([]:Dfs)=([]:Dfs)/\∃m' x',m'<s.length - n/\ql (cvA r i s ((x':Nat):Int)) env/\m'=s.length - x'/\Wj Z r i nx A F s R x' H' nx':=
    λn' env H' nx' h1 h2 h3=>⟨rfl,s.length - n',n',by omega,h2,rfl,h3⟩
   have off:∀(n':Nat) env H' nx',ql (cvA r i s n') env->qeb Z r i nx A F R H' nx'->([]:Dfs)=([]:Dfs)/\∃y,ql (cvA r i s ((y:Nat):Int)) env/\0=0/\qeb Z r i nx A F R H' nx':=λn' env H' nx' h1 h2=>⟨rfl,n',h1,rfl,h2⟩
   refine WpP.weaken (e:=cvC r i s n (Int.ofNat c.toNat)) (ql.okay) (WpP.seq (va3 hul hlt hd st (λn' env H' nx' h1 h2 h3=>go n' env H' nx' h1 h2 h3) (λn' env H' nx' h1 h2=>off n' env H' nx' h1 h2) λhc10=> ?_))
   show WpP _ _ (.seq _ _) _ _ _ _ _
   refine WpP.weaken (e:=cvC r i s n (Int.ofNat c.toNat)) (ql.okay) (WpP.seq (va4 hul hlt hd hc10 st (λn' env H' nx' h1 h2 h3=>go n' env H' nx' h1 h2 h3) λhcb=> ?_))
   show WpP _ _ (.seq _ _) _ _ _ _ _
   refine WpP.weaken (e:=cvC r i s n (Int.ofNat c.toNat)) (ql.okay) (qp5 hul hlt hd hc10 hcb st (λn' env H' nx' h1 h2 h3=>go n' env H' nx' h1 h2 h3) (λn' env H' nx' h1 h2 h3=>go n' env H' nx' h1 h2 h3) (λn' env H' nx' h1 h2=>off n' env H' nx' h1 h2) λe line col n' H' nx' h1 h2 h3=> ?_)
   refine Eq.mpr (qnn (qk PG) (LpP PG) (zx (qB PG)) (qS PG (qB PG)) i r e n' s H' nx' K) ⟨_,_,_,_,_,h3.ldAll .hd rfl,?_⟩
   rw [h2]at hK;exact hK H' nx' h1 h3.drop
  ·have h:¬(n:Int)<(s.length:Int):=of_decide_eq_false h
   obtain⟨g0,gn,ts,line,col,k,fo,l1,l2,c1,c2,few,hk,hR⟩:=st
   rw [List.drop_eq_nil_of_le (by omega),Pt.scan]at hR
   exact⟨rfl,n,ql.okay,rfl,g0,ts,line,col,few,.inr ⟨fo,hR⟩⟩
 ·rintro id n H2 nx2 ⟨rfl,g0,ts,line,col,few,hE⟩
  refine Eq.mpr (qjq (qk PG) (LpP PG) (zx (qB PG)) (qS PG (qB PG)) i r n s H2 nx2 K) ?_
  refine qls (Z:=Z) (A:=A) (F:=F) (line:=line) (col:=col) g0 ?_ few
  rcases hE with⟨p,e⟩|⟨p,e⟩
  ·exact .inl ⟨p,by rw [<-e];exact hK⟩
  ·exact .inr ⟨p,by rw [<-e];exact hK⟩
end
end
end Go.Vs
end
section
namespace Go.Vs
open Go.Proofs Ps
variable [GTab] {Z:Nat->Prop}
noncomputable section
section
variable{r tb:Nat}{l:List Tok}{a d:Nat}{bad:Option Flt}{A A1 A':qN}{F:qU}{H:qd}{nx:Nat}{K:qv}{res:Except Flt (qu×Nat)}{I:List qa->Prop}{E:qU}
theorem OB.takeN{i:Nat}{cs:List qa}{k:qd->Prop}(h:OB (λb=>b=i\/Z b) r I E A F H nx)(hi:¬Z i)(hK:∀H',OB Z r I E ((i,cs)::A) F H' nx->k H'):∃H0,H0=qo i cs H/\k H0:=by
 obtain⟨ds,g1,g2⟩:=h
 exact⟨_,rfl,hK _ ⟨ds,g1,(g2.take hi).swap⟩⟩
theorem rb5{n0:Nat}{k:Int}{s:List UInt8}{n li co:Int}{w:qa}{c0:List qa}(h:OB Z r I E A F H nx)(u:Upd A n0 c0 [iv k,.str s,iv n,iv li,iv co,w] A')(hl:c0.length=6)(hw:qI w=true)
  (hK:∀H',OB Z r I E A' F H' nx->K (.ret (.agg [iv k,.str s,iv n,iv li,iv co,w])) H' nx):
  ∃H1,stC H (.ptr n0 0) [iv k,.str s,iv n,iv li,iv co,w]=some H1/\∃(n2:Int) (s2:List UInt8) (x2 y2 z2:Int) (v2:qa),ldN H1 6 (.ptr n0 0)=some (.agg [iv n2,.str s2,iv x2,iv y2,iv z2,v2])/\K (.ret (.agg [iv n2,.str s2,iv x2,iv y2,iv z2,v2])) H1 nx:=
 h.all u hl.symm (jg hw) λH1 h1=>⟨_,_,_,_,_,_,h1.ldAll u.own rfl,hK H1 h1⟩
theorem KQ{x:Rs (qu×Nat)}:Rs.bind x (λt=>Rs.ok t)=x:=by
 match x with
 |none=>rfl
 |some (.error _)=>rfl
 |some (.ok _)=>rfl
theorem qj2(W:zj l){n:Nat}(ih:ql9 r tb l n):vt r tb l QE [.ptr r 0] (run l (n+1) .ifs):=by
 intro Z A F H nx K a d res hrun h hK;refine qk.of_body qr ?_
 rw [qbi];have he:=(qha (r:=r) (tb:=tb) W n).ex
 have hrun:lift (need l a wIf) (λb=>Rs.bind (run l n .expr d b) λ(e,b)=>Rs.bind (run l n .block d b) λ(y,b)=>
   if is l b wElse then
    if is l (b+1) wIf then Rs.bind (run l n .ifs d (b+1)) λ(z,c)=> .ok (mk (tk l a) 14 [] [e,y,z],c)
    else if is l (b+1) [123]then Rs.bind (run l n .block d (b+1)) λ(z,c)=> .ok (mk (tk l a) 14 [] [e,y,z],c)
    else .bad (flt l (b+1) 13)
   else .ok (mk (tk l a) 14 [] [e,y,none_],b))=some res:=hrun
 have fin:∀{c bad n1 i3 xk xs xn xl xc xw xts yk ys yn yl yc yw yts zk zs zn zl zc zw zts F2 H2 n2},PS Z r tb l c bad d ((i3,[iv xk,.str xs,iv xn,iv xl,iv xc,xw,iv yk,.str ys,iv yn,iv yl,iv yc,yw,iv zk,.str zs,iv zn,iv zl,iv zc,zw])::(n1,[iv 14,.str [],iv 0,iv (tk l a).line,iv (tk l a).col,.slice i3 0 3 6 true])::(nx,[iv 0,.str [],iv 0,iv 0,iv 0,.nilSlice])::A) F2 H2 n2->
   Kids xw xts∈F2->Kids yw yts∈F2->Kids zw zts∈F2->F⊆F2->nx<=n2->(match bad with|none=>res= .ok (mk (tk l a) 14 [] [.node xk xs xn xl xc xts,.node yk ys yn yl yc yts,.node zk zs zn zl zc zts],c)|some f=>res= .error f)->
   ∃(n1':Int) (s1:List UInt8) (x1 y1 z1:Int) (v1:qa),ldN H2 6 (.ptr n1 0)=some (.agg [iv n1',.str s1,iv x1,iv y1,iv z1,v1])/\∃H1,stC H2 (.ptr nx 0) [iv n1',.str s1,iv x1,iv y1,iv z1,v1]=some H1/\
   ∃(n2':Int) (s2:List UInt8) (x2 y2 z2:Int) (v2:qa),ldN H1 6 (.ptr nx 0)=some (.agg [iv n2',.str s2,iv x2,iv y2,iv z2,v2])/\K (.ret (.agg [iv n2',.str s2,iv x2,iv y2,iv z2,v2])) H1 n2:=by
  intro c bad n1 i3 xk xs xn xl xc xw xts yk ys yn yl yc yw yts zk zs zn zl zc zw zts F2 H2 n2 p hx hy hz hs hn hR;have p2:=OB.freezeK (full:=true) (n:=3) (ts:=[.node xk xs xn xl xc xts,.node yk ys yn yl yc yts,.node zk zs zn zl zc zts]) p .hd rfl rfl λΓ q=>qii (q _ (List.mem_append.2 (.inl hx))) (q _ (List.mem_append.2 (.inl hy))) (q _ (List.mem_append.2 (.inl hz)))
  refine rb6 p2 .hd (.tl .hd) rfl rfl λH3 p3=> ?_
  cases bad with
  |none=>exact hK.ok hR p3 rfl (m:= .head _) (ss:=λP hP=> .tail _ (hs hP))
  |some f=>exact hK.no _ hR p3 rfl (m:= .head _) (ss:=λP hP=> .tail _ (hs hP))
 refine h.new lR λH0 p0=>kS p0 λH1 n1 g1 p1=>qb.2 ⟨_,_,_,_,_,_,rfl,p1.new lR λH2 p2=>p2.all .hd rfl rfl λH3 p3=> ?_⟩
 refine zo W p3 (λhno H4 n4 g4 p4=>qb.2 ?_) λhyes H4 n4 g4 p4=>qb.2 ?_
 ·have hno:is l a wIf=false:=hno
  simp [need,hno,lift]at hrun
  refine ja wQ p4 λc xk xs xn xl xc xw xts H5 n5 g5 p5 xw'=>⟨_,_,_,_,_,_,rfl,ja (yM W) p5 λc yk ys yn yl yc yw yts H6 n6 g6 p6 yw'=>⟨_,_,_,_,_,_,rfl,rfl,p6.new lR λH7 p7=>⟨_,rfl,rfl,p7.one (.tl .hd) (by simp) rfl λH8 p8=>kA W p8 (λ_ H9 n9 g9 p9=>qb.2 ⟨_,rfl,qH rfl ?_⟩) λe=>by cases e⟩⟩⟩
  exact fin p9.zero (.tail _ (.tail _ (.head _))) (.tail _ (.head _)) (.head _) (λP hP=> .tail _ (.tail _ (.tail _ hP))) (by omega) hrun.symm
 ·have hyes:is l a wIf=true:=hyes
  simp only [need,hyes,lift,if_true]at hrun
  refine jE he hrun p4 (λxk xs xn xl xc xw xts c H5 n5 hr g5 p5 xw'=>⟨_,_,_,_,_,_,rfl,?_⟩) λf c xk xs xn xl xc xw xts H5 n5 hr g5 p5 xw'=>⟨_,_,_,_,_,_,rfl,ja (yM W) p5 λc yk ys yn yl yc yw yts H6 n6 g6 p6 yw'=>⟨_,_,_,_,_,_,rfl,rfl,p6.new lR λH7 p7=>⟨_,rfl,rfl,p7.one (.tl .hd) (by simp) rfl λH8 p8=>kA W p8 (λ_ H9 n9 g9 p9=>qb.2 ⟨_,rfl,qH rfl ?_⟩) λe=>by cases e⟩⟩⟩
  ·refine jE ih.bl hr p5 (λyk ys yn yl yc yw yts c H6 n6 hr g6 p6 yw'=>⟨_,_,_,_,_,_,rfl,rfl,p6.new lR λH7 p7=>⟨_,rfl,rfl,p7.one (.tl .hd) (by simp) rfl λH8 p8=> ?_⟩⟩) λf c yk ys yn yl yc yw yts H6 n6 hr g6 p6 yw'=>⟨_,_,_,_,_,_,rfl,rfl,p6.new lR λH7 p7=>⟨_,rfl,rfl,p7.one (.tl .hd) (by simp) rfl λH8 p8=>kA W p8 (λ_ H9 n9 g9 p9=>qb.2 ⟨_,rfl,qH rfl ?_⟩) λe=>by cases e⟩⟩
   ·refine kA W p8 (λhel H9 n9 g9 p9=>qb.2 ⟨_,rfl,qH rfl ?_⟩) λ_ hel H9 n9 g9 p9=>qb.2 ⟨_,rfl,qK rfl (ris p9 λH10 n10 g10 p10=>qb.2 ⟨_,rfl,qi.2 ⟨λhif=> ?_,λhif=> ?_⟩⟩)⟩
    ·rw [show is l c wElse=false from hel]at hr;simp only [Bool.false_eq_true,if_false]at hr
     cases hr
     exact fin p9.zero (.tail _ (.tail _ (.head _))) (.tail _ (.head _)) (.head _) (λP hP=> .tail _ (.tail _ (.tail _ hP))) (by omega) rfl
    ·have hif:is l (c+1) wIf=true:=by simpa [isR,wIf]using hif
     rw [show is l c wElse=true from hel,hif]at hr;simp only [if_true]at hr
     refine Km (j:=2) (arr:=n6) (len:=3) ih.fi hr p10 (.tl .hd) rfl (by omega) (by decide) (λ_=> .hd) (by simp) (λ_=> .tl .hd) (λzk zs zn zl zc zw zts b H11 n11 hr g11 p11 zw'=> ?_) λf b zk zs zn zl zc zw zts H11 n11 hr g11 p11 zw'=> ?_
     ·cases hr
      exact fin p11 (.tail _ (.tail _ (.head _))) (.tail _ (.head _)) (.head _) (λP hP=> .tail _ (.tail _ (.tail _ hP))) (by omega) rfl
     ·exact fin p11 (.tail _ (.tail _ (.head _))) (.tail _ (.head _)) (.head _) (λP hP=> .tail _ (.tail _ (.tail _ hP))) (by omega) hr
    ·have hif:is l (c+1) wIf=false:=by simpa [isR,wIf]using hif
     rw [show is l c wElse=true from hel,hif]at hr;simp only [if_true,Bool.false_eq_true,if_false]at hr
     have hblk:Rs.bind (run l n .block d (c+1)) (λ(z,c)=>Rs.ok (mk (tk l a) 14 [] [.node xk xs xn xl xc xts,.node yk ys yn yl yc yts,z],c))=some res\/res= .error (flt l (c+1) 13)/\is l (c+1) [123]=false:=by
      by_cases h1:is l (c+1) [123]=true
      ·rw [if_pos h1]at hr;exact .inl hr
      ·rw [if_neg h1]at hr;cases hr;exact .inr ⟨rfl,by simpa using h1⟩
     rcases hblk with hr|⟨hr,hno⟩
     ·refine Km (j:=2) (arr:=n6) (len:=3) ih.bl hr p10 (.tl .hd) rfl (by omega) (by decide) (λ_=> .hd) (by simp) (λ_=> .tl .hd) (λzk zs zn zl zc zw zts b H11 n11 hr g11 p11 zw'=> ?_) λf b zk zs zn zl zc zw zts H11 n11 hr g11 p11 zw'=> ?_
      ·cases hr
       exact fin p11 (.tail _ (.tail _ (.head _))) (.tail _ (.head _)) (.head _) (λP hP=> .tail _ (.tail _ (.tail _ hP))) (by omega) rfl
      ·exact fin p11 (.tail _ (.tail _ (.head _))) (.tail _ (.head _)) (.head _) (λP hP=> .tail _ (.tail _ (.tail _ hP))) (by omega) hr
     ·have h0:Rs.bind (run l 1 .block d (c+1)) (λt=>Rs.ok t)=some (.error (flt l (c+1) 13)):=by
       rw [KQ];show Rs.bind (list l (run l 0 .stmt d) 0 (c+1)) _=_
       simp [list,need,hno,lift,Rs.bind]
      refine Km (j:=2) (arr:=n6) (len:=3) (VF W (n:=0) (λ_ _ _ _ _ _ _ _ _ h=>(by cases h))) h0 p10 (.tl .hd) rfl (by omega) (by decide) (λ_=> .hd) (by simp) (λ_=> .tl .hd) (λzk zs zn zl zc zw zts b H11 n11 hr' g11 p11 zw'=>by cases hr') λf b zk zs zn zl zc zw zts H11 n11 hr' g11 p11 zw'=> ?_
      cases hr'
      exact fin p11 (.tail _ (.tail _ (.head _))) (.tail _ (.head _)) (.head _) (λP hP=> .tail _ (.tail _ (.tail _ hP))) (by omega) hr
   ·exact fin p9.zero (.tail _ (.tail _ (.head _))) (.tail _ (.head _)) (.head _) (λP hP=> .tail _ (.tail _ (.tail _ hP))) (by omega) hr
  ·exact fin p9.zero (.tail _ (.tail _ (.head _))) (.tail _ (.head _)) (.head _) (λP hP=> .tail _ (.tail _ (.tail _ hP))) (by omega) hr
end
section
variable{r tb:Nat}{l:List Tok}{a d:Nat}{bad:Option Flt}{A A1 A':qN}{F:qU}{H:qd}{nx:Nat}{K:qv}{res:Except Flt (qu×Nat)}{I:List qa->Prop}{E:qU}
def qdi(l:List Tok)(n d a:Nat):Rs (qu×Nat):=
 if is l a [123]then run l n .block d a
 else if is l a wVar then lift (name l (a+1)) λb=>Rs.bind (run l n .typ d b) λ(ty,c)=>
  if is l c [61]then Rs.bind (run l n .expr d (c+1)) λ(e,g)=> .ok (mk (tk l a) 11 (tk l (a+1)).text [ty,e],g)
  else .ok (mk (tk l a) 11 (tk l (a+1)).text [ty,none_],c)
 else if is l a wIf then run l n .ifs d a
 else if is l a wFor then
  if is l (a+1) [123]then Rs.bind (run l n .block d (a+1)) λ(y,c)=> .ok (mk (tk l a) 15 [] [none_,y],c)
  else Rs.bind (run l n .expr d (a+1)) λ(e,b)=>Rs.bind (run l n .block d b) λ(y,c)=> .ok (mk (tk l a) 15 [] [e,y],c)
 else if is l a wBreak then .ok (leaf (tk l a) 16 [],a+1)
 else if is l a wContinue then .ok (leaf (tk l a) 17 [],a+1)
 else if is l a wReturn then
  if is l (a+1) [59]||is l (a+1) [125]then .ok (mk (tk l a) 18 [] [none_],a+1)
  else Rs.bind (run l n .expr d (a+1)) λ(e,b)=> .ok (mk (tk l a) 18 [] [e],b)
 else if is l a wPrint then lift (need l (a+1) [40]) λb=>Rs.bind (run l n .expr d b) λ(e,c)=>lift (need l c [41]) λg=> .ok (mk (tk l a) 20 [] [e],g)
 else Rs.bind (run l n .expr d a) λ(e,b)=>
  if is l b [58,61]then Rs.bind (run l n .expr d (b+1)) λ(y,c)=> .ok (mk (tk l b) 12 [] [e,y],c)
  else if is l b [61]then Rs.bind (run l n .expr d (b+1)) λ(y,c)=> .ok (mk (tk l b) 13 [] [e,y],c)
  else .ok (mk (tk l a) 19 [] [e],b)
theorem XY(W:zj l){n:Nat}(ih:ql9 r tb l n)(hrun:qdi l n d a=some res)(h:PS Z r tb l a none d A F H nx)(hK:vu Z r tb l d A F nx K res):qk PG wG [.ptr r 0] H nx K:=by
 refine qk.of_body qr ?_
 rw [Jz];have he:=(qha (r:=r) (tb:=tb) W n).ex
 unfold qdi at hrun;have T:∀{s:List UInt8} {α:Type} {x y:α},is l a s=true->(if is l a s=true then x else y)=x:=λh=>if_pos h
 have N:∀{s:List UInt8} {α:Type} {x y:α},is l a s=false->(if is l a s=true then x else y)=y:=λh=>if_neg (by rw [h];decide)
 refine h.new lR λH0 p0=>kS p0 λH1 n1 g1 p1=>qb.2 ⟨_,_,_,_,_,_,rfl,p1.new lR λH2 p2=>p2.all .hd rfl rfl λH3 p3=>⟨rfl,p3.new lR λH4 p4=>p4.all .hd rfl rfl λH5 p5=>ris p5.zero λH6 n6 g6 p6=>qb.2 ⟨_,rfl,qi.2 ⟨λq0=> ?_,λq0=> ?_⟩⟩⟩⟩
 ·have q0:is l a [123]=true:=by simpa [isR]using q0
  rw [T q0]at hrun;rw [<-KQ (x:=run l n .block d a)]at hrun;refine jE ih.bl hrun p6 (λk s nn li co w us c H7 n7 hr g7 p7 hw=>⟨_,_,_,_,_,_,rfl,rb5 p7 (.tl (.tl .hd)) rfl hw λH8 p8=> ?_⟩) λf c k s nn li co w us H7 n7 hr g7 p7 hw=>⟨_,_,_,_,_,_,rfl,rb5 p7 (.tl (.tl .hd)) rfl hw λH8 p8=> ?_⟩
  ·cases hr
   exact hK.ok rfl p8 hw
  ·exact hK.no us hr p8 hw
 have q0:is l a [123]=false:=by simpa [isR]using q0
 rw [N q0]at hrun;refine kA W p6 (λq1 H7 n7 g7 p7=>qb.2 ⟨_,rfl,qH rfl ?_⟩) λ_ q1 H7 n7 g7 p7=>qb.2 ⟨_,rfl,qK rfl ⟨_,rfl,rfl,p7.one (.tl .hd) (by simp) rfl λH8 p8=> ?_⟩⟩
 rotate_left
 ·rw [T (s:=wVar) q1]at hrun;have fin:∀{c bad i3 nm xk xs xn xl xc xw xts yk ys yn yl yc yw yts F2 H2 n2},PS Z r tb l c bad d ((i3,[iv xk,.str xs,iv xn,iv xl,iv xc,xw,iv yk,.str ys,iv yn,iv yl,iv yc,yw])::(n1+1,[iv 38,.str [],iv 0,iv 0,iv 0,.nilSlice])::(n1,[iv 11,.str nm,iv 0,iv (tk l a).line,iv (tk l a).col,.slice i3 0 2 6 true])::(nx,[iv 0,.str [],iv 0,iv 0,iv 0,.nilSlice])::A) F2 H2 n2->
    Kids xw xts∈F2->Kids yw yts∈F2->F⊆F2->nx<=n2->(match bad with|none=>res= .ok (mk (tk l a) 11 nm [.node xk xs xn xl xc xts,.node yk ys yn yl yc yts],c)|some f=>res= .error f)->
    ∃(n1':Int) (s1:List UInt8) (x1 y1 z1:Int) (v1:qa),ldN H2 6 (.ptr n1 0)=some (.agg [iv n1',.str s1,iv x1,iv y1,iv z1,v1])/\∃H1,stC H2 (.ptr nx 0) [iv n1',.str s1,iv x1,iv y1,iv z1,v1]=some H1/\
    ∃(n2':Int) (s2:List UInt8) (x2 y2 z2:Int) (v2:qa),ldN H1 6 (.ptr nx 0)=some (.agg [iv n2',.str s2,iv x2,iv y2,iv z2,v2])/\K (.ret (.agg [iv n2',.str s2,iv x2,iv y2,iv z2,v2])) H1 n2:=by
   intro c bad i3 nm xk xs xn xl xc xw xts yk ys yn yl yc yw yts F2 H2 n2 p hx hy hs hn hR;have p2:=OB.freezeK (full:=true) (n:=2) (ts:=[.node xk xs xn xl xc xts,.node yk ys yn yl yc yts]) p .hd rfl rfl λΓ q=>qi9 (q _ (List.mem_append.2 (.inl hx))) (q _ (List.mem_append.2 (.inl hy)))
   refine rb6 p2 (.tl .hd) (.tl (.tl .hd)) rfl rfl λH3 p3=> ?_
   cases bad with
   |none=>exact hK.ok hR p3 rfl (m:= .head _) (ss:=λP hP=> .tail _ (hs hP))
   |some f=>exact hK.no _ hR p3 rfl (m:= .head _) (ss:=λP hP=> .tail _ (hs hP))
  refine vO W p8 (λhno H9 n9 g9 p9=>qb.2 ⟨_,rfl,_,rfl,rfl,p9.one (.tl .hd) (by simp) rfl λH10 p10=> ?_⟩) λhyes H9 n9 g9 p9=>qb.2 ⟨_,rfl,_,rfl,rfl,p9.one (.tl .hd) (by simp) rfl λH10 p10=> ?_⟩
  ·simp [name,hno,lift]at hrun
   obtain⟨p11,hz⟩:=OB.res (i:=n9+3) (nx':=n9+6) p10 (by omega) (by omega)
   refine⟨_,_,_,_,_,_,p10.ldAll .hd rfl,⟨⟨_,_,_,_,_,_,p10.ldAll .hd rfl,rfl⟩,trivial⟩,ja wr p11 λc k s nn li co w us H12 n12 g12 p12 hw=>⟨_,_,_,_,_,_,rfl,OB.takeN p12 hz λH13 p13=>⟨_,rfl,⟨⟨_,_,_,_,_,_,p13.ldAll (.tl .hd) rfl,rfl⟩,trivial⟩,rfl,p13.one (.tl (.tl .hd)) (by simp) rfl λH14 p14=>⟨trivial,kA W p14 (λ_ H15 n15 g15 p15=>qb.2 ⟨_,rfl,qH rfl ?_⟩) λe=>(by cases e)⟩⟩⟩⟩
   exact fin p15 (.head _) (.tail _ (.head _)) (λP hP=> .tail _ (.tail _ hP)) (by omega) hrun.symm
  ·simp only [name,hyes,lift,beq_self_eq_true,if_true]at hrun
   obtain⟨p11,hz⟩:=OB.res (i:=n9+3) (nx':=n9+6) p10 (by omega) (by omega)
   refine⟨_,_,_,_,_,_,p10.ldAll .hd rfl,⟨⟨_,_,_,_,_,_,p10.ldAll .hd rfl,rfl⟩,trivial⟩,jE (yi W n) hrun p11 (λk s nn li co w us c H12 n12 hr g12 p12 hw=>⟨_,_,_,_,_,_,rfl,OB.takeN p12 hz λH13 p13=>⟨_,rfl,⟨⟨_,_,_,_,_,_,p13.ldAll (.tl .hd) rfl,rfl⟩,trivial⟩,rfl,p13.one (.tl (.tl .hd)) (by simp) rfl λH14 p14=>⟨trivial,kA W p14 (λh61 H15 n15 g15 p15=>qb.2 ⟨_,rfl,qH rfl ?_⟩) λ_ h61 H15 n15 g15 p15=>qb.2 ⟨_,rfl,qK rfl ?_⟩⟩⟩⟩)
    λf c k s nn li co w us H12 n12 hr g12 p12 hw=>⟨_,_,_,_,_,_,rfl,OB.takeN p12 hz λH13 p13=>⟨_,rfl,⟨⟨_,_,_,_,_,_,p13.ldAll (.tl .hd) rfl,rfl⟩,trivial⟩,rfl,p13.one (.tl (.tl .hd)) (by simp) rfl λH14 p14=>⟨trivial,kA W p14 (λ_ H15 n15 g15 p15=>qb.2 ⟨_,rfl,qH rfl ?_⟩) λe=>(by cases e)⟩⟩⟩⟩
   ·have h61:is l c [61]=false:=h61
    rw [h61]at hr;simp only [Bool.false_eq_true,if_false]at hr
    cases hr
    exact fin p15 (.head _) (.tail _ (.head _)) (λP hP=> .tail _ (.tail _ hP)) (by omega) rfl
   ·rw [h61]at hr;simp only [if_true]at hr
    refine Km (j:=1) (arr:=n9+3) (len:=2) he hr p15 (.tl (.tl .hd)) rfl (by omega) (by decide) (λ_=> .hd) (Nat.le_of_ble_eq_true rfl) (λ_=> .tl (.tl .hd)) (λzk zs zn zl zc zw zts b H16 n16 hr g16 p16 zw'=> ?_) λf b zk zs zn zl zc zw zts H16 n16 hr g16 p16 zw'=> ?_
    ·cases hr
     exact fin p16 (.tail _ (.head _)) (.head _) (λP hP=> .tail _ (.tail _ (.tail _ hP))) (by omega) rfl
    ·exact fin p16 (.tail _ (.head _)) (.head _) (λP hP=> .tail _ (.tail _ (.tail _ hP))) (by omega) hr
   ·exact fin p15 (.head _) (.tail _ (.head _)) (λP hP=> .tail _ (.tail _ hP)) (by omega) hr
 rw [N (s:=wVar) q1]at hrun;refine ris p7 λH8 n8 g8 p8=>qb.2 ⟨_,rfl,qi.2 ⟨λq2=> ?_,λq2=> ?_⟩⟩
 ·have q2:is l a wIf=true:=by simpa [isR,wIf]using q2
  rw [T q2]at hrun;rw [<-KQ (x:=run l n .ifs d a)]at hrun;refine jE ih.fi hrun p8 (λk s nn li co w us c H7 n7 hr g7 p7 hw=>⟨_,_,_,_,_,_,rfl,rb5 p7 (.tl (.tl .hd)) rfl hw λH8 p8=> ?_⟩) λf c k s nn li co w us H7 n7 hr g7 p7 hw=>⟨_,_,_,_,_,_,rfl,rb5 p7 (.tl (.tl .hd)) rfl hw λH8 p8=> ?_⟩
  ·cases hr
   exact hK.ok rfl p8 hw
  ·exact hK.no us hr p8 hw
 have q2:is l a wIf=false:=by simpa [isR,wIf]using q2
 rw [N q2]at hrun;refine kA W p8 (λq3 H7 n7 g7 p7=>qb.2 ⟨_,rfl,qH rfl ?_⟩) λ_ q3 H7 n7 g7 p7=>qb.2 ⟨_,rfl,qK rfl ⟨_,rfl,rfl,p7.one (.tl .hd) (by simp) rfl λH8 p8=> ?_⟩⟩
 rotate_left
 ·rw [T (s:=wFor) q3]at hrun;have fin:∀{c bad i3 xk xs xn xl xc xw xts yk ys yn yl yc yw yts F2 H2 n2},PS Z r tb l c bad d ((i3,[iv xk,.str xs,iv xn,iv xl,iv xc,xw,iv yk,.str ys,iv yn,iv yl,iv yc,yw])::(n1+1,[iv 38,.str [],iv 0,iv 0,iv 0,.nilSlice])::(n1,[iv 15,.str [],iv 0,iv (tk l a).line,iv (tk l a).col,.slice i3 0 2 6 true])::(nx,[iv 0,.str [],iv 0,iv 0,iv 0,.nilSlice])::A) F2 H2 n2->
    Kids xw xts∈F2->Kids yw yts∈F2->F⊆F2->nx<=n2->(match bad with|none=>res= .ok (mk (tk l a) 15 [] [.node xk xs xn xl xc xts,.node yk ys yn yl yc yts],c)|some f=>res= .error f)->
    ∃(n1':Int) (s1:List UInt8) (x1 y1 z1:Int) (v1:qa),ldN H2 6 (.ptr n1 0)=some (.agg [iv n1',.str s1,iv x1,iv y1,iv z1,v1])/\∃H1,stC H2 (.ptr nx 0) [iv n1',.str s1,iv x1,iv y1,iv z1,v1]=some H1/\
    ∃(n2':Int) (s2:List UInt8) (x2 y2 z2:Int) (v2:qa),ldN H1 6 (.ptr nx 0)=some (.agg [iv n2',.str s2,iv x2,iv y2,iv z2,v2])/\K (.ret (.agg [iv n2',.str s2,iv x2,iv y2,iv z2,v2])) H1 n2:=by
   intro c bad i3 xk xs xn xl xc xw xts yk ys yn yl yc yw yts F2 H2 n2 p hx hy hs hn hR;have p2:=OB.freezeK (full:=true) (n:=2) (ts:=[.node xk xs xn xl xc xts,.node yk ys yn yl yc yts]) p .hd rfl rfl λΓ q=>qi9 (q _ (List.mem_append.2 (.inl hx))) (q _ (List.mem_append.2 (.inl hy)))
   refine rb6 p2 (.tl .hd) (.tl (.tl .hd)) rfl rfl λH3 p3=> ?_
   cases bad with
   |none=>exact hK.ok hR p3 rfl (m:= .head _) (ss:=λP hP=> .tail _ (hs hP))
   |some f=>exact hK.no _ hR p3 rfl (m:= .head _) (ss:=λP hP=> .tail _ (hs hP))
  refine⟨_,_,_,_,_,_,p8.ldAll .hd rfl,_,_,_,_,_,_,p8.ldAll .hd rfl,p8.new lR λH9 p9=>⟨_,rfl,rfl,p9.one (.tl (.tl .hd)) (by simp) rfl λH10 p10=>ris p10 λH11 n11 g11 p11=>qb.2 ⟨_,rfl,qi.2 ⟨λq4=> ?_,λq4=> ?_⟩⟩⟩⟩
  ·have q4:is l (a+1) [123]=false:=by simpa [isR]using q4
   rw [q4]at hrun;simp only [Bool.false_eq_true,if_false]at hrun
   refine Km (j:=0) (arr:=n7) (len:=2) he hrun p11 (.tl (.tl .hd)) rfl (by omega) (by decide) (λ_=> .hd) (Nat.le_of_ble_eq_true rfl) (λ_=> .tl (.tl .hd)) (λxk xs xn xl xc xw xts b H12 n12 hr g12 p12 xw'=> ?_) λf b xk xs xn xl xc xw xts H12 n12 hr g12 p12 xw'=> ?_
   ·refine Km (j:=1) (arr:=n7) (len:=2) ih.bl hr p12 (.tl (.tl .hd)) rfl (by omega) (by decide) (λ_=> .hd) (Nat.le_of_ble_eq_true rfl) (λ_=> .tl (.tl .hd)) (λzk zs zn zl zc zw zts b H16 n16 hr g16 p16 zw'=> ?_) λf b zk zs zn zl zc zw zts H16 n16 hr g16 p16 zw'=> ?_
    ·cases hr
     exact fin p16 (.tail _ (.head _)) (.head _) (λP hP=> .tail _ (.tail _ (.tail _ hP))) (by omega) rfl
    ·exact fin p16 (.tail _ (.head _)) (.head _) (λP hP=> .tail _ (.tail _ (.tail _ hP))) (by omega) hr
   ·refine qo8 (j:=1) (arr:=n7) (len:=2) (yM W) p12 (.tl (.tl .hd)) rfl (by omega) (by decide) (λ_=> .hd) (Nat.le_of_ble_eq_true rfl) λb zk zs zn zl zc zw zts H16 n16 g16 p16 zw'=> ?_
    exact fin p16 (.tail _ (.head _)) (.head _) (λP hP=> .tail _ (.tail _ (.tail _ hP))) (by omega) hr
  ·have q4:is l (a+1) [123]=true:=by simpa [isR]using q4
   rw [q4]at hrun;simp only [if_true]at hrun
   refine Km (j:=1) (arr:=n7) (len:=2) ih.bl hrun p11 (.tl (.tl .hd)) rfl (by omega) (by decide) (λ_=> .hd) (Nat.le_of_ble_eq_true rfl) (λ_=> .tl (.tl .hd)) (λzk zs zn zl zc zw zts b H16 n16 hr g16 p16 zw'=> ?_) λf b zk zs zn zl zc zw zts H16 n16 hr g16 p16 zw'=> ?_
   ·cases hr
    exact fin p16 (.tail _ (.head _)) (.head _) (λP hP=> .tail _ (.tail _ hP)) (by omega) rfl
   ·exact fin p16 (.tail _ (.head _)) (.head _) (λP hP=> .tail _ (.tail _ hP)) (by omega) hr
 rw [N (s:=wFor) q3]at hrun;refine kA W p7 (λq4 H7 n7 g7 p7=>qb.2 ⟨_,rfl,qH rfl ?_⟩) λ_ q4 H7 n7 g7 p7=>qb.2 ⟨_,rfl,qK rfl ⟨_,rfl,rfl,p7.one (.tl .hd) (by simp) rfl λH8 p8=> ?_⟩⟩
 rotate_left
 ·rw [T (s:=wBreak) q4]at hrun;cases hrun
  exact rb6 p8 (.tl .hd) (.tl (.tl .hd)) rfl rfl λH9 p9=>hK.nilOk rfl p9
 rw [N (s:=wBreak) q4]at hrun;refine kA W p7 (λq5 H7 n7 g7 p7=>qb.2 ⟨_,rfl,qH rfl ?_⟩) λ_ q5 H7 n7 g7 p7=>qb.2 ⟨_,rfl,qK rfl ⟨_,rfl,rfl,p7.one (.tl .hd) (by simp) rfl λH8 p8=> ?_⟩⟩
 rotate_left
 ·rw [T (s:=wContinue) q5]at hrun;cases hrun
  exact rb6 p8 (.tl .hd) (.tl (.tl .hd)) rfl rfl λH9 p9=>hK.nilOk rfl p9
 rw [N (s:=wContinue) q5]at hrun;refine kA W p7 (λq6 H7 n7 g7 p7=>qb.2 ⟨_,rfl,qH rfl ?_⟩) λ_ q6 H7 n7 g7 p7=>qb.2 ⟨_,rfl,qK rfl ⟨_,rfl,rfl,p7.one (.tl .hd) (by simp) rfl λH8 p8=> ?_⟩⟩
 rotate_left
 ·rw [T (s:=wReturn) q6]at hrun;have fin:∀{c bad i3 xk xs xn xl xc xw xts F2 H2 n2},PS Z r tb l c bad d ((i3,[iv xk,.str xs,iv xn,iv xl,iv xc,xw])::(n1+1,[iv 38,.str [],iv 0,iv 0,iv 0,.nilSlice])::(n1,[iv 18,.str [],iv 0,iv (tk l a).line,iv (tk l a).col,.slice i3 0 1 6 true])::(nx,[iv 0,.str [],iv 0,iv 0,iv 0,.nilSlice])::A) F2 H2 n2->
    Kids xw xts∈F2->F⊆F2->nx<=n2->(match bad with|none=>res= .ok (mk (tk l a) 18 [] [.node xk xs xn xl xc xts],c)|some f=>res= .error f)->
    ∃(n1':Int) (s1:List UInt8) (x1 y1 z1:Int) (v1:qa),ldN H2 6 (.ptr n1 0)=some (.agg [iv n1',.str s1,iv x1,iv y1,iv z1,v1])/\∃H1,stC H2 (.ptr nx 0) [iv n1',.str s1,iv x1,iv y1,iv z1,v1]=some H1/\
    ∃(n2':Int) (s2:List UInt8) (x2 y2 z2:Int) (v2:qa),ldN H1 6 (.ptr nx 0)=some (.agg [iv n2',.str s2,iv x2,iv y2,iv z2,v2])/\K (.ret (.agg [iv n2',.str s2,iv x2,iv y2,iv z2,v2])) H1 n2:=by
   intro c bad i3 xk xs xn xl xc xw xts F2 H2 n2 p hx hs hn hR;have p2:=OB.freezeK (full:=true) (n:=1) (ts:=[.node xk xs xn xl xc xts]) p .hd rfl rfl λΓ q=>XI (q _ (List.mem_append.2 (.inl hx)))
   refine rb6 p2 (.tl .hd) (.tl (.tl .hd)) rfl rfl λH3 p3=> ?_
   cases bad with
   |none=>exact hK.ok hR p3 rfl (m:= .head _) (ss:=λP hP=> .tail _ (hs hP))
   |some f=>exact hK.no _ hR p3 rfl (m:= .head _) (ss:=λP hP=> .tail _ (hs hP))
  refine⟨_,_,_,_,_,_,p8.ldAll .hd rfl,p8.new lR λH9 p9=>⟨_,rfl,rfl,p9.one (.tl (.tl .hd)) (by simp) rfl λH10 p10=>ris p10 λH11 n11 g11 p11=>qb.2 ⟨_,rfl,qi.2 ⟨λq7=>ris p11 λH12 n12 g12 p12=>qb.2 ⟨_,rfl,qi.2 ⟨λq8=> ?_,λq8=> ?_⟩⟩,λq7=> ?_⟩⟩⟩⟩
  ·have q7:is l (a+1) [59]=false:=by simpa [isR]using q7
   have q8:is l (a+1) [125]=false:=by simpa [isR]using q8
   rw [if_neg (by simp [q7,q8])]at hrun
   refine Km (j:=0) (arr:=n7) (len:=1) he hrun p12 (.tl (.tl .hd)) rfl (by omega) (by decide) (λ_=> .hd) (Nat.le_of_ble_eq_true rfl) (λ_=> .tl (.tl .hd)) (λzk zs zn zl zc zw zts b H16 n16 hr g16 p16 zw'=> ?_) λf b zk zs zn zl zc zw zts H16 n16 hr g16 p16 zw'=> ?_
   ·cases hr
    exact fin p16 (.head _) (λP hP=> .tail _ (.tail _ hP)) (by omega) rfl
   ·exact fin p16 (.head _) (λP hP=> .tail _ (.tail _ hP)) (by omega) hr
  ·have q8:is l (a+1) [125]=true:=by simpa [isR]using q8
   rw [if_pos (by simp [q8])]at hrun
   cases hrun
   exact fin p12 (.head _) (λP hP=> .tail _ hP) (by omega) rfl
  ·have q7:is l (a+1) [59]=true:=by simpa [isR]using q7
   rw [if_pos (by simp [q7])]at hrun
   cases hrun
   exact fin p11 (.head _) (λP hP=> .tail _ hP) (by omega) rfl
 rw [N (s:=wReturn) q6]at hrun;refine kA W p7 (λq7 H7 n7 g7 p7=>qb.2 ⟨_,rfl,qH rfl ?_⟩) λ_ q7 H7 n7 g7 p7=>qb.2 ⟨_,rfl,qK rfl ⟨_,rfl,rfl,p7.one (.tl .hd) (by simp) rfl λH8 p8=> ?_⟩⟩
 rotate_left
 ·rw [T (s:=wPrint) q7]at hrun;refine zo W p8 (λhno H9 n9 g9 p9=>qb.2 (ja wQ p9 λc k s nn li co w us H10 n10 g10 p10 hw=>⟨_,_,_,_,_,_,rfl,p10.newF lR λH11 p11=>⟨_,rfl,rfl,p11.one (.tl .hd) (by simp) rfl λH12 p12=>zd p12 (qb.2 (rb6 p12 (.tl .hd) (.tl (.tl .hd)) rfl rfl λH13 p13=> ?_))⟩⟩)) λhyes H9 n9 g9 p9=>qb.2 ?_
  ·have p14:=p13.add (P:=Kids (.slice n10 0 1 6 true) [.node k s nn li co us]) λΓ q=>jS (q _ (.head _)) (q _ (.tail _ (.head _)))
   simp [need,hno,lift]at hrun
   exact hK.no _ hrun.symm p14 rfl
  ·simp only [need,hyes,lift,if_true]at hrun
   refine jE he hrun p9 (λk s nn li co w us c H10 n10 hr g10 p10 hw=>⟨_,_,_,_,_,_,rfl,p10.newF lR λH11 p11=>⟨_,rfl,rfl,p11.one (.tl .hd) (by simp) rfl λH12 p12=> ?_⟩⟩) λf c k s nn li co w us H10 n10 hr g10 p10 hw=>⟨_,_,_,_,_,_,rfl,p10.newF lR λH11 p11=>⟨_,rfl,rfl,p11.one (.tl .hd) (by simp) rfl λH12 p12=>zd p12 (qb.2 (rb6 p12 (.tl .hd) (.tl (.tl .hd)) rfl rfl λH13 p13=> ?_))⟩⟩
   ·have p12:=p12.add (P:=Kids (.slice n10 0 1 6 true) [.node k s nn li co us]) λΓ q=>jS (q _ (.head _)) (q _ (.tail _ (.head _)))
    refine zo W p12 (λhno H11 n11 g11 p11=>qb.2 (rb6 p11 (.tl .hd) (.tl (.tl .hd)) rfl rfl λH12 p12=>hK.no _ ?_ p12 rfl)) λhyes H11 n11 g11 p11=>qb.2 (rb6 p11 (.tl .hd) (.tl (.tl .hd)) rfl rfl λH12 p12=>hK.ok ?_ p12 rfl (m:= .head _))
    ·simp [need,hno]at hr;exact hr.symm
    ·simp [need,hyes,Rs.ok]at hr;exact hr.symm
   ·have p14:=p13.add (P:=Kids (.slice n10 0 1 6 true) [.node k s nn li co us]) λΓ q=>jS (q _ (.head _)) (q _ (.tail _ (.head _)))
    exact hK.no _ hr p14 rfl
 rw [N (s:=wPrint) q7]at hrun;refine jE he hrun p7 (λxk xs xn xl xc xw xts c H8 n8 hr g8 p8 xw'=>⟨_,_,_,_,_,_,rfl,p8.new lR λH9 p9=>p9.all .hd rfl (jg xw') λH10 p10=>ris p10 λH11 n11 g11 p11=>qb.2 ⟨_,rfl,qi.2 ⟨λr1=> ?_,λr1=>ris p11 λH12 n12 g12 p12=>qb.2 ⟨_,rfl,qi.2 ⟨λr2=> ?_,λr2=> ?_⟩⟩⟩⟩⟩)
  λf c xk xs xn xl xc xw xts H8 n8 hr g8 p8 xw'=>⟨_,_,_,_,_,_,rfl,p8.new lR λH9 p9=>p9.all .hd rfl (jg xw') λH10 p10=>ris p10 λH11 n11 g11 p11=>qb.2 ⟨_,rfl,qH rfl (ris p11 λH12 n12 g12 p12=>qb.2 ⟨_,rfl,qH rfl ⟨_,_,_,_,_,_,p12.ldAll .hd rfl,p12.newF lR λH13 p13=>⟨_,rfl,rfl,p13.one (.tl (.tl .hd)) (by simp) rfl λH14 p14=> ?_⟩⟩⟩)⟩⟩
 ·have r1:is l c [58,61]=true:=by simpa [isR]using r1
  dsimp only at hr
  rw [r1]at hr;simp only [if_true]at hr
  refine kS p11 λH12 n12 g12 p12=>qb.2 ⟨_,_,_,_,_,_,rfl,p12.all (.tl (.tl .hd)) rfl rfl λH13 p13=>ris p13 λH14 n14 g14 p14=>qb.2 ⟨_,rfl,qH (by show is l c [61]=false;exact K8 r1 (by decide)) (PS.bump W p14 (isk r1) λH15 p15=> ?_)⟩⟩
  refine Vg he hr p15 .hd (.head _) xw' (.tl (.tl .hd)) rfl (λz b H16 n16 hr g16 p16=>rb6 p16 (.tl (.tl .hd)) (.tl (.tl (.tl .hd))) rfl rfl λH17 p17=> ?_) λf b z H16 n16 hr g16 p16=>rb6 p16 (.tl (.tl .hd)) (.tl (.tl (.tl .hd))) rfl rfl λH17 p17=> ?_
  ·cases hr
   exact hK.ok rfl p17 rfl (m:= .head _)
  ·exact hK.no _ hr p17 rfl (m:= .head _)
 ·have r1:is l c [58,61]=false:=by simpa [isR]using r1
  have r2:is l c [61]=true:=by simpa [isR]using r2
  dsimp only at hr
  rw [r1,r2]at hr;simp only [if_true,Bool.false_eq_true,if_false]at hr
  refine kS p12 λH13 n13 g13 p13=>qb.2 ⟨_,_,_,_,_,_,rfl,p13.all (.tl (.tl .hd)) rfl rfl λH14 p14=>ris p14 λH15 n15 g15 p15=>qb.2 ⟨_,rfl,qK r2 ⟨_,rfl,rfl,p15.one (.tl (.tl .hd)) (by simp) rfl λH16 p16=>PS.bump W p16 (isk r2) λH17 p17=> ?_⟩⟩⟩
  refine Vg he hr p17 .hd (.head _) xw' (.tl (.tl .hd)) rfl (λz b H16 n16 hr g16 p16=>rb6 p16 (.tl (.tl .hd)) (.tl (.tl (.tl .hd))) rfl rfl λH17 p17=> ?_) λf b z H16 n16 hr g16 p16=>rb6 p16 (.tl (.tl .hd)) (.tl (.tl (.tl .hd))) rfl rfl λH17 p17=> ?_
  ·cases hr
   exact hK.ok rfl p17 rfl (m:= .head _)
  ·exact hK.no _ hr p17 rfl (m:= .head _)
 ·have r1:is l c [58,61]=false:=by simpa [isR]using r1
  have r2:is l c [61]=false:=by simpa [isR]using r2
  dsimp only at hr
  rw [r1,r2]at hr;simp only [Bool.false_eq_true,if_false]at hr
  cases hr
  refine⟨_,_,_,_,_,_,p12.ldAll .hd rfl,p12.newF lR λH13 p13=>⟨_,rfl,rfl,p13.one (.tl (.tl .hd)) (by simp) rfl λH14 p14=> ?_⟩⟩
  have p14:=p14.add (P:=Kids (.slice n12 0 1 6 true) [.node xk xs xn xl xc xts]) λΓ q=>jS (q _ (.head _)) (q _ (.tail _ (.head _)))
  exact rb6 p14 (.tl (.tl .hd)) (.tl (.tl (.tl .hd))) rfl rfl λH15 p15=>hK.ok rfl p15 rfl (m:= .head _)
 ·have p14:=p14.add (P:=Kids (.slice n12 0 1 6 true) [.node xk xs xn xl xc xts]) λΓ q=>jS (q _ (.head _)) (q _ (.tail _ (.head _)))
  exact rb6 p14 (.tl (.tl .hd)) (.tl (.tl (.tl .hd))) rfl rfl λH15 p15=>hK.no _ hr p15 rfl (m:= .head _)
theorem qdb(W:zj l){n:Nat}(ih:ql9 r tb l n):vt r tb l yL [.ptr r 0] (run l (n+1) .stmt):=by
 intro Z A F H nx K a d res hrun h hK;refine qk.of_body qr ?_
 rw [qaq];have hrun:(if 40<=d then .bad (flt l a 14)else qdi l n (d+1) a)=some res:=hrun
 refine h.new lR λH0 p0=>qjk p0 (λhd H1 n1 g1 p1=>qb.2 ⟨_,rfl,qK rfl (p1.all .hd rfl rfl λH2 p2=>⟨_,_,_,_,_,_,p2.ldAll .hd rfl,hK.nilNo ?_ p2⟩)⟩) λhd H1 n1 g1 p1=>qb.2 ⟨_,rfl,qH rfl ?_⟩
 ·rw [if_pos hd]at hrun;cases hrun;rfl
 ·rw [if_neg hd]at hrun;refine XY W ih hrun p1 ⟨λk s n li co w ts b H2 n2 e g2 p2 hw=>qb.2 ⟨_,_,_,_,_,_,rfl,p2.new lR λH3 p3=>p3.all .hd rfl (jg hw) λH4 p4=>qct p4 λH5 p5=>qb.2 ?_⟩,λf a1 k s n li co w ts H2 n2 e g2 p2 hw=>qb.2 ⟨_,_,_,_,_,_,rfl,p2.new lR λH3 p3=>p3.all .hd rfl (jg hw) λH4 p4=>X8 (d':=d) p4 λH5 p5=>qb.2 ?_⟩⟩
  ·exact rb6 p5 .hd (.tl .hd) rfl hw λH6 p6=>hK.ok e p6 hw
  ·exact rb6 p5 .hd (.tl .hd) rfl hw λH6 p6=>hK.no ts e p6 hw
theorem XQ(W:zj l):∀n,ql9 r tb l n
 |0=>⟨λ_ _ _ _ _ _ _ _ _ h=>(by cases h),λ_ _ _ _ _ _ _ _ _ h=>(by cases h),λ_ _ _ _ _ _ _ _ _ h=>(by cases h)⟩
 |n+1=>⟨VF W (XQ W n).st,qj2 W (XQ W n),qdb W (XQ W n)⟩
end
def Xc(Z:Nat->Prop)(r tb:Nat)(l:List Tok)(d:Nat)(B:qN)(F:qU)(one:Nat->Rs (qu×Nat))(N:Nat)(rr:Except Flt (List qu×Nat))(o:qa)(H:qd)(nx:Nat):Prop:=
 ∃b bad ts G F2,PS Z r tb l b bad d (G++B) F2 H nx/\z0 o ts G F2/\F⊆F2/\ts.length<=5000/\(match bad with|none=>ts.length<=b/\Rs.bind (rest l one N b) (λ(xs,c)=>Rs.ok (ts++xs,c))=some rr|some f=>rr= .error f)
def qbk(Z:Nat->Prop)(r tb:Nat)(l:List Tok)(d:Nat)(B:qN)(F:qU)(rr:Except Flt (List qu×Nat))(o:qa)(H:qd)(nx:Nat):Prop:=
 ∃b bad ts F2,PS Z r tb l b bad d B (Kids o ts::F2) H nx/\qI o=true/\F⊆F2/\ts.length<=5000/\(match bad with|none=>lift (need l b [41]) (λc=>Rs.ok (ts,c))=some rr|some f=>rr= .error f)
section
variable{r tb:Nat}{l:List Tok}{a d:Nat}{bad:Option Flt}{A A1 A' B:qN}{F:qU}{H:qd}{nx:Nat}{K:qv}{res:Except Flt (qu×Nat)}{I:List qa->Prop}{E:qU}
 {one:Nat->Rs (qu×Nat)} {rr:Except Flt (List qu×Nat)} {o:qa} {f:FuncId} {x:Nat->Nat->Rs (qu×Nat)}
theorem YM(W:zj l)(hf:vt r tb l f [.ptr r 0] x)(hadv:AdvOK (x d)){N:Nat}(hst:Xc Z r tb l d B F (x d) N rr o H nx){Nk:qa->qd->Nat->Prop}{Xk:qd->Nat->Prop}{p1 p2:List (qa×Bool)->qd->Nat->Prop}
  (hN:∀N' v H' n',N'<N->nx<=n'->Xc Z r tb l d B F (x d) N' rr v H' n'->Nk v H' n') (hX:∀H' n',nx<=n'->qbk Z r tb l d B F rr o H' n'->Xk H' n'):
  qk PG zh [.ptr r 0,.str [44]] H nx λe0 H1 i2=>qc e0 (λv3=>∃b4,v3= .bool b4/\ifB b4 (qk PG f [.ptr r 0] H1 i2 λe5 H6 i7=>qc e5 (λv8=>∃(n9:Int) (s10:List UInt8) (n11 n12 n13:Int) (v14:qa),v8= .agg [iv n9,.str s10,iv n11,iv n12,iv n13,v14]/\∃H15,H15=qo i7 [iv n9,.str s10,iv n11,iv n12,iv n13,v14] H6/\
   ∃i16 l17,zJ 6 H15 (.slice i7 0 1 6 true)=some (i16,l17)/\qq l17=true/\∃v18 H19 i20,zt H15 (i7+1) 6 72 o i16 l17=some (v18,H19,i20)/\Nk v18 H19 i20) λl21=>p1 l21 H6 i7) (Xk H1 i2)) λl22=>p2 l22 H1 i2:=by
 obtain⟨b,bad,ts,G,F2,p0,gr,s2,few,hR⟩:=hst
 have hW:=W.few
 refine kA W p0 (λhno H3 n3 g3 p3=>qb.2 ⟨_,rfl,qH rfl (hX _ _ g3 ⟨b,bad,ts,F2,OB.grown p3 gr .hd,gr.cell,s2,few,?_⟩)⟩) λhbad hyes H3 n3 g3 p3=>qb.2 ⟨_,rfl,qK rfl ?_⟩
 ·cases bad with
  |some f=>exact hR
  |none=>
   have hR:=hR.2
   unfold rest at hR;rw [show is l b [44]=false from hno]at hR;simp only [Bool.false_eq_true,if_false]at hR
   cases hn:need l b [41]with
   |error f=>rw [hn]at hR;exact hR
   |ok c=>rw [hn]at hR;simpa [lift,Rs.bind,Rs.ok]using hR
 ·subst hbad;obtain⟨hlb,hR⟩:=hR
  unfold rest at hR;rw [hyes]at hR;simp only [if_true]at hR
  have hb5:=PS.lt p3
  cases N with
  |zero=>simp [rowGo,Rs.bind]at hR
  |succ N=>
  rw [vH,zV]at hR;refine wi hf hR p3 (λk s n li co w us c H4 n4 hx hr g4 p4 hw=>⟨_,_,_,_,_,_,rfl,p4.newF lR λH5 p5=> ?_⟩) λf c k s n li co w us H4 n4 hr g4 p4 hw=>⟨_,_,_,_,_,_,rfl,p4.newF lR λH5 p5=> ?_⟩
  ·have hac:=hadv _ _ _ hx
   refine OB.app1 p5 (gr.sub λP hP=> .tail _ (.tail _ hP)) .hd (.head _) (.tail _ (.head _)) hw (by omega) λv H6 G' F' gr' sf hv p6=>hN N v _ _ (Nat.lt_succ_self N) (by omega) ⟨c,none,_,G',F',p6,gr',λP hP=>sf (.tail _ (.tail _ (s2 hP))),by simp;omega,by simp;omega,?_⟩
   rw [zV]at hr
   simpa [kq]using hr
  ·exact OB.app1 p5 (gr.sub λP hP=> .tail _ (.tail _ hP)) .hd (.head _) (.tail _ (.head _)) hw (by omega) λv H6 G' F' gr' sf hv p6=>hN N v _ _ (Nat.lt_succ_self N) (by omega) ⟨c,some f,_,G',F',p6,gr',λP hP=>sf (.tail _ (.tail _ (s2 hP))),by simp;omega,hr⟩
theorem qfy:Kd r tb l vg [.ptr r 0]:=by
 intro Z A F H nx K a d e h hK;refine qk.of_body qr ?_
 rw [Ji];refine h.new lR λH0 p0=>kS p0 λH1 n1 g1 p1=>qb.2 ⟨_,_,_,_,_,_,rfl,p1.new lR λH2 p2=>p2.all .hd rfl rfl λH3 p3=>Z5 p3 (qb.2 ⟨_,rfl,_,rfl,rfl,p3.one .hd (by simp) rfl λH4 p4=>ja wr p4 λc k s n li co w us H5 n5 g5 p5 hw=>⟨_,_,_,_,_,_,rfl,p5.newF lR λH6 p6=>⟨_,rfl,rfl,p6.one .hd (by simp) rfl λH7 p7=>rb6 p7 .hd (.tl .hd) rfl rfl λH8 p8=> ?_⟩⟩⟩)⟩
 have p9:=p8.add (P:=Kids (.slice n5 0 1 6 true) [.node k s n li co us]) λΓ q=>jS (q _ (.head _)) (q _ (.tail _ (.head _)))
 exact hK.no _ rfl p9 rfl
theorem qam(W:zj l):∀n,vt r tb l vg [.ptr r 0] (run l n .param):=by
 intro n;cases n with
 |zero=>exactλ_ _ _ _ _ _ _ _ _ h=>by cases h
 |succ n=>
 intro Z A F H nx K a d res hrun h hK;refine qk.of_body qr ?_
 rw [Ji];have hrun:lift (name l a) (λb=>Rs.bind (run l n .typ d b) λ(x,c)=> .ok (mk (tk l a) 7 (tk l a).text [x],c))=some res:=hrun
 refine h.new lR λH0 p0=>kS p0 λH1 n1 g1 p1=>qb.2 ⟨_,_,_,_,_,_,rfl,p1.new lR λH2 p2=>p2.all .hd rfl rfl λH3 p3=>vO W p3 (λhno H4 n4 g4 p4=>qb.2 ⟨_,rfl,_,rfl,rfl,p4.one .hd (by simp) rfl λH5 p5=> ?_⟩) λhyes H4 n4 g4 p4=>qb.2 ⟨_,rfl,_,rfl,rfl,p4.one .hd (by simp) rfl λH5 p5=> ?_⟩⟩
 ·simp [name,hno,lift]at hrun
  refine ja wr p5 λc k s n li co w us H5 n5 g5 p5 hw=>⟨_,_,_,_,_,_,rfl,p5.newF lR λH6 p6=>⟨_,rfl,rfl,p6.one .hd (by simp) rfl λH7 p7=>rb6 p7 .hd (.tl .hd) rfl rfl λH8 p8=> ?_⟩⟩
  have p9:=p8.add (P:=Kids (.slice n5 0 1 6 true) [.node k s n li co us]) λΓ q=>jS (q _ (.head _)) (q _ (.tail _ (.head _)))
  exact hK.no _ hrun.symm p9 rfl
 ·simp only [name,hyes,lift,beq_self_eq_true,if_true]at hrun
  refine jE (yi W n) hrun p5 (λk s n li co w us c H5 n5 hr g5 p5 hw=>⟨_,_,_,_,_,_,rfl,p5.newF lR λH6 p6=>⟨_,rfl,rfl,p6.one .hd (by simp) rfl λH7 p7=>rb6 p7 .hd (.tl .hd) rfl rfl λH8 p8=> ?_⟩⟩) λf c k s n li co w us H5 n5 hr g5 p5 hw=>⟨_,_,_,_,_,_,rfl,p5.newF lR λH6 p6=>⟨_,rfl,rfl,p6.one .hd (by simp) rfl λH7 p7=>rb6 p7 .hd (.tl .hd) rfl rfl λH8 p8=> ?_⟩⟩
  ·have p9:=p8.add (P:=Kids (.slice n5 0 1 6 true) [.node k s n li co us]) λΓ q=>jS (q _ (.head _)) (q _ (.tail _ (.head _)))
   cases hr
   exact hK.ok rfl p9 rfl (m:= .head _)
  ·have p9:=p8.add (P:=Kids (.slice n5 0 1 6 true) [.node k s n li co us]) λΓ q=>jS (q _ (.head _)) (q _ (.tail _ (.head _)))
   exact hK.no _ hr p9 rfl (m:= .head _)
theorem Xl(W:zj l)(n:Nat):vt r tb l jH [.ptr r 0] (λd b=>we l n d b):=by
 intro Z A F H nx K a d res hrun h hK;refine qk.of_body qr ?_
 rw [Zp];have hrun:(if((tk l a).kind==2||isTyp l a||is l a [91])=true then run l n .typ d a else .ok (none_,a))=some res:=hrun
 have go:∀{H1 n1},nx<=n1->PS Z r tb l a none d ((nx,[iv 0,.str [],iv 0,iv 0,iv 0,.nilSlice])::A) F H1 n1->((tk l a).kind==2||isTyp l a||is l a [91])=true->∀{pK:List (qa×Bool)->qd->Nat->Prop},
   qk PG zY [.ptr r 0] H1 n1 λe H' nx'=>qc e (λv=>∃(n1:Int) (s1:List UInt8) (x1 y1 z1:Int) (v1:qa),v= .agg [iv n1,.str s1,iv x1,iv y1,iv z1,v1]/\∃H1,stC H' (.ptr nx 0) [iv n1,.str s1,iv x1,iv y1,iv z1,v1]=some H1/\∃(n2:Int) (s2:List UInt8) (x2 y2 z2:Int) (v2:qa),ldN H1 6 (.ptr nx 0)=some (.agg [iv n2,.str s2,iv x2,iv y2,iv z2,v2])/\K (.ret (.agg [iv n2,.str s2,iv x2,iv y2,iv z2,v2])) H1 nx') λl=>pK l H' nx':=by
  intro H1 n1 g1 p1 hc pK;rw [if_pos hc,<-KQ (x:=run l n .typ d a)]at hrun;refine jE (yi W n) hrun p1 (λk s nn li co w us c H7 n7 hr g7 p7 hw=>⟨_,_,_,_,_,_,rfl,rb5 p7 .hd rfl hw λH8 p8=> ?_⟩) λf c k s nn li co w us H7 n7 hr g7 p7 hw=>⟨_,_,_,_,_,_,rfl,rb5 p7 .hd rfl hw λH8 p8=> ?_⟩
  ·cases hr
   exact hK.ok rfl p8 hw
  ·exact hK.no us hr p8 hw
 have q1:∀{s:List UInt8},isR l a none s=true->is l a s=true:=λh=>h
 refine h.new lR λH0 p0=>ris p0 λH1 n1 g1 p1=>qb.2 ⟨_,rfl,qi.2 ⟨λh1=>go (by omega) p1 (by simp [isTyp,wInt,q1 h1]),λh1=>ris p1 λH2 n2 g2 p2=>qb.2 ⟨_,rfl,qi.2 ⟨λh2=>go (by omega) p2 (by simp [isTyp,wBool,q1 h2]),λh2=>ris p2 λH3 n3 g3 p3=>qb.2 ⟨_,rfl,qi.2 ⟨λh3=>go (by omega) p3 (by simp [isTyp,wString,q1 h3]),λh3=>ris p3 λH4 n4 g4 p4=>qb.2 ⟨_,rfl,qi.2 ⟨λh4=>go (by omega) p4 (by simp [q1 h4]),λh4=>ron p4 (qb.2 ⟨_,rfl,qK rfl (QU p4 λH5 n5 g5 p5=>qb.2 ⟨_,_,_,_,_,rfl,qi.2 ⟨λh5=>go (by omega) p5 (by simp [of_decide_eq_true h5]),λh5=> ?_⟩⟩)⟩)⟩⟩⟩⟩⟩⟩⟩⟩
 have h1:is l a [105,110,116]=false:=h1
 have h2:is l a [98,111,111,108]=false:=h2
 have h3:is l a [115,116,114,105,110,103]=false:=h3
 have h4:is l a [91]=false:=h4
 have h5:¬(tk l a).kind=2:=of_decide_eq_false h5
 rw [if_neg (by simp [isTyp,wInt,wBool,wString,h1,h2,h3,h4,h5])]at hrun
 cases hrun
 exact⟨rfl,rb5 p5 .hd rfl rfl λH6 p6=>hK.nilOk rfl p6⟩
theorem V2:Kd r tb l jH [.ptr r 0]:=by
 intro Z A F H nx K a d e h hK;refine qk.of_body qr ?_
 rw [Zp];exact h.new lR λH0 p0=>ris p0 λH1 n1 g1 p1=>qb.2 ⟨_,rfl,qH rfl (ris p1 λH2 n2 g2 p2=>qb.2 ⟨_,rfl,qH rfl (ris p2 λH3 n3 g3 p3=>qb.2 ⟨_,rfl,qH rfl (ris p3 λH4 n4 g4 p4=>qb.2 ⟨_,rfl,qH rfl (ron p4 (qb.2 ⟨_,rfl,qH rfl ⟨rfl,rb5 p4 .hd rfl rfl λH6 p6=>hK.nilNo rfl p6⟩⟩))⟩)⟩)⟩)⟩
end
def LSt(Z:Nat->Prop)(r tb:Nat)(l:List Tok)(B:qN)(F:qU)(kk:Int)(nm:List UInt8)(li co:Int)(nb:Nat)(one:Nat->Rs (qu×Nat))(M:Nat)(res:Except Flt (qu×Nat))(H:qd)(nx:Nat):Prop:=
 ∃o b bad ts G F2,PS Z r tb l b bad 0 (G++(nb,[iv kk,.str nm,iv 0,iv li,iv co,o])::B) F2 H nx/\z0 o ts G F2/\F⊆F2/\ts.length<=5000/\(match bad with|none=>ts.length<=b/\Rs.bind (listGo l one M b) (λ(xs,c)=>Rs.ok (.node kk nm 0 li co (ts++xs),c))=some res|some f=>res= .error f)
def qpd(Z:Nat->Prop)(r tb:Nat)(l:List Tok)(B:qN)(F:qU)(kk:Int)(nm:List UInt8)(li co:Int)(nb:Nat)(res:Except Flt (qu×Nat))(H:qd)(nx:Nat):Prop:=
 ∃o b bad ts F2,PS Z r tb l b bad 0 ((nb,[iv kk,.str nm,iv 0,iv li,iv co,o])::B) (Kids o ts::F2) H nx/\qI o=true/\F⊆F2/\(match bad with|none=>is l b [125]=true/\res= .ok (.node kk nm 0 li co ts,b+1)|some f=>res= .error f)
section
variable{r tb:Nat}{l:List Tok}{a d:Nat}{bad:Option Flt}{A A1 A' B G:qN}{F F2:qU}{H:qd}{nx:Nat}{K:qv}{res:Except Flt (qu×Nat)}{I:List qa->Prop}{E:qU}
 {one:Nat->Rs (qu×Nat)} {o:qa} {kk:Int} {nm:List UInt8} {li co:Int} {nb m:Nat}
def qiz(r nb m:Nat)(H:qd)(nx:Nat)(Nk:qd->Nat->Prop)(pK:List (qa×Bool)->qd->Nat->Prop):Prop:=
 ∃v22,some (u0 nb 5)=some v22/\∃v23,ld1 H v22=some v23/\∃(n1:Int) (s1:List UInt8) (x1 y1 z1:Int) (v1:qa),ldN H 6 (.ptr m 0)=some (.agg [iv n1,.str s1,iv x1,iv y1,iv z1,v1])/\
  ∃H30,H30=qo nx [iv n1,.str s1,iv x1,iv y1,iv z1,v1] H/\∃i31 l32,zJ 6 H30 (.slice nx 0 1 6 true)=some (i31,l32)/\qq l32=true/\∃v33 H34 i35,zt H30 (nx+1) 6 72 v23 i31 l32=some (v33,H34,i35)/\
  ∃v36,some (u0 nb 5)=some v36/\qI v33=true/\∃H37,stC H34 v36 [v33]=some H37/\qk PG jf [.ptr r 0] H37 i35 λe H' n'=>qc e (λv=>Nk H' n') λl=>pK l H' n'
theorem JT(W:zj l){c M:Nat}{ts us:List qu}{k n li' co':Int}{s:List UInt8}{w:qa}{Nk:qd->Nat->Prop}{pK:List (qa×Bool)->qd->Nat->Prop}(p:PS Z r tb l c bad 0 ((m,[iv k,.str s,iv n,iv li',iv co',w])::(G++(nb,[iv kk,.str nm,iv 0,iv li,iv co,o])::B)) F2 H nx)(gr:z0 o ts G F2)(kw:Kids w us∈F2)(hw:qI w=true)(hF:F⊆F2)(few:ts.length<5000)
  (hR:match bad with|none=>ts.length+1<=c/\Rs.bind (lift (ends l c) λe=>Rs.bind (listGo l one M e) λ(xs,g)=>Rs.ok (.node k s n li' co' us::xs,g)) (λ(xs,c)=>Rs.ok (.node kk nm 0 li co (ts++xs),c))=some res|some f=>res= .error f)
  (hN:∀H' n',nx<=n'->LSt Z r tb l B F kk nm li co nb one M res H' n'->Nk H' n'):qiz r nb m H nx Nk pK:=by
 refine⟨_,rfl,_,p.ld1 (.tl (Own.app .hd G)) 5,_,_,_,_,_,_,p.ldAll .hd rfl,p.newF lR λH5 p5=> ?_⟩
 refine OB.app1 p5 (gr.sub λP hP=> .tail _ hP) (.tl .hd) (.head _) (.tail _ kw) hw (by omega) λv H7 G' F' gr' sf hv p7=>⟨_,rfl,hv,p7.one (Upd.app (.tl .hd) G') (by simp) hv λH8 p8=> ?_⟩
 have p9:=OB.fin (A':=G'++(nb,[iv kk,.str nm,iv 0,iv li,iv co,v])::B) p8 (List.Sublist.append (.refl _) (.cons _ (.refl _))) (λ_ h=>h)
 cases bad with
 |some f=>exact WV W p9 λH9 n9 g9 q9=>qb.2 (hN _ _ (by omega) ⟨v,c,some f,_,G',F',q9,gr',λP hP=>sf (.tail _ (hF hP)),by simp;omega,hR⟩)
 |none=>
  obtain⟨hc,hR⟩:=hR
  have hc5:=PS.lt p9
  have hW:=W.few
  refine YA W p9 (λe he H9 n9 g9 q9=>qb.2 (hN _ _ (by omega) ⟨v,e,none,_,G',F',q9,gr',λP hP=>sf (.tail _ (hF hP)),by simp;omega,?_,?_⟩)) λf he H9 n9 g9 q9=>qb.2 (hN _ _ (by omega) ⟨v,c,some f,_,G',F',q9,gr',λP hP=>sf (.tail _ (hF hP)),by simp;omega,?_⟩)
  ·have:=ends_ok he;simp;omega
  ·rw [he]at hR;simp only [lift]at hR
   rw [zV]at hR
   simpa [kq]using hR
  ·rw [he]at hR
   simpa [lift,Rs.bind,eq_comm]using hR
theorem VU{n d b:Nat}{y:qu}{e:Nat}(h:we l n d b=some (.ok (y,e))):b<=e:=by
 unfold we at h;split at h
 ·have:=run_adv l n .typ d b y e h;unfold adv at this;omega
 ·cases h;exact Nat.le_refl _
def qkv(r nb m:Nat)(o:qa)(H:qd)(nx:Nat)(Nk:qd->Nat->Prop)(pK pK2:List (qa×Bool)->qd->Nat->Prop):Prop:=
 qk PG jH [.ptr r 0] H nx λe4 H5 i6=>qc e4 (λv7=>∃(n8:Int) (s9:List UInt8) (n10 n11 n12:Int) (v13:qa),v7= .agg [iv n8,.str s9,iv n10,iv n11,iv n12,v13]/\∃H14,H14=qo i6 [iv n8,.str s9,iv n10,iv n11,iv n12,v13] H5/\
  ∃i15 l16,zJ 6 H14 o=some (i15,l16)/\qq l16=true/\∃v17 H18 i19,zt H14 (i6+1) 6 72 (.slice i6 0 1 6 true) i15 l16=some (v17,H18,i19)/\∃v20,some (u0 m 5)=some v20/\qI v17=true/\∃H21,stC H18 v20 [v17]=some H21/\qiz r nb m H21 i19 Nk pK) λl=>pK2 l H5 i6
theorem KZ(W:zj l){c n M:Nat}{ts us:List qu}{s:List UInt8}{li' co':Int}{mo o':qa}{Nk:qd->Nat->Prop}{pK pK2:List (qa×Bool)->qd->Nat->Prop}(p:PS Z r tb l c bad 0 ((m,[iv 5,.str s,iv 0,iv li',iv co',mo])::(G++(nb,[iv kk,.str nm,iv 0,iv li,iv co,o])::B)) F2 H nx)(gr:z0 o ts G F2)(ho:Kids o' us∈F2)(hF:F⊆F2)(few:ts.length<5000)(few2:us.length<=5000)
  (hR:match bad with|none=>ts.length+1<=c/\Rs.bind (Rs.bind (we l n 0 c) λ(y,e)=>Rs.ok (.node 5 s 0 li' co' (y::us),e)) (λ(x,b)=>Rs.bind (lift (ends l b) λe=>Rs.bind (listGo l one M e) λ(xs,g)=>Rs.ok (x::xs,g)) (λ(xs,c)=>Rs.ok (.node kk nm 0 li co (ts++xs),c)))=some res|some f=>res= .error f)
  (hN:∀H' n',nx<=n'->LSt Z r tb l B F kk nm li co nb one M res H' n'->Nk H' n'):qkv r nb m o' H nx Nk pK pK2:=by
 cases bad with
 |some f=>
  refine ja V2 p λc k s' nn li2 co2 w vs H9 n9 g9 p9 hw=>⟨_,_,_,_,_,_,rfl,p9.newF lR λH10 p10=> ?_⟩
  have p11:=p10.add (P:=vd [iv k,.str s',iv nn,iv li2,iv co2,w] [.node k s' nn li2 co2 vs]) λΓ q=>XI (q _ (.tail _ (.head _)))
  refine p11.appAll (t1:=[.node k s' nn li2 co2 vs]) (.tail _ (.head _)) (.head _) (.tail _ (.tail _ (.tail _ ho))) rfl (by simp) (by simp;omega) λv2 H15 n15 g15 p16 hv2=>⟨_,rfl,hv2,p16.one .hd (by simp) hv2 λH16 p17=> ?_⟩
  exact JT (one:=one) (M:=M) W p17 (gr.sub λP hP=> .tail _ (.tail _ (.tail _ (.tail _ hP)))) (.head _) hv2 (λP hP=> .tail _ (.tail _ (.tail _ (.tail _ (hF hP))))) few hR λH' n' g h=>hN _ _ (by omega) h
 |none=>
  obtain⟨hc,hR⟩:=hR
  rw [zV]at hR;refine wi (Xl W n) hR p (λk s' nn li2 co2 w vs e H9 n9 hx hr g9 p9 hw=>⟨_,_,_,_,_,_,rfl,p9.newF lR λH10 p10=> ?_⟩) λf e k s' nn li2 co2 w vs H9 n9 hr g9 p9 hw=>⟨_,_,_,_,_,_,rfl,p9.newF lR λH10 p10=> ?_⟩
  ·have he:=VU hx
   rw [kq]at hr;have p11:=p10.add (P:=vd [iv k,.str s',iv nn,iv li2,iv co2,w] [.node k s' nn li2 co2 vs]) λΓ q=>XI (q _ (.tail _ (.head _)))
   refine p11.appAll (t1:=[.node k s' nn li2 co2 vs]) (.tail _ (.head _)) (.head _) (.tail _ (.tail _ (.tail _ ho))) rfl (by simp) (by simp;omega) λv2 H15 n15 g15 p16 hv2=>⟨_,rfl,hv2,p16.one .hd (by simp) hv2 λH16 p17=> ?_⟩
   exact JT (one:=one) (M:=M) W p17 (gr.sub λP hP=> .tail _ (.tail _ (.tail _ (.tail _ hP)))) (.head _) hv2 (λP hP=> .tail _ (.tail _ (.tail _ (.tail _ (hF hP))))) few ⟨by omega,hr⟩ λH' n' g h=>hN _ _ (by omega) h
  ·have p11:=p10.add (P:=vd [iv k,.str s',iv nn,iv li2,iv co2,w] [.node k s' nn li2 co2 vs]) λΓ q=>XI (q _ (.tail _ (.head _)))
   refine p11.appAll (t1:=[.node k s' nn li2 co2 vs]) (.tail _ (.head _)) (.head _) (.tail _ (.tail _ (.tail _ ho))) rfl (by simp) (by simp;omega) λv2 H15 n15 g15 p16 hv2=>⟨_,rfl,hv2,p16.one .hd (by simp) hv2 λH16 p17=> ?_⟩
   exact JT (one:=one) (M:=M) W p17 (gr.sub λP hP=> .tail _ (.tail _ (.tail _ (.tail _ hP)))) (.head _) hv2 (λP hP=> .tail _ (.tail _ (.tail _ (.tail _ (hF hP))))) few hr λH' n' g h=>hN _ _ (by omega) h
theorem Zi(W:zj l){i n M Nf:Nat}{face:Bool}{ts:List qu}{s:List UInt8}{li' co':Int}{o':qa}{rr:Except Flt (List qu×Nat)}{N:KC}{X:Nat->KC}{R:KC}{Pn:List (qa×Bool)->KC}
  (hst:Xc Z r tb l 0 ((m,[iv 5,.str s,iv 0,iv li',iv co',.nilSlice])::(G++(nb,[iv kk,.str nm,iv 0,iv li,iv co,o])::B)) F2 (run l n .typ 0) Nf rr o' H nx) (gr:z0 o ts G F2) (hF:F⊆F2) (few:ts.length<5000)
  (hbad:∀f,rr= .error f->res= .error f) (hok:∀us c,rr= .ok (us,c)->ts.length+1<=c/\Rs.bind (Rs.bind (we l n 0 c) λ(y,e)=>Rs.ok (.node 5 s 0 li' co' (y::us),e)) (λ(x,b)=>Rs.bind (lift (ends l b) λe=>Rs.bind (listGo l one M e) λ(xs,g)=>Rs.ok (x::xs,g)) (λ(xs,c)=>Rs.ok (.node kk nm 0 li co (ts++xs),c)))=some res)
  (hN:∀H' n',nx<=n'->LSt Z r tb l B F kk nm li co nb one M res H' n'->N (qj .und [(0,.ptr r 0),(2,.ptr i 0),(3,.ptr nb 0),(4,.bool face)]) H' n' [] none) {env:Env} (he:ql (qj .und [(6,o'),(5,.ptr m 0),(4,.bool face),(3,.ptr nb 0),(2,.ptr i 0),(0,.ptr r 0)]) env):
  LpP PG 84 (qn (qn (qe PG zI) [1,1,1,1,1,1,1,1,0,0,0]) [1,0,1,1,0,1,0,1,1,1,0,1,0,1,0,0]) env H nx [] none
   (qx PG (qk PG) (LpP PG 84) 84 (qn (qe PG zI) [1,1,1,1,1,1,1,1,0,0,0]) [1,0,1,1,0,1,0,1,1,1,0,1,0,1,0] (qW [0,2,3,4] (qV N X R Pn))):=by
 refine zu (P:=PG) (X:=qa) (Y:=qa) (λo'=>qj .und [(6,o'),(5,.ptr m 0),(4,.bool face),(3,.ptr nb 0),(2,.ptr i 0),(0,.ptr r 0)]) (λo'=>qj .und [(6,o'),(5,.ptr m 0),(4,.bool face),(3,.ptr nb 0),(2,.ptr i 0),(0,.ptr r 0)])
  (λNf o' H1 nx1=>nx<=nx1/\Xc Z r tb l 0 ((m,[iv 5,.str s,iv 0,iv li',iv co',.nilSlice])::(G++(nb,[iv kk,.str nm,iv 0,iv li,iv co,o])::B)) F2 (run l n .typ 0) Nf rr o' H1 nx1)
  (λid o' H1 nx1=>id=4/\nx<=nx1/\qbk Z r tb l 0 ((m,[iv 5,.str s,iv 0,iv li',iv co',.nilSlice])::(G++(nb,[iv kk,.str nm,iv 0,iv li,iv co,o])::B)) F2 rr o' H1 nx1) Nf o' he ⟨Nat.le_refl _,hst⟩ ?_ ?_
 ·rintro Nf o' H2 n2 ⟨g2,hst⟩
  refine WpP.part (ts:=[0,2,3,4,5,6]) qr ?_
  show vK PG _ _ 84 (qn (qe PG 25) [1,1,1,1,1,1,1,1,0,0,0,1,0,1,1,0,1,0,1,1,1,0,1,0,1,0,0]) _ _ _ _ _ _
  rw [ql7];exact YM W (yi W n) (wb rfl) hst (λN' v H' n' h1 g h=>⟨rfl,N',v,h1,ql.okay,by omega,h⟩) λH' n' g h=>⟨rfl,o',ql.okay,rfl,by omega,h⟩
 ·rintro id o' H2 n2 ⟨rfl,g2,b,bad,us,F3,p3,hc,s3,few2,hR⟩
  rw [qks];cases bad with
  |some f=>
   exact zd p3 (qb.2 (KZ (n:=0) (F:=F) (one:=one) (M:=M) W p3 (gr.sub λP hP=> .tail _ (s3 hP)) (.head _) (λP hP=> .tail _ (s3 (hF hP))) few few2 (hbad _ hR) λH' n' g h=>hN _ _ (by omega) h))
  |none=>
   refine zo W p3 (λhno H4 n4 g4 p4=>qb.2 (KZ (n:=0) (F:=F) (one:=one) (M:=M) W p4 (gr.sub λP hP=> .tail _ (s3 hP)) (.head _) (λP hP=> .tail _ (s3 (hF hP))) few few2 (hbad _ ?_) λH' n' g h=>hN _ _ (by omega) h)) λhyes H4 n4 g4 p4=>qb.2 (KZ (n:=n) (F:=F) (one:=one) (M:=M) W p4 (gr.sub λP hP=> .tail _ (s3 hP)) (.head _) (λP hP=> .tail _ (s3 (hF hP))) few few2 (hok _ _ ?_) λH' n' g h=>hN _ _ (by omega) h)
   ·simp [need,hno,lift]at hR;exact hR.symm
   ·simp [need,hyes,lift,Rs.ok]at hR;exact hR.symm
theorem td1(W:zj l){i n:Nat}{face:Bool}{C:KP}(h:PS Z r tb l a bad d A F H nx)(hK:∀b H' nx',(bad=none->b=gaps l a)->nx<=nx'->PS Z r tb l b bad d A F H' nx'->C (.exit 0) (qj .und [(4,.bool face),(3,.ptr n 0),(2,.ptr i 0),(0,.ptr r 0)]) H' nx' [] none){env:Env}(he:ql (qj .und [(4,.bool face),(3,.ptr n 0),(2,.ptr i 0),(0,.ptr r 0)]) env):
  LpP PG 84 (qn (qe PG zI) [1,1,1,1,1,1,1,0,0,0]) env H nx [] none C:=by
 refine zu (P:=PG) (X:=Nat) (Y:=Unit) (λ_=>qj .und [(4,.bool face),(3,.ptr n 0),(2,.ptr i 0),(0,.ptr r 0)]) (λ_=>qj .und [(4,.bool face),(3,.ptr n 0),(2,.ptr i 0),(0,.ptr r 0)])
  (λm b H1 nx1=>nx<=nx1/\PS Z r tb l b bad d A F H1 nx1/\m=l.length - b/\(bad=none->gapsN l m b=gaps l a))
  (λid _ H1 nx1=>id=0/\nx<=nx1/\∃b,PS Z r tb l b bad d A F H1 nx1/\(bad=none->b=gaps l a)) (l.length - a) a he ⟨Nat.le_refl _,h,rfl,λ_=>rfl⟩ ?_ ?_
 ·rintro m b H1 nx1 ⟨h1,p1,rfl,hg⟩
  refine WpP.part (ts:=[0,2,3,4]) qr ?_
  rw [qkd];have hlt:=PS.lt p1
  obtain⟨m,hm⟩:∃m,l.length - b=m+1:=⟨l.length - b - 1,by omega⟩
  refine kA W p1 (λhq H2 nx2 h2 p2=>qb.2 ⟨_,rfl,qH rfl ?_⟩) λhb hq H2 nx2 h2 p2=>qb.2 ⟨_,rfl,qK rfl ?_⟩
  ·refine⟨rfl,(),ql.okay,rfl,by omega,b,p2,λhb=> ?_⟩
   subst hb;rw [<-hg rfl,hm];unfold gapsN;rw [show is l b [59]=false from hq];rfl
  ·subst hb;refine⟨rfl,_,b+1,Nat.sub_lt_sub_left hlt (Nat.lt_succ_self b),ql.okay,by omega,p2,rfl,λ_=> ?_⟩
   rw [<-hg rfl,hm];rw [show l.length - (b+1)=m by omega]
   conv=>rhs;unfold gapsN
   rw [hq];rfl
 ·rintro id _ H1 nx1 ⟨rfl,h1,b,p1,hb⟩
  exact hK _ _ _ hb h1 p1
def qfc(face:Bool):Rule:=if face then .method else .field
theorem td2(W:zj l){i:Nat}{face:Bool}{n m:Nat}{C:KP}(hst:LSt Z r tb l B F kk nm li co nb (run l n (qfc face) 0) m res H nx)
  (hK:∀H' nx',nx<=nx'->qpd Z r tb l B F kk nm li co nb res H' nx'->C (.exit 2) (qj .und [(4,.bool face),(3,.ptr nb 0),(2,.ptr i 0),(0,.ptr r 0)]) H' nx' [] none) {env:Env} (he:ql (qj .und [(4,.bool face),(3,.ptr nb 0),(2,.ptr i 0),(0,.ptr r 0)]) env):
  LpP PG 84 (qn (qe PG zI) [1,1,1,1,1,1,1,1,0,0,0]) env H nx [] none C:=by
 have hW:=W.few
 refine zu (P:=PG) (X:=Unit) (Y:=Unit) (λ_=>qj .und [(4,.bool face),(3,.ptr nb 0),(2,.ptr i 0),(0,.ptr r 0)]) (λ_=>qj .und [(4,.bool face),(3,.ptr nb 0),(2,.ptr i 0),(0,.ptr r 0)])
  (λm _ H1 nx1=>nx<=nx1/\LSt Z r tb l B F kk nm li co nb (run l n (qfc face) 0) m res H1 nx1)
  (λid _ H1 nx1=>id=2/\nx<=nx1/\qpd Z r tb l B F kk nm li co nb res H1 nx1) m () he ⟨Nat.le_refl _,hst⟩ ?_ ?_
 ·rintro m _ H2 n2 ⟨g2,o,b,bad,ts,G,F2,p2,gr,s2,few,hR⟩
  refine WpP.part (ts:=[0,2,3,4]) qr ?_
  rw [qnx];cases bad with
  |some f=>exact ron p2 (qb.2 ⟨_,rfl,qH rfl ⟨rfl,(),ql.okay,rfl,g2,o,b,some f,ts,F2,OB.grown p2 gr .hd,gr.cell,s2,hR⟩⟩)
  |none=>
  obtain⟨hlb,hR⟩:=hR
  cases m with
  |zero=>simp [listGo,Rs.bind]at hR
  |succ m=>
  unfold listGo at hR;refine ron p2 (qb.2 ⟨_,rfl,qK rfl (ris p2 λH3 n3 g3 p3=>qb.2 ⟨_,rfl,qi.2 ⟨λh3=> ?_,λh3=> ?_⟩⟩)⟩)
  rotate_left
  ·have h3:is l b [125]=true:=by simpa [isR]using h3
   rw [h3]at hR;simp only [if_true]at hR
   rw [kq]at hR;refine⟨rfl,(),ql.okay,rfl,by omega,o,b,none,ts,F2,OB.grown p3 gr .hd,gr.cell,s2,h3,?_⟩
   cases hR;simp
  have h3:is l b [125]=false:=by simpa [isR]using h3
  rw [h3]at hR;simp only [Bool.false_eq_true,if_false]at hR
  rw [zV]at hR;have hb5:=PS.lt p3
  have next:∀{H' n'},n2<=n'->LSt Z r tb l B F kk nm li co nb (run l n (qfc face) 0) m res H' n'->([]=([]:Dfs)/\∃(m':Nat) (x':Unit),m'<m+1/\ql (qj .und [(4,.bool face),(3,.ptr nb 0),(2,.ptr i 0),(0,.ptr r 0)]) (qj .und [(0,.ptr r 0),(2,.ptr i 0),(3,.ptr nb 0),(4,.bool face)])/\nx<=n'/\LSt Z r tb l B F kk nm li co nb (run l n (qfc face) 0) m' res H' n'):=λg h=>⟨rfl,m,(),Nat.lt_succ_self m,ql.okay,by omega,h⟩
  refine kS p3 λH4 n4 g4 p4=>qb.2 ⟨_,_,_,_,_,_,rfl,p4.new lR λH5 p5=>p5.all .hd rfl rfl λH6 p6=> ?_⟩
  cases face with
  |false=>
   cases n with
   |zero=>simp [run,Rs.bind]at hR
   |succ n=>
   have hR:Rs.bind (lift (name l b) λb'=>Rs.bind (run l n .typ 0 b') λ(x,c)=> .ok (mk (tk l b) 4 (tk l b).text [x],c)) (λ(x,b)=>Rs.bind (lift (ends l b) λc=>Rs.bind (listGo l (run l (n+1) .field 0) m c) λ(xs,d)=>Rs.ok (x::xs,d)) λ(xs,c)=>Rs.ok (.node kk nm 0 li co (ts++xs),c))=some res:=hR
   refine vO W p6 (λhno H7 n7 g7 p7=>qb.2 ⟨_,rfl,_,rfl,rfl,p7.one .hd (by simp) rfl λH8 p8=>qH rfl ?_⟩) λhyes H7 n7 g7 p7=>qb.2 ⟨_,rfl,_,rfl,rfl,p7.one .hd (by simp) rfl λH8 p8=>qH rfl ?_⟩
   ·simp [name,hno,lift,Rs.bind]at hR
    refine ja wr p8 λc k s nn li' co' w us H9 n9 g9 p9 hw=>⟨_,_,_,_,_,_,rfl,p9.newF lR λH10 p10=>⟨_,rfl,rfl,p10.one .hd (by simp) rfl λH11 p11=> ?_⟩⟩
    have p12:=p11.add (P:=Kids (.slice n9 0 1 6 true) [.node k s nn li' co' us]) λΓ q=>jS (q _ (.head _)) (q _ (.tail _ (.head _)))
    exact JT (one:=run l (n+1) .field 0) (M:=m) W p12 (gr.sub λP hP=> .tail _ (.tail _ (.tail _ hP))) (.head _) rfl (λP hP=> .tail _ (.tail _ (.tail _ (s2 hP)))) (by omega) hR.symm λH' n' g h=>next (by omega) h
   ·simp only [name,hyes,lift,beq_self_eq_true,if_true]at hR
    rw [zV]at hR;have hadv:AdvOK (run l n .typ 0):=wb rfl
    refine wi (yi W n) hR p8 (λk s nn li' co' w us c H9 n9 hx hr g9 p9 hw=>⟨_,_,_,_,_,_,rfl,p9.newF lR λH10 p10=>⟨_,rfl,rfl,p10.one .hd (by simp) rfl λH11 p11=> ?_⟩⟩) λf c k s nn li' co' w us H9 n9 hr g9 p9 hw=>⟨_,_,_,_,_,_,rfl,p9.newF lR λH10 p10=>⟨_,rfl,rfl,p10.one .hd (by simp) rfl λH11 p11=> ?_⟩⟩
    ·have hac:=hadv _ _ _ hx
     have p12:=p11.add (P:=Kids (.slice n9 0 1 6 true) [.node k s nn li' co' us]) λΓ q=>jS (q _ (.head _)) (q _ (.tail _ (.head _)))
     rw [kq]at hr;exact JT (one:=run l (n+1) .field 0) (M:=m) W p12 (gr.sub λP hP=> .tail _ (.tail _ (.tail _ hP))) (.head _) rfl (λP hP=> .tail _ (.tail _ (.tail _ (s2 hP)))) (by omega) ⟨by omega,hr⟩ λH' n' g h=>next (by omega) h
    ·have p12:=p11.add (P:=Kids (.slice n9 0 1 6 true) [.node k s nn li' co' us]) λΓ q=>jS (q _ (.head _)) (q _ (.tail _ (.head _)))
     exact JT (one:=run l (n+1) .field 0) (M:=m) W p12 (gr.sub λP hP=> .tail _ (.tail _ (.tail _ hP))) (.head _) rfl (λP hP=> .tail _ (.tail _ (.tail _ (s2 hP)))) (by omega) hr λH' n' g h=>next (by omega) h
  |true=>
   cases n with
   |zero=>simp [run,Rs.bind]at hR
   |succ n=>
   have hR:Rs.bind (lift (name l b) λb'=>Rs.bind (row l (run l n .typ 0) n b') λ(xs,c)=>Rs.bind (we l n 0 c) λ(y,e)=> .ok (mk (tk l b) 5 (tk l b).text (y::xs),e)) (λ(x,b)=>Rs.bind (lift (ends l b) λc=>Rs.bind (listGo l (run l (n+1) .method 0) m c) λ(xs,d)=>Rs.ok (x::xs,d)) λ(xs,c)=>Rs.ok (.node kk nm 0 li co (ts++xs),c))=some res:=hR
   have hadv:AdvOK (run l n .typ 0):=wb rfl
   refine vO W p6 (λhno H7 n7 g7 p7=>qb.2 ⟨_,rfl,_,rfl,rfl,p7.one .hd (by simp) rfl λH8 p8=>qK rfl ⟨_,rfl,rfl,p8.one .hd (by simp) rfl λH9 p9=>zd p9 (qb.2 (ris p9 λH10 n10 g10 p10=>qb.2 ⟨_,rfl,qK rfl (ja wr p10 λc k s nn li' co' w us H11 n11 g11 p11 hw=>⟨_,_,_,_,_,_,rfl,p11.newF lR λH12 p12=>OB.app1 p12 z0.nil .hd (.head _) (.tail _ (.head _)) hw (by simp) λv H13 G' F' gr' sf hv p13=> ?_⟩)⟩))⟩⟩) λhyes H7 n7 g7 p7=>qb.2 ⟨_,rfl,_,rfl,rfl,p7.one .hd (by simp) rfl λH8 p8=>qK rfl ⟨_,rfl,rfl,p8.one .hd (by simp) rfl λH9 p9=> ?_⟩⟩
   ·simp [name,hno,lift,Rs.bind]at hR
    exact Zi (one:=run l (n+1) .method 0) (M:=m) (n:=0) (Nf:=0) (rr:= .error (flt l b 13)) (F:=F) W ⟨_,some _,_,G',F',p13,gr',λ_ h=>h,by simp,rfl⟩ (gr.sub λP hP=>sf (.tail _ (.tail _ hP))) (λP hP=>sf (.tail _ (.tail _ (s2 hP)))) (by omega) (λf e=>by cases e;exact hR.symm) (λus c e=>by cases e) (λH' n' g h=>next (by omega) h) (ql.okay)
   simp only [name,hyes,lift,beq_self_eq_true,if_true]at hR
   unfold row at hR;refine zo W p9 (λhno H10 n10 g10 p10=>qb.2 (ris p10 λH11 n11 g11 p11=>qb.2 ⟨_,rfl,qK rfl (ja wr p11 λc k s nn li' co' w us H12 n12 g12 p12 hw=>⟨_,_,_,_,_,_,rfl,p12.newF lR λH13 p13=>OB.app1 p13 z0.nil .hd (.head _) (.tail _ (.head _)) hw (by simp) λv H14 G' F' gr' sf hv p14=> ?_⟩)⟩)) λhyes2 H10 n10 g10 p10=>qb.2 (ris p10 λH11 n11 g11 p11=>qb.2 ⟨_,rfl,qi.2 ⟨λh11=> ?_,λh11=> ?_⟩⟩)
   ·simp [need,hno,lift,Rs.bind]at hR
    exact Zi (one:=run l (n+1) .method 0) (M:=m) (n:=0) (Nf:=0) (rr:= .error (flt l (b+1) 13)) (F:=F) W ⟨_,some _,_,G',F',p14,gr',λ_ h=>h,by simp,rfl⟩ (gr.sub λP hP=>sf (.tail _ (.tail _ hP))) (λP hP=>sf (.tail _ (.tail _ (s2 hP)))) (by omega) (λf e=>by cases e;exact hR.symm) (λus c e=>by cases e) (λH' n' g h=>next (by omega) h) (ql.okay)
   ·have h11:is l (b+1+1) [41]=false:=by simpa [isR]using h11
    simp only [need,hyes2,lift,if_true,h11,Bool.false_eq_true,if_false]at hR
    rw [zV]at hR;rcases Ps.bind_some hR with⟨e,e1,e2⟩|⟨⟨us0,c0⟩,e1,e2⟩
    all_goals
     obtain⟨n',rfl⟩:∃n',n=n'+1:=by
      cases n with
      |zero=>simp [rowGo]at e1
      |succ n'=>exact⟨n',rfl⟩
     rw [vH]at e1;refine wi (yi W (n'+1)) e1 p11 (λk s nn li' co' w us c H12 n12 hx hr g12 p12 hw=>⟨_,_,_,_,_,_,rfl,p12.newF lR λH13 p13=>OB.app1 p13 z0.nil .hd (.head _) (.tail _ (.head _)) hw (by simp) λv H14 G' F' gr' sf hv p14=> ?_⟩) λf c k s nn li' co' w us H12 n12 hr g12 p12 hw=>⟨_,_,_,_,_,_,rfl,p12.newF lR λH13 p13=>OB.app1 p13 z0.nil .hd (.head _) (.tail _ (.head _)) hw (by simp) λv H14 G' F' gr' sf hv p14=> ?_⟩
    ·have hac:=hadv _ _ _ hx
     exact Zi (one:=run l (n'+1+1) .method 0) (M:=m) (n:=n'+1) (Nf:=n') (rr:= .error e) (F:=F) W ⟨c,none,_,G',F',p14,gr',λ_ h=>h,by simp,by simp;omega,by simpa using hr⟩ (gr.sub λP hP=>sf (.tail _ (.tail _ hP))) (λP hP=>sf (.tail _ (.tail _ (s2 hP)))) (by omega) (λf e=>by cases e;exact e2) (λus c e=>by cases e) (λH' n' g h=>next (by omega) h) (ql.okay)
    ·exact Zi (one:=run l (n'+1+1) .method 0) (M:=m) (n:=n'+1) (Nf:=n') (rr:= .error e) (F:=F) W ⟨c,some f,_,G',F',p14,gr',λ_ h=>h,by simp,hr⟩ (gr.sub λP hP=>sf (.tail _ (.tail _ hP))) (λP hP=>sf (.tail _ (.tail _ (s2 hP)))) (by omega) (λf e=>by cases e;exact e2) (λus c e=>by cases e) (λH' n' g h=>next (by omega) h) (ql.okay)
    ·have hac:=hadv _ _ _ hx
     have hgo:=JG hadv _ _ _ _ (vH.trans e1)
     exact Zi (one:=run l (n'+1+1) .method 0) (M:=m) (n:=n'+1) (Nf:=n') (rr:= .ok (us0,c0)) (F:=F) W ⟨c,none,_,G',F',p14,gr',λ_ h=>h,by simp,by simp;omega,by simpa using hr⟩ (gr.sub λP hP=>sf (.tail _ (.tail _ hP))) (λP hP=>sf (.tail _ (.tail _ (s2 hP)))) (by omega) (λf e=>by cases e) (λus c e=>by cases e;exact⟨by omega,e2⟩) (λH' n' g h=>next (by omega) h) (ql.okay)
    ·exact Zi (one:=run l (n'+1+1) .method 0) (M:=m) (n:=n'+1) (Nf:=n') (rr:= .ok (us0,c0)) (F:=F) W ⟨c,some f,_,G',F',p14,gr',λ_ h=>h,by simp,hr⟩ (gr.sub λP hP=>sf (.tail _ (.tail _ hP))) (λP hP=>sf (.tail _ (.tail _ (s2 hP)))) (by omega) (λf e=>by cases e) (λus c e=>by cases hr) (λH' n' g h=>next (by omega) h) (ql.okay)
   ·have h11:is l (b+1+1) [41]=true:=by simpa [isR]using h11
    simp only [need,hyes2,lift,if_true,h11]at hR
    rw [kq]at hR;refine zo W p11 (λhno=>by rw [h11]at hno;cases hno) λ_ H12 n12 g12 p12=>qb.2 ?_
    exact KZ (n:=n) (F:=F) (one:=run l (n+1) .method 0) (M:=m) (us:=[]) (o':= .nilSlice) W (OB.zero p12) (gr.sub λP hP=> .tail _ hP) (.head _) (λP hP=> .tail _ (s2 hP)) (by omega) (by simp) ⟨by omega,hR⟩ λH' n' g h=>next (by omega) h
 ·rintro id _ H2 n2 ⟨rfl,g2,hst⟩
  exact hK _ _ g2 hst
end
section
variable{r tb:Nat}{l:List Tok}{a d:Nat}{bad:Option Flt}{A A1 A' B G:qN}{F F2:qU}{H:qd}{nx:Nat}{K:qv}{res:Except Flt (qu×Nat)}{I:List qa->Prop}{E:qU}
theorem PS.bumpE{k:qa->Int->qa->qd->Prop}(W:zj l)(h:PS Z r tb l a none d A F H nx)(hn:(Ps.tk l a).kind≠0)(hK:∀H',PS Z r tb l (a+1) none d A F H' nx->k (.ptr r 1) a (.ptr r 1) H'):
  true=true/\∃v0,some (u0 r 1)=some v0/\∃n:Int,ld1 H v0=some (iv n)/\true=true/\∃v1,some (u0 r 1)=some v1/\true=true/\∃H1,stC H v1 [iv (i64.wrap (n+1))]=some H1/\k v0 n v1 H1:=by
 have ha:=qao W hn h.lt
 have hf:=W.few
 obtain⟨full,n,e0,x,y,hi,hs⟩:=PS.cells h
 obtain⟨rfl,hd,rfl,_⟩:=hi.on
 refine⟨rfl,_,rfl,a,hs.ld1 .hd 1,rfl,_,rfl,rfl,?_⟩
 rw [qw (by omega) (by omega)]
 exact hs.one (j:=1) .hd (by simp) rfl λH1 h1=>hK H1 ⟨_,.mkOn ha hd,h1⟩
theorem VS(W:zj l){n n1 nx0:Nat}{face:Bool}{kk:Int}{nm:List UInt8}{li co:Int}{env:qa->qd->Nat->Env}(p:PS Z r tb l a bad 0 ((n1,[iv kk,.str nm,iv 0,iv li,iv co,.nilSlice])::(nx0,[iv 0,.str [],iv 0,iv 0,iv 0,.nilSlice])::A) F H nx)(hx:nx0<=nx)
  (hR:match bad with|none=>Rs.bind (list l (run l n (qfc face) 0) n a) (λ(xs,c)=>Rs.ok (.node kk nm 0 li co xs,c))=some res|some f=>res= .error f) (hK:vu Z r tb l 0 A F nx0 K res)
  (he:∀v H' n',ql (qj .und [(4,.bool face),(3,.ptr n1 0),(2,.ptr nx0 0),(0,.ptr r 0)]) (env v H' n')) {pK:List (qa×Bool)->qd->Nat->Prop}:
  qk PG qL [.ptr r 0,.str [123]] H nx λe H' n'=>qc e (λv=>LpP PG 84 (qn (qe PG zI) [1,1,1,1,1,1,1,0,0,0]) (env v H' n') H' n' [] none (qx PG (qk PG) (LpP PG 84) 84 (qe PG zI) [1,1,1,1,1,1,1,0,0] (qy PG (zx (qB PG)) (qS PG (qB PG)) K (qF PG zI)))) λl=>pK l H' n':=by
 have tail:∀{c:Nat} {bad:Option Flt} {H1:qd} {n2:Nat},nx<=n2->PS Z r tb l c bad 0 ((n1,[iv kk,.str nm,iv 0,iv li,iv co,.nilSlice])::(nx0,[iv 0,.str [],iv 0,iv 0,iv 0,.nilSlice])::A) F H1 n2->
   (match bad with|none=>Rs.bind (listGo l (run l n (qfc face) 0) n (gaps l c)) (λ(xs,c)=>Rs.ok (.node kk nm 0 li co xs,c))=some res|some f=>res= .error f)->∀{env},ql (qj .und [(4,.bool face),(3,.ptr n1 0),(2,.ptr nx0 0),(0,.ptr r 0)]) env->
   LpP PG 84 (qn (qe PG zI) [1,1,1,1,1,1,1,0,0,0]) env H1 n2 [] none (qx PG (qk PG) (LpP PG 84) 84 (qe PG zI) [1,1,1,1,1,1,1,0,0] (qy PG (zx (qB PG)) (qS PG (qB PG)) K (qF PG zI))):=by
  intro c bad H1 n2 g1 p1 hR env he;refine td1 W p1 (λb H3 n3 hb g3 p3=> ?_) he
  rw [qmj];unfold qoo;refine td2 (n:=n) (m:=n) (res:=res) (F:=F) (kk:=kk) (nm:=nm) (li:=li) (co:=co) (B:=(nx0,[iv 0,.str [],iv 0,iv 0,iv 0,.nilSlice])::A) W ⟨.nilSlice,b,bad,[],[],F,p3,z0.nil,λ_ h=>h,by simp,?_⟩ (λH4 n4 g4 hst=> ?_) (ql.refl _)
  ·cases bad with
   |some f=>exact hR
   |none=>exact⟨by simp,by rw [hb rfl];simpa using hR⟩
  ·obtain⟨o,e,bad,ts,F3,p4,hc,s3,hR⟩:=hst
   rw [qle];cases bad with
   |some f=>exact zd p4 (qb.2 (rb6 p4 .hd (.tl .hd) rfl hc λH5 p5=>hK.no ts hR p5 hc (m:= .head _) (ss:=λP hP=> .tail _ (s3 hP))))
   |none=>
    obtain⟨h3,hR⟩:=hR
    exact zo W p4 (λhno=>by rw [h3]at hno;cases hno) λ_ H3 n3 g3 p3=>qb.2 (rb6 p3 .hd (.tl .hd) rfl hc λH5 p5=>hK.ok hR p5 hc (m:= .head _) (ss:=λP hP=> .tail _ (s3 hP)))
 cases bad with
 |some f=>exact zd p (qb.2 (tail lR p hR (he _ _ _)))
 |none=>
  unfold list at hR;refine zo W p (λhno H4 n4 g4 p4=>qb.2 (tail g4 p4 ?_ (he _ _ _))) λhyes H4 n4 g4 p4=>qb.2 (tail g4 p4 ?_ (he _ _ _))
  ·simp [need,hno,lift,Rs.bind]at hR
   exact hR.symm
  ·simpa [need,hyes,lift]using hR
theorem ZT(W:zj l){n:Nat}(hrun:typeDecl l n a=some res)(h:PS Z r tb l a none 0 A F H nx)(hK:vu Z r tb l 0 A F nx K res):qk PG zI [.ptr r 0] H nx K:=by
 refine qk.of_body qr ?_
 rw [Kr];unfold typeDecl at hrun;have e5:∀{env:Env} {face:Bool} {n1:Nat},Xy env [(4,.bool face),(3,.ptr n1 0),(2,.ptr nx 0),(0,.ptr r 0)]->ql (qj .und [(4,.bool face),(3,.ptr n1 0),(2,.ptr nx 0),(0,.ptr r 0)]) env:=λh=>ql.of_list h
 refine h.new lR λH0 p0=>kS p0 λH1 n1 g1 p1=>qb.2 ⟨_,_,_,_,_,_,rfl,p1.new lR λH2 p2=>p2.all .hd rfl rfl λH3 p3=>zo W p3 (λhno H4 n4 g4 p4=>qb.2 (Z5 p4 (qb.2 ⟨_,rfl,_,rfl,rfl,p4.one .hd (by simp) rfl λH5 p5=>ris p5 λH6 n6 g6 p6=>qb.2 ⟨_,rfl,qH rfl (zd p6 (qb.2 ?_))⟩⟩))) λhyes H4 n4 g4 p4=>qb.2 (vO W p4 (λhno2 H5 n5 g5 p5=>qb.2 ⟨_,rfl,_,rfl,rfl,p5.one .hd (by simp) rfl λH6 p6=>ris p6 λH7 n7 g7 p7=>qb.2 ⟨_,rfl,qH rfl (zd p7 (qb.2 ?_))⟩⟩) λhyes2 H5 n5 g5 p5=>qb.2 ⟨_,rfl,_,rfl,rfl,p5.one .hd (by simp) rfl λH6 p6=>ris p6 λH7 n7 g7 p7=>qb.2 ⟨_,rfl,qi.2 ⟨λh7=> ?_,λh7=> ?_⟩⟩⟩)⟩
 ·have hno:is l a wType=false:=hno
  simp [need,hno,lift]at hrun
  exact VS (n:=0) (face:=false) W p6 (by omega) hrun.symm hK λv H' n'=>e5 (by exact⟨rfl,rfl,rfl,rfl,trivial⟩)
 ·have hyes:is l a wType=true:=hyes
  simp [need,hyes,name,hno2,lift]at hrun
  exact VS (n:=0) (face:=false) W p7 (by omega) hrun.symm hK λv H' n'=>e5 (by exact⟨rfl,rfl,rfl,rfl,trivial⟩)
 ·have hyes:is l a wType=true:=hyes
  have h7:is l (a+1+1) wInterface=true:=by simpa [isR,wInterface]using h7
  simp only [need,hyes,name,hyes2,lift,beq_self_eq_true,if_true,h7]at hrun
  refine⟨_,rfl,rfl,p7.one .hd (by simp) rfl λH8 p8=>PS.bumpE W p8 (isk h7) λH9 p9=> ?_⟩
  exact VS (n:=n) (face:=true) W p9 (by omega) hrun hK λv H' n'=>e5 (by exact⟨rfl,rfl,rfl,rfl,trivial⟩)
 ·have hyes:is l a wType=true:=hyes
  have h7:is l (a+1+1) wInterface=false:=by simpa [isR,wInterface]using h7
  simp only [need,hyes,name,hyes2,lift,beq_self_eq_true,if_true,h7,Bool.false_eq_true,if_false]at hrun
  refine zo W p7 (λhno H8 n8 g8 p8=>qb.2 ?_) λhyes3 H8 n8 g8 p8=>qb.2 ?_
  ·have hno:is l (a+1+1) wStruct=false:=hno
   simp [hno]at hrun
   exact VS (n:=0) (face:=false) W p8 (by omega) hrun.symm hK λv H' n'=>e5 (by exact⟨rfl,rfl,rfl,rfl,trivial⟩)
  ·have hyes3:is l (a+1+1) wStruct=true:=hyes3
   simp only [hyes3,if_true]at hrun
   exact VS (n:=n) (face:=false) W p8 (by omega) hrun hK λv H' n'=>e5 (by exact⟨rfl,rfl,rfl,rfl,trivial⟩)
end
section
variable{r tb:Nat}{l:List Tok}{a d:Nat}{bad:Option Flt}{A A1 A' B G:qN}{F F2:qU}{H:qd}{nx:Nat}{K:qv}{res:Except Flt (qu×Nat)}{I:List qa->Prop}{E:qU}
def qk0(r n1 m nx0:Nat)(o:qa)(K:qv)(H:qd)(nx:Nat)(q1 q2:List (qa×Bool)->qd->Nat->Prop):Prop:=
 qk PG jH [.ptr r 0] H nx λe4 H5 i6=>qc e4 (λv7=>∃(n8:Int) (s9:List UInt8) (n10 n11 n12:Int) (v13:qa),v7= .agg [iv n8,.str s9,iv n10,iv n11,iv n12,v13]/\∃H14,H14=qo i6 [iv 0,.str [],iv 0,iv 0,iv 0,.nilSlice] H5/\∃H15,stC H14 (.ptr i6 0) [iv n8,.str s9,iv n10,iv n11,iv n12,v13]=some H15/\
  qk PG zF [.ptr r 0] H15 (i6+1) λe16 H17 i18=>qc e16 (λv19=>∃(n20:Int) (s21:List UInt8) (n22 n23 n24:Int) (v25:qa),v19= .agg [iv n20,.str s21,iv n22,iv n23,iv n24,v25]/\∃H26,H26=qo i18 [iv 0,.str [],iv 0,iv 0,iv 0,.nilSlice] H17/\∃H27,stC H26 (.ptr i18 0) [iv n20,.str s21,iv n22,iv n23,iv n24,v25]=some H27/\
   ∃(n28:Int) (s29:List UInt8) (n30 n31 n32:Int) (v33:qa),ldN H27 6 (.ptr m 0)=some (.agg [iv n28,.str s29,iv n30,iv n31,iv n32,v33])/\∃(n34:Int) (s35:List UInt8) (n36 n37 n38:Int) (v39:qa),ldN H27 6 (.ptr i6 0)=some (.agg [iv n34,.str s35,iv n36,iv n37,iv n38,v39])/\∃(n40:Int) (s41:List UInt8) (n42 n43 n44:Int) (v45:qa),ldN H27 6 (.ptr i18 0)=some (.agg [iv n40,.str s41,iv n42,iv n43,iv n44,v45])/\
   ∃H46,H46=qo (i18+1) [iv n28,.str s29,iv n30,iv n31,iv n32,v33,iv n34,.str s35,iv n36,iv n37,iv n38,v39,iv n40,.str s41,iv n42,iv n43,iv n44,v45] H27/\∃i47 l48,zJ 6 H46 o=some (i47,l48)/\qq l48=true/\∃v49 H50 i51,zt H46 (i18+1+1) 6 72 (.slice (i18+1) 0 3 6 true) i47 l48=some (v49,H50,i51)/\
   ∃v52,some (u0 n1 5)=some v52/\qI v49=true/\∃H53,stC H50 v52 [v49]=some H53/\∃(n54:Int) (s55:List UInt8) (n56 n57 n58:Int) (v59:qa),ldN H53 6 (.ptr n1 0)=some (.agg [iv n54,.str s55,iv n56,iv n57,iv n58,v59])/\∃H60,stC H53 (.ptr nx0 0) [iv n54,.str s55,iv n56,iv n57,iv n58,v59]=some H60/\
   ∃(n61:Int) (s62:List UInt8) (n63 n64 n65:Int) (v66:qa),ldN H60 6 (.ptr nx0 0)=some (.agg [iv n61,.str s62,iv n63,iv n64,iv n65,v66])/\K (.ret (.agg [iv n61,.str s62,iv n63,iv n64,iv n65,v66])) H60 i51) λl=>q2 l H17 i18) λl=>q1 l H5 i6
theorem qe2(W:zj l){c n n1 m nx0:Nat}{nm:List UInt8}{li co:Int}{rk:Int}{rs:List UInt8}{rn rl rc:Int}{rw_ o:qa}{rts ps:List qu}{q1 q2:List (qa×Bool)->qd->Nat->Prop}
  (p:PS Z r tb l c bad 0 ((m,[iv rk,.str rs,iv rn,iv rl,iv rc,rw_])::(n1,[iv 6,.str nm,iv 0,iv li,iv co,.nilSlice])::(nx0,[iv 0,.str [],iv 0,iv 0,iv 0,.nilSlice])::A) F2 H nx) (hx:nx0<=nx) (hrw:Kids rw_ rts∈F2) (ho:Kids o ps∈F2) (few:ps.length<=5000) (hF:F⊆F2)
  (hR:match bad with|none=>Rs.bind (we l n 0 c) (λ(y,e)=>Rs.bind (run l n .block 0 e) λ(body,f)=>Rs.ok (.node 6 nm 0 li co (.node rk rs rn rl rc rts::y::body::ps),f))=some res|some f=>res= .error f) (hK:vu Z r tb l 0 A F nx0 K res):qk0 r n1 m nx0 o K H nx q1 q2:=by
 have fin:∀{c bad i6 i18 yk ys yn yl yc yw yts zk zs zn zl zc zw zts F3 H2 n2},nx<=n2->PS Z r tb l c bad 0 ((i18,[iv zk,.str zs,iv zn,iv zl,iv zc,zw])::(i6,[iv yk,.str ys,iv yn,iv yl,iv yc,yw])::(m,[iv rk,.str rs,iv rn,iv rl,iv rc,rw_])::(n1,[iv 6,.str nm,iv 0,iv li,iv co,.nilSlice])::(nx0,[iv 0,.str [],iv 0,iv 0,iv 0,.nilSlice])::A) F3 H2 n2->Kids yw yts∈F3->Kids zw zts∈F3->F2⊆F3->
   (match bad with|none=>res= .ok (.node 6 nm 0 li co (.node rk rs rn rl rc rts:: .node yk ys yn yl yc yts:: .node zk zs zn zl zc zts::ps),c)|some f=>res= .error f)->
   ∃(n28:Int) (s29:List UInt8) (n30 n31 n32:Int) (v33:qa),ldN H2 6 (.ptr m 0)=some (.agg [iv n28,.str s29,iv n30,iv n31,iv n32,v33])/\∃(n34:Int) (s35:List UInt8) (n36 n37 n38:Int) (v39:qa),ldN H2 6 (.ptr i6 0)=some (.agg [iv n34,.str s35,iv n36,iv n37,iv n38,v39])/\∃(n40:Int) (s41:List UInt8) (n42 n43 n44:Int) (v45:qa),ldN H2 6 (.ptr i18 0)=some (.agg [iv n40,.str s41,iv n42,iv n43,iv n44,v45])/\
   ∃H46,H46=qo n2 [iv n28,.str s29,iv n30,iv n31,iv n32,v33,iv n34,.str s35,iv n36,iv n37,iv n38,v39,iv n40,.str s41,iv n42,iv n43,iv n44,v45] H2/\∃i47 l48,zJ 6 H46 o=some (i47,l48)/\qq l48=true/\∃v49 H50 i51,zt H46 (n2+1) 6 72 (.slice n2 0 3 6 true) i47 l48=some (v49,H50,i51)/\
   ∃v52,some (u0 n1 5)=some v52/\qI v49=true/\∃H53,stC H50 v52 [v49]=some H53/\∃(n54:Int) (s55:List UInt8) (n56 n57 n58:Int) (v59:qa),ldN H53 6 (.ptr n1 0)=some (.agg [iv n54,.str s55,iv n56,iv n57,iv n58,v59])/\∃H60,stC H53 (.ptr nx0 0) [iv n54,.str s55,iv n56,iv n57,iv n58,v59]=some H60/\
   ∃(n61:Int) (s62:List UInt8) (n63 n64 n65:Int) (v66:qa),ldN H60 6 (.ptr nx0 0)=some (.agg [iv n61,.str s62,iv n63,iv n64,iv n65,v66])/\K (.ret (.agg [iv n61,.str s62,iv n63,iv n64,iv n65,v66])) H60 i51:=by
  intro c bad i6 i18 yk ys yn yl yc yw yts zk zs zn zl zc zw zts F3 H2 n2 g2 p hy hz s3 hR;refine⟨_,_,_,_,_,_,p.ldAll (.tl (.tl .hd)) rfl,_,_,_,_,_,_,p.ldAll (.tl .hd) rfl,_,_,_,_,_,_,p.ldAll .hd rfl,p.newF lR λH3 p3=> ?_⟩
  have p4:=p3.add (P:=vd [iv rk,.str rs,iv rn,iv rl,iv rc,rw_,iv yk,.str ys,iv yn,iv yl,iv yc,yw,iv zk,.str zs,iv zn,iv zl,iv zc,zw] [.node rk rs rn rl rc rts,.node yk ys yn yl yc yts,.node zk zs zn zl zc zts]) λΓ q=>qii (q _ (List.mem_append.2 (.inl (.tail _ (s3 hrw))))) (q _ (List.mem_append.2 (.inl (.tail _ hy)))) (q _ (List.mem_append.2 (.inl (.tail _ hz))))
  refine p4.appAll (t1:=[.node rk rs rn rl rc rts,.node yk ys yn yl yc yts,.node zk zs zn zl zc zts]) (.tail _ (.head _)) (.head _) (.tail _ (.tail _ (s3 ho))) rfl (by simp) (by simp;omega) λv2 H15 n15 g15 p16 hv2=>⟨_,rfl,hv2,p16.one (.tl (.tl (.tl .hd))) (by simp) hv2 λH16 p17=>rb6 p17 (.tl (.tl (.tl .hd))) (.tl (.tl (.tl (.tl .hd)))) rfl hv2 λH18 p18=> ?_⟩
  cases bad with
  |none=>exact hK.ok hR p18 hv2 (m:= .head _) (ss:=λP hP=> .tail _ (.tail _ (.tail _ (s3 (hF hP)))))
  |some f=>exact hK.no _ hR p18 hv2 (m:= .head _) (ss:=λP hP=> .tail _ (.tail _ (.tail _ (s3 (hF hP)))))
 cases bad with
 |some f=>
  exact ja V2 p λc yk ys yn yl yc yw yts H5 n5 g5 p5 yw'=>⟨_,_,_,_,_,_,rfl,p5.new lR λH6 p6=>p6.all .hd rfl (jg yw') λH7 p7=>ja (yM W) p7 λc zk zs zn zl zc zw zts H8 n8 g8 p8 zw'=>⟨_,_,_,_,_,_,rfl,p8.new lR λH9 p9=>p9.all .hd rfl (jg zw') λH10 p10=>fin (by omega) p10 (.tail _ (.head _)) (.head _) (λP hP=> .tail _ (.tail _ hP)) hR⟩⟩
 |none=>
  refine jE (Xl W n) hR p (λyk ys yn yl yc yw yts c H5 n5 hr g5 p5 yw'=>⟨_,_,_,_,_,_,rfl,p5.new lR λH6 p6=>p6.all .hd rfl (jg yw') λH7 p7=> ?_⟩) λf c yk ys yn yl yc yw yts H5 n5 hr g5 p5 yw'=>⟨_,_,_,_,_,_,rfl,p5.new lR λH6 p6=>p6.all .hd rfl (jg yw') λH7 p7=>ja (yM W) p7 λc zk zs zn zl zc zw zts H8 n8 g8 p8 zw'=>⟨_,_,_,_,_,_,rfl,p8.new lR λH9 p9=>p9.all .hd rfl (jg zw') λH10 p10=>fin (by omega) p10 (.tail _ (.head _)) (.head _) (λP hP=> .tail _ (.tail _ hP)) hr⟩⟩
  refine jE (XQ W n).bl hr p7 (λzk zs zn zl zc zw zts c H8 n8 hr g8 p8 zw'=>⟨_,_,_,_,_,_,rfl,p8.new lR λH9 p9=>p9.all .hd rfl (jg zw') λH10 p10=>fin (by omega) p10 (.tail _ (.head _)) (.head _) (λP hP=> .tail _ (.tail _ hP)) (by cases hr;rfl)⟩) λf c zk zs zn zl zc zw zts H8 n8 hr g8 p8 zw'=>⟨_,_,_,_,_,_,rfl,p8.new lR λH9 p9=>p9.all .hd rfl (jg zw') λH10 p10=>fin (by omega) p10 (.tail _ (.head _)) (.head _) (λP hP=> .tail _ (.tail _ hP)) hr⟩
def qmv(l:List Tok)(n:Nat)(nm:List UInt8)(li co:Int)(rv:qu)(rr:Except Flt (List qu×Nat))(res:Except Flt (qu×Nat)):Prop:=
 (∀f,rr= .error f->res= .error f)/\∀ps c,rr= .ok (ps,c)->Rs.bind (we l n 0 c) (λ(y,e)=>Rs.bind (run l n .block 0 e) λ(body,f)=>Rs.ok (.node 6 nm 0 li co (rv::y::body::ps),f))=some res
theorem qbg(W:zj l){n n1 m nx0 Nf:Nat}{nm:List UInt8}{li co:Int}{rk:Int}{rs:List UInt8}{rn rl rc:Int}{rw_ o:qa}{rts:List qu}{rr:Except Flt (List qu×Nat)}
  (hst:Xc Z r tb l 0 ((m,[iv rk,.str rs,iv rn,iv rl,iv rc,rw_])::(n1,[iv 6,.str nm,iv 0,iv li,iv co,.nilSlice])::(nx0,[iv 0,.str [],iv 0,iv 0,iv 0,.nilSlice])::A) F2 (run l n .param 0) Nf rr o H nx) (hx:nx0<=nx) (hrw:Kids rw_ rts∈F2) (hF:F⊆F2)
  (hrel:qmv l n nm li co (.node rk rs rn rl rc rts) rr res) (hK:vu Z r tb l 0 A F nx0 K res) {env:Env} (he:ql (qj .und [(6,o),(4,.ptr m 0),(3,.ptr n1 0),(2,.ptr nx0 0),(0,.ptr r 0)]) env):
  LpP PG 65 (qn (qe PG zH) [1,1,1,1,1,1,1,1,0,1,0,1,0,0]) env H nx [] none (qx PG (qk PG) (LpP PG 65) 65 (qe PG zH) [1,1,1,1,1,1,1,1,0,1,0,1,0] (qy PG (zx (qB PG)) (qS PG (qB PG)) K (qF PG zH))):=by
 refine zu (P:=PG) (X:=qa) (Y:=qa) (λo=>qj .und [(6,o),(4,.ptr m 0),(3,.ptr n1 0),(2,.ptr nx0 0),(0,.ptr r 0)]) (λo=>qj .und [(6,o),(4,.ptr m 0),(3,.ptr n1 0),(2,.ptr nx0 0),(0,.ptr r 0)])
  (λNf o H1 nx1=>nx<=nx1/\Xc Z r tb l 0 ((m,[iv rk,.str rs,iv rn,iv rl,iv rc,rw_])::(n1,[iv 6,.str nm,iv 0,iv li,iv co,.nilSlice])::(nx0,[iv 0,.str [],iv 0,iv 0,iv 0,.nilSlice])::A) F2 (run l n .param 0) Nf rr o H1 nx1)
  (λid o H1 nx1=>id=0/\nx<=nx1/\qbk Z r tb l 0 ((m,[iv rk,.str rs,iv rn,iv rl,iv rc,rw_])::(n1,[iv 6,.str nm,iv 0,iv li,iv co,.nilSlice])::(nx0,[iv 0,.str [],iv 0,iv 0,iv 0,.nilSlice])::A) F2 rr o H1 nx1) Nf o he ⟨Nat.le_refl _,hst⟩ ?_ ?_
 ·rintro Nf o H2 n2 ⟨g2,hst⟩
  refine WpP.part (ts:=[0,2,3,4,6]) qr ?_
  rw [qoc];exact YM W (qam W n) (wb rfl) hst (λN' v H' n' h1 g h=>⟨rfl,N',v,h1,ql.okay,by omega,h⟩) λH' n' g h=>⟨rfl,o,ql.okay,rfl,by omega,h⟩
 ·rintro id o H2 n2 ⟨rfl,g2,b,bad,us,F3,p3,hc,s3,few2,hR⟩
  rw [qkz];cases bad with
  |some f=>exact zd p3 (qb.2 (qe2 (n:=0) W p3 (by omega) (.tail _ (s3 hrw)) (.head _) few2 (λP hP=> .tail _ (s3 (hF hP))) (hrel.1 _ hR) hK))
  |none=>
   refine zo W p3 (λhno H4 n4 g4 p4=>qb.2 (qe2 (n:=0) W p4 (by omega) (.tail _ (s3 hrw)) (.head _) few2 (λP hP=> .tail _ (s3 (hF hP))) (hrel.1 _ ?_) hK)) λhyes H4 n4 g4 p4=>qb.2 (qe2 (n:=n) W p4 (by omega) (.tail _ (s3 hrw)) (.head _) few2 (λP hP=> .tail _ (s3 (hF hP))) (hrel.2 _ _ ?_) hK)
   ·simp [need,hno,lift]at hR;exact hR.symm
   ·simp [need,hyes,lift,Rs.ok]at hR;exact hR.symm
def qnz(r n1 m nx0:Nat)(K:qv)(env:List UInt8->qa->qa->Bool->Nat->Int->List UInt8->Int->Int->Int->qa->qa->Env)(H:qd)(nx:Nat)(q1 q2 q3 q4 q5 q6 q7:List (qa×Bool)->qd->Nat->Prop):Prop:=
 qk PG jn [.ptr r 0] H nx λe H1 i1=>qc e (λv77=>∃s78,v77= .str s78/\∃v79,some (u0 n1 1)=some v79/\true=true/\∃H80,stC H1 v79 [.str s78]=some H80/\qk PG qL [.ptr r 0,.str [40]] H80 i1 λe81 H82 i83=>qc e81 (λv84=>qk PG za [.ptr r 0,.str [41]] H82 i83 λe85 H86 i87=>qc e85 (λv88=>∃b89,v88= .bool b89/\
  ifB (!b89) (qk PG vg [.ptr r 0] H86 i87 λe90 H91 i92=>qc e90 (λv93=>∃(n94:Int) (s95:List UInt8) (n96 n97 n98:Int) (v99:qa),v93= .agg [iv n94,.str s95,iv n96,iv n97,iv n98,v99]/\∃H100,H100=qo i92 [iv n94,.str s95,iv n96,iv n97,iv n98,v99] H91/\∃i101 l102,zJ 6 H100 (.slice i92 0 1 6 true)=some (i101,l102)/\qq l102=true/\∃v103 H104 i105,zt H100 (i92+1) 6 72 .nilSlice i101 l102=some (v103,H104,i105)/\
    LpP PG 65 (qn (qe PG zH) [1,1,1,1,1,1,1,1,0,1,0,1,0,0]) (env s78 v79 v84 b89 i92 n94 s95 n96 n97 n98 v99 v103) H104 i105 [] none (qx PG (qk PG) (LpP PG 65) 65 (qe PG zH) [1,1,1,1,1,1,1,1,0,1,0,1,0] (qy PG (zx (qB PG)) (qS PG (qB PG)) K (qF PG zH)))) λl=>q1 l H91 i92)
   (qk PG qL [.ptr r 0,.str [41]] H86 i87 λe107 H108 i109=>qc e107 (λ_=>qk0 r n1 m nx0 .nilSlice K H108 i109 q2 q3) λl=>q4 l H108 i109)) λl=>q5 l H86 i87) λl=>q6 l H82 i83) λl=>q7 l H1 i1
theorem Jx(W:zj l){n n1 m nx0 c:Nat}{li co:Int}{rk:Int}{rs:List UInt8}{rn rl rc:Int}{rw_:qa}{rts:List qu}{env:List UInt8->qa->qa->Bool->Nat->Int->List UInt8->Int->Int->Int->qa->qa->Env}{q1 q2 q3 q4 q5 q6 q7:List (qa×Bool)->qd->Nat->Prop}
  (p:PS Z r tb l c bad 0 ((m,[iv rk,.str rs,iv rn,iv rl,iv rc,rw_])::(n1,[iv 6,.str [],iv 0,iv li,iv co,.nilSlice])::(nx0,[iv 0,.str [],iv 0,iv 0,iv 0,.nilSlice])::A) F2 H nx) (hx:nx0<=nx) (hrw:Kids rw_ rts∈F2) (hF:F⊆F2)
  (hR:match bad with|none=>lift (name l c) (λe=>Rs.bind (row l (run l n .param 0) n e) λ(ps,d)=>Rs.bind (we l n 0 d) λ(y,e)=>Rs.bind (run l n .block 0 e) λ(body,f)=>Rs.ok (.node 6 (tk l c).text 0 li co (.node rk rs rn rl rc rts::y::body::ps),f))=some res|some f=>res= .error f)
  (hK:vu Z r tb l 0 A F nx0 K res) (he:∀s78 v79 v84 b89 i92 n94 s95 n96 n97 n98 v99 v103,ql (qj .und [(6,v103),(4,.ptr m 0),(3,.ptr n1 0),(2,.ptr nx0 0),(0,.ptr r 0)]) (env s78 v79 v84 b89 i92 n94 s95 n96 n97 n98 v99 v103)):qnz r n1 m nx0 K env H nx q1 q2 q3 q4 q5 q6 q7:=by
 have hadv:AdvOK (run l n .param 0):=wb rfl
 have off:∀{c f nm H8 n8},nx0<=n8->PS Z r tb l c (some f) 0 ((m,[iv rk,.str rs,iv rn,iv rl,iv rc,rw_])::(n1,[iv 6,.str nm,iv 0,iv li,iv co,.nilSlice])::(nx0,[iv 0,.str [],iv 0,iv 0,iv 0,.nilSlice])::A) F2 H8 n8->res= .error f->
   ∀s78 v79 v84,qk PG za [.ptr r 0,.str [41]] H8 n8 λe85 H86 i87=>qc e85 (λv88=>∃b89,v88= .bool b89/\
  ifB (!b89) (qk PG vg [.ptr r 0] H86 i87 λe90 H91 i92=>qc e90 (λv93=>∃(n94:Int) (s95:List UInt8) (n96 n97 n98:Int) (v99:qa),v93= .agg [iv n94,.str s95,iv n96,iv n97,iv n98,v99]/\∃H100,H100=qo i92 [iv n94,.str s95,iv n96,iv n97,iv n98,v99] H91/\∃i101 l102,zJ 6 H100 (.slice i92 0 1 6 true)=some (i101,l102)/\qq l102=true/\∃v103 H104 i105,zt H100 (i92+1) 6 72 .nilSlice i101 l102=some (v103,H104,i105)/\
    LpP PG 65 (qn (qe PG zH) [1,1,1,1,1,1,1,1,0,1,0,1,0,0]) (env s78 v79 v84 b89 i92 n94 s95 n96 n97 n98 v99 v103) H104 i105 [] none (qx PG (qk PG) (LpP PG 65) 65 (qe PG zH) [1,1,1,1,1,1,1,1,0,1,0,1,0] (qy PG (zx (qB PG)) (qS PG (qB PG)) K (qF PG zH)))) λl=>q1 l H91 i92)
   (qk PG qL [.ptr r 0,.str [41]] H86 i87 λe107 H108 i109=>qc e107 (λ_=>qk0 r n1 m nx0 .nilSlice K H108 i109 q2 q3) λl=>q4 l H108 i109)) λl=>q5 l H86 i87:=by
  intro c f nm H8 n8 g8 p8 hR s78 v79 v84;refine ris p8 λH10 n10 g10 p10=>qb.2 ⟨_,rfl,qK rfl (ja qfy p10 λc k s nn li' co' w us H11 n11 g11 p11 hw=>⟨_,_,_,_,_,_,rfl,p11.newF lR λH12 p12=>OB.app1 p12 z0.nil .hd (.head _) (.tail _ (.head _)) hw (by simp) λv H13 G' F' gr' sf hv p13=> ?_⟩)⟩
  exact qbg (n:=0) (Nf:=0) (rr:= .error f) W ⟨_,some _,_,G',F',p13,gr',λ_ h=>h,by simp,rfl⟩ (by omega) (sf (.tail _ (.tail _ hrw))) (λP hP=>sf (.tail _ (.tail _ (hF hP)))) ⟨λf e=>by cases e;exact hR,λps c e=>by cases e⟩ hK (he _ _ _ _ _ _ _ _ _ _ _ _)
 cases bad with
 |some f=>exact Z5 p (qb.2 ⟨_,rfl,_,rfl,rfl,p.one (.tl .hd) (by simp) rfl λH9 p9=>zd p9 (qb.2 (off hx p9 hR _ _ _))⟩)
 |none=>
 refine vO W p (λhno H7 n7 g7 p7=>qb.2 ⟨_,rfl,_,rfl,rfl,p7.one (.tl .hd) (by simp) rfl λH9 p9=>zd p9 (qb.2 (off (by omega) p9 ?_ _ _ _))⟩) λhyes H7 n7 g7 p7=>qb.2 ⟨_,rfl,_,rfl,rfl,p7.one (.tl .hd) (by simp) rfl λH9 p9=> ?_⟩
 ·simp [name,hno,lift]at hR
  exact hR.symm
 simp only [name,hyes,lift,beq_self_eq_true,if_true]at hR
 unfold row at hR;refine zo W p9 (λhno H10 n10 g10 p10=>qb.2 (off (by omega) p10 ?_ _ _ _)) λhyes2 H10 n10 g10 p10=>qb.2 (ris p10 λH11 n11 g11 p11=>qb.2 ⟨_,rfl,qi.2 ⟨λh11=> ?_,λh11=> ?_⟩⟩)
 ·simp [need,hno,lift,Rs.bind]at hR
  exact hR.symm
 ·have h11:is l (c+1+1) [41]=false:=by simpa [isR]using h11
  simp only [need,hyes2,lift,if_true,h11,Bool.false_eq_true,if_false]at hR
  have hrel:∃rr,rowGo l (run l n .param 0) n (c+1+1)=some rr/\qmv l n (tk l c).text li co (.node rk rs rn rl rc rts) rr res:=by
   rcases Ps.bind_some hR with⟨e,e1,e2⟩|⟨⟨us0,c0⟩,e1,e2⟩
   ·exact⟨_,e1,λf e=>by cases e;exact e2,λps c e=>by cases e⟩
   ·exact⟨_,e1,λf e=>(by cases e),λps c e=>by cases e;exact e2⟩
  obtain⟨rr,e1,hrel⟩:=hrel
  obtain⟨n',rfl⟩:∃n',n=n'+1:=by
   cases n with
   |zero=>simp [rowGo]at e1
   |succ n'=>exact⟨n',rfl⟩
  rw [vH]at e1;refine wi (qam W (n'+1)) e1 p11 (λk s nn li' co' w us c H12 n12 hx' hr g12 p12 hw=>⟨_,_,_,_,_,_,rfl,p12.newF lR λH13 p13=>OB.app1 p13 z0.nil .hd (.head _) (.tail _ (.head _)) hw (by simp) λv H14 G' F' gr' sf hv p14=> ?_⟩) λf c k s nn li' co' w us H12 n12 hr g12 p12 hw=>⟨_,_,_,_,_,_,rfl,p12.newF lR λH13 p13=>OB.app1 p13 z0.nil .hd (.head _) (.tail _ (.head _)) hw (by simp) λv H14 G' F' gr' sf hv p14=> ?_⟩
  ·have hac:=hadv _ _ _ hx'
   exact qbg (n:=n'+1) (Nf:=n') (rr:=rr) W ⟨c,none,_,G',F',p14,gr',λ_ h=>h,by simp,by simp;omega,by simpa using hr⟩ (by omega) (sf (.tail _ (.tail _ hrw))) (λP hP=>sf (.tail _ (.tail _ (hF hP)))) hrel hK (he _ _ _ _ _ _ _ _ _ _ _ _)
  ·exact qbg (n:=n'+1) (Nf:=n') (rr:=rr) W ⟨c,some f,_,G',F',p14,gr',λ_ h=>h,by simp,hr⟩ (by omega) (sf (.tail _ (.tail _ hrw))) (λP hP=>sf (.tail _ (.tail _ (hF hP)))) hrel hK (he _ _ _ _ _ _ _ _ _ _ _ _)
 ·have h11:is l (c+1+1) [41]=true:=by simpa [isR]using h11
  simp only [need,hyes2,lift,if_true,h11]at hR
  rw [kq]at hR;refine zo W p11 (λhno=>by rw [h11]at hno;cases hno) λ_ H12 n12 g12 p12=>qb.2 ?_
  exact qe2 (n:=n) (ps:=[]) W (OB.zero p12) (by omega) (.tail _ hrw) (.head _) (by simp) (λP hP=> .tail _ (hF hP)) hR hK
theorem ZY(W:zj l){n:Nat}(hrun:funcDecl l n a=some res)(h:PS Z r tb l a none 0 A F H nx)(hK:vu Z r tb l 0 A F nx K res):qk PG zH [.ptr r 0] H nx K:=by
 refine qk.of_body qr ?_
 rw [Kw];unfold funcDecl at hrun;refine h.new lR λH0 p0=>kS p0 λH1 n1 g1 p1=>qb.2 ⟨_,_,_,_,_,_,rfl,p1.new lR λH2 p2=>p2.all .hd rfl rfl λH3 p3=>zo W p3 (λhno H4 n4 g4 p4=>qb.2 ⟨rfl,p4.new lR λH5 p5=>p5.all .hd rfl rfl λH6 p6=>kA W p6 (λ_ H7 n7 g7 p7=>qb.2 ⟨_,rfl,qH rfl ?_⟩) λe=>(by cases e)⟩) λhyes H4 n4 g4 p4=>qb.2 ⟨rfl,p4.new lR λH5 p5=>p5.all .hd rfl rfl λH6 p6=>kA W p6 (λh7 H7 n7 g7 p7=>qb.2 ⟨_,rfl,qH rfl ?_⟩) λ_ h7 H7 n7 g7 p7=>qb.2 ⟨_,rfl,qK rfl ?_⟩⟩⟩
 ·have hno:is l a wFunc=false:=hno
  simp [need,hno,lift]at hrun
  exact Jx (n:=0) (rts:=[]) W (OB.zero p7) (by omega) (.head _) (λP hP=> .tail _ hP) hrun.symm hK λ_ _ _ _ _ _ _ _ _ _ _ _=>ql.okay
 ·have hyes:is l a wFunc=true:=hyes
  have h7:is l (a+1) [40]=false:=h7
  simp only [need,hyes,lift,if_true,recv,h7,Bool.false_eq_true,if_false]at hrun
  exact Jx (n:=n) (rts:=[]) W (OB.zero p7) (by omega) (.head _) (λP hP=> .tail _ hP) hrun hK λ_ _ _ _ _ _ _ _ _ _ _ _=>ql.okay
 ·have hyes:is l a wFunc=true:=hyes
  simp only [need,hyes,lift,if_true,recv,h7]at hrun
  refine kS p7 λH8 n8 g8 p8=>qb.2 ⟨_,_,_,_,_,_,rfl,p8.all .hd rfl rfl λH9 p9=>vO W p9 (λhno H10 n10 g10 p10=>qb.2 ⟨_,rfl,_,rfl,rfl,p10.one .hd (by simp) rfl λH11 p11=>kS p11 λH12 n12 g12 p12=>qb.2 ⟨_,_,_,_,_,_,rfl,p12.new lR λH13 p13=>p13.all .hd rfl rfl λH14 p14=>Z5 p14 (qb.2 ⟨_,rfl,_,rfl,rfl,p14.one .hd (by simp) rfl λH15 p15=>⟨_,_,_,_,_,_,p15.ldAll .hd rfl,p15.newF lR λH16 p16=>⟨_,rfl,rfl,p16.one (.tl .hd) (by simp) rfl λH17 p17=>zd p17 (qb.2 ?_)⟩⟩⟩)⟩⟩)
   λhyes2 H10 n10 g10 p10=>qb.2 ⟨_,rfl,_,rfl,rfl,p10.one .hd (by simp) rfl λH11 p11=>kS p11 λH12 n12 g12 p12=>qb.2 ⟨_,_,_,_,_,_,rfl,p12.new lR λH13 p13=>p13.all .hd rfl rfl λH14 p14=>vO W p14 (λhno H15 n15 g15 p15=>qb.2 ⟨_,rfl,_,rfl,rfl,p15.one .hd (by simp) rfl λH16 p16=>⟨_,_,_,_,_,_,p16.ldAll .hd rfl,p16.newF lR λH17 p17=>⟨_,rfl,rfl,p17.one (.tl .hd) (by simp) rfl λH18 p18=>zd p18 (qb.2 ?_)⟩⟩⟩)
    λhyes3 H15 n15 g15 p15=>qb.2 ⟨_,rfl,_,rfl,rfl,p15.one .hd (by simp) rfl λH16 p16=>⟨_,_,_,_,_,_,p16.ldAll .hd rfl,p16.newF lR λH17 p17=>⟨_,rfl,rfl,p17.one (.tl .hd) (by simp) rfl λH18 p18=>zo W p18 (λhno H19 n19 g19 p19=>qb.2 ?_) λhyes4 H19 n19 g19 p19=>qb.2 ?_⟩⟩⟩⟩⟩⟩
  ·simp [name,hno,bind,Except.bind]at hrun
   have p18:=(OB.zero p17).add (P:=Kids (.slice (n12+1) 0 1 6 true) [.node 8 [] 0 (tk l (a+1+1)).line (tk l (a+1+1)).col []]) λΓ q=>jS (q _ (.tail _ (.head _))) (q _ (.head _))
   exact Jx (n:=0) W (p18.fin (.cons _ (.refl _)) (λ_ h=>h)) (by omega) (.head _) (λP hP=> .tail _ (.tail _ (.tail _ hP))) hrun.symm hK λ_ _ _ _ _ _ _ _ _ _ _ _=>ql.okay
  ·simp [name,hyes2,hno,bind,Except.bind]at hrun
   have p19:=(OB.zero p18).add (P:=Kids (.slice n15 0 1 6 true) [.node 8 [] 0 (tk l (a+1+1+1)).line (tk l (a+1+1+1)).col []]) λΓ q=>jS (q _ (.tail _ (.head _))) (q _ (.head _))
   exact Jx (n:=0) W (p19.fin (.cons _ (.refl _)) (λ_ h=>h)) (by omega) (.head _) (λP hP=> .tail _ (.tail _ (.tail _ hP))) hrun.symm hK λ_ _ _ _ _ _ _ _ _ _ _ _=>ql.okay
  ·simp [name,hyes2,hyes3,hno,need,bind,Except.bind]at hrun
   have p20:=(OB.zero p19).add (P:=Kids (.slice n15 0 1 6 true) [.node 8 (tk l (a+1+1+1)).text 0 (tk l (a+1+1+1)).line (tk l (a+1+1+1)).col []]) λΓ q=>jS (q _ (.tail _ (.head _))) (q _ (.head _))
   exact Jx (n:=0) W (p20.fin (.cons _ (.refl _)) (λ_ h=>h)) (by omega) (.head _) (λP hP=> .tail _ (.tail _ (.tail _ hP))) hrun.symm hK λ_ _ _ _ _ _ _ _ _ _ _ _=>ql.okay
  ·simp only [name,hyes2,hyes3,hyes4,need,bind,Except.bind,beq_self_eq_true,if_true]at hrun
   have p20:=(OB.zero p19).add (P:=Kids (.slice n15 0 1 6 true) [.node 8 (tk l (a+1+1+1)).text 0 (tk l (a+1+1+1)).line (tk l (a+1+1+1)).col []]) λΓ q=>jS (q _ (.tail _ (.head _))) (q _ (.head _))
   exact Jx (n:=n) W (p20.fin (.cons _ (.refl _)) (λ_ h=>h)) (by omega) (.head _) (λP hP=> .tail _ (.tail _ (.tail _ hP))) hrun hK λ_ _ _ _ _ _ _ _ _ _ _ _=>ql.okay
end
end
end Go.Vs
end
