/-
  Own work. Texts of a proof, laid together; no condition.
-/
import Derived.Test.YtjjhihcgiogjjaaGreatDoorPbt6
import Derived.Test.YtjjhihcgiogjjaaGreatDoorPbt4
import Derived.Test.YtjjhihcgiogjjaaGreatDoorPbt5
import Derived.Test.YtjjhihcgiogjjaaGreatDoorPbt2
set_option linter.unusedSectionVars false
set_option linter.unusedVariables false
set_option linter.unusedSimpArgs false
set_option maxRecDepth 1000000
open Go.Vs.qa renaming ptr → u0, str → u3, agg → u4, bool → u5, nilSlice → u6, tuple → u7, und → u9
open Go.Vs.qh renaming pan → U0, ret → U1
open Go.IntKind (i64)
section
namespace Go.Vs
open Go.Proofs Ps
variable [GTab] {Z:Nat->Prop}
noncomputable section
def FSt(Z:Nat->Prop)(r tb:Nat)(l:List Tok)(B:qN)(F:qU)(li co:Int)(nb N M:Nat)(res:Except Flt qu)(H:qd)(nx:Nat):Prop:=
 ∃o b bad ts G F2,PS Z r tb l b bad 0 (G++(nb,[iv 1,.str [],iv 0,iv li,iv co,o])::B) F2 H nx/\z0 o ts G F2/\F⊆F2/\ts.length<=5000/\(match bad with|none=>ts.length<=b/\Rs.bind (declsGo l N M b) (λxs=>Rs.ok (.node 1 [] 0 li co (ts++xs)))=some res|some f=>res= .error f)
def qkb(Z:Nat->Prop)(r tb:Nat)(l:List Tok)(B:qN)(F:qU)(li co:Int)(nb:Nat)(res:Except Flt qu)(H:qd)(nx:Nat):Prop:=
 ∃o b bad ts F2,PS Z r tb l b bad 0 ((nb,[iv 1,.str [],iv 0,iv li,iv co,o])::B) (Kids o ts::F2) H nx/\qI o=true/\F⊆F2/\(match bad with|none=>res= .ok (.node 1 [] 0 li co ts)|some f=>res= .error f)
section
variable{r tb:Nat}{l:List Tok}{a d:Nat}{bad:Option Flt}{A A1 A' B G:qN}{F F2:qU}{H:qd}{nx:Nat}{K:qv}{res:Except Flt qu}{I:List qa->Prop}{E:qU}{o:qa}
theorem gapsS(ha:a<l.length)(h1:is l a [59]=true):gaps l a=gaps l (a+1):=by
 unfold gaps;rw [show l.length - a=(l.length - (a+1))+1 by omega]
 conv=>lhs;unfold gapsN
 rw [h1];rfl
theorem fl1(W:zj l){i j n:Nat}{C:KP}(h:PS Z r tb l a bad d A F H nx)(hK:∀b H' nx',(bad=none->b=gaps l a)->nx<=nx'->PS Z r tb l b bad d A F H' nx'->C (.exit 0) (qj .und [(9,.ptr n 0),(8,.ptr r 0),(3,.ptr j 0),(2,.ptr i 0)]) H' nx' [] none){env:Env}(he:ql (qj .und [(9,.ptr n 0),(8,.ptr r 0),(3,.ptr j 0),(2,.ptr i 0)]) env):
  LpP PG 87 (qn (qe PG jA) [1,1,1,1,1,0,0,0]) env H nx [] none C:=by
 refine zu (P:=PG) (X:=Nat) (Y:=Unit) (λ_=>qj .und [(9,.ptr n 0),(8,.ptr r 0),(3,.ptr j 0),(2,.ptr i 0)]) (λ_=>qj .und [(9,.ptr n 0),(8,.ptr r 0),(3,.ptr j 0),(2,.ptr i 0)])
  (λm b H1 nx1=>nx<=nx1/\PS Z r tb l b bad d A F H1 nx1/\m=l.length - b/\(bad=none->gapsN l m b=gaps l a))
  (λid _ H1 nx1=>id=0/\nx<=nx1/\∃b,PS Z r tb l b bad d A F H1 nx1/\(bad=none->b=gaps l a)) (l.length - a) a he ⟨Nat.le_refl _,h,rfl,λ_=>rfl⟩ ?_ ?_
 ·rintro m b H1 nx1 ⟨h1,p1,rfl,hg⟩
  refine WpP.part (ts:=[2,3,8,9]) qr ?_
  rw [qna];have hlt:=PS.lt p1
  obtain⟨m,hm⟩:∃m,l.length - b=m+1:=⟨l.length - b - 1,by omega⟩
  refine kA W p1 (λhq H2 nx2 h2 p2=>qb.2 ⟨_,rfl,qH rfl ?_⟩) λhb hq H2 nx2 h2 p2=>qb.2 ⟨_,rfl,qK rfl ?_⟩
  ·refine⟨rfl,(),ql.okay,rfl,by omega,b,p2,λhb=> ?_⟩
   subst hb;rw [<-hg rfl,hm];unfold gapsN;rw [show is l b [59]=false from hq];rfl
  ·subst hb;refine⟨rfl,_,b+1,Nat.sub_lt_sub_left hlt (Nat.lt_succ_self b),ql.okay,by omega,p2,rfl,λ_=> ?_⟩
   rw [<-hg rfl,hm];rw [show l.length - (b+1)=m by omega]
   conv=>rhs;unfold gapsN
   rw [hq];rfl
 ·rintro id _ H1 nx1 ⟨rfl,h1,b,p1,hb⟩
  exact hK _ _ _ hb h1 p1
theorem fl2(W:zj l){i j n:Nat}{C:KP}(h:PS Z r tb l a bad d A F H nx)(hK:∀b H' nx',(bad=none->b=gaps l a)->nx<=nx'->PS Z r tb l b bad d A F H' nx'->C (.exit 5) (qj .und [(9,.ptr n 0),(8,.ptr r 0),(3,.ptr j 0),(2,.ptr i 0)]) H' nx' [] none){env:Env}(he:ql (qj .und [(9,.ptr n 0),(8,.ptr r 0),(3,.ptr j 0),(2,.ptr i 0)]) env):
  LpP PG 87 (qn (qn (qe PG jA) [1,1,1,1,1,1,0,0,0]) [1,0,1,1,0,0]) env H nx [] none C:=by
 refine zu (P:=PG) (X:=Nat) (Y:=Unit) (λ_=>qj .und [(9,.ptr n 0),(8,.ptr r 0),(3,.ptr j 0),(2,.ptr i 0)]) (λ_=>qj .und [(9,.ptr n 0),(8,.ptr r 0),(3,.ptr j 0),(2,.ptr i 0)])
  (λm b H1 nx1=>nx<=nx1/\PS Z r tb l b bad d A F H1 nx1/\m=l.length - b/\(bad=none->gapsN l m b=gaps l a))
  (λid _ H1 nx1=>id=5/\nx<=nx1/\∃b,PS Z r tb l b bad d A F H1 nx1/\(bad=none->b=gaps l a)) (l.length - a) a he ⟨Nat.le_refl _,h,rfl,λ_=>rfl⟩ ?_ ?_
 ·rintro m b H1 nx1 ⟨h1,p1,rfl,hg⟩
  refine WpP.part (ts:=[2,3,8,9]) qr ?_
  show vK PG _ _ 87 (qn (qe PG 9) [1,1,1,1,1,1,0,0,0,1,0,1,1,0,0]) _ _ _ _ _ _
  rw [qln];have hlt:=PS.lt p1
  obtain⟨m,hm⟩:∃m,l.length - b=m+1:=⟨l.length - b - 1,by omega⟩
  refine kA W p1 (λhq H2 nx2 h2 p2=>qb.2 ⟨_,rfl,qH rfl ?_⟩) λhb hq H2 nx2 h2 p2=>qb.2 ⟨_,rfl,qK rfl ?_⟩
  ·refine⟨rfl,(),ql.okay,rfl,by omega,b,p2,λhb=> ?_⟩
   subst hb;rw [<-hg rfl,hm];unfold gapsN;rw [show is l b [59]=false from hq];rfl
  ·subst hb;refine⟨rfl,_,b+1,Nat.sub_lt_sub_left hlt (Nat.lt_succ_self b),ql.okay,by omega,p2,rfl,λ_=> ?_⟩
   rw [<-hg rfl,hm];rw [show l.length - (b+1)=m by omega]
   conv=>rhs;unfold gapsN
   rw [hq];rfl
 ·rintro id _ H1 nx1 ⟨rfl,h1,b,p1,hb⟩
  exact hK _ _ _ hb h1 p1
def qki(r:Nat)(e1:Bool->Bool->qa->Env)(e2:Bool->Bool->Env)(e3:Bool->Env)(C:KP)(H:qd)(nx:Nat)(q1 q2 q3:List (qa×Bool)->qd->Nat->Prop):Prop:=
 qk PG jo [.ptr r 0] H nx λe H1 i1=>qc e (λv44=>∃b45,v44= .bool b45/\ifB b45 (qk PG za [.ptr r 0,.str [59]] H1 i1 λe H2 i2=>qc e (λv49=>∃b50,v49= .bool b50/\
  ifB (!b50) (qk PG jm [.ptr r 0,iv 13] H2 i2 λe H3 i3=>qc e (λv54=>LpP PG 87 (qn (qn (qe PG jA) [1,1,1,1,1,1,0,0,0]) [1,0,1,1,0,0]) (e1 b45 b50 v54) H3 i3 [] none C) λl=>q1 l H3 i3)
   (LpP PG 87 (qn (qn (qe PG jA) [1,1,1,1,1,1,0,0,0]) [1,0,1,1,0,0]) (e2 b45 b50) H2 i2 [] none C)) λl=>q2 l H2 i2)
  (LpP PG 87 (qn (qn (qe PG jA) [1,1,1,1,1,1,0,0,0]) [1,0,1,1,0,0]) (e3 b45) H1 i1 [] none C)) λl=>q3 l H1 i1
theorem KN(W:zj l){i j nb N M:Nat}{li co:Int}{ts:List qu}{x:qu}{c:Nat}{e1:Bool->Bool->qa->Env}{e2:Bool->Bool->Env}{e3:Bool->Env}{C:KP}{q1 q2 q3:List (qa×Bool)->qd->Nat->Prop}
  (p:PS Z r tb l c bad 0 (G++(nb,[iv 1,.str [],iv 0,iv li,iv co,o])::B) F2 H nx) (gr:z0 o (ts++[x]) G F2) (hF:F⊆F2) (few:ts.length<5000)
  (hR:match bad with|none=>ts.length+1<=c/\Rs.bind (lift (need l c [59]) λc'=>Rs.bind (declsGo l N M (gaps l c')) λxs=>Rs.ok (x::xs)) (λxs=>Rs.ok (.node 1 [] 0 li co (ts++xs)))=some res|some f=>res= .error f)
  (hN:∀H' n',nx<=n'->FSt Z r tb l B F li co nb N M res H' n'->C (.exit 5) (qj .und [(9,.ptr nb 0),(8,.ptr r 0),(3,.ptr j 0),(2,.ptr i 0)]) H' n' [] none)
  (h1:∀x y z,ql (qj .und [(9,.ptr nb 0),(8,.ptr r 0),(3,.ptr j 0),(2,.ptr i 0)]) (e1 x y z)) (h2:∀x y,ql (qj .und [(9,.ptr nb 0),(8,.ptr r 0),(3,.ptr j 0),(2,.ptr i 0)]) (e2 x y)) (h3:∀x,ql (qj .und [(9,.ptr nb 0),(8,.ptr r 0),(3,.ptr j 0),(2,.ptr i 0)]) (e3 x)):qki r e1 e2 e3 C H nx q1 q2 q3:=by
 cases bad with
 |some f=>exact ron p (qb.2 ⟨_,rfl,qH rfl (fl2 W p (λb H4 n4 hb g4 p4=>hN _ _ (by omega) ⟨o,b,some f,_,G,F2,p4,gr,hF,by simp;omega,hR⟩) (h3 _))⟩)
 |none=>
  obtain⟨hc,hR⟩:=hR
  have hl:=PS.lt p
  refine ron p (qb.2 ⟨_,rfl,qK rfl (ris p λH3 n3 g3 p3=>qb.2 ⟨_,rfl,qi.2 ⟨λh4=> ?_,λh4=> ?_⟩⟩)⟩)
  ·have h4:is l c [59]=false:=by simpa [isR]using h4
   simp [need,h4,lift,Rs.bind]at hR
   exact yQ (by decide) p3 λH5 n5 g5 p5=>qb.2 (fl2 W p5 (λb H6 n6 hb g6 p6=>hN _ _ (by omega) ⟨o,b,some _,_,G,F2,p6,gr,hF,by simp;omega,hR.symm⟩) (h1 _ _ _))
  ·have h4:is l c [59]=true:=by simpa [isR]using h4
   simp only [need,h4,lift,if_true]at hR
   rw [zV]at hR;refine fl2 W p3 (λb H6 n6 hb g6 p6=>hN _ _ (by omega) ⟨o,b,none,_,G,F2,p6,gr,hF,by simp;omega,?_,?_⟩) (h2 _ _)
   ·have:=hb rfl
    rw [gapsS hl h4]at this;have:=gaps_le l (c+1)
    simp;omega
   ·rw [hb rfl,gapsS hl h4];have e:∀xs:List qu,Rs.bind (Rs.ok (x::xs)) (λxs=>Rs.ok (qu.node 1 [] 0 li co (ts++xs)))=Rs.ok (qu.node 1 [] 0 li co ((ts++[x])++xs)):=λxs=>by simp [Rs.bind,Rs.ok]
    simp only [e]at hR
    exact hR
theorem Wl{n:Nat}{x:qu}{b:Nat}(h:typeDecl l n a=some (.ok (x,b))):a+1<=b:=by
 unfold typeDecl at h;refine lift_el h λa1 h1 h=>lift_el h λb1 h2 h=> ?_
 have:=(need_ok h1).2
 have:=(name_ok h2).2
 refine ite_el h (λ_ h=>bind_el h λxs c h3 h=>ok_el h λ_ e=> ?_) λ_ h=>lift_el h λb2 h4 h=>bind_el h λxs c h3 h=>ok_el h λ_ e=> ?_
 ·have:=list_adv (wb (n:=n) (d:=0) (l:=l) (rule:= .method) rfl) h3;omega
 ·have:=(need_ok h4).2
  have:=list_adv (wb (n:=n) (d:=0) (l:=l) (rule:= .field) rfl) h3;omega
theorem qfl{x:qu}{b:Nat}(h:recv l a= .ok (x,b)):a<=b:=by
 unfold recv at h;split at h
 ·cases h1:name l (a+1)with
  |error f=>rw [h1]at h;cases h
  |ok c=>
   cases h2:name l c with
   |error f=>rw [h1]at h;simp [bind,Except.bind,h2]at h
   |ok e=>
    cases h3:need l e [41]with
    |error f=>rw [h1]at h;simp [bind,Except.bind,h2,h3]at h
    |ok g=>
     rw [h1]at h;simp [bind,Except.bind,h2,h3]at h
     have:=(name_ok h1).2
     have:=(name_ok h2).2
     have:=(need_ok h3).2
     omega
 ·cases h;omega
theorem Wh{n:Nat}{x:qu}{b:Nat}(h:funcDecl l n a=some (.ok (x,b))):a+1<=b:=by
 unfold funcDecl at h;refine lift_el h λa1 h1 h=> ?_
 have:=(need_ok h1).2
 rcases WS h with⟨f,_,e⟩|⟨⟨rv,b1⟩,h2,h⟩
 ·cases e
 have:=qfl h2
 refine lift_el h λc h3 h=>bind_el h λps d h4 h=>bind_el h λy e h5 h=>bind_el h λbd g h6 h=>ok_el h λ_ e7=> ?_
 have:=(name_ok h3).2
 have:=row_adv (wb (n:=n) (d:=0) (l:=l) (rule:= .param) rfl) h4
 have:=VU (n:=n) (d:=0) h5
 have:=run_adv l n .block 0 e bd g h6
 unfold adv at this;omega
theorem fl3(W:zj l){i j nb N M:Nat}{li co:Int}{C:KP}(hst:FSt Z r tb l B F li co nb N M res H nx)
  (hK:∀H' nx',nx<=nx'->qkb Z r tb l B F li co nb res H' nx'->C (.exit 2) (qj .und [(9,.ptr nb 0),(8,.ptr r 0),(3,.ptr j 0),(2,.ptr i 0)]) H' nx' [] none) {env:Env} (he:ql (qj .und [(9,.ptr nb 0),(8,.ptr r 0),(3,.ptr j 0),(2,.ptr i 0)]) env):
  LpP PG 87 (qn (qe PG jA) [1,1,1,1,1,1,0,0,0]) env H nx [] none C:=by
 have hW:=W.few
 refine zu (P:=PG) (X:=Unit) (Y:=Unit) (λ_=>qj .und [(9,.ptr nb 0),(8,.ptr r 0),(3,.ptr j 0),(2,.ptr i 0)]) (λ_=>qj .und [(9,.ptr nb 0),(8,.ptr r 0),(3,.ptr j 0),(2,.ptr i 0)])
  (λm _ H1 nx1=>nx<=nx1/\FSt Z r tb l B F li co nb N m res H1 nx1)
  (λid _ H1 nx1=>id=2/\nx<=nx1/\qkb Z r tb l B F li co nb res H1 nx1) M () he ⟨Nat.le_refl _,hst⟩ ?_ ?_
 ·rintro m _ H2 n2 ⟨g2,o,b,bad,ts,G,F2,p2,gr,s2,few,hR⟩
  refine WpP.part (ts:=[2,3,8,9]) qr ?_
  rw [qnl];cases bad with
  |some f=>exact ron p2 (qb.2 ⟨_,rfl,qH rfl ⟨rfl,(),ql.okay,rfl,g2,o,b,some f,ts,F2,OB.grown p2 gr .hd,gr.cell,s2,hR⟩⟩)
  |none=>
  obtain⟨hlb,hR⟩:=hR
  cases m with
  |zero=>simp [declsGo,Rs.bind]at hR
  |succ m=>
  unfold declsGo at hR;have hb5:=PS.lt p2
  refine ron p2 (qb.2 ⟨_,rfl,qK rfl (QU p2 λH3 n3 g3 p3=>qb.2 ⟨_,_,_,_,_,rfl,qi.2 ⟨λh3=> ?_,λh3=> ?_⟩⟩)⟩)
  rotate_left
  ·have h3:(tk l b).kind=0:=by simpa using h3
   rw [if_pos (by simp [h3])]at hR
   refine⟨rfl,(),ql.okay,rfl,by omega,o,b,none,ts,F2,OB.grown p3 gr .hd,gr.cell,s2,?_⟩
   simp [Rs.bind,Rs.ok]at hR
   exact hR.symm
  have h3:¬(tk l b).kind=0:=by simpa using h3
  rw [if_neg (by simp [h3]),zV]at hR
  have next:∀{H' n'},n2<=n'->FSt Z r tb l B F li co nb N m res H' n'->qx PG (qk PG) (LpP PG 87) 87 (qn (qe PG jA) [1,1,1,1,1,1,0,0,0]) [1,0,1,1,0] (qW [2,3,8,9] (qV (λenv' H' nx' dfs' _=>dfs'=[]/\∃(m':Nat) (x':Unit),m'<m+1/\ql (qj .und [(9,.ptr nb 0),(8,.ptr r 0),(3,.ptr j 0),(2,.ptr i 0)]) env'/\nx<=nx'/\FSt Z r tb l B F li co nb N m' res H' nx')
    (λid env' H' nx' dfs' _=>dfs'=[]/\∃(y:Unit),ql (qj .und [(9,.ptr nb 0),(8,.ptr r 0),(3,.ptr j 0),(2,.ptr i 0)]) env'/\id=2/\nx<=nx'/\qkb Z r tb l B F li co nb res H' nx')
    (λenv' H' nx' dfs' rc'=>C .ret env' H' nx' dfs' rc') (λl env' H' nx' dfs' rc'=>C (.pan l) env' H' nx' dfs' rc'))) (.exit 5) (qj .und [(9,.ptr nb 0),(8,.ptr r 0),(3,.ptr j 0),(2,.ptr i 0)]) H' n' [] none:=by
   intro H' n' g h;rw [qkp];exact⟨rfl,m,(),Nat.lt_succ_self m,ql.okay,by omega,h⟩
  have c5:∀{Z:Nat->Prop} {I E F H n0},OB Z r I E (G++(nb,[iv 1,.str [],iv 0,iv li,iv co,o])::B) F H n0->ld1 H (.ptr nb 5)=some o:=λp=>p.ld1 (Own.app .hd G) 5
  refine ris p3 λH4 n4 g4 p4=>qb.2 ⟨_,rfl,qi.2 ⟨λh4=> ?_,λh4=>ris p4 λH5 n5 g5 p5=>qb.2 ⟨_,rfl,qi.2 ⟨λh5=> ?_,λh5=> ?_⟩⟩⟩⟩
  ·have h4:is l b wType=true:=by simpa [isR,wType]using h4
   rw [if_pos h4]at hR;obtain⟨q4,hz⟩:=OB.res (i:=n4+4) (nx':=n4+8) p4 (by omega) (by omega)
   refine⟨_,rfl,_,c5 p4,⟨⟨_,c5 p4,rfl⟩,trivial⟩,?_⟩
   rcases Ps.bind_some hR with⟨e,e1,e2⟩|⟨⟨x,c⟩,e1,e2⟩
   ·refine ZT W e1 q4 ⟨λk s nn li' co' w us c H6 n6 e=>(by cases e),λf c k s nn li' co' w us H6 n6 e g6 p6 hw=>qb.2 ⟨_,_,_,_,_,_,rfl,OB.takeF p6 hz λH7 p7=>⟨⟨⟨_,c5 p7,rfl⟩,trivial⟩,?_⟩⟩⟩
    refine OB.app1 p7 (gr.sub λP hP=> .tail _ (.tail _ hP)) .hd (.head _) (.tail _ (.head _)) hw (by omega) λv H8 G' F' gr' sf hv p8=>⟨_,rfl,trivial,hv,p8.one (Upd.app .hd G') (by simp) hv λH9 p9=>⟨trivial,?_⟩⟩
    exact KN (N:=N) (M:=m) (F:=F) (res:=res) W p9 gr' (λP hP=>sf (.tail _ (.tail _ (s2 hP)))) (by omega) (by cases e;exact e2) (λH' n' g h=>next (by omega) h) (λ_ _ _=>ql.okay) (λ_ _=>ql.okay) λ_=>ql.okay
   ·have hac:=Wl e1
    refine ZT W e1 q4 ⟨λk s nn li' co' w us c' H6 n6 e g6 p6 hw=>qb.2 ⟨_,_,_,_,_,_,rfl,OB.takeF p6 hz λH7 p7=>⟨⟨⟨_,c5 p7,rfl⟩,trivial⟩,?_⟩⟩,λf c k s nn li' co' w us H6 n6 e=>(by cases e)⟩
    cases e
    refine OB.app1 p7 (gr.sub λP hP=> .tail _ (.tail _ hP)) .hd (.head _) (.tail _ (.head _)) hw (by omega) λv H8 G' F' gr' sf hv p8=>⟨_,rfl,trivial,hv,p8.one (Upd.app .hd G') (by simp) hv λH9 p9=>⟨trivial,?_⟩⟩
    exact KN (N:=N) (M:=m) (F:=F) (res:=res) W p9 gr' (λP hP=>sf (.tail _ (.tail _ (s2 hP)))) (by omega) ⟨by omega,e2⟩ (λH' n' g h=>next (by omega) h) (λ_ _ _=>ql.okay) (λ_ _=>ql.okay) λ_=>ql.okay
  ·have h4:is l b wType=false:=by simpa [isR,wType]using h4
   have h5:is l b wFunc=true:=by simpa [isR,wFunc]using h5
   rw [if_neg (by simp [h4]),if_pos h5]at hR
   obtain⟨q4,hz⟩:=OB.res (i:=n5+4) (nx':=n5+8) p5 (by omega) (by omega)
   refine⟨_,rfl,_,c5 p5,⟨⟨_,c5 p5,rfl⟩,trivial⟩,?_⟩
   rcases Ps.bind_some hR with⟨e,e1,e2⟩|⟨⟨x,c⟩,e1,e2⟩
   ·refine ZY W e1 q4 ⟨λk s nn li' co' w us c H6 n6 e=>(by cases e),λf c k s nn li' co' w us H6 n6 e g6 p6 hw=>qb.2 ⟨_,_,_,_,_,_,rfl,OB.takeF p6 hz λH7 p7=>⟨⟨⟨_,c5 p7,rfl⟩,trivial⟩,?_⟩⟩⟩
    refine OB.app1 p7 (gr.sub λP hP=> .tail _ (.tail _ hP)) .hd (.head _) (.tail _ (.head _)) hw (by omega) λv H8 G' F' gr' sf hv p8=>⟨_,rfl,trivial,hv,p8.one (Upd.app .hd G') (by simp) hv λH9 p9=>⟨trivial,?_⟩⟩
    exact KN (N:=N) (M:=m) (F:=F) (res:=res) W p9 gr' (λP hP=>sf (.tail _ (.tail _ (s2 hP)))) (by omega) (by cases e;exact e2) (λH' n' g h=>next (by omega) h) (λ_ _ _=>ql.okay) (λ_ _=>ql.okay) λ_=>ql.okay
   ·have hac:=Wh e1
    refine ZY W e1 q4 ⟨λk s nn li' co' w us c' H6 n6 e g6 p6 hw=>qb.2 ⟨_,_,_,_,_,_,rfl,OB.takeF p6 hz λH7 p7=>⟨⟨⟨_,c5 p7,rfl⟩,trivial⟩,?_⟩⟩,λf c k s nn li' co' w us H6 n6 e=>(by cases e)⟩
    cases e
    refine OB.app1 p7 (gr.sub λP hP=> .tail _ (.tail _ hP)) .hd (.head _) (.tail _ (.head _)) hw (by omega) λv H8 G' F' gr' sf hv p8=>⟨_,rfl,trivial,hv,p8.one (Upd.app .hd G') (by simp) hv λH9 p9=>⟨trivial,?_⟩⟩
    exact KN (N:=N) (M:=m) (F:=F) (res:=res) W p9 gr' (λP hP=>sf (.tail _ (.tail _ (s2 hP)))) (by omega) ⟨by omega,e2⟩ (λH' n' g h=>next (by omega) h) (λ_ _ _=>ql.okay) (λ_ _=>ql.okay) λ_=>ql.okay
  ·have h4:is l b wType=false:=by simpa [isR,wType]using h4
   have h5:is l b wFunc=false:=by simpa [isR,wFunc]using h5
   rw [if_neg (by simp [h4]),if_neg (by simp [h5])]at hR
   simp [Rs.bad,Rs.bind]at hR
   refine yQ (by decide) p5 λH6 n6 g6 p6=>qb.2 ?_
   exact ron p6 (qb.2 ⟨_,rfl,qH rfl (fl2 W p6 (λb H4 n4 hb g4 p4=>next (by omega) ⟨o,b,some _,_,G,F2,p4,gr,s2,few,hR.symm⟩) (ql.okay))⟩)
 ·rintro id _ H2 n2 ⟨rfl,g2,hst⟩
  exact hK _ _ g2 hst
end
def qmw(Z:Nat->Prop)(A:qN)(F:qU)(nx:Nat)(K:qv)(res:Except Flt qu):Prop:=
 (∀k s n li co w ts F' H' nx',res= .ok (.node k s n li co ts)->nx<=nx'->SH Z A F' H' nx'->F⊆F'->Kids w ts∈F'->qI w=true->K (.ret (.tuple [.agg [iv k,.str s,iv n,iv li,iv co,w],.agg [iv 0,iv 0],iv 0])) H' nx')/\
 (∀f F' H' nx',res= .error f->nx<=nx'->SH Z A F' H' nx'->F⊆F'->K (.ret (.tuple [.agg yu,.agg [iv f.line,iv f.col],iv f.e])) H' nx')
section
variable{A:qN}{F:qU}{H:qd}{nx:Nat}{K:qv}{res:Except Flt qu}
theorem qca{l:List Tok}{r tb i j nb m nx0:Nat}{li co:Int}{zz:List qa}(hn:nx0<=nx)(h:qkb Z r tb l ((m,zz)::(j,[iv 0,iv 0])::(i,yu)::A) F li co nb res H nx)(hK:qmw Z A F nx0 K res){lv:zU}{lvc:zT}:
  qnr (qk PG) (LpP PG) lv lvc i j r nb H nx K:=by
 unfold qnr;obtain⟨o,b,bad,ts,F2,p,ho,s2,hR⟩:=h
 refine ron p (qb.2 ⟨_,rfl,?_⟩)
 cases bad with
 |some f=>
  subst hR;obtain⟨full,n,e,x,y,hi,hs⟩:=PS.cells p
  obtain⟨rfl,rfl,rfl,hne,_⟩:=hi.off
  have l4:∀{H':qd} {A':qN} {F':qU} {n':Nat},SH Z ((r,[.slice tb 0 l.length 5 full,iv b,iv n,iv f.e,iv f.line,iv f.col])::A') F' H' n'->ldN H' 2 (.ptr r 4)=some (.agg [iv f.line,iv f.col])/\ld1 H' (.ptr r 3)=some (iv f.e):=λq=>⟨q.ldN .hd (by simp),q.ld1 .hd 3⟩
  obtain⟨q1,q2⟩:=l4 hs
  refine qK rfl ⟨rfl,_,rfl,_,_,q1,rfl,_,rfl,_,q2,⟨⟨_,_,q1,rfl⟩,⟨_,q2,rfl⟩,trivial⟩,?_⟩
  refine hs.all (vs:=yu) (.tl (.tl (.tl (.tl .hd)))) rfl rfl λH1 p1=> ?_
  obtain⟨q1,q2⟩:=l4 p1
  refine⟨⟨⟨_,_,q1,rfl⟩,⟨_,q2,rfl⟩,trivial⟩,p1.all (.tl (.tl (.tl .hd))) rfl rfl λH2 p2=> ?_⟩
  obtain⟨q1,q2⟩:=l4 p2
  refine⟨⟨⟨_,q2,rfl⟩,trivial⟩,_,_,_,_,_,_,p2.ldAll (.tl (.tl (.tl (.tl .hd)))) rfl,_,_,p2.ldAll (.tl (.tl (.tl .hd))) rfl,?_⟩
  exact hK.2 f _ H2 _ rfl (by omega) (((p2.drop.drop.drop.drop.drop).more (by omega)).sub λP hP=>hP) λP hP=>List.mem_append.2 (.inl (.tail _ (s2 hP)))
 |none=>
  refine qH rfl ⟨_,_,_,_,_,_,p.ldAll .hd rfl,p.all (vs:=[iv 1,.str [],iv 0,iv li,iv co,o]) (.tl (.tl (.tl .hd))) rfl (by simp only [qq,ho];rfl) λH1 p1=>p1.all (.tl (.tl .hd)) rfl rfl λH2 p2=>⟨_,_,_,_,_,_,p2.ldAll (.tl (.tl (.tl .hd))) rfl,_,_,p2.ldAll (.tl (.tl .hd)) rfl,?_⟩⟩
  obtain⟨cs,_,q2⟩:=p2
  exact hK.1 1 [] 0 li co o ts _ H2 _ hR (by omega) q2.drop.drop.drop.drop.drop (λP hP=>List.mem_append.2 (.inl (.tail _ (s2 hP)))) (List.mem_append.2 (.inl (.head _))) ho
theorem qfe{s:List UInt8}{n:Nat}(hrun:Ps.parse s n=some res)(h:SH Z A F H nx)(hK:qmw Z A F nx K res):qk PG jA [.str s] H nx K:=by
 refine qk.of_body qr ?_
 rw [Yf];refine h.new (cs:=yu) lR λH0 p0=>p0.new (cs:=[iv 0,iv 0]) lR λH1 p1=> ?_
 unfold Ps.parse at hrun;refine qkt p1 ?_
 cases ht:Pt.toks s with
 |error f=>
  rw [ht]at hrun;cases hrun
  have he:=Pt.toks_err ht
  refineλH4 i4 g4 p4=>qb.2 ⟨_,_,_,_,_,_,_,rfl,p4.new lR λH5 p5=>p5.all .hd rfl rfl λH6 p6=>qK (by simpa using he) ?_⟩
  refine⟨_,rfl,_,p6.ld1 .hd 3,_,rfl,_,p6.ld1 .hd 4,rfl,rfl,⟨⟨_,p6.ld1 .hd 3,rfl⟩,⟨_,p6.ld1 .hd 4,rfl⟩,trivial⟩,p6.all (vs:=yu) (.tl (.tl .hd)) rfl rfl λH7 p7=>⟨⟨⟨_,p7.ld1 .hd 3,rfl⟩,⟨_,p7.ld1 .hd 4,rfl⟩,trivial⟩,p7.all (.tl .hd) rfl rfl λH8 p8=>⟨trivial,_,_,_,_,_,_,p8.ldAll (.tl (.tl .hd)) rfl,_,_,p8.ldAll (.tl .hd) rfl,?_⟩⟩⟩
  exact hK.2 f F H8 _ rfl (by omega) (p8.drop.drop.drop.more (by omega)) λP hP=>hP
 |ok l=>
  rw [ht]at hrun;have W:zj l:=(Pt.toks_good ht).toks
  refineλtb H4 i4 g4 p4=>qb.2 ⟨_,_,_,_,_,_,_,rfl,p4.new lR λH5 p5=>p5.all .hd rfl rfl λH6 p6=>qH rfl ⟨rfl,p6.newBN (cs:=[.slice tb 0 l.length 5 false,iv 0,iv 0,iv 0,iv 0,iv 0]) lR λH7 p7=> ?_⟩⟩
  obtain⟨r,hr⟩:∃r,r=i4+1:=⟨_,rfl⟩
  rw [<-hr];rw [<-hr]at p7;have q7:PS Z r tb l 0 none 0 ((i4,kh)::(nx+1,[iv 0,iv 0])::(nx,yu)::A) F H7 (r+1):=⟨_,.mkOn (d:=0) W.pos (by omega),p7.sub λP hP=>by
   rcases List.mem_append.1 hP with h|h
   ·exact .tail _ h
   ·have:P=TokF tb l:=by simpa using h
    subst this;exact .head _⟩
  refine kS q7 λH8 n8 g8 q8=>qb.2 ⟨_,_,_,_,_,_,rfl,q8.new (cs:=yu) lR λH9 q9=>q9.all .hd rfl rfl λH10 q10=> ?_⟩
  refine fl1 W (i:=nx) (j:=nx+1) (n:=n8) q10 (λb H11 n11 hb g11 q11=> ?_) (ql.okay)
  refine Eq.mpr (qlo (qk PG) (LpP PG) (zx (qB PG)) (qS PG (qB PG)) nx (nx+1) r n8 H11 n11 K) ?_
  unfold qns;refine fl3 W (i:=nx) (j:=nx+1) (nb:=n8) (N:=n) (M:=n) (res:=res) (F:=F) (B:=(i4,kh)::(nx+1,[iv 0,iv 0])::(nx,yu)::A) (li:=(tk l 0).line) (co:=(tk l 0).col) ⟨.nilSlice,b,none,[],[],F,q11,.nil,λP hP=>hP,by simp,by simp,?_⟩ (λH12 n12 g12 st=> ?_) (ql.okay)
  ·rw [hb rfl];exact hrun
  ·refine Eq.mpr (qmi (qk PG) (LpP PG) (zx (qB PG)) (qS PG (qB PG)) nx (nx+1) r n8 H12 n12 K) ?_
   exact qca (by omega) st hK
end
end
end Go.Vs
end
section
namespace Go.Vs
namespace Ps
theorem qb0{α β:Type}{x:Rs α}{k:α->Rs β}(hx:x≠none)(hk:∀t,x=some (.ok t)->k t≠none):Rs.bind x k≠none:=by
 cases x with
 |none=>exact absurd rfl hx
 |some r=>cases r with
  |error e=>intro h;cases h
  |ok a=>exact hk a rfl
theorem qgi{l:List Tok}{n a:Nat}(h:30*(l.length+2)<=n):result l n a≠none:=by
 unfold result;exact wS (λ_=>VB l n .typ 0 a (by simp only [rk];omega)) λ_=>w6
theorem YY{l:List Tok}{n a:Nat}(h:30*(l.length+2)<=n):typeDecl l n a≠none:=by
 unfold typeDecl;refine kZ λa1 h1=>kZ λb h2=>wS (λhi=> ?_) λ_=>kZ λb1 h3=> ?_
 ·exact ky (Yd (λa t b h=>by have:=run_adv l n _ _ _ _ _ h;simp only [adv]at this;omega) (λc _ _=>VB l n .method 0 c (by simp only [rk];omega)) (by omega)) λx c _=>w6
 ·exact ky (Yd (λa t b h=>by have:=run_adv l n _ _ _ _ _ h;simp only [adv]at this;omega) (λc _ _=>VB l n .field 0 c (by simp only [rk];omega)) (by omega)) λx c _=>w6
theorem qax{l:List Tok}{n a:Nat}(h:30*(l.length+2)<=n):funcDecl l n a≠none:=by
 unfold funcDecl;refine kZ λa1 h1=>kZ λx h2=>kZ λc h3=>ky (qj6 (λa t b h=>by have:=run_adv l n _ _ _ _ _ h;simp only [adv]at this;omega) (λc _ _=>VB l n .param 0 c (by simp only [rk];omega)) (by omega)) λps d _=>ky (qgi h) λy e _=>ky (VB l n .block 0 e (by simp only [rk];omega)) λbody f _=>w6
theorem wh{l:List Tok}{n a b:Nat}{t:qu}(h:typeDecl l n a=some (.ok (t,b))):a<=b:=by
 unfold typeDecl at h;obtain⟨a1,h1,h⟩:=z9 h
 obtain⟨b1,h2,h⟩:=z9 h
 have e1:=(need_ok h1).2
 have e2:=(name_ok h2).2
 have ho:∀r,adv r=1->AdvOK (run l n r 0):=λr hr a t b h=>by have:=run_adv l n _ _ _ _ _ h;omega
 rcases wT h with⟨_,h⟩|⟨_,h⟩
 ·obtain⟨⟨xs,c⟩,h3,h⟩:=jb h
  have:=list_adv (ho .method rfl) h3
  cases h;omega
 ·obtain⟨b2,h3,h⟩:=z9 h
  have e3:=(need_ok h3).2
  obtain⟨⟨xs,c⟩,h4,h⟩:=jb h
  have:=list_adv (ho .field rfl) h4
  cases h;omega
theorem qih{l:List Tok}{a:Nat}{x:qu×Nat}(h:recv l a= .ok x):a<=x.2:=by
 unfold recv at h;split at h
 ·obtain⟨b,h1,h⟩:=yy h
  obtain⟨c,h2,h⟩:=yy h
  obtain⟨d,h3,h⟩:=yy h
  have:=(name_ok h1).2;have:=(name_ok h2).2;have:=(need_ok h3).2
  cases h;show a<=d;omega
 ·cases h;exact Nat.le_refl _
theorem qd7{l:List Tok}{n a b:Nat}{t:qu}(h:result l n a=some (.ok (t,b))):a<=b:=by
 unfold result at h;rcases wT h with⟨_,h⟩|⟨_,h⟩
 ·have:=run_adv l n _ _ _ _ _ h;omega
 ·cases h;exact Nat.le_refl _
theorem wm{l:List Tok}{n a b:Nat}{t:qu}(h:funcDecl l n a=some (.ok (t,b))):a<=b:=by
 unfold funcDecl at h;obtain⟨a1,h1,h⟩:=z9 h
 obtain⟨⟨rv,b1⟩,h2,h⟩:=z9 h
 obtain⟨c,h3,h⟩:=z9 h
 obtain⟨⟨ps,d⟩,h4,h⟩:=jb h
 obtain⟨⟨y,e⟩,h5,h⟩:=jb h
 obtain⟨⟨body,f⟩,h6,h⟩:=jb h
 have:=(need_ok h1).2
 have:a1<=b1:=qih h2
 have:=(name_ok h3).2
 have:=row_adv (λa t b h=>by have:=run_adv l n _ _ _ _ _ h;simp only [adv]at this;omega) h4
 have:=qd7 h5
 have:=run_adv l n _ _ _ _ _ h6
 cases h;omega
theorem VA{l:List Tok}{n:Nat}(h:30*(l.length+2)<=n):∀k a,l.length+1 - a<k->declsGo l n k a≠none
 |0,a,hk=>by omega
 |k+1,a,hk=>by
  unfold declsGo;refine wS (λ_=>w6) λh0=> ?_
  have hne:(if is l a wType then typeDecl l n a else if is l a wFunc then funcDecl l n a else Rs.bad (flt l a 13))≠none:=wS (λ_=>YY h) λ_=>wS (λ_=>qax h) λ_=>qjd
  refine ky hne λx b hx=>kZ λc h2=>qb0 (VA h k _ ?_) λxs _=>w6
  have hb:a<=b:=by
   rcases wT hx with⟨_,hx⟩|⟨_,hx⟩
   ·exact wh hx
   ·rcases wT hx with⟨_,hx⟩|⟨_,hx⟩
    ·exact wm hx
    ·cases hx
  have:=(need_ok h2).2
  have:=gaps_le l c
  have:=K1 (l:=l) (a:=a) (by simpa using h0)
  omega
theorem qm0{l:List Tok}{n:Nat}(h:30*(l.length+2)<=n):file l n≠none:=by
 unfold file;exact qb0 (VA h n _ (by omega)) λxs _=>w6
end Ps
namespace Ps
mutual
def few(M:Nat):qu->Prop
 | .node _ _ _ _ _ ts=>ts.length<=M/\Qf M ts
def Qf(M:Nat):List qu->Prop
 |[]=>True
 |t::ts=>few M t/\Qf M ts
end
def XT(M:Nat):Rule->Prop
 | .binGo _ x=>few M x
 | .postGo x=>few M x
 |_=>True
theorem qai{M:Nat}:∀{ts:List qu},Qf M ts->∀(i:Nat) (h:i<ts.length),few M ts[i]
 |t::ts,h,0,_=>h.1
 |t::ts,h,i+1,hi=>qai h.2 i (by simpa using hi)
mutual
theorem qgr{M N:Nat}(h:M<=N):∀{t:qu},few M t->few N t
 | .node _ _ _ _ _ ts,⟨h1,h2⟩=>⟨Nat.le_trans h1 h,qds h h2⟩
theorem qds{M N:Nat}(h:M<=N):∀{ts:List qu},Qf M ts->Qf N ts
 |[],_=>trivial
 |_::_,⟨h1,h2⟩=>⟨qgr h h1,qds h h2⟩
end
section
variable{l:List Tok}{M:Nat}{one:Nat->Rs (qu×Nat)}
def W7(M:Nat)(one:Nat->Rs (qu×Nat)):Prop:=∀a t b,one a=some (.ok (t,b))->few M t
theorem WE(ho:W7 M one):∀n a xs b,rowGo l one n a=some (.ok (xs,b))->xs.length<=n/\Qf M xs
 |0,_,_,_,h=>by simp [rowGo]at h
 |n+1,a,xs,b,h=>by
  unfold rowGo at h;obtain⟨⟨x,c⟩,h1,h⟩:=jb h
  have h1:=ho _ _ _ h1
  dsimp only at h
  split at h
  ·obtain⟨⟨ys,d⟩,h2,h⟩:=jb h
   have:=WE ho n _ _ _ h2
   cases h;exact⟨by simp;omega,h1,this.2⟩
  ·obtain⟨d,h2,h⟩:=z9 h
   cases h;exact⟨by simp,h1,trivial⟩
theorem qei(ho:W7 M one){n a:Nat}{xs:List qu}{b:Nat}(h:row l one n a=some (.ok (xs,b))):xs.length<=n/\Qf M xs:=by
 unfold row at h;obtain⟨c,h1,h⟩:=z9 h
 split at h
 ·cases h;exact⟨by simp,trivial⟩
 ·exact WE ho _ _ _ _ h
theorem Vt(ho:W7 M one):∀n a xs b,listGo l one n a=some (.ok (xs,b))->xs.length<=n/\Qf M xs
 |0,_,_,_,h=>by simp [listGo]at h
 |n+1,a,xs,b,h=>by
  unfold listGo at h;split at h
  ·cases h;exact⟨by simp,trivial⟩
  ·obtain⟨⟨x,c⟩,h1,h⟩:=jb h
   have h1:=ho _ _ _ h1
   obtain⟨d,h2,h⟩:=z9 h
   obtain⟨⟨ys,e⟩,h3,h⟩:=jb h
   have:=Vt ho n _ _ _ h3
   cases h;exact⟨by simp;omega,h1,this.2⟩
theorem VO(ho:W7 M one){n a:Nat}{xs:List qu}{b:Nat}(h:list l one n a=some (.ok (xs,b))):xs.length<=n/\Qf M xs:=by
 unfold list at h;obtain⟨c,h1,h⟩:=z9 h
 exact Vt ho _ _ _ _ h
theorem qla(l:List Tok)(M:Nat):∀n rule d a t b,n+5<=M->XT M rule->run l n rule d a=some (.ok (t,b))->few M t:=by
 intro n
 induction n with
 |zero=>intro rule d a t b _ _ h;simp [run]at h
 |succ n ih=>
  intro rule d a t b hM hr h;have hM':n+5<=M:=by omega
  have ih':∀{rule:Rule} {d a:Nat} {t:qu} {b:Nat},run l n rule d a=some (.ok (t,b))->XT M rule->few M t:=λh hr=>ih _ _ _ _ _ hM' hr h
  have go1:∀rule d,XT M rule->W7 M (run l n rule d):=λrule d e a t b h=>ih _ _ _ _ _ hM' e h
  have non:few M none_:=⟨by simp,trivial⟩
  have res1:∀{c d:Nat} {x:qu×Nat} {p:Prop} [Decidable p],(if p then run l n .typ d c else Rs.ok (none_,c))=some (.ok x)->few M x.1:=λh=>by
   rcases wT h with⟨_,h⟩|⟨_,h⟩
   ·exact ih .typ _ _ _ _ hM' trivial h
   ·cases h;exact non
  cases rule<;>simp only [run]at h<;>simp only [XT]at hr
  all_goals repeat' (with_reducible first
   |(refine ite_el h (λhc h=> ?_) (λhc h=> ?_))
   |exact(qig h).elim
   |(refine ok_el h λh1 h2=> ?_;subst h1;clear h2;(try simp only [mk,leaf,few,Qf,List.length_cons,List.length_nil]);repeat' (first|assumption|trivial|omega|apply And.intro))
   |(refine lift_el h λc h1 h=> ?_;clear h1)
   |(refine bind_el h λx c h1 h=> ?_;first|(replace h1:=qei (go1 _ _ (by simp only [XT])) h1;obtain⟨_,_⟩:=h1)|(replace h1:=VO (go1 _ _ (by simp only [XT])) h1;obtain⟨_,_⟩:=h1)|(replace h1:=ih' h1 (by simp only [XT]))|(replace h1:=res1 h1;dsimp only at h1))
   |(refine ih' h ?_;simp only [XT,mk,leaf,few,Qf,List.length_cons,List.length_nil];repeat' (first|assumption|trivial|omega|apply And.intro)))
variable{n a b:Nat}
theorem yA(hM:n+5<=M){r:Rule}(hr:XT M r)(d:Nat):W7 M (run l n r d):=λa t b h=>qla l M n r d a t b hM hr h
theorem qd5(hM:n+5<=M){t:qu}(h:result l n a=some (.ok (t,b))):few M t:=by
 unfold result at h;rcases wT h with⟨_,h⟩|⟨_,h⟩
 ·exact yA hM (r:= .typ) trivial _ _ _ _ h
 ·cases h;((try simp only [mk,leaf,none_,few,Qf,List.length_cons,List.length_nil]);repeat' (first|assumption|trivial|omega|apply And.intro))
theorem XB(hM:n+5<=M){t:qu}(h:typeDecl l n a=some (.ok (t,b))):few M t:=by
 unfold typeDecl at h;obtain⟨a1,h1,h⟩:=z9 h
 obtain⟨b1,h2,h⟩:=z9 h
 rcases wT h with⟨_,h⟩|⟨_,h⟩
 ·obtain⟨⟨xs,c⟩,h3,h⟩:=jb h
  obtain⟨g1,g2⟩:=VO (yA hM (r:= .method) trivial 0) h3
  cases h;((try simp only [mk,leaf,none_,few,Qf,List.length_cons,List.length_nil]);repeat' (first|assumption|trivial|omega|apply And.intro))
 ·obtain⟨b2,h3,h⟩:=z9 h
  obtain⟨⟨xs,c⟩,h4,h⟩:=jb h
  obtain⟨g1,g2⟩:=VO (yA hM (r:= .field) trivial 0) h4
  cases h;((try simp only [mk,leaf,none_,few,Qf,List.length_cons,List.length_nil]);repeat' (first|assumption|trivial|omega|apply And.intro))
theorem qir(hM:5<=M){x:qu×Nat}(h:recv l a= .ok x):few M x.1:=by
 unfold recv at h;split at h
 ·obtain⟨b,h1,h⟩:=yy h
  obtain⟨c,h2,h⟩:=yy h
  obtain⟨d,h3,h⟩:=yy h
  cases h;((try simp only [mk,leaf,none_,few,Qf,List.length_cons,List.length_nil]);repeat' (first|assumption|trivial|omega|apply And.intro))
 ·cases h;((try simp only [mk,leaf,none_,few,Qf,List.length_cons,List.length_nil]);repeat' (first|assumption|trivial|omega|apply And.intro))
theorem Xw(hM:n+5<=M){t:qu}(h:funcDecl l n a=some (.ok (t,b))):few M t:=by
 unfold funcDecl at h;obtain⟨a1,h1,h⟩:=z9 h
 obtain⟨⟨rv,b1⟩,h2,h⟩:=z9 h
 obtain⟨c,h3,h⟩:=z9 h
 obtain⟨⟨ps,d⟩,h4,h⟩:=jb h
 obtain⟨⟨y,e⟩,h5,h⟩:=jb h
 obtain⟨⟨body,f⟩,h6,h⟩:=jb h
 have g0:few M rv:=qir (x:=(rv,b1)) (by omega) h2
 obtain⟨g1,g2⟩:=qei (yA hM (r:= .param) trivial 0) h4
 have g3:=qd5 hM h5
 have g4:few M body:=yA hM (r:= .block) trivial _ _ _ _ h6
 cases h;((try simp only [mk,leaf,none_,few,Qf,List.length_cons,List.length_nil]);repeat' (first|assumption|trivial|omega|apply And.intro))
theorem Kl(hM:n+5<=M):∀k a xs,declsGo l n k a=some (.ok xs)->xs.length<=k/\Qf M xs
 |0,a,xs,h=>by simp [declsGo]at h
 |k+1,a,xs,h=>by
  unfold declsGo at h;rcases wT h with⟨_,h⟩|⟨_,h⟩
  ·cases h;exact⟨by simp,trivial⟩
  ·obtain⟨⟨x,b⟩,hx,h⟩:=jb h
   obtain⟨c,h2,h⟩:=z9 h
   obtain⟨ys,h3,h⟩:=jb h
   have:=Kl hM k _ _ h3
   have hf:few M x:=by
    rcases wT hx with⟨_,hx⟩|⟨_,hx⟩
    ·exact XB hM hx
    ·rcases wT hx with⟨_,hx⟩|⟨_,hx⟩
     ·exact Xw hM hx
     ·cases hx
   cases h;exact⟨by simp;omega,hf,this.2⟩
theorem qi0(hM:n+5<=M){t:qu}(h:file l n=some (.ok t)):few M t:=by
 unfold file at h;obtain⟨xs,h1,h⟩:=jb h
 obtain⟨g1,g2⟩:=Kl hM _ _ _ h1
 cases h;((try simp only [mk,leaf,none_,few,Qf,List.length_cons,List.length_nil]);repeat' (first|assumption|trivial|omega|apply And.intro))
theorem qew{s:List UInt8}{t:qu}(h:parse s n=some (.ok t)):few (n+5) t:=by
 unfold parse at h;split at h
 ·exact qi0 lR h
 ·cases h
theorem qby(s:List UInt8):∃m r,parse s m=some r/\m<=200000:=by
 unfold parse;cases ht:Pt.toks s with
 |error f=>exact⟨0,_,rfl,by omega⟩
 |ok l=>
  have W:=(Pt.toks_good ht).toks
  refine⟨30*(l.length+2),?_⟩
  have:=qm0 (l:=l) (Nat.le_refl (30*(l.length+2)))
  dsimp only
  cases h:file l (30*(l.length+2))with
  |none=>exact absurd h this
  |some r=>exact⟨r,rfl,by have:=W.few;omega⟩
end
end Ps
end Go.Vs
end
section
namespace Go.Vs
open Go.Proofs
variable [GTab] {Z:Nat->Prop}
noncomputable section
def kn1:List UInt8:=[102,117,110,99,32,109,97,105,110,40,41,32,123,32,112,114,105,110,116,40,49,32,43,32,50,32,42,32,120,41,32,125]
def kn2:List UInt8:=[102,117,110,99,32,109,97,105,110,40,41,32,123,32,120,32,61,32,125]
def knX:qu:= .node 28 [43] 0 1 23 [.node 21 [] 1 1 21 [],.node 28 [42] 0 1 27 [.node 21 [] 2 1 25 [],.node 26 [120] 0 1 29 []]]
def knB:qu:= .node 10 [] 0 1 13 [.node 20 [] 0 1 15 [knX]]
def knF:qu:= .node 6 [109,97,105,110] 0 1 1 [.node 38 [] 0 0 0 [],.node 38 [] 0 0 0 [],knB]
theorem qmc:Ps.parse kn1 100=some (.ok (.node 1 [] 0 1 1 [knF])):=by kernel_rfl
theorem qkk:Ps.parse kn2 100=some (.error ⟨1,19,13⟩):=by kernel_rfl
section
variable{Γ:GH}{H:qd}{nx:Nat}{K:qv}
theorem qhh(hk:HZ Z Γ H nx)(hK:∀Γ' H' nx',nx<=nx'->HZ Z Γ' H' nx'->(∀b cs,Γ b=some cs->Γ' b=some cs)->K (.ret (.bool true)) H' nx'):qk PG yT [] H nx K:=by
 refine qk.of_body qr ?_
 rw [V3 _ _ _ _ 0];refine VE (s:=kn1) qmc hk λv Γ1 H1 i2 h1 k1 s1 hv=>qb.2 ?_
 obtain⟨c,rfl,hn⟩:=hv
 cases hn with
 | @mk _ _ _ _ _ w _ cs hs hki=>
 have hw:qZ (λ_=>False) Γ1 w [knF]:=⟨cs,hs,hki⟩
 refine⟨_,_,_,_,_,_,_,_,_,rfl,?_⟩
 have hf1:=k1.fresh (Nat.le_refl i2)
 refine kO k1 (nx':=i2+1) lR (by omega) λH2 k2=> ?_
 have hf2:=k2.fresh (Nat.le_refl (i2+1))
 refine kO k2 (nx':=i2+1+1) lR (by omega) λH3 k3=> ?_
 refine jj k3 ((qg (by omega)).trans (qf _ _ _)) rfl (by simp only [qq,hw.cell];rfl) λH4 k4=> ?_
 refine jj k4 ((qg (by omega)).trans (qf _ _ _)) rfl rfl λH5 k5=> ?_
 obtain⟨Γ5,e5⟩:∃Γ5,Γ5=gup (i2+1) (some [iv 0,iv 0]) (gup i2 (some [iv 1,u3 [],iv 0,iv 1,iv 1,w]) (gup (i2+1) (some [iv 0,iv 0]) (gup i2 (some [iv 0,u3 [],iv 0,iv 0,iv 0,u6]) Γ1))):=⟨_,rfl⟩
 replace k5:HZ Z Γ5 H5 (i2+1+1):=by rw [e5];exact k5
 have g5:Γ5 i2=some [iv 1,u3 [],iv 0,iv 1,iv 1,w]:=by rw [e5,qg (by omega),qf]
 have s5:∀b cs,Γ1 b=some cs->Γ5 b=some cs:=λb cs e=>by
  have h0:b≠i2:=neK e hf1
  have h1:b≠i2+1:=neK e (by rwa [qg (by omega)]at hf2)
  rw [e5,qg h1,qg h0,qg h1,qg h0];exact e
 clear e5 hf1 hf2;refine VE (s:=kn2) qkk k5 λΓ6 H6 i7 h6 k6 s6=>qb.2 ⟨_,_,_,_,_,_,_,_,_,rfl,?_⟩
 have hf1:=k6.fresh (Nat.le_refl i7)
 refine kO k6 (nx':=i7+1) lR (by omega) λH7 k7=> ?_
 have hf2:=k7.fresh (Nat.le_refl (i7+1))
 refine kO k7 (nx':=i7+1+1) lR (by omega) λH8 k8=> ?_
 refine jj k8 ((qg (by omega)).trans (qf _ _ _)) rfl rfl λH9 k9=> ?_
 refine jj k9 ((qg (by omega)).trans (qf _ _ _)) rfl rfl λH10 k10=> ?_
 obtain⟨Γ9,e9⟩:∃Γ9,Γ9=gup (i7+1) (some [iv 1,iv 19]) (gup i7 (some yu) (gup (i7+1) (some [iv 0,iv 0]) (gup i7 (some yu) Γ6))):=⟨_,rfl⟩
 replace k10:HZ Z Γ9 H10 (i7+1+1):=by rw [e9];exact k10
 have g9:Γ9 (i7+1)=some [iv 1,iv 19]:=by rw [e9,qf]
 have s9:∀b cs,Γ6 b=some cs->Γ9 b=some cs:=λb cs e=>by
  have h0:b≠i7:=neK e hf1
  have h1:b≠i7+1:=neK e (by rwa [qg (by omega)]at hf2)
  rw [e9,qg h1,qg h0,qg h1,qg h0];exact e
 have gi:Γ9 i2=some [iv 1,u3 [],iv 0,iv 1,iv 1,w]:=s9 _ _ (s6 _ _ g5)
 have hw9:qZ (λ_=>False) Γ9 w [knF]:=hw.mono (λ_ h=>h) λb cs _ e=>s9 _ _ (s6 _ _ (s5 _ _ e))
 have l0:ld1 H10 (.ptr i2 0)=some (iv 1):=by rw [k10.ld1 gi];rfl
 have l5:ld1 H10 (.ptr i2 5)=some w:=by rw [k10.ld1 gi];rfl
 obtain⟨b1,o1,_,_,_,_,_,w1,ts1,x1,y1,N1⟩:=Qu k10 hw9 (j:=0) (by decide)
 cases y1
 have hl1:=N1.kids.len
 obtain⟨b2,o2,_,_,_,_,_,w2,ts2,x2,y2,N2⟩:=Qu k10 N1.kids (j:=2) (by decide)
 cases y2
 have hl2:=N2.kids.len
 obtain⟨b3,o3,_,_,_,_,_,w3,ts3,x3,y3,N3⟩:=Qu k10 N2.kids (j:=0) (by decide)
 cases y3
 have hl3:=N3.kids.len
 obtain⟨b4,o4,_,_,_,_,_,w4,ts4,x4,y4,N4⟩:=Qu k10 N3.kids (j:=0) (by decide)
 cases y4
 have hl4:=N4.kids.len
 have skip:∀{b:Bool} {p q:Prop},b=false->q->ifB b p q:=λh hq=>qH h hq
 refine skip rfl ⟨_,rfl,_,l0,skip rfl ⟨_,rfl,_,l5,_,hw9.len,skip rfl ?_⟩⟩
 have st1:∀{p:qa->Prop},p w1->∃v,some (u0 i2 5)=some v/\∃v',ld1 H10 v=some v'/\(0:Int)<=0/\∃v'',zq v' 0 6=some v''/\∃v3,jl v'' 5=some v3/\∃v4,ld1 H10 v3=some v4/\p v4:=λh=>⟨_,rfl,_,l5,by decide,_,x1,_,rfl,_,N1.c5,h⟩
 refine st1 ⟨_,hl1,skip rfl ?_⟩
 refine st1 ⟨by decide,_,x2,_,rfl,_,N2.c5,_,hl2,skip rfl ?_⟩
 refine st1 ⟨by decide,_,x2,_,rfl,_,N2.c5,by decide,_,x3,_,rfl,_,N3.c5,_,hl3,skip rfl ?_⟩
 refine st1 ⟨by decide,_,x2,_,rfl,_,N2.c5,by decide,_,x3,_,rfl,_,N3.c5,by decide,_,x4,_,_,_,_,_,_,N4.all,?_⟩
 have hf3:=k10.fresh (Nat.le_refl (i7+1+1))
 refine kO k10 (nx':=i7+1+1+1) lR (by omega) λH11 k11=> ?_
 refine jj k11 (qf _ _ _) rfl (by simp only [qq,N4.kids.cell];rfl) λH12 k12=> ?_
 obtain⟨Γ12,e12⟩:∃Γ12,Γ12=gup (i7+1+1) (some [iv 28,u3 [43],iv 0,iv 1,iv 23,w4]) (gup (i7+1+1) (some [iv 0,u3 [],iv 0,iv 0,iv 0,u6]) Γ9):=⟨_,rfl⟩
 replace k12:HZ Z Γ12 H12 (i7+1+1+1):=by rw [e12];exact k12
 have s12:∀b cs,Γ9 b=some cs->Γ12 b=some cs:=λb cs e=>by
  have h0:b≠i7+1+1:=neK e hf3
  rw [e12,qg h0,qg h0];exact e
 have g12:Γ12 (i7+1+1)=some [iv 28,u3 [43],iv 0,iv 1,iv 23,w4]:=by rw [e12,qf]
 have hw12:=N4.kids.mono (λ_ h=>h) λb cs _ e=>s12 b cs e
 have q:∀off,ld1 H12 (.ptr (i7+1+1) off)=[iv 28,u3 [43],iv 0,iv 1,iv 23,w4][off]?:=λoff=>k12.ld1 g12 off
 have qp:∀off,ld1 H12 (.ptr (i7+1) off)=[iv 1,iv 19][off]?:=λoff=>k12.ld1 (s12 _ _ g9) off
 obtain⟨b5,o5,_,_,_,_,_,w5,ts5,x5,y5,N5⟩:=Qu k12 hw12 (j:=1) (by decide)
 cases y5
 have yes:∀{b:Bool} {p q:Prop},b=true->p->ifB b p q:=λh hp=>qK h hp
 refine⟨_,rfl,_,q 0,yes rfl ⟨_,rfl,_,q 1,yes rfl ⟨_,rfl,_,q 5,_,hw12.len,yes rfl ⟨_,rfl,_,q 5,by decide,_,x5,_,rfl,_,N5.c1,yes rfl ⟨_,rfl,_,q 4,yes rfl (yes rfl ⟨_,rfl,_,qp 0,yes rfl ⟨_,rfl,_,qp 1,?_⟩⟩)⟩⟩⟩⟩⟩
 exact hK _ _ _ (by omega) k12 λb cs e=>s12 _ _ (s9 _ _ (s6 _ _ (s5 _ _ (s1 _ _ e))))
end
section
variable{Γ:GH}{H:qd}{nx:Nat}{K:qv}
theorem Q1{n m:Int}(h0:0<m)(h1:m<=4611686018427387904)(hK:K (.ret (iv (n % m))) H nx):qk PG wL [iv n,iv m] H nx K:=by
 refine qk.of_body qr ?_
 rw [qcn];have hb:=Int.tmod_lt_of_pos n h0
 have hl: -m<n.tmod m:=by
  have h2:=Int.tmod_lt_of_pos (-n) h0
  rw [Int.neg_tmod]at h2;omega
 have e:n % m=if n.tmod m<0 then n.tmod m+m else n.tmod m:=by
  rw [Int.emod_eq_tmod];by_cases hn:0<=n
  ·rw [if_pos (.inl hn)];have:=Int.tmod_nonneg m hn
   rw [if_neg (by omega)];omega
  ·have hle:n.tmod m<=0:=by
    have:=Int.tmod_nonneg m (a:= -n) (by omega)
    rw [Int.neg_tmod]at this;omega
   by_cases hd:m ∣ n
   ·rw [if_pos (.inr hd)];have:=Int.tmod_eq_zero_of_dvd hd
    rw [if_neg (by omega)];omega
   ·rw [if_neg (by rintro(h|h);exact hn h;exact hd h)]
    have hz:n.tmod m≠0:=λh=>hd (Int.dvd_of_tmod_eq_zero h)
    rw [if_pos (by omega)]
    omega
 rw [e]at hK;refine⟨by omega,qi.2 ⟨λh=> ?_,λh=> ?_⟩⟩
 ·have h:n.tmod m<0:=of_decide_eq_true h
  rw [if_pos h]at hK;rw [qw (by omega) (by omega)];exact hK
 ·have h:¬n.tmod m<0:=of_decide_eq_false h
  rw [if_neg h]at hK;exact hK
theorem ye{n m:Int}(h0:0<m):0<=n % m/\n % m<m:=⟨Int.emod_nonneg _ (by omega),Int.emod_lt_of_pos _ h0⟩
theorem K4{n:Int}(hn:n<10)(hk:HZ Z Γ H nx)(hK:∀s H' nx',nx<=nx'->HZ Z Γ H' nx'->s.length=1->(0<=n->s=Pl.dig n.toNat)->K (.ret (.str s)) H' nx'):qk PG kl [iv n] H nx K:=by
 refine qk.of_body qr ?_
 rw [ZQ];refine qi.2 ⟨λ_=>⟨_,rfl,rfl,?_⟩,λh=>absurd hn (of_decide_eq_false h)⟩
 obtain⟨d,hd⟩:∃d:Nat,d=n.toNat:=⟨_,rfl⟩
 have hd9:d<=9:=by omega
 have e0:(Bool.rec (Bool.rec 0 n (ilt n 0)) (Bool.rec 0 n (ilt 0 n)) true:Int)=d:=by
  show(Bool.rec 0 n (ilt 0 n):Int)=d
  rw [yp];by_cases h:0<n
  ·rw [decide_eq_true h];show n=_;omega
  ·rw [decide_eq_false h];show(0:Int)=_;omega
 rw [e0];have e1:qa.int IntKind.u8 (IntKind.u8.wrap (i64.wrap (48+(d:Int))))=qa.int .u8 (.ofNat (UInt8.ofNat (48+d)).toNat):=by
  rw [qw (by omega) (by omega)]
  have:d=0\/d=1\/d=2\/d=3\/d=4\/d=5\/d=6\/d=7\/d=8\/d=9:=by omega
  rcases this with h|h|h|h|h|h|h|h|h|h<;>subst h<;>rfl
 rw [e1];refine kO hk (nx':=nx+1) lR (by omega) λH1 k1=> ?_
 refine⟨[UInt8.ofNat (48+d)],k1.str (w:=[UInt8.ofNat (48+d)]) (qf _ _ _),?_⟩
 have hf:=hk.fresh (Nat.le_refl nx)
 refine hK _ _ _ (by omega) (k1.sub λb cs e=>(qg (neK e hf)).trans e) (by simp) λh0=> ?_
 unfold Pl.dig;rw [if_pos (by omega),hd]
theorem qet:∀(k:Nat) {n:Int} {H:qd} {nx:Nat} {K:qv},k<=18->n<10 ^ (k+1)->n<=9223372036854775807->HZ Z Γ H nx->
  (∀s H' nx',nx<=nx'->HZ Z Γ H' nx'->s.length<=k+1->(0<=n->n<100->s=Pl.dig n.toNat)->K (.ret (.str s)) H' nx')->qk PG kl [iv n] H nx K:=by
 intro k
 induction k with
 |zero=>
  intro n H nx K _ hn _ hk hK;exact K4 (by simpa using hn) hk λs H' nx' h1 h2 h3 h4=>hK s H' nx' h1 h2 (by omega) λh5 _=>h4 h5
 |succ k ih=>
  intro n H nx K hk19 hn hmax hk hK;by_cases h10:n<10
  ·exact K4 h10 hk λs H' nx' h1 h2 h3 h4=>hK s H' nx' h1 h2 (by omega) λh5 _=>h4 h5
  refine qk.of_body qr ?_
  rw [ZQ];have hp:(10:Int) ^ (k+1+1)=10 ^ (k+1)*10:=by rw [Int.pow_succ]
  have hq:n.tdiv 10=n / 10:=Int.tdiv_eq_ediv_of_nonneg (by omega)
  have hm:n.tmod 10=n % 10:=Int.tmod_eq_emod_of_nonneg (by omega)
  refine qi.2 ⟨λh=>absurd (of_decide_eq_true h) h10,λ_=>⟨by decide,?_⟩⟩
  rw [hq,hm,qw (by omega) (by omega)]
  refine ih (by omega) (by omega) (by omega) hk λs H1 nx1 h1 k1 h3 h4=>qb.2 ⟨_,rfl,by decide,?_⟩
  refine K4 (n:=n % 10) (by omega) k1 λs2 H2 nx2 h5 k2 h6 h7=>qb.2 ⟨_,rfl,by omega,?_⟩
  refine hK _ _ _ (by omega) k2 (by simp;omega) λh0 h100=> ?_
  rw [h4 (by omega) (by omega),h7 (by omega)]
  unfold Pl.dig;rw [if_pos (show(n / 10).toNat<10 by omega),if_pos (show(n % 10).toNat<10 by omega),if_neg (show¬n.toNat<10 by omega)]
  rw [show(n / 10).toNat=n.toNat / 10 by omega,show(n % 10).toNat=n.toNat % 10 by omega]
  rfl
theorem qf5{n:Int}(hn:n<=9223372036854775807)(hk:HZ Z Γ H nx)(hK:∀s H' nx',nx<=nx'->HZ Z Γ H' nx'->s.length<=19->(0<=n->n<100->s=Pl.dig n.toNat)->K (.ret (.str s)) H' nx'):qk PG kl [iv n] H nx K:=
 qet 18 (by omega) (by omega) hn hk hK
end
def kW(N:Nat)(Γ:GH)(v:qa):Prop:=v= .nilSlice\/∃(b n:Nat) (full:Bool) (ss:List (List UInt8)),v= .slice b 0 n 1 full/\Γ b=some (ss.map .str)/\n<=ss.length/\0<n/\n<=N/\∀s,s∈ss->s.length<=20
abbrev mkC(raw:qa)(a:Int)(vb:Nat)(full:Bool)(names loops size:Int)(out:List UInt8)(res:Int)(calls:Bool):List qa:=
 [raw,iv a,.slice vb 0 7 1 full,iv names,iv loops,iv size,.str out,iv res,.bool calls]
def qen(cs:List qa):Prop:=∀(i j b n m:Nat) (f g:Bool),i≠j->cs[i]?=some (.slice b 0 n 1 f)->cs[j]?=some (.slice b 0 m 1 g)->False
def Mk(Γ:GH)(raw:qa)(rl:List Int)(k vb c:Nat)(r:Int)(N U L:Nat):Prop:=
 ∃(a:Nat) (full:Bool) (names:Nat) (loops size:Int) (out:List UInt8) (calls:Bool),Γ k=some (mkC raw a vb full names loops size out r calls)/\a<=rl.length/\N<=names/\names<=U/\r<=6/\out.length<=L/\(c<=3/\U<=25)/\
  ∃cs,Γ vb=some cs/\cs.length=7/\qen cs/\∀x,x∈cs->kW (names+c) Γ x
def MS(Z:Nat->Prop)(raw:qa)(rl:List Int)(k:Nat)(Γ0:GH)(n0 vb c:Nat)(r:Int)(N U L:Nat)(H:qd)(nx:Nat):Prop:=
 n0<=nx/\Γ0 k=none/\Γ0 vb=none/\∃Γ,HZ Z Γ H nx/\(∀b cs,Γ0 b=some cs->Γ b=some cs)/\Mk Γ raw rl k vb c r N U L
structure Zs(raw:qa)(rl:List Int):Prop where
 arg:qm2 raw rl
 few:rl.length<=9223372036854775807
 cell:qI raw=true
section
variable{N:Nat}
theorem kW.cell{Γ:GH}{v:qa}(h:kW N Γ v):qI v=true:=by
 rcases h with rfl|⟨b,n,full,ss,rfl,_⟩<;>rfl
theorem kW.mono{Γ Γ':GH}{v:qa}{N':Nat}(h:kW N Γ v)(hs:∀b (ss:List (List UInt8)),ss≠[]->Γ b=some (ss.map .str)->Γ' b=some (ss.map .str))(hN:N<=N':=by omega):kW N' Γ' v:=by
 rcases h with h|⟨b,n,full,ss,h1,h2,h3,h4,h5,h6⟩
 ·exact .inl h
 ·exact .inr ⟨b,n,full,ss,h1,hs b ss (λe=>by subst e;simp at h3;omega) h2,h3,h4,by omega,h6⟩
theorem kW.not_str{Γ:GH}{s:List UInt8}(h:kW N Γ (.str s)):False:=by
 rcases h with h|⟨b,n,full,ss,h1,_⟩
 ·cases h
 ·cases h1
theorem jG{Γ:GH}{b vb:Nat}{cs:List qa}{ss:List (List UInt8)}(hv:Γ vb=some cs)(hl:cs.length=7)(hc:∀c,c∈cs->kW N Γ c)(hn:ss≠[])(hb:Γ b=some (ss.map .str)):b≠vb:=by
 intro e;subst e;rw [hv]at hb;cases hb
 cases ss with
 |nil=>exact hn rfl
 |cons s ss=>exact(hc (.str s) (by simp)).not_str
end
theorem kt{Γ:GH}{b k vb:Nat}{raw:qa}{a names loops size r:Int}{full calls:Bool}{out:List UInt8}{ss:List (List UInt8)}(hk:Γ k=some (mkC raw a vb full names loops size out r calls))(hb:Γ b=some (ss.map .str)):b≠k:=by
 intro e;subst e;rw [hk]at hb;cases ss with
 |nil=>cases hb
 |cons s ss=>cases ss<;>simp at hb
theorem wE{Γ:GH}{k vb:Nat}{raw:qa}{a names loops size r:Int}{full calls:Bool}{out:List UInt8}{cs:List qa}(hk:Γ k=some (mkC raw a vb full names loops size out r calls))(hv:Γ vb=some cs)(hl:cs.length=7):vb≠k:=by
 intro e;subst e;rw [hk]at hv;cases hv;simp at hl
section
variable{raw:qa}{rl:List Int}{k n0 vb c N U L:Nat}{r:Int}{Γ0:GH}{H:qd}{nx:Nat}{K:qv}
theorem MS.more(S:MS Z raw rl k Γ0 n0 vb c r N U L H nx){nx':Nat}(h:nx<=nx'):MS Z raw rl k Γ0 n0 vb c r N U L H nx':=
 let⟨h0,h1,h2,Γ,h3,h4,h5⟩:=S;⟨Nat.le_trans h0 h,h1,h2,Γ,h3.more h,h4,h5⟩
theorem MS.le(S:MS Z raw rl k Γ0 n0 vb c r N U L H nx){N' U' L':Nat}(hN:N'<=N)(hU:U<=U')(hU':U'<=25)(h:L<=L'):MS Z raw rl k Γ0 n0 vb c r N' U' L' H nx:=
 let⟨h0,h1,h2,Γ,h3,h4,a,full,names,loops,size,out,calls,e,e1,e2,e3,e4,e5,e6,h6⟩:=S
 ⟨h0,h1,h2,Γ,h3,h4,a,full,names,loops,size,out,calls,e,e1,Nat.le_trans hN e2,Nat.le_trans e3 hU,e4,Nat.le_trans e5 h,⟨e6.1,hU'⟩,h6⟩
theorem MS.u25(S:MS Z raw rl k Γ0 n0 vb c r N U L H nx):U<=25/\c<=3:=let⟨_,_,_,_,_,_,_,_,_,_,_,_,_,_,_,_,_,_,_,e6,_⟩:=S;⟨e6.2,e6.1⟩
theorem vR{Γ0 Γ1:GH}(h:∀b cs,Γ1 b=some cs->Γ0 b=some cs){b:Nat}(hb:Γ0 b=none):Γ1 b=none:=by
 cases e:Γ1 b with
 |none=>rfl
 |some cs=>rw [h _ _ e]at hb;cases hb
theorem MS.sub(S:MS Z raw rl k Γ0 n0 vb c r N U L H nx){Γ1:GH}(h:∀b cs,Γ1 b=some cs->Γ0 b=some cs):MS Z raw rl k Γ1 n0 vb c r N U L H nx:=
 let⟨h0,h1,h2,Γ,h3,h4,h5⟩:=S
 ⟨h0,vR h h1,vR h h2,Γ,h3,λb cs e=>h4 b cs (h b cs e),h5⟩
theorem MS.ld(S:MS Z raw rl k Γ0 n0 vb c r N U L H nx){b:Nat}{cs:List qa}(e:Γ0 b=some cs)(off:Nat):ld1 H (.ptr b off)=cs[off]?:=
 let⟨_,_,_,Γ,h3,h4,_⟩:=S;h3.ld1 (h4 b cs e) off
theorem MS.new(S:MS Z raw rl k Γ0 n0 vb c r N U L H nx){i nx':Nat}(hi:nx<=i)(hi':i<nx')(cs:List qa):MS Z raw rl k (gup i (some cs) Γ0) n0 vb c r N U L (qo i cs H) nx'/\∀b ds,Γ0 b=some ds->gup i (some cs) Γ0 b=some ds:=by
 obtain⟨h0,h1,h2,Γ,h3,h4,a,full,names,loops,size,out,calls,e,e1,e2,e3,e4,e5,e6,ds,d1,d2,d4,d3⟩:=S
 have hn:Γ i=none:=h3.non hi
 have up:∀b cs',Γ b=some cs'->gup i (some cs) Γ b=some cs':=λb cs' e=>(qg (neK e hn)).trans e
 refine⟨⟨by omega,(qg (neK e hn)).trans h1,(qg (neK d1 hn)).trans h2,gup i (some cs) Γ,h3.new hi hi' cs,λb cs' e=> ?_,a,full,names,loops,size,out,calls,up _ _ e,e1,e2,e3,e4,e5,e6,ds,up _ _ d1,d2,d4,λx hx=>(d3 x hx).mono λb ss _ hb=>up _ _ hb⟩,λb ds e=> ?_⟩
 ·by_cases hb:b=i
  ·subst hb;rw [qf]at e ⊢;exact e
  ·rw [qg hb]at e ⊢;exact h4 _ _ e
 ·exact(qg (neK (h4 _ _ e) hn)).trans e
theorem MS.scr(S:MS Z raw rl k Γ0 n0 vb c r N U L H nx){i nx':Nat}(hi:nx<=i)(hi':i<nx'){cs:List qa}{p:qd->Prop}(hK:∀H',MS Z raw rl k (gup i (some cs) Γ0) n0 vb c r N U L H' nx'->(∀b ds,Γ0 b=some ds->gup i (some cs) Γ0 b=some ds)->p H'):∃H0,H0=qo i cs H/\p H0:=
 ⟨_,rfl,hK _ (S.new hi hi' cs).1 (S.new hi hi' cs).2⟩
theorem MS.cells(S:MS Z raw rl k Γ0 n0 vb c r N U L H nx):∃(a:Nat) (full:Bool) (names:Nat) (loops size:Int) (out:List UInt8) (calls:Bool),a<=rl.length/\N<=names/\names<=U/\r<=6/\out.length<=L/\U<=25/\
  ld1 H (.ptr k 0)=some raw/\ld1 H (.ptr k 1)=some (iv a)/\ld1 H (.ptr k 2)=some (.slice vb 0 7 1 full)/\ld1 H (.ptr k 3)=some (iv names)/\ld1 H (.ptr k 4)=some (iv loops)/\ld1 H (.ptr k 5)=some (iv size)/\ld1 H (.ptr k 6)=some (.str out)/\ld1 H (.ptr k 7)=some (iv r)/\ld1 H (.ptr k 8)=some (.bool calls)/\
  MS Z raw rl k Γ0 n0 vb c r names names L H nx:=by
 have S':=S
 obtain⟨h0,h1,h2,Γ,h3,h4,a,full,names,loops,size,out,calls,e,e1,e2,e3,e4,e5,e6,h6⟩:=S
 have T:MS Z raw rl k Γ0 n0 vb c r names names L H nx:=⟨h0,h1,h2,Γ,h3,h4,a,full,names,loops,size,out,calls,e,e1,Nat.le_refl _,Nat.le_refl _,e4,e5,⟨e6.1,Nat.le_trans e3 e6.2⟩,h6⟩
 refine⟨a,full,names,loops,size,out,calls,e1,e2,e3,e4,e5,e6.2,?_,?_,?_,?_,?_,?_,?_,?_,?_,T⟩
 all_goals (rw [h3.ld1 e];rfl)
theorem MS.set(S:MS Z raw rl k Γ0 n0 vb c r N U L H nx){N' U' L' j:Nat}{v:qa}{p:qd->Prop}(hU:U'<=25)(hj:j<9)(hv:qI v=true)
  (hc:∀(a:Nat) (full:Bool) (names:Nat) (loops size:Int) (out:List UInt8) (calls:Bool),a<=rl.length->N<=names->names<=U->r<=6->out.length<=L->
   ld1 H (.ptr k 1)=some (iv a)->ld1 H (.ptr k 3)=some (iv names)->ld1 H (.ptr k 6)=some (.str out)->
   ∃(a':Nat) (full':Bool) (names':Nat) (loops' size':Int) (out':List UInt8) (calls':Bool),(mkC raw a vb full names loops size out r calls).set j v=mkC raw a' vb full' names' loops' size' out' r calls'/\a'<=rl.length/\N'<=names'/\names<=names'/\names'<=U'/\r<=6/\out'.length<=L')
  (hK:∀H',MS Z raw rl k Γ0 n0 vb c r N' U' L' H' nx->p H'):∃H1,stC H (.ptr k j) [v]=some H1/\p H1:=by
 obtain⟨h0,h1,h2,Γ,h3,h4,a,full,names,loops,size,out,calls,e,e1,e2,e3,e4,e5,e6,ds,d1,d2,d4,d3⟩:=S
 obtain⟨a',full',names',loops',size',out',calls',f,f1,f2,f3,f4,f5,f6⟩:=hc a full names loops size out calls e1 e2 e3 e4 e5 (by rw [h3.ld1 e];rfl) (by rw [h3.ld1 e];rfl) (by rw [h3.ld1 e];rfl)
 refine vo h3 e (by simpa using hj) hv λH' hk'=>hK H' ?_
 rw [f]at hk';have hne:=wE e d1 d2
 refine⟨h0,h1,h2,_,hk',λb cs' e'=> ?_,a',full',names',loops',size',out',calls',qf _ _ _,f1,f2,f4,f5,f6,⟨e6.1,hU⟩,ds,(qg hne).trans d1,d2,d4,λx hx=>(d3 x hx).mono λb ss _ hb=>(qg (kt e hb)).trans hb⟩
 have:b≠k:=λx=>by subst x;rw [h1]at e';cases e'
 exact(qg this).trans (h4 _ _ e')
theorem MS.setAt(S:MS Z raw rl k Γ0 n0 vb c r N U L H nx){a:Nat}(ha:a<=rl.length){p:qd->Prop}(hK:∀H',MS Z raw rl k Γ0 n0 vb c r N U L H' nx->ld1 H' (.ptr k 1)=some (iv a)->p H'):∃H1,stC H (.ptr k 1) [iv a]=some H1/\p H1:=by
 obtain⟨h0,h1,h2,Γ,h3,h4,a0,full,names,loops,size,out,calls,e,e1,e2,e3,e4,e5,e6,ds,d1,d2,d4,d3⟩:=S
 refine vo h3 e (by simp) rfl λH' hk'=>hK H' ?_ (by rw [hk'.ld1 (qf _ _ _)];rfl)
 have hne:=wE e d1 d2
 refine⟨h0,h1,h2,_,hk',λb cs' e'=> ?_,a,full,names,loops,size,out,calls,qf _ _ _,ha,e2,e3,e4,e5,e6,ds,(qg hne).trans d1,d2,d4,λx hx=>(d3 x hx).mono λb ss _ hb=>(qg (kt e hb)).trans hb⟩
 have:b≠k:=λx=>by subst x;rw [h1]at e';cases e'
 exact(qg this).trans (h4 _ _ e')
theorem MS.setLoops(S:MS Z raw rl k Γ0 n0 vb c r N U L H nx){n:Int}{p:qd->Prop}(hK:∀H',MS Z raw rl k Γ0 n0 vb c r N U L H' nx->p H'):∃H1,stC H (.ptr k 4) [iv n]=some H1/\p H1:=
 S.set S.u25.1 (by omega) rfl (λa full names loops size out calls e1 e2 e3 e4 e5 _ _ _=>⟨a,full,names,n,size,out,calls,rfl,e1,e2,Nat.le_refl _,e3,e4,e5⟩) hK
theorem MS.setSize(S:MS Z raw rl k Γ0 n0 vb c r N U L H nx){n:Int}{p:qd->Prop}(hK:∀H',MS Z raw rl k Γ0 n0 vb c r N U L H' nx->p H'):∃H1,stC H (.ptr k 5) [iv n]=some H1/\p H1:=
 S.set S.u25.1 (by omega) rfl (λa full names loops size out calls e1 e2 e3 e4 e5 _ _ _=>⟨a,full,names,loops,n,out,calls,rfl,e1,e2,Nat.le_refl _,e3,e4,e5⟩) hK
theorem MS.setOut(S:MS Z raw rl k Γ0 n0 vb c r N U L H nx){s:List UInt8}{L':Nat}(hs:s.length<=L'){p:qd->Prop}(hK:∀H',MS Z raw rl k Γ0 n0 vb c r N U L' H' nx->p H'):∃H1,stC H (.ptr k 6) [.str s]=some H1/\p H1:=
 S.set S.u25.1 (by omega) rfl (λa full names loops size out calls e1 e2 e3 e4 e5 _ _ _=>⟨a,full,names,loops,size,s,calls,rfl,e1,e2,Nat.le_refl _,e3,e4,hs⟩) hK
theorem jF(R:Zs raw rl)(S:MS Z raw rl k Γ0 n0 vb c r N U L H nx){m:Int}(h0:0<m)(h1:m<=4611686018427387904)(hK:∀n H' nx',nx<=nx'->MS Z raw rl k Γ0 n0 vb c r N U L H' nx'->0<=n->n<m->K (.ret (iv n)) H' nx'):qk PG qO [.ptr k 0,iv m] H nx K:=by
 refine qk.of_body qr ?_
 rw [Y2];obtain⟨a,full,names,loops,size,out,calls,b1,b2,b3,b4,b5,b6,c0,c1,_⟩:=S.cells
 have hf:=R.few
 refine⟨rfl,_,rfl,_,c1,rfl,_,rfl,_,c0,_,R.arg.1,⟨⟨_,c1,rfl⟩,⟨_,c0,rfl⟩,trivial⟩,qi.2 ⟨λh=>hK 0 _ _ (by omega) (S.more (by omega)) (by omega) h0,λh=> ?_⟩⟩
 have h:¬(rl.length:Int)<=a:=of_decide_eq_false h
 refine⟨rfl,_,rfl,_,c1,rfl,_,rfl,rfl,?_⟩
 rw [show i64.wrap ((a:Int)+1)=((a+1:Nat):Int) by rw [qw (by omega) (by omega)];omega]
 refine S.setAt (by omega) λH1 S1 c1'=> ?_
 obtain⟨_,_,_,_,_,_,_,_,_,_,_,_,_,c0,_⟩:=S1.cells
 obtain⟨q,q1,q2⟩:=R.arg.2 a (by omega)
 have ew:i64.wrap (((a+1:Nat):Int) - 1)=(a:Int):=by rw [qw (by omega) (by omega)];omega
 refine⟨rfl,_,rfl,_,c0,rfl,_,rfl,_,c1',by rw [ew];omega,q,by rw [ew,Int.toNat_natCast];exact q1,_,q2 _,⟨⟨_,c0,rfl⟩,⟨_,c1',rfl⟩,⟨_,q2 _,rfl⟩,trivial⟩,?_⟩
 exact Q1 h0 h1 (qb.2 ⟨_,rfl,trivial,hK _ _ _ (by omega) (S1.more (by omega)) (ye h0).1 (ye h0).2⟩)
theorem MS.rowAt(S:MS Z raw rl k Γ0 n0 vb c r N U L H nx){t:Nat}(ht:t<7):∃full v,ld1 H (.ptr k 2)=some (.slice vb 0 7 1 full)/\zq (.slice vb 0 7 1 full) t 1=some (.ptr vb t)/\ld1 H (.ptr vb t)=some v/\
  (v= .nilSlice\/∃(b n:Nat) (fl:Bool) (ss:List (List UInt8)),v= .slice b 0 n 1 fl/\0<n/\n<=ss.length/\n<=28/\(∀s,s∈ss->s.length<=20)/\MS Z raw rl k (gup b (some (ss.map .str)) Γ0) n0 vb c r N U L H nx/\∀b' cs',Γ0 b'=some cs'->gup b (some (ss.map .str)) Γ0 b'=some cs'):=by
 obtain⟨h0,h1,h2,Γ,h3,h4,a,full,names,loops,size,out,calls,e,e1,e2,e3,e4,e5,e6,ds,d1,d2,d4,d3⟩:=S
 have hlt:t<ds.length:=by omega
 refine⟨full,ds[t],by rw [h3.ld1 e];rfl,by rw [zW ht];simp,by rw [h3.ld1 d1];simp [hlt],?_⟩
 rcases d3 ds[t] (List.getElem_mem hlt)with h|⟨b,n,fl,ss,q1,q2,q3,q4,q5,q6⟩
 ·exact .inl h
 ·have hne:ss≠[]:=λe=>by subst e;simp at q3;omega
  have hbk:=kt e q2
  have hbv:=jG d1 d2 d3 hne q2
  have hs:∀b' cs',Γ0 b'=some cs'->gup b (some (ss.map .str)) Γ0 b'=some cs':=λb' cs' e'=>by
   by_cases hb:b'=b
   ·subst hb;rw [qf,<-q2,h4 _ _ e']
   ·rw [qg hb];exact e'
  refine .inr ⟨b,n,fl,ss,q1,q4,q3,by omega,q6,⟨h0,(qg (Ne.symm hbk)).trans h1,(qg (Ne.symm hbv)).trans h2,Γ,h3,λb' cs' e'=> ?_,a,full,names,loops,size,out,calls,e,e1,e2,e3,e4,e5,e6,ds,d1,d2,d4,d3⟩,hs⟩
  by_cases hb:b'=b
  ·subst hb;rw [qf]at e';rw [q2];exact e'
  ·rw [qg hb]at e';exact h4 _ _ e'
theorem qms(R:Zs raw rl)(S:MS Z raw rl k Γ0 n0 vb c r N U L H nx){t:Int}(h0:0<=t)(h1:t<7)(hK:∀s H' nx',nx<=nx'->MS Z raw rl k Γ0 n0 vb c r N U L H' nx'->s.length<=20->K (.ret (.str s)) H' nx'):qk PG Zw [.ptr k 0,iv t] H nx K:=by
 refine qk.of_body qr ?_
 rw [qis];obtain⟨full,v,c2,i1,i2,hv⟩:=S.rowAt (t:=t.toNat) (by omega)
 refine⟨rfl,_,rfl,_,c2,h0,_,i1,_,i2,?_⟩
 rcases hv with rfl|⟨b,n,fl,ss,rfl,q1,q2,q3,q4,S1,hs⟩
 ·exact⟨0,rfl,qK rfl (hK _ _ _ lR S (by simp))⟩
 ·refine⟨n,rfl,qH (decide_eq_false (show¬(n:Int)=0 by omega)) ⟨n,rfl,?_⟩⟩
  refine jF R S1 (m:=Int.ofNat n) (by show(0:Int)<(n:Int);omega) (by show(n:Int)<=_;omega) λj H1 nx1 g1 S2 g2 g3=>qb.2 ⟨_,rfl,g2,?_⟩
  have g3:j<(n:Int):=g3
  have hj:j.toNat<n:=by omega
  refine⟨_,zW hj,ss[j.toNat]'(by omega),?_,hK _ _ _ g1 (S2.sub hs) (q4 _ (List.getElem_mem _))⟩
  rw [S2.ld (qf _ _ _)];simp [show j.toNat<ss.length by omega]
theorem qmh(cs:List qa)(off:Nat):jM PG kV cs off=(match List.drop off cs with|v::_=>some v|[]=>none):=by kernel_rfl
theorem kM(ss:List (List UInt8)){c B:Nat}(hl:ss.length=c){j:Int}(h0:0<=j)(h1:j<c)(hB:(ss.all λs=>Nat.ble s.length B)=true){p:List UInt8->Prop}(hK:∀s,s.length<=B->p s):
  0<=j/\j.toNat<c/\∃s,jM PG kV (ss.map .str) (j.toNat*1)=some (.str s)/\p s:=by
 have hj:j.toNat<ss.length:=by omega
 refine⟨h0,by omega,ss[j.toNat],?_,hK _ (Nat.le_of_ble_eq_true (List.all_eq_true.1 hB _ (List.getElem_mem hj)))⟩
 rw [qmh,Nat.mul_one,<-List.map_drop,List.drop_eq_getElem_cons hj]
 rfl
theorem V8(R:Zs raw rl)(S:MS Z raw rl k Γ0 n0 vb c r N U L H nx){t:Int}(h0:0<=t)(h1:t<7)(hK:∀s H' nx',nx<=nx'->MS Z raw rl k Γ0 n0 vb c r N U L H' nx'->s.length<=20->K (.ret (.str s)) H' nx'):qk PG zP [.ptr k 0,iv t] H nx K:=by
 refine qk.of_body qr ?_
 rw [qb6];refine qms R S h0 h1 λs H nx2 g S hs=>qb.2 ⟨_,rfl,?_⟩
 refine qi.2 ⟨λ_=>jF R S (by omega) (by omega) λn H nx3 g2 S g3 g4=>qb.2 ⟨_,rfl,qi.2 ⟨λ_=>hK _ _ _ (by omega) S hs,λ_=> ?_⟩⟩,λ_=> ?_⟩
 all_goals refine qi.2 ⟨λ_=> ?_,λ_=>qi.2 ⟨λ_=> ?_,λ_=>qi.2 ⟨λ_=> ?_,λ_=>qi.2 ⟨λ_=>hK _ _ _ (by omega) S (by decide),λ_=>qi.2 ⟨λ_=>hK _ _ _ (by omega) S (by decide),λ_=>qi.2 ⟨λ_=>hK _ _ _ (by omega) S (by decide),λ_=>hK _ _ _ (by omega) S (by decide)⟩⟩⟩⟩⟩⟩
 all_goals first
  |(refine⟨rfl,rfl,rfl,rfl,rfl,rfl,rfl,rfl,rfl,jF R S (by omega) (by omega) λn H nx4 g5 S g6 g7=>qb.2 ⟨_,rfl,?_⟩⟩;exact kM [[48],[49],[50],[51],[55],[49,48],[57,50,50,51,51,55,50,48,51,54,56,53,52,55,55,53,56,48,55],[40,45,49,41],[49,48,48]] (B:=20) rfl g6 g7 rfl λs hs=>hK _ _ _ (by omega) S hs)
  |(refine⟨rfl,rfl,rfl,rfl,jF R S (by omega) (by omega) λn H nx4 g5 S g6 g7=>qb.2 ⟨_,rfl,?_⟩⟩;exact kM [[34,34],[34,97,34],[34,98,99,34],[34,97,34]] (B:=20) rfl g6 g7 rfl λs hs=>hK _ _ _ (by omega) S hs)
  |(refine⟨rfl,rfl,jF R S (by omega) (by omega) λn H nx4 g5 S g6 g7=>qb.2 ⟨_,rfl,?_⟩⟩;exact kM [[116,114,117,101],[102,97,108,115,101]] (B:=20) rfl g6 g7 rfl λs hs=>hK _ _ _ (by omega) S hs)
end
section
variable{raw:qa}{rl:List Int}{k n0 vb c N U L:Nat}{r:Int}{Γ0:GH}{H:qd}{nx:Nat}{K:qv}
theorem WF(cs:List qa)(off:Nat):jM PG qgs cs off=(match List.drop off cs with|v::_=>some v|[]=>none):=by kernel_rfl
def EB:Nat->Nat
 |0=>20
 |d+1=>3*EB d+40
def qdm(Z:Nat->Prop)(raw:qa)(rl:List Int)(k:Nat)(Γ0:GH)(n0 vb c:Nat)(r:Int)(N U L B:Nat)(nx:Nat)(K:qv):Prop:=
 ∀s H' nx',nx<=nx'->MS Z raw rl k Γ0 n0 vb c r N U L H' nx'->s.length<=B->K (.ret (.str s)) H' nx'
theorem aP6{j:Int}(h0:0<=j)(h1:j<6){p:List UInt8->Prop}(hK:∀s,s.length<=20->p s):
  ∃s,jM PG kV [u3 [32,60,32],u3 [32,60,61,32],u3 [32,62,32],u3 [32,62,61,32],u3 [32,61,61,32],u3 [32,33,61,32]] (j.toNat*1)=some (.str s)/\p s:=
 (kM [[32,60,32],[32,60,61,32],[32,62,32],[32,62,61,32],[32,61,61,32],[32,33,61,32]] (B:=20) rfl h0 h1 rfl hK).2.2
theorem aP2{j:Int}(h0:0<=j)(h1:j<2){p:List UInt8->Prop}(hK:∀s,s.length<=20->p s):
  ∃s,jM PG kV [u3 [32,61,61,32],u3 [32,33,61,32]] (j.toNat*1)=some (.str s)/\p s:=
 (kM [[32,61,61,32],[32,33,61,32]] (B:=20) rfl h0 h1 rfl hK).2.2
theorem aP4{j:Int}(h0:0<=j)(h1:j<4){p:List UInt8->Prop}(hK:∀s,s.length<=20->p s):
  ∃s,jM PG kV [u3 [32,60,32],u3 [32,61,61,32],u3 [32,62,61,32],u3 [32,33,61,32]] (j.toNat*1)=some (.str s)/\p s:=
 (kM [[32,60,32],[32,61,61,32],[32,62,61,32],[32,33,61,32]] (B:=20) rfl h0 h1 rfl hK).2.2
theorem aPi{j:Int}(h0:0<=j)(h1:j<2){p:Int->Prop}(hK:∀n,0<=n->n<7->p n):∃n,jM PG qgs [iv 4,iv 6] (j.toNat*1)=some (iv n)/\p n:=by
 have:j=0\/j=1:=by omega
 rcases this with rfl|rfl
 ·exact⟨4,by rw [WF];rfl,hK _ (by omega) (by omega)⟩
 ·exact⟨6,by rw [WF];rfl,hK _ (by omega) (by omega)⟩
theorem MS.calls(S:MS Z raw rl k Γ0 n0 vb c r N U L H nx){p:Bool->Prop}(hK:∀b,p b):∃v,jl (.ptr k 0) 8=some v/\∃b,ld1 H v=some (.bool b)/\p b:=
 let⟨_,_,_,_,_,_,_,_,_,_,_,_,_,_,_,_,_,_,_,_,_,c8,_⟩:=S.cells;⟨_,rfl,_,c8,hK _⟩
set_option maxHeartbeats 4000000 in
theorem qgh(R:Zs raw rl){D:Nat}(hD:D+1<=3)(S:MS Z raw rl k Γ0 n0 vb c r N U L H nx){t d:Int}(ht0:0<=t)(ht1:t<7)(hd:d.toNat<=D+1)
  (ih:∀{Γ0:GH} {H:qd} {nx:Nat} {K:qv} {t d:Int},MS Z raw rl k Γ0 n0 vb c r N U L H nx->0<=t->t<7->d.toNat<=D->qdm Z raw rl k Γ0 n0 vb c r N U L (EB D) nx K->qk PG qP [.ptr k 0,iv t,iv d] H nx K)
  (hK:qdm Z raw rl k Γ0 n0 vb c r N U L (EB (D+1)) nx K):qk PG qP [.ptr k 0,iv t,iv d] H nx K:=by
 refine qk.of_body qr ?_
 rw [Kb];have hE:EB (D+1)=3*EB D+40:=rfl
 have hE2:EB D<=100000:=by
  have:D=0\/D=1\/D=2:=by omega
  rcases this with rfl|rfl|rfl<;>decide
 have hE3:20<=EB D:=by
  have:D=0\/D=1\/D=2:=by omega
  rcases this with rfl|rfl|rfl<;>decide
 refine⟨rfl,S.scr (nx':=nx+1) lR (by omega) λH0 S0 s0=>⟨rfl,S0.scr (nx':=nx+1+1) lR (by omega) λH1 S1 s1=> ?_⟩⟩
 obtain⟨Γ1,e1⟩:∃Γ1,Γ1=gup (nx+1) (some [iv d]) (gup nx (some [.ptr k 0]) Γ0):=⟨_,rfl⟩
 replace S1:MS Z raw rl k Γ1 n0 vb c r N U L H1 (nx+1+1):=by rw [e1];exact S1
 have gd:Γ1 (nx+1)=some [iv d]:=by rw [e1,qf]
 have gk:Γ1 nx=some [.ptr k 0]:=by rw [e1,qg (by omega),qf]
 have ss:∀b ds,Γ0 b=some ds->Γ1 b=some ds:=λb ds e=>by rw [e1];exact s1 _ _ (s0 _ _ e)
 clear e1 s0 s1 S0;have kp:∀{H:qd} {m:Nat},MS Z raw rl k Γ1 n0 vb c r N U L H m->ld1 H (.ptr nx 0)=some (.ptr k 0):=λS=>S.ld gk 0
 have dp:∀{H:qd} {m:Nat},MS Z raw rl k Γ1 n0 vb c r N U L H m->ld1 H (.ptr (nx+1) 0)=some (iv d):=λS=>S.ld gd 0
 obtain⟨_,_,_,_,_,_,_,_,_,_,_,_,_,_,_,_,_,_,c5,_⟩:=S1.cells
 refine⟨_,kp S1,rfl,_,rfl,_,c5,rfl,_,rfl,rfl,S1.setSize λH6 S=>⟨_,dp S,?_⟩⟩
 have lf:∀{H:qd} {m m':Nat},MS Z raw rl k Γ1 n0 vb c r N U L H m->nx<=m->m<=m'->∃v,ld1 H (.ptr nx 0)=some v/\qk PG zP [v,iv t] H m' (λe H m=>qc e (λv=>∃s,v= .str s/\K (.ret (.str s)) H m) λl=>K (.pan l) H m):=λS h h'=>
  ⟨_,kp S,V8 R (S.more h') ht0 ht1 λs H m g S hs=>qb.2 ⟨_,rfl,hK _ _ _ (by omega) (S.sub ss) (by omega)⟩⟩
 have n_:∀{p:Int} {H:qd} {m m':Nat} {K':qv},MS Z raw rl k Γ1 n0 vb c r N U L H m->m<=m'->0<p->p<=4611686018427387904->(∀n H' nx',m'<=nx'->MS Z raw rl k Γ1 n0 vb c r N U L H' nx'->0<=n->n<p->K' (.ret (iv n)) H' nx')->∃v,ld1 H (.ptr nx 0)=some v/\qk PG qO [v,iv p] H m' K':=λS h h1 h2 hK=>
  ⟨_,kp S,jF R (S.more h) h1 h2 hK⟩
 obtain⟨_,_,_,_,_,_,_,_,_,_,_,_,_,d0,d1,_,_,_,d5,_⟩:=S.cells
 refine qi.2 ⟨λ_=>⟨⟨⟨_,dp S,rfl⟩,rfl,rfl,rfl,rfl,rfl,rfl,trivial⟩,lf S (by omega) (by omega)⟩,λhdp=>⟨_,kp S,rfl,_,rfl,_,d5,qi.2 ⟨λ_=>⟨⟨⟨_,dp S,rfl⟩,⟨_,kp S,rfl⟩,⟨_,d5,rfl⟩,rfl,rfl,rfl,rfl,trivial⟩,lf S (by omega) (by omega)⟩,λ_=> ?_⟩⟩⟩
 have hdp:¬d<=0:=of_decide_eq_false hdp
 refine⟨_,kp S,rfl,_,rfl,_,d1,_,kp S,rfl,_,rfl,_,d0,_,R.arg.1,⟨⟨_,dp S,rfl⟩,⟨_,kp S,rfl⟩,⟨_,d5,rfl⟩,⟨_,kp S,rfl⟩,⟨_,d1,rfl⟩,⟨_,kp S,rfl⟩,⟨_,d0,rfl⟩,trivial⟩,qi.2 ⟨λ_=>lf S (by omega) (by omega),λ_=> ?_⟩⟩
 have e_:∀{t':Int} {H:qd} {m m':Nat} {K':qv},MS Z raw rl k Γ1 n0 vb c r N U L H m->m<=m'->0<=t'->t'<7->(∀s H' nx',m'<=nx'->MS Z raw rl k Γ1 n0 vb c r N U L H' nx'->s.length<=EB D->K' (.ret (.str s)) H' nx')->
   ∃x l,some (Ke,[iv t',u0 nx 0,u0 (nx+1) 0])=some (x,l)/\qk PG x l H m' K':=λ{t'} {H} {m} {m'} {K'} S h h0 h1 hK=>by
  refine⟨_,_,rfl,qk.of_body qr ?_⟩
  rw [Wm];refine⟨_,kp S,_,dp S,?_⟩
  rw [qw (by omega) (by omega)]
  exact ih (S.more h) h0 h1 (by omega) λs H' nx' g S hs=>qb.2 ⟨_,rfl,hK s H' nx' g S hs⟩
 clear ih S1 c5 d0 d1 d5;have hm:nx<=nx+1+1:=by omega
 unfold qdm at hK
 repeat' (with_reducible first
  |exact lf S (by omega) (by omega)
  |(refine qi.2 ⟨λ_=> ?_,λ_=> ?_⟩)
  |(refine e_ S (by omega) (by omega) (by omega) λs H m g S hs=>qb.2 ⟨_,rfl,?_⟩)
  |(refine n_ S (by omega) (by omega) (by omega) λn H m g S h0 h1=>qb.2 ⟨_,rfl,?_⟩)
  |(refine jF R S (by omega) (by omega) λn H m g S h0 h1=>qb.2 ⟨_,rfl,?_⟩)
  |exact hK _ _ _ (by omega) (S.sub ss) (by first|omega|(simp only [List.length_append,List.length_cons,List.length_nil];omega)|(show(_:Nat)<=_;simp only [List.length_cons,List.length_nil];omega))
  |(refine And.intro (by first|omega|(simp only [List.length_append,List.length_cons,List.length_nil];omega)) ?_)
  |(refine And.intro (And.intro (Exists.intro _ (And.intro (kp S) rfl)) True.intro) ?_)
  |(refine And.intro True.intro ?_)
  |(refine And.intro rfl ?_)
  |(refine S.calls λb=> ?_)
  |(refine aP6 h0 h1 λs hs=> ?_)
  |(refine aP4 h0 h1 λs hs=> ?_)
  |(refine aP2 h0 h1 λs hs=> ?_)
  |(refine aPi h0 h1 λn h0 h1=> ?_)
  |(refine Exists.intro _ (And.intro (kp S) ?_)))
theorem Yt(R:Zs raw rl):∀(D:Nat) {Γ0:GH} {H:qd} {nx:Nat} {K:qv} {t d:Int},D<=3->MS Z raw rl k Γ0 n0 vb c r N U L H nx->0<=t->t<7->d.toNat<=D->qdm Z raw rl k Γ0 n0 vb c r N U L (EB D) nx K->qk PG qP [.ptr k 0,iv t,iv d] H nx K
 |0,Γ0,H,nx,K,t,d,_,S,h0,h1,hd,hK=>by
  refine qk.of_body qr ?_
  rw [Kb];refine⟨rfl,S.scr (nx':=nx+1) lR (by omega) λH0 S0 s0=>⟨rfl,S0.scr (nx':=nx+1+1) lR (by omega) λH1 S1 s1=> ?_⟩⟩
  have gd:gup (nx+1) (some [iv d]) (gup nx (some [.ptr k 0]) Γ0) (nx+1)=some [iv d]:=by rw [qf]
  have gk:gup (nx+1) (some [iv d]) (gup nx (some [.ptr k 0]) Γ0) nx=some [.ptr k 0]:=by rw [qg (by omega),qf]
  obtain⟨_,_,_,_,_,_,_,_,_,_,_,_,_,_,_,_,_,_,c5,_⟩:=S1.cells
  refine⟨_,S1.ld gk 0,rfl,_,rfl,_,c5,rfl,_,rfl,rfl,S1.setSize λH6 S=>⟨_,S.ld gd 0,?_⟩⟩
  refine qi.2 ⟨λ_=>⟨⟨⟨_,S.ld gd 0,rfl⟩,rfl,rfl,rfl,rfl,rfl,rfl,trivial⟩,_,S.ld gk 0,V8 R (S.more (by omega)) h0 h1 λs H m g S hs=>qb.2 ⟨_,rfl,hK _ _ _ (by omega) (S.sub λb ds e=>s1 _ _ (s0 _ _ e)) hs⟩⟩,λh=> ?_⟩
  have h:¬d<=0:=of_decide_eq_false h
  omega
 |D+1,Γ0,H,nx,K,t,d,hD,S,h0,h1,hd,hK=>qgh R hD S h0 h1 hd (λS h0 h1 hd hK=>Yt R D (by omega) S h0 h1 hd hK) hK
end
section
variable{raw:qa}{rl:List Int}{k n0 vb c N U L:Nat}{r:Int}{Γ0 Γ:GH}{H:qd}{nx:Nat}{K:qv}
theorem qea{n:Int}(h0:0<=n)(h1:n<=100)(hK:∀s,s.length<=100->K (.ret (.str s)) H nx):qk PG Xh [.ptr k 0,iv n] H nx K:=by
 refine qk.of_body qr ?_
 rw [qaa];obtain⟨m,rfl⟩:∃m:Nat,n=m:=⟨n.toNat,by omega⟩
 refine zu (P:=PG) (X:=Nat×List UInt8) (Y:=List UInt8) (λx=>qj .und [(6,iv x.1),(5,.str x.2),(1,iv m),(0,.ptr k 0)]) (λs=>qj .und [(6,iv m),(5,.str s),(1,iv m),(0,.ptr k 0)])
  (λr x H1 nx1=>r=m - x.1/\x.1<=m/\x.2.length=x.1/\H1=H/\nx1=nx) (λid s H1 nx1=>id=0/\s.length=m/\H1=H/\nx1=nx) m (0,[]) (ql.okay) ⟨rfl,by omega,rfl,rfl,rfl⟩ ?_ ?_
 ·rintro r ⟨i,s⟩ H1 nx1 ⟨rfl,hi,hs,rfl,rfl⟩
  dsimp only at hi hs
  refine WpP.part (ts:=[0,1,5,6]) qr ?_
  rw [qij];refine qi.2 ⟨λh=> ?_,λh=> ?_⟩
  ·have h:(i:Int)<m:=of_decide_eq_true h
   refine⟨by(show s.length+1<=_);omega,rfl,m - (i+1),(i+1,s++[9]),by show _<m - i;omega,?_,rfl,by show i+1<=m;omega,by simp [hs],rfl,rfl⟩
   rw [qw (by omega) (by omega)]
   exact ql.okay
  ·have h:¬(i:Int)<m:=of_decide_eq_false h
   have:i=m:=by omega
   subst this;exact⟨rfl,s,ql.okay,rfl,hs,rfl,rfl⟩
 ·rintro id s H1 nx1 ⟨rfl,hs,rfl,rfl⟩
  rw [qje];exact hK s (by omega)
theorem qae(S:MS Z raw rl k Γ0 n0 vb c r N U L H nx){n:Int}{s:List UInt8}{L':Nat}(h0:0<=n)(h1:n<=100)(hL:L+s.length+101<=L')(hL':L'<=1000000000000)
  (hK:∀H' nx',nx<=nx'->MS Z raw rl k Γ0 n0 vb c r N U L' H' nx'->K (.ret (.tuple [])) H' nx'):qk PG qC [.ptr k 0,iv n,.str s] H nx K:=by
 refine qk.of_body qr ?_
 rw [Kj];obtain⟨a,full,names,loops,size,out,calls,b1,b2,b3,b4,b5,b6,c0,c1,c2,c3,c4,c5,c6,_⟩:=S.cells
 refine⟨rfl,_,rfl,_,c6,⟨⟨_,c6,rfl⟩,trivial⟩,qea h0 h1 λt ht=>qb.2 ⟨_,rfl,by omega,by simp only [List.length_append];omega,by simp only [List.length_append];omega,rfl,_,rfl,⟨⟨_,c6,rfl⟩,trivial⟩,rfl,?_⟩⟩
 refine(S.more (by omega:nx<=nx+15)).setOut (L':=L') (by simp only [List.length_append,List.length_cons,List.length_nil];omega) λH' S'=>⟨trivial,hK _ _ (by omega) S'⟩
theorem qpn{e q:Nat}{M:Nat}{v:qa}{name:List UInt8}(hk:HZ Z Γ H nx)(he:Γ e=some [])(hq:Γ q=some [.str name])(hv:kW M Γ v)(hl:name.length<=20)(hM:M<=1000)
  {p:qa->qd->Nat->Prop} {r1:qa->qd->Nat->Prop}
  (hr:∀v H' nx' Γ',HZ Z Γ' H' nx'->(∀b cs,Γ b=some cs->Γ' b=some cs)->r1 v H' nx')
  (hK:∀(v':qa) (H':qd) (nx':Nat) (Γ':GH) (b:Nat) (f:Bool) (ss:List (List UInt8)),nx<=nx'->HZ Z Γ' H' nx'->(∀b cs,Γ b=some cs->Γ' b=some cs)->v'= .slice b 0 ss.length 1 f->Γ' b=some (ss.map .str)->Γ b=none->0<ss.length->ss.length<=M+1->(∀s,s∈ss->s.length<=20)->p v' H' nx'):
  ∃i l,zJ 1 H v=some (i,l)/\qq l=true/\∃v1 H1 i1,zt H nx 1 16 (.slice e 0 0 1 true) i l=some (v1,H1,i1)/\r1 v1 H1 i1/\∃i2 l2,zJ 1 H1 (.slice q 0 1 1 true)=some (i2,l2)/\qq l2=true/\∃v2 H2 i3,zt H1 i1 1 16 v1 i2 l2=some (v2,H2,i3)/\p v2 H2 i3:=by
 rcases hv with rfl|⟨b,n,full,ss,rfl,hb,h1,h2,h3,h4⟩
 ·refine⟨0,[],rfl,rfl,_,H,nx,rfl,hr _ _ _ Γ hk λ_ _ e=>e,1,[.str name],by rw [hk.src hq (by simp)];simp,rfl,?_⟩
  have hf:=hk.fresh (Nat.le_refl nx)
  obtain⟨H2,a1,a2⟩:=hk.appFull (esz:=1) (ebytes:=16) (k:=1) (off:=0) (len:=0) (new:=[.str name]) he (by simp) (by simp) (by omega) (by omega) (by omega)
  refine⟨_,H2,_,a1,hK _ _ _ _ nx false [name] (by omega) a2 (λb cs e=>(qg (neK e hf)).trans e) rfl (by rw [qf];simp) hf (by simp) (by simp) λs hs=> ?_⟩
  simp at hs;subst hs;exact hl
 ·have hlen:((ss.take n).map u3).length=n:=by simp;omega
  refine⟨n,(ss.take n).map .str,by rw [hk.src hb (by simp;omega)];simp,?_,?_⟩
  ·have:∀l:List (List UInt8),qq (l.map .str)=true:=λl=>by
    induction l with
    |nil=>rfl
    |cons x l ih=>exact ih
   exact this _
  have hf:=hk.fresh (Nat.le_refl nx)
  obtain⟨H1,a1,a2⟩:=hk.appFull (esz:=1) (ebytes:=16) (k:=n) (off:=0) (len:=0) (new:=(ss.take n).map .str) he (by simp) (by rw [hlen];omega) (by omega) (by omega) (by omega)
  rw [Nat.zero_add]at a1;have s1:∀b cs,Γ b=some cs->gup nx (some ((ss.take n).map .str)) Γ b=some cs:=λb cs e=>(qg (neK e hf)).trans e
  have a2':HZ Z (gup nx (some ((ss.take n).map .str)) Γ) H1 (nx+1):=by simpa using a2
  refine⟨_,H1,_,a1,hr _ _ _ _ a2' s1,1,[.str name],by rw [a2'.src (s1 _ _ hq) (by simp)];simp,rfl,?_⟩
  have hf2:=a2'.fresh (Nat.le_refl (nx+1))
  obtain⟨H2,b1,b2⟩:=a2'.app (esz:=1) (ebytes:=16) (k:=1) (len:=n) (new:=[.str name]) (qf _ _ _) (by rw [hlen];omega) (by simp) (by omega) (by omega) (by omega)
  refine⟨_,H2,_,b1,hK _ _ _ _ (nx+1) false (ss.take n++[name]) (by omega) b2 (λb cs e=> ?_) ?_ ?_ ?_ ?_ ?_ λs hs=> ?_⟩
  ·rw [qg (neK (s1 _ _ e) hf2),qg (neK e hf),qg (neK e hf)];exact e
  ·simp [show min n ss.length=n by omega]
  ·rw [qf,Nat.mul_one];have:((ss.take n).map u3).take n=(ss.take n).map .str:=List.take_of_length_le (by omega)
   rw [this];simp
  ·cases e:Γ (nx+1)with
   |none=>rfl
   |some cs=>rw [s1 _ _ e]at hf2;cases hf2
  ·simp
  ·simp;omega
  ·rcases List.mem_append.1 hs with h|h
   ·exact h4 _ (List.mem_of_mem_take h)
   ·simp at h;subst h;exact hl
theorem MS.setRow{raw:qa}{rl:List Int}{a:Nat}{full:Bool}{names:Nat}{loops size:Int}{out:List UInt8}{calls:Bool}{ds:List qa}{M t b:Nat}{f:Bool}{ss:List (List UInt8)}(hk:HZ Z Γ H nx)(h0:n0<=nx)(h1:Γ0 k=none)(h2:Γ0 vb=none)(hs:∀b cs,Γ0 b=some cs->Γ b=some cs)
  (e:Γ k=some (mkC raw a vb full names loops size out r calls)) (e1:a<=rl.length) (e2:N<=names) (e3:names<=U) (e4:r<=6) (e5:out.length<=L) (e6:c<=3/\U<=25) (d1:Γ vb=some ds) (d2:ds.length=7) (d4:qen ds) (d3:∀x,x∈ds->kW M Γ x) (hM:M<=names+c)
  (ht:t<7) (hb:Γ b=some (ss.map .str)) (hne:∀(i n:Nat) (g:Bool),ds[i]?≠some (.slice b 0 n 1 g)) (hl0:0<ss.length) (hl:ss.length<=names+c) (hls:∀s,s∈ss->s.length<=20)
  {p:qd->Prop} (hK:∀H',MS Z raw rl k Γ0 n0 vb c r N U L H' nx->p H'):∃H1,stC H (.ptr vb t) [.slice b 0 ss.length 1 f]=some H1/\p H1:=by
 refine vo hk d1 (by omega) rfl λH' hk'=>hK H' ?_
 have hvk:=wE e d1 d2
 have sne:∀(b:Nat) (ss:List (List UInt8)),ss≠[]->Γ b=some (ss.map .str)->gup vb (some (ds.set t (.slice b 0 ss.length 1 f))) Γ b=some (ss.map .str):=λb' ss' hn hb'=>(qg (jG d1 d2 d3 hn hb')).trans hb'
 have hbv:b≠vb:=jG d1 d2 d3 (λh=>by subst h;simp at hl0) hb
 refine⟨h0,h1,h2,_,hk',λb' cs' e'=> ?_,a,full,names,loops,size,out,calls,(qg (Ne.symm hvk)).trans e,e1,e2,e3,e4,e5,e6,_,qf _ _ _,by simp [d2],?_,λx hx=> ?_⟩
 ·have:b'≠vb:=λx=>by subst x;rw [h2]at e';cases e'
  exact(qg this).trans (hs _ _ e')
 ·intro i j b' n m g1 g2 hij hi hj;rw [List.getElem?_set]at hi hj;by_cases hti:t=i
  ·subst hti;rw [if_pos rfl,if_pos (by omega)]at hi
   cases hi
   rw [if_neg (by omega)]at hj
   exact hne _ _ _ hj
  ·rw [if_neg hti]at hi;by_cases htj:t=j
   ·subst htj;rw [if_pos rfl,if_pos (by omega)]at hj
    cases hj
    exact hne _ _ _ hi
   ·rw [if_neg htj]at hj;exact d4 i j b' n m g1 g2 hij hi hj
 ·rcases List.mem_or_eq_of_mem_set hx with h|rfl
  ·exact(d3 x h).mono (λb' ss' hn hb'=>(qg (jG d1 d2 d3 hn hb')).trans hb') hM
  ·exact .inr ⟨b,ss.length,f,ss,rfl,(qg hbv).trans hb,Nat.le_refl _,hl0,hl,hls⟩
theorem qed(S:MS Z raw rl k Γ0 n0 vb c r N U L H nx){n:Int}(hn:n<=9223372036854775807)(hK:∀s H' nx',nx<=nx'->MS Z raw rl k Γ0 n0 vb c r N U L H' nx'->s.length<=19->K (.ret (.str s)) H' nx'):qk PG kl [iv n] H nx K:=
 let⟨h0,h1,h2,Γ,h3,h4,h5⟩:=S
 qf5 hn h3 λs H' nx' g k' hs _=>hK s H' nx' g ⟨Nat.le_trans h0 g,h1,h2,Γ,k',h4,h5⟩ hs
theorem MS.incNames(S:MS Z raw rl k Γ0 n0 vb (c+1) r N U L H nx)(hU:U<=24){m:Int}(c3:ld1 H (.ptr k 3)=some (iv m)){p:qd->Prop}(hK:∀H',MS Z raw rl k Γ0 n0 vb c r N (U+1) L H' nx->p H'):
  ∃H1,stC H (.ptr k 3) [iv (i64.wrap (m+1))]=some H1/\p H1:=by
 obtain⟨h0,h1,h2,Γ,h3,h4,a,full,names,loops,size,out,calls,e,e1,e2,e3,e4,e5,e6,ds,d1,d2,d4,d3⟩:=S
 rw [h3.ld1 e]at c3;have hm:m=names:=by
  have:some (iv (names:Int))=some (iv m):=c3
  injection this with this;injection this with _ this;exact this.symm
 subst hm;rw [show i64.wrap ((names:Int)+1)=((names+1:Nat):Int) by rw [qw (by omega) (by omega)];omega]
 refine vo h3 e (by simp) rfl λH' hk'=>hK H' ?_
 have hne:=wE e d1 d2
 refine⟨h0,h1,h2,_,hk',λb cs' e'=> ?_,a,full,names+1,loops,size,out,calls,qf _ _ _,e1,by omega,by omega,e4,e5,by omega,ds,(qg hne).trans d1,d2,d4,λx hx=>(d3 x hx).mono λb ss _ hb=>(qg (kt e hb)).trans hb⟩
 have:b≠k:=λx=>by subst x;rw [h1]at e';cases e'
 exact(qg this).trans (h4 _ _ e')
theorem qhw(S:MS Z raw rl k Γ0 n0 vb c r N U L H nx){t:Int}(ht0:0<=t)(ht1:t<7)(hc:c+1<=3){x y z:Nat}(hx:x<y)(hy:y<z){name:List UInt8}(hn:name.length<=20){p:qd->Nat->Prop}(hK:∀H' nx',nx<=nx'->MS Z raw rl k Γ0 n0 vb (c+1) r N U L H' nx'->p H' nx'):
  true=true/\∃v15,some (u0 k 2)=some v15/\∃v16,ld1 H v15=some v16/\∃H17,H17=qo (nx+x) [] H/\true=true/\∃v18,some (u0 k 2)=some v18/\∃v19,ld1 H17 v18=some v19/\0<=t/\∃v20,zq v19 t.toNat 1=some v20/\∃v21,ld1 H17 v20=some v21/\true=true/\∃H22,H22=qo (nx+y) [u3 name] H17/\((∃v23,ld1 H22 v15=some v23/\v23=v16)/\(∃v24,ld1 H22 v18=some v24/\v24=v19)/\(∃v25,ld1 H22 v20=some v25/\v25=v21)/\True)/\
  ∃i26 l27,zJ 1 H22 v21=some (i26,l27)/\qq l27=true/\∃v28 H29 i30,zt H22 (nx+z) 1 16 (qa.slice (nx+x) 0 0 1 true) i26 l27=some (v28,H29,i30)/\((∃v31,ld1 H29 v15=some v31/\v31=v16)/\True)/\∃i32 l33,zJ 1 H29 (qa.slice (nx+y) 0 1 1 true)=some (i32,l33)/\qq l33=true/\
  ∃v34 H35 i36,zt H29 i30 1 16 v28 i32 l33=some (v34,H35,i36)/\0<=t/\∃v37,zq v16 t.toNat 1=some v37/\((∃v38,ld1 H35 v15=some v38/\v38=v16)/\True)/\qI v34=true/\∃H39,stC H35 v37 [v34]=some H39/\True/\p H39 i36:=by
 obtain⟨h0,h1,h2,Γ,h3,h4,a,full,names,loops,size,out,calls,e,e1,e2,e3,e4,e5,e6,ds,d1,d2,d4,d3⟩:=S
 have hf:=h3.non (show nx<=nx+x by omega)
 have k17:HZ Z (gup (nx+x) (some []) Γ) (qo (nx+x) [] H) (nx+x+1):=h3.new (by omega) (by omega) []
 have s17:∀b cs,Γ b=some cs->gup (nx+x) (some []) Γ b=some cs:=λb cs e=>(qg (neK e hf)).trans e
 have hf2:=k17.non (show nx+x+1<=nx+y by omega)
 have k22:HZ Z (gup (nx+y) (some [u3 name]) (gup (nx+x) (some []) Γ)) (qo (nx+y) [u3 name] (qo (nx+x) [] H)) (nx+z):=k17.new (by omega) (by omega) _
 have s22:∀b cs,Γ b=some cs->gup (nx+y) (some [u3 name]) (gup (nx+x) (some []) Γ) b=some cs:=λb cs e=>(qg (neK (s17 _ _ e) hf2)).trans (s17 _ _ e)
 have g5:gup (nx+y) (some [u3 name]) (gup (nx+x) (some []) Γ) (nx+x)=some []:=by rw [qg (by omega),qf]
 have g15:gup (nx+y) (some [u3 name]) (gup (nx+x) (some []) Γ) (nx+y)=some [u3 name]:=by rw [qf]
 generalize gup (nx+y) (some [u3 name]) (gup (nx+x) (some []) Γ)=Γ2 at k22 s22 g5 g15
 have ht:t.toNat<7:=by omega
 have hlt:t.toNat<ds.length:=by omega
 have ix:zq (.slice vb 0 7 1 full) t.toNat 1=some (.ptr vb t.toNat):=by rw [zW ht];simp
 have lk:∀{H' nx' Γ'},HZ Z Γ' H' nx'->(∀b cs,Γ b=some cs->Γ' b=some cs)->ld1 H' (.ptr k 2)=some (.slice vb 0 7 1 full):=λhk hs=>by rw [hk.ld1 (hs _ _ e)];rfl
 have lv:∀{H' nx' Γ'},HZ Z Γ' H' nx'->(∀b cs,Γ b=some cs->Γ' b=some cs)->ld1 H' (.ptr vb t.toNat)=some ds[t.toNat]:=λhk hs=>by rw [hk.ld1 (hs _ _ d1)];simp [hlt]
 refine⟨rfl,_,rfl,_,lk h3 λ_ _ e=>e,_,rfl,rfl,_,rfl,_,lk k17 s17,ht0,_,ix,_,lv k17 s17,rfl,_,rfl,⟨⟨_,lk k22 s22,rfl⟩,⟨_,lk k22 s22,rfl⟩,⟨_,lv k22 s22,rfl⟩,trivial⟩,?_⟩
 refine qpn (M:=names+c) (v:=ds[t.toNat]) k22 g5 g15 ((d3 _ (List.getElem_mem hlt)).mono λb ss _ hb=>s22 _ _ hb) hn (by omega) (λv H' nx' Γ' hk hs=>⟨⟨_,lk hk λb cs e=>hs _ _ (s22 _ _ e),rfl⟩,trivial⟩) λv' H' nx' Γ' b f ss g k' s' hv hb hbn hl0 hl hls=> ?_
 have s3:∀b cs,Γ b=some cs->Γ' b=some cs:=λb cs e=>s' _ _ (s22 _ _ e)
 subst hv;refine⟨ht0,_,ix,⟨⟨_,lk k' s3,rfl⟩,trivial⟩,rfl,?_⟩
 refine MS.setRow (c:=c+1) (N:=N) (U:=U) (L:=L) k' (by omega) h1 h2 (λb cs e=>s3 _ _ (h4 _ _ e)) (s3 _ _ e) e1 e2 e3 e4 e5 ⟨hc,e6.2⟩ (s3 _ _ d1) d2 d4 (λx hx=>(d3 x hx).mono λb ss _ hb=>s3 _ _ hb) (M:=names+c) (by omega) ht hb (λi n g hi=> ?_) hl0 (by omega) hls λH1 S1=>⟨trivial,hK _ _ (by omega) S1⟩
 have hmem:=List.mem_of_getElem? hi
 rcases d3 _ hmem with h|⟨b',n',f',ss',q1,q2,_⟩
 ·cases h
 ·cases q1
  rw [s22 _ _ q2]at hbn;cases hbn
theorem YT(S:MS Z raw rl k Γ0 n0 vb (c+1) r N U L H nx){t n:Int}{s:List UInt8}{L':Nat}(ht0:0<=t)(ht1:t<7)(h0:0<=n)(h1:n<=100)(hU:U<=24)(hL:L+s.length+200<=L')(hL':L'<=1000000000000)
  (hK:∀H' nx',nx<=nx'->MS Z raw rl k Γ0 n0 vb (c+1) r N (U+1) L' H' nx'->K (.ret (.tuple [])) H' nx'):qk PG vx [.ptr k 0,iv t,iv n,.str s] H nx K:=by
 refine qk.of_body qr ?_
 rw [VI];have hc:=S.u25.2
 obtain⟨a,full,names,loops,size,out,calls,b1,b2,b3,b4,b5,b6,c0,c1,c2,c3,_⟩:=S.cells
 refine⟨rfl,_,rfl,_,c3,qed S (by omega) λw H nx2 g S hw=>qb.2 ⟨_,rfl,by omega,rfl,_,rfl,?_⟩⟩
 obtain⟨a,full,names,loops,size,out,calls,b1,b2,b3,b4,b5,b6,c0,c1,c2,c3,_⟩:=S.cells
 refine⟨_,c3,rfl,_,rfl,rfl,S.incNames hU c3 λH S=> ?_⟩
 have hw2:([118]++w).length<=20:=by simp only [List.length_append,List.length_cons,List.length_nil];omega
 refine qi.2 ⟨λ_=>⟨by omega,by simp only [List.length_append,List.length_cons,List.length_nil];omega,by simp only [List.length_append,List.length_cons,List.length_nil];omega,?_⟩,λ_=>⟨by omega,by simp only [List.length_append,List.length_cons,List.length_nil];omega,?_⟩⟩
 all_goals
  refine qae S (L':=L') h0 h1 (by simp only [List.length_append,List.length_cons,List.length_nil];omega) hL' λH nx3 g2 S=>qb.2 ?_
  exact qhw S ht0 ht1 hc (x:=5) (y:=15) (z:=19) (by omega) (by omega) hw2 λH nx4 g3 S=>hK _ _ (by omega) S
theorem MS.full(S:MS Z raw rl k Γ0 n0 vb c r N U L H nx):∃(Γ1:GH) (M:Nat) (ds:List qa) (fl:Bool),N<=M/\M<=U/\(∀b cs,Γ0 b=some cs->Γ1 b=some cs)/\MS Z raw rl k Γ1 n0 vb c r M M L H nx/\ld1 H (.ptr k 2)=some (.slice vb 0 7 1 fl)/\zJ 1 H (.slice vb 0 7 1 fl)=some (7,ds)/\ds.length=7/\qen ds/\(∀x,x∈ds->kW (M+c) Γ1 x)/\∀b,nx<=b->Γ1 b=none:=by
 obtain⟨h0,h1,h2,Γ,h3,h4,a,full,names,loops,size,out,calls,e,e1,e2,e3,e4,e5,e6,ds,d1,d2,d4,d3⟩:=S
 have hvk:=wE e d1 d2
 have sub:∀b cs,gup k none (gup vb none Γ) b=some cs->Γ b=some cs:=λb cs e=>by
  by_cases hb:b=k
  ·subst hb;rw [qf]at e;cases e
  ·rw [qg hb]at e;by_cases hv:b=vb
   ·subst hv;rw [qf]at e;cases e
   ·rwa [qg hv]at e
 have sup:∀b cs,b≠k->b≠vb->Γ b=some cs->gup k none (gup vb none Γ) b=some cs:=λb cs hb hv e=>by rw [qg hb,qg hv];exact e
 refine⟨gup k none (gup vb none Γ),names,ds,full,e2,e3,λb cs e'=> ?_,⟨h0,qf _ _ _,by rw [qg hvk,qf],Γ,h3,sub,a,full,names,loops,size,out,calls,e,e1,Nat.le_refl _,Nat.le_refl _,e4,e5,⟨e6.1,by omega⟩,ds,d1,d2,d4,d3⟩,by rw [h3.ld1 e];rfl,?_,d2,d4,λx hx=>(d3 x hx).mono λb ss hn hb=>sup _ _ (kt e hb) (jG d1 d2 d3 hn hb) hb,λb hb=> ?_⟩
 ·refine sup _ _ (λx=>by subst x;rw [h1]at e';cases e') (λx=>by subst x;rw [h2]at e';cases e') (h4 _ _ e')
 ·have:=h3.src d1 (off:=0) (n:=7) (sz:=1) (e:=1) (full:=full) (by omega)
  rw [this];simp only [List.drop_zero]
  rw [List.take_of_length_le (by omega)]
 ·cases hq:gup k none (gup vb none Γ) b with
  |none=>rfl
  |some cs=>have:=h3.lt (sub _ _ hq);omega
theorem MS.appFull(S:MS Z raw rl k Γ0 n0 vb c r N U L H nx){e:Nat}{ds:List qa}(he:Γ0 e=some [])(hl:ds.length=7):
  ∃H',zt H nx 1 24 (.slice e 0 0 1 true) 7 ds=some (.slice nx 0 7 1 false,H',nx+1)/\MS Z raw rl k (gup nx (some ds) Γ0) n0 vb c r N U L H' (nx+1)/\Γ0 nx=none:=by
 obtain⟨h0,h1,h2,Γ,h3,h4,a,full,names,loops,size,out,calls,e',e1,e2,e3,e4,e5,e6,qs,d1,d2,d4,d3⟩:=S
 obtain⟨H',a1,a2⟩:=h3.appFull (esz:=1) (ebytes:=24) (k:=7) (off:=0) (len:=0) (new:=ds) (h4 _ _ he) (by simp) (by omega) (by omega) (by omega) (by omega)
 have hn:=h3.non (Nat.le_refl nx)
 have up:∀b cs',Γ b=some cs'->gup nx (some ds) Γ b=some cs':=λb cs' e=>(qg (neK e hn)).trans e
 have h0n:Γ0 nx=none:=by
  cases e:Γ0 nx with
  |none=>rfl
  |some cs=>rw [h4 _ _ e]at hn;cases hn
 refine⟨H',a1,⟨by omega,(qg (neK e' hn)).trans h1,(qg (neK d1 hn)).trans h2,gup nx (some ds) Γ,by simpa using a2,λb cs' e=> ?_,a,full,names,loops,size,out,calls,up _ _ e',e1,e2,e3,e4,e5,e6,qs,up _ _ d1,d2,d4,λx hx=>(d3 x hx).mono λb ss _ hb=>up _ _ hb⟩,h0n⟩
 by_cases hb:b=nx
 ·subst hb;rw [qf]at e ⊢;exact e
 ·rw [qg hb]at e ⊢;exact h4 _ _ e
theorem MS.back{Γ1:GH}(S:MS Z raw rl k Γ1 n0 vb c r N U L H nx){b:Nat}{ds:List qa}{fl:Bool}{M:Nat}(hb:Γ1 b=some ds)(hl:ds.length=7)(hd:qen ds)(hr:∀x,x∈ds->kW M Γ1 x)(hM:M<=N+c)(hs:∀b cs,Γ0 b=some cs->Γ1 b=some cs)(hb0:Γ0 b=none)
  {p:qd->Prop} (hK:∀H',MS Z raw rl k Γ0 n0 b c r N U L H' nx->p H'):∃H1,stC H (.ptr k 2) [.slice b 0 7 1 fl]=some H1/\p H1:=by
 obtain⟨h0,h1,h2,Γ,h3,h4,a,full,names,loops,size,out,calls,e,e1,e2,e3,e4,e5,e6,qs,d1,d2,d4,d3⟩:=S
 refine vo h3 e (by simp) rfl λH' hk'=>hK H' ?_
 have hbk:b≠k:=λx=>by subst x;rw [h1]at hb;cases hb
 refine⟨h0,vR hs h1,hb0,_,hk',λb' cs' e'=> ?_,a,fl,names,loops,size,out,calls,qf _ _ _,e1,e2,e3,e4,e5,e6,ds,(qg hbk).trans (h4 _ _ hb),hl,hd,λx hx=>(hr x hx).mono (λb ss _ hb=>(qg (kt e (h4 _ _ hb))).trans (h4 _ _ hb)) (by omega)⟩
 have:b'≠k:=λx=>by subst x;rw [vR hs h1]at e';cases e'
 exact(qg this).trans (h4 _ _ (hs _ _ e'))
end
def TB:Nat->Nat
 |0=>40000
 |D+1=>40000+8*TB D
theorem qj5:∀D,40000<=TB D
 |0=>Nat.le_refl _
 |D+1=>by unfold TB;omega
def QO(Z:Nat->Prop)(raw:qa)(rl:List Int)(k:Nat)(r:Int)(D:Nat):Prop:=
 ∀{Γ0:GH} {n0 vb N U L L':Nat} {H:qd} {nx:Nat} {K:qv} {n d:Int},MS Z raw rl k Γ0 n0 vb 3 r N U L H nx->0<=n->n+D<=90->d.toNat<=D->d<=3-> -9<=d->L+4*TB D<=L'->L'<=500000000000->
  (∀H' nx' vb',nx<=nx'->MS Z raw rl k Γ0 n0 vb' 3 r N 25 L' H' nx'->K (.ret (.tuple [])) H' nx')->qk PG jR [.ptr k 0,iv n,iv d] H nx K
def qdy(Z:Nat->Prop)(raw:qa)(rl:List Int)(k:Nat)(r:Int)(D:Nat):Prop:=
 ∀{Γ0:GH} {n0 vb N U L L':Nat} {H:qd} {nx:Nat} {K:qv} {n d:Int},MS Z raw rl k Γ0 n0 vb 3 r N U L H nx->0<=n->n+D<=90->d.toNat<=D->d<=3-> -9<=d->L+TB D<=L'->L'<=500000000000->
  (∀H' nx' vb',nx<=nx'->MS Z raw rl k Γ0 n0 vb' 3 r N 25 L' H' nx'->K (.ret (.tuple [])) H' nx')->qk PG J0 [.ptr k 0,iv n,iv d] H nx K
def qi6(Z:Nat->Prop)(raw:qa)(rl:List Int)(k:Nat)(r:Int)(D:Nat):Prop:=
 ∀{Γ0:GH} {n0 vb N U L L':Nat} {H:qd} {nx:Nat} {K:qv} {n d:Int},MS Z raw rl k Γ0 n0 vb 3 r N U L H nx->U<=24->0<=n->n+D<=90->d.toNat<=D->d<=3-> -9<=d->L+TB D<=L'->L'<=500000000000->
  (∀H' nx' vb',nx<=nx'->MS Z raw rl k Γ0 n0 vb' 3 r N 25 L' H' nx'->K (.ret (.tuple [])) H' nx')->qk PG yD [.ptr k 0,iv n,iv d] H nx K
section
variable{raw:qa}{rl:List Int}{k n0 vb c N U L:Nat}{r:Int}{Γ0 Γ:GH}{H:qd}{nx:Nat}{K:qv}
theorem MS.callsP(S:MS Z raw rl k Γ0 n0 vb c r N U L H nx){p:Bool->Prop}(hK:∀b,p b):∃v,some (u0 k 8)=some v/\∃b,ld1 H v=some (.bool b)/\p b:=
 let⟨_,_,_,_,_,_,_,_,_,_,_,_,_,_,_,_,_,_,_,_,_,c8,_⟩:=S.cells;⟨_,rfl,_,c8,hK _⟩
theorem MS.resP(S:MS Z raw rl k Γ0 n0 vb c r N U L H nx){p:Int->Prop}(hK:r<=6->p r):∃v,some (u0 k 7)=some v/\∃n:Int,ld1 H v=some (iv n)/\p n:=
 let⟨_,_,_,_,_,_,_,_,_,_,hr,_,_,_,_,_,_,_,_,_,c7,_⟩:=S.cells;⟨_,rfl,_,c7,hK hr⟩
theorem MS.sizeP(S:MS Z raw rl k Γ0 n0 vb c r N U L H nx){p:Int->Prop}(hK:∀n,p n):∃v,some (u0 k 5)=some v/\∃n:Int,ld1 H v=some (iv n)/\p n:=
 let⟨_,_,_,_,_,_,_,_,_,_,_,_,_,_,_,_,_,_,c5,_⟩:=S.cells;⟨_,rfl,_,c5,hK _⟩
theorem MS.loopsP(S:MS Z raw rl k Γ0 n0 vb c r N U L H nx){p:Int->Prop}(hK:∀n,p n):∃v,some (u0 k 4)=some v/\∃n:Int,ld1 H v=some (iv n)/\p n:=
 let⟨_,_,_,_,_,_,_,_,_,_,_,_,_,_,_,_,_,c4,_⟩:=S.cells;⟨_,rfl,_,c4,hK _⟩
theorem MS.namesP(S:MS Z raw rl k Γ0 n0 vb c r N U L H nx){p:Int->Prop}(hK:∀m:Nat,N<=m->m<=U->MS Z raw rl k Γ0 n0 vb c r m m L H nx->p m):∃v,some (u0 k 3)=some v/\∃n:Int,ld1 H v=some (iv n)/\p n:=
 let⟨_,_,_,_,_,_,_,_,h1,h2,_,_,_,_,_,_,c3,_,_,_,_,_,S'⟩:=S.cells;⟨_,rfl,_,c3,hK _ h1 h2 S'⟩
theorem Z2(S:MS Z raw rl k Γ0 n0 vb c r N U L H nx){n:Int}{s:List UInt8}(h0:0<=n)(h1:n<=100)(hs:s.length<=3199)(hL:L<=500000000000)
  (hK:∀H' nx',nx<=nx'->MS Z raw rl k Γ0 n0 vb c r N U (L+3300) H' nx'->K (.ret (.tuple [])) H' nx'):qk PG qC [.ptr k 0,iv n,.str s] H nx K:=
 qae S (L':=L+3300) h0 h1 (by omega) (by omega) hK
theorem qgo(R:Zs raw rl)(S:MS Z raw rl k Γ0 n0 vb c r N U L H nx){t d:Int}(h0:0<=t)(h1:t<7)(hd:d.toNat<=3)
  (hK:∀s H' nx',nx<=nx'->MS Z raw rl k Γ0 n0 vb c r N U L H' nx'->s.length<=1060->K (.ret (.str s)) H' nx'):qk PG qP [.ptr k 0,iv t,iv d] H nx K:=
 Yt R 3 (by omega) S h0 h1 hd hK
theorem aPb{j:Int}(h0:0<=j)(h1:j<2){p:List UInt8->Prop}(hK:∀s,s.length<=20->p s):
  ∃s,jM PG kV [u3 [98,114,101,97,107],u3 [99,111,110,116,105,110,117,101]] (j.toNat*1)=some (.str s)/\p s:=
 (kM [[98,114,101,97,107],[99,111,110,116,105,110,117,101]] (B:=20) rfl h0 h1 rfl hK).2.2
theorem aPl{j:Int}(h0:0<=j)(h1:j<4){p:List UInt8->Prop}(hK:∀s,s.length<=20->p s):
  ∃s,jM PG kV [u3 [51],u3 [49,48],u3 [50,48],u3 [52,48]] (j.toNat*1)=some (.str s)/\p s:=
 (kM [[51],[49,48],[50,48],[52,48]] (B:=20) rfl h0 h1 rfl hK).2.2
theorem K9(R:Zs raw rl){D:Nat}(hst:qdy Z raw rl k r D):QO Z raw rl k r D:=by
 intro Γ0 n0 vb N U L L' H nx K n d S h0 hn hd hd3 hd9 hL hL' hK;refine qk.of_body qr ?_
 rw [XN];have hT:=qj5 D
 refine S.scr (i:=nx) (nx':=nx+1) lR (by omega) λH0 S s2=>⟨rfl,_,rfl,?_⟩
 obtain⟨Γ1,M,ds,fl,hNM,hMU,hs1,S,l2,sr,dl,dd,dr,dn⟩:=S.full
 obtain⟨H6,a1,S,hb0⟩:=S.appFull (hs1 _ _ (qf _ _ _)) dl
 have hu:=S.u25.1
 have hsub:∀b cs,Γ0 b=some cs->gup (nx+1) (some ds) Γ1 b=some cs:=λb cs e=>(qg (neK (hs1 _ _ (s2 _ _ e)) hb0)).trans (hs1 _ _ (s2 _ _ e))
 have hΓ0:Γ0 (nx+1)=none:=vR (λb cs e=>hs1 _ _ (s2 _ _ e)) hb0
 have dr':∀x,x∈ds->kW (M+3) (gup (nx+1) (some ds) Γ1) x:=λx hx=>(dr x hx).mono λb ss _ hb=>(qg (neK hb hb0)).trans hb
 have hw:qq ds=true:=by
  have:∀l:List qa,(∀x,x∈l->kW (M+3) Γ1 x)->qq l=true:=λl=>by
   induction l with
   |nil=>intro _;rfl
   |cons x l ih=>intro h;simp only [qq,(h x (by simp)).cell];exact ih λy hy=>h y (by simp [hy])
  exact this ds dr
 refine⟨_,l2,_,_,sr,hw,_,_,_,a1,jF R S (by omega) (by omega) λj H m g S h1 h2=>qb.2 ⟨_,rfl,?_⟩⟩
 rw [qw (by omega) (by omega)]
 obtain⟨J,hJ⟩:∃J:Nat,1+j=J:=⟨(1+j).toNat,by omega⟩
 rw [hJ];have gb:gup (nx+1) (some ds) Γ1 (nx+1)=some ds:=qf _ _ _
 generalize gup (nx+1) (some ds) Γ1=Γ2 at S hsub dr' gb
 refine zu (P:=PG) (X:=Nat) (Y:=Nat) (λi=>qj .und [(7,iv i),(6,.slice (nx+1) 0 7 1 false),(2,iv d),(1,iv n),(0,.ptr k 0)]) (λi=>qj .und [(7,iv i),(6,.slice (nx+1) 0 7 1 false),(2,iv d),(1,iv n),(0,.ptr k 0)])
  (λq i H1 nx1=>q=i/\i<=J/\m<=nx1/\∃vb' N' U',M<=N'/\MS Z raw rl k Γ2 n0 vb' 3 r N' U' (L+(J - i)*TB D) H1 nx1) (λid _ H1 nx1=>id=0/\m<=nx1/\∃vb' N' U',M<=N'/\MS Z raw rl k Γ2 n0 vb' 3 r N' U' (L+J*TB D) H1 nx1) J J
  (ql.okay) ⟨rfl,Nat.le_refl _,Nat.le_refl _,vb,M,M,Nat.le_refl _,by simpa using S⟩ ?_ ?_
 ·rintro q i H1 nx1 ⟨rfl,hi,hm,vb',N',U',hN',S⟩
  refine WpP.part (ts:=[0,1,2,6,7]) qr ?_
  rw [qlj];refine qi.2 ⟨λh=> ?_,λh=> ?_⟩
  ·have h:(0:Int)<q:=of_decide_eq_true h
   obtain⟨i',rfl⟩:∃i',q=i'+1:=⟨q - 1,by omega⟩
   have e1:L+(J - i')*TB D=L+(J - (i'+1))*TB D+TB D:=by
    rw [show J - i'=(J - (i'+1))+1 by omega,Nat.add_mul,Nat.one_mul];omega
   have e2:L+(J - i')*TB D<=L+4*TB D:=Nat.add_le_add_left (Nat.mul_le_mul_right _ (by omega)) _
   refine hst S h0 hn hd hd3 hd9 (L':=L+(J - i')*TB D) (by omega) (by omega) λH2 nx2 vb2 g2 S=>qb.2 ⟨rfl,i',i',by omega,?_,rfl,by omega,by omega,vb2,N',25,hN',S⟩
   rw [qw (by omega) (by omega)]
   rw [show((i'+1:Nat):Int) - 1=(i':Int) by omega]
   exact ql.okay
  ·have h:¬(0:Int)<q:=of_decide_eq_false h
   have:q=0:=by omega
   subst this;exact⟨rfl,0,ql.okay,rfl,hm,vb',N',U',hN',by simpa using S⟩
 ·rintro id i H1 nx1 ⟨rfl,hm,vb',N',U',hN',S⟩
  rw [qmd];have hu:=S.u25.1
  have e2:L+J*TB D<=L+4*TB D:=Nat.add_le_add_left (Nat.mul_le_mul_right _ (by omega)) _
  refine⟨rfl,_,rfl,rfl,S.back (Γ0:=Γ0) gb dl dd dr' (by omega) hsub hΓ0 λH2 S=>hK _ _ _ (by omega) (S.le (by omega) (by omega) (by omega) (by omega))⟩
set_option maxHeartbeats 4000000 in
theorem qfw(R:Zs raw rl){D:Nat}(hD3:D<=3)(ih:∀D',D=D'+1->QO Z raw rl k r D'):qi6 Z raw rl k r D:=by
 intro Γ0 n0 vb N U L L' H nx K n d S hU h0 hn hd hd3 hd9 hL hL' hK;refine qk.of_body qr ?_
 rw [YV];have hT:=qj5 D
 have hu:=S.u25.1
 refine qi.2 ⟨λ_=>hK _ _ _ lR (S.le (by omega) (by omega) (by omega) (by omega)),λhdp=> ?_⟩
 replace hdp:¬d<=0:=of_decide_eq_false hdp
 obtain⟨D',rfl⟩:∃D',D=D'+1:=⟨D - 1,by omega⟩
 have hT2:TB (D'+1)=40000+8*TB D':=rfl
 have hi:QO Z raw rl k r D':= @ih D' rfl
 have wn:i64.wrap (n+1)=n+1:=qw (by omega) (by omega)
 have wd:i64.wrap (d - 1)=d - 1:=qw (by omega) (by omega)
 refine⟨rfl,S.namesP λm hm1 hm2 S=>qed S (by omega) λw H m1 g1 S hw=>qb.2 ⟨_,rfl,by omega,rfl,?_⟩⟩
 have hw2:([118]++w).length<=20:=by simp only [List.length_append,List.length_cons,List.length_nil];omega
 obtain⟨_,_,_,_,_,_,_,_,_,_,_,_,_,_,_,_,c3,_⟩:=S.cells
 refine⟨_,rfl,_,c3,rfl,_,rfl,rfl,S.incNames (c:=2) (by omega) c3 λH S=> ?_⟩
 clear c3;refine S.scr (i:=m1) (nx':=m1+1) lR (by omega) λH0 S s2=>⟨rfl,_,rfl,?_⟩
 obtain⟨Γ1,M,ds,fl,hNM,hMU,hs1,S,l2,sr,dl,dd,dr,dn⟩:=S.full
 obtain⟨H6,a1,S,hb0⟩:=S.appFull (hs1 _ _ (qf _ _ _)) dl
 have hsub:∀b cs,Γ0 b=some cs->gup (m1+1) (some ds) Γ1 b=some cs:=λb cs e=>(qg (neK (hs1 _ _ (s2 _ _ e)) hb0)).trans (hs1 _ _ (s2 _ _ e))
 have hΓ0:Γ0 (m1+1)=none:=vR (λb cs e=>hs1 _ _ (s2 _ _ e)) hb0
 have dr':∀x,x∈ds->kW (M+2) (gup (m1+1) (some ds) Γ1) x:=λx hx=>(dr x hx).mono λb ss _ hb=>(qg (neK hb hb0)).trans hb
 have hcell:qq ds=true:=by
  have:∀l:List qa,(∀x,x∈l->kW (M+2) Γ1 x)->qq l=true:=λl=>by
   induction l with
   |nil=>intro _;rfl
   |cons x l ih=>intro h;simp only [qq,(h x (by simp)).cell];exact ih λy hy=>h y (by simp [hy])
  exact this ds dr
 have gb:gup (m1+1) (some ds) Γ1 (m1+1)=some ds:=qf _ _ _
 generalize gup (m1+1) (some ds) Γ1=Γ2 at S hsub dr' gb
 clear s2 hs1 dr dn;have bk:∀{vb' N' U' L'':Nat} {H:qd} {m:Nat},MS Z raw rl k Γ2 n0 vb' 3 r N' U' L'' H m->M<=N'->nx<=m->L''<=L'->∃H1,stC H (.ptr k 2) [.slice (m1+1) 0 7 1 false]=some H1/\K (.ret (.tuple [])) H1 m:=λS hN hm hl=>by
  have hu:=S.u25.1
  exact S.back (Γ0:=Γ0) gb dl dd dr' (by omega) hsub hΓ0 λH2 S=>hK _ _ _ hm (S.le (by omega) (by omega) (by omega) hl)
 have st_:∀{Γ0:GH} {n0 vb N U L:Nat} {H:qd} {m:Nat} {K:qv},MS Z raw rl k Γ0 n0 vb 3 r N U L H m->L+4*TB D'<=500000000000->(∀H' nx' vb',m<=nx'->MS Z raw rl k Γ0 n0 vb' 3 r N 25 (L+4*TB D') H' nx'->K (.ret (.tuple [])) H' nx')->qk PG jR [.ptr k 0,iv (i64.wrap (n+1)),iv (i64.wrap (d - 1))] H m K:=λS hl hK=>by
  rw [wn,wd];exact hi S (by omega) (by omega) (by omega) (by omega) (by omega) lR hl hK
 have ln1:∀{Γ0:GH} {n0 vb N U L:Nat} {H:qd} {m:Nat} {K:qv} {s:List UInt8},MS Z raw rl k Γ0 n0 vb 3 r N U L H m->s.length<=3199->L<=500000000000->(∀H' nx',m<=nx'->MS Z raw rl k Γ0 n0 vb 3 r N U (L+3300) H' nx'->K (.ret (.tuple [])) H' nx')->qk PG qC [.ptr k 0,iv (i64.wrap (n+1)),.str s] H m K:=λS hs hl hK=>by
  rw [wn];exact Z2 S (by omega) (by omega) hs hl hK
 refine⟨_,l2,_,_,sr,hcell,_,_,_,a1,by omega,?_⟩
 refine Z2 S h0 (by omega) (by simp only [List.length_append,List.length_cons,List.length_nil]at hw2 ⊢;omega) (by omega) λH m2 g2 S=>qb.2 ?_
 refine qhw (c:=2) (t:=0) S (by omega) (by omega) (by omega) (x:=4) (y:=13) (z:=17) (by omega) (by omega) hw2 λH m3 g3 S=> ?_
 clear ih hi wn wd a1 l2 sr hcell;refine jF R S (by omega) (by omega) λj H m g S h1 h2=>qb.2 ⟨_,rfl,?_⟩
 simp only [List.length_append,List.length_cons,List.length_nil]at hw2
 repeat' (with_reducible first
  |(refine qi.2 ⟨λ_=> ?_,λ_=> ?_⟩)
  |(refine qgo R S (by omega) (by omega) (by decide) λs H m g S hs=>qb.2 ⟨_,rfl,?_⟩)
  |(refine jF R S (by omega) (by omega) λj H m g S h1 h2=>qb.2 ⟨_,rfl,?_⟩)
  |(refine Z2 S h0 (by omega) (by first|omega|(simp only [List.length_append,List.length_cons,List.length_nil];omega)|(simp only [List.length_cons,List.length_nil];omega)) (by omega) λH m g S=>qb.2 ?_)
  |(refine ln1 S (by first|omega|(simp only [List.length_append,List.length_cons,List.length_nil];omega)) (by omega) λH m g S=>qb.2 ?_)
  |(refine st_ S (by omega) λH m vb' g S=>qb.2 ?_)
  |(refine And.intro (by first|omega|(simp only [List.length_append,List.length_cons,List.length_nil];omega)) ?_)
  |(refine aPl h1 h2 λs hs=> ?_)
  |(refine S.loopsP λq=> ?_)
  |(refine And.intro rfl ?_)
  |(refine Exists.intro _ (And.intro rfl ?_))
  |(refine S.setLoops λH S=> ?_)
  |exact bk S (by omega) (by omega) (by omega))
set_option maxHeartbeats 8000000 in
theorem WI(R:Zs raw rl){D:Nat}(hD3:D<=3)(ih:∀D',D=D'+1->QO Z raw rl k r D'):qdy Z raw rl k r D:=by
 intro Γ0 n0 vb N U L L' H nx K n d S h0 hn hd hd3 hd9 hL hL' hK;refine qk.of_body qr ?_
 rw [qar];have hT:=qj5 D
 have hu:=S.u25.1
 have lp_:qi6 Z raw rl k r D:= @qfw _ _ _ _ _ _ R D hD3 @ih
 have wn:i64.wrap (n+1)=n+1:=qw (by omega) (by omega)
 have wd:i64.wrap (d - 1)=d - 1:=qw (by omega) (by omega)
 have st_:∀{vb N U L1:Nat} {H:qd} {m:Nat} {K:qv},¬d<=0->MS Z raw rl k Γ0 n0 vb 3 r N U L1 H m->(∀D',D=D'+1->L1+4*TB D'<=500000000000)->(∀D' H' nx' vb',D=D'+1->TB D=40000+8*TB D'->m<=nx'->MS Z raw rl k Γ0 n0 vb' 3 r N 25 (L1+4*TB D') H' nx'->K (.ret (.tuple [])) H' nx')->qk PG jR [.ptr k 0,iv (i64.wrap (n+1)),iv (i64.wrap (d - 1))] H m K:=λhdp S hl hK=>by
  rw [wn,wd];obtain⟨D',rfl⟩:∃D',D=D'+1:=⟨D - 1,by omega⟩
  have hi:QO Z raw rl k r D':= @ih D' rfl
  exact hi S (by omega) (by omega) (by omega) (by omega) (by omega) lR (hl _ rfl) λH' nx' vb' g S=>hK D' H' nx' vb' rfl rfl g S
 have ln1:∀{vb N U L:Nat} {H:qd} {m:Nat} {K:qv} {s:List UInt8},MS Z raw rl k Γ0 n0 vb 3 r N U L H m->s.length<=3199->L<=500000000000->(∀H' nx',m<=nx'->MS Z raw rl k Γ0 n0 vb 3 r N U (L+3300) H' nx'->K (.ret (.tuple [])) H' nx')->qk PG qC [.ptr k 0,iv (i64.wrap (n+1)),.str s] H m K:=λS hs hl hK=>by
  rw [wn];exact Z2 S (by omega) (by omega) hs hl hK
 clear wn wd ih;have lp2:∀{vb N U:Nat} {H:qd} {m:Nat} {K:qv},MS Z raw rl k Γ0 n0 vb 3 r N U L H m->U<=24->(∀H' nx' vb',m<=nx'->MS Z raw rl k Γ0 n0 vb' 3 r N 25 L' H' nx'->K (.ret (.tuple [])) H' nx')->qk PG yD [.ptr k 0,iv n,iv d] H m K:=λS hU hK=>lp_ S hU h0 hn hd hd3 hd9 hL hL' hK
 clear lp_;have dc:∀{vb N U:Nat} {H:qd} {m:Nat} {K:qv} {t:Int} {s:List UInt8},MS Z raw rl k Γ0 n0 vb 3 r N U L H m->U<=24->0<=t->t<7->s.length<=1060->(∀H' nx',m<=nx'->MS Z raw rl k Γ0 n0 vb 3 r N (U+1) (L+3300) H' nx'->K (.ret (.tuple [])) H' nx')->qk PG vx [.ptr k 0,iv t,iv n,.str s] H m K:=λS hU ht0 ht1 hs hK=>
  YT (c:=2) S ht0 ht1 h0 (by omega) hU (by omega) (by omega) hK
 refine⟨rfl,S.sizeP λq=>qi.2 ⟨λ_=> ?_,λ_=>⟨rfl,S.namesP λm hm1 hm2 S=>qi.2 ⟨λ_=> ?_,λh24=>have h24':m<=24:=(by have:¬(24:Int)<m:=of_decide_eq_false h24;omega); ?_⟩⟩⟩⟩
 all_goals repeat' (with_reducible first
  |(refine qi.2 ⟨λhb=> ?_,λhb=> ?_⟩<;>first|replace hb:=of_decide_eq_true hb|replace hb:=of_decide_eq_false hb|skip)
  |(refine qgo R S (by omega) (by omega) (by decide) λs H m g S hs=>qb.2 ⟨_,rfl,?_⟩)
  |(refine jF R S (by omega) (by omega) λj H m g S h1 h2=>qb.2 ⟨_,rfl,?_⟩)
  |(refine V8 R S (by omega) (by omega) λs H m g S hs=>qb.2 ⟨_,rfl,?_⟩)
  |(refine qms R S (by omega) (by omega) λs H m g S hs=>qb.2 ⟨_,rfl,?_⟩)
  |(refine Z2 S h0 (by omega) (by first|omega|(simp only [List.length_append,List.length_cons,List.length_nil];omega)|(simp only [List.length_cons,List.length_nil];omega)) (by omega) λH m g S=>qb.2 ?_)
  |(refine ln1 S (by first|omega|(simp only [List.length_append,List.length_cons,List.length_nil];omega)) (by omega) λH m g S=>qb.2 ?_)
  |(refine st_ (by omega) S (by intro D' e;subst e;have:TB (D'+1)=40000+8*TB D':=rfl;omega) λD' H m vb' eD eT g S=>qb.2 ?_)
  |(refine dc S (by omega) (by omega) (by omega) (by omega) λH m g S=>qb.2 ?_)
  |(refine lp2 S (by omega) λH m vb' g S=>qb.2 ?_)
  |exact hK _ _ _ (by omega) (S.le (by omega) (by omega) (by omega) (by omega))
  |(refine And.intro (by first|omega|(simp only [List.length_append,List.length_cons,List.length_nil];omega)) ?_)
  |(refine aPb h1 h2 λs hs=> ?_)
  |(refine S.loopsP λq=> ?_)
  |(refine S.callsP λq=> ?_)
  |(refine S.resP λhr=> ?_)
  |(refine And.intro rfl ?_))
 all_goals skip
end
section
variable{raw:qa}{rl:List Int}{k n0 vb c N U L:Nat}{r:Int}{Γ0 Γ:GH}{H:qd}{nx:Nat}{K:qv}
theorem qev(R:Zs raw rl)(D:Nat)(h:D<=3):QO Z raw rl k r D:=by
 induction D with
 |zero=>
  have h0:qdy Z raw rl k r 0:= @WI _ _ _ _ _ _ R 0 h λD' e=>by omega
  exact @K9 _ _ _ _ _ _ R 0 @h0
 |succ D ih=>
  have hi:QO Z raw rl k r D:= @ih (by omega)
  have h0:qdy Z raw rl k r (D+1):= @WI _ _ _ _ _ _ R (D+1) h λD' e=>by cases e;exact @hi
  exact @K9 _ _ _ _ _ _ R (D+1) @h0
def MF(Z:Nat->Prop)(raw:qa)(rl:List Int)(k:Nat)(Γ0:GH)(n0 vb c:Nat)(r:Int)(L:Nat)(H:qd)(nx:Nat):Prop:=
 n0<=nx/\Γ0 k=none/\Γ0 vb=none/\∃Γ,HZ Z Γ H nx/\(∀b cs,Γ0 b=some cs->Γ b=some cs)/\
  ∃(a:Nat) (full:Bool) (loops size:Int) (out:List UInt8) (calls:Bool) (ds:List qa),Γ k=some (mkC raw a vb full (0:Nat) loops size out r calls)/\a<=rl.length/\r<=6/\out.length<=L/\c<=3/\
   Γ vb=some ds/\ds.length=7/\qen ds/\(∀x,x∈ds->kW c Γ x)/\∀(i b n:Nat) (f:Bool),ds[i]?=some (.slice b 0 n 1 f)->Γ0 b=none
theorem MF.ms(S:MF Z raw rl k Γ0 n0 vb c r L H nx):MS Z raw rl k Γ0 n0 vb 3 r 0 0 L H nx:=by
 obtain⟨h0,h1,h2,Γ,h3,h4,a,full,loops,size,out,calls,ds,e,e1,e4,e5,e6,d1,d2,d4,d3,d5⟩:=S
 exact⟨h0,h1,h2,Γ,h3,h4,a,full,0,loops,size,out,calls,e,e1,Nat.le_refl _,Nat.le_refl _,e4,e5,by omega,ds,d1,d2,d4,λx hx=>(d3 x hx).mono λ_ _ _ h=>h⟩
theorem app1{q M:Nat}{v:qa}{name:List UInt8}(hk:HZ Z Γ H nx)(hq:Γ q=some [.str name])(hv:kW M Γ v)(hl:name.length<=20)(hM:M<=1000)
  {p:qa->qd->Nat->Prop}
  (hK:∀(v':qa) (H':qd) (nx':Nat) (Γ':GH) (b:Nat) (f:Bool) (ss:List (List UInt8)),nx<=nx'->HZ Z Γ' H' nx'->(∀b' cs,Γ b'=some cs->(∀n g,v≠ .slice b' 0 n 1 g)->Γ' b'=some cs)->v'= .slice b 0 ss.length 1 f->Γ' b=some (ss.map .str)->Γ b=none->0<ss.length->ss.length<=M+1->(∀s,s∈ss->s.length<=20)->p v' H' nx'):
  ∃i2 l2,zJ 1 H (.slice q 0 1 1 true)=some (i2,l2)/\qq l2=true/\∃v2 H2 i3,zt H nx 1 16 v i2 l2=some (v2,H2,i3)/\p v2 H2 i3:=by
 refine⟨1,[.str name],by rw [hk.src hq (by simp)];simp,rfl,?_⟩
 have hf:=hk.fresh (Nat.le_refl nx)
 rcases hv with rfl|⟨b,n,full,ss,rfl,hb,h1,h2,h3,h4⟩
 ·obtain⟨H2,a1,a2⟩:=hk.appNil (esz:=1) (ebytes:=16) (k:=1) (new:=[.str name]) (by simp) (by omega) (by omega) (by omega)
  refine⟨_,H2,_,a1,hK _ _ _ _ nx false [name] (by omega) a2 (λb cs e _=>(qg (neK e hf)).trans e) rfl (by rw [qf];simp) hf (by simp) (by simp) λs hs=> ?_⟩
  simp at hs;subst hs;exact hl
 ·have hlen:(ss.map u3).length=ss.length:=by simp
  have htk:((ss.map u3).take (n*1))++[u3 name]=(ss.take n++[name]).map .str:=by rw [Nat.mul_one];simp
  have hall:∀s,s∈ss.take n++[name]->s.length<=20:=λs hs=>by
   rcases List.mem_append.1 hs with h|h
   ·exact h4 _ (List.mem_of_mem_take h)
   ·simp at h;subst h;exact hl
  have hsl:(ss.take n++[name]).length=n+1:=by simp;omega
  cases full with
  |true=>
   obtain⟨H2,a1,a2⟩:=hk.appFull (esz:=1) (ebytes:=16) (k:=1) (off:=0) (len:=n) (new:=[.str name]) hb (by rw [hlen];omega) (by simp) (by omega) (by omega) (by omega)
   rw [List.drop_zero,htk]at a2;exact⟨_,H2,_,a1,hK _ _ _ _ nx false (ss.take n++[name]) (by omega) a2 (λb cs e _=>(qg (neK e hf)).trans e) (by rw [hsl]) (qf _ _ _) hf (by omega) (by omega) hall⟩
  |false=>
   obtain⟨H2,a1,a2⟩:=hk.app (esz:=1) (ebytes:=16) (k:=1) (len:=n) (new:=[.str name]) hb (by rw [hlen];omega) (by simp) (by omega) (by omega) (by omega)
   rw [htk]at a2;refine⟨_,H2,_,a1,hK _ _ _ _ nx false (ss.take n++[name]) (by omega) a2 (λb' cs e hne=> ?_) (by rw [hsl]) (qf _ _ _) hf (by omega) (by omega) hall⟩
   rw [qg (neK e hf),qg λx=>hne n false (by rw [x])]
   exact e
theorem MF.setRow{Γ':GH}{a:Nat}{full:Bool}{loops size:Int}{out:List UInt8}{calls:Bool}{ds:List qa}{t b:Nat}{f:Bool}{ss:List (List UInt8)}(hk:HZ Z Γ' H nx)(h0:n0<=nx)(h1:Γ0 k=none)(h2:Γ0 vb=none)(hs:∀b cs,Γ0 b=some cs->Γ b=some cs)
  (e:Γ k=some (mkC raw a vb full (0:Nat) loops size out r calls)) (e1:a<=rl.length) (e4:r<=6) (e5:out.length<=L) (hc:c+1<=3) (d1:Γ vb=some ds) (d2:ds.length=7) (d4:qen ds) (d3:∀x,x∈ds->kW c Γ x) (d5:∀(i b n:Nat) (f:Bool),ds[i]?=some (.slice b 0 n 1 f)->Γ0 b=none)
  (ht:t<7) {v:qa} (hv:ds[t]?=some v) (keep:∀b' cs,Γ b'=some cs->(∀n g,v≠ .slice b' 0 n 1 g)->Γ' b'=some cs) (hb:Γ' b=some (ss.map .str)) (hbn:Γ b=none) (hl0:0<ss.length) (hl:ss.length<=c+1) (hls:∀s,s∈ss->s.length<=20)
  {p:qd->Prop} (hK:∀H',MF Z raw rl k Γ0 n0 vb (c+1) r L H' nx->p H'):∃H1,stC H (.ptr vb t) [.slice b 0 ss.length 1 f]=some H1/\p H1:=by
 have hvk:=wE e d1 d2
 have vne:∀{b':Nat} {cs:List qa},Γ b'=some cs->(b'=k\/b'=vb\/Γ0 b'≠none)->Γ' b'=some cs:=λ{b'} {cs} e' h=>keep b' cs e' λn g hx=>by
  subst hx;rcases d3 _ (List.mem_of_getElem? hv)with q|⟨b2,n2,f2,ss2,q1,q2,q3,q4,_⟩
  ·cases q
  ·cases q1
   rcases h with rfl|rfl|h
   ·exact kt e q2 rfl
   ·exact jG d1 d2 d3 (λx=>by subst x;simp at q3;omega) q2 rfl
   ·exact h (d5 _ _ _ _ hv)
 have g1:=vne d1 (.inr (.inl rfl))
 refine vo hk g1 (by omega) rfl λH' hk'=>hK H' ?_
 have bvb:b≠vb:=λx=>by subst x;rw [d1]at hbn;cases hbn
 have others:∀i x,i≠t->ds[i]?=some x->kW (c+1) (gup vb (some (ds.set t (.slice b 0 ss.length 1 f))) Γ') x:=λi x hi hx=>by
  rcases d3 x (List.mem_of_getElem? hx)with q|⟨b2,n2,f2,ss2,q1,q2,q3,q4,q5,q6⟩
  ·exact .inl q
  ·refine .inr ⟨b2,n2,f2,ss2,q1,?_,q3,q4,by omega,q6⟩
   rw [qg (jG d1 d2 d3 (λx=>by subst x;simp at q3;omega) q2)]
   refine keep _ _ q2 λn g hvx=> ?_
   subst q1 hvx;exact d4 i t b2 n2 n f2 g hi hx hv
 refine⟨h0,h1,h2,_,hk',λb' cs' e'=> ?_,a,full,loops,size,out,calls,_,(qg (Ne.symm hvk)).trans (vne e (.inl rfl)),e1,e4,e5,hc,qf _ _ _,by simp [d2],?_,λx hx=> ?_,λi b' n g hi=> ?_⟩
 ·have:b'≠vb:=λx=>by subst x;rw [h2]at e';cases e'
  exact(qg this).trans (vne (hs _ _ e') (.inr (.inr (by rw [e'];simp))))
 ·intro i j b' n m g1 g2 hij hi hj;rw [List.getElem?_set]at hi hj;have nb:∀(i n:Nat) (g:Bool),ds[i]?≠some (.slice b 0 n 1 g):=λi n g hx=>by
   rcases d3 _ (List.mem_of_getElem? hx)with q|⟨b2,n2,f2,ss2,q1,q2,_⟩
   ·cases q
   ·cases q1;rw [hbn]at q2;cases q2
  by_cases hti:t=i
  ·subst hti;rw [if_pos rfl,if_pos (by omega)]at hi
   cases hi
   rw [if_neg (by omega)]at hj
   exact nb _ _ _ hj
  ·rw [if_neg hti]at hi;by_cases htj:t=j
   ·subst htj;rw [if_pos rfl,if_pos (by omega)]at hj
    cases hj
    exact nb _ _ _ hi
   ·rw [if_neg htj]at hj;exact d4 i j b' n m g1 g2 hij hi hj
 ·obtain⟨i,hi⟩:=List.mem_iff_getElem?.1 hx
  rw [List.getElem?_set]at hi;by_cases hti:t=i
  ·subst hti;rw [if_pos rfl,if_pos (by omega)]at hi
   cases hi
   exact .inr ⟨b,ss.length,f,ss,rfl,(qg bvb).trans hb,Nat.le_refl _,hl0,hl,hls⟩
  ·rw [if_neg hti]at hi;exact others i x (Ne.symm hti) hi
 ·rw [List.getElem?_set]at hi;by_cases hti:t=i
  ·subst hti;rw [if_pos rfl,if_pos (by omega)]at hi
   cases hi
   exact vR hs hbn
  ·rw [if_neg hti]at hi;exact d5 i b' n g hi
theorem MS.begin_(S:MS Z raw rl k Γ0 n0 vb c r N U L H nx){r':Int}(hr:r'<=6){cc:Bool}{p:qa->qa->qa->qa->qa->qd->Prop}(hK:∀H',MF Z raw rl k Γ0 n0 nx 0 r' L H' (nx+1)->p (.ptr k 2) (.ptr k 3) (.ptr k 5) (.ptr k 7) (.ptr k 8) H'):
  ∃H0,H0=qo nx [u6,u6,u6,u6,u6,u6,u6] H/\true=true/\∃v1,some (u0 k 2)=some v1/\true=true/\∃H2,stC H0 v1 [qa.slice nx 0 7 1 true]=some H2/\true=true/\∃v3,some (u0 k 3)=some v3/\true=true/\∃H4,stC H2 v3 [iv 0]=some H4/\
   true=true/\∃v5,some (u0 k 5)=some v5/\true=true/\∃H6,stC H4 v5 [iv 0]=some H6/\true=true/\∃v7,some (u0 k 7)=some v7/\true=true/\∃H8,stC H6 v7 [iv r']=some H8/\true=true/\∃v9,some (u0 k 8)=some v9/\true=true/\∃H10,stC H8 v9 [u5 cc]=some H10/\p v1 v3 v5 v7 v9 H10:=by
 obtain⟨h0,h1,h2,Γ,h3,h4,a,full,names,loops,size,out,calls,e,e1,e2,e3,e4,e5,e6,ds,d1,d2,d4,d3⟩:=S
 have hf:=h3.fresh (Nat.le_refl nx)
 have hnk:k≠nx:=neK e hf
 refine kO h3 (nx':=nx+1) lR (by omega) λH0 k0=>⟨rfl,_,rfl,rfl,?_⟩
 have e0:gup nx (some [u6,u6,u6,u6,u6,u6,u6]) Γ k=some (mkC raw a vb full names loops size out r calls):=(qg hnk).trans e
 refine vo k0 e0 (by simp) rfl λH1 k1=>⟨rfl,_,rfl,rfl,?_⟩
 refine vo k1 (qf _ _ _) (by simp) rfl λH2 k2=>⟨rfl,_,rfl,rfl,?_⟩
 refine vo k2 (qf _ _ _) (by simp) rfl λH3 k3=>⟨rfl,_,rfl,rfl,?_⟩
 refine vo k3 (qf _ _ _) (by simp) rfl λH4 k4=>⟨rfl,_,rfl,rfl,?_⟩
 refine vo k4 (qf _ _ _) (by simp) rfl λH5 k5=>hK H5 ?_
 rw [km,km,km,km]at k5;have h0n:Γ0 nx=none:=vR h4 hf
 refine⟨by omega,h1,h0n,_,k5,λb cs e'=> ?_,a,true,loops,0,out,cc,[u6,u6,u6,u6,u6,u6,u6],qf _ _ _,e1,hr,e5,by omega,by rw [qg (Ne.symm hnk),qf],rfl,?_,?_,?_⟩
 ·have hb:b≠k:=λx=>by subst x;rw [h1]at e';cases e'
  have hb2:b≠nx:=λx=>by subst x;rw [h0n]at e';cases e'
  rw [qg hb,qg hb2];exact h4 _ _ e'
 ·intro i j b n m f g _ hi _;have:=List.mem_of_getElem? hi
  simp at this
 ·intro x hx;simp at hx;subst hx;exact .inl rfl
 ·intro i b n f hi;have:=List.mem_of_getElem? hi
  simp at this
theorem qmm(S:MF Z raw rl k Γ0 n0 vb c r L H nx){n:Int}{s:List UInt8}(h0:0<=n)(h1:n<=100)(hs:s.length<=3199)(hL:L<=500000000000)
  (hK:∀H' nx',nx<=nx'->MF Z raw rl k Γ0 n0 vb c r (L+3300) H' nx'->K (.ret (.tuple [])) H' nx'):qk PG qC [.ptr k 0,iv n,.str s] H nx K:=by
 obtain⟨g0,g1,g2,Γ,g3,g4,a,full,loops,size,out,calls,ds,e,e1,e4,e5,e6,d1,d2,d4,d3,d5⟩:=S
 refine qk.of_body qr ?_
 rw [Kj];have c6:ld1 H (.ptr k 6)=some (.str out):=by rw [g3.ld1 e];rfl
 refine⟨rfl,_,rfl,_,c6,⟨⟨_,c6,rfl⟩,trivial⟩,qea h0 h1 λt ht=>qb.2 ⟨_,rfl,by omega,by simp only [List.length_append];omega,by simp only [List.length_append];omega,rfl,_,rfl,⟨⟨_,c6,rfl⟩,trivial⟩,rfl,?_⟩⟩
 refine vo (g3.more (by omega:nx<=nx+15)) e (by simp) rfl λH' hk'=>⟨trivial,hK _ _ (by omega) ?_⟩
 have hne:=wE e d1 d2
 refine⟨by omega,g1,g2,_,hk',λb cs' e'=> ?_,a,full,loops,size,_,calls,ds,qf _ _ _,e1,e4,?_,e6,(qg hne).trans d1,d2,d4,λx hx=>(d3 x hx).mono λb ss _ hb=>(qg (kt e hb)).trans hb,d5⟩
 ·have:b≠k:=λx=>by subst x;rw [g1]at e';cases e'
  exact(qg this).trans (g4 _ _ e')
 ·simp only [List.length_append,List.length_cons,List.length_nil];omega
theorem qpm(S:MF Z raw rl k Γ0 n0 vb c r L H nx)(hc:c+1<=3){p:qd->Nat->Prop}(hK:∀H' nx',nx<=nx'->MF Z raw rl k Γ0 n0 vb (c+1) r L H' nx'->p H' nx'):
  true=true/\∃v8,some (u0 k 2)=some v8/\∃v9,ld1 H v8=some v9/\true=true/\∃v10,some (u0 k 2)=some v10/\∃v11,ld1 H v10=some v11/\(0:Int)<=6/\∃v12,zq v11 6 1=some v12/\∃v13,ld1 H v12=some v13/\true=true/\∃H14,H14=qo (nx+10) [u3 [122]] H/\
   ((∃v15,ld1 H14 v8=some v15/\v15=v9)/\(∃v16,ld1 H14 v10=some v16/\v16=v11)/\(∃v17,ld1 H14 v12=some v17/\v17=v13)/\True)/\∃i18 l19,zJ 1 H14 (qa.slice (nx+10) 0 1 1 true)=some (i18,l19)/\qq l19=true/\∃v20 H21 i22,zt H14 (nx+14) 1 16 v13 i18 l19=some (v20,H21,i22)/\(0:Int)<=6/\
   ∃v23,zq v9 6 1=some v23/\((∃v24,ld1 H21 v8=some v24/\v24=v9)/\True)/\qI v20=true/\∃H25,stC H21 v23 [v20]=some H25/\True/\p H25 i22:=by
 obtain⟨g0,g1,g2,Γ,g3,g4,a,full,loops,size,out,calls,ds,e,e1,e4,e5,e6,d1,d2,d4,d3,d5⟩:=S
 have hf:=g3.non (show nx<=nx+10 by omega)
 have k14:HZ Z (gup (nx+10) (some [u3 [122]]) Γ) (qo (nx+10) [u3 [122]] H) (nx+14):=g3.new (by omega) (by omega) _
 have s14:∀b cs,Γ b=some cs->gup (nx+10) (some [u3 [122]]) Γ b=some cs:=λb cs e=>(qg (neK e hf)).trans e
 have g10:gup (nx+10) (some [u3 [122]]) Γ (nx+10)=some [u3 [122]]:=qf _ _ _
 generalize gup (nx+10) (some [u3 [122]]) Γ=Γ2 at k14 s14 g10
 have hlt:6<ds.length:=by omega
 have ix:zq (.slice vb 0 7 1 full) 6 1=some (.ptr vb 6):=by rw [zW (by omega)]
 have lk:∀{H' nx' Γ'},HZ Z Γ' H' nx'->Γ' k=some (mkC raw a vb full (0:Nat) loops size out r calls)->ld1 H' (.ptr k 2)=some (.slice vb 0 7 1 full):=λhk hs=>by rw [hk.ld1 hs];rfl
 have lv:∀{H' nx' Γ'},HZ Z Γ' H' nx'->Γ' vb=some ds->ld1 H' (.ptr vb 6)=some ds[6]:=λhk hs=>by rw [hk.ld1 hs];simp [hlt]
 refine⟨rfl,_,rfl,_,lk g3 e,rfl,_,rfl,_,lk g3 e,by decide,_,ix,_,lv g3 d1,rfl,_,rfl,⟨⟨_,lk k14 (s14 _ _ e),rfl⟩,⟨_,lk k14 (s14 _ _ e),rfl⟩,⟨_,lv k14 (s14 _ _ d1),rfl⟩,trivial⟩,?_⟩
 have hv6:ds[6]?=some ds[6]:=List.getElem?_eq_getElem hlt
 have st:=d3 _ (List.getElem_mem hlt)
 refine app1 (M:=c) (v:=ds[6]) (name:=[122]) k14 g10 (st.mono λb ss _ hb=>s14 _ _ hb) (by decide) (by omega) λv' H' nx' Γ' b f ss gx k' keep hv hb hbn hl0 hl hls=> ?_
 subst hv;have rowne:∀{b':Nat} {cs:List qa},Γ b'=some cs->(b'=k\/b'=vb)->Γ' b'=some cs:=λ{b'} {cs} e' h=>keep b' cs (s14 _ _ e') λn g hx=>by
  rcases st with q|⟨b2,n2,f2,ss2,q1,q2,q3,q4,_⟩
  ·rw [q]at hx;cases hx
  ·rw [q1]at hx;cases hx
   rcases h with rfl|rfl
   ·exact kt e q2 rfl
   ·exact jG d1 d2 d3 (λx=>by subst x;simp at q3;omega) q2 rfl
 refine⟨by decide,_,ix,⟨⟨_,lk k' (rowne e (.inl rfl)),rfl⟩,trivial⟩,rfl,?_⟩
 refine MF.setRow (L:=L) k' (by omega) g1 g2 (λb cs e=>s14 _ _ (g4 _ _ e)) (s14 _ _ e) e1 e4 e5 hc (s14 _ _ d1) d2 d4 (λx hx=>(d3 x hx).mono λb ss _ hb=>s14 _ _ hb) d5 (by omega) hv6 keep hb hbn hl0 hl hls λH1 S1=>⟨trivial,hK _ _ (by omega) S1⟩
def qp8(Γ:GH)(ps ts:qa)(pn:List (List UInt8))(pt:List Int):Prop:=
 (ps= .nilSlice/\pn=[])\/∃b1 b2,ps= .slice b1 0 pn.length 1 true/\ts= .slice b2 0 pn.length 1 true/\Γ b1=some (pn.map .str)/\Γ b2=some (pt.map λn=>qa.int .i64 n)/\pt.length=pn.length
theorem qpk(S:MF Z raw rl k Γ0 n0 vb c r L H nx)(hc:c+1<=3){ps ts:qa}{pn:List (List UInt8)}{pt:List Int}{i:Nat}(hp:qp8 Γ0 ps ts pn pt)(hi:i<pn.length)(hn:∀s,s∈pn->s.length<=20)(ht:∀t,t∈pt->0<=t/\t<7){p:qd->Nat->Prop}(hK:∀H' nx',nx<=nx'->MF Z raw rl k Γ0 n0 vb (c+1) r L H' nx'->p H' nx'):
  true=true/\∃v1,some (u0 k 2)=some v1/\∃v2,ld1 H v1=some v2/\(0:Int)<=(i:Int)/\∃v3,zq ts (i:Int).toNat 1=some v3/\∃n4:Int,ld1 H v3=some (iv n4)/\true=true/\∃v5,some (u0 k 2)=some v5/\∃v6,ld1 H v5=some v6/\(0:Int)<=(i:Int)/\∃v7,zq ts (i:Int).toNat 1=some v7/\∃n8:Int,ld1 H v7=some (iv n8)/\0<=n8/\
   ∃v9,zq v6 n8.toNat 1=some v9/\∃v10,ld1 H v9=some v10/\(0:Int)<=(i:Int)/\∃v11,zq ps (i:Int).toNat 1=some v11/\∃s12,ld1 H v11=some (u3 s12)/\true=true/\∃H13,H13=qo (nx+22) [u3 s12] H/\
   ((∃v14,ld1 H13 v1=some v14/\v14=v2)/\(∃n15:Int,ld1 H13 v3=some (iv n15)/\iv n15=iv n4)/\(∃v16,ld1 H13 v5=some v16/\v16=v6)/\(∃n17:Int,ld1 H13 v7=some (iv n17)/\iv n17=iv n8)/\(∃v18,ld1 H13 v9=some v18/\v18=v10)/\(∃s19,ld1 H13 v11=some (u3 s19)/\u3 s19=u3 s12)/\True)/\
   ∃i20 l21,zJ 1 H13 (qa.slice (nx+22) 0 1 1 true)=some (i20,l21)/\qq l21=true/\∃v22 H23 i24,zt H13 (nx+26) 1 16 v10 i20 l21=some (v22,H23,i24)/\0<=n4/\∃v25,zq v2 n4.toNat 1=some v25/\((∃v26,ld1 H23 v1=some v26/\v26=v2)/\(∃n27:Int,ld1 H23 v3=some (iv n27)/\iv n27=iv n4)/\True)/\qI v22=true/\
   ∃H28,stC H23 v25 [v22]=some H28/\True/\p H28 i24:=by
 obtain⟨g0,g1,g2,Γ,g3,g4,a,full,loops,size,out,calls,ds,e,e1,e4,e5,e6,d1,d2,d4,d3,d5⟩:=S
 rcases hp with⟨rfl,rfl⟩|⟨b1,b2,rfl,rfl,p1,p2,p3⟩
 ·simp at hi
 have hit:i<pt.length:=by omega
 have htm:=ht _ (List.getElem_mem hit)
 have hnm:=hn _ (List.getElem_mem hi)
 generalize hT:pt[i]=T at htm
 generalize hS:pn[i]=w at hnm
 have hf:=g3.non (show nx<=nx+22 by omega)
 have k14:HZ Z (gup (nx+22) (some [u3 w]) Γ) (qo (nx+22) [u3 w] H) (nx+26):=g3.new (by omega) (by omega) _
 have s14:∀b cs,Γ b=some cs->gup (nx+22) (some [u3 w]) Γ b=some cs:=λb cs e=>(qg (neK e hf)).trans e
 have g10:gup (nx+22) (some [u3 w]) Γ (nx+22)=some [u3 w]:=qf _ _ _
 generalize gup (nx+22) (some [u3 w]) Γ=Γ2 at k14 s14 g10
 have hlt:T.toNat<ds.length:=by omega
 have ix:zq (.slice vb 0 7 1 full) T.toNat 1=some (.ptr vb T.toNat):=by rw [zW (by omega)];simp
 have lk:∀{H' nx' Γ'},HZ Z Γ' H' nx'->Γ' k=some (mkC raw a vb full (0:Nat) loops size out r calls)->ld1 H' (.ptr k 2)=some (.slice vb 0 7 1 full):=λhk hs=>by rw [hk.ld1 hs];rfl
 have lv:∀{H' nx' Γ'},HZ Z Γ' H' nx'->Γ' vb=some ds->ld1 H' (.ptr vb T.toNat)=some ds[T.toNat]:=λhk hs=>by rw [hk.ld1 hs];simp [hlt]
 have l1:∀{H' nx' Γ'},HZ Z Γ' H' nx'->Γ' b1=some (pn.map .str)->ld1 H' (.ptr b1 i)=some (.str w):=λhk hs=>by rw [hk.ld1 hs];simp [hi,hS]
 have l2:∀{H' nx' Γ'},HZ Z Γ' H' nx'->Γ' b2=some (pt.map λn=>qa.int .i64 n)->ld1 H' (.ptr b2 i)=some (iv T):=λhk hs=>by rw [hk.ld1 hs];simp [hit,hT]
 have i1:∀b,zq (.slice b 0 pn.length 1 true) (i:Int).toNat 1=some (.ptr b i):=λb=>by rw [Int.toNat_natCast,zW hi];simp
 have q1:=g4 _ _ p1
 have q2:=g4 _ _ p2
 refine⟨rfl,_,rfl,_,lk g3 e,by omega,_,i1 _,_,l2 g3 q2,rfl,_,rfl,_,lk g3 e,by omega,_,i1 _,_,l2 g3 q2,htm.1,_,ix,_,lv g3 d1,by omega,_,i1 _,_,l1 g3 q1,rfl,_,rfl,⟨⟨_,lk k14 (s14 _ _ e),rfl⟩,⟨_,l2 k14 (s14 _ _ q2),rfl⟩,⟨_,lk k14 (s14 _ _ e),rfl⟩,⟨_,l2 k14 (s14 _ _ q2),rfl⟩,⟨_,lv k14 (s14 _ _ d1),rfl⟩,⟨_,l1 k14 (s14 _ _ q1),rfl⟩,trivial⟩,?_⟩
 have hv6:ds[T.toNat]?=some ds[T.toNat]:=List.getElem?_eq_getElem hlt
 have st:=d3 _ (List.getElem_mem hlt)
 refine app1 (M:=c) (v:=ds[T.toNat]) (name:=w) k14 g10 (st.mono λb ss _ hb=>s14 _ _ hb) hnm (by omega) λv' H' nx' Γ' b f ss gx k' keep hv hb hbn hl0 hl hls=> ?_
 subst hv;have rowne:∀{b':Nat} {cs:List qa},Γ b'=some cs->(b'=k\/b'=vb\/Γ0 b'≠none)->Γ' b'=some cs:=λ{b'} {cs} e' h=>keep b' cs (s14 _ _ e') λn g hx=>by
  rcases st with q|⟨b2,n2,f2,ss2,q1,q2,q3,q4,_⟩
  ·rw [q]at hx;cases hx
  ·rw [hx]at hv6;rw [q1]at hx;cases hx
   rcases h with rfl|rfl|h
   ·exact kt e q2 rfl
   ·exact jG d1 d2 d3 (λx=>by subst x;simp at q3;omega) q2 rfl
   ·exact h (d5 _ _ _ _ hv6)
 refine⟨htm.1,_,ix,⟨⟨_,lk k' (rowne e (.inl rfl)),rfl⟩,⟨_,l2 k' (rowne q2 (.inr (.inr (by rw [p2];simp)))),rfl⟩,trivial⟩,rfl,?_⟩
 refine MF.setRow (L:=L) k' (by omega) g1 g2 (λb cs e=>s14 _ _ (g4 _ _ e)) (s14 _ _ e) e1 e4 e5 hc (s14 _ _ d1) d2 d4 (λx hx=>(d3 x hx).mono λb ss _ hb=>s14 _ _ hb) d5 (by omega) hv6 keep hb hbn hl0 hl hls λH1 S1=>⟨trivial,hK _ _ (by omega) S1⟩
theorem ZD(R:Zs raw rl)(S:MS Z raw rl k Γ0 n0 vb c r N U L H nx){h:List UInt8}{ps ts:qa}{pn:List (List UInt8)}{pt:List Int}{r' d:Int}{cc:Bool}{L':Nat}(hh:h.length<=100)(hp:qp8 Γ0 ps ts pn pt)(hpl:pn.length<=2)(hn:∀s,s∈pn->s.length<=20)(ht:∀t,t∈pt->0<=t/\t<7)
  (hr:r'<=6) (hd0:0<=d) (hd:d<=3) (hL:L+100000000<=L') (hL':L'<=400000000000) (hK:∀H' nx' vb',nx<=nx'->MS Z raw rl k Γ0 n0 vb' 3 r' 0 25 L' H' nx'->K (.ret (.tuple [])) H' nx'):
  qk PG Qa [.ptr k 0,.str h,ps,ts,iv r',iv d,.bool cc] H nx K:=by
 refine qk.of_body qr ?_
 rw [qfk];have hlen:kI ps=some pn.length:=by
  rcases hp with⟨rfl,rfl⟩|⟨b1,b2,rfl,_⟩<;>rfl
 have hT3:TB 3=23400000:=by decide
 refine⟨rfl,by decide,by decide,by decide,by decide,S.begin_ hr λH10 S=> ?_⟩
 refine zu (P:=PG) (X:=Nat) (Y:=Unit) (λi=>qj .und [(14,iv i),(5,iv d),(4,iv r'),(3,ts),(2,ps),(1,.str h),(0,.ptr k 0)]) (λ_=>qj .und [(14,iv pn.length),(5,iv d),(4,iv r'),(3,ts),(2,ps),(1,.str h),(0,.ptr k 0)])
  (λq i H1 nx1=>q=pn.length - i/\i<=pn.length/\nx<=nx1/\MF Z raw rl k Γ0 n0 nx i r' L H1 nx1) (λid _ H1 nx1=>id=0/\nx<=nx1/\MF Z raw rl k Γ0 n0 nx pn.length r' L H1 nx1) pn.length 0
  (ql.okay) ⟨rfl,by omega,by omega,S⟩ ?_ ?_
 ·rintro q i H1 nx1 ⟨rfl,hi,hx,S⟩
  refine WpP.part (ts:=[0,1,2,3,4,5,14]) qr ?_
  rw [qn7];refine⟨_,hlen,qi.2 ⟨λh=> ?_,λh=> ?_⟩⟩
  ·have h:(i:Int)<(pn.length:Int):=of_decide_eq_true h
   refine qpk S (by omega) hp (by omega) hn ht λH2 nx2 g S=>⟨rfl,pn.length - (i+1),i+1,by omega,?_,rfl,by omega,by omega,S⟩
   rw [qw (by omega) (by omega)]
   exact ql.okay
  ·have h:¬(i:Int)<(pn.length:Int):=of_decide_eq_false h
   have:i=pn.length:=by omega
   subst this;exact⟨rfl,(),ql.okay,rfl,hx,S⟩
 ·rintro id _ H1 nx1 ⟨rfl,hx,S⟩
  rw [qnc];refine⟨by omega,qmm S (by omega) (by omega) (by simp only [List.length_append,List.length_cons,List.length_nil];omega) (by omega) λH m g1 S=>qb.2 ?_⟩
  refine qmm S (by omega) (by omega) (by decide) (by omega) λH m2 g2 S=>qb.2 ?_
  refine qpm S (by omega) λH m3 g3 S=> ?_
  have S:=S.ms
  have hst:QO Z raw rl k r' 3:= @qev _ _ _ _ _ _ R 3 (by omega)
  refine hst S (by omega) (by omega) (by omega) hd (by omega) lR (by omega) λH m4 vb' g4 S=>qb.2 ?_
  refine qi.2 ⟨λhr0=> ?_,λ_=> ?_⟩
  ·have hr0:0<=r':=of_decide_eq_true hr0
   refine qgo R S (by omega) (by omega) (by decide) λs H m5 g5 S hs=>qb.2 ⟨_,rfl,by omega,?_⟩
   refine Z2 S (by omega) (by omega) (by simp only [List.length_append,List.length_cons,List.length_nil];omega) (by omega) λH m6 g6 S=>qb.2 ?_
   exact Z2 S (by omega) (by omega) (by decide) (by omega) λH m7 g7 S=>qb.2 (hK _ _ _ (by omega) (S.le (by omega) (by omega) (by omega) (by omega)))
  ·exact Z2 S (by omega) (by omega) (by decide) (by omega) λH m7 g7 S=>qb.2 (hK _ _ _ (by omega) (S.le (by omega) (by omega) (by omega) (by omega)))
theorem MS.outP(S:MS Z raw rl k Γ0 n0 vb c r N U L H nx){p:List UInt8->Prop}(hK:∀s,s.length<=L->p s):∃v,some (u0 k 6)=some v/\∃s,ld1 H v=some (.str s)/\p s:=
 let⟨_,_,_,_,_,out,_,_,_,_,_,hl,_,_,_,_,_,_,_,c6,_⟩:=S.cells;⟨_,rfl,_,c6,hK _ hl⟩
theorem YI(R:Zs raw rl)(hk:HZ Z Γ H nx)(hK:∀s Γ' H' nx',nx<=nx'->HZ Z Γ' H' nx'->(∀b cs,Γ b=some cs->Γ' b=some cs)->s.length<=400000000000->K (.ret (.str s)) H' nx'):qk PG ZR [raw] H nx K:=by
 refine qk.of_body qr ?_
 rw [qci];have hf:=hk.fresh (Nat.le_refl nx)
 refine⟨rfl,by decide,by decide,by decide,by decide,kO hk (nx':=nx+1) lR (by omega) λH0 k0=>⟨R.cell,rfl,rfl,?_⟩⟩
 have hf2:=k0.fresh (Nat.le_refl (nx+1))
 have hn2:Γ (nx+1)=none:=by rwa [qg (by omega)]at hf2
 refine kO k0 (nx':=nx+1+1) lR (by omega) λH1 k1=> ?_
 have S:MS Z raw rl (nx+1) Γ nx nx 0 (-1) 0 0 0 H1 (nx+1+1):=by
  refine⟨by omega,hn2,hf,_,k1,λb cs e=> ?_,0,true,0,0,0,[],false,qf _ _ _,by omega,by omega,by omega,by omega,by simp,by omega,[u6,u6,u6,u6,u6,u6,u6],by rw [qg (by omega),qf],rfl,?_,?_⟩
  ·rw [qg (neK e hn2),qg (neK e hf)];exact e
  ·intro i j b n m f g _ hi _;have:=List.mem_of_getElem? hi
   simp at this
  ·intro x hx;simp at hx;subst hx;exact .inl rfl
 have a1:∀s:List UInt8,s∈ [[97],[98]]->s.length<=20:=by decide
 have a2:∀s:List UInt8,s∈ [[112]]->s.length<=20:=by decide
 have a3:∀s:List UInt8,s∈ [[112],[97]]->s.length<=20:=by decide
 have a4:∀s:List UInt8,s∈ [[113],[97]]->s.length<=20:=by decide
 have t1:∀t:Int,t∈ [0,0]->0<=t/\t<7:=by decide
 have t2:∀t:Int,t∈ [4]->0<=t/\t<7:=by decide
 have t3:∀t:Int,t∈ [4,0]->0<=t/\t<7:=by decide
 have t4:∀t:Int,t∈ [5,0]->0<=t/\t<7:=by decide
 refine Z2 S (by omega) (by omega) (by decide) (by omega) λH m g1 S=>qb.2 ⟨rfl,S.outP λs hs=>⟨by omega,rfl,_,rfl,rfl,S.setOut (L':=10000) (by simp only [List.length_append,List.length_cons,List.length_nil];omega) λH S=> ?_⟩⟩
 refine ZD R S (pn:=[]) (pt:=[]) (by decide) (.inl ⟨rfl,rfl⟩) (by decide) (by simp) (by simp) (by omega) (by omega) (by omega) lR (by omega) λH m vb g2 S=>qb.2 ⟨rfl,rfl,?_⟩
 refine S.scr (i:=m) (nx':=m+1) lR (by omega) λH S s1=>⟨rfl,rfl,S.scr (i:=m+1) (nx':=m+1+1) lR (by omega) λH S s2=> ?_⟩
 refine jF R S (by omega) (by omega) λj H m' g3 S _ _=>qb.2 ⟨_,rfl,?_⟩
 refine ZD R S (pn:=[[97],[98]]) (pt:=[0,0]) (by decide) (.inr ⟨_,_,rfl,rfl,s2 _ _ (qf _ _ _),qf _ _ _,rfl⟩) (by decide) a1 t1 (by omega) (by omega) (by omega) lR (by omega) λH m2 vb g4 S=>qb.2 ⟨rfl,?_⟩
 replace S:=S.sub (λb cs e=>s2 _ _ (s1 _ _ e));clear s1 s2
 refine S.scr (i:=m2) (nx':=m2+1) lR (by omega) λH S s1=>⟨rfl,S.scr (i:=m2+1) (nx':=m2+1+1) lR (by omega) λH S s2=> ?_⟩
 refine jF R S (by omega) (by omega) λj H m' g5 S _ _=>qb.2 ⟨_,rfl,?_⟩
 refine ZD R S (pn:=[[112]]) (pt:=[4]) (by decide) (.inr ⟨_,_,rfl,rfl,s2 _ _ (qf _ _ _),qf _ _ _,rfl⟩) (by decide) a2 t2 (by omega) (by omega) (by omega) lR (by omega) λH m3 vb g6 S=>qb.2 ⟨rfl,rfl,?_⟩
 replace S:=S.sub (λb cs e=>s2 _ _ (s1 _ _ e));clear s1 s2
 refine S.scr (i:=m3) (nx':=m3+1) lR (by omega) λH S s1=>⟨rfl,rfl,S.scr (i:=m3+1) (nx':=m3+1+1) lR (by omega) λH S s2=> ?_⟩
 refine ZD R S (pn:=[[112],[97]]) (pt:=[4,0]) (by decide) (.inr ⟨_,_,rfl,rfl,s2 _ _ (qf _ _ _),qf _ _ _,rfl⟩) (by decide) a3 t3 (by omega) (by omega) (by omega) lR (by omega) λH m4 vb g7 S=>qb.2 ⟨rfl,rfl,?_⟩
 replace S:=S.sub (λb cs e=>s2 _ _ (s1 _ _ e));clear s1 s2
 refine S.scr (i:=m4) (nx':=m4+1) lR (by omega) λH S s1=>⟨rfl,rfl,S.scr (i:=m4+1) (nx':=m4+1+1) lR (by omega) λH S s2=> ?_⟩
 refine ZD R S (pn:=[[112],[97]]) (pt:=[4,0]) (by decide) (.inr ⟨_,_,rfl,rfl,s2 _ _ (qf _ _ _),qf _ _ _,rfl⟩) (by decide) a3 t3 (by omega) (by omega) (by omega) lR (by omega) λH m5 vb g8 S=>qb.2 ⟨rfl,rfl,?_⟩
 replace S:=S.sub (λb cs e=>s2 _ _ (s1 _ _ e));clear s1 s2
 refine S.scr (i:=m5) (nx':=m5+1) lR (by omega) λH S s1=>⟨rfl,rfl,S.scr (i:=m5+1) (nx':=m5+1+1) lR (by omega) λH S s2=> ?_⟩
 refine jF R S (by omega) (by omega) λj H m' g9 S _ _=>qb.2 ⟨_,rfl,?_⟩
 refine ZD R S (pn:=[[113],[97]]) (pt:=[5,0]) (by decide) (.inr ⟨_,_,rfl,rfl,s2 _ _ (qf _ _ _),qf _ _ _,rfl⟩) (by decide) a4 t4 (by omega) (by omega) (by omega) lR (by omega) λH m6 vb g10 S=>qb.2 ⟨rfl,rfl,?_⟩
 replace S:=S.sub (λb cs e=>s2 _ _ (s1 _ _ e));clear s1 s2
 refine S.scr (i:=m6) (nx':=m6+1) lR (by omega) λH S s1=>⟨rfl,rfl,S.scr (i:=m6+1) (nx':=m6+1+1) lR (by omega) λH S s2=> ?_⟩
 refine ZD R S (pn:=[[113],[97]]) (pt:=[5,0]) (by decide) (.inr ⟨_,_,rfl,rfl,s2 _ _ (qf _ _ _),qf _ _ _,rfl⟩) (by decide) a4 t4 (by omega) (by omega) (by omega) lR (by omega) λH m7 vb g11 S=>qb.2 ⟨rfl,S.outP λs hs=> ?_⟩
 replace S:=S.sub (λb cs e=>s2 _ _ (s1 _ _ e));clear s1 s2
 obtain⟨_,_,_,Γ',q1,q2,_⟩:=S
 exact hK s Γ' _ _ (by omega) q1 q2 (by omega)
end
def K2:Prop:=∃ws:List (List UInt8),GTab.tab 0=some (ws.map .str)/\ws.length=44/\∀s,s∈ws->s.length<=20
section
variable{raw how:qa}{rl hl:List Int}{Γ:GH}{H:qd}{nx:Nat}{K:qv}
theorem K2.at_(h:K2){n:Int}(h0:0<=n)(h1:n<44):∃s:List UInt8,s.length<=20/\∀H,ld1 H (.gptr 0 (0+n.toNat*1))=some (.str s):=by
 obtain⟨ws,e,hl,hs⟩:=h
 have hn:n.toNat<ws.length:=by omega
 refine⟨ws[n.toNat],hs _ (List.getElem_mem hn),λH=> ?_⟩
 show(match GTab.tab 0 with|some l=>l[0+n.toNat*1]?|none=>none)=_
 rw [e];simp [hn]
theorem qkc(z:Int):∃b:UInt8,bv (IntKind.u8.wrap z)=qa.int .u8 (.ofNat b.toNat):=by
 have h:IntKind.u8.wrap z=z % 256:=by
  unfold IntKind.wrap;simp [IntKind.signed,IntKind.bits]
 refine⟨UInt8.ofNat (z % 256).toNat,?_⟩
 rw [h];have h0:=Int.emod_nonneg z (show(256:Int)≠0 by decide)
 have h1:=Int.emod_lt_of_pos z (show(0:Int)<256 by decide)
 have:(UInt8.ofNat (z % 256).toNat).toNat=(z % 256).toNat:=by
  simp [UInt8.toNat_ofNat']
  omega
 rw [this];show qa.int .u8 (z % 256)=qa.int .u8 (((z % 256).toNat:Nat):Int)
 rw [Int.toNat_of_nonneg h0]
theorem qh1(call:zA)(lp:Nat->jk)(lv:zU)(lvc:zT)(raw how:qa)(s:List UInt8)(i:Int)(H:qd)(nx:Nat)(K:qv):
  qx PG call (lp 118) 118 (qe PG QN) [1,1,0,1,0] (qy PG lv lvc K (qF PG QN)) .ret (qj .und [(0,raw),(1,how),(4,u3 s),(5,u3 s),(6,iv i)]) H nx [] none=K (.ret (.str s)) H nx:=by kernel_rfl
theorem qjx(R:Zs raw rl)(Hw:qm2 how hl)(hc:qI how=true)(hf:hl.length<=9223372036854775807)(W:K2)(hk:HZ Z Γ H nx)
  (hK:∀s Γ' H' nx',nx<=nx'->HZ Z Γ' H' nx'->(∀b cs,Γ b=some cs->Γ' b=some cs)->s.length<=500000000000->K (.ret (.str s)) H' nx'):qk PG QN [raw,how] H nx K:=by
 refine qk.of_body qr ?_
 rw [qcf];refine YI R hk λs Γ' H' nx' g0 k1 sub1 hs=>qb.2 ⟨_,rfl,?_⟩
 refine zu (P:=PG) (X:=List UInt8×Nat) (Y:=List UInt8×Nat) (λx=>qj .und [(6,iv x.2),(5,.str x.1),(1,how),(0,raw)]) (λx=>qj .und [(6,iv x.2),(5,.str x.1),(1,how),(0,raw)])
  (λq x H1 nx1=>q=3 - x.2/\x.2<=3/\nx<=nx1/\x.1.length<=400000000000+100*x.2/\∃Γ1,HZ Z Γ1 H1 nx1/\∀b cs,Γ b=some cs->Γ1 b=some cs)
  (λid x H1 nx1=>id=0/\x.2<=3/\nx<=nx1/\x.1.length<=400000000000+100*x.2/\∃Γ1,HZ Z Γ1 H1 nx1/\∀b cs,Γ b=some cs->Γ1 b=some cs) 3 (s,0)
  (ql.okay) ⟨rfl,by omega,by omega,by simpa using hs,_,k1,sub1⟩ ?_ ?_
 ·rintro q ⟨s,i⟩ H1 nx1 ⟨rfl,hi,hx,hs,Γ1,k,sub⟩
  dsimp only at hi hs
  refine WpP.part (ts:=[0,1,4,5,6]) qr ?_
  refine cast (qjg _ _ _ _ _ _ raw how s (i:Int) _ _).symm ?_
  refine⟨_,Hw.1,qi.2 ⟨λh=> ?_,λ_=>⟨rfl,(s,i),ql.okay,rfl,hi,hx,hs,_,k,sub⟩⟩⟩
  have h:(i:Int)<(hl.length:Int):=of_decide_eq_true h
  have hil:i<hl.length:=by omega
  refine qi.2 ⟨λh3=> ?_,λ_=>⟨rfl,(s,i),ql.okay,rfl,hi,hx,hs,_,k,sub⟩⟩
  have h3:(i:Int)<3:=of_decide_eq_true h3
  refine qi.2 ⟨λ_=> ?_,λhne=> ?_⟩
  ·show qx _ _ _ _ _ _ _ _ _ _ _ _ _
   rw [qh1];exact hK s _ _ _ hx k sub (by omega)
  have hne:¬(s.length:Int)=0:=of_decide_eq_false hne
  obtain⟨p,p1,p2⟩:=Hw.2 i hil
  have ix:zq how (i:Int).toNat 1=some p:=by rw [Int.toNat_natCast];exact p1
  have go:∀{H2:qd} {nx2:Nat} {s2:List UInt8},nx<=nx2->s2.length<=400000000000+100*(i+1)->(∃Γ1,HZ Z Γ1 H2 nx2/\∀b cs,Γ b=some cs->Γ1 b=some cs)->
    ∃m' x',m'<3 - i/\ql (qj .und [(6,iv (x':List UInt8×Nat).2),(5,.str x'.1),(1,how),(0,raw)]) (qj .und [(0,raw),(1,how),(4,u9),(5,.str s2),(6,iv (i64.wrap ((i:Int)+1)))])/\m'=3 - x'.2/\x'.2<=3/\nx<=nx2/\x'.1.length<=400000000000+100*x'.2/\∃Γ1,HZ Z Γ1 H2 nx2/\∀b cs,Γ b=some cs->Γ1 b=some cs:=
   λ{H2 nx2 s2} h1 h2 h3=>⟨3 - (i+1),(s2,i+1),by omega,by
    rw [qw (by omega) (by omega)]
    exact ql.okay,rfl,by dsimp only;omega,h1,h2,h3⟩
  refine⟨by omega,_,ix,_,p2 _,by decide,Q1 (m:=Int.ofNat s.length) (by show(0:Int)<(s.length:Int);omega) (by show(s.length:Int)<=_;omega) (qb.2 ⟨_,rfl,by omega,_,ix,_,p2 _,Q1 (by omega) (by omega) (qb.2 ⟨_,rfl,?_⟩)⟩)⟩
  obtain⟨n0,n1⟩:=ye (n:=i64.wrap ((hl.getD i 0).tdiv 50)) (m:=Int.ofNat s.length) (by show(0:Int)<(s.length:Int);omega)
  generalize i64.wrap ((hl.getD i 0).tdiv 50) % Int.ofNat s.length=n7 at n0 n1 ⊢
  have n1:n7<(s.length:Int):=n1
  have w1:i64.wrap (n7+1)=n7+1:=qw (by omega) (by omega)
  refine qi.2 ⟨λ_=> ?_,λ_=>qi.2 ⟨λ_=> ?_,λ_=>qi.2 ⟨λ_=> ?_,λ_=>qi.2 ⟨λ_=> ?_,λ_=> ?_⟩⟩⟩⟩
  ·refine⟨n0,by first|trivial|rfl|assumption|omega|(simp<;>omega),by first|trivial|rfl|assumption|omega|(simp<;>omega),by omega,_,ix,_,p2 _,by decide,rfl,?_⟩
   obtain⟨b,hb⟩:=qkc (i64.wrap ((hl.getD i 0).tdiv 7))
   rw [hb];refine kO k (nx':=nx1+17) (by omega) (by omega) λH2 k2=> ?_
   have hs2:Zq H2 (qa.slice (nx1+9) 0 1 1 true)=some [b]:=k2.str (w:=[b]) (qf _ _ _)
   rw [w1];have hf2:=k.non (show nx1<=nx1+9 by omega)
   exact⟨_,hs2,by first|trivial|rfl|assumption|omega|(simp<;>omega),by first|trivial|rfl|assumption|omega|(simp<;>omega),by first|trivial|rfl|assumption|omega|(simp<;>omega),by first|trivial|rfl|assumption|omega|(simp<;>omega),by first|trivial|rfl|assumption|omega|(simp<;>omega),⟨⟨n0,by first|trivial|rfl|assumption|omega|(simp<;>omega),by first|trivial|rfl|assumption|omega|(simp<;>omega),rfl⟩,⟨_,p2 _,rfl⟩,rfl,⟨_,hs2,rfl⟩,⟨by first|trivial|rfl|assumption|omega|(simp<;>omega),by first|trivial|rfl|assumption|omega|(simp<;>omega),by first|trivial|rfl|assumption|omega|(simp<;>omega),rfl⟩,trivial⟩,rfl,go (by omega) (by first|trivial|rfl|assumption|omega|(simp<;>omega)) ⟨_,k2,λb cs e=>(qg (neK (sub _ _ e) hf2)).trans (sub _ _ e)⟩⟩
  ·refine⟨n0,by first|trivial|rfl|assumption|omega|(simp<;>omega),by first|trivial|rfl|assumption|omega|(simp<;>omega),by first|trivial|rfl|assumption|omega|(simp<;>omega),by omega,_,ix,_,p2 _,by decide,n0,by first|trivial|rfl|assumption|omega|(simp<;>omega),by first|trivial|rfl|assumption|omega|(simp<;>omega),⟨⟨n0,by first|trivial|rfl|assumption|omega|(simp<;>omega),by first|trivial|rfl|assumption|omega|(simp<;>omega),rfl⟩,⟨_,p2 _,rfl⟩,⟨n0,by first|trivial|rfl|assumption|omega|(simp<;>omega),by first|trivial|rfl|assumption|omega|(simp<;>omega),rfl⟩,trivial⟩,Q1 (by omega) (by omega) (qb.2 ⟨_,rfl,(ye (by omega)).1,by have:=ye (n:=i64.wrap ((hl.getD i 0).tdiv 5)) (m:=44) (by omega);omega,?_⟩)⟩
   obtain⟨m0,m1⟩:=ye (n:=i64.wrap ((hl.getD i 0).tdiv 5)) (m:=44) (by omega)
   obtain⟨w,hw,hh⟩:=W.at_ m0 m1
   exact⟨_,rfl,w,hh _,by first|trivial|rfl|assumption|omega|(simp<;>omega),by first|trivial|rfl|assumption|omega|(simp<;>omega),by first|trivial|rfl|assumption|omega|(simp<;>omega),⟨⟨n0,by first|trivial|rfl|assumption|omega|(simp<;>omega),by first|trivial|rfl|assumption|omega|(simp<;>omega),rfl⟩,⟨_,hh _,rfl⟩,⟨n0,by first|trivial|rfl|assumption|omega|(simp<;>omega),by first|trivial|rfl|assumption|omega|(simp<;>omega),rfl⟩,trivial⟩,rfl,go (by omega) (by first|trivial|rfl|assumption|omega|(simp<;>omega)) ⟨_,k.more (by omega),sub⟩⟩
  ·refine⟨n0,by first|trivial|rfl|assumption|omega|(simp<;>omega),by first|trivial|rfl|assumption|omega|(simp<;>omega),by omega,_,ix,_,p2 _,by decide,⟨⟨n0,by first|trivial|rfl|assumption|omega|(simp<;>omega),by first|trivial|rfl|assumption|omega|(simp<;>omega),rfl⟩,⟨_,p2 _,rfl⟩,trivial⟩,Q1 (by omega) (by omega) (qb.2 ⟨_,rfl,?_⟩)⟩
   obtain⟨m0,m1⟩:=ye (n:=i64.wrap ((hl.getD i 0).tdiv 5)) (m:=9) (by omega)
   generalize i64.wrap ((hl.getD i 0).tdiv 5) % 9=n40 at m0 m1 ⊢
   rw [w1,qw (n:=n7+1+n40) (by omega) (by omega)]
   have em:∃n41:Int,(Bool.rec (Bool.rec (Int.ofNat s.length) (n7+1+n40) (ilt (n7+1+n40) (Int.ofNat s.length))) (Bool.rec (Int.ofNat s.length) (n7+1+n40) (ilt (Int.ofNat s.length) (n7+1+n40))) false:Int)=n41/\n7<=n41/\n41<=(s.length:Int):=by
    refine⟨_,rfl,?_⟩
    show n7<=(Bool.rec (Int.ofNat s.length) (n7+1+n40) (ilt (n7+1+n40) (Int.ofNat s.length)):Int)/\(Bool.rec (Int.ofNat s.length) (n7+1+n40) (ilt (n7+1+n40) (Int.ofNat s.length)):Int)<=_
    rw [yp];by_cases h:n7+1+n40<(s.length:Int)
    ·rw [show decide (n7+1+n40<Int.ofNat s.length)=true from decide_eq_true h];show n7<=n7+1+n40/\n7+1+n40<=_;omega
    ·rw [show decide (n7+1+n40<Int.ofNat s.length)=false from decide_eq_false h];show n7<=(s.length:Int)/\(s.length:Int)<=_;omega
   obtain⟨n41,e41,q2,q1⟩:=em
   have q0:0<=n41:=by omega
   refine⟨n41,congrArg some e41,q0,by first|trivial|rfl|assumption|omega|(simp<;>omega),by first|trivial|rfl|assumption|omega|(simp<;>omega),by first|trivial|rfl|assumption|omega|(simp<;>omega),⟨⟨n0,by first|trivial|rfl|assumption|omega|(simp<;>omega),by first|trivial|rfl|assumption|omega|(simp<;>omega),rfl⟩,⟨q0,by first|trivial|rfl|assumption|omega|(simp<;>omega),by first|trivial|rfl|assumption|omega|(simp<;>omega),rfl⟩,trivial⟩,rfl,go (by omega) (by first|trivial|rfl|assumption|omega|(simp<;>omega)) ⟨_,k.more (by omega),sub⟩⟩
  ·exact⟨n0,by first|trivial|rfl|assumption|omega|(simp<;>omega),by first|trivial|rfl|assumption|omega|(simp<;>omega),rfl,go (by omega) (by first|trivial|rfl|assumption|omega|(simp<;>omega)) ⟨_,k,sub⟩⟩
  ·refine⟨n0,by first|trivial|rfl|assumption|omega|(simp<;>omega),by first|trivial|rfl|assumption|omega|(simp<;>omega),rfl,rfl,rfl,rfl,rfl,rfl,rfl,rfl,by omega,_,ix,_,p2 _,by decide,n0,by first|trivial|rfl|assumption|omega|(simp<;>omega),by first|trivial|rfl|assumption|omega|(simp<;>omega),⟨⟨n0,by first|trivial|rfl|assumption|omega|(simp<;>omega),by first|trivial|rfl|assumption|omega|(simp<;>omega),rfl⟩,⟨_,p2 _,rfl⟩,⟨n0,by first|trivial|rfl|assumption|omega|(simp<;>omega),by first|trivial|rfl|assumption|omega|(simp<;>omega),rfl⟩,trivial⟩,Q1 (by omega) (by omega) (qb.2 ⟨_,rfl,?_⟩)⟩
   obtain⟨m0,m1⟩:=ye (n:=i64.wrap ((hl.getD i 0).tdiv 5)) (m:=8) (by omega)
   exact kM [[118,48],[122],[112],[116,114,117,101],[48],[110,105,108],[34,97,34],[110,101,119,40,81,41]] (B:=20) rfl m0 m1 rfl λw hw=>⟨by first|trivial|rfl|assumption|omega|(simp<;>omega),by first|trivial|rfl|assumption|omega|(simp<;>omega),⟨⟨n0,by first|trivial|rfl|assumption|omega|(simp<;>omega),by first|trivial|rfl|assumption|omega|(simp<;>omega),rfl⟩,⟨n0,by first|trivial|rfl|assumption|omega|(simp<;>omega),by first|trivial|rfl|assumption|omega|(simp<;>omega),rfl⟩,trivial⟩,rfl,go (by omega) (by first|trivial|rfl|assumption|omega|(simp<;>omega)) ⟨_,k.more (by omega),sub⟩⟩
 ·rintro id ⟨s,i⟩ H1 nx1 ⟨rfl,hi,hx,hs,Γ1,k,sub⟩
  dsimp only at hi hs
  rw [qi5];exact hK s _ _ _ hx k sub (by omega)
end
end
end Go.Vs
end
section
namespace Go.Vs
open Go.Proofs Ps
variable [GTab] {Z:Nat->Prop}
noncomputable section
section
variable{Γ:GH}{H:qd}{nx:Nat}{K:qv}
def XK(Z:Nat->Prop)(t:qu):Prop:=few 300000 t->∀{Γ:GH} {H:qd} {nx:Nat} {K:qv} {k n l c:Int} {s:List UInt8} {w w':qa} {ts:List qu},t= .node k s n l c ts->
 qZ (λ_=>False) Γ w ts->qZ (λ_=>False) Γ w' ts->HZ Z Γ H nx->
 (∀Γ' H' nx',nx<=nx'->HZ Z Γ' H' nx'->(∀b cs,Γ b=some cs->Γ' b=some cs)->K (.ret (.bool true)) H' nx')->
 qk PG yS [.agg [iv k,.str s,iv n,iv l,iv c,w],.agg [iv k,.str s,iv n,iv l,iv c,w']] H nx K
theorem JE{ex:Nat->Prop}{Γ':GH}{v:qa}{ts:List qu}(h:qZ ex Γ v ts)(s:∀b cs,Γ b=some cs->Γ' b=some cs):qZ ex Γ' v ts:=h.mono (λ_ h=>h) λb cs _ e=>s b cs e
theorem qjf(t:qu)(ih:∀u:qu,SizeOf.sizeOf u<SizeOf.sizeOf t->XK Z u):XK Z t:=by
 intro hfew Γ H nx K k n l c s w w' ts e hw hw' hk hK;subst e;refine qk.of_body qr ?_
 rw [Xu];have hf:=hk.fresh (Nat.le_refl nx)
 refine kO hk (nx':=nx+1) lR (by omega) λH0 k0=> ?_
 have hf2:=k0.fresh (Nat.le_refl (nx+1))
 have hn2:Γ (nx+1)=none:=by rwa [qg (by omega)]at hf2
 refine kO k0 (nx':=nx+1+1) lR (by omega) λH1 k1=> ?_
 obtain⟨Γ1,e1⟩:∃Γ1,Γ1=gup (nx+1) (some [iv k,u3 s,iv n,iv l,iv c,w']) (gup nx (some [iv k,u3 s,iv n,iv l,iv c,w]) Γ):=⟨_,rfl⟩
 rw [<-e1]at k1;have s1:∀b cs,Γ b=some cs->Γ1 b=some cs:=λb cs e=>by rw [e1,qg (neK e hn2),qg (neK e hf)];exact e
 have gp:Γ1 nx=some [iv k,u3 s,iv n,iv l,iv c,w]:=by rw [e1,qg (by omega),qf]
 have gq:Γ1 (nx+1)=some [iv k,u3 s,iv n,iv l,iv c,w']:=by rw [e1,qf]
 have lp:∀off,ld1 H1 (.ptr nx off)=_:=λoff=>k1.ld1 gp off
 have lq:∀off,ld1 H1 (.ptr (nx+1) off)=_:=λoff=>k1.ld1 gq off
 have skip:∀{b:Bool} {p q:Prop},b=false->q->ifB b p q:=λh hq=>qH h hq
 have hl:=hw.len
 have hfl:=hfew.1
 have hl':=hw'.len
 refine⟨_,rfl,_,lp 3,_,rfl,_,lq 3,skip (by simp) ⟨_,rfl,_,lp 4,_,rfl,_,lq 4,skip (by simp) ⟨_,rfl,_,lp 0,_,rfl,_,lq 0,skip (by simp) ⟨_,rfl,_,lp 1,_,rfl,_,lq 1,skip (by simp) ⟨_,rfl,_,lp 2,_,rfl,_,lq 2,skip (by simp) ⟨_,rfl,_,lp 5,_,hl,_,rfl,_,lq 5,_,hl',skip (by simp) ?_⟩⟩⟩⟩⟩⟩
 refine zu (P:=PG) (X:=Nat) (Y:=Nat) (λi=>qj .und [(5,iv i),(4,u5 false),(3,u0 (nx+1) 0),(2,u0 nx 0)]) (λi=>qj .und [(5,iv i),(4,u5 false),(3,u0 (nx+1) 0),(2,u0 nx 0)])
  (λq i H2 nx2=>q=ts.length - i/\i<=ts.length/\nx<=nx2/\∃Γ2,HZ Z Γ2 H2 nx2/\∀b cs,Γ1 b=some cs->Γ2 b=some cs) (λid i H2 nx2=>id=0/\nx<=nx2/\∃Γ2,HZ Z Γ2 H2 nx2/\∀b cs,Γ1 b=some cs->Γ2 b=some cs) ts.length 0
  (ql.okay) ⟨rfl,by omega,by omega,Γ1,k1,λ_ _ h=>h⟩ ?_ ?_
 ·rintro q i H2 nx2 ⟨rfl,hi,hx,Γ2,k2,s2⟩
  refine WpP.part (ts:=[2,3,4,5]) qr ?_
  rw [qg1];have lp2:ld1 H2 (.ptr nx 5)=some w:=by rw [k2.ld1 (s2 _ _ gp)];rfl
  have lq2:ld1 H2 (.ptr (nx+1) 5)=some w':=by rw [k2.ld1 (s2 _ _ gq)];rfl
  refine⟨_,rfl,_,lp2,_,hl,qi.2 ⟨λh=> ?_,λh=> ?_⟩⟩
  ·have h:(i:Int)<(ts.length:Int):=of_decide_eq_true h
   have hi2:i<ts.length:=by omega
   have hw2:qZ (λ_=>False) Γ2 w ts:=JE hw λb cs e=>s2 _ _ (s1 _ _ e)
   have hw3:qZ (λ_=>False) Γ2 w' ts:=JE hw' λb cs e=>s2 _ _ (s1 _ _ e)
   obtain⟨b1,o1,k1',t1,m1,l1,c1,w1,ts1,x1,y1,N1⟩:=Qu k2 hw2 hi2
   obtain⟨b2,o2,k2',t2,m2,l2,c2,w2,ts2,x2,y2,N2⟩:=Qu k2 hw3 hi2
   have y3:=y1.symm.trans y2
   cases y3
   refine⟨_,rfl,_,lp2,by omega,_,by rw [Int.toNat_natCast];exact x1,_,_,_,_,_,_,N1.all,_,rfl,_,lq2,by omega,_,by rw [Int.toNat_natCast];exact x2,_,_,_,_,_,_,N2.all,⟨⟨_,lp2,rfl⟩,⟨_,_,_,_,_,_,N1.all,rfl⟩,⟨_,lq2,rfl⟩,⟨_,_,_,_,_,_,N2.all,rfl⟩,trivial⟩,?_⟩
   have hsz:SizeOf.sizeOf ts[i]<SizeOf.sizeOf (qu.node k s n l c ts):=by
    have:=List.sizeOf_lt_of_mem (List.getElem_mem hi2)
    rw [qu.node.sizeOf_spec];omega
   refine ih _ hsz (qai hfew.2 i hi2) y1 N1.kids N2.kids (k2.more (by omega)) λΓ3 H3 nx3 h3 k3 s3=>qb.2 ⟨_,rfl,trivial,skip rfl ⟨rfl,ts.length - (i+1),i+1,by omega,?_,rfl,by omega,by omega,Γ3,k3,λb cs e=>s3 _ _ (s2 _ _ e)⟩⟩
   rw [qw (by omega) (by omega)]
   exact ql.okay
  ·exact⟨rfl,i,ql.okay,rfl,hx,Γ2,k2,s2⟩
 ·rintro id i H2 nx2 ⟨rfl,hx,Γ2,k2,s2⟩
  rw [qfh];exact hK _ _ _ hx k2 λb cs e=>s2 _ _ (s1 _ _ e)
theorem Jn:∀(n:Nat) (t:qu),SizeOf.sizeOf t<n->XK Z t
 |0,t,h=>by omega
 |n+1,t,h=>by
  have h0:∀u:qu,SizeOf.sizeOf u<SizeOf.sizeOf t->XK Z u:=λu hu=> @Jn n u (by omega)
  exact @qjf _ _ t @h0
def PC(Γ:GH)(r:Except Flt qu)(k:Int)(s:List UInt8)(n l c:Int)(w:qa)(a b e:Int):Prop:=match r with
 | .ok t=>a=0/\b=0/\e=0/\∃ts,t= .node k s n l c ts/\qZ (λ_=>False) Γ w ts
 | .error f=>k=0/\s=[]/\n=0/\l=0/\c=0/\w= .nilSlice/\a=f.line/\b=f.col/\e=f.e
theorem PC.sub{Γ':GH}{r:Except Flt qu}{k n l c a b e:Int}{s:List UInt8}{w:qa}(h:PC Γ r k s n l c w a b e)(hs:∀b cs,Γ b=some cs->Γ' b=some cs):PC Γ' r k s n l c w a b e:=by
 cases r with
 |error f=>exact h
 |ok t=>
  obtain⟨h1,h2,h3,ts,h4,h5⟩:=h
  exact⟨h1,h2,h3,ts,h4,JE h5 hs⟩
theorem qfq{s:List UInt8}{n:Nat}{r:Except Flt qu}(hrun:Ps.parse s n=some r)(hk:HZ Z Γ H nx)
  (hK:∀k s' n l c w a b e Γ' H' nx',nx<=nx'->HZ Z Γ' H' nx'->(∀b cs,Γ b=some cs->Γ' b=some cs)->qI w=true->PC Γ' r k s' n l c w a b e->K (.ret (.tuple [.agg [iv k,.str s',iv n,iv l,iv c,w],.agg [iv a,iv b],iv e])) H' nx'):qk PG wv [.str s] H nx K:=by
 refine VE hrun hk ?_
 cases r with
 |error f=>exactλΓ' H' nx' h1 h2 h3=>hK _ _ _ _ _ _ _ _ _ _ _ _ h1 h2 h3 rfl ⟨rfl,rfl,rfl,rfl,rfl,rfl,rfl,rfl,rfl⟩
 |ok t=>
  intro v Γ' H' nx' h1 h2 h3 h4;obtain⟨c,rfl,hn⟩:=h4
  cases hn with
  | @mk _ _ _ _ _ w ts cs hs hki=>
   have hw:qZ (λ_=>False) Γ' w ts:=⟨cs,hs,hki⟩
   exact hK _ _ _ _ _ _ _ _ _ _ _ _ h1 h2 h3 hw.cell ⟨rfl,rfl,rfl,ts,rfl,hw⟩
theorem qbm{s:List UInt8}{n:Nat}{r:Except Flt qu}(hrun:Ps.parse s n=some r)(hk:HZ Z Γ H nx)
  (hK:∀k s' n l c w a b e Γ' H' nx',nx<=nx'->HZ Z Γ' H' nx'->(∀b cs,Γ b=some cs->Γ' b=some cs)->qI w=true->PC Γ' r k s' n l c w a b e->K (.ret (.tuple [.agg [iv k,.str s',iv n,iv l,iv c,w],.agg [iv a,iv b],iv e])) H' nx'):qk PG jA [.str s] H nx K:=by
 refine qfe hrun (SH.of hk) ⟨λk s' n li co w ts F' H' nx' e g p hF hw hc=> ?_,λf F' H' nx' e g p hF=> ?_⟩
 ·obtain⟨Γ',k1,q⟩:=p.to
  subst e;exact hK _ _ _ _ _ _ _ _ _ Γ' H' nx' g k1 (q _ (hF (.head _))) hc ⟨rfl,rfl,rfl,ts,rfl,q _ hw⟩
 ·obtain⟨Γ',k1,q⟩:=p.to
  subst e;exact hK _ _ _ _ _ _ _ _ _ Γ' H' nx' g k1 (q _ (hF (.head _))) rfl ⟨rfl,rfl,rfl,rfl,rfl,rfl,rfl,rfl,rfl⟩
theorem qp7{i:Nat}(hk:HZ Z Γ H i){k n l c a b:Int}{s:List UInt8}{w:qa}(hw:qI w=true){p:qd->Prop}
  (hK:∀Γ' H',HZ Z Γ' H' (i+1+1)->Γ' i=some [iv k,.str s,iv n,iv l,iv c,w]->Γ' (i+1)=some [iv a,iv b]->(∀b cs,Γ b=some cs->Γ' b=some cs)->p H'):
  ∃H13,H13=qo i [iv 0,u3 [],iv 0,iv 0,iv 0,u6] H/\∃H14,H14=qo (i+1) [iv 0,iv 0] H13/\∃H15,stC H14 (.ptr i 0) [iv k,.str s,iv n,iv l,iv c,w]=some H15/\∃H16,stC H15 (.ptr (i+1) 0) [iv a,iv b]=some H16/\p H16:=by
 have hf1:=hk.fresh (Nat.le_refl i)
 refine kO hk (nx':=i+1) lR (by omega) λH2 k2=> ?_
 have hf2:=k2.fresh (Nat.le_refl (i+1))
 refine kO k2 (nx':=i+1+1) lR (by omega) λH3 k3=> ?_
 refine jj k3 ((qg (by omega)).trans (qf _ _ _)) rfl (by simp only [qq,hw];rfl) λH4 k4=> ?_
 refine jj k4 ((qg (by omega)).trans (qf _ _ _)) rfl rfl λH5 k5=> ?_
 refine hK _ H5 k5 (by rw [qg (by omega),qf]) (qf _ _ _) λb cs e=> ?_
 have h0:b≠i:=neK e hf1
 have h1:b≠i+1:=neK e (by rwa [qg (by omega)]at hf2)
 rw [qg h1,qg h0,qg h1,qg h0];exact e
theorem Xe(s:List UInt8)(hk:HZ Z Γ H nx)(hK:∀Γ' H' nx',nx<=nx'->HZ Z Γ' H' nx'->(∀b cs,Γ b=some cs->Γ' b=some cs)->K (.ret (.bool true)) H' nx'):qk PG vP [.str s] H nx K:=by
 refine qk.of_body qr ?_
 rw [Ku];obtain⟨f,r,hr,hfu⟩:=qby s
 refine qfq hr hk λk s5 n6 l c w a b e Γ2 H2 i2 g2 k2 sub2 hw P1=>qb.2 ⟨_,_,_,_,_,_,_,_,_,rfl,?_⟩
 refine qp7 k2 hw λΓ3 H3 k3 c1 p1 sub3=> ?_
 refine qbm hr k3 λk' s5' n6' l' c' w' a' b' e' Γ4 H4 i4 g4 k4 sub4 hw' P2=>qb.2 ⟨_,_,_,_,_,_,_,_,_,rfl,?_⟩
 refine qp7 k4 hw' λΓ5 H5 k5 c2 p2 sub5=> ?_
 have P1:=P1.sub λb cs e=>sub5 _ _ (sub4 _ _ (sub3 _ _ e))
 have P2:=P2.sub sub5
 have c1:=sub5 _ _ (sub4 _ _ c1)
 have p1:=sub5 _ _ (sub4 _ _ p1)
 have d1:ldN H5 6 (.ptr i2 0)=some (.agg [iv k,.str s5,iv n6,iv l,iv c,w]):=ldAll k5 c1 rfl
 have d2:ldN H5 6 (.ptr i4 0)=some (.agg [iv k',.str s5',iv n6',iv l',iv c',w']):=ldAll k5 c2 rfl
 refine⟨_,_,_,_,_,_,d1,_,_,_,_,_,_,d2,?_⟩
 have fin:∀Γ6 H6 i6,i4<=i6->HZ Z Γ6 H6 i6->(∀b cs,Γ5 b=some cs->Γ6 b=some cs)->a=a'->b=b'->e=e'->
   ∃n51 n52:Int,ldN H6 2 (.ptr (i2+1) 0)=some (.agg [iv n51,iv n52])/\∃n53 n54:Int,ldN H6 2 (.ptr (i4+1) 0)=some (.agg [iv n53,iv n54])/\true=true/\ifB (decide (n51=n53)&&(decide (n52=n54)&&true)) (K (.ret (.bool (decide (e=e')))) H6 i6) (K (.ret (.bool false)) H6 i6):=by
  intro Γ6 H6 i6 g6 k6 sub6 ea eb ee;subst ea;subst eb;subst ee;refine⟨_,_,ldAll k6 (sub6 _ _ p1) rfl,_,_,ldAll k6 (sub6 _ _ p2) rfl,rfl,qK (by simp) ?_⟩
  rw [show decide (e=e)=true from decide_eq_true rfl];exact hK _ _ _ (by omega) k6 λb cs x=>sub6 _ _ (sub5 _ _ (sub4 _ _ (sub3 _ _ (sub2 _ _ x))))
 cases r with
 |error g=>
  obtain⟨rfl,rfl,rfl,rfl,rfl,rfl,rfl,rfl,rfl⟩:=P1
  obtain⟨rfl,rfl,rfl,rfl,rfl,rfl,rfl,rfl,rfl⟩:=P2
  have z:qZ (λ_=>False) Γ5 .nilSlice []:=Kids.nil
  exact Jn _ (.node 0 [] 0 0 0 []) (Nat.lt_succ_self _) ⟨by simp,trivial⟩ rfl z z k5 λΓ6 H6 i6 g6 k6 sub6=>qb.2 ⟨_,rfl,qK rfl (fin Γ6 H6 i6 (by omega) k6 sub6 rfl rfl rfl)⟩
 |ok t=>
  obtain⟨rfl,rfl,rfl,ts,x1,x2⟩:=P1
  obtain⟨rfl,rfl,rfl,us,y1,y2⟩:=P2
  subst x1;cases y1
  have hfew:few 300000 (.node k s5 n6 l c ts):=qgr (by omega) (qew hr)
  exact Jn _ _ (Nat.lt_succ_self _) hfew rfl x2 y2 k5 λΓ6 H6 i6 g6 k6 sub6=>qb.2 ⟨_,rfl,qK rfl (fin Γ6 H6 i6 (by omega) k6 sub6 rfl rfl rfl)⟩
variable{raw how:qa}{rl hl:List Int}
theorem XZ(R:Zs raw rl)(Hw:qm2 how hl)(hc:qI how=true)(hf:hl.length<=9223372036854775807)(W:K2)(hk:HZ Z Γ H nx)
  (hK:∀Γ' H' nx',nx<=nx'->HZ Z Γ' H' nx'->(∀b cs,Γ b=some cs->Γ' b=some cs)->K (.ret (.bool true)) H' nx'):qk PG yE [raw,how] H nx K:=by
 refine qk.of_body qr ?_
 rw [Zt];refine qhh hk λΓ1 H1 i1 g1 k1 sub1=>qb.2 ⟨_,rfl,qK rfl ?_⟩
 refine YI R k1 λs Γ2 H2 i2 g2 k2 sub2 hs=>qb.2 ⟨_,rfl,?_⟩
 refine Xe s k2 λΓ3 H3 i3 g3 k3 sub3=>qb.2 ⟨_,rfl,qK rfl ?_⟩
 refine qjx R Hw hc hf W k3 λs' Γ4 H4 i4 g4 k4 sub4 hs'=>qb.2 ⟨_,rfl,?_⟩
 refine Xe s' k4 λΓ5 H5 i5 g5 k5 sub5=>qb.2 ⟨_,rfl,?_⟩
 exact hK _ _ _ (by omega) k5 λb cs e=>sub5 _ _ (sub4 _ _ (sub3 _ _ (sub2 _ _ (sub1 _ _ e))))
end
end
end Go.Vs
end
