/-
  Own work. Texts of a proof, laid together; no condition.
-/
import Derived.Test.YtjjhihcgiogjjaaGreatDoorPbt4
import Derived.Test.YtjjhihcgiogjjaaGreatDoorPbt3
import Derived.Test.YtjjhihcgiogjjaaGreatDoorPbt2
set_option linter.unusedSectionVars false
set_option linter.unusedVariables false
set_option linter.unusedSimpArgs false
set_option maxRecDepth 1000000
open Go.Vs.qa renaming ptr → u0, str → u3, agg → u4, bool → u5, nilSlice → u6, tuple → u7, und → u9
open Go.Vs.qh renaming pan → U0, ret → U1
open Go.IntKind (i64)
section
namespace Go.Vs
open Go.Proofs
variable [GTab] {Z:Nat->Prop}
noncomputable section
section
variable{Γ0:GH}{r ob nx f:Nat}{σ:Sst}{H:qd}{K:qv}{R:Except Flt (List Tok)}
theorem XX(I:ScI Γ0 r ob σ)(hlt:σ.a<σ.s.length)(hk:HZ Z (scG Γ0 r ob σ) H nx)(h:∀H',HZ Z (scG Γ0 r ob {σ with a:=σ.a+1,line:=σ.line+1,col:=1}) H' nx->K (.ret (.tuple [])) H' nx):
  true=true/\∃v14,some (u0 r 1)=some v14/\∃n15:Int,ld1 H v14=some (iv n15)/\true=true/\∃v16,some (u0 r 1)=some v16/\true=true/\∃H17,stC H v16 [iv (i64.wrap (n15+1))]=some H17/\true=true/\∃v18,some (u0 r 2)=some v18/\∃n19:Int,ld1 H17 v18=some (iv n19)/\true=true/\
   ∃v20,some (u0 r 2)=some v20/\true=true/\∃H21,stC H17 v20 [iv (i64.wrap (n19+1))]=some H21/\true=true/\∃v22,some (u0 r 3)=some v22/\true=true/\∃H23,stC H21 v22 [iv 1]=some H23/\K (U1 (u7 [])) H23 nx:=by
 have hlen:=I.len;have hln:=I.ln
 refine⟨rfl,_,rfl,(σ.a:Int),by rw [hk.ld1 jy];rfl,rfl,_,rfl,rfl,?_⟩
 rw [qw (by omega) (by omega),show((σ.a:Int)+1)=((σ.a+1:Nat):Int) by omega]
 refine qc0 {σ with a:=σ.a+1} hk rfl (by omega) rfl rfl λH1 h1=>⟨rfl,_,rfl,σ.line,by rw [h1.ld1 jy];rfl,rfl,_,rfl,rfl,?_⟩
 rw [qw (by omega) (by omega)]
 refine qc0 {σ with a:=σ.a+1,line:=σ.line+1} h1 rfl (by omega) rfl rfl λH2 h2=>⟨rfl,_,rfl,rfl,?_⟩
 exact qc0 {σ with a:=σ.a+1,line:=σ.line+1,col:=1} h2 rfl (by omega) rfl rfl λH3 h3=>h H3 h3
def WY(Z:Nat->Prop)(Γ0:GH)(r nx f:Nat)(σ:Sst)(R:Except Flt (List Tok))(K:qv):Prop:=∀σ' ob' H' nx',nx<=nx'->ScI Γ0 r ob' σ'->σ'.s=σ.s->
 ((σ'.bad=0/\Pt.scan f (σ.s.drop σ'.a) σ'.line σ'.col σ'.out=R/\σ.a<σ'.a)\/(σ'.bad≠0/\R= .error ⟨σ'.wl,σ'.wc,σ'.bad⟩))->HZ Z (scG Γ0 r ob' σ') H' nx'->K (.ret (.tuple [])) H' nx'
theorem WY.from{nx1:Nat}(h:WY Z Γ0 r nx f σ R K)(hn:nx<=nx1):WY Z Γ0 r nx1 f σ R K:=λσ' ob' H' nx' h1=>h σ' ob' H' nx' (by omega)
def qbb(f:Nat)(σ:Sst)(s':List UInt8)(res:Except Int (Int×List UInt8×Int×Nat)):Except Flt (List Tok):=match res with| .error e=> .error ⟨σ.line,σ.col,e⟩| .ok (k,tx,v,n)=>Pt.put σ.out ⟨k,tx,v,σ.line,σ.col⟩>>=λout=>Pt.scan f (s'.drop (n - 1)) σ.line (σ.col+n) out
def qdx(K:qv)(r g:Nat)(H:qd)(nx:Nat):Prop:=∃(x:FuncId) (l:List qa),some ((g:FuncId),[u0 r 0])=some (x,l)/\qk PG x l H nx λe H i=>qc e (λv=>∃n:Int,v=iv n/\qk PG zC [.ptr r 0,iv n] H i λe H i=>qc e (λ_=>K (.ret (.tuple [])) H i) λl=>K (.pan l) H i) λl=>K (.pan l) H i
theorem KR{c:UInt8}{s':List UInt8}(I:ScI Γ0 r ob σ)(hb:σ.bad=0)(hu:σ.s.drop σ.a=c::s'){res:Except Int (Int×List UInt8×Int×Nat)}(hres:Pt.one c s'=res)
  (hR:qbb f σ s' res=R) (hK:WY Z Γ0 r nx f σ R K):
  RdK Z Γ0 r nx σ (λe H i=>qc e (λv=>∃n:Int,v=iv n/\qk PG zC [.ptr r 0,iv n] H i λe H i=>qc e (λ_=>K (.ret (.tuple [])) H i) λl=>K (.pan l) H i) λl=>K (.pan l) H i) res:=by
 have hle:=I.le;have hlen:=I.len;have hfew:=I.few;have hln:=I.ln;have hcl:=I.cl
 have hdl:σ.s.length=σ.a+(s'.length+1):=by
  have:=congrArg List.length hu
  rw [List.length_drop,List.length_cons]at this;omega
 cases res with
 |error e=>
  have he:=Pt.one_err hres
  intro ob' H' nx' g1 g2 g3 g4;refine qb.2 ⟨0,rfl,?_⟩
  have I':ScI Γ0 r ob' {σ with bad:=e,wl:=σ.line,wc:=σ.col}:=⟨I.r0,g2,g3,hle,hlen,hfew,hln,hcl⟩
  exact Z8 (n:=0) I' g4 (by omega) λH2 h2=>qb.2 (hK {σ with a:=σ.a+0,col:=σ.col+((0:Nat):Int),bad:=e,wl:=σ.line,wc:=σ.col} ob' H2 nx' g1 ⟨I.r0,g2,g3,hle,hlen,hfew,⟨hln.1,by show σ.line<=((σ.a+0:Nat):Int)+1;simpa using hln.2⟩,by show 0<=σ.col+((0:Nat):Int)/\σ.col+((0:Nat):Int)<=((σ.a+0:Nat):Int)+1;simpa using hcl⟩ rfl (.inr ⟨he,hR.symm⟩) h2)
 |ok p=>
  obtain⟨k,tx,v,n⟩:=p
  obtain⟨n1,n2,hkd⟩:=Pt.one_len hres
  have hdrop:σ.s.drop (σ.a+n)=s'.drop (n - 1):=by
   rw [<-List.drop_drop,hu];obtain⟨m,rfl⟩:∃m,n=m+1:=⟨n - 1,by omega⟩
   rfl
  refine⟨λhf ob' H' nx' g1 g2 g3 g4=>qb.2 ⟨n,rfl,?_⟩,λhf ob' H' nx' g1 g2 g3 g4=>qb.2 ⟨n,rfl,?_⟩⟩
  ·have I':ScI Γ0 r ob' {σ with bad:=6,wl:=σ.line,wc:=σ.col}:=⟨I.r0,g2,g3,hle,hlen,hfew,hln,hcl⟩
   refine Z8 (n:=n) I' g4 (by omega) λH2 h2=>qb.2 (hK {σ with a:=σ.a+n,col:=σ.col+(n:Int),bad:=6,wl:=σ.line,wc:=σ.col} ob' H2 nx' g1 ⟨I.r0,g2,g3,by show σ.a+n<=σ.s.length;omega,hlen,hfew,⟨hln.1,by show σ.line<=((σ.a+n:Nat):Int)+1;omega⟩,by show 0<=σ.col+(n:Int)/\σ.col+(n:Int)<=((σ.a+n:Nat):Int)+1;omega⟩ rfl (.inr ⟨by show(6:Int)≠0;decide,?_⟩) h2)
   rw [<-hR];simp only [qbb,Pt.put,if_pos hf]
   rfl
  ·have I':ScI Γ0 r ob' {σ with out:=σ.out++[⟨k,tx,v,σ.line,σ.col⟩]}:=⟨I.r0,g2,g3,hle,hlen,by simp;omega,hln,hcl⟩
   refine Z8 (n:=n) I' g4 (by omega) λH2 h2=>qb.2 (hK {σ with a:=σ.a+n,col:=σ.col+(n:Int),out:=σ.out++[⟨k,tx,v,σ.line,σ.col⟩]} ob' H2 nx' g1 ⟨I.r0,g2,g3,by show σ.a+n<=σ.s.length;omega,hlen,by simp;omega,⟨hln.1,by show σ.line<=((σ.a+n:Nat):Int)+1;omega⟩,by show 0<=σ.col+(n:Int)/\σ.col+(n:Int)<=((σ.a+n:Nat):Int)+1;omega⟩ rfl (.inl ⟨hb,?_,by show σ.a<σ.a+n;omega⟩) h2)
   rw [<-hR];simp only [qbb,Pt.put,if_neg hf]
   show Pt.scan f (σ.s.drop (σ.a+n)) _ _ _=Pt.scan f (s'.drop (n - 1)) _ _ _
   rw [hdrop]
theorem qlt{c:UInt8}{s':List UInt8}(I:ScI Γ0 r ob σ)(hb:σ.bad=0)(hu:σ.s.drop σ.a=c::s')
  (hR:qbb f σ s' (Pt.one c s')=R) (hK:WY Z Γ0 r nx f σ R K) (hk:HZ Z (scG Γ0 r ob σ) H nx):
  qk PG vi [bv (Int.ofNat c.toNat)] H nx λe H i=>qc e (λv=>∃b,v= .bool b/\ifB b (qdx K r Jv H i) (qk PG kB [bv (Int.ofNat c.toNat)] H i λe H i=>qc e (λv=>∃b,v= .bool b/\ifB b (qdx K r vU H i)
   (ifB (decide (Int.ofNat c.toNat=34)) (qdx K r zO H i) (qdx K r JK H i))) λl=>K (.pan l) H i)) λl=>K (.pan l) H i:=by
 have ec:∀m:UInt8,c=m↔Int.ofNat c.toNat=Int.ofNat m.toNat:=λm=>by rw [<-UInt8.toNat_inj];show _↔((c.toNat:Int)=(m.toNat:Int));omega
 refine K6 (qb.2 ⟨_,rfl,qi.2 ⟨λh1=> ?_,λh1=> ?_⟩⟩)
 ·have hp:(Pt.letter c||Pt.digit c)=true:=by rw [h1];rfl
  have ew:(c::s'.takeWhile λc=>Pt.letter c||Pt.digit c)=(σ.s.drop σ.a).takeWhile λc=>Pt.letter c||Pt.digit c:=by rw [hu,List.takeWhile_cons,if_pos hp]
  have e1:Pt.one c s'= .ok (if Pt.isWord (c::s'.takeWhile λc=>Pt.letter c||Pt.digit c)then 3 else 2,(c::s'.takeWhile λc=>Pt.letter c||Pt.digit c),0,(c::s'.takeWhile λc=>Pt.letter c||Pt.digit c).length):=by unfold Pt.one;rw [if_pos h1]
  exact⟨_,_,rfl,qji I hk ew (KR I hb hu e1 (by rw [e1]at hR;exact hR) hK)⟩
 refine JW (qb.2 ⟨_,rfl,qi.2 ⟨λh2=> ?_,λh2=> ?_⟩⟩)
 ·have ew:(c::s'.takeWhile Pt.digit)=(σ.s.drop σ.a).takeWhile Pt.digit:=by rw [hu,List.takeWhile_cons,if_pos h2]
  have e1:Pt.one c s'=(match Pt.numGo 0 (σ.s.drop σ.a)with|some v=> .ok (4,c::s'.takeWhile Pt.digit,v,(c::s'.takeWhile Pt.digit).length)|none=> .error 12):=by
   unfold Pt.one;rw [if_neg (by rw [h1];simp),if_pos h2,hu,List.length_cons,Nat.add_comm 1]
   rfl
  exact⟨_,_,rfl,qbt I hb hk ew (KR I hb hu e1 (by rw [e1]at hR;exact hR) hK)⟩
 refine qi.2 ⟨λh3=> ?_,λh3=> ?_⟩
 ·have h3:c=34:=(ec 34).2 (of_decide_eq_true h3)
  have e1:Pt.one c s'=qcw (σ.s.drop σ.a):=by
   unfold Pt.one qcw;rw [if_neg (by rw [h1];simp),if_neg (by rw [h2];simp),if_pos h3,hu];rfl
  exact⟨_,_,rfl,qic I hb hk (by rw [hu];simp) (KR I hb hu e1 (by rw [e1]at hR;exact hR) hK)⟩
 ·have h3:c≠34:=λx=>of_decide_eq_false h3 ((ec 34).1 x)
  have e1:Pt.one c s'=Pt.sign c s':=by unfold Pt.one;rw [if_neg (by rw [h1];simp),if_neg (by rw [h2];simp),if_neg h3]
  exact⟨_,_,rfl,qjh I hb hk hu (KR I hb hu e1 (by rw [e1]at hR;exact hR) hK)⟩
theorem qlb{c:UInt8}{s':List UInt8}(I:ScI Γ0 r ob σ)(hb:σ.bad=0)(hu:σ.s.drop σ.a=c::s')(hR:Pt.scan (f+1) (c::s') σ.line σ.col σ.out=R)(hK:WY Z Γ0 r nx f σ R K)(hk:HZ Z (scG Γ0 r ob σ) H nx):qk PG V0 [.ptr r 0] H nx K:=by
 refine qk.of_body qr ?_
 rw [qd1];have hle:=I.le;have hlen:=I.len;have hfew:=I.few;have hln:=I.ln;have hcl:=I.cl
 have hdl:σ.s.length=σ.a+(s'.length+1):=by
  have:=congrArg List.length hu
  rw [List.length_drop,List.length_cons]at this;omega
 have hd1:σ.s.drop (σ.a+1)=s':=by rw [<-List.drop_drop,hu];rfl
 have hget:σ.s[σ.a]?=some c:=by
  have:=congrArg (λl=>l[0]?) hu
  simpa using this
 have ec:∀m:UInt8,c=m↔Int.ofNat c.toNat=Int.ofNat m.toNat:=λm=>by rw [<-UInt8.toNat_inj];show _↔((c.toNat:Int)=(m.toNat:Int));omega
 have st:∀{m:UInt8} {p q:Prop},(c=m->p)->(c≠m->q)->ifB (decide (Int.ofNat c.toNat=Int.ofNat m.toNat)) p q:=λh1 h2=>qi.2 ⟨λe=>h1 ((ec _).2 (of_decide_eq_true e)),λe=>h2 λx=>of_decide_eq_false e ((ec _).1 x)⟩
 refine qhp I hk hget λnx1 h1 hk1=>qb.2 ⟨_,rfl,?_⟩
 replace hK:=hK.from h1
 rw [Pt.scan]at hR;refine st (m:=10) (λe=> ?_) λe10=> ?_
 ·rw [if_pos e]at hR;refine qa9 I hk1 λH2 nx2 h2 hk2=>qb.2 ⟨_,rfl,qi.2 ⟨λh3=> ?_,λh3=> ?_⟩⟩
  ·unfold Pt.putEnd at hR;rw [if_pos h3]at hR;refine Z1 I hk2 (λhf H3 nx3 h4 hk3=>qb.2 ?_) λhf ob' H3 nx3 h4 g2 g3 hk3=>qb.2 ?_
   ·refine XX (σ:={σ with bad:=6,wl:=σ.line,wc:=σ.col}) ⟨I.r0,I.o0,I.ne,hle,hlen,hfew,hln,hcl⟩ (by show σ.a<σ.s.length;omega) hk3 λH4 hk4=> ?_
    refine hK {σ with a:=σ.a+1,line:=σ.line+1,col:=1,bad:=6,wl:=σ.line,wc:=σ.col} ob H4 nx3 (by omega) ⟨I.r0,I.o0,I.ne,by show σ.a+1<=σ.s.length;omega,hlen,hfew,⟨by show 0<=σ.line+1;omega,by show σ.line+1<=((σ.a+1:Nat):Int)+1;omega⟩,by show(0:Int)<=1/\(1:Int)<=((σ.a+1:Nat):Int)+1;omega⟩ rfl (.inr ⟨by show(6:Int)≠0;decide,?_⟩) hk4
    rw [<-hR];simp only [Pt.put,if_pos hf]
    rfl
   ·refine XX (σ:={σ with out:=σ.out++[⟨1,[59],0,σ.line,σ.col⟩]}) ⟨I.r0,g2,g3,hle,hlen,by simp;omega,hln,hcl⟩ (by show σ.a<σ.s.length;omega) hk3 λH4 hk4=> ?_
    refine hK {σ with a:=σ.a+1,line:=σ.line+1,col:=1,out:=σ.out++[⟨1,[59],0,σ.line,σ.col⟩]} ob' H4 nx3 (by omega) ⟨I.r0,g2,g3,by show σ.a+1<=σ.s.length;omega,hlen,by simp;omega,⟨by show 0<=σ.line+1;omega,by show σ.line+1<=((σ.a+1:Nat):Int)+1;omega⟩,by show(0:Int)<=1/\(1:Int)<=((σ.a+1:Nat):Int)+1;omega⟩ rfl (.inl ⟨hb,?_,by show σ.a<σ.a+1;omega⟩) hk4
    rw [<-hR];simp only [Pt.put,if_neg hf]
    show Pt.scan f (σ.s.drop (σ.a+1)) _ _ _=Pt.scan f s' _ _ _
    rw [hd1]
    rfl
  ·unfold Pt.putEnd at hR;rw [if_neg (by rw [h3];simp)]at hR
   refine XX I (by omega) hk2 λH4 hk4=> ?_
   refine hK {σ with a:=σ.a+1,line:=σ.line+1,col:=1} ob H4 nx2 (by omega) ⟨I.r0,I.o0,I.ne,by show σ.a+1<=σ.s.length;omega,hlen,hfew,⟨by show 0<=σ.line+1;omega,by show σ.line+1<=((σ.a+1:Nat):Int)+1;omega⟩,by show(0:Int)<=1/\(1:Int)<=((σ.a+1:Nat):Int)+1;omega⟩ rfl (.inl ⟨hb,?_,by show σ.a<σ.a+1;omega⟩) hk4
   rw [<-hR];show Pt.scan f (σ.s.drop (σ.a+1)) _ _ _=Pt.scan f s' _ _ _
   rw [hd1]
 rw [if_neg e10]at hR;have skip:∀{n:Nat} {H2:qd} {nx2:Nat},nx1<=nx2->HZ Z (scG Γ0 r ob σ) H2 nx2->1<=n/\n<=s'.length+1->Pt.scan f (σ.s.drop (σ.a+n)) σ.line (σ.col+n) σ.out=R->
   qk PG zC [.ptr r 0,iv (n:Nat)] H2 nx2 λe H i=>qc e (λ_=>K (.ret (.tuple [])) H i) λl=>K (.pan l) H i:=λ{n} {H2} {nx2} h2 hk2 hn hR=>
  Z8 I hk2 (by omega) λH3 hk3=>qb.2 (hK {σ with a:=σ.a+n,col:=σ.col+(n:Int)} ob H3 nx2 h2 ⟨I.r0,I.o0,I.ne,by show σ.a+n<=σ.s.length;omega,hlen,hfew,⟨hln.1,by show σ.line<=((σ.a+n:Nat):Int)+1;omega⟩,by show 0<=σ.col+(n:Int)/\σ.col+(n:Int)<=((σ.a+n:Nat):Int)+1;omega⟩ rfl (.inl ⟨hb,hR,by show σ.a<σ.a+n;omega⟩) hk3)
 have white:(c=32\/c=9\/c=13)->qk PG zC [.ptr r 0,iv 1] H nx1 λe H i=>qc e (λ_=>K (.ret (.tuple [])) H i) λl=>K (.pan l) H i:=λe=>by
  rw [if_pos e]at hR;exact skip (n:=1) lR hk1 ⟨by omega,by omega⟩ (by rw [hd1];exact hR)
 refine st (m:=32) (λe=>white (.inl e)) λe32=> ?_
 refine st (m:=9) (λe=>white (.inr (.inl e))) λe9=> ?_
 refine st (m:=13) (λe=>white (.inr (.inr e))) λe13=> ?_
 rw [if_neg (by rintro(x|x|x);exact e32 x;exact e9 x;exact e13 x)]at hR
 have last:¬(c=47/\s'.head?=some 47)->∀{H2:qd} {nx2:Nat},nx1<=nx2->HZ Z (scG Γ0 r ob σ) H2 nx2->_:=λhno {H2} {nx2} h2 hk2=>qlt (K:=K) (R:=R) (f:=f) (H:=H2) (nx:=nx2) I hb hu (by
  rw [if_neg hno]at hR;rw [<-hR];unfold qbb;cases Pt.one c s' with
  |error e=>rfl
  |ok p=>rfl) (hK.from h2) hk2
 refine st (m:=47) (λe=> ?_) λe47=>last (λx=>e47 x.1) lR hk1
 refine wB I hk1 λnx2 h2 hk2=>qb.2 ⟨_,rfl,qi.2 ⟨λh3=> ?_,λh3=> ?_⟩⟩
 ·rw [hu]at h3;have h3:(1:Int)<((c::s').length:Int):=of_decide_eq_true h3
  cases hs:s' with
  |nil=>rw [hs]at h3;simp at h3
  |cons d s''=>
   refine wB I hk2 λnx3 h4 hk3=>qb.2 ⟨_,rfl,by omega,d,by rw [hu,hs];rfl,?_⟩
   have ed:d=47↔Int.ofNat d.toNat=47:=by rw [<-UInt8.toNat_inj];show _↔((d.toNat:Int)=47);show d.toNat=47↔_;omega
   refine qi.2 ⟨λh5=> ?_,λh5=> ?_⟩
   ·have h5:d=47:=ed.2 (of_decide_eq_true h5)
    rw [if_pos ⟨e,by rw [hs,h5];rfl⟩]at hR
    refine⟨_,_,rfl,YE I hk3 λnx4 h6 hk4=>qb.2 ⟨_,rfl,?_⟩⟩
    have etw:(σ.s.drop σ.a).takeWhile (λc=>c !=10)=c::s'.takeWhile λc=>c !=10:=by rw [hu,List.takeWhile_cons,if_pos (by rw [bne_iff_ne];exact e10)]
    have hl:=Vj (p:=λc:UInt8=>c !=10) (u:=s')
    refine skip (by omega) hk4 ⟨by rw [etw];simp,by rw [etw];simp;exact hl⟩ ?_
    rw [etw,List.length_cons,<-hR];have:σ.s.drop (σ.a+((s'.takeWhile λc=>c !=10).length+1))=s'.drop (s'.takeWhile λc=>c !=10).length:=by
     rw [Nat.add_comm _ 1,<-Nat.add_assoc,<-List.drop_drop,hd1]
    rw [this]
    congr 1
    omega
   ·have h5:d≠47:=λx=>of_decide_eq_false h5 (ed.1 x)
    exact last (λx=>by rw [hs]at x;exact h5 (by simpa using x.2)) (by omega) hk3
 ·rw [hu]at h3;have h3:¬(1:Int)<((c::s').length:Int):=of_decide_eq_false h3
  have hs:s'=[]:=by
   cases hs:s' with
   |nil=>rfl
   |cons d s''=>rw [hs]at h3;simp at h3;omega
  exact last (λx=>by rw [hs]at x;simp at x) (by omega) hk2
end
section
variable{Γ Γ0:GH}{r ob c nx:Nat}{σ:Sst}{H:qd}{K:qv}{R:Except Flt (List Tok)}
def qph(Z:Nat->Prop)(Γ:GH)(nx:Nat)(R:Except Flt (List Tok))(K:qv):Prop:=match R with
 | .ok l=>∀tb H' nx',nx<=nx'->Γ tb=none->HZ Z (gup tb (some (l.flatMap jd)) Γ) H' nx'->K (.ret (.tuple [.slice tb 0 l.length 5 false,vz ⟨0,[],0,0,0⟩,iv 0])) H' nx'
 | .error f=>∀H' nx',nx<=nx'->HZ Z Γ H' nx'->K (.ret (.tuple [.nilSlice,vz ⟨0,[],0,f.line,f.col⟩,iv f.e])) H' nx'
theorem qlf{cc:List qa}{Γ:GH}{n0:Nat}(hΓ:Γ c=none)(hcc:cc.length=5)(I:ScI (gup c (some cc) Γ) r ob σ)(hk:HZ Z (scG (gup c (some cc) Γ) r ob σ) H nx)(hn:n0<=nx)(hK:qph Z Γ n0 R K)
  (hR:(σ.bad=0/\R= .ok σ.out/\σ.out≠[])\/(σ.bad≠0/\R= .error ⟨σ.wl,σ.wc,σ.bad⟩)):
  true=true/\∃v17,some (u0 r 5)=some v17/\∃n18:Int,ld1 H v17=some (iv n18)/\ifB (!decide (n18=0))
   (true=true/\∃v19,some (u0 r 6)=some v19/\∃(n20:Int) (s21:List UInt8) (n22 n23 n24:Int),ldN H 5 v19=some (u4 [iv n20,u3 s21,iv n22,iv n23,iv n24])/\true=true/\∃v25,some (u0 r 5)=some v25/\∃n26:Int,ld1 H v25=some (iv n26)/\
    ((∃(n27:Int) (s28:List UInt8) (n29 n30 n31:Int),ldN H 5 v19=some (u4 [iv n27,u3 s28,iv n29,iv n30,iv n31])/\u4 [iv n27,u3 s28,iv n29,iv n30,iv n31]=u4 [iv n20,u3 s21,iv n22,iv n23,iv n24])/\(∃n32:Int,ld1 H v25=some (iv n32)/\iv n32=iv n26)/\True)/\
    ∃H33,stC H (u0 c 0) [iv n20,u3 s21,iv n22,iv n23,iv n24]=some H33/\((∃n34:Int,ld1 H33 v25=some (iv n34)/\iv n34=iv n26)/\True)/\∃(n20:Int) (s21:List UInt8) (n22 n23 n24:Int),ldN H33 5 (u0 c 0)=some (u4 [iv n20,u3 s21,iv n22,iv n23,iv n24])/\
    K (U1 (u7 [u6,u4 [iv n20,u3 s21,iv n22,iv n23,iv n24],iv n26])) H33 (nx+11))
   (true=true/\∃v40,some (u0 r 4)=some v40/\∃v41,ld1 H v40=some v41/\∃H42,stC H (u0 c 0) [iv 0,u3 [],iv 0,iv 0,iv 0]=some H42/\∃(n20:Int) (s21:List UInt8) (n22 n23 n24:Int),ldN H42 5 (u0 c 0)=some (u4 [iv n20,u3 s21,iv n22,iv n23,iv n24])/\
    K (U1 (u7 [v41,u4 [iv n20,u3 s21,iv n22,iv n23,iv n24],iv 0])) H42 nx):=by
 have hcr:c≠r:=neK (qf c (some cc) Γ) I.r0
 have ec:scG (gup c (some cc) Γ) r ob σ c=some cc:=Jj I c cc (qf _ _ _)
 have l5:ld1 H (.ptr r 5)=some (iv σ.bad):=by rw [hk.ld1 jy];rfl
 have l4:ld1 H (.ptr r 4)=some (JH ob σ.out):=by rw [hk.ld1 jy];rfl
 have l6:ldN H 5 (.ptr r 6)=some (vz ⟨0,[],0,σ.wl,σ.wc⟩):=by rw [hk.ldN jy (by simp [scC])];rfl
 have sub:∀{b:Nat} {cs:List qa} {ds:List qa},Γ b=some cs->gup c (some ds) (scG (gup c (some cc) Γ) r ob σ) b=some cs:=λe=>(qg (neK e hΓ)).trans (Jj I _ _ ((qg (neK e hΓ)).trans e))
 refine⟨rfl,_,rfl,_,l5,qi.2 ⟨λh=> ?_,λh=> ?_⟩⟩
 ·have h:¬σ.bad=0:=by simpa using h
  rcases hR with hR|⟨_,hR⟩
  ·exact absurd hR.1 h
  subst hR;refine⟨rfl,_,rfl,_,_,_,_,_,l6,rfl,_,rfl,_,l5,⟨⟨_,_,_,_,_,l6,rfl⟩,⟨_,l5,rfl⟩,trivial⟩,?_⟩
  refine jj hk ec (by simp [hcc]) rfl λH1 h1=> ?_
  have m5:ld1 H1 (.ptr r 5)=some (iv σ.bad):=by rw [h1.ld1 ((qg (Ne.symm hcr)).trans jy)];rfl
  exact⟨⟨⟨_,m5,rfl⟩,trivial⟩,_,_,_,_,_,ldAll h1 (qf _ _ _) rfl,hK _ _ (by omega) ((h1.more (by omega)).sub λb cs e=>sub e)⟩
 ·have h:σ.bad=0:=by simpa using h
  rcases hR with⟨_,hR,ho⟩|hR
  ·subst hR;refine⟨rfl,_,rfl,_,l4,jj hk ec (by simp [hcc]) rfl λH1 h1=>⟨_,_,_,_,_,ldAll h1 (qf _ _ _) rfl,?_⟩⟩
   have hco:c≠ob:=neK (qf c (some cc) Γ) I.o0
   have hob:Γ ob=none:=by have:=I.o0;rwa [qg (Ne.symm hco)]at this
   have ev:JH ob σ.out= .slice ob 0 σ.out.length 5 false:=by
    cases e:σ.out with
    |nil=>exact absurd e ho
    |cons t l=>rfl
   rw [ev];refine hK ob H1 nx hn hob (h1.sub λb cs e=> ?_)
   by_cases hb:b=ob
   ·subst hb;rw [qf]at e;rw [qg (Ne.symm hco),Xq I ho,e]
   ·rw [qg hb]at e;exact sub e
  ·exact absurd h hR.1
theorem qdw{s:List UInt8}(hk:HZ Z Γ H nx)(hK:qph Z Γ nx (Pt.toks s) K):qk PG Vz [.str s] H nx K:=by
 refine qk.of_body qr ?_
 rw [qcy];have hf:=hk.fresh (Nat.le_refl nx)
 refine kO hk (nx':=nx+1) lR (by omega) λH0 hk0=>qi.2 ⟨λh=> ?_,λh=> ?_⟩
 ·have h:(16384:Int)<(s.length:Int):=of_decide_eq_true h
  have e:Pt.toks s= .error ⟨1,1,6⟩:=by unfold Pt.toks;rw [if_pos (by omega)]
  rw [e]at hK;refine⟨rfl,rfl,jj hk0 (qf _ _ _) rfl rfl λH1 h1=>⟨_,_,_,_,_,ldAll h1 (qf _ _ _) rfl,hK _ _ (by omega) ?_⟩⟩
  rw [km]at h1;exact h1.drop hf
 ·have h:¬(16384:Int)<(s.length:Int):=of_decide_eq_false h
  have hR:Pt.scan s.length s 1 1 []=Pt.toks s:=by unfold Pt.toks;rw [if_neg (by omega)]
  obtain⟨R,eR⟩:∃R,R=Pt.toks s:=⟨_,rfl⟩
  rw [<-eR]at hR hK;refine⟨rfl,rfl,rfl,?_⟩
  obtain⟨cc,ecc⟩:∃cc:List qa,cc=[iv 0,u3 [],iv 0,iv 0,iv 0]:=⟨_,rfl⟩
  rw [<-ecc]at hk0;have hcc:cc.length=5:=by rw [ecc];rfl
  have hf1:=hk0.fresh (Nat.le_refl (nx+1))
  have hk1:HZ Z (gup (nx+1) (some (scC (nx+2) ⟨s,0,1,1,[],0,0,0⟩)) (gup nx (some cc) Γ)) (qo (nx+1) (scC (nx+2) ⟨s,0,1,1,[],0,0,0⟩) H0) (nx+1+1):=hk0.new lR (by omega) _
  have hf2:gup nx (some cc) Γ (nx+2)=none:=hk0.fresh (by omega)
  refine⟨_,rfl,?_⟩
  have I0:ScI (gup nx (some cc) Γ) (nx+1) (nx+2) ⟨s,0,1,1,[],0,0,0⟩:=⟨hf1,hf2,by omega,Nat.zero_le _,by show s.length<=_;omega,by simp,by simp,by simp⟩
  refine zu (P:=PG) (X:=Unit) (Y:=Unit) (λ_=>qj .und [(5,.ptr (nx+1) 0),(4,iv 0),(3,.ptr nx 0),(2,.nilSlice),(0,.str s)]) (λ_=>qj .und [(5,.ptr (nx+1) 0),(4,iv 0),(3,.ptr nx 0),(2,.nilSlice),(0,.str s)])
   (λm _ H2 nx2=>nx<=nx2/\∃ob σ,ScI (gup nx (some cc) Γ) (nx+1) ob σ/\σ.s=s/\HZ Z (scG (gup nx (some cc) Γ) (nx+1) ob σ) H2 nx2/\((σ.bad=0/\Pt.scan m (s.drop σ.a) σ.line σ.col σ.out=R/\s.length - σ.a<=m)\/(σ.bad≠0/\R= .error ⟨σ.wl,σ.wc,σ.bad⟩)))
   (λid _ H2 nx2=>id=0/\nx<=nx2/\∃ob σ,ScI (gup nx (some cc) Γ) (nx+1) ob σ/\HZ Z (scG (gup nx (some cc) Γ) (nx+1) ob σ) H2 nx2/\((σ.bad=0/\Pt.scan 0 [] σ.line σ.col σ.out=R)\/(σ.bad≠0/\R= .error ⟨σ.wl,σ.wc,σ.bad⟩))) s.length () (ql.okay)
   ⟨by omega,_,_,I0,rfl,hk1,.inl ⟨rfl,hR,by simp⟩⟩ ?_ ?_
  ·rintro m _ H2 nx2 ⟨h2,ob,σ,I,hs,hk2,hst⟩
   refine WpP.trim (ts:=[0,2,3,4,5]) (WpP.of_vK qr ?_)
   rw [qkw];refine⟨rfl,_,rfl,(σ.a:Int),by rw [hk2.ld1 jy];rfl,qi.2 ⟨λh3=> ?_,λh3=> ?_⟩⟩
   ·have h3:(σ.a:Int)<(s.length:Int):=of_decide_eq_true h3
    refine⟨rfl,_,rfl,σ.bad,by rw [hk2.ld1 jy];rfl,qi.2 ⟨λh4=> ?_,λh4=> ?_⟩⟩
    ·have h4:σ.bad=0:=of_decide_eq_true h4
     obtain⟨_,hsc,hm⟩:=hst.resolve_right λx=>x.1 h4
     have hlt:σ.a<s.length:=by omega
     have hd:s.drop σ.a=s[σ.a]::s.drop (σ.a+1):=kR hlt
     cases m with
     |zero=>
      omega
     |succ m=>
      rw [hd]at hsc;refine qlb (f:=m) I h4 (by rw [hs];exact hd) hsc (λσ' ob' H' nx' g1 g2 g3 g4 g5=>qb.2 ?_) hk2
      refine⟨rfl,m,(),Nat.lt_succ_self m,ql.okay,by omega,ob',σ',g2,g3.trans hs,g5,?_⟩
      rcases g4 with g4|g4
      ·exact .inl ⟨g4.1,by rw [<-hs];exact g4.2.1,by have:=g4.2.2;omega⟩
      ·exact .inr g4
    ·have h4:¬σ.bad=0:=of_decide_eq_false h4
     exact⟨rfl,(),ql.okay,rfl,h2,ob,σ,I,hk2,.inr (hst.resolve_left λx=>h4 x.1)⟩
   ·have h3:¬(σ.a:Int)<(s.length:Int):=of_decide_eq_false h3
    refine⟨rfl,(),ql.okay,rfl,h2,ob,σ,I,hk2,?_⟩
    rcases hst with⟨h5,h6,_⟩|h5
    ·refine .inl ⟨h5,?_⟩
     rw [List.drop_eq_nil_of_le (by omega)]at h6
     rw [<-h6];cases m<;>rfl
    ·exact .inr h5
  ·rintro id _ H2 nx2 ⟨rfl,h2,ob,σ,I,hk2,hst⟩
   rw [qkj];have fin:∀{ob':Nat} {σ':Sst} {H3:qd} {nx3:Nat},nx<=nx3->ScI (gup nx (some cc) Γ) (nx+1) ob' σ'->HZ Z (scG (gup nx (some cc) Γ) (nx+1) ob' σ') H3 nx3->((σ'.bad=0/\R= .ok σ'.out/\σ'.out≠[])\/(σ'.bad≠0/\R= .error ⟨σ'.wl,σ'.wc,σ'.bad⟩))->_:=λ{ob'} {σ'} {H3} {nx3} g1 g2 g3 g4=>qlf (R:=R) (K:=K) (r:=nx+1) (c:=nx) (ob:=ob') (σ:=σ') (H:=H3) (nx:=nx3) hf hcc g2 g3 g1 hK g4
   have last:∀{ob':Nat} {σ':Sst} {H3:qd} {nx3:Nat},nx<=nx3->ScI (gup nx (some cc) Γ) (nx+1) ob' σ'->HZ Z (scG (gup nx (some cc) Γ) (nx+1) ob' σ') H3 nx3->σ'.bad=0->Pt.put σ'.out ⟨0,[],0,σ'.line,σ'.col⟩=R->
     ∀{Q:qh->qd->Nat->Prop},(∀ob'' σ'' H4 nx4,nx<=nx4->ScI (gup nx (some cc) Γ) (nx+1) ob'' σ''->HZ Z (scG (gup nx (some cc) Γ) (nx+1) ob'' σ'') H4 nx4->((σ''.bad=0/\R= .ok σ''.out/\σ''.out≠[])\/(σ''.bad≠0/\R= .error ⟨σ''.wl,σ''.wc,σ''.bad⟩))->Q (.ret (.tuple [])) H4 nx4)->
     qk PG qz [.ptr (nx+1) 0,iv 0,.str [],iv 0] H3 nx3 Q:=by
    intro ob' σ' H3 nx3 g1 g2 g3 g4 g5 Q hQ;refine Z1 g2 g3 (λhfull H4 nx4 q1 q2=>hQ ob' {σ' with bad:=6,wl:=σ'.line,wc:=σ'.col} H4 nx4 (by omega) ⟨g2.r0,g2.o0,g2.ne,g2.le,g2.len,g2.few,g2.ln,g2.cl⟩ q2 (.inr ⟨by show(6:Int)≠0;decide,?_⟩)) λhfull ob'' H4 nx4 q1 q2 q3 q4=>hQ ob'' {σ' with out:=σ'.out++[⟨0,[],0,σ'.line,σ'.col⟩]} H4 nx4 (by omega) ⟨g2.r0,q2,q3,g2.le,g2.len,by have:=g2.few;simp;omega,g2.ln,g2.cl⟩ q4 (.inl ⟨g4,?_,by simp⟩)
    ·rw [<-g5];simp only [Pt.put,if_pos hfull]
    ·rw [<-g5];simp only [Pt.put,if_neg hfull]
   refine⟨rfl,_,rfl,σ.bad,by rw [hk2.ld1 jy];rfl,qi.2 ⟨λh3=> ?_,λh3=> ?_⟩⟩
   ·have h3:σ.bad=0:=of_decide_eq_true h3
    obtain⟨_,hsc⟩:=hst.resolve_right λx=>x.1 h3
    have hsc:(Pt.putEnd σ.out σ.line σ.col>>=λout=>Pt.put out ⟨0,[],0,σ.line,σ.col⟩)=R:=hsc
    refine qa9 I hk2 λH3 nx3 h4 hk3=>qb.2 ⟨_,rfl,qi.2 ⟨λh5=> ?_,λh5=> ?_⟩⟩
    ·unfold Pt.putEnd at hsc;rw [if_pos h5]at hsc;refine Z1 I hk3 (λhfull H4 nx4 q1 q2=>qb.2 ⟨rfl,_,rfl,6,by rw [q2.ld1 jy];rfl,qi.2 ⟨λx=>absurd (of_decide_eq_true x) (by decide),λ_=> ?_⟩⟩) λhfull ob' H4 nx4 q1 q2 q3 q4=>qb.2 ⟨rfl,_,rfl,σ.bad,by rw [q4.ld1 jy];rfl,qi.2 ⟨λ_=> ?_,λx=>absurd h3 (of_decide_eq_false x)⟩⟩
     ·refine fin (σ':={σ with bad:=6,wl:=σ.line,wc:=σ.col}) (by omega) ⟨I.r0,I.o0,I.ne,I.le,I.len,I.few,I.ln,I.cl⟩ q2 (.inr ⟨by show(6:Int)≠0;decide,?_⟩)
      rw [<-hsc];simp only [Pt.put,if_pos hfull];rfl
     ·refine last (σ':={σ with out:=σ.out++[⟨1,[59],0,σ.line,σ.col⟩]}) (by omega) ⟨I.r0,q2,q3,I.le,I.len,by have:=I.few;simp;omega,I.ln,I.cl⟩ q4 h3 (by rw [<-hsc];simp only [Pt.put,if_neg hfull];rfl) λob'' σ'' H5 nx5 p1 p2 p3 p4=>qb.2 (fin p1 p2 p3 p4)
    ·unfold Pt.putEnd at hsc;rw [if_neg (by rw [h5];simp)]at hsc
     refine⟨rfl,_,rfl,σ.bad,by rw [hk3.ld1 jy];rfl,qi.2 ⟨λ_=> ?_,λx=>absurd h3 (of_decide_eq_false x)⟩⟩
     exact last (by omega) I hk3 h3 hsc λob'' σ'' H5 nx5 p1 p2 p3 p4=>qb.2 (fin p1 p2 p3 p4)
   ·have h3:¬σ.bad=0:=of_decide_eq_false h3
    refine⟨rfl,_,rfl,σ.bad,by rw [hk2.ld1 jy];rfl,qi.2 ⟨λx=>absurd (of_decide_eq_true x) h3,λ_=> ?_⟩⟩
    exact fin h2 I hk2 (.inr (hst.resolve_left λx=>h3 x.1))
end
theorem qcd:vp PG jB=true:=by kernel_rfl
theorem qgy{Γ:GH}{H:qd}{nx r:Nat}{x y:qa}{n:Int}{m:qA}{K:qh->qA->qd->Nat->Prop}(hk:HZ Z Γ H nx)(hp:Γ r=some [x,y,iv n])
  (hK:∀H',HZ Z (gup r (some [x,y,iv (i64.wrap (n - 1))]) Γ) H' nx->K (.ret (.tuple [])) m H' nx):qB PG jB [.ptr r 0] m H nx K:=by
 refine qB.of_end qr qcd ?_
 rw [XF];refine⟨rfl,_,rfl,n,by rw [hk.ld1 hp];rfl,rfl,_,rfl,rfl,vo hk hp (j:=2) (by simp) rfl λH1 h1=>hK H1 ?_⟩
 simpa using h1
theorem yV{H:qd}{a:qa}{k:qa->Prop}:wf PG qG H a k=(∃(n:Int) (s:List UInt8) (x y z:Int) (v:qa),ldN H 6 a=some (.agg [.int .i64 n,.str s,.int .i64 x,.int .i64 y,.int .i64 z,v])/\k (.agg [.int .i64 n,.str s,.int .i64 x,.int .i64 y,.int .i64 z,v])):=by kernel_rfl
section
variable{Γ:GH}{H:qd}{nx a d i:Nat}{C:RC}{K:qv}
theorem qn1{f:Flt}(hk:HZ Z Γ H nx)(hp:RdP Γ C.r)(hK:∀Γ' H',HZ Z Γ' H' nx->qQ C.r nx Γ Γ'->RdP Γ' C.r->K (.pan [(Zk f,false)]) H' nx):
  qS PG (qB PG) [.cell (.ptr i 0) qG] [(jB,[.ptr C.r 0])] (.panicking [(Zk f,false)]) H nx K:=by
 obtain⟨x,y,n,e⟩:=hp
 exact qgy hk e λH' h=>qb.2 (hK _ _ h (.upd e) ⟨x,y,_,qf _ _ _⟩)
theorem qop{n x y z:Int}{s:List UInt8}{v:qa}(hk:HZ Z Γ H nx)(hr:Rd Γ C a (d+1))(hi:Γ i=some [iv n,.str s,iv x,iv y,iv z,v])(hne:i≠C.r)
  (hK:∀Γ' H',HZ Z Γ' H' nx->qQ C.r nx Γ Γ'->Rd Γ' C a d->K (.ret (.agg [iv n,.str s,iv x,iv y,iv z,v])) H' nx):
  qS PG (qB PG) [.cell (.ptr i 0) qG] [(jB,[.ptr C.r 0])] .returning H nx K:=by
 obtain⟨full,e,hr'⟩:=hr.set (a':=a) (d':=d) hr.lt (by have:=hr.deep;omega)
 refine qgy hk e λH' h=>qb.2 ?_
 show wf PG qG H' (.ptr i 0) λv=>K (.ret v) H' nx
 rw [yV];have hd:=hr.deep
 rw [qw (by omega) (by omega),show((d+1:Nat):Int) - 1=(d:Int) by omega]at h
 exact⟨_,_,_,_,_,_,ldAll h (by rw [qg hne];exact hi) rfl,hK _ _ h (.upd e) hr'⟩
theorem Jk(W:zj C.l)(hk:HZ Z Γ H nx)(hr:Rd Γ C a d)
  (hK:∀Γ' H' nx',nx<=nx'->HZ Z Γ' H' nx'->qQ C.r nx Γ Γ'->Rd Γ' C (Ps.gaps C.l a) d->K (.ret (.tuple [])) H' nx'):qk PG vl [.ptr C.r 0] H nx K:=by
 refine qk.of_body qr ?_
 rw [YS];refine zu (P:=PG) (X:=Nat) (Y:=Unit) (λ_=>qj .und [(0,.ptr C.r 0)]) (λ_=>qj .und [(0,.ptr C.r 0)])
  (λm b H1 nx1=>nx<=nx1/\∃Γ1,HZ Z Γ1 H1 nx1/\qQ C.r nx Γ Γ1/\Rd Γ1 C b d/\m=C.l.length - b/\Ps.gapsN C.l m b=Ps.gaps C.l a)
  (λid _ H1 nx1=>id=0/\nx<=nx1/\∃Γ1,HZ Z Γ1 H1 nx1/\qQ C.r nx Γ Γ1/\Rd Γ1 C (Ps.gaps C.l a) d) (C.l.length - a) a (ql.okay)
  ⟨Nat.le_refl _,Γ,hk,.refl _ _ _,hr,rfl,rfl⟩ ?_ ?_
 ·rintro m b H1 nx1 ⟨h1,Γ1,hk1,kp,hr1,rfl,hg⟩
  refine WpP.trim (ts:=[0]) (WpP.of_vK qr ?_)
  rw [qi2];have hlt:=hr1.lt
  obtain⟨m,hm⟩:∃m,C.l.length - b=m+1:=⟨C.l.length - b - 1,by omega⟩
  refine JR W hk1 hr1 (λh H2 nx2 h2 hk2=>qb.2 ⟨_,rfl,?_⟩) λh Γ2 H2 nx2 h2 hk2 kp2 hr2=>qb.2 ⟨_,rfl,?_⟩
  ·refine⟨rfl,(),ql.refl _,rfl,by omega,Γ1,hk2,kp,?_⟩
   rw [<-hg,hm];unfold Ps.gapsN;rw [h];exact hr1
  ·refine⟨rfl,_,b+1,Nat.sub_lt_sub_left hlt (Nat.lt_succ_self b),ql.refl _,by omega,Γ2,hk2,kp.trans kp2,hr2,rfl,?_⟩
   rw [<-hg,hm];rw [show C.l.length - (b+1)=m by omega]
   conv=>rhs;unfold Ps.gapsN
   rw [h];rfl
 ·rintro id _ H1 nx1 ⟨rfl,h1,Γ1,hk1,kp,hr1⟩
  rw [qhu];exact hK _ _ _ h1 hk1 kp hr1
theorem qgx(W:zj C.l)(hk:HZ Z Γ H nx)(hr:Rd Γ C a d)
  (hno:∀f,Ps.ends C.l a= .error f->∀H' nx',nx<=nx'->HZ Z Γ H' nx'->K (.pan [(Zk f,false)]) H' nx')
  (hK:∀b,Ps.ends C.l a= .ok b->∀Γ' H' nx',nx<=nx'->HZ Z Γ' H' nx'->qQ C.r nx Γ Γ'->Rd Γ' C b d->K (.ret (.tuple [])) H' nx'):qk PG JM [.ptr C.r 0] H nx K:=by
 refine qk.of_body qr ?_
 rw [YJ];refine YF hk hr λH1 nx1 h1 hk1=>qb.2 ⟨_,rfl,qi.2 ⟨λh=> ?_,λh=> ?_⟩⟩
 ·have h:Ps.is C.l a [125]=false:=by simpa using h
  refine yN W hk1 hr (λh2 H2 nx2 g2 hk2=>zN.2 (hno _ ?_ _ _ (by omega) hk2)) λh2 Γ2 H2 nx2 g2 hk2 kp2 hr2=>qb.2 ⟨_,_,_,_,_,rfl,?_⟩
  ·simp [Ps.ends,h,Ps.need,h2]
  ·refine Jk W hk2 hr2 λΓ3 H3 nx3 g3 hk3 kp3 hr3=>qb.2 (hK _ ?_ _ _ _ (by omega) hk3 ((kp2.trans kp3).le) hr3)
   simp [Ps.ends,h,Ps.need,h2]
 ·have h:Ps.is C.l a [125]=true:=by simpa using h
  refine Jk W hk1 hr λΓ3 H3 nx3 g3 hk3 kp3 hr3=>qb.2 (hK _ ?_ _ _ _ (by omega) hk3 kp3.le hr3)
  simp [Ps.ends,h]
def yO(C:RC)(N:Nat)(Γ:GH)(Γ1:GH)(o:qa)(ts:List qu):Prop:=
 (o= .nilSlice/\ts=[]/\Γ1=Γ)\/∃b cs,o= .slice b 0 ts.length 6 false/\(Γ b=none/\N<=b)/\Γ1=gup b (some cs) Γ/\zf C.ex Γ cs ts
def RC.own(C:RC)(o:qa):RC:=match o with
 | .slice b _ _ _ _=>C.add b
 |_=>C
theorem RC.own_r(C:RC)(o:qa):(C.own o).r=C.r:=by unfold RC.own;split<;>rfl
theorem RC.own_l(C:RC)(o:qa):(C.own o).l=C.l:=by unfold RC.own;split<;>rfl
theorem yO.rd{Γ1:GH}{o:qa}{ts:List qu}{N:Nat}(h:yO C N Γ Γ1 o ts)(hr:Rd Γ C a d):Rd Γ1 (C.own o) a d:=by
 rcases h with⟨rfl,rfl,rfl⟩|⟨b,cs,rfl,⟨h1,hN⟩,rfl,h2⟩
 ·exact hr
 ·exact hr.newAdd h1
theorem yO.rd'{Γ1:GH}{o:qa}{ts:List qu}{N:Nat}(h:yO C N Γ Γ1 o ts)(hr:Rd Γ C a d):Rd Γ1 C a d:=by
 rcases h with⟨rfl,rfl,rfl⟩|⟨b,cs,rfl,⟨h1,hN⟩,rfl,h2⟩
 ·exact hr
 ·exact hr.new h1
theorem yO.keep{Γ1:GH}{o:qa}{ts:List qu}{N:Nat}(h:yO C N Γ Γ1 o ts):qQ C.r N Γ Γ1:=by
 rcases h with⟨rfl,rfl,rfl⟩|⟨b,cs,rfl,⟨h1,hN⟩,rfl,h2⟩
 ·exact .refl _ _ _
 ·exact .new h1
theorem Rd.notex{b:Nat}(h:Rd Γ C a d)(hb:Γ b=none):¬C.ex b:=λx=>h.exs b x hb
theorem yO.v{Γ1:GH}{o:qa}{ts:List qu}{N:Nat}(h:yO C N Γ Γ1 o ts)(hr:Rd Γ C a d):qZ C.ex Γ1 o ts:=by
 rcases h with⟨rfl,rfl,rfl⟩|⟨b,cs,rfl,⟨h1,hN⟩,rfl,h2⟩
 ·exact .nil
 ·exact .blk (hr.notex h1) (qf _ _ _) (h2.mono (λ_ h=>h) λc ds _ e=>by rw [qg λx=>by rw [x,h1]at e;cases e];exact e) rfl
theorem yO.more{Γ1 Γ2:GH}{o:qa}{ts:List qu}{x:List qa}{t:qu}{a0 d0:Nat}{N:Nat}(h:yO C N Γ Γ1 o ts)(hr0:Rd Γ C a0 d0)
  (hk:HZ Z Γ2 H nx) {nk:Nat} (kp:qQ C.r nk Γ1 Γ2) (hNk:N<=nk) (hNx:N<=nx) (hr:Rd Γ2 (C.own o) a d) (hn:zy (C.own o).ex Γ2 x t) (hfew:ts.length<100000):
  ∃v H3 nx3 Γ3 Γ4,zt H nx 6 72 o 1 x=some (v,H3,nx3)/\nx<=nx3/\HZ Z Γ4 H3 nx3/\qQ C.r N Γ Γ3/\Rd Γ3 C a d/\yO C N Γ3 Γ4 v (ts++[t]):=by
 have hx:=hn.len
 have hf:=hk.fresh (Nat.le_refl nx)
 rcases h with⟨rfl,rfl,rfl⟩|⟨b,cs,rfl,⟨h1,hN⟩,rfl,h2⟩
 ·obtain⟨H3,e1,e2⟩:=hk.appNil (esz:=6) (ebytes:=72) (k:=1) (new:=x) (by omega) (by omega) (by omega) (by omega)
  exact⟨_,H3,_,Γ2,_,e1,by omega,e2,kp.le,hr,.inr ⟨nx,x,rfl,⟨hf,hNx⟩,rfl,hn.one⟩⟩
 ·have hbr:b≠C.r:=hr0.r_ne h1
  have hl:=h2.len
  have eb:Γ2 b=some cs:=kp.1 b cs hbr (qf _ _ _)
  obtain⟨H3,e1,e2⟩:=hk.app (esz:=6) (ebytes:=72) (k:=1) (new:=x) (len:=ts.length) eb (by omega) (by omega) (by omega) (by omega) (by omega)
  have hcs:cs.take (ts.length*6)=cs:=by rw [<-hl];exact List.take_length
  rw [hcs]at e2;have hsub:∀c ds,Γ c=some ds->c≠b:=λc ds e x=>by rw [x,h1]at e;cases e
  have k3:qQ C.r N Γ (gup b none Γ2):=⟨λc ds hc e=>by rw [qg (hsub c ds e)];exact kp.1 c ds hc (by rw [qg (hsub c ds e)];exact e),λc hc e=>by
   rw [qg (by omega)];exact kp.2 c (by omega) (by rw [qg (by omega)];exact e)⟩
  refine⟨_,H3,_,gup b none Γ2,_,e1,by omega,e2,k3,?_,.inr ⟨nx,cs++x,by simp,⟨?_,hNx⟩,rfl,?_⟩⟩
  ·have hr':Rd Γ2 (C.add b) a d:=hr
   refine⟨hr'.lt,hr'.deep,hr'.ne,hr0.rex,λc hc=> ?_,?_,?_⟩
   ·have:c≠b:=λx=>hr0.exs c hc (by rw [x];exact h1)
    rw [qg this];exact hr'.exs c (.inr hc)
   ·obtain⟨f,e⟩:=hr'.rd
    exact⟨f,by rw [qg (Ne.symm hbr)];exact e⟩
   ·obtain⟨ds,e,e'⟩:=hr'.tk
    exact⟨ds,by rw [qg (Ne.symm (hr0.tb_ne h1))];exact e,e'⟩
  ·by_cases hb:nx=b
   ·rw [hb,qf]
   ·rw [qg hb];exact hf
  ·refine zf.app (h2.keep hr0.rex k3) (zy.one (hn.mono (λc hc=> .inr hc) λc ds hc e=> ?_))
   rw [qg λx=>hc (.inl x)];exact e
theorem yO.next{Γ1 Γ2:GH}{o:qa}{ts:List qu}{a0 d0:Nat}{N:Nat}(h:yO C N Γ Γ1 o ts)(hr0:Rd Γ C a0 d0){nk:Nat}(kp:qQ C.r nk Γ1 Γ2)(hNk:N<=nk)(hr:Rd Γ2 C a d):
  ∃Γ3,yO C N Γ3 Γ2 o ts/\qQ C.r N Γ Γ3/\Rd Γ3 C a d:=by
 rcases h with⟨rfl,rfl,rfl⟩|⟨b,cs,rfl,⟨h1,hN⟩,rfl,h2⟩
 ·exact⟨Γ2,.inl ⟨rfl,rfl,rfl⟩,kp.le,hr⟩
 ·have hbr:b≠C.r:=hr0.r_ne h1
  have eb:Γ2 b=some cs:=kp.1 b cs hbr (qf _ _ _)
  have hsub:∀c ds,Γ c=some ds->c≠b:=λc ds e x=>by rw [x,h1]at e;cases e
  have k3:qQ C.r N Γ (gup b none Γ2):=⟨λc ds hc e=>by rw [qg (hsub c ds e)];exact kp.1 c ds hc (by rw [qg (hsub c ds e)];exact e),λc hc e=>by
   rw [qg (by omega)];exact kp.2 c (by omega) (by rw [qg (by omega)];exact e)⟩
  refine⟨gup b none Γ2,.inr ⟨b,cs,rfl,⟨qf _ _ _,hN⟩,by rw [km,qnj eb],h2.keep hr0.rex k3⟩,k3,hr.lt,hr.deep,hr.ne,hr0.rex,λc hc=> ?_,?_,?_⟩
  ·have:c≠b:=λx=>hr0.exs c hc (by rw [x];exact h1)
   rw [qg this];exact hr.exs c hc
  ·obtain⟨f,e⟩:=hr.rd
   exact⟨f,by rw [qg (Ne.symm hbr)];exact e⟩
  ·obtain⟨ds,e,e'⟩:=hr.tk
   exact⟨ds,by rw [qg (Ne.symm (hr0.tb_ne h1))];exact e,e'⟩
def kn(l:List Tok)(r tb:Nat)(d:Nat)(g:FuncId)(one:Nat->Rs (qu×Nat)):Prop:=
 ∀Z ex a res Γ H nx K,one a=some res->HZ Z Γ H nx->Rd Γ ⟨r,tb,l,ex⟩ a d->z7 Z K Γ nx ⟨r,tb,l,ex⟩ d res (zM ex)->qk PG g [.ptr r 0] H nx K
theorem kn.on{g:FuncId}{one:Nat->Rs (qu×Nat)}(h:kn C.l C.r C.tb d g one){CC:RC}(e1:CC.l=C.l)(e2:CC.r=C.r)(e3:CC.tb=C.tb){res:Except Flt (qu×Nat)}
  (h1:one a=some res) (hk:HZ Z Γ H nx) (hr:Rd Γ CC a d) (hK:z7 Z K Γ nx CC d res (zM CC.ex)):qk PG g [.ptr C.r 0] H nx K:=by
 obtain⟨r,tb,l,ex⟩:=CC
 simp only at e1 e2 e3
 subst e1;subst e2;subst e3;exact h Z ex a res Γ H nx K h1 hk hr hK
theorem RC.own_tb(C:RC)(o:qa):(C.own o).tb=C.tb:=by unfold RC.own;split<;>rfl
theorem qe9{g:FuncId}{one:Nat->Rs (qu×Nat)}{n:Nat}{res:Except Flt (List qu×Nat)}(W:zj C.l)(hadv1:Ps.AdvOK one)(hg:jO PG (.func (.func g) [.ptr C.r 0] []) []=some (g,[.ptr C.r 0]))(hone:kn C.l C.r C.tb d g one)
  (hrun:Ps.list C.l one n a=some res) (hk:HZ Z Γ H nx) (hr:Rd Γ C a d) (hK:z7 Z K Γ nx C d res (qZ C.ex)):qk PG ww [.ptr C.r 0,.func (.func g) [.ptr C.r 0] []] H nx K:=by
 refine qk.of_body qr ?_
 rw [qb7];unfold Ps.list at hrun;refine yN W hk hr (λh H1 nx1 h1 hk1=>zN.2 (hK.2 _ _ _ _ ?_ h1 hk1 (.refl _ _ _) hr.p)) λh Γ1 H1 nx1 h1 hk1 kp1 hr1=>qb.2 ⟨_,_,_,_,_,rfl,?_⟩
 ·simp [Ps.need,h,Ps.lift]at hrun;exact hrun.symm
 have hrun:Ps.listGo C.l one n (Ps.gaps C.l (a+1))=some res:=by simpa [Ps.need,h,Ps.lift]using hrun
 refine Jk W hk1 hr1 λΓ2 H2 nx2 h2 hk2 kp2 hr2=>qb.2 ?_
 have hK2:=hK.from (by omega:nx<=nx2) ((kp1.trans kp2).le)
 refine zu (P:=PG) (X:=qa) (Y:=qa) (λo=>qj .und [(0,.ptr C.r 0),(1,.func (.func g) [.ptr C.r 0] []),(5,o)]) (λo=>qj .und [(5,o)])
  (λm o H3 nx3=>nx2<=nx3/\∃Γ3 Γ4 ts b res',HZ Z Γ4 H3 nx3/\qQ C.r nx2 Γ2 Γ3/\Rd Γ3 C b d/\yO C nx2 Γ3 Γ4 o ts/\ts.length<=b/\Ps.listGo C.l one m b=some res'/\res=(match res' with| .ok (xs,c)=> .ok (ts++xs,c)| .error f=> .error f))
  (λid o H3 nx3=>id=0/\nx2<=nx3/\∃Γ3 ts b,HZ Z Γ3 H3 nx3/\qQ C.r nx2 Γ2 Γ3/\Rd Γ3 C b d/\qZ C.ex Γ3 o ts/\res= .ok (ts,b)) n .nilSlice (ql.okay)
  ⟨Nat.le_refl _,Γ2,Γ2,[],_,res,hk2,.refl _ _ _,hr2,.inl ⟨rfl,rfl,rfl⟩,by simp,hrun,by cases res<;>rfl⟩ ?_ ?_
 ·rintro m o H3 nx3 ⟨h3,Γ3,Γ4,ts,b,res',hk4,kp3,hr3,gr,hts,hgo,hres⟩
  refine WpP.trim (ts:=[0,1,5]) (WpP.weaken (e:=qj .und [(5,o),(1,.func (.func g) [.ptr C.r 0] []),(0,.ptr C.r 0)]) (ql.okay) (WpP.of_vK qr ?_))
  rw [qgt];have hr4:=gr.rd' hr3
  cases m with
  |zero=>simp [Ps.listGo]at hgo
  |succ m=>
  unfold Ps.listGo at hgo;refine JR W hk4 hr4 (λh H5 nx5 h5 hk5=>qb.2 ⟨_,rfl,?_⟩) λh Γ5 H5 nx5 h5 hk5 kp5 hr5=>qb.2 ⟨_,rfl,?_⟩
  ·rw [h]at hgo;have hgo:Rs.bind (one b) (λ(x,b)=>Ps.lift (Ps.ends C.l b) λc=>Rs.bind (Ps.listGo C.l one m c) λ(xs,d)=> .ok (x::xs,d))=some res':=hgo
   refine⟨_,_,hg,?_⟩
   rcases Ps.bind_some hgo with⟨f,e1,e2⟩|⟨⟨x,c⟩,e1,hgo⟩
   ·refine hone.on (C.own_l o) (C.own_r o) (C.own_tb o) e1 hk5 (gr.rd hr3) (.on (λx b v Γ' H' nx' e=>by cases e) λf' Γ' H' nx' e g1 g2 g3 g4=> ?_)
    cases e
    subst e2;rw [C.own_r]at g3 g4;exact hK2.2 f _ _ _ hres (by omega) g2 ((kp3.trans gr.keep).trans g3) g4
   ·refine hone.on (C.own_l o) (C.own_r o) (C.own_tb o) e1 hk5 (gr.rd hr3) (.on (λx' b' v Γ6 H6 nx6 e g1 g2 g3 g4 g5=> ?_) λf' Γ' H' nx' e=>by cases e)
    cases e
    obtain⟨k,s,nn,li,co,w,rfl,hw,hn⟩:=g4.cells
    rw [C.own_r]at g3;have hf6:=g2.fresh (Nat.le_refl nx6)
    refine⟨_,_,_,_,_,_,rfl,kO g2 (nx':=nx6+1) lR (by omega) λH7 g7=> ?_⟩
    have hn7:zy (C.own o).ex (gup nx6 (some [iv k,.str s,iv nn,iv li,iv co,w]) Γ6) [iv k,.str s,iv nn,iv li,iv co,w] x:=hn.mono (λ_ h=>h) λc ds _ e=>by rw [qg λx=>by rw [x,hf6]at e;cases e];exact e
    have hr7:Rd (gup nx6 (some [iv k,.str s,iv nn,iv li,iv co,w]) Γ6) (C.own o) c d:=g5.new hf6
    have hcl:=hr7.lt
    have hWf:=W.few
    rw [C.own_l]at hcl;have hadv:=hr3.lt
    obtain⟨v,H8,nx8,Γ8,Γ9,a1,a2,a3,a4,a5,a6⟩:=gr.more hr3 g7 (g3.trans (.new (nx:=nx6) hf6)) (by omega) (by omega) hr7 hn7 (by omega)
    refine⟨1,[iv k,.str s,iv nn,iv li,iv co,w],?_,by simp only [qq,hw];rfl,v,H8,nx8,a1,?_⟩
    ·rw [g7.src (qf _ _ _) (by simp)];simp
    have hr9:=a6.rd' a5
    refine qgx W a3 hr9 (λf e3 H10 nx10 g10 hk10=>zN.2 ?_) λc' e3 Γ10 H10 nx10 g10 hk10 kp10 hr10=>qb.2 ?_
    ·simp only [e3,Ps.lift]at hgo
     cases hgo
     exact hK2.2 f _ _ _ hres (by omega) hk10 ((kp3.trans a4).trans a6.keep) hr9.p
    ·simp only [e3,Ps.lift]at hgo
     have ha1:=hadv1 _ _ _ e1
     have ha2:=Ps.ends_ok e3
     obtain⟨Γ11,b1,b2,b3⟩:=a6.next a5 kp10 (by omega) hr10
     rcases Ps.bind_some hgo with⟨f,e4,e5⟩|⟨⟨xs,c2⟩,e4,e5⟩
     ·exact⟨rfl,m,v,Nat.lt_succ_self m,ql.refl _,by omega,Γ11,Γ10,ts++[x],c',_,hk10,(kp3.trans a4).trans b2,b3,b1,by simp;omega,e4,by rw [hres,e5]⟩
     ·refine⟨rfl,m,v,Nat.lt_succ_self m,ql.refl _,by omega,Γ11,Γ10,ts++[x],c',_,hk10,(kp3.trans a4).trans b2,b3,b1,by simp;omega,e4,?_⟩
      cases e5
      rw [hres];simp
  ·rw [h]at hgo;cases hgo
   refine⟨rfl,o,ql.okay,rfl,by omega,Γ5,ts,b+1,hk5,(kp3.trans gr.keep).trans kp5,hr5,(gr.v hr3).keep hr3.rex kp5,by simpa using hres⟩
 ·rintro id o H3 nx3 ⟨rfl,h3,Γ3,ts,b,hk3,kp3,hr3,hv,hres⟩
  rw [qjn];exact hK2.1 _ _ _ _ _ _ hres h3 hk3 kp3 hv hr3
end
structure At(Γ:GH)(r i:Nat)(cs:List qa):Prop where
 e:Γ i=some cs
 ne:i≠r
theorem At.keep{Γ Γ':GH}{r i nx:Nat}{cs:List qa}(h:At Γ r i cs)(k:qQ r nx Γ Γ'):At Γ' r i cs:=⟨k.1 _ _ h.ne h.e,h.ne⟩
theorem At.tok{Γ:GH}{H:qd}{nx r i:Nat}{t:Tok}(h:At Γ r i (jd t))(hk:HZ Z Γ H nx):ldN H 5 (.ptr i 0)=some (vz t):=ldAll hk h.e rfl
theorem At.ld{Γ:GH}{H:qd}{nx r i:Nat}{cs:List qa}(h:At Γ r i cs)(hk:HZ Z Γ H nx)(j:Nat):ld1 H (.ptr i j)=cs[j]?:=hk.ld1 h.e j
structure Res(Γ:GH)(C:RC)(i:Nat):Prop where
 e:∃cs,Γ i=some cs/\cs.length=6
 nr:i≠C.r
 nt:i≠C.tb
theorem Res.keep{Γ Γ':GH}{C:RC}{i nx:Nat}(h:Res Γ C i)(k:qQ C.r nx Γ Γ'):Res Γ' C i:=⟨let⟨cs,e,l⟩:=h.e;⟨cs,k.1 _ _ h.nr e,l⟩,h.nr,h.nt⟩
section
variable{α β:Type}{Γ0 Γ:GH}{n0:Nat}{H:qd}{nx a d i:Nat}{C:RC}{K:qv}{V:GH->qa->β->Prop}{res:Except Flt (β×Nat)}
variable{rK:qa->qd->Nat->Prop}{pK:List (qa×Bool)->qd->Nat->Prop}
def Owe(Z:Nat->Prop)(K:qv)(Γ0:GH)(n0:Nat)(Γ:GH)(nx:Nat)(C:RC)(d:Nat)(res:Except Flt (β×Nat))(V:GH->qa->β->Prop):Prop:=z7 Z K Γ0 n0 C d res V/\qQ C.r n0 Γ0 Γ/\n0<=nx
theorem z7.owe(hK:z7 Z K Γ nx C d res V):Owe Z K Γ nx Γ nx C d res V:=⟨hK,.refl _ _ _,Nat.le_refl _⟩
theorem Owe.from{Γ1:GH}{nx1:Nat}(h:Owe Z K Γ0 n0 Γ nx C d res V)(hn:nx<=nx1)(hk:qQ C.r nx Γ Γ1):Owe Z K Γ0 n0 Γ1 nx1 C d res V:=let⟨h1,h2,h3⟩:=h;⟨h1,h2.trans hk,by omega⟩
theorem Owe.pan{f:Flt}(h:Owe Z K Γ0 n0 Γ nx C d res V)(e:res= .error f)(hk:HZ Z Γ H nx)(hp:RdP Γ C.r):K (.pan [(Zk f,false)]) H nx:=let⟨h1,h2,h3⟩:=h;h1.2 f Γ H nx e h3 hk h2 hp
theorem Owe.ret{x:β}{b:Nat}{v:qa}(h:Owe Z K Γ0 n0 Γ nx C d res V)(e:res= .ok (x,b))(hk:HZ Z Γ H nx)(hv:V Γ v x)(hr:Rd Γ C b d):K (.ret v) H nx:=let⟨h1,h2,h3⟩:=h;h1.1 x b v Γ H nx e h3 hk h2 hv hr
theorem Owe.upd{i:Nat}{cs:Option (List qa)}(h:Owe Z K Γ0 n0 Γ nx C d res V)(hi:Γ0 i=none)(hn:n0<=i):Owe Z K Γ0 n0 (gup i cs Γ) nx C d res V:=let⟨h1,h2,h3⟩:=h;⟨h1,h2.upd' hi (.inl hn),h3⟩
def vV(Z:Nat->Prop)(K:qv)(r:Nat)(pK:List (qa×Bool)->qd->Nat->Prop):Prop:=
 ∀f Γ H nx,HZ Z Γ H nx->RdP Γ r->(∀Γ' H',HZ Z Γ' H' nx->qQ r nx Γ Γ'->RdP Γ' r->K (.pan [(Zk f,false)]) H' nx)->pK [(Zk f,false)] H nx
theorem vV.id{r:Nat}:vV Z K r λl H nx=>K (.pan l) H nx:=λf Γ H nx hk hp h=>h Γ H hk (.refl _ _ _) hp
theorem vV.lv{i:Nat}:vV Z K C.r λl H nx=>qS PG (qB PG) [.cell (.ptr i 0) qG] [(jB,[.ptr C.r 0])] (.panicking l) H nx K:=λf Γ H nx hk hp h=>qn1 hk hp λΓ' H' h1 h2 h3=>h Γ' H' h1 h2 h3
theorem vV.of{f:Flt}{d':Nat}(h:vV Z K C.r pK)(hK:Owe Z K Γ0 n0 Γ nx C d' res V)(e:res= .error f)(hk:HZ Z Γ H nx)(hp:RdP Γ C.r):pK [(Zk f,false)] H nx:=
 h f Γ H nx hk hp λΓ' H' h1 h2 h3=>(hK.from lR h2).pan e h1 h3
theorem qR{g:FuncId}{args:List qa}{one:Nat->Rs (qu×Nat)}{k:qu×Nat->Rs (β×Nat)}{Cb:RC}{db:Nat}
  (hone:∀Z ex res Γ H nx K,one a=some res->HZ Z Γ H nx->Rd Γ ⟨C.r,C.tb,C.l,ex⟩ a d->z7 Z K Γ nx ⟨C.r,C.tb,C.l,ex⟩ d res (zM ex)->qk PG g args H nx K)
  (hrun:Rs.bind (one a) k=some res) {Zc:Nat->Prop} (hk:HZ Zc Γ H nx) (hr:Rd Γ C a d) (hK:Owe Z K Γ0 n0 Γ nx Cb db res V) (hb:Cb.r=C.r) (hp:vV Z K Cb.r pK) (hz:∀b,Z b->Zc b)
  (hok:∀t b kk s n li co w Γ' H' nx',one a=some (.ok (t,b))->k (t,b)=some res->nx<=nx'->HZ Zc Γ' H' nx'->qQ C.r nx Γ Γ'->qI w=true->zy C.ex Γ' [iv kk,.str s,iv n,iv li,iv co,w] t->Rd Γ' C b d->
   Owe Z K Γ0 n0 Γ' nx' Cb db res V->rK (.agg [iv kk,.str s,iv n,iv li,iv co,w]) H' nx'):
  qk PG g args H nx λe H' nx'=>qc e (λv=>rK v H' nx') λl=>pK l H' nx':=by
 rcases Ps.bind_some hrun with⟨f,e1,e2⟩|⟨⟨t,b⟩,e1,e2⟩
 ·refine hone _ C.ex _ Γ H nx _ e1 hk hr (.on (λx b v Γ' H' nx' e=>by cases e) λf' Γ' H' nx' e g1 g2 g3 g4=> ?_)
  cases e
  rw [show(⟨C.r,C.tb,C.l,C.ex⟩:RC).r=Cb.r from hb.symm]at g3 g4;exact hp.of (hK.from g1 g3) e2 (g2.less hz) g4
 ·refine hone _ C.ex _ Γ H nx _ e1 hk hr (.on (λx b' v Γ' H' nx' e g1 g2 g3 g4 g5=> ?_) λf' Γ' H' nx' e=>by cases e)
  cases e
  obtain⟨kk,s,n,li,co,w,rfl,hw,hn⟩:=g4.cells
  exact hok _ _ _ _ _ _ _ _ _ _ _ e1 e2 g1 g2 g3 hw hn g5 (hK.from g1 (by rw [hb];exact g3))
theorem kN{g:FuncId}{args:List qa}{one:Nat->Rs (qu×Nat)}{res:Except Flt (qu×Nat)}{V:GH->qa->qu->Prop}{Cb:RC}{db:Nat}
  (hone:∀Z ex res Γ H nx K,one a=some res->HZ Z Γ H nx->Rd Γ ⟨C.r,C.tb,C.l,ex⟩ a d->z7 Z K Γ nx ⟨C.r,C.tb,C.l,ex⟩ d res (zM ex)->qk PG g args H nx K)
  (hrun:one a=some res) {Zc:Nat->Prop} (hk:HZ Zc Γ H nx) (hr:Rd Γ C a d) (hK:Owe Z K Γ0 n0 Γ nx Cb db res V) (hb:Cb.r=C.r) (hp:vV Z K Cb.r pK) (hz:∀b,Z b->Zc b)
  (hok:∀t b kk s n li co w Γ' H' nx',one a=some (.ok (t,b))->res= .ok (t,b)->nx<=nx'->HZ Zc Γ' H' nx'->qQ C.r nx Γ Γ'->qI w=true->zy C.ex Γ' [iv kk,.str s,iv n,iv li,iv co,w] t->Rd Γ' C b d->
   Owe Z K Γ0 n0 Γ' nx' Cb db res V->rK (.agg [iv kk,.str s,iv n,iv li,iv co,w]) H' nx'):
  qk PG g args H nx λe H' nx'=>qc e (λv=>rK v H' nx') λl=>pK l H' nx':=
 qR (k:=λx=>Rs.ok x) hone (by rw [hrun];cases res<;>rfl) hk hr hK hb hp hz λt b kk s n li co w Γ' H' nx' h1 h2=>hok t b kk s n li co w Γ' H' nx' h1 (by cases h2;rfl)
theorem zZ{s:List UInt8}{k:Nat->Rs (β×Nat)}{Cb:RC}{db:Nat}(W:zj C.l)(hrun:Ps.lift (Ps.need C.l a s) k=some res){Zc:Nat->Prop}(hk:HZ Zc Γ H nx)(hr:Rd Γ C a d)(hK:Owe Z K Γ0 n0 Γ nx Cb db res V)(hb:Cb.r=C.r)(hp:vV Z K Cb.r pK)(hz:∀b,Z b->Zc b)
  (hok:∀Γ' H' nx',Ps.is C.l a s=true->k (a+1)=some res->nx<=nx'->HZ Zc Γ' H' nx'->qQ C.r nx Γ Γ'->Rd Γ' C (a+1) d->Owe Z K Γ0 n0 Γ' nx' Cb db res V->rK (vz (Ps.tk C.l a)) H' nx'):
  qk PG ze [.ptr C.r 0,.str s] H nx λe H' nx'=>qc e (λv=>rK v H' nx') λl=>pK l H' nx':=by
 refine yN W hk hr (λh H1 nx1 h1 hk1=>zN.2 ?_) λh Γ1 H1 nx1 h1 hk1 kp1 hr1=>qb.2 ?_
 ·refine hp.of (hK.from h1 (.refl _ _ _)) ?_ (hk1.less hz) (by rw [hb];exact hr.p)
  simp [Ps.need,h,Ps.lift]at hrun;exact hrun.symm
 ·exact hok _ _ _ h (by simpa [Ps.need,h,Ps.lift]using hrun) h1 hk1 kp1 hr1 (hK.from h1 (by rw [hb];exact kp1))
theorem jY{k:Nat->Rs (β×Nat)}{Cb:RC}{db:Nat}(W:zj C.l)(hrun:Ps.lift (Ps.name C.l a) k=some res){Zc:Nat->Prop}(hk:HZ Zc Γ H nx)(hr:Rd Γ C a d)(hK:Owe Z K Γ0 n0 Γ nx Cb db res V)(hb:Cb.r=C.r)(hp:vV Z K Cb.r pK)(hz:∀b,Z b->Zc b)
  (hok:∀Γ' H' nx',(Ps.tk C.l a).kind=2->k (a+1)=some res->nx<=nx'->HZ Zc Γ' H' nx'->qQ C.r nx Γ Γ'->Rd Γ' C (a+1) d->Owe Z K Γ0 n0 Γ' nx' Cb db res V->rK (vz (Ps.tk C.l a)) H' nx'):
  qk PG jp [.ptr C.r 0] H nx λe H' nx'=>qc e (λv=>rK v H' nx') λl=>pK l H' nx':=by
 refine qk6 W hk hr (λh H1 nx1 h1 hk1=>zN.2 ?_) λh Γ1 H1 nx1 h1 hk1 kp1 hr1=>qb.2 ?_
 ·refine hp.of (hK.from h1 (.refl _ _ _)) ?_ (hk1.less hz) (by rw [hb];exact hr.p)
  have h':((Ps.tk C.l a).kind==2)=false:=by simp [h]
  simp [Ps.name,h,Ps.lift]at hrun;exact hrun.symm
 ·exact hok _ _ _ h (by simpa [Ps.name,h,Ps.lift]using hrun) h1 hk1 kp1 hr1 (hK.from h1 (by rw [hb];exact kp1))
theorem zi{s:List UInt8}{x y:Rs (β×Nat)}{Cb:RC}{db:Nat}(W:zj C.l)(hrun:(if Ps.is C.l a s=true then x else y)=some res){Zc:Nat->Prop}(hk:HZ Zc Γ H nx)(hr:Rd Γ C a d)(hK:Owe Z K Γ0 n0 Γ nx Cb db res V)(hb:Cb.r=C.r)(hz:∀b,Z b->Zc b)
  (hyes:∀Γ' H' nx',Ps.is C.l a s=true->x=some res->nx<=nx'->HZ Zc Γ' H' nx'->qQ C.r nx Γ Γ'->Rd Γ' C (a+1) d->Owe Z K Γ0 n0 Γ' nx' Cb db res V->rK (.bool true) H' nx')
  (hno:∀H' nx',Ps.is C.l a s=false->y=some res->nx<=nx'->HZ Zc Γ H' nx'->Owe Z K Γ0 n0 Γ nx' Cb db res V->rK (.bool false) H' nx'):
  qk PG zb [.ptr C.r 0,.str s] H nx λe H' nx'=>qc e (λv=>rK v H' nx') λl=>pK l H' nx':=
 JR W hk hr (λh H1 nx1 h1 hk1=>qb.2 (hno _ _ h (by simpa [h]using hrun) h1 hk1 (hK.from h1 (.refl _ _ _))))
  λh Γ1 H1 nx1 h1 hk1 kp1 hr1=>qb.2 (hyes _ _ _ h (by simpa [h]using hrun) h1 hk1 kp1 hr1 (hK.from h1 (by rw [hb];exact kp1)))
theorem ZF{K:qv}{Cb:RC}{kk n li co:Int}{s:List UInt8}{w:qa}{t:qu}{b d:Nat}{res:Except Flt (qu×Nat)}(hk:HZ Z Γ H nx)(hr:Rd Γ (Cb.add i) b d)(hi:Res Γ Cb i)(h0:Γ0 i=none/\n0<=i)(hrex:Cb.ex Cb.r)(hw:qI w=true)
  (hn:zy (Cb.add i).ex Γ [iv kk,.str s,iv n,iv li,iv co,w] t) (e:res= .ok (t,b)) (hK:Owe Z K Γ0 n0 Γ nx Cb d res (zM Cb.ex)):
  ∃H1,stC H (.ptr i 0) [iv kk,.str s,iv n,iv li,iv co,w]=some H1/\∃(n1:Int) (s1:List UInt8) (x1 y1 z1:Int) (v1:qa),ldN H1 6 (.ptr i 0)=some (.agg [iv n1,.str s1,iv x1,iv y1,iv z1,v1])/\K (.ret (.agg [iv n1,.str s1,iv x1,iv y1,iv z1,v1])) H1 nx:=by
 obtain⟨cs,e0,hl⟩:=hi.e
 refine qpe hk e0 hl hw λH1 h1=>(hK.upd h0.1 h0.2).ret e h1 ?_ ((hr.upd hi.nr hi.nt).less hrex)
 exact(hn.mono (λ_ h=> .inr h) λc ds hc e=>by rw [qg λx=>hc (.inl x)];exact e).v
theorem jX{k:qd->Prop}(hk:HZ Z Γ H nx)(hr:Rd Γ C a d)(hK:z7 Z K Γ nx C d res V)
  (h:∀Γ' H',HZ Z Γ' H' (nx+1)->Rd Γ' (C.add nx) a d->Res Γ' C nx->(Γ nx=none/\nx<=nx)->Owe Z K Γ nx Γ' (nx+1) C d res V->qQ C.r nx Γ Γ'->k H'):∃H0,H0=qo nx [iv 0,u3 [],iv 0,iv 0,iv 0,u6] H/\k H0:=by
 have hf:=hk.fresh (Nat.le_refl nx)
 refine kO hk (nx':=nx+1) lR (by omega) λH0 h0=> ?_
 exact h _ _ h0 (hr.newAdd hf) ⟨⟨_,qf _ _ _,rfl⟩,hr.r_ne hf,hr.tb_ne hf⟩ ⟨hf,Nat.le_refl _⟩ (hK.owe.from (by omega) (.new hf)) (.new hf)
theorem vv{k:qd->Prop}{t:Tok}{Cb:RC}{db:Nat}{Zc:Nat->Prop}(hk:HZ Zc Γ H nx)(hr:Rd Γ C a d)(hK:Owe Z K Γ0 n0 Γ nx Cb db res V)(hb:Cb.r=C.r)
  (h:∀Γ' H',HZ Zc Γ' H' (nx+1)->Rd Γ' C a d->At Γ' C.r nx (jd t)->qQ C.r nx Γ Γ'->Owe Z K Γ0 n0 Γ' (nx+1) Cb db res V->k H'):
  ∃H0,H0=qo nx [iv 0,u3 [],iv 0,iv 0,iv 0] H/\∃H1,stC H0 (.ptr nx 0) [iv t.kind,.str t.text,iv t.n,iv t.line,iv t.col]=some H1/\k H1:=by
 have hf:=hk.fresh (Nat.le_refl nx)
 refine scr hk (nx':=nx+1) lR (by omega) rfl rfl λH1 h1=> ?_
 exact h _ _ h1 (hr.new hf) ⟨qf _ _ _,hr.r_ne hf⟩ (.new hf) (hK.from (by omega) (.new hf))
theorem kv{k:qd->Prop}{kk n li co:Int}{s:List UInt8}{w:qa}{Cb:RC}{db:Nat}{Zc:Nat->Prop}(hk:HZ Zc Γ H nx)(hr:Rd Γ C a d)(hw:qI w=true)(hK:Owe Z K Γ0 n0 Γ nx Cb db res V)(hb:Cb.r=C.r)
  (h:∀Γ' H',HZ Zc Γ' H' (nx+1)->Rd Γ' C a d->At Γ' C.r nx [iv kk,.str s,iv n,iv li,iv co,w]->qQ C.r nx Γ Γ'->Owe Z K Γ0 n0 Γ' (nx+1) Cb db res V->k H'):
  ∃H0,H0=qo nx [iv 0,u3 [],iv 0,iv 0,iv 0,u6] H/\∃H1,stC H0 (.ptr nx 0) [iv kk,.str s,iv n,iv li,iv co,w]=some H1/\k H1:=by
 have hf:=hk.fresh (Nat.le_refl nx)
 refine scr hk (nx':=nx+1) lR (by omega) rfl (by simp only [qq,hw];rfl) λH1 h1=> ?_
 exact h _ _ h1 (hr.new hf) ⟨qf _ _ _,hr.r_ne hf⟩ (.new hf) (hK.from (by omega) (.new hf))
theorem Zm{k:qd->Prop}{i nx':Nat}{cs:List qa}{Cb:RC}{db:Nat}{Zc:Nat->Prop}(hk:HZ Zc Γ H nx)(hi:nx<=i)(hi':i<nx')(hr:Rd Γ C a d)(hK:Owe Z K Γ0 n0 Γ nx Cb db res V)(hb:Cb.r=C.r)
  (h:∀Γ' H',HZ Zc Γ' H' nx'->Rd Γ' C a d->At Γ' C.r i cs->¬C.ex i->qQ C.r nx Γ Γ'->Owe Z K Γ0 n0 Γ' nx' Cb db res V->k H'):
  ∃H0,H0=qo i cs H/\k H0:=by
 have hf:=hk.fresh hi
 refine kO hk hi hi' λH1 h1=> ?_
 exact h _ _ h1 (hr.new hf) ⟨qf _ _ _,hr.r_ne hf⟩ (hr.notex hf) (.new hf) (hK.from (by omega) (.new hf))
def rz(Z:Nat->Prop)(i:Nat):Nat->Prop:=λb=>b=i\/Z b
theorem wg{Z:Nat->Prop}{i:Nat}:∀b,Z b->rz Z i b:=λ_ h=> .inr h
theorem jx{i nx':Nat}(hk:HZ Z Γ H nx)(hi:nx<=i)(hi':i<nx'):HZ (rz Z i) Γ H nx'/\¬Z i:=
 ⟨hk.res (λb h=>h.elim (λe=> .inr ⟨by omega,by omega⟩) .inl) (by omega),λh=>by have:=hk.1 i h;omega⟩
theorem Owe.from'{Γ1:GH}{nx1 m:Nat}(h:Owe Z K Γ0 n0 Γ nx C d res V)(hn:nx<=nx1)(hk:qQ C.r m Γ Γ1)(hm:n0<=m):Owe Z K Γ0 n0 Γ1 nx1 C d res V:=let⟨h1,h2,h3⟩:=h;⟨h1,h2.trans hk,by omega⟩
theorem jw{k:qd->Prop}{i:Nat}{cs:List qa}{Cb:RC}{db:Nat}(hk:HZ (rz Z i) Γ H nx)(hni:¬Z i)(hr:Rd Γ C a d)(hK:Owe Z K Γ0 n0 Γ nx Cb db res V)(hb:Cb.r=C.r)(h0:n0<=i)
  (h:∀Γ' H',HZ Z Γ' H' nx->Rd Γ' C a d->At Γ' C.r i cs->¬C.ex i->qQ C.r i Γ Γ'->Owe Z K Γ0 n0 Γ' nx Cb db res V->k H'):
  ∃H0,H0=qo i cs H/\k H0:=by
 have hf:=hk.free (.inl rfl)
 exact⟨_,rfl,h _ _ (hk.take (.inl rfl) (λb hb=>⟨.inr hb,λe=>hni (by rw [<-e];exact hb)⟩) cs) (hr.new hf) ⟨qf _ _ _,hr.r_ne hf⟩ (hr.notex hf) (.new hf) (hK.from' lR (.new hf) h0)⟩
theorem JI{g:FuncId}{n:Nat}{one:Nat->Rs (qu×Nat)}{k:List qu×Nat->Rs (β×Nat)}{Cb:RC}{db:Nat}(W:zj C.l)(hadv:Ps.AdvOK one)(hg:jO PG (.func (.func g) [.ptr C.r 0] []) []=some (g,[.ptr C.r 0]))
  (hone:kn C.l C.r C.tb d g one) (hrun:Rs.bind (Ps.list C.l one n a) k=some res) {Zc:Nat->Prop} (hk:HZ Zc Γ H nx) (hr:Rd Γ C a d) (hK:Owe Z K Γ0 n0 Γ nx Cb db res V) (hb:Cb.r=C.r) (hp:vV Z K Cb.r pK) (hz:∀b,Z b->Zc b)
  (hok:∀ts b v Γ' H' nx',k (ts,b)=some res->nx<=nx'->HZ Zc Γ' H' nx'->qQ C.r nx Γ Γ'->qZ C.ex Γ' v ts->Rd Γ' C b d->Owe Z K Γ0 n0 Γ' nx' Cb db res V->rK v H' nx'):
  qk PG ww [.ptr C.r 0,.func (.func g) [.ptr C.r 0] []] H nx λe H' nx'=>qc e (λv=>rK v H' nx') λl=>pK l H' nx':=by
 rcases Ps.bind_some hrun with⟨f,e1,e2⟩|⟨⟨t,b⟩,e1,e2⟩
 ·refine qe9 W hadv hg hone e1 hk hr (.on (λx b v Γ' H' nx' e=>by cases e) λf' Γ' H' nx' e g1 g2 g3 g4=> ?_)
  cases e
  rw [<-hb]at g3 g4;exact hp.of (hK.from g1 g3) e2 (g2.less hz) g4
 ·refine qe9 W hadv hg hone e1 hk hr (.on (λx b' v Γ' H' nx' e g1 g2 g3 g4 g5=> ?_) λf' Γ' H' nx' e=>by cases e)
  cases e
  exact hok _ _ _ _ _ _ e2 g1 g2 g3 g4 g5 (hK.from g1 (by rw [hb];exact g3))
theorem z6{t:Tok}{kk:Int}{s:List UInt8}{v:qa}{ts:List qu}{Cb:RC}{db:Nat}{Zc:Nat->Prop}(hk:HZ Zc Γ H nx)(hv:qZ C.ex Γ v ts)(hK:Owe Z K Γ0 n0 Γ nx Cb db res V)
  (hok:∀H' nx',nx<=nx'->HZ Zc Γ H' nx'->zy C.ex Γ [iv kk,.str s,iv 0,iv t.line,iv t.col,v] (Ps.mk t kk s ts)->qI v=true->Owe Z K Γ0 n0 Γ nx' Cb db res V->rK (.agg [iv kk,.str s,iv 0,iv t.line,iv t.col,v]) H' nx'):
  qk PG qE [vz t,iv kk,.str s,v] H nx λe H' nx'=>qc e (λv=>rK v H' nx') λl=>pK l H' nx':=
 qe8 hv.cell hk λH1 nx1 h1 hk1=>qb.2 (hok _ _ h1 hk1 (by obtain⟨c,e,h⟩:=hv.node (k:=kk) (n:=0) (line:=t.line) (col:=t.col) (s:=s);cases e;exact h) hv.cell (hK.from h1 (.refl _ _ _)))
theorem vB{Cb:RC}{db:Nat}{Zc:Nat->Prop}(hk:HZ Zc Γ H nx)(hK:Owe Z K Γ0 n0 Γ nx Cb db res V)
  (hok:∀H' nx',nx<=nx'->HZ Zc Γ H' nx'->zy C.ex Γ [iv 38,.str [],iv 0,iv 0,iv 0,.nilSlice] Ps.none_->Owe Z K Γ0 n0 Γ nx' Cb db res V->rK (.agg [iv 38,.str [],iv 0,iv 0,iv 0,.nilSlice]) H' nx'):
  qk PG kX [] H nx λe H' nx'=>qc e (λv=>rK v H' nx') λl=>pK l H' nx':=
 qlq hk λH1 nx1 h1 hk1=>qb.2 (hok _ _ h1 hk1 (.mk [] (.inl ⟨rfl,rfl,rfl⟩) .nil) (hK.from h1 (.refl _ _ _)))
theorem kH{Cb:RC}{db:Nat}{Zc:Nat->Prop}(hk:HZ Zc Γ H nx)(hr:Rd Γ C a d)(hK:Owe Z K Γ0 n0 Γ nx Cb db res V)
  (hok:∀H' nx',nx<=nx'->HZ Zc Γ H' nx'->Owe Z K Γ0 n0 Γ nx' Cb db res V->rK (vz (Ps.tk C.l a)) H' nx'):
  qk PG zX [.ptr C.r 0] H nx λe H' nx'=>qc e (λv=>rK v H' nx') λl=>pK l H' nx':=
 Zy hk hr λH1 nx1 h1 hk1=>qb.2 (hok _ _ h1 hk1 (hK.from h1 (.refl _ _ _)))
theorem kz{s:List UInt8}{Cb:RC}{db:Nat}{Zc:Nat->Prop}(hk:HZ Zc Γ H nx)(hr:Rd Γ C a d)(hK:Owe Z K Γ0 n0 Γ nx Cb db res V)
  (hok:∀H' nx',nx<=nx'->HZ Zc Γ H' nx'->Owe Z K Γ0 n0 Γ nx' Cb db res V->rK (.bool (Ps.is C.l a s)) H' nx'):
  qk PG jh [.ptr C.r 0,.str s] H nx λe H' nx'=>qc e (λv=>rK v H' nx') λl=>pK l H' nx':=
 YF hk hr λH1 nx1 h1 hk1=>qb.2 (hok _ _ h1 hk1 (hK.from h1 (.refl _ _ _)))
end
structure IH(l:List Tok)(r tb n:Nat):Prop where
 typ:∀d,d<=40->kn l r tb d jJ (Ps.run l n .typ d)
 field:∀d,d<=40->kn l r tb d wD (Ps.run l n .field d)
 method:∀d,d<=40->kn l r tb d vW (Ps.run l n .method d)
 param:∀d,d<=40->kn l r tb d wV (Ps.run l n .param d)
 stmt:∀d,d<=40->kn l r tb d yF (Ps.run l n .stmt d)
 ifs:∀d,d<=40->kn l r tb d Qr (Ps.run l n .ifs d)
 block:∀d,d<=40->kn l r tb d jQ (Ps.run l n .block d)
 expr:∀d,d<=40->kn l r tb d je (Ps.run l n .expr d)
 unary:∀d,d<=40->kn l r tb d ve (Ps.run l n .unary d)
 post:∀d,d<=40->kn l r tb d ku (Ps.run l n .post d)
 prime:∀d,d<=40->kn l r tb d Qd (Ps.run l n .prime d)
 binary:∀(k:Nat) d,d<=40->∀Z ex a res Γ H nx K,Ps.run l n (.binary k) d a=some res->HZ Z Γ H nx->Rd Γ ⟨r,tb,l,ex⟩ a d->z7 Z K Γ nx ⟨r,tb,l,ex⟩ d res (zM ex)->qk PG z8 [.ptr r 0,iv k] H nx K
theorem wb{l:List Tok}{n d:Nat}{rule:Ps.Rule}(h:Ps.adv rule=1):Ps.AdvOK (Ps.run l n rule d):=λa t b e=>by have:=Ps.run_adv l n rule d a t b e;omega
section
variable{Γ:GH}{H:qd}{nx a d n:Nat}{C:RC}{K:qv}{res:Except Flt (qu×Nat)}
theorem qi8{r:Nat}:jO PG (.func (.func jJ) [.ptr r 0] []) []=some (jJ,[.ptr r 0]):=by kernel_rfl
theorem KW{r:Nat}:jO PG (.func (.func je) [.ptr r 0] []) []=some (je,[.ptr r 0]):=by kernel_rfl
theorem qlc{r:Nat}:jO PG (.func (.func yF) [.ptr r 0] []) []=some (yF,[.ptr r 0]):=by kernel_rfl
theorem qi3{r:Nat}:jO PG (.func (.func wD) [.ptr r 0] []) []=some (wD,[.ptr r 0]):=by kernel_rfl
theorem qer{r:Nat}:jO PG (.func (.func vW) [.ptr r 0] []) []=some (vW,[.ptr r 0]):=by kernel_rfl
theorem qan{r:Nat}:jO PG (.func (.func wV) [.ptr r 0] []) []=some (wV,[.ptr r 0]):=by kernel_rfl
theorem qhj(W:zj C.l)(ih:IH C.l C.r C.tb n)(hd:d<=40)(hrun:Ps.run C.l (n+1) .block d a=some res)(hk:HZ Z Γ H nx)(hr:Rd Γ C a d)(hK:z7 Z K Γ nx C d res (zM C.ex)):qk PG jQ [.ptr C.r 0] H nx K:=by
 refine qk.of_body qr ?_
 rw [XD];simp only [Ps.run]at hrun
 refine jX hk hr hK λΓ1 H1 hk1 hr1 hi1 hf hK1 kp1=>kH (C:=C.add nx) hk1 hr1 hK1 λH2 nx2 h2 hk2 hK2=>⟨_,_,_,_,_,rfl,?_⟩
 refine vv (C:=C.add nx) hk2 hr1 hK2 rfl λΓ3 H3 hk3 hr3 ht3 kp3 hK3=> ?_
 refine⟨_,_,_,_,_,ht3.tok hk3,⟨⟨_,_,_,_,_,ht3.tok hk3,rfl⟩,trivial⟩,?_⟩
 refine JI (C:=C.add nx) W (wb rfl) qlc (ih.stmt d hd) hrun (hk3.more (by omega)) hr3 (hK3.from (by omega) (.refl _ _ _)) rfl .id (λ_ h=>h) λts b v Γ4 H4 nx4 e4 h4 hk4 kp4 hv hr4 hK4=> ?_
 have ht4:=ht3.keep kp4
 refine⟨⟨⟨_,_,_,_,_,ht4.tok hk4,rfl⟩,trivial⟩,z6 hk4 hv hK4 λH5 nx5 h5 hk5 hn hw hK5=>⟨_,_,_,_,_,_,rfl,trivial,?_⟩⟩
 cases e4
 have:=ZF hk5 hr4 (hi1.keep (kp3.trans kp4)) hf hr.rex hw hn rfl hK5
 obtain⟨H6,e6,e7⟩:=this
 exact⟨H6,e6,trivial,e7⟩
theorem qg3{n:Nat}(ih:IH C.l C.r C.tb n)(hd:d<=40)(hrun:Ps.run C.l n .ifs d a=some res)(hk:HZ Z Γ H nx)(hr:Rd Γ C a d)(hK:z7 Z K Γ nx C d res (zM C.ex)):qk PG QC [.ptr C.r 0] H nx K:=by
 refine qk.of_body qr ?_
 rw [Wy];refine jX hk hr hK λΓ1 H1 hk1 hr1 hi1 hf hK1 kp1=> ?_
 refine kN (C:=C.add nx) (λZ ex res Γ H nx K h=>ih.ifs d hd Z ex a res Γ H nx K h) hrun hk1 hr1 hK1 rfl .id (λ_ h=>h) λt b kk s n li co w Γ2 H2 nx2 e1 e2 h2 hk2 kp2 hw hn hr2 hK2=>⟨_,_,_,_,_,_,rfl,?_⟩
 exact ZF hk2 hr2 (hi1.keep kp2) hf hr.rex hw hn e2 hK2
theorem qin(W:zj C.l)(ih:IH C.l C.r C.tb n)(hd:d<=40)(hrun:Ps.run C.l (n+1) .field d a=some res)(hk:HZ Z Γ H nx)(hr:Rd Γ C a d)(hK:z7 Z K Γ nx C d res (zM C.ex)):qk PG wD [.ptr C.r 0] H nx K:=by
 refine qk.of_body qr ?_
 rw [Xz];simp only [Ps.run]at hrun
 refine jX hk hr hK λΓ1 H1 hk1 hr1 hi1 hf hK1 kp1=> ?_
 refine jY (C:=C.add nx) W hrun hk1 hr1 hK1 rfl .id (λ_ h=>h) λΓ2 H2 nx2 hkd e2 h2 hk2 kp2 hr2 hK2=>⟨_,_,_,_,_,rfl,?_⟩
 refine vv (C:=C.add nx) hk2 hr2 hK2 rfl λΓ3 H3 hk3 hr3 ht3 kp3 hK3=> ?_
 refine⟨_,_,_,_,_,ht3.tok hk3,_,rfl,_,ht3.ld hk3 1,⟨⟨_,_,_,_,_,ht3.tok hk3,rfl⟩,⟨_,ht3.ld hk3 1,rfl⟩,trivial⟩,?_⟩
 obtain⟨hk3',hni⟩:=jx (i:=nx2+1+5) (nx':=nx2+1+8) hk3 (by omega) (by omega)
 refine qR (C:=C.add nx) (λZ ex res Γ H nx K h=>ih.typ d hd Z ex (a+1) res Γ H nx K h) e2 hk3' hr3 (hK3.from (by omega) (.refl _ _ _)) rfl .id wg λt b kk s n li co w Γ4 H4 nx4 e3 e4 h4 hk4 kp4 hw hn hr4 hK4=>⟨_,_,_,_,_,_,rfl,?_⟩
 refine jw (C:=C.add nx) hk4 hni hr4 hK4 rfl (by omega) λΓ5 H5 hk5 hr5 hb5 hx5 kp5 hK5=> ?_
 have ht5:=(ht3.keep kp4).keep kp5
 refine⟨⟨⟨_,_,_,_,_,ht5.tok hk5,rfl⟩,⟨_,ht5.ld hk5 1,rfl⟩,trivial⟩,?_⟩
 refine z6 (C:=C.add nx) hk5 (.blk hx5 hb5.e (hn.keep hr5.rex kp5).one rfl) hK5 λH6 nx6 h6 hk6 hn6 hw6 hK6=>⟨_,_,_,_,_,_,rfl,trivial,?_⟩
 cases e4
 obtain⟨H7,e6,e7⟩:=ZF hk6 hr5 ((((hi1.keep kp2).keep kp3).keep kp4).keep kp5) hf hr.rex hw6 hn6 rfl hK6
 exact⟨H7,e6,trivial,e7⟩
theorem qgu(W:zj C.l)(ih:IH C.l C.r C.tb n)(hd:d<=40)(hrun:Ps.run C.l (n+1) .param d a=some res)(hk:HZ Z Γ H nx)(hr:Rd Γ C a d)(hK:z7 Z K Γ nx C d res (zM C.ex)):qk PG wV [.ptr C.r 0] H nx K:=by
 refine qk.of_body qr ?_
 rw [XJ];simp only [Ps.run]at hrun
 refine jX hk hr hK λΓ1 H1 hk1 hr1 hi1 hf hK1 kp1=> ?_
 refine jY (C:=C.add nx) W hrun hk1 hr1 hK1 rfl .id (λ_ h=>h) λΓ2 H2 nx2 hkd e2 h2 hk2 kp2 hr2 hK2=>⟨_,_,_,_,_,rfl,?_⟩
 refine vv (C:=C.add nx) hk2 hr2 hK2 rfl λΓ3 H3 hk3 hr3 ht3 kp3 hK3=> ?_
 refine⟨_,_,_,_,_,ht3.tok hk3,_,rfl,_,ht3.ld hk3 1,⟨⟨_,_,_,_,_,ht3.tok hk3,rfl⟩,⟨_,ht3.ld hk3 1,rfl⟩,trivial⟩,?_⟩
 obtain⟨hk3',hni⟩:=jx (i:=nx2+1+5) (nx':=nx2+1+8) hk3 (by omega) (by omega)
 refine qR (C:=C.add nx) (λZ ex res Γ H nx K h=>ih.typ d hd Z ex (a+1) res Γ H nx K h) e2 hk3' hr3 (hK3.from (by omega) (.refl _ _ _)) rfl .id wg λt b kk s n li co w Γ4 H4 nx4 e3 e4 h4 hk4 kp4 hw hn hr4 hK4=>⟨_,_,_,_,_,_,rfl,?_⟩
 refine jw (C:=C.add nx) hk4 hni hr4 hK4 rfl (by omega) λΓ5 H5 hk5 hr5 hb5 hx5 kp5 hK5=> ?_
 have ht5:=(ht3.keep kp4).keep kp5
 refine⟨⟨⟨_,_,_,_,_,ht5.tok hk5,rfl⟩,⟨_,ht5.ld hk5 1,rfl⟩,trivial⟩,?_⟩
 refine z6 (C:=C.add nx) hk5 (.blk hx5 hb5.e (hn.keep hr5.rex kp5).one rfl) hK5 λH6 nx6 h6 hk6 hn6 hw6 hK6=>⟨_,_,_,_,_,_,rfl,trivial,?_⟩
 cases e4
 obtain⟨H7,e6,e7⟩:=ZF hk6 hr5 ((((hi1.keep kp2).keep kp3).keep kp4).keep kp5) hf hr.rex hw6 hn6 rfl hK6
 exact⟨H7,e6,trivial,e7⟩
end
theorem qH{b:Bool}{p q:Prop}(h:b=false)(hq:q):ifB b p q:=by rw [h];exact hq
theorem qK{b:Bool}{p q:Prop}(h:b=true)(hq:p):ifB b p q:=by rw [h];exact hq
theorem qdt{α:Type}{p q:Bool}{x y:α}:(if(p||q)=true then x else y)=(if p=true then x else if q=true then x else y):=by cases p<;>cases q<;>rfl
theorem YK{α:Type}{l:List Tok}{a:Nat}{x y:α}:(if Ps.isTyp l a=true then x else y)=(if Ps.is l a Ps.wInt=true then x else if Ps.is l a Ps.wBool=true then x else if Ps.is l a Ps.wString=true then x else y):=by
 unfold Ps.isTyp;rw [qdt];cases h:Ps.is l a Ps.wInt<;>cases h2:Ps.is l a Ps.wBool<;>simp [h,h2]
section
variable{Γ0 Γ:GH}{n0:Nat}{H:qd}{nx a d n i:Nat}{C:RC}{K:qv}{res:Except Flt (qu×Nat)}
theorem Z7{Cb:RC}{kk nn li co:Int}{s:List UInt8}{w:qa}{t:qu}{b d:Nat}(hk:HZ Z Γ H nx)(hr:Rd Γ (Cb.add i) b (d+1))(hi:Res Γ Cb i)(h0:Γ0 i=none/\n0<=i)(hrex:Cb.ex Cb.r)(hw:qI w=true)
  (hn:zy (Cb.add i).ex Γ [iv kk,.str s,iv nn,iv li,iv co,w] t) (e:res= .ok (t,b)) (hK:Owe Z K Γ0 n0 Γ nx Cb d res (zM Cb.ex)):
  ∃H1,stC H (.ptr i 0) [iv kk,.str s,iv nn,iv li,iv co,w]=some H1/\qS PG (qB PG) [.cell (.ptr i 0) qG] [(jB,[.ptr Cb.r 0])] .returning H1 nx λe H' nx'=>K e H' nx':=by
 obtain⟨cs,e0,hl⟩:=hi.e
 refine jj hk e0 (by simp [hl]) (by simp only [qq,hw];rfl) λH1 h1=> ?_
 refine qop (C:=Cb) (a:=b) (d:=d) h1 ((hr.upd hi.nr hi.nt).less hrex) (qf _ _ _) hi.nr λΓ2 H2 h2 k2 hr2=> ?_
 have hn1:zy Cb.ex (gup i (some [iv kk,.str s,iv nn,iv li,iv co,w]) Γ) [iv kk,.str s,iv nn,iv li,iv co,w] t:=hn.mono (λ_ h=> .inr h) λc ds hc e=>by rw [qg λx=>hc (.inl x)];exact e
 exact((hK.upd h0.1 h0.2).from lR k2).ret e h2 (hn1.keep hrex k2).v hr2
theorem qhc{s:List UInt8}(W:zj C.l)(ih:IH C.l C.r C.tb n)(hd:d<=40)(hrun:(if Ps.is C.l a s=true then Ps.run C.l n .expr d (a+1)else Rs.ok (Ps.none_,a))=some res)(hk:HZ Z Γ H nx)(hr:Rd Γ C a d)(hK:z7 Z K Γ nx C d res (zM C.ex)):
  qk PG ZC [.ptr C.r 0,.str s] H nx K:=by
 refine qk.of_body qr ?_
 rw [XS];refine jX hk hr hK λΓ1 H1 hk1 hr1 hi1 hf hK1 kp1=> ?_
 refine zi (C:=C.add nx) W hrun hk1 hr1 hK1 rfl (λ_ h=>h) (λΓ2 H2 nx2 his e2 h2 hk2 kp2 hr2 hK2=>⟨_,rfl,qH rfl ?_⟩) (λH2 nx2 his e2 h2 hk2 hK2=>⟨_,rfl,qK rfl ?_⟩)
 ·refine kN (C:=C.add nx) (λZ ex res Γ H nx K h=>ih.expr d hd Z ex (a+1) res Γ H nx K h) e2 hk2 hr2 hK2 rfl .id (λ_ h=>h) λt b kk s n li co w Γ3 H3 nx3 e3 e4 h3 hk3 kp3 hw hn hr3 hK3=>⟨_,_,_,_,_,_,rfl,?_⟩
  exact ZF hk3 hr3 ((hi1.keep kp2).keep kp3) hf hr.rex hw hn e4 hK3
 ·refine vB (C:=C.add nx) hk2 hK2 λH3 nx3 h3 hk3 hn hK3=>⟨_,_,_,_,_,_,rfl,?_⟩
  cases e2
  exact ZF hk3 hr1 hi1 hf hr.rex rfl hn rfl hK3
theorem ql8(W:zj C.l)(ih:IH C.l C.r C.tb n)(hd:d<=40)(hrun:Ps.run C.l (n+1) .expr d a=some res)(hk:HZ Z Γ H nx)(hr:Rd Γ C a d)(hK:z7 Z K Γ nx C d res (zM C.ex)):qk PG je [.ptr C.r 0] H nx K:=by
 refine qk.of_body qr ?_
 rw [Y5];simp only [Ps.run]at hrun
 refine jX hk hr hK λΓ1 H1 hk1 hr1 hi1 hf hK1 kp1=> ?_
 refine Ve (C:=C.add nx) hk1 hr1 hd (λh Γ2 H2 nx2 h2 hk2 kp2 hr2=>zN.2 ?_) (λh Γ2 H2 nx2 h2 hk2 kp2 hr2=>qb.2 ?_)
 ·rw [if_pos h]at hrun;cases hrun
  exact(hK1.from h2 kp2).pan rfl hk2 hr2.p
 ·rw [if_neg h]at hrun;refine kN (C:=C.add nx) (λZ ex res Γ H nx K h=>ih.binary 1 (d+1) (by omega) Z ex a res Γ H nx K h) hrun hk2 hr2 (hK1.from h2 kp2) rfl .lv (λ_ h=>h) λt b kk s n li co w Γ3 H3 nx3 e3 e4 h3 hk3 kp3 hw hn hr3 hK3=>⟨_,_,_,_,_,_,rfl,?_⟩
  exact Z7 hk3 hr3 ((hi1.keep kp2).keep kp3) hf hr.rex hw hn e4 hK3
theorem Jt(W:zj C.l)(ih:IH C.l C.r C.tb n)(hd:d<=40)(hrun:(if((Ps.tk C.l a).kind==2||Ps.isTyp C.l a||Ps.is C.l a [91])=true then Ps.run C.l n .typ d a else Rs.ok (Ps.none_,a))=some res)
  (hk:HZ Z Γ H nx) (hr:Rd Γ C a d) (hK:z7 Z K Γ nx C d res (zM C.ex)):qk PG vX [.ptr C.r 0] H nx K:=by
 refine qk.of_body qr ?_
 rw [Wn];refine jX hk hr hK λΓ1 H1 hk1 hr1 hi1 hf hK1 kp1=> ?_
 refine kH (C:=C.add nx) hk1 hr1 hK1 λH2 nx2 h2 hk2 hK2=>⟨_,_,_,_,_,rfl,?_⟩
 refine vv (C:=C.add nx) hk2 hr1 hK2 rfl λΓ3 H3 hk3 hr3 ht3 kp3 hK3=> ?_
 refine⟨_,rfl,_,ht3.ld hk3 0,?_⟩
 have last:∀{H5 nx5},nx2+1<=nx5->HZ Z Γ3 H5 nx5->Ps.run C.l n .typ d a=some res->Owe Z K Γ nx Γ3 nx5 C d res (zM C.ex)->qk PG jJ [.ptr C.r 0] H5 nx5 λe14 H15 i16=>qc e14 (λv17=>∃(n18:Int) (s19:List UInt8) (n20 n21 n22:Int) (v23:qa),v17=u4 [iv n18,u3 s19,iv n20,iv n21,iv n22,v23]/\∃H24,stC H15 (u0 nx 0) [iv n18,u3 s19,iv n20,
   iv n21,iv n22,v23]=some H24/\∃(n25:Int) (s26:List UInt8) (n27 n28 n29:Int) (v30:qa),ldN H24 6 (u0 nx 0)=some (u4 [iv n25,u3 s26,iv n27,iv n28,iv n29,v30])/\K (U1 (u4
   [iv n25,u3 s26,iv n27,iv n28,iv n29,v30])) H24 i16) λl31=>K (U0 l31) H15 i16:=λh5 hk5 e5 hK5=>by
  refine kN (C:=C.add nx) (λZ ex res Γ H nx K h=>ih.typ d hd Z ex a res Γ H nx K h) e5 hk5 hr3 hK5 rfl .id (λ_ h=>h) λt b kk s n li co w Γ6 H6 nx6 e3 e4 h6 hk6 kp6 hw hn hr6 hK6=>⟨_,_,_,_,_,_,rfl,?_⟩
  exact ZF hk6 hr6 ((hi1.keep kp3).keep kp6) hf hr.rex hw hn e4 hK6
 refine qi.2 ⟨λh=> ?_,λh=> ?_⟩
 ·have h:(Ps.tk C.l a).kind=2:=by simpa using h
  exact last lR hk3 (by simpa [h]using hrun) hK3
 ·have h:((Ps.tk C.l a).kind==2)=false:=by simpa using h
  rw [h,Bool.false_or,qdt,YK]at hrun;refine kz (C:=C.add nx) (s:=Ps.wInt) hk3 hr3 hK3 λH4 nx4 h4 hk4 hK4=>⟨_,rfl,qi.2 ⟨λh1=> ?_,λh1=> ?_⟩⟩
  ·exact last h4 hk4 (by rw [show Ps.is C.l a Ps.wInt=true from h1]at hrun;simpa using hrun) hK4
  rw [show Ps.is C.l a Ps.wInt=false from h1]at hrun;refine kz (C:=C.add nx) (s:=Ps.wBool) hk4 hr3 hK4 λH5 nx5 h5 hk5 hK5=>⟨_,rfl,qi.2 ⟨λh2=> ?_,λh2=> ?_⟩⟩
  ·exact last (by omega) hk5 (by rw [show Ps.is C.l a Ps.wBool=true from h2]at hrun;simpa using hrun) hK5
  rw [show Ps.is C.l a Ps.wBool=false from h2]at hrun;refine kz (C:=C.add nx) (s:=Ps.wString) hk5 hr3 hK5 λH6 nx6 h6 hk6 hK6=>⟨_,rfl,qi.2 ⟨λh3=> ?_,λh3=> ?_⟩⟩
  ·exact last (by omega) hk6 (by rw [show Ps.is C.l a Ps.wString=true from h3]at hrun;simpa using hrun) hK6
  rw [show Ps.is C.l a Ps.wString=false from h3]at hrun;refine kz (C:=C.add nx) (s:=[91]) hk6 hr3 hK6 λH7 nx7 h7 hk7 hK7=>⟨_,rfl,qi.2 ⟨λh4=> ?_,λh4=> ?_⟩⟩
  ·exact last (by omega) hk7 (by rw [show Ps.is C.l a [91]=true from h4]at hrun;simpa using hrun) hK7
  rw [show Ps.is C.l a [91]=false from h4]at hrun;refine vB (C:=C.add nx) hk7 hK7 λH8 nx8 h8 hk8 hn hK8=>⟨_,_,_,_,_,_,rfl,?_⟩
  have e:res= .ok (Ps.none_,a):=by simp [Rs.ok]at hrun;exact hrun.symm
  exact ZF hk8 hr3 (hi1.keep kp3) hf hr.rex rfl hn e hK8
theorem qo2(W:zj C.l)(ih:IH C.l C.r C.tb n)(hd:d<=40)(hrun:Ps.run C.l (n+1) .typ d a=some res)(hk:HZ Z Γ H nx)(hr:Rd Γ C a d)(hK:z7 Z K Γ nx C d res (zM C.ex)):qk PG jJ [.ptr C.r 0] H nx K:=by
 refine qk.of_body qr ?_
 rw [qbz];simp only [Ps.run,YK]at hrun
 refine jX hk hr hK λΓ1 H1 hk1 hr1 hi1 hf hK1 kp1=> ?_
 refine Ve (C:=C.add nx) hk1 hr1 hd (λh Γ2 H2 nx2 h2 hk2 kp2 hr2=>zN.2 ?_) (λh Γ2 H2 nx2 h2 hk2 kp2 hr2=>qb.2 ?_)
 ·rw [if_pos h]at hrun;cases hrun
  exact(hK1.from h2 kp2).pan rfl hk2 hr2.p
 rw [if_neg h]at hrun;refine kH (C:=C.add nx) hk2 hr2 (hK1.from h2 kp2) λH3 nx3 h3 hk3 hK3=>⟨_,_,_,_,_,rfl,?_⟩
 refine vv (C:=C.add nx) hk3 hr2 hK3 rfl λΓ4 H4 hk4 hr4 ht4 kp4 hK4=> ?_
 have hi4:=(hi1.keep kp2).keep kp4
 refine zi (C:=C.add nx) W hrun hk4 hr4 hK4 rfl (λ_ h=>h) (λΓ5 H5 nx5 his e5 h5 hk5 kp5 hr5 hK5=>⟨_,rfl,qK rfl ?_⟩) (λH5 nx5 his e5 h5 hk5 hK5=>⟨_,rfl,qH rfl ?_⟩)
 ·refine zZ (C:=C.add nx) W e5 hk5 hr5 hK5 rfl .lv (λ_ h=>h) λΓ6 H6 nx6 his6 e6 h6 hk6 kp6 hr6 hK6=>⟨_,_,_,_,_,rfl,?_⟩
  have ht6:=(ht4.keep kp5).keep kp6
  refine⟨_,_,_,_,_,ht6.tok hk6,⟨⟨_,_,_,_,_,ht6.tok hk6,rfl⟩,trivial⟩,?_⟩
  obtain⟨hk6',hni⟩:=jx (i:=nx6+3) (nx':=nx6+6) hk6 (by omega) (by omega)
  refine qR (C:=C.add nx) (λZ ex res Γ H nx K h=>ih.typ (d+1) (by omega) Z ex _ res Γ H nx K h) e6 hk6' hr6 (hK6.from (by omega) (.refl _ _ _)) rfl .lv wg λt b kk s n li co w Γ7 H7 nx7 e7 e8 h7 hk7 kp7 hw hn hr7 hK7=>⟨_,_,_,_,_,_,rfl,?_⟩
  refine jw (C:=C.add nx) hk7 hni hr7 hK7 rfl (by omega) λΓ8 H8 hk8 hr8 hb8 hx8 kp8 hK8=> ?_
  have ht8:=(ht6.keep kp7).keep kp8
  refine⟨⟨⟨_,_,_,_,_,ht8.tok hk8,rfl⟩,trivial⟩,?_⟩
  refine z6 (C:=C.add nx) hk8 (.blk hx8 hb8.e (hn.keep hr8.rex kp8).one rfl) hK8 λH9 nx9 h9 hk9 hn9 hw9 hK9=>⟨_,_,_,_,_,_,rfl,trivial,?_⟩
  cases e8
  obtain⟨H10,q1,q2⟩:=Z7 hk9 hr8 ((((hi4.keep kp5).keep kp6).keep kp7).keep kp8) hf hr.rex hw9 hn9 rfl hK9
  exact⟨H10,q1,trivial,q2⟩
 have fin:∀{Γ6 H6 nx6},nx3+1<=nx6->HZ Z Γ6 H6 nx6->Rd Γ6 (C.add nx) (a+1) (d+1)->At Γ6 C.r nx3 (jd (Ps.tk C.l a))->Res Γ6 C nx->Owe Z K Γ nx Γ6 nx6 C d res (zM C.ex)->res= .ok (Ps.leaf (Ps.tk C.l a) 8 (Ps.tk C.l a).text,a+1)->
   qk PG qE [vz (Ps.tk C.l a),iv 8,u3 (Ps.tk C.l a).text,u6] H6 nx6 λe94 H95 i96=>qc e94 (λv97=>∃(n98:Int) (s99:List UInt8) (n100 n101 n102:Int) (v103:qa),v97=u4 [iv n98,u3 s99,iv
    n100,iv n101,iv n102,v103]/\∃H104,stC H95 (u0 nx 0) [iv n98,u3 s99,iv n100,iv n101,iv n102,v103]=some H104/\qS PG (qB PG) [zr.cell (u0 nx 0) qG] [(jB,
    [u0 C.r 0])] qA.returning H104 i96 λe105 H106 i107=>K e105 H106 i107) λl108=>qS PG (qB PG) [zr.cell (u0 nx 0) qG] [(jB,[u0 C.r 0])] (qA.panicking l108) H95
    i96 λe109 H110 i111=>K e109 H110 i111:=λh6 hk6 hr6 ht6 hi6 hK6 e6=>by
  refine z6 (C:=C.add nx) hk6 .nil hK6 λH9 nx9 h9 hk9 hn9 hw9 hK9=>⟨_,_,_,_,_,_,rfl,?_⟩
  exact Z7 hk9 hr6 hi6 hf hr.rex hw9 hn9 e6 hK9
 refine zi (C:=C.add nx) W e5 hk5 hr4 hK5 rfl (λ_ h=>h) (λΓ6 H6 nx6 his e6 h6 hk6 kp6 hr6 hK6=>⟨_,rfl,qK rfl ?_⟩) (λH6 nx6 his e6 h6 hk6 hK6=>⟨_,rfl,qH rfl ?_⟩)
 ·have ht6:=ht4.keep kp6
  cases e6
  exact⟨_,_,_,_,_,ht6.tok hk6,_,rfl,_,ht6.ld hk6 1,fin (by omega) hk6 hr6 ht6 (hi4.keep kp6) hK6 rfl⟩
 refine zi (C:=C.add nx) W e6 hk6 hr4 hK6 rfl (λ_ h=>h) (λΓ7 H7 nx7 his e7 h7 hk7 kp7 hr7 hK7=>⟨_,rfl,qK rfl ?_⟩) (λH7 nx7 his e7 h7 hk7 hK7=>⟨_,rfl,qH rfl ?_⟩)
 ·have ht7:=ht4.keep kp7
  cases e7
  exact⟨_,_,_,_,_,ht7.tok hk7,_,rfl,_,ht7.ld hk7 1,fin (by omega) hk7 hr7 ht7 (hi4.keep kp7) hK7 rfl⟩
 refine zi (C:=C.add nx) W e7 hk7 hr4 hK7 rfl (λ_ h=>h) (λΓ8 H8 nx8 his e8 h8 hk8 kp8 hr8 hK8=>⟨_,rfl,qK rfl ?_⟩) (λH8 nx8 his e8 h8 hk8 hK8=>⟨_,rfl,qH rfl ?_⟩)
 ·have ht8:=ht4.keep kp8
  cases e8
  exact⟨_,_,_,_,_,ht8.tok hk8,_,rfl,_,ht8.ld hk8 1,fin (by omega) hk8 hr8 ht8 (hi4.keep kp8) hK8 rfl⟩
 refine⟨_,rfl,_,ht4.ld hk8 1,⟨⟨_,ht4.ld hk8 1,rfl⟩,trivial⟩,?_⟩
 refine jY (C:=C.add nx) W e8 (hk8.more (by omega)) hr4 (hK8.from (by omega) (.refl _ _ _)) rfl .lv (λ_ h=>h) λΓ9 H9 nx9 hkd e9 h9 hk9 kp9 hr9 hK9=>⟨_,_,_,_,_,rfl,?_⟩
 have ht9:=ht4.keep kp9
 refine⟨⟨⟨_,ht9.ld hk9 1,rfl⟩,trivial⟩,?_⟩
 refine z6 (C:=C.add nx) hk9 .nil hK9 λH10 nx10 h10 hk10 hn10 hw10 hK10=>⟨_,_,_,_,_,_,rfl,trivial,?_⟩
 cases e9
 obtain⟨H11,q1,q2⟩:=Z7 hk10 hr9 (hi4.keep kp9) hf hr.rex hw10 hn10 rfl hK10
 exact⟨H11,q1,trivial,q2⟩
theorem qh5(W:zj C.l)(ih:IH C.l C.r C.tb n)(hd:d<=40)(hrun:Ps.run C.l (n+1) .unary d a=some res)(hk:HZ Z Γ H nx)(hr:Rd Γ C a d)(hK:z7 Z K Γ nx C d res (zM C.ex)):qk PG ve [.ptr C.r 0] H nx K:=by
 refine qk.of_body qr ?_
 rw [Yi];simp only [Ps.run,qdt]at hrun
 refine jX hk hr hK λΓ1 H1 hk1 hr1 hi1 hf hK1 kp1=> ?_
 refine kH (C:=C.add nx) hk1 hr1 hK1 λH3 nx3 h3 hk3 hK3=>⟨_,_,_,_,_,rfl,?_⟩
 refine vv (C:=C.add nx) hk3 hr1 hK3 rfl λΓ4 H4 hk4 hr4 ht4 kp4 hK4=> ?_
 have hi4:=hi1.keep kp4
 have one:∀{Γ5 H5 nx5},nx3+1<=nx5->HZ Z Γ5 H5 nx5->Rd Γ5 (C.add nx) (a+1) d->At Γ5 C.r nx3 (jd (Ps.tk C.l a))->Res Γ5 C nx->Owe Z K Γ nx Γ5 nx5 C d res (zM C.ex)->
   (Rs.bind (Ps.run C.l n .unary d (a+1)) λ(x,b)=>Rs.ok (Ps.mk (Ps.tk C.l a) 27 (Ps.tk C.l a).text [x],b))=some res->
   (∃(n17:Int) (s18:List UInt8) (n19 n20 n21:Int),ldN H5 5 (u0 nx3 0)=some (u4 [iv n17,u3 s18,iv n19,iv n20,iv n21])/\∃v22,some (u0 nx3 1)=some v22/\∃s23,ld1 H5 v22=some (u3 s23)/\((∃(n24:Int) (s25:List UInt8) (
    n26 n27 n28:Int),ldN H5 5 (u0 nx3 0)=some (u4 [iv n24,u3 s25,iv n26,iv n27,iv n28])/\u4 [iv n24,u3 s25,iv n26,iv n27,iv n28]=u4 [iv n17,
    u3 s18,iv n19,iv n20,iv n21])/\(∃s29,ld1 H5 v22=some (u3 s29)/\u3 s29=u3 s23)/\True)/\qk PG ve [u0 C.r 0] H5 (nx5+8) λe30 H31 i32=>
    qc e30 (λv33=>∃(n34:Int) (s35:List UInt8) (n36 n37 n38:Int) (v39:qa),v33=u4 [iv n34,u3 s35,iv n36,iv n37,iv n38,v39]/\∃H40,H40=qo (nx5+5) [iv n34,u3 s35,iv n36,iv
    n37,iv n38,v39] H31/\((∃(n41:Int) (s42:List UInt8) (n43 n44 n45:Int),ldN H40 5 (u0 nx3 0)=some (u4 [iv n41,u3 s42,iv n43,iv n44,iv n45])/\u4 [iv n41,u3 s42,iv n43,
    iv n44,iv n45]=u4 [iv n17,u3 s18,iv n19,iv n20,iv n21])/\(∃s46,ld1 H40 v22=some (u3 s46)/\u3 s46=u3 s23)/\True)/\qk PG qE [u4 [iv
    n17,u3 s18,iv n19,iv n20,iv n21],iv 27,u3 s23,qa.slice (nx5+5) 0 1 6 true] H40 i32 λe47 H48 i49=>qc e47 (λv50=>∃(n51:Int) (s52:List UInt8) (n53 n54 n55:Int) (v56:qa),v50=
    u4 [iv n51,u3 s52,iv n53,iv n54,iv n55,v56]/\True/\∃H57,stC H48 (u0 nx 0) [iv n51,u3 s52,iv n53,iv n54,iv n55,v56]=some H57/\True/\∃(n58:Int) (
    s59:List UInt8) (n60 n61 n62:Int) (v63:qa),ldN H57 6 (u0 nx 0)=some (u4 [iv n58,u3 s59,iv n60,iv n61,iv n62,v63])/\K (U1 (u4 [iv n58,u3 s59,iv n60,iv n61,
    iv n62,v63])) H57 i49) λl64=>K (U0 l64) H48 i49) λl65=>K (U0 l65) H31 i32):= @λΓ5 H5 nx5 h5 hk5 hr5 ht5 hi5 hK5 e5=>by
  refine⟨_,_,_,_,_,ht5.tok hk5,_,rfl,_,ht5.ld hk5 1,⟨⟨_,_,_,_,_,ht5.tok hk5,rfl⟩,⟨_,ht5.ld hk5 1,rfl⟩,trivial⟩,?_⟩
  obtain⟨hk5',hni⟩:=jx (i:=nx5+5) (nx':=nx5+8) hk5 (by omega) (by omega)
  refine qR (C:=C.add nx) (λZ ex res Γ H nx K h=>ih.unary d hd Z ex (a+1) res Γ H nx K h) e5 hk5' hr5 (hK5.from (by omega) (.refl _ _ _)) rfl .id wg λt b kk s n li co w Γ7 H7 nx7 e7 e8 h7 hk7 kp7 hw hn hr7 hK7=>⟨_,_,_,_,_,_,rfl,?_⟩
  refine jw (C:=C.add nx) hk7 hni hr7 hK7 rfl (by omega) λΓ8 H8 hk8 hr8 hb8 hx8 kp8 hK8=> ?_
  have ht8:=(ht5.keep kp7).keep kp8
  refine⟨⟨⟨_,_,_,_,_,ht8.tok hk8,rfl⟩,⟨_,ht8.ld hk8 1,rfl⟩,trivial⟩,?_⟩
  refine z6 (C:=C.add nx) hk8 (.blk hx8 hb8.e (hn.keep hr8.rex kp8).one rfl) hK8 λH9 nx9 h9 hk9 hn9 hw9 hK9=>⟨_,_,_,_,_,_,rfl,trivial,?_⟩
  cases e8
  obtain⟨H10,q1,q2⟩:=ZF hk9 hr8 ((hi5.keep kp7).keep kp8) hf hr.rex hw9 hn9 rfl hK9
  exact⟨H10,q1,trivial,q2⟩
 refine zi (C:=C.add nx) W hrun hk4 hr4 hK4 rfl (λ_ h=>h) (λΓ5 H5 nx5 his e5 h5 hk5 kp5 hr5 hK5=>⟨_,rfl,qK rfl ?_⟩) (λH5 nx5 his e5 h5 hk5 hK5=>⟨_,rfl,qH rfl ?_⟩)
 ·exact one (by omega) hk5 hr5 (ht4.keep kp5) (hi4.keep kp5) hK5 e5
 refine zi (C:=C.add nx) W e5 hk5 hr4 hK5 rfl (λ_ h=>h) (λΓ6 H6 nx6 his e6 h6 hk6 kp6 hr6 hK6=>⟨_,rfl,qK rfl ?_⟩) (λH6 nx6 his e6 h6 hk6 hK6=>⟨_,rfl,qH rfl ?_⟩)
 ·exact one (by omega) hk6 hr6 (ht4.keep kp6) (hi4.keep kp6) hK6 e6
 refine kN (C:=C.add nx) (λZ ex res Γ H nx K h=>ih.post d hd Z ex a res Γ H nx K h) e6 hk6 hr4 hK6 rfl .id (λ_ h=>h) λt b kk s n li co w Γ7 H7 nx7 e3 e4 h7 hk7 kp7 hw hn hr7 hK7=>⟨_,_,_,_,_,_,rfl,?_⟩
 exact ZF hk7 hr7 (hi4.keep kp7) hf hr.rex hw hn e4 hK7
end
theorem qlk(call:zA)(lp:Nat->jk)(lv:zU)(lvc:zT)(r g:Nat)(fs cs:List qa)(v o:qa)(H:qd)(nx:Nat)(K:qv):
  qx PG call (lp 22) 22 (qe PG vw) [1,1,1,1,0] (qy PG lv lvc K (qF PG vw)) .ret (qj .und [(0,.ptr r 0),(1,.func (.func g) fs cs),(4,v),(5,o)]) H nx [] none=K (.ret v) H nx:=by kernel_rfl
theorem Xn{l:List Tok}{one:Nat->Rs (qu×Nat)}(ho:Ps.AdvOK one):∀n a xs b,Ps.rowGo l one n a=some (.ok (xs,b))->xs.length+a<=b
 |0,_,_,_,h=>by simp [Ps.rowGo]at h
 |n+1,a,xs,b,h=>by
  unfold Ps.rowGo at h;refine Ps.bind_el h λx c h1 h=> ?_
  have:=ho _ _ _ h1
  refine Ps.ite_el h (λ_ h=>Ps.bind_el h λys g h3 h=>Ps.ok_el h λh4 h5=> ?_) λ_ h=>Ps.lift_el h λe h2 h=>Ps.ok_el h λh4 h5=> ?_
  ·have:=Xn ho n _ _ _ h3
   subst h4 h5;simp;omega
  ·have:=Ps.need_ok h2
   subst h4 h5;simp;omega
section
variable{Γ0 Γ:GH}{n0:Nat}{H:qd}{nx a d n i:Nat}{C:RC}{K:qv}
theorem qhd{g:FuncId}{one:Nat->Rs (qu×Nat)}{n:Nat}{res:Except Flt (List qu×Nat)}(W:zj C.l)(hadv1:Ps.AdvOK one)(hg:jO PG (.func (.func g) [.ptr C.r 0] []) []=some (g,[.ptr C.r 0]))(hone:kn C.l C.r C.tb d g one)
  (hrun:Ps.row C.l one n a=some res) (hk:HZ Z Γ H nx) (hr:Rd Γ C a d) (hK:z7 Z K Γ nx C d res (qZ C.ex)):qk PG vw [.ptr C.r 0,.func (.func g) [.ptr C.r 0] []] H nx K:=by
 refine qk.of_body qr ?_
 rw [qde];unfold Ps.row at hrun;refine yN W hk hr (λh H1 nx1 h1 hk1=>zN.2 (hK.2 _ _ _ _ ?_ h1 hk1 (.refl _ _ _) hr.p)) λh Γ1 H1 nx1 h1 hk1 kp1 hr1=>qb.2 ⟨_,_,_,_,_,rfl,?_⟩
 ·simp [Ps.need,h,Ps.lift]at hrun;exact hrun.symm
 have hrun:(if Ps.is C.l (a+1) [41]=true then Rs.ok ([],a+1+1)else Ps.rowGo C.l one n (a+1))=some res:=by simpa [Ps.need,h,Ps.lift]using hrun
 refine JR W hk1 hr1 (λh5 H2 nx2 h2 hk2=>qb.2 ⟨_,rfl,qH rfl ?_⟩) λh5 Γ2 H2 nx2 h2 hk2 kp2 hr2=>qb.2 ⟨_,rfl,qK rfl ?_⟩
 ·have hrun:Ps.rowGo C.l one n (a+1)=some res:=by simpa [h5]using hrun
  have hK2:=hK.from (by omega:nx<=nx2) kp1.le
  refine zu (P:=PG) (X:=qa) (Y:=Unit) (λo=>qj .und [(0,.ptr C.r 0),(1,.func (.func g) [.ptr C.r 0] []),(5,o)]) (λ_=>qj .und [])
   (λm o H3 nx3=>nx2<=nx3/\∃Γ3 Γ4 ts b res',HZ Z Γ4 H3 nx3/\qQ C.r nx2 Γ1 Γ3/\Rd Γ3 C b d/\yO C nx2 Γ3 Γ4 o ts/\ts.length<=b/\Ps.rowGo C.l one m b=some res'/\res=(match res' with| .ok (xs,c)=> .ok (ts++xs,c)| .error f=> .error f))
   (λid _ H3 nx3=>False) n .nilSlice (ql.okay)
   ⟨Nat.le_refl _,Γ1,Γ1,[],_,res,hk2,.refl _ _ _,hr1,.inl ⟨rfl,rfl,rfl⟩,by simp,hrun,by cases res<;>rfl⟩ ?_ ?_
  ·rintro m o H3 nx3 ⟨h3,Γ3,Γ4,ts,b,res',hk4,kp3,hr3,gr,hts,hgo,hres⟩
   refine WpP.trim (ts:=[0,1,4,5]) (WpP.weaken (e:=qj .und [(5,o),(1,.func (.func g) [.ptr C.r 0] []),(0,.ptr C.r 0)]) (ql.okay) (WpP.of_vK qr ?_))
   rw [qka];cases m with
   |zero=>simp [Ps.rowGo]at hgo
   |succ m=>
   unfold Ps.rowGo at hgo;refine⟨_,_,hg,?_⟩
   rcases Ps.bind_some hgo with⟨f,e1,e2⟩|⟨⟨x,c⟩,e1,hgo⟩
   ·refine hone.on (C.own_l o) (C.own_r o) (C.own_tb o) e1 hk4 (gr.rd hr3) (.on (λx b v Γ' H' nx' e=>by cases e) λf' Γ' H' nx' e g1 g2 g3 g4=> ?_)
    cases e
    subst e2;rw [C.own_r]at g3 g4;exact hK2.2 f _ _ _ hres (by omega) g2 ((kp3.trans gr.keep).trans g3) g4
   ·refine hone.on (C.own_l o) (C.own_r o) (C.own_tb o) e1 hk4 (gr.rd hr3) (.on (λx' b' v Γ6 H6 nx6 e g1 g2 g3 g4 g5=> ?_) λf' Γ' H' nx' e=>by cases e)
    cases e
    obtain⟨k,s,nn,li,co,w,rfl,hw,hn⟩:=g4.cells
    rw [C.own_r]at g3;have hf6:=g2.fresh (Nat.le_refl nx6)
    refine⟨_,_,_,_,_,_,rfl,kO g2 (nx':=nx6+1) lR (by omega) λH7 g7=> ?_⟩
    have hn7:zy (C.own o).ex (gup nx6 (some [iv k,.str s,iv nn,iv li,iv co,w]) Γ6) [iv k,.str s,iv nn,iv li,iv co,w] x:=hn.mono (λ_ h=>h) λc ds _ e=>by rw [qg λx=>by rw [x,hf6]at e;cases e];exact e
    have hr7:Rd (gup nx6 (some [iv k,.str s,iv nn,iv li,iv co,w]) Γ6) (C.own o) c d:=g5.new hf6
    have hcl:=hr7.lt
    have hWf:=W.few
    rw [C.own_l]at hcl;have hadv:=hr3.lt
    obtain⟨v,H8,nx8,Γ8,Γ9,a1,a2,a3,a4,a5,a6⟩:=gr.more hr3 g7 (g3.trans (.new (nx:=nx6) hf6)) (by omega) (by omega) hr7 hn7 (by omega)
    refine⟨1,[iv k,.str s,iv nn,iv li,iv co,w],?_,by simp only [qq,hw];rfl,v,H8,nx8,a1,?_⟩
    ·rw [g7.src (qf _ _ _) (by simp)];simp
    have hr9:=a6.rd' a5
    have ha1:=hadv1 _ _ _ e1
    refine JR W a3 hr9 (λh9 H10 nx10 g10 hk10=>qb.2 ⟨_,rfl,qK rfl ?_⟩) λh9 Γ10 H10 nx10 g10 hk10 kp10 hr10=>qb.2 ⟨_,rfl,qH rfl ?_⟩
    ·have hgo:Ps.lift (Ps.need C.l c [41]) (λc=>Rs.ok ([x],c))=some res':=by simpa [h9]using hgo
     refine yN W hk10 hr9 (λh11 H11 nx11 g11 hk11=>zN.2 ?_) λh11 Γ11 H11 nx11 g11 hk11 kp11 hr11=>qb.2 ⟨_,_,_,_,_,rfl,?_⟩
     ·have:res'= .error (Ps.flt C.l c 13):=by simp [Ps.need,h11,Ps.lift]at hgo;exact hgo.symm
      subst this;exact hK2.2 _ _ _ _ hres (by omega) hk11 ((kp3.trans a4).trans a6.keep) hr9.p
     ·have:res'= .ok ([x],c+1):=by simp [Ps.need,h11,Ps.lift,Rs.ok]at hgo;exact hgo.symm
      subst this;refine Eq.mpr (qlk (qk PG) (LpP PG) (zx (qB PG)) (qS PG (qB PG)) C.r g [.ptr C.r 0] [] v v H11 nx11 K) ?_
      exact hK2.1 _ _ _ _ _ _ hres (by omega) hk11 (((kp3.trans a4).trans a6.keep).trans kp11.le) ((a6.v a5).keep a5.rex kp11) hr11
    ·have hgo:Rs.bind (Ps.rowGo C.l one m (c+1)) (λ(xs,e)=>Rs.ok (x::xs,e))=some res':=by simpa [h9]using hgo
     obtain⟨Γ11,b1,b2,b3⟩:=a6.next a5 kp10 (by omega) hr10
     rcases Ps.bind_some hgo with⟨f,e4,e5⟩|⟨⟨xs,c2⟩,e4,e5⟩
     ·exact⟨rfl,m,v,Nat.lt_succ_self m,ql.okay,by omega,Γ11,Γ10,ts++[x],c+1,_,hk10,(kp3.trans a4).trans b2,b3,b1,by simp;omega,e4,by rw [hres,e5]⟩
     ·refine⟨rfl,m,v,Nat.lt_succ_self m,ql.okay,by omega,Γ11,Γ10,ts++[x],c+1,_,hk10,(kp3.trans a4).trans b2,b3,b1,by simp;omega,e4,?_⟩
      cases e5
      rw [hres];simp
  ·rintro id o H3 nx3 hx
   exact hx.elim
 ·rw [h5]at hrun;have e:res= .ok ([],a+1+1):=by simp [Rs.ok]at hrun;exact hrun.symm
  exact hK.1 [] _ _ _ _ _ e (by omega) hk2 ((kp1.trans kp2).le) .nil hr2
theorem QQ{β:Type}{V:GH->qa->β->Prop}{res:Except Flt (β×Nat)}{rK:qa->qd->Nat->Prop}{pK:List (qa×Bool)->qd->Nat->Prop}{g:FuncId}{n:Nat}{one:Nat->Rs (qu×Nat)}{k:List qu×Nat->Rs (β×Nat)}{Cb:RC}{db:Nat}(W:zj C.l)(hadv:Ps.AdvOK one)(hg:jO PG (.func (.func g) [.ptr C.r 0] []) []=some (g,[.ptr C.r 0]))
  (hone:kn C.l C.r C.tb d g one) (hrun:Rs.bind (Ps.row C.l one n a) k=some res) {Zc:Nat->Prop} (hk:HZ Zc Γ H nx) (hr:Rd Γ C a d) (hK:Owe Z K Γ0 n0 Γ nx Cb db res V) (hb:Cb.r=C.r) (hp:vV Z K Cb.r pK) (hz:∀b,Z b->Zc b)
  (hok:∀ts b v Γ' H' nx',Ps.row C.l one n a=some (.ok (ts,b))->k (ts,b)=some res->nx<=nx'->HZ Zc Γ' H' nx'->qQ C.r nx Γ Γ'->qZ C.ex Γ' v ts->Rd Γ' C b d->Owe Z K Γ0 n0 Γ' nx' Cb db res V->rK v H' nx'):
  qk PG vw [.ptr C.r 0,.func (.func g) [.ptr C.r 0] []] H nx λe H' nx'=>qc e (λv=>rK v H' nx') λl=>pK l H' nx':=by
 rcases Ps.bind_some hrun with⟨f,e1,e2⟩|⟨⟨t,b⟩,e1,e2⟩
 ·refine qhd W hadv hg hone e1 hk hr (.on (λx b v Γ' H' nx' e=>by cases e) λf' Γ' H' nx' e g1 g2 g3 g4=> ?_)
  cases e
  rw [<-hb]at g3 g4;exact hp.of (hK.from g1 g3) e2 (g2.less hz) g4
 ·refine qhd W hadv hg hone e1 hk hr (.on (λx b' v Γ' H' nx' e g1 g2 g3 g4 g5=> ?_) λf' Γ' H' nx' e=>by cases e)
  cases e
  exact hok _ _ _ _ _ _ e1 e2 g1 g2 g3 g4 g5 (hK.from g1 (by rw [hb];exact g3))
theorem qbf{g:FuncId}{one:Nat->Rs (qu×Nat)}{res:Except Flt (qu×Nat)}(W:zj C.l)(hg:jO PG (.func (.func g) [.ptr C.r 0] []) []=some (g,[.ptr C.r 0]))(hone:kn C.l C.r C.tb d g one)
  (hrun:(Ps.lift (Ps.need C.l a [40]) λb=>Rs.bind (one b) λ(x,c)=>Ps.lift (Ps.need C.l c [41]) λe=>Rs.ok (x,e))=some res) (hk:HZ Z Γ H nx) (hr:Rd Γ C a d) (hK:z7 Z K Γ nx C d res (zM C.ex)):
  qk PG QT [.ptr C.r 0,.func (.func g) [.ptr C.r 0] []] H nx K:=by
 refine qk.of_body qr ?_
 rw [qce];refine jX hk hr hK λΓ1 H1 hk1 hr1 hi1 hf hK1 kp1=> ?_
 refine zZ (C:=C.add nx) W hrun hk1 hr1 hK1 rfl .id (λ_ h=>h) λΓ2 H2 nx2 his2 e2 h2 hk2 kp2 hr2 hK2=>⟨_,_,_,_,_,rfl,_,_,hg,?_⟩
 refine qR (C:=C.add nx) (λZ ex res Γ H nx K h=>hone Z ex _ res Γ H nx K h) e2 hk2 hr2 hK2 rfl .id (λ_ h=>h) λt b kk s n li co w Γ3 H3 nx3 e3 e4 h3 hk3 kp3 hw hn hr3 hK3=>⟨_,_,_,_,_,_,rfl,?_⟩
 refine kv (C:=C.add nx) hk3 hr3 hw hK3 rfl λΓ4 H4 hk4 hr4 hb4 kp4 hK4=> ?_
 refine zZ (C:=C.add nx) W e4 hk4 hr4 hK4 rfl .id (λ_ h=>h) λΓ5 H5 nx5 his5 e5 h5 hk5 kp5 hr5 hK5=>⟨_,_,_,_,_,rfl,_,_,_,_,_,_,ldAll hk5 (hb4.keep kp5).e rfl,?_⟩
 cases e5
 exact ZF hk5 hr5 ((((hi1.keep kp2).keep kp3).keep kp4).keep kp5) hf hr.rex hw ((hn.keep hr3.rex kp4).keep hr4.rex kp5) rfl hK5
end
abbrev we(l:List Tok)(n d:Nat):Nat->Rs (qu×Nat):=λb=>if((Ps.tk l b).kind==2||Ps.isTyp l b||Ps.is l b [91])=true then Ps.run l n .typ d b else Rs.ok (Ps.none_,b)
theorem zf.all{ex:Nat->Prop}{Γ:GH}:∀{c:List qa} {t:List qu},zf ex Γ c t->qq c=true
 |_,_,.nil=>rfl
 |_,_,.cons (.mk cs hs hk) hl=>by
  have h1:=qZ.cell ⟨cs,hs,hk⟩
  have h2:=zf.all hl
  show qq (_::_::_::_::_::_::_)=true
  simp only [qq,h1]
  exact h2
theorem KD{l:List Tok}{one:Nat->Rs (qu×Nat)}(ho:Ps.AdvOK one){n a:Nat}{xs:List qu}{b:Nat}(h:Ps.row l one n a=some (.ok (xs,b))):xs.length+a<=b:=by
 unfold Ps.row at h;refine Ps.lift_el h λc h1 h=> ?_
 have:=Ps.need_ok h1
 refine Ps.ite_el h (λ_ h=>Ps.ok_el h λh4 h5=> ?_) λ_ h=> ?_
 ·subst h4 h5;simp;omega
 ·have:=Xn ho _ _ _ _ h;omega
section
variable{Γ0 Γ:GH}{n0:Nat}{H:qd}{nx a d n i:Nat}{C:RC}{K:qv}{res:Except Flt (qu×Nat)}
theorem qlz{x:List qa}{t1 ts:List qu}{v:qa}(hk:HZ Z Γ H nx)(hr:Rd Γ C a d)(hb:Γ i=some x)(hx:¬C.ex i)(hc:zf C.ex Γ x t1)(h1:0<t1.length)(hv:qZ C.ex Γ v ts)(hfew:t1.length+ts.length<=6000){n1:Nat}(hn1:n1=t1.length)
  {k:qa->qd->Nat->Prop} (h:∀w Γ' H' nx',nx<=nx'->HZ Z Γ' H' nx'->qQ C.r nx Γ Γ'->Rd Γ' C a d->qZ C.ex Γ' w (t1++ts)->k w H' nx'):
  ∃m l,zJ 6 H v=some (m,l)/\qq l=true/\∃w H' nx',zt H nx 6 72 (.slice i 0 n1 6 true) m l=some (w,H',nx')/\k w H' nx':=by
 subst hn1;obtain⟨cs,hs,hkc⟩:=hv
 have hs':VC Γ v 6 ts.length cs:=hs.mono λc ds e=>by
  by_cases hex:C.ex c
  ·rw [KF hex]at e;cases e
  ·rw [vS hex]at e;exact e
 refine⟨ts.length,cs,hs'.src hk,hkc.all,?_⟩
 have hl:=hc.len
 cases hts:ts with
 |nil=>
  subst hts;refine⟨_,_,_,rfl,h _ Γ _ _ lR hk (.refl _ _ _) hr ?_⟩
  rw [List.append_nil];exact .blk hx hb hc rfl
 |cons t r=>
  rw [<-hts];obtain⟨H',e1,e2⟩:=hk.appFull (off:=0) (len:=t1.length) (esz:=6) (ebytes:=72) (k:=ts.length) (new:=cs) hb (by omega) hkc.len (by rw [hts];simp) (by omega) (by omega)
  have hf:=hk.fresh (Nat.le_refl nx)
  refine⟨_,H',_,e1,h _ _ _ _ (by omega) e2 (.new hf) (hr.new hf) ?_⟩
  refine .blk (hr.notex hf) (qf _ _ _) ?_ (by simp)
  have hd:(x.drop 0).take (t1.length*6)=x:=by rw [<-hl];simp
  rw [hd];exact zf.app (hc.keep hr.rex (.new (nx:=nx) hf)) (hkc.keep hr.rex (.new (nx:=nx) hf))
variable{Cb:RC}{t:Tok}{kk:Int}{s:List UInt8}{v:qa}{ts:List qu}{b:Nat}{pK:List (qa×Bool)->qd->Nat->Prop}
theorem jI(hk:HZ Z Γ H nx)(hr:Rd Γ (Cb.add i) b d)(hi:Res Γ Cb i)(h0:Γ0 i=none/\n0<=i)(hrex:Cb.ex Cb.r)(hv:qZ (Cb.add i).ex Γ v ts)(e:res= .ok (Ps.mk t kk s ts,b))(hK:Owe Z K Γ0 n0 Γ nx Cb d res (zM Cb.ex)):
  qk PG qE [vz t,iv kk,.str s,v] H nx λe H' nx'=>qc e (λv=>∃(n1:Int) (s1:List UInt8) (x1 y1 z1:Int) (v1:qa),v= .agg [iv n1,.str s1,iv x1,iv y1,iv z1,v1]/\∃H1,stC H' (.ptr i 0) [iv n1,.str s1,iv x1,iv y1,iv z1,v1]=some H1/\
   ∃(n1:Int) (s1:List UInt8) (x1 y1 z1:Int) (v1:qa),ldN H1 6 (.ptr i 0)=some (.agg [iv n1,.str s1,iv x1,iv y1,iv z1,v1])/\K (.ret (.agg [iv n1,.str s1,iv x1,iv y1,iv z1,v1])) H1 nx') λl=>pK l H' nx':=by
 refine z6 (C:=Cb.add i) hk hv hK λH6 nx6 h6 hk6 hn6 hw6 hK6=>⟨_,_,_,_,_,_,rfl,?_⟩
 exact ZF hk6 hr hi h0 hrex hw6 hn6 e hK6
theorem jW(hk:HZ Z Γ H nx)(hr:Rd Γ (Cb.add i) b d)(hi:Res Γ Cb i)(h0:Γ0 i=none/\n0<=i)(hrex:Cb.ex Cb.r)(hv:qZ (Cb.add i).ex Γ v ts)(e:res= .ok (Ps.mk t kk s ts,b))(hK:Owe Z K Γ0 n0 Γ nx Cb d res (zM Cb.ex)):
  qk PG qE [vz t,iv kk,.str s,v] H nx λe H' nx'=>qc e (λv=>∃(n1:Int) (s1:List UInt8) (x1 y1 z1:Int) (v1:qa),v= .agg [iv n1,.str s1,iv x1,iv y1,iv z1,v1]/\True/\∃H1,stC H' (.ptr i 0) [iv n1,.str s1,iv x1,iv y1,iv z1,v1]=some H1/\True/\
   ∃(n1:Int) (s1:List UInt8) (x1 y1 z1:Int) (v1:qa),ldN H1 6 (.ptr i 0)=some (.agg [iv n1,.str s1,iv x1,iv y1,iv z1,v1])/\K (.ret (.agg [iv n1,.str s1,iv x1,iv y1,iv z1,v1])) H1 nx') λl=>pK l H' nx':=by
 refine z6 (C:=Cb.add i) hk hv hK λH6 nx6 h6 hk6 hn6 hw6 hK6=>⟨_,_,_,_,_,_,rfl,trivial,?_⟩
 obtain⟨H7,q1,q2⟩:=ZF hk6 hr hi h0 hrex hw6 hn6 e hK6
 exact⟨H7,q1,trivial,q2⟩
theorem JO(hk:HZ Z Γ H nx)(hr:Rd Γ (Cb.add i) b (d+1))(hi:Res Γ Cb i)(h0:Γ0 i=none/\n0<=i)(hrex:Cb.ex Cb.r)(hv:qZ (Cb.add i).ex Γ v ts)(e:res= .ok (Ps.mk t kk s ts,b))(hK:Owe Z K Γ0 n0 Γ nx Cb d res (zM Cb.ex)):
  qk PG qE [vz t,iv kk,.str s,v] H nx λe H' nx'=>qc e (λv=>∃(n1:Int) (s1:List UInt8) (x1 y1 z1:Int) (v1:qa),v= .agg [iv n1,.str s1,iv x1,iv y1,iv z1,v1]/\∃H1,stC H' (.ptr i 0) [iv n1,.str s1,iv x1,iv y1,iv z1,v1]=some H1/\
   qS PG (qB PG) [.cell (.ptr i 0) qG] [(jB,[.ptr Cb.r 0])] .returning H1 nx' λe H' nx'=>K e H' nx') λl=>pK l H' nx':=by
 refine z6 (C:=Cb.add i) hk hv hK λH6 nx6 h6 hk6 hn6 hw6 hK6=>⟨_,_,_,_,_,_,rfl,?_⟩
 exact Z7 hk6 hr hi h0 hrex hw6 hn6 e hK6
theorem vC(hk:HZ Z Γ H nx)(hr:Rd Γ (Cb.add i) b (d+1))(hi:Res Γ Cb i)(h0:Γ0 i=none/\n0<=i)(hrex:Cb.ex Cb.r)(hv:qZ (Cb.add i).ex Γ v ts)(e:res= .ok (Ps.mk t kk s ts,b))(hK:Owe Z K Γ0 n0 Γ nx Cb d res (zM Cb.ex)):
  qk PG qE [vz t,iv kk,.str s,v] H nx λe H' nx'=>qc e (λv=>∃(n1:Int) (s1:List UInt8) (x1 y1 z1:Int) (v1:qa),v= .agg [iv n1,.str s1,iv x1,iv y1,iv z1,v1]/\True/\∃H1,stC H' (.ptr i 0) [iv n1,.str s1,iv x1,iv y1,iv z1,v1]=some H1/\True/\
   qS PG (qB PG) [.cell (.ptr i 0) qG] [(jB,[.ptr Cb.r 0])] .returning H1 nx' λe H' nx'=>K e H' nx') λl=>pK l H' nx':=by
 refine z6 (C:=Cb.add i) hk hv hK λH6 nx6 h6 hk6 hn6 hw6 hK6=>⟨_,_,_,_,_,_,rfl,trivial,?_⟩
 obtain⟨H7,q1,q2⟩:=Z7 hk6 hr hi h0 hrex hw6 hn6 e hK6
 exact⟨H7,q1,trivial,q2⟩
theorem VZ{ex:Nat->Prop}{Γ:GH}{kk n li co:Int}{s:List UInt8}{w:qa}{t:qu}(h:zy ex Γ [iv kk,.str s,iv n,iv li,iv co,w] t):qI w=true:=by
 cases h with
 |mk cs hs hk=>exact qZ.cell ⟨cs,hs,hk⟩
end
section
variable{Γ:GH}{H:qd}{nx a d n:Nat}{C:RC}{K:qv}{res:Except Flt (qu×Nat)}
theorem qfj(W:zj C.l)(ih:IH C.l C.r C.tb n)(hd:d<=40)(hrun:Ps.run C.l (n+1) .method d a=some res)(hk:HZ Z Γ H nx)(hr:Rd Γ C a d)(hK:z7 Z K Γ nx C d res (zM C.ex)):qk PG vW [.ptr C.r 0] H nx K:=by
 refine qk.of_body qr ?_
 rw [Wp];simp only [Ps.run]at hrun
 have hrex:=hr.rex
 refine jX hk hr hK λΓ H hk hr hi hf hK kp=> ?_
 refine jY (C:=C.add nx) W hrun hk hr hK rfl .id (λ_ h=>h) λΓ H m hkd hrun h hk kp hr hK=>⟨_,_,_,_,_,rfl,?_⟩
 replace hi:=hi.keep kp
 refine vv (C:=C.add nx) hk hr hK rfl λΓ H hk hr ht kp hK=> ?_
 replace hi:=hi.keep kp
 refine QQ (C:=C.add nx) W (wb rfl) qi8 (ih.typ d hd) hrun hk hr hK rfl .id (λ_ h=>h) λts b v Γ H m' erow hrun h hk kp hv hr hK=> ?_
 replace hi:=hi.keep kp;replace ht:=ht.keep kp
 refine⟨_,_,_,_,_,ht.tok hk,_,rfl,_,ht.ld hk 1,⟨⟨_,_,_,_,_,ht.tok hk,rfl⟩,⟨_,ht.ld hk 1,rfl⟩,trivial⟩,?_⟩
 have hlen:=KD (wb (by rfl)) erow
 have hlt:b<C.l.length:=hr.lt
 have hW:=W.few
 obtain⟨hk',hni⟩:=jx (i:=m'+5) (nx':=m'+10) hk (by omega) (by omega)
 refine qR (one:=we C.l n d) (C:=C.add nx) (λZ ex res Γ H nx K h1 h2 h3 h4=>Jt (C:=⟨C.r,C.tb,C.l,ex⟩) W ih hd h1 h2 h3 h4) hrun hk' hr (hK.from (by omega) (.refl _ _ _)) rfl .id wg λt c kk s n li co w Γ H m'' e1 hrun h hk kp hw hn hr hK=>⟨_,_,_,_,_,_,rfl,?_⟩
 replace hi:=hi.keep kp;replace ht:=ht.keep kp;replace hv:=hv.keep hr.rex kp
 refine jw (C:=C.add nx) hk hni hr hK rfl (by omega) λΓ H hk hr hb hx kp hK=> ?_
 replace hi:=hi.keep kp;replace ht:=ht.keep kp;replace hv:=hv.keep hr.rex kp;replace hn:=hn.keep hr.rex kp
 refine⟨⟨⟨_,_,_,_,_,ht.tok hk,rfl⟩,⟨_,ht.ld hk 1,rfl⟩,trivial⟩,?_⟩
 refine qlz (C:=C.add nx) hk hr hb.e hx hn.one (by simp) hv (by simp;omega) rfl λw Γ H m3 h hk kp hr hv=> ?_
 replace hi:=hi.keep kp;replace ht:=ht.keep kp;replace hK:=hK.from h kp
 refine⟨⟨⟨_,_,_,_,_,ht.tok hk,rfl⟩,⟨_,ht.ld hk 1,rfl⟩,trivial⟩,?_⟩
 cases hrun
 exact jW hk hr hi hf hrex hv rfl hK
end
section
variable{Γ:GH}{H:qd}{nx a d n:Nat}{C:RC}{K:qv}{res:Except Flt (qu×Nat)}
theorem qes(W:zj C.l)(ih:IH C.l C.r C.tb n)(hd:d<=40)
  (hrun:(Rs.bind (Ps.run C.l n .expr d a) λ(e,b)=>if Ps.is C.l b [58,61]then Rs.bind (Ps.run C.l n .expr d (b+1)) λ(y,c)=>Rs.ok (Ps.mk (Ps.tk C.l b) 12 [] [e,y],c)
    else if Ps.is C.l b [61]then Rs.bind (Ps.run C.l n .expr d (b+1)) λ(y,c)=>Rs.ok (Ps.mk (Ps.tk C.l b) 13 [] [e,y],c)
    else Rs.ok (Ps.mk (Ps.tk C.l a) 19 [] [e],b))=some res)
  (hk:HZ Z Γ H nx) (hr:Rd Γ C a d) (hK:z7 Z K Γ nx C d res (zM C.ex)):qk PG Qz [.ptr C.r 0] H nx K:=by
 refine qk.of_body qr ?_
 rw [Wv];have hrex:=hr.rex
 refine jX hk hr hK λΓ H hk hr hi hf hK kp=> ?_
 refine kH (C:=C.add nx) hk hr hK λH m1 h hk hK=>⟨_,_,_,_,_,rfl,?_⟩
 refine vv (C:=C.add nx) hk hr hK rfl λΓ H hk hr ht kp hK=> ?_
 replace hi:=hi.keep kp
 refine qR (C:=C.add nx) (λZ ex res Γ H nx K h=>ih.expr d hd Z ex a res Γ H nx K h) hrun hk hr hK rfl .id (λ_ h=>h) λt c kk s n1 li co w Γ H m2 e1 hrun h hk kp hw hn hr hK=>⟨_,_,_,_,_,_,rfl,?_⟩
 replace hi:=hi.keep kp;replace ht:=ht.keep kp
 refine kv (C:=C.add nx) hk hr hw hK rfl λΓ H hk hr hb kp hK=> ?_
 replace hi:=hi.keep kp;replace ht:=ht.keep kp;replace hn:=hn.keep hr.rex kp
 refine kH (C:=C.add nx) hk hr hK λH m3 h hk hK=>⟨_,_,_,_,_,rfl,?_⟩
 refine vv (C:=C.add nx) hk hr hK rfl λΓ H hk hr ht2 kp hK=> ?_
 replace hi:=hi.keep kp;replace ht:=ht.keep kp;replace hb:=hb.keep kp;replace hn:=hn.keep hr.rex kp
 refine zi (C:=C.add nx) W hrun hk hr hK rfl (λ_ h=>h) (λΓ H m4 his hrun h hk kp hr hK=>⟨_,rfl,qK rfl ?_⟩) (λH m4 his hrun h hk hK=>⟨_,rfl,qH rfl ?_⟩)
 ·replace hi:=hi.keep kp;replace ht:=ht.keep kp;replace ht2:=ht2.keep kp;replace hb:=hb.keep kp;replace hn:=hn.keep hr.rex kp
  refine⟨_,_,_,_,_,ht2.tok hk,_,_,_,_,_,_,ldAll hk hb.e rfl,⟨⟨_,_,_,_,_,ht2.tok hk,rfl⟩,⟨_,_,_,_,_,_,ldAll hk hb.e rfl,rfl⟩,trivial⟩,?_⟩
  obtain⟨hk',hni⟩:=jx (i:=m4+4) (nx':=m4+7) hk (by omega) (by omega)
  refine qR (C:=C.add nx) (λZ ex res Γ H nx K h=>ih.expr d hd Z ex _ res Γ H nx K h) hrun hk' hr (hK.from (by omega) (.refl _ _ _)) rfl .id wg λt c2 kk2 s2 n2 li2 co2 w2 Γ H m5 e2 hrun h hk kp hw2 hn2 hr hK=>⟨_,_,_,_,_,_,rfl,?_⟩
  replace hi:=hi.keep kp;replace ht:=ht.keep kp;replace ht2:=ht2.keep kp;replace hb:=hb.keep kp;replace hn:=hn.keep hr.rex kp
  refine jw (C:=C.add nx) hk hni hr hK rfl (by omega) λΓ H hk hr hb2 hx kp hK=> ?_
  replace hi:=hi.keep kp;replace ht:=ht.keep kp;replace ht2:=ht2.keep kp;replace hb:=hb.keep kp;replace hn:=hn.keep hr.rex kp;replace hn2:=hn2.keep hr.rex kp
  refine⟨⟨⟨_,_,_,_,_,ht2.tok hk,rfl⟩,⟨_,_,_,_,_,_,ldAll hk hb.e rfl,rfl⟩,trivial⟩,?_⟩
  cases hrun
  exact jW hk hr hi hf hrex (.blk hx hb2.e (.cons hn hn2.one) rfl) rfl hK
 refine zi (C:=C.add nx) W hrun hk hr hK rfl (λ_ h=>h) (λΓ H m4 his hrun h hk kp hr hK=>⟨_,rfl,qK rfl ?_⟩) (λH m4 his hrun h hk hK=>⟨_,rfl,qH rfl ?_⟩)
 ·replace hi:=hi.keep kp;replace ht:=ht.keep kp;replace ht2:=ht2.keep kp;replace hb:=hb.keep kp;replace hn:=hn.keep hr.rex kp
  refine⟨_,_,_,_,_,ht2.tok hk,_,_,_,_,_,_,ldAll hk hb.e rfl,⟨⟨_,_,_,_,_,ht2.tok hk,rfl⟩,⟨_,_,_,_,_,_,ldAll hk hb.e rfl,rfl⟩,trivial⟩,?_⟩
  obtain⟨hk',hni⟩:=jx (i:=m4+4) (nx':=m4+7) hk (by omega) (by omega)
  refine qR (C:=C.add nx) (λZ ex res Γ H nx K h=>ih.expr d hd Z ex _ res Γ H nx K h) hrun hk' hr (hK.from (by omega) (.refl _ _ _)) rfl .id wg λt c2 kk2 s2 n2 li2 co2 w2 Γ H m5 e2 hrun h hk kp hw2 hn2 hr hK=>⟨_,_,_,_,_,_,rfl,?_⟩
  replace hi:=hi.keep kp;replace ht:=ht.keep kp;replace ht2:=ht2.keep kp;replace hb:=hb.keep kp;replace hn:=hn.keep hr.rex kp
  refine jw (C:=C.add nx) hk hni hr hK rfl (by omega) λΓ H hk hr hb2 hx kp hK=> ?_
  replace hi:=hi.keep kp;replace ht:=ht.keep kp;replace ht2:=ht2.keep kp;replace hb:=hb.keep kp;replace hn:=hn.keep hr.rex kp;replace hn2:=hn2.keep hr.rex kp
  refine⟨⟨⟨_,_,_,_,_,ht2.tok hk,rfl⟩,⟨_,_,_,_,_,_,ldAll hk hb.e rfl,rfl⟩,trivial⟩,?_⟩
  cases hrun
  exact jW hk hr hi hf hrex (.blk hx hb2.e (.cons hn hn2.one) rfl) rfl hK
 refine⟨_,_,_,_,_,ht.tok hk,_,_,_,_,_,_,ldAll hk hb.e rfl,?_⟩
 refine Zm (nx':=m4+1) (C:=C.add nx) hk lR (by omega) hr hK rfl λΓ H hk hr hb2 hx kp hK=> ?_
 replace hi:=hi.keep kp;replace hn:=hn.keep hr.rex kp
 cases hrun
 exact jI hk hr hi hf hrex (.blk hx hb2.e hn.one rfl) rfl hK
end
section
variable{ex ex':Nat->Prop}{Γ Γ':GH}
mutual
theorem zy.via(hk:∀b cs,ZL ex Γ b=some cs->ZL ex' Γ' b=some cs):∀{c:List qa} {t:qu},zy ex Γ c t->zy ex' Γ' c t
 |_,_,.mk cs hs h=> .mk cs (hs.mono hk) (zf.via hk h)
theorem zf.via(hk:∀b cs,ZL ex Γ b=some cs->ZL ex' Γ' b=some cs):∀{c:List qa} {t:List qu},zf ex Γ c t->zf ex' Γ' c t
 |_,_,.nil=> .nil
 |_,_,.cons h hl=> .cons (zy.via hk h) (zf.via hk hl)
end
end
theorem zy.raise{C:RC}{Γ:GH}{i:Nat}{c:List qa}{t:qu}(hi:Γ i=none)(h:zy C.ex Γ c t):zy (C.add i).ex Γ c t:=h.via λb cs e=>by
 by_cases hb:C.ex b
 ·rw [KF hb]at e;cases e
 ·rw [vS hb]at e;rw [vS λx=>x.elim (λx=>by rw [x,hi]at e;cases e) hb]
  exact e
theorem Res.set{C:RC}{Γ:GH}{i nx:Nat}{cs:Option (List qa)}(h:Res Γ C nx)(hne:nx≠i):Res (gup i cs Γ) C nx:=⟨let⟨ds,e,l⟩:=h.e;⟨ds,(qg hne).trans e,l⟩,h.nr,h.nt⟩
theorem At.set{Γ:GH}{r i j:Nat}{cs:List qa}{ds:Option (List qa)}(h:At Γ r i cs)(hne:i≠j):At (gup j ds Γ) r i cs:=⟨(qg hne).trans h.e,h.ne⟩
theorem At.same{Γ:GH}{r i:Nat}{cs ds:List qa}(h:At Γ r i cs):At (gup i (some ds) Γ) r i ds:=⟨qf _ _ _,h.ne⟩
theorem zy.set{C:RC}{Γ:GH}{i:Nat}{cs:Option (List qa)}{c:List qa}{t:qu}(h:zy (C.add i).ex Γ c t):zy (C.add i).ex (gup i cs Γ) c t:=h.mono (λ_ h=>h) λb ds hb e=>(qg λx=>hb (.inl x)).trans e
section
variable{Γ0 Γ:GH}{n0:Nat}{H:qd}{nx a d n:Nat}{C:RC}{K:qv}{res:Except Flt (qu×Nat)}
theorem Owe.none{β:Type}{V:GH->qa->β->Prop}{res:Except Flt (β×Nat)}{i:Nat}(h:Owe Z K Γ0 n0 Γ nx C d res V)(hi:Γ i=none)(hr:i≠C.r):Γ0 i=Option.none:=by
 cases e:Γ0 i with
 |none=>rfl
 |some cs=>have:=h.2.1.1 i cs hr e;rw [hi]at this;cases this
theorem qof(W:zj C.l)(ih:IH C.l C.r C.tb n)(hd:d<=40)(hrun:Ps.run C.l (n+1) .ifs d a=some res)(hk:HZ Z Γ H nx)(hr:Rd Γ C a d)(hK:z7 Z K Γ nx C d res (zM C.ex)):qk PG Qr [.ptr C.r 0] H nx K:=by
 refine qk.of_body qr ?_
 rw [qd4];simp only [Ps.run]at hrun
 have hrex:=hr.rex
 refine jX hk hr hK λΓ H hk hr hi hf hK kp=> ?_
 refine zZ (C:=C.add nx) W hrun hk hr hK rfl .id (λ_ h=>h) λΓ H m1 his hrun h hk kp hr hK=>⟨_,_,_,_,_,rfl,?_⟩
 replace hi:=hi.keep kp
 refine vv (C:=C.add nx) hk hr hK rfl λΓ H hk hr ht kp hK=> ?_
 replace hi:=hi.keep kp
 refine qR (C:=C.add nx) (λZ ex res Γ H nx K h=>ih.expr d hd Z ex _ res Γ H nx K h) hrun hk hr hK rfl .id (λ_ h=>h) λt1 c1 kk1 s1 n1 li1 co1 w1 Γ H m2 e1 hrun h hk kp hw1 hn1 hr hK=>⟨_,_,_,_,_,_,rfl,?_⟩
 replace hi:=hi.keep kp;replace ht:=ht.keep kp
 refine kv (C:=C.add nx) hk hr hw1 hK rfl λΓ H hk hr hb1 kp hK=> ?_
 replace hi:=hi.keep kp;replace ht:=ht.keep kp;replace hn1:=hn1.keep hr.rex kp
 refine qR (C:=C.add nx) (λZ ex res Γ H nx K h=>ih.block d hd Z ex _ res Γ H nx K h) hrun hk hr hK rfl .id (λ_ h=>h) λt2 c2 kk2 s2 n2 li2 co2 w2 Γ H m3 e2 hrun h hk kp hw2 hn2 hr hK=>⟨_,_,_,_,_,_,rfl,?_⟩
 replace hi:=hi.keep kp;replace ht:=ht.keep kp;replace hb1:=hb1.keep kp;replace hn1:=hn1.keep hr.rex kp
 refine kv (C:=C.add nx) hk hr hw2 hK rfl λΓ H hk hr hb2 kp hK=> ?_
 replace hi:=hi.keep kp;replace ht:=ht.keep kp;replace hb1:=hb1.keep kp;replace hn1:=hn1.keep hr.rex kp;replace hn2:=hn2.keep hr.rex kp
 refine vB (C:=C.add nx) hk hK λH m4 h hk hn3 hK=>⟨_,_,_,_,_,_,rfl,?_⟩
 have hm4:=hk.fresh (Nat.le_refl m4)
 have hm0:=hK.none hm4 (hr.r_ne hm4)
 have hm3:=hr.tb_ne hm4
 replace hn1:=hn1.raise hm4;replace hn2:=hn2.raise hm4;replace hn3:=hn3.raise hm4
 refine kv (C:=C.add nx) hk hr rfl hK rfl λΓ H hk hr hb3 kp hK=> ?_
 replace hr:Rd Γ ((C.add nx).add m4) _ d:=hr.add (by rw [hb3.e];simp)
 replace hi:=hi.keep kp;replace ht:=ht.keep kp;replace hb1:=hb1.keep kp;replace hb2:=hb2.keep kp;replace hn1:=hn1.keep hr.rex kp;replace hn2:=hn2.keep hr.rex kp;replace hn3:=hn3.keep hr.rex kp
 refine zi (C:=(C.add nx).add m4) W hrun hk hr hK rfl (λ_ h=>h) (λΓ H m5 his hrun h hk kp hr hK=>⟨_,rfl,qK rfl ?_⟩) (λH m5 his hrun h hk hK=>⟨_,rfl,qH rfl ?_⟩)
 ·replace hi:=hi.keep kp;replace ht:=ht.keep kp;replace hb1:=hb1.keep kp;replace hb2:=hb2.keep kp;replace hb3:=hb3.keep kp;replace hn1:=hn1.keep hr.rex kp;replace hn2:=hn2.keep hr.rex kp;replace hn3:=hn3.keep hr.rex kp
  refine kz (C:=(C.add nx).add m4) hk hr hK λH m6 h hk hK=>⟨_,rfl,qi.2 ⟨λh1=> ?_,λh1=> ?_⟩⟩
  ·replace hrun:=(if_pos (show Ps.is C.l _ Ps.wIf=true from h1)).symm.trans hrun
   refine qR (one:=Ps.run C.l n .ifs d) (C:=(C.add nx).add m4) (λZ ex res Γ H nx K h h2 h3 h4=>qg3 (C:=⟨C.r,C.tb,C.l,ex⟩) ih hd h h2 h3 h4) hrun hk hr hK rfl .id (λ_ h=>h) λt c kk s n li co w Γ H m7 e3 hrun h hk kp hw hn hr hK=>⟨_,_,_,_,_,_,rfl,?_⟩
   replace hi:=hi.keep kp;replace ht:=ht.keep kp;replace hb1:=hb1.keep kp;replace hb2:=hb2.keep kp;replace hb3:=hb3.keep kp;replace hn1:=hn1.keep hr.rex kp;replace hn2:=hn2.keep hr.rex kp
   refine jj hk hb3.e rfl (by simp only [qq,hw];rfl) λH hk=> ?_
   replace hK:=hK.upd (i:=m4) (cs:=some [iv kk,.str s,iv n,iv li,iv co,w]) hm0 (by omega)
   replace hr:=hr.upd (cs:=[iv kk,.str s,iv n,iv li,iv co,w]) (b:=m4) hb3.ne hm3
   replace hi:=hi.set (i:=m4) (cs:=some [iv kk,.str s,iv n,iv li,iv co,w]) (by omega)
   replace ht:=ht.set (j:=m4) (ds:=some [iv kk,.str s,iv n,iv li,iv co,w]) (by omega)
   replace hb1:=hb1.set (j:=m4) (ds:=some [iv kk,.str s,iv n,iv li,iv co,w]) (by omega)
   replace hb2:=hb2.set (j:=m4) (ds:=some [iv kk,.str s,iv n,iv li,iv co,w]) (by omega)
   replace hb3:=hb3.same (ds:=[iv kk,.str s,iv n,iv li,iv co,w])
   replace hn1:=hn1.set (cs:=some [iv kk,.str s,iv n,iv li,iv co,w])
   replace hn2:=hn2.set (cs:=some [iv kk,.str s,iv n,iv li,iv co,w])
   have hn3:=hn.set (cs:=some [iv kk,.str s,iv n,iv li,iv co,w])
   refine⟨_,_,_,_,_,ht.tok hk,_,_,_,_,_,_,ldAll hk hb1.e rfl,_,_,_,_,_,_,ldAll hk hb2.e rfl,_,_,_,_,_,_,ldAll hk hb3.e rfl,?_⟩
   refine Zm (nx':=m7+1) (C:=(C.add nx).add m4) hk lR (by omega) hr hK rfl λΓ H hk hr hb hx kp hK=> ?_
   replace hi:=hi.keep kp;replace hn1:=hn1.keep hr.rex kp;replace hn2:=hn2.keep hr.rex kp;replace hn3:=hn3.keep hr.rex kp
   cases hrun
   exact jI hk (hr.less (.inr hrex)) hi hf hrex ((qZ.blk (n:=3) hx hb.e (.cons hn1 (.cons hn2 hn3.one)) rfl).mono (λ_ h=> .inr h) λ_ _ _ h=>h) rfl hK
  ·replace hrun:=(if_neg (show¬Ps.is C.l _ Ps.wIf=true by rw [show Ps.is C.l _ Ps.wIf=false from h1];simp)).symm.trans hrun
   refine kz (C:=(C.add nx).add m4) hk hr hK λH m7 h hk hK=>⟨_,rfl,qi.2 ⟨λh1=> ?_,λh1=> ?_⟩⟩
   ·replace hrun:=(if_pos (show Ps.is C.l _ [123]=true from h1)).symm.trans hrun
    refine qR (C:=(C.add nx).add m4) (λZ ex res Γ H nx K h=>ih.block d hd Z ex _ res Γ H nx K h) hrun hk hr hK rfl .id (λ_ h=>h) λt c kk s n li co w Γ H m8 e3 hrun h hk kp hw hn hr hK=>⟨_,_,_,_,_,_,rfl,?_⟩
    replace hi:=hi.keep kp;replace ht:=ht.keep kp;replace hb1:=hb1.keep kp;replace hb2:=hb2.keep kp;replace hb3:=hb3.keep kp;replace hn1:=hn1.keep hr.rex kp;replace hn2:=hn2.keep hr.rex kp
    refine jj hk hb3.e rfl (by simp only [qq,hw];rfl) λH hk=> ?_
    replace hK:=hK.upd (i:=m4) (cs:=some [iv kk,.str s,iv n,iv li,iv co,w]) hm0 (by omega)
    replace hr:=hr.upd (cs:=[iv kk,.str s,iv n,iv li,iv co,w]) (b:=m4) hb3.ne hm3
    replace hi:=hi.set (i:=m4) (cs:=some [iv kk,.str s,iv n,iv li,iv co,w]) (by omega)
    replace ht:=ht.set (j:=m4) (ds:=some [iv kk,.str s,iv n,iv li,iv co,w]) (by omega)
    replace hb1:=hb1.set (j:=m4) (ds:=some [iv kk,.str s,iv n,iv li,iv co,w]) (by omega)
    replace hb2:=hb2.set (j:=m4) (ds:=some [iv kk,.str s,iv n,iv li,iv co,w]) (by omega)
    replace hb3:=hb3.same (ds:=[iv kk,.str s,iv n,iv li,iv co,w])
    replace hn1:=hn1.set (cs:=some [iv kk,.str s,iv n,iv li,iv co,w])
    replace hn2:=hn2.set (cs:=some [iv kk,.str s,iv n,iv li,iv co,w])
    have hn3:=hn.set (cs:=some [iv kk,.str s,iv n,iv li,iv co,w])
    refine⟨_,_,_,_,_,ht.tok hk,_,_,_,_,_,_,ldAll hk hb1.e rfl,_,_,_,_,_,_,ldAll hk hb2.e rfl,_,_,_,_,_,_,ldAll hk hb3.e rfl,?_⟩
    refine Zm (nx':=m8+1) (C:=(C.add nx).add m4) hk lR (by omega) hr hK rfl λΓ H hk hr hb hx kp hK=> ?_
    replace hi:=hi.keep kp;replace hn1:=hn1.keep hr.rex kp;replace hn2:=hn2.keep hr.rex kp;replace hn3:=hn3.keep hr.rex kp
    cases hrun
    exact jI hk (hr.less (.inr hrex)) hi hf hrex ((qZ.blk (n:=3) hx hb.e (.cons hn1 (.cons hn2 hn3.one)) rfl).mono (λ_ h=> .inr h) λ_ _ _ h=>h) rfl hK
   ·replace hrun:=(if_neg (show¬Ps.is C.l _ [123]=true by rw [show Ps.is C.l _ [123]=false from h1];simp)).symm.trans hrun
    cases hrun
    exact yK (C:=(C.add nx).add m4) hk hr λH nx2 h2 hk=>zN.2 ((hK.from h2 (.refl _ _ _)).pan rfl hk hr.p)
 ·refine⟨_,_,_,_,_,ht.tok hk,_,_,_,_,_,_,ldAll hk hb1.e rfl,_,_,_,_,_,_,ldAll hk hb2.e rfl,_,_,_,_,_,_,ldAll hk hb3.e rfl,?_⟩
  refine Zm (nx':=m5+1) (C:=(C.add nx).add m4) hk lR (by omega) hr hK rfl λΓ H hk hr hb hx kp hK=> ?_
  replace hi:=hi.keep kp;replace hn1:=hn1.keep hr.rex kp;replace hn2:=hn2.keep hr.rex kp;replace hn3:=hn3.keep hr.rex kp
  cases hrun
  exact jI hk (hr.less (.inr hrex)) hi hf hrex ((qZ.blk (n:=3) hx hb.e (.cons hn1 (.cons hn2 hn3.one)) rfl).mono (λ_ h=> .inr h) λ_ _ _ h=>h) rfl hK
theorem qa4(W:zj C.l)(ih:IH C.l C.r C.tb n)(hrun:Ps.typeDecl C.l n a=some res)(hk:HZ Z Γ H nx)(hr:Rd Γ C a 0)(hK:z7 Z K Γ nx C 0 res (zM C.ex)):qk PG yq [.ptr C.r 0] H nx K:=by
 refine qk.of_body qr ?_
 rw [KA];unfold Ps.typeDecl at hrun;have hrex:=hr.rex
 refine jX hk hr hK λΓ H hk hr hi hf hK kp=> ?_
 refine zZ (C:=C.add nx) W hrun hk hr hK rfl .id (λ_ h=>h) λΓ H m1 his hrun h hk kp hr hK=>⟨_,_,_,_,_,rfl,?_⟩
 replace hi:=hi.keep kp
 refine vv (C:=C.add nx) hk hr hK rfl λΓ H hk hr ht kp hK=> ?_
 replace hi:=hi.keep kp
 refine jY (C:=C.add nx) W hrun hk hr hK rfl .id (λ_ h=>h) λΓ H m2 hkd hrun h hk kp hr hK=>⟨_,_,_,_,_,rfl,?_⟩
 replace hi:=hi.keep kp;replace ht:=ht.keep kp
 refine zi (C:=C.add nx) W hrun hk hr hK rfl (λ_ h=>h) (λΓ H m3 his hrun h hk kp hr hK=>⟨_,rfl,qK rfl ?_⟩) (λH m3 his hrun h hk hK=>⟨_,rfl,qH rfl ?_⟩)
 ·replace hi:=hi.keep kp;replace ht:=ht.keep kp
  refine⟨_,_,_,_,_,ht.tok hk,⟨⟨_,_,_,_,_,ht.tok hk,rfl⟩,trivial⟩,?_⟩
  refine JI (C:=C.add nx) W (wb rfl) qer (ih.method 0 (by omega)) hrun (hk.more (by omega)) hr (hK.from (by omega) (.refl _ _ _)) rfl .id (λ_ h=>h) λts b v Γ H m4 hrun h hk kp hv hr hK=> ?_
  replace hi:=hi.keep kp;replace ht:=ht.keep kp
  cases hrun
  exact⟨⟨⟨_,_,_,_,_,ht.tok hk,rfl⟩,trivial⟩,jW hk hr hi hf hrex hv rfl hK⟩
 ·refine zZ (C:=C.add nx) W hrun hk hr hK rfl .id (λ_ h=>h) λΓ H m4 his hrun h hk kp hr hK=>⟨_,_,_,_,_,rfl,?_⟩
  replace hi:=hi.keep kp;replace ht:=ht.keep kp
  refine⟨_,_,_,_,_,ht.tok hk,⟨⟨_,_,_,_,_,ht.tok hk,rfl⟩,trivial⟩,?_⟩
  refine JI (C:=C.add nx) W (wb rfl) qi3 (ih.field 0 (by omega)) hrun (hk.more (by omega)) hr (hK.from (by omega) (.refl _ _ _)) rfl .id (λ_ h=>h) λts b v Γ H m5 hrun h hk kp hv hr hK=> ?_
  replace hi:=hi.keep kp;replace ht:=ht.keep kp
  cases hrun
  exact⟨⟨⟨_,_,_,_,_,ht.tok hk,rfl⟩,trivial⟩,jW hk hr hi hf hrex hv rfl hK⟩
end
section
variable{Γ0 Γ:GH}{n0:Nat}{H:qd}{nx a d n i:Nat}{C:RC}{K:qv}{res:Except Flt (qu×Nat)}
theorem qkm(W:zj C.l)(ih:IH C.l C.r C.tb n)(hd:d<=40)(hrun:Ps.run C.l (n+1) .stmt d a=some res)(hk:HZ Z Γ H nx)(hr:Rd Γ C a d)(hK:z7 Z K Γ nx C d res (zM C.ex)):qk PG yF [.ptr C.r 0] H nx K:=by
 refine qk.of_body qr ?_
 rw [Y0];simp only [Ps.run]at hrun
 have hrex:=hr.rex
 refine jX hk hr hK λΓ H hk hr hi hf hK kp=> ?_
 refine Ve (C:=C.add nx) hk hr hd (λhd1 Γ H m0 h hk kp hr=>zN.2 ?_) (λhd1 Γ H m0 h hk kp hr=>qb.2 ?_)
 ·rw [if_pos hd1]at hrun;cases hrun
  exact(hK.from h kp).pan rfl hk hr.p
 rw [if_neg hd1]at hrun;replace hd1:d+1<=40:=by omega
 replace hK:=hK.from h kp
 replace hi:=hi.keep kp
 refine kH (C:=(C.add nx)) hk hr hK λH m1_10 h hk hK=>⟨_,_,_,_,_,rfl,?_⟩
 refine vv (C:=(C.add nx)) hk hr hK rfl λΓ H hk hr ht kp hK=> ?_
 replace hi:=hi.keep kp
 refine kz (C:=(C.add nx)) (s:=[123]) hk hr hK λH m2_13 h hk hK=>⟨_,rfl,qi.2 ⟨λh1=> ?_,λh1=> ?_⟩⟩
 ·
  replace hrun:=(if_pos (show Ps.is C.l _ [123]=true by simpa using h1)).symm.trans hrun
  refine kN (C:=(C.add nx)) (λZ ex res Γ H nx K h=>ih.block (d+1) hd1 Z ex _ res Γ H nx K h) hrun hk hr hK rfl .lv (λ_ h=>h) λt c kk s n1 li co w Γ H m9 e3 e4 h hk kp hw hn hr hK=>⟨_,_,_,_,_,_,rfl,?_⟩
  replace hi:=hi.keep kp;replace ht:=ht.keep kp
  exact Z7 hk hr hi hf hrex hw hn e4 hK
 ·
  replace hrun:=(if_neg (show¬Ps.is C.l _ [123]=true by simpa using h1)).symm.trans hrun
  refine zi (C:=(C.add nx)) W hrun hk hr hK rfl (λ_ h=>h) (λΓ H m3_21 his hrun h hk kp hr hK=>⟨_,rfl,qK rfl ?_⟩) (λH m3_21 his hrun h hk hK=>⟨_,rfl,qH rfl ?_⟩)
  ·
   replace hi:=hi.keep kp;replace ht:=ht.keep kp
   refine jY (C:=(C.add nx)) W hrun hk hr hK rfl .lv (λ_ h=>h) λΓ H m4_24 hkd hrun h hk kp hr hK=>⟨_,_,_,_,_,rfl,?_⟩
   replace hi:=hi.keep kp;replace ht:=ht.keep kp
   refine qR (C:=(C.add nx)) (λZ ex res Γ H nx K h=>ih.typ (d+1) hd1 Z ex _ res Γ H nx K h) hrun hk hr hK rfl .lv (λ_ h=>h) λt1 c1 kk1 s1 n1 li1 co1 w1 Γ H m5_26 e1 hrun h hk kp hw1 hn1 hr hK=>⟨_,_,_,_,_,_,rfl,?_⟩
   replace hi:=hi.keep kp;replace ht:=ht.keep kp
   refine kv (C:=(C.add nx)) hk hr hw1 hK rfl λΓ H hk hr hb1 kp hK=> ?_
   replace hi:=hi.keep kp;replace ht:=ht.keep kp;replace hn1:=hn1.keep hr.rex kp
   refine⟨_,_,_,_,_,ht.tok hk,_,_,_,_,_,_,ldAll hk hb1.e rfl,⟨⟨_,_,_,_,_,ht.tok hk,rfl⟩,⟨_,_,_,_,_,_,ldAll hk hb1.e rfl,rfl⟩,trivial⟩,?_⟩
   obtain⟨hk',hni⟩:=jx (i:=m5_26+1+5) (nx':=m5_26+1+8) hk (by omega) (by omega)
   replace hrun:Rs.bind (if Ps.is C.l c1 [61]=true then Ps.run C.l n .expr (d+1) (c1+1)else Rs.ok (Ps.none_,c1)) (λx=>Rs.ok (Ps.mk (Ps.tk C.l a) 11 (Ps.tk C.l (a+1)).text [t1,x.1],x.2))=some res:=by rw [<-hrun];dsimp only;split<;>rfl
   refine qR (one:=λc=>if Ps.is C.l c [61]=true then Ps.run C.l n .expr (d+1) (c+1)else Rs.ok (Ps.none_,c)) (C:=(C.add nx)) (λZ ex res Γ H nx K h h2 h3 h4=>qhc (C:=⟨C.r,C.tb,C.l,ex⟩) W ih hd1 h h2 h3 h4) hrun hk' hr (hK.from (by omega) (.refl _ _ _)) rfl .lv wg λt2 c2 kk2 s2 n2 li2 co2 w2 Γ H m6_33 e2 hrun h hk kp hw2 hn2 hr hK=>⟨_,_,_,_,_,_,rfl,?_⟩
   replace hi:=hi.keep kp;replace ht:=ht.keep kp;replace hn1:=hn1.keep hr.rex kp;replace hb1:=hb1.keep kp
   refine jw (C:=(C.add nx)) hk hni hr hK rfl (by omega) λΓ H hk hr hb hxhb kp hK=> ?_
   replace hi:=hi.keep kp;replace ht:=ht.keep kp;replace hn1:=hn1.keep hr.rex kp;replace hb1:=hb1.keep kp;replace hn2:=hn2.keep hr.rex kp
   refine⟨⟨⟨_,_,_,_,_,ht.tok hk,rfl⟩,⟨_,_,_,_,_,_,ldAll hk hb1.e rfl,rfl⟩,trivial⟩,?_⟩
   cases hrun
   exact vC hk hr hi hf hrex (qZ.blk (n:=2) hxhb hb.e (.cons hn1 hn2.one) rfl) rfl hK
  refine kz (C:=(C.add nx)) (s:=Ps.wIf) hk hr hK λH m4_40 h hk hK=>⟨_,rfl,qi.2 ⟨λh1=> ?_,λh1=> ?_⟩⟩
  ·
   replace hrun:=(if_pos (show Ps.is C.l _ Ps.wIf=true by simpa using h1)).symm.trans hrun
   refine kN (C:=(C.add nx)) (λZ ex res Γ H nx K h=>ih.ifs (d+1) hd1 Z ex _ res Γ H nx K h) hrun hk hr hK rfl .lv (λ_ h=>h) λt c kk s n1 li co w Γ H m9 e3 e4 h hk kp hw hn hr hK=>⟨_,_,_,_,_,_,rfl,?_⟩
   replace hi:=hi.keep kp;replace ht:=ht.keep kp
   exact Z7 hk hr hi hf hrex hw hn e4 hK
  ·
   replace hrun:=(if_neg (show¬Ps.is C.l _ Ps.wIf=true by simpa using h1)).symm.trans hrun
   refine zi (C:=(C.add nx)) W hrun hk hr hK rfl (λ_ h=>h) (λΓ H m5_48 his hrun h hk kp hr hK=>⟨_,rfl,qK rfl ?_⟩) (λH m5_48 his hrun h hk hK=>⟨_,rfl,qH rfl ?_⟩)
   ·
    replace hi:=hi.keep kp;replace ht:=ht.keep kp
    refine vB (C:=C.add nx) hk hK λH mE h hk hn1 hK=>⟨_,_,_,_,_,_,rfl,?_⟩
    have hmE:=hk.fresh (Nat.le_refl mE)
    have hm0:=hK.none hmE (hr.r_ne hmE)
    have hm3:=hr.tb_ne hmE
    replace hn1:=hn1.raise hmE
    refine kv (C:=(C.add nx)) hk hr rfl hK rfl λΓ H hk hr hbE kp hK=> ?_
    replace hi:=hi.keep kp;replace ht:=ht.keep kp
    replace hr:Rd Γ ((C.add nx).add mE) _ (d+1):=hr.add (by rw [hbE.e];simp)
    replace hn1:=hn1.keep hr.rex kp
    refine kz (C:=((C.add nx).add mE)) (s:=[123]) hk hr hK λH m6_60 h hk hK=>⟨_,rfl,qi.2 ⟨λh1=> ?_,λh1=> ?_⟩⟩
    ·
     replace hrun:=(if_neg (show¬Ps.is C.l _ [123]=true by simpa using h1)).symm.trans hrun
     refine qR (C:=((C.add nx).add mE)) (λZ ex res Γ H nx K h=>ih.expr (d+1) hd1 Z ex _ res Γ H nx K h) hrun hk hr hK rfl .lv (λ_ h=>h) λt3 c3 kk3 s3 n3 li3 co3 w3 Γ H m7_63 e3 hrun h hk kp hw3 hn3 hr hK=>⟨_,_,_,_,_,_,rfl,?_⟩
     replace hi:=hi.keep kp;replace ht:=ht.keep kp;replace hbE:=hbE.keep kp;replace hn1:=hn1.keep hr.rex kp
     refine jj hk hbE.e rfl (by simp only [qq,hw3];rfl) λH hk=> ?_
     replace hK:=hK.upd (i:=mE) (cs:=some [iv kk3,.str s3,iv n3,iv li3,iv co3,w3]) hm0 (by omega)
     replace hr:=hr.upd (cs:=[iv kk3,.str s3,iv n3,iv li3,iv co3,w3]) (b:=mE) hbE.ne hm3
     replace hi:=hi.set (i:=mE) (cs:=some [iv kk3,.str s3,iv n3,iv li3,iv co3,w3]) (by omega)
     replace ht:=ht.set (j:=mE) (ds:=some [iv kk3,.str s3,iv n3,iv li3,iv co3,w3]) (by omega)
     replace hbE:=hbE.same (ds:=[iv kk3,.str s3,iv n3,iv li3,iv co3,w3])
     replace hn1:=hn3.set (cs:=some [iv kk3,.str s3,iv n3,iv li3,iv co3,w3])
     refine⟨_,_,_,_,_,ht.tok hk,_,_,_,_,_,_,ldAll hk hbE.e rfl,⟨⟨_,_,_,_,_,ht.tok hk,rfl⟩,⟨_,_,_,_,_,_,ldAll hk hbE.e rfl,rfl⟩,trivial⟩,?_⟩
     obtain⟨hk',hni⟩:=jx (i:=m7_63+4) (nx':=m7_63+7) hk (by omega) (by omega)
     refine qR (C:=((C.add nx).add mE)) (λZ ex res Γ H nx K h=>ih.block (d+1) hd1 Z ex _ res Γ H nx K h) hrun hk' hr (hK.from (by omega) (.refl _ _ _)) rfl .lv wg λt2 c2 kk2 s2 n2 li2 co2 w2 Γ H m8_74 e2 hrun h hk kp hw2 hn2 hr hK=>⟨_,_,_,_,_,_,rfl,?_⟩
     replace hi:=hi.keep kp;replace ht:=ht.keep kp;replace hbE:=hbE.keep kp;replace hn1:=hn1.keep hr.rex kp
     refine jw (C:=((C.add nx).add mE)) hk hni hr hK rfl (by omega) λΓ H hk hr hb hxhb kp hK=> ?_
     replace hi:=hi.keep kp;replace ht:=ht.keep kp;replace hbE:=hbE.keep kp;replace hn1:=hn1.keep hr.rex kp;replace hn2:=hn2.keep hr.rex kp
     refine⟨⟨⟨_,_,_,_,_,ht.tok hk,rfl⟩,⟨_,_,_,_,_,_,ldAll hk hbE.e rfl,rfl⟩,trivial⟩,?_⟩
     cases hrun
     exact vC hk (hr.less (.inr hrex)) hi hf hrex ((qZ.blk (n:=2) hxhb hb.e (.cons hn1 hn2.one) rfl).mono (λ_ h=> .inr h) λ_ _ _ h=>h) rfl hK
    ·
     replace hrun:=(if_pos (show Ps.is C.l _ [123]=true by simpa using h1)).symm.trans hrun
     refine⟨_,_,_,_,_,ht.tok hk,_,_,_,_,_,_,ldAll hk hbE.e rfl,⟨⟨_,_,_,_,_,ht.tok hk,rfl⟩,⟨_,_,_,_,_,_,ldAll hk hbE.e rfl,rfl⟩,trivial⟩,?_⟩
     obtain⟨hk',hni⟩:=jx (i:=m6_60+4) (nx':=m6_60+7) hk (by omega) (by omega)
     refine qR (C:=((C.add nx).add mE)) (λZ ex res Γ H nx K h=>ih.block (d+1) hd1 Z ex _ res Γ H nx K h) hrun hk' hr (hK.from (by omega) (.refl _ _ _)) rfl .lv wg λt2 c2 kk2 s2 n2 li2 co2 w2 Γ H m7_85 e2 hrun h hk kp hw2 hn2 hr hK=>⟨_,_,_,_,_,_,rfl,?_⟩
     replace hi:=hi.keep kp;replace ht:=ht.keep kp;replace hbE:=hbE.keep kp;replace hn1:=hn1.keep hr.rex kp
     refine jw (C:=((C.add nx).add mE)) hk hni hr hK rfl (by omega) λΓ H hk hr hb hxhb kp hK=> ?_
     replace hi:=hi.keep kp;replace ht:=ht.keep kp;replace hbE:=hbE.keep kp;replace hn1:=hn1.keep hr.rex kp;replace hn2:=hn2.keep hr.rex kp
     refine⟨⟨⟨_,_,_,_,_,ht.tok hk,rfl⟩,⟨_,_,_,_,_,_,ldAll hk hbE.e rfl,rfl⟩,trivial⟩,?_⟩
     cases hrun
     exact vC hk (hr.less (.inr hrex)) hi hf hrex ((qZ.blk (n:=2) hxhb hb.e (.cons hn1 hn2.one) rfl).mono (λ_ h=> .inr h) λ_ _ _ h=>h) rfl hK
   refine zi (C:=(C.add nx)) W hrun hk hr hK rfl (λ_ h=>h) (λΓ H m6_92 his hrun h hk kp hr hK=>⟨_,rfl,qK rfl ?_⟩) (λH m6_92 his hrun h hk hK=>⟨_,rfl,qH rfl ?_⟩)
   ·
    replace hi:=hi.keep kp;replace ht:=ht.keep kp
    refine⟨_,_,_,_,_,ht.tok hk,?_⟩
    cases hrun
    exact JO hk hr hi hf hrex .nil rfl hK
   refine zi (C:=(C.add nx)) W hrun hk hr hK rfl (λ_ h=>h) (λΓ H m7_98 his hrun h hk kp hr hK=>⟨_,rfl,qK rfl ?_⟩) (λH m7_98 his hrun h hk hK=>⟨_,rfl,qH rfl ?_⟩)
   ·
    replace hi:=hi.keep kp;replace ht:=ht.keep kp
    refine⟨_,_,_,_,_,ht.tok hk,?_⟩
    cases hrun
    exact JO hk hr hi hf hrex .nil rfl hK
   refine zi (C:=(C.add nx)) W hrun hk hr hK rfl (λ_ h=>h) (λΓ H m8_104 his hrun h hk kp hr hK=>⟨_,rfl,qK rfl ?_⟩) (λH m8_104 his hrun h hk hK=>⟨_,rfl,qH rfl ?_⟩)
   ·
    replace hi:=hi.keep kp;replace ht:=ht.keep kp
    rw [qdt]at hrun;refine kz (C:=(C.add nx)) (s:=[59]) hk hr hK λH m9_108 h hk hK=>⟨_,rfl,qi.2 ⟨λh1=> ?_,λh1=> ?_⟩⟩
    ·
     replace hrun:=(if_pos (show Ps.is C.l _ [59]=true by simpa using h1)).symm.trans hrun
     refine⟨_,_,_,_,_,ht.tok hk,⟨⟨_,_,_,_,_,ht.tok hk,rfl⟩,trivial⟩,?_⟩
     obtain⟨hk',hni⟩:=jx (i:=m9_108+2) (nx':=m9_108+5) hk (by omega) (by omega)
     refine vB (C:=C.add nx) hk' (hK.from (by omega) (.refl _ _ _)) λH m9 h hk hn1 hK=>⟨_,_,_,_,_,_,rfl,?_⟩
     refine jw (C:=(C.add nx)) hk hni hr hK rfl (by omega) λΓ H hk hr hb hxhb kp hK=> ?_
     replace hi:=hi.keep kp;replace ht:=ht.keep kp;replace hn1:=hn1.keep hr.rex kp
     refine⟨⟨⟨_,_,_,_,_,ht.tok hk,rfl⟩,trivial⟩,?_⟩
     cases hrun
     exact vC hk hr hi hf hrex (qZ.blk (n:=1) hxhb hb.e hn1.one rfl) rfl hK
    ·
     replace hrun:=(if_neg (show¬Ps.is C.l _ [59]=true by simpa using h1)).symm.trans hrun
     refine kz (C:=(C.add nx)) (s:=[125]) hk hr hK λH m10_121 h hk hK=>⟨_,rfl,qi.2 ⟨λh1=> ?_,λh1=> ?_⟩⟩
     ·
      replace hrun:=(if_pos (show Ps.is C.l _ [125]=true by simpa using h1)).symm.trans hrun
      refine⟨_,_,_,_,_,ht.tok hk,⟨⟨_,_,_,_,_,ht.tok hk,rfl⟩,trivial⟩,?_⟩
      obtain⟨hk',hni⟩:=jx (i:=m10_121+2) (nx':=m10_121+5) hk (by omega) (by omega)
      refine vB (C:=C.add nx) hk' (hK.from (by omega) (.refl _ _ _)) λH m9 h hk hn1 hK=>⟨_,_,_,_,_,_,rfl,?_⟩
      refine jw (C:=(C.add nx)) hk hni hr hK rfl (by omega) λΓ H hk hr hb hxhb kp hK=> ?_
      replace hi:=hi.keep kp;replace ht:=ht.keep kp;replace hn1:=hn1.keep hr.rex kp
      refine⟨⟨⟨_,_,_,_,_,ht.tok hk,rfl⟩,trivial⟩,?_⟩
      cases hrun
      exact vC hk hr hi hf hrex (qZ.blk (n:=1) hxhb hb.e hn1.one rfl) rfl hK
     ·
      replace hrun:=(if_neg (show¬Ps.is C.l _ [125]=true by simpa using h1)).symm.trans hrun
      refine⟨_,_,_,_,_,ht.tok hk,⟨⟨_,_,_,_,_,ht.tok hk,rfl⟩,trivial⟩,?_⟩
      obtain⟨hk',hni⟩:=jx (i:=m10_121+3) (nx':=m10_121+6) hk (by omega) (by omega)
      refine qR (C:=(C.add nx)) (λZ ex res Γ H nx K h=>ih.expr (d+1) hd1 Z ex _ res Γ H nx K h) hrun hk' hr (hK.from (by omega) (.refl _ _ _)) rfl .lv wg λt1 c1 kk1 s1 n1 li1 co1 w1 Γ H m11_136 e1 hrun h hk kp hw1 hn1 hr hK=>⟨_,_,_,_,_,_,rfl,?_⟩
      replace hi:=hi.keep kp;replace ht:=ht.keep kp
      refine jw (C:=(C.add nx)) hk hni hr hK rfl (by omega) λΓ H hk hr hb hxhb kp hK=> ?_
      replace hi:=hi.keep kp;replace ht:=ht.keep kp;replace hn1:=hn1.keep hr.rex kp
      refine⟨⟨⟨_,_,_,_,_,ht.tok hk,rfl⟩,trivial⟩,?_⟩
      cases hrun
      exact vC hk hr hi hf hrex (qZ.blk (n:=1) hxhb hb.e hn1.one rfl) rfl hK
   refine zi (C:=(C.add nx)) W hrun hk hr hK rfl (λ_ h=>h) (λΓ H m9_143 his hrun h hk kp hr hK=>⟨_,rfl,qK rfl ?_⟩) (λH m9_143 his hrun h hk hK=>⟨_,rfl,qH rfl ?_⟩)
   ·
    replace hi:=hi.keep kp;replace ht:=ht.keep kp
    refine zZ (C:=(C.add nx)) W hrun hk hr hK rfl .lv (λ_ h=>h) λΓ H m10_146 his hrun h hk kp hr hK=>⟨_,_,_,_,_,rfl,?_⟩
    replace hi:=hi.keep kp;replace ht:=ht.keep kp
    refine qR (C:=(C.add nx)) (λZ ex res Γ H nx K h=>ih.expr (d+1) hd1 Z ex _ res Γ H nx K h) hrun hk hr hK rfl .lv (λ_ h=>h) λt1 c1 kk1 s1 n1 li1 co1 w1 Γ H m11_148 e1 hrun h hk kp hw1 hn1 hr hK=>⟨_,_,_,_,_,_,rfl,?_⟩
    replace hi:=hi.keep kp;replace ht:=ht.keep kp
    refine kv (C:=(C.add nx)) hk hr hw1 hK rfl λΓ H hk hr hb1 kp hK=> ?_
    replace hi:=hi.keep kp;replace ht:=ht.keep kp;replace hn1:=hn1.keep hr.rex kp
    refine zZ (C:=(C.add nx)) W hrun hk hr hK rfl .lv (λ_ h=>h) λΓ H m12_152 his hrun h hk kp hr hK=>⟨_,_,_,_,_,rfl,?_⟩
    replace hi:=hi.keep kp;replace ht:=ht.keep kp;replace hn1:=hn1.keep hr.rex kp;replace hb1:=hb1.keep kp
    refine⟨_,_,_,_,_,ht.tok hk,_,_,_,_,_,_,ldAll hk hb1.e rfl,?_⟩
    refine Zm (nx':=m12_152+1) (C:=(C.add nx)) hk lR (by omega) hr hK rfl λΓ H hk hr hb hxhb kp hK=> ?_
    replace hi:=hi.keep kp;replace ht:=ht.keep kp;replace hn1:=hn1.keep hr.rex kp;replace hb1:=hb1.keep kp
    cases hrun
    exact JO hk hr hi hf hrex (qZ.blk (n:=1) hxhb hb.e hn1.one rfl) rfl hK
   refine kN (one:=λa=>Rs.bind (Ps.run C.l n .expr (d+1) a) λ(e,b)=>if Ps.is C.l b [58,61]then Rs.bind (Ps.run C.l n .expr (d+1) (b+1)) λ(y,c)=>Rs.ok (Ps.mk (Ps.tk C.l b) 12 [] [e,y],c)else if Ps.is C.l b [61]then Rs.bind (Ps.run C.l n .expr (d+1) (b+1)) λ(y,c)=>Rs.ok (Ps.mk (Ps.tk C.l b) 13 [] [e,y],c)else Rs.ok (Ps.mk (Ps.tk C.l a) 19 [] [e],b)) (C:=(C.add nx)) (λZ ex res Γ H nx K h h2 h3 h4=>qes (C:=⟨C.r,C.tb,C.l,ex⟩) W ih hd1 h h2 h3 h4) hrun hk hr hK rfl .lv (λ_ h=>h) λt c kk s n1 li co w Γ H m9 e3 e4 h hk kp hw hn hr hK=>⟨_,_,_,_,_,_,rfl,?_⟩
   replace hi:=hi.keep kp;replace ht:=ht.keep kp
   exact Z7 hk hr hi hf hrex hw hn e4 hK
end
section
variable{Γ0 Γ:GH}{n0:Nat}{H:qd}{nx a d n i:Nat}{C:RC}{K:qv}{res:Except Flt (qu×Nat)}
abbrev qdd(l:List Tok)(one:Nat->Rs (qu×Nat)):Nat->Rs (qu×Nat):=λa=>Ps.lift (Ps.need l a [40]) λb=>Rs.bind (one b) λ(x,c)=>Ps.lift (Ps.need l c [41]) λe=>Rs.ok (x,e)
theorem qb2{β:Type}{l:List Tok}{one:Nat->Rs (qu×Nat)}{a:Nat}{k:qu×Nat->Rs β}:Rs.bind (qdd l one a) k=Ps.lift (Ps.need l a [40]) λb=>Rs.bind (one b) λ(x,c)=>Ps.lift (Ps.need l c [41]) λe=>k (x,e):=by
 unfold qdd;cases Ps.need l a [40]with
 |error f=>rfl
 |ok b=>
  show Rs.bind (Rs.bind (one b) _) k=Rs.bind (one b) _
  cases one b with
  |none=>rfl
  |some r=>cases r with
   |error f=>rfl
   |ok p=>
    obtain⟨x,c⟩:=p
    show Rs.bind (Ps.lift (Ps.need l c [41]) λe=>Rs.ok (x,e)) k=Ps.lift (Ps.need l c [41]) λe=>k (x,e)
    cases Ps.need l c [41]<;>rfl
theorem qju(W:zj C.l)(ih:IH C.l C.r C.tb n)(hd:d<=40)(hrun:Ps.run C.l (n+1) .prime d a=some res)(hk:HZ Z Γ H nx)(hr:Rd Γ C a d)(hK:z7 Z K Γ nx C d res (zM C.ex)):qk PG Qd [.ptr C.r 0] H nx K:=by
 refine qk.of_body qr ?_
 rw [Xv];simp only [Ps.run]at hrun
 have hrex:=hr.rex
 refine jX hk hr hK λΓ H hk hr hi hf hK kp=> ?_
 refine kH (C:=(C.add nx)) hk hr hK λH m1_2 h hk hK=>⟨_,_,_,_,_,rfl,?_⟩
 refine vv (C:=(C.add nx)) hk hr hK rfl λΓ H hk hr ht kp hK=> ?_
 replace hi:=hi.keep kp
 refine⟨_,rfl,_,ht.ld hk 0,qi.2 ⟨λh1=> ?_,λh1=> ?_⟩⟩
 ·
  replace h1:(Ps.tk C.l a).kind=4:=of_decide_eq_true h1
  rw [if_pos (by simp [h1])]at hrun
  refine ZZ (C:=C.add nx) W hk hr (by show(Ps.tk C.l a).kind≠0;rw [h1];decide) λΓ H mN h hk kp hr=>qb.2 ⟨_,_,_,_,_,rfl,?_⟩
  replace hK:=hK.from h kp
  replace hi:=hi.keep kp;replace ht:=ht.keep kp
  refine⟨_,_,_,_,_,ht.tok hk,?_⟩
  refine z6 (C:=C.add nx) (ts:=[]) hk .nil hK λH m2 h hk hn hw hK=>⟨_,_,_,_,_,_,rfl,?_⟩
  have hmE:=hk.fresh (Nat.le_refl m2)
  have hm0:=hK.none hmE (hr.r_ne hmE)
  have hm3:=hr.tb_ne hmE
  refine kv (C:=(C.add nx)) hk hr rfl hK rfl λΓ H hk hr hb kp hK=> ?_
  replace hi:=hi.keep kp;replace ht:=ht.keep kp
  refine⟨_,rfl,_,ht.ld hk 2,_,rfl,rfl,?_⟩
  refine vo hk hb.e (j:=2) (by simp) rfl λH hk=> ?_
  refine⟨_,_,_,_,_,_,ldAll hk (qf _ _ _) rfl,?_⟩
  cases hrun
  exact ZF hk (hr.upd hb.ne hm3) (hi.set (by omega)) hf hrex rfl (.mk [] (.inl ⟨rfl,rfl,rfl⟩) .nil) rfl (hK.upd hm0 (by omega))
 replace h1:¬(Ps.tk C.l a).kind=4:=of_decide_eq_false h1
 rw [if_neg (by simp [h1])]at hrun
 refine qi.2 ⟨λh1=> ?_,λh1=> ?_⟩
 ·
  replace h1:(Ps.tk C.l a).kind=5:=of_decide_eq_true h1
  rw [if_pos (by simp [h1])]at hrun
  refine ZZ (C:=C.add nx) W hk hr (by show(Ps.tk C.l a).kind≠0;rw [h1];decide) λΓ H mN h hk kp hr=>qb.2 ⟨_,_,_,_,_,rfl,?_⟩
  replace hK:=hK.from h kp
  replace hi:=hi.keep kp;replace ht:=ht.keep kp
  refine⟨_,_,_,_,_,ht.tok hk,_,rfl,_,ht.ld hk 1,?_⟩
  cases hrun
  exact jI hk hr hi hf hrex .nil rfl hK
 replace h1:¬(Ps.tk C.l a).kind=5:=of_decide_eq_false h1
 rw [if_neg (by simp [h1])]at hrun
 refine qi.2 ⟨λh1=> ?_,λh1=> ?_⟩
 ·
  replace h1:(Ps.tk C.l a).kind=2:=of_decide_eq_true h1
  rw [if_pos (by simp [h1])]at hrun
  refine ZZ (C:=C.add nx) W hk hr (by show(Ps.tk C.l a).kind≠0;rw [h1];decide) λΓ H mN h hk kp hr=>qb.2 ⟨_,_,_,_,_,rfl,?_⟩
  replace hK:=hK.from h kp
  replace hi:=hi.keep kp;replace ht:=ht.keep kp
  refine kz (C:=(C.add nx)) (s:=[40]) hk hr hK λH m2_45 h hk hK=>⟨_,rfl,qi.2 ⟨λh1=> ?_,λh1=> ?_⟩⟩
  ·
   replace hrun:=(if_pos (show Ps.is C.l _ [40]=true by simpa using h1)).symm.trans hrun
   refine⟨_,_,_,_,_,ht.tok hk,_,rfl,_,ht.ld hk 1,⟨⟨_,_,_,_,_,ht.tok hk,rfl⟩,⟨_,ht.ld hk 1,rfl⟩,trivial⟩,?_⟩
   refine QQ (C:=C.add nx) W (wb rfl) KW (ih.expr d hd) hrun (hk.more (by omega)) hr (hK.from (by omega) (.refl _ _ _)) rfl .id (λ_ h=>h) λts b v Γ H m6 erow hrun h hk kp hv hr hK=> ?_
   replace hi:=hi.keep kp;replace ht:=ht.keep kp
   cases hrun
   exact⟨⟨⟨_,_,_,_,_,ht.tok hk,rfl⟩,⟨_,ht.ld hk 1,rfl⟩,trivial⟩,jW hk hr hi hf hrex hv rfl hK⟩
  ·
   replace hrun:=(if_neg (show¬Ps.is C.l _ [40]=true by simpa using h1)).symm.trans hrun
   refine⟨_,_,_,_,_,ht.tok hk,_,rfl,_,ht.ld hk 1,?_⟩
   cases hrun
   exact jI hk hr hi hf hrex .nil rfl hK
 replace h1:¬(Ps.tk C.l a).kind=2:=of_decide_eq_false h1
 rw [if_neg (by simp [h1])]at hrun
 refine zi (C:=(C.add nx)) W hrun hk hr hK rfl (λ_ h=>h) (λΓ H m2_60 his hrun h hk kp hr hK=>⟨_,rfl,qK rfl ?_⟩) (λH m2_60 his hrun h hk hK=>⟨_,rfl,qH rfl ?_⟩)
 ·
  replace hi:=hi.keep kp;replace ht:=ht.keep kp
  refine⟨_,_,_,_,_,ht.tok hk,?_⟩
  cases hrun
  exact jI hk hr hi hf hrex .nil rfl hK
 refine zi (C:=(C.add nx)) W hrun hk hr hK rfl (λ_ h=>h) (λΓ H m3_66 his hrun h hk kp hr hK=>⟨_,rfl,qK rfl ?_⟩) (λH m3_66 his hrun h hk hK=>⟨_,rfl,qH rfl ?_⟩)
 ·
  replace hi:=hi.keep kp;replace ht:=ht.keep kp
  refine⟨_,_,_,_,_,ht.tok hk,?_⟩
  cases hrun
  exact jI hk hr hi hf hrex .nil rfl hK
 refine zi (C:=(C.add nx)) W hrun hk hr hK rfl (λ_ h=>h) (λΓ H m4_72 his hrun h hk kp hr hK=>⟨_,rfl,qK rfl ?_⟩) (λH m4_72 his hrun h hk hK=>⟨_,rfl,qH rfl ?_⟩)
 ·
  replace hi:=hi.keep kp;replace ht:=ht.keep kp
  refine⟨_,_,_,_,_,ht.tok hk,?_⟩
  cases hrun
  exact jI hk hr hi hf hrex .nil rfl hK
 refine kz (C:=(C.add nx)) (s:=[40]) hk hr hK λH m5_78 h hk hK=>⟨_,rfl,qi.2 ⟨λh1=> ?_,λh1=> ?_⟩⟩
 ·
  replace hrun:=(if_pos (show Ps.is C.l _ [40]=true by simpa using h1)).symm.trans hrun
  replace hrun:qdd C.l (Ps.run C.l n .expr d) a=some res:=by unfold qdd Ps.need;rw [show Ps.is C.l a [40]=true by simpa using h1];exact hrun
  refine kN (one:=qdd C.l (Ps.run C.l n .expr d)) (C:=(C.add nx)) (λZ ex res Γ H nx K h h2 h3 h4=>qbf (C:=⟨C.r,C.tb,C.l,ex⟩) W KW (ih.expr d hd) h h2 h3 h4) hrun hk hr hK rfl .id (λ_ h=>h) λt c kk s n1 li co w Γ H m9 e3 e4 h hk kp hw hn hr hK=>⟨_,_,_,_,_,_,rfl,?_⟩
  replace hi:=hi.keep kp;replace ht:=ht.keep kp
  exact ZF hk hr hi hf hrex hw hn e4 hK
 ·
  replace hrun:=(if_neg (show¬Ps.is C.l _ [40]=true by simpa using h1)).symm.trans hrun
  refine zi (C:=(C.add nx)) W hrun hk hr hK rfl (λ_ h=>h) (λΓ H m6_87 his hrun h hk kp hr hK=>⟨_,rfl,qK rfl ?_⟩) (λH m6_87 his hrun h hk hK=>⟨_,rfl,qH rfl ?_⟩)
  ·
   replace hi:=hi.keep kp;replace ht:=ht.keep kp
   refine⟨_,_,_,_,_,ht.tok hk,⟨⟨_,_,_,_,_,ht.tok hk,rfl⟩,trivial⟩,?_⟩
   replace hrun:=(qb2 (l:=C.l) (one:=Ps.run C.l n .expr d) (k:=λx=>Rs.ok (Ps.mk (Ps.tk C.l a) 33 [] [x.1],x.2))).trans hrun
   obtain⟨hk',hni⟩:=jx (i:=m6_87+5) (nx':=m6_87+8) hk (by omega) (by omega)
   refine qR (one:=qdd C.l (Ps.run C.l n .expr d)) (C:=(C.add nx)) (λZ ex res Γ H nx K h h2 h3 h4=>qbf (C:=⟨C.r,C.tb,C.l,ex⟩) W KW (ih.expr d hd) h h2 h3 h4) hrun hk' hr (hK.from (by omega) (.refl _ _ _)) rfl .id wg λt1 c1 kk1 s1 n1 li1 co1 w1 Γ H m7_93 e1 hrun h hk kp hw1 hn1 hr hK=>⟨_,_,_,_,_,_,rfl,?_⟩
   replace hi:=hi.keep kp;replace ht:=ht.keep kp
   refine jw (C:=(C.add nx)) hk hni hr hK rfl (by omega) λΓ H hk hr hb hxhb kp hK=> ?_
   replace hi:=hi.keep kp;replace ht:=ht.keep kp;replace hn1:=hn1.keep hr.rex kp
   refine⟨⟨⟨_,_,_,_,_,ht.tok hk,rfl⟩,trivial⟩,?_⟩
   cases hrun
   exact jW hk hr hi hf hrex (qZ.blk (n:=1) hxhb hb.e hn1.one rfl) rfl hK
  refine zi (C:=(C.add nx)) W hrun hk hr hK rfl (λ_ h=>h) (λΓ H m7_100 his hrun h hk kp hr hK=>⟨_,rfl,qK rfl ?_⟩) (λH m7_100 his hrun h hk hK=>⟨_,rfl,qH rfl ?_⟩)
  ·
   replace hi:=hi.keep kp;replace ht:=ht.keep kp
   refine⟨_,_,_,_,_,ht.tok hk,⟨⟨_,_,_,_,_,ht.tok hk,rfl⟩,trivial⟩,?_⟩
   replace hrun:=(qb2 (l:=C.l) (one:=Ps.run C.l n .typ d) (k:=λx=>Rs.ok (Ps.mk (Ps.tk C.l a) 35 [] [x.1],x.2))).trans hrun
   obtain⟨hk',hni⟩:=jx (i:=m7_100+5) (nx':=m7_100+8) hk (by omega) (by omega)
   refine qR (one:=qdd C.l (Ps.run C.l n .typ d)) (C:=(C.add nx)) (λZ ex res Γ H nx K h h2 h3 h4=>qbf (C:=⟨C.r,C.tb,C.l,ex⟩) W qi8 (ih.typ d hd) h h2 h3 h4) hrun hk' hr (hK.from (by omega) (.refl _ _ _)) rfl .id wg λt1 c1 kk1 s1 n1 li1 co1 w1 Γ H m8_106 e1 hrun h hk kp hw1 hn1 hr hK=>⟨_,_,_,_,_,_,rfl,?_⟩
   replace hi:=hi.keep kp;replace ht:=ht.keep kp
   refine jw (C:=(C.add nx)) hk hni hr hK rfl (by omega) λΓ H hk hr hb hxhb kp hK=> ?_
   replace hi:=hi.keep kp;replace ht:=ht.keep kp;replace hn1:=hn1.keep hr.rex kp
   refine⟨⟨⟨_,_,_,_,_,ht.tok hk,rfl⟩,trivial⟩,?_⟩
   cases hrun
   exact jW hk hr hi hf hrex (qZ.blk (n:=1) hxhb hb.e hn1.one rfl) rfl hK
  refine zi (C:=(C.add nx)) W hrun hk hr hK rfl (λ_ h=>h) (λΓ H m8_113 his hrun h hk kp hr hK=>⟨_,rfl,qK rfl ?_⟩) (λH m8_113 his hrun h hk hK=>⟨_,rfl,qH rfl ?_⟩)
  ·
   replace hi:=hi.keep kp;replace ht:=ht.keep kp
   refine zZ (C:=(C.add nx)) W hrun hk hr hK rfl .id (λ_ h=>h) λΓ H m9_116 his hrun h hk kp hr hK=>⟨_,_,_,_,_,rfl,?_⟩
   replace hi:=hi.keep kp;replace ht:=ht.keep kp
   refine qR (C:=(C.add nx)) (λZ ex res Γ H nx K h=>ih.typ d hd Z ex _ res Γ H nx K h) hrun hk hr hK rfl .id (λ_ h=>h) λt1 c1 kk1 s1 n1 li1 co1 w1 Γ H m10_118 e1 hrun h hk kp hw1 hn1 hr hK=>⟨_,_,_,_,_,_,rfl,?_⟩
   replace hi:=hi.keep kp;replace ht:=ht.keep kp
   refine kv (C:=(C.add nx)) hk hr hw1 hK rfl λΓ H hk hr hb1 kp hK=> ?_
   replace hi:=hi.keep kp;replace ht:=ht.keep kp;replace hn1:=hn1.keep hr.rex kp
   refine zZ (C:=(C.add nx)) W hrun hk hr hK rfl .id (λ_ h=>h) λΓ H m11_122 his hrun h hk kp hr hK=>⟨_,_,_,_,_,rfl,?_⟩
   replace hi:=hi.keep kp;replace ht:=ht.keep kp;replace hn1:=hn1.keep hr.rex kp;replace hb1:=hb1.keep kp
   refine qR (C:=(C.add nx)) (λZ ex res Γ H nx K h=>ih.expr d hd Z ex _ res Γ H nx K h) hrun hk hr hK rfl .id (λ_ h=>h) λt2 c2 kk2 s2 n2 li2 co2 w2 Γ H m12_124 e2 hrun h hk kp hw2 hn2 hr hK=>⟨_,_,_,_,_,_,rfl,?_⟩
   replace hi:=hi.keep kp;replace ht:=ht.keep kp;replace hn1:=hn1.keep hr.rex kp;replace hb1:=hb1.keep kp
   refine kv (C:=(C.add nx)) hk hr hw2 hK rfl λΓ H hk hr hb2 kp hK=> ?_
   replace hi:=hi.keep kp;replace ht:=ht.keep kp;replace hn1:=hn1.keep hr.rex kp;replace hb1:=hb1.keep kp;replace hn2:=hn2.keep hr.rex kp
   refine zZ (C:=(C.add nx)) W hrun hk hr hK rfl .id (λ_ h=>h) λΓ H m13_128 his hrun h hk kp hr hK=>⟨_,_,_,_,_,rfl,?_⟩
   replace hi:=hi.keep kp;replace ht:=ht.keep kp;replace hn1:=hn1.keep hr.rex kp;replace hb1:=hb1.keep kp;replace hn2:=hn2.keep hr.rex kp;replace hb2:=hb2.keep kp
   refine⟨_,_,_,_,_,ht.tok hk,_,_,_,_,_,_,ldAll hk hb1.e rfl,_,_,_,_,_,_,ldAll hk hb2.e rfl,?_⟩
   refine Zm (nx':=m13_128+1) (C:=(C.add nx)) hk lR (by omega) hr hK rfl λΓ H hk hr hb hxhb kp hK=> ?_
   replace hi:=hi.keep kp;replace ht:=ht.keep kp;replace hn1:=hn1.keep hr.rex kp;replace hb1:=hb1.keep kp;replace hn2:=hn2.keep hr.rex kp;replace hb2:=hb2.keep kp
   cases hrun
   exact jI hk hr hi hf hrex (qZ.blk (n:=2) hxhb hb.e (.cons hn1 hn2.one) rfl) rfl hK
  refine zi (C:=(C.add nx)) W hrun hk hr hK rfl (λ_ h=>h) (λΓ H m9_135 his hrun h hk kp hr hK=>⟨_,rfl,qK rfl ?_⟩) (λH m9_135 his hrun h hk hK=>⟨_,rfl,qH rfl ?_⟩)
  ·
   replace hi:=hi.keep kp;replace ht:=ht.keep kp
   refine zZ (C:=(C.add nx)) W hrun hk hr hK rfl .id (λ_ h=>h) λΓ H m10_138 his hrun h hk kp hr hK=>⟨_,_,_,_,_,rfl,?_⟩
   replace hi:=hi.keep kp;replace ht:=ht.keep kp
   refine zZ (C:=(C.add nx)) W hrun hk hr hK rfl .id (λ_ h=>h) λΓ H m11_140 his hrun h hk kp hr hK=>⟨_,_,_,_,_,rfl,?_⟩
   replace hi:=hi.keep kp;replace ht:=ht.keep kp
   refine⟨_,_,_,_,_,ht.tok hk,?_⟩
   cases hrun
   exact jI hk hr hi hf hrex .nil rfl hK
  cases hrun
  exact yK (C:=C.add nx) hk hr λH nx2 h2 hk=>zN.2 ((hK.from h2 (.refl _ _ _)).pan rfl hk hr.p)
end
section
variable{Γ0 Γ:GH}{n0:Nat}{H:qd}{nx a d n i:Nat}{C:RC}{K:qv}{res:Except Flt (qu×Nat)}
abbrev qld(l:List Tok)(n d:Nat)(t:Tok)(x:qu):Nat->Rs (qu×Nat):=λa=>
 if Ps.is l a [40]then Rs.bind (Ps.run l n .typ d (a+1)) λ(ty,b)=>Ps.lift (Ps.need l b [41]) λc=>Rs.ok (Ps.mk t 37 [] [x,ty],c)
 else Ps.lift (Ps.name l a) λb=>
  if Ps.is l b [40]then Rs.bind (Ps.row l (Ps.run l n .expr d) n b) λ(xs,c)=>Rs.ok (Ps.mk t 31 (Ps.tk l a).text (x::xs),c)
  else Rs.ok (Ps.mk t 30 (Ps.tk l a).text [x],b)
theorem qod{t0:Tok}{x0:qu}{kk0 n0 li0 co0:Int}{s0:List UInt8}{w0:qa}(W:zj C.l)(ih:IH C.l C.r C.tb n)(hd:d<=40)(hrun:qld C.l n d t0 x0 a=some res)(hn0:zy C.ex Γ [iv kk0,.str s0,iv n0,iv li0,iv co0,w0] x0)(hk:HZ Z Γ H nx)(hr:Rd Γ C a d)(hK:z7 Z K Γ nx C d res (zM C.ex)):
  qk PG K7 [.ptr C.r 0,vz t0,.agg [iv kk0,.str s0,iv n0,iv li0,iv co0,w0]] H nx K:=by
 refine qk.of_body qr ?_
 rw [qbx];have hrex:=hr.rex
 have hf0:=hk.fresh (Nat.le_refl nx)
 have hf:Γ (nx+1+1)=none/\nx<=nx+1+1:=⟨hk.fresh (by omega),by omega⟩
 refine⟨_,rfl,?_⟩
 have h0:HZ Z (gup nx (some (jd t0)) Γ) (newBN nx [iv t0.kind,u3 t0.text,iv t0.n,iv t0.line,iv t0.col].length [iv t0.kind,u3 t0.text,iv t0.n,iv t0.line,iv t0.col] H) (nx+1):=hk.new lR (by omega) _
 have hr0:=hr.new (cs:=some (jd t0)) hf0
 have hf1:=h0.fresh (Nat.le_refl (nx+1))
 refine⟨_,rfl,?_⟩
 have h1:HZ Z (gup (nx+1) (some [iv kk0,.str s0,iv n0,iv li0,iv co0,w0]) (gup nx (some (jd t0)) Γ)) (newBN (nx+1) [iv kk0,.str s0,iv n0,iv li0,iv co0,w0].length [iv kk0,.str s0,iv n0,iv li0,iv co0,w0] (newBN nx [iv t0.kind,u3 t0.text,iv t0.n,iv t0.line,iv t0.col].length [iv t0.kind,u3 t0.text,iv t0.n,iv t0.line,iv t0.col] H)) (nx+1+1):=h0.new lR (by omega) _
 have hr1:=hr0.new (cs:=some [iv kk0,.str s0,iv n0,iv li0,iv co0,w0]) hf1
 have hf2:=h1.fresh (Nat.le_refl (nx+1+1))
 have kp1:qQ C.r nx Γ (gup (nx+1) (some [iv kk0,.str s0,iv n0,iv li0,iv co0,w0]) (gup nx (some (jd t0)) Γ)):=(qQ.new (nx:=nx) hf0).trans (qQ.new (nx:=nx) hf1)
 have ht:At (gup (nx+1) (some [iv kk0,.str s0,iv n0,iv li0,iv co0,w0]) (gup nx (some (jd t0)) Γ)) C.r nx (jd t0):=⟨(qg (by omega)).trans (qf _ _ _),hr.r_ne hf0⟩
 have hx:At (gup (nx+1) (some [iv kk0,.str s0,iv n0,iv li0,iv co0,w0]) (gup nx (some (jd t0)) Γ)) C.r (nx+1) [iv kk0,.str s0,iv n0,iv li0,iv co0,w0]:=⟨qf _ _ _,hr0.r_ne hf1⟩
 replace hn0:=(hn0.keep hr.rex kp1).raise (i:=nx+1+1) hf2
 replace hK:=hK.owe.from (by omega:nx<=nx+1+1+1) kp1
 refine kO h1 (nx':=nx+1+1+1) lR (by omega) λH hk=> ?_
 replace hr:=hr1.newAdd (cs:=[iv 0,u3 [],iv 0,iv 0,iv 0,u6]) hf2
 have hi:Res (gup (nx+1+1) (some [iv 0,u3 [],iv 0,iv 0,iv 0,u6]) (gup (nx+1) (some [iv kk0,.str s0,iv n0,iv li0,iv co0,w0]) (gup nx (some (jd t0)) Γ))) C (nx+1+1):=⟨⟨_,qf _ _ _,rfl⟩,hr1.r_ne hf2,hr1.tb_ne hf2⟩
 have kp:qQ C.r (nx+1+1) _ _:=qQ.new (cs:=[iv 0,u3 [],iv 0,iv 0,iv 0,u6]) hf2
 replace ht:=ht.keep kp;replace hx:=hx.keep kp;replace hn0:=hn0.keep hr.rex kp;replace hK:=hK.from' lR kp (by omega)
 refine zi (C:=(C.add (nx+1+1))) W hrun hk hr hK rfl (λ_ h=>h) (λΓ H m1_0 his hrun h hk kp hr hK=>⟨_,rfl,qK rfl ?_⟩) (λH m1_0 his hrun h hk hK=>⟨_,rfl,qH rfl ?_⟩)
 ·
  replace hi:=hi.keep kp;replace ht:=ht.keep kp;replace hx:=hx.keep kp;replace hn0:=hn0.keep hr.rex kp
  refine qR (C:=(C.add (nx+1+1))) (λZ ex res Γ H nx K h=>ih.typ d hd Z ex _ res Γ H nx K h) hrun hk hr hK rfl .id (λ_ h=>h) λt1 c1 kk1 s1 n1 li1 co1 w1 Γ H m2_3 e1 hrun h hk kp hw1 hn1 hr hK=>⟨_,_,_,_,_,_,rfl,?_⟩
  replace hi:=hi.keep kp;replace ht:=ht.keep kp;replace hx:=hx.keep kp;replace hn0:=hn0.keep hr.rex kp
  refine kv (C:=(C.add (nx+1+1))) hk hr hw1 hK rfl λΓ H hk hr hb1 kp hK=> ?_
  replace hi:=hi.keep kp;replace ht:=ht.keep kp;replace hx:=hx.keep kp;replace hn0:=hn0.keep hr.rex kp;replace hn1:=hn1.keep hr.rex kp
  refine zZ (C:=(C.add (nx+1+1))) W hrun hk hr hK rfl .id (λ_ h=>h) λΓ H m3_7 his hrun h hk kp hr hK=>⟨_,_,_,_,_,rfl,?_⟩
  replace hi:=hi.keep kp;replace ht:=ht.keep kp;replace hx:=hx.keep kp;replace hn0:=hn0.keep hr.rex kp;replace hn1:=hn1.keep hr.rex kp;replace hb1:=hb1.keep kp
  refine⟨_,_,_,_,_,ht.tok hk,_,_,_,_,_,_,ldAll hk hx.e rfl,_,_,_,_,_,_,ldAll hk hb1.e rfl,?_⟩
  refine Zm (nx':=m3_7+1) (C:=(C.add (nx+1+1))) hk lR (by omega) hr hK rfl λΓ H hk hr hb hxhb kp hK=> ?_
  replace hi:=hi.keep kp;replace ht:=ht.keep kp;replace hx:=hx.keep kp;replace hn0:=hn0.keep hr.rex kp;replace hn1:=hn1.keep hr.rex kp;replace hb1:=hb1.keep kp
  cases hrun
  exact jI hk hr hi hf hrex (qZ.blk (n:=2) hxhb hb.e (.cons hn0 hn1.one) rfl) rfl hK
 refine jY (C:=(C.add (nx+1+1))) W hrun hk hr hK rfl .id (λ_ h=>h) λΓ H m2_14 hkd hrun h hk kp hr hK=>⟨_,_,_,_,_,rfl,?_⟩
 replace hi:=hi.keep kp;replace ht:=ht.keep kp;replace hx:=hx.keep kp;replace hn0:=hn0.keep hr.rex kp
 refine kz (C:=(C.add (nx+1+1))) (s:=[40]) hk hr hK λH m3_16 h hk hK=>⟨_,rfl,qi.2 ⟨λh1=> ?_,λh1=> ?_⟩⟩
 ·
  replace hrun:=(if_neg (show¬Ps.is C.l _ [40]=true by simpa using h1)).symm.trans hrun
  refine⟨_,_,_,_,_,ht.tok hk,_,_,_,_,_,_,ldAll hk hx.e rfl,?_⟩
  refine Zm (nx':=m3_16+1) (C:=(C.add (nx+1+1))) hk lR (by omega) hr hK rfl λΓ H hk hr hb hxhb kp hK=> ?_
  replace hi:=hi.keep kp;replace ht:=ht.keep kp;replace hx:=hx.keep kp;replace hn0:=hn0.keep hr.rex kp
  cases hrun
  exact jI hk hr hi hf hrex (qZ.blk (n:=1) hxhb hb.e hn0.one rfl) rfl hK
 ·
  replace hrun:=(if_pos (show Ps.is C.l _ [40]=true by simpa using h1)).symm.trans hrun
  refine⟨_,_,_,_,_,ht.tok hk,_,_,_,_,_,_,ldAll hk hx.e rfl,?_⟩
  refine Zm (i:=m3_16+3) (nx':=m3_16+11) (C:=(C.add (nx+1+1))) hk (by omega) (by omega) hr hK rfl λΓ H hk hr hb hxhb kp hK=> ?_
  replace hi:=hi.keep kp;replace ht:=ht.keep kp;replace hx:=hx.keep kp;replace hn0:=hn0.keep hr.rex kp
  refine⟨⟨⟨_,_,_,_,_,ht.tok hk,rfl⟩,⟨_,_,_,_,_,_,ldAll hk hx.e rfl,rfl⟩,trivial⟩,?_⟩
  refine QQ (C:=(C.add (nx+1+1))) W (wb rfl) KW (ih.expr d hd) hrun hk hr hK rfl .id (λ_ h=>h) λts b v Γ H m6 erow hrun h hk kp hv hr hK=> ?_
  replace hi:=hi.keep kp;replace ht:=ht.keep kp;replace hx:=hx.keep kp;replace hn0:=hn0.keep hr.rex kp;replace hb:=hb.keep kp
  have hlen:=KD (wb (by rfl)) erow
  have hlt:b<C.l.length:=hr.lt
  have hW:=W.few
  refine⟨⟨⟨_,_,_,_,_,ht.tok hk,rfl⟩,⟨_,_,_,_,_,_,ldAll hk hx.e rfl,rfl⟩,trivial⟩,?_⟩
  refine qlz (C:=(C.add (nx+1+1))) hk hr hb.e hxhb hn0.one (by simp) hv (by simp;omega) rfl λw Γ H m7 h hk kp hr hv=> ?_
  replace hi:=hi.keep kp;replace ht:=ht.keep kp;replace hx:=hx.keep kp;replace hn0:=hn0.keep hr.rex kp;replace hb:=hb.keep kp
  replace hK:=hK.from h kp
  cases hrun
  exact⟨⟨⟨_,_,_,_,_,ht.tok hk,rfl⟩,trivial⟩,jW hk hr hi hf hrex hv rfl hK⟩
end
section
variable{Γ0 Γ:GH}{n0:Nat}{H:qd}{nx a d n i:Nat}{C:RC}{K:qv}{res:Except Flt (qu×Nat)}
theorem qk2{β:Type}{V:GH->qa->β->Prop}{res:Except Flt (β×Nat)}{rK:qa->qd->Nat->Prop}{pK:List (qa×Bool)->qd->Nat->Prop}{g:FuncId}{args:List qa}{one:Nat->Rs (qu×Nat)}{k:qu×Nat->Rs (β×Nat)}{Cb:RC}{db:Nat}{Zc:Nat->Prop}
  (hone:∀res K,one a=some res->z7 Zc K Γ nx C d res (zM C.ex)->qk PG g args H nx K)
  (hrun:Rs.bind (one a) k=some res) (hK:Owe Z K Γ0 n0 Γ nx Cb db res V) (hb:Cb.r=C.r) (hp:vV Z K Cb.r pK) (hz:∀b,Z b->Zc b)
  (hok:∀t b kk s n li co w Γ' H' nx',one a=some (.ok (t,b))->k (t,b)=some res->nx<=nx'->HZ Zc Γ' H' nx'->qQ C.r nx Γ Γ'->qI w=true->zy C.ex Γ' [iv kk,.str s,iv n,iv li,iv co,w] t->Rd Γ' C b d->
   Owe Z K Γ0 n0 Γ' nx' Cb db res V->rK (.agg [iv kk,.str s,iv n,iv li,iv co,w]) H' nx'):
  qk PG g args H nx λe H' nx'=>qc e (λv=>rK v H' nx') λl=>pK l H' nx':=by
 rcases Ps.bind_some hrun with⟨f,e1,e2⟩|⟨⟨t,b⟩,e1,e2⟩
 ·refine hone _ _ e1 (.on (λx b v Γ' H' nx' e=>by cases e) λf' Γ' H' nx' e g1 g2 g3 g4=> ?_)
  cases e
  rw [<-hb]at g3 g4;exact hp.of (hK.from g1 g3) e2 (g2.less hz) g4
 ·refine hone _ _ e1 (.on (λx b' v Γ' H' nx' e g1 g2 g3 g4 g5=> ?_) λf' Γ' H' nx' e=>by cases e)
  cases e
  obtain⟨kk,s,n,li,co,w,rfl,hw,hn⟩:=g4.cells
  exact hok _ _ _ _ _ _ _ _ _ _ _ e1 e2 g1 g2 g3 hw hn g5 (hK.from g1 (by rw [hb];exact g3))
theorem qjm{β:Type}{l:List Tok}{n d a:Nat}{t:Tok}{x:qu}{k:qu->Nat->Rs β}:Rs.bind (qld l n d t x a) (λp=>k p.1 p.2)=
  (if Ps.is l a [40]then Rs.bind (Ps.run l n .typ d (a+1)) λ(ty,b)=>Ps.lift (Ps.need l b [41]) λc=>k (Ps.mk t 37 [] [x,ty]) c
  else Ps.lift (Ps.name l a) λb=>
   if Ps.is l b [40]then Rs.bind (Ps.row l (Ps.run l n .expr d) n b) λ(xs,c)=>k (Ps.mk t 31 (Ps.tk l a).text (x::xs)) c
   else k (Ps.mk t 30 (Ps.tk l a).text [x]) b):=by
 unfold qld;split
 ·cases Ps.run l n .typ d (a+1)with
  |none=>rfl
  |some r=>cases r with
   |error f=>rfl
   |ok p=>
    obtain⟨ty,b⟩:=p
    show Rs.bind (Ps.lift (Ps.need l b [41]) _) _=Ps.lift (Ps.need l b [41]) _
    cases Ps.need l b [41]<;>rfl
 ·cases Ps.name l a with
  |error f=>rfl
  |ok b=>
   show Rs.bind (if Ps.is l b [40]=true then _ else _) _=if Ps.is l b [40]=true then _ else _
   split
   ·cases Ps.row l (Ps.run l n .expr d) n b with
    |none=>rfl
    |some r=>cases r<;>rfl
   ·rfl
theorem qhm(call:zA)(lp:Nat->jk)(lv:zU)(lvc:zT)(r c x:Nat)(H:qd)(nx:Nat)(K:qv):
  qx PG call (lp 30) 30 (qe PG ku) [1,1,0] (qy PG lv lvc K (qF PG ku)) .ret (qj .und [(0,.ptr r 0),(2,.ptr c 0),(3,.ptr x 0)]) H nx [] none=wf PG qG H (.ptr c 0) λv=>K (.ret v) H nx:=by kernel_rfl
theorem qjz(call:zA)(lp:Nat->jk)(lv:zU)(lvc:zT)(r c x:Nat)(H:qd)(nx:Nat)(K:qv)(l:List (qa×Bool)):
  qx PG call (lp 30) 30 (qe PG ku) [1,1,0] (qy PG lv lvc K (qF PG ku)) (.pan l) (qj .und [(0,.ptr r 0),(2,.ptr c 0),(3,.ptr x 0)]) H nx [] none=K (.pan l) H nx:=by kernel_rfl
theorem qe7(call:zA)(lp:Nat->jk)(lv:zU)(lvc:zT)(r c x:Nat)(k:Int)(H:qd)(nx:Nat)(K:qv):
  qx PG call (lp 36) 36 (qe PG z8) [1,1,0] (qy PG lv lvc K (qF PG z8)) .ret (qj .und [(0,.ptr r 0),(1,iv k),(4,.ptr c 0),(5,.ptr x 0)]) H nx [] none=wf PG qG H (.ptr c 0) λv=>K (.ret v) H nx:=by kernel_rfl
theorem ql6(call:zA)(lp:Nat->jk)(lv:zU)(lvc:zT)(r c x:Nat)(k:Int)(H:qd)(nx:Nat)(K:qv)(l:List (qa×Bool)):
  qx PG call (lp 36) 36 (qe PG z8) [1,1,0] (qy PG lv lvc K (qF PG z8)) (.pan l) (qj .und [(0,.ptr r 0),(1,iv k),(4,.ptr c 0),(5,.ptr x 0)]) H nx [] none=K (.pan l) H nx:=by kernel_rfl
theorem vV.eq{r:Nat}{pK:List (qa×Bool)->qd->Nat->Prop}(h:∀l H nx,pK l H nx=K (.pan l) H nx):vV Z K r pK:=λf Γ H nx hk hp h2=>by rw [h];exact h2 Γ H hk (.refl _ _ _) hp
theorem qhx{Cb:RC}{x:Nat}{kk nn li co:Int}{s:List UInt8}{w:qa}{t:qu}{b:Nat}(hk:HZ Z Γ H nx)(hr:Rd Γ ((Cb.add i).add x) b d)(hi:Res Γ Cb i)(h0:Γ0 i=none/\n0<=i)(hrex:Cb.ex Cb.r)(hw:qI w=true)
  (hn:zy ((Cb.add i).add x).ex Γ [iv kk,.str s,iv nn,iv li,iv co,w] t) (e:res= .ok (t,b)) (hK:Owe Z K Γ0 n0 Γ nx Cb d res (zM Cb.ex)):
  ∃H1,stC H (.ptr i 0) [iv kk,.str s,iv nn,iv li,iv co,w]=some H1/\wf PG qG H1 (.ptr i 0) λv=>K (.ret v) H1 nx:=by
 obtain⟨cs,e0,hl⟩:=hi.e
 refine jj hk e0 (by simp [hl]) (by simp only [qq,hw];rfl) λH1 h1=> ?_
 rw [yV];refine⟨_,_,_,_,_,_,ldAll h1 (qf _ _ _) rfl,(hK.upd h0.1 h0.2).ret e h1 ?_ (((hr.less (.inr hrex)).upd hi.nr hi.nt).less hrex)⟩
 exact(hn.mono (λ_ h=> .inr (.inr h)) λc ds hc e=>by rw [qg λx=>hc (.inr (.inl x))];exact e).v
theorem qm7{s:List UInt8}{K:qv}(h:K (.ret (iv (Ps.rank s))) H nx):qk PG V4 [.str s] H nx K:=by
 refine qk.of_body qr ?_
 rw [qbl];have st:∀{u:List UInt8} {p q:Prop},(s=u->p)->(s≠u->q)->ifB (s==u) p q:=λh1 h2=>qi.2 ⟨λe=>h1 (by simpa using e),λe=>h2 (by simpa using e)⟩
 unfold Ps.rank at h;refine st (λe=>by subst e;simpa using h) λe1=> ?_
 refine st (λe=>by subst e;simpa using h) λe2=> ?_
 refine st (λe=>by subst e;simpa using h) λe3=> ?_
 refine st (λe=>by subst e;simpa using h) λe4=> ?_
 refine st (λe=>by subst e;simpa using h) λe5=> ?_
 refine st (λe=>by subst e;simpa using h) λe6=> ?_
 refine st (λe=>by subst e;simpa using h) λe7=> ?_
 refine st (λe=>by subst e;simpa using h) λe8=> ?_
 refine st (λe=>by subst e;simpa using h) λe9=> ?_
 refine st (λe=>by subst e;simpa using h) λe10=> ?_
 refine st (λe=>by subst e;simpa using h) λe11=> ?_
 refine st (λe=>by subst e;simpa using h) λe12=> ?_
 refine st (λe=>by subst e;simpa using h) λe13=> ?_
 simpa [e1,e2,e3,e4,e5,e6,e7,e8,e9,e10,e11,e12,e13]using h
theorem qiw(s:List UInt8):∃r:Nat,r<=5/\Ps.rank s=(r:Int):=by
 unfold Ps.rank;split
 ·exact⟨1,by omega,rfl⟩
 split
 ·exact⟨2,by omega,rfl⟩
 split
 ·exact⟨3,by omega,rfl⟩
 split
 ·exact⟨4,by omega,rfl⟩
 split
 ·exact⟨5,by omega,rfl⟩
 ·exact⟨0,by omega,rfl⟩
theorem qke(W:zj C.l)(ihs:∀m,m<=n->IH C.l C.r C.tb m)(hd:d<=40)(hrun:Ps.run C.l (n+1) .post d a=some res)(hk:HZ Z Γ H nx)(hr:Rd Γ C a d)(hK:z7 Z K Γ nx C d res (zM C.ex)):qk PG ku [.ptr C.r 0] H nx K:=by
 refine qk.of_body qr ?_
 rw [YX];simp only [Ps.run]at hrun
 have ih:=ihs n (Nat.le_refl n)
 have hrex:=hr.rex
 refine jX hk hr hK λΓ H hk hr hi hf hK kp=> ?_
 refine qR (C:=(C.add nx)) (λZ ex res Γ H nx K h=>ih.prime d hd Z ex _ res Γ H nx K h) hrun hk hr hK rfl .id (λ_ h=>h) λt0 c0 kk0 s0 n0 li0 co0 w0 Γ H x e0 hrun h hk kp hw0 hn0 hr hK=>⟨_,_,_,_,_,_,rfl,?_⟩
 replace hi:=hi.keep kp
 have hmE:=hk.fresh (Nat.le_refl x)
 have hm0:=hK.none hmE (hr.r_ne hmE)
 have hm3:=hr.tb_ne hmE
 replace hn0:=hn0.raise hmE
 refine kv (C:=(C.add nx)) hk hr hw0 hK rfl λΓ H hk hr hx kp hK=> ?_
 replace hi:=hi.keep kp
 replace hr:Rd Γ ((C.add nx).add x) _ d:=hr.add (by rw [hx.e];simp)
 replace hn0:=hn0.keep hr.rex kp
 refine zu (P:=PG) (X:=Unit) (Y:=Unit) (λ_=>qj .und [(0,.ptr C.r 0),(2,.ptr nx 0),(3,.ptr x 0)]) (λ_=>qj .und [])
  (λm _ H1 m1=>x+1<=m1/\m<=n/\∃Γ1 t b kk s n1 li co w,HZ Z Γ1 H1 m1/\Rd Γ1 ((C.add nx).add x) b d/\Res Γ1 C nx/\At Γ1 C.r x [iv kk,.str s,iv n1,iv li,iv co,w]/\zy ((C.add nx).add x).ex Γ1 [iv kk,.str s,iv n1,iv li,iv co,w] t/\Ps.run C.l m (.postGo t) d b=some res/\Owe Z K _ nx Γ1 m1 C d res (zM C.ex))
  (λid _ H3 nx3=>False) n () (ql.okay)
  ⟨Nat.le_refl _,Nat.le_refl _,Γ,t0,c0,_,_,_,_,_,_,hk,hr,hi,hx,hn0,hrun,hK⟩ ?_ ?_
 ·rintro m _ H m1 ⟨h,hmn,Γ,t,b,kk,s,n1,li,co,w,hk,hr,hi,hx,hnx,hrun,hK⟩
  refine WpP.trim (ts:=[0,2,3]) (WpP.weaken (e:=qj .und [(3,.ptr x 0),(2,.ptr nx 0),(0,.ptr C.r 0)]) (ql.okay) (WpP.of_vK qr ?_))
  rw [qk1];cases m with
  |zero=>simp [Ps.run]at hrun
  |succ m=>
  have ih:=ihs m (by omega)
  simp only [Ps.run]at hrun
  have hpan:vV Z K C.r λl H nx2=>qx PG (qk PG) (LpP PG 30) 30 (qe PG ku) [1,1,0] (qy PG (zx (qB PG)) (qS PG (qB PG)) K (qF PG ku)) (.pan l) (qj .und [(0,.ptr C.r 0),(2,.ptr nx 0),(3,.ptr x 0)]) H nx2 [] none:= .eq λl H nx2=>qjz (qk PG) (LpP PG) (zx (qB PG)) (qS PG (qB PG)) C.r nx x H nx2 K l
  refine kH (C:=((C.add nx).add x)) hk hr hK λH m1_26 h hk hK=>⟨_,_,_,_,_,rfl,?_⟩
  refine vv (C:=((C.add nx).add x)) hk hr hK rfl λΓ H hk hr ht kp hK=> ?_
  replace hi:=hi.keep kp;replace hx:=hx.keep kp;replace hnx:=hnx.keep hr.rex kp
  refine zi (C:=((C.add nx).add x)) W hrun hk hr hK rfl (λ_ h=>h) (λΓ H m2_29 his hrun h hk kp hr hK=>⟨_,rfl,qK rfl ?_⟩) (λH m2_29 his hrun h hk hK=>⟨_,rfl,qH rfl ?_⟩)
  ·
   replace hi:=hi.keep kp;replace hx:=hx.keep kp;replace hnx:=hnx.keep hr.rex kp;replace ht:=ht.keep kp
   refine qR (C:=((C.add nx).add x)) (λZ ex res Γ H nx K h=>ih.expr d hd Z ex _ res Γ H nx K h) hrun hk hr hK rfl hpan (λ_ h=>h) λt1 c1 kk1 s1 n1 li1 co1 w1 Γ H m3_32 e1 hrun h hk kp hw1 hn1 hr hK=>⟨_,_,_,_,_,_,rfl,?_⟩
   replace hi:=hi.keep kp;replace hx:=hx.keep kp;replace hnx:=hnx.keep hr.rex kp;replace ht:=ht.keep kp
   refine kv (C:=((C.add nx).add x)) hk hr hw1 hK rfl λΓ H hk hr hb1 kp hK=> ?_
   replace hi:=hi.keep kp;replace hx:=hx.keep kp;replace hnx:=hnx.keep hr.rex kp;replace ht:=ht.keep kp;replace hn1:=hn1.keep hr.rex kp
   refine zZ (C:=((C.add nx).add x)) W hrun hk hr hK rfl hpan (λ_ h=>h) λΓ H m4_36 his hrun h hk kp hr hK=>⟨_,_,_,_,_,rfl,?_⟩
   replace hi:=hi.keep kp;replace hx:=hx.keep kp;replace hnx:=hnx.keep hr.rex kp;replace ht:=ht.keep kp;replace hn1:=hn1.keep hr.rex kp;replace hb1:=hb1.keep kp
   refine⟨_,_,_,_,_,ht.tok hk,_,_,_,_,_,_,ldAll hk hx.e rfl,_,_,_,_,_,_,ldAll hk hb1.e rfl,?_⟩
   refine Zm (nx':=m4_36+1) (C:=((C.add nx).add x)) hk lR (by omega) hr hK rfl λΓ H hk hr hb hxhb kp hK=> ?_
   replace hi:=hi.keep kp;replace hx:=hx.keep kp;replace hnx:=hnx.keep hr.rex kp;replace ht:=ht.keep kp;replace hn1:=hn1.keep hr.rex kp;replace hb1:=hb1.keep kp
   refine z6 (C:=((C.add nx).add x)) hk (qZ.blk (n:=2) hxhb hb.e (.cons hnx hn1.one) rfl) hK λH m8 h hk hn2 hw2 hK=>⟨_,_,_,_,_,_,rfl,?_⟩
   refine jj hk hx.e rfl (by simp only [qq,hw2];rfl) λH hk=> ?_
   replace hK:=hK.upd (i:=x) (cs:=some [iv 32,.str [],iv 0,iv (Ps.tk C.l b).line,iv (Ps.tk C.l b).col,qa.slice m4_36 0 2 6 true]) hm0 (by omega)
   replace hr:=hr.upd (cs:=[iv 32,.str [],iv 0,iv (Ps.tk C.l b).line,iv (Ps.tk C.l b).col,qa.slice m4_36 0 2 6 true]) (b:=x) hx.ne hm3
   replace hi:=hi.set (i:=x) (cs:=some [iv 32,.str [],iv 0,iv (Ps.tk C.l b).line,iv (Ps.tk C.l b).col,qa.slice m4_36 0 2 6 true]) (by omega)
   replace hx:=hx.same (ds:=[iv 32,.str [],iv 0,iv (Ps.tk C.l b).line,iv (Ps.tk C.l b).col,qa.slice m4_36 0 2 6 true])
   replace hn2:=hn2.set (cs:=some [iv 32,.str [],iv 0,iv (Ps.tk C.l b).line,iv (Ps.tk C.l b).col,qa.slice m4_36 0 2 6 true])
   exact⟨rfl,m,(),Nat.lt_succ_self m,ql.okay,by omega,by omega,_,_,_,_,_,_,_,_,_,hk,hr,hi,hx,hn2,hrun,hK⟩
  refine zi (C:=((C.add nx).add x)) W hrun hk hr hK rfl (λ_ h=>h) (λΓ H m3_49 his hrun h hk kp hr hK=>⟨_,rfl,qK rfl ?_⟩) (λH m3_49 his hrun h hk hK=>⟨_,rfl,qH rfl ?_⟩)
  ·
   replace hi:=hi.keep kp;replace hx:=hx.keep kp;replace hnx:=hnx.keep hr.rex kp;replace ht:=ht.keep kp
   replace hrun:=(qjm (k:=λy c=>Ps.run C.l m (.postGo y) d c)).trans hrun
   refine⟨_,_,_,_,_,ht.tok hk,_,_,_,_,_,_,ldAll hk hx.e rfl,?_⟩
   refine qk2 (one:=qld C.l m d (Ps.tk C.l b) t) (C:=((C.add nx).add x)) (λres K h hM=>qod (C:=((C.add nx).add x)) W ih hd h hnx hk hr hM) hrun hK rfl hpan (λ_ h=>h) λt2 c2 kk2 s2 n2 li2 co2 w2 Γ H m8 e2 hrun h hk kp hw2 hn2 hr hK=>⟨_,_,_,_,_,_,rfl,?_⟩
   replace hi:=hi.keep kp;replace hx:=hx.keep kp;replace hnx:=hnx.keep hr.rex kp;replace ht:=ht.keep kp
   refine jj hk hx.e rfl (by simp only [qq,hw2];rfl) λH hk=> ?_
   replace hK:=hK.upd (i:=x) (cs:=some [iv kk2,.str s2,iv n2,iv li2,iv co2,w2]) hm0 (by omega)
   replace hr:=hr.upd (cs:=[iv kk2,.str s2,iv n2,iv li2,iv co2,w2]) (b:=x) hx.ne hm3
   replace hi:=hi.set (i:=x) (cs:=some [iv kk2,.str s2,iv n2,iv li2,iv co2,w2]) (by omega)
   replace hx:=hx.same (ds:=[iv kk2,.str s2,iv n2,iv li2,iv co2,w2])
   replace hn2:=hn2.set (cs:=some [iv kk2,.str s2,iv n2,iv li2,iv co2,w2])
   exact⟨rfl,m,(),Nat.lt_succ_self m,ql.okay,by omega,by omega,_,_,_,_,_,_,_,_,_,hk,hr,hi,hx,hn2,hrun,hK⟩
  refine⟨_,_,_,_,_,_,ldAll hk hx.e rfl,?_⟩
  cases hrun
  obtain⟨H2,q1,q2⟩:=qhx hk hr hi hf hrex (VZ hnx) hnx rfl hK
  exact⟨H2,q1,Eq.mpr (qhm (qk PG) (LpP PG) (zx (qB PG)) (qS PG (qB PG)) C.r nx x H2 _ K) q2⟩
 ·rintro id _ H3 nx3 hx
  exact hx.elim
theorem qge{k:Nat}(W:zj C.l)(ihs:∀m,m<=n->IH C.l C.r C.tb m)(hd:d<=40)(hrun:Ps.run C.l (n+1) (.binary k) d a=some res)(hk:HZ Z Γ H nx)(hr:Rd Γ C a d)(hK:z7 Z K Γ nx C d res (zM C.ex)):qk PG z8 [.ptr C.r 0,iv k] H nx K:=by
 refine qk.of_body qr ?_
 rw [Wq];simp only [Ps.run]at hrun
 have ih:=ihs n (Nat.le_refl n)
 have hrex:=hr.rex
 refine jX hk hr hK λΓ H hk hr hi hf hK kp=> ?_
 refine qR (C:=(C.add nx)) (λZ ex res Γ H nx K h=>ih.unary d hd Z ex _ res Γ H nx K h) hrun hk hr hK rfl .id (λ_ h=>h) λt0 c0 kk0 s0 n0 li0 co0 w0 Γ H x e0 hrun h hk kp hw0 hn0 hr hK=>⟨_,_,_,_,_,_,rfl,?_⟩
 replace hi:=hi.keep kp
 have hmE:=hk.fresh (Nat.le_refl x)
 have hm0:=hK.none hmE (hr.r_ne hmE)
 have hm3:=hr.tb_ne hmE
 replace hn0:=hn0.raise hmE
 refine kv (C:=(C.add nx)) hk hr hw0 hK rfl λΓ H hk hr hx kp hK=> ?_
 replace hi:=hi.keep kp
 replace hr:Rd Γ ((C.add nx).add x) _ d:=hr.add (by rw [hx.e];simp)
 replace hn0:=hn0.keep hr.rex kp
 refine zu (P:=PG) (X:=Unit) (Y:=Unit) (λ_=>qj .und [(0,.ptr C.r 0),(1,iv k),(4,.ptr nx 0),(5,.ptr x 0)]) (λ_=>qj .und [])
  (λm _ H1 m1=>x+1<=m1/\m<=n/\∃Γ1 t b kk s n1 li co w,HZ Z Γ1 H1 m1/\Rd Γ1 ((C.add nx).add x) b d/\Res Γ1 C nx/\At Γ1 C.r x [iv kk,.str s,iv n1,iv li,iv co,w]/\zy ((C.add nx).add x).ex Γ1 [iv kk,.str s,iv n1,iv li,iv co,w] t/\Ps.run C.l m (.binGo k t) d b=some res/\Owe Z K _ nx Γ1 m1 C d res (zM C.ex))
  (λid _ H3 nx3=>False) n () (ql.okay)
  ⟨Nat.le_refl _,Nat.le_refl _,Γ,t0,c0,_,_,_,_,_,_,hk,hr,hi,hx,hn0,hrun,hK⟩ ?_ ?_
 ·rintro m _ H m1 ⟨h,hmn,Γ,t,b,kk,s,n1,li,co,w,hk,hr,hi,hx,hnx,hrun,hK⟩
  refine WpP.trim (ts:=[0,1,4,5]) (WpP.weaken (e:=qj .und [(5,.ptr x 0),(4,.ptr nx 0),(1,iv k),(0,.ptr C.r 0)]) (ql.okay) (WpP.of_vK qr ?_))
  rw [qkq];cases m with
  |zero=>simp [Ps.run]at hrun
  |succ m=>
  have ih:=ihs m (by omega)
  simp only [Ps.run]at hrun
  have hpan:vV Z K C.r λl H nx2=>qx PG (qk PG) (LpP PG 36) 36 (qe PG z8) [1,1,0] (qy PG (zx (qB PG)) (qS PG (qB PG)) K (qF PG z8)) (.pan l) (qj .und [(0,.ptr C.r 0),(1,iv k),(4,.ptr nx 0),(5,.ptr x 0)]) H nx2 [] none:= .eq λl H nx2=>ql6 (qk PG) (LpP PG) (zx (qB PG)) (qS PG (qB PG)) C.r nx x k H nx2 K l
  refine kH (C:=((C.add nx).add x)) hk hr hK λH m1_26 h hk hK=>⟨_,_,_,_,_,rfl,?_⟩
  refine vv (C:=((C.add nx).add x)) hk hr hK rfl λΓ H hk hr ht kp hK=> ?_
  replace hi:=hi.keep kp;replace hx:=hx.keep kp;replace hnx:=hnx.keep hr.rex kp
  refine⟨_,rfl,_,ht.ld hk 1,qm7 (qb.2 ⟨_,rfl,_,rfl,_,ht.ld hk 0,?_⟩)⟩
  refine qi.2 ⟨λh1=> ?_,λh1=> ?_⟩
  ·
   have h1:¬(Ps.tk C.l b).kind=6:=by simpa using h1
   rw [if_neg (by simp [h1])]at hrun
   cases hrun
   obtain⟨H2,q1,q2⟩:=qhx hk hr hi hf hrex (VZ hnx) hnx rfl hK
   exact⟨_,_,_,_,_,_,ldAll hk hx.e rfl,H2,q1,Eq.mpr (qe7 (qk PG) (LpP PG) (zx (qB PG)) (qS PG (qB PG)) C.r nx x k H2 _ K) q2⟩
  have h1:(Ps.tk C.l b).kind=6:=by simpa using h1
  refine qi.2 ⟨λh2=> ?_,λh2=> ?_⟩
  ·
   have h2:Ps.rank (Ps.tk C.l b).text<(k:Int):=of_decide_eq_true h2
   rw [if_neg (by simp [h1];omega)]at hrun
   cases hrun
   obtain⟨H2,q1,q2⟩:=qhx hk hr hi hf hrex (VZ hnx) hnx rfl hK
   exact⟨_,_,_,_,_,_,ldAll hk hx.e rfl,H2,q1,Eq.mpr (qe7 (qk PG) (LpP PG) (zx (qB PG)) (qS PG (qB PG)) C.r nx x k H2 _ K) q2⟩
  have h2:¬Ps.rank (Ps.tk C.l b).text<(k:Int):=of_decide_eq_false h2
  rw [if_pos (by simp [h1];omega)]at hrun
  obtain⟨rk,hrk,erk⟩:=qiw (Ps.tk C.l b).text
  refine ZZ (C:=((C.add nx).add x)) W hk hr (by show(Ps.tk C.l b).kind≠0;rw [h1];decide) λΓ H mN h hk kp hr=>qb.2 ⟨_,_,_,_,_,rfl,?_⟩
  replace hK:=hK.from h kp
  replace hi:=hi.keep kp;replace hx:=hx.keep kp;replace hnx:=hnx.keep hr.rex kp;replace ht:=ht.keep kp
  refine⟨_,_,_,_,_,ht.tok hk,_,rfl,_,ht.ld hk 1,_,_,_,_,_,_,ldAll hk hx.e rfl,⟨⟨_,_,_,_,_,ht.tok hk,rfl⟩,⟨_,ht.ld hk 1,rfl⟩,⟨_,_,_,_,_,_,ldAll hk hx.e rfl,rfl⟩,trivial⟩,?_⟩
  show qk PG z8 [.ptr C.r 0,iv (i64.wrap (Ps.rank (Ps.tk C.l b).text+1))] H (mN+11) _
  rw [erk]at hrun ⊢;rw [qw (by omega) (by omega),show((rk:Int)+1)=((rk+1:Nat):Int) by omega]
  rw [show((rk:Int)+1)=((rk+1:Nat):Int) by omega]at hrun
  obtain⟨hk',hni⟩:=jx (i:=mN+8) (nx':=mN+11) hk (by omega) (by omega)
  refine qR (C:=((C.add nx).add x)) (λZ ex res Γ H nx K h=>ih.binary (rk+1) d hd Z ex _ res Γ H nx K h) hrun hk' hr (hK.from (by omega) (.refl _ _ _)) rfl hpan wg λt1 c1 kk1 s1 n1 li1 co1 w1 Γ H m2_57 e1 hrun h hk kp hw1 hn1 hr hK=>⟨_,_,_,_,_,_,rfl,?_⟩
  replace hi:=hi.keep kp;replace hx:=hx.keep kp;replace hnx:=hnx.keep hr.rex kp;replace ht:=ht.keep kp
  refine jw (C:=((C.add nx).add x)) hk hni hr hK rfl (by omega) λΓ H hk hr hb hxhb kp hK=> ?_
  replace hi:=hi.keep kp;replace hx:=hx.keep kp;replace hnx:=hnx.keep hr.rex kp;replace ht:=ht.keep kp;replace hn1:=hn1.keep hr.rex kp
  refine⟨⟨⟨_,_,_,_,_,ht.tok hk,rfl⟩,⟨_,ht.ld hk 1,rfl⟩,⟨_,_,_,_,_,_,ldAll hk hx.e rfl,rfl⟩,trivial⟩,?_⟩
  refine z6 (C:=((C.add nx).add x)) hk (qZ.blk (n:=2) hxhb hb.e (.cons hnx hn1.one) rfl) hK λH m8 h hk hn2 hw2 hK=>⟨_,_,_,_,_,_,rfl,trivial,?_⟩
  obtain⟨H2,q1,q2⟩:=jj (k:=λH=>HZ Z (gup x (some [iv 28,.str (Ps.tk C.l b).text,iv 0,iv (Ps.tk C.l b).line,iv (Ps.tk C.l b).col,qa.slice (mN+8) 0 2 6 true]) _) H _) hk hx.e (vs:=[iv 28,.str (Ps.tk C.l b).text,iv 0,iv (Ps.tk C.l b).line,iv (Ps.tk C.l b).col,qa.slice (mN+8) 0 2 6 true]) rfl (by simp only [qq,hw2];rfl) λH hk=>hk
  refine⟨H2,q1,trivial,?_⟩
  replace hk:=q2
  replace hK:=hK.upd (i:=x) (cs:=some [iv 28,.str (Ps.tk C.l b).text,iv 0,iv (Ps.tk C.l b).line,iv (Ps.tk C.l b).col,qa.slice (mN+8) 0 2 6 true]) hm0 (by omega)
  replace hr:=hr.upd (cs:=[iv 28,.str (Ps.tk C.l b).text,iv 0,iv (Ps.tk C.l b).line,iv (Ps.tk C.l b).col,qa.slice (mN+8) 0 2 6 true]) (b:=x) hx.ne hm3
  replace hi:=hi.set (i:=x) (cs:=some [iv 28,.str (Ps.tk C.l b).text,iv 0,iv (Ps.tk C.l b).line,iv (Ps.tk C.l b).col,qa.slice (mN+8) 0 2 6 true]) (by omega)
  replace hx:=hx.same (ds:=[iv 28,.str (Ps.tk C.l b).text,iv 0,iv (Ps.tk C.l b).line,iv (Ps.tk C.l b).col,qa.slice (mN+8) 0 2 6 true])
  replace hn2:=hn2.set (cs:=some [iv 28,.str (Ps.tk C.l b).text,iv 0,iv (Ps.tk C.l b).line,iv (Ps.tk C.l b).col,qa.slice (mN+8) 0 2 6 true])
  exact⟨rfl,m,(),Nat.lt_succ_self m,ql.okay,by omega,by omega,_,_,_,_,_,_,_,_,_,hk,hr,hi,hx,hn2,hrun,hK⟩
 ·rintro id _ H3 nx3 hx
  exact hx.elim
end
section
variable{Γ0 Γ:GH}{n0:Nat}{H:qd}{nx a d n i:Nat}{C:RC}{K:qv}{res:Except Flt (qu×Nat)}
theorem WJ{β:Type}{l:List Tok}{a:Nat}{k:qu×Nat->Rs β}:Ps.lift (Ps.recv l a) k=(if Ps.is l a [40]=true then Ps.lift (Ps.name l (a+1)) λb=>Ps.lift (Ps.name l b) λc=>Ps.lift (Ps.need l c [41]) λd=>k (Ps.mk (Ps.tk l (a+1)) 7 (Ps.tk l (a+1)).text [Ps.mk (Ps.tk l b) 8 (Ps.tk l b).text []],d)else k (Ps.none_,a)):=by
 unfold Ps.recv;split
 ·cases Ps.name l (a+1)with
  |error f=>rfl
  |ok b=>
   show Ps.lift (Ps.name l b>>=_) k=Ps.lift (Ps.name l b) _
   cases Ps.name l b with
   |error f=>rfl
   |ok c=>
    show Ps.lift (Ps.need l c [41]>>=_) k=Ps.lift (Ps.need l c [41]) _
    cases Ps.need l c [41]<;>rfl
 ·rfl
theorem Y9(W:zj C.l)(ih:IH C.l C.r C.tb n)(hrun:Ps.funcDecl C.l n a=some res)(hk:HZ Z Γ H nx)(hr:Rd Γ C a 0)(hK:z7 Z K Γ nx C 0 res (zM C.ex)):qk PG yo [.ptr C.r 0] H nx K:=by
 refine qk.of_body qr ?_
 rw [Ko];unfold Ps.funcDecl Ps.result at hrun;have hrex:=hr.rex
 refine jX hk hr hK λΓ H hk hr hi hf hK kp=> ?_
 refine zZ (C:=(C.add nx)) W hrun hk hr hK rfl .id (λ_ h=>h) λΓ H m1_2 his hrun h hk kp hr hK=>⟨_,_,_,_,_,rfl,?_⟩
 replace hi:=hi.keep kp
 refine vv (C:=(C.add nx)) hk hr hK rfl λΓ H hk hr ht kp hK=> ?_
 replace hi:=hi.keep kp
 refine vB (C:=C.add nx) hk hK λH x h hk hn0 hK=>⟨_,_,_,_,_,_,rfl,?_⟩
 have hmE:=hk.fresh (Nat.le_refl x)
 have hm0:=hK.none hmE (hr.r_ne hmE)
 have hm3:=hr.tb_ne hmE
 replace hn0:=hn0.raise hmE
 refine kv (C:=(C.add nx)) hk hr rfl hK rfl λΓ H hk hr hx kp hK=> ?_
 replace hi:=hi.keep kp;replace ht:=ht.keep kp
 replace hr:Rd Γ ((C.add nx).add x) _ 0:=hr.add (by rw [hx.e];simp)
 replace hn0:=hn0.keep hr.rex kp
 replace hrun:=WJ.symm.trans hrun
 refine zi (C:=((C.add nx).add x)) W hrun hk hr hK rfl (λ_ h=>h) (λΓ H m2_16 his hrun h hk kp hr hK=>⟨_,rfl,qK rfl ?_⟩) (λH m2_16 his hrun h hk hK=>⟨_,rfl,qH rfl ?_⟩)
 ·
  replace hi:=hi.keep kp;replace ht:=ht.keep kp;replace hx:=hx.keep kp;replace hn0:=hn0.keep hr.rex kp
  refine jY (C:=((C.add nx).add x)) W hrun hk hr hK rfl .id (λ_ h=>h) λΓ H m3_19 hkd hrun h hk kp hr hK=>⟨_,_,_,_,_,rfl,?_⟩
  replace hi:=hi.keep kp;replace ht:=ht.keep kp;replace hx:=hx.keep kp;replace hn0:=hn0.keep hr.rex kp
  refine vv (C:=((C.add nx).add x)) hk hr hK rfl λΓ H hk hr h1 kp hK=> ?_
  replace hi:=hi.keep kp;replace ht:=ht.keep kp;replace hx:=hx.keep kp;replace hn0:=hn0.keep hr.rex kp
  refine jY (C:=((C.add nx).add x)) W hrun hk hr hK rfl .id (λ_ h=>h) λΓ H m4_23 hkd hrun h hk kp hr hK=>⟨_,_,_,_,_,rfl,?_⟩
  replace hi:=hi.keep kp;replace ht:=ht.keep kp;replace hx:=hx.keep kp;replace hn0:=hn0.keep hr.rex kp;replace h1:=h1.keep kp
  refine vv (C:=((C.add nx).add x)) hk hr hK rfl λΓ H hk hr h2 kp hK=> ?_
  replace hi:=hi.keep kp;replace ht:=ht.keep kp;replace hx:=hx.keep kp;replace hn0:=hn0.keep hr.rex kp;replace h1:=h1.keep kp
  refine⟨_,_,_,_,_,h1.tok hk,_,rfl,_,h1.ld hk 1,_,_,_,_,_,h2.tok hk,_,rfl,_,h2.ld hk 1,⟨⟨_,_,_,_,_,h1.tok hk,rfl⟩,⟨_,h1.ld hk 1,rfl⟩,⟨_,_,_,_,_,h2.tok hk,rfl⟩,⟨_,h2.ld hk 1,rfl⟩,trivial⟩,?_⟩
  obtain⟨hk',hni⟩:=jx (i:=m4_23+1+7) (nx':=m4_23+1+10) hk (by omega) (by omega)
  refine z6 (C:=((C.add nx).add x)) (ts:=[]) hk' .nil (hK.from (by omega) (.refl _ _ _)) λH m7 h hk hn7 hw7 hK=>⟨_,_,_,_,_,_,rfl,?_⟩
  refine jw (C:=((C.add nx).add x)) hk hni hr hK rfl (by omega) λΓ H hk hr hb hxhb kp hK=> ?_
  replace hi:=hi.keep kp;replace ht:=ht.keep kp;replace hx:=hx.keep kp;replace hn0:=hn0.keep hr.rex kp;replace h1:=h1.keep kp;replace h2:=h2.keep kp
  replace hn7:=hn7.keep hr.rex kp
  refine⟨⟨⟨_,_,_,_,_,h1.tok hk,rfl⟩,⟨_,h1.ld hk 1,rfl⟩,trivial⟩,?_⟩
  refine z6 (C:=((C.add nx).add x)) hk (qZ.blk (n:=1) hxhb hb.e hn7.one rfl) hK λH m8 h hk hn8 hw8 hK=>⟨_,_,_,_,_,_,rfl,trivial,?_⟩
  obtain⟨cs8,ecs8⟩:∃cs,cs=[iv 7,.str (Ps.tk C.l (a+1+1)).text,iv 0,iv (Ps.tk C.l (a+1+1)).line,iv (Ps.tk C.l (a+1+1)).col,qa.slice (m4_23+1+7) 0 1 6 true]:=⟨_,rfl⟩
  obtain⟨H2,q1,q2⟩:=jj (k:=λH=>HZ Z (gup x (some cs8) _) H _) hk hx.e (vs:=cs8) (by rw [ecs8];rfl) (by rw [ecs8];simp only [qq,hw8];rfl) λH hk=>hk
  refine⟨H2,by rw [ecs8]at q1;exact q1,trivial,?_⟩
  replace hk:=q2
  replace hK:=hK.upd (i:=x) (cs:=some cs8) hm0 (by omega)
  replace hr:=hr.upd (cs:=cs8) (b:=x) hx.ne hm3
  replace hi:=hi.set (i:=x) (cs:=some cs8) (by omega)
  replace ht:=ht.set (j:=x) (ds:=some cs8) (by omega)
  replace hx:=hx.same (ds:=cs8)
  replace hn0:=hn8.set (cs:=some cs8)
  subst ecs8;refine zZ (C:=((C.add nx).add x)) W hrun hk hr hK rfl .id (λ_ h=>h) λΓ H m5_46 his hrun h hk kp hr hK=>⟨_,_,_,_,_,rfl,?_⟩
  replace hi:=hi.keep kp;replace ht:=ht.keep kp;replace hx:=hx.keep kp;replace hn0:=hn0.keep hr.rex kp
  refine jY (C:=((C.add nx).add x)) W hrun hk hr hK rfl .id (λ_ h=>h) λΓ H m6_48 hkd hrun h hk kp hr hK=>⟨_,_,_,_,_,rfl,?_⟩
  replace hi:=hi.keep kp;replace ht:=ht.keep kp;replace hx:=hx.keep kp;replace hn0:=hn0.keep hr.rex kp
  refine QQ (C:=((C.add nx).add x)) W (wb rfl) qan (ih.param 0 (by omega)) hrun hk hr hK rfl .id (λ_ h=>h) λts b v Γ H m7_50 erow hrun h hk kp hv hr hK=> ?_
  replace hi:=hi.keep kp;replace ht:=ht.keep kp;replace hx:=hx.keep kp;replace hn0:=hn0.keep hr.rex kp
  have hlen:=KD (wb (by rfl)) erow
  have hlt:b<C.l.length:=hr.lt
  have hW:=W.few
  refine qR (one:=we C.l n 0) (C:=((C.add nx).add x)) (λZ ex res Γ H nx K h h2 h3 h4=>Jt (C:=⟨C.r,C.tb,C.l,ex⟩) W ih (by omega) h h2 h3 h4) hrun hk hr hK rfl .id (λ_ h=>h) λt1 c1 kk1 s1 n1 li1 co1 w1 Γ H m8_55 e1 hrun h hk kp hw1 hn1 hr hK=>⟨_,_,_,_,_,_,rfl,?_⟩
  replace hi:=hi.keep kp;replace ht:=ht.keep kp;replace hx:=hx.keep kp;replace hn0:=hn0.keep hr.rex kp;replace hv:=hv.keep hr.rex kp
  refine kv (C:=((C.add nx).add x)) hk hr hw1 hK rfl λΓ H hk hr hb1 kp hK=> ?_
  replace hi:=hi.keep kp;replace ht:=ht.keep kp;replace hx:=hx.keep kp;replace hn0:=hn0.keep hr.rex kp;replace hv:=hv.keep hr.rex kp;replace hn1:=hn1.keep hr.rex kp
  refine⟨_,_,_,_,_,ht.tok hk,_,_,_,_,_,_,ldAll hk hx.e rfl,_,_,_,_,_,_,ldAll hk hb1.e rfl,⟨⟨_,_,_,_,_,ht.tok hk,rfl⟩,⟨_,_,_,_,_,_,ldAll hk hx.e rfl,rfl⟩,⟨_,_,_,_,_,_,ldAll hk hb1.e rfl,rfl⟩,trivial⟩,?_⟩
  obtain⟨hk',hni⟩:=jx (i:=m8_55+1+6) (nx':=m8_55+1+11) hk (by omega) (by omega)
  refine qR (C:=((C.add nx).add x)) (λZ ex res Γ H nx K h=>ih.block 0 (by omega) Z ex _ res Γ H nx K h) hrun hk' hr (hK.from (by omega) (.refl _ _ _)) rfl .id wg λt2 c2 kk2 s2 n2 li2 co2 w2 Γ H m9_61 e2 hrun h hk kp hw2 hn2 hr hK=>⟨_,_,_,_,_,_,rfl,?_⟩
  replace hi:=hi.keep kp;replace ht:=ht.keep kp;replace hx:=hx.keep kp;replace hn0:=hn0.keep hr.rex kp;replace hv:=hv.keep hr.rex kp;replace hn1:=hn1.keep hr.rex kp
  replace hb1:=hb1.keep kp
  refine jw (C:=((C.add nx).add x)) hk hni hr hK rfl (by omega) λΓ H hk hr hb hxhb kp hK=> ?_
  replace hi:=hi.keep kp;replace ht:=ht.keep kp;replace hx:=hx.keep kp;replace hn0:=hn0.keep hr.rex kp;replace hv:=hv.keep hr.rex kp;replace hn1:=hn1.keep hr.rex kp
  replace hb1:=hb1.keep kp;replace hn2:=hn2.keep hr.rex kp
  refine⟨⟨⟨_,_,_,_,_,ht.tok hk,rfl⟩,⟨_,_,_,_,_,_,ldAll hk hx.e rfl,rfl⟩,⟨_,_,_,_,_,_,ldAll hk hb1.e rfl,rfl⟩,trivial⟩,?_⟩
  refine qlz (t1:=[_,_,_]) (C:=((C.add nx).add x)) hk hr hb.e hxhb (.cons hn0 (.cons hn1 hn2.one)) (by simp) hv (by simp;omega) rfl λw Γ H m9 h hk kp hr hv=> ?_
  replace hi:=hi.keep kp;replace ht:=ht.keep kp;replace hx:=hx.keep kp;replace hn0:=hn0.keep hr.rex kp;replace hn1:=hn1.keep hr.rex kp;replace hb1:=hb1.keep kp
  replace hn2:=hn2.keep hr.rex kp;replace hb:=hb.keep kp
  replace hK:=hK.from h kp
  cases hrun
  exact⟨⟨⟨_,_,_,_,_,ht.tok hk,rfl⟩,trivial⟩,jW hk (hr.less (.inr hrex)) hi hf hrex (hv.mono (λ_ h=> .inr h) λ_ _ _ h=>h) rfl hK⟩
 refine jY (C:=((C.add nx).add x)) W hrun hk hr hK rfl .id (λ_ h=>h) λΓ H m3_74 hkd hrun h hk kp hr hK=>⟨_,_,_,_,_,rfl,?_⟩
 replace hi:=hi.keep kp;replace ht:=ht.keep kp;replace hx:=hx.keep kp;replace hn0:=hn0.keep hr.rex kp
 refine QQ (C:=((C.add nx).add x)) W (wb rfl) qan (ih.param 0 (by omega)) hrun hk hr hK rfl .id (λ_ h=>h) λts b v Γ H m4_76 erow hrun h hk kp hv hr hK=> ?_
 replace hi:=hi.keep kp;replace ht:=ht.keep kp;replace hx:=hx.keep kp;replace hn0:=hn0.keep hr.rex kp
 have hlen:=KD (wb (by rfl)) erow
 have hlt:b<C.l.length:=hr.lt
 have hW:=W.few
 refine qR (one:=we C.l n 0) (C:=((C.add nx).add x)) (λZ ex res Γ H nx K h h2 h3 h4=>Jt (C:=⟨C.r,C.tb,C.l,ex⟩) W ih (by omega) h h2 h3 h4) hrun hk hr hK rfl .id (λ_ h=>h) λt1 c1 kk1 s1 n1 li1 co1 w1 Γ H m5_81 e1 hrun h hk kp hw1 hn1 hr hK=>⟨_,_,_,_,_,_,rfl,?_⟩
 replace hi:=hi.keep kp;replace ht:=ht.keep kp;replace hx:=hx.keep kp;replace hn0:=hn0.keep hr.rex kp;replace hv:=hv.keep hr.rex kp
 refine kv (C:=((C.add nx).add x)) hk hr hw1 hK rfl λΓ H hk hr hb1 kp hK=> ?_
 replace hi:=hi.keep kp;replace ht:=ht.keep kp;replace hx:=hx.keep kp;replace hn0:=hn0.keep hr.rex kp;replace hv:=hv.keep hr.rex kp;replace hn1:=hn1.keep hr.rex kp
 refine⟨_,_,_,_,_,ht.tok hk,_,_,_,_,_,_,ldAll hk hx.e rfl,_,_,_,_,_,_,ldAll hk hb1.e rfl,⟨⟨_,_,_,_,_,ht.tok hk,rfl⟩,⟨_,_,_,_,_,_,ldAll hk hx.e rfl,rfl⟩,⟨_,_,_,_,_,_,ldAll hk hb1.e rfl,rfl⟩,trivial⟩,?_⟩
 obtain⟨hk',hni⟩:=jx (i:=m5_81+1+6) (nx':=m5_81+1+11) hk (by omega) (by omega)
 refine qR (C:=((C.add nx).add x)) (λZ ex res Γ H nx K h=>ih.block 0 (by omega) Z ex _ res Γ H nx K h) hrun hk' hr (hK.from (by omega) (.refl _ _ _)) rfl .id wg λt2 c2 kk2 s2 n2 li2 co2 w2 Γ H m6_87 e2 hrun h hk kp hw2 hn2 hr hK=>⟨_,_,_,_,_,_,rfl,?_⟩
 replace hi:=hi.keep kp;replace ht:=ht.keep kp;replace hx:=hx.keep kp;replace hn0:=hn0.keep hr.rex kp;replace hv:=hv.keep hr.rex kp;replace hn1:=hn1.keep hr.rex kp
 replace hb1:=hb1.keep kp
 refine jw (C:=((C.add nx).add x)) hk hni hr hK rfl (by omega) λΓ H hk hr hb hxhb kp hK=> ?_
 replace hi:=hi.keep kp;replace ht:=ht.keep kp;replace hx:=hx.keep kp;replace hn0:=hn0.keep hr.rex kp;replace hv:=hv.keep hr.rex kp;replace hn1:=hn1.keep hr.rex kp
 replace hb1:=hb1.keep kp;replace hn2:=hn2.keep hr.rex kp
 refine⟨⟨⟨_,_,_,_,_,ht.tok hk,rfl⟩,⟨_,_,_,_,_,_,ldAll hk hx.e rfl,rfl⟩,⟨_,_,_,_,_,_,ldAll hk hb1.e rfl,rfl⟩,trivial⟩,?_⟩
 refine qlz (t1:=[_,_,_]) (C:=((C.add nx).add x)) hk hr hb.e hxhb (.cons hn0 (.cons hn1 hn2.one)) (by simp) hv (by simp;omega) rfl λw Γ H m9 h hk kp hr hv=> ?_
 replace hi:=hi.keep kp;replace ht:=ht.keep kp;replace hx:=hx.keep kp;replace hn0:=hn0.keep hr.rex kp;replace hn1:=hn1.keep hr.rex kp;replace hb1:=hb1.keep kp
 replace hn2:=hn2.keep hr.rex kp;replace hb:=hb.keep kp
 replace hK:=hK.from h kp
 cases hrun
 exact⟨⟨⟨_,_,_,_,_,ht.tok hk,rfl⟩,trivial⟩,jW hk (hr.less (.inr hrex)) hi hf hrex (hv.mono (λ_ h=> .inr h) λ_ _ _ h=>h) rfl hK⟩
theorem WZ{Γ3 Γ4 Γ6:GH}{N nk nx6 b c:Nat}{o:qa}{ts:List qu}{x:qu}{H6:qd}{kk nn li co:Int}{s:List UInt8}{w:qa}{N':qa->qd->Nat->Prop}{P1 P2:List (qa×Bool)->qa->qd->Nat->Prop}(W:zj C.l)(gr:yO C N Γ3 Γ4 o ts)(hr3:Rd Γ3 C b 0)
  (g2:HZ Z Γ6 H6 nx6) (g3:qQ C.r nk Γ4 Γ6) (h1:N<=nk) (h2:N<=nx6) (g5:Rd Γ6 (C.own o) c 0) (hw:qI w=true) (hn:zy (C.own o).ex Γ6 [iv kk,.str s,iv nn,iv li,iv co,w] x) (hts:ts.length<=50000)
  (hneed:Ps.is C.l c [59]=false->∀v Γ7 H nx,N<=nx->HZ Z Γ7 H nx->qQ C.r N Γ3 Γ7->RdP Γ7 C.r->P2 [(Zk (Ps.flt C.l c 13),false)] v H nx)
  (hgo:Ps.is C.l c [59]=true->∀v Γ9 Γ10 H nx,nx6<=nx->HZ Z Γ10 H nx->qQ C.r N Γ3 Γ9->Rd Γ9 C (Ps.gaps C.l (c+1)) 0->yO C N Γ9 Γ10 v (ts++[x])->N' v H nx):
  ∃H24,H24=qo nx6 [iv kk,.str s,iv nn,iv li,iv co,w] H6/\∃i25 l26,zJ 6 H24 (qa.slice nx6 0 1 6 true)=some (i25,l26)/\qq l26=true/\∃v27 H28 i29,zt H24 (nx6+1) 6 72 o i25 l26=some (v27,H28,i29)/\
   qk PG ze [u0 C.r 0,u3 [59]] H28 i29 λe H31 i32=>qc e (λv33=>∃(n34:Int) (s35:List UInt8) (n36 n37 n38:Int),v33=u4 [iv n34,u3 s35,iv n36,iv n37,iv n38]/\
    qk PG vl [u0 C.r 0] H31 i32 λe H40 i41=>qc e (λv42=>N' v27 H40 i41) λl43=>P1 l43 v27 H40 i41) λl44=>P2 l44 v27 H31 i32:=by
 have hf6:=g2.fresh (Nat.le_refl nx6)
 refine kO g2 (nx':=nx6+1) lR (by omega) λH7 g7=> ?_
 have hn7:zy (C.own o).ex (gup nx6 (some [iv kk,.str s,iv nn,iv li,iv co,w]) Γ6) [iv kk,.str s,iv nn,iv li,iv co,w] x:=hn.mono (λ_ h=>h) λc ds _ e=>by rw [qg λx=>by rw [x,hf6]at e;cases e];exact e
 have hr7:Rd (gup nx6 (some [iv kk,.str s,iv nn,iv li,iv co,w]) Γ6) (C.own o) c 0:=g5.new hf6
 have g37:qQ C.r N Γ4 (gup nx6 (some [iv kk,.str s,iv nn,iv li,iv co,w]) Γ6):=g3.le.trans (.new (nx:=N) hf6)
 obtain⟨v,H8,nx8,Γ8,Γ9,a1,a2,a3,a4,a5,a6⟩:=gr.more hr3 g7 g37 (by omega) (by omega) hr7 hn7 (by omega)
 refine⟨1,[iv kk,.str s,iv nn,iv li,iv co,w],?_,by simp only [qq,hw];rfl,v,H8,nx8,a1,?_⟩
 ·rw [g7.src (qf _ _ _) (by simp)];simp
 have hr9:=a6.rd' a5
 refine yN W a3 hr9 (λh11 H11 nx11 g11 hk11=>zN.2 (hneed h11 _ _ _ _ (by omega) hk11 (a4.trans a6.keep) hr9.p)) λh11 Γ11 H11 nx11 g11 hk11 kp11 hr11=>qb.2 ⟨_,_,_,_,_,rfl,?_⟩
 refine Jk W hk11 hr11 λΓ12 H12 nx12 h12 hk12 kp12 hr12=>qb.2 ?_
 obtain⟨Γ13,b1,b2,b3⟩:=a6.next a5 (kp11.trans kp12) (by omega) hr12
 exact hgo h11 _ _ _ _ _ (by omega) hk12 (a4.trans b2) b3 b1
theorem wh{l:List Tok}{n:Nat}:Ps.AdvOK (Ps.typeDecl l n):=λa t b h=>by
 unfold Ps.typeDecl at h;refine Ps.lift_el h λa1 h1 h=>Ps.lift_el h λb1 h2 h=>Ps.ite_el h (λ_ h=>Ps.bind_el h λxs c h3 h=>Ps.ok_el h λh4 h5=> ?_) λ_ h=>Ps.lift_el h λb2 h6 h=>Ps.bind_el h λxs c h3 h=>Ps.ok_el h λh4 h5=> ?_
 ·have:=Ps.need_ok h1;have:=Ps.name_ok h2;have:=Ps.list_adv (wb rfl) h3;omega
 ·have:=Ps.need_ok h1;have:=Ps.name_ok h2;have:=Ps.need_ok h6;have:=Ps.list_adv (wb rfl) h3;omega
theorem wm{l:List Tok}{n:Nat}:Ps.AdvOK (Ps.funcDecl l n):=λa t b h=>by
 unfold Ps.funcDecl Ps.result at h;refine Ps.lift_el h λa1 h1 h=> ?_
 replace h:=WJ.symm.trans h
 have h1:=Ps.need_ok h1
 have key:∀{rv:qu} {a2:Nat} {h':Ps.lift (Ps.name l a2) (λc=>Rs.bind (Ps.row l (Ps.run l n .param 0) n c) λ(ps,d)=>Rs.bind (if((Ps.tk l d).kind==2||Ps.isTyp l d||Ps.is l d [91])=true then Ps.run l n .typ 0 d else Rs.ok (Ps.none_,d)) λ(y,e)=>Rs.bind (Ps.run l n .block 0 e) λ(body,f)=>Rs.ok (Ps.mk (Ps.tk l a) 6 (Ps.tk l a2).text (rv::y::body::ps),f))=some (.ok (t,b))},a2+1<=b:=by
  intro rv a2 h;refine Ps.lift_el h λc h2 h=>Ps.bind_el h λps d h3 h=>Ps.bind_el h λy e h4 h=>Ps.bind_el h λbody f h5 h=>Ps.ok_el h λ_ h6=> ?_
  have:=Ps.name_ok h2;have:=Ps.row_adv (wb rfl) h3;have:=Ps.run_adv l n .block 0 e body f h5
  have h4:d<=e:=by
   refine Ps.ite_el h4 (λ_ h=> ?_) λ_ h=>Ps.ok_el h λ_ h=>by omega
   have:=Ps.run_adv l n .typ 0 d y e h;omega
  omega
 refine Ps.ite_el h (λ_ h=>Ps.lift_el h λb1 h2 h=>Ps.lift_el h λc1 h3 h=>Ps.lift_el h λd1 h4 h=> ?_) λ_ h=> ?_
 ·have:=key (h':=h);have:=Ps.name_ok h2;have:=Ps.name_ok h3;have:=Ps.need_ok h4;omega
 ·have:=key (h':=h);omega
theorem qkn{res0:Except Flt qu}(W:zj C.l)(ih:IH C.l C.r C.tb n)(hrun:Ps.file C.l n=some res0)(hk:HZ Z Γ H nx)(hr:Rd Γ C 0 0)
  (hK:z7 Z K Γ nx C 0 (match res0 with| .ok t=> .ok (t,C.l.length - 1)| .error f=> .error f) (zM C.ex)):qk PG J1 [.ptr C.r 0] H nx K:=by
 refine qk.of_body qr ?_
 rw [Y4];have hrex:=hr.rex
 refine jX hk hr hK λΓ1 H hk hr hi hf hK kp=> ?_
 refine kH (C:=C.add nx) hk hr hK λH m1 h hk hK=>⟨_,_,_,_,_,rfl,?_⟩
 refine vv (C:=C.add nx) hk hr hK rfl λΓ1 H hk hr ht kp hK=> ?_
 replace hi:=hi.keep kp
 refine Jk (C:=C.add nx) W hk hr λΓ2 H nx2 h2 hk2 kp2 hr2=>qb.2 ?_
 replace hi:=hi.keep kp2;replace ht:=ht.keep kp2;replace hK:=hK.from h2 kp2
 obtain⟨res',hgo,hres⟩:∃res',Ps.declsGo C.l n n (Ps.gaps C.l 0)=some res'/\res0=(match res' with| .ok xs=> .ok (Ps.mk (Ps.tk C.l 0) 1 [] xs)| .error f=> .error f):=by
  unfold Ps.file at hrun;rcases Ps.bind_some hrun with⟨f,e1,e2⟩|⟨xs,e1,e2⟩
  ·exact⟨_,e1,e2⟩
  ·exact⟨_,e1,by cases e2;rfl⟩
 refine zu (P:=PG) (X:=qa) (Y:=qa) (λo=>qj .und [(0,.ptr C.r 0),(2,.ptr nx 0),(3,.ptr m1 0),(4,o)]) (λo=>qj .und [(2,.ptr nx 0),(3,.ptr m1 0),(4,o)])
  (λm o H3 nx3=>nx2<=nx3/\∃Γ3 Γ4 ts b res',HZ Z Γ4 H3 nx3/\qQ C.r nx2 Γ2 Γ3/\Rd Γ3 (C.add nx) b 0/\yO (C.add nx) nx2 Γ3 Γ4 o ts/\ts.length<=b/\Ps.declsGo C.l n m b=some res'/\res0=(match res' with| .ok xs=> .ok (Ps.mk (Ps.tk C.l 0) 1 [] (ts++xs))| .error f=> .error f))
  (λid o H3 nx3=>id=0/\nx2<=nx3/\∃Γ3 ts b,HZ Z Γ3 H3 nx3/\qQ C.r nx2 Γ2 Γ3/\Rd Γ3 (C.add nx) b 0/\b=C.l.length - 1/\qZ (C.add nx).ex Γ3 o ts/\res0= .ok (Ps.mk (Ps.tk C.l 0) 1 [] ts)) n .nilSlice (ql.okay)
  ⟨Nat.le_refl _,Γ2,Γ2,[],_,res',hk2,.refl _ _ _,hr2,.inl ⟨rfl,rfl,rfl⟩,by simp,hgo,by rw [hres];rfl⟩ ?_ ?_
 ·rintro m o H3 nx3 ⟨h3,Γ3,Γ4,ts,b,res',hk4,kp3,hr3,gr,hts,hgo,hres⟩
  refine WpP.trim (ts:=[0,2,3,4]) (WpP.weaken (e:=qj .und [(4,o),(3,.ptr m1 0),(2,.ptr nx 0),(0,.ptr C.r 0)]) (ql.okay) (WpP.of_vK qr ?_))
  rw [qj1];have hr4:=gr.rd' hr3
  cases m with
  |zero=>simp [Ps.declsGo]at hgo
  |succ m=>
  unfold Ps.declsGo at hgo;refine Zy (C:=C.add nx) hk4 hr4 λH5 nx5 h5 hk5=>qb.2 ⟨_,_,_,_,_,rfl,qi.2 ⟨λh1=> ?_,λh1=> ?_⟩⟩
  ·have h1:¬(Ps.tk C.l b).kind=0:=by simpa using h1
   rw [if_neg (by simp [h1])]at hgo
   have hWf:=W.few
   have hcl:b<C.l.length:=hr3.lt
   have on:∀{g:FuncId} {one:Nat->Rs (qu×Nat)} {H6 nx6} {R1:qa->qd->Nat->Prop} {P0:List (qa×Bool)->qd->Nat->Prop},kn C.l C.r C.tb 0 g one->Ps.AdvOK one->nx3<=nx6->HZ Z Γ4 H6 nx6->
     (Rs.bind (one b) λ(x,b)=>Ps.lift (Ps.need C.l b [59]) λc=>Rs.bind (Ps.declsGo C.l n m (Ps.gaps C.l c)) λxs=>Rs.ok (x::xs))=some res'->
     (∀f Γ7 H7 nx7,res'= .error f->nx2<=nx7->HZ Z Γ7 H7 nx7->qQ C.r nx2 Γ2 Γ7->RdP Γ7 C.r->P0 [(Zk f,false)] H7 nx7)->
     (∀x c kk s nn li co w Γ7 H7 nx7,one b=some (.ok (x,c))->nx6<=nx7->HZ Z Γ7 H7 nx7->qQ C.r nx6 Γ4 Γ7->qI w=true->zy ((C.add nx).own o).ex Γ7 [iv kk,.str s,iv nn,iv li,iv co,w] x->Rd Γ7 ((C.add nx).own o) c 0->
      (Ps.lift (Ps.need C.l c [59]) λc=>Rs.bind (Ps.declsGo C.l n m (Ps.gaps C.l c)) λxs=>Rs.ok (x::xs))=some res'->R1 (.agg [iv kk,.str s,iv nn,iv li,iv co,w]) H7 nx7)->
     qk PG g [.ptr C.r 0] H6 nx6 λe H' nx'=>qc e (λv=>R1 v H' nx') λl=>P0 l H' nx':=by
    intro g one H6 nx6 R1 P0 hone hadv h6 hk6 hgo hbad hok;rcases Ps.bind_some hgo with⟨f,e1,e2⟩|⟨⟨x,c⟩,e1,hgo⟩
    ·refine hone.on (CC:=(C.add nx).own o) ((C.add nx).own_l o) ((C.add nx).own_r o) ((C.add nx).own_tb o) e1 hk6 (gr.rd hr3) (.on (λx b v Γ' H' nx' e=>by cases e) λf' Γ' H' nx' e g1 g2 g3 g4=> ?_)
     cases e
     rw [RC.own_r]at g3 g4;exact hbad f _ _ _ e2 (by omega) g2 ((kp3.trans gr.keep).trans g3) g4
    ·refine hone.on (CC:=(C.add nx).own o) ((C.add nx).own_l o) ((C.add nx).own_r o) ((C.add nx).own_tb o) e1 hk6 (gr.rd hr3) (.on (λx' b' v Γ6 H6 nx6 e g1 g2 g3 g4 g5=> ?_) λf' Γ' H' nx' e=>by cases e)
     cases e
     obtain⟨k,s,nn,li,co,w,rfl,hw,hn⟩:=g4.cells
     rw [RC.own_r]at g3;exact hok _ _ _ _ _ _ _ _ _ _ _ e1 g1 g2 g3 hw hn g5 hgo
   refine YF (C:=C.add nx) hk5 hr4 λH6 nx6 h6 hk6=>qb.2 ⟨_,rfl,qi.2 ⟨λh7=> ?_,λh7=> ?_⟩⟩
   ·have h7:Ps.is C.l b Ps.wType=true:=h7
    rw [h7]at hgo;refine on (one:=Ps.typeDecl C.l n) (λZ ex a res Γ H nx K e1 e2 e3 e4=>qa4 (C:=⟨C.r,C.tb,C.l,ex⟩) W ih e1 e2 e3 e4) wh (by omega) hk6 hgo (λf Γ7 H7 nx7 e g1 g2 g3 g4=> ?_) λx c kk s nn li co w Γ7 H7 nx7 e1 g1 g2 g3 g4 g5 g6 hgo=>⟨_,_,_,_,_,_,rfl,?_⟩
    ·subst e;exact(hK.from g1 g3).pan (by rw [hres]) g2 g4
    ·have hadv:=wh _ _ _ e1
     have hcl:c<C.l.length:=by have:=g6.lt;rwa [RC.own_l]at this
     refine WZ (C:=C.add nx) W gr hr3 g2 g3 (by omega) (by omega) g6 g4 g5 (by omega) (λe v Γ8 H8 nx8 q1 q2 q3 q4=> ?_) λe v Γ9 Γ10 H8 nx8 q1 q2 q3 q4 q5=> ?_
     ·have e':res'= .error (Ps.flt C.l c 13):=by simp [Ps.need,e,Ps.lift]at hgo;exact hgo.symm
      exact(hK.from q1 (kp3.trans q3)).pan (by rw [hres,e']) q2 q4
     ·have hgo:Rs.bind (Ps.declsGo C.l n m (Ps.gaps C.l (c+1))) (λxs=>Rs.ok (x::xs))=some res':=by simpa [Ps.need,e,Ps.lift]using hgo
      have:=Ps.gaps_le C.l (c+1)
      rcases Ps.bind_some hgo with⟨f,e4,e5⟩|⟨xs,e4,e5⟩
      ·exact⟨rfl,m,v,Nat.lt_succ_self m,ql.refl _,by omega,Γ9,Γ10,ts++[x],_,_,q2,kp3.trans q3,q4,q5,by simp;omega,e4,by rw [hres,e5]⟩
      ·exact⟨rfl,m,v,Nat.lt_succ_self m,ql.refl _,by omega,Γ9,Γ10,ts++[x],_,_,q2,kp3.trans q3,q4,q5,by simp;omega,e4,by cases e5;rw [hres];simp⟩
   ·have h7:Ps.is C.l b Ps.wType=false:=h7
    rw [h7]at hgo;refine YF (C:=C.add nx) hk6 hr4 λH6 nx6 h6 hk6=>qb.2 ⟨_,rfl,qi.2 ⟨λh8=> ?_,λh8=> ?_⟩⟩
    ·have h8:Ps.is C.l b Ps.wFunc=true:=h8
     rw [h8]at hgo;refine on (one:=Ps.funcDecl C.l n) (λZ ex a res Γ H nx K e1 e2 e3 e4=>Y9 (C:=⟨C.r,C.tb,C.l,ex⟩) W ih e1 e2 e3 e4) wm (by omega) hk6 hgo (λf Γ7 H7 nx7 e g1 g2 g3 g4=> ?_) λx c kk s nn li co w Γ7 H7 nx7 e1 g1 g2 g3 g4 g5 g6 hgo=>⟨_,_,_,_,_,_,rfl,?_⟩
     ·subst e;exact(hK.from g1 g3).pan (by rw [hres]) g2 g4
     ·have hadv:=wm _ _ _ e1
      have hcl:c<C.l.length:=by have:=g6.lt;rwa [RC.own_l]at this
      refine WZ (C:=C.add nx) W gr hr3 g2 g3 (by omega) (by omega) g6 g4 g5 (by omega) (λe v Γ8 H8 nx8 q1 q2 q3 q4=> ?_) λe v Γ9 Γ10 H8 nx8 q1 q2 q3 q4 q5=> ?_
      ·have e':res'= .error (Ps.flt C.l c 13):=by simp [Ps.need,e,Ps.lift]at hgo;exact hgo.symm
       exact(hK.from q1 (kp3.trans q3)).pan (by rw [hres,e']) q2 q4
      ·have hgo:Rs.bind (Ps.declsGo C.l n m (Ps.gaps C.l (c+1))) (λxs=>Rs.ok (x::xs))=some res':=by simpa [Ps.need,e,Ps.lift]using hgo
       have:=Ps.gaps_le C.l (c+1)
       rcases Ps.bind_some hgo with⟨f,e4,e5⟩|⟨xs,e4,e5⟩
       ·exact⟨rfl,m,v,Nat.lt_succ_self m,ql.refl _,by omega,Γ9,Γ10,ts++[x],_,_,q2,kp3.trans q3,q4,q5,by simp;omega,e4,by rw [hres,e5]⟩
       ·exact⟨rfl,m,v,Nat.lt_succ_self m,ql.refl _,by omega,Γ9,Γ10,ts++[x],_,_,q2,kp3.trans q3,q4,q5,by simp;omega,e4,by cases e5;rw [hres];simp⟩
    ·have h8:Ps.is C.l b Ps.wFunc=false:=h8
     rw [h8]at hgo;have e':res'= .error (Ps.flt C.l b 13):=by cases hgo;rfl
     exact yK (C:=C.add nx) hk6 hr4 λH9 nx9 h9 hk9=>zN.2 ((hK.from (by omega:nx2<=nx9) (kp3.trans gr.keep)).pan (by rw [hres,e']) hk9 hr4.p)
  ·have h1:(Ps.tk C.l b).kind=0:=by simpa using h1
   rw [if_pos (by simp [h1])]at hgo
   cases hgo
   have hb:b=C.l.length - 1:=by
    have:=hr3.lt
    by_cases hb:b+1<C.l.length
    ·exact absurd h1 (W.rest b hb)
    ·have:b<C.l.length:=this
     omega
   exact⟨rfl,o,ql.okay,rfl,by omega,Γ4,ts,b,hk5,kp3.trans gr.keep,hr4,hb,gr.v hr3,by simpa using hres⟩
 ·rintro id o H3 nx3 ⟨rfl,h3,Γ3,ts,b,hk3,kp3,hr3,hb,hv,hres⟩
  refine Eq.mpr (qja (qk PG) (LpP PG) (zx (qB PG)) (qS PG (qB PG)) m1 nx o H3 nx3 K) ?_
  replace hi:=hi.keep kp3;replace ht:=ht.keep kp3;replace hK:=hK.from h3 kp3
  subst hb;refine⟨_,_,_,_,_,ht.tok hk3,jI hk3 hr3 hi hf hrex hv (by rw [hres]) hK⟩
end
end
end Go.Vs
end
section
namespace Go.Vs
open Go.Proofs
variable [GTab]
noncomputable section
theorem qoh{l:List Tok}{r tb:Nat}(W:zj l)(n:Nat):IH l r tb n:=by
 induction n using Nat.strongRecOn with
 |_ n ih=>
  cases n with
  |zero=>
   refine⟨?_,?_,?_,?_,?_,?_,?_,?_,?_,?_,?_,?_⟩
   all_goals first
    |(intro d hd Z ex a res Γ H nx K h;simp [Ps.run]at h;done)
    |(intro k d hd Z ex a res Γ H nx K h;simp [Ps.run]at h;done)
  |succ n=>
   have i:=ih n (Nat.lt_succ_self n)
   have is:∀m,m<=n->IH l r tb m:=λm h=>ih m (by omega)
   exact⟨λd hd Z ex a res Γ H nx K h1 h2 h3 h4=>qo2 (C:=⟨r,tb,l,ex⟩) W i hd h1 h2 h3 h4,
    λd hd Z ex a res Γ H nx K h1 h2 h3 h4=>qin (C:=⟨r,tb,l,ex⟩) W i hd h1 h2 h3 h4,
    λd hd Z ex a res Γ H nx K h1 h2 h3 h4=>qfj (C:=⟨r,tb,l,ex⟩) W i hd h1 h2 h3 h4,
    λd hd Z ex a res Γ H nx K h1 h2 h3 h4=>qgu (C:=⟨r,tb,l,ex⟩) W i hd h1 h2 h3 h4,
    λd hd Z ex a res Γ H nx K h1 h2 h3 h4=>qkm (C:=⟨r,tb,l,ex⟩) W i hd h1 h2 h3 h4,
    λd hd Z ex a res Γ H nx K h1 h2 h3 h4=>qof (C:=⟨r,tb,l,ex⟩) W i hd h1 h2 h3 h4,
    λd hd Z ex a res Γ H nx K h1 h2 h3 h4=>qhj (C:=⟨r,tb,l,ex⟩) W i hd h1 h2 h3 h4,
    λd hd Z ex a res Γ H nx K h1 h2 h3 h4=>ql8 (C:=⟨r,tb,l,ex⟩) W i hd h1 h2 h3 h4,
    λd hd Z ex a res Γ H nx K h1 h2 h3 h4=>qh5 (C:=⟨r,tb,l,ex⟩) W i hd h1 h2 h3 h4,
    λd hd Z ex a res Γ H nx K h1 h2 h3 h4=>qke (C:=⟨r,tb,l,ex⟩) W is hd h1 h2 h3 h4,
    λd hd Z ex a res Γ H nx K h1 h2 h3 h4=>qju (C:=⟨r,tb,l,ex⟩) W i hd h1 h2 h3 h4,
    λk d hd Z ex a res Γ H nx K h1 h2 h3 h4=>qge (C:=⟨r,tb,l,ex⟩) W is hd h1 h2 h3 h4⟩
end
end Go.Vs
end
section
namespace Go.Vs
open Go.Proofs
variable [GTab] {Z:Nat->Prop}
noncomputable section
namespace Ps
def parse(s:List UInt8)(n:Nat):Rs qu:=match Pt.toks s with
 | .ok l=>file l n
 | .error f=>some (.error f)
end Ps
theorem qb9{H:qd}{a:qa}{k:qa->Prop}:wf PG X5 H a k=(∃n1 n2:Int,ldN H 2 a=some (.agg [.int .i64 n1,.int .i64 n2])/\k (.agg [.int .i64 n1,.int .i64 n2])):=by kernel_rfl
theorem Yv{H:qd}{a:qa}{k:qa->Prop}:wf PG Yb H a k=(∃n1:Int,ld1 H a=some (.int .i64 n1)/\k (.int .i64 n1)):=by kernel_rfl
theorem J8:vp PG Qt=true:=by kernel_rfl
def yu:List qa:=[iv 0,.str [],iv 0,iv 0,iv 0,.nilSlice]
def qob(Z:Nat->Prop)(Γ:GH)(nx:Nat)(R:Except Flt qu)(K:qv):Prop:=match R with
 | .ok t=>∀v Γ' H' nx',nx<=nx'->HZ Z Γ' H' nx'->(∀b cs,Γ b=some cs->Γ' b=some cs)->zM (λ_=>False) Γ' v t->K (.ret (.tuple [v,.agg [iv 0,iv 0],iv 0])) H' nx'
 | .error f=>∀Γ' H' nx',nx<=nx'->HZ Z Γ' H' nx'->(∀b cs,Γ b=some cs->Γ' b=some cs)->K (.ret (.tuple [.agg yu,.agg [iv f.line,iv f.col],iv f.e])) H' nx'
section
variable{Γ:GH}{H:qd}{nx:Nat}{K:qv}
theorem qgq{a b c:Nat}{n x y z e l m:Int}{s:List UInt8}{v:qa}(hk:HZ Z Γ H nx)(ha:Γ a=some [iv n,.str s,iv x,iv y,iv z,v])(hb:Γ b=some [iv l,iv m])(hc:Γ c=some [iv e])
  (h:K (.ret (.tuple [.agg [iv n,.str s,iv x,iv y,iv z,v],.agg [iv l,iv m],iv e])) H nx):YQ PG H [.cell (.ptr a 0) qG,.cell (.ptr b 0) X5,.cell (.ptr c 0) Yb] λvs=>K (.ret (w9 vs)) H nx:=by
 show wf PG qG H (.ptr a 0) λv=>wf PG X5 H (.ptr b 0) λw=>wf PG Yb H (.ptr c 0) λe=>K (.ret (.tuple [v,w,e])) H nx
 rw [yV];refine⟨_,_,_,_,_,_,ldAll hk ha rfl,?_⟩
 rw [qb9];refine⟨_,_,ldAll hk hb rfl,?_⟩
 rw [Yv];exact⟨_,by rw [hk.ld1 hc];rfl,h⟩
theorem VE{s:List UInt8}{n:Nat}{res:Except Flt qu}(hrun:Ps.parse s n=some res)(hk:HZ Z Γ H nx)(hK:qob Z Γ nx res K):qk PG wv [.str s] H nx K:=by
 refine qk.of_body qr ?_
 rw [qaw];have hf0:=hk.fresh (Nat.le_refl nx)
 refine kO hk (nx':=nx+1) lR (by omega) λH0 k0=> ?_
 have hf1:=k0.fresh (Nat.le_refl (nx+1))
 refine kO k0 (nx':=nx+1+1) lR (by omega) λH1 k1=> ?_
 have hf2:=k1.fresh (Nat.le_refl (nx+1+1))
 refine kO k1 (nx':=nx+1+1+1) lR (by omega) λH2 k2=> ?_
 obtain⟨Γ3,e3⟩:∃Γ3,Γ3=gup (nx+1+1) (some [iv 0]) (gup (nx+1) (some [iv 0,iv 0]) (gup nx (some yu) Γ)):=⟨_,rfl⟩
 replace k2:HZ Z Γ3 H2 (nx+1+1+1):=by rw [e3];exact k2
 have gn:Γ3 nx=some yu:=by rw [e3,qg (by omega),qg (by omega),qf]
 have gp:Γ3 (nx+1)=some [iv 0,iv 0]:=by rw [e3,qg (by omega),qf]
 have ge:Γ3 (nx+1+1)=some [iv 0]:=by rw [e3,qf]
 have s3:∀b cs,Γ b=some cs->Γ3 b=some cs/\b≠nx/\b≠nx+1/\b≠nx+1+1:=λb cs e=>by
  have h0:b≠nx:=neK e hf0
  have h1:b≠nx+1:=neK e (by rwa [qg (by omega)]at hf1)
  have h2:b≠nx+1+1:=neK e (by rwa [qg (by omega),qg (by omega)]at hf2)
  exact⟨by rw [e3,qg h2,qg h1,qg h0];exact e,h0,h1,h2⟩
 clear e3 hf0 hf1 hf2;cases ht:Pt.toks s with
 |error f=>
  have he:=Pt.toks_err ht
  have hres:res= .error f:=by unfold Ps.parse at hrun;rw [ht]at hrun;cases hrun;rfl
  subst hres;refine qdw k2 ?_
  rw [ht]
  refineλH4 i5 h4 k4=>qb.2 ⟨_,_,_,_,_,_,_,rfl,?_⟩
  have hf5:=k4.fresh (Nat.le_refl i5)
  refine scr k4 (nx':=i5+1) lR (by omega) rfl rfl λH5 k5=>⟨rfl,?_⟩
  have ne:∀{b cs},Γ3 b=some cs->b≠i5:=λe=>neK e hf5
  refine jj k5 ((qg (ne ge)).trans ge) rfl rfl λH6 k6=>⟨f.e,by rw [k6.ld1 (qf _ _ _)];rfl,qi.2 ⟨λ_=> ?_,λh=>by simp at h;exact absurd h he⟩⟩
  have lt:ldN H6 5 (.ptr i5 0)=some (vz ⟨0,[],0,f.line,f.col⟩):=ldAll k6 ((qg (Ne.symm (ne ge))).trans (qf _ _ _)) rfl
  have le6:ld1 H6 (.ptr (nx+1+1) 0)=some (iv f.e):=by rw [k6.ld1 (qf _ _ _)];rfl
  refine⟨_,_,_,_,_,lt,_,le6,⟨⟨_,_,_,_,_,lt,rfl⟩,⟨_,le6,rfl⟩,trivial⟩,?_⟩
  refine qau (t:=⟨0,[],0,f.line,f.col⟩) (k6.more (by omega:i5+1<=i5+1+7)) λH7 nx7 h7 k7=>qb.2 ⟨_,_,rfl,⟨⟨_,by rw [k7.ld1 (qf _ _ _)];rfl,rfl⟩,trivial⟩,?_⟩
  refine jj k7 ((qg (by omega)).trans ((qg (ne gn)).trans gn)) rfl rfl λH8 k8=>⟨⟨⟨_,by rw [k8.ld1 ((qg (by omega)).trans (qf _ _ _))];rfl,rfl⟩,trivial⟩,?_⟩
  refine jj k8 ((qg (by omega)).trans ((qg (by omega)).trans ((qg (ne gp)).trans gp))) rfl rfl λH9 k9=>⟨⟨⟨_,by rw [k9.ld1 ((qg (by omega)).trans ((qg (by omega)).trans (qf _ _ _)))];rfl,rfl⟩,trivial⟩,rfl,?_⟩
  refine jj k9 ((qg (by omega)).trans ((qg (by omega)).trans (qf _ _ _))) rfl rfl λH10 k10=>⟨trivial,_,_,_,_,_,_,ldAll k10 ((qg (by omega)).trans ((qg (by omega)).trans (qf _ _ _))) rfl,_,_,ldAll k10 ((qg (by omega)).trans (qf _ _ _)) rfl,_,by rw [k10.ld1 (qf _ _ _)];rfl,hK _ _ _ (by omega) k10 λb cs e=> ?_⟩
  obtain⟨q,q0,q1,q2⟩:=s3 b cs e
  rw [qg q2,qg q1,qg q0,qg q2,qg (ne q)];exact q
 |ok l=>
  have hfile:Ps.file l n=some res:=by unfold Ps.parse at hrun;rw [ht]at hrun;exact hrun
  have W:zj l:=(Pt.toks_good ht).toks
  refine qdw k2 ?_
  rw [ht]
  refineλtb H4 i5 h4 htb k4=>qb.2 ⟨_,_,_,_,_,_,_,rfl,?_⟩
  have s4:∀{b cs},Γ3 b=some cs->gup tb (some (l.flatMap jd)) Γ3 b=some cs:=λe=>(qg (neK e htb)).trans e
  have hf5:=k4.fresh (Nat.le_refl i5)
  refine scr k4 (nx':=i5+1) lR (by omega) rfl rfl λH5 k5=>⟨rfl,?_⟩
  have s5:∀{b cs},Γ3 b=some cs->gup i5 (some (jd ⟨0,[],0,0,0⟩)) (gup tb (some (l.flatMap jd)) Γ3) b=some cs:=λe=>(qg (neK (s4 e) hf5)).trans (s4 e)
  have tb5:tb≠i5:=neK (qf tb (some (l.flatMap jd)) Γ3) hf5
  refine jj k5 (s5 ge) rfl rfl λH6 k6=>⟨0,by rw [k6.ld1 (qf _ _ _)];rfl,qi.2 ⟨λh=>by simp at h,λ_=>⟨_,_,rfl,rfl,_,rfl,?_⟩⟩⟩
  obtain⟨Γ6,e6⟩:∃Γ6,Γ6=gup (nx+1+1) (some [iv 0]) (gup i5 (some (jd ⟨0,[],0,0,0⟩)) (gup tb (some (l.flatMap jd)) Γ3)):=⟨_,rfl⟩
  replace k6:HZ Z Γ6 H6 (i5+1):=by rw [e6];exact k6
  have s6:∀{b cs},Γ3 b=some cs->Γ6 b=some cs:=λ{b} {cs} e=>by
   rw [e6];by_cases hb:b=nx+1+1
   ·subst hb;rw [qf,<-ge,e]
   ·rw [qg hb];exact s5 e
  have t6:Γ6 tb=some (l.flatMap jd):=by rw [e6,qg (Ne.symm (neK ge htb)),qg tb5,qf]
  clear e6;have hf6:=k6.fresh (Nat.le_refl (i5+1))
  have k7:HZ Z (gup (i5+1) (some [.slice tb 0 l.length 5 false,iv 0,iv 0]) Γ6) (newBN (i5+1) [.slice tb 0 l.length 5 false,iv 0,iv 0].length [.slice tb 0 l.length 5 false,iv 0,iv 0] H6) (i5+1+1):=k6.new lR (by omega) _
  have s7:∀{b cs},Γ6 b=some cs->b≠i5+1/\gup (i5+1) (some [.slice tb 0 l.length 5 false,iv 0,iv 0]) Γ6 b=some cs:=λe=>⟨neK e hf6,(qg (neK e hf6)).trans e⟩
  have hfl:=Jc l
  have hr:Rd (gup (i5+1) (some [.slice tb 0 l.length 5 false,iv 0,iv 0]) Γ6) ⟨i5+1,tb,l,λb=>b=i5+1\/b=nx\/b=nx+1\/b=nx+1+1⟩ 0 0:=by
   refine⟨W.pos,by omega,(s7 t6).1,.inl rfl,λb hb=> ?_,⟨false,qf _ _ _⟩,⟨_,(s7 t6).2,by rw [hfl];exact Nat.le_refl _,by show List.take (l.length*5) _=_;rw [<-hfl,List.take_length]⟩⟩
   rcases hb with rfl|rfl|rfl|rfl
   ·rw [qf];simp
   ·rw [(s7 (s6 gn)).2];simp
   ·rw [(s7 (s6 gp)).2];simp
   ·rw [(s7 (s6 ge)).2];simp
  refine qkn (C:=⟨i5+1,tb,l,λb=>b=i5+1\/b=nx\/b=nx+1\/b=nx+1+1⟩) W (qoh W n) hfile k7 hr (.on (λt b v Γ' H' nx' e g1 g2 g3 g4 g5=> ?_) λf Γ' H' nx' e g1 g2 g3 g4=> ?_)
  ·have hres:res= .ok t:=by cases res with
    |ok t'=>cases e;rfl
    |error f=>cases e
   subst hres;obtain⟨kk,ss,nn,li,co,w,rfl,hw,hn⟩:=g4.cells
   have q:∀{b cs},Γ3 b=some cs->Γ' b=some cs:=λe=>g3.1 _ _ (s7 (s6 e)).1 (s7 (s6 e)).2
   refine⟨_,_,_,_,_,_,rfl,jj g2 (q gn) rfl (by simp only [qq,hw];rfl) λH8 k8=> ?_⟩
   refine jj k8 ((qg (by omega)).trans (q gp)) rfl rfl λH9 k9=>⟨rfl,?_⟩
   refine jj k9 ((qg (by omega)).trans ((qg (by omega)).trans (q ge))) rfl rfl λH10 k10=> ?_
   refine qB.of_bodyS qr J8 ?_
   rw [qbj];refine⟨true,rfl,qK rfl (qb.2 ?_)⟩
   refine qgq k10 ((qg (by omega)).trans ((qg (by omega)).trans (qf _ _ _))) ((qg (by omega)).trans (qf _ _ _)) (qf _ _ _) ?_
   refine hK _ _ _ _ (by omega) k10 (λb cs e=> ?_) (hn.mono (λ_ h=>h.elim) λb cs hb e=> ?_).v
   ·obtain⟨q',q0,q1,q2⟩:=s3 b cs e
    rw [qg q2,qg q1,qg q0];exact q q'
   ·rw [qg λx=>hb (.inr (.inr (.inr x))),qg λx=>hb (.inr (.inr (.inl x))),qg λx=>hb (.inr (.inl x))];exact e
  ·have hres:res= .error f:=by cases res with
    |ok t'=>cases e
    |error f'=>cases e;rfl
   subst hres;have q:∀{b cs},Γ3 b=some cs->Γ' b=some cs:=λe=>g3.1 _ _ (s7 (s6 e)).1 (s7 (s6 e)).2
   refine qB.of_bodyS qr J8 ?_
   rw [show Zk f= .iface Q3 (.agg [iv f.line,iv f.col,iv f.e])from rfl,qd8];refine⟨false,rfl,qH rfl ?_⟩
   have hf8:=g2.fresh (Nat.le_refl nx')
   refine scr g2 (nx':=nx'+1) lR (by omega) rfl rfl λH8 k8=> ?_
   have n8:∀{b cs},Γ3 b=some cs->b≠nx':=λe=>neK (q e) hf8
   have lp:∀{Γa:GH} {Ha:qd} {na:Nat},HZ Z Γa Ha na->Γa nx'=some [iv f.line,iv f.col,iv f.e]->ldN Ha 2 (.ptr nx' 0)=some (.agg [iv f.line,iv f.col])/\ld1 Ha (.ptr nx' 2)=some (iv f.e):=λh e=>⟨by rw [h.ldN e (by simp)];rfl,by rw [h.ld1 e];rfl⟩
   obtain⟨p1,p2⟩:=lp k8 (qf _ _ _)
   refine⟨_,rfl,_,_,p1,_,rfl,_,p2,⟨⟨_,_,p1,rfl⟩,⟨_,p2,rfl⟩,trivial⟩,?_⟩
   refine jj k8 ((qg (n8 gn)).trans (q gn)) rfl rfl λH9 k9=> ?_
   obtain⟨p1,p2⟩:=lp k9 ((qg (Ne.symm (n8 gn))).trans (qf _ _ _))
   refine⟨⟨⟨_,_,p1,rfl⟩,⟨_,p2,rfl⟩,trivial⟩,?_⟩
   refine jj k9 ((qg (by omega)).trans ((qg (n8 gp)).trans (q gp))) rfl rfl λH10 k10=> ?_
   obtain⟨_,p2⟩:=lp k10 ((qg (Ne.symm (n8 gp))).trans ((qg (Ne.symm (n8 gn))).trans (qf _ _ _)))
   refine⟨⟨⟨_,p2,rfl⟩,trivial⟩,rfl,?_⟩
   refine jj k10 ((qg (by omega)).trans ((qg (by omega)).trans ((qg (n8 ge)).trans (q ge)))) rfl rfl λH11 k11=>⟨trivial,qb.2 ?_⟩
   refine qgq (k11.more (by omega:nx'+1<=nx'+1+8)) ((qg (by omega)).trans ((qg (by omega)).trans (qf _ _ _))) ((qg (by omega)).trans (qf _ _ _)) (qf _ _ _) ?_
   refine hK _ _ _ (by omega) (k11.more (by omega)) λb cs e=> ?_
   obtain⟨q',q0,q1,q2⟩:=s3 b cs e
   rw [qg q2,qg q1,qg q0,qg (n8 q')];exact q q'
end
theorem zf.get{ex:Nat->Prop}{Γ:GH}:∀{cs:List qa} {ts:List qu} {j:Nat},zf ex Γ cs ts->(h:j<ts.length)->zy ex Γ ((cs.drop (j*6)).take 6) ts[j]/\j*6+6<=cs.length
 |_,_,_,.nil,h=>by simp at h
 |_,_,0,.cons (c:=c) (cs:=cs) hn hl,_=>by
  have e:=hn.len
  have e2:((c++cs).drop (0*6)).take 6=c:=by rw [Nat.zero_mul,List.drop_zero,<-e,List.take_left'];rfl
  rw [e2];exact⟨hn,by rw [List.length_append,e];omega⟩
 |_,_,j+1,.cons (c:=c) (cs:=cs) hn hl,h=>by
  have e:=hn.len
  have e2:(c++cs).drop ((j+1)*6)=cs.drop (j*6):=by
   rw [show(j+1)*6=c.length+j*6 by rw [e];omega,<-List.drop_drop,List.drop_left'];rfl
  rw [e2];obtain⟨h1,h2⟩:=zf.get (j:=j) hl (by simpa using h)
  exact⟨h1,by rw [List.length_append,e];omega⟩
section
variable{ex:Nat->Prop}{Γ:GH}{H:qd}{nx:Nat}
theorem qZ.len{w:qa}{ts:List qu}(h:qZ ex Γ w ts):kI w=some ts.length:=let⟨_,h,_⟩:=h;h.len
structure qhb(ex:Nat->Prop)(Γ:GH)(H:qd)(b off:Nat)(k:Int)(s:List UInt8)(n l c:Int)(w:qa)(ts:List qu):Prop where
 all:ldN H 6 (.ptr b off)=some (.agg [iv k,.str s,iv n,iv l,iv c,w])
 c0:ld1 H (.ptr b off)=some (iv k)
 c1:ld1 H (.ptr b (off+1))=some (.str s)
 c2:ld1 H (.ptr b (off+2))=some (iv n)
 c3:ld1 H (.ptr b (off+3))=some (iv l)
 c4:ld1 H (.ptr b (off+4))=some (iv c)
 c5:ld1 H (.ptr b (off+5))=some w
 kids:qZ ex Γ w ts
theorem qnq{cs:List qa}{off:Nat}{a0 a1 a2 a3 a4 a5:qa}(h:(cs.drop off).take 6=[a0,a1,a2,a3,a4,a5]):cs[off]?=some a0/\cs[off+1]?=some a1/\cs[off+2]?=some a2/\cs[off+3]?=some a3/\cs[off+4]?=some a4/\cs[off+5]?=some a5:=by
 have g:∀i,i<6->cs[off+i]?=[a0,a1,a2,a3,a4,a5][i]?:=λi hi=>by
  rw [<-h,List.getElem?_take_of_lt hi,List.getElem?_drop]
 exact⟨g 0 (by omega),g 1 (by omega),g 2 (by omega),g 3 (by omega),g 4 (by omega),g 5 (by omega)⟩
structure qc9(ex:Nat->Prop)(Γ:GH)(b off:Nat)(k:Int)(s:List UInt8)(n l c:Int)(w:qa)(ts:List qu):Prop where
 cells:∃cs,Γ b=some cs/\(cs.drop off).take 6=[iv k,.str s,iv n,iv l,iv c,w]/\off+6<=cs.length
 kids:qZ ex Γ w ts
theorem qc9.at{b off:Nat}{k n l c:Int}{s:List UInt8}{w:qa}{ts:List qu}(h:qc9 ex Γ b off k s n l c w ts)(hk:HZ Z Γ H nx):qhb ex Γ H b off k s n l c w ts:=by
 obtain⟨⟨cs,hb,hc,hl⟩,hw⟩:=h
 obtain⟨g0,g1,g2,g3,g4,g5⟩:=qnq hc
 refine⟨?_,?_,?_,?_,?_,?_,?_,hw⟩
 ·rw [hk.ldN hb hl,hc]
 all_goals (rw [hk.ld1 hb];assumption)
theorem qov{w:qa}{ts:List qu}(h:qZ ex Γ w ts){j:Nat}(hj:j<ts.length):
  ∃b off k s n l c w' ts',zq w j 6=some (.ptr b off)/\ts[j]= .node k s n l c ts'/\qc9 ex Γ b off k s n l c w' ts':=by
 obtain⟨cs,hs,hc⟩:=h
 obtain⟨h1,h2⟩:=hc.get hj
 rcases hs with⟨rfl,hn,rfl⟩|⟨b,o,full,ds,rfl,hb,hl,rfl⟩
 ·omega
 ·have hb':Γ b=some ds:=by
   by_cases hx:ex b
   ·rw [KF hx]at hb;cases hb
   ·rwa [vS hx]at hb
  have e1:(((ds.drop o).take (ts.length*6)).drop (j*6)).take 6=(ds.drop (o+j*6)).take 6:=by
   rw [List.drop_take,List.take_take,List.drop_drop,Nat.min_eq_left (by omega)]
  rw [e1]at h1
  generalize hcs:(ds.drop (o+j*6)).take 6=cells at h1
  generalize hn:ts[j]=t at h1
  cases h1 with
  | @mk k n l c s w' ks cs' hs hki=>exact⟨b,o+j*6,k,s,n,l,c,w',ks,zW hj,rfl,⟨ds,hb',hcs,by omega⟩,cs',hs,hki⟩
theorem Qu{w:qa}{ts:List qu}(hk:HZ Z Γ H nx)(h:qZ ex Γ w ts){j:Nat}(hj:j<ts.length):
  ∃b off k s n l c w' ts',zq w j 6=some (.ptr b off)/\ts[j]= .node k s n l c ts'/\qhb ex Γ H b off k s n l c w' ts':=
 let⟨b,off,k,s,n,l,c,w',ts',h1,h2,h3⟩:=qov h hj
 ⟨b,off,k,s,n,l,c,w',ts',h1,h2,h3.at hk⟩
end
def TokF(tb:Nat)(l:List Tok):GH->Prop:=λΓ=>∃cs,Γ tb=some cs/\l.length*5<=cs.length/\cs.take (l.length*5)=l.flatMap jd
def Kids(w:qa)(ts:List qu):GH->Prop:=λΓ=>qZ (λ_=>False) Γ w ts
def RpI(tb:Nat)(l:List Tok)(a:Nat)(bad:Option Flt)(d:Nat):List qa->Prop:=λcs=>∃full n e x y,cs=[.slice tb 0 l.length 5 full,iv a,iv n,iv e,iv x,iv y]/\a<l.length/\
 match bad with
 |none=>n=(d:Int)/\d<=40/\e=0
 |some f=>e=f.e/\x=f.line/\y=f.col/\f.e≠0
abbrev PS(Z:Nat->Prop)(r tb:Nat)(l:List Tok)(a:Nat)(bad:Option Flt)(d:Nat)(A:qN)(F:qU)(H:qd)(nx:Nat):Prop:=OB Z r (RpI tb l a bad d) [TokF tb l] A F H nx
theorem yR(Γ:GH):ZL (λ_=>False) Γ=Γ:=by funext b;exact vS λh=>h
theorem Kids.nil{Γ:GH}:Kids .nilSlice [] Γ:=⟨[],.inl ⟨rfl,rfl,rfl⟩,.nil⟩
section
variable{r tb:Nat}{l:List Tok}{a d:Nat}{bad:Option Flt}{A:qN}{F:qU}{H:qd}{nx:Nat}{K:qv}
theorem PS.lt(h:PS Z r tb l a bad d A F H nx):a<l.length:=let⟨_,⟨_,_,_,_,_,_,h,_⟩,_⟩:=h;h
theorem PS.cells(h:PS Z r tb l a bad d A F H nx):∃full n e x y,RpI tb l a bad d [.slice tb 0 l.length 5 full,iv a,iv n,iv e,iv x,iv y]/\SH Z ((r,[.slice tb 0 l.length 5 full,iv a,iv n,iv e,iv x,iv y])::A) (F++[TokF tb l]) H nx:=by
 obtain⟨cs,⟨full,n,e,x,y,rfl,h1⟩,h2⟩:=h
 exact⟨full,n,e,x,y,⟨full,n,e,x,y,rfl,h1⟩,h2⟩
theorem RpI.on{full:Bool}{n e x y:Int}(h:RpI tb l a none d [.slice tb 0 l.length 5 full,iv a,iv n,iv e,iv x,iv y]):n=(d:Int)/\d<=40/\e=0/\a<l.length:=by
 obtain⟨_,_,_,_,_,h1,h0,h2,h3,h4⟩:=h
 simp at h1
 exact⟨h1.2.1.trans h2,h3,h1.2.2.1.trans h4,h0⟩
theorem RpI.off{f:Flt}{full:Bool}{n e x y:Int}(h:RpI tb l a (some f) d [.slice tb 0 l.length 5 full,iv a,iv n,iv e,iv x,iv y]):e=f.e/\x=f.line/\y=f.col/\f.e≠0/\a<l.length:=by
 obtain⟨_,_,_,_,_,h1,h0,h2,h3,h4,h5⟩:=h
 simp at h1
 exact⟨h1.2.2.1.trans h2,h1.2.2.2.1.trans h3,h1.2.2.2.2.trans h4,h5,h0⟩
theorem RpI.mkOn{full:Bool}{x y:Int}(h1:a<l.length)(h2:d<=40):RpI tb l a none d [.slice tb 0 l.length 5 full,iv a,iv d,iv 0,iv x,iv y]:=⟨_,_,_,_,_,rfl,h1,rfl,h2,rfl⟩
theorem RpI.mkOff{f:Flt}{full:Bool}{n:Int}(h1:a<l.length)(h2:f.e≠0):RpI tb l a (some f) d [.slice tb 0 l.length 5 full,iv a,iv n,iv f.e,iv f.line,iv f.col]:=⟨_,_,_,_,_,rfl,h1,rfl,rfl,rfl,h2⟩
theorem qoj{full:Bool}{n e x y:Int}(ha:a<l.length)(h:SH Z ((r,[.slice tb 0 l.length 5 full,iv a,iv n,iv e,iv x,iv y])::A) (F++[TokF tb l]) H nx):
  zq (.slice tb 0 l.length 5 full) a 5=some (.ptr tb (a*5))/\ldN H 5 (.ptr tb (a*5))=some (vz (Ps.tk l a))/\ld1 H (.ptr tb (a*5+1))=some (.str (Ps.tk l a).text):=by
 obtain⟨Γ,hk,cs,h2,h4,h5⟩:=h.fact (P:=TokF tb l) (by simp)
 have e1:(cs.drop (a*5)).take 5=jd (Ps.tk l a):=by
  have:(cs.drop (a*5)).take 5=((cs.take (l.length*5)).drop (a*5)).take 5:=by
   rw [List.drop_take,List.take_take,Nat.min_eq_left (by omega)]
  rw [this,h5,QR ha]
  congr 1
  unfold Ps.tk;simp [List.getD,ha]
 refine⟨by rw [zW ha,Nat.zero_add],by rw [hk.ldN h2 (by omega),e1];rfl,?_⟩
 rw [hk.ld1 h2];have:cs[a*5+1]?=((cs.drop (a*5)).take 5)[1]?:=by rw [List.getElem?_take_of_lt (by omega),List.getElem?_drop]
 rw [this,e1];rfl
theorem QU(h:PS Z r tb l a bad d A F H nx)(hK:∀H' nx',nx<=nx'->PS Z r tb l a bad d A F H' nx'->K (.ret (vz (Ps.tk l a))) H' nx'):qk PG jc [.ptr r 0] H nx K:=by
 refine qk.of_body qr ?_
 rw [qbh];refine h.new (Nat.le_refl nx) λH0 h0=> ?_
 have ha:=(PS.lt h0)
 obtain⟨full,n,e,x,y,hi,hs⟩:=(PS.cells h0)
 obtain⟨e4,e5,_⟩:=qoj ha hs
 have c0:ld1 H0 (.ptr r 0)=some (.slice tb 0 l.length 5 full):=hs.ld1 .hd 0
 have c1:ld1 H0 (.ptr r 1)=some (iv a):=hs.ld1 .hd 1
 refine⟨rfl,_,rfl,_,c0,rfl,_,rfl,_,c1,by omega,_,by rw [Int.toNat_natCast];exact e4,_,_,_,_,_,e5,⟨⟨_,c0,rfl⟩,⟨_,c1,rfl⟩,⟨_,_,_,_,_,e5,rfl⟩,trivial⟩,?_⟩
 refine h0.all (vs:=jd (Ps.tk l a)) .hd (by simp [jd]) rfl λH1 h1=>⟨trivial,_,_,_,_,_,h1.ldAll .hd rfl,hK _ _ (by omega) ((h1.fin (.cons _ (.refl _)) (λ_ h=>h)).more (by omega))⟩
theorem ron(h:PS Z r tb l a bad d A F H nx)(hK:K (.ret (.bool bad.isNone)) H nx):qk PG jo [.ptr r 0] H nx K:=by
 refine qk.of_body qr ?_
 rw [qfz];obtain⟨full,n,e,x,y,hi,hs⟩:=(PS.cells h)
 refine⟨rfl,_,rfl,e,hs.ld1 .hd 3,?_⟩
 cases bad with
 |none=>obtain⟨_,_,he,_⟩:=hi.on;subst he;exact hK
 |some f=>obtain⟨rfl,_,_,hne,_⟩:=hi.off;rw [decide_eq_false hne];exact hK
theorem yQ{e:Int}(he:e≠0)(h:PS Z r tb l a none d A F H nx)(hK:∀H' nx',nx<=nx'->PS Z r tb l a (some (Ps.flt l a e)) d A F H' nx'->K (.ret (.tuple [])) H' nx'):qk PG jm [.ptr r 0,iv e] H nx K:=by
 refine qk.of_body qr ?_
 rw [J4];obtain⟨full,n,e0,x,y,hi,hs⟩:=(PS.cells h)
 obtain⟨rfl,hd,rfl,ha⟩:=hi.on
 refine⟨rfl,_,rfl,0,hs.ld1 .hd 3,qK rfl ⟨rfl,_,rfl,rfl,hs.one .hd (by simp) rfl λH1 h1=> ?_⟩⟩
 have p1:PS Z r tb l a (some ⟨x,y,e⟩) d A F H1 nx:=⟨_,.mkOff (f:=⟨x,y,e⟩) ha he,h1⟩
 refine QU p1 λH2 n2 g2 p2=>qb.2 ⟨_,_,_,_,_,rfl,QU p2 λH3 n3 g3 p3=>qb.2 ⟨_,_,_,_,_,rfl,rfl,rfl,rfl,_,rfl,?_⟩⟩
 obtain⟨full3,m,e3,x3,y3,hi3,hs3⟩:=(PS.cells p3)
 obtain⟨q,_,_,_,_⟩:=hi3.off
 rw [show e3=e from q]at hs3;obtain⟨H4,e4,h4⟩:=hs3.st (off:=4) (vs:=[iv (Ps.tk l a).line,iv (Ps.tk l a).col]) .hd (by simp) rfl
 exact⟨H4,e4,hK _ _ (by omega) ⟨_,.mkOff (f:=Ps.flt l a e) ha he,h4⟩⟩
theorem VY{e:Int}{f:Flt}(h:PS Z r tb l a (some f) d A F H nx)(hK:K (.ret (.tuple [])) H nx):qk PG jm [.ptr r 0,iv e] H nx K:=by
 refine qk.of_body qr ?_
 rw [J4];obtain⟨full,n,e0,x,y,hi,hs⟩:=(PS.cells h)
 obtain⟨rfl,_,_,hne,_⟩:=hi.off
 exact⟨rfl,_,rfl,_,hs.ld1 .hd 3,qH (decide_eq_false hne) hK⟩
def isR(l:List Tok)(a:Nat)(bad:Option Flt)(s:List UInt8):Bool:=match bad with
 |none=>Ps.is l a s
 |some _=>false
theorem ris{s:List UInt8}(h:PS Z r tb l a bad d A F H nx)(hK:∀H' nx',nx<=nx'->PS Z r tb l a bad d A F H' nx'->K (.ret (.bool (isR l a bad s))) H' nx'):qk PG za [.ptr r 0,.str s] H nx K:=by
 refine qk.of_body qr ?_
 rw [qeu];refine QU h λH1 n1 g1 p1=>qb.2 ⟨_,_,_,_,_,rfl,p1.new lR λH2 p2=>p2.all .hd rfl rfl λH3 p3=>ron p3 (qb.2 ⟨_,rfl,?_⟩)⟩
 have hK':=hK H3 (n1+1) (by omega) (p3.fin (.cons _ (.refl _)) λ_ h=>h)
 cases bad with
 |some f=>exact qH rfl hK'
 |none=>
 refine qK rfl ?_
 have e0:=p3.ld1 .hd 0
 have e1:=p3.ld1 .hd 1
 unfold isR Ps.is at hK';simp only [List.getElem?_cons_zero,List.getElem?_cons_succ]at e0 e1
 refine⟨_,rfl,_,e0,qi.2 ⟨λh=> ?_,λh=>⟨_,rfl,_,e0,qi.2 ⟨λh'=> ?_,λh'=>⟨_,rfl,_,e0,qi.2 ⟨λh''=> ?_,λh''=> ?_⟩⟩⟩⟩⟩⟩
 all_goals simp only [decide_eq_true_eq,decide_eq_false_iff_not]at h
 all_goals try simp only [decide_eq_true_eq,decide_eq_false_iff_not]at h'
 all_goals try simp only [decide_eq_true_eq,decide_eq_false_iff_not]at h''
 ·exact⟨_,rfl,_,e1,by simpa [h]using hK'⟩
 ·exact⟨_,rfl,_,e1,by simpa [h']using hK'⟩
 ·exact⟨_,rfl,_,e1,by simpa [h'']using hK'⟩
 ·have:(((Ps.tk l a).kind==3||(Ps.tk l a).kind==6||(Ps.tk l a).kind==1)&&(Ps.tk l a).text==s)=false:=by simp [h,h',h'']
  rw [this]at hK';exact hK'
theorem qao(W:zj l)(h:(Ps.tk l a).kind≠0)(hl:a<l.length):a+1<l.length:=by
 by_cases h1:a+1<l.length
 ·exact h1
 ·have:=W.last
  rw [show l.length - 1=a by omega]at this
  exact absurd this h
theorem isk{s:List UInt8}(h:Ps.is l a s=true):(Ps.tk l a).kind≠0:=λe=>by simp [Ps.is,e]at h
theorem PS.bump{k:qd->Prop}(W:zj l)(h:PS Z r tb l a none d A F H nx)(hn:(Ps.tk l a).kind≠0)(hK:∀H',PS Z r tb l (a+1) none d A F H' nx->k H'):
  true=true/\∃v0,some (u0 r 1)=some v0/\∃n:Int,ld1 H v0=some (iv n)/\true=true/\∃v1,some (u0 r 1)=some v1/\true=true/\∃H1,stC H v1 [iv (i64.wrap (n+1))]=some H1/\k H1:=by
 have ha:=qao W hn (PS.lt h)
 have hf:=W.few
 obtain⟨full,n,e0,x,y,hi,hs⟩:=(PS.cells h)
 obtain⟨rfl,hd,rfl,_⟩:=hi.on
 refine⟨rfl,_,rfl,a,hs.ld1 .hd 1,rfl,_,rfl,rfl,?_⟩
 rw [qw (by omega) (by omega)]
 exact hs.one (j:=1) .hd (by simp) rfl λH1 h1=>hK H1 ⟨_,.mkOn ha hd,h1⟩
theorem kA{s:List UInt8}(W:zj l)(h:PS Z r tb l a bad d A F H nx)(hno:isR l a bad s=false->∀H' nx',nx<=nx'->PS Z r tb l a bad d A F H' nx'->K (.ret (.bool false)) H' nx')
  (hyes:bad=none->Ps.is l a s=true->∀H' nx',nx<=nx'->PS Z r tb l (a+1) none d A F H' nx'->K (.ret (.bool true)) H' nx'):qk PG zh [.ptr r 0,.str s] H nx K:=by
 refine qk.of_body qr ?_
 rw [qd3];refine ris h λH1 n1 g1 p1=>qb.2 ⟨_,rfl,qi.2 ⟨λh=> ?_,λh=>hno h _ _ g1 p1⟩⟩
 cases bad with
 |some f=>cases h
 |none=>exact PS.bump W p1 (isk h) λH2 p2=>hyes rfl h _ _ g1 p2
theorem zo{s:List UInt8}(W:zj l)(h:PS Z r tb l a none d A F H nx)
  (hno:Ps.is l a s=false->∀H' nx',nx<=nx'->PS Z r tb l a (some (Ps.flt l a 13)) d A F H' nx'->K (.ret (.tuple [])) H' nx')
  (hyes:Ps.is l a s=true->∀H' nx',nx<=nx'->PS Z r tb l (a+1) none d A F H' nx'->K (.ret (.tuple [])) H' nx'):qk PG qL [.ptr r 0,.str s] H nx K:=by
 refine qk.of_body qr ?_
 rw [Ka];refine ron h (qb.2 ⟨_,rfl,qK rfl (kA W h (λe H1 n1 g1 p1=>qb.2 ⟨_,rfl,qK rfl ?_⟩) λ_ e H1 n1 g1 p1=>qb.2 ⟨_,rfl,qH rfl (hyes e _ _ g1 p1)⟩)⟩)
 exact yQ (by decide) p1 λH2 n2 g2 p2=>qb.2 (hno e _ _ (by omega) p2)
theorem zd{s:List UInt8}{f:Flt}(h:PS Z r tb l a (some f) d A F H nx)(hK:K (.ret (.tuple [])) H nx):qk PG qL [.ptr r 0,.str s] H nx K:=by
 refine qk.of_body qr ?_
 rw [Ka];exact ron h (qb.2 ⟨_,rfl,qH rfl hK⟩)
theorem vO(W:zj l)(h:PS Z r tb l a none d A F H nx)
  (hno:(Ps.tk l a).kind≠2->∀H' nx',nx<=nx'->PS Z r tb l a (some (Ps.flt l a 13)) d A F H' nx'->K (.ret (.str [])) H' nx')
  (hyes:(Ps.tk l a).kind=2->∀H' nx',nx<=nx'->PS Z r tb l (a+1) none d A F H' nx'->K (.ret (.str (Ps.tk l a).text)) H' nx'):qk PG jn [.ptr r 0] H nx K:=by
 refine qk.of_body qr ?_
 rw [J9];refine ron h (qb.2 ⟨_,rfl,qK rfl (QU h λH1 n1 g1 p1=>qb.2 ⟨_,_,_,_,_,rfl,qi.2 ⟨λh=> ?_,λh=>yQ (by decide) p1 λH2 n2 g2 p2=>qb.2 (hno (of_decide_eq_false h) _ _ (by omega) p2)⟩⟩)⟩)
 ·have h:(Ps.tk l a).kind=2:=of_decide_eq_true h
  refine PS.bump W p1 (by rw [h];decide) λH2 p2=> ?_
  obtain⟨full,n,e,x,y,hi,hs⟩:=(PS.cells p2)
  have hf:=W.few
  have ha:=(PS.lt p2)
  have pa:=(PS.lt p1)
  have c0:ld1 H2 (.ptr r 0)=some (.slice tb 0 l.length 5 full):=hs.ld1 .hd 0
  have c1:ld1 H2 (.ptr r 1)=some (iv (a+1:Nat)):=hs.ld1 .hd 1
  have hw:i64.wrap (((a+1:Nat):Int) - 1)=(a:Int):=by rw [qw (by omega) (by omega)];omega
  obtain⟨e4,e6⟩:zq (.slice tb 0 l.length 5 full) a 5=some (.ptr tb (a*5))/\ld1 H2 (.ptr tb (a*5+1))=some (.str (Ps.tk l a).text):=by
   obtain⟨Γ,hk,hT⟩:=hs.fact (P:=TokF tb l) (by simp)
   have h2:SH Z [(r,[.slice tb 0 l.length 5 full,iv ((a+1:Nat):Int),iv n,iv e,iv x,iv y])] [TokF tb l] H2 nx\/True:= .inr trivial
   refine⟨by rw [zW pa,Nat.zero_add],?_⟩
   obtain⟨cs,h2,h4,h5⟩:=hT
   have e1:(cs.drop (a*5)).take 5=jd (Ps.tk l a):=by
    have:(cs.drop (a*5)).take 5=((cs.take (l.length*5)).drop (a*5)).take 5:=by
     rw [List.drop_take,List.take_take,Nat.min_eq_left (by omega)]
    rw [this,h5,QR pa]
    congr 1
    unfold Ps.tk;simp [List.getD,pa]
   rw [hk.ld1 h2];have:cs[a*5+1]?=((cs.drop (a*5)).take 5)[1]?:=by rw [List.getElem?_take_of_lt (by omega),List.getElem?_drop]
   rw [this,e1];rfl
  refine⟨rfl,_,rfl,_,c0,rfl,_,rfl,_,c1,by rw [hw];omega,_,by rw [hw,Int.toNat_natCast];exact e4,_,rfl,_,e6,⟨⟨_,c0,rfl⟩,⟨_,c1,rfl⟩,⟨_,e6,rfl⟩,trivial⟩,hyes h _ _ (by omega) (p2.more (by omega))⟩
theorem Z5{f:Flt}(h:PS Z r tb l a (some f) d A F H nx)(hK:K (.ret (.str [])) H nx):qk PG jn [.ptr r 0] H nx K:=by
 refine qk.of_body qr ?_
 rw [J9];exact ron h (qb.2 ⟨_,rfl,qH rfl (VY h (qb.2 hK))⟩)
theorem kS{k:Int}(h:PS Z r tb l a bad d A F H nx)(hK:∀H' nx',nx<=nx'->PS Z r tb l a bad d A F H' nx'->K (.ret (.agg [iv k,.str [],iv 0,iv (Ps.tk l a).line,iv (Ps.tk l a).col,.nilSlice])) H' nx'):qk PG zD [.ptr r 0,iv k] H nx K:=by
 refine qk.of_body qr ?_
 rw [YC];refine h.new lR λH1 p1=>QU p1 λH2 n2 g2 p2=>qb.2 ⟨_,_,_,_,_,rfl,QU p2 λH3 n3 g3 p3=>qb.2 ⟨_,_,_,_,_,rfl,rfl,rfl,rfl,?_⟩⟩
 refine p3.all .hd rfl rfl λH4 p4=>⟨_,_,_,_,_,_,p4.ldAll .hd rfl,hK _ _ (by omega) (p4.fin (.cons _ (.refl _)) λ_ h=>h)⟩
theorem qjk(h:PS Z r tb l a none d A F H nx)(hno:40<=d->∀H' nx',nx<=nx'->PS Z r tb l a (some (Ps.flt l a 14)) d A F H' nx'->K (.ret (.bool false)) H' nx')
  (hyes:¬40<=d->∀H' nx',nx<=nx'->PS Z r tb l a none (d+1) A F H' nx'->K (.ret (.bool true)) H' nx'):qk PG QY [.ptr r 0] H nx K:=by
 refine qk.of_body qr ?_
 rw [WX];obtain⟨full,n,e0,x,y,hi,hs⟩:=(PS.cells h)
 obtain⟨rfl,hd,rfl,ha⟩:=hi.on
 refine⟨rfl,_,rfl,d,hs.ld1 .hd 2,qi.2 (And.comm.1 ⟨λh2=> ?_,λh2=> ?_⟩)⟩
 ·have h2:¬40<=d:=by have:=of_decide_eq_false h2;omega
  refine⟨rfl,_,rfl,d,hs.ld1 .hd 2,rfl,_,rfl,rfl,hs.one .hd (by simp) rfl λH1 h1=> ?_⟩
  rw [qw (by omega) (by omega)]at h1
  have p1:PS Z r tb l a none (d+1) A F H1 nx:=⟨_,.mkOn ha (by omega),h1⟩
  exact ron p1 (qb.2 ⟨_,rfl,hyes h2 _ _ lR p1⟩)
 ·have h2:40<=d:=by have:=of_decide_eq_true h2;omega
  refine yQ (by decide) h λH1 n1 g1 p1=>qb.2 ?_
  obtain⟨full,n,e0,x,y,hi,hs⟩:=(PS.cells p1)
  obtain⟨rfl,rfl,rfl,hne,ha⟩:=hi.off
  refine⟨rfl,_,rfl,n,hs.ld1 .hd 2,rfl,_,rfl,rfl,hs.one .hd (by simp) rfl λH2 h3=> ?_⟩
  have p2:PS Z r tb l a (some (Ps.flt l a 14)) d A F H2 n1:=⟨_,.mkOff ha hne,h3⟩
  exact ron p2 (qb.2 ⟨_,rfl,hno h2 _ _ g1 p2⟩)
theorem qk7{f:Flt}(h:PS Z r tb l a (some f) d A F H nx)(hK:∀H',PS Z r tb l a (some f) d A F H' nx->K (.ret (.bool false)) H' nx):qk PG QY [.ptr r 0] H nx K:=by
 refine qk.of_body qr ?_
 rw [WX];obtain⟨full,n,e0,x,y,hi,hs⟩:=(PS.cells h)
 obtain⟨rfl,rfl,rfl,hne,ha⟩:=hi.off
 have fin:∀H2,SH Z ((r,[.slice tb 0 l.length 5 full,iv a,iv (i64.wrap (n+1)),iv f.e,iv f.line,iv f.col])::A) (F++[TokF tb l]) H2 nx->qk PG jo [.ptr r 0] H2 nx λe H' nx'=>qc e (λv=>∃b,v= .bool b/\K (.ret (.bool b)) H' nx') λl=>K (.pan l) H' nx':=λH2 h2=>by
  have p2:PS Z r tb l a (some f) d A F H2 nx:=⟨_,.mkOff ha hne,h2⟩
  exact ron p2 (qb.2 ⟨_,rfl,hK _ p2⟩)
 refine⟨rfl,_,rfl,n,hs.ld1 .hd 2,qi.2 (And.comm.1 ⟨λh2=> ?_,λh2=> ?_⟩)⟩
 ·exact⟨rfl,_,rfl,n,hs.ld1 .hd 2,rfl,_,rfl,rfl,hs.one .hd (by simp) rfl λH1 h1=>fin H1 h1⟩
 ·exact VY h (qb.2 ⟨rfl,_,rfl,n,hs.ld1 .hd 2,rfl,_,rfl,rfl,hs.one .hd (by simp) rfl λH1 h1=>fin H1 h1⟩)
theorem qct(h:PS Z r tb l a none (d+1) A F H nx)(hK:∀H',PS Z r tb l a none d A F H' nx->K (.ret (.tuple [])) H' nx):qk PG yv [.ptr r 0] H nx K:=by
 refine qk.of_body qr ?_
 rw [Wb];obtain⟨full,n,e0,x,y,hi,hs⟩:=(PS.cells h)
 obtain⟨rfl,hd,rfl,ha⟩:=hi.on
 refine⟨rfl,_,rfl,_,hs.ld1 .hd 2,rfl,_,rfl,rfl,hs.one .hd (by simp) rfl λH1 h1=>hK _ ?_⟩
 rw [qw (by omega) (by omega),show(((d+1:Nat):Int) - 1)=(d:Int) by omega]at h1
 exact⟨_,.mkOn ha (by omega),h1⟩
theorem X8{f:Flt}{d':Nat}(h:PS Z r tb l a (some f) d A F H nx)(hK:∀H',PS Z r tb l a (some f) d' A F H' nx->K (.ret (.tuple [])) H' nx):qk PG yv [.ptr r 0] H nx K:=by
 refine qk.of_body qr ?_
 rw [Wb];obtain⟨full,n,e0,x,y,hi,hs⟩:=(PS.cells h)
 obtain⟨rfl,rfl,rfl,hne,ha⟩:=hi.off
 exact⟨rfl,_,rfl,_,hs.ld1 .hd 2,rfl,_,rfl,rfl,hs.one .hd (by simp) rfl λH1 h1=>hK _ ⟨_,.mkOff ha hne,h1⟩⟩
end
end
end Go.Vs
end
section
namespace Go.Vs
open Go.Proofs Ps
variable [GTab] {Z:Nat->Prop}
noncomputable section
def vu(Z:Nat->Prop)(r tb:Nat)(l:List Tok)(d:Nat)(A:qN)(F:qU)(nx:Nat)(K:qv)(res:Except Flt (qu×Nat)):Prop:=
 (∀k s n li co w ts b H' nx',res= .ok (.node k s n li co ts,b)->nx<=nx'->PS Z r tb l b none d A (Kids w ts::F) H' nx'->qI w=true->K (.ret (.agg [iv k,.str s,iv n,iv li,iv co,w])) H' nx')/\
 (∀f a k s n li co w ts H' nx',res= .error f->nx<=nx'->PS Z r tb l a (some f) d A (Kids w ts::F) H' nx'->qI w=true->K (.ret (.agg [iv k,.str s,iv n,iv li,iv co,w])) H' nx')
def vt(r tb:Nat)(l:List Tok)(f:FuncId)(args:List qa)(x:Nat->Nat->Rs (qu×Nat)):Prop:=
 ∀(Z:Nat->Prop) A F H nx K a d res,x d a=some res->PS Z r tb l a none d A F H nx->vu Z r tb l d A F nx K res->qk PG f args H nx K
def Kd(r tb:Nat)(l:List Tok)(f:FuncId)(args:List qa):Prop:=
 ∀(Z:Nat->Prop) A F H nx K a d e,PS Z r tb l a (some e) d A F H nx->vu Z r tb l d A F nx K (.error e)->qk PG f args H nx K
section
variable{r tb:Nat}{l:List Tok}{a d:Nat}{bad:Option Flt}{A A':qN}{F:qU}{H:qd}{nx:Nat}{K:qv}{res:Except Flt (qu×Nat)}{rK:qa->qd->Nat->Prop}{pK:List (qa×Bool)->qd->Nat->Prop}
theorem vu.ok{k:Int}{s:List UInt8}{n li co:Int}{w:qa}{ts:List qu}{b:Nat}{H':qd}{nx':Nat}{G:qU}(h:vu Z r tb l d A F nx K res)(e:res= .ok (.node k s n li co ts,b))(p:PS Z r tb l b none d A' G H' nx')(hw:qI w=true)(hn:nx<=nx':=by omega)
  (t:A.Sublist A':=by repeat' first|exact List.Sublist.refl _|refine List.Sublist.cons_cons _ ?_|refine List.Sublist.cons _ ?_)
  (m:Kids w ts∈G:=by first|exact .head _|exact .tail _ (.head _)|exact .tail _ (.tail _ (.head _))|simp) (ss:F⊆G:=by intro P hP;simp [hP]):K (.ret (.agg [iv k,.str s,iv n,iv li,iv co,w])) H' nx':=
 h.1 k s n li co w ts b H' nx' e hn (p.fin t (List.cons_subset.2 ⟨m,ss⟩)) hw
theorem vu.no{f:Flt}{k:Int}{s:List UInt8}{n li co:Int}{w:qa}(ts:List qu){b d':Nat}{H':qd}{nx':Nat}{G:qU}(h:vu Z r tb l d A F nx K res)(e:res= .error f)(p:PS Z r tb l b (some f) d' A' G H' nx')(hw:qI w=true)(hn:nx<=nx':=by omega)
  (t:A.Sublist A':=by repeat' first|exact List.Sublist.refl _|refine List.Sublist.cons_cons _ ?_|refine List.Sublist.cons _ ?_)
  (m:Kids w ts∈G:=by first|exact .head _|exact .tail _ (.head _)|exact .tail _ (.tail _ (.head _))|simp) (ss:F⊆G:=by intro P hP;simp [hP]):K (.ret (.agg [iv k,.str s,iv n,iv li,iv co,w])) H' nx':=by
 have p:=p.fin t (List.cons_subset.2 ⟨m,ss⟩)
 exact h.2 f b k _ n li co w ts H' nx' e hn p hw
theorem vu.nilOk{k:Int}{s:List UInt8}{n li co:Int}{b:Nat}{H':qd}{nx':Nat}{G:qU}(h:vu Z r tb l d A F nx K res)(e:res= .ok (.node k s n li co [],b))(p:PS Z r tb l b none d A' G H' nx')(hn:nx<=nx':=by omega)
  (t:A.Sublist A':=by repeat' first|exact List.Sublist.refl _|refine List.Sublist.cons_cons _ ?_|refine List.Sublist.cons _ ?_)
  (ss:F⊆G:=by intro P hP;simp [hP]):K (.ret (.agg [iv k,.str s,iv n,iv li,iv co,.nilSlice])) H' nx':=
 h.1 k _ n li co _ [] b H' nx' e hn ((p.fin t ss).add λΓ _=>Kids.nil) rfl
theorem vu.nilNo{f:Flt}{k:Int}{s:List UInt8}{n li co:Int}{b d':Nat}{H':qd}{nx':Nat}{G:qU}(h:vu Z r tb l d A F nx K res)(e:res= .error f)(p:PS Z r tb l b (some f) d' A' G H' nx')(hn:nx<=nx':=by omega)
  (t:A.Sublist A':=by repeat' first|exact List.Sublist.refl _|refine List.Sublist.cons_cons _ ?_|refine List.Sublist.cons _ ?_)
  (ss:F⊆G:=by intro P hP;simp [hP]):K (.ret (.agg [iv k,.str s,iv n,iv li,iv co,.nilSlice])) H' nx':=
 h.2 f b k _ n li co _ [] H' nx' e hn ((p.fin t ss).add λΓ _=>Kids.nil) rfl
theorem wi{β:Type}{res:Except Flt β}{f:FuncId}{args:List qa}{x:Nat->Nat->Rs (qu×Nat)}{k:qu×Nat->Rs β}(hf:vt r tb l f args x)(hrun:Rs.bind (x d a) k=some res)(p:PS Z r tb l a none d A F H nx)
  (hok:∀kk s n li co w ts b H' nx',x d a=some (.ok (.node kk s n li co ts,b))->k (.node kk s n li co ts,b)=some res->nx<=nx'->PS Z r tb l b none d A (Kids w ts::F) H' nx'->qI w=true->rK (.agg [iv kk,.str s,iv n,iv li,iv co,w]) H' nx')
  (hno:∀e a k s n li co w ts H' nx',res= .error e->nx<=nx'->PS Z r tb l a (some e) d A (Kids w ts::F) H' nx'->qI w=true->rK (.agg [iv k,.str s,iv n,iv li,iv co,w]) H' nx'):
  qk PG f args H nx λe H' nx'=>qc e (λv=>rK v H' nx') λl=>pK l H' nx':=by
 rcases Ps.bind_some hrun with⟨e,e1,e2⟩|⟨⟨t,b⟩,e1,e2⟩
 ·refine hf _ _ _ _ _ _ _ _ _ e1 p ⟨λk s n li co w ts b H' nx' e=>by(cases e),λe' a k s n li co w ts H' nx' q g p hw=> ?_⟩
  cases q
  exact qb.2 (hno _ _ _ _ _ _ _ _ _ _ _ e2 g p hw)
 ·refine hf _ _ _ _ _ _ _ _ _ e1 p ⟨λk s n li co w ts b H' nx' q g p hw=> ?_,λe' a k s n li co w ts H' nx' q=>by(cases q)⟩
  cases q
  exact qb.2 (hok _ _ _ _ _ _ _ _ _ _ e1 e2 g p hw)
theorem jE{β:Type}{res:Except Flt β}{f:FuncId}{args:List qa}{x:Nat->Nat->Rs (qu×Nat)}{k:qu×Nat->Rs β}(hf:vt r tb l f args x)(hrun:Rs.bind (x d a) k=some res)(p:PS Z r tb l a none d A F H nx)
  (hok:∀kk s n li co w ts b H' nx',k (.node kk s n li co ts,b)=some res->nx<=nx'->PS Z r tb l b none d A (Kids w ts::F) H' nx'->qI w=true->rK (.agg [iv kk,.str s,iv n,iv li,iv co,w]) H' nx')
  (hno:∀e a k s n li co w ts H' nx',res= .error e->nx<=nx'->PS Z r tb l a (some e) d A (Kids w ts::F) H' nx'->qI w=true->rK (.agg [iv k,.str s,iv n,iv li,iv co,w]) H' nx'):
  qk PG f args H nx λe H' nx'=>qc e (λv=>rK v H' nx') λl=>pK l H' nx':=
 wi hf hrun p (λkk s n li co w ts b H' nx' _=>hok kk s n li co w ts b H' nx') hno
theorem ja{f:FuncId}{args:List qa}{fl:Flt}(hf:Kd r tb l f args)(p:PS Z r tb l a (some fl) d A F H nx)
  (hno:∀a k s n li co w ts H' nx',nx<=nx'->PS Z r tb l a (some fl) d A (Kids w ts::F) H' nx'->qI w=true->rK (.agg [iv k,.str s,iv n,iv li,iv co,w]) H' nx'):
  qk PG f args H nx λe H' nx'=>qc e (λv=>rK v H' nx') λl=>pK l H' nx':=by
 refine hf _ _ _ _ _ _ _ _ _ p ⟨λk s n li co w ts b H' nx' e=>by(cases e),λe' a k s n li co w ts H' nx' q g p hw=> ?_⟩
 cases q
 exact qb.2 (hno _ _ _ _ _ _ _ _ _ _ g p hw)
theorem jg{w:qa}{k n li co:Int}{s:List UInt8}(h:qI w=true):qq [iv k,.str s,iv n,iv li,iv co,w]=true:=by simp only [qq,h];rfl
theorem Upd.own{A A':qN}{b:Nat}{cs ds:List qa}(u:Upd A b cs ds A'):Own A' b ds:=by
 induction u with
 |hd=>exact .hd
 |tl _ ih=>exact .tl ih
theorem rb6{I:List qa->Prop}{E:qU}{b n0:Nat}{k:Int}{s:List UInt8}{n li co:Int}{w:qa}{c0:List qa}(h:OB Z r I E A F H nx)(hb:Own A b [iv k,.str s,iv n,iv li,iv co,w])(u:Upd A n0 c0 [iv k,.str s,iv n,iv li,iv co,w] A')(hl:c0.length=6)(hw:qI w=true)
  (hK:∀H',OB Z r I E A' F H' nx->K (.ret (.agg [iv k,.str s,iv n,iv li,iv co,w])) H' nx):
  ∃(n1:Int) (s1:List UInt8) (x1 y1 z1:Int) (v1:qa),ldN H 6 (.ptr b 0)=some (.agg [iv n1,.str s1,iv x1,iv y1,iv z1,v1])/\∃H1,stC H (.ptr n0 0) [iv n1,.str s1,iv x1,iv y1,iv z1,v1]=some H1/\
   ∃(n2:Int) (s2:List UInt8) (x2 y2 z2:Int) (v2:qa),ldN H1 6 (.ptr n0 0)=some (.agg [iv n2,.str s2,iv x2,iv y2,iv z2,v2])/\K (.ret (.agg [iv n2,.str s2,iv x2,iv y2,iv z2,v2])) H1 nx:=by
 refine⟨_,_,_,_,_,_,h.ldAll hb rfl,h.all u hl.symm (jg hw) λH1 h1=>⟨_,_,_,_,_,_,h1.ldAll u.own rfl,hK H1 h1⟩⟩
theorem jS{k:Int}{s:List UInt8}{n li co:Int}{w:qa}{ts:List qu}{i:Nat}{full:Bool}{Γ:GH}(hr:RowF i [iv k,.str s,iv n,iv li,iv co,w] Γ)(hw:Kids w ts Γ):Kids (.slice i 0 1 6 full) [.node k s n li co ts] Γ:=by
 obtain⟨cs,h1,h2⟩:=hw
 refine⟨_,.inr ⟨i,0,full,_,rfl,by rw [yR];exact hr,by simp,rfl⟩,?_⟩
 have:=zf.cons (zy.mk (kind:=k) (n:=n) (line:=li) (col:=co) (name:=s) cs h1 h2) (.nil (ex:=λ_=>False) (Γ:=Γ))
 simpa using this
theorem qgv{k:Int}{s:List UInt8}{n li co:Int}{w:qa}{ts:List qu}{k':Int}{s':List UInt8}{n' li' co':Int}{w':qa}{ts':List qu}{i:Nat}{full:Bool}{Γ:GH}(hr:RowF i [iv k,.str s,iv n,iv li,iv co,w,iv k',.str s',iv n',iv li',iv co',w'] Γ)(hw:Kids w ts Γ)(hw':Kids w' ts' Γ):Kids (.slice i 0 2 6 full) [.node k s n li co ts,.node k' s' n' li' co' ts'] Γ:=by
 obtain⟨cs,h1,h2⟩:=hw
 obtain⟨cs',h1',h2'⟩:=hw'
 refine⟨_,.inr ⟨i,0,full,_,rfl,by rw [yR];exact hr,by simp,rfl⟩,?_⟩
 have:=zf.cons (zy.mk (kind:=k) (n:=n) (line:=li) (col:=co) (name:=s) cs h1 h2) (zf.cons (zy.mk (kind:=k') (n:=n') (line:=li') (col:=co') (name:=s') cs' h1' h2') (.nil (ex:=λ_=>False) (Γ:=Γ)))
 simpa using this
theorem wr:Kd r tb l zY [.ptr r 0]:=by
 intro Z A F H nx K a d e h hK;refine qk.of_body qr ?_
 rw [VK];refine h.new lR λH0 p0=>kS p0 λH1 n1 g1 p1=>qb.2 ⟨_,_,_,_,_,_,rfl,p1.new lR λH2 p2=>p2.all .hd rfl rfl λH3 p3=>qk7 p3 λH4 p4=>qb.2 ⟨_,rfl,qK rfl ?_⟩⟩
 exact rb6 p4 .hd (.tl .hd) rfl rfl λH5 p5=>hK.nilNo rfl p5
def qio(l:List Tok)(go:Nat->Rs (qu×Nat))(a:Nat):Rs (qu×Nat):=
 if is l a [91]then lift (need l (a+1) [93]) λb=>Rs.bind (go b) λ(x,c)=> .ok (mk (tk l a) 9 [] [x],c)
 else if isTyp l a then .ok (leaf (tk l a) 8 (tk l a).text,a+1)
 else lift (name l a) λb=> .ok (leaf (tk l a) 8 (tk l a).text,b)
theorem qg4(W:zj l){go:Nat->Nat->Rs (qu×Nat)}(ih:vt r tb l zY [.ptr r 0] go)(hrun:qio l (go d) a=some res)(h:PS Z r tb l a none d A F H nx)(hK:vu Z r tb l d A F nx K res):
  qk PG QL [.ptr r 0,.agg [iv 8,.str [],iv 0,iv (tk l a).line,iv (tk l a).col,.nilSlice]] H nx K:=by
 refine qk.of_body qr ?_
 rw [Wg];unfold qio at hrun;refine h.newN lR λH0 p0=>p0.new lR λH1 p1=>kA W p1 (λh1 H2 n2 g2 p2=>qb.2 ⟨_,rfl,qH rfl ?_⟩) λ_ h1 H2 n2 g2 p2=>qb.2 ⟨_,rfl,qK rfl ?_⟩
 ·rw [show is l a [91]=false from h1]at hrun;simp only [Bool.false_eq_true,if_false]at hrun
  refine ris p2 λH3 n3 g3 p3=>qb.2 ⟨_,rfl,qi.2 ⟨λh3=> ?_,λh3=>ris p3 λH4 n4 g4 p4=>qb.2 ⟨_,rfl,qi.2 ⟨λh4=> ?_,λh4=>ris p4 λH5 n5 g5 p5=>qb.2 ⟨_,rfl,qi.2 ⟨λh5=> ?_,λh5=> ?_⟩⟩⟩⟩⟩⟩
  ·have ht:isTyp l a=true:=by unfold isTyp;rw [show is l a wInt=true from h3];rfl
   rw [ht]at hrun;cases hrun
   refine QU p3 λH6 n6 g6 p6=>qb.2 ⟨_,_,_,_,_,rfl,_,rfl,rfl,p6.one (.tl .hd) (by simp) rfl λH7 p7=>PS.bump W p7 (isk h3) λH8 p8=>rb6 p8 (.tl .hd) .hd rfl rfl λH9 p9=>hK.nilOk rfl p9⟩
  ·have ht:isTyp l a=true:=by unfold isTyp;rw [show is l a wBool=true from h4];simp
   rw [ht]at hrun;cases hrun
   refine QU p4 λH6 n6 g6 p6=>qb.2 ⟨_,_,_,_,_,rfl,_,rfl,rfl,p6.one (.tl .hd) (by simp) rfl λH7 p7=>PS.bump W p7 (isk h4) λH8 p8=>rb6 p8 (.tl .hd) .hd rfl rfl λH9 p9=>hK.nilOk rfl p9⟩
  ·have ht:isTyp l a=true:=by unfold isTyp;rw [show is l a wString=true from h5];simp
   rw [ht]at hrun;cases hrun
   refine QU p5 λH6 n6 g6 p6=>qb.2 ⟨_,_,_,_,_,rfl,_,rfl,rfl,p6.one (.tl .hd) (by simp) rfl λH7 p7=>PS.bump W p7 (isk h5) λH8 p8=>rb6 p8 (.tl .hd) .hd rfl rfl λH9 p9=>hK.nilOk rfl p9⟩
  ·have ht:isTyp l a=false:=by unfold isTyp;rw [show is l a wInt=false from h3,show is l a wBool=false from h4,show is l a wString=false from h5];rfl
   rw [ht]at hrun;simp only [Bool.false_eq_true,if_false]at hrun
   refine vO W p5 (λh6 H6 n6 g6 p6=>qb.2 ⟨_,rfl,_,rfl,rfl,p6.one (.tl .hd) (by simp) rfl λH7 p7=>rb6 p7 (.tl .hd) .hd rfl rfl λH9 p9=>hK.nilNo ?_ p9⟩) λh6 H6 n6 g6 p6=>qb.2 ⟨_,rfl,_,rfl,rfl,p6.one (.tl .hd) (by simp) rfl λH7 p7=>rb6 p7 (.tl .hd) .hd rfl rfl λH9 p9=>hK.nilOk ?_ p9⟩
   ·simp [name,h6,lift]at hrun;exact hrun.symm
   ·simp [name,h6,lift,Rs.ok]at hrun;exact hrun.symm
 ·rw [h1]at hrun;simp only [if_true]at hrun
  refine zo W p2 (λh2 H3 n3 g3 p3=>qb.2 ⟨_,rfl,rfl,p3.one (.tl .hd) (by simp) rfl λH4 p4=> ?_⟩) λh2 H3 n3 g3 p3=>qb.2 ⟨_,rfl,rfl,p3.one (.tl .hd) (by simp) rfl λH4 p4=> ?_⟩
  ·simp [need,h2,lift]at hrun
   refine ja wr p4 λa1 k s n li co w ts H5 n5 g5 p5 hw=>⟨_,_,_,_,_,_,rfl,p5.newF lR λH6 p6=>⟨_,rfl,rfl,p6.one (.tl .hd) (by simp) rfl λH7 p7=>rb6 p7 (.tl .hd) .hd rfl rfl λH8 p8=> ?_⟩⟩
   have p9:=p8.add (P:=Kids (.slice n5 0 1 6 true) [.node k s n li co ts]) λΓ q=>jS (q _ (.head _)) (q _ (.tail _ (.head _)))
   exact hK.no _ hrun.symm p9 rfl
  ·simp only [need,h2,lift,if_true]at hrun
   refine jE ih hrun p4 (λk s n li co w ts b H5 n5 hr g5 p5 hw=>⟨_,_,_,_,_,_,rfl,p5.newF lR λH6 p6=>⟨_,rfl,rfl,p6.one (.tl .hd) (by simp) rfl λH7 p7=>rb6 p7 (.tl .hd) .hd rfl rfl λH8 p8=> ?_⟩⟩)
    λf a1 k s n li co w ts H5 n5 hr g5 p5 hw=>⟨_,_,_,_,_,_,rfl,p5.newF lR λH6 p6=>⟨_,rfl,rfl,p6.one (.tl .hd) (by simp) rfl λH7 p7=>rb6 p7 (.tl .hd) .hd rfl rfl λH8 p8=> ?_⟩⟩
   ·have p9:=p8.add (P:=Kids (.slice n5 0 1 6 true) [.node k s n li co ts]) λΓ q=>jS (q _ (.head _)) (q _ (.tail _ (.head _)))
    cases hr
    exact hK.ok rfl p9 rfl
   ·have p9:=p8.add (P:=Kids (.slice n5 0 1 6 true) [.node k s n li co ts]) λΓ q=>jS (q _ (.head _)) (q _ (.tail _ (.head _)))
    exact hK.no _ hr p9 rfl
theorem qk9(W:zj l){n:Nat}(ih:vt r tb l zY [.ptr r 0] (run l n .typ)):vt r tb l zY [.ptr r 0] (run l (n+1) .typ):=by
 intro Z A F H nx K a d res hrun h hK;refine qk.of_body qr ?_
 rw [VK];have hrun:(if 40<=d then .bad (flt l a 14)else qio l (run l n .typ (d+1)) a)=some res:=hrun
 refine h.new lR λH0 p0=>kS p0 λH1 n1 g1 p1=>qb.2 ⟨_,_,_,_,_,_,rfl,p1.new lR λH2 p2=>p2.all .hd rfl rfl λH3 p3=>qjk p3 (λhd H4 n4 g4 p4=>qb.2 ⟨_,rfl,qK rfl ?_⟩) λhd H4 n4 g4 p4=>qb.2 ⟨_,rfl,qH rfl ⟨_,_,_,_,_,_,p4.ldAll .hd rfl,?_⟩⟩⟩
 ·rw [if_pos hd]at hrun;cases hrun
  exact rb6 p4 .hd (.tl .hd) rfl rfl λH5 p5=>hK.nilNo rfl p5
 ·rw [if_neg hd]at hrun;refine qg4 W ih hrun p4 ⟨λk s nn li co w ts b H5 n5 e g5 p5 hw=>qb.2 ⟨_,_,_,_,_,_,rfl,p5.all .hd rfl (jg hw) λH6 p6=>qct p6 λH7 p7=>qb.2 ?_⟩,λf a1 k s nn li co w ts H5 n5 e g5 p5 hw=>qb.2 ⟨_,_,_,_,_,_,rfl,p5.all .hd rfl (jg hw) λH6 p6=>X8 (d':=d) p6 λH7 p7=>qb.2 ?_⟩⟩
  ·exact rb6 p7 .hd (.tl .hd) rfl hw λH8 p8=>hK.ok e p8 hw
  ·exact rb6 p7 .hd (.tl .hd) rfl hw λH8 p8=>hK.no ts e p8 hw
theorem yi(W:zj l):∀n,vt r tb l zY [.ptr r 0] (run l n .typ)
 |0=>λ_ _ _ _ _ _ _ _ _ h=>by cases h
 |n+1=>qk9 W (yi W n)
end
def vd(cs:List qa)(ts:List qu):GH->Prop:=λΓ=>zf (λ_=>False) Γ cs ts
def z0(o:qa)(ts:List qu)(G:qN)(F:qU):Prop:=
 (o= .nilSlice/\ts=[]/\G=[])\/∃b cs,o= .slice b 0 ts.length 6 false/\G=[(b,cs)]/\vd cs ts∈F/\cs.length=ts.length*6
section
variable{r tb:Nat}{l:List Tok}{a d:Nat}{I:List qa->Prop}{E:qU}{bad:Option Flt}{A A1:qN}{F:qU}{H:qd}{nx:Nat}{K:qv}{res:Except Flt (qu×Nat)}{o:qa}{ts:List qu}{G:qN}
theorem z0.nil:z0 .nilSlice [] [] F:= .inl ⟨rfl,rfl,rfl⟩
theorem z0.sub{F':qU}(g:z0 o ts G F)(h:F⊆F'):z0 o ts G F':=by
 rcases g with g|⟨b,cs,h1,h2,h3,h4⟩
 ·exact .inl g
 ·exact .inr ⟨b,cs,h1,h2,h h3,h4⟩
theorem z0.cell(g:z0 o ts G F):qI o=true:=by rcases g with⟨rfl,_⟩|⟨b,cs,rfl,_⟩<;>rfl
theorem z0.len(g:z0 o ts G F):kI o=some ts.length:=by rcases g with⟨rfl,rfl,_⟩|⟨b,cs,rfl,_⟩<;>rfl
theorem yZ{k:Int}{s:List UInt8}{n li co:Int}{w:qa}{us:List qu}{Γ:GH}(h:Kids w us Γ):zy (λ_=>False) Γ [iv k,.str s,iv n,iv li,iv co,w] (.node k s n li co us):=let⟨cs,h1,h2⟩:=h; .mk cs h1 h2
theorem OB.app1{i:Nat}{k:Int}{s:List UInt8}{n li co:Int}{w:qa}{us:List qu}{kk:qa->qd->Nat->Prop}(h:OB Z r I E A F H nx)(g:z0 o ts G F)(hi:Ins G A1 A)
  (hr:RowF i [iv k,.str s,iv n,iv li,iv co,w]∈F) (hw:Kids w us∈F) (hc:qI w=true) (hfew:ts.length<100000)
  (hK:∀v H' G' F',z0 v (ts++[.node k s n li co us]) G' F'->F⊆F'->qI v=true->OB Z r I E (G'++A1) F' H' (nx+1)->kk v H' (nx+1)):
  ∃i' l',zJ 6 H (.slice i 0 1 6 true)=some (i',l')/\qq l'=true/\∃v H' n',zt H nx 6 72 o i' l'=some (v,H',n')/\kk v H' n':=by
 obtain⟨ds,g1,g2⟩:=h
 refine⟨1,[iv k,.str s,iv n,iv li,iv co,w],by rw [g2.src (List.mem_append.2 (.inl hr)) (by simp)];rfl,jg hc,?_⟩
 rcases g with⟨rfl,rfl,rfl⟩|⟨b,cs,rfl,rfl,h3,h4⟩
 ·have hA:A1=A:=by
   clear hK g2 hr hw
   induction hi with
   |hd=>rfl
   |tl _ ih=>rw [ih]
  subst hA;obtain⟨H',e1,e2⟩:=g2.appNil (esz:=6) (ebytes:=72) (k:=1) (new:=[iv k,.str s,iv n,iv li,iv co,w]) rfl (by omega) (by omega) (by omega)
  refine⟨_,H',_,e1,hK _ _ _ (vd [iv k,.str s,iv n,iv li,iv co,w] [.node k s n li co us]::F) (.inr ⟨nx,_,rfl,rfl,.head _,rfl⟩) (List.subset_cons_self _ _) rfl ⟨ds,g1,?_⟩⟩
  refine SH.add e2.swap λΓ q=> ?_
  have:=zf.cons (yZ (k:=k) (s:=s) (n:=n) (li:=li) (co:=co) (q _ (List.mem_append.2 (.inl hw)))) (.nil (ex:=λ_=>False) (Γ:=Γ))
  simpa [vd]using this
 ·have g3:SH Z ((b,cs)::(r,ds)::A1) (F++E) H nx:=g2.ins (.tl hi)
  obtain⟨H',e1,e2⟩:=g3.app (esz:=6) (ebytes:=72) (k:=1) (len:=ts.length) (new:=[iv k,.str s,iv n,iv li,iv co,w]) h4 rfl (by omega) (by omega) (by omega)
  refine⟨_,H',_,e1,hK _ _ _ (vd (cs++[iv k,.str s,iv n,iv li,iv co,w]) (ts++[.node k s n li co us])::F) (.inr ⟨nx,_,by simp,rfl,.head _,by simp [h4];omega⟩) (List.subset_cons_self _ _) rfl ⟨ds,g1,?_⟩⟩
  refine SH.add e2.swap λΓ q=> ?_
  have h5:zf (λ_=>False) Γ cs ts:=q _ (List.mem_append.2 (.inl h3))
  have:=zf.app h5 (zf.cons (yZ (k:=k) (s:=s) (n:=n) (li:=li) (co:=co) (q _ (List.mem_append.2 (.inl hw)))) (.nil (ex:=λ_=>False) (Γ:=Γ)))
  simpa [vd]using this
theorem OB.grown(h:OB Z r I E A F H nx)(g:z0 o ts G F)(hi:Ins G A1 A):OB Z r I E A1 (Kids o ts::F) H nx:=by
 obtain⟨ds,g1,g2⟩:=h
 rcases g with⟨rfl,rfl,rfl⟩|⟨b,cs,rfl,rfl,h3,h4⟩
 ·have hA:A1=A:=by
   clear g2
   induction hi with
   |hd=>rfl
   |tl _ ih=>rw [ih]
  subst hA;exact⟨ds,g1,g2.add λΓ _=>Kids.nil⟩
 ·have g3:SH Z ((b,cs)::(r,ds)::A1) (F++E) H nx:=g2.ins (.tl hi)
  refine⟨ds,g1,SH.sub (SH.add g3.freeze (P:=Kids (.slice b 0 ts.length 6 false) ts) λΓ q=> ?_) ?_⟩
  ·exact⟨cs,.inr ⟨b,0,false,cs,rfl,by rw [yR];exact q (RowF b cs) (by simp),by omega,by rw [List.drop_zero,<-h4];exact List.take_length⟩,q (vd cs ts) (List.mem_cons_of_mem _ (List.mem_append.2 (.inl h3)))⟩
  ·intro P hP;rcases List.mem_cons.1 hP with rfl|hP
   ·exact .head _
   ·exact .tail _ (.tail _ hP)
theorem qa5(W:zj l)(h:PS Z r tb l a none d A F H nx)(hK:∀H' nx',nx<=nx'->PS Z r tb l (gaps l a) none d A F H' nx'->K (.ret (.tuple [])) H' nx'){env:Env}(he:ql (qj .und [(0,.ptr r 0)]) env):
  LpP PG 14 (qn (qe PG jf) [1,0,0]) env H nx [] none (qx PG (qk PG) (LpP PG 14) 14 (qe PG jf) [1,0] (qy PG (zx (qB PG)) (qS PG (qB PG)) K (qF PG jf))):=by
 refine zu (P:=PG) (X:=Nat) (Y:=Unit) (λ_=>qj .und [(0,.ptr r 0)]) (λ_=>qj .und [(0,.ptr r 0)])
  (λm b H1 nx1=>nx<=nx1/\PS Z r tb l b none d A F H1 nx1/\m=l.length - b/\gapsN l m b=gaps l a)
  (λid _ H1 nx1=>id=0/\nx<=nx1/\PS Z r tb l (gaps l a) none d A F H1 nx1) (l.length - a) a he ⟨Nat.le_refl _,h,rfl,rfl⟩ ?_ ?_
 ·rintro m b H1 nx1 ⟨h1,p1,rfl,hg⟩
  refine WpP.trim (ts:=[0]) (WpP.of_vK qr ?_)
  rw [YH];have hlt:=PS.lt p1
  obtain⟨m,hm⟩:∃m,l.length - b=m+1:=⟨l.length - b - 1,by omega⟩
  refine kA W p1 (λh H2 nx2 h2 p2=>qb.2 ⟨_,rfl,qH rfl ?_⟩) λ_ h H2 nx2 h2 p2=>qb.2 ⟨_,rfl,qK rfl ?_⟩
  ·refine⟨rfl,(),ql.refl _,rfl,by omega,?_⟩
   rw [<-hg,hm];unfold gapsN;rw [show is l b [59]=false from h];exact p2
  ·refine⟨rfl,_,b+1,Nat.sub_lt_sub_left hlt (Nat.lt_succ_self b),ql.refl _,by omega,p2,rfl,?_⟩
   rw [<-hg,hm];rw [show l.length - (b+1)=m by omega]
   conv=>rhs;unfold gapsN
   rw [h];rfl
 ·rintro id _ H1 nx1 ⟨rfl,h1,p1⟩
  rw [qah];exact hK _ _ h1 p1
theorem YO{f:Flt}(W:zj l)(h:PS Z r tb l a (some f) d A F H nx)(hK:∀H' nx',nx<=nx'->PS Z r tb l a (some f) d A F H' nx'->K (.ret (.tuple [])) H' nx'){env:Env}(he:ql (qj .und [(0,.ptr r 0)]) env):
  LpP PG 14 (qn (qe PG jf) [1,0,0]) env H nx [] none (qx PG (qk PG) (LpP PG 14) 14 (qe PG jf) [1,0] (qy PG (zx (qB PG)) (qS PG (qB PG)) K (qF PG jf))):=by
 refine zu (P:=PG) (X:=Unit) (Y:=Unit) (λ_=>qj .und [(0,.ptr r 0)]) (λ_=>qj .und [(0,.ptr r 0)])
  (λm b H1 nx1=>nx<=nx1/\PS Z r tb l a (some f) d A F H1 nx1)
  (λid _ H1 nx1=>id=0/\nx<=nx1/\PS Z r tb l a (some f) d A F H1 nx1) 0 () he ⟨Nat.le_refl _,h⟩ ?_ ?_
 ·rintro m b H1 nx1 ⟨h1,p1⟩
  refine WpP.trim (ts:=[0]) (WpP.of_vK qr ?_)
  rw [YH];exact kA W p1 (λh H2 nx2 h2 p2=>qb.2 ⟨_,rfl,qH rfl ⟨rfl,(),ql.refl _,rfl,by omega,p2⟩⟩) λe=>by cases e
 ·rintro id _ H1 nx1 ⟨rfl,h1,p1⟩
  rw [qah];exact hK _ _ h1 p1
theorem YA(W:zj l)(h:PS Z r tb l a none d A F H nx)
  (hok:∀b,ends l a= .ok b->∀H' nx',nx<=nx'->PS Z r tb l b none d A F H' nx'->K (.ret (.tuple [])) H' nx')
  (hno:∀f,ends l a= .error f->∀H' nx',nx<=nx'->PS Z r tb l a (some f) d A F H' nx'->K (.ret (.tuple [])) H' nx'):qk PG jf [.ptr r 0] H nx K:=by
 refine qk.of_body qr ?_
 rw [Jf];have gapsS:is l a [59]=true->gaps l a=gaps l (a+1):=λh1=>by
  have ha:=PS.lt h
  unfold gaps;rw [show l.length - a=(l.length - (a+1))+1 by omega]
  conv=>lhs;unfold gapsN
  rw [h1];rfl
 refine ris h λH1 n1 g1 p1=>qb.2 ⟨_,rfl,qi.2 ⟨λh1=> ?_,λh1=> ?_⟩⟩
 ·have h1:is l a [59]=false:=by simpa [isR]using h1
  refine ris p1 λH2 n2 g2 p2=>qb.2 ⟨_,rfl,qi.2 ⟨λh2=> ?_,λh2=> ?_⟩⟩
  ·have h2:is l a [125]=false:=by simpa [isR]using h2
   refine yQ (by decide) p2 λH3 n3 g3 p3=>qb.2 (YO W p3 (λH4 n4 g4 p4=>hno _ ?_ _ _ (by omega) p4) (ql.okay))
   simp [ends,h2,need,h1]
  ·have h2:is l a [125]=true:=by simpa [isR]using h2
   refine qa5 W p2 (λH4 n4 g4 p4=>hok _ ?_ _ _ (by omega) p4) (ql.okay)
   simp [ends,h2]
 ·have h1:is l a [59]=true:=by simpa [isR]using h1
  refine qa5 W p1 (λH4 n4 g4 p4=>hok _ ?_ _ _ (by omega) p4) (ql.okay)
  have h2:is l a [125]=false:=by
   cases e:is l a [125]with
   |false=>rfl
   |true=>simp [is]at e h1;rw [e.2]at h1;simp at h1
  simp [ends,h2,need,h1,gapsS h1]
theorem WV{f:Flt}(W:zj l)(h:PS Z r tb l a (some f) d A F H nx)
  (hno:∀H' nx',nx<=nx'->PS Z r tb l a (some f) d A F H' nx'->K (.ret (.tuple [])) H' nx'):qk PG jf [.ptr r 0] H nx K:=by
 refine qk.of_body qr ?_
 rw [Jf];refine ris h λH1 n1 g1 p1=>qb.2 ⟨_,rfl,qK rfl (ris p1 λH2 n2 g2 p2=>qb.2 ⟨_,rfl,qK rfl (VY p2 (qb.2 (YO W p2 (λH4 n4 g4 p4=>hno _ _ (by omega) p4) (ql.okay))))⟩)⟩
end
end
end Go.Vs
end
