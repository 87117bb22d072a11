/-
  Own work. Texts of a proof,laid together; no condition.
-/
import Derived.Test.YtbbjihgkggahpaaGreatCee4
import Derived.Test.YtbbjihgkggahpaaGreatCee6
import Derived.Test.YtbbjihgkggahpaaGreatCee2
import Derived.Test.YtbbjihgkggahpaaGreatCee5
set_option linter.unusedSectionVars false
set_option linter.unusedVariables false
set_option linter.unusedSimpArgs false
set_option maxRecDepth 1000000
open Go.Vs.qa renaming ptr → u0, str → u5, agg → u6, bool → u7, nilSlice → u9, tuple → U0, und → U1
open Go.Vs.qg renaming pan → U2, ret → U3
open Go.IntKind (i64)
section
namespace Go.Vs
open Go.Proofs
variable [GTab] {Z:Nat->Prop}
noncomputable section
structure Sst where
 s:List UInt8
 a:Nat
 line:Int
 col:Int
 out:List Tok
 bad:Int
 wl:Int
 wc:Int
def K8(ob:Nat):List Tok->qa
 |[]=> .nilSlice
 |t::l=> .slice ob 0 (t::l).length 5 false
def scC(ob:Nat)(σ:Sst):List qa:=[.str σ.s,iv σ.a,iv σ.line,iv σ.col,K8 ob σ.out,iv σ.bad,iv 0,.str [],iv 0,iv σ.wl,iv σ.wc]
def scO(Γ0:GH)(ob:Nat):List Tok->GH
 |[]=>Γ0
 |t::l=>gup ob (some ((t::l).flatMap ky)) Γ0
def scG(Γ0:GH)(r ob:Nat)(σ:Sst):GH:=gup r (some (scC ob σ)) (scO Γ0 ob σ.out)
structure ScI(Γ0:GH)(r ob:Nat)(σ:Sst):Prop where
 r0:Γ0 r=none
 o0:Γ0 ob=none
 ne:ob≠r
 le:σ.a<=σ.s.length
 len:σ.s.length<=16384
 few:σ.out.length<=4000
 ln:0<=σ.line/\σ.line<=σ.a+1
 cl:0<=σ.col/\σ.col<=σ.a+1
theorem qjs{ob:Nat}{l:List Tok}{t:Tok}:K8 ob (l++[t])= .slice ob 0 (l.length+1) 5 false:=by
 cases l with
 |nil=>rfl
 |cons x l=>simp [K8]
theorem ql2{Γ0:GH}{ob:Nat}{l:List Tok}{t:Tok}:scO Γ0 ob (l++[t])=gup ob (some ((l++[t]).flatMap ky)) Γ0:=by
 cases l<;>rfl
theorem Xj{ob:Nat}{l:List Tok}:zw (K8 ob l)=some l.length:=by cases l<;>rfl
section
variable{Γ0:GH}{r ob nx:Nat}{σ σ':Sst}{H:qc}{K:qr}
theorem neK{Γ:GH}{b i:Nat}{cs:List qa}(h1:Γ b=some cs)(h2:Γ i=none):b≠i:=λx=>by rw [x,h2]at h1;cases h1
theorem Kf(I:ScI Γ0 r ob σ)(b:Nat)(cs:List qa)(e:Γ0 b=some cs):scG Γ0 r ob σ b=some cs:=by
 unfold scG;rw [qn λx=>by rw [x,I.r0]at e;cases e]
 cases σ.out with
 |nil=>exact e
 |cons t l=>exact(qn λx=>by rw [x,I.o0]at e;cases e).trans e
theorem jz:scG Γ0 r ob σ r=some (scC ob σ):=qk _ _ _
theorem YM(I:ScI Γ0 r ob σ)(h:σ.out≠[]):scG Γ0 r ob σ ob=some (σ.out.flatMap ky):=by
 unfold scG;rw [qn I.ne];cases ho:σ.out with
 |nil=>exact absurd ho h
 |cons t l=>exact qk _ _ _
theorem qgt(h:σ'.out=σ.out):gup r (some (scC ob σ')) (scG Γ0 r ob σ)=scG Γ0 r ob σ':=by
 unfold scG;rw [vz,h]
theorem qff(σ':Sst)(hk:HZ Z (scG Γ0 r ob σ) H nx){j:Nat}{v:qa}(hv:qZ v=true)(hj:j<11)(e:(scC ob σ).set j v=scC ob σ')(eo:σ'.out=σ.out){k:qc->Prop}(hK:∀H',HZ Z (scG Γ0 r ob σ') H' nx->k H'):∃H',stC H (.ptr r j) [v]=some H'/\k H':=by
 refine Wh hk jz (by simpa [scC]using hj) hv λH' h=>hK H' ?_
 rw [e,qgt eo]at h;exact h
theorem qs5(σ':Sst)(hk:HZ Z (scG Γ0 r ob σ) H nx){x y:Int}(e:σ'={σ with wl:=x,wc:=y}){k:qc->Prop}(hK:∀H',HZ Z (scG Γ0 r ob σ') H' nx->k H'):∃H',stC H (.ptr r 6) [iv 0,.str [],iv 0,iv x,iv y]=some H'/\k H':=by
 obtain⟨H',e1,e2⟩:=hk.st (b:=r) (off:=6) (vs:=[iv 0,.str [],iv 0,iv x,iv y]) jz (by simp [scC]) rfl
 refine⟨H',e1,hK H' ?_⟩
 have:jw (scC ob σ) 6 [iv 0,.str [],iv 0,iv x,iv y]=scC ob σ':=by subst e;rfl
 rw [this,qgt (by subst e;rfl)]at e2;exact e2
theorem qn0{c:UInt8}(I:ScI Γ0 r ob σ)(hk:HZ Z (scG Γ0 r ob σ) H nx)(hc:σ.s[σ.a]?=some c)(hK:∀nx',nx<=nx'->HZ Z (scG Γ0 r ob σ) H nx'->K (.ret (bv (Int.ofNat c.toNat))) H nx'):qo PG Va [.ptr r 0] H nx K:=by
 refine qo.of_body qp ?_
 rw [qcc];have l1:ld1 H (.ptr r 1)=some (iv σ.a):=by rw [hk.ld1 jz];rfl
 have l0:ld1 H (.ptr r 0)=some (.str σ.s):=by rw [hk.ld1 jz];rfl
 have hlt:σ.a<σ.s.length:=by
  by_cases h:σ.a<σ.s.length
  ·exact h
  ·rw [List.getElem?_eq_none (by omega)]at hc;cases hc
 refine⟨rfl,_,rfl,_,l1,rfl,_,rfl,_,l0,⟨⟨_,l1,rfl⟩,⟨_,l0,rfl⟩,trivial⟩,qf.2 ⟨λh=> ?_,λh=>⟨rfl,_,rfl,_,l0,rfl,_,rfl,_,l1,by omega,c,?_,⟨⟨_,l0,rfl⟩,⟨_,l1,rfl⟩,trivial⟩,hK _ (by omega) (hk.more (by omega))⟩⟩⟩
 ·have h:=of_decide_eq_true h
  have:(σ.a:Int)=(σ.s.length:Int):=h
  omega
 ·simpa using hc
theorem yn(I:ScI Γ0 r ob σ)(hk:HZ Z (scG Γ0 r ob σ) H nx)(hK:∀nx',nx<=nx'->HZ Z (scG Γ0 r ob σ) H nx'->K (.ret (.str (σ.s.drop σ.a))) H nx'):qo PG vg [.ptr r 0] H nx K:=by
 refine qo.of_body qp ?_
 rw [qeb];have l1:ld1 H (.ptr r 1)=some (iv σ.a):=by rw [hk.ld1 jz];rfl
 have l0:ld1 H (.ptr r 0)=some (.str σ.s):=by rw [hk.ld1 jz];rfl
 have hle:=I.le
 have hx:(some ((σ.a:Int)).toNat).getD 0<=(none:Option Nat).getD σ.s.length:=by simpa using hle
 refine⟨rfl,_,rfl,_,l0,rfl,_,rfl,_,l1,by omega,Nat.le_refl _,hx,⟨⟨_,l0,rfl⟩,⟨_,l1,rfl⟩,⟨by omega,Nat.le_refl _,hx,rfl⟩,trivial⟩,?_⟩
 have e:List.take ((none:Option Nat).getD σ.s.length - (some ((σ.a:Int)).toNat).getD 0) (List.drop ((some ((σ.a:Int)).toNat).getD 0) σ.s)=σ.s.drop σ.a:=by
  simp only [Option.getD_none,Option.getD_some,Int.toNat_natCast]
  exact List.take_of_length_le (by simp)
 rw [e];exact hK _ (by omega) (hk.more (by omega))
theorem JU{n:Nat}(I:ScI Γ0 r ob σ)(hk:HZ Z (scG Γ0 r ob σ) H nx)(hn:n<=20000)(hK:∀H',HZ Z (scG Γ0 r ob {σ with a:=σ.a+n,col:=σ.col+n}) H' nx->K (.ret (.tuple [])) H' nx):qo PG zz [.ptr r 0,iv n] H nx K:=by
 refine qo.of_body qp ?_
 rw [qda];have hle:=I.le;have hlen:=I.len;have hcl:=I.cl
 refine⟨rfl,_,rfl,(σ.a:Int),by rw [hk.ld1 jz];rfl,rfl,_,rfl,rfl,?_⟩
 rw [qB (by omega) (by omega),show((σ.a:Int)+(n:Int))=((σ.a+n:Nat):Int) by omega]
 refine qff {σ with a:=σ.a+n} hk rfl (by omega) rfl rfl λH1 h1=> ?_
 refine⟨rfl,_,rfl,σ.col,by rw [h1.ld1 jz];rfl,rfl,_,rfl,rfl,?_⟩
 rw [qB (by omega) (by omega)]
 exact qff {σ with a:=σ.a+n,col:=σ.col+n} h1 rfl (by omega) rfl rfl λH2 h2=>hK H2 h2
theorem Z6{e:Int}(I:ScI Γ0 r ob σ)(hb:σ.bad=0)(hk:HZ Z (scG Γ0 r ob σ) H nx)(hK:∀H' nx',nx<=nx'->HZ Z (scG Γ0 r ob {σ with bad:=e,wl:=σ.line,wc:=σ.col}) H' nx'->K (.ret (.tuple [])) H' nx'):qo PG z6 [.ptr r 0,iv e] H nx K:=by
 refine qo.of_body qp ?_
 rw [qas];have l2:ld1 H (.ptr r 2)=some (iv σ.line):=by rw [hk.ld1 jz];rfl
 have l3:ld1 H (.ptr r 3)=some (iv σ.col):=by rw [hk.ld1 jz];rfl
 refine⟨rfl,_,rfl,σ.bad,by rw [hk.ld1 jz];rfl,qf.2 ⟨λh=>⟨rfl,_,rfl,_,l2,rfl,_,rfl,_,l3,rfl,rfl,rfl,_,rfl,⟨⟨_,l2,rfl⟩,⟨_,l3,rfl⟩,trivial⟩,rfl,?_⟩,λh=>absurd hb (of_decide_eq_false h)⟩⟩
 refine qff {σ with bad:=e} hk rfl (by omega) rfl rfl λH1 h1=>⟨rfl,_,rfl,trivial,?_⟩
 exact qs5 {σ with bad:=e,wl:=σ.line,wc:=σ.col} h1 rfl λH2 h2=>⟨trivial,hK _ _ (by omega) (h2.more (by omega))⟩
theorem VP:∀(l:List Tok),(l.flatMap ky).length=l.length*5
 |[]=>rfl
 |t::l=>by rw [List.flatMap_cons,List.length_append,VP l,List.length_cons];simp [ky];omega
theorem JT{k n:Int}{s:List UInt8}(I:ScI Γ0 r ob σ)(hk:HZ Z (scG Γ0 r ob σ) H nx)
  (hfull:4000<=σ.out.length->∀H' nx',nx<=nx'->HZ Z (scG Γ0 r ob {σ with bad:=6,wl:=σ.line,wc:=σ.col}) H' nx'->K (.ret (.tuple [])) H' nx')
  (hput:¬4000<=σ.out.length->∀ob' H' nx',nx<=nx'->Γ0 ob'=none->ob'≠r->HZ Z (scG Γ0 r ob' {σ with out:=σ.out++[⟨k,s,n,σ.line,σ.col⟩]}) H' nx'->K (.ret (.tuple [])) H' nx'):qo PG qx [.ptr r 0,iv k,.str s,iv n] H nx K:=by
 refine qo.of_body qp ?_
 rw [qgg];have l2:ld1 H (.ptr r 2)=some (iv σ.line):=by rw [hk.ld1 jz];rfl
 have l3:ld1 H (.ptr r 3)=some (iv σ.col):=by rw [hk.ld1 jz];rfl
 have l4:ld1 H (.ptr r 4)=some (K8 ob σ.out):=by rw [hk.ld1 jz];rfl
 have hfew:=I.few
 refine⟨rfl,_,rfl,_,l4,_,Xj,qf.2 ⟨λh=> ?_,λh=> ?_⟩⟩
 ·have h:(σ.out.length:Int)=4000:=of_decide_eq_true h
  refine⟨rfl,_,rfl,_,l2,rfl,_,rfl,_,l3,rfl,rfl,rfl,_,rfl,⟨⟨_,l2,rfl⟩,⟨_,l3,rfl⟩,trivial⟩,rfl,?_⟩
  refine qff {σ with bad:=6} hk rfl (by omega) rfl rfl λH1 h1=>⟨rfl,_,rfl,trivial,?_⟩
  exact qs5 {σ with bad:=6,wl:=σ.line,wc:=σ.col} h1 rfl λH2 h2=>⟨trivial,hfull (by omega) _ _ (by omega) (h2.more (by omega))⟩
 ·have h:¬(σ.out.length:Int)=4000:=of_decide_eq_false h
  refine⟨rfl,_,rfl,_,l4,rfl,_,rfl,_,l2,rfl,_,rfl,_,l3,rfl,rfl,rfl,rfl,rfl,?_⟩
  have hf:=hk.fresh (by omega:nx<=nx+17)
  refine Qe hk (nx':=nx+22) (by omega) (by omega) λH1 h1=> ?_
  have hne:r≠nx+17:=neK jz hf
  have er:gup (nx+17) (some [iv k,.str s,iv n,iv σ.line,iv σ.col]) (scG Γ0 r ob σ) r=some (scC ob σ):=(qn hne).trans jz
  have m2:ld1 H1 (.ptr r 2)=some (iv σ.line):=by rw [h1.ld1 er];rfl
  have m3:ld1 H1 (.ptr r 3)=some (iv σ.col):=by rw [h1.ld1 er];rfl
  have m4:ld1 H1 (.ptr r 4)=some (K8 ob σ.out):=by rw [h1.ld1 er];rfl
  refine⟨⟨⟨_,m4,rfl⟩,⟨_,m2,rfl⟩,⟨_,m3,rfl⟩,trivial⟩,1,[iv k,.str s,iv n,iv σ.line,iv σ.col],by rw [h1.src (qk _ _ _) (by simp)];simp,rfl,?_⟩
  have hf2:=h1.fresh (Nat.le_refl (nx+22))
  have hn2:nx+22≠r:=λx=>by rw [x,er]at hf2;cases hf2
  have h02:Γ0 (nx+22)=none:=by
   cases e:Γ0 (nx+22)with
   |none=>rfl
   |some cs=>rw [qn (by omega),Kf I _ _ e]at hf2;cases hf2
  have h017:Γ0 (nx+17)=none:=by
   cases e:Γ0 (nx+17)with
   |none=>rfl
   |some cs=>have:=Kf I _ _ e;rw [hf]at this;cases this
  have fin:∀(Γ':GH) (H2:qc),HZ Z Γ' H2 (nx+23)->Γ' r=some (scC ob σ)->Γ' (nx+22)=some ((σ.out++[(⟨k,s,n,σ.line,σ.col⟩:Tok)]).flatMap ky)->(∀b cs,Γ0 b=some cs->Γ' b=some cs)->
    ∃H3,stC H2 (.ptr r 4) [.slice (nx+22) 0 (σ.out.length+1) 5 false]=some H3/\True/\K (.ret (.tuple [])) H3 (nx+23):=by
   intro Γ' H2 h2 e1 e2 e3;refine Wh (k:=λH3=>True/\K (.ret (.tuple [])) H3 (nx+23)) h2 e1 (j:=4) (by simp [scC]) rfl λH3 h3=>And.intro trivial (hput (by omega) (nx+22) _ _ (by omega) h02 hn2 (h3.sub λb cs e=> ?_))
   unfold scG at e;by_cases hb:b=r
   ·subst hb;rw [qk]at e ⊢;rw [<-e];simp only [scC,qjs]
    rfl
   ·rw [qn hb]at e ⊢;rw [ql2]at e;by_cases hb2:b=nx+22
    ·subst hb2;rw [qk]at e;rw [<-e];exact e2
    ·rw [qn hb2]at e;exact e3 b cs e
  have hsub:∀b cs,Γ0 b=some cs->gup (nx+17) (some [iv k,.str s,iv n,iv σ.line,iv σ.col]) (scG Γ0 r ob σ) b=some cs:=λb cs e=>by
   rw [qn λx=>by rw [x,h017]at e;cases e];exact Kf I b cs e
  cases hout:σ.out with
  |nil=>
   obtain⟨H2,a1,a2⟩:=h1.appNil (esz:=5) (ebytes:=48) (k:=1) (new:=[iv k,.str s,iv n,iv σ.line,iv σ.col]) (by simp) (by omega) (by omega) (by omega)
   refine⟨_,H2,_,a1,rfl,_,rfl,trivial,rfl,?_⟩
   have:=fin _ H2 a2 ((qn (Ne.symm hn2)).trans er) (by rw [qk,hout];rfl) λb cs e=>(qn (neK e h02)).trans (hsub b cs e)
   rw [hout]at this;exact this
  |cons t l=>
   have ho:σ.out≠[]:=by rw [hout];simp
   have hob:ob≠nx+17:=neK (YM I ho) hf
   have eo:gup (nx+17) (some [iv k,.str s,iv n,iv σ.line,iv σ.col]) (scG Γ0 r ob σ) ob=some (σ.out.flatMap ky):=(qn hob).trans (YM I ho)
   have hfl:=VP σ.out
   obtain⟨H2,a1,a2⟩:=h1.app (esz:=5) (ebytes:=48) (k:=1) (len:=σ.out.length) (new:=[iv k,.str s,iv n,iv σ.line,iv σ.col]) eo (by omega) (by simp) (by omega) (by omega) (by omega)
   have ev:K8 ob (t::l)= .slice ob 0 σ.out.length 5 false:=by rw [hout];rfl
   rw [ev];refine⟨_,H2,_,a1,rfl,_,rfl,trivial,rfl,?_⟩
   refine fin _ H2 a2 ?_ ?_ λb cs e=> ?_
   ·rw [qn (Ne.symm hn2),qn (Ne.symm I.ne)];exact er
   ·rw [qk,<-hfl,List.take_length,List.flatMap_append];rfl
   ·exact(qn (neK e h02)).trans ((qn (neK e I.o0)).trans (hsub b cs e))
theorem qse{a b:UInt8}:a<=b↔a.toNat<=b.toNat:=UInt8.le_iff_toNat_le
theorem Xn{c:UInt8}:Pt.letter c=true↔(97<=c.toNat/\c.toNat<=122)\/(65<=c.toNat/\c.toNat<=90)\/c.toNat=95:=by
 unfold Pt.letter;simp only [Bool.or_eq_true,Bool.and_eq_true,decide_eq_true_eq,beq_iff_eq,qse,<-UInt8.toNat_inj]
 show((97<=c.toNat/\c.toNat<=122)\/(65<=c.toNat/\c.toNat<=90))\/c.toNat=95↔_
 rw [or_assoc]
theorem Ks{c:UInt8}:Pt.digit c=true↔48<=c.toNat/\c.toNat<=57:=by
 unfold Pt.digit;simp only [Bool.and_eq_true,decide_eq_true_eq,qse]
 rfl
theorem qh3{a b:Bool}(h:a=true↔b=true):a=b:=by cases a<;>cases b<;>simp_all
theorem W9{c:UInt8}(h:K (.ret (.bool (Pt.letter c))) H nx):qo PG vF [bv (Int.ofNat c.toNat)] H nx K:=by
 refine qo.of_body qp ?_
 rw [Xz];have yes:(97<=c.toNat/\c.toNat<=122)\/(65<=c.toNat/\c.toNat<=90)\/c.toNat=95->K (.ret (.bool true)) H nx:=λe=>by rw [Xn.2 e]at h;exact h
 have last:¬(97<=c.toNat/\c.toNat<=122)->¬(65<=c.toNat/\c.toNat<=90)->K (.ret (.bool (decide (Int.ofNat c.toNat=95)))) H nx:=λe1 e2=>by
  have:Pt.letter c=decide (Int.ofNat c.toNat=95):=qh3 (Xn.trans ⟨λx=>by simp;omega,λx=>by simp at x;omega⟩)
  rw [this]at h;exact h
 have mid:¬(97<=c.toNat/\c.toNat<=122)->ifB (decide (65<=Int.ofNat c.toNat)) (ifB (decide (Int.ofNat c.toNat<=90)) (K (.ret (.bool true)) H nx) (K (.ret (.bool (decide (Int.ofNat c.toNat=95)))) H nx)) (K (.ret (.bool (decide (Int.ofNat c.toNat=95)))) H nx):=λe=>by
  refine qf.2 ⟨λh1=>qf.2 ⟨λh2=>yes ?_,λh2=>last e ?_⟩,λh1=>last e ?_⟩
  ·have h1:65<=(c.toNat:Int):=of_decide_eq_true h1
   have h2:(c.toNat:Int)<=90:=of_decide_eq_true h2
   omega
  ·have h2:¬(c.toNat:Int)<=90:=of_decide_eq_false h2
   omega
  ·have h1:¬65<=(c.toNat:Int):=of_decide_eq_false h1
   omega
 refine qf.2 ⟨λh1=>qf.2 ⟨λh2=>yes ?_,λh2=>mid ?_⟩,λh1=>mid ?_⟩
 ·have h1:97<=(c.toNat:Int):=of_decide_eq_true h1
  have h2:(c.toNat:Int)<=122:=of_decide_eq_true h2
  omega
 ·have h2:¬(c.toNat:Int)<=122:=of_decide_eq_false h2
  omega
 ·have h1:¬97<=(c.toNat:Int):=of_decide_eq_false h1
  omega
theorem KH{c:UInt8}(h:K (.ret (.bool (Pt.digit c))) H nx):qo PG kV [bv (Int.ofNat c.toNat)] H nx K:=by
 refine qo.of_body qp ?_
 rw [YZ];refine qf.2 ⟨λh1=> ?_,λh1=> ?_⟩
 ·have h1:48<=(c.toNat:Int):=of_decide_eq_true h1
  have:Pt.digit c=decide (Int.ofNat c.toNat<=57):=qh3 (Ks.trans ⟨λx=>by simp;omega,λx=>by simp at x;omega⟩)
  rw [this]at h;exact h
 ·have h1:¬48<=(c.toNat:Int):=of_decide_eq_false h1
  have:Pt.digit c=false:=by
   cases e:Pt.digit c with
   |false=>rfl
   |true=>have:=Ks.1 e;omega
  rw [this]at h;exact h
theorem z5{s u:List UInt8}{p q:Prop}(h1:s=u->p)(h2:s≠u->q):ifB (s==u) p q:=qf.2 ⟨λe=>h1 (by simpa using e),λe=>h2 (by simpa using e)⟩
theorem qfm{s:List UInt8}(h:K (.ret (.bool (Pt.isWord s))) H nx):qo PG Zu [.str s] H nx K:=by
 refine qo.of_body qp ?_
 rw [XU];have yes:s∈Pt.words->K (.ret (.bool true)) H nx:=λe=>by unfold Pt.isWord at h;rw [decide_eq_true e]at h;exact h
 refine z5 (λe=>yes (by subst e;decide)) λe0=> ?_
 refine z5 (λe=>yes (by subst e;decide)) λe1=> ?_
 refine z5 (λe=>yes (by subst e;decide)) λe2=> ?_
 refine z5 (λe=>yes (by subst e;decide)) λe3=> ?_
 refine z5 (λe=>yes (by subst e;decide)) λe4=> ?_
 refine z5 (λe=>yes (by subst e;decide)) λe5=> ?_
 refine z5 (λe=>yes (by subst e;decide)) λe6=> ?_
 refine z5 (λe=>yes (by subst e;decide)) λe7=> ?_
 refine z5 (λe=>yes (by subst e;decide)) λe8=> ?_
 refine z5 (λe=>yes (by subst e;decide)) λe9=> ?_
 refine z5 (λe=>yes (by subst e;decide)) λe10=> ?_
 refine z5 (λe=>yes (by subst e;decide)) λe11=> ?_
 refine z5 (λe=>yes (by subst e;decide)) λe12=> ?_
 refine z5 (λe=>yes (by subst e;decide)) λe13=> ?_
 refine z5 (λe=>yes (by subst e;decide)) λe14=> ?_
 refine z5 (λe=>yes (by subst e;decide)) λe15=> ?_
 refine z5 (λe=>yes (by subst e;decide)) λe16=> ?_
 refine z5 (λe=>yes (by subst e;decide)) λe17=> ?_
 refine z5 (λe=>yes (by subst e;decide)) λe18=> ?_
 refine z5 (λe=>yes (by subst e;decide)) λe19=> ?_
 refine z5 (λe=>yes (by subst e;decide)) λe20=> ?_
 refine z5 (λe=>yes (by subst e;decide)) λe21=> ?_
 have:Pt.isWord s=false:=decide_eq_false λe=>by
  simp only [Pt.words,List.mem_cons,List.not_mem_nil,or_false]at e
  rcases e with e|e|e|e|e|e|e|e|e|e|e|e|e|e|e|e|e|e|e|e|e|e
  ·exact e0 e
  ·exact e1 e
  ·exact e2 e
  ·exact e3 e
  ·exact e4 e
  ·exact e5 e
  ·exact e6 e
  ·exact e7 e
  ·exact e8 e
  ·exact e9 e
  ·exact e10 e
  ·exact e11 e
  ·exact e12 e
  ·exact e13 e
  ·exact e14 e
  ·exact e15 e
  ·exact e16 e
  ·exact e17 e
  ·exact e18 e
  ·exact e19 e
  ·exact e20 e
  ·exact e21 e
 rw [this]at h;exact h
theorem qet{c:UInt8}(h:K (.ret (.tuple (if c=110 then [bv 10,.bool true]else if c=116 then [bv 9,.bool true]else if c=34\/c=92 then [bv (Int.ofNat c.toNat),.bool true]else [bv 0,.bool false]))) H nx):qo PG ZI [bv (Int.ofNat c.toNat)] H nx K:=by
 refine qo.of_body qp ?_
 rw [XQ];have ec:∀m:UInt8,c=m↔Int.ofNat c.toNat=Int.ofNat m.toNat:=λm=>by rw [<-UInt8.toNat_inj];show _↔((c.toNat:Int)=(m.toNat:Int));omega
 have st:∀{m:UInt8} {p q:Prop},(c=m->p)->(c≠m->q)->ifB (decide (Int.ofNat c.toNat=Int.ofNat m.toNat)) p q:=λh1 h2=>qf.2 ⟨λe=>h1 ((ec _).2 (of_decide_eq_true e)),λe=>h2 λx=>of_decide_eq_false e ((ec _).1 x)⟩
 refine st (m:=110) (λe=>by rw [if_pos e]at h;exact h) λe1=> ?_
 refine st (m:=116) (λe=>by rw [if_neg e1,if_pos e]at h;exact h) λe2=> ?_
 rw [if_neg e1,if_neg e2]at h;refine st (m:=34) (λe=>by rw [if_pos (.inl e)]at h;exact h) λe3=> ?_
 refine st (m:=92) (λe=>by rw [if_pos (.inr e)]at h;exact h) λe4=> ?_
 rw [if_neg (by intro x;exact x.elim e3 e4)]at h
 exact h
theorem qbd(I:ScI Γ0 r ob σ)(hk:HZ Z (scG Γ0 r ob σ) H nx)(hK:∀H' nx',nx<=nx'->HZ Z (scG Γ0 r ob σ) H' nx'->K (.ret (.bool (Pt.ends σ.out))) H' nx'):qo PG Z5 [.ptr r 0] H nx K:=by
 refine qo.of_body qp ?_
 rw [qdx];have l4:ld1 H (.ptr r 4)=some (K8 ob σ.out):=by rw [hk.ld1 jz];rfl
 have hfew:=I.few
 refine⟨rfl,_,rfl,_,l4,_,Xj,qf.2 ⟨λh=> ?_,λh=> ?_⟩⟩
 ·have h:(σ.out.length:Int)=0:=of_decide_eq_true h
  have e:σ.out=[]:=List.length_eq_zero_iff.1 (by omega)
  have:=hK H nx lR hk
  rw [e]at this;exact this
 ·have h:¬(σ.out.length:Int)=0:=of_decide_eq_false h
  have ho:σ.out≠[]:=λe=>by rw [e]at h;exact h rfl
  have hl:0<σ.out.length:=by omega
  have ev:K8 ob σ.out= .slice ob 0 σ.out.length 5 false:=by
   cases e:σ.out with
   |nil=>exact absurd e ho
   |cons t l=>rfl
  obtain⟨t,ht⟩:∃t,t=σ.out[σ.out.length - 1]'(by omega):=⟨_,rfl⟩
  have hend:Pt.ends σ.out=Pt.endsTok t:=by
   unfold Pt.ends;rw [List.getLast?_eq_getElem?,List.getElem?_eq_getElem (by omega),ht]
  have ei:qY (K8 ob σ.out) (i64.wrap (Int.ofNat σ.out.length - 1)).toNat 5=some (.ptr ob ((σ.out.length - 1)*5)):=by
   have:(i64.wrap (Int.ofNat σ.out.length - 1)).toNat=σ.out.length - 1:=by
    rw [qB (by show _<=(σ.out.length:Int) - 1;omega) (by show(σ.out.length:Int) - 1<=_;omega)]
    show((σ.out.length:Int) - 1).toNat=_
    omega
   rw [this,ev,yc (by omega),Nat.zero_add]
  have hfl:=VP σ.out
  have lt:ldN H 5 (.ptr ob ((σ.out.length - 1)*5))=some (wQ t):=by
   rw [hk.ldN (YM I ho) (by omega),Wf (by omega),ht];rfl
  have hf:=hk.fresh (by omega:nx<=nx+12)
  refine⟨rfl,_,rfl,_,l4,rfl,_,rfl,_,l4,_,Xj,by rw [qB (by show _<=(σ.out.length:Int) - 1;omega) (by show(σ.out.length:Int) - 1<=_;omega)];show 0<=(σ.out.length:Int) - 1;omega,_,ei,_,_,_,_,_,lt,?_⟩
  refine Qe hk (nx':=nx+14) (by omega) (by omega) λH1 h1=> ?_
  have hne:r≠nx+12:=neK jz hf
  have hob:ob≠nx+12:=neK (YM I ho) hf
  have m4:ld1 H1 (.ptr r 4)=some (K8 ob σ.out):=by rw [h1.ld1 ((qn hne).trans jz)];rfl
  have mt:ldN H1 5 (.ptr ob ((σ.out.length - 1)*5))=some (wQ t):=by
   rw [h1.ldN ((qn hob).trans (YM I ho)) (by omega),Wf (by omega),ht];rfl
  refine⟨⟨⟨_,m4,rfl⟩,⟨_,m4,rfl⟩,⟨_,_,_,_,_,mt,rfl⟩,trivial⟩,?_⟩
  refine jS h1 (qk _ _ _) rfl rfl λH2 h2=>⟨trivial,_,rfl,t.kind,by rw [h2.ld1 (qk _ _ _)];rfl,?_⟩
  rw [vz]at h2;have fin:∀{b:Bool},Pt.endsTok t=b->K (.ret (.bool b)) H2 (nx+14):=λe=>by rw [<-e,<-hend];exact hK _ _ (by omega) (h2.drop hf)
  have l1:ld1 H2 (.ptr (nx+12) 1)=some (.str t.text):=by rw [h2.ld1 (qk _ _ _)];rfl
  have kd:∀{m:Int} {p q:Prop},(t.kind=m->p)->(t.kind≠m->q)->ifB (decide (t.kind=m)) p q:=λh1 h2=>qf.2 ⟨λe=>h1 (of_decide_eq_true e),λe=>h2 (of_decide_eq_false e)⟩
  refine kd (λe=>fin (by simp [Pt.endsTok,e])) λe1=> ?_
  refine kd (λe=>fin (by simp [Pt.endsTok,e])) λe2=> ?_
  refine kd (λe=>fin (by simp [Pt.endsTok,e])) λe3=> ?_
  refine kd (λe=>⟨_,rfl,_,l1,?_⟩) λe4=> ?_
  ·have et:Pt.endsTok t=decide (t.text∈Pt.endWords):=by unfold Pt.endsTok;rw [if_neg (by omega),if_pos e]
   have yes:t.text∈Pt.endWords->K (.ret (.bool true)) H2 (nx+14):=λe=>fin (by rw [et,decide_eq_true e])
   refine z5 (λe=>yes (by rw [e];decide)) λf0=> ?_
   refine z5 (λe=>yes (by rw [e];decide)) λf1=> ?_
   refine z5 (λe=>yes (by rw [e];decide)) λf2=> ?_
   refine z5 (λe=>yes (by rw [e];decide)) λf3=> ?_
   refine z5 (λe=>yes (by rw [e];decide)) λf4=> ?_
   refine z5 (λe=>yes (by rw [e];decide)) λf5=> ?_
   refine z5 (λe=>yes (by rw [e];decide)) λf6=> ?_
   refine z5 (λe=>yes (by rw [e];decide)) λf7=> ?_
   refine z5 (λe=>yes (by rw [e];decide)) λf8=> ?_
   refine fin (by rw [et];refine decide_eq_false λe=> ?_;simp only [Pt.endWords,List.mem_cons,List.not_mem_nil,or_false]at e;rcases e with e|e|e|e|e|e|e|e|e;exact f0 e;exact f1 e;exact f2 e;exact f3 e;exact f4 e;exact f5 e;exact f6 e;exact f7 e;exact f8 e)
  ·refine kd (λe=>⟨_,rfl,_,l1,?_⟩) λe5=>fin (by unfold Pt.endsTok;rw [if_neg (by omega),if_neg e4,if_neg e5])
   have et:Pt.endsTok t=(t.text=[41]||t.text=[93]||t.text=[125]:Bool):=by unfold Pt.endsTok;rw [if_neg (by omega),if_neg e4,if_pos e]
   refine z5 (λe=>fin (by rw [et,e];rfl)) λf1=>⟨_,rfl,_,l1,?_⟩
   refine z5 (λe=>fin (by rw [et,e];rfl)) λf2=>⟨_,rfl,_,l1,?_⟩
   exact fin (by rw [et];simp only [f1,f2,decide_false,Bool.false_or];rw [Bool.eq_iff_iff];simp)
end
theorem VZ{p:UInt8->Bool}:∀{u:List UInt8} {n:Nat},n<=(u.takeWhile p).length->(∀c,u[n]?=some c->(p c=true->n+1<=(u.takeWhile p).length)/\(p c=false->(u.takeWhile p).length=n))/\(u[n]?=none->(u.takeWhile p).length=n)
 |[],n,h=>⟨λc e=>by simp at e,λ_=>by simp at h ⊢;omega⟩
 |x::u,0,h=>by
  refine⟨λc e=> ?_,λe=>by simp at e⟩
  have:x=c:=by simpa using e
  subst this;refine⟨λhp=>by rw [List.takeWhile_cons,if_pos hp];simp,λhp=>by rw [List.takeWhile_cons,if_neg (by rw [hp];simp)];rfl⟩
 |x::u,n+1,h=>by
  by_cases hx:p x=true
  ·rw [List.takeWhile_cons,if_pos hx]at h ⊢;have:=VZ (p:=p) (u:=u) (n:=n) (by simpa using h)
   simp only [List.getElem?_cons_succ,List.length_cons]
   refine⟨λc e=>⟨λhp=>by have:=(this.1 c e).1 hp;omega,λhp=>by have:=(this.1 c e).2 hp;omega⟩,λe=>by have:=this.2 e;omega⟩
  ·rw [List.takeWhile_cons,if_neg hx]at h;simp at h
theorem VT{p:UInt8->Bool}:∀{u:List UInt8},u.take (u.takeWhile p).length=u.takeWhile p
 |[]=>rfl
 |x::u=>by
  rw [List.takeWhile_cons];split
  ·simp [VT (p:=p) (u:=u)]
  ·rfl
theorem qgy{p:UInt8->Bool}{u:List UInt8}:(u.takeWhile p).length<=u.length:=by
 have:=congrArg List.length (VT (p:=p) (u:=u))
 rw [List.length_take]at this;omega
theorem qoz(call:zm)(lp:Nat->jl)(lv:zJ)(lvc:zI)(r:Nat)(x n v:Int)(s:List UInt8)(H:qc)(nx:Nat)(K:qr):
  qA PG call (lp 45) 45 (qd PG wy) [1,1,1,1,0,0] (qy PG lv lvc K (qP PG wy)) .ret (qe .und [(0,.ptr r 0),(2,iv x),(3,.str s),(4,iv n),(5,uv v)]) H nx [] none=K (.ret (iv x)) H nx:=by kernel_rfl
section
variable{Γ0:GH}{r ob nx:Nat}{σ:Sst}{H:qc}{K:qr}
def RdK(Z:Nat->Prop)(Γ0:GH)(r nx:Nat)(σ:Sst)(K:qr)(res:Except Int (Int×List UInt8×Int×Nat)):Prop:=match res with
 | .ok (k,tx,v,n)=>(4000<=σ.out.length->∀ob H' nx',nx<=nx'->Γ0 ob=none->ob≠r->HZ Z (scG Γ0 r ob {σ with bad:=6,wl:=σ.line,wc:=σ.col}) H' nx'->K (.ret (iv n)) H' nx')/\
  (¬4000<=σ.out.length->∀ob H' nx',nx<=nx'->Γ0 ob=none->ob≠r->HZ Z (scG Γ0 r ob {σ with out:=σ.out++[⟨k,tx,v,σ.line,σ.col⟩]}) H' nx'->K (.ret (iv n)) H' nx')
 | .error e=>∀ob H' nx',nx<=nx'->Γ0 ob=none->ob≠r->HZ Z (scG Γ0 r ob {σ with bad:=e,wl:=σ.line,wc:=σ.col}) H' nx'->K (.ret (iv 0)) H' nx'
theorem RdK.put{k v:Int}{tx:List UInt8}{n:Nat}{m:Int}(h:RdK Z Γ0 r nx σ K (.ok (k,tx,v,n)))(hm:m=n)(I:ScI Γ0 r ob σ){nx1:Nat}(hn:nx<=nx1)(hk:HZ Z (scG Γ0 r ob σ) H nx1){pK:List (qa×Bool)->qc->Nat->Prop}:
  qo PG qx [.ptr r 0,iv k,.str tx,iv v] H nx1 λe H' nx'=>qj e (λ_=>K (.ret (iv m)) H' nx') λl=>pK l H' nx':=by
 subst hm;exact JT I hk (λhf H' nx' h1 h2=>qb.2 (h.1 hf ob H' nx' (by omega) I.o0 I.ne h2)) λhf ob' H' nx' h1 h2 h3 h4=>qb.2 (h.2 hf ob' H' nx' (by omega) h2 h3 h4)
theorem RdK.flt{e:Int}(h:RdK Z Γ0 r nx σ K (.error e))(I:ScI Γ0 r ob σ)(hb:σ.bad=0){nx1:Nat}(hn:nx<=nx1)(hk:HZ Z (scG Γ0 r ob σ) H nx1){pK:List (qa×Bool)->qc->Nat->Prop}:
  qo PG z6 [.ptr r 0,iv e] H nx1 λe H' nx'=>qj e (λ_=>K (.ret (iv 0)) H' nx') λl=>pK l H' nx':=
 Z6 I hb hk λH' nx' h1 h2=>qb.2 (h ob H' nx' (by omega) I.o0 I.ne h2)
theorem qbi(I:ScI Γ0 r ob σ)(hk:HZ Z (scG Γ0 r ob σ) H nx)(hK:∀nx',nx<=nx'->HZ Z (scG Γ0 r ob σ) H nx'->K (.ret (iv ((σ.s.drop σ.a).takeWhile λc=>c !=10).length)) H nx'):qo PG Kk [.ptr r 0] H nx K:=by
 refine qo.of_body qp ?_
 rw [W5];obtain⟨u,hu⟩:∃u,u=σ.s.drop σ.a:=⟨_,rfl⟩
 rw [<-hu]at hK;have hul:u.length<=16384:=by have:=I.len;rw [hu,List.length_drop];omega
 refine yn I hk λnx1 h1 hk1=>qb.2 ⟨_,rfl,?_⟩
 rw [<-hu];have htw:=qgy (p:=λc:UInt8=>c !=10) (u:=u)
 refine zD (P:=PG) (X:=Nat) (Y:=Nat) (λn=>qe .und [(0,.ptr r 0),(2,iv 0),(3,iv n),(4,.str u)]) (λn=>qe .und [(4,.str u),(3,iv n),(0,.ptr r 0)])
  (λm n H2 nx2=>H2=H/\nx2=nx1/\m=u.length - n/\n<=(u.takeWhile λc=>c !=10).length)
  (λid n H2 nx2=>id=0/\H2=H/\nx2=nx1/\n=(u.takeWhile λc=>c !=10).length) (u.length - 0) 0 (qq.okay) ⟨rfl,rfl,rfl,by omega⟩ ?_ ?_
 ·rintro m n H2 nx2 ⟨rfl,rfl,rfl,hn⟩
  refine WpP.trim (ts:=[0,2,3,4]) (WpP.weaken (e:=qe .und [(4,.str u),(3,iv n),(2,iv 0),(0,.ptr r 0)]) (qq.okay) (WpP.of_vK qp ?_))
  rw [qlh];have hs:=VZ hn
  have out:(u.takeWhile λc=>c !=10).length=n->_:=λe=>(⟨rfl,n,qq.okay,rfl,rfl,rfl,e.symm⟩:([]:Dfs)=([]:Dfs)/\∃y,qq (qe .und [(4,.str u),(3,iv (y:Nat)),(0,.ptr r 0)]) (qe .und [(0,.ptr r 0),(2,iv 0),(3,iv n),(4,.str u)])/\0=0/\H2=H2/\nx2=nx2/\y=(u.takeWhile λc=>c !=10).length)
  refine qf.2 ⟨λh=> ?_,λh=> ?_⟩
  ·have h:(n:Int)<(u.length:Int):=of_decide_eq_true h
   have hlt:n<u.length:=by omega
   refine⟨by omega,u[n],by simp [hlt],qf.2 ⟨λh2=> ?_,λh2=> ?_⟩⟩
   ·have hp:(u[n] !=10)=true:=by
     rw [bne_iff_ne];intro e;have h2:¬(Int.ofNat u[n].toNat=10):=by simpa using h2
     rw [e]at h2;exact h2 rfl
    have:=(hs.1 u[n] (by simp [hlt])).1 hp
    refine⟨rfl,u.length - (n+1),n+1,by omega,qq.of_list (by rw [qB (by omega) (by omega)];exact⟨rfl,rfl,rfl,rfl,trivial⟩),rfl,rfl,rfl,this⟩
   ·have hp:(u[n] !=10)=false:=by
     have h2:Int.ofNat u[n].toNat=10:=by simpa using h2
     have:u[n]=10:=by rw [<-UInt8.toNat_inj];show u[n].toNat=10;have h2:(u[n].toNat:Int)=10:=h2;omega
     simp [this]
    exact out ((hs.1 u[n] (by simp [hlt])).2 hp)
  ·have h:¬(n:Int)<(u.length:Int):=of_decide_eq_false h
   exact out (hs.2 (by rw [List.getElem?_eq_none (by omega)]))
 ·rintro id n H2 nx2 ⟨rfl,rfl,rfl,hn⟩
  refine Eq.mpr (qnn (qo PG) (LpP PG) (z9 (qM PG)) (ze PG (qM PG)) r n u H2 nx2 K) ?_
  rw [hn];exact hK _ h1 hk1
theorem qsb{u:List UInt8}{n:Nat}:List.take ((some ((n:Nat):Int).toNat).getD u.length - 0) (List.drop 0 u)=u.take n:=by simp
theorem qgx{u:List UInt8}{n:Nat}(h:n<=u.length):(some ((n:Nat):Int).toNat).getD u.length<=u.length:=by simpa using h
theorem qlx(I:ScI Γ0 r ob σ)(hk:HZ Z (scG Γ0 r ob σ) H nx){w:List UInt8}(hw:w=(σ.s.drop σ.a).takeWhile λc=>Pt.letter c||Pt.digit c)(hK:RdK Z Γ0 r nx σ K (.ok (if Pt.isWord w then 3 else 2,w,0,w.length))):qo PG K4 [.ptr r 0] H nx K:=by
 refine qo.of_body qp ?_
 rw [qdy];obtain⟨u,hu⟩:∃u,u=σ.s.drop σ.a:=⟨_,rfl⟩
 rw [<-hu]at hw;have hul:u.length<=16384:=by have:=I.len;rw [hu,List.length_drop];omega
 refine yn I hk λnx1 h1 hk1=>qb.2 ⟨_,rfl,?_⟩
 rw [<-hu];have htw:=qgy (p:=λc:UInt8=>Pt.letter c||Pt.digit c) (u:=u)
 refine zD (P:=PG) (X:=Nat) (Y:=Nat) (λn=>qe .und [(0,.ptr r 0),(2,iv 0),(3,.str u),(4,iv n)]) (λn=>qe .und [(4,iv n),(3,.str u),(0,.ptr r 0)])
  (λm n H2 nx2=>H2=H/\nx2=nx1/\m=u.length - n/\n<=w.length)
  (λid n H2 nx2=>id=0/\H2=H/\nx2=nx1/\n=w.length) (u.length - 0) 0 (qq.okay) ⟨rfl,rfl,rfl,by omega⟩ ?_ ?_
 ·rintro m n H2 nx2 ⟨rfl,rfl,rfl,hn⟩
  refine WpP.trim (ts:=[0,2,3,4]) (WpP.weaken (e:=qe .und [(4,iv n),(3,.str u),(2,iv 0),(0,.ptr r 0)]) (qq.okay) (WpP.of_vK qp ?_))
  rw [qmp];rw [hw]at hn;have hs:=VZ hn
  rw [<-hw]at hs;have out:w.length=n->_:=λe=>(⟨rfl,n,qq.okay,rfl,rfl,rfl,e.symm⟩:([]:Dfs)=([]:Dfs)/\∃y,qq (qe .und [(4,iv (y:Nat)),(3,.str u),(0,.ptr r 0)]) (qe .und [(0,.ptr r 0),(2,iv 0),(3,.str u),(4,iv n)])/\0=0/\H2=H2/\nx2=nx2/\y=w.length)
  refine qf.2 ⟨λh=> ?_,λh=> ?_⟩
  ·have h:(n:Int)<(u.length:Int):=of_decide_eq_true h
   have hlt:n<u.length:=by omega
   have hget:u[(n:Int).toNat]?=some u[n]:=by simp [hlt]
   have on:(Pt.letter u[n]||Pt.digit u[n])=true->_:=λhp=>(⟨rfl,u.length - (n+1),n+1,by omega,qq.of_list (by rw [qB (by omega) (by omega)];exact⟨rfl,rfl,rfl,rfl,trivial⟩),rfl,rfl,rfl,(hs.1 u[n] (by simp [hlt])).1 hp⟩:
    ([]:Dfs)=([]:Dfs)/\∃m' n',m'<u.length - n/\qq (qe .und [(0,.ptr r 0),(2,iv 0),(3,.str u),(4,iv (n':Nat))]) (qe .und [(0,.ptr r 0),(2,iv 0),(3,.str u),(4,iv (i64.wrap (n+1)))])/\H2=H2/\nx2=nx2/\m'=u.length - n'/\n'<=w.length)
   refine⟨by omega,u[n],hget,W9 (qb.2 ⟨_,rfl,qf.2 ⟨λh2=>on (by simp [h2]),λh2=>⟨by omega,u[n],hget,KH (qb.2 ⟨_,rfl,qf.2 ⟨λh3=>on (by simp [h3]),λh3=> ?_⟩⟩)⟩⟩⟩)⟩
   exact out ((hs.1 u[n] (by simp [hlt])).2 (by simp [h2,h3]))
  ·have h:¬(n:Int)<(u.length:Int):=of_decide_eq_false h
   exact out (hs.2 (by rw [List.getElem?_eq_none (by omega)]))
 ·rintro id n H2 nx2 ⟨rfl,rfl,rfl,hn⟩
  refine Eq.mpr (qne (qo PG) (LpP PG) (z9 (qM PG)) (ze PG (qM PG)) r n u H2 nx2 K) ?_
  have hle:n<=u.length:=by rw [hn,hw];exact htw
  have ew:List.take ((some ((n:Nat):Int).toNat).getD u.length - 0) (List.drop 0 u)=w:=by rw [qsb,hn,hw,VT]
  rw [ew];refine⟨by omega,qgx hle,by omega,qfm (qb.2 ⟨_,rfl,qf.2 ⟨λh2=>⟨by omega,qgx hle,by omega,?_⟩,λh2=>⟨by omega,qgx hle,by omega,?_⟩⟩⟩)⟩
  ·rw [h2]at hK;exact hK.put (by omega) I (by omega) hk1
  ·rw [h2]at hK;exact hK.put (by omega) I (by omega) hk1
theorem qk8{n:Int}(h0:0<=n)(h1:n<18446744073709551616):IntKind.u64.wrap n=n:=by simp only [IntKind.wrap,IntKind.signed,IntKind.bits];simp;omega
theorem wu8{n:Int}(h0:0<=n)(h1:n<256):IntKind.u8.wrap n=n:=by simp only [IntKind.wrap,IntKind.signed,IntKind.bits];simp;omega
theorem ZR{u:List UInt8}{n:Nat}(h:n<u.length):u.drop n=u[n]::u.drop (n+1):=List.drop_eq_getElem_cons h
theorem qf8(I:ScI Γ0 r ob σ)(hb:σ.bad=0)(hk:HZ Z (scG Γ0 r ob σ) H nx){w:List UInt8}(hw:w=(σ.s.drop σ.a).takeWhile Pt.digit)
  (hK:RdK Z Γ0 r nx σ K (match Pt.numGo 0 (σ.s.drop σ.a)with|some v=> .ok (4,w,v,w.length)|none=> .error 12)):qo PG wy [.ptr r 0] H nx K:=by
 refine qo.of_body qp ?_
 rw [XE];obtain⟨u,hu⟩:∃u,u=σ.s.drop σ.a:=⟨_,rfl⟩
 rw [<-hu]at hw hK;have hul:u.length<=16384:=by have:=I.len;rw [hu,List.length_drop];omega
 refine yn I hk λnx1 h1 hk1=>qb.2 ⟨_,rfl,?_⟩
 rw [<-hu];have htw:=qgy (p:=Pt.digit) (u:=u)
 refine zD (P:=PG) (X:=Nat×Nat) (Y:=Nat×Nat) (λn=>qe .und [(0,.ptr r 0),(2,iv 0),(3,.str u),(4,iv n.1),(5,uv n.2)]) (λn=>qe .und [(5,uv n.2),(4,iv n.1),(3,.str u),(0,.ptr r 0)])
  (λm n H2 nx2=>H2=H/\nx2=nx1/\m=u.length - n.1/\n.1<=w.length/\n.2<=9223372036854775807/\Pt.numGo 0 u=Pt.numGo n.2 (u.drop n.1))
  (λid n H2 nx2=>id=0/\H2=H/\nx2=nx1/\n.1=w.length/\n.2<=9223372036854775807/\Pt.numGo 0 u=some n.2) (u.length - 0) (0,0) (qq.okay) ⟨rfl,rfl,rfl,by simp,by simp,rfl⟩ ?_ ?_
 ·rintro m ⟨n,v⟩ H2 nx2 ⟨rfl,rfl,rfl,hn,hv,hg⟩
  dsimp only at hn hv hg ⊢
  refine WpP.trim (ts:=[0,2,3,4,5]) (WpP.weaken (e:=qe .und [(5,uv v),(4,iv n),(3,.str u),(2,iv 0),(0,.ptr r 0)]) (qq.okay) (WpP.of_vK qp ?_))
  rw [qrx];rw [hw]at hn;have hs:=VZ hn
  rw [<-hw]at hs;have out:w.length=n->Pt.numGo v (u.drop n)=some v->_:=λe e2=>(⟨rfl,(n,v),qq.okay,rfl,rfl,rfl,e.symm,hv,hg.trans e2⟩:
   ([]:Dfs)=([]:Dfs)/\∃y:Nat×Nat,qq (qe .und [(5,uv y.2),(4,iv y.1),(3,.str u),(0,.ptr r 0)]) (qe .und [(0,.ptr r 0),(2,iv 0),(3,.str u),(4,iv n),(5,uv v)])/\0=0/\H2=H2/\nx2=nx2/\y.1=w.length/\y.2<=9223372036854775807/\Pt.numGo 0 u=some y.2)
  refine qf.2 ⟨λh=> ?_,λh=> ?_⟩
  ·have h:(n:Int)<(u.length:Int):=of_decide_eq_true h
   have hlt:n<u.length:=by omega
   have hget:u[(n:Int).toNat]?=some u[n]:=by simp [hlt]
   have hd:u.drop n=u[n]::u.drop (n+1):=ZR hlt
   refine⟨by omega,u[n],hget,KH (qb.2 ⟨_,rfl,qf.2 ⟨λh2=> ?_,λh2=> ?_⟩⟩)⟩
   ·obtain⟨d1,d2⟩:=Ks.1 h2
    obtain⟨d,hd0⟩:∃d,d=u[n].toNat - 48:=⟨_,rfl⟩
    have e1:IntKind.u64.wrap (IntKind.u8.wrap (Int.ofNat u[n].toNat - 48))=(d:Int):=by
     have:Int.ofNat u[n].toNat - 48=(d:Int):=by show(u[n].toNat:Int) - 48=_;omega
     rw [this,wu8 (by omega) (by omega),qk8 (by omega) (by omega)]
    have e2:(IntKind.u64.wrap (9223372036854775807 - (d:Int))).tdiv 10=(((9223372036854775807 - d) / 10:Nat):Int):=by
     rw [qk8 (by omega) (by omega),Int.tdiv_eq_ediv_of_nonneg (by omega)];omega
    have hg':Pt.numGo 0 u=if(9223372036854775807 - d) / 10<v then none else Pt.numGo (10*v+d) (u.drop (n+1)):=by
     rw [hg,hd,Pt.numGo,if_pos h2,<-hd0]
    refine⟨by omega,u[n],hget,by decide,?_⟩
    rw [e1,e2,qk8 (n:=(((9223372036854775807 - d) / 10:Nat):Int)) (by omega) (by omega)]
    refine qf.2 ⟨λh3=> ?_,λh3=> ?_⟩
    ·have h3:(((9223372036854775807 - d) / 10:Nat):Int)<(v:Int):=of_decide_eq_true h3
     rw [if_pos (by omega)]at hg'
     rw [hg']at hK;refine Z6 I hb hk1 λH' nx' g1 g2=>qb.2 ?_
     exact Eq.mpr (qoz (qo PG) (LpP PG) (z9 (qM PG)) (ze PG (qM PG)) r 0 n v u H' nx' K) (hK ob H' nx' (by omega) I.o0 I.ne g2)
    ·have h3:¬(((9223372036854775807 - d) / 10:Nat):Int)<(v:Int):=of_decide_eq_false h3
     rw [if_neg (by omega)]at hg'
     have:=(hs.1 u[n] (by simp [hlt])).1 h2
     refine⟨rfl,u.length - (n+1),(n+1,10*v+d),by omega,qq.of_list ?_,rfl,rfl,rfl,this,?_,hg'⟩
     ·rw [qB (by omega) (by omega),qk8 (n:=10*(v:Int)) (by omega) (by omega),qk8 (by omega) (by omega),show(10*(v:Int)+(d:Int))=((10*v+d:Nat):Int) by omega]
      exact⟨rfl,rfl,rfl,rfl,rfl,trivial⟩
     ·show 10*v+d<=_;omega
   ·exact out ((hs.1 u[n] (by simp [hlt])).2 h2) (by rw [hd,Pt.numGo,if_neg (by rw [h2];simp)])
  ·have h:¬(n:Int)<(u.length:Int):=of_decide_eq_false h
   exact out (hs.2 (by rw [List.getElem?_eq_none (by omega)])) (by rw [List.drop_eq_nil_of_le (by omega)];rfl)
 ·rintro id ⟨n,v⟩ H2 nx2 ⟨rfl,rfl,rfl,hn,hv,hg⟩
  dsimp only at hn hv hg ⊢
  refine Eq.mpr (qr2 (qo PG) (LpP PG) (z9 (qM PG)) (ze PG (qM PG)) r n v u H2 nx2 K) ?_
  have hle:n<=u.length:=by rw [hn,hw];exact htw
  have ew:List.take ((some ((n:Nat):Int).toNat).getD u.length - 0) (List.drop 0 u)=w:=by rw [qsb,hn,hw,VT]
  rw [ew,qB (by omega) (by omega)]
  rw [hg]at hK;exact⟨by omega,qgx hle,by omega,hK.put (by omega) I (by omega) hk1⟩
end
section
variable{Γ0:GH}{r ob nx:Nat}{σ:Sst}{H:qc}{K:qr}
theorem qkf{c:UInt8}{s':List UInt8}(I:ScI Γ0 r ob σ)(hb:σ.bad=0)(hk:HZ Z (scG Γ0 r ob σ) H nx)(hu:σ.s.drop σ.a=c::s')(hK:RdK Z Γ0 r nx σ K (Pt.sign c s')):qo PG KN [.ptr r 0] H nx K:=by
 refine qo.of_body qp ?_
 rw [qc5];refine yn I hk λnx1 h1 hk1=>qb.2 ⟨_,rfl,?_⟩
 rw [hu];have ec:∀m:UInt8,c=m↔Int.ofNat c.toNat=Int.ofNat m.toNat:=λm=>by rw [<-UInt8.toNat_inj];show _↔((c.toNat:Int)=(m.toNat:Int));omega
 have st:∀{m:UInt8} {p q:Prop},(c=m->p)->(c≠m->q)->ifB (decide (Int.ofNat c.toNat=Int.ofNat m.toNat)) p q:=λh1 h2=>qf.2 ⟨λe=>h1 ((ec _).2 (of_decide_eq_true e)),λe=>h2 λx=>of_decide_eq_false e ((ec _).1 x)⟩
 have e1:List.take ((some 1).getD (c::s').length - 0) (List.drop 0 (c::s'))=[c]:=rfl
 have one:Pt.sign c s'=(if c=59 then .ok (1,[59],0,1)else if c∈Pt.signs then .ok (6,[c],0,1)else .error 10)->
  ((0:Int)<=0/\∃x40,(c::s')[0]?=some x40/\ifB (decide (Int.ofNat x40.toNat=59)) (qo PG qx [u0 r 0,iv 1,u5 [59],iv 0] H nx1 λe H i=>qj e (λ_=>K (.ret (iv 1)) H i) λl=>K (.pan l) H i)
   (ifB (decide (Int.ofNat x40.toNat=43)) ((0:Int)<=1/\(some 1).getD (c::s').length<=(c::s').length/\0<=(some 1).getD (c::s').length/\qo PG qx [u0 r 0,iv 6,u5 (List.take ((some 1).getD (c::s').length - 0) (List.drop 0 (c::s'))),iv 0] H nx1 λe H i=>qj e (λ_=>K (.ret (iv 1)) H i) λl=>K (.pan l) H i)
   (ifB (decide (Int.ofNat x40.toNat=45)) ((0:Int)<=1/\(some 1).getD (c::s').length<=(c::s').length/\0<=(some 1).getD (c::s').length/\qo PG qx [u0 r 0,iv 6,u5 (List.take ((some 1).getD (c::s').length - 0) (List.drop 0 (c::s'))),iv 0] H nx1 λe H i=>qj e (λ_=>K (.ret (iv 1)) H i) λl=>K (.pan l) H i)
   (ifB (decide (Int.ofNat x40.toNat=42)) ((0:Int)<=1/\(some 1).getD (c::s').length<=(c::s').length/\0<=(some 1).getD (c::s').length/\qo PG qx [u0 r 0,iv 6,u5 (List.take ((some 1).getD (c::s').length - 0) (List.drop 0 (c::s'))),iv 0] H nx1 λe H i=>qj e (λ_=>K (.ret (iv 1)) H i) λl=>K (.pan l) H i)
   (ifB (decide (Int.ofNat x40.toNat=47)) ((0:Int)<=1/\(some 1).getD (c::s').length<=(c::s').length/\0<=(some 1).getD (c::s').length/\qo PG qx [u0 r 0,iv 6,u5 (List.take ((some 1).getD (c::s').length - 0) (List.drop 0 (c::s'))),iv 0] H nx1 λe H i=>qj e (λ_=>K (.ret (iv 1)) H i) λl=>K (.pan l) H i)
   (ifB (decide (Int.ofNat x40.toNat=37)) ((0:Int)<=1/\(some 1).getD (c::s').length<=(c::s').length/\0<=(some 1).getD (c::s').length/\qo PG qx [u0 r 0,iv 6,u5 (List.take ((some 1).getD (c::s').length - 0) (List.drop 0 (c::s'))),iv 0] H nx1 λe H i=>qj e (λ_=>K (.ret (iv 1)) H i) λl=>K (.pan l) H i)
   (ifB (decide (Int.ofNat x40.toNat=60)) ((0:Int)<=1/\(some 1).getD (c::s').length<=(c::s').length/\0<=(some 1).getD (c::s').length/\qo PG qx [u0 r 0,iv 6,u5 (List.take ((some 1).getD (c::s').length - 0) (List.drop 0 (c::s'))),iv 0] H nx1 λe H i=>qj e (λ_=>K (.ret (iv 1)) H i) λl=>K (.pan l) H i)
   (ifB (decide (Int.ofNat x40.toNat=62)) ((0:Int)<=1/\(some 1).getD (c::s').length<=(c::s').length/\0<=(some 1).getD (c::s').length/\qo PG qx [u0 r 0,iv 6,u5 (List.take ((some 1).getD (c::s').length - 0) (List.drop 0 (c::s'))),iv 0] H nx1 λe H i=>qj e (λ_=>K (.ret (iv 1)) H i) λl=>K (.pan l) H i)
   (ifB (decide (Int.ofNat x40.toNat=61)) ((0:Int)<=1/\(some 1).getD (c::s').length<=(c::s').length/\0<=(some 1).getD (c::s').length/\qo PG qx [u0 r 0,iv 6,u5 (List.take ((some 1).getD (c::s').length - 0) (List.drop 0 (c::s'))),iv 0] H nx1 λe H i=>qj e (λ_=>K (.ret (iv 1)) H i) λl=>K (.pan l) H i)
   (ifB (decide (Int.ofNat x40.toNat=33)) ((0:Int)<=1/\(some 1).getD (c::s').length<=(c::s').length/\0<=(some 1).getD (c::s').length/\qo PG qx [u0 r 0,iv 6,u5 (List.take ((some 1).getD (c::s').length - 0) (List.drop 0 (c::s'))),iv 0] H nx1 λe H i=>qj e (λ_=>K (.ret (iv 1)) H i) λl=>K (.pan l) H i)
   (ifB (decide (Int.ofNat x40.toNat=40)) ((0:Int)<=1/\(some 1).getD (c::s').length<=(c::s').length/\0<=(some 1).getD (c::s').length/\qo PG qx [u0 r 0,iv 6,u5 (List.take ((some 1).getD (c::s').length - 0) (List.drop 0 (c::s'))),iv 0] H nx1 λe H i=>qj e (λ_=>K (.ret (iv 1)) H i) λl=>K (.pan l) H i)
   (ifB (decide (Int.ofNat x40.toNat=41)) ((0:Int)<=1/\(some 1).getD (c::s').length<=(c::s').length/\0<=(some 1).getD (c::s').length/\qo PG qx [u0 r 0,iv 6,u5 (List.take ((some 1).getD (c::s').length - 0) (List.drop 0 (c::s'))),iv 0] H nx1 λe H i=>qj e (λ_=>K (.ret (iv 1)) H i) λl=>K (.pan l) H i)
   (ifB (decide (Int.ofNat x40.toNat=91)) ((0:Int)<=1/\(some 1).getD (c::s').length<=(c::s').length/\0<=(some 1).getD (c::s').length/\qo PG qx [u0 r 0,iv 6,u5 (List.take ((some 1).getD (c::s').length - 0) (List.drop 0 (c::s'))),iv 0] H nx1 λe H i=>qj e (λ_=>K (.ret (iv 1)) H i) λl=>K (.pan l) H i)
   (ifB (decide (Int.ofNat x40.toNat=93)) ((0:Int)<=1/\(some 1).getD (c::s').length<=(c::s').length/\0<=(some 1).getD (c::s').length/\qo PG qx [u0 r 0,iv 6,u5 (List.take ((some 1).getD (c::s').length - 0) (List.drop 0 (c::s'))),iv 0] H nx1 λe H i=>qj e (λ_=>K (.ret (iv 1)) H i) λl=>K (.pan l) H i)
   (ifB (decide (Int.ofNat x40.toNat=123)) ((0:Int)<=1/\(some 1).getD (c::s').length<=(c::s').length/\0<=(some 1).getD (c::s').length/\qo PG qx [u0 r 0,iv 6,u5 (List.take ((some 1).getD (c::s').length - 0) (List.drop 0 (c::s'))),iv 0] H nx1 λe H i=>qj e (λ_=>K (.ret (iv 1)) H i) λl=>K (.pan l) H i)
   (ifB (decide (Int.ofNat x40.toNat=125)) ((0:Int)<=1/\(some 1).getD (c::s').length<=(c::s').length/\0<=(some 1).getD (c::s').length/\qo PG qx [u0 r 0,iv 6,u5 (List.take ((some 1).getD (c::s').length - 0) (List.drop 0 (c::s'))),iv 0] H nx1 λe H i=>qj e (λ_=>K (.ret (iv 1)) H i) λl=>K (.pan l) H i)
   (ifB (decide (Int.ofNat x40.toNat=44)) ((0:Int)<=1/\(some 1).getD (c::s').length<=(c::s').length/\0<=(some 1).getD (c::s').length/\qo PG qx [u0 r 0,iv 6,u5 (List.take ((some 1).getD (c::s').length - 0) (List.drop 0 (c::s'))),iv 0] H nx1 λe H i=>qj e (λ_=>K (.ret (iv 1)) H i) λl=>K (.pan l) H i)
   (ifB (decide (Int.ofNat x40.toNat=46)) ((0:Int)<=1/\(some 1).getD (c::s').length<=(c::s').length/\0<=(some 1).getD (c::s').length/\qo PG qx [u0 r 0,iv 6,u5 (List.take ((some 1).getD (c::s').length - 0) (List.drop 0 (c::s'))),iv 0] H nx1 λe H i=>qj e (λ_=>K (.ret (iv 1)) H i) λl=>K (.pan l) H i)
   (qo PG z6 [u0 r 0,iv 10] H nx1 λe H i=>qj e (λ_=>K (.ret (iv 0)) H i) λl=>K (.pan l) H i))))))))))))))))))):=λe=>by
  rw [e]at hK;refine⟨by omega,c,rfl,st (m:=59) (λh=> ?_) λh0=> ?_⟩
  ·rw [if_pos h]at hK;exact hK.put (by rfl) I (by omega) hk1
  rw [if_neg h0]at hK;have yes:c∈Pt.signs->((0:Int)<=1/\(some 1).getD (c::s').length<=(c::s').length/\0<=(some 1).getD (c::s').length/\qo PG qx [u0 r 0,iv 6,u5 (List.take ((some 1).getD (c::s').length - 0) (List.drop 0 (c::s'))),iv 0] H nx1 λe H i=>qj e (λ_=>K (.ret (iv 1)) H i) λl=>K (.pan l) H i):=λh=>by
   rw [if_pos h]at hK;exact⟨by omega,by simp,by simp,by rw [e1];exact hK.put (by rfl) I (by omega) hk1⟩
  refine st (m:=43) (λh=>yes (by rw [h];decide)) λh1=> ?_
  refine st (m:=45) (λh=>yes (by rw [h];decide)) λh2=> ?_
  refine st (m:=42) (λh=>yes (by rw [h];decide)) λh3=> ?_
  refine st (m:=47) (λh=>yes (by rw [h];decide)) λh4=> ?_
  refine st (m:=37) (λh=>yes (by rw [h];decide)) λh5=> ?_
  refine st (m:=60) (λh=>yes (by rw [h];decide)) λh6=> ?_
  refine st (m:=62) (λh=>yes (by rw [h];decide)) λh7=> ?_
  refine st (m:=61) (λh=>yes (by rw [h];decide)) λh8=> ?_
  refine st (m:=33) (λh=>yes (by rw [h];decide)) λh9=> ?_
  refine st (m:=40) (λh=>yes (by rw [h];decide)) λh10=> ?_
  refine st (m:=41) (λh=>yes (by rw [h];decide)) λh11=> ?_
  refine st (m:=91) (λh=>yes (by rw [h];decide)) λh12=> ?_
  refine st (m:=93) (λh=>yes (by rw [h];decide)) λh13=> ?_
  refine st (m:=123) (λh=>yes (by rw [h];decide)) λh14=> ?_
  refine st (m:=125) (λh=>yes (by rw [h];decide)) λh15=> ?_
  refine st (m:=44) (λh=>yes (by rw [h];decide)) λh16=> ?_
  refine st (m:=46) (λh=>yes (by rw [h];decide)) λh17=> ?_
  rw [if_neg (by intro h;simp only [Pt.signs,List.mem_cons,List.not_mem_nil,or_false]at h;rcases h with h|h|h|h|h|h|h|h|h|h|h|h|h|h|h|h|h;exact h1 h;exact h2 h;exact h3 h;exact h4 h;exact h5 h;exact h6 h;exact h7 h;exact h8 h;exact h9 h;exact h10 h;exact h11 h;exact h12 h;exact h13 h;exact h14 h;exact h15 h;exact h16 h;exact h17 h)]at hK
  exact hK.flt I hb (by omega) hk1
 refine qf.2 ⟨λh=> ?_,λh=> ?_⟩
 ·have h:(1:Int)<((c::s').length:Int):=of_decide_eq_true h
  cases s' with
  |nil=>simp at h
  |cons e s'=>
   have e2:List.take ((some 2).getD (c::e::s').length - 0) (List.drop 0 (c::e::s'))=[c,e]:=rfl
   have yes:[c,e]∈Pt.pairs->((0:Int)<=2/\(some 2).getD (c::e::s').length<=(c::e::s').length/\0<=(some 2).getD (c::e::s').length/\qo PG qx [u0 r 0,iv 6,u5 (List.take ((some 2).getD (c::e::s').length - 0) (List.drop 0 (c::e::s'))),iv 0] H nx1 λe H i=>qj e (λ_=>K (.ret (iv 2)) H i) λl=>K (.pan l) H i):=λh=>by
    have:Pt.sign c (e::s')= .ok (6,[c,e],0,2):=by unfold Pt.sign;dsimp only;rw [if_pos h]
    rw [this]at hK;exact⟨by omega,by simp,by simp,by rw [e2];exact hK.put (by rfl) I (by omega) hk1⟩
   refine⟨by omega,by simp,by simp,z5 (λh=>yes (by rw [show [c,e]=[58,61]from h];decide)) λh0=> ?_⟩
   refine z5 (λh=>yes (by rw [show [c,e]=[61,61]from h];decide)) λh1=> ?_
   refine z5 (λh=>yes (by rw [show [c,e]=[33,61]from h];decide)) λh2=> ?_
   refine z5 (λh=>yes (by rw [show [c,e]=[60,61]from h];decide)) λh3=> ?_
   refine z5 (λh=>yes (by rw [show [c,e]=[62,61]from h];decide)) λh4=> ?_
   refine z5 (λh=>yes (by rw [show [c,e]=[38,38]from h];decide)) λh5=> ?_
   refine z5 (λh=>yes (by rw [show [c,e]=[124,124]from h];decide)) λh6=> ?_
   refine one ?_
   unfold Pt.sign
   dsimp only
   rw [if_neg (by intro h;simp only [Pt.pairs,List.mem_cons,List.not_mem_nil,or_false]at h;rcases h with h|h|h|h|h|h|h;exact h0 h;exact h1 h;exact h2 h;exact h3 h;exact h4 h;exact h5 h;exact h6 h)]
 ·have h:¬(1:Int)<((c::s').length:Int):=of_decide_eq_false h
  cases s' with
  |nil=>exact one rfl
  |cons e s'=>simp at h;omega
end
end
end Go.Vs
end
section
namespace Go.Vs
namespace Pt
theorem yq:∀(m:Nat) (s:List UInt8) {n:Nat} {out w:List UInt8} {k:Nat},s.length<=m->textGo n out s=some (w,k)->n+1<=k/\k<=n+s.length
 |_,[],_,_,_,_,_,h=>by simp [textGo]at h
 |m+1,c::s,n,out,w,k,hm,h=>by
  have hm':s.length<=m:=by simpa using hm
  rw [textGo.eq_def]at h
  dsimp only at h
  split at h
  ·cases h;simp
  ·split at h
   ·cases s with
    |nil=>simp at h
    |cons e s=>
     simp at hm'
     simp only at h
     split at h
     ·have:=yq m s (by omega) h;simp;omega
     ·split at h
      ·have:=yq m s (by omega) h;simp;omega
      ·split at h
       ·have:=yq m s (by omega) h;simp;omega
       ·cases h
   ·split at h
    ·cases h
    ·have:=yq m s hm' h;simp;omega
theorem qfk{p:UInt8->Bool}:∀{u:List UInt8},(u.takeWhile p).length<=u.length
 |[]=>Nat.le_refl _
 |x::u=>by rw [List.takeWhile_cons];split<;>simp [qfk (p:=p) (u:=u)]
theorem qmy{c:UInt8}{s:List UInt8}{k:Int}{tx:List UInt8}{v:Int}{n:Nat}(h:sign c s= .ok (k,tx,v,n)):1<=n/\n<=s.length+1/\k≠0:=by
 unfold sign at h;cases s with
 |nil=>
  dsimp only at h
  split at h
  ·cases h;simp
  ·split at h
   ·cases h;simp
   ·cases h
 |cons e s=>
  dsimp only at h
  split at h
  ·cases h;simp
  ·split at h
   ·cases h;simp
   ·split at h
    ·cases h;simp
    ·cases h
theorem one_len{c:UInt8}{s:List UInt8}{k:Int}{tx:List UInt8}{v:Int}{n:Nat}(h:one c s= .ok (k,tx,v,n)):1<=n/\n<=s.length+1/\k≠0:=by
 unfold one at h
 dsimp only at h
 split at h
 ·cases h
  have:=qfk (p:=λc=>letter c||digit c) (u:=s)
  refine⟨by simp,by simp;exact this,?_⟩
  split<;>decide
 ·split at h
  ·split at h
   ·cases h
    have:=qfk (p:=digit) (u:=s)
    exact⟨by omega,by omega,by decide⟩
   ·cases h
  ·split at h
   ·split at h
    ·rename_i hg;cases h
     have:=yq s.length s lR hg
     exact⟨by omega,by omega,by decide⟩
    ·cases h
   ·exact qmy h
theorem one_err{c:UInt8}{s:List UInt8}{e:Int}(h:one c s= .error e):e≠0:=by
 unfold one at h
 dsimp only at h
 split at h
 ·cases h
 ·split at h
  ·split at h
   ·cases h
   ·cases h;decide
  ·split at h
   ·split at h
    ·cases h
    ·cases h;decide
   ·unfold sign at h;cases s with
    |nil=>dsimp only at h;split at h<;>first|(cases h;done)|(split at h<;>first|(cases h;done)|(cases h;decide))
    |cons e s=>dsimp only at h;split at h<;>first|(cases h;done)|(split at h<;>first|(cases h;done)|(split at h<;>first|(cases h;done)|(cases h;decide)))
theorem qfp{out:List Tok}{t:Tok}{l:List Tok}(h:put out t= .ok l):l=out++[t]/\out.length<4000:=by
 unfold put at h;split at h
 ·cases h
 ·cases h;exact⟨rfl,by omega⟩
theorem Wb{out:List Tok}{t:Tok}{f:Flt}(h:put out t= .error f):f.e=6:=by
 unfold put at h;split at h
 ·cases h;rfl
 ·cases h
theorem Yu{out:List Tok}{line col:Int}{l:List Tok}(h:putEnd out line col= .ok l)(ho:∀t,t∈out->t.kind≠0):∀t,t∈l->t.kind≠0:=by
 unfold putEnd at h;split at h
 ·obtain⟨rfl,_⟩:=qfp h
  intro t ht;rw [List.mem_append]at ht;rcases ht with ht|ht
  ·exact ho t ht
  ·simp at ht;subst ht;show(1:Int)≠0;decide
 ·cases h;exact ho
def zK(l:List Tok):Prop:=∃l' L C,l=l'++[⟨0,[],0,L,C⟩]/\(∀t,t∈l'->t.kind≠0)/\l'.length<4000
theorem Qj:∀f s line col out l,scan f s line col out= .ok l->(∀t,t∈out->t.kind≠0)->zK l
 |f,[],line,col,out,l,h,ho=>by
  have h:(putEnd out line col>>=λout=>put out ⟨0,[],0,line,col⟩)= .ok l:=by cases f<;>exact h
  cases he:putEnd out line col with
  |error e=>rw [he]at h;cases h
  |ok o=>
   rw [he]at h;obtain⟨rfl,hl⟩:=qfp h
   exact⟨o,line,col,rfl,Yu he ho,hl⟩
 |0,c::s,_,_,_,_,h,_=>by cases h
 |f+1,c::s,line,col,out,l,h,ho=>by
  rw [scan]at h;split at h
  ·cases he:putEnd out line col with
   |error e=>rw [he]at h;cases h
   |ok o=>
    rw [he]at h;exact Qj f s _ _ o l h (Yu he ho)
  ·split at h
   ·exact Qj f s _ _ out l h ho
   ·split at h
    ·exact Qj f _ _ _ out l h ho
    ·split at h
     ·cases h
     ·rename_i k tx v n h1;cases he:put out ⟨k,tx,v,line,col⟩with
      |error e=>rw [he]at h;cases h
      |ok o=>
       rw [he]at h;obtain⟨rfl,_⟩:=qfp he
       refine Qj f _ _ _ _ l h λt ht=> ?_
       rw [List.mem_append]at ht;rcases ht with ht|ht
       ·exact ho t ht
       ·simp at ht;subst ht;exact(one_len h1).2.2
theorem zK.toks{l:List Tok}(h:zK l):kv l:=by
 obtain⟨l',L,C,rfl,h1,h2⟩:=h
 refine⟨by simp,by simp;omega,?_,λi hi=> ?_⟩
 ·unfold Ps.tk;simp [List.getD]
 ·simp at hi
  unfold Ps.tk;rw [List.getD,List.getElem?_append_left hi,List.getElem?_eq_getElem hi];exact h1 _ (List.getElem_mem hi)
theorem toks_good{s:List UInt8}{l:List Tok}(h:toks s= .ok l):zK l:=by
 unfold toks at h;split at h
 ·cases h
 ·exact Qj _ _ _ _ _ _ h (by simp)
theorem Zl:∀f s line col out e,s.length<=f->scan f s line col out= .error e->e.e≠0
 |f,[],line,col,out,e,_,h=>by
  have h:(putEnd out line col>>=λout=>put out ⟨0,[],0,line,col⟩)= .error e:=by cases f<;>exact h
  cases he:putEnd out line col with
  |error e'=>
   rw [he]at h;have:e'=e:=by cases h;rfl
   subst this;unfold putEnd at he;split at he
   ·rw [Wb he];decide
   ·cases he
  |ok o=>rw [he]at h;rw [Wb h];decide
 |0,c::s,_,_,_,_,hl,_=>by simp at hl
 |f+1,c::s,line,col,out,e,hl,h=>by
  have hl:s.length<=f:=by simpa using hl
  rw [scan]at h;split at h
  ·cases he:putEnd out line col with
   |error e'=>
    rw [he]at h;have:e'=e:=by cases h;rfl
    subst this;unfold putEnd at he;split at he
    ·rw [Wb he];decide
    ·cases he
   |ok o=>rw [he]at h;exact Zl f s _ _ o e hl h
  ·split at h
   ·exact Zl f s _ _ out e hl h
   ·split at h
    ·exact Zl f _ _ _ out e (by simp;omega) h
    ·split at h
     ·rename_i e' h1;cases h
      exact one_err h1
     ·rename_i k tx v n h1;cases he:put out ⟨k,tx,v,line,col⟩with
      |error e'=>
       rw [he]at h;have:e'=e:=by cases h;rfl
       subst this;rw [Wb he];decide
      |ok o=>rw [he]at h;exact Zl f _ _ _ o e (by simp;omega) h
theorem toks_err{s:List UInt8}{e:Flt}(h:toks s= .error e):e.e≠0:=by
 unfold toks at h;split at h
 ·cases h;decide
 ·exact Zl _ _ _ _ _ _ lR h
end Pt
end Go.Vs
end
section
namespace Go.Vs
open Go.Proofs
variable [GTab] {Z:Nat->Prop}
noncomputable section
theorem WpP.part{P:Program}{nt:Nat}{c:Code}{env:Env}{H:qc}{nx:Nat}{dfs:Dfs}{K:KP}{ts:List Nat}(hm:P.follows .mixedOrders=true)
  (h:vK P (qo P) (LpP P nt) nt c env H nx dfs none (qG ts (qF (λe H n d _=>K .normal e H n d none) (λid e H n d _=>K (.exit id) e H n d none) (λe H n d _=>K .ret e H n d none) (λl e H n d _=>K (.pan l) e H n d none)))):WpP P nt c env H nx dfs K:=
 WpP.trim (WpP.mono (WpP.of_vK hm h) (by intro ex env' H' nx' dfs' h;cases ex<;>exact h))
def vm(w:List UInt8):List qa:=w.map λb=>qa.int .u8 (.ofNat b.toNat)
theorem Yc:∀w:List UInt8,yz (vm w)=some w
 |[]=>rfl
 |c::w=>by
  have hb:Nat.ble c.toNat 255=true:=Nat.ble_eq_true_of_le (by have:=c.toNat_lt;omega)
  show yz (qa.int .u8 (.ofNat c.toNat)::vm w)=_
  rw [yz,hb,Yc w];simp
theorem HZ.str{Γ:GH}{H:qc}{nx b:Nat}{w:List UInt8}{full:Bool}(h:HZ Z Γ H nx)(e:Γ b=some (vm w)):Ya H (.slice b 0 w.length 1 full)=some w:=by
 obtain⟨_,olds,⟨ct,hb,hc⟩,_⟩:=h.2 b _ e
 unfold Ya;simp only [zf]
 rw [hb];have hl:(vm w).length=w.length:=by simp [vm]
 have:Nat.ble (Nat.add 0 w.length) (vm w).length=true:=Nat.ble_eq_true_of_le (by rw [hl];simp)
 simp only [this]
 rw [ZM hc (by rw [hl];omega)]
 rw [List.drop_zero,<-hl,List.take_length];exact Yc w
def kW(bb:Nat):List UInt8->qa
 |[]=> .nilSlice
 |c::w=> .slice bb 0 (c::w).length 1 false
def Jg(Γ:GH)(bb:Nat):List UInt8->GH
 |[]=>Γ
 |c::w=>gup bb (some (vm (c::w))) Γ
theorem qju{bb:Nat}{w:List UInt8}:zw (kW bb w)=some w.length:=by cases w<;>rfl
theorem qik{Γ:GH}{H:qc}{nx bb:Nat}{w:List UInt8}(h:HZ Z (Jg Γ bb w) H nx):Ya H (kW bb w)=some w:=by
 cases w with
 |nil=>rfl
 |cons c w=>exact h.str (qk _ _ _)
theorem y6{Γ:GH}{bb:Nat}{w:List UInt8}(hb:Γ bb=none)(b:Nat)(cs:List qa)(e:Γ b=some cs):Jg Γ bb w b=some cs:=by
 cases w with
 |nil=>exact e
 |cons c w=>exact(qn (neK e hb)).trans e
theorem Z7{Γ:GH}{H:qc}{nx bb:Nat}{w:List UInt8}{c:UInt8}(hk:HZ Z (Jg Γ bb w) H nx)(hb:Γ bb=none)(hw:w.length<=20000){k:qa->qc->Nat->Prop}
  (hK:∀bb' H' nx',nx<=nx'->Γ bb'=none->HZ Z (Jg Γ bb' (w++[c])) H' nx'->k (kW bb' (w++[c])) H' nx'):
  ∃H0,H0=qC nx [bv (Int.ofNat c.toNat)] H/\∃i13 l14,jN 1 H0 (qa.slice nx 0 1 1 true)=some (i13,l14)/\qt l14=true/\∃v15 H16 i17,z3 H0 (nx+1) 1 1 (kW bb w) i13 l14=some (v15,H16,i17)/\k v15 H16 i17:=by
 have hf:=hk.fresh (Nat.le_refl nx)
 refine Qe hk (nx':=nx+1) lR (by omega) λH1 h1=>⟨1,[bv (Int.ofNat c.toNat)],by rw [h1.src (qk _ _ _) (by simp)];simp,rfl,?_⟩
 have hf2:=h1.fresh (Nat.le_refl (nx+1))
 have hg1:Γ nx=none:=by
  cases e:Γ nx with
  |none=>rfl
  |some cs=>rw [y6 hb _ _ e]at hf;cases hf
 have hg2:Γ (nx+1)=none:=by
  cases e:Γ (nx+1)with
  |none=>rfl
  |some cs=>rw [qn (by omega),y6 hb _ _ e]at hf2;cases hf2
 have hs:∀b cs,Γ b=some cs->gup nx (some [bv (Int.ofNat c.toNat)]) (Jg Γ bb w) b=some cs:=λb cs e=>(qn (neK e hg1)).trans (y6 hb b cs e)
 cases w with
 |nil=>
  obtain⟨H2,a1,a2⟩:=h1.appNil (esz:=1) (ebytes:=1) (k:=1) (new:=[bv (Int.ofNat c.toNat)]) (by simp) (by omega) (by omega) (by omega)
  refine⟨_,H2,_,a1,hK (nx+1) _ _ (by omega) hg2 (a2.sub λb cs e=> ?_)⟩
  have e:gup (nx+1) (some (vm [c])) Γ b=some cs:=e
  by_cases hb2:b=nx+1
  ·subst hb2;rw [qk]at e ⊢;exact e
  ·rw [qn hb2]at e ⊢;exact hs b cs e
 |cons x w=>
  have hbn:bb≠nx:=neK (qk bb (some (vm (x::w))) Γ) hf
  have hl:(vm (x::w)).length=(x::w).length:=by simp [vm]
  obtain⟨H2,a1,a2⟩:=h1.app (b:=bb) (cs:=vm (x::w)) (esz:=1) (ebytes:=1) (k:=1) (len:=(x::w).length) (new:=[bv (Int.ofNat c.toNat)]) ((qn hbn).trans (qk _ _ _)) (by omega) (by simp) (by omega) (by omega) (by omega)
  refine⟨_,H2,_,a1,?_⟩
  have ev:kW (nx+1) (x::w++[c])= .slice (nx+1) 0 ((x::w).length+1) 1 false:=by simp [kW]
  rw [<-ev];refine hK (nx+1) _ _ (by omega) hg2 (a2.sub λb cs e=> ?_)
  have e:gup (nx+1) (some (vm (x::w++[c]))) Γ b=some cs:=e
  by_cases hb2:b=nx+1
  ·subst hb2;rw [qk]at e ⊢;rw [<-e];have:(vm (x::w)).take ((x::w).length*1)=vm (x::w):=by rw [Nat.mul_one,<-hl,List.take_length]
   rw [this];simp [vm]
  ·rw [qn hb2]at e ⊢;rw [qn (neK e hb)];exact hs b cs e
theorem JM(call:zm)(lp:Nat->jl)(lv:zJ)(lvc:zI)(r:Nat)(x n c:Int)(o:qa)(s:List UInt8)(H:qc)(nx:Nat)(K:qr):
  qA PG call (lp 84) 84 (qd PG zO) [1,1,1,0,1,0] (qy PG lv lvc K (qP PG zO)) .ret (qe .und [(0,.ptr r 0),(2,iv x),(3,.str s),(4,o),(5,iv n),(6,bv c)]) H nx [] none=K (.ret (iv x)) H nx:=by kernel_rfl
theorem qp4:qi (qd PG zO) [1,1,1,0,1,0,0]= .seq (qi (qd PG zO) [1,1,1,0,1,0,0,0]) (.seq (.block 1 (.seq (qi (qd PG zO) [1,1,1,0,1,0,0,1,0,0,0]) (.block 2 (.seq (qi (qd PG zO) [1,1,1,0,1,0,0,1,0,0,1,0,0]) (.cond (.tmp 24) (qi (qd PG zO) [1,1,1,0,1,0,0,1,0,0,1,0,1,0])
  (.seq (qi (qd PG zO) [1,1,1,0,1,0,0,1,0,0,1,0,1,1,0]) (.cond (.tmp 38) (qi (qd PG zO) [1,1,1,0,1,0,0,1,0,0,1,0,1,1,1,0]) (qi (qd PG zO) [1,1,1,0,1,0,0,1,0,0,1,0,1,1,1,1])))))))) (qi (qd PG zO) [1,1,1,0,1,0,0,1,1])):=by kernel_rfl
section
variable{Γ0:GH}{r ob nx:Nat}{σ:Sst}{H:qc}{K:qr}
def qg9(u:List UInt8):Except Int (Int×List UInt8×Int×Nat):=match Pt.textGo 1 [] (u.drop 1)with
 |some (w,n)=> .ok (5,w,0,n)
 |none=> .error 11
theorem qgq{K0:KP}{u w:List UInt8}{c:UInt8}{n bb nx2:Nat}{H2:qc}(I:ScI Γ0 r ob σ)(hbad:σ.bad=0)(hul:u.length<=16384)(hk2:HZ Z (Jg (scG Γ0 r ob σ) bb w) H2 nx2)(hbb:scG Γ0 r ob σ bb=none)(hn1:1<=n)(hlt:n<u.length)(hwn:w.length<=n)(hd:u.drop n=c::u.drop (n+1))
  (hno:¬(c=34/\w.length<=2000)) (hg:Pt.textGo 1 [] (u.drop 1)=Pt.textGo n w (c::u.drop (n+1)))
  (hgo:∀bb' w' n' H3 nx3,nx2<=nx3->scG Γ0 r ob σ bb'=none->HZ Z (Jg (scG Γ0 r ob σ) bb' w') H3 nx3->n<=n'->n'+1<=u.length->w'.length<=n'+1->Pt.textGo 1 [] (u.drop 1)=Pt.textGo (n'+1) w' (u.drop (n'+1))->
   K0 .normal (qe .und [(0,.ptr r 0),(2,iv 0),(3,.str u),(4,kW bb' w'),(5,iv (n':Nat)),(6,bv (Int.ofNat c.toNat))]) H3 nx3 [] none)
  (hflt:Pt.textGo 1 [] (u.drop 1)=none->∀(n':Int) H3 nx3,nx2<=nx3->HZ Z (scG Γ0 r ob {σ with bad:=11,wl:=σ.line,wc:=σ.col}) H3 nx3->
   K0 .ret (qe .und [(0,.ptr r 0),(2,iv 0),(3,.str u),(4,kW bb w),(5,iv n'),(6,bv (Int.ofNat c.toNat))]) H3 nx3 [] none):
  WpP PG 84 (.seq (qi (qd PG zO) [1,1,1,0,1,0,0,1,0,0,1,0,1,1,0]) (.cond (.tmp 38) (qi (qd PG zO) [1,1,1,0,1,0,0,1,0,0,1,0,1,1,1,0]) (qi (qd PG zO) [1,1,1,0,1,0,0,1,0,0,1,0,1,1,1,1])))
   (qe .und [(6,bv (Int.ofNat c.toNat)),(5,iv n),(4,kW bb w),(3,.str u),(2,iv 0),(0,.ptr r 0)]) H2 nx2 [] K0:=by
 have hk0:HZ Z (scG Γ0 r ob σ) H2 nx2:=hk2.sub (y6 hbb)
 have ec:∀m:UInt8,c=m↔Int.ofNat c.toNat=Int.ofNat m.toNat:=λm=>by rw [<-UInt8.toNat_inj];show _↔((c.toNat:Int)=(m.toNat:Int));omega
 have hq:=Pt.textGo.eq_def n w (c::u.drop (n+1))
 dsimp only at hq
 rw [hq]at hg;clear hq;rw [if_neg hno]at hg;have part3:c≠92\/u.drop (n+1)=[]->∀{env:Env},qq (qe .und [(6,bv (Int.ofNat c.toNat)),(5,iv n),(4,kW bb w),(3,.str u),(2,iv 0),(0,.ptr r 0)]) env->WpP PG 84 (qi (qd PG zO) [1,1,1,0,1,0,0,1,0,0,1,0,1,1,1,1]) env H2 nx2 [] K0:=λh92 {env} hle=>by
  refine WpP.weaken hle (WpP.part (ts:=[0,2,3,4,5,6]) qp ?_)
  rw [qt1];have bad:Pt.textGo 1 [] (u.drop 1)=none->∀{pK:List (qa×Bool)->qc->Nat->Prop},qo PG z6 [.ptr r 0,iv 11] H2 nx2 λe H1 i2=>qj e (λ_=>K0 .ret (qe .und [(0,.ptr r 0),(2,iv 0),(3,.str u),(4,kW bb w),(5,iv n),(6,bv (Int.ofNat c.toNat))]) H1 i2 [] none) λl=>pK l H1 i2:=
   λe {pK}=>Z6 I hbad hk0 λH' nx' g1 g2=>qb.2 (hflt e n H' nx' g1 g2)
  by_cases h5:c=92
  ·have hnil:u.drop (n+1)=[]:=h92.resolve_left (by simp [h5])
   rw [if_pos h5,hnil]at hg;subst h5;refine qf.2 ⟨λh=>absurd (of_decide_eq_true h) (by decide),λ_=>qf.2 ⟨λh=>absurd (of_decide_eq_true h) (by decide),λ_=>qf.2 ⟨λh=>absurd (of_decide_eq_true h) (by decide),λ_=>qf.2 ⟨λ_=>bad hg,λh=>absurd rfl (of_decide_eq_false h)⟩⟩⟩⟩
  ·rw [if_neg h5]at hg;refine qf.2 ⟨λh=> ?_,λh=>qf.2 ⟨λh2=> ?_,λh2=>qf.2 ⟨λh3=> ?_,λh3=>qf.2 ⟨λh4=>absurd ((ec 92).2 (of_decide_eq_true h4)) h5,λ_=> ?_⟩⟩⟩⟩
   ·have h:(c.toNat:Int)<32:=of_decide_eq_true h
    rw [if_pos (.inl (by rw [UInt8.lt_iff_toNat_lt];show c.toNat<32;omega))]at hg
    exact bad hg
   ·have h2:(126:Int)<(c.toNat:Int):=of_decide_eq_true h2
    rw [if_pos (.inr (.inl (by rw [UInt8.lt_iff_toNat_lt];show 126<c.toNat;omega)))]at hg
    exact bad hg
   ·rw [if_pos (.inr (.inr ((ec 34).2 (of_decide_eq_true h3))))]at hg;exact bad hg
   ·have h:¬(c.toNat:Int)<32:=of_decide_eq_false h
    have h2:¬(126:Int)<(c.toNat:Int):=of_decide_eq_false h2
    rw [if_neg (by
     rintro(x|x|x)
     ·rw [UInt8.lt_iff_toNat_lt]at x;have x:c.toNat<32:=x;omega
     ·rw [UInt8.lt_iff_toNat_lt]at x;have x:126<c.toNat:=x;omega
     ·exact of_decide_eq_false h3 ((ec 34).1 x))]at hg
    refine⟨rfl,Z7 hk2 hbb (by omega) λbb' H3 nx3 g1 g2 g3=> ?_⟩
    exact hgo bb' (w++[c]) n H3 nx3 g1 g2 g3 lR (by omega) (by simp;omega) hg
 refine WpP.seq (WpP.part (ts:=[0,2,3,4,5,6,38]) qp ?_)
 rw [qsk];refine qf.2 ⟨λh=> ?_,λh=> ?_⟩
 ·have h5:c=92:=(ec 92).2 (of_decide_eq_true h)
  rw [qB (by omega) (by omega)]
  show WpP _ _ (.cond _ _ _) _ _ _ _ _
  by_cases hl:n+1<u.length
  ·refine WpP.cond (p:=true) (by show u7 (decide _)=_;rw [decide_eq_true (by show(n:Int)+1<(u.length:Int);omega)]) ?_
   show WpP _ _ _ _ _ _ _ _
   refine WpP.weaken (e:=qe .und [(6,bv (Int.ofNat c.toNat)),(5,iv n),(4,kW bb w),(3,.str u),(2,iv 0),(0,.ptr r 0)]) (qq.okay) (WpP.part (ts:=[0,2,3,4,5,6]) qp ?_)
   rw [qtq];rw [qB (by omega) (by omega)]
   obtain⟨e,he⟩:∃e,e=u[n+1]:=⟨_,rfl⟩
   have hd2:u.drop (n+1)=e::u.drop (n+2):=by rw [he];exact ZR hl
   rw [if_pos h5,hd2]at hg
   dsimp only at hg
   refine⟨by omega,e,by rw [show((n:Int)+1).toNat=n+1 by omega];simp [hl,he],qet (qb.2 ?_)⟩
   by_cases q1:e=110
   ·rw [if_pos q1]at hg ⊢;exact⟨Int.ofNat (10:UInt8).toNat,true,rfl,qf.2 ⟨λh=>Bool.noConfusion h,λ_=>⟨rfl,Z7 (c:=10) hk2 hbb (by omega) λbb' H3 nx3 g1 g2 g3=>hgo bb' (w++[10]) (n+1) H3 nx3 g1 g2 g3 (by omega) (by omega) (by simp;omega) hg⟩⟩⟩
   rw [if_neg q1]at hg ⊢;by_cases q2:e=116
   ·rw [if_pos q2]at hg ⊢;exact⟨Int.ofNat (9:UInt8).toNat,true,rfl,qf.2 ⟨λh=>Bool.noConfusion h,λ_=>⟨rfl,Z7 (c:=9) hk2 hbb (by omega) λbb' H3 nx3 g1 g2 g3=>hgo bb' (w++[9]) (n+1) H3 nx3 g1 g2 g3 (by omega) (by omega) (by simp;omega) hg⟩⟩⟩
   rw [if_neg q2]at hg ⊢;by_cases q3:e=34\/e=92
   ·rw [if_pos q3]at hg ⊢;exact⟨Int.ofNat (e:UInt8).toNat,true,rfl,qf.2 ⟨λh=>Bool.noConfusion h,λ_=>⟨rfl,Z7 (c:=e) hk2 hbb (by omega) λbb' H3 nx3 g1 g2 g3=>hgo bb' (w++[e]) (n+1) H3 nx3 g1 g2 g3 (by omega) (by omega) (by simp;omega) hg⟩⟩⟩
   rw [if_neg q3]at hg ⊢;exact⟨0,false,rfl,qf.2 ⟨λ_=>Z6 I hbad hk0 λH' nx' g1 g2=>qb.2 (hflt hg _ H' nx' g1 g2),λh=>Bool.noConfusion h⟩⟩
  ·refine WpP.cond (p:=false) (by show u7 (decide _)=_;rw [decide_eq_false (by show¬(n:Int)+1<(u.length:Int);omega)]) ?_
   exact part3 (.inr (List.drop_eq_nil_of_le (by omega))) (qq.okay)
 ·have h5:c≠92:=λx=>of_decide_eq_false h ((ec 92).1 x)
  show WpP _ _ (.cond _ _ _) _ _ _ _ _
  refine WpP.cond (p:=false) rfl ?_
  exact part3 (.inl h5) (qq.okay)
theorem qkm(I:ScI Γ0 r ob σ)(hbad:σ.bad=0)(hk:HZ Z (scG Γ0 r ob σ) H nx)(hne:1<=(σ.s.drop σ.a).length)(hK:RdK Z Γ0 r nx σ K (qg9 (σ.s.drop σ.a))):qo PG zO [.ptr r 0] H nx K:=by
 refine qo.of_body qp ?_
 rw [qcs];obtain⟨u,hu⟩:∃u,u=σ.s.drop σ.a:=⟨_,rfl⟩
 rw [<-hu]at hK hne;have hul:u.length<=16384:=by have:=I.len;rw [hu,List.length_drop];omega
 refine yn I hk λnx1 h1 hk1=>qb.2 ⟨_,rfl,?_⟩
 rw [<-hu];refine zD (P:=PG) (X:=Nat×qa) (Y:=Unit) (λn=>qe .und [(5,iv n.1),(4,n.2),(3,.str u),(2,iv 0),(0,.ptr r 0)]) (λn=>qe .und [(0,.ptr r 0)])
  (λm n H2 nx2=>nx<=nx2/\∃bb w,n.2=kW bb w/\scG Γ0 r ob σ bb=none/\HZ Z (Jg (scG Γ0 r ob σ) bb w) H2 nx2/\m=u.length - n.1/\1<=n.1/\n.1<=u.length/\w.length<=n.1/\Pt.textGo 1 [] (u.drop 1)=Pt.textGo n.1 w (u.drop n.1))
  (λid n H2 nx2=>id=0/\nx<=nx2/\HZ Z (scG Γ0 r ob σ) H2 nx2/\Pt.textGo 1 [] (u.drop 1)=none) (u.length - 1) (1,.nilSlice) (qq.okay)
  ⟨h1,nx1,[],rfl,hk1.fresh lR,hk1,rfl,Nat.le_refl _,hne,by simp,rfl⟩ ?_ ?_
 ·rintro m ⟨n,o⟩ H2 nx2 ⟨h2,bb,w,ho,hbb,hk2,rfl,hn1,hn2,hwn,hg⟩
  dsimp only at ho hn1 hn2 hwn hg ⊢
  subst ho;have hk0:HZ Z (scG Γ0 r ob σ) H2 nx2:=hk2.sub (y6 hbb)
  rw [qp4];refine WpP.seq (WpP.part (ts:=[0,2,3,4,5]) qp ?_)
  rw [qtz];refine qf.2 ⟨λh=> ?_,λh=> ?_⟩
  ·have h:(n:Int)<(u.length:Int):=of_decide_eq_true h
   have hlt:n<u.length:=by omega
   have hd:u.drop n=u[n]::u.drop (n+1):=ZR hlt
   obtain⟨c,hc⟩:∃c,c=u[n]:=⟨_,rfl⟩
   rw [<-hc]at hd;rw [hd]at hg;have ec:∀m:UInt8,c=m↔Int.ofNat c.toNat=Int.ofNat m.toNat:=λm=>by rw [<-UInt8.toNat_inj];show _↔((c.toNat:Int)=(m.toNat:Int));omega
   have go:∀{bb':Nat} {w':List UInt8} {n':Nat} {H3:qc} {nx3:Nat},nx<=nx3->scG Γ0 r ob σ bb'=none->HZ Z (Jg (scG Γ0 r ob σ) bb' w') H3 nx3->n<n'->n'<=u.length->w'.length<=n'->Pt.textGo 1 [] (u.drop 1)=Pt.textGo n' w' (u.drop n')->
     (([]:Dfs)=([]:Dfs)/\∃m' x',m'<u.length - n/\qq (qe .und [(5,iv ((x':Nat×qa).1:Nat)),(4,x'.2),(3,.str u),(2,iv 0),(0,.ptr r 0)]) (qe .und [(0,.ptr r 0),(2,iv 0),(3,.str u),(4,kW bb' w'),(5,iv n')])/\
      nx<=nx3/\∃bb w,x'.2=kW bb w/\scG Γ0 r ob σ bb=none/\HZ Z (Jg (scG Γ0 r ob σ) bb w) H3 nx3/\m'=u.length - x'.1/\1<=x'.1/\x'.1<=u.length/\w.length<=x'.1/\Pt.textGo 1 [] (u.drop 1)=Pt.textGo x'.1 w (u.drop x'.1)):=
    λ{bb'} {w'} {n'} {H3} {nx3} g1 g2 g3 g4 g5 g6 g7=>⟨rfl,u.length - n',(n',kW bb' w'),by omega,qq.okay,g1,bb',w',rfl,g2,g3,rfl,by show 1<=n';omega,g5,g6,g7⟩
   show WpP _ _ (.seq _ _) _ _ _ _ _
   refine WpP.weaken (e:=qe .und [(5,iv n),(4,kW bb w),(3,.str u),(2,iv 0),(0,.ptr r 0)]) (qq.okay) ?_
   refine WpP.seq (WpP.block (WpP.seq (WpP.part (ts:=[0,2,3,4,5,6]) qp ?_)))
   rw [qu9];refine⟨by omega,c,by simp [hlt,hc],?_⟩
   show WpP _ _ (.block 2 _) _ _ _ _ _
   refine WpP.weaken (e:=qe .und [(6,bv (Int.ofNat c.toNat)),(5,iv n),(4,kW bb w),(3,.str u),(2,iv 0),(0,.ptr r 0)]) (qq.okay) ?_
   refine WpP.block (WpP.seq (WpP.part (ts:=[0,2,3,4,5,6,24]) qp ?_))
   rw [quq];refine qf.2 ⟨λh3=> ?_,λh3=> ?_⟩
   ·have h3:c=34:=(ec 34).2 (of_decide_eq_true h3)
    refine⟨_,qju,?_⟩
    show WpP _ _ (.cond _ _ _) _ _ _ _ _
    by_cases hl:w.length<=2000
    ·refine WpP.cond (p:=true) (by show u7 (decide _)=_;rw [decide_eq_true (by show(w.length:Int)<=2000;omega)]) ?_
     show WpP _ _ _ _ _ _ _ _
     refine WpP.weaken (e:=qe .und [(6,bv (Int.ofNat c.toNat)),(5,iv n),(4,kW bb w),(3,.str u),(2,iv 0),(0,.ptr r 0)]) (qq.okay) (WpP.part (ts:=[0,2,3,4,5,6]) qp ?_)
     rw [qu4];rw [qB (by omega) (by omega),show((n:Int)+1)=((n+1:Nat):Int) by omega]
     have hr:Pt.textGo 1 [] (u.drop 1)=some (w,n+1):=by rw [hg,Pt.textGo.eq_def];dsimp only;rw [if_pos ⟨h3,hl⟩]
     unfold qg9 at hK;rw [hr]at hK;refine⟨w,qik hk2,JT I hk0 (λhf H' nx' g1 g2=>qb.2 ?_) λhf ob' H' nx' g1 g2 g3 g4=>qb.2 ?_⟩
     ·exact Eq.mpr (JM (qo PG) (LpP PG) (z9 (qM PG)) (ze PG (qM PG)) r _ n _ _ u H' nx' K) (hK.1 hf ob H' nx' (by omega) I.o0 I.ne g2)
     ·exact Eq.mpr (JM (qo PG) (LpP PG) (z9 (qM PG)) (ze PG (qM PG)) r _ n _ _ u H' nx' K) (hK.2 hf ob' H' nx' (by omega) g2 g3 g4)
    ·refine WpP.cond (p:=false) (by show u7 (decide _)=_;rw [decide_eq_false (by show¬(w.length:Int)<=2000;omega)]) ?_
     refine WpP.weaken (e:=qe .und [(6,bv (Int.ofNat c.toNat)),(5,iv n),(4,kW bb w),(3,.str u),(2,iv 0),(0,.ptr r 0)]) (qq.okay) (qgq I hbad hul hk2 hbb hn1 hlt hwn hd (λx=>hl x.2) hg (λbb' w' n' H3 nx3 g1 g2 g3 g4 g5 g6 g7=> ?_) λhn n' H3 nx3 g1 g2=> ?_)
     ·show WpP _ _ _ _ _ _ _ _
      refine WpP.weaken (e:=qe .und [(5,iv n'),(4,kW bb' w'),(3,.str u),(2,iv 0),(0,.ptr r 0)]) (qq.okay) (WpP.part (ts:=[0,2,3,4,5]) qp ?_)
      rw [qld];rw [qB (by omega) (by omega),show((n':Int)+1)=((n'+1:Nat):Int) by omega]
      exact go (by omega) g2 g3 (by omega) g5 g6 g7
     ·unfold qg9 at hK;rw [hn]at hK;exact Eq.mpr (JM (qo PG) (LpP PG) (z9 (qM PG)) (ze PG (qM PG)) r 0 n' _ _ u H3 nx3 K) (hK ob H3 nx3 (by omega) I.o0 I.ne g2)
   ·have h3:c≠34:=λx=>of_decide_eq_false h3 ((ec 34).1 x)
    show WpP _ _ (.cond _ _ _) _ _ _ _ _
    refine WpP.cond (p:=false) rfl ?_
    refine WpP.weaken (e:=qe .und [(6,bv (Int.ofNat c.toNat)),(5,iv n),(4,kW bb w),(3,.str u),(2,iv 0),(0,.ptr r 0)]) (qq.okay) (qgq I hbad hul hk2 hbb hn1 hlt hwn hd (λx=>h3 x.1) hg (λbb' w' n' H3 nx3 g1 g2 g3 g4 g5 g6 g7=> ?_) λhn n' H3 nx3 g1 g2=> ?_)
    ·show WpP _ _ _ _ _ _ _ _
     refine WpP.weaken (e:=qe .und [(5,iv n'),(4,kW bb' w'),(3,.str u),(2,iv 0),(0,.ptr r 0)]) (qq.okay) (WpP.part (ts:=[0,2,3,4,5]) qp ?_)
     rw [qld];rw [qB (by omega) (by omega),show((n':Int)+1)=((n'+1:Nat):Int) by omega]
     exact go (by omega) g2 g3 (by omega) g5 g6 g7
    ·unfold qg9 at hK;rw [hn]at hK;exact Eq.mpr (JM (qo PG) (LpP PG) (z9 (qM PG)) (ze PG (qM PG)) r 0 n' _ _ u H3 nx3 K) (hK ob H3 nx3 (by omega) I.o0 I.ne g2)
  ·have h:¬(n:Int)<(u.length:Int):=of_decide_eq_false h
   have he:n=u.length:=by omega
   refine⟨rfl,(),qq.okay,rfl,h2,hk0,?_⟩
   rw [hg,List.drop_eq_nil_of_le (by omega)]
   rw [Pt.textGo.eq_def]
 ·rintro id ⟨⟩ H2 nx2 ⟨rfl,h2,hk2,hg⟩
  rw [qmg];unfold qg9 at hK;rw [hg]at hK;exact hK.flt I hbad h2 hk2
end
section
variable{Γ0:GH}{r ob nx f:Nat}{σ:Sst}{H:qc}{K:qr}{R:Except Flt (List Tok)}
theorem qaz(I:ScI Γ0 r ob σ)(hlt:σ.a<σ.s.length)(hk:HZ Z (scG Γ0 r ob σ) H nx)(h:∀H',HZ Z (scG Γ0 r ob {σ with a:=σ.a+1,line:=σ.line+1,col:=1}) H' nx->K (.ret (.tuple [])) H' nx):
  true=true/\∃v14,some (u0 r 1)=some v14/\∃n15:Int,ld1 H v14=some (iv n15)/\true=true/\∃v16,some (u0 r 1)=some v16/\true=true/\∃H17,stC H v16 [iv (i64.wrap (n15+1))]=some H17/\true=true/\∃v18,some (u0 r 2)=some v18/\∃n19:Int,ld1 H17 v18=some (iv n19)/\true=true/\
   ∃v20,some (u0 r 2)=some v20/\true=true/\∃H21,stC H17 v20 [iv (i64.wrap (n19+1))]=some H21/\true=true/\∃v22,some (u0 r 3)=some v22/\true=true/\∃H23,stC H21 v22 [iv 1]=some H23/\K (U3 (U0 [])) H23 nx:=by
 have hlen:=I.len;have hln:=I.ln
 refine⟨rfl,_,rfl,(σ.a:Int),by rw [hk.ld1 jz];rfl,rfl,_,rfl,rfl,?_⟩
 rw [qB (by omega) (by omega),show((σ.a:Int)+1)=((σ.a+1:Nat):Int) by omega]
 refine qff {σ with a:=σ.a+1} hk rfl (by omega) rfl rfl λH1 h1=>⟨rfl,_,rfl,σ.line,by rw [h1.ld1 jz];rfl,rfl,_,rfl,rfl,?_⟩
 rw [qB (by omega) (by omega)]
 refine qff {σ with a:=σ.a+1,line:=σ.line+1} h1 rfl (by omega) rfl rfl λH2 h2=>⟨rfl,_,rfl,rfl,?_⟩
 exact qff {σ with a:=σ.a+1,line:=σ.line+1,col:=1} h2 rfl (by omega) rfl rfl λH3 h3=>h H3 h3
def Yw(Z:Nat->Prop)(Γ0:GH)(r nx f:Nat)(σ:Sst)(R:Except Flt (List Tok))(K:qr):Prop:=∀σ' ob' H' nx',nx<=nx'->ScI Γ0 r ob' σ'->σ'.s=σ.s->
 ((σ'.bad=0/\Pt.scan f (σ.s.drop σ'.a) σ'.line σ'.col σ'.out=R/\σ.a<σ'.a)\/(σ'.bad≠0/\R= .error ⟨σ'.wl,σ'.wc,σ'.bad⟩))->HZ Z (scG Γ0 r ob' σ') H' nx'->K (.ret (.tuple [])) H' nx'
theorem Yw.from{nx1:Nat}(h:Yw Z Γ0 r nx f σ R K)(hn:nx<=nx1):Yw Z Γ0 r nx1 f σ R K:=λσ' ob' H' nx' h1=>h σ' ob' H' nx' (by omega)
def qdj(f:Nat)(σ:Sst)(s':List UInt8)(res:Except Int (Int×List UInt8×Int×Nat)):Except Flt (List Tok):=match res with| .error e=> .error ⟨σ.line,σ.col,e⟩| .ok (k,tx,v,n)=>Pt.put σ.out ⟨k,tx,v,σ.line,σ.col⟩>>=λout=>Pt.scan f (s'.drop (n - 1)) σ.line (σ.col+n) out
def qhg(K:qr)(r g:Nat)(H:qc)(nx:Nat):Prop:=∃(x:FuncId) (l:List qa),some ((g:FuncId),[u0 r 0])=some (x,l)/\qo PG x l H nx λe H i=>qj e (λv=>∃n:Int,v=iv n/\qo PG zz [.ptr r 0,iv n] H i λe H i=>qj e (λ_=>K (.ret (.tuple [])) H i) λl=>K (.pan l) H i) λl=>K (.pan l) H i
theorem V6{c:UInt8}{s':List UInt8}(I:ScI Γ0 r ob σ)(hb:σ.bad=0)(hu:σ.s.drop σ.a=c::s'){res:Except Int (Int×List UInt8×Int×Nat)}(hres:Pt.one c s'=res)
  (hR:qdj f σ s' res=R) (hK:Yw Z Γ0 r nx f σ R K):
  RdK Z Γ0 r nx σ (λe H i=>qj e (λv=>∃n:Int,v=iv n/\qo PG zz [.ptr r 0,iv n] H i λe H i=>qj e (λ_=>K (.ret (.tuple [])) H i) λl=>K (.pan l) H i) λl=>K (.pan l) H i) res:=by
 have hle:=I.le;have hlen:=I.len;have hfew:=I.few;have hln:=I.ln;have hcl:=I.cl
 have hdl:σ.s.length=σ.a+(s'.length+1):=by
  have:=congrArg List.length hu
  rw [List.length_drop,List.length_cons]at this;omega
 cases res with
 |error e=>
  have he:=Pt.one_err hres
  intro ob' H' nx' g1 g2 g3 g4;refine qb.2 ⟨0,rfl,?_⟩
  have I':ScI Γ0 r ob' {σ with bad:=e,wl:=σ.line,wc:=σ.col}:=⟨I.r0,g2,g3,hle,hlen,hfew,hln,hcl⟩
  exact JU (n:=0) I' g4 (by omega) λH2 h2=>qb.2 (hK {σ with a:=σ.a+0,col:=σ.col+((0:Nat):Int),bad:=e,wl:=σ.line,wc:=σ.col} ob' H2 nx' g1 ⟨I.r0,g2,g3,hle,hlen,hfew,⟨hln.1,by show σ.line<=((σ.a+0:Nat):Int)+1;simpa using hln.2⟩,by show 0<=σ.col+((0:Nat):Int)/\σ.col+((0:Nat):Int)<=((σ.a+0:Nat):Int)+1;simpa using hcl⟩ rfl (.inr ⟨he,hR.symm⟩) h2)
 |ok p=>
  obtain⟨k,tx,v,n⟩:=p
  obtain⟨n1,n2,hkd⟩:=Pt.one_len hres
  have hdrop:σ.s.drop (σ.a+n)=s'.drop (n - 1):=by
   rw [<-List.drop_drop,hu];obtain⟨m,rfl⟩:∃m,n=m+1:=⟨n - 1,by omega⟩
   rfl
  refine⟨λhf ob' H' nx' g1 g2 g3 g4=>qb.2 ⟨n,rfl,?_⟩,λhf ob' H' nx' g1 g2 g3 g4=>qb.2 ⟨n,rfl,?_⟩⟩
  ·have I':ScI Γ0 r ob' {σ with bad:=6,wl:=σ.line,wc:=σ.col}:=⟨I.r0,g2,g3,hle,hlen,hfew,hln,hcl⟩
   refine JU (n:=n) I' g4 (by omega) λH2 h2=>qb.2 (hK {σ with a:=σ.a+n,col:=σ.col+(n:Int),bad:=6,wl:=σ.line,wc:=σ.col} ob' H2 nx' g1 ⟨I.r0,g2,g3,by show σ.a+n<=σ.s.length;omega,hlen,hfew,⟨hln.1,by show σ.line<=((σ.a+n:Nat):Int)+1;omega⟩,by show 0<=σ.col+(n:Int)/\σ.col+(n:Int)<=((σ.a+n:Nat):Int)+1;omega⟩ rfl (.inr ⟨by show(6:Int)≠0;decide,?_⟩) h2)
   rw [<-hR];simp only [qdj,Pt.put,if_pos hf]
   rfl
  ·have I':ScI Γ0 r ob' {σ with out:=σ.out++[⟨k,tx,v,σ.line,σ.col⟩]}:=⟨I.r0,g2,g3,hle,hlen,by simp;omega,hln,hcl⟩
   refine JU (n:=n) I' g4 (by omega) λH2 h2=>qb.2 (hK {σ with a:=σ.a+n,col:=σ.col+(n:Int),out:=σ.out++[⟨k,tx,v,σ.line,σ.col⟩]} ob' H2 nx' g1 ⟨I.r0,g2,g3,by show σ.a+n<=σ.s.length;omega,hlen,by simp;omega,⟨hln.1,by show σ.line<=((σ.a+n:Nat):Int)+1;omega⟩,by show 0<=σ.col+(n:Int)/\σ.col+(n:Int)<=((σ.a+n:Nat):Int)+1;omega⟩ rfl (.inl ⟨hb,?_,by show σ.a<σ.a+n;omega⟩) h2)
   rw [<-hR];simp only [qdj,Pt.put,if_neg hf]
   show Pt.scan f (σ.s.drop (σ.a+n)) _ _ _=Pt.scan f (s'.drop (n - 1)) _ _ _
   rw [hdrop]
theorem qqe{c:UInt8}{s':List UInt8}(I:ScI Γ0 r ob σ)(hb:σ.bad=0)(hu:σ.s.drop σ.a=c::s')
  (hR:qdj f σ s' (Pt.one c s')=R) (hK:Yw Z Γ0 r nx f σ R K) (hk:HZ Z (scG Γ0 r ob σ) H nx):
  qo PG vF [bv (Int.ofNat c.toNat)] H nx λe H i=>qj e (λv=>∃b,v= .bool b/\ifB b (qhg K r K4 H i) (qo PG kV [bv (Int.ofNat c.toNat)] H i λe H i=>qj e (λv=>∃b,v= .bool b/\ifB b (qhg K r wy H i)
   (ifB (decide (Int.ofNat c.toNat=34)) (qhg K r zO H i) (qhg K r KN H i))) λl=>K (.pan l) H i)) λl=>K (.pan l) H i:=by
 have ec:∀m:UInt8,c=m↔Int.ofNat c.toNat=Int.ofNat m.toNat:=λm=>by rw [<-UInt8.toNat_inj];show _↔((c.toNat:Int)=(m.toNat:Int));omega
 refine W9 (qb.2 ⟨_,rfl,qf.2 ⟨λh1=> ?_,λh1=> ?_⟩⟩)
 ·have hp:(Pt.letter c||Pt.digit c)=true:=by rw [h1];rfl
  have ew:(c::s'.takeWhile λc=>Pt.letter c||Pt.digit c)=(σ.s.drop σ.a).takeWhile λc=>Pt.letter c||Pt.digit c:=by rw [hu,List.takeWhile_cons,if_pos hp]
  have e1:Pt.one c s'= .ok (if Pt.isWord (c::s'.takeWhile λc=>Pt.letter c||Pt.digit c)then 3 else 2,(c::s'.takeWhile λc=>Pt.letter c||Pt.digit c),0,(c::s'.takeWhile λc=>Pt.letter c||Pt.digit c).length):=by unfold Pt.one;rw [if_pos h1]
  exact⟨_,_,rfl,qlx I hk ew (V6 I hb hu e1 (by rw [e1]at hR;exact hR) hK)⟩
 refine KH (qb.2 ⟨_,rfl,qf.2 ⟨λh2=> ?_,λh2=> ?_⟩⟩)
 ·have ew:(c::s'.takeWhile Pt.digit)=(σ.s.drop σ.a).takeWhile Pt.digit:=by rw [hu,List.takeWhile_cons,if_pos h2]
  have e1:Pt.one c s'=(match Pt.numGo 0 (σ.s.drop σ.a)with|some v=> .ok (4,c::s'.takeWhile Pt.digit,v,(c::s'.takeWhile Pt.digit).length)|none=> .error 12):=by
   unfold Pt.one;rw [if_neg (by rw [h1];simp),if_pos h2,hu,List.length_cons,Nat.add_comm 1]
   rfl
  exact⟨_,_,rfl,qf8 I hb hk ew (V6 I hb hu e1 (by rw [e1]at hR;exact hR) hK)⟩
 refine qf.2 ⟨λh3=> ?_,λh3=> ?_⟩
 ·have h3:c=34:=(ec 34).2 (of_decide_eq_true h3)
  have e1:Pt.one c s'=qg9 (σ.s.drop σ.a):=by
   unfold Pt.one qg9;rw [if_neg (by rw [h1];simp),if_neg (by rw [h2];simp),if_pos h3,hu];rfl
  exact⟨_,_,rfl,qkm I hb hk (by rw [hu];simp) (V6 I hb hu e1 (by rw [e1]at hR;exact hR) hK)⟩
 ·have h3:c≠34:=λx=>of_decide_eq_false h3 ((ec 34).1 x)
  have e1:Pt.one c s'=Pt.sign c s':=by unfold Pt.one;rw [if_neg (by rw [h1];simp),if_neg (by rw [h2];simp),if_neg h3]
  exact⟨_,_,rfl,qkf I hb hk hu (V6 I hb hu e1 (by rw [e1]at hR;exact hR) hK)⟩
theorem qpg{c:UInt8}{s':List UInt8}(I:ScI Γ0 r ob σ)(hb:σ.bad=0)(hu:σ.s.drop σ.a=c::s')(hR:Pt.scan (f+1) (c::s') σ.line σ.col σ.out=R)(hK:Yw Z Γ0 r nx f σ R K)(hk:HZ Z (scG Γ0 r ob σ) H nx):qo PG WH [.ptr r 0] H nx K:=by
 refine qo.of_body qp ?_
 rw [qfj];have hle:=I.le;have hlen:=I.len;have hfew:=I.few;have hln:=I.ln;have hcl:=I.cl
 have hdl:σ.s.length=σ.a+(s'.length+1):=by
  have:=congrArg List.length hu
  rw [List.length_drop,List.length_cons]at this;omega
 have hd1:σ.s.drop (σ.a+1)=s':=by rw [<-List.drop_drop,hu];rfl
 have hget:σ.s[σ.a]?=some c:=by
  have:=congrArg (λl=>l[0]?) hu
  simpa using this
 have ec:∀m:UInt8,c=m↔Int.ofNat c.toNat=Int.ofNat m.toNat:=λm=>by rw [<-UInt8.toNat_inj];show _↔((c.toNat:Int)=(m.toNat:Int));omega
 have st:∀{m:UInt8} {p q:Prop},(c=m->p)->(c≠m->q)->ifB (decide (Int.ofNat c.toNat=Int.ofNat m.toNat)) p q:=λh1 h2=>qf.2 ⟨λe=>h1 ((ec _).2 (of_decide_eq_true e)),λe=>h2 λx=>of_decide_eq_false e ((ec _).1 x)⟩
 refine qn0 I hk hget λnx1 h1 hk1=>qb.2 ⟨_,rfl,?_⟩
 replace hK:=hK.from h1
 rw [Pt.scan]at hR;refine st (m:=10) (λe=> ?_) λe10=> ?_
 ·rw [if_pos e]at hR;refine qbd I hk1 λH2 nx2 h2 hk2=>qb.2 ⟨_,rfl,qf.2 ⟨λh3=> ?_,λh3=> ?_⟩⟩
  ·unfold Pt.putEnd at hR;rw [if_pos h3]at hR;refine JT I hk2 (λhf H3 nx3 h4 hk3=>qb.2 ?_) λhf ob' H3 nx3 h4 g2 g3 hk3=>qb.2 ?_
   ·refine qaz (σ:={σ with bad:=6,wl:=σ.line,wc:=σ.col}) ⟨I.r0,I.o0,I.ne,hle,hlen,hfew,hln,hcl⟩ (by show σ.a<σ.s.length;omega) hk3 λH4 hk4=> ?_
    refine hK {σ with a:=σ.a+1,line:=σ.line+1,col:=1,bad:=6,wl:=σ.line,wc:=σ.col} ob H4 nx3 (by omega) ⟨I.r0,I.o0,I.ne,by show σ.a+1<=σ.s.length;omega,hlen,hfew,⟨by show 0<=σ.line+1;omega,by show σ.line+1<=((σ.a+1:Nat):Int)+1;omega⟩,by show(0:Int)<=1/\(1:Int)<=((σ.a+1:Nat):Int)+1;omega⟩ rfl (.inr ⟨by show(6:Int)≠0;decide,?_⟩) hk4
    rw [<-hR];simp only [Pt.put,if_pos hf]
    rfl
   ·refine qaz (σ:={σ with out:=σ.out++[⟨1,[59],0,σ.line,σ.col⟩]}) ⟨I.r0,g2,g3,hle,hlen,by simp;omega,hln,hcl⟩ (by show σ.a<σ.s.length;omega) hk3 λH4 hk4=> ?_
    refine hK {σ with a:=σ.a+1,line:=σ.line+1,col:=1,out:=σ.out++[⟨1,[59],0,σ.line,σ.col⟩]} ob' H4 nx3 (by omega) ⟨I.r0,g2,g3,by show σ.a+1<=σ.s.length;omega,hlen,by simp;omega,⟨by show 0<=σ.line+1;omega,by show σ.line+1<=((σ.a+1:Nat):Int)+1;omega⟩,by show(0:Int)<=1/\(1:Int)<=((σ.a+1:Nat):Int)+1;omega⟩ rfl (.inl ⟨hb,?_,by show σ.a<σ.a+1;omega⟩) hk4
    rw [<-hR];simp only [Pt.put,if_neg hf]
    show Pt.scan f (σ.s.drop (σ.a+1)) _ _ _=Pt.scan f s' _ _ _
    rw [hd1]
    rfl
  ·unfold Pt.putEnd at hR;rw [if_neg (by rw [h3];simp)]at hR
   refine qaz I (by omega) hk2 λH4 hk4=> ?_
   refine hK {σ with a:=σ.a+1,line:=σ.line+1,col:=1} ob H4 nx2 (by omega) ⟨I.r0,I.o0,I.ne,by show σ.a+1<=σ.s.length;omega,hlen,hfew,⟨by show 0<=σ.line+1;omega,by show σ.line+1<=((σ.a+1:Nat):Int)+1;omega⟩,by show(0:Int)<=1/\(1:Int)<=((σ.a+1:Nat):Int)+1;omega⟩ rfl (.inl ⟨hb,?_,by show σ.a<σ.a+1;omega⟩) hk4
   rw [<-hR];show Pt.scan f (σ.s.drop (σ.a+1)) _ _ _=Pt.scan f s' _ _ _
   rw [hd1]
 rw [if_neg e10]at hR;have skip:∀{n:Nat} {H2:qc} {nx2:Nat},nx1<=nx2->HZ Z (scG Γ0 r ob σ) H2 nx2->1<=n/\n<=s'.length+1->Pt.scan f (σ.s.drop (σ.a+n)) σ.line (σ.col+n) σ.out=R->
   qo PG zz [.ptr r 0,iv (n:Nat)] H2 nx2 λe H i=>qj e (λ_=>K (.ret (.tuple [])) H i) λl=>K (.pan l) H i:=λ{n} {H2} {nx2} h2 hk2 hn hR=>
  JU I hk2 (by omega) λH3 hk3=>qb.2 (hK {σ with a:=σ.a+n,col:=σ.col+(n:Int)} ob H3 nx2 h2 ⟨I.r0,I.o0,I.ne,by show σ.a+n<=σ.s.length;omega,hlen,hfew,⟨hln.1,by show σ.line<=((σ.a+n:Nat):Int)+1;omega⟩,by show 0<=σ.col+(n:Int)/\σ.col+(n:Int)<=((σ.a+n:Nat):Int)+1;omega⟩ rfl (.inl ⟨hb,hR,by show σ.a<σ.a+n;omega⟩) hk3)
 have white:(c=32\/c=9\/c=13)->qo PG zz [.ptr r 0,iv 1] H nx1 λe H i=>qj e (λ_=>K (.ret (.tuple [])) H i) λl=>K (.pan l) H i:=λe=>by
  rw [if_pos e]at hR;exact skip (n:=1) lR hk1 ⟨by omega,by omega⟩ (by rw [hd1];exact hR)
 refine st (m:=32) (λe=>white (.inl e)) λe32=> ?_
 refine st (m:=9) (λe=>white (.inr (.inl e))) λe9=> ?_
 refine st (m:=13) (λe=>white (.inr (.inr e))) λe13=> ?_
 rw [if_neg (by rintro(x|x|x);exact e32 x;exact e9 x;exact e13 x)]at hR
 have last:¬(c=47/\s'.head?=some 47)->∀{H2:qc} {nx2:Nat},nx1<=nx2->HZ Z (scG Γ0 r ob σ) H2 nx2->_:=λhno {H2} {nx2} h2 hk2=>qqe (K:=K) (R:=R) (f:=f) (H:=H2) (nx:=nx2) I hb hu (by
  rw [if_neg hno]at hR;rw [<-hR];unfold qdj;cases Pt.one c s' with
  |error e=>rfl
  |ok p=>rfl) (hK.from h2) hk2
 refine st (m:=47) (λe=> ?_) λe47=>last (λx=>e47 x.1) lR hk1
 refine yn I hk1 λnx2 h2 hk2=>qb.2 ⟨_,rfl,qf.2 ⟨λh3=> ?_,λh3=> ?_⟩⟩
 ·rw [hu]at h3;have h3:(1:Int)<((c::s').length:Int):=of_decide_eq_true h3
  cases hs:s' with
  |nil=>rw [hs]at h3;simp at h3
  |cons d s''=>
   refine yn I hk2 λnx3 h4 hk3=>qb.2 ⟨_,rfl,by omega,d,by rw [hu,hs];rfl,?_⟩
   have ed:d=47↔Int.ofNat d.toNat=47:=by rw [<-UInt8.toNat_inj];show _↔((d.toNat:Int)=47);show d.toNat=47↔_;omega
   refine qf.2 ⟨λh5=> ?_,λh5=> ?_⟩
   ·have h5:d=47:=ed.2 (of_decide_eq_true h5)
    rw [if_pos ⟨e,by rw [hs,h5];rfl⟩]at hR
    refine⟨_,_,rfl,qbi I hk3 λnx4 h6 hk4=>qb.2 ⟨_,rfl,?_⟩⟩
    have etw:(σ.s.drop σ.a).takeWhile (λc=>c !=10)=c::s'.takeWhile λc=>c !=10:=by rw [hu,List.takeWhile_cons,if_pos (by rw [bne_iff_ne];exact e10)]
    have hl:=qgy (p:=λc:UInt8=>c !=10) (u:=s')
    refine skip (by omega) hk4 ⟨by rw [etw];simp,by rw [etw];simp;exact hl⟩ ?_
    rw [etw,List.length_cons,<-hR];have:σ.s.drop (σ.a+((s'.takeWhile λc=>c !=10).length+1))=s'.drop (s'.takeWhile λc=>c !=10).length:=by
     rw [Nat.add_comm _ 1,<-Nat.add_assoc,<-List.drop_drop,hd1]
    rw [this]
    congr 1
    omega
   ·have h5:d≠47:=λx=>of_decide_eq_false h5 (ed.1 x)
    exact last (λx=>by rw [hs]at x;exact h5 (by simpa using x.2)) (by omega) hk3
 ·rw [hu]at h3;have h3:¬(1:Int)<((c::s').length:Int):=of_decide_eq_false h3
  have hs:s'=[]:=by
   cases hs:s' with
   |nil=>rfl
   |cons d s''=>rw [hs]at h3;simp at h3;omega
  exact last (λx=>by rw [hs]at x;simp at x) (by omega) hk2
end
section
variable{Γ Γ0:GH}{r ob c nx:Nat}{σ:Sst}{H:qc}{K:qr}{R:Except Flt (List Tok)}
def qv5(Z:Nat->Prop)(Γ:GH)(nx:Nat)(R:Except Flt (List Tok))(K:qr):Prop:=match R with
 | .ok l=>∀tb H' nx',nx<=nx'->Γ tb=none->HZ Z (gup tb (some (l.flatMap ky)) Γ) H' nx'->K (.ret (.tuple [.slice tb 0 l.length 5 false,wQ ⟨0,[],0,0,0⟩,iv 0])) H' nx'
 | .error f=>∀H' nx',nx<=nx'->HZ Z Γ H' nx'->K (.ret (.tuple [.nilSlice,wQ ⟨0,[],0,f.line,f.col⟩,iv f.e])) H' nx'
theorem qqx{cc:List qa}{Γ:GH}{n0:Nat}(hΓ:Γ c=none)(hcc:cc.length=5)(I:ScI (gup c (some cc) Γ) r ob σ)(hk:HZ Z (scG (gup c (some cc) Γ) r ob σ) H nx)(hn:n0<=nx)(hK:qv5 Z Γ n0 R K)
  (hR:(σ.bad=0/\R= .ok σ.out/\σ.out≠[])\/(σ.bad≠0/\R= .error ⟨σ.wl,σ.wc,σ.bad⟩)):
  true=true/\∃v17,some (u0 r 5)=some v17/\∃n18:Int,ld1 H v17=some (iv n18)/\ifB (!decide (n18=0))
   (true=true/\∃v19,some (u0 r 6)=some v19/\∃(n20:Int) (s21:List UInt8) (n22 n23 n24:Int),ldN H 5 v19=some (u6 [iv n20,u5 s21,iv n22,iv n23,iv n24])/\true=true/\∃v25,some (u0 r 5)=some v25/\∃n26:Int,ld1 H v25=some (iv n26)/\
    ((∃(n27:Int) (s28:List UInt8) (n29 n30 n31:Int),ldN H 5 v19=some (u6 [iv n27,u5 s28,iv n29,iv n30,iv n31])/\u6 [iv n27,u5 s28,iv n29,iv n30,iv n31]=u6 [iv n20,u5 s21,iv n22,iv n23,iv n24])/\(∃n32:Int,ld1 H v25=some (iv n32)/\iv n32=iv n26)/\True)/\
    ∃H33,stC H (u0 c 0) [iv n20,u5 s21,iv n22,iv n23,iv n24]=some H33/\((∃n34:Int,ld1 H33 v25=some (iv n34)/\iv n34=iv n26)/\True)/\∃(n20:Int) (s21:List UInt8) (n22 n23 n24:Int),ldN H33 5 (u0 c 0)=some (u6 [iv n20,u5 s21,iv n22,iv n23,iv n24])/\
    K (U3 (U0 [u9,u6 [iv n20,u5 s21,iv n22,iv n23,iv n24],iv n26])) H33 (nx+11))
   (true=true/\∃v40,some (u0 r 4)=some v40/\∃v41,ld1 H v40=some v41/\∃H42,stC H (u0 c 0) [iv 0,u5 [],iv 0,iv 0,iv 0]=some H42/\∃(n20:Int) (s21:List UInt8) (n22 n23 n24:Int),ldN H42 5 (u0 c 0)=some (u6 [iv n20,u5 s21,iv n22,iv n23,iv n24])/\
    K (U3 (U0 [v41,u6 [iv n20,u5 s21,iv n22,iv n23,iv n24],iv 0])) H42 nx):=by
 have hcr:c≠r:=neK (qk c (some cc) Γ) I.r0
 have ec:scG (gup c (some cc) Γ) r ob σ c=some cc:=Kf I c cc (qk _ _ _)
 have l5:ld1 H (.ptr r 5)=some (iv σ.bad):=by rw [hk.ld1 jz];rfl
 have l4:ld1 H (.ptr r 4)=some (K8 ob σ.out):=by rw [hk.ld1 jz];rfl
 have l6:ldN H 5 (.ptr r 6)=some (wQ ⟨0,[],0,σ.wl,σ.wc⟩):=by rw [hk.ldN jz (by simp [scC])];rfl
 have sub:∀{b:Nat} {cs:List qa} {ds:List qa},Γ b=some cs->gup c (some ds) (scG (gup c (some cc) Γ) r ob σ) b=some cs:=λe=>(qn (neK e hΓ)).trans (Kf I _ _ ((qn (neK e hΓ)).trans e))
 refine⟨rfl,_,rfl,_,l5,qf.2 ⟨λh=> ?_,λh=> ?_⟩⟩
 ·have h:¬σ.bad=0:=by simpa using h
  rcases hR with hR|⟨_,hR⟩
  ·exact absurd hR.1 h
  subst hR;refine⟨rfl,_,rfl,_,_,_,_,_,l6,rfl,_,rfl,_,l5,⟨⟨_,_,_,_,_,l6,rfl⟩,⟨_,l5,rfl⟩,trivial⟩,?_⟩
  refine jS hk ec (by simp [hcc]) rfl λH1 h1=> ?_
  have m5:ld1 H1 (.ptr r 5)=some (iv σ.bad):=by rw [h1.ld1 ((qn (Ne.symm hcr)).trans jz)];rfl
  exact⟨⟨⟨_,m5,rfl⟩,trivial⟩,_,_,_,_,_,qX h1 (qk _ _ _) rfl,hK _ _ (by omega) ((h1.more (by omega)).sub λb cs e=>sub e)⟩
 ·have h:σ.bad=0:=by simpa using h
  rcases hR with⟨_,hR,ho⟩|hR
  ·subst hR;refine⟨rfl,_,rfl,_,l4,jS hk ec (by simp [hcc]) rfl λH1 h1=>⟨_,_,_,_,_,qX h1 (qk _ _ _) rfl,?_⟩⟩
   have hco:c≠ob:=neK (qk c (some cc) Γ) I.o0
   have hob:Γ ob=none:=by have:=I.o0;rwa [qn (Ne.symm hco)]at this
   have ev:K8 ob σ.out= .slice ob 0 σ.out.length 5 false:=by
    cases e:σ.out with
    |nil=>exact absurd e ho
    |cons t l=>rfl
   rw [ev];refine hK ob H1 nx hn hob (h1.sub λb cs e=> ?_)
   by_cases hb:b=ob
   ·subst hb;rw [qk]at e;rw [qn (Ne.symm hco),YM I ho,e]
   ·rw [qn hb]at e;exact sub e
  ·exact absurd h hR.1
theorem qhm{s:List UInt8}(hk:HZ Z Γ H nx)(hK:qv5 Z Γ nx (Pt.toks s) K):qo PG Xr [.str s] H nx K:=by
 refine qo.of_body qp ?_
 rw [qfi];have hf:=hk.fresh (Nat.le_refl nx)
 refine Qe hk (nx':=nx+1) lR (by omega) λH0 hk0=>qf.2 ⟨λh=> ?_,λh=> ?_⟩
 ·have h:(16384:Int)<(s.length:Int):=of_decide_eq_true h
  have e:Pt.toks s= .error ⟨1,1,6⟩:=by unfold Pt.toks;rw [if_pos (by omega)]
  rw [e]at hK;refine⟨rfl,rfl,jS hk0 (qk _ _ _) rfl rfl λH1 h1=>⟨_,_,_,_,_,qX h1 (qk _ _ _) rfl,hK _ _ (by omega) ?_⟩⟩
  rw [vz]at h1;exact h1.drop hf
 ·have h:¬(16384:Int)<(s.length:Int):=of_decide_eq_false h
  have hR:Pt.scan s.length s 1 1 []=Pt.toks s:=by unfold Pt.toks;rw [if_neg (by omega)]
  obtain⟨R,eR⟩:∃R,R=Pt.toks s:=⟨_,rfl⟩
  rw [<-eR]at hR hK;refine⟨rfl,rfl,rfl,?_⟩
  obtain⟨cc,ecc⟩:∃cc:List qa,cc=[iv 0,u5 [],iv 0,iv 0,iv 0]:=⟨_,rfl⟩
  rw [<-ecc]at hk0;have hcc:cc.length=5:=by rw [ecc];rfl
  have hf1:=hk0.fresh (Nat.le_refl (nx+1))
  have hk1:HZ Z (gup (nx+1) (some (scC (nx+2) ⟨s,0,1,1,[],0,0,0⟩)) (gup nx (some cc) Γ)) (qC (nx+1) (scC (nx+2) ⟨s,0,1,1,[],0,0,0⟩) H0) (nx+1+1):=hk0.new lR (by omega) _
  have hf2:gup nx (some cc) Γ (nx+2)=none:=hk0.fresh (by omega)
  refine⟨_,rfl,?_⟩
  have I0:ScI (gup nx (some cc) Γ) (nx+1) (nx+2) ⟨s,0,1,1,[],0,0,0⟩:=⟨hf1,hf2,by omega,Nat.zero_le _,by show s.length<=_;omega,by simp,by simp,by simp⟩
  refine zD (P:=PG) (X:=Unit) (Y:=Unit) (λ_=>qe .und [(5,.ptr (nx+1) 0),(4,iv 0),(3,.ptr nx 0),(2,.nilSlice),(0,.str s)]) (λ_=>qe .und [(5,.ptr (nx+1) 0),(4,iv 0),(3,.ptr nx 0),(2,.nilSlice),(0,.str s)])
   (λm _ H2 nx2=>nx<=nx2/\∃ob σ,ScI (gup nx (some cc) Γ) (nx+1) ob σ/\σ.s=s/\HZ Z (scG (gup nx (some cc) Γ) (nx+1) ob σ) H2 nx2/\((σ.bad=0/\Pt.scan m (s.drop σ.a) σ.line σ.col σ.out=R/\s.length - σ.a<=m)\/(σ.bad≠0/\R= .error ⟨σ.wl,σ.wc,σ.bad⟩)))
   (λid _ H2 nx2=>id=0/\nx<=nx2/\∃ob σ,ScI (gup nx (some cc) Γ) (nx+1) ob σ/\HZ Z (scG (gup nx (some cc) Γ) (nx+1) ob σ) H2 nx2/\((σ.bad=0/\Pt.scan 0 [] σ.line σ.col σ.out=R)\/(σ.bad≠0/\R= .error ⟨σ.wl,σ.wc,σ.bad⟩))) s.length () (qq.okay)
   ⟨by omega,_,_,I0,rfl,hk1,.inl ⟨rfl,hR,by simp⟩⟩ ?_ ?_
  ·rintro m _ H2 nx2 ⟨h2,ob,σ,I,hs,hk2,hst⟩
   refine WpP.trim (ts:=[0,2,3,4,5]) (WpP.of_vK qp ?_)
   rw [qqq];refine⟨rfl,_,rfl,(σ.a:Int),by rw [hk2.ld1 jz];rfl,qf.2 ⟨λh3=> ?_,λh3=> ?_⟩⟩
   ·have h3:(σ.a:Int)<(s.length:Int):=of_decide_eq_true h3
    refine⟨rfl,_,rfl,σ.bad,by rw [hk2.ld1 jz];rfl,qf.2 ⟨λh4=> ?_,λh4=> ?_⟩⟩
    ·have h4:σ.bad=0:=of_decide_eq_true h4
     obtain⟨_,hsc,hm⟩:=hst.resolve_right λx=>x.1 h4
     have hlt:σ.a<s.length:=by omega
     have hd:s.drop σ.a=s[σ.a]::s.drop (σ.a+1):=ZR hlt
     cases m with
     |zero=>
      omega
     |succ m=>
      rw [hd]at hsc;refine qpg (f:=m) I h4 (by rw [hs];exact hd) hsc (λσ' ob' H' nx' g1 g2 g3 g4 g5=>qb.2 ?_) hk2
      refine⟨rfl,m,(),Nat.lt_succ_self m,qq.okay,by omega,ob',σ',g2,g3.trans hs,g5,?_⟩
      rcases g4 with g4|g4
      ·exact .inl ⟨g4.1,by rw [<-hs];exact g4.2.1,by have:=g4.2.2;omega⟩
      ·exact .inr g4
    ·have h4:¬σ.bad=0:=of_decide_eq_false h4
     exact⟨rfl,(),qq.okay,rfl,h2,ob,σ,I,hk2,.inr (hst.resolve_left λx=>h4 x.1)⟩
   ·have h3:¬(σ.a:Int)<(s.length:Int):=of_decide_eq_false h3
    refine⟨rfl,(),qq.okay,rfl,h2,ob,σ,I,hk2,?_⟩
    rcases hst with⟨h5,h6,_⟩|h5
    ·refine .inl ⟨h5,?_⟩
     rw [List.drop_eq_nil_of_le (by omega)]at h6
     rw [<-h6];cases m<;>rfl
    ·exact .inr h5
  ·rintro id _ H2 nx2 ⟨rfl,h2,ob,σ,I,hk2,hst⟩
   rw [qr3];have fin:∀{ob':Nat} {σ':Sst} {H3:qc} {nx3:Nat},nx<=nx3->ScI (gup nx (some cc) Γ) (nx+1) ob' σ'->HZ Z (scG (gup nx (some cc) Γ) (nx+1) ob' σ') H3 nx3->((σ'.bad=0/\R= .ok σ'.out/\σ'.out≠[])\/(σ'.bad≠0/\R= .error ⟨σ'.wl,σ'.wc,σ'.bad⟩))->_:=λ{ob'} {σ'} {H3} {nx3} g1 g2 g3 g4=>qqx (R:=R) (K:=K) (r:=nx+1) (c:=nx) (ob:=ob') (σ:=σ') (H:=H3) (nx:=nx3) hf hcc g2 g3 g1 hK g4
   have last:∀{ob':Nat} {σ':Sst} {H3:qc} {nx3:Nat},nx<=nx3->ScI (gup nx (some cc) Γ) (nx+1) ob' σ'->HZ Z (scG (gup nx (some cc) Γ) (nx+1) ob' σ') H3 nx3->σ'.bad=0->Pt.put σ'.out ⟨0,[],0,σ'.line,σ'.col⟩=R->
     ∀{Q:qg->qc->Nat->Prop},(∀ob'' σ'' H4 nx4,nx<=nx4->ScI (gup nx (some cc) Γ) (nx+1) ob'' σ''->HZ Z (scG (gup nx (some cc) Γ) (nx+1) ob'' σ'') H4 nx4->((σ''.bad=0/\R= .ok σ''.out/\σ''.out≠[])\/(σ''.bad≠0/\R= .error ⟨σ''.wl,σ''.wc,σ''.bad⟩))->Q (.ret (.tuple [])) H4 nx4)->
     qo PG qx [.ptr (nx+1) 0,iv 0,.str [],iv 0] H3 nx3 Q:=by
    intro ob' σ' H3 nx3 g1 g2 g3 g4 g5 Q hQ;refine JT g2 g3 (λhfull H4 nx4 q1 q2=>hQ ob' {σ' with bad:=6,wl:=σ'.line,wc:=σ'.col} H4 nx4 (by omega) ⟨g2.r0,g2.o0,g2.ne,g2.le,g2.len,g2.few,g2.ln,g2.cl⟩ q2 (.inr ⟨by show(6:Int)≠0;decide,?_⟩)) λhfull ob'' H4 nx4 q1 q2 q3 q4=>hQ ob'' {σ' with out:=σ'.out++[⟨0,[],0,σ'.line,σ'.col⟩]} H4 nx4 (by omega) ⟨g2.r0,q2,q3,g2.le,g2.len,by have:=g2.few;simp;omega,g2.ln,g2.cl⟩ q4 (.inl ⟨g4,?_,by simp⟩)
    ·rw [<-g5];simp only [Pt.put,if_pos hfull]
    ·rw [<-g5];simp only [Pt.put,if_neg hfull]
   refine⟨rfl,_,rfl,σ.bad,by rw [hk2.ld1 jz];rfl,qf.2 ⟨λh3=> ?_,λh3=> ?_⟩⟩
   ·have h3:σ.bad=0:=of_decide_eq_true h3
    obtain⟨_,hsc⟩:=hst.resolve_right λx=>x.1 h3
    have hsc:(Pt.putEnd σ.out σ.line σ.col>>=λout=>Pt.put out ⟨0,[],0,σ.line,σ.col⟩)=R:=hsc
    refine qbd I hk2 λH3 nx3 h4 hk3=>qb.2 ⟨_,rfl,qf.2 ⟨λh5=> ?_,λh5=> ?_⟩⟩
    ·unfold Pt.putEnd at hsc;rw [if_pos h5]at hsc;refine JT I hk3 (λhfull H4 nx4 q1 q2=>qb.2 ⟨rfl,_,rfl,6,by rw [q2.ld1 jz];rfl,qf.2 ⟨λx=>absurd (of_decide_eq_true x) (by decide),λ_=> ?_⟩⟩) λhfull ob' H4 nx4 q1 q2 q3 q4=>qb.2 ⟨rfl,_,rfl,σ.bad,by rw [q4.ld1 jz];rfl,qf.2 ⟨λ_=> ?_,λx=>absurd h3 (of_decide_eq_false x)⟩⟩
     ·refine fin (σ':={σ with bad:=6,wl:=σ.line,wc:=σ.col}) (by omega) ⟨I.r0,I.o0,I.ne,I.le,I.len,I.few,I.ln,I.cl⟩ q2 (.inr ⟨by show(6:Int)≠0;decide,?_⟩)
      rw [<-hsc];simp only [Pt.put,if_pos hfull];rfl
     ·refine last (σ':={σ with out:=σ.out++[⟨1,[59],0,σ.line,σ.col⟩]}) (by omega) ⟨I.r0,q2,q3,I.le,I.len,by have:=I.few;simp;omega,I.ln,I.cl⟩ q4 h3 (by rw [<-hsc];simp only [Pt.put,if_neg hfull];rfl) λob'' σ'' H5 nx5 p1 p2 p3 p4=>qb.2 (fin p1 p2 p3 p4)
    ·unfold Pt.putEnd at hsc;rw [if_neg (by rw [h5];simp)]at hsc
     refine⟨rfl,_,rfl,σ.bad,by rw [hk3.ld1 jz];rfl,qf.2 ⟨λ_=> ?_,λx=>absurd h3 (of_decide_eq_false x)⟩⟩
     exact last (by omega) I hk3 h3 hsc λob'' σ'' H5 nx5 p1 p2 p3 p4=>qb.2 (fin p1 p2 p3 p4)
   ·have h3:¬σ.bad=0:=of_decide_eq_false h3
    refine⟨rfl,_,rfl,σ.bad,by rw [hk2.ld1 jz];rfl,qf.2 ⟨λx=>absurd (of_decide_eq_true x) h3,λ_=> ?_⟩⟩
    exact fin h2 I hk2 (.inr (hst.resolve_left λx=>h3 x.1))
end
theorem qfu:vx PG jB=true:=by kernel_rfl
theorem qmi{Γ:GH}{H:qc}{nx r:Nat}{x y:qa}{n:Int}{m:qw}{K:qg->qw->qc->Nat->Prop}(hk:HZ Z Γ H nx)(hp:Γ r=some [x,y,iv n])
  (hK:∀H',HZ Z (gup r (some [x,y,iv (i64.wrap (n - 1))]) Γ) H' nx->K (.ret (.tuple [])) m H' nx):qM PG jB [.ptr r 0] m H nx K:=by
 refine qM.of_end qp qfu ?_
 rw [qb7];refine⟨rfl,_,rfl,n,by rw [hk.ld1 hp];rfl,rfl,_,rfl,rfl,Wh hk hp (j:=2) (by simp) rfl λH1 h1=>hK H1 ?_⟩
 simpa using h1
theorem Jx{H:qc}{a:qa}{k:qa->Prop}:vn PG qJ H a k=(∃(n:Int) (s:List UInt8) (x y z:Int) (v:qa),ldN H 6 a=some (.agg [.int .i64 n,.str s,.int .i64 x,.int .i64 y,.int .i64 z,v])/\k (.agg [.int .i64 n,.str s,.int .i64 x,.int .i64 y,.int .i64 z,v])):=by kernel_rfl
section
variable{Γ:GH}{H:qc}{nx a d i:Nat}{C:RC}{K:qr}
theorem qsy{f:Flt}(hk:HZ Z Γ H nx)(hp:RdP Γ C.r)(hK:∀Γ' H',HZ Z Γ' H' nx->qU C.r nx Γ Γ'->RdP Γ' C.r->K (.pan [(Ja f,false)]) H' nx):
  ze PG (qM PG) [.cell (.ptr i 0) qJ] [(jB,[.ptr C.r 0])] (.panicking [(Ja f,false)]) H nx K:=by
 obtain⟨x,y,n,e⟩:=hp
 exact qmi hk e λH' h=>qb.2 (hK _ _ h (.upd e) ⟨x,y,_,qk _ _ _⟩)
theorem qty{n x y z:Int}{s:List UInt8}{v:qa}(hk:HZ Z Γ H nx)(hr:Rd Γ C a (d+1))(hi:Γ i=some [iv n,.str s,iv x,iv y,iv z,v])(hne:i≠C.r)
  (hK:∀Γ' H',HZ Z Γ' H' nx->qU C.r nx Γ Γ'->Rd Γ' C a d->K (.ret (.agg [iv n,.str s,iv x,iv y,iv z,v])) H' nx):
  ze PG (qM PG) [.cell (.ptr i 0) qJ] [(jB,[.ptr C.r 0])] .returning H nx K:=by
 obtain⟨full,e,hr'⟩:=hr.set (a':=a) (d':=d) hr.lt (by have:=hr.deep;omega)
 refine qmi hk e λH' h=>qb.2 ?_
 show vn PG qJ H' (.ptr i 0) λv=>K (.ret v) H' nx
 rw [Jx];have hd:=hr.deep
 rw [qB (by omega) (by omega),show((d+1:Nat):Int) - 1=(d:Int) by omega]at h
 exact⟨_,_,_,_,_,_,qX h (by rw [qn hne];exact hi) rfl,hK _ _ h (.upd e) hr'⟩
theorem Ke(W:kv C.l)(hk:HZ Z Γ H nx)(hr:Rd Γ C a d)
  (hK:∀Γ' H' nx',nx<=nx'->HZ Z Γ' H' nx'->qU C.r nx Γ Γ'->Rd Γ' C (Ps.gaps C.l a) d->K (.ret (.tuple [])) H' nx'):qo PG vD [.ptr C.r 0] H nx K:=by
 refine qo.of_body qp ?_
 rw [qbq];refine zD (P:=PG) (X:=Nat) (Y:=Unit) (λ_=>qe .und [(0,.ptr C.r 0)]) (λ_=>qe .und [(0,.ptr C.r 0)])
  (λm b H1 nx1=>nx<=nx1/\∃Γ1,HZ Z Γ1 H1 nx1/\qU C.r nx Γ Γ1/\Rd Γ1 C b d/\m=C.l.length - b/\Ps.gapsN C.l m b=Ps.gaps C.l a)
  (λid _ H1 nx1=>id=0/\nx<=nx1/\∃Γ1,HZ Z Γ1 H1 nx1/\qU C.r nx Γ Γ1/\Rd Γ1 C (Ps.gaps C.l a) d) (C.l.length - a) a (qq.okay)
  ⟨Nat.le_refl _,Γ,hk,.refl _ _ _,hr,rfl,rfl⟩ ?_ ?_
 ·rintro m b H1 nx1 ⟨h1,Γ1,hk1,kp,hr1,rfl,hg⟩
  refine WpP.trim (ts:=[0]) (WpP.of_vK qp ?_)
  rw [qnl];have hlt:=hr1.lt
  obtain⟨m,hm⟩:∃m,C.l.length - b=m+1:=⟨C.l.length - b - 1,by omega⟩
  refine Kz W hk1 hr1 (λh H2 nx2 h2 hk2=>qb.2 ⟨_,rfl,?_⟩) λh Γ2 H2 nx2 h2 hk2 kp2 hr2=>qb.2 ⟨_,rfl,?_⟩
  ·refine⟨rfl,(),qq.refl _,rfl,by omega,Γ1,hk2,kp,?_⟩
   rw [<-hg,hm];unfold Ps.gapsN;rw [h];exact hr1
  ·refine⟨rfl,_,b+1,Nat.sub_lt_sub_left hlt (Nat.lt_succ_self b),qq.refl _,by omega,Γ2,hk2,kp.trans kp2,hr2,rfl,?_⟩
   rw [<-hg,hm];rw [show C.l.length - (b+1)=m by omega]
   conv=>rhs;unfold Ps.gapsN
   rw [h];rfl
 ·rintro id _ H1 nx1 ⟨rfl,h1,Γ1,hk1,kp,hr1⟩
  rw [qnp];exact hK _ _ _ h1 hk1 kp hr1
theorem qmc(W:kv C.l)(hk:HZ Z Γ H nx)(hr:Rd Γ C a d)
  (hno:∀f,Ps.ends C.l a= .error f->∀H' nx',nx<=nx'->HZ Z Γ H' nx'->K (.pan [(Ja f,false)]) H' nx')
  (hK:∀b,Ps.ends C.l a= .ok b->∀Γ' H' nx',nx<=nx'->HZ Z Γ' H' nx'->qU C.r nx Γ Γ'->Rd Γ' C b d->K (.ret (.tuple [])) H' nx'):qo PG Kl [.ptr C.r 0] H nx K:=by
 refine qo.of_body qp ?_
 rw [qc0];refine qcr hk hr λH1 nx1 h1 hk1=>qb.2 ⟨_,rfl,qf.2 ⟨λh=> ?_,λh=> ?_⟩⟩
 ·have h:Ps.is C.l a [125]=false:=by simpa using h
  refine Ql W hk1 hr (λh2 H2 nx2 g2 hk2=>ql.2 (hno _ ?_ _ _ (by omega) hk2)) λh2 Γ2 H2 nx2 g2 hk2 kp2 hr2=>qb.2 ⟨_,_,_,_,_,rfl,?_⟩
  ·simp [Ps.ends,h,Ps.need,h2]
  ·refine Ke W hk2 hr2 λΓ3 H3 nx3 g3 hk3 kp3 hr3=>qb.2 (hK _ ?_ _ _ _ (by omega) hk3 ((kp2.trans kp3).le) hr3)
   simp [Ps.ends,h,Ps.need,h2]
 ·have h:Ps.is C.l a [125]=true:=by simpa using h
  refine Ke W hk1 hr λΓ3 H3 nx3 g3 hk3 kp3 hr3=>qb.2 (hK _ ?_ _ _ _ (by omega) hk3 kp3.le hr3)
  simp [Ps.ends,h]
def QD(C:RC)(N:Nat)(Γ:GH)(Γ1:GH)(o:qa)(ts:List qu):Prop:=
 (o= .nilSlice/\ts=[]/\Γ1=Γ)\/∃b cs,o= .slice b 0 ts.length 6 false/\(Γ b=none/\N<=b)/\Γ1=gup b (some cs) Γ/\zX C.ex Γ cs ts
def RC.own(C:RC)(o:qa):RC:=match o with
 | .slice b _ _ _ _=>C.add b
 |_=>C
theorem RC.own_r(C:RC)(o:qa):(C.own o).r=C.r:=by unfold RC.own;split<;>rfl
theorem RC.own_l(C:RC)(o:qa):(C.own o).l=C.l:=by unfold RC.own;split<;>rfl
theorem QD.rd{Γ1:GH}{o:qa}{ts:List qu}{N:Nat}(h:QD C N Γ Γ1 o ts)(hr:Rd Γ C a d):Rd Γ1 (C.own o) a d:=by
 rcases h with⟨rfl,rfl,rfl⟩|⟨b,cs,rfl,⟨h1,hN⟩,rfl,h2⟩
 ·exact hr
 ·exact hr.newAdd h1
theorem QD.rd'{Γ1:GH}{o:qa}{ts:List qu}{N:Nat}(h:QD C N Γ Γ1 o ts)(hr:Rd Γ C a d):Rd Γ1 C a d:=by
 rcases h with⟨rfl,rfl,rfl⟩|⟨b,cs,rfl,⟨h1,hN⟩,rfl,h2⟩
 ·exact hr
 ·exact hr.new h1
theorem QD.keep{Γ1:GH}{o:qa}{ts:List qu}{N:Nat}(h:QD C N Γ Γ1 o ts):qU C.r N Γ Γ1:=by
 rcases h with⟨rfl,rfl,rfl⟩|⟨b,cs,rfl,⟨h1,hN⟩,rfl,h2⟩
 ·exact .refl _ _ _
 ·exact .new h1
theorem Rd.notex{b:Nat}(h:Rd Γ C a d)(hb:Γ b=none):¬C.ex b:=λx=>h.exs b x hb
theorem QD.v{Γ1:GH}{o:qa}{ts:List qu}{N:Nat}(h:QD C N Γ Γ1 o ts)(hr:Rd Γ C a d):zC C.ex Γ1 o ts:=by
 rcases h with⟨rfl,rfl,rfl⟩|⟨b,cs,rfl,⟨h1,hN⟩,rfl,h2⟩
 ·exact .nil
 ·exact .blk (hr.notex h1) (qk _ _ _) (h2.mono (λ_ h=>h) λc ds _ e=>by rw [qn λx=>by rw [x,h1]at e;cases e];exact e) rfl
theorem QD.more{Γ1 Γ2:GH}{o:qa}{ts:List qu}{x:List qa}{t:qu}{a0 d0:Nat}{N:Nat}(h:QD C N Γ Γ1 o ts)(hr0:Rd Γ C a0 d0)
  (hk:HZ Z Γ2 H nx) {nk:Nat} (kp:qU C.r nk Γ1 Γ2) (hNk:N<=nk) (hNx:N<=nx) (hr:Rd Γ2 (C.own o) a d) (hn:zu (C.own o).ex Γ2 x t) (hfew:ts.length<100000):
  ∃v H3 nx3 Γ3 Γ4,z3 H nx 6 72 o 1 x=some (v,H3,nx3)/\nx<=nx3/\HZ Z Γ4 H3 nx3/\qU C.r N Γ Γ3/\Rd Γ3 C a d/\QD C N Γ3 Γ4 v (ts++[t]):=by
 have hx:=hn.len
 have hf:=hk.fresh (Nat.le_refl nx)
 rcases h with⟨rfl,rfl,rfl⟩|⟨b,cs,rfl,⟨h1,hN⟩,rfl,h2⟩
 ·obtain⟨H3,e1,e2⟩:=hk.appNil (esz:=6) (ebytes:=72) (k:=1) (new:=x) (by omega) (by omega) (by omega) (by omega)
  exact⟨_,H3,_,Γ2,_,e1,by omega,e2,kp.le,hr,.inr ⟨nx,x,rfl,⟨hf,hNx⟩,rfl,hn.one⟩⟩
 ·have hbr:b≠C.r:=hr0.r_ne h1
  have hl:=h2.len
  have eb:Γ2 b=some cs:=kp.1 b cs hbr (qk _ _ _)
  obtain⟨H3,e1,e2⟩:=hk.app (esz:=6) (ebytes:=72) (k:=1) (new:=x) (len:=ts.length) eb (by omega) (by omega) (by omega) (by omega) (by omega)
  have hcs:cs.take (ts.length*6)=cs:=by rw [<-hl];exact List.take_length
  rw [hcs]at e2;have hsub:∀c ds,Γ c=some ds->c≠b:=λc ds e x=>by rw [x,h1]at e;cases e
  have k3:qU C.r N Γ (gup b none Γ2):=⟨λc ds hc e=>by rw [qn (hsub c ds e)];exact kp.1 c ds hc (by rw [qn (hsub c ds e)];exact e),λc hc e=>by
   rw [qn (by omega)];exact kp.2 c (by omega) (by rw [qn (by omega)];exact e)⟩
  refine⟨_,H3,_,gup b none Γ2,_,e1,by omega,e2,k3,?_,.inr ⟨nx,cs++x,by simp,⟨?_,hNx⟩,rfl,?_⟩⟩
  ·have hr':Rd Γ2 (C.add b) a d:=hr
   refine⟨hr'.lt,hr'.deep,hr'.ne,hr0.rex,λc hc=> ?_,?_,?_⟩
   ·have:c≠b:=λx=>hr0.exs c hc (by rw [x];exact h1)
    rw [qn this];exact hr'.exs c (.inr hc)
   ·obtain⟨f,e⟩:=hr'.rd
    exact⟨f,by rw [qn (Ne.symm hbr)];exact e⟩
   ·obtain⟨ds,e,e'⟩:=hr'.tk
    exact⟨ds,by rw [qn (Ne.symm (hr0.tb_ne h1))];exact e,e'⟩
  ·by_cases hb:nx=b
   ·rw [hb,qk]
   ·rw [qn hb];exact hf
  ·refine zX.app (h2.keep hr0.rex k3) (zu.one (hn.mono (λc hc=> .inr hc) λc ds hc e=> ?_))
   rw [qn λx=>hc (.inl x)];exact e
theorem QD.next{Γ1 Γ2:GH}{o:qa}{ts:List qu}{a0 d0:Nat}{N:Nat}(h:QD C N Γ Γ1 o ts)(hr0:Rd Γ C a0 d0){nk:Nat}(kp:qU C.r nk Γ1 Γ2)(hNk:N<=nk)(hr:Rd Γ2 C a d):
  ∃Γ3,QD C N Γ3 Γ2 o ts/\qU C.r N Γ Γ3/\Rd Γ3 C a d:=by
 rcases h with⟨rfl,rfl,rfl⟩|⟨b,cs,rfl,⟨h1,hN⟩,rfl,h2⟩
 ·exact⟨Γ2,.inl ⟨rfl,rfl,rfl⟩,kp.le,hr⟩
 ·have hbr:b≠C.r:=hr0.r_ne h1
  have eb:Γ2 b=some cs:=kp.1 b cs hbr (qk _ _ _)
  have hsub:∀c ds,Γ c=some ds->c≠b:=λc ds e x=>by rw [x,h1]at e;cases e
  have k3:qU C.r N Γ (gup b none Γ2):=⟨λc ds hc e=>by rw [qn (hsub c ds e)];exact kp.1 c ds hc (by rw [qn (hsub c ds e)];exact e),λc hc e=>by
   rw [qn (by omega)];exact kp.2 c (by omega) (by rw [qn (by omega)];exact e)⟩
  refine⟨gup b none Γ2,.inr ⟨b,cs,rfl,⟨qk _ _ _,hN⟩,by rw [vz,qtk eb],h2.keep hr0.rex k3⟩,k3,hr.lt,hr.deep,hr.ne,hr0.rex,λc hc=> ?_,?_,?_⟩
  ·have:c≠b:=λx=>hr0.exs c hc (by rw [x];exact h1)
   rw [qn this];exact hr.exs c hc
  ·obtain⟨f,e⟩:=hr.rd
   exact⟨f,by rw [qn (Ne.symm hbr)];exact e⟩
  ·obtain⟨ds,e,e'⟩:=hr.tk
   exact⟨ds,by rw [qn (Ne.symm (hr0.tb_ne h1))];exact e,e'⟩
def kt(l:List Tok)(r tb:Nat)(d:Nat)(g:FuncId)(one:Nat->Rs (qu×Nat)):Prop:=
 ∀Z ex a res Γ H nx K,one a=some res->HZ Z Γ H nx->Rd Γ ⟨r,tb,l,ex⟩ a d->ja Z K Γ nx ⟨r,tb,l,ex⟩ d res (zM ex)->qo PG g [.ptr r 0] H nx K
theorem kt.on{g:FuncId}{one:Nat->Rs (qu×Nat)}(h:kt C.l C.r C.tb d g one){CC:RC}(e1:CC.l=C.l)(e2:CC.r=C.r)(e3:CC.tb=C.tb){res:Except Flt (qu×Nat)}
  (h1:one a=some res) (hk:HZ Z Γ H nx) (hr:Rd Γ CC a d) (hK:ja Z K Γ nx CC d res (zM CC.ex)):qo PG g [.ptr C.r 0] H nx K:=by
 obtain⟨r,tb,l,ex⟩:=CC
 simp only at e1 e2 e3
 subst e1;subst e2;subst e3;exact h Z ex a res Γ H nx K h1 hk hr hK
theorem RC.own_tb(C:RC)(o:qa):(C.own o).tb=C.tb:=by unfold RC.own;split<;>rfl
theorem qgv{g:FuncId}{one:Nat->Rs (qu×Nat)}{n:Nat}{res:Except Flt (List qu×Nat)}(W:kv C.l)(hadv1:Ps.AdvOK one)(hg:zR PG (.func (.func g) [.ptr C.r 0] []) []=some (g,[.ptr C.r 0]))(hone:kt C.l C.r C.tb d g one)
  (hrun:Ps.list C.l one n a=some res) (hk:HZ Z Γ H nx) (hr:Rd Γ C a d) (hK:ja Z K Γ nx C d res (zC C.ex)):qo PG wV [.ptr C.r 0,.func (.func g) [.ptr C.r 0] []] H nx K:=by
 refine qo.of_body qp ?_
 rw [qbo];unfold Ps.list at hrun;refine Ql W hk hr (λh H1 nx1 h1 hk1=>ql.2 (hK.2 _ _ _ _ ?_ h1 hk1 (.refl _ _ _) hr.p)) λh Γ1 H1 nx1 h1 hk1 kp1 hr1=>qb.2 ⟨_,_,_,_,_,rfl,?_⟩
 ·simp [Ps.need,h,Ps.lift]at hrun;exact hrun.symm
 have hrun:Ps.listGo C.l one n (Ps.gaps C.l (a+1))=some res:=by simpa [Ps.need,h,Ps.lift]using hrun
 refine Ke W hk1 hr1 λΓ2 H2 nx2 h2 hk2 kp2 hr2=>qb.2 ?_
 have hK2:=hK.from (by omega:nx<=nx2) ((kp1.trans kp2).le)
 refine zD (P:=PG) (X:=qa) (Y:=qa) (λo=>qe .und [(0,.ptr C.r 0),(1,.func (.func g) [.ptr C.r 0] []),(5,o)]) (λo=>qe .und [(5,o)])
  (λm o H3 nx3=>nx2<=nx3/\∃Γ3 Γ4 ts b res',HZ Z Γ4 H3 nx3/\qU C.r nx2 Γ2 Γ3/\Rd Γ3 C b d/\QD C nx2 Γ3 Γ4 o ts/\ts.length<=b/\Ps.listGo C.l one m b=some res'/\res=(match res' with| .ok (xs,c)=> .ok (ts++xs,c)| .error f=> .error f))
  (λid o H3 nx3=>id=0/\nx2<=nx3/\∃Γ3 ts b,HZ Z Γ3 H3 nx3/\qU C.r nx2 Γ2 Γ3/\Rd Γ3 C b d/\zC C.ex Γ3 o ts/\res= .ok (ts,b)) n .nilSlice (qq.okay)
  ⟨Nat.le_refl _,Γ2,Γ2,[],_,res,hk2,.refl _ _ _,hr2,.inl ⟨rfl,rfl,rfl⟩,by simp,hrun,by cases res<;>rfl⟩ ?_ ?_
 ·rintro m o H3 nx3 ⟨h3,Γ3,Γ4,ts,b,res',hk4,kp3,hr3,gr,hts,hgo,hres⟩
  refine WpP.trim (ts:=[0,1,5]) (WpP.weaken (e:=qe .und [(5,o),(1,.func (.func g) [.ptr C.r 0] []),(0,.ptr C.r 0)]) (qq.okay) (WpP.of_vK qp ?_))
  rw [qnb];have hr4:=gr.rd' hr3
  cases m with
  |zero=>simp [Ps.listGo]at hgo
  |succ m=>
  unfold Ps.listGo at hgo;refine Kz W hk4 hr4 (λh H5 nx5 h5 hk5=>qb.2 ⟨_,rfl,?_⟩) λh Γ5 H5 nx5 h5 hk5 kp5 hr5=>qb.2 ⟨_,rfl,?_⟩
  ·rw [h]at hgo;have hgo:Rs.bind (one b) (λ(x,b)=>Ps.lift (Ps.ends C.l b) λc=>Rs.bind (Ps.listGo C.l one m c) λ(xs,d)=> .ok (x::xs,d))=some res':=hgo
   refine⟨_,_,hg,?_⟩
   rcases Ps.bind_some hgo with⟨f,e1,e2⟩|⟨⟨x,c⟩,e1,hgo⟩
   ·refine hone.on (C.own_l o) (C.own_r o) (C.own_tb o) e1 hk5 (gr.rd hr3) (.on (λx b v Γ' H' nx' e=>by cases e) λf' Γ' H' nx' e g1 g2 g3 g4=> ?_)
    cases e
    subst e2;rw [C.own_r]at g3 g4;exact hK2.2 f _ _ _ hres (by omega) g2 ((kp3.trans gr.keep).trans g3) g4
   ·refine hone.on (C.own_l o) (C.own_r o) (C.own_tb o) e1 hk5 (gr.rd hr3) (.on (λx' b' v Γ6 H6 nx6 e g1 g2 g3 g4 g5=> ?_) λf' Γ' H' nx' e=>by cases e)
    cases e
    obtain⟨k,s,nn,li,co,w,rfl,hw,hn⟩:=g4.cells
    rw [C.own_r]at g3;have hf6:=g2.fresh (Nat.le_refl nx6)
    refine⟨_,_,_,_,_,_,rfl,Qe g2 (nx':=nx6+1) lR (by omega) λH7 g7=> ?_⟩
    have hn7:zu (C.own o).ex (gup nx6 (some [iv k,.str s,iv nn,iv li,iv co,w]) Γ6) [iv k,.str s,iv nn,iv li,iv co,w] x:=hn.mono (λ_ h=>h) λc ds _ e=>by rw [qn λx=>by rw [x,hf6]at e;cases e];exact e
    have hr7:Rd (gup nx6 (some [iv k,.str s,iv nn,iv li,iv co,w]) Γ6) (C.own o) c d:=g5.new hf6
    have hcl:=hr7.lt
    have hWf:=W.few
    rw [C.own_l]at hcl;have hadv:=hr3.lt
    obtain⟨v,H8,nx8,Γ8,Γ9,a1,a2,a3,a4,a5,a6⟩:=gr.more hr3 g7 (g3.trans (.new (nx:=nx6) hf6)) (by omega) (by omega) hr7 hn7 (by omega)
    refine⟨1,[iv k,.str s,iv nn,iv li,iv co,w],?_,by simp only [qt,hw];rfl,v,H8,nx8,a1,?_⟩
    ·rw [g7.src (qk _ _ _) (by simp)];simp
    have hr9:=a6.rd' a5
    refine qmc W a3 hr9 (λf e3 H10 nx10 g10 hk10=>ql.2 ?_) λc' e3 Γ10 H10 nx10 g10 hk10 kp10 hr10=>qb.2 ?_
    ·simp only [e3,Ps.lift]at hgo
     cases hgo
     exact hK2.2 f _ _ _ hres (by omega) hk10 ((kp3.trans a4).trans a6.keep) hr9.p
    ·simp only [e3,Ps.lift]at hgo
     have ha1:=hadv1 _ _ _ e1
     have ha2:=Ps.ends_ok e3
     obtain⟨Γ11,b1,b2,b3⟩:=a6.next a5 kp10 (by omega) hr10
     rcases Ps.bind_some hgo with⟨f,e4,e5⟩|⟨⟨xs,c2⟩,e4,e5⟩
     ·exact⟨rfl,m,v,Nat.lt_succ_self m,qq.refl _,by omega,Γ11,Γ10,ts++[x],c',_,hk10,(kp3.trans a4).trans b2,b3,b1,by simp;omega,e4,by rw [hres,e5]⟩
     ·refine⟨rfl,m,v,Nat.lt_succ_self m,qq.refl _,by omega,Γ11,Γ10,ts++[x],c',_,hk10,(kp3.trans a4).trans b2,b3,b1,by simp;omega,e4,?_⟩
      cases e5
      rw [hres];simp
  ·rw [h]at hgo;cases hgo
   refine⟨rfl,o,qq.okay,rfl,by omega,Γ5,ts,b+1,hk5,(kp3.trans gr.keep).trans kp5,hr5,(gr.v hr3).keep hr3.rex kp5,by simpa using hres⟩
 ·rintro id o H3 nx3 ⟨rfl,h3,Γ3,ts,b,hk3,kp3,hr3,hv,hres⟩
  rw [qkw];exact hK2.1 _ _ _ _ _ _ hres h3 hk3 kp3 hv hr3
end
structure At(Γ:GH)(r i:Nat)(cs:List qa):Prop where
 e:Γ i=some cs
 ne:i≠r
theorem At.keep{Γ Γ':GH}{r i nx:Nat}{cs:List qa}(h:At Γ r i cs)(k:qU r nx Γ Γ'):At Γ' r i cs:=⟨k.1 _ _ h.ne h.e,h.ne⟩
theorem At.tok{Γ:GH}{H:qc}{nx r i:Nat}{t:Tok}(h:At Γ r i (ky t))(hk:HZ Z Γ H nx):ldN H 5 (.ptr i 0)=some (wQ t):=qX hk h.e rfl
theorem At.ld{Γ:GH}{H:qc}{nx r i:Nat}{cs:List qa}(h:At Γ r i cs)(hk:HZ Z Γ H nx)(j:Nat):ld1 H (.ptr i j)=cs[j]?:=hk.ld1 h.e j
structure Res(Γ:GH)(C:RC)(i:Nat):Prop where
 e:∃cs,Γ i=some cs/\cs.length=6
 nr:i≠C.r
 nt:i≠C.tb
theorem Res.keep{Γ Γ':GH}{C:RC}{i nx:Nat}(h:Res Γ C i)(k:qU C.r nx Γ Γ'):Res Γ' C i:=⟨let⟨cs,e,l⟩:=h.e;⟨cs,k.1 _ _ h.nr e,l⟩,h.nr,h.nt⟩
section
variable{α β:Type}{Γ0 Γ:GH}{n0:Nat}{H:qc}{nx a d i:Nat}{C:RC}{K:qr}{V:GH->qa->β->Prop}{res:Except Flt (β×Nat)}
variable{rK:qa->qc->Nat->Prop}{pK:List (qa×Bool)->qc->Nat->Prop}
def Owe(Z:Nat->Prop)(K:qr)(Γ0:GH)(n0:Nat)(Γ:GH)(nx:Nat)(C:RC)(d:Nat)(res:Except Flt (β×Nat))(V:GH->qa->β->Prop):Prop:=ja Z K Γ0 n0 C d res V/\qU C.r n0 Γ0 Γ/\n0<=nx
theorem ja.owe(hK:ja Z K Γ nx C d res V):Owe Z K Γ nx Γ nx C d res V:=⟨hK,.refl _ _ _,Nat.le_refl _⟩
theorem Owe.from{Γ1:GH}{nx1:Nat}(h:Owe Z K Γ0 n0 Γ nx C d res V)(hn:nx<=nx1)(hk:qU C.r nx Γ Γ1):Owe Z K Γ0 n0 Γ1 nx1 C d res V:=let⟨h1,h2,h3⟩:=h;⟨h1,h2.trans hk,by omega⟩
theorem Owe.pan{f:Flt}(h:Owe Z K Γ0 n0 Γ nx C d res V)(e:res= .error f)(hk:HZ Z Γ H nx)(hp:RdP Γ C.r):K (.pan [(Ja f,false)]) H nx:=let⟨h1,h2,h3⟩:=h;h1.2 f Γ H nx e h3 hk h2 hp
theorem Owe.ret{x:β}{b:Nat}{v:qa}(h:Owe Z K Γ0 n0 Γ nx C d res V)(e:res= .ok (x,b))(hk:HZ Z Γ H nx)(hv:V Γ v x)(hr:Rd Γ C b d):K (.ret v) H nx:=let⟨h1,h2,h3⟩:=h;h1.1 x b v Γ H nx e h3 hk h2 hv hr
theorem Owe.upd{i:Nat}{cs:Option (List qa)}(h:Owe Z K Γ0 n0 Γ nx C d res V)(hi:Γ0 i=none)(hn:n0<=i):Owe Z K Γ0 n0 (gup i cs Γ) nx C d res V:=let⟨h1,h2,h3⟩:=h;⟨h1,h2.upd' hi (.inl hn),h3⟩
def wu(Z:Nat->Prop)(K:qr)(r:Nat)(pK:List (qa×Bool)->qc->Nat->Prop):Prop:=
 ∀f Γ H nx,HZ Z Γ H nx->RdP Γ r->(∀Γ' H',HZ Z Γ' H' nx->qU r nx Γ Γ'->RdP Γ' r->K (.pan [(Ja f,false)]) H' nx)->pK [(Ja f,false)] H nx
theorem wu.id{r:Nat}:wu Z K r λl H nx=>K (.pan l) H nx:=λf Γ H nx hk hp h=>h Γ H hk (.refl _ _ _) hp
theorem wu.lv{i:Nat}:wu Z K C.r λl H nx=>ze PG (qM PG) [.cell (.ptr i 0) qJ] [(jB,[.ptr C.r 0])] (.panicking l) H nx K:=λf Γ H nx hk hp h=>qsy hk hp λΓ' H' h1 h2 h3=>h Γ' H' h1 h2 h3
theorem wu.of{f:Flt}{d':Nat}(h:wu Z K C.r pK)(hK:Owe Z K Γ0 n0 Γ nx C d' res V)(e:res= .error f)(hk:HZ Z Γ H nx)(hp:RdP Γ C.r):pK [(Ja f,false)] H nx:=
 h f Γ H nx hk hp λΓ' H' h1 h2 h3=>(hK.from lR h2).pan e h1 h3
theorem qV{g:FuncId}{args:List qa}{one:Nat->Rs (qu×Nat)}{k:qu×Nat->Rs (β×Nat)}{Cb:RC}{db:Nat}
  (hone:∀Z ex res Γ H nx K,one a=some res->HZ Z Γ H nx->Rd Γ ⟨C.r,C.tb,C.l,ex⟩ a d->ja Z K Γ nx ⟨C.r,C.tb,C.l,ex⟩ d res (zM ex)->qo PG g args H nx K)
  (hrun:Rs.bind (one a) k=some res) {Zc:Nat->Prop} (hk:HZ Zc Γ H nx) (hr:Rd Γ C a d) (hK:Owe Z K Γ0 n0 Γ nx Cb db res V) (hb:Cb.r=C.r) (hp:wu Z K Cb.r pK) (hz:∀b,Z b->Zc b)
  (hok:∀t b kk s n li co w Γ' H' nx',one a=some (.ok (t,b))->k (t,b)=some res->nx<=nx'->HZ Zc Γ' H' nx'->qU C.r nx Γ Γ'->qZ w=true->zu C.ex Γ' [iv kk,.str s,iv n,iv li,iv co,w] t->Rd Γ' C b d->
   Owe Z K Γ0 n0 Γ' nx' Cb db res V->rK (.agg [iv kk,.str s,iv n,iv li,iv co,w]) H' nx'):
  qo PG g args H nx λe H' nx'=>qj e (λv=>rK v H' nx') λl=>pK l H' nx':=by
 rcases Ps.bind_some hrun with⟨f,e1,e2⟩|⟨⟨t,b⟩,e1,e2⟩
 ·refine hone _ C.ex _ Γ H nx _ e1 hk hr (.on (λx b v Γ' H' nx' e=>by cases e) λf' Γ' H' nx' e g1 g2 g3 g4=> ?_)
  cases e
  rw [show(⟨C.r,C.tb,C.l,C.ex⟩:RC).r=Cb.r from hb.symm]at g3 g4;exact hp.of (hK.from g1 g3) e2 (g2.less hz) g4
 ·refine hone _ C.ex _ Γ H nx _ e1 hk hr (.on (λx b' v Γ' H' nx' e g1 g2 g3 g4 g5=> ?_) λf' Γ' H' nx' e=>by cases e)
  cases e
  obtain⟨kk,s,n,li,co,w,rfl,hw,hn⟩:=g4.cells
  exact hok _ _ _ _ _ _ _ _ _ _ _ e1 e2 g1 g2 g3 hw hn g5 (hK.from g1 (by rw [hb];exact g3))
theorem vf{g:FuncId}{args:List qa}{one:Nat->Rs (qu×Nat)}{res:Except Flt (qu×Nat)}{V:GH->qa->qu->Prop}{Cb:RC}{db:Nat}
  (hone:∀Z ex res Γ H nx K,one a=some res->HZ Z Γ H nx->Rd Γ ⟨C.r,C.tb,C.l,ex⟩ a d->ja Z K Γ nx ⟨C.r,C.tb,C.l,ex⟩ d res (zM ex)->qo PG g args H nx K)
  (hrun:one a=some res) {Zc:Nat->Prop} (hk:HZ Zc Γ H nx) (hr:Rd Γ C a d) (hK:Owe Z K Γ0 n0 Γ nx Cb db res V) (hb:Cb.r=C.r) (hp:wu Z K Cb.r pK) (hz:∀b,Z b->Zc b)
  (hok:∀t b kk s n li co w Γ' H' nx',one a=some (.ok (t,b))->res= .ok (t,b)->nx<=nx'->HZ Zc Γ' H' nx'->qU C.r nx Γ Γ'->qZ w=true->zu C.ex Γ' [iv kk,.str s,iv n,iv li,iv co,w] t->Rd Γ' C b d->
   Owe Z K Γ0 n0 Γ' nx' Cb db res V->rK (.agg [iv kk,.str s,iv n,iv li,iv co,w]) H' nx'):
  qo PG g args H nx λe H' nx'=>qj e (λv=>rK v H' nx') λl=>pK l H' nx':=
 qV (k:=λx=>Rs.ok x) hone (by rw [hrun];cases res<;>rfl) hk hr hK hb hp hz λt b kk s n li co w Γ' H' nx' h1 h2=>hok t b kk s n li co w Γ' H' nx' h1 (by cases h2;rfl)
theorem z0{s:List UInt8}{k:Nat->Rs (β×Nat)}{Cb:RC}{db:Nat}(W:kv C.l)(hrun:Ps.lift (Ps.need C.l a s) k=some res){Zc:Nat->Prop}(hk:HZ Zc Γ H nx)(hr:Rd Γ C a d)(hK:Owe Z K Γ0 n0 Γ nx Cb db res V)(hb:Cb.r=C.r)(hp:wu Z K Cb.r pK)(hz:∀b,Z b->Zc b)
  (hok:∀Γ' H' nx',Ps.is C.l a s=true->k (a+1)=some res->nx<=nx'->HZ Zc Γ' H' nx'->qU C.r nx Γ Γ'->Rd Γ' C (a+1) d->Owe Z K Γ0 n0 Γ' nx' Cb db res V->rK (wQ (Ps.tk C.l a)) H' nx'):
  qo PG zd [.ptr C.r 0,.str s] H nx λe H' nx'=>qj e (λv=>rK v H' nx') λl=>pK l H' nx':=by
 refine Ql W hk hr (λh H1 nx1 h1 hk1=>ql.2 ?_) λh Γ1 H1 nx1 h1 hk1 kp1 hr1=>qb.2 ?_
 ·refine hp.of (hK.from h1 (.refl _ _ _)) ?_ (hk1.less hz) (by rw [hb];exact hr.p)
  simp [Ps.need,h,Ps.lift]at hrun;exact hrun.symm
 ·exact hok _ _ _ h (by simpa [Ps.need,h,Ps.lift]using hrun) h1 hk1 kp1 hr1 (hK.from h1 (by rw [hb];exact kp1))
theorem jZ{k:Nat->Rs (β×Nat)}{Cb:RC}{db:Nat}(W:kv C.l)(hrun:Ps.lift (Ps.name C.l a) k=some res){Zc:Nat->Prop}(hk:HZ Zc Γ H nx)(hr:Rd Γ C a d)(hK:Owe Z K Γ0 n0 Γ nx Cb db res V)(hb:Cb.r=C.r)(hp:wu Z K Cb.r pK)(hz:∀b,Z b->Zc b)
  (hok:∀Γ' H' nx',(Ps.tk C.l a).kind=2->k (a+1)=some res->nx<=nx'->HZ Zc Γ' H' nx'->qU C.r nx Γ Γ'->Rd Γ' C (a+1) d->Owe Z K Γ0 n0 Γ' nx' Cb db res V->rK (wQ (Ps.tk C.l a)) H' nx'):
  qo PG jp [.ptr C.r 0] H nx λe H' nx'=>qj e (λv=>rK v H' nx') λl=>pK l H' nx':=by
 refine qo2 W hk hr (λh H1 nx1 h1 hk1=>ql.2 ?_) λh Γ1 H1 nx1 h1 hk1 kp1 hr1=>qb.2 ?_
 ·refine hp.of (hK.from h1 (.refl _ _ _)) ?_ (hk1.less hz) (by rw [hb];exact hr.p)
  have h':((Ps.tk C.l a).kind==2)=false:=by simp [h]
  simp [Ps.name,h,Ps.lift]at hrun;exact hrun.symm
 ·exact hok _ _ _ h (by simpa [Ps.name,h,Ps.lift]using hrun) h1 hk1 kp1 hr1 (hK.from h1 (by rw [hb];exact kp1))
theorem zi{s:List UInt8}{x y:Rs (β×Nat)}{Cb:RC}{db:Nat}(W:kv C.l)(hrun:(if Ps.is C.l a s=true then x else y)=some res){Zc:Nat->Prop}(hk:HZ Zc Γ H nx)(hr:Rd Γ C a d)(hK:Owe Z K Γ0 n0 Γ nx Cb db res V)(hb:Cb.r=C.r)(hz:∀b,Z b->Zc b)
  (hyes:∀Γ' H' nx',Ps.is C.l a s=true->x=some res->nx<=nx'->HZ Zc Γ' H' nx'->qU C.r nx Γ Γ'->Rd Γ' C (a+1) d->Owe Z K Γ0 n0 Γ' nx' Cb db res V->rK (.bool true) H' nx')
  (hno:∀H' nx',Ps.is C.l a s=false->y=some res->nx<=nx'->HZ Zc Γ H' nx'->Owe Z K Γ0 n0 Γ nx' Cb db res V->rK (.bool false) H' nx'):
  qo PG zb [.ptr C.r 0,.str s] H nx λe H' nx'=>qj e (λv=>rK v H' nx') λl=>pK l H' nx':=
 Kz W hk hr (λh H1 nx1 h1 hk1=>qb.2 (hno _ _ h (by simpa [h]using hrun) h1 hk1 (hK.from h1 (.refl _ _ _))))
  λh Γ1 H1 nx1 h1 hk1 kp1 hr1=>qb.2 (hyes _ _ _ h (by simpa [h]using hrun) h1 hk1 kp1 hr1 (hK.from h1 (by rw [hb];exact kp1)))
theorem Jr{K:qr}{Cb:RC}{kk n li co:Int}{s:List UInt8}{w:qa}{t:qu}{b d:Nat}{res:Except Flt (qu×Nat)}(hk:HZ Z Γ H nx)(hr:Rd Γ (Cb.add i) b d)(hi:Res Γ Cb i)(h0:Γ0 i=none/\n0<=i)(hrex:Cb.ex Cb.r)(hw:qZ w=true)
  (hn:zu (Cb.add i).ex Γ [iv kk,.str s,iv n,iv li,iv co,w] t) (e:res= .ok (t,b)) (hK:Owe Z K Γ0 n0 Γ nx Cb d res (zM Cb.ex)):
  ∃H1,stC H (.ptr i 0) [iv kk,.str s,iv n,iv li,iv co,w]=some H1/\∃(n1:Int) (s1:List UInt8) (x1 y1 z1:Int) (v1:qa),ldN H1 6 (.ptr i 0)=some (.agg [iv n1,.str s1,iv x1,iv y1,iv z1,v1])/\K (.ret (.agg [iv n1,.str s1,iv x1,iv y1,iv z1,v1])) H1 nx:=by
 obtain⟨cs,e0,hl⟩:=hi.e
 refine qv9 hk e0 hl hw λH1 h1=>(hK.upd h0.1 h0.2).ret e h1 ?_ ((hr.upd hi.nr hi.nt).less hrex)
 exact(hn.mono (λ_ h=> .inr h) λc ds hc e=>by rw [qn λx=>hc (.inl x)];exact e).v
theorem kl{k:qc->Prop}(hk:HZ Z Γ H nx)(hr:Rd Γ C a d)(hK:ja Z K Γ nx C d res V)
  (h:∀Γ' H',HZ Z Γ' H' (nx+1)->Rd Γ' (C.add nx) a d->Res Γ' C nx->(Γ nx=none/\nx<=nx)->Owe Z K Γ nx Γ' (nx+1) C d res V->qU C.r nx Γ Γ'->k H'):∃H0,H0=qC nx [iv 0,u5 [],iv 0,iv 0,iv 0,u9] H/\k H0:=by
 have hf:=hk.fresh (Nat.le_refl nx)
 refine Qe hk (nx':=nx+1) lR (by omega) λH0 h0=> ?_
 exact h _ _ h0 (hr.newAdd hf) ⟨⟨_,qk _ _ _,rfl⟩,hr.r_ne hf,hr.tb_ne hf⟩ ⟨hf,Nat.le_refl _⟩ (hK.owe.from (by omega) (.new hf)) (.new hf)
theorem vJ{k:qc->Prop}{t:Tok}{Cb:RC}{db:Nat}{Zc:Nat->Prop}(hk:HZ Zc Γ H nx)(hr:Rd Γ C a d)(hK:Owe Z K Γ0 n0 Γ nx Cb db res V)(hb:Cb.r=C.r)
  (h:∀Γ' H',HZ Zc Γ' H' (nx+1)->Rd Γ' C a d->At Γ' C.r nx (ky t)->qU C.r nx Γ Γ'->Owe Z K Γ0 n0 Γ' (nx+1) Cb db res V->k H'):
  ∃H0,H0=qC nx [iv 0,u5 [],iv 0,iv 0,iv 0] H/\∃H1,stC H0 (.ptr nx 0) [iv t.kind,.str t.text,iv t.n,iv t.line,iv t.col]=some H1/\k H1:=by
 have hf:=hk.fresh (Nat.le_refl nx)
 refine scr hk (nx':=nx+1) lR (by omega) rfl rfl λH1 h1=> ?_
 exact h _ _ h1 (hr.new hf) ⟨qk _ _ _,hr.r_ne hf⟩ (.new hf) (hK.from (by omega) (.new hf))
theorem kI{k:qc->Prop}{kk n li co:Int}{s:List UInt8}{w:qa}{Cb:RC}{db:Nat}{Zc:Nat->Prop}(hk:HZ Zc Γ H nx)(hr:Rd Γ C a d)(hw:qZ w=true)(hK:Owe Z K Γ0 n0 Γ nx Cb db res V)(hb:Cb.r=C.r)
  (h:∀Γ' H',HZ Zc Γ' H' (nx+1)->Rd Γ' C a d->At Γ' C.r nx [iv kk,.str s,iv n,iv li,iv co,w]->qU C.r nx Γ Γ'->Owe Z K Γ0 n0 Γ' (nx+1) Cb db res V->k H'):
  ∃H0,H0=qC nx [iv 0,u5 [],iv 0,iv 0,iv 0,u9] H/\∃H1,stC H0 (.ptr nx 0) [iv kk,.str s,iv n,iv li,iv co,w]=some H1/\k H1:=by
 have hf:=hk.fresh (Nat.le_refl nx)
 refine scr hk (nx':=nx+1) lR (by omega) rfl (by simp only [qt,hw];rfl) λH1 h1=> ?_
 exact h _ _ h1 (hr.new hf) ⟨qk _ _ _,hr.r_ne hf⟩ (.new hf) (hK.from (by omega) (.new hf))
theorem Jf{k:qc->Prop}{i nx':Nat}{cs:List qa}{Cb:RC}{db:Nat}{Zc:Nat->Prop}(hk:HZ Zc Γ H nx)(hi:nx<=i)(hi':i<nx')(hr:Rd Γ C a d)(hK:Owe Z K Γ0 n0 Γ nx Cb db res V)(hb:Cb.r=C.r)
  (h:∀Γ' H',HZ Zc Γ' H' nx'->Rd Γ' C a d->At Γ' C.r i cs->¬C.ex i->qU C.r nx Γ Γ'->Owe Z K Γ0 n0 Γ' nx' Cb db res V->k H'):
  ∃H0,H0=qC i cs H/\k H0:=by
 have hf:=hk.fresh hi
 refine Qe hk hi hi' λH1 h1=> ?_
 exact h _ _ h1 (hr.new hf) ⟨qk _ _ _,hr.r_ne hf⟩ (hr.notex hf) (.new hf) (hK.from (by omega) (.new hf))
def rz(Z:Nat->Prop)(i:Nat):Nat->Prop:=λb=>b=i\/Z b
theorem wI{Z:Nat->Prop}{i:Nat}:∀b,Z b->rz Z i b:=λ_ h=> .inr h
theorem jv{i nx':Nat}(hk:HZ Z Γ H nx)(hi:nx<=i)(hi':i<nx'):HZ (rz Z i) Γ H nx'/\¬Z i:=
 ⟨hk.res (λb h=>h.elim (λe=> .inr ⟨by omega,by omega⟩) .inl) (by omega),λh=>by have:=hk.1 i h;omega⟩
theorem Owe.from'{Γ1:GH}{nx1 m:Nat}(h:Owe Z K Γ0 n0 Γ nx C d res V)(hn:nx<=nx1)(hk:qU C.r m Γ Γ1)(hm:n0<=m):Owe Z K Γ0 n0 Γ1 nx1 C d res V:=let⟨h1,h2,h3⟩:=h;⟨h1,h2.trans hk,by omega⟩
theorem jy{k:qc->Prop}{i:Nat}{cs:List qa}{Cb:RC}{db:Nat}(hk:HZ (rz Z i) Γ H nx)(hni:¬Z i)(hr:Rd Γ C a d)(hK:Owe Z K Γ0 n0 Γ nx Cb db res V)(hb:Cb.r=C.r)(h0:n0<=i)
  (h:∀Γ' H',HZ Z Γ' H' nx->Rd Γ' C a d->At Γ' C.r i cs->¬C.ex i->qU C.r i Γ Γ'->Owe Z K Γ0 n0 Γ' nx Cb db res V->k H'):
  ∃H0,H0=qC i cs H/\k H0:=by
 have hf:=hk.free (.inl rfl)
 exact⟨_,rfl,h _ _ (hk.take (.inl rfl) (λb hb=>⟨.inr hb,λe=>hni (by rw [<-e];exact hb)⟩) cs) (hr.new hf) ⟨qk _ _ _,hr.r_ne hf⟩ (hr.notex hf) (.new hf) (hK.from' lR (.new hf) h0)⟩
theorem Kq{g:FuncId}{n:Nat}{one:Nat->Rs (qu×Nat)}{k:List qu×Nat->Rs (β×Nat)}{Cb:RC}{db:Nat}(W:kv C.l)(hadv:Ps.AdvOK one)(hg:zR PG (.func (.func g) [.ptr C.r 0] []) []=some (g,[.ptr C.r 0]))
  (hone:kt C.l C.r C.tb d g one) (hrun:Rs.bind (Ps.list C.l one n a) k=some res) {Zc:Nat->Prop} (hk:HZ Zc Γ H nx) (hr:Rd Γ C a d) (hK:Owe Z K Γ0 n0 Γ nx Cb db res V) (hb:Cb.r=C.r) (hp:wu Z K Cb.r pK) (hz:∀b,Z b->Zc b)
  (hok:∀ts b v Γ' H' nx',k (ts,b)=some res->nx<=nx'->HZ Zc Γ' H' nx'->qU C.r nx Γ Γ'->zC C.ex Γ' v ts->Rd Γ' C b d->Owe Z K Γ0 n0 Γ' nx' Cb db res V->rK v H' nx'):
  qo PG wV [.ptr C.r 0,.func (.func g) [.ptr C.r 0] []] H nx λe H' nx'=>qj e (λv=>rK v H' nx') λl=>pK l H' nx':=by
 rcases Ps.bind_some hrun with⟨f,e1,e2⟩|⟨⟨t,b⟩,e1,e2⟩
 ·refine qgv W hadv hg hone e1 hk hr (.on (λx b v Γ' H' nx' e=>by cases e) λf' Γ' H' nx' e g1 g2 g3 g4=> ?_)
  cases e
  rw [<-hb]at g3 g4;exact hp.of (hK.from g1 g3) e2 (g2.less hz) g4
 ·refine qgv W hadv hg hone e1 hk hr (.on (λx b' v Γ' H' nx' e g1 g2 g3 g4 g5=> ?_) λf' Γ' H' nx' e=>by cases e)
  cases e
  exact hok _ _ _ _ _ _ e2 g1 g2 g3 g4 g5 (hK.from g1 (by rw [hb];exact g3))
theorem z8{t:Tok}{kk:Int}{s:List UInt8}{v:qa}{ts:List qu}{Cb:RC}{db:Nat}{Zc:Nat->Prop}(hk:HZ Zc Γ H nx)(hv:zC C.ex Γ v ts)(hK:Owe Z K Γ0 n0 Γ nx Cb db res V)
  (hok:∀H' nx',nx<=nx'->HZ Zc Γ H' nx'->zu C.ex Γ [iv kk,.str s,iv 0,iv t.line,iv t.col,v] (Ps.mk t kk s ts)->qZ v=true->Owe Z K Γ0 n0 Γ nx' Cb db res V->rK (.agg [iv kk,.str s,iv 0,iv t.line,iv t.col,v]) H' nx'):
  qo PG qH [wQ t,iv kk,.str s,v] H nx λe H' nx'=>qj e (λv=>rK v H' nx') λl=>pK l H' nx':=
 qh6 hv.cell hk λH1 nx1 h1 hk1=>qb.2 (hok _ _ h1 hk1 (by obtain⟨c,e,h⟩:=hv.node (k:=kk) (n:=0) (line:=t.line) (col:=t.col) (s:=s);cases e;exact h) hv.cell (hK.from h1 (.refl _ _ _)))
theorem v2{Cb:RC}{db:Nat}{Zc:Nat->Prop}(hk:HZ Zc Γ H nx)(hK:Owe Z K Γ0 n0 Γ nx Cb db res V)
  (hok:∀H' nx',nx<=nx'->HZ Zc Γ H' nx'->zu C.ex Γ [iv 38,.str [],iv 0,iv 0,iv 0,.nilSlice] Ps.none_->Owe Z K Γ0 n0 Γ nx' Cb db res V->rK (.agg [iv 38,.str [],iv 0,iv 0,iv 0,.nilSlice]) H' nx'):
  qo PG vu [] H nx λe H' nx'=>qj e (λv=>rK v H' nx') λl=>pK l H' nx':=
 qri hk λH1 nx1 h1 hk1=>qb.2 (hok _ _ h1 hk1 (.mk [] (.inl ⟨rfl,rfl,rfl⟩) .nil) (hK.from h1 (.refl _ _ _)))
theorem kZ{Cb:RC}{db:Nat}{Zc:Nat->Prop}(hk:HZ Zc Γ H nx)(hr:Rd Γ C a d)(hK:Owe Z K Γ0 n0 Γ nx Cb db res V)
  (hok:∀H' nx',nx<=nx'->HZ Zc Γ H' nx'->Owe Z K Γ0 n0 Γ nx' Cb db res V->rK (wQ (Ps.tk C.l a)) H' nx'):
  qo PG zZ [.ptr C.r 0] H nx λe H' nx'=>qj e (λv=>rK v H' nx') λl=>pK l H' nx':=
 Js hk hr λH1 nx1 h1 hk1=>qb.2 (hok _ _ h1 hk1 (hK.from h1 (.refl _ _ _)))
theorem kJ{s:List UInt8}{Cb:RC}{db:Nat}{Zc:Nat->Prop}(hk:HZ Zc Γ H nx)(hr:Rd Γ C a d)(hK:Owe Z K Γ0 n0 Γ nx Cb db res V)
  (hok:∀H' nx',nx<=nx'->HZ Zc Γ H' nx'->Owe Z K Γ0 n0 Γ nx' Cb db res V->rK (.bool (Ps.is C.l a s)) H' nx'):
  qo PG jn [.ptr C.r 0,.str s] H nx λe H' nx'=>qj e (λv=>rK v H' nx') λl=>pK l H' nx':=
 qcr hk hr λH1 nx1 h1 hk1=>qb.2 (hok _ _ h1 hk1 (hK.from h1 (.refl _ _ _)))
end
structure IH(l:List Tok)(r tb n:Nat):Prop where
 typ:∀d,d<=40->kt l r tb d jM (Ps.run l n .typ d)
 field:∀d,d<=40->kt l r tb d ye (Ps.run l n .field d)
 method:∀d,d<=40->kt l r tb d ww (Ps.run l n .method d)
 param:∀d,d<=40->kt l r tb d yo (Ps.run l n .param d)
 stmt:∀d,d<=40->kt l r tb d Qi (Ps.run l n .stmt d)
 ifs:∀d,d<=40->kt l r tb d Q7 (Ps.run l n .ifs d)
 block:∀d,d<=40->kt l r tb d jO (Ps.run l n .block d)
 expr:∀d,d<=40->kt l r tb d jj (Ps.run l n .expr d)
 unary:∀d,d<=40->kt l r tb d vB (Ps.run l n .unary d)
 post:∀d,d<=40->kt l r tb d kF (Ps.run l n .post d)
 prime:∀d,d<=40->kt l r tb d QH (Ps.run l n .prime d)
 binary:∀(k:Nat) d,d<=40->∀Z ex a res Γ H nx K,Ps.run l n (.binary k) d a=some res->HZ Z Γ H nx->Rd Γ ⟨r,tb,l,ex⟩ a d->ja Z K Γ nx ⟨r,tb,l,ex⟩ d res (zM ex)->qo PG jb [.ptr r 0,iv k] H nx K
theorem Jz{l:List Tok}{n d:Nat}{rule:Ps.Rule}(h:Ps.adv rule=1):Ps.AdvOK (Ps.run l n rule d):=λa t b e=>by have:=Ps.run_adv l n rule d a t b e;omega
section
variable{Γ:GH}{H:qc}{nx a d n:Nat}{C:RC}{K:qr}{res:Except Flt (qu×Nat)}
theorem qkx{r:Nat}:zR PG (.func (.func jM) [.ptr r 0] []) []=some (jM,[.ptr r 0]):=by kernel_rfl
theorem VR{r:Nat}:zR PG (.func (.func jj) [.ptr r 0] []) []=some (jj,[.ptr r 0]):=by kernel_rfl
theorem qqd{r:Nat}:zR PG (.func (.func Qi) [.ptr r 0] []) []=some (Qi,[.ptr r 0]):=by kernel_rfl
theorem qmw{r:Nat}:zR PG (.func (.func ye) [.ptr r 0] []) []=some (ye,[.ptr r 0]):=by kernel_rfl
theorem qhu{r:Nat}:zR PG (.func (.func ww) [.ptr r 0] []) []=some (ww,[.ptr r 0]):=by kernel_rfl
theorem qdk{r:Nat}:zR PG (.func (.func yo) [.ptr r 0] []) []=some (yo,[.ptr r 0]):=by kernel_rfl
theorem qmh(W:kv C.l)(ih:IH C.l C.r C.tb n)(hd:d<=40)(hrun:Ps.run C.l (n+1) .block d a=some res)(hk:HZ Z Γ H nx)(hr:Rd Γ C a d)(hK:ja Z K Γ nx C d res (zM C.ex)):qo PG jO [.ptr C.r 0] H nx K:=by
 refine qo.of_body qp ?_
 rw [qa2];simp only [Ps.run]at hrun
 refine kl hk hr hK λΓ1 H1 hk1 hr1 hi1 hf hK1 kp1=>kZ (C:=C.add nx) hk1 hr1 hK1 λH2 nx2 h2 hk2 hK2=>⟨_,_,_,_,_,rfl,?_⟩
 refine vJ (C:=C.add nx) hk2 hr1 hK2 rfl λΓ3 H3 hk3 hr3 ht3 kp3 hK3=> ?_
 refine⟨_,_,_,_,_,ht3.tok hk3,⟨⟨_,_,_,_,_,ht3.tok hk3,rfl⟩,trivial⟩,?_⟩
 refine Kq (C:=C.add nx) W (Jz rfl) qqd (ih.stmt d hd) hrun (hk3.more (by omega)) hr3 (hK3.from (by omega) (.refl _ _ _)) rfl .id (λ_ h=>h) λts b v Γ4 H4 nx4 e4 h4 hk4 kp4 hv hr4 hK4=> ?_
 have ht4:=ht3.keep kp4
 refine⟨⟨⟨_,_,_,_,_,ht4.tok hk4,rfl⟩,trivial⟩,z8 hk4 hv hK4 λH5 nx5 h5 hk5 hn hw hK5=>⟨_,_,_,_,_,_,rfl,trivial,?_⟩⟩
 cases e4
 have:=Jr hk5 hr4 (hi1.keep (kp3.trans kp4)) hf hr.rex hw hn rfl hK5
 obtain⟨H6,e6,e7⟩:=this
 exact⟨H6,e6,trivial,e7⟩
theorem qi5{n:Nat}(ih:IH C.l C.r C.tb n)(hd:d<=40)(hrun:Ps.run C.l n .ifs d a=some res)(hk:HZ Z Γ H nx)(hr:Rd Γ C a d)(hK:ja Z K Γ nx C d res (zM C.ex)):qo PG Q5 [.ptr C.r 0] H nx K:=by
 refine qo.of_body qp ?_
 rw [XT];refine kl hk hr hK λΓ1 H1 hk1 hr1 hi1 hf hK1 kp1=> ?_
 refine vf (C:=C.add nx) (λZ ex res Γ H nx K h=>ih.ifs d hd Z ex a res Γ H nx K h) hrun hk1 hr1 hK1 rfl .id (λ_ h=>h) λt b kk s n li co w Γ2 H2 nx2 e1 e2 h2 hk2 kp2 hw hn hr2 hK2=>⟨_,_,_,_,_,_,rfl,?_⟩
 exact Jr hk2 hr2 (hi1.keep kp2) hf hr.rex hw hn e2 hK2
theorem qk9(W:kv C.l)(ih:IH C.l C.r C.tb n)(hd:d<=40)(hrun:Ps.run C.l (n+1) .field d a=some res)(hk:HZ Z Γ H nx)(hr:Rd Γ C a d)(hK:ja Z K Γ nx C d res (zM C.ex)):qo PG ye [.ptr C.r 0] H nx K:=by
 refine qo.of_body qp ?_
 rw [qao];simp only [Ps.run]at hrun
 refine kl hk hr hK λΓ1 H1 hk1 hr1 hi1 hf hK1 kp1=> ?_
 refine jZ (C:=C.add nx) W hrun hk1 hr1 hK1 rfl .id (λ_ h=>h) λΓ2 H2 nx2 hkd e2 h2 hk2 kp2 hr2 hK2=>⟨_,_,_,_,_,rfl,?_⟩
 refine vJ (C:=C.add nx) hk2 hr2 hK2 rfl λΓ3 H3 hk3 hr3 ht3 kp3 hK3=> ?_
 refine⟨_,_,_,_,_,ht3.tok hk3,_,rfl,_,ht3.ld hk3 1,⟨⟨_,_,_,_,_,ht3.tok hk3,rfl⟩,⟨_,ht3.ld hk3 1,rfl⟩,trivial⟩,?_⟩
 obtain⟨hk3',hni⟩:=jv (i:=nx2+1+5) (nx':=nx2+1+8) hk3 (by omega) (by omega)
 refine qV (C:=C.add nx) (λZ ex res Γ H nx K h=>ih.typ d hd Z ex (a+1) res Γ H nx K h) e2 hk3' hr3 (hK3.from (by omega) (.refl _ _ _)) rfl .id wI λt b kk s n li co w Γ4 H4 nx4 e3 e4 h4 hk4 kp4 hw hn hr4 hK4=>⟨_,_,_,_,_,_,rfl,?_⟩
 refine jy (C:=C.add nx) hk4 hni hr4 hK4 rfl (by omega) λΓ5 H5 hk5 hr5 hb5 hx5 kp5 hK5=> ?_
 have ht5:=(ht3.keep kp4).keep kp5
 refine⟨⟨⟨_,_,_,_,_,ht5.tok hk5,rfl⟩,⟨_,ht5.ld hk5 1,rfl⟩,trivial⟩,?_⟩
 refine z8 (C:=C.add nx) hk5 (.blk hx5 hb5.e (hn.keep hr5.rex kp5).one rfl) hK5 λH6 nx6 h6 hk6 hn6 hw6 hK6=>⟨_,_,_,_,_,_,rfl,trivial,?_⟩
 cases e4
 obtain⟨H7,e6,e7⟩:=Jr hk6 hr5 ((((hi1.keep kp2).keep kp3).keep kp4).keep kp5) hf hr.rex hw6 hn6 rfl hK6
 exact⟨H7,e6,trivial,e7⟩
theorem qmm(W:kv C.l)(ih:IH C.l C.r C.tb n)(hd:d<=40)(hrun:Ps.run C.l (n+1) .param d a=some res)(hk:HZ Z Γ H nx)(hr:Rd Γ C a d)(hK:ja Z K Γ nx C d res (zM C.ex)):qo PG yo [.ptr C.r 0] H nx K:=by
 refine qo.of_body qp ?_
 rw [Y9];simp only [Ps.run]at hrun
 refine kl hk hr hK λΓ1 H1 hk1 hr1 hi1 hf hK1 kp1=> ?_
 refine jZ (C:=C.add nx) W hrun hk1 hr1 hK1 rfl .id (λ_ h=>h) λΓ2 H2 nx2 hkd e2 h2 hk2 kp2 hr2 hK2=>⟨_,_,_,_,_,rfl,?_⟩
 refine vJ (C:=C.add nx) hk2 hr2 hK2 rfl λΓ3 H3 hk3 hr3 ht3 kp3 hK3=> ?_
 refine⟨_,_,_,_,_,ht3.tok hk3,_,rfl,_,ht3.ld hk3 1,⟨⟨_,_,_,_,_,ht3.tok hk3,rfl⟩,⟨_,ht3.ld hk3 1,rfl⟩,trivial⟩,?_⟩
 obtain⟨hk3',hni⟩:=jv (i:=nx2+1+5) (nx':=nx2+1+8) hk3 (by omega) (by omega)
 refine qV (C:=C.add nx) (λZ ex res Γ H nx K h=>ih.typ d hd Z ex (a+1) res Γ H nx K h) e2 hk3' hr3 (hK3.from (by omega) (.refl _ _ _)) rfl .id wI λt b kk s n li co w Γ4 H4 nx4 e3 e4 h4 hk4 kp4 hw hn hr4 hK4=>⟨_,_,_,_,_,_,rfl,?_⟩
 refine jy (C:=C.add nx) hk4 hni hr4 hK4 rfl (by omega) λΓ5 H5 hk5 hr5 hb5 hx5 kp5 hK5=> ?_
 have ht5:=(ht3.keep kp4).keep kp5
 refine⟨⟨⟨_,_,_,_,_,ht5.tok hk5,rfl⟩,⟨_,ht5.ld hk5 1,rfl⟩,trivial⟩,?_⟩
 refine z8 (C:=C.add nx) hk5 (.blk hx5 hb5.e (hn.keep hr5.rex kp5).one rfl) hK5 λH6 nx6 h6 hk6 hn6 hw6 hK6=>⟨_,_,_,_,_,_,rfl,trivial,?_⟩
 cases e4
 obtain⟨H7,e6,e7⟩:=Jr hk6 hr5 ((((hi1.keep kp2).keep kp3).keep kp4).keep kp5) hf hr.rex hw6 hn6 rfl hK6
 exact⟨H7,e6,trivial,e7⟩
end
theorem jE{b:Bool}{p q:Prop}(h:b=false)(hq:q):ifB b p q:=by rw [h];exact hq
theorem jD{b:Bool}{p q:Prop}(h:b=true)(hq:p):ifB b p q:=by rw [h];exact hq
theorem qgo{α:Type}{p q:Bool}{x y:α}:(if(p||q)=true then x else y)=(if p=true then x else if q=true then x else y):=by cases p<;>cases q<;>rfl
theorem qdm{α:Type}{l:List Tok}{a:Nat}{x y:α}:(if Ps.isTyp l a=true then x else y)=(if Ps.is l a Ps.wInt=true then x else if Ps.is l a Ps.wBool=true then x else if Ps.is l a Ps.wString=true then x else y):=by
 unfold Ps.isTyp;rw [qgo];cases h:Ps.is l a Ps.wInt<;>cases h2:Ps.is l a Ps.wBool<;>simp [h,h2]
section
variable{Γ0 Γ:GH}{n0:Nat}{H:qc}{nx a d n i:Nat}{C:RC}{K:qr}{res:Except Flt (qu×Nat)}
theorem Kh{Cb:RC}{kk nn li co:Int}{s:List UInt8}{w:qa}{t:qu}{b d:Nat}(hk:HZ Z Γ H nx)(hr:Rd Γ (Cb.add i) b (d+1))(hi:Res Γ Cb i)(h0:Γ0 i=none/\n0<=i)(hrex:Cb.ex Cb.r)(hw:qZ w=true)
  (hn:zu (Cb.add i).ex Γ [iv kk,.str s,iv nn,iv li,iv co,w] t) (e:res= .ok (t,b)) (hK:Owe Z K Γ0 n0 Γ nx Cb d res (zM Cb.ex)):
  ∃H1,stC H (.ptr i 0) [iv kk,.str s,iv nn,iv li,iv co,w]=some H1/\ze PG (qM PG) [.cell (.ptr i 0) qJ] [(jB,[.ptr Cb.r 0])] .returning H1 nx λe H' nx'=>K e H' nx':=by
 obtain⟨cs,e0,hl⟩:=hi.e
 refine jS hk e0 (by simp [hl]) (by simp only [qt,hw];rfl) λH1 h1=> ?_
 refine qty (C:=Cb) (a:=b) (d:=d) h1 ((hr.upd hi.nr hi.nt).less hrex) (qk _ _ _) hi.nr λΓ2 H2 h2 k2 hr2=> ?_
 have hn1:zu Cb.ex (gup i (some [iv kk,.str s,iv nn,iv li,iv co,w]) Γ) [iv kk,.str s,iv nn,iv li,iv co,w] t:=hn.mono (λ_ h=> .inr h) λc ds hc e=>by rw [qn λx=>hc (.inl x)];exact e
 exact((hK.upd h0.1 h0.2).from lR k2).ret e h2 (hn1.keep hrex k2).v hr2
theorem qn3{s:List UInt8}(W:kv C.l)(ih:IH C.l C.r C.tb n)(hd:d<=40)(hrun:(if Ps.is C.l a s=true then Ps.run C.l n .expr d (a+1)else Rs.ok (Ps.none_,a))=some res)(hk:HZ Z Γ H nx)(hr:Rd Γ C a d)(hK:ja Z K Γ nx C d res (zM C.ex)):
  qo PG Jw [.ptr C.r 0,.str s] H nx K:=by
 refine qo.of_body qp ?_
 rw [Y7];refine kl hk hr hK λΓ1 H1 hk1 hr1 hi1 hf hK1 kp1=> ?_
 refine zi (C:=C.add nx) W hrun hk1 hr1 hK1 rfl (λ_ h=>h) (λΓ2 H2 nx2 his e2 h2 hk2 kp2 hr2 hK2=>⟨_,rfl,jE rfl ?_⟩) (λH2 nx2 his e2 h2 hk2 hK2=>⟨_,rfl,jD rfl ?_⟩)
 ·refine vf (C:=C.add nx) (λZ ex res Γ H nx K h=>ih.expr d hd Z ex (a+1) res Γ H nx K h) e2 hk2 hr2 hK2 rfl .id (λ_ h=>h) λt b kk s n li co w Γ3 H3 nx3 e3 e4 h3 hk3 kp3 hw hn hr3 hK3=>⟨_,_,_,_,_,_,rfl,?_⟩
  exact Jr hk3 hr3 ((hi1.keep kp2).keep kp3) hf hr.rex hw hn e4 hK3
 ·refine v2 (C:=C.add nx) hk2 hK2 λH3 nx3 h3 hk3 hn hK3=>⟨_,_,_,_,_,_,rfl,?_⟩
  cases e2
  exact Jr hk3 hr1 hi1 hf hr.rex rfl hn rfl hK3
theorem qpm(W:kv C.l)(ih:IH C.l C.r C.tb n)(hd:d<=40)(hrun:Ps.run C.l (n+1) .expr d a=some res)(hk:HZ Z Γ H nx)(hr:Rd Γ C a d)(hK:ja Z K Γ nx C d res (zM C.ex)):qo PG jj [.ptr C.r 0] H nx K:=by
 refine qo.of_body qp ?_
 rw [qdw];simp only [Ps.run]at hrun
 refine kl hk hr hK λΓ1 H1 hk1 hr1 hi1 hf hK1 kp1=> ?_
 refine Xs (C:=C.add nx) hk1 hr1 hd (λh Γ2 H2 nx2 h2 hk2 kp2 hr2=>ql.2 ?_) (λh Γ2 H2 nx2 h2 hk2 kp2 hr2=>qb.2 ?_)
 ·rw [if_pos h]at hrun;cases hrun
  exact(hK1.from h2 kp2).pan rfl hk2 hr2.p
 ·rw [if_neg h]at hrun;refine vf (C:=C.add nx) (λZ ex res Γ H nx K h=>ih.binary 1 (d+1) (by omega) Z ex a res Γ H nx K h) hrun hk2 hr2 (hK1.from h2 kp2) rfl .lv (λ_ h=>h) λt b kk s n li co w Γ3 H3 nx3 e3 e4 h3 hk3 kp3 hw hn hr3 hK3=>⟨_,_,_,_,_,_,rfl,?_⟩
  exact Kh hk3 hr3 ((hi1.keep kp2).keep kp3) hf hr.rex hw hn e4 hK3
theorem Vb(W:kv C.l)(ih:IH C.l C.r C.tb n)(hd:d<=40)(hrun:(if((Ps.tk C.l a).kind==2||Ps.isTyp C.l a||Ps.is C.l a [91])=true then Ps.run C.l n .typ d a else Rs.ok (Ps.none_,a))=some res)
  (hk:HZ Z Γ H nx) (hr:Rd Γ C a d) (hK:ja Z K Γ nx C d res (zM C.ex)):qo PG wA [.ptr C.r 0] H nx K:=by
 refine qo.of_body qp ?_
 rw [XR];refine kl hk hr hK λΓ1 H1 hk1 hr1 hi1 hf hK1 kp1=> ?_
 refine kZ (C:=C.add nx) hk1 hr1 hK1 λH2 nx2 h2 hk2 hK2=>⟨_,_,_,_,_,rfl,?_⟩
 refine vJ (C:=C.add nx) hk2 hr1 hK2 rfl λΓ3 H3 hk3 hr3 ht3 kp3 hK3=> ?_
 refine⟨_,rfl,_,ht3.ld hk3 0,?_⟩
 have last:∀{H5 nx5},nx2+1<=nx5->HZ Z Γ3 H5 nx5->Ps.run C.l n .typ d a=some res->Owe Z K Γ nx Γ3 nx5 C d res (zM C.ex)->qo PG jM [.ptr C.r 0] H5 nx5 λe14 H15 i16=>qj e14 (λv17=>∃(n18:Int) (s19:List UInt8) (n20 n21 n22:Int) (v23:qa),v17=u6 [iv n18,u5 s19,iv n20,iv n21,iv n22,v23]/\∃H24,stC H15 (u0 nx 0) [iv n18,u5 s19,iv n20,
   iv n21,iv n22,v23]=some H24/\∃(n25:Int) (s26:List UInt8) (n27 n28 n29:Int) (v30:qa),ldN H24 6 (u0 nx 0)=some (u6 [iv n25,u5 s26,iv n27,iv n28,iv n29,v30])/\K (U3 (u6
   [iv n25,u5 s26,iv n27,iv n28,iv n29,v30])) H24 i16) λl31=>K (U2 l31) H15 i16:=λh5 hk5 e5 hK5=>by
  refine vf (C:=C.add nx) (λZ ex res Γ H nx K h=>ih.typ d hd Z ex a res Γ H nx K h) e5 hk5 hr3 hK5 rfl .id (λ_ h=>h) λt b kk s n li co w Γ6 H6 nx6 e3 e4 h6 hk6 kp6 hw hn hr6 hK6=>⟨_,_,_,_,_,_,rfl,?_⟩
  exact Jr hk6 hr6 ((hi1.keep kp3).keep kp6) hf hr.rex hw hn e4 hK6
 refine qf.2 ⟨λh=> ?_,λh=> ?_⟩
 ·have h:(Ps.tk C.l a).kind=2:=by simpa using h
  exact last lR hk3 (by simpa [h]using hrun) hK3
 ·have h:((Ps.tk C.l a).kind==2)=false:=by simpa using h
  rw [h,Bool.false_or,qgo,qdm]at hrun;refine kJ (C:=C.add nx) (s:=Ps.wInt) hk3 hr3 hK3 λH4 nx4 h4 hk4 hK4=>⟨_,rfl,qf.2 ⟨λh1=> ?_,λh1=> ?_⟩⟩
  ·exact last h4 hk4 (by rw [show Ps.is C.l a Ps.wInt=true from h1]at hrun;simpa using hrun) hK4
  rw [show Ps.is C.l a Ps.wInt=false from h1]at hrun;refine kJ (C:=C.add nx) (s:=Ps.wBool) hk4 hr3 hK4 λH5 nx5 h5 hk5 hK5=>⟨_,rfl,qf.2 ⟨λh2=> ?_,λh2=> ?_⟩⟩
  ·exact last (by omega) hk5 (by rw [show Ps.is C.l a Ps.wBool=true from h2]at hrun;simpa using hrun) hK5
  rw [show Ps.is C.l a Ps.wBool=false from h2]at hrun;refine kJ (C:=C.add nx) (s:=Ps.wString) hk5 hr3 hK5 λH6 nx6 h6 hk6 hK6=>⟨_,rfl,qf.2 ⟨λh3=> ?_,λh3=> ?_⟩⟩
  ·exact last (by omega) hk6 (by rw [show Ps.is C.l a Ps.wString=true from h3]at hrun;simpa using hrun) hK6
  rw [show Ps.is C.l a Ps.wString=false from h3]at hrun;refine kJ (C:=C.add nx) (s:=[91]) hk6 hr3 hK6 λH7 nx7 h7 hk7 hK7=>⟨_,rfl,qf.2 ⟨λh4=> ?_,λh4=> ?_⟩⟩
  ·exact last (by omega) hk7 (by rw [show Ps.is C.l a [91]=true from h4]at hrun;simpa using hrun) hK7
  rw [show Ps.is C.l a [91]=false from h4]at hrun;refine v2 (C:=C.add nx) hk7 hK7 λH8 nx8 h8 hk8 hn hK8=>⟨_,_,_,_,_,_,rfl,?_⟩
  have e:res= .ok (Ps.none_,a):=by simp [Rs.ok]at hrun;exact hrun.symm
  exact Jr hk8 hr3 (hi1.keep kp3) hf hr.rex rfl hn e hK8
theorem qtl(W:kv C.l)(ih:IH C.l C.r C.tb n)(hd:d<=40)(hrun:Ps.run C.l (n+1) .typ d a=some res)(hk:HZ Z Γ H nx)(hr:Rd Γ C a d)(hK:ja Z K Γ nx C d res (zM C.ex)):qo PG jM [.ptr C.r 0] H nx K:=by
 refine qo.of_body qp ?_
 rw [qfv];simp only [Ps.run,qdm]at hrun
 refine kl hk hr hK λΓ1 H1 hk1 hr1 hi1 hf hK1 kp1=> ?_
 refine Xs (C:=C.add nx) hk1 hr1 hd (λh Γ2 H2 nx2 h2 hk2 kp2 hr2=>ql.2 ?_) (λh Γ2 H2 nx2 h2 hk2 kp2 hr2=>qb.2 ?_)
 ·rw [if_pos h]at hrun;cases hrun
  exact(hK1.from h2 kp2).pan rfl hk2 hr2.p
 rw [if_neg h]at hrun;refine kZ (C:=C.add nx) hk2 hr2 (hK1.from h2 kp2) λH3 nx3 h3 hk3 hK3=>⟨_,_,_,_,_,rfl,?_⟩
 refine vJ (C:=C.add nx) hk3 hr2 hK3 rfl λΓ4 H4 hk4 hr4 ht4 kp4 hK4=> ?_
 have hi4:=(hi1.keep kp2).keep kp4
 refine zi (C:=C.add nx) W hrun hk4 hr4 hK4 rfl (λ_ h=>h) (λΓ5 H5 nx5 his e5 h5 hk5 kp5 hr5 hK5=>⟨_,rfl,jD rfl ?_⟩) (λH5 nx5 his e5 h5 hk5 hK5=>⟨_,rfl,jE rfl ?_⟩)
 ·refine z0 (C:=C.add nx) W e5 hk5 hr5 hK5 rfl .lv (λ_ h=>h) λΓ6 H6 nx6 his6 e6 h6 hk6 kp6 hr6 hK6=>⟨_,_,_,_,_,rfl,?_⟩
  have ht6:=(ht4.keep kp5).keep kp6
  refine⟨_,_,_,_,_,ht6.tok hk6,⟨⟨_,_,_,_,_,ht6.tok hk6,rfl⟩,trivial⟩,?_⟩
  obtain⟨hk6',hni⟩:=jv (i:=nx6+3) (nx':=nx6+6) hk6 (by omega) (by omega)
  refine qV (C:=C.add nx) (λZ ex res Γ H nx K h=>ih.typ (d+1) (by omega) Z ex _ res Γ H nx K h) e6 hk6' hr6 (hK6.from (by omega) (.refl _ _ _)) rfl .lv wI λt b kk s n li co w Γ7 H7 nx7 e7 e8 h7 hk7 kp7 hw hn hr7 hK7=>⟨_,_,_,_,_,_,rfl,?_⟩
  refine jy (C:=C.add nx) hk7 hni hr7 hK7 rfl (by omega) λΓ8 H8 hk8 hr8 hb8 hx8 kp8 hK8=> ?_
  have ht8:=(ht6.keep kp7).keep kp8
  refine⟨⟨⟨_,_,_,_,_,ht8.tok hk8,rfl⟩,trivial⟩,?_⟩
  refine z8 (C:=C.add nx) hk8 (.blk hx8 hb8.e (hn.keep hr8.rex kp8).one rfl) hK8 λH9 nx9 h9 hk9 hn9 hw9 hK9=>⟨_,_,_,_,_,_,rfl,trivial,?_⟩
  cases e8
  obtain⟨H10,q1,q2⟩:=Kh hk9 hr8 ((((hi4.keep kp5).keep kp6).keep kp7).keep kp8) hf hr.rex hw9 hn9 rfl hK9
  exact⟨H10,q1,trivial,q2⟩
 have fin:∀{Γ6 H6 nx6},nx3+1<=nx6->HZ Z Γ6 H6 nx6->Rd Γ6 (C.add nx) (a+1) (d+1)->At Γ6 C.r nx3 (ky (Ps.tk C.l a))->Res Γ6 C nx->Owe Z K Γ nx Γ6 nx6 C d res (zM C.ex)->res= .ok (Ps.leaf (Ps.tk C.l a) 8 (Ps.tk C.l a).text,a+1)->
   qo PG qH [wQ (Ps.tk C.l a),iv 8,u5 (Ps.tk C.l a).text,u9] H6 nx6 λe94 H95 i96=>qj e94 (λv97=>∃(n98:Int) (s99:List UInt8) (n100 n101 n102:Int) (v103:qa),v97=u6 [iv n98,u5 s99,iv
    n100,iv n101,iv n102,v103]/\∃H104,stC H95 (u0 nx 0) [iv n98,u5 s99,iv n100,iv n101,iv n102,v103]=some H104/\ze PG (qM PG) [zq.cell (u0 nx 0) qJ] [(jB,
    [u0 C.r 0])] qw.returning H104 i96 λe105 H106 i107=>K e105 H106 i107) λl108=>ze PG (qM PG) [zq.cell (u0 nx 0) qJ] [(jB,[u0 C.r 0])] (qw.panicking l108) H95
    i96 λe109 H110 i111=>K e109 H110 i111:=λh6 hk6 hr6 ht6 hi6 hK6 e6=>by
  refine z8 (C:=C.add nx) hk6 .nil hK6 λH9 nx9 h9 hk9 hn9 hw9 hK9=>⟨_,_,_,_,_,_,rfl,?_⟩
  exact Kh hk9 hr6 hi6 hf hr.rex hw9 hn9 e6 hK9
 refine zi (C:=C.add nx) W e5 hk5 hr4 hK5 rfl (λ_ h=>h) (λΓ6 H6 nx6 his e6 h6 hk6 kp6 hr6 hK6=>⟨_,rfl,jD rfl ?_⟩) (λH6 nx6 his e6 h6 hk6 hK6=>⟨_,rfl,jE rfl ?_⟩)
 ·have ht6:=ht4.keep kp6
  cases e6
  exact⟨_,_,_,_,_,ht6.tok hk6,_,rfl,_,ht6.ld hk6 1,fin (by omega) hk6 hr6 ht6 (hi4.keep kp6) hK6 rfl⟩
 refine zi (C:=C.add nx) W e6 hk6 hr4 hK6 rfl (λ_ h=>h) (λΓ7 H7 nx7 his e7 h7 hk7 kp7 hr7 hK7=>⟨_,rfl,jD rfl ?_⟩) (λH7 nx7 his e7 h7 hk7 hK7=>⟨_,rfl,jE rfl ?_⟩)
 ·have ht7:=ht4.keep kp7
  cases e7
  exact⟨_,_,_,_,_,ht7.tok hk7,_,rfl,_,ht7.ld hk7 1,fin (by omega) hk7 hr7 ht7 (hi4.keep kp7) hK7 rfl⟩
 refine zi (C:=C.add nx) W e7 hk7 hr4 hK7 rfl (λ_ h=>h) (λΓ8 H8 nx8 his e8 h8 hk8 kp8 hr8 hK8=>⟨_,rfl,jD rfl ?_⟩) (λH8 nx8 his e8 h8 hk8 hK8=>⟨_,rfl,jE rfl ?_⟩)
 ·have ht8:=ht4.keep kp8
  cases e8
  exact⟨_,_,_,_,_,ht8.tok hk8,_,rfl,_,ht8.ld hk8 1,fin (by omega) hk8 hr8 ht8 (hi4.keep kp8) hK8 rfl⟩
 refine⟨_,rfl,_,ht4.ld hk8 1,⟨⟨_,ht4.ld hk8 1,rfl⟩,trivial⟩,?_⟩
 refine jZ (C:=C.add nx) W e8 (hk8.more (by omega)) hr4 (hK8.from (by omega) (.refl _ _ _)) rfl .lv (λ_ h=>h) λΓ9 H9 nx9 hkd e9 h9 hk9 kp9 hr9 hK9=>⟨_,_,_,_,_,rfl,?_⟩
 have ht9:=ht4.keep kp9
 refine⟨⟨⟨_,ht9.ld hk9 1,rfl⟩,trivial⟩,?_⟩
 refine z8 (C:=C.add nx) hk9 .nil hK9 λH10 nx10 h10 hk10 hn10 hw10 hK10=>⟨_,_,_,_,_,_,rfl,trivial,?_⟩
 cases e9
 obtain⟨H11,q1,q2⟩:=Kh hk10 hr9 (hi4.keep kp9) hf hr.rex hw10 hn10 rfl hK10
 exact⟨H11,q1,trivial,q2⟩
theorem qlj(W:kv C.l)(ih:IH C.l C.r C.tb n)(hd:d<=40)(hrun:Ps.run C.l (n+1) .unary d a=some res)(hk:HZ Z Γ H nx)(hr:Rd Γ C a d)(hK:ja Z K Γ nx C d res (zM C.ex)):qo PG vB [.ptr C.r 0] H nx K:=by
 refine qo.of_body qp ?_
 rw [qap];simp only [Ps.run,qgo]at hrun
 refine kl hk hr hK λΓ1 H1 hk1 hr1 hi1 hf hK1 kp1=> ?_
 refine kZ (C:=C.add nx) hk1 hr1 hK1 λH3 nx3 h3 hk3 hK3=>⟨_,_,_,_,_,rfl,?_⟩
 refine vJ (C:=C.add nx) hk3 hr1 hK3 rfl λΓ4 H4 hk4 hr4 ht4 kp4 hK4=> ?_
 have hi4:=hi1.keep kp4
 have one:∀{Γ5 H5 nx5},nx3+1<=nx5->HZ Z Γ5 H5 nx5->Rd Γ5 (C.add nx) (a+1) d->At Γ5 C.r nx3 (ky (Ps.tk C.l a))->Res Γ5 C nx->Owe Z K Γ nx Γ5 nx5 C d res (zM C.ex)->
   (Rs.bind (Ps.run C.l n .unary d (a+1)) λ(x,b)=>Rs.ok (Ps.mk (Ps.tk C.l a) 27 (Ps.tk C.l a).text [x],b))=some res->
   (∃(n17:Int) (s18:List UInt8) (n19 n20 n21:Int),ldN H5 5 (u0 nx3 0)=some (u6 [iv n17,u5 s18,iv n19,iv n20,iv n21])/\∃v22,some (u0 nx3 1)=some v22/\∃s23,ld1 H5 v22=some (u5 s23)/\((∃(n24:Int) (s25:List UInt8) (
    n26 n27 n28:Int),ldN H5 5 (u0 nx3 0)=some (u6 [iv n24,u5 s25,iv n26,iv n27,iv n28])/\u6 [iv n24,u5 s25,iv n26,iv n27,iv n28]=u6 [iv n17,
    u5 s18,iv n19,iv n20,iv n21])/\(∃s29,ld1 H5 v22=some (u5 s29)/\u5 s29=u5 s23)/\True)/\qo PG vB [u0 C.r 0] H5 (nx5+8) λe30 H31 i32=>
    qj e30 (λv33=>∃(n34:Int) (s35:List UInt8) (n36 n37 n38:Int) (v39:qa),v33=u6 [iv n34,u5 s35,iv n36,iv n37,iv n38,v39]/\∃H40,H40=qC (nx5+5) [iv n34,u5 s35,iv n36,iv
    n37,iv n38,v39] H31/\((∃(n41:Int) (s42:List UInt8) (n43 n44 n45:Int),ldN H40 5 (u0 nx3 0)=some (u6 [iv n41,u5 s42,iv n43,iv n44,iv n45])/\u6 [iv n41,u5 s42,iv n43,
    iv n44,iv n45]=u6 [iv n17,u5 s18,iv n19,iv n20,iv n21])/\(∃s46,ld1 H40 v22=some (u5 s46)/\u5 s46=u5 s23)/\True)/\qo PG qH [u6 [iv
    n17,u5 s18,iv n19,iv n20,iv n21],iv 27,u5 s23,qa.slice (nx5+5) 0 1 6 true] H40 i32 λe47 H48 i49=>qj e47 (λv50=>∃(n51:Int) (s52:List UInt8) (n53 n54 n55:Int) (v56:qa),v50=
    u6 [iv n51,u5 s52,iv n53,iv n54,iv n55,v56]/\True/\∃H57,stC H48 (u0 nx 0) [iv n51,u5 s52,iv n53,iv n54,iv n55,v56]=some H57/\True/\∃(n58:Int) (
    s59:List UInt8) (n60 n61 n62:Int) (v63:qa),ldN H57 6 (u0 nx 0)=some (u6 [iv n58,u5 s59,iv n60,iv n61,iv n62,v63])/\K (U3 (u6 [iv n58,u5 s59,iv n60,iv n61,
    iv n62,v63])) H57 i49) λl64=>K (U2 l64) H48 i49) λl65=>K (U2 l65) H31 i32):= @λΓ5 H5 nx5 h5 hk5 hr5 ht5 hi5 hK5 e5=>by
  refine⟨_,_,_,_,_,ht5.tok hk5,_,rfl,_,ht5.ld hk5 1,⟨⟨_,_,_,_,_,ht5.tok hk5,rfl⟩,⟨_,ht5.ld hk5 1,rfl⟩,trivial⟩,?_⟩
  obtain⟨hk5',hni⟩:=jv (i:=nx5+5) (nx':=nx5+8) hk5 (by omega) (by omega)
  refine qV (C:=C.add nx) (λZ ex res Γ H nx K h=>ih.unary d hd Z ex (a+1) res Γ H nx K h) e5 hk5' hr5 (hK5.from (by omega) (.refl _ _ _)) rfl .id wI λt b kk s n li co w Γ7 H7 nx7 e7 e8 h7 hk7 kp7 hw hn hr7 hK7=>⟨_,_,_,_,_,_,rfl,?_⟩
  refine jy (C:=C.add nx) hk7 hni hr7 hK7 rfl (by omega) λΓ8 H8 hk8 hr8 hb8 hx8 kp8 hK8=> ?_
  have ht8:=(ht5.keep kp7).keep kp8
  refine⟨⟨⟨_,_,_,_,_,ht8.tok hk8,rfl⟩,⟨_,ht8.ld hk8 1,rfl⟩,trivial⟩,?_⟩
  refine z8 (C:=C.add nx) hk8 (.blk hx8 hb8.e (hn.keep hr8.rex kp8).one rfl) hK8 λH9 nx9 h9 hk9 hn9 hw9 hK9=>⟨_,_,_,_,_,_,rfl,trivial,?_⟩
  cases e8
  obtain⟨H10,q1,q2⟩:=Jr hk9 hr8 ((hi5.keep kp7).keep kp8) hf hr.rex hw9 hn9 rfl hK9
  exact⟨H10,q1,trivial,q2⟩
 refine zi (C:=C.add nx) W hrun hk4 hr4 hK4 rfl (λ_ h=>h) (λΓ5 H5 nx5 his e5 h5 hk5 kp5 hr5 hK5=>⟨_,rfl,jD rfl ?_⟩) (λH5 nx5 his e5 h5 hk5 hK5=>⟨_,rfl,jE rfl ?_⟩)
 ·exact one (by omega) hk5 hr5 (ht4.keep kp5) (hi4.keep kp5) hK5 e5
 refine zi (C:=C.add nx) W e5 hk5 hr4 hK5 rfl (λ_ h=>h) (λΓ6 H6 nx6 his e6 h6 hk6 kp6 hr6 hK6=>⟨_,rfl,jD rfl ?_⟩) (λH6 nx6 his e6 h6 hk6 hK6=>⟨_,rfl,jE rfl ?_⟩)
 ·exact one (by omega) hk6 hr6 (ht4.keep kp6) (hi4.keep kp6) hK6 e6
 refine vf (C:=C.add nx) (λZ ex res Γ H nx K h=>ih.post d hd Z ex a res Γ H nx K h) e6 hk6 hr4 hK6 rfl .id (λ_ h=>h) λt b kk s n li co w Γ7 H7 nx7 e3 e4 h7 hk7 kp7 hw hn hr7 hK7=>⟨_,_,_,_,_,_,rfl,?_⟩
 exact Jr hk7 hr7 (hi4.keep kp7) hf hr.rex hw hn e4 hK7
end
theorem qpf(call:zm)(lp:Nat->jl)(lv:zJ)(lvc:zI)(r g:Nat)(fs cs:List qa)(v o:qa)(H:qc)(nx:Nat)(K:qr):
  qA PG call (lp 22) 22 (qd PG vM) [1,1,1,1,0] (qy PG lv lvc K (qP PG vM)) .ret (qe .und [(0,.ptr r 0),(1,.func (.func g) fs cs),(4,v),(5,o)]) H nx [] none=K (.ret v) H nx:=by kernel_rfl
theorem Yk{l:List Tok}{one:Nat->Rs (qu×Nat)}(ho:Ps.AdvOK one):∀n a xs b,Ps.rowGo l one n a=some (.ok (xs,b))->xs.length+a<=b
 |0,_,_,_,h=>by simp [Ps.rowGo]at h
 |n+1,a,xs,b,h=>by
  unfold Ps.rowGo at h;refine Ps.bind_el h λx c h1 h=> ?_
  have:=ho _ _ _ h1
  refine Ps.ite_el h (λ_ h=>Ps.bind_el h λys g h3 h=>Ps.ok_el h λh4 h5=> ?_) λ_ h=>Ps.lift_el h λe h2 h=>Ps.ok_el h λh4 h5=> ?_
  ·have:=Yk ho n _ _ _ h3
   subst h4 h5;simp;omega
  ·have:=Ps.need_ok h2
   subst h4 h5;simp;omega
section
variable{Γ0 Γ:GH}{n0:Nat}{H:qc}{nx a d n i:Nat}{C:RC}{K:qr}
theorem ql9{g:FuncId}{one:Nat->Rs (qu×Nat)}{n:Nat}{res:Except Flt (List qu×Nat)}(W:kv C.l)(hadv1:Ps.AdvOK one)(hg:zR PG (.func (.func g) [.ptr C.r 0] []) []=some (g,[.ptr C.r 0]))(hone:kt C.l C.r C.tb d g one)
  (hrun:Ps.row C.l one n a=some res) (hk:HZ Z Γ H nx) (hr:Rd Γ C a d) (hK:ja Z K Γ nx C d res (zC C.ex)):qo PG vM [.ptr C.r 0,.func (.func g) [.ptr C.r 0] []] H nx K:=by
 refine qo.of_body qp ?_
 rw [qg5];unfold Ps.row at hrun;refine Ql W hk hr (λh H1 nx1 h1 hk1=>ql.2 (hK.2 _ _ _ _ ?_ h1 hk1 (.refl _ _ _) hr.p)) λh Γ1 H1 nx1 h1 hk1 kp1 hr1=>qb.2 ⟨_,_,_,_,_,rfl,?_⟩
 ·simp [Ps.need,h,Ps.lift]at hrun;exact hrun.symm
 have hrun:(if Ps.is C.l (a+1) [41]=true then Rs.ok ([],a+1+1)else Ps.rowGo C.l one n (a+1))=some res:=by simpa [Ps.need,h,Ps.lift]using hrun
 refine Kz W hk1 hr1 (λh5 H2 nx2 h2 hk2=>qb.2 ⟨_,rfl,jE rfl ?_⟩) λh5 Γ2 H2 nx2 h2 hk2 kp2 hr2=>qb.2 ⟨_,rfl,jD rfl ?_⟩
 ·have hrun:Ps.rowGo C.l one n (a+1)=some res:=by simpa [h5]using hrun
  have hK2:=hK.from (by omega:nx<=nx2) kp1.le
  refine zD (P:=PG) (X:=qa) (Y:=Unit) (λo=>qe .und [(0,.ptr C.r 0),(1,.func (.func g) [.ptr C.r 0] []),(5,o)]) (λ_=>qe .und [])
   (λm o H3 nx3=>nx2<=nx3/\∃Γ3 Γ4 ts b res',HZ Z Γ4 H3 nx3/\qU C.r nx2 Γ1 Γ3/\Rd Γ3 C b d/\QD C nx2 Γ3 Γ4 o ts/\ts.length<=b/\Ps.rowGo C.l one m b=some res'/\res=(match res' with| .ok (xs,c)=> .ok (ts++xs,c)| .error f=> .error f))
   (λid _ H3 nx3=>False) n .nilSlice (qq.okay)
   ⟨Nat.le_refl _,Γ1,Γ1,[],_,res,hk2,.refl _ _ _,hr1,.inl ⟨rfl,rfl,rfl⟩,by simp,hrun,by cases res<;>rfl⟩ ?_ ?_
  ·rintro m o H3 nx3 ⟨h3,Γ3,Γ4,ts,b,res',hk4,kp3,hr3,gr,hts,hgo,hres⟩
   refine WpP.trim (ts:=[0,1,4,5]) (WpP.weaken (e:=qe .und [(5,o),(1,.func (.func g) [.ptr C.r 0] []),(0,.ptr C.r 0)]) (qq.okay) (WpP.of_vK qp ?_))
   rw [qrs];cases m with
   |zero=>simp [Ps.rowGo]at hgo
   |succ m=>
   unfold Ps.rowGo at hgo;refine⟨_,_,hg,?_⟩
   rcases Ps.bind_some hgo with⟨f,e1,e2⟩|⟨⟨x,c⟩,e1,hgo⟩
   ·refine hone.on (C.own_l o) (C.own_r o) (C.own_tb o) e1 hk4 (gr.rd hr3) (.on (λx b v Γ' H' nx' e=>by cases e) λf' Γ' H' nx' e g1 g2 g3 g4=> ?_)
    cases e
    subst e2;rw [C.own_r]at g3 g4;exact hK2.2 f _ _ _ hres (by omega) g2 ((kp3.trans gr.keep).trans g3) g4
   ·refine hone.on (C.own_l o) (C.own_r o) (C.own_tb o) e1 hk4 (gr.rd hr3) (.on (λx' b' v Γ6 H6 nx6 e g1 g2 g3 g4 g5=> ?_) λf' Γ' H' nx' e=>by cases e)
    cases e
    obtain⟨k,s,nn,li,co,w,rfl,hw,hn⟩:=g4.cells
    rw [C.own_r]at g3;have hf6:=g2.fresh (Nat.le_refl nx6)
    refine⟨_,_,_,_,_,_,rfl,Qe g2 (nx':=nx6+1) lR (by omega) λH7 g7=> ?_⟩
    have hn7:zu (C.own o).ex (gup nx6 (some [iv k,.str s,iv nn,iv li,iv co,w]) Γ6) [iv k,.str s,iv nn,iv li,iv co,w] x:=hn.mono (λ_ h=>h) λc ds _ e=>by rw [qn λx=>by rw [x,hf6]at e;cases e];exact e
    have hr7:Rd (gup nx6 (some [iv k,.str s,iv nn,iv li,iv co,w]) Γ6) (C.own o) c d:=g5.new hf6
    have hcl:=hr7.lt
    have hWf:=W.few
    rw [C.own_l]at hcl;have hadv:=hr3.lt
    obtain⟨v,H8,nx8,Γ8,Γ9,a1,a2,a3,a4,a5,a6⟩:=gr.more hr3 g7 (g3.trans (.new (nx:=nx6) hf6)) (by omega) (by omega) hr7 hn7 (by omega)
    refine⟨1,[iv k,.str s,iv nn,iv li,iv co,w],?_,by simp only [qt,hw];rfl,v,H8,nx8,a1,?_⟩
    ·rw [g7.src (qk _ _ _) (by simp)];simp
    have hr9:=a6.rd' a5
    have ha1:=hadv1 _ _ _ e1
    refine Kz W a3 hr9 (λh9 H10 nx10 g10 hk10=>qb.2 ⟨_,rfl,jD rfl ?_⟩) λh9 Γ10 H10 nx10 g10 hk10 kp10 hr10=>qb.2 ⟨_,rfl,jE rfl ?_⟩
    ·have hgo:Ps.lift (Ps.need C.l c [41]) (λc=>Rs.ok ([x],c))=some res':=by simpa [h9]using hgo
     refine Ql W hk10 hr9 (λh11 H11 nx11 g11 hk11=>ql.2 ?_) λh11 Γ11 H11 nx11 g11 hk11 kp11 hr11=>qb.2 ⟨_,_,_,_,_,rfl,?_⟩
     ·have:res'= .error (Ps.flt C.l c 13):=by simp [Ps.need,h11,Ps.lift]at hgo;exact hgo.symm
      subst this;exact hK2.2 _ _ _ _ hres (by omega) hk11 ((kp3.trans a4).trans a6.keep) hr9.p
     ·have:res'= .ok ([x],c+1):=by simp [Ps.need,h11,Ps.lift,Rs.ok]at hgo;exact hgo.symm
      subst this;refine Eq.mpr (qpf (qo PG) (LpP PG) (z9 (qM PG)) (ze PG (qM PG)) C.r g [.ptr C.r 0] [] v v H11 nx11 K) ?_
      exact hK2.1 _ _ _ _ _ _ hres (by omega) hk11 (((kp3.trans a4).trans a6.keep).trans kp11.le) ((a6.v a5).keep a5.rex kp11) hr11
    ·have hgo:Rs.bind (Ps.rowGo C.l one m (c+1)) (λ(xs,e)=>Rs.ok (x::xs,e))=some res':=by simpa [h9]using hgo
     obtain⟨Γ11,b1,b2,b3⟩:=a6.next a5 kp10 (by omega) hr10
     rcases Ps.bind_some hgo with⟨f,e4,e5⟩|⟨⟨xs,c2⟩,e4,e5⟩
     ·exact⟨rfl,m,v,Nat.lt_succ_self m,qq.okay,by omega,Γ11,Γ10,ts++[x],c+1,_,hk10,(kp3.trans a4).trans b2,b3,b1,by simp;omega,e4,by rw [hres,e5]⟩
     ·refine⟨rfl,m,v,Nat.lt_succ_self m,qq.okay,by omega,Γ11,Γ10,ts++[x],c+1,_,hk10,(kp3.trans a4).trans b2,b3,b1,by simp;omega,e4,?_⟩
      cases e5
      rw [hres];simp
  ·rintro id o H3 nx3 hx
   exact hx.elim
 ·rw [h5]at hrun;have e:res= .ok ([],a+1+1):=by simp [Rs.ok]at hrun;exact hrun.symm
  exact hK.1 [] _ _ _ _ _ e (by omega) hk2 ((kp1.trans kp2).le) .nil hr2
theorem ZB{β:Type}{V:GH->qa->β->Prop}{res:Except Flt (β×Nat)}{rK:qa->qc->Nat->Prop}{pK:List (qa×Bool)->qc->Nat->Prop}{g:FuncId}{n:Nat}{one:Nat->Rs (qu×Nat)}{k:List qu×Nat->Rs (β×Nat)}{Cb:RC}{db:Nat}(W:kv C.l)(hadv:Ps.AdvOK one)(hg:zR PG (.func (.func g) [.ptr C.r 0] []) []=some (g,[.ptr C.r 0]))
  (hone:kt C.l C.r C.tb d g one) (hrun:Rs.bind (Ps.row C.l one n a) k=some res) {Zc:Nat->Prop} (hk:HZ Zc Γ H nx) (hr:Rd Γ C a d) (hK:Owe Z K Γ0 n0 Γ nx Cb db res V) (hb:Cb.r=C.r) (hp:wu Z K Cb.r pK) (hz:∀b,Z b->Zc b)
  (hok:∀ts b v Γ' H' nx',Ps.row C.l one n a=some (.ok (ts,b))->k (ts,b)=some res->nx<=nx'->HZ Zc Γ' H' nx'->qU C.r nx Γ Γ'->zC C.ex Γ' v ts->Rd Γ' C b d->Owe Z K Γ0 n0 Γ' nx' Cb db res V->rK v H' nx'):
  qo PG vM [.ptr C.r 0,.func (.func g) [.ptr C.r 0] []] H nx λe H' nx'=>qj e (λv=>rK v H' nx') λl=>pK l H' nx':=by
 rcases Ps.bind_some hrun with⟨f,e1,e2⟩|⟨⟨t,b⟩,e1,e2⟩
 ·refine ql9 W hadv hg hone e1 hk hr (.on (λx b v Γ' H' nx' e=>by cases e) λf' Γ' H' nx' e g1 g2 g3 g4=> ?_)
  cases e
  rw [<-hb]at g3 g4;exact hp.of (hK.from g1 g3) e2 (g2.less hz) g4
 ·refine ql9 W hadv hg hone e1 hk hr (.on (λx b' v Γ' H' nx' e g1 g2 g3 g4 g5=> ?_) λf' Γ' H' nx' e=>by cases e)
  cases e
  exact hok _ _ _ _ _ _ e1 e2 g1 g2 g3 g4 g5 (hK.from g1 (by rw [hb];exact g3))
theorem qek{g:FuncId}{one:Nat->Rs (qu×Nat)}{res:Except Flt (qu×Nat)}(W:kv C.l)(hg:zR PG (.func (.func g) [.ptr C.r 0] []) []=some (g,[.ptr C.r 0]))(hone:kt C.l C.r C.tb d g one)
  (hrun:(Ps.lift (Ps.need C.l a [40]) λb=>Rs.bind (one b) λ(x,c)=>Ps.lift (Ps.need C.l c [41]) λe=>Rs.ok (x,e))=some res) (hk:HZ Z Γ H nx) (hr:Rd Γ C a d) (hK:ja Z K Γ nx C d res (zM C.ex)):
  qo PG Zj [.ptr C.r 0,.func (.func g) [.ptr C.r 0] []] H nx K:=by
 refine qo.of_body qp ?_
 rw [qev];refine kl hk hr hK λΓ1 H1 hk1 hr1 hi1 hf hK1 kp1=> ?_
 refine z0 (C:=C.add nx) W hrun hk1 hr1 hK1 rfl .id (λ_ h=>h) λΓ2 H2 nx2 his2 e2 h2 hk2 kp2 hr2 hK2=>⟨_,_,_,_,_,rfl,_,_,hg,?_⟩
 refine qV (C:=C.add nx) (λZ ex res Γ H nx K h=>hone Z ex _ res Γ H nx K h) e2 hk2 hr2 hK2 rfl .id (λ_ h=>h) λt b kk s n li co w Γ3 H3 nx3 e3 e4 h3 hk3 kp3 hw hn hr3 hK3=>⟨_,_,_,_,_,_,rfl,?_⟩
 refine kI (C:=C.add nx) hk3 hr3 hw hK3 rfl λΓ4 H4 hk4 hr4 hb4 kp4 hK4=> ?_
 refine z0 (C:=C.add nx) W e4 hk4 hr4 hK4 rfl .id (λ_ h=>h) λΓ5 H5 nx5 his5 e5 h5 hk5 kp5 hr5 hK5=>⟨_,_,_,_,_,rfl,_,_,_,_,_,_,qX hk5 (hb4.keep kp5).e rfl,?_⟩
 cases e5
 exact Jr hk5 hr5 ((((hi1.keep kp2).keep kp3).keep kp4).keep kp5) hf hr.rex hw ((hn.keep hr3.rex kp4).keep hr4.rex kp5) rfl hK5
end
abbrev qem(l:List Tok)(n d:Nat):Nat->Rs (qu×Nat):=λb=>if((Ps.tk l b).kind==2||Ps.isTyp l b||Ps.is l b [91])=true then Ps.run l n .typ d b else Rs.ok (Ps.none_,b)
theorem zX.all{ex:Nat->Prop}{Γ:GH}:∀{c:List qa} {t:List qu},zX ex Γ c t->qt c=true
 |_,_,.nil=>rfl
 |_,_,.cons (.mk cs hs hk) hl=>by
  have h1:=zC.cell ⟨cs,hs,hk⟩
  have h2:=zX.all hl
  show qt (_::_::_::_::_::_::_)=true
  simp only [qt,h1]
  exact h2
theorem VW{l:List Tok}{one:Nat->Rs (qu×Nat)}(ho:Ps.AdvOK one){n a:Nat}{xs:List qu}{b:Nat}(h:Ps.row l one n a=some (.ok (xs,b))):xs.length+a<=b:=by
 unfold Ps.row at h;refine Ps.lift_el h λc h1 h=> ?_
 have:=Ps.need_ok h1
 refine Ps.ite_el h (λ_ h=>Ps.ok_el h λh4 h5=> ?_) λ_ h=> ?_
 ·subst h4 h5;simp;omega
 ·have:=Yk ho _ _ _ _ h;omega
section
variable{Γ0 Γ:GH}{n0:Nat}{H:qc}{nx a d n i:Nat}{C:RC}{K:qr}{res:Except Flt (qu×Nat)}
theorem qrl{x:List qa}{t1 ts:List qu}{v:qa}(hk:HZ Z Γ H nx)(hr:Rd Γ C a d)(hb:Γ i=some x)(hx:¬C.ex i)(hc:zX C.ex Γ x t1)(h1:0<t1.length)(hv:zC C.ex Γ v ts)(hfew:t1.length+ts.length<=6000){n1:Nat}(hn1:n1=t1.length)
  {k:qa->qc->Nat->Prop} (h:∀w Γ' H' nx',nx<=nx'->HZ Z Γ' H' nx'->qU C.r nx Γ Γ'->Rd Γ' C a d->zC C.ex Γ' w (t1++ts)->k w H' nx'):
  ∃m l,jN 6 H v=some (m,l)/\qt l=true/\∃w H' nx',z3 H nx 6 72 (.slice i 0 n1 6 true) m l=some (w,H',nx')/\k w H' nx':=by
 subst hn1;obtain⟨cs,hs,hkc⟩:=hv
 have hs':Z9 Γ v 6 ts.length cs:=hs.mono λc ds e=>by
  by_cases hex:C.ex c
  ·rw [Wc hex]at e;cases e
  ·rw [vp hex]at e;exact e
 refine⟨ts.length,cs,hs'.src hk,hkc.all,?_⟩
 have hl:=hc.len
 cases hts:ts with
 |nil=>
  subst hts;refine⟨_,_,_,rfl,h _ Γ _ _ lR hk (.refl _ _ _) hr ?_⟩
  rw [List.append_nil];exact .blk hx hb hc rfl
 |cons t r=>
  rw [<-hts];obtain⟨H',e1,e2⟩:=hk.appFull (off:=0) (len:=t1.length) (esz:=6) (ebytes:=72) (k:=ts.length) (new:=cs) hb (by omega) hkc.len (by rw [hts];simp) (by omega) (by omega)
  have hf:=hk.fresh (Nat.le_refl nx)
  refine⟨_,H',_,e1,h _ _ _ _ (by omega) e2 (.new hf) (hr.new hf) ?_⟩
  refine .blk (hr.notex hf) (qk _ _ _) ?_ (by simp)
  have hd:(x.drop 0).take (t1.length*6)=x:=by rw [<-hl];simp
  rw [hd];exact zX.app (hc.keep hr.rex (.new (nx:=nx) hf)) (hkc.keep hr.rex (.new (nx:=nx) hf))
variable{Cb:RC}{t:Tok}{kk:Int}{s:List UInt8}{v:qa}{ts:List qu}{b:Nat}{pK:List (qa×Bool)->qc->Nat->Prop}
theorem jJ(hk:HZ Z Γ H nx)(hr:Rd Γ (Cb.add i) b d)(hi:Res Γ Cb i)(h0:Γ0 i=none/\n0<=i)(hrex:Cb.ex Cb.r)(hv:zC (Cb.add i).ex Γ v ts)(e:res= .ok (Ps.mk t kk s ts,b))(hK:Owe Z K Γ0 n0 Γ nx Cb d res (zM Cb.ex)):
  qo PG qH [wQ t,iv kk,.str s,v] H nx λe H' nx'=>qj e (λv=>∃(n1:Int) (s1:List UInt8) (x1 y1 z1:Int) (v1:qa),v= .agg [iv n1,.str s1,iv x1,iv y1,iv z1,v1]/\∃H1,stC H' (.ptr i 0) [iv n1,.str s1,iv x1,iv y1,iv z1,v1]=some H1/\
   ∃(n1:Int) (s1:List UInt8) (x1 y1 z1:Int) (v1:qa),ldN H1 6 (.ptr i 0)=some (.agg [iv n1,.str s1,iv x1,iv y1,iv z1,v1])/\K (.ret (.agg [iv n1,.str s1,iv x1,iv y1,iv z1,v1])) H1 nx') λl=>pK l H' nx':=by
 refine z8 (C:=Cb.add i) hk hv hK λH6 nx6 h6 hk6 hn6 hw6 hK6=>⟨_,_,_,_,_,_,rfl,?_⟩
 exact Jr hk6 hr hi h0 hrex hw6 hn6 e hK6
theorem jV(hk:HZ Z Γ H nx)(hr:Rd Γ (Cb.add i) b d)(hi:Res Γ Cb i)(h0:Γ0 i=none/\n0<=i)(hrex:Cb.ex Cb.r)(hv:zC (Cb.add i).ex Γ v ts)(e:res= .ok (Ps.mk t kk s ts,b))(hK:Owe Z K Γ0 n0 Γ nx Cb d res (zM Cb.ex)):
  qo PG qH [wQ t,iv kk,.str s,v] H nx λe H' nx'=>qj e (λv=>∃(n1:Int) (s1:List UInt8) (x1 y1 z1:Int) (v1:qa),v= .agg [iv n1,.str s1,iv x1,iv y1,iv z1,v1]/\True/\∃H1,stC H' (.ptr i 0) [iv n1,.str s1,iv x1,iv y1,iv z1,v1]=some H1/\True/\
   ∃(n1:Int) (s1:List UInt8) (x1 y1 z1:Int) (v1:qa),ldN H1 6 (.ptr i 0)=some (.agg [iv n1,.str s1,iv x1,iv y1,iv z1,v1])/\K (.ret (.agg [iv n1,.str s1,iv x1,iv y1,iv z1,v1])) H1 nx') λl=>pK l H' nx':=by
 refine z8 (C:=Cb.add i) hk hv hK λH6 nx6 h6 hk6 hn6 hw6 hK6=>⟨_,_,_,_,_,_,rfl,trivial,?_⟩
 obtain⟨H7,q1,q2⟩:=Jr hk6 hr hi h0 hrex hw6 hn6 e hK6
 exact⟨H7,q1,trivial,q2⟩
theorem Vh(hk:HZ Z Γ H nx)(hr:Rd Γ (Cb.add i) b (d+1))(hi:Res Γ Cb i)(h0:Γ0 i=none/\n0<=i)(hrex:Cb.ex Cb.r)(hv:zC (Cb.add i).ex Γ v ts)(e:res= .ok (Ps.mk t kk s ts,b))(hK:Owe Z K Γ0 n0 Γ nx Cb d res (zM Cb.ex)):
  qo PG qH [wQ t,iv kk,.str s,v] H nx λe H' nx'=>qj e (λv=>∃(n1:Int) (s1:List UInt8) (x1 y1 z1:Int) (v1:qa),v= .agg [iv n1,.str s1,iv x1,iv y1,iv z1,v1]/\∃H1,stC H' (.ptr i 0) [iv n1,.str s1,iv x1,iv y1,iv z1,v1]=some H1/\
   ze PG (qM PG) [.cell (.ptr i 0) qJ] [(jB,[.ptr Cb.r 0])] .returning H1 nx' λe H' nx'=>K e H' nx') λl=>pK l H' nx':=by
 refine z8 (C:=Cb.add i) hk hv hK λH6 nx6 h6 hk6 hn6 hw6 hK6=>⟨_,_,_,_,_,_,rfl,?_⟩
 exact Kh hk6 hr hi h0 hrex hw6 hn6 e hK6
theorem wi(hk:HZ Z Γ H nx)(hr:Rd Γ (Cb.add i) b (d+1))(hi:Res Γ Cb i)(h0:Γ0 i=none/\n0<=i)(hrex:Cb.ex Cb.r)(hv:zC (Cb.add i).ex Γ v ts)(e:res= .ok (Ps.mk t kk s ts,b))(hK:Owe Z K Γ0 n0 Γ nx Cb d res (zM Cb.ex)):
  qo PG qH [wQ t,iv kk,.str s,v] H nx λe H' nx'=>qj e (λv=>∃(n1:Int) (s1:List UInt8) (x1 y1 z1:Int) (v1:qa),v= .agg [iv n1,.str s1,iv x1,iv y1,iv z1,v1]/\True/\∃H1,stC H' (.ptr i 0) [iv n1,.str s1,iv x1,iv y1,iv z1,v1]=some H1/\True/\
   ze PG (qM PG) [.cell (.ptr i 0) qJ] [(jB,[.ptr Cb.r 0])] .returning H1 nx' λe H' nx'=>K e H' nx') λl=>pK l H' nx':=by
 refine z8 (C:=Cb.add i) hk hv hK λH6 nx6 h6 hk6 hn6 hw6 hK6=>⟨_,_,_,_,_,_,rfl,trivial,?_⟩
 obtain⟨H7,q1,q2⟩:=Kh hk6 hr hi h0 hrex hw6 hn6 e hK6
 exact⟨H7,q1,trivial,q2⟩
theorem WF{ex:Nat->Prop}{Γ:GH}{kk n li co:Int}{s:List UInt8}{w:qa}{t:qu}(h:zu ex Γ [iv kk,.str s,iv n,iv li,iv co,w] t):qZ w=true:=by
 cases h with
 |mk cs hs hk=>exact zC.cell ⟨cs,hs,hk⟩
end
section
variable{Γ:GH}{H:qc}{nx a d n:Nat}{C:RC}{K:qr}{res:Except Flt (qu×Nat)}
theorem qix(W:kv C.l)(ih:IH C.l C.r C.tb n)(hd:d<=40)(hrun:Ps.run C.l (n+1) .method d a=some res)(hk:HZ Z Γ H nx)(hr:Rd Γ C a d)(hK:ja Z K Γ nx C d res (zM C.ex)):qo PG ww [.ptr C.r 0] H nx K:=by
 refine qo.of_body qp ?_
 rw [Xx];simp only [Ps.run]at hrun
 have hrex:=hr.rex
 refine kl hk hr hK λΓ H hk hr hi hf hK kp=> ?_
 refine jZ (C:=C.add nx) W hrun hk hr hK rfl .id (λ_ h=>h) λΓ H m hkd hrun h hk kp hr hK=>⟨_,_,_,_,_,rfl,?_⟩
 replace hi:=hi.keep kp
 refine vJ (C:=C.add nx) hk hr hK rfl λΓ H hk hr ht kp hK=> ?_
 replace hi:=hi.keep kp
 refine ZB (C:=C.add nx) W (Jz rfl) qkx (ih.typ d hd) hrun hk hr hK rfl .id (λ_ h=>h) λts b v Γ H m' erow hrun h hk kp hv hr hK=> ?_
 replace hi:=hi.keep kp;replace ht:=ht.keep kp
 refine⟨_,_,_,_,_,ht.tok hk,_,rfl,_,ht.ld hk 1,⟨⟨_,_,_,_,_,ht.tok hk,rfl⟩,⟨_,ht.ld hk 1,rfl⟩,trivial⟩,?_⟩
 have hlen:=VW (Jz (by rfl)) erow
 have hlt:b<C.l.length:=hr.lt
 have hW:=W.few
 obtain⟨hk',hni⟩:=jv (i:=m'+5) (nx':=m'+10) hk (by omega) (by omega)
 refine qV (one:=qem C.l n d) (C:=C.add nx) (λZ ex res Γ H nx K h1 h2 h3 h4=>Vb (C:=⟨C.r,C.tb,C.l,ex⟩) W ih hd h1 h2 h3 h4) hrun hk' hr (hK.from (by omega) (.refl _ _ _)) rfl .id wI λt c kk s n li co w Γ H m'' e1 hrun h hk kp hw hn hr hK=>⟨_,_,_,_,_,_,rfl,?_⟩
 replace hi:=hi.keep kp;replace ht:=ht.keep kp;replace hv:=hv.keep hr.rex kp
 refine jy (C:=C.add nx) hk hni hr hK rfl (by omega) λΓ H hk hr hb hx kp hK=> ?_
 replace hi:=hi.keep kp;replace ht:=ht.keep kp;replace hv:=hv.keep hr.rex kp;replace hn:=hn.keep hr.rex kp
 refine⟨⟨⟨_,_,_,_,_,ht.tok hk,rfl⟩,⟨_,ht.ld hk 1,rfl⟩,trivial⟩,?_⟩
 refine qrl (C:=C.add nx) hk hr hb.e hx hn.one (by simp) hv (by simp;omega) rfl λw Γ H m3 h hk kp hr hv=> ?_
 replace hi:=hi.keep kp;replace ht:=ht.keep kp;replace hK:=hK.from h kp
 refine⟨⟨⟨_,_,_,_,_,ht.tok hk,rfl⟩,⟨_,ht.ld hk 1,rfl⟩,trivial⟩,?_⟩
 cases hrun
 exact jV hk hr hi hf hrex hv rfl hK
end
section
variable{Γ:GH}{H:qc}{nx a d n:Nat}{C:RC}{K:qr}{res:Except Flt (qu×Nat)}
theorem qhs(W:kv C.l)(ih:IH C.l C.r C.tb n)(hd:d<=40)
  (hrun:(Rs.bind (Ps.run C.l n .expr d a) λ(e,b)=>if Ps.is C.l b [58,61]then Rs.bind (Ps.run C.l n .expr d (b+1)) λ(y,c)=>Rs.ok (Ps.mk (Ps.tk C.l b) 12 [] [e,y],c)
    else if Ps.is C.l b [61]then Rs.bind (Ps.run C.l n .expr d (b+1)) λ(y,c)=>Rs.ok (Ps.mk (Ps.tk C.l b) 13 [] [e,y],c)
    else Rs.ok (Ps.mk (Ps.tk C.l a) 19 [] [e],b))=some res)
  (hk:HZ Z Γ H nx) (hr:Rd Γ C a d) (hK:ja Z K Γ nx C d res (zM C.ex)):qo PG Zn [.ptr C.r 0] H nx K:=by
 refine qo.of_body qp ?_
 rw [XI];have hrex:=hr.rex
 refine kl hk hr hK λΓ H hk hr hi hf hK kp=> ?_
 refine kZ (C:=C.add nx) hk hr hK λH m1 h hk hK=>⟨_,_,_,_,_,rfl,?_⟩
 refine vJ (C:=C.add nx) hk hr hK rfl λΓ H hk hr ht kp hK=> ?_
 replace hi:=hi.keep kp
 refine qV (C:=C.add nx) (λZ ex res Γ H nx K h=>ih.expr d hd Z ex a res Γ H nx K h) hrun hk hr hK rfl .id (λ_ h=>h) λt c kk s n1 li co w Γ H m2 e1 hrun h hk kp hw hn hr hK=>⟨_,_,_,_,_,_,rfl,?_⟩
 replace hi:=hi.keep kp;replace ht:=ht.keep kp
 refine kI (C:=C.add nx) hk hr hw hK rfl λΓ H hk hr hb kp hK=> ?_
 replace hi:=hi.keep kp;replace ht:=ht.keep kp;replace hn:=hn.keep hr.rex kp
 refine kZ (C:=C.add nx) hk hr hK λH m3 h hk hK=>⟨_,_,_,_,_,rfl,?_⟩
 refine vJ (C:=C.add nx) hk hr hK rfl λΓ H hk hr ht2 kp hK=> ?_
 replace hi:=hi.keep kp;replace ht:=ht.keep kp;replace hb:=hb.keep kp;replace hn:=hn.keep hr.rex kp
 refine zi (C:=C.add nx) W hrun hk hr hK rfl (λ_ h=>h) (λΓ H m4 his hrun h hk kp hr hK=>⟨_,rfl,jD rfl ?_⟩) (λH m4 his hrun h hk hK=>⟨_,rfl,jE rfl ?_⟩)
 ·replace hi:=hi.keep kp;replace ht:=ht.keep kp;replace ht2:=ht2.keep kp;replace hb:=hb.keep kp;replace hn:=hn.keep hr.rex kp
  refine⟨_,_,_,_,_,ht2.tok hk,_,_,_,_,_,_,qX hk hb.e rfl,⟨⟨_,_,_,_,_,ht2.tok hk,rfl⟩,⟨_,_,_,_,_,_,qX hk hb.e rfl,rfl⟩,trivial⟩,?_⟩
  obtain⟨hk',hni⟩:=jv (i:=m4+4) (nx':=m4+7) hk (by omega) (by omega)
  refine qV (C:=C.add nx) (λZ ex res Γ H nx K h=>ih.expr d hd Z ex _ res Γ H nx K h) hrun hk' hr (hK.from (by omega) (.refl _ _ _)) rfl .id wI λt c2 kk2 s2 n2 li2 co2 w2 Γ H m5 e2 hrun h hk kp hw2 hn2 hr hK=>⟨_,_,_,_,_,_,rfl,?_⟩
  replace hi:=hi.keep kp;replace ht:=ht.keep kp;replace ht2:=ht2.keep kp;replace hb:=hb.keep kp;replace hn:=hn.keep hr.rex kp
  refine jy (C:=C.add nx) hk hni hr hK rfl (by omega) λΓ H hk hr hb2 hx kp hK=> ?_
  replace hi:=hi.keep kp;replace ht:=ht.keep kp;replace ht2:=ht2.keep kp;replace hb:=hb.keep kp;replace hn:=hn.keep hr.rex kp;replace hn2:=hn2.keep hr.rex kp
  refine⟨⟨⟨_,_,_,_,_,ht2.tok hk,rfl⟩,⟨_,_,_,_,_,_,qX hk hb.e rfl,rfl⟩,trivial⟩,?_⟩
  cases hrun
  exact jV hk hr hi hf hrex (.blk hx hb2.e (.cons hn hn2.one) rfl) rfl hK
 refine zi (C:=C.add nx) W hrun hk hr hK rfl (λ_ h=>h) (λΓ H m4 his hrun h hk kp hr hK=>⟨_,rfl,jD rfl ?_⟩) (λH m4 his hrun h hk hK=>⟨_,rfl,jE rfl ?_⟩)
 ·replace hi:=hi.keep kp;replace ht:=ht.keep kp;replace ht2:=ht2.keep kp;replace hb:=hb.keep kp;replace hn:=hn.keep hr.rex kp
  refine⟨_,_,_,_,_,ht2.tok hk,_,_,_,_,_,_,qX hk hb.e rfl,⟨⟨_,_,_,_,_,ht2.tok hk,rfl⟩,⟨_,_,_,_,_,_,qX hk hb.e rfl,rfl⟩,trivial⟩,?_⟩
  obtain⟨hk',hni⟩:=jv (i:=m4+4) (nx':=m4+7) hk (by omega) (by omega)
  refine qV (C:=C.add nx) (λZ ex res Γ H nx K h=>ih.expr d hd Z ex _ res Γ H nx K h) hrun hk' hr (hK.from (by omega) (.refl _ _ _)) rfl .id wI λt c2 kk2 s2 n2 li2 co2 w2 Γ H m5 e2 hrun h hk kp hw2 hn2 hr hK=>⟨_,_,_,_,_,_,rfl,?_⟩
  replace hi:=hi.keep kp;replace ht:=ht.keep kp;replace ht2:=ht2.keep kp;replace hb:=hb.keep kp;replace hn:=hn.keep hr.rex kp
  refine jy (C:=C.add nx) hk hni hr hK rfl (by omega) λΓ H hk hr hb2 hx kp hK=> ?_
  replace hi:=hi.keep kp;replace ht:=ht.keep kp;replace ht2:=ht2.keep kp;replace hb:=hb.keep kp;replace hn:=hn.keep hr.rex kp;replace hn2:=hn2.keep hr.rex kp
  refine⟨⟨⟨_,_,_,_,_,ht2.tok hk,rfl⟩,⟨_,_,_,_,_,_,qX hk hb.e rfl,rfl⟩,trivial⟩,?_⟩
  cases hrun
  exact jV hk hr hi hf hrex (.blk hx hb2.e (.cons hn hn2.one) rfl) rfl hK
 refine⟨_,_,_,_,_,ht.tok hk,_,_,_,_,_,_,qX hk hb.e rfl,?_⟩
 refine Jf (nx':=m4+1) (C:=C.add nx) hk lR (by omega) hr hK rfl λΓ H hk hr hb2 hx kp hK=> ?_
 replace hi:=hi.keep kp;replace hn:=hn.keep hr.rex kp
 cases hrun
 exact jJ hk hr hi hf hrex (.blk hx hb2.e hn.one rfl) rfl hK
end
section
variable{ex ex':Nat->Prop}{Γ Γ':GH}
mutual
theorem zu.via(hk:∀b cs,hide ex Γ b=some cs->hide ex' Γ' b=some cs):∀{c:List qa} {t:qu},zu ex Γ c t->zu ex' Γ' c t
 |_,_,.mk cs hs h=> .mk cs (hs.mono hk) (zX.via hk h)
theorem zX.via(hk:∀b cs,hide ex Γ b=some cs->hide ex' Γ' b=some cs):∀{c:List qa} {t:List qu},zX ex Γ c t->zX ex' Γ' c t
 |_,_,.nil=> .nil
 |_,_,.cons h hl=> .cons (zu.via hk h) (zX.via hk hl)
end
end
theorem zu.raise{C:RC}{Γ:GH}{i:Nat}{c:List qa}{t:qu}(hi:Γ i=none)(h:zu C.ex Γ c t):zu (C.add i).ex Γ c t:=h.via λb cs e=>by
 by_cases hb:C.ex b
 ·rw [Wc hb]at e;cases e
 ·rw [vp hb]at e;rw [vp λx=>x.elim (λx=>by rw [x,hi]at e;cases e) hb]
  exact e
theorem Res.set{C:RC}{Γ:GH}{i nx:Nat}{cs:Option (List qa)}(h:Res Γ C nx)(hne:nx≠i):Res (gup i cs Γ) C nx:=⟨let⟨ds,e,l⟩:=h.e;⟨ds,(qn hne).trans e,l⟩,h.nr,h.nt⟩
theorem At.set{Γ:GH}{r i j:Nat}{cs:List qa}{ds:Option (List qa)}(h:At Γ r i cs)(hne:i≠j):At (gup j ds Γ) r i cs:=⟨(qn hne).trans h.e,h.ne⟩
theorem At.same{Γ:GH}{r i:Nat}{cs ds:List qa}(h:At Γ r i cs):At (gup i (some ds) Γ) r i ds:=⟨qk _ _ _,h.ne⟩
theorem zu.set{C:RC}{Γ:GH}{i:Nat}{cs:Option (List qa)}{c:List qa}{t:qu}(h:zu (C.add i).ex Γ c t):zu (C.add i).ex (gup i cs Γ) c t:=h.mono (λ_ h=>h) λb ds hb e=>(qn λx=>hb (.inl x)).trans e
section
variable{Γ0 Γ:GH}{n0:Nat}{H:qc}{nx a d n:Nat}{C:RC}{K:qr}{res:Except Flt (qu×Nat)}
theorem Owe.none{β:Type}{V:GH->qa->β->Prop}{res:Except Flt (β×Nat)}{i:Nat}(h:Owe Z K Γ0 n0 Γ nx C d res V)(hi:Γ i=none)(hr:i≠C.r):Γ0 i=Option.none:=by
 cases e:Γ0 i with
 |none=>rfl
 |some cs=>have:=h.2.1.1 i cs hr e;rw [hi]at this;cases this
theorem qup(W:kv C.l)(ih:IH C.l C.r C.tb n)(hd:d<=40)(hrun:Ps.run C.l (n+1) .ifs d a=some res)(hk:HZ Z Γ H nx)(hr:Rd Γ C a d)(hK:ja Z K Γ nx C d res (zM C.ex)):qo PG Q7 [.ptr C.r 0] H nx K:=by
 refine qo.of_body qp ?_
 rw [qg0];simp only [Ps.run]at hrun
 have hrex:=hr.rex
 refine kl hk hr hK λΓ H hk hr hi hf hK kp=> ?_
 refine z0 (C:=C.add nx) W hrun hk hr hK rfl .id (λ_ h=>h) λΓ H m1 his hrun h hk kp hr hK=>⟨_,_,_,_,_,rfl,?_⟩
 replace hi:=hi.keep kp
 refine vJ (C:=C.add nx) hk hr hK rfl λΓ H hk hr ht kp hK=> ?_
 replace hi:=hi.keep kp
 refine qV (C:=C.add nx) (λZ ex res Γ H nx K h=>ih.expr d hd Z ex _ res Γ H nx K h) hrun hk hr hK rfl .id (λ_ h=>h) λt1 c1 kk1 s1 n1 li1 co1 w1 Γ H m2 e1 hrun h hk kp hw1 hn1 hr hK=>⟨_,_,_,_,_,_,rfl,?_⟩
 replace hi:=hi.keep kp;replace ht:=ht.keep kp
 refine kI (C:=C.add nx) hk hr hw1 hK rfl λΓ H hk hr hb1 kp hK=> ?_
 replace hi:=hi.keep kp;replace ht:=ht.keep kp;replace hn1:=hn1.keep hr.rex kp
 refine qV (C:=C.add nx) (λZ ex res Γ H nx K h=>ih.block d hd Z ex _ res Γ H nx K h) hrun hk hr hK rfl .id (λ_ h=>h) λt2 c2 kk2 s2 n2 li2 co2 w2 Γ H m3 e2 hrun h hk kp hw2 hn2 hr hK=>⟨_,_,_,_,_,_,rfl,?_⟩
 replace hi:=hi.keep kp;replace ht:=ht.keep kp;replace hb1:=hb1.keep kp;replace hn1:=hn1.keep hr.rex kp
 refine kI (C:=C.add nx) hk hr hw2 hK rfl λΓ H hk hr hb2 kp hK=> ?_
 replace hi:=hi.keep kp;replace ht:=ht.keep kp;replace hb1:=hb1.keep kp;replace hn1:=hn1.keep hr.rex kp;replace hn2:=hn2.keep hr.rex kp
 refine v2 (C:=C.add nx) hk hK λH m4 h hk hn3 hK=>⟨_,_,_,_,_,_,rfl,?_⟩
 have hm4:=hk.fresh (Nat.le_refl m4)
 have hm0:=hK.none hm4 (hr.r_ne hm4)
 have hm3:=hr.tb_ne hm4
 replace hn1:=hn1.raise hm4;replace hn2:=hn2.raise hm4;replace hn3:=hn3.raise hm4
 refine kI (C:=C.add nx) hk hr rfl hK rfl λΓ H hk hr hb3 kp hK=> ?_
 replace hr:Rd Γ ((C.add nx).add m4) _ d:=hr.add (by rw [hb3.e];simp)
 replace hi:=hi.keep kp;replace ht:=ht.keep kp;replace hb1:=hb1.keep kp;replace hb2:=hb2.keep kp;replace hn1:=hn1.keep hr.rex kp;replace hn2:=hn2.keep hr.rex kp;replace hn3:=hn3.keep hr.rex kp
 refine zi (C:=(C.add nx).add m4) W hrun hk hr hK rfl (λ_ h=>h) (λΓ H m5 his hrun h hk kp hr hK=>⟨_,rfl,jD rfl ?_⟩) (λH m5 his hrun h hk hK=>⟨_,rfl,jE rfl ?_⟩)
 ·replace hi:=hi.keep kp;replace ht:=ht.keep kp;replace hb1:=hb1.keep kp;replace hb2:=hb2.keep kp;replace hb3:=hb3.keep kp;replace hn1:=hn1.keep hr.rex kp;replace hn2:=hn2.keep hr.rex kp;replace hn3:=hn3.keep hr.rex kp
  refine kJ (C:=(C.add nx).add m4) hk hr hK λH m6 h hk hK=>⟨_,rfl,qf.2 ⟨λh1=> ?_,λh1=> ?_⟩⟩
  ·replace hrun:=(if_pos (show Ps.is C.l _ Ps.wIf=true from h1)).symm.trans hrun
   refine qV (one:=Ps.run C.l n .ifs d) (C:=(C.add nx).add m4) (λZ ex res Γ H nx K h h2 h3 h4=>qi5 (C:=⟨C.r,C.tb,C.l,ex⟩) ih hd h h2 h3 h4) hrun hk hr hK rfl .id (λ_ h=>h) λt c kk s n li co w Γ H m7 e3 hrun h hk kp hw hn hr hK=>⟨_,_,_,_,_,_,rfl,?_⟩
   replace hi:=hi.keep kp;replace ht:=ht.keep kp;replace hb1:=hb1.keep kp;replace hb2:=hb2.keep kp;replace hb3:=hb3.keep kp;replace hn1:=hn1.keep hr.rex kp;replace hn2:=hn2.keep hr.rex kp
   refine jS hk hb3.e rfl (by simp only [qt,hw];rfl) λH hk=> ?_
   replace hK:=hK.upd (i:=m4) (cs:=some [iv kk,.str s,iv n,iv li,iv co,w]) hm0 (by omega)
   replace hr:=hr.upd (cs:=[iv kk,.str s,iv n,iv li,iv co,w]) (b:=m4) hb3.ne hm3
   replace hi:=hi.set (i:=m4) (cs:=some [iv kk,.str s,iv n,iv li,iv co,w]) (by omega)
   replace ht:=ht.set (j:=m4) (ds:=some [iv kk,.str s,iv n,iv li,iv co,w]) (by omega)
   replace hb1:=hb1.set (j:=m4) (ds:=some [iv kk,.str s,iv n,iv li,iv co,w]) (by omega)
   replace hb2:=hb2.set (j:=m4) (ds:=some [iv kk,.str s,iv n,iv li,iv co,w]) (by omega)
   replace hb3:=hb3.same (ds:=[iv kk,.str s,iv n,iv li,iv co,w])
   replace hn1:=hn1.set (cs:=some [iv kk,.str s,iv n,iv li,iv co,w])
   replace hn2:=hn2.set (cs:=some [iv kk,.str s,iv n,iv li,iv co,w])
   have hn3:=hn.set (cs:=some [iv kk,.str s,iv n,iv li,iv co,w])
   refine⟨_,_,_,_,_,ht.tok hk,_,_,_,_,_,_,qX hk hb1.e rfl,_,_,_,_,_,_,qX hk hb2.e rfl,_,_,_,_,_,_,qX hk hb3.e rfl,?_⟩
   refine Jf (nx':=m7+1) (C:=(C.add nx).add m4) hk lR (by omega) hr hK rfl λΓ H hk hr hb hx kp hK=> ?_
   replace hi:=hi.keep kp;replace hn1:=hn1.keep hr.rex kp;replace hn2:=hn2.keep hr.rex kp;replace hn3:=hn3.keep hr.rex kp
   cases hrun
   exact jJ hk (hr.less (.inr hrex)) hi hf hrex ((zC.blk (n:=3) hx hb.e (.cons hn1 (.cons hn2 hn3.one)) rfl).mono (λ_ h=> .inr h) λ_ _ _ h=>h) rfl hK
  ·replace hrun:=(if_neg (show¬Ps.is C.l _ Ps.wIf=true by rw [show Ps.is C.l _ Ps.wIf=false from h1];simp)).symm.trans hrun
   refine kJ (C:=(C.add nx).add m4) hk hr hK λH m7 h hk hK=>⟨_,rfl,qf.2 ⟨λh1=> ?_,λh1=> ?_⟩⟩
   ·replace hrun:=(if_pos (show Ps.is C.l _ [123]=true from h1)).symm.trans hrun
    refine qV (C:=(C.add nx).add m4) (λZ ex res Γ H nx K h=>ih.block d hd Z ex _ res Γ H nx K h) hrun hk hr hK rfl .id (λ_ h=>h) λt c kk s n li co w Γ H m8 e3 hrun h hk kp hw hn hr hK=>⟨_,_,_,_,_,_,rfl,?_⟩
    replace hi:=hi.keep kp;replace ht:=ht.keep kp;replace hb1:=hb1.keep kp;replace hb2:=hb2.keep kp;replace hb3:=hb3.keep kp;replace hn1:=hn1.keep hr.rex kp;replace hn2:=hn2.keep hr.rex kp
    refine jS hk hb3.e rfl (by simp only [qt,hw];rfl) λH hk=> ?_
    replace hK:=hK.upd (i:=m4) (cs:=some [iv kk,.str s,iv n,iv li,iv co,w]) hm0 (by omega)
    replace hr:=hr.upd (cs:=[iv kk,.str s,iv n,iv li,iv co,w]) (b:=m4) hb3.ne hm3
    replace hi:=hi.set (i:=m4) (cs:=some [iv kk,.str s,iv n,iv li,iv co,w]) (by omega)
    replace ht:=ht.set (j:=m4) (ds:=some [iv kk,.str s,iv n,iv li,iv co,w]) (by omega)
    replace hb1:=hb1.set (j:=m4) (ds:=some [iv kk,.str s,iv n,iv li,iv co,w]) (by omega)
    replace hb2:=hb2.set (j:=m4) (ds:=some [iv kk,.str s,iv n,iv li,iv co,w]) (by omega)
    replace hb3:=hb3.same (ds:=[iv kk,.str s,iv n,iv li,iv co,w])
    replace hn1:=hn1.set (cs:=some [iv kk,.str s,iv n,iv li,iv co,w])
    replace hn2:=hn2.set (cs:=some [iv kk,.str s,iv n,iv li,iv co,w])
    have hn3:=hn.set (cs:=some [iv kk,.str s,iv n,iv li,iv co,w])
    refine⟨_,_,_,_,_,ht.tok hk,_,_,_,_,_,_,qX hk hb1.e rfl,_,_,_,_,_,_,qX hk hb2.e rfl,_,_,_,_,_,_,qX hk hb3.e rfl,?_⟩
    refine Jf (nx':=m8+1) (C:=(C.add nx).add m4) hk lR (by omega) hr hK rfl λΓ H hk hr hb hx kp hK=> ?_
    replace hi:=hi.keep kp;replace hn1:=hn1.keep hr.rex kp;replace hn2:=hn2.keep hr.rex kp;replace hn3:=hn3.keep hr.rex kp
    cases hrun
    exact jJ hk (hr.less (.inr hrex)) hi hf hrex ((zC.blk (n:=3) hx hb.e (.cons hn1 (.cons hn2 hn3.one)) rfl).mono (λ_ h=> .inr h) λ_ _ _ h=>h) rfl hK
   ·replace hrun:=(if_neg (show¬Ps.is C.l _ [123]=true by rw [show Ps.is C.l _ [123]=false from h1];simp)).symm.trans hrun
    cases hrun
    exact y2 (C:=(C.add nx).add m4) hk hr λH nx2 h2 hk=>ql.2 ((hK.from h2 (.refl _ _ _)).pan rfl hk hr.p)
 ·refine⟨_,_,_,_,_,ht.tok hk,_,_,_,_,_,_,qX hk hb1.e rfl,_,_,_,_,_,_,qX hk hb2.e rfl,_,_,_,_,_,_,qX hk hb3.e rfl,?_⟩
  refine Jf (nx':=m5+1) (C:=(C.add nx).add m4) hk lR (by omega) hr hK rfl λΓ H hk hr hb hx kp hK=> ?_
  replace hi:=hi.keep kp;replace hn1:=hn1.keep hr.rex kp;replace hn2:=hn2.keep hr.rex kp;replace hn3:=hn3.keep hr.rex kp
  cases hrun
  exact jJ hk (hr.less (.inr hrex)) hi hf hrex ((zC.blk (n:=3) hx hb.e (.cons hn1 (.cons hn2 hn3.one)) rfl).mono (λ_ h=> .inr h) λ_ _ _ h=>h) rfl hK
theorem qbl(W:kv C.l)(ih:IH C.l C.r C.tb n)(hrun:Ps.typeDecl C.l n a=some res)(hk:HZ Z Γ H nx)(hr:Rd Γ C a 0)(hK:ja Z K Γ nx C 0 res (zM C.ex)):qo PG yS [.ptr C.r 0] H nx K:=by
 refine qo.of_body qp ?_
 rw [VM];unfold Ps.typeDecl at hrun;have hrex:=hr.rex
 refine kl hk hr hK λΓ H hk hr hi hf hK kp=> ?_
 refine z0 (C:=C.add nx) W hrun hk hr hK rfl .id (λ_ h=>h) λΓ H m1 his hrun h hk kp hr hK=>⟨_,_,_,_,_,rfl,?_⟩
 replace hi:=hi.keep kp
 refine vJ (C:=C.add nx) hk hr hK rfl λΓ H hk hr ht kp hK=> ?_
 replace hi:=hi.keep kp
 refine jZ (C:=C.add nx) W hrun hk hr hK rfl .id (λ_ h=>h) λΓ H m2 hkd hrun h hk kp hr hK=>⟨_,_,_,_,_,rfl,?_⟩
 replace hi:=hi.keep kp;replace ht:=ht.keep kp
 refine zi (C:=C.add nx) W hrun hk hr hK rfl (λ_ h=>h) (λΓ H m3 his hrun h hk kp hr hK=>⟨_,rfl,jD rfl ?_⟩) (λH m3 his hrun h hk hK=>⟨_,rfl,jE rfl ?_⟩)
 ·replace hi:=hi.keep kp;replace ht:=ht.keep kp
  refine⟨_,_,_,_,_,ht.tok hk,⟨⟨_,_,_,_,_,ht.tok hk,rfl⟩,trivial⟩,?_⟩
  refine Kq (C:=C.add nx) W (Jz rfl) qhu (ih.method 0 (by omega)) hrun (hk.more (by omega)) hr (hK.from (by omega) (.refl _ _ _)) rfl .id (λ_ h=>h) λts b v Γ H m4 hrun h hk kp hv hr hK=> ?_
  replace hi:=hi.keep kp;replace ht:=ht.keep kp
  cases hrun
  exact⟨⟨⟨_,_,_,_,_,ht.tok hk,rfl⟩,trivial⟩,jV hk hr hi hf hrex hv rfl hK⟩
 ·refine z0 (C:=C.add nx) W hrun hk hr hK rfl .id (λ_ h=>h) λΓ H m4 his hrun h hk kp hr hK=>⟨_,_,_,_,_,rfl,?_⟩
  replace hi:=hi.keep kp;replace ht:=ht.keep kp
  refine⟨_,_,_,_,_,ht.tok hk,⟨⟨_,_,_,_,_,ht.tok hk,rfl⟩,trivial⟩,?_⟩
  refine Kq (C:=C.add nx) W (Jz rfl) qmw (ih.field 0 (by omega)) hrun (hk.more (by omega)) hr (hK.from (by omega) (.refl _ _ _)) rfl .id (λ_ h=>h) λts b v Γ H m5 hrun h hk kp hv hr hK=> ?_
  replace hi:=hi.keep kp;replace ht:=ht.keep kp
  cases hrun
  exact⟨⟨⟨_,_,_,_,_,ht.tok hk,rfl⟩,trivial⟩,jV hk hr hi hf hrex hv rfl hK⟩
end
section
variable{Γ0 Γ:GH}{n0:Nat}{H:qc}{nx a d n i:Nat}{C:RC}{K:qr}{res:Except Flt (qu×Nat)}
theorem qqg(W:kv C.l)(ih:IH C.l C.r C.tb n)(hd:d<=40)(hrun:Ps.run C.l (n+1) .stmt d a=some res)(hk:HZ Z Γ H nx)(hr:Rd Γ C a d)(hK:ja Z K Γ nx C d res (zM C.ex)):qo PG Qi [.ptr C.r 0] H nx K:=by
 refine qo.of_body qp ?_
 rw [qc3];simp only [Ps.run]at hrun
 have hrex:=hr.rex
 refine kl hk hr hK λΓ H hk hr hi hf hK kp=> ?_
 refine Xs (C:=C.add nx) hk hr hd (λhd1 Γ H m0 h hk kp hr=>ql.2 ?_) (λhd1 Γ H m0 h hk kp hr=>qb.2 ?_)
 ·rw [if_pos hd1]at hrun;cases hrun
  exact(hK.from h kp).pan rfl hk hr.p
 rw [if_neg hd1]at hrun;replace hd1:d+1<=40:=by omega
 replace hK:=hK.from h kp
 replace hi:=hi.keep kp
 refine kZ (C:=(C.add nx)) hk hr hK λH m1_10 h hk hK=>⟨_,_,_,_,_,rfl,?_⟩
 refine vJ (C:=(C.add nx)) hk hr hK rfl λΓ H hk hr ht kp hK=> ?_
 replace hi:=hi.keep kp
 refine kJ (C:=(C.add nx)) (s:=[123]) hk hr hK λH m2_13 h hk hK=>⟨_,rfl,qf.2 ⟨λh1=> ?_,λh1=> ?_⟩⟩
 ·
  replace hrun:=(if_pos (show Ps.is C.l _ [123]=true by simpa using h1)).symm.trans hrun
  refine vf (C:=(C.add nx)) (λZ ex res Γ H nx K h=>ih.block (d+1) hd1 Z ex _ res Γ H nx K h) hrun hk hr hK rfl .lv (λ_ h=>h) λt c kk s n1 li co w Γ H m9 e3 e4 h hk kp hw hn hr hK=>⟨_,_,_,_,_,_,rfl,?_⟩
  replace hi:=hi.keep kp;replace ht:=ht.keep kp
  exact Kh hk hr hi hf hrex hw hn e4 hK
 ·
  replace hrun:=(if_neg (show¬Ps.is C.l _ [123]=true by simpa using h1)).symm.trans hrun
  refine zi (C:=(C.add nx)) W hrun hk hr hK rfl (λ_ h=>h) (λΓ H m3_21 his hrun h hk kp hr hK=>⟨_,rfl,jD rfl ?_⟩) (λH m3_21 his hrun h hk hK=>⟨_,rfl,jE rfl ?_⟩)
  ·
   replace hi:=hi.keep kp;replace ht:=ht.keep kp
   refine jZ (C:=(C.add nx)) W hrun hk hr hK rfl .lv (λ_ h=>h) λΓ H m4_24 hkd hrun h hk kp hr hK=>⟨_,_,_,_,_,rfl,?_⟩
   replace hi:=hi.keep kp;replace ht:=ht.keep kp
   refine qV (C:=(C.add nx)) (λZ ex res Γ H nx K h=>ih.typ (d+1) hd1 Z ex _ res Γ H nx K h) hrun hk hr hK rfl .lv (λ_ h=>h) λt1 c1 kk1 s1 n1 li1 co1 w1 Γ H m5_26 e1 hrun h hk kp hw1 hn1 hr hK=>⟨_,_,_,_,_,_,rfl,?_⟩
   replace hi:=hi.keep kp;replace ht:=ht.keep kp
   refine kI (C:=(C.add nx)) hk hr hw1 hK rfl λΓ H hk hr hb1 kp hK=> ?_
   replace hi:=hi.keep kp;replace ht:=ht.keep kp;replace hn1:=hn1.keep hr.rex kp
   refine⟨_,_,_,_,_,ht.tok hk,_,_,_,_,_,_,qX hk hb1.e rfl,⟨⟨_,_,_,_,_,ht.tok hk,rfl⟩,⟨_,_,_,_,_,_,qX hk hb1.e rfl,rfl⟩,trivial⟩,?_⟩
   obtain⟨hk',hni⟩:=jv (i:=m5_26+1+5) (nx':=m5_26+1+8) hk (by omega) (by omega)
   replace hrun:Rs.bind (if Ps.is C.l c1 [61]=true then Ps.run C.l n .expr (d+1) (c1+1)else Rs.ok (Ps.none_,c1)) (λx=>Rs.ok (Ps.mk (Ps.tk C.l a) 11 (Ps.tk C.l (a+1)).text [t1,x.1],x.2))=some res:=by rw [<-hrun];dsimp only;split<;>rfl
   refine qV (one:=λc=>if Ps.is C.l c [61]=true then Ps.run C.l n .expr (d+1) (c+1)else Rs.ok (Ps.none_,c)) (C:=(C.add nx)) (λZ ex res Γ H nx K h h2 h3 h4=>qn3 (C:=⟨C.r,C.tb,C.l,ex⟩) W ih hd1 h h2 h3 h4) hrun hk' hr (hK.from (by omega) (.refl _ _ _)) rfl .lv wI λt2 c2 kk2 s2 n2 li2 co2 w2 Γ H m6_33 e2 hrun h hk kp hw2 hn2 hr hK=>⟨_,_,_,_,_,_,rfl,?_⟩
   replace hi:=hi.keep kp;replace ht:=ht.keep kp;replace hn1:=hn1.keep hr.rex kp;replace hb1:=hb1.keep kp
   refine jy (C:=(C.add nx)) hk hni hr hK rfl (by omega) λΓ H hk hr hb hxhb kp hK=> ?_
   replace hi:=hi.keep kp;replace ht:=ht.keep kp;replace hn1:=hn1.keep hr.rex kp;replace hb1:=hb1.keep kp;replace hn2:=hn2.keep hr.rex kp
   refine⟨⟨⟨_,_,_,_,_,ht.tok hk,rfl⟩,⟨_,_,_,_,_,_,qX hk hb1.e rfl,rfl⟩,trivial⟩,?_⟩
   cases hrun
   exact wi hk hr hi hf hrex (zC.blk (n:=2) hxhb hb.e (.cons hn1 hn2.one) rfl) rfl hK
  refine kJ (C:=(C.add nx)) (s:=Ps.wIf) hk hr hK λH m4_40 h hk hK=>⟨_,rfl,qf.2 ⟨λh1=> ?_,λh1=> ?_⟩⟩
  ·
   replace hrun:=(if_pos (show Ps.is C.l _ Ps.wIf=true by simpa using h1)).symm.trans hrun
   refine vf (C:=(C.add nx)) (λZ ex res Γ H nx K h=>ih.ifs (d+1) hd1 Z ex _ res Γ H nx K h) hrun hk hr hK rfl .lv (λ_ h=>h) λt c kk s n1 li co w Γ H m9 e3 e4 h hk kp hw hn hr hK=>⟨_,_,_,_,_,_,rfl,?_⟩
   replace hi:=hi.keep kp;replace ht:=ht.keep kp
   exact Kh hk hr hi hf hrex hw hn e4 hK
  ·
   replace hrun:=(if_neg (show¬Ps.is C.l _ Ps.wIf=true by simpa using h1)).symm.trans hrun
   refine zi (C:=(C.add nx)) W hrun hk hr hK rfl (λ_ h=>h) (λΓ H m5_48 his hrun h hk kp hr hK=>⟨_,rfl,jD rfl ?_⟩) (λH m5_48 his hrun h hk hK=>⟨_,rfl,jE rfl ?_⟩)
   ·
    replace hi:=hi.keep kp;replace ht:=ht.keep kp
    refine v2 (C:=C.add nx) hk hK λH mE h hk hn1 hK=>⟨_,_,_,_,_,_,rfl,?_⟩
    have hmE:=hk.fresh (Nat.le_refl mE)
    have hm0:=hK.none hmE (hr.r_ne hmE)
    have hm3:=hr.tb_ne hmE
    replace hn1:=hn1.raise hmE
    refine kI (C:=(C.add nx)) hk hr rfl hK rfl λΓ H hk hr hbE kp hK=> ?_
    replace hi:=hi.keep kp;replace ht:=ht.keep kp
    replace hr:Rd Γ ((C.add nx).add mE) _ (d+1):=hr.add (by rw [hbE.e];simp)
    replace hn1:=hn1.keep hr.rex kp
    refine kJ (C:=((C.add nx).add mE)) (s:=[123]) hk hr hK λH m6_60 h hk hK=>⟨_,rfl,qf.2 ⟨λh1=> ?_,λh1=> ?_⟩⟩
    ·
     replace hrun:=(if_neg (show¬Ps.is C.l _ [123]=true by simpa using h1)).symm.trans hrun
     refine qV (C:=((C.add nx).add mE)) (λZ ex res Γ H nx K h=>ih.expr (d+1) hd1 Z ex _ res Γ H nx K h) hrun hk hr hK rfl .lv (λ_ h=>h) λt3 c3 kk3 s3 n3 li3 co3 w3 Γ H m7_63 e3 hrun h hk kp hw3 hn3 hr hK=>⟨_,_,_,_,_,_,rfl,?_⟩
     replace hi:=hi.keep kp;replace ht:=ht.keep kp;replace hbE:=hbE.keep kp;replace hn1:=hn1.keep hr.rex kp
     refine jS hk hbE.e rfl (by simp only [qt,hw3];rfl) λH hk=> ?_
     replace hK:=hK.upd (i:=mE) (cs:=some [iv kk3,.str s3,iv n3,iv li3,iv co3,w3]) hm0 (by omega)
     replace hr:=hr.upd (cs:=[iv kk3,.str s3,iv n3,iv li3,iv co3,w3]) (b:=mE) hbE.ne hm3
     replace hi:=hi.set (i:=mE) (cs:=some [iv kk3,.str s3,iv n3,iv li3,iv co3,w3]) (by omega)
     replace ht:=ht.set (j:=mE) (ds:=some [iv kk3,.str s3,iv n3,iv li3,iv co3,w3]) (by omega)
     replace hbE:=hbE.same (ds:=[iv kk3,.str s3,iv n3,iv li3,iv co3,w3])
     replace hn1:=hn3.set (cs:=some [iv kk3,.str s3,iv n3,iv li3,iv co3,w3])
     refine⟨_,_,_,_,_,ht.tok hk,_,_,_,_,_,_,qX hk hbE.e rfl,⟨⟨_,_,_,_,_,ht.tok hk,rfl⟩,⟨_,_,_,_,_,_,qX hk hbE.e rfl,rfl⟩,trivial⟩,?_⟩
     obtain⟨hk',hni⟩:=jv (i:=m7_63+4) (nx':=m7_63+7) hk (by omega) (by omega)
     refine qV (C:=((C.add nx).add mE)) (λZ ex res Γ H nx K h=>ih.block (d+1) hd1 Z ex _ res Γ H nx K h) hrun hk' hr (hK.from (by omega) (.refl _ _ _)) rfl .lv wI λt2 c2 kk2 s2 n2 li2 co2 w2 Γ H m8_74 e2 hrun h hk kp hw2 hn2 hr hK=>⟨_,_,_,_,_,_,rfl,?_⟩
     replace hi:=hi.keep kp;replace ht:=ht.keep kp;replace hbE:=hbE.keep kp;replace hn1:=hn1.keep hr.rex kp
     refine jy (C:=((C.add nx).add mE)) hk hni hr hK rfl (by omega) λΓ H hk hr hb hxhb kp hK=> ?_
     replace hi:=hi.keep kp;replace ht:=ht.keep kp;replace hbE:=hbE.keep kp;replace hn1:=hn1.keep hr.rex kp;replace hn2:=hn2.keep hr.rex kp
     refine⟨⟨⟨_,_,_,_,_,ht.tok hk,rfl⟩,⟨_,_,_,_,_,_,qX hk hbE.e rfl,rfl⟩,trivial⟩,?_⟩
     cases hrun
     exact wi hk (hr.less (.inr hrex)) hi hf hrex ((zC.blk (n:=2) hxhb hb.e (.cons hn1 hn2.one) rfl).mono (λ_ h=> .inr h) λ_ _ _ h=>h) rfl hK
    ·
     replace hrun:=(if_pos (show Ps.is C.l _ [123]=true by simpa using h1)).symm.trans hrun
     refine⟨_,_,_,_,_,ht.tok hk,_,_,_,_,_,_,qX hk hbE.e rfl,⟨⟨_,_,_,_,_,ht.tok hk,rfl⟩,⟨_,_,_,_,_,_,qX hk hbE.e rfl,rfl⟩,trivial⟩,?_⟩
     obtain⟨hk',hni⟩:=jv (i:=m6_60+4) (nx':=m6_60+7) hk (by omega) (by omega)
     refine qV (C:=((C.add nx).add mE)) (λZ ex res Γ H nx K h=>ih.block (d+1) hd1 Z ex _ res Γ H nx K h) hrun hk' hr (hK.from (by omega) (.refl _ _ _)) rfl .lv wI λt2 c2 kk2 s2 n2 li2 co2 w2 Γ H m7_85 e2 hrun h hk kp hw2 hn2 hr hK=>⟨_,_,_,_,_,_,rfl,?_⟩
     replace hi:=hi.keep kp;replace ht:=ht.keep kp;replace hbE:=hbE.keep kp;replace hn1:=hn1.keep hr.rex kp
     refine jy (C:=((C.add nx).add mE)) hk hni hr hK rfl (by omega) λΓ H hk hr hb hxhb kp hK=> ?_
     replace hi:=hi.keep kp;replace ht:=ht.keep kp;replace hbE:=hbE.keep kp;replace hn1:=hn1.keep hr.rex kp;replace hn2:=hn2.keep hr.rex kp
     refine⟨⟨⟨_,_,_,_,_,ht.tok hk,rfl⟩,⟨_,_,_,_,_,_,qX hk hbE.e rfl,rfl⟩,trivial⟩,?_⟩
     cases hrun
     exact wi hk (hr.less (.inr hrex)) hi hf hrex ((zC.blk (n:=2) hxhb hb.e (.cons hn1 hn2.one) rfl).mono (λ_ h=> .inr h) λ_ _ _ h=>h) rfl hK
   refine zi (C:=(C.add nx)) W hrun hk hr hK rfl (λ_ h=>h) (λΓ H m6_92 his hrun h hk kp hr hK=>⟨_,rfl,jD rfl ?_⟩) (λH m6_92 his hrun h hk hK=>⟨_,rfl,jE rfl ?_⟩)
   ·
    replace hi:=hi.keep kp;replace ht:=ht.keep kp
    refine⟨_,_,_,_,_,ht.tok hk,?_⟩
    cases hrun
    exact Vh hk hr hi hf hrex .nil rfl hK
   refine zi (C:=(C.add nx)) W hrun hk hr hK rfl (λ_ h=>h) (λΓ H m7_98 his hrun h hk kp hr hK=>⟨_,rfl,jD rfl ?_⟩) (λH m7_98 his hrun h hk hK=>⟨_,rfl,jE rfl ?_⟩)
   ·
    replace hi:=hi.keep kp;replace ht:=ht.keep kp
    refine⟨_,_,_,_,_,ht.tok hk,?_⟩
    cases hrun
    exact Vh hk hr hi hf hrex .nil rfl hK
   refine zi (C:=(C.add nx)) W hrun hk hr hK rfl (λ_ h=>h) (λΓ H m8_104 his hrun h hk kp hr hK=>⟨_,rfl,jD rfl ?_⟩) (λH m8_104 his hrun h hk hK=>⟨_,rfl,jE rfl ?_⟩)
   ·
    replace hi:=hi.keep kp;replace ht:=ht.keep kp
    rw [qgo]at hrun;refine kJ (C:=(C.add nx)) (s:=[59]) hk hr hK λH m9_108 h hk hK=>⟨_,rfl,qf.2 ⟨λh1=> ?_,λh1=> ?_⟩⟩
    ·
     replace hrun:=(if_pos (show Ps.is C.l _ [59]=true by simpa using h1)).symm.trans hrun
     refine⟨_,_,_,_,_,ht.tok hk,⟨⟨_,_,_,_,_,ht.tok hk,rfl⟩,trivial⟩,?_⟩
     obtain⟨hk',hni⟩:=jv (i:=m9_108+2) (nx':=m9_108+5) hk (by omega) (by omega)
     refine v2 (C:=C.add nx) hk' (hK.from (by omega) (.refl _ _ _)) λH m9 h hk hn1 hK=>⟨_,_,_,_,_,_,rfl,?_⟩
     refine jy (C:=(C.add nx)) hk hni hr hK rfl (by omega) λΓ H hk hr hb hxhb kp hK=> ?_
     replace hi:=hi.keep kp;replace ht:=ht.keep kp;replace hn1:=hn1.keep hr.rex kp
     refine⟨⟨⟨_,_,_,_,_,ht.tok hk,rfl⟩,trivial⟩,?_⟩
     cases hrun
     exact wi hk hr hi hf hrex (zC.blk (n:=1) hxhb hb.e hn1.one rfl) rfl hK
    ·
     replace hrun:=(if_neg (show¬Ps.is C.l _ [59]=true by simpa using h1)).symm.trans hrun
     refine kJ (C:=(C.add nx)) (s:=[125]) hk hr hK λH m10_121 h hk hK=>⟨_,rfl,qf.2 ⟨λh1=> ?_,λh1=> ?_⟩⟩
     ·
      replace hrun:=(if_pos (show Ps.is C.l _ [125]=true by simpa using h1)).symm.trans hrun
      refine⟨_,_,_,_,_,ht.tok hk,⟨⟨_,_,_,_,_,ht.tok hk,rfl⟩,trivial⟩,?_⟩
      obtain⟨hk',hni⟩:=jv (i:=m10_121+2) (nx':=m10_121+5) hk (by omega) (by omega)
      refine v2 (C:=C.add nx) hk' (hK.from (by omega) (.refl _ _ _)) λH m9 h hk hn1 hK=>⟨_,_,_,_,_,_,rfl,?_⟩
      refine jy (C:=(C.add nx)) hk hni hr hK rfl (by omega) λΓ H hk hr hb hxhb kp hK=> ?_
      replace hi:=hi.keep kp;replace ht:=ht.keep kp;replace hn1:=hn1.keep hr.rex kp
      refine⟨⟨⟨_,_,_,_,_,ht.tok hk,rfl⟩,trivial⟩,?_⟩
      cases hrun
      exact wi hk hr hi hf hrex (zC.blk (n:=1) hxhb hb.e hn1.one rfl) rfl hK
     ·
      replace hrun:=(if_neg (show¬Ps.is C.l _ [125]=true by simpa using h1)).symm.trans hrun
      refine⟨_,_,_,_,_,ht.tok hk,⟨⟨_,_,_,_,_,ht.tok hk,rfl⟩,trivial⟩,?_⟩
      obtain⟨hk',hni⟩:=jv (i:=m10_121+3) (nx':=m10_121+6) hk (by omega) (by omega)
      refine qV (C:=(C.add nx)) (λZ ex res Γ H nx K h=>ih.expr (d+1) hd1 Z ex _ res Γ H nx K h) hrun hk' hr (hK.from (by omega) (.refl _ _ _)) rfl .lv wI λt1 c1 kk1 s1 n1 li1 co1 w1 Γ H m11_136 e1 hrun h hk kp hw1 hn1 hr hK=>⟨_,_,_,_,_,_,rfl,?_⟩
      replace hi:=hi.keep kp;replace ht:=ht.keep kp
      refine jy (C:=(C.add nx)) hk hni hr hK rfl (by omega) λΓ H hk hr hb hxhb kp hK=> ?_
      replace hi:=hi.keep kp;replace ht:=ht.keep kp;replace hn1:=hn1.keep hr.rex kp
      refine⟨⟨⟨_,_,_,_,_,ht.tok hk,rfl⟩,trivial⟩,?_⟩
      cases hrun
      exact wi hk hr hi hf hrex (zC.blk (n:=1) hxhb hb.e hn1.one rfl) rfl hK
   refine zi (C:=(C.add nx)) W hrun hk hr hK rfl (λ_ h=>h) (λΓ H m9_143 his hrun h hk kp hr hK=>⟨_,rfl,jD rfl ?_⟩) (λH m9_143 his hrun h hk hK=>⟨_,rfl,jE rfl ?_⟩)
   ·
    replace hi:=hi.keep kp;replace ht:=ht.keep kp
    refine z0 (C:=(C.add nx)) W hrun hk hr hK rfl .lv (λ_ h=>h) λΓ H m10_146 his hrun h hk kp hr hK=>⟨_,_,_,_,_,rfl,?_⟩
    replace hi:=hi.keep kp;replace ht:=ht.keep kp
    refine qV (C:=(C.add nx)) (λZ ex res Γ H nx K h=>ih.expr (d+1) hd1 Z ex _ res Γ H nx K h) hrun hk hr hK rfl .lv (λ_ h=>h) λt1 c1 kk1 s1 n1 li1 co1 w1 Γ H m11_148 e1 hrun h hk kp hw1 hn1 hr hK=>⟨_,_,_,_,_,_,rfl,?_⟩
    replace hi:=hi.keep kp;replace ht:=ht.keep kp
    refine kI (C:=(C.add nx)) hk hr hw1 hK rfl λΓ H hk hr hb1 kp hK=> ?_
    replace hi:=hi.keep kp;replace ht:=ht.keep kp;replace hn1:=hn1.keep hr.rex kp
    refine z0 (C:=(C.add nx)) W hrun hk hr hK rfl .lv (λ_ h=>h) λΓ H m12_152 his hrun h hk kp hr hK=>⟨_,_,_,_,_,rfl,?_⟩
    replace hi:=hi.keep kp;replace ht:=ht.keep kp;replace hn1:=hn1.keep hr.rex kp;replace hb1:=hb1.keep kp
    refine⟨_,_,_,_,_,ht.tok hk,_,_,_,_,_,_,qX hk hb1.e rfl,?_⟩
    refine Jf (nx':=m12_152+1) (C:=(C.add nx)) hk lR (by omega) hr hK rfl λΓ H hk hr hb hxhb kp hK=> ?_
    replace hi:=hi.keep kp;replace ht:=ht.keep kp;replace hn1:=hn1.keep hr.rex kp;replace hb1:=hb1.keep kp
    cases hrun
    exact Vh hk hr hi hf hrex (zC.blk (n:=1) hxhb hb.e hn1.one rfl) rfl hK
   refine vf (one:=λa=>Rs.bind (Ps.run C.l n .expr (d+1) a) λ(e,b)=>if Ps.is C.l b [58,61]then Rs.bind (Ps.run C.l n .expr (d+1) (b+1)) λ(y,c)=>Rs.ok (Ps.mk (Ps.tk C.l b) 12 [] [e,y],c)else if Ps.is C.l b [61]then Rs.bind (Ps.run C.l n .expr (d+1) (b+1)) λ(y,c)=>Rs.ok (Ps.mk (Ps.tk C.l b) 13 [] [e,y],c)else Rs.ok (Ps.mk (Ps.tk C.l a) 19 [] [e],b)) (C:=(C.add nx)) (λZ ex res Γ H nx K h h2 h3 h4=>qhs (C:=⟨C.r,C.tb,C.l,ex⟩) W ih hd1 h h2 h3 h4) hrun hk hr hK rfl .lv (λ_ h=>h) λt c kk s n1 li co w Γ H m9 e3 e4 h hk kp hw hn hr hK=>⟨_,_,_,_,_,_,rfl,?_⟩
   replace hi:=hi.keep kp;replace ht:=ht.keep kp
   exact Kh hk hr hi hf hrex hw hn e4 hK
end
section
variable{Γ0 Γ:GH}{n0:Nat}{H:qc}{nx a d n i:Nat}{C:RC}{K:qr}{res:Except Flt (qu×Nat)}
abbrev qei(l:List Tok)(one:Nat->Rs (qu×Nat)):Nat->Rs (qu×Nat):=λa=>Ps.lift (Ps.need l a [40]) λb=>Rs.bind (one b) λ(x,c)=>Ps.lift (Ps.need l c [41]) λe=>Rs.ok (x,e)
theorem qbh{β:Type}{l:List Tok}{one:Nat->Rs (qu×Nat)}{a:Nat}{k:qu×Nat->Rs β}:Rs.bind (qei l one a) k=Ps.lift (Ps.need l a [40]) λb=>Rs.bind (one b) λ(x,c)=>Ps.lift (Ps.need l c [41]) λe=>k (x,e):=by
 unfold qei;cases Ps.need l a [40]with
 |error f=>rfl
 |ok b=>
  show Rs.bind (Rs.bind (one b) _) k=Rs.bind (one b) _
  cases one b with
  |none=>rfl
  |some r=>cases r with
   |error f=>rfl
   |ok p=>
    obtain⟨x,c⟩:=p
    show Rs.bind (Ps.lift (Ps.need l c [41]) λe=>Rs.ok (x,e)) k=Ps.lift (Ps.need l c [41]) λe=>k (x,e)
    cases Ps.need l c [41]<;>rfl
theorem qkg(W:kv C.l)(ih:IH C.l C.r C.tb n)(hd:d<=40)(hrun:Ps.run C.l (n+1) .prime d a=some res)(hk:HZ Z Γ H nx)(hr:Rd Γ C a d)(hK:ja Z K Γ nx C d res (zM C.ex)):qo PG QH [.ptr C.r 0] H nx K:=by
 refine qo.of_body qp ?_
 rw [qa4];simp only [Ps.run]at hrun
 have hrex:=hr.rex
 refine kl hk hr hK λΓ H hk hr hi hf hK kp=> ?_
 refine kZ (C:=(C.add nx)) hk hr hK λH m1_2 h hk hK=>⟨_,_,_,_,_,rfl,?_⟩
 refine vJ (C:=(C.add nx)) hk hr hK rfl λΓ H hk hr ht kp hK=> ?_
 replace hi:=hi.keep kp
 refine⟨_,rfl,_,ht.ld hk 0,qf.2 ⟨λh1=> ?_,λh1=> ?_⟩⟩
 ·
  replace h1:(Ps.tk C.l a).kind=4:=of_decide_eq_true h1
  rw [if_pos (by simp [h1])]at hrun
  refine JX (C:=C.add nx) W hk hr (by show(Ps.tk C.l a).kind≠0;rw [h1];decide) λΓ H mN h hk kp hr=>qb.2 ⟨_,_,_,_,_,rfl,?_⟩
  replace hK:=hK.from h kp
  replace hi:=hi.keep kp;replace ht:=ht.keep kp
  refine⟨_,_,_,_,_,ht.tok hk,?_⟩
  refine z8 (C:=C.add nx) (ts:=[]) hk .nil hK λH m2 h hk hn hw hK=>⟨_,_,_,_,_,_,rfl,?_⟩
  have hmE:=hk.fresh (Nat.le_refl m2)
  have hm0:=hK.none hmE (hr.r_ne hmE)
  have hm3:=hr.tb_ne hmE
  refine kI (C:=(C.add nx)) hk hr rfl hK rfl λΓ H hk hr hb kp hK=> ?_
  replace hi:=hi.keep kp;replace ht:=ht.keep kp
  refine⟨_,rfl,_,ht.ld hk 2,_,rfl,rfl,?_⟩
  refine Wh hk hb.e (j:=2) (by simp) rfl λH hk=> ?_
  refine⟨_,_,_,_,_,_,qX hk (qk _ _ _) rfl,?_⟩
  cases hrun
  exact Jr hk (hr.upd hb.ne hm3) (hi.set (by omega)) hf hrex rfl (.mk [] (.inl ⟨rfl,rfl,rfl⟩) .nil) rfl (hK.upd hm0 (by omega))
 replace h1:¬(Ps.tk C.l a).kind=4:=of_decide_eq_false h1
 rw [if_neg (by simp [h1])]at hrun
 refine qf.2 ⟨λh1=> ?_,λh1=> ?_⟩
 ·
  replace h1:(Ps.tk C.l a).kind=5:=of_decide_eq_true h1
  rw [if_pos (by simp [h1])]at hrun
  refine JX (C:=C.add nx) W hk hr (by show(Ps.tk C.l a).kind≠0;rw [h1];decide) λΓ H mN h hk kp hr=>qb.2 ⟨_,_,_,_,_,rfl,?_⟩
  replace hK:=hK.from h kp
  replace hi:=hi.keep kp;replace ht:=ht.keep kp
  refine⟨_,_,_,_,_,ht.tok hk,_,rfl,_,ht.ld hk 1,?_⟩
  cases hrun
  exact jJ hk hr hi hf hrex .nil rfl hK
 replace h1:¬(Ps.tk C.l a).kind=5:=of_decide_eq_false h1
 rw [if_neg (by simp [h1])]at hrun
 refine qf.2 ⟨λh1=> ?_,λh1=> ?_⟩
 ·
  replace h1:(Ps.tk C.l a).kind=2:=of_decide_eq_true h1
  rw [if_pos (by simp [h1])]at hrun
  refine JX (C:=C.add nx) W hk hr (by show(Ps.tk C.l a).kind≠0;rw [h1];decide) λΓ H mN h hk kp hr=>qb.2 ⟨_,_,_,_,_,rfl,?_⟩
  replace hK:=hK.from h kp
  replace hi:=hi.keep kp;replace ht:=ht.keep kp
  refine kJ (C:=(C.add nx)) (s:=[40]) hk hr hK λH m2_45 h hk hK=>⟨_,rfl,qf.2 ⟨λh1=> ?_,λh1=> ?_⟩⟩
  ·
   replace hrun:=(if_pos (show Ps.is C.l _ [40]=true by simpa using h1)).symm.trans hrun
   refine⟨_,_,_,_,_,ht.tok hk,_,rfl,_,ht.ld hk 1,⟨⟨_,_,_,_,_,ht.tok hk,rfl⟩,⟨_,ht.ld hk 1,rfl⟩,trivial⟩,?_⟩
   refine ZB (C:=C.add nx) W (Jz rfl) VR (ih.expr d hd) hrun (hk.more (by omega)) hr (hK.from (by omega) (.refl _ _ _)) rfl .id (λ_ h=>h) λts b v Γ H m6 erow hrun h hk kp hv hr hK=> ?_
   replace hi:=hi.keep kp;replace ht:=ht.keep kp
   cases hrun
   exact⟨⟨⟨_,_,_,_,_,ht.tok hk,rfl⟩,⟨_,ht.ld hk 1,rfl⟩,trivial⟩,jV hk hr hi hf hrex hv rfl hK⟩
  ·
   replace hrun:=(if_neg (show¬Ps.is C.l _ [40]=true by simpa using h1)).symm.trans hrun
   refine⟨_,_,_,_,_,ht.tok hk,_,rfl,_,ht.ld hk 1,?_⟩
   cases hrun
   exact jJ hk hr hi hf hrex .nil rfl hK
 replace h1:¬(Ps.tk C.l a).kind=2:=of_decide_eq_false h1
 rw [if_neg (by simp [h1])]at hrun
 refine zi (C:=(C.add nx)) W hrun hk hr hK rfl (λ_ h=>h) (λΓ H m2_60 his hrun h hk kp hr hK=>⟨_,rfl,jD rfl ?_⟩) (λH m2_60 his hrun h hk hK=>⟨_,rfl,jE rfl ?_⟩)
 ·
  replace hi:=hi.keep kp;replace ht:=ht.keep kp
  refine⟨_,_,_,_,_,ht.tok hk,?_⟩
  cases hrun
  exact jJ hk hr hi hf hrex .nil rfl hK
 refine zi (C:=(C.add nx)) W hrun hk hr hK rfl (λ_ h=>h) (λΓ H m3_66 his hrun h hk kp hr hK=>⟨_,rfl,jD rfl ?_⟩) (λH m3_66 his hrun h hk hK=>⟨_,rfl,jE rfl ?_⟩)
 ·
  replace hi:=hi.keep kp;replace ht:=ht.keep kp
  refine⟨_,_,_,_,_,ht.tok hk,?_⟩
  cases hrun
  exact jJ hk hr hi hf hrex .nil rfl hK
 refine zi (C:=(C.add nx)) W hrun hk hr hK rfl (λ_ h=>h) (λΓ H m4_72 his hrun h hk kp hr hK=>⟨_,rfl,jD rfl ?_⟩) (λH m4_72 his hrun h hk hK=>⟨_,rfl,jE rfl ?_⟩)
 ·
  replace hi:=hi.keep kp;replace ht:=ht.keep kp
  refine⟨_,_,_,_,_,ht.tok hk,?_⟩
  cases hrun
  exact jJ hk hr hi hf hrex .nil rfl hK
 refine kJ (C:=(C.add nx)) (s:=[40]) hk hr hK λH m5_78 h hk hK=>⟨_,rfl,qf.2 ⟨λh1=> ?_,λh1=> ?_⟩⟩
 ·
  replace hrun:=(if_pos (show Ps.is C.l _ [40]=true by simpa using h1)).symm.trans hrun
  replace hrun:qei C.l (Ps.run C.l n .expr d) a=some res:=by unfold qei Ps.need;rw [show Ps.is C.l a [40]=true by simpa using h1];exact hrun
  refine vf (one:=qei C.l (Ps.run C.l n .expr d)) (C:=(C.add nx)) (λZ ex res Γ H nx K h h2 h3 h4=>qek (C:=⟨C.r,C.tb,C.l,ex⟩) W VR (ih.expr d hd) h h2 h3 h4) hrun hk hr hK rfl .id (λ_ h=>h) λt c kk s n1 li co w Γ H m9 e3 e4 h hk kp hw hn hr hK=>⟨_,_,_,_,_,_,rfl,?_⟩
  replace hi:=hi.keep kp;replace ht:=ht.keep kp
  exact Jr hk hr hi hf hrex hw hn e4 hK
 ·
  replace hrun:=(if_neg (show¬Ps.is C.l _ [40]=true by simpa using h1)).symm.trans hrun
  refine zi (C:=(C.add nx)) W hrun hk hr hK rfl (λ_ h=>h) (λΓ H m6_87 his hrun h hk kp hr hK=>⟨_,rfl,jD rfl ?_⟩) (λH m6_87 his hrun h hk hK=>⟨_,rfl,jE rfl ?_⟩)
  ·
   replace hi:=hi.keep kp;replace ht:=ht.keep kp
   refine⟨_,_,_,_,_,ht.tok hk,⟨⟨_,_,_,_,_,ht.tok hk,rfl⟩,trivial⟩,?_⟩
   replace hrun:=(qbh (l:=C.l) (one:=Ps.run C.l n .expr d) (k:=λx=>Rs.ok (Ps.mk (Ps.tk C.l a) 33 [] [x.1],x.2))).trans hrun
   obtain⟨hk',hni⟩:=jv (i:=m6_87+5) (nx':=m6_87+8) hk (by omega) (by omega)
   refine qV (one:=qei C.l (Ps.run C.l n .expr d)) (C:=(C.add nx)) (λZ ex res Γ H nx K h h2 h3 h4=>qek (C:=⟨C.r,C.tb,C.l,ex⟩) W VR (ih.expr d hd) h h2 h3 h4) hrun hk' hr (hK.from (by omega) (.refl _ _ _)) rfl .id wI λt1 c1 kk1 s1 n1 li1 co1 w1 Γ H m7_93 e1 hrun h hk kp hw1 hn1 hr hK=>⟨_,_,_,_,_,_,rfl,?_⟩
   replace hi:=hi.keep kp;replace ht:=ht.keep kp
   refine jy (C:=(C.add nx)) hk hni hr hK rfl (by omega) λΓ H hk hr hb hxhb kp hK=> ?_
   replace hi:=hi.keep kp;replace ht:=ht.keep kp;replace hn1:=hn1.keep hr.rex kp
   refine⟨⟨⟨_,_,_,_,_,ht.tok hk,rfl⟩,trivial⟩,?_⟩
   cases hrun
   exact jV hk hr hi hf hrex (zC.blk (n:=1) hxhb hb.e hn1.one rfl) rfl hK
  refine zi (C:=(C.add nx)) W hrun hk hr hK rfl (λ_ h=>h) (λΓ H m7_100 his hrun h hk kp hr hK=>⟨_,rfl,jD rfl ?_⟩) (λH m7_100 his hrun h hk hK=>⟨_,rfl,jE rfl ?_⟩)
  ·
   replace hi:=hi.keep kp;replace ht:=ht.keep kp
   refine⟨_,_,_,_,_,ht.tok hk,⟨⟨_,_,_,_,_,ht.tok hk,rfl⟩,trivial⟩,?_⟩
   replace hrun:=(qbh (l:=C.l) (one:=Ps.run C.l n .typ d) (k:=λx=>Rs.ok (Ps.mk (Ps.tk C.l a) 35 [] [x.1],x.2))).trans hrun
   obtain⟨hk',hni⟩:=jv (i:=m7_100+5) (nx':=m7_100+8) hk (by omega) (by omega)
   refine qV (one:=qei C.l (Ps.run C.l n .typ d)) (C:=(C.add nx)) (λZ ex res Γ H nx K h h2 h3 h4=>qek (C:=⟨C.r,C.tb,C.l,ex⟩) W qkx (ih.typ d hd) h h2 h3 h4) hrun hk' hr (hK.from (by omega) (.refl _ _ _)) rfl .id wI λt1 c1 kk1 s1 n1 li1 co1 w1 Γ H m8_106 e1 hrun h hk kp hw1 hn1 hr hK=>⟨_,_,_,_,_,_,rfl,?_⟩
   replace hi:=hi.keep kp;replace ht:=ht.keep kp
   refine jy (C:=(C.add nx)) hk hni hr hK rfl (by omega) λΓ H hk hr hb hxhb kp hK=> ?_
   replace hi:=hi.keep kp;replace ht:=ht.keep kp;replace hn1:=hn1.keep hr.rex kp
   refine⟨⟨⟨_,_,_,_,_,ht.tok hk,rfl⟩,trivial⟩,?_⟩
   cases hrun
   exact jV hk hr hi hf hrex (zC.blk (n:=1) hxhb hb.e hn1.one rfl) rfl hK
  refine zi (C:=(C.add nx)) W hrun hk hr hK rfl (λ_ h=>h) (λΓ H m8_113 his hrun h hk kp hr hK=>⟨_,rfl,jD rfl ?_⟩) (λH m8_113 his hrun h hk hK=>⟨_,rfl,jE rfl ?_⟩)
  ·
   replace hi:=hi.keep kp;replace ht:=ht.keep kp
   refine z0 (C:=(C.add nx)) W hrun hk hr hK rfl .id (λ_ h=>h) λΓ H m9_116 his hrun h hk kp hr hK=>⟨_,_,_,_,_,rfl,?_⟩
   replace hi:=hi.keep kp;replace ht:=ht.keep kp
   refine qV (C:=(C.add nx)) (λZ ex res Γ H nx K h=>ih.typ d hd Z ex _ res Γ H nx K h) hrun hk hr hK rfl .id (λ_ h=>h) λt1 c1 kk1 s1 n1 li1 co1 w1 Γ H m10_118 e1 hrun h hk kp hw1 hn1 hr hK=>⟨_,_,_,_,_,_,rfl,?_⟩
   replace hi:=hi.keep kp;replace ht:=ht.keep kp
   refine kI (C:=(C.add nx)) hk hr hw1 hK rfl λΓ H hk hr hb1 kp hK=> ?_
   replace hi:=hi.keep kp;replace ht:=ht.keep kp;replace hn1:=hn1.keep hr.rex kp
   refine z0 (C:=(C.add nx)) W hrun hk hr hK rfl .id (λ_ h=>h) λΓ H m11_122 his hrun h hk kp hr hK=>⟨_,_,_,_,_,rfl,?_⟩
   replace hi:=hi.keep kp;replace ht:=ht.keep kp;replace hn1:=hn1.keep hr.rex kp;replace hb1:=hb1.keep kp
   refine qV (C:=(C.add nx)) (λZ ex res Γ H nx K h=>ih.expr d hd Z ex _ res Γ H nx K h) hrun hk hr hK rfl .id (λ_ h=>h) λt2 c2 kk2 s2 n2 li2 co2 w2 Γ H m12_124 e2 hrun h hk kp hw2 hn2 hr hK=>⟨_,_,_,_,_,_,rfl,?_⟩
   replace hi:=hi.keep kp;replace ht:=ht.keep kp;replace hn1:=hn1.keep hr.rex kp;replace hb1:=hb1.keep kp
   refine kI (C:=(C.add nx)) hk hr hw2 hK rfl λΓ H hk hr hb2 kp hK=> ?_
   replace hi:=hi.keep kp;replace ht:=ht.keep kp;replace hn1:=hn1.keep hr.rex kp;replace hb1:=hb1.keep kp;replace hn2:=hn2.keep hr.rex kp
   refine z0 (C:=(C.add nx)) W hrun hk hr hK rfl .id (λ_ h=>h) λΓ H m13_128 his hrun h hk kp hr hK=>⟨_,_,_,_,_,rfl,?_⟩
   replace hi:=hi.keep kp;replace ht:=ht.keep kp;replace hn1:=hn1.keep hr.rex kp;replace hb1:=hb1.keep kp;replace hn2:=hn2.keep hr.rex kp;replace hb2:=hb2.keep kp
   refine⟨_,_,_,_,_,ht.tok hk,_,_,_,_,_,_,qX hk hb1.e rfl,_,_,_,_,_,_,qX hk hb2.e rfl,?_⟩
   refine Jf (nx':=m13_128+1) (C:=(C.add nx)) hk lR (by omega) hr hK rfl λΓ H hk hr hb hxhb kp hK=> ?_
   replace hi:=hi.keep kp;replace ht:=ht.keep kp;replace hn1:=hn1.keep hr.rex kp;replace hb1:=hb1.keep kp;replace hn2:=hn2.keep hr.rex kp;replace hb2:=hb2.keep kp
   cases hrun
   exact jJ hk hr hi hf hrex (zC.blk (n:=2) hxhb hb.e (.cons hn1 hn2.one) rfl) rfl hK
  refine zi (C:=(C.add nx)) W hrun hk hr hK rfl (λ_ h=>h) (λΓ H m9_135 his hrun h hk kp hr hK=>⟨_,rfl,jD rfl ?_⟩) (λH m9_135 his hrun h hk hK=>⟨_,rfl,jE rfl ?_⟩)
  ·
   replace hi:=hi.keep kp;replace ht:=ht.keep kp
   refine z0 (C:=(C.add nx)) W hrun hk hr hK rfl .id (λ_ h=>h) λΓ H m10_138 his hrun h hk kp hr hK=>⟨_,_,_,_,_,rfl,?_⟩
   replace hi:=hi.keep kp;replace ht:=ht.keep kp
   refine z0 (C:=(C.add nx)) W hrun hk hr hK rfl .id (λ_ h=>h) λΓ H m11_140 his hrun h hk kp hr hK=>⟨_,_,_,_,_,rfl,?_⟩
   replace hi:=hi.keep kp;replace ht:=ht.keep kp
   refine⟨_,_,_,_,_,ht.tok hk,?_⟩
   cases hrun
   exact jJ hk hr hi hf hrex .nil rfl hK
  cases hrun
  exact y2 (C:=C.add nx) hk hr λH nx2 h2 hk=>ql.2 ((hK.from h2 (.refl _ _ _)).pan rfl hk hr.p)
end
section
variable{Γ0 Γ:GH}{n0:Nat}{H:qc}{nx a d n i:Nat}{C:RC}{K:qr}{res:Except Flt (qu×Nat)}
abbrev qq2(l:List Tok)(n d:Nat)(t:Tok)(x:qu):Nat->Rs (qu×Nat):=λa=>
 if Ps.is l a [40]then Rs.bind (Ps.run l n .typ d (a+1)) λ(ty,b)=>Ps.lift (Ps.need l b [41]) λc=>Rs.ok (Ps.mk t 37 [] [x,ty],c)
 else Ps.lift (Ps.name l a) λb=>
  if Ps.is l b [40]then Rs.bind (Ps.row l (Ps.run l n .expr d) n b) λ(xs,c)=>Rs.ok (Ps.mk t 31 (Ps.tk l a).text (x::xs),c)
  else Rs.ok (Ps.mk t 30 (Ps.tk l a).text [x],b)
theorem qv1{t0:Tok}{x0:qu}{kk0 n0 li0 co0:Int}{s0:List UInt8}{w0:qa}(W:kv C.l)(ih:IH C.l C.r C.tb n)(hd:d<=40)(hrun:qq2 C.l n d t0 x0 a=some res)(hn0:zu C.ex Γ [iv kk0,.str s0,iv n0,iv li0,iv co0,w0] x0)(hk:HZ Z Γ H nx)(hr:Rd Γ C a d)(hK:ja Z K Γ nx C d res (zM C.ex)):
  qo PG W0 [.ptr C.r 0,wQ t0,.agg [iv kk0,.str s0,iv n0,iv li0,iv co0,w0]] H nx K:=by
 refine qo.of_body qp ?_
 rw [qep];have hrex:=hr.rex
 have hf0:=hk.fresh (Nat.le_refl nx)
 have hf:Γ (nx+1+1)=none/\nx<=nx+1+1:=⟨hk.fresh (by omega),by omega⟩
 refine⟨_,rfl,?_⟩
 have h0:HZ Z (gup nx (some (ky t0)) Γ) (zA nx [iv t0.kind,u5 t0.text,iv t0.n,iv t0.line,iv t0.col].length [iv t0.kind,u5 t0.text,iv t0.n,iv t0.line,iv t0.col] H) (nx+1):=hk.new lR (by omega) _
 have hr0:=hr.new (cs:=some (ky t0)) hf0
 have hf1:=h0.fresh (Nat.le_refl (nx+1))
 refine⟨_,rfl,?_⟩
 have h1:HZ Z (gup (nx+1) (some [iv kk0,.str s0,iv n0,iv li0,iv co0,w0]) (gup nx (some (ky t0)) Γ)) (zA (nx+1) [iv kk0,.str s0,iv n0,iv li0,iv co0,w0].length [iv kk0,.str s0,iv n0,iv li0,iv co0,w0] (zA nx [iv t0.kind,u5 t0.text,iv t0.n,iv t0.line,iv t0.col].length [iv t0.kind,u5 t0.text,iv t0.n,iv t0.line,iv t0.col] H)) (nx+1+1):=h0.new lR (by omega) _
 have hr1:=hr0.new (cs:=some [iv kk0,.str s0,iv n0,iv li0,iv co0,w0]) hf1
 have hf2:=h1.fresh (Nat.le_refl (nx+1+1))
 have kp1:qU C.r nx Γ (gup (nx+1) (some [iv kk0,.str s0,iv n0,iv li0,iv co0,w0]) (gup nx (some (ky t0)) Γ)):=(qU.new (nx:=nx) hf0).trans (qU.new (nx:=nx) hf1)
 have ht:At (gup (nx+1) (some [iv kk0,.str s0,iv n0,iv li0,iv co0,w0]) (gup nx (some (ky t0)) Γ)) C.r nx (ky t0):=⟨(qn (by omega)).trans (qk _ _ _),hr.r_ne hf0⟩
 have hx:At (gup (nx+1) (some [iv kk0,.str s0,iv n0,iv li0,iv co0,w0]) (gup nx (some (ky t0)) Γ)) C.r (nx+1) [iv kk0,.str s0,iv n0,iv li0,iv co0,w0]:=⟨qk _ _ _,hr0.r_ne hf1⟩
 replace hn0:=(hn0.keep hr.rex kp1).raise (i:=nx+1+1) hf2
 replace hK:=hK.owe.from (by omega:nx<=nx+1+1+1) kp1
 refine Qe h1 (nx':=nx+1+1+1) lR (by omega) λH hk=> ?_
 replace hr:=hr1.newAdd (cs:=[iv 0,u5 [],iv 0,iv 0,iv 0,u9]) hf2
 have hi:Res (gup (nx+1+1) (some [iv 0,u5 [],iv 0,iv 0,iv 0,u9]) (gup (nx+1) (some [iv kk0,.str s0,iv n0,iv li0,iv co0,w0]) (gup nx (some (ky t0)) Γ))) C (nx+1+1):=⟨⟨_,qk _ _ _,rfl⟩,hr1.r_ne hf2,hr1.tb_ne hf2⟩
 have kp:qU C.r (nx+1+1) _ _:=qU.new (cs:=[iv 0,u5 [],iv 0,iv 0,iv 0,u9]) hf2
 replace ht:=ht.keep kp;replace hx:=hx.keep kp;replace hn0:=hn0.keep hr.rex kp;replace hK:=hK.from' lR kp (by omega)
 refine zi (C:=(C.add (nx+1+1))) W hrun hk hr hK rfl (λ_ h=>h) (λΓ H m1_0 his hrun h hk kp hr hK=>⟨_,rfl,jD rfl ?_⟩) (λH m1_0 his hrun h hk hK=>⟨_,rfl,jE rfl ?_⟩)
 ·
  replace hi:=hi.keep kp;replace ht:=ht.keep kp;replace hx:=hx.keep kp;replace hn0:=hn0.keep hr.rex kp
  refine qV (C:=(C.add (nx+1+1))) (λZ ex res Γ H nx K h=>ih.typ d hd Z ex _ res Γ H nx K h) hrun hk hr hK rfl .id (λ_ h=>h) λt1 c1 kk1 s1 n1 li1 co1 w1 Γ H m2_3 e1 hrun h hk kp hw1 hn1 hr hK=>⟨_,_,_,_,_,_,rfl,?_⟩
  replace hi:=hi.keep kp;replace ht:=ht.keep kp;replace hx:=hx.keep kp;replace hn0:=hn0.keep hr.rex kp
  refine kI (C:=(C.add (nx+1+1))) hk hr hw1 hK rfl λΓ H hk hr hb1 kp hK=> ?_
  replace hi:=hi.keep kp;replace ht:=ht.keep kp;replace hx:=hx.keep kp;replace hn0:=hn0.keep hr.rex kp;replace hn1:=hn1.keep hr.rex kp
  refine z0 (C:=(C.add (nx+1+1))) W hrun hk hr hK rfl .id (λ_ h=>h) λΓ H m3_7 his hrun h hk kp hr hK=>⟨_,_,_,_,_,rfl,?_⟩
  replace hi:=hi.keep kp;replace ht:=ht.keep kp;replace hx:=hx.keep kp;replace hn0:=hn0.keep hr.rex kp;replace hn1:=hn1.keep hr.rex kp;replace hb1:=hb1.keep kp
  refine⟨_,_,_,_,_,ht.tok hk,_,_,_,_,_,_,qX hk hx.e rfl,_,_,_,_,_,_,qX hk hb1.e rfl,?_⟩
  refine Jf (nx':=m3_7+1) (C:=(C.add (nx+1+1))) hk lR (by omega) hr hK rfl λΓ H hk hr hb hxhb kp hK=> ?_
  replace hi:=hi.keep kp;replace ht:=ht.keep kp;replace hx:=hx.keep kp;replace hn0:=hn0.keep hr.rex kp;replace hn1:=hn1.keep hr.rex kp;replace hb1:=hb1.keep kp
  cases hrun
  exact jJ hk hr hi hf hrex (zC.blk (n:=2) hxhb hb.e (.cons hn0 hn1.one) rfl) rfl hK
 refine jZ (C:=(C.add (nx+1+1))) W hrun hk hr hK rfl .id (λ_ h=>h) λΓ H m2_14 hkd hrun h hk kp hr hK=>⟨_,_,_,_,_,rfl,?_⟩
 replace hi:=hi.keep kp;replace ht:=ht.keep kp;replace hx:=hx.keep kp;replace hn0:=hn0.keep hr.rex kp
 refine kJ (C:=(C.add (nx+1+1))) (s:=[40]) hk hr hK λH m3_16 h hk hK=>⟨_,rfl,qf.2 ⟨λh1=> ?_,λh1=> ?_⟩⟩
 ·
  replace hrun:=(if_neg (show¬Ps.is C.l _ [40]=true by simpa using h1)).symm.trans hrun
  refine⟨_,_,_,_,_,ht.tok hk,_,_,_,_,_,_,qX hk hx.e rfl,?_⟩
  refine Jf (nx':=m3_16+1) (C:=(C.add (nx+1+1))) hk lR (by omega) hr hK rfl λΓ H hk hr hb hxhb kp hK=> ?_
  replace hi:=hi.keep kp;replace ht:=ht.keep kp;replace hx:=hx.keep kp;replace hn0:=hn0.keep hr.rex kp
  cases hrun
  exact jJ hk hr hi hf hrex (zC.blk (n:=1) hxhb hb.e hn0.one rfl) rfl hK
 ·
  replace hrun:=(if_pos (show Ps.is C.l _ [40]=true by simpa using h1)).symm.trans hrun
  refine⟨_,_,_,_,_,ht.tok hk,_,_,_,_,_,_,qX hk hx.e rfl,?_⟩
  refine Jf (i:=m3_16+3) (nx':=m3_16+11) (C:=(C.add (nx+1+1))) hk (by omega) (by omega) hr hK rfl λΓ H hk hr hb hxhb kp hK=> ?_
  replace hi:=hi.keep kp;replace ht:=ht.keep kp;replace hx:=hx.keep kp;replace hn0:=hn0.keep hr.rex kp
  refine⟨⟨⟨_,_,_,_,_,ht.tok hk,rfl⟩,⟨_,_,_,_,_,_,qX hk hx.e rfl,rfl⟩,trivial⟩,?_⟩
  refine ZB (C:=(C.add (nx+1+1))) W (Jz rfl) VR (ih.expr d hd) hrun hk hr hK rfl .id (λ_ h=>h) λts b v Γ H m6 erow hrun h hk kp hv hr hK=> ?_
  replace hi:=hi.keep kp;replace ht:=ht.keep kp;replace hx:=hx.keep kp;replace hn0:=hn0.keep hr.rex kp;replace hb:=hb.keep kp
  have hlen:=VW (Jz (by rfl)) erow
  have hlt:b<C.l.length:=hr.lt
  have hW:=W.few
  refine⟨⟨⟨_,_,_,_,_,ht.tok hk,rfl⟩,⟨_,_,_,_,_,_,qX hk hx.e rfl,rfl⟩,trivial⟩,?_⟩
  refine qrl (C:=(C.add (nx+1+1))) hk hr hb.e hxhb hn0.one (by simp) hv (by simp;omega) rfl λw Γ H m7 h hk kp hr hv=> ?_
  replace hi:=hi.keep kp;replace ht:=ht.keep kp;replace hx:=hx.keep kp;replace hn0:=hn0.keep hr.rex kp;replace hb:=hb.keep kp
  replace hK:=hK.from h kp
  cases hrun
  exact⟨⟨⟨_,_,_,_,_,ht.tok hk,rfl⟩,trivial⟩,jV hk hr hi hf hrex hv rfl hK⟩
end
section
variable{Γ0 Γ:GH}{n0:Nat}{H:qc}{nx a d n i:Nat}{C:RC}{K:qr}{res:Except Flt (qu×Nat)}
theorem qm6{β:Type}{V:GH->qa->β->Prop}{res:Except Flt (β×Nat)}{rK:qa->qc->Nat->Prop}{pK:List (qa×Bool)->qc->Nat->Prop}{g:FuncId}{args:List qa}{one:Nat->Rs (qu×Nat)}{k:qu×Nat->Rs (β×Nat)}{Cb:RC}{db:Nat}{Zc:Nat->Prop}
  (hone:∀res K,one a=some res->ja Zc K Γ nx C d res (zM C.ex)->qo PG g args H nx K)
  (hrun:Rs.bind (one a) k=some res) (hK:Owe Z K Γ0 n0 Γ nx Cb db res V) (hb:Cb.r=C.r) (hp:wu Z K Cb.r pK) (hz:∀b,Z b->Zc b)
  (hok:∀t b kk s n li co w Γ' H' nx',one a=some (.ok (t,b))->k (t,b)=some res->nx<=nx'->HZ Zc Γ' H' nx'->qU C.r nx Γ Γ'->qZ w=true->zu C.ex Γ' [iv kk,.str s,iv n,iv li,iv co,w] t->Rd Γ' C b d->
   Owe Z K Γ0 n0 Γ' nx' Cb db res V->rK (.agg [iv kk,.str s,iv n,iv li,iv co,w]) H' nx'):
  qo PG g args H nx λe H' nx'=>qj e (λv=>rK v H' nx') λl=>pK l H' nx':=by
 rcases Ps.bind_some hrun with⟨f,e1,e2⟩|⟨⟨t,b⟩,e1,e2⟩
 ·refine hone _ _ e1 (.on (λx b v Γ' H' nx' e=>by cases e) λf' Γ' H' nx' e g1 g2 g3 g4=> ?_)
  cases e
  rw [<-hb]at g3 g4;exact hp.of (hK.from g1 g3) e2 (g2.less hz) g4
 ·refine hone _ _ e1 (.on (λx b' v Γ' H' nx' e g1 g2 g3 g4 g5=> ?_) λf' Γ' H' nx' e=>by cases e)
  cases e
  obtain⟨kk,s,n,li,co,w,rfl,hw,hn⟩:=g4.cells
  exact hok _ _ _ _ _ _ _ _ _ _ _ e1 e2 g1 g2 g3 hw hn g5 (hK.from g1 (by rw [hb];exact g3))
theorem qo5{β:Type}{l:List Tok}{n d a:Nat}{t:Tok}{x:qu}{k:qu->Nat->Rs β}:Rs.bind (qq2 l n d t x a) (λp=>k p.1 p.2)=
  (if Ps.is l a [40]then Rs.bind (Ps.run l n .typ d (a+1)) λ(ty,b)=>Ps.lift (Ps.need l b [41]) λc=>k (Ps.mk t 37 [] [x,ty]) c
  else Ps.lift (Ps.name l a) λb=>
   if Ps.is l b [40]then Rs.bind (Ps.row l (Ps.run l n .expr d) n b) λ(xs,c)=>k (Ps.mk t 31 (Ps.tk l a).text (x::xs)) c
   else k (Ps.mk t 30 (Ps.tk l a).text [x]) b):=by
 unfold qq2;split
 ·cases Ps.run l n .typ d (a+1)with
  |none=>rfl
  |some r=>cases r with
   |error f=>rfl
   |ok p=>
    obtain⟨ty,b⟩:=p
    show Rs.bind (Ps.lift (Ps.need l b [41]) _) _=Ps.lift (Ps.need l b [41]) _
    cases Ps.need l b [41]<;>rfl
 ·cases Ps.name l a with
  |error f=>rfl
  |ok b=>
   show Rs.bind (if Ps.is l b [40]=true then _ else _) _=if Ps.is l b [40]=true then _ else _
   split
   ·cases Ps.row l (Ps.run l n .expr d) n b with
    |none=>rfl
    |some r=>cases r<;>rfl
   ·rfl
theorem ql3(call:zm)(lp:Nat->jl)(lv:zJ)(lvc:zI)(r c x:Nat)(H:qc)(nx:Nat)(K:qr):
  qA PG call (lp 30) 30 (qd PG kF) [1,1,0] (qy PG lv lvc K (qP PG kF)) .ret (qe .und [(0,.ptr r 0),(2,.ptr c 0),(3,.ptr x 0)]) H nx [] none=vn PG qJ H (.ptr c 0) λv=>K (.ret v) H nx:=by kernel_rfl
theorem qlp(call:zm)(lp:Nat->jl)(lv:zJ)(lvc:zI)(r c x:Nat)(H:qc)(nx:Nat)(K:qr)(l:List (qa×Bool)):
  qA PG call (lp 30) 30 (qd PG kF) [1,1,0] (qy PG lv lvc K (qP PG kF)) (.pan l) (qe .und [(0,.ptr r 0),(2,.ptr c 0),(3,.ptr x 0)]) H nx [] none=K (.pan l) H nx:=by kernel_rfl
theorem qhi(call:zm)(lp:Nat->jl)(lv:zJ)(lvc:zI)(r c x:Nat)(k:Int)(H:qc)(nx:Nat)(K:qr):
  qA PG call (lp 36) 36 (qd PG jb) [1,1,0] (qy PG lv lvc K (qP PG jb)) .ret (qe .und [(0,.ptr r 0),(1,iv k),(4,.ptr c 0),(5,.ptr x 0)]) H nx [] none=vn PG qJ H (.ptr c 0) λv=>K (.ret v) H nx:=by kernel_rfl
theorem qrz(call:zm)(lp:Nat->jl)(lv:zJ)(lvc:zI)(r c x:Nat)(k:Int)(H:qc)(nx:Nat)(K:qr)(l:List (qa×Bool)):
  qA PG call (lp 36) 36 (qd PG jb) [1,1,0] (qy PG lv lvc K (qP PG jb)) (.pan l) (qe .und [(0,.ptr r 0),(1,iv k),(4,.ptr c 0),(5,.ptr x 0)]) H nx [] none=K (.pan l) H nx:=by kernel_rfl
theorem wu.eq{r:Nat}{pK:List (qa×Bool)->qc->Nat->Prop}(h:∀l H nx,pK l H nx=K (.pan l) H nx):wu Z K r pK:=λf Γ H nx hk hp h2=>by rw [h];exact h2 Γ H hk (.refl _ _ _) hp
theorem qkq{Cb:RC}{x:Nat}{kk nn li co:Int}{s:List UInt8}{w:qa}{t:qu}{b:Nat}(hk:HZ Z Γ H nx)(hr:Rd Γ ((Cb.add i).add x) b d)(hi:Res Γ Cb i)(h0:Γ0 i=none/\n0<=i)(hrex:Cb.ex Cb.r)(hw:qZ w=true)
  (hn:zu ((Cb.add i).add x).ex Γ [iv kk,.str s,iv nn,iv li,iv co,w] t) (e:res= .ok (t,b)) (hK:Owe Z K Γ0 n0 Γ nx Cb d res (zM Cb.ex)):
  ∃H1,stC H (.ptr i 0) [iv kk,.str s,iv nn,iv li,iv co,w]=some H1/\vn PG qJ H1 (.ptr i 0) λv=>K (.ret v) H1 nx:=by
 obtain⟨cs,e0,hl⟩:=hi.e
 refine jS hk e0 (by simp [hl]) (by simp only [qt,hw];rfl) λH1 h1=> ?_
 rw [Jx];refine⟨_,_,_,_,_,_,qX h1 (qk _ _ _) rfl,(hK.upd h0.1 h0.2).ret e h1 ?_ (((hr.less (.inr hrex)).upd hi.nr hi.nt).less hrex)⟩
 exact(hn.mono (λ_ h=> .inr (.inr h)) λc ds hc e=>by rw [qn λx=>hc (.inr (.inl x))];exact e).v
theorem qpz{s:List UInt8}{K:qr}(h:K (.ret (iv (Ps.rank s))) H nx):qo PG WL [.str s] H nx K:=by
 refine qo.of_body qp ?_
 rw [qex];have st:∀{u:List UInt8} {p q:Prop},(s=u->p)->(s≠u->q)->ifB (s==u) p q:=λh1 h2=>qf.2 ⟨λe=>h1 (by simpa using e),λe=>h2 (by simpa using e)⟩
 unfold Ps.rank at h;refine st (λe=>by subst e;simpa using h) λe1=> ?_
 refine st (λe=>by subst e;simpa using h) λe2=> ?_
 refine st (λe=>by subst e;simpa using h) λe3=> ?_
 refine st (λe=>by subst e;simpa using h) λe4=> ?_
 refine st (λe=>by subst e;simpa using h) λe5=> ?_
 refine st (λe=>by subst e;simpa using h) λe6=> ?_
 refine st (λe=>by subst e;simpa using h) λe7=> ?_
 refine st (λe=>by subst e;simpa using h) λe8=> ?_
 refine st (λe=>by subst e;simpa using h) λe9=> ?_
 refine st (λe=>by subst e;simpa using h) λe10=> ?_
 refine st (λe=>by subst e;simpa using h) λe11=> ?_
 refine st (λe=>by subst e;simpa using h) λe12=> ?_
 refine st (λe=>by subst e;simpa using h) λe13=> ?_
 simpa [e1,e2,e3,e4,e5,e6,e7,e8,e9,e10,e11,e12,e13]using h
theorem qn1(s:List UInt8):∃r:Nat,r<=5/\Ps.rank s=(r:Int):=by
 unfold Ps.rank;split
 ·exact⟨1,by omega,rfl⟩
 split
 ·exact⟨2,by omega,rfl⟩
 split
 ·exact⟨3,by omega,rfl⟩
 split
 ·exact⟨4,by omega,rfl⟩
 split
 ·exact⟨5,by omega,rfl⟩
 ·exact⟨0,by omega,rfl⟩
theorem qql(W:kv C.l)(ihs:∀m,m<=n->IH C.l C.r C.tb m)(hd:d<=40)(hrun:Ps.run C.l (n+1) .post d a=some res)(hk:HZ Z Γ H nx)(hr:Rd Γ C a d)(hK:ja Z K Γ nx C d res (zM C.ex)):qo PG kF [.ptr C.r 0] H nx K:=by
 refine qo.of_body qp ?_
 rw [qcj];simp only [Ps.run]at hrun
 have ih:=ihs n (Nat.le_refl n)
 have hrex:=hr.rex
 refine kl hk hr hK λΓ H hk hr hi hf hK kp=> ?_
 refine qV (C:=(C.add nx)) (λZ ex res Γ H nx K h=>ih.prime d hd Z ex _ res Γ H nx K h) hrun hk hr hK rfl .id (λ_ h=>h) λt0 c0 kk0 s0 n0 li0 co0 w0 Γ H x e0 hrun h hk kp hw0 hn0 hr hK=>⟨_,_,_,_,_,_,rfl,?_⟩
 replace hi:=hi.keep kp
 have hmE:=hk.fresh (Nat.le_refl x)
 have hm0:=hK.none hmE (hr.r_ne hmE)
 have hm3:=hr.tb_ne hmE
 replace hn0:=hn0.raise hmE
 refine kI (C:=(C.add nx)) hk hr hw0 hK rfl λΓ H hk hr hx kp hK=> ?_
 replace hi:=hi.keep kp
 replace hr:Rd Γ ((C.add nx).add x) _ d:=hr.add (by rw [hx.e];simp)
 replace hn0:=hn0.keep hr.rex kp
 refine zD (P:=PG) (X:=Unit) (Y:=Unit) (λ_=>qe .und [(0,.ptr C.r 0),(2,.ptr nx 0),(3,.ptr x 0)]) (λ_=>qe .und [])
  (λm _ H1 m1=>x+1<=m1/\m<=n/\∃Γ1 t b kk s n1 li co w,HZ Z Γ1 H1 m1/\Rd Γ1 ((C.add nx).add x) b d/\Res Γ1 C nx/\At Γ1 C.r x [iv kk,.str s,iv n1,iv li,iv co,w]/\zu ((C.add nx).add x).ex Γ1 [iv kk,.str s,iv n1,iv li,iv co,w] t/\Ps.run C.l m (.postGo t) d b=some res/\Owe Z K _ nx Γ1 m1 C d res (zM C.ex))
  (λid _ H3 nx3=>False) n () (qq.okay)
  ⟨Nat.le_refl _,Nat.le_refl _,Γ,t0,c0,_,_,_,_,_,_,hk,hr,hi,hx,hn0,hrun,hK⟩ ?_ ?_
 ·rintro m _ H m1 ⟨h,hmn,Γ,t,b,kk,s,n1,li,co,w,hk,hr,hi,hx,hnx,hrun,hK⟩
  refine WpP.trim (ts:=[0,2,3]) (WpP.weaken (e:=qe .und [(3,.ptr x 0),(2,.ptr nx 0),(0,.ptr C.r 0)]) (qq.okay) (WpP.of_vK qp ?_))
  rw [qn2];cases m with
  |zero=>simp [Ps.run]at hrun
  |succ m=>
  have ih:=ihs m (by omega)
  simp only [Ps.run]at hrun
  have hpan:wu Z K C.r λl H nx2=>qA PG (qo PG) (LpP PG 30) 30 (qd PG kF) [1,1,0] (qy PG (z9 (qM PG)) (ze PG (qM PG)) K (qP PG kF)) (.pan l) (qe .und [(0,.ptr C.r 0),(2,.ptr nx 0),(3,.ptr x 0)]) H nx2 [] none:= .eq λl H nx2=>qlp (qo PG) (LpP PG) (z9 (qM PG)) (ze PG (qM PG)) C.r nx x H nx2 K l
  refine kZ (C:=((C.add nx).add x)) hk hr hK λH m1_26 h hk hK=>⟨_,_,_,_,_,rfl,?_⟩
  refine vJ (C:=((C.add nx).add x)) hk hr hK rfl λΓ H hk hr ht kp hK=> ?_
  replace hi:=hi.keep kp;replace hx:=hx.keep kp;replace hnx:=hnx.keep hr.rex kp
  refine zi (C:=((C.add nx).add x)) W hrun hk hr hK rfl (λ_ h=>h) (λΓ H m2_29 his hrun h hk kp hr hK=>⟨_,rfl,jD rfl ?_⟩) (λH m2_29 his hrun h hk hK=>⟨_,rfl,jE rfl ?_⟩)
  ·
   replace hi:=hi.keep kp;replace hx:=hx.keep kp;replace hnx:=hnx.keep hr.rex kp;replace ht:=ht.keep kp
   refine qV (C:=((C.add nx).add x)) (λZ ex res Γ H nx K h=>ih.expr d hd Z ex _ res Γ H nx K h) hrun hk hr hK rfl hpan (λ_ h=>h) λt1 c1 kk1 s1 n1 li1 co1 w1 Γ H m3_32 e1 hrun h hk kp hw1 hn1 hr hK=>⟨_,_,_,_,_,_,rfl,?_⟩
   replace hi:=hi.keep kp;replace hx:=hx.keep kp;replace hnx:=hnx.keep hr.rex kp;replace ht:=ht.keep kp
   refine kI (C:=((C.add nx).add x)) hk hr hw1 hK rfl λΓ H hk hr hb1 kp hK=> ?_
   replace hi:=hi.keep kp;replace hx:=hx.keep kp;replace hnx:=hnx.keep hr.rex kp;replace ht:=ht.keep kp;replace hn1:=hn1.keep hr.rex kp
   refine z0 (C:=((C.add nx).add x)) W hrun hk hr hK rfl hpan (λ_ h=>h) λΓ H m4_36 his hrun h hk kp hr hK=>⟨_,_,_,_,_,rfl,?_⟩
   replace hi:=hi.keep kp;replace hx:=hx.keep kp;replace hnx:=hnx.keep hr.rex kp;replace ht:=ht.keep kp;replace hn1:=hn1.keep hr.rex kp;replace hb1:=hb1.keep kp
   refine⟨_,_,_,_,_,ht.tok hk,_,_,_,_,_,_,qX hk hx.e rfl,_,_,_,_,_,_,qX hk hb1.e rfl,?_⟩
   refine Jf (nx':=m4_36+1) (C:=((C.add nx).add x)) hk lR (by omega) hr hK rfl λΓ H hk hr hb hxhb kp hK=> ?_
   replace hi:=hi.keep kp;replace hx:=hx.keep kp;replace hnx:=hnx.keep hr.rex kp;replace ht:=ht.keep kp;replace hn1:=hn1.keep hr.rex kp;replace hb1:=hb1.keep kp
   refine z8 (C:=((C.add nx).add x)) hk (zC.blk (n:=2) hxhb hb.e (.cons hnx hn1.one) rfl) hK λH m8 h hk hn2 hw2 hK=>⟨_,_,_,_,_,_,rfl,?_⟩
   refine jS hk hx.e rfl (by simp only [qt,hw2];rfl) λH hk=> ?_
   replace hK:=hK.upd (i:=x) (cs:=some [iv 32,.str [],iv 0,iv (Ps.tk C.l b).line,iv (Ps.tk C.l b).col,qa.slice m4_36 0 2 6 true]) hm0 (by omega)
   replace hr:=hr.upd (cs:=[iv 32,.str [],iv 0,iv (Ps.tk C.l b).line,iv (Ps.tk C.l b).col,qa.slice m4_36 0 2 6 true]) (b:=x) hx.ne hm3
   replace hi:=hi.set (i:=x) (cs:=some [iv 32,.str [],iv 0,iv (Ps.tk C.l b).line,iv (Ps.tk C.l b).col,qa.slice m4_36 0 2 6 true]) (by omega)
   replace hx:=hx.same (ds:=[iv 32,.str [],iv 0,iv (Ps.tk C.l b).line,iv (Ps.tk C.l b).col,qa.slice m4_36 0 2 6 true])
   replace hn2:=hn2.set (cs:=some [iv 32,.str [],iv 0,iv (Ps.tk C.l b).line,iv (Ps.tk C.l b).col,qa.slice m4_36 0 2 6 true])
   exact⟨rfl,m,(),Nat.lt_succ_self m,qq.okay,by omega,by omega,_,_,_,_,_,_,_,_,_,hk,hr,hi,hx,hn2,hrun,hK⟩
  refine zi (C:=((C.add nx).add x)) W hrun hk hr hK rfl (λ_ h=>h) (λΓ H m3_49 his hrun h hk kp hr hK=>⟨_,rfl,jD rfl ?_⟩) (λH m3_49 his hrun h hk hK=>⟨_,rfl,jE rfl ?_⟩)
  ·
   replace hi:=hi.keep kp;replace hx:=hx.keep kp;replace hnx:=hnx.keep hr.rex kp;replace ht:=ht.keep kp
   replace hrun:=(qo5 (k:=λy c=>Ps.run C.l m (.postGo y) d c)).trans hrun
   refine⟨_,_,_,_,_,ht.tok hk,_,_,_,_,_,_,qX hk hx.e rfl,?_⟩
   refine qm6 (one:=qq2 C.l m d (Ps.tk C.l b) t) (C:=((C.add nx).add x)) (λres K h hM=>qv1 (C:=((C.add nx).add x)) W ih hd h hnx hk hr hM) hrun hK rfl hpan (λ_ h=>h) λt2 c2 kk2 s2 n2 li2 co2 w2 Γ H m8 e2 hrun h hk kp hw2 hn2 hr hK=>⟨_,_,_,_,_,_,rfl,?_⟩
   replace hi:=hi.keep kp;replace hx:=hx.keep kp;replace hnx:=hnx.keep hr.rex kp;replace ht:=ht.keep kp
   refine jS hk hx.e rfl (by simp only [qt,hw2];rfl) λH hk=> ?_
   replace hK:=hK.upd (i:=x) (cs:=some [iv kk2,.str s2,iv n2,iv li2,iv co2,w2]) hm0 (by omega)
   replace hr:=hr.upd (cs:=[iv kk2,.str s2,iv n2,iv li2,iv co2,w2]) (b:=x) hx.ne hm3
   replace hi:=hi.set (i:=x) (cs:=some [iv kk2,.str s2,iv n2,iv li2,iv co2,w2]) (by omega)
   replace hx:=hx.same (ds:=[iv kk2,.str s2,iv n2,iv li2,iv co2,w2])
   replace hn2:=hn2.set (cs:=some [iv kk2,.str s2,iv n2,iv li2,iv co2,w2])
   exact⟨rfl,m,(),Nat.lt_succ_self m,qq.okay,by omega,by omega,_,_,_,_,_,_,_,_,_,hk,hr,hi,hx,hn2,hrun,hK⟩
  refine⟨_,_,_,_,_,_,qX hk hx.e rfl,?_⟩
  cases hrun
  obtain⟨H2,q1,q2⟩:=qkq hk hr hi hf hrex (WF hnx) hnx rfl hK
  exact⟨H2,q1,Eq.mpr (ql3 (qo PG) (LpP PG) (z9 (qM PG)) (ze PG (qM PG)) C.r nx x H2 _ K) q2⟩
 ·rintro id _ H3 nx3 hx
  exact hx.elim
theorem qim{k:Nat}(W:kv C.l)(ihs:∀m,m<=n->IH C.l C.r C.tb m)(hd:d<=40)(hrun:Ps.run C.l (n+1) (.binary k) d a=some res)(hk:HZ Z Γ H nx)(hr:Rd Γ C a d)(hK:ja Z K Γ nx C d res (zM C.ex)):qo PG jb [.ptr C.r 0,iv k] H nx K:=by
 refine qo.of_body qp ?_
 rw [XC];simp only [Ps.run]at hrun
 have ih:=ihs n (Nat.le_refl n)
 have hrex:=hr.rex
 refine kl hk hr hK λΓ H hk hr hi hf hK kp=> ?_
 refine qV (C:=(C.add nx)) (λZ ex res Γ H nx K h=>ih.unary d hd Z ex _ res Γ H nx K h) hrun hk hr hK rfl .id (λ_ h=>h) λt0 c0 kk0 s0 n0 li0 co0 w0 Γ H x e0 hrun h hk kp hw0 hn0 hr hK=>⟨_,_,_,_,_,_,rfl,?_⟩
 replace hi:=hi.keep kp
 have hmE:=hk.fresh (Nat.le_refl x)
 have hm0:=hK.none hmE (hr.r_ne hmE)
 have hm3:=hr.tb_ne hmE
 replace hn0:=hn0.raise hmE
 refine kI (C:=(C.add nx)) hk hr hw0 hK rfl λΓ H hk hr hx kp hK=> ?_
 replace hi:=hi.keep kp
 replace hr:Rd Γ ((C.add nx).add x) _ d:=hr.add (by rw [hx.e];simp)
 replace hn0:=hn0.keep hr.rex kp
 refine zD (P:=PG) (X:=Unit) (Y:=Unit) (λ_=>qe .und [(0,.ptr C.r 0),(1,iv k),(4,.ptr nx 0),(5,.ptr x 0)]) (λ_=>qe .und [])
  (λm _ H1 m1=>x+1<=m1/\m<=n/\∃Γ1 t b kk s n1 li co w,HZ Z Γ1 H1 m1/\Rd Γ1 ((C.add nx).add x) b d/\Res Γ1 C nx/\At Γ1 C.r x [iv kk,.str s,iv n1,iv li,iv co,w]/\zu ((C.add nx).add x).ex Γ1 [iv kk,.str s,iv n1,iv li,iv co,w] t/\Ps.run C.l m (.binGo k t) d b=some res/\Owe Z K _ nx Γ1 m1 C d res (zM C.ex))
  (λid _ H3 nx3=>False) n () (qq.okay)
  ⟨Nat.le_refl _,Nat.le_refl _,Γ,t0,c0,_,_,_,_,_,_,hk,hr,hi,hx,hn0,hrun,hK⟩ ?_ ?_
 ·rintro m _ H m1 ⟨h,hmn,Γ,t,b,kk,s,n1,li,co,w,hk,hr,hi,hx,hnx,hrun,hK⟩
  refine WpP.trim (ts:=[0,1,4,5]) (WpP.weaken (e:=qe .und [(5,.ptr x 0),(4,.ptr nx 0),(1,iv k),(0,.ptr C.r 0)]) (qq.okay) (WpP.of_vK qp ?_))
  rw [qqb];cases m with
  |zero=>simp [Ps.run]at hrun
  |succ m=>
  have ih:=ihs m (by omega)
  simp only [Ps.run]at hrun
  have hpan:wu Z K C.r λl H nx2=>qA PG (qo PG) (LpP PG 36) 36 (qd PG jb) [1,1,0] (qy PG (z9 (qM PG)) (ze PG (qM PG)) K (qP PG jb)) (.pan l) (qe .und [(0,.ptr C.r 0),(1,iv k),(4,.ptr nx 0),(5,.ptr x 0)]) H nx2 [] none:= .eq λl H nx2=>qrz (qo PG) (LpP PG) (z9 (qM PG)) (ze PG (qM PG)) C.r nx x k H nx2 K l
  refine kZ (C:=((C.add nx).add x)) hk hr hK λH m1_26 h hk hK=>⟨_,_,_,_,_,rfl,?_⟩
  refine vJ (C:=((C.add nx).add x)) hk hr hK rfl λΓ H hk hr ht kp hK=> ?_
  replace hi:=hi.keep kp;replace hx:=hx.keep kp;replace hnx:=hnx.keep hr.rex kp
  refine⟨_,rfl,_,ht.ld hk 1,qpz (qb.2 ⟨_,rfl,_,rfl,_,ht.ld hk 0,?_⟩)⟩
  refine qf.2 ⟨λh1=> ?_,λh1=> ?_⟩
  ·
   have h1:¬(Ps.tk C.l b).kind=6:=by simpa using h1
   rw [if_neg (by simp [h1])]at hrun
   cases hrun
   obtain⟨H2,q1,q2⟩:=qkq hk hr hi hf hrex (WF hnx) hnx rfl hK
   exact⟨_,_,_,_,_,_,qX hk hx.e rfl,H2,q1,Eq.mpr (qhi (qo PG) (LpP PG) (z9 (qM PG)) (ze PG (qM PG)) C.r nx x k H2 _ K) q2⟩
  have h1:(Ps.tk C.l b).kind=6:=by simpa using h1
  refine qf.2 ⟨λh2=> ?_,λh2=> ?_⟩
  ·
   have h2:Ps.rank (Ps.tk C.l b).text<(k:Int):=of_decide_eq_true h2
   rw [if_neg (by simp [h1];omega)]at hrun
   cases hrun
   obtain⟨H2,q1,q2⟩:=qkq hk hr hi hf hrex (WF hnx) hnx rfl hK
   exact⟨_,_,_,_,_,_,qX hk hx.e rfl,H2,q1,Eq.mpr (qhi (qo PG) (LpP PG) (z9 (qM PG)) (ze PG (qM PG)) C.r nx x k H2 _ K) q2⟩
  have h2:¬Ps.rank (Ps.tk C.l b).text<(k:Int):=of_decide_eq_false h2
  rw [if_pos (by simp [h1];omega)]at hrun
  obtain⟨rk,hrk,erk⟩:=qn1 (Ps.tk C.l b).text
  refine JX (C:=((C.add nx).add x)) W hk hr (by show(Ps.tk C.l b).kind≠0;rw [h1];decide) λΓ H mN h hk kp hr=>qb.2 ⟨_,_,_,_,_,rfl,?_⟩
  replace hK:=hK.from h kp
  replace hi:=hi.keep kp;replace hx:=hx.keep kp;replace hnx:=hnx.keep hr.rex kp;replace ht:=ht.keep kp
  refine⟨_,_,_,_,_,ht.tok hk,_,rfl,_,ht.ld hk 1,_,_,_,_,_,_,qX hk hx.e rfl,⟨⟨_,_,_,_,_,ht.tok hk,rfl⟩,⟨_,ht.ld hk 1,rfl⟩,⟨_,_,_,_,_,_,qX hk hx.e rfl,rfl⟩,trivial⟩,?_⟩
  show qo PG jb [.ptr C.r 0,iv (i64.wrap (Ps.rank (Ps.tk C.l b).text+1))] H (mN+11) _
  rw [erk]at hrun ⊢;rw [qB (by omega) (by omega),show((rk:Int)+1)=((rk+1:Nat):Int) by omega]
  rw [show((rk:Int)+1)=((rk+1:Nat):Int) by omega]at hrun
  obtain⟨hk',hni⟩:=jv (i:=mN+8) (nx':=mN+11) hk (by omega) (by omega)
  refine qV (C:=((C.add nx).add x)) (λZ ex res Γ H nx K h=>ih.binary (rk+1) d hd Z ex _ res Γ H nx K h) hrun hk' hr (hK.from (by omega) (.refl _ _ _)) rfl hpan wI λt1 c1 kk1 s1 n1 li1 co1 w1 Γ H m2_57 e1 hrun h hk kp hw1 hn1 hr hK=>⟨_,_,_,_,_,_,rfl,?_⟩
  replace hi:=hi.keep kp;replace hx:=hx.keep kp;replace hnx:=hnx.keep hr.rex kp;replace ht:=ht.keep kp
  refine jy (C:=((C.add nx).add x)) hk hni hr hK rfl (by omega) λΓ H hk hr hb hxhb kp hK=> ?_
  replace hi:=hi.keep kp;replace hx:=hx.keep kp;replace hnx:=hnx.keep hr.rex kp;replace ht:=ht.keep kp;replace hn1:=hn1.keep hr.rex kp
  refine⟨⟨⟨_,_,_,_,_,ht.tok hk,rfl⟩,⟨_,ht.ld hk 1,rfl⟩,⟨_,_,_,_,_,_,qX hk hx.e rfl,rfl⟩,trivial⟩,?_⟩
  refine z8 (C:=((C.add nx).add x)) hk (zC.blk (n:=2) hxhb hb.e (.cons hnx hn1.one) rfl) hK λH m8 h hk hn2 hw2 hK=>⟨_,_,_,_,_,_,rfl,trivial,?_⟩
  obtain⟨H2,q1,q2⟩:=jS (k:=λH=>HZ Z (gup x (some [iv 28,.str (Ps.tk C.l b).text,iv 0,iv (Ps.tk C.l b).line,iv (Ps.tk C.l b).col,qa.slice (mN+8) 0 2 6 true]) _) H _) hk hx.e (vs:=[iv 28,.str (Ps.tk C.l b).text,iv 0,iv (Ps.tk C.l b).line,iv (Ps.tk C.l b).col,qa.slice (mN+8) 0 2 6 true]) rfl (by simp only [qt,hw2];rfl) λH hk=>hk
  refine⟨H2,q1,trivial,?_⟩
  replace hk:=q2
  replace hK:=hK.upd (i:=x) (cs:=some [iv 28,.str (Ps.tk C.l b).text,iv 0,iv (Ps.tk C.l b).line,iv (Ps.tk C.l b).col,qa.slice (mN+8) 0 2 6 true]) hm0 (by omega)
  replace hr:=hr.upd (cs:=[iv 28,.str (Ps.tk C.l b).text,iv 0,iv (Ps.tk C.l b).line,iv (Ps.tk C.l b).col,qa.slice (mN+8) 0 2 6 true]) (b:=x) hx.ne hm3
  replace hi:=hi.set (i:=x) (cs:=some [iv 28,.str (Ps.tk C.l b).text,iv 0,iv (Ps.tk C.l b).line,iv (Ps.tk C.l b).col,qa.slice (mN+8) 0 2 6 true]) (by omega)
  replace hx:=hx.same (ds:=[iv 28,.str (Ps.tk C.l b).text,iv 0,iv (Ps.tk C.l b).line,iv (Ps.tk C.l b).col,qa.slice (mN+8) 0 2 6 true])
  replace hn2:=hn2.set (cs:=some [iv 28,.str (Ps.tk C.l b).text,iv 0,iv (Ps.tk C.l b).line,iv (Ps.tk C.l b).col,qa.slice (mN+8) 0 2 6 true])
  exact⟨rfl,m,(),Nat.lt_succ_self m,qq.okay,by omega,by omega,_,_,_,_,_,_,_,_,_,hk,hr,hi,hx,hn2,hrun,hK⟩
 ·rintro id _ H3 nx3 hx
  exact hx.elim
end
end
end Go.Vs
end
