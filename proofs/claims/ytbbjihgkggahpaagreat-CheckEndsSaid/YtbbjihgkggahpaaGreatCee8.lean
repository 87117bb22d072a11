/-
  Own work. Texts of a proof,laid together; no condition.
-/
import Derived.KernelRfl
import Derived.Test.YtbbjihgkggahpaaGreatCee7
import Derived.Test.YtbbjihgkggahpaaGreatCee3
import Derived.Test.YtbbjihgkggahpaaGreatCee6
import Derived.Test.YtbbjihgkggahpaaGreatCee5
import Derived.Test.YtbbjihgkggahpaaGreatCee2
set_option linter.unusedSectionVars false
set_option linter.unusedVariables false
set_option linter.unusedSimpArgs false
set_option maxRecDepth 1000000
open Go.Vs.qa renaming ptr → u0, str → u5, agg → u6, bool → u7, nilSlice → u9, tuple → U0, und → U1
open Go.Vs.qg renaming pan → U2, ret → U3
open Go.IntKind (i64)
section
namespace Go.Vs
open Go.Proofs
variable [GTab] {Z:Nat->Prop}
noncomputable section
section
variable{Γ0 Γ:GH}{n0:Nat}{H:qc}{nx a d n i:Nat}{C:RC}{K:qr}{res:Except Flt (qu×Nat)}
theorem Yv{β:Type}{l:List Tok}{a:Nat}{k:qu×Nat->Rs β}:Ps.lift (Ps.recv l a) k=(if Ps.is l a [40]=true then Ps.lift (Ps.name l (a+1)) λb=>Ps.lift (Ps.name l b) λc=>Ps.lift (Ps.need l c [41]) λd=>k (Ps.mk (Ps.tk l (a+1)) 7 (Ps.tk l (a+1)).text [Ps.mk (Ps.tk l b) 8 (Ps.tk l b).text []],d)else k (Ps.none_,a)):=by
 unfold Ps.recv;split
 ·cases Ps.name l (a+1)with
  |error f=>rfl
  |ok b=>
   show Ps.lift (Ps.name l b>>=_) k=Ps.lift (Ps.name l b) _
   cases Ps.name l b with
   |error f=>rfl
   |ok c=>
    show Ps.lift (Ps.need l c [41]>>=_) k=Ps.lift (Ps.need l c [41]) _
    cases Ps.need l c [41]<;>rfl
 ·rfl
theorem qd9(W:kv C.l)(ih:IH C.l C.r C.tb n)(hrun:Ps.funcDecl C.l n a=some res)(hk:HZ Z Γ H nx)(hr:Rd Γ C a 0)(hK:ja Z K Γ nx C 0 res (zM C.ex)):qo PG yU [.ptr C.r 0] H nx K:=by
 refine qo.of_body qp ?_
 rw [VI];unfold Ps.funcDecl Ps.result at hrun;have hrex:=hr.rex
 refine kl hk hr hK λΓ H hk hr hi hf hK kp=> ?_
 refine z0 (C:=(C.add nx)) W hrun hk hr hK rfl .id (λ_ h=>h) λΓ H m1_2 his hrun h hk kp hr hK=>⟨_,_,_,_,_,rfl,?_⟩
 replace hi:=hi.keep kp
 refine vJ (C:=(C.add nx)) hk hr hK rfl λΓ H hk hr ht kp hK=> ?_
 replace hi:=hi.keep kp
 refine v2 (C:=C.add nx) hk hK λH x h hk hn0 hK=>⟨_,_,_,_,_,_,rfl,?_⟩
 have hmE:=hk.fresh (Nat.le_refl x)
 have hm0:=hK.none hmE (hr.r_ne hmE)
 have hm3:=hr.tb_ne hmE
 replace hn0:=hn0.raise hmE
 refine kI (C:=(C.add nx)) hk hr rfl hK rfl λΓ H hk hr hx kp hK=> ?_
 replace hi:=hi.keep kp;replace ht:=ht.keep kp
 replace hr:Rd Γ ((C.add nx).add x) _ 0:=hr.add (by rw [hx.e];simp)
 replace hn0:=hn0.keep hr.rex kp
 replace hrun:=Yv.symm.trans hrun
 refine zi (C:=((C.add nx).add x)) W hrun hk hr hK rfl (λ_ h=>h) (λΓ H m2_16 his hrun h hk kp hr hK=>⟨_,rfl,jD rfl ?_⟩) (λH m2_16 his hrun h hk hK=>⟨_,rfl,jE rfl ?_⟩)
 ·
  replace hi:=hi.keep kp;replace ht:=ht.keep kp;replace hx:=hx.keep kp;replace hn0:=hn0.keep hr.rex kp
  refine jZ (C:=((C.add nx).add x)) W hrun hk hr hK rfl .id (λ_ h=>h) λΓ H m3_19 hkd hrun h hk kp hr hK=>⟨_,_,_,_,_,rfl,?_⟩
  replace hi:=hi.keep kp;replace ht:=ht.keep kp;replace hx:=hx.keep kp;replace hn0:=hn0.keep hr.rex kp
  refine vJ (C:=((C.add nx).add x)) hk hr hK rfl λΓ H hk hr h1 kp hK=> ?_
  replace hi:=hi.keep kp;replace ht:=ht.keep kp;replace hx:=hx.keep kp;replace hn0:=hn0.keep hr.rex kp
  refine jZ (C:=((C.add nx).add x)) W hrun hk hr hK rfl .id (λ_ h=>h) λΓ H m4_23 hkd hrun h hk kp hr hK=>⟨_,_,_,_,_,rfl,?_⟩
  replace hi:=hi.keep kp;replace ht:=ht.keep kp;replace hx:=hx.keep kp;replace hn0:=hn0.keep hr.rex kp;replace h1:=h1.keep kp
  refine vJ (C:=((C.add nx).add x)) hk hr hK rfl λΓ H hk hr h2 kp hK=> ?_
  replace hi:=hi.keep kp;replace ht:=ht.keep kp;replace hx:=hx.keep kp;replace hn0:=hn0.keep hr.rex kp;replace h1:=h1.keep kp
  refine⟨_,_,_,_,_,h1.tok hk,_,rfl,_,h1.ld hk 1,_,_,_,_,_,h2.tok hk,_,rfl,_,h2.ld hk 1,⟨⟨_,_,_,_,_,h1.tok hk,rfl⟩,⟨_,h1.ld hk 1,rfl⟩,⟨_,_,_,_,_,h2.tok hk,rfl⟩,⟨_,h2.ld hk 1,rfl⟩,trivial⟩,?_⟩
  obtain⟨hk',hni⟩:=jv (i:=m4_23+1+7) (nx':=m4_23+1+10) hk (by omega) (by omega)
  refine z8 (C:=((C.add nx).add x)) (ts:=[]) hk' .nil (hK.from (by omega) (.refl _ _ _)) λH m7 h hk hn7 hw7 hK=>⟨_,_,_,_,_,_,rfl,?_⟩
  refine jy (C:=((C.add nx).add x)) hk hni hr hK rfl (by omega) λΓ H hk hr hb hxhb kp hK=> ?_
  replace hi:=hi.keep kp;replace ht:=ht.keep kp;replace hx:=hx.keep kp;replace hn0:=hn0.keep hr.rex kp;replace h1:=h1.keep kp;replace h2:=h2.keep kp
  replace hn7:=hn7.keep hr.rex kp
  refine⟨⟨⟨_,_,_,_,_,h1.tok hk,rfl⟩,⟨_,h1.ld hk 1,rfl⟩,trivial⟩,?_⟩
  refine z8 (C:=((C.add nx).add x)) hk (zC.blk (n:=1) hxhb hb.e hn7.one rfl) hK λH m8 h hk hn8 hw8 hK=>⟨_,_,_,_,_,_,rfl,trivial,?_⟩
  obtain⟨cs8,ecs8⟩:∃cs,cs=[iv 7,.str (Ps.tk C.l (a+1+1)).text,iv 0,iv (Ps.tk C.l (a+1+1)).line,iv (Ps.tk C.l (a+1+1)).col,qa.slice (m4_23+1+7) 0 1 6 true]:=⟨_,rfl⟩
  obtain⟨H2,q1,q2⟩:=jS (k:=λH=>HZ Z (gup x (some cs8) _) H _) hk hx.e (vs:=cs8) (by rw [ecs8];rfl) (by rw [ecs8];simp only [qt,hw8];rfl) λH hk=>hk
  refine⟨H2,by rw [ecs8]at q1;exact q1,trivial,?_⟩
  replace hk:=q2
  replace hK:=hK.upd (i:=x) (cs:=some cs8) hm0 (by omega)
  replace hr:=hr.upd (cs:=cs8) (b:=x) hx.ne hm3
  replace hi:=hi.set (i:=x) (cs:=some cs8) (by omega)
  replace ht:=ht.set (j:=x) (ds:=some cs8) (by omega)
  replace hx:=hx.same (ds:=cs8)
  replace hn0:=hn8.set (cs:=some cs8)
  subst ecs8;refine z0 (C:=((C.add nx).add x)) W hrun hk hr hK rfl .id (λ_ h=>h) λΓ H m5_46 his hrun h hk kp hr hK=>⟨_,_,_,_,_,rfl,?_⟩
  replace hi:=hi.keep kp;replace ht:=ht.keep kp;replace hx:=hx.keep kp;replace hn0:=hn0.keep hr.rex kp
  refine jZ (C:=((C.add nx).add x)) W hrun hk hr hK rfl .id (λ_ h=>h) λΓ H m6_48 hkd hrun h hk kp hr hK=>⟨_,_,_,_,_,rfl,?_⟩
  replace hi:=hi.keep kp;replace ht:=ht.keep kp;replace hx:=hx.keep kp;replace hn0:=hn0.keep hr.rex kp
  refine ZB (C:=((C.add nx).add x)) W (Jz rfl) qdk (ih.param 0 (by omega)) hrun hk hr hK rfl .id (λ_ h=>h) λts b v Γ H m7_50 erow hrun h hk kp hv hr hK=> ?_
  replace hi:=hi.keep kp;replace ht:=ht.keep kp;replace hx:=hx.keep kp;replace hn0:=hn0.keep hr.rex kp
  have hlen:=VW (Jz (by rfl)) erow
  have hlt:b<C.l.length:=hr.lt
  have hW:=W.few
  refine qV (one:=qem C.l n 0) (C:=((C.add nx).add x)) (λZ ex res Γ H nx K h h2 h3 h4=>Vb (C:=⟨C.r,C.tb,C.l,ex⟩) W ih (by omega) h h2 h3 h4) hrun hk hr hK rfl .id (λ_ h=>h) λt1 c1 kk1 s1 n1 li1 co1 w1 Γ H m8_55 e1 hrun h hk kp hw1 hn1 hr hK=>⟨_,_,_,_,_,_,rfl,?_⟩
  replace hi:=hi.keep kp;replace ht:=ht.keep kp;replace hx:=hx.keep kp;replace hn0:=hn0.keep hr.rex kp;replace hv:=hv.keep hr.rex kp
  refine kI (C:=((C.add nx).add x)) hk hr hw1 hK rfl λΓ H hk hr hb1 kp hK=> ?_
  replace hi:=hi.keep kp;replace ht:=ht.keep kp;replace hx:=hx.keep kp;replace hn0:=hn0.keep hr.rex kp;replace hv:=hv.keep hr.rex kp;replace hn1:=hn1.keep hr.rex kp
  refine⟨_,_,_,_,_,ht.tok hk,_,_,_,_,_,_,qX hk hx.e rfl,_,_,_,_,_,_,qX hk hb1.e rfl,⟨⟨_,_,_,_,_,ht.tok hk,rfl⟩,⟨_,_,_,_,_,_,qX hk hx.e rfl,rfl⟩,⟨_,_,_,_,_,_,qX hk hb1.e rfl,rfl⟩,trivial⟩,?_⟩
  obtain⟨hk',hni⟩:=jv (i:=m8_55+1+6) (nx':=m8_55+1+11) hk (by omega) (by omega)
  refine qV (C:=((C.add nx).add x)) (λZ ex res Γ H nx K h=>ih.block 0 (by omega) Z ex _ res Γ H nx K h) hrun hk' hr (hK.from (by omega) (.refl _ _ _)) rfl .id wI λt2 c2 kk2 s2 n2 li2 co2 w2 Γ H m9_61 e2 hrun h hk kp hw2 hn2 hr hK=>⟨_,_,_,_,_,_,rfl,?_⟩
  replace hi:=hi.keep kp;replace ht:=ht.keep kp;replace hx:=hx.keep kp;replace hn0:=hn0.keep hr.rex kp;replace hv:=hv.keep hr.rex kp;replace hn1:=hn1.keep hr.rex kp
  replace hb1:=hb1.keep kp
  refine jy (C:=((C.add nx).add x)) hk hni hr hK rfl (by omega) λΓ H hk hr hb hxhb kp hK=> ?_
  replace hi:=hi.keep kp;replace ht:=ht.keep kp;replace hx:=hx.keep kp;replace hn0:=hn0.keep hr.rex kp;replace hv:=hv.keep hr.rex kp;replace hn1:=hn1.keep hr.rex kp
  replace hb1:=hb1.keep kp;replace hn2:=hn2.keep hr.rex kp
  refine⟨⟨⟨_,_,_,_,_,ht.tok hk,rfl⟩,⟨_,_,_,_,_,_,qX hk hx.e rfl,rfl⟩,⟨_,_,_,_,_,_,qX hk hb1.e rfl,rfl⟩,trivial⟩,?_⟩
  refine qrl (t1:=[_,_,_]) (C:=((C.add nx).add x)) hk hr hb.e hxhb (.cons hn0 (.cons hn1 hn2.one)) (by simp) hv (by simp;omega) rfl λw Γ H m9 h hk kp hr hv=> ?_
  replace hi:=hi.keep kp;replace ht:=ht.keep kp;replace hx:=hx.keep kp;replace hn0:=hn0.keep hr.rex kp;replace hn1:=hn1.keep hr.rex kp;replace hb1:=hb1.keep kp
  replace hn2:=hn2.keep hr.rex kp;replace hb:=hb.keep kp
  replace hK:=hK.from h kp
  cases hrun
  exact⟨⟨⟨_,_,_,_,_,ht.tok hk,rfl⟩,trivial⟩,jV hk (hr.less (.inr hrex)) hi hf hrex (hv.mono (λ_ h=> .inr h) λ_ _ _ h=>h) rfl hK⟩
 refine jZ (C:=((C.add nx).add x)) W hrun hk hr hK rfl .id (λ_ h=>h) λΓ H m3_74 hkd hrun h hk kp hr hK=>⟨_,_,_,_,_,rfl,?_⟩
 replace hi:=hi.keep kp;replace ht:=ht.keep kp;replace hx:=hx.keep kp;replace hn0:=hn0.keep hr.rex kp
 refine ZB (C:=((C.add nx).add x)) W (Jz rfl) qdk (ih.param 0 (by omega)) hrun hk hr hK rfl .id (λ_ h=>h) λts b v Γ H m4_76 erow hrun h hk kp hv hr hK=> ?_
 replace hi:=hi.keep kp;replace ht:=ht.keep kp;replace hx:=hx.keep kp;replace hn0:=hn0.keep hr.rex kp
 have hlen:=VW (Jz (by rfl)) erow
 have hlt:b<C.l.length:=hr.lt
 have hW:=W.few
 refine qV (one:=qem C.l n 0) (C:=((C.add nx).add x)) (λZ ex res Γ H nx K h h2 h3 h4=>Vb (C:=⟨C.r,C.tb,C.l,ex⟩) W ih (by omega) h h2 h3 h4) hrun hk hr hK rfl .id (λ_ h=>h) λt1 c1 kk1 s1 n1 li1 co1 w1 Γ H m5_81 e1 hrun h hk kp hw1 hn1 hr hK=>⟨_,_,_,_,_,_,rfl,?_⟩
 replace hi:=hi.keep kp;replace ht:=ht.keep kp;replace hx:=hx.keep kp;replace hn0:=hn0.keep hr.rex kp;replace hv:=hv.keep hr.rex kp
 refine kI (C:=((C.add nx).add x)) hk hr hw1 hK rfl λΓ H hk hr hb1 kp hK=> ?_
 replace hi:=hi.keep kp;replace ht:=ht.keep kp;replace hx:=hx.keep kp;replace hn0:=hn0.keep hr.rex kp;replace hv:=hv.keep hr.rex kp;replace hn1:=hn1.keep hr.rex kp
 refine⟨_,_,_,_,_,ht.tok hk,_,_,_,_,_,_,qX hk hx.e rfl,_,_,_,_,_,_,qX hk hb1.e rfl,⟨⟨_,_,_,_,_,ht.tok hk,rfl⟩,⟨_,_,_,_,_,_,qX hk hx.e rfl,rfl⟩,⟨_,_,_,_,_,_,qX hk hb1.e rfl,rfl⟩,trivial⟩,?_⟩
 obtain⟨hk',hni⟩:=jv (i:=m5_81+1+6) (nx':=m5_81+1+11) hk (by omega) (by omega)
 refine qV (C:=((C.add nx).add x)) (λZ ex res Γ H nx K h=>ih.block 0 (by omega) Z ex _ res Γ H nx K h) hrun hk' hr (hK.from (by omega) (.refl _ _ _)) rfl .id wI λt2 c2 kk2 s2 n2 li2 co2 w2 Γ H m6_87 e2 hrun h hk kp hw2 hn2 hr hK=>⟨_,_,_,_,_,_,rfl,?_⟩
 replace hi:=hi.keep kp;replace ht:=ht.keep kp;replace hx:=hx.keep kp;replace hn0:=hn0.keep hr.rex kp;replace hv:=hv.keep hr.rex kp;replace hn1:=hn1.keep hr.rex kp
 replace hb1:=hb1.keep kp
 refine jy (C:=((C.add nx).add x)) hk hni hr hK rfl (by omega) λΓ H hk hr hb hxhb kp hK=> ?_
 replace hi:=hi.keep kp;replace ht:=ht.keep kp;replace hx:=hx.keep kp;replace hn0:=hn0.keep hr.rex kp;replace hv:=hv.keep hr.rex kp;replace hn1:=hn1.keep hr.rex kp
 replace hb1:=hb1.keep kp;replace hn2:=hn2.keep hr.rex kp
 refine⟨⟨⟨_,_,_,_,_,ht.tok hk,rfl⟩,⟨_,_,_,_,_,_,qX hk hx.e rfl,rfl⟩,⟨_,_,_,_,_,_,qX hk hb1.e rfl,rfl⟩,trivial⟩,?_⟩
 refine qrl (t1:=[_,_,_]) (C:=((C.add nx).add x)) hk hr hb.e hxhb (.cons hn0 (.cons hn1 hn2.one)) (by simp) hv (by simp;omega) rfl λw Γ H m9 h hk kp hr hv=> ?_
 replace hi:=hi.keep kp;replace ht:=ht.keep kp;replace hx:=hx.keep kp;replace hn0:=hn0.keep hr.rex kp;replace hn1:=hn1.keep hr.rex kp;replace hb1:=hb1.keep kp
 replace hn2:=hn2.keep hr.rex kp;replace hb:=hb.keep kp
 replace hK:=hK.from h kp
 cases hrun
 exact⟨⟨⟨_,_,_,_,_,ht.tok hk,rfl⟩,trivial⟩,jV hk (hr.less (.inr hrex)) hi hf hrex (hv.mono (λ_ h=> .inr h) λ_ _ _ h=>h) rfl hK⟩
theorem Yl{Γ3 Γ4 Γ6:GH}{N nk nx6 b c:Nat}{o:qa}{ts:List qu}{x:qu}{H6:qc}{kk nn li co:Int}{s:List UInt8}{w:qa}{N':qa->qc->Nat->Prop}{P1 P2:List (qa×Bool)->qa->qc->Nat->Prop}(W:kv C.l)(gr:QD C N Γ3 Γ4 o ts)(hr3:Rd Γ3 C b 0)
  (g2:HZ Z Γ6 H6 nx6) (g3:qU C.r nk Γ4 Γ6) (h1:N<=nk) (h2:N<=nx6) (g5:Rd Γ6 (C.own o) c 0) (hw:qZ w=true) (hn:zu (C.own o).ex Γ6 [iv kk,.str s,iv nn,iv li,iv co,w] x) (hts:ts.length<=50000)
  (hneed:Ps.is C.l c [59]=false->∀v Γ7 H nx,N<=nx->HZ Z Γ7 H nx->qU C.r N Γ3 Γ7->RdP Γ7 C.r->P2 [(Ja (Ps.flt C.l c 13),false)] v H nx)
  (hgo:Ps.is C.l c [59]=true->∀v Γ9 Γ10 H nx,nx6<=nx->HZ Z Γ10 H nx->qU C.r N Γ3 Γ9->Rd Γ9 C (Ps.gaps C.l (c+1)) 0->QD C N Γ9 Γ10 v (ts++[x])->N' v H nx):
  ∃H24,H24=qC nx6 [iv kk,.str s,iv nn,iv li,iv co,w] H6/\∃i25 l26,jN 6 H24 (qa.slice nx6 0 1 6 true)=some (i25,l26)/\qt l26=true/\∃v27 H28 i29,z3 H24 (nx6+1) 6 72 o i25 l26=some (v27,H28,i29)/\
   qo PG zd [u0 C.r 0,u5 [59]] H28 i29 λe H31 i32=>qj e (λv33=>∃(n34:Int) (s35:List UInt8) (n36 n37 n38:Int),v33=u6 [iv n34,u5 s35,iv n36,iv n37,iv n38]/\
    qo PG vD [u0 C.r 0] H31 i32 λe H40 i41=>qj e (λv42=>N' v27 H40 i41) λl43=>P1 l43 v27 H40 i41) λl44=>P2 l44 v27 H31 i32:=by
 have hf6:=g2.fresh (Nat.le_refl nx6)
 refine Qe g2 (nx':=nx6+1) lR (by omega) λH7 g7=> ?_
 have hn7:zu (C.own o).ex (gup nx6 (some [iv kk,.str s,iv nn,iv li,iv co,w]) Γ6) [iv kk,.str s,iv nn,iv li,iv co,w] x:=hn.mono (λ_ h=>h) λc ds _ e=>by rw [qn λx=>by rw [x,hf6]at e;cases e];exact e
 have hr7:Rd (gup nx6 (some [iv kk,.str s,iv nn,iv li,iv co,w]) Γ6) (C.own o) c 0:=g5.new hf6
 have g37:qU C.r N Γ4 (gup nx6 (some [iv kk,.str s,iv nn,iv li,iv co,w]) Γ6):=g3.le.trans (.new (nx:=N) hf6)
 obtain⟨v,H8,nx8,Γ8,Γ9,a1,a2,a3,a4,a5,a6⟩:=gr.more hr3 g7 g37 (by omega) (by omega) hr7 hn7 (by omega)
 refine⟨1,[iv kk,.str s,iv nn,iv li,iv co,w],?_,by simp only [qt,hw];rfl,v,H8,nx8,a1,?_⟩
 ·rw [g7.src (qk _ _ _) (by simp)];simp
 have hr9:=a6.rd' a5
 refine Ql W a3 hr9 (λh11 H11 nx11 g11 hk11=>ql.2 (hneed h11 _ _ _ _ (by omega) hk11 (a4.trans a6.keep) hr9.p)) λh11 Γ11 H11 nx11 g11 hk11 kp11 hr11=>qb.2 ⟨_,_,_,_,_,rfl,?_⟩
 refine Ke W hk11 hr11 λΓ12 H12 nx12 h12 hk12 kp12 hr12=>qb.2 ?_
 obtain⟨Γ13,b1,b2,b3⟩:=a6.next a5 (kp11.trans kp12) (by omega) hr12
 exact hgo h11 _ _ _ _ _ (by omega) hk12 (a4.trans b2) b3 b1
theorem Qq{l:List Tok}{n:Nat}:Ps.AdvOK (Ps.typeDecl l n):=λa t b h=>by
 unfold Ps.typeDecl at h;refine Ps.lift_el h λa1 h1 h=>Ps.lift_el h λb1 h2 h=>Ps.ite_el h (λ_ h=>Ps.bind_el h λxs c h3 h=>Ps.ok_el h λh4 h5=> ?_) λ_ h=>Ps.lift_el h λb2 h6 h=>Ps.bind_el h λxs c h3 h=>Ps.ok_el h λh4 h5=> ?_
 ·have:=Ps.need_ok h1;have:=Ps.name_ok h2;have:=Ps.list_adv (Jz rfl) h3;omega
 ·have:=Ps.need_ok h1;have:=Ps.name_ok h2;have:=Ps.need_ok h6;have:=Ps.list_adv (Jz rfl) h3;omega
theorem QA{l:List Tok}{n:Nat}:Ps.AdvOK (Ps.funcDecl l n):=λa t b h=>by
 unfold Ps.funcDecl Ps.result at h;refine Ps.lift_el h λa1 h1 h=> ?_
 replace h:=Yv.symm.trans h
 have h1:=Ps.need_ok h1
 have key:∀{rv:qu} {a2:Nat} {h':Ps.lift (Ps.name l a2) (λc=>Rs.bind (Ps.row l (Ps.run l n .param 0) n c) λ(ps,d)=>Rs.bind (if((Ps.tk l d).kind==2||Ps.isTyp l d||Ps.is l d [91])=true then Ps.run l n .typ 0 d else Rs.ok (Ps.none_,d)) λ(y,e)=>Rs.bind (Ps.run l n .block 0 e) λ(body,f)=>Rs.ok (Ps.mk (Ps.tk l a) 6 (Ps.tk l a2).text (rv::y::body::ps),f))=some (.ok (t,b))},a2+1<=b:=by
  intro rv a2 h;refine Ps.lift_el h λc h2 h=>Ps.bind_el h λps d h3 h=>Ps.bind_el h λy e h4 h=>Ps.bind_el h λbody f h5 h=>Ps.ok_el h λ_ h6=> ?_
  have:=Ps.name_ok h2;have:=Ps.row_adv (Jz rfl) h3;have:=Ps.run_adv l n .block 0 e body f h5
  have h4:d<=e:=by
   refine Ps.ite_el h4 (λ_ h=> ?_) λ_ h=>Ps.ok_el h λ_ h=>by omega
   have:=Ps.run_adv l n .typ 0 d y e h;omega
  omega
 refine Ps.ite_el h (λ_ h=>Ps.lift_el h λb1 h2 h=>Ps.lift_el h λc1 h3 h=>Ps.lift_el h λd1 h4 h=> ?_) λ_ h=> ?_
 ·have:=key (h':=h);have:=Ps.name_ok h2;have:=Ps.name_ok h3;have:=Ps.need_ok h4;omega
 ·have:=key (h':=h);omega
theorem qpe{res0:Except Flt qu}(W:kv C.l)(ih:IH C.l C.r C.tb n)(hrun:Ps.file C.l n=some res0)(hk:HZ Z Γ H nx)(hr:Rd Γ C 0 0)
  (hK:ja Z K Γ nx C 0 (match res0 with| .ok t=> .ok (t,C.l.length - 1)| .error f=> .error f) (zM C.ex)):qo PG Ko [.ptr C.r 0] H nx K:=by
 refine qo.of_body qp ?_
 rw [qbv];have hrex:=hr.rex
 refine kl hk hr hK λΓ1 H hk hr hi hf hK kp=> ?_
 refine kZ (C:=C.add nx) hk hr hK λH m1 h hk hK=>⟨_,_,_,_,_,rfl,?_⟩
 refine vJ (C:=C.add nx) hk hr hK rfl λΓ1 H hk hr ht kp hK=> ?_
 replace hi:=hi.keep kp
 refine Ke (C:=C.add nx) W hk hr λΓ2 H nx2 h2 hk2 kp2 hr2=>qb.2 ?_
 replace hi:=hi.keep kp2;replace ht:=ht.keep kp2;replace hK:=hK.from h2 kp2
 obtain⟨res',hgo,hres⟩:∃res',Ps.declsGo C.l n n (Ps.gaps C.l 0)=some res'/\res0=(match res' with| .ok xs=> .ok (Ps.mk (Ps.tk C.l 0) 1 [] xs)| .error f=> .error f):=by
  unfold Ps.file at hrun;rcases Ps.bind_some hrun with⟨f,e1,e2⟩|⟨xs,e1,e2⟩
  ·exact⟨_,e1,e2⟩
  ·exact⟨_,e1,by cases e2;rfl⟩
 refine zD (P:=PG) (X:=qa) (Y:=qa) (λo=>qe .und [(0,.ptr C.r 0),(2,.ptr nx 0),(3,.ptr m1 0),(4,o)]) (λo=>qe .und [(2,.ptr nx 0),(3,.ptr m1 0),(4,o)])
  (λm o H3 nx3=>nx2<=nx3/\∃Γ3 Γ4 ts b res',HZ Z Γ4 H3 nx3/\qU C.r nx2 Γ2 Γ3/\Rd Γ3 (C.add nx) b 0/\QD (C.add nx) nx2 Γ3 Γ4 o ts/\ts.length<=b/\Ps.declsGo C.l n m b=some res'/\res0=(match res' with| .ok xs=> .ok (Ps.mk (Ps.tk C.l 0) 1 [] (ts++xs))| .error f=> .error f))
  (λid o H3 nx3=>id=0/\nx2<=nx3/\∃Γ3 ts b,HZ Z Γ3 H3 nx3/\qU C.r nx2 Γ2 Γ3/\Rd Γ3 (C.add nx) b 0/\b=C.l.length - 1/\zC (C.add nx).ex Γ3 o ts/\res0= .ok (Ps.mk (Ps.tk C.l 0) 1 [] ts)) n .nilSlice (qq.okay)
  ⟨Nat.le_refl _,Γ2,Γ2,[],_,res',hk2,.refl _ _ _,hr2,.inl ⟨rfl,rfl,rfl⟩,by simp,hgo,by rw [hres];rfl⟩ ?_ ?_
 ·rintro m o H3 nx3 ⟨h3,Γ3,Γ4,ts,b,res',hk4,kp3,hr3,gr,hts,hgo,hres⟩
  refine WpP.trim (ts:=[0,2,3,4]) (WpP.weaken (e:=qe .und [(4,o),(3,.ptr m1 0),(2,.ptr nx 0),(0,.ptr C.r 0)]) (qq.okay) (WpP.of_vK qp ?_))
  rw [qls];have hr4:=gr.rd' hr3
  cases m with
  |zero=>simp [Ps.declsGo]at hgo
  |succ m=>
  unfold Ps.declsGo at hgo;refine Js (C:=C.add nx) hk4 hr4 λH5 nx5 h5 hk5=>qb.2 ⟨_,_,_,_,_,rfl,qf.2 ⟨λh1=> ?_,λh1=> ?_⟩⟩
  ·have h1:¬(Ps.tk C.l b).kind=0:=by simpa using h1
   rw [if_neg (by simp [h1])]at hgo
   have hWf:=W.few
   have hcl:b<C.l.length:=hr3.lt
   have on:∀{g:FuncId} {one:Nat->Rs (qu×Nat)} {H6 nx6} {R1:qa->qc->Nat->Prop} {P0:List (qa×Bool)->qc->Nat->Prop},kt C.l C.r C.tb 0 g one->Ps.AdvOK one->nx3<=nx6->HZ Z Γ4 H6 nx6->
     (Rs.bind (one b) λ(x,b)=>Ps.lift (Ps.need C.l b [59]) λc=>Rs.bind (Ps.declsGo C.l n m (Ps.gaps C.l c)) λxs=>Rs.ok (x::xs))=some res'->
     (∀f Γ7 H7 nx7,res'= .error f->nx2<=nx7->HZ Z Γ7 H7 nx7->qU C.r nx2 Γ2 Γ7->RdP Γ7 C.r->P0 [(Ja f,false)] H7 nx7)->
     (∀x c kk s nn li co w Γ7 H7 nx7,one b=some (.ok (x,c))->nx6<=nx7->HZ Z Γ7 H7 nx7->qU C.r nx6 Γ4 Γ7->qZ w=true->zu ((C.add nx).own o).ex Γ7 [iv kk,.str s,iv nn,iv li,iv co,w] x->Rd Γ7 ((C.add nx).own o) c 0->
      (Ps.lift (Ps.need C.l c [59]) λc=>Rs.bind (Ps.declsGo C.l n m (Ps.gaps C.l c)) λxs=>Rs.ok (x::xs))=some res'->R1 (.agg [iv kk,.str s,iv nn,iv li,iv co,w]) H7 nx7)->
     qo PG g [.ptr C.r 0] H6 nx6 λe H' nx'=>qj e (λv=>R1 v H' nx') λl=>P0 l H' nx':=by
    intro g one H6 nx6 R1 P0 hone hadv h6 hk6 hgo hbad hok;rcases Ps.bind_some hgo with⟨f,e1,e2⟩|⟨⟨x,c⟩,e1,hgo⟩
    ·refine hone.on (CC:=(C.add nx).own o) ((C.add nx).own_l o) ((C.add nx).own_r o) ((C.add nx).own_tb o) e1 hk6 (gr.rd hr3) (.on (λx b v Γ' H' nx' e=>by cases e) λf' Γ' H' nx' e g1 g2 g3 g4=> ?_)
     cases e
     rw [RC.own_r]at g3 g4;exact hbad f _ _ _ e2 (by omega) g2 ((kp3.trans gr.keep).trans g3) g4
    ·refine hone.on (CC:=(C.add nx).own o) ((C.add nx).own_l o) ((C.add nx).own_r o) ((C.add nx).own_tb o) e1 hk6 (gr.rd hr3) (.on (λx' b' v Γ6 H6 nx6 e g1 g2 g3 g4 g5=> ?_) λf' Γ' H' nx' e=>by cases e)
     cases e
     obtain⟨k,s,nn,li,co,w,rfl,hw,hn⟩:=g4.cells
     rw [RC.own_r]at g3;exact hok _ _ _ _ _ _ _ _ _ _ _ e1 g1 g2 g3 hw hn g5 hgo
   refine qcr (C:=C.add nx) hk5 hr4 λH6 nx6 h6 hk6=>qb.2 ⟨_,rfl,qf.2 ⟨λh7=> ?_,λh7=> ?_⟩⟩
   ·have h7:Ps.is C.l b Ps.wType=true:=h7
    rw [h7]at hgo;refine on (one:=Ps.typeDecl C.l n) (λZ ex a res Γ H nx K e1 e2 e3 e4=>qbl (C:=⟨C.r,C.tb,C.l,ex⟩) W ih e1 e2 e3 e4) Qq (by omega) hk6 hgo (λf Γ7 H7 nx7 e g1 g2 g3 g4=> ?_) λx c kk s nn li co w Γ7 H7 nx7 e1 g1 g2 g3 g4 g5 g6 hgo=>⟨_,_,_,_,_,_,rfl,?_⟩
    ·subst e;exact(hK.from g1 g3).pan (by rw [hres]) g2 g4
    ·have hadv:=Qq _ _ _ e1
     have hcl:c<C.l.length:=by have:=g6.lt;rwa [RC.own_l]at this
     refine Yl (C:=C.add nx) W gr hr3 g2 g3 (by omega) (by omega) g6 g4 g5 (by omega) (λe v Γ8 H8 nx8 q1 q2 q3 q4=> ?_) λe v Γ9 Γ10 H8 nx8 q1 q2 q3 q4 q5=> ?_
     ·have e':res'= .error (Ps.flt C.l c 13):=by simp [Ps.need,e,Ps.lift]at hgo;exact hgo.symm
      exact(hK.from q1 (kp3.trans q3)).pan (by rw [hres,e']) q2 q4
     ·have hgo:Rs.bind (Ps.declsGo C.l n m (Ps.gaps C.l (c+1))) (λxs=>Rs.ok (x::xs))=some res':=by simpa [Ps.need,e,Ps.lift]using hgo
      have:=Ps.gaps_le C.l (c+1)
      rcases Ps.bind_some hgo with⟨f,e4,e5⟩|⟨xs,e4,e5⟩
      ·exact⟨rfl,m,v,Nat.lt_succ_self m,qq.refl _,by omega,Γ9,Γ10,ts++[x],_,_,q2,kp3.trans q3,q4,q5,by simp;omega,e4,by rw [hres,e5]⟩
      ·exact⟨rfl,m,v,Nat.lt_succ_self m,qq.refl _,by omega,Γ9,Γ10,ts++[x],_,_,q2,kp3.trans q3,q4,q5,by simp;omega,e4,by cases e5;rw [hres];simp⟩
   ·have h7:Ps.is C.l b Ps.wType=false:=h7
    rw [h7]at hgo;refine qcr (C:=C.add nx) hk6 hr4 λH6 nx6 h6 hk6=>qb.2 ⟨_,rfl,qf.2 ⟨λh8=> ?_,λh8=> ?_⟩⟩
    ·have h8:Ps.is C.l b Ps.wFunc=true:=h8
     rw [h8]at hgo;refine on (one:=Ps.funcDecl C.l n) (λZ ex a res Γ H nx K e1 e2 e3 e4=>qd9 (C:=⟨C.r,C.tb,C.l,ex⟩) W ih e1 e2 e3 e4) QA (by omega) hk6 hgo (λf Γ7 H7 nx7 e g1 g2 g3 g4=> ?_) λx c kk s nn li co w Γ7 H7 nx7 e1 g1 g2 g3 g4 g5 g6 hgo=>⟨_,_,_,_,_,_,rfl,?_⟩
     ·subst e;exact(hK.from g1 g3).pan (by rw [hres]) g2 g4
     ·have hadv:=QA _ _ _ e1
      have hcl:c<C.l.length:=by have:=g6.lt;rwa [RC.own_l]at this
      refine Yl (C:=C.add nx) W gr hr3 g2 g3 (by omega) (by omega) g6 g4 g5 (by omega) (λe v Γ8 H8 nx8 q1 q2 q3 q4=> ?_) λe v Γ9 Γ10 H8 nx8 q1 q2 q3 q4 q5=> ?_
      ·have e':res'= .error (Ps.flt C.l c 13):=by simp [Ps.need,e,Ps.lift]at hgo;exact hgo.symm
       exact(hK.from q1 (kp3.trans q3)).pan (by rw [hres,e']) q2 q4
      ·have hgo:Rs.bind (Ps.declsGo C.l n m (Ps.gaps C.l (c+1))) (λxs=>Rs.ok (x::xs))=some res':=by simpa [Ps.need,e,Ps.lift]using hgo
       have:=Ps.gaps_le C.l (c+1)
       rcases Ps.bind_some hgo with⟨f,e4,e5⟩|⟨xs,e4,e5⟩
       ·exact⟨rfl,m,v,Nat.lt_succ_self m,qq.refl _,by omega,Γ9,Γ10,ts++[x],_,_,q2,kp3.trans q3,q4,q5,by simp;omega,e4,by rw [hres,e5]⟩
       ·exact⟨rfl,m,v,Nat.lt_succ_self m,qq.refl _,by omega,Γ9,Γ10,ts++[x],_,_,q2,kp3.trans q3,q4,q5,by simp;omega,e4,by cases e5;rw [hres];simp⟩
    ·have h8:Ps.is C.l b Ps.wFunc=false:=h8
     rw [h8]at hgo;have e':res'= .error (Ps.flt C.l b 13):=by cases hgo;rfl
     exact y2 (C:=C.add nx) hk6 hr4 λH9 nx9 h9 hk9=>ql.2 ((hK.from (by omega:nx2<=nx9) (kp3.trans gr.keep)).pan (by rw [hres,e']) hk9 hr4.p)
  ·have h1:(Ps.tk C.l b).kind=0:=by simpa using h1
   rw [if_pos (by simp [h1])]at hgo
   cases hgo
   have hb:b=C.l.length - 1:=by
    have:=hr3.lt
    by_cases hb:b+1<C.l.length
    ·exact absurd h1 (W.rest b hb)
    ·have:b<C.l.length:=this
     omega
   exact⟨rfl,o,qq.okay,rfl,by omega,Γ4,ts,b,hk5,kp3.trans gr.keep,hr4,hb,gr.v hr3,by simpa using hres⟩
 ·rintro id o H3 nx3 ⟨rfl,h3,Γ3,ts,b,hk3,kp3,hr3,hb,hv,hres⟩
  refine Eq.mpr (ql1 (qo PG) (LpP PG) (z9 (qM PG)) (ze PG (qM PG)) m1 nx o H3 nx3 K) ?_
  replace hi:=hi.keep kp3;replace ht:=ht.keep kp3;replace hK:=hK.from h3 kp3
  subst hb;refine⟨_,_,_,_,_,ht.tok hk3,jJ hk3 hr3 hi hf hrex hv (by rw [hres]) hK⟩
end
end
end Go.Vs
end
section
namespace Go.Vs
open Go.Proofs
variable [GTab]
noncomputable section
theorem qsl{l:List Tok}{r tb:Nat}(W:kv l)(n:Nat):IH l r tb n:=by
 induction n using Nat.strongRecOn with
 |_ n ih=>
  cases n with
  |zero=>
   refine⟨?_,?_,?_,?_,?_,?_,?_,?_,?_,?_,?_,?_⟩
   all_goals first
    |(intro d hd Z ex a res Γ H nx K h;simp [Ps.run]at h;done)
    |(intro k d hd Z ex a res Γ H nx K h;simp [Ps.run]at h;done)
  |succ n=>
   have i:=ih n (Nat.lt_succ_self n)
   have is:∀m,m<=n->IH l r tb m:=λm h=>ih m (by omega)
   exact⟨λd hd Z ex a res Γ H nx K h1 h2 h3 h4=>qtl (C:=⟨r,tb,l,ex⟩) W i hd h1 h2 h3 h4,
    λd hd Z ex a res Γ H nx K h1 h2 h3 h4=>qk9 (C:=⟨r,tb,l,ex⟩) W i hd h1 h2 h3 h4,
    λd hd Z ex a res Γ H nx K h1 h2 h3 h4=>qix (C:=⟨r,tb,l,ex⟩) W i hd h1 h2 h3 h4,
    λd hd Z ex a res Γ H nx K h1 h2 h3 h4=>qmm (C:=⟨r,tb,l,ex⟩) W i hd h1 h2 h3 h4,
    λd hd Z ex a res Γ H nx K h1 h2 h3 h4=>qqg (C:=⟨r,tb,l,ex⟩) W i hd h1 h2 h3 h4,
    λd hd Z ex a res Γ H nx K h1 h2 h3 h4=>qup (C:=⟨r,tb,l,ex⟩) W i hd h1 h2 h3 h4,
    λd hd Z ex a res Γ H nx K h1 h2 h3 h4=>qmh (C:=⟨r,tb,l,ex⟩) W i hd h1 h2 h3 h4,
    λd hd Z ex a res Γ H nx K h1 h2 h3 h4=>qpm (C:=⟨r,tb,l,ex⟩) W i hd h1 h2 h3 h4,
    λd hd Z ex a res Γ H nx K h1 h2 h3 h4=>qlj (C:=⟨r,tb,l,ex⟩) W i hd h1 h2 h3 h4,
    λd hd Z ex a res Γ H nx K h1 h2 h3 h4=>qql (C:=⟨r,tb,l,ex⟩) W is hd h1 h2 h3 h4,
    λd hd Z ex a res Γ H nx K h1 h2 h3 h4=>qkg (C:=⟨r,tb,l,ex⟩) W i hd h1 h2 h3 h4,
    λk d hd Z ex a res Γ H nx K h1 h2 h3 h4=>qim (C:=⟨r,tb,l,ex⟩) W is hd h1 h2 h3 h4⟩
end
end Go.Vs
end
section
namespace Go.Vs
open Go.Proofs
variable [GTab] {Z:Nat->Prop}
noncomputable section
namespace Ps
def parse(s:List UInt8)(n:Nat):Rs qu:=match Pt.toks s with
 | .ok l=>file l n
 | .error f=>some (.error f)
end Ps
theorem qd8{H:qc}{a:qa}{k:qa->Prop}:vn PG yy H a k=(∃n1 n2:Int,ldN H 2 a=some (.agg [.int .i64 n1,.int .i64 n2])/\k (.agg [.int .i64 n1,.int .i64 n2])):=by kernel_rfl
theorem qco{H:qc}{a:qa}{k:qa->Prop}:vn PG yC H a k=(∃n1:Int,ld1 H a=some (.int .i64 n1)/\k (.int .i64 n1)):=by kernel_rfl
theorem Vx:vx PG Q2=true:=by kernel_rfl
def qh0:List qa:=[iv 0,.str [],iv 0,iv 0,iv 0,.nilSlice]
def ql4(ex:Nat->Prop)(Z:Nat->Prop)(Γ:GH)(nx:Nat)(R:Except Flt qu)(K:qr):Prop:=match R with
 | .ok t=>∀v Γ' H' nx',nx<=nx'->HZ Z Γ' H' nx'->(∀b cs,Γ b=some cs->Γ' b=some cs)->zM ex Γ' v t->K (.ret (.tuple [v,.agg [iv 0,iv 0],iv 0])) H' nx'
 | .error f=>∀Γ' H' nx',nx<=nx'->HZ Z Γ' H' nx'->(∀b cs,Γ b=some cs->Γ' b=some cs)->K (.ret (.tuple [.agg qh0,.agg [iv f.line,iv f.col],iv f.e])) H' nx'
abbrev qt4(Z:Nat->Prop)(Γ:GH)(nx:Nat)(R:Except Flt qu)(K:qr):Prop:=ql4 (λ_=>False) Z Γ nx R K
section
variable{Γ:GH}{H:qc}{nx:Nat}{K:qr}
theorem qnj{a b c:Nat}{n x y z e l m:Int}{s:List UInt8}{v:qa}(hk:HZ Z Γ H nx)(ha:Γ a=some [iv n,.str s,iv x,iv y,iv z,v])(hb:Γ b=some [iv l,iv m])(hc:Γ c=some [iv e])
  (h:K (.ret (.tuple [.agg [iv n,.str s,iv x,iv y,iv z,v],.agg [iv l,iv m],iv e])) H nx):X6 PG H [.cell (.ptr a 0) qJ,.cell (.ptr b 0) yy,.cell (.ptr c 0) yC] λvs=>K (.ret (yr vs)) H nx:=by
 show vn PG qJ H (.ptr a 0) λv=>vn PG yy H (.ptr b 0) λw=>vn PG yC H (.ptr c 0) λe=>K (.ret (.tuple [v,w,e])) H nx
 rw [Jx];refine⟨_,_,_,_,_,_,qX hk ha rfl,?_⟩
 rw [qd8];refine⟨_,_,qX hk hb rfl,?_⟩
 rw [qco];exact⟨_,by rw [hk.ld1 hc];rfl,h⟩
theorem X8{ex:Nat->Prop}{s:List UInt8}{n:Nat}{res:Except Flt qu}(hrun:Ps.parse s n=some res)(hk:HZ Z Γ H nx)(hex:∀b,ex b->Γ b≠none)(hK:ql4 ex Z Γ nx res K):qo PG y3 [.str s] H nx K:=by
 refine qo.of_body qp ?_
 rw [qdr];have hf0:=hk.fresh (Nat.le_refl nx)
 refine Qe hk (nx':=nx+1) lR (by omega) λH0 k0=> ?_
 have hf1:=k0.fresh (Nat.le_refl (nx+1))
 refine Qe k0 (nx':=nx+1+1) lR (by omega) λH1 k1=> ?_
 have hf2:=k1.fresh (Nat.le_refl (nx+1+1))
 refine Qe k1 (nx':=nx+1+1+1) lR (by omega) λH2 k2=> ?_
 obtain⟨Γ3,e3⟩:∃Γ3,Γ3=gup (nx+1+1) (some [iv 0]) (gup (nx+1) (some [iv 0,iv 0]) (gup nx (some qh0) Γ)):=⟨_,rfl⟩
 replace k2:HZ Z Γ3 H2 (nx+1+1+1):=by rw [e3];exact k2
 have gn:Γ3 nx=some qh0:=by rw [e3,qn (by omega),qn (by omega),qk]
 have gp:Γ3 (nx+1)=some [iv 0,iv 0]:=by rw [e3,qn (by omega),qk]
 have ge:Γ3 (nx+1+1)=some [iv 0]:=by rw [e3,qk]
 have s3:∀b cs,Γ b=some cs->Γ3 b=some cs/\b≠nx/\b≠nx+1/\b≠nx+1+1:=λb cs e=>by
  have h0:b≠nx:=neK e hf0
  have h1:b≠nx+1:=neK e (by rwa [qn (by omega)]at hf1)
  have h2:b≠nx+1+1:=neK e (by rwa [qn (by omega),qn (by omega)]at hf2)
  exact⟨by rw [e3,qn h2,qn h1,qn h0];exact e,h0,h1,h2⟩
 clear e3 hf0 hf1 hf2;cases ht:Pt.toks s with
 |error f=>
  have he:=Pt.toks_err ht
  have hres:res= .error f:=by unfold Ps.parse at hrun;rw [ht]at hrun;cases hrun;rfl
  subst hres;refine qhm k2 ?_
  rw [ht]
  refineλH4 i5 h4 k4=>qb.2 ⟨_,_,_,_,_,_,_,rfl,?_⟩
  have hf5:=k4.fresh (Nat.le_refl i5)
  refine scr k4 (nx':=i5+1) lR (by omega) rfl rfl λH5 k5=>⟨rfl,?_⟩
  have ne:∀{b cs},Γ3 b=some cs->b≠i5:=λe=>neK e hf5
  refine jS k5 ((qn (ne ge)).trans ge) rfl rfl λH6 k6=>⟨f.e,by rw [k6.ld1 (qk _ _ _)];rfl,qf.2 ⟨λ_=> ?_,λh=>by simp at h;exact absurd h he⟩⟩
  have lt:ldN H6 5 (.ptr i5 0)=some (wQ ⟨0,[],0,f.line,f.col⟩):=qX k6 ((qn (Ne.symm (ne ge))).trans (qk _ _ _)) rfl
  have le6:ld1 H6 (.ptr (nx+1+1) 0)=some (iv f.e):=by rw [k6.ld1 (qk _ _ _)];rfl
  refine⟨_,_,_,_,_,lt,_,le6,⟨⟨_,_,_,_,_,lt,rfl⟩,⟨_,le6,rfl⟩,trivial⟩,?_⟩
  refine qdp (t:=⟨0,[],0,f.line,f.col⟩) (k6.more (by omega:i5+1<=i5+1+7)) λH7 nx7 h7 k7=>qb.2 ⟨_,_,rfl,⟨⟨_,by rw [k7.ld1 (qk _ _ _)];rfl,rfl⟩,trivial⟩,?_⟩
  refine jS k7 ((qn (by omega)).trans ((qn (ne gn)).trans gn)) rfl rfl λH8 k8=>⟨⟨⟨_,by rw [k8.ld1 ((qn (by omega)).trans (qk _ _ _))];rfl,rfl⟩,trivial⟩,?_⟩
  refine jS k8 ((qn (by omega)).trans ((qn (by omega)).trans ((qn (ne gp)).trans gp))) rfl rfl λH9 k9=>⟨⟨⟨_,by rw [k9.ld1 ((qn (by omega)).trans ((qn (by omega)).trans (qk _ _ _)))];rfl,rfl⟩,trivial⟩,rfl,?_⟩
  refine jS k9 ((qn (by omega)).trans ((qn (by omega)).trans (qk _ _ _))) rfl rfl λH10 k10=>⟨trivial,_,_,_,_,_,_,qX k10 ((qn (by omega)).trans ((qn (by omega)).trans (qk _ _ _))) rfl,_,_,qX k10 ((qn (by omega)).trans (qk _ _ _)) rfl,_,by rw [k10.ld1 (qk _ _ _)];rfl,hK _ _ _ (by omega) k10 λb cs e=> ?_⟩
  obtain⟨q,q0,q1,q2⟩:=s3 b cs e
  rw [qn q2,qn q1,qn q0,qn q2,qn (ne q)];exact q
 |ok l=>
  have hfile:Ps.file l n=some res:=by unfold Ps.parse at hrun;rw [ht]at hrun;exact hrun
  have W:kv l:=(Pt.toks_good ht).toks
  refine qhm k2 ?_
  rw [ht]
  refineλtb H4 i5 h4 htb k4=>qb.2 ⟨_,_,_,_,_,_,_,rfl,?_⟩
  have s4:∀{b cs},Γ3 b=some cs->gup tb (some (l.flatMap ky)) Γ3 b=some cs:=λe=>(qn (neK e htb)).trans e
  have hf5:=k4.fresh (Nat.le_refl i5)
  refine scr k4 (nx':=i5+1) lR (by omega) rfl rfl λH5 k5=>⟨rfl,?_⟩
  have s5:∀{b cs},Γ3 b=some cs->gup i5 (some (ky ⟨0,[],0,0,0⟩)) (gup tb (some (l.flatMap ky)) Γ3) b=some cs:=λe=>(qn (neK (s4 e) hf5)).trans (s4 e)
  have tb5:tb≠i5:=neK (qk tb (some (l.flatMap ky)) Γ3) hf5
  refine jS k5 (s5 ge) rfl rfl λH6 k6=>⟨0,by rw [k6.ld1 (qk _ _ _)];rfl,qf.2 ⟨λh=>by simp at h,λ_=>⟨_,_,rfl,rfl,_,rfl,?_⟩⟩⟩
  obtain⟨Γ6,e6⟩:∃Γ6,Γ6=gup (nx+1+1) (some [iv 0]) (gup i5 (some (ky ⟨0,[],0,0,0⟩)) (gup tb (some (l.flatMap ky)) Γ3)):=⟨_,rfl⟩
  replace k6:HZ Z Γ6 H6 (i5+1):=by rw [e6];exact k6
  have s6:∀{b cs},Γ3 b=some cs->Γ6 b=some cs:=λ{b} {cs} e=>by
   rw [e6];by_cases hb:b=nx+1+1
   ·subst hb;rw [qk,<-ge,e]
   ·rw [qn hb];exact s5 e
  have t6:Γ6 tb=some (l.flatMap ky):=by rw [e6,qn (Ne.symm (neK ge htb)),qn tb5,qk]
  clear e6;have hf6:=k6.fresh (Nat.le_refl (i5+1))
  have k7:HZ Z (gup (i5+1) (some [.slice tb 0 l.length 5 false,iv 0,iv 0]) Γ6) (zA (i5+1) [.slice tb 0 l.length 5 false,iv 0,iv 0].length [.slice tb 0 l.length 5 false,iv 0,iv 0] H6) (i5+1+1):=k6.new lR (by omega) _
  have s7:∀{b cs},Γ6 b=some cs->b≠i5+1/\gup (i5+1) (some [.slice tb 0 l.length 5 false,iv 0,iv 0]) Γ6 b=some cs:=λe=>⟨neK e hf6,(qn (neK e hf6)).trans e⟩
  have hfl:=VP l
  have hr:Rd (gup (i5+1) (some [.slice tb 0 l.length 5 false,iv 0,iv 0]) Γ6) ⟨i5+1,tb,l,λb=>b=i5+1\/b=nx\/b=nx+1\/b=nx+1+1\/ex b⟩ 0 0:=by
   refine⟨W.pos,by omega,(s7 t6).1,.inl rfl,λb hb=> ?_,⟨false,qk _ _ _⟩,⟨_,(s7 t6).2,by rw [hfl];exact Nat.le_refl _,by show List.take (l.length*5) _=_;rw [<-hfl,List.take_length]⟩⟩
   rcases hb with rfl|rfl|rfl|rfl|hb
   ·rw [qk];simp
   ·rw [(s7 (s6 gn)).2];simp
   ·rw [(s7 (s6 gp)).2];simp
   ·rw [(s7 (s6 ge)).2];simp
   ·have hb:=hex b hb
    cases e:Γ b with
    |none=>exact absurd e hb
    |some cs=>rw [(s7 (s6 (s3 b cs e).1)).2];simp
  refine qpe (C:=⟨i5+1,tb,l,λb=>b=i5+1\/b=nx\/b=nx+1\/b=nx+1+1\/ex b⟩) W (qsl W n) hfile k7 hr (.on (λt b v Γ' H' nx' e g1 g2 g3 g4 g5=> ?_) λf Γ' H' nx' e g1 g2 g3 g4=> ?_)
  ·have hres:res= .ok t:=by cases res with
    |ok t'=>cases e;rfl
    |error f=>cases e
   subst hres;obtain⟨kk,ss,nn,li,co,w,rfl,hw,hn⟩:=g4.cells
   have q:∀{b cs},Γ3 b=some cs->Γ' b=some cs:=λe=>g3.1 _ _ (s7 (s6 e)).1 (s7 (s6 e)).2
   refine⟨_,_,_,_,_,_,rfl,jS g2 (q gn) rfl (by simp only [qt,hw];rfl) λH8 k8=> ?_⟩
   refine jS k8 ((qn (by omega)).trans (q gp)) rfl rfl λH9 k9=>⟨rfl,?_⟩
   refine jS k9 ((qn (by omega)).trans ((qn (by omega)).trans (q ge))) rfl rfl λH10 k10=> ?_
   refine qM.of_bodyS qp Vx ?_
   rw [qfz];refine⟨true,rfl,jD rfl (qb.2 ?_)⟩
   refine qnj k10 ((qn (by omega)).trans ((qn (by omega)).trans (qk _ _ _))) ((qn (by omega)).trans (qk _ _ _)) (qk _ _ _) ?_
   refine hK _ _ _ _ (by omega) k10 (λb cs e=> ?_) (hn.mono (λ_ h=> .inr (.inr (.inr (.inr h)))) λb cs hb e=> ?_).v
   ·obtain⟨q',q0,q1,q2⟩:=s3 b cs e
    rw [qn q2,qn q1,qn q0];exact q q'
   ·rw [qn λx=>hb (.inr (.inr (.inr (.inl x)))),qn λx=>hb (.inr (.inr (.inl x))),qn λx=>hb (.inr (.inl x))];exact e
  ·have hres:res= .error f:=by cases res with
    |ok t'=>cases e
    |error f'=>cases e;rfl
   subst hres;have q:∀{b cs},Γ3 b=some cs->Γ' b=some cs:=λe=>g3.1 _ _ (s7 (s6 e)).1 (s7 (s6 e)).2
   refine qM.of_bodyS qp Vx ?_
   rw [show Ja f= .iface ZX (.agg [iv f.line,iv f.col,iv f.e])from rfl,qf5];refine⟨false,rfl,jE rfl ?_⟩
   have hf8:=g2.fresh (Nat.le_refl nx')
   refine scr g2 (nx':=nx'+1) lR (by omega) rfl rfl λH8 k8=> ?_
   have n8:∀{b cs},Γ3 b=some cs->b≠nx':=λe=>neK (q e) hf8
   have lp:∀{Γa:GH} {Ha:qc} {na:Nat},HZ Z Γa Ha na->Γa nx'=some [iv f.line,iv f.col,iv f.e]->ldN Ha 2 (.ptr nx' 0)=some (.agg [iv f.line,iv f.col])/\ld1 Ha (.ptr nx' 2)=some (iv f.e):=λh e=>⟨by rw [h.ldN e (by simp)];rfl,by rw [h.ld1 e];rfl⟩
   obtain⟨p1,p2⟩:=lp k8 (qk _ _ _)
   refine⟨_,rfl,_,_,p1,_,rfl,_,p2,⟨⟨_,_,p1,rfl⟩,⟨_,p2,rfl⟩,trivial⟩,?_⟩
   refine jS k8 ((qn (n8 gn)).trans (q gn)) rfl rfl λH9 k9=> ?_
   obtain⟨p1,p2⟩:=lp k9 ((qn (Ne.symm (n8 gn))).trans (qk _ _ _))
   refine⟨⟨⟨_,_,p1,rfl⟩,⟨_,p2,rfl⟩,trivial⟩,?_⟩
   refine jS k9 ((qn (by omega)).trans ((qn (n8 gp)).trans (q gp))) rfl rfl λH10 k10=> ?_
   obtain⟨_,p2⟩:=lp k10 ((qn (Ne.symm (n8 gp))).trans ((qn (Ne.symm (n8 gn))).trans (qk _ _ _)))
   refine⟨⟨⟨_,p2,rfl⟩,trivial⟩,rfl,?_⟩
   refine jS k10 ((qn (by omega)).trans ((qn (by omega)).trans ((qn (n8 ge)).trans (q ge)))) rfl rfl λH11 k11=>⟨trivial,qb.2 ?_⟩
   refine qnj (k11.more (by omega:nx'+1<=nx'+1+8)) ((qn (by omega)).trans ((qn (by omega)).trans (qk _ _ _))) ((qn (by omega)).trans (qk _ _ _)) (qk _ _ _) ?_
   refine hK _ _ _ (by omega) (k11.more (by omega)) λb cs e=> ?_
   obtain⟨q',q0,q1,q2⟩:=s3 b cs e
   rw [qn q2,qn q1,qn q0,qn (n8 q')];exact q q'
theorem parse_ok{s:List UInt8}{n:Nat}{res:Except Flt qu}(hrun:Ps.parse s n=some res)(hk:HZ Z Γ H nx)(hK:qt4 Z Γ nx res K):qo PG y3 [.str s] H nx K:=
 X8 hrun hk (λ_ h=>h.elim) hK
end
end
end Go.Vs
end
section
namespace Go.Vs
namespace Ps
theorem Qq{l:List Tok}{n a b:Nat}{t:qu}(h:typeDecl l n a=some (.ok (t,b))):a<=b:=by
 unfold typeDecl at h;obtain⟨a1,h1,h⟩:=je h
 obtain⟨b1,h2,h⟩:=je h
 have e1:=(need_ok h1).2
 have e2:=(name_ok h2).2
 have ho:∀r,adv r=1->AdvOK (run l n r 0):=λr hr a t b h=>by have:=run_adv l n _ _ _ _ _ h;omega
 rcases jt h with⟨_,h⟩|⟨_,h⟩
 ·obtain⟨⟨xs,c⟩,h3,h⟩:=jc h
  have:=list_adv (ho .method rfl) h3
  cases h;omega
 ·obtain⟨b2,h3,h⟩:=je h
  have e3:=(need_ok h3).2
  obtain⟨⟨xs,c⟩,h4,h⟩:=jc h
  have:=list_adv (ho .field rfl) h4
  cases h;omega
theorem qng{l:List Tok}{a:Nat}{x:qu×Nat}(h:recv l a= .ok x):a<=x.2:=by
 unfold recv at h;split at h
 ·obtain⟨b,h1,h⟩:=Qc h
  obtain⟨c,h2,h⟩:=Qc h
  obtain⟨d,h3,h⟩:=Qc h
  have:=(name_ok h1).2;have:=(name_ok h2).2;have:=(need_ok h3).2
  cases h;show a<=d;omega
 ·cases h;exact Nat.le_refl _
theorem qgf{l:List Tok}{n a b:Nat}{t:qu}(h:result l n a=some (.ok (t,b))):a<=b:=by
 unfold result at h;rcases jt h with⟨_,h⟩|⟨_,h⟩
 ·have:=run_adv l n _ _ _ _ _ h;omega
 ·cases h;exact Nat.le_refl _
theorem QA{l:List Tok}{n a b:Nat}{t:qu}(h:funcDecl l n a=some (.ok (t,b))):a<=b:=by
 unfold funcDecl at h;obtain⟨a1,h1,h⟩:=je h
 obtain⟨⟨rv,b1⟩,h2,h⟩:=je h
 obtain⟨c,h3,h⟩:=je h
 obtain⟨⟨ps,d⟩,h4,h⟩:=jc h
 obtain⟨⟨y,e⟩,h5,h⟩:=jc h
 obtain⟨⟨body,f⟩,h6,h⟩:=jc h
 have:=(need_ok h1).2
 have:a1<=b1:=qng h2
 have:=(name_ok h3).2
 have:=row_adv (λa t b h=>by have:=run_adv l n _ _ _ _ _ h;simp only [adv]at this;omega) h4
 have:=qgf h5
 have:=run_adv l n _ _ _ _ _ h6
 cases h;omega
end Ps
namespace Ps
mutual
def few(M:Nat):qu->Prop
 | .node _ _ _ _ _ ts=>ts.length<=M/\qvf M ts
def qvf(M:Nat):List qu->Prop
 |[]=>True
 |t::ts=>few M t/\qvf M ts
end
section
variable{l:List Tok}{M:Nat}{one:Nat->Rs (qu×Nat)}
variable{n a b:Nat}
end
end Ps
namespace Ps
mutual
def sz:qu->Nat
 | .node _ _ _ _ _ ts=>1+szL ts
def szL:List qu->Nat
 |[]=>0
 |t::ts=>sz t+szL ts
end
def szR:Rule->Nat
 | .binGo _ x=>sz x
 | .postGo x=>sz x
 |_=>0
def sl:Rule->Nat
 | .binGo _ _=>0
 | .postGo _=>0
 | .stmt=>1
 |_=>2
section
variable{l:List Tok}{one:Nat->Rs (qu×Nat)}
def qi3(one:Nat->Rs (qu×Nat)):Prop:=∀a t b,one a=some (.ok (t,b))->sz t+3*a<=3*b
theorem qdd(ho:qi3 one):∀n a xs b,rowGo l one n a=some (.ok (xs,b))->szL xs+3*a+3<=3*b
 |0,_,_,_,h=>by simp [rowGo]at h
 |n+1,a,xs,b,h=>by
  unfold rowGo at h;obtain⟨⟨x,c⟩,h1,h⟩:=jc h
  have h1:=ho _ _ _ h1
  dsimp only at h
  split at h
  ·obtain⟨⟨ys,d⟩,h2,h⟩:=jc h
   have:=qdd ho n _ _ _ h2
   cases h;simp only [szL];omega
  ·obtain⟨d,h2,h⟩:=je h
   have:=need_ok h2
   cases h;simp only [szL];omega
theorem qkv(ho:qi3 one){n a:Nat}{xs:List qu}{b:Nat}(h:row l one n a=some (.ok (xs,b))):szL xs+3*a+6<=3*b:=by
 unfold row at h;obtain⟨c,h1,h⟩:=je h
 have h1:=need_ok h1
 split at h
 ·cases h;simp only [szL];omega
 ·have:=qdd ho _ _ _ _ h;omega
theorem Yb(ho:qi3 one):∀n a xs b,listGo l one n a=some (.ok (xs,b))->szL xs+3*a+3<=3*b
 |0,_,_,_,h=>by simp [listGo]at h
 |n+1,a,xs,b,h=>by
  unfold listGo at h;split at h
  ·cases h;simp only [szL];omega
  ·obtain⟨⟨x,c⟩,h1,h⟩:=jc h
   have h1:=ho _ _ _ h1
   obtain⟨d,h2,h⟩:=je h
   have h2:=ends_ok h2
   obtain⟨⟨ys,e⟩,h3,h⟩:=jc h
   have:=Yb ho n _ _ _ h3
   cases h;simp only [szL];omega
theorem YU(ho:qi3 one){n a:Nat}{xs:List qu}{b:Nat}(h:list l one n a=some (.ok (xs,b))):szL xs+3*a+6<=3*b:=by
 unfold list at h;obtain⟨c,h1,h⟩:=je h
 have h1:=need_ok h1
 have:=Yb ho _ _ _ _ h
 have:=gaps_le l c
 omega
theorem qta(l:List Tok):∀n rule d a t b,run l n rule d a=some (.ok (t,b))->sz t+3*a+sl rule<=szR rule+3*b:=by
 intro n
 induction n with
 |zero=>intro rule d a t b h;simp [run]at h
 |succ n ih=>
  intro rule d a t b h;have go1:∀rule d,szR rule=0->qi3 (run l n rule d):=λrule d e a t b h=>by have:=ih _ _ _ _ _ h;omega
  have non:sz none_=1:=rfl
  have res1:∀{c d:Nat} {x:qu×Nat} {p:Prop} [Decidable p],(if p then run l n .typ d c else Rs.ok (none_,c))=some (.ok x)->sz x.1+3*c<=1+3*x.2:=λh=>by
   rcases jt h with⟨_,h⟩|⟨_,h⟩
   ·have:=ih .typ _ _ _ _ h;simp only [sl,szR]at this;omega
   ·cases h;exact Nat.le_refl _
  cases rule<;>simp only [run]at h<;>simp only [sl,szR]
  all_goals repeat' (with_reducible first
   |(refine ite_el h (λhc h=> ?_) (λhc h=> ?_))
   |exact(qo3 h).elim
   |(refine ok_el h λh1 h2=> ?_;subst h1;(try simp only [mk,leaf,sz,szL]);omega)
   |(refine lift_el h λc h1 h=> ?_;first|(replace h1:=need_ok h1)|(replace h1:=name_ok h1))
   |(refine bind_el h λx c h1 h=> ?_;first|(replace h1:=qkv (go1 _ _ rfl) h1)|(replace h1:=YU (go1 _ _ rfl) h1)|(replace h1:=ih _ _ _ _ _ h1;simp only [sl,szR]at h1)|(replace h1:=res1 h1;dsimp only at h1))
   |(replace h:=ih _ _ _ _ _ h;simp only [sl,szR,mk,leaf,sz,szL]at h;omega))
variable{n a b:Nat}
theorem Zx{r:Rule}(hr:szR r=0)(d:Nat):qi3 (run l n r d):=λa t b h=>by have:=qta l n r d a t b h;omega
theorem qj3{t:qu}(h:result l n a=some (.ok (t,b))):sz t+3*a<=1+3*b:=by
 unfold result at h;rcases jt h with⟨_,h⟩|⟨_,h⟩
 ·have:=Zx (r:= .typ) rfl _ _ _ _ h;omega
 ·cases h;exact Nat.le_refl _
theorem qdg{t:qu}(h:typeDecl l n a=some (.ok (t,b))):sz t+3*a<=3*b:=by
 unfold typeDecl at h;obtain⟨a1,h1,h⟩:=je h
 obtain⟨b1,h2,h⟩:=je h
 have h1:=need_ok h1
 have h2:=name_ok h2
 rcases jt h with⟨_,h⟩|⟨_,h⟩
 ·obtain⟨⟨xs,c⟩,h3,h⟩:=jc h
  have g:=YU (Zx (r:= .method) rfl 0) h3
  cases h;simp only [mk,sz];omega
 ·obtain⟨b2,h3,h⟩:=je h
  have h3:=need_ok h3
  obtain⟨⟨xs,c⟩,h4,h⟩:=jc h
  have g:=YU (Zx (r:= .field) rfl 0) h4
  cases h;simp only [mk,sz];omega
theorem qou{x:qu×Nat}(h:recv l a= .ok x):sz x.1+3*a<=1+3*x.2:=by
 unfold recv at h;split at h
 ·obtain⟨b,h1,h⟩:=Qc h
  obtain⟨c,h2,h⟩:=Qc h
  obtain⟨d,h3,h⟩:=Qc h
  have h1:=name_ok h1
  have h2:=name_ok h2
  have h3:=need_ok h3
  cases h;simp only [mk,leaf,sz,szL];omega
 ·cases h;exact Nat.le_refl _
theorem qds{t:qu}(h:funcDecl l n a=some (.ok (t,b))):sz t+3*a<=3*b:=by
 unfold funcDecl at h;obtain⟨a1,h1,h⟩:=je h
 obtain⟨⟨rv,b1⟩,h2,h⟩:=je h
 obtain⟨c,h3,h⟩:=je h
 obtain⟨⟨ps,d⟩,h4,h⟩:=jc h
 obtain⟨⟨y,e⟩,h5,h⟩:=jc h
 obtain⟨⟨body,f⟩,h6,h⟩:=jc h
 have h1:=need_ok h1
 have h3:=name_ok h3
 have g0:=qou (x:=(rv,b1)) h2
 have g1:=qkv (Zx (r:= .param) rfl 0) h4
 have g3:=qj3 h5
 have g4:=Zx (r:= .block) rfl _ _ _ _ h6
 dsimp only at g0
 cases h;simp only [mk,sz,szL];omega
theorem WD:∀k a xs,a<=l.length+1->declsGo l n k a=some (.ok xs)->szL xs+3*a<=3*l.length+3
 |0,a,xs,_,h=>by simp [declsGo]at h
 |k+1,a,xs,ha,h=>by
  unfold declsGo at h;rcases jt h with⟨_,h⟩|⟨hk,h⟩
  ·cases h;simp only [szL];omega
  ·obtain⟨⟨x,b⟩,hx,h⟩:=jc h
   obtain⟨c,h2,h⟩:=je h
   obtain⟨ys,h3,h⟩:=jc h
   have h2':=need_ok h2
   have hlt:=qlw h2'.1
   have hg:gaps l c<=l.length+1:=by
    have:∀m a,a<=l.length+1->gapsN l m a<=l.length+1:=by
     intro m
     induction m with
     |zero=>exactλa h=>h
     |succ m ih=>
      intro a h;unfold gapsN;split
      ·rename_i hi;exact ih _ (by have:=qlw hi;omega)
      ·exact h
    exact this _ _ (by omega)
   have:=WD k _ _ hg h3
   have:=gaps_le l c
   have hf:sz x+3*a<=3*b:=by
    rcases jt hx with⟨_,hx⟩|⟨_,hx⟩
    ·exact qdg hx
    ·rcases jt hx with⟨_,hx⟩|⟨_,hx⟩
     ·exact qds hx
     ·cases hx
   cases h;simp only [szL];omega
theorem qqr{t:qu}(h:file l n=some (.ok t)):sz t<=3*l.length+4:=by
 unfold file at h;obtain⟨xs,h1,h⟩:=jc h
 have hg:gaps l 0<=l.length+1:=by
  have:∀m a,a<=l.length+1->gapsN l m a<=l.length+1:=by
   intro m
   induction m with
   |zero=>exactλa h=>h
   |succ m ih=>
    intro a h;unfold gapsN;split
    ·rename_i hi;exact ih _ (by have:=qlw hi;omega)
    ·exact h
  exact this _ _ (by omega)
 have:=WD _ _ _ hg h1
 cases h;simp only [mk,sz];omega
theorem parse_sz{s:List UInt8}{t:qu}(h:parse s n=some (.ok t)):sz t<=15004:=by
 unfold parse at h;split at h
 ·rename_i l ht;have W:=(Pt.toks_good ht).toks
  have:=qqr h
  have:=W.few
  omega
 ·cases h
mutual
theorem szL_len:∀{ts:List qu},ts.length<=szL ts
 |[]=>Nat.le_refl _
 |t::ts=>by
  have:=szL_len (ts:=ts)
  have:=quv (t:=t)
  simp only [szL,List.length_cons];omega
theorem quv:∀{t:qu},1<=sz t
 | .node _ _ _ _ _ ts=>by simp only [sz];omega
end
end
end Ps
end Go.Vs
end
section
namespace Go.Vs
open Go.Proofs Ck
variable [GTab] {Z:Nat->Prop}
noncomputable section
theorem qhr(Γ:GH):hide (λ_=>False) Γ=Γ:=by funext b;exact vp λh=>h
mutual
theorem zu.laid{Γ:GH}:∀{c:List qa} {t:qu},zu (λ_=>False) Γ c t->Ps.sz t<=100000->∃d:DT,d.er=t/\d.cells=c/\DF Γ d/\d.ht=Ps.sz t
 |_,_,.mk (kind:=kind) (n:=n) (line:=line) (col:=col) (name:=name) (v:=v) (kids:=kids) cs hs hk,hz=>by
  rw [Ps.sz]at hz;have hz:Ps.szL kids<=100000:=by omega
  obtain⟨ds,h1,h2,h3,h4⟩:=zX.laid hk hz
  refine⟨.node kind name n line col v ds,?_,rfl,⟨⟨?_,?_⟩,h3⟩,?_⟩
  ·rw [QQ];show qu.node _ _ _ _ _ (ers ds)=_;rw [h1];rfl
  ·rw [qhr]at hs;rw [h2];have e:ds.length=kids.length:=by rw [<-h1,jk]
   rw [e];exact hs
  ·have e:ds.length=kids.length:=by rw [<-h1,jk]
   have:=Ps.szL_len (ts:=kids)
   omega
  ·show 1+hts ds=_
   rw [h4,Ps.sz]
theorem zX.laid{Γ:GH}:∀{cs:List qa} {ts:List qu},zX (λ_=>False) Γ cs ts->Ps.szL ts<=100000->∃ds:List DT,ers ds=ts/\ds.flatMap DT.cells=cs/\DFs Γ ds/\hts ds=Ps.szL ts
 |_,_,.nil,_=>⟨[],rfl,rfl,trivial,rfl⟩
 |_,_,.cons h hl,hz=>by
  rw [Ps.szL]at hz;obtain⟨d,h1,h2,h3,h4⟩:=zu.laid h (by omega)
  obtain⟨ds,g1,g2,g3,g4⟩:=zX.laid hl (by omega)
  refine⟨d::ds,?_,?_,⟨h3,g3⟩,?_⟩
  ·show d.er::ers ds=_;rw [h1,g1]
  ·rw [List.flatMap_cons,h2,g2]
  ·show d.ht+hts ds=_;rw [h4,g4,Ps.szL]
end
def checked(s:List UInt8)(n:Nat):Option (Except Flt Ku):=match Ps.parse s n with
 |some (.ok t)=>some (Ck.check t)
 |some (.error f)=>some (.error ⟨0,0,f.e⟩)
 |none=>none
def InA(A:qD)(b:Nat):Prop:=∃x∈A,x.1=b
theorem qgr:∀{A:qD} {Γ Γ':GH} {b:Nat},InA A b->over A Γ b=over A Γ' b
 |[],_,_,_,⟨_,h,_⟩=>by cases h
 |(c,cs)::A,Γ,Γ',b,⟨x,h,e⟩=>by
  unfold over;by_cases hb:b=c
  ·subst hb;rw [qk,qk]
  ·rw [qn hb,qn hb];rcases List.mem_cons.1 h with rfl|h
   ·exact absurd e.symm hb
   ·exact qgr ⟨x,h,e⟩
theorem Xt:∀{A:qD} {Γ:GH} {b:Nat},¬InA A b->over A Γ b=Γ b
 |[],_,_,_=>rfl
 |(c,cs)::A,Γ,b,h=>by
  unfold over;rw [qn λx=>h ⟨_,List.mem_cons_self ..,x.symm⟩]
  exact Xt λ⟨x,hx,e⟩=>h ⟨x,List.mem_cons_of_mem _ hx,e⟩
theorem V8:∀{A:qD} {Γ:GH} {b:Nat},InA A b->over A Γ b≠none
 |[],_,_,⟨_,h,_⟩=>by cases h
 |(c,cs)::A,Γ,b,⟨x,h,e⟩=>by
  unfold over;by_cases hb:b=c
  ·subst hb;rw [qk];simp
  ·rw [qn hb];rcases List.mem_cons.1 h with rfl|h
   ·exact absurd e.symm hb
   ·exact V8 ⟨x,h,e⟩
theorem ko.hide:∀{A B:qD} {Γ Γ':GH},(∀x,x∈A->x∈B)->ko A Γ->ko A (hide (InA B) Γ')
 |[],_,_,_,_,_=>trivial
 |(c,cs)::A,B,Γ,Γ',hs,h=>by
  refine⟨?_,ko.hide (λx hx=>hs x (List.mem_cons_of_mem _ hx)) h.2⟩
  have hc:¬InA A c:=λx=>V8 x h.1
  rw [Xt hc];exact Wc ⟨_,hs _ (List.mem_cons_self ..),rfl⟩
section
variable{A:qD}{F:zr}{H:qc}{nx:Nat}{K:qr}
def qua(Z:Nat->Prop)(A:qD)(F:zr)(nx:Nat)(K:qr)(R:Except Flt qu):Prop:=match R with
 | .ok t=>∀d:DT,d.er=t->d.ht=Ps.sz t->∀H' nx',nx<=nx'->SH Z A ((λΓ=>DF Γ d)::F) H' nx'->K (.ret (.tuple [d.val,.agg [iv 0,iv 0],iv 0])) H' nx'
 | .error f=>∀H' nx',nx<=nx'->SH Z A F H' nx'->K (.ret (.tuple [.agg qh0,.agg [iv f.line,iv f.col],iv f.e])) H' nx'
theorem qjh{s:List UInt8}{n:Nat}{res:Except Flt qu}(hrun:Ps.parse s n=some res)(h:SH Z A F H nx)(hK:qua Z A F nx K res):qo PG y3 [.str s] H nx K:=by
 obtain⟨Γ,h1,h2,h3⟩:=h
 have back {Γ':GH} {H':qc} {nx':Nat} (g1:HZ Z Γ' H' nx') (g2:∀b cs,over A Γ b=some cs->Γ' b=some cs):HZ Z (over A (hide (InA A) Γ')) H' nx'/\ko A (hide (InA A) Γ')/\∀b cs,Γ b=some cs->hide (InA A) Γ' b=some cs:=by
  have e:over A (hide (InA A) Γ')=Γ':=by
   funext b
   by_cases hb:InA A b
   ·rw [qgr (Γ':=Γ) hb];cases q:over A Γ b with
    |none=>exact absurd q (V8 hb)
    |some cs=>rw [g2 b cs q]
   ·rw [Xt hb,vp hb]
  refine⟨by rw [e];exact g1,ko.hide (λ_ hx=>hx) h2,λb cs q=> ?_⟩
  have hb:¬InA A b:=λx=>by
   have:=ko.hide (B:=A) (Γ':=Γ) (λ_ hx=>hx) h2
   have e1:over A Γ b=some cs:=h2.row q
   have:∀{A:qD},ko A Γ->InA A b->Γ b=none:=by
    intro A
    induction A with
    |nil=>exactλ_ ⟨_,h,_⟩=>by cases h
    |cons y A ih=>
     obtain⟨c,ds⟩:=y
     rintro⟨q1,q2⟩ ⟨x,hx,e⟩
     rcases List.mem_cons.1 hx with rfl|hx
     ·have e:c=b:=e
      subst e;exact KY q1
     ·exact ih q2 ⟨x,hx,e⟩
   rw [this h2 x]at q;cases q
  rw [vp hb];exact g2 b cs (h2.row q)
 refine X8 (ex:=InA A) hrun h1 (λb hb=>V8 hb) ?_
 cases res with
 |error f=>
  intro Γ' H' nx' g g1 g2;obtain⟨b1,b2,b3⟩:=back g1 g2
  exact hK H' nx' g ⟨_,b1,b2,λΓ3 e P hP=>h3 Γ3 (λb cs q=>e _ _ (b3 b cs q)) P hP⟩
 |ok t=>
  intro v Γ' H' nx' g g1 g2 hv;obtain⟨b1,b2,b3⟩:=back g1 g2
  obtain⟨c,rfl,hn⟩:=hv
  have hn':zu (λ_=>False) (hide (InA A) Γ') c t:=hn.mono (λ_ h=>h.elim) λb cs hb e=>by rw [vp hb];exact e
  obtain⟨d,q1,q2,q3,q4⟩:=zu.laid hn' (by have:=Ps.parse_sz hrun;omega)
  have:d.val= .agg c:=by unfold DT.val;rw [q2]
  rw [<-this];refine hK d q1 q4 H' nx' g ⟨_,b1,b2,λΓ3 e P hP=> ?_⟩
  rcases List.mem_cons.1 hP with rfl|hP
  ·exact q3.mono e
  ·exact h3 Γ3 (λb cs q=>e _ _ (b3 b cs q)) P hP
end
end
end Go.Vs
end
section
namespace Go.Vs
namespace Ps
def Er{α:Type}(x:Rs α):Prop:=∀f,x=some (.error f)->f.e≠0
def ErE{α:Type}(x:Except Flt α):Prop:=∀f,x= .error f->f.e≠0
section
variable{l:List Tok}{one:Nat->Rs (qu×Nat)}{n a:Nat}
theorem ku{α β:Type}{x:Rs α}{k:α->Rs β}(hx:Er x)(hk:∀a,Er (k a)):Er (Rs.bind x k):=λf h=>by
 rcases bind_some h with⟨g,h1,h2⟩|⟨a,_,h⟩
 ·cases h2;exact hx _ h1
 ·exact hk a f h
theorem vd{α β:Type}{x:Except Flt α}{k:α->Rs β}(hx:ErE x)(hk:∀a,Er (k a)):Er (lift x k):=λf h=>by
 rcases YJ h with⟨g,h1,h2⟩|⟨a,_,h⟩
 ·cases h2;exact hx _ h1
 ·exact hk a f h
theorem QC{α:Type}{c:Prop} [Decidable c] {x y:Rs α} (hx:Er x) (hy:Er y):Er (if c then x else y):=by
 split<;>assumption
theorem y9{α:Type}{x:α}:Er (Rs.ok x):=λf h=>by cases h
theorem qs4{α:Type}{a:Nat}:Er (Rs.bad (flt l a 13):Rs α):=λf h=>by cases h;exactλx=>by cases x
theorem qv2{α:Type}{a:Nat}:Er (Rs.bad (flt l a 14):Rs α):=λf h=>by cases h;exactλx=>by cases x
theorem wq{s:List UInt8}:ErE (need l a s):=λf h=>by unfold need at h;split at h<;>cases h;exactλx=>by cases x
theorem jo:ErE (name l a):=λf h=>by unfold name at h;split at h<;>cases h;exactλx=>by cases x
theorem qr6:ErE (ends l a):=λf h=>by
 unfold ends at h;split at h
 ·cases h
 ·cases hn:need l a [59]with
  |ok b=>rw [hn]at h;cases h
  |error g=>rw [hn]at h;cases h;exact wq _ hn
theorem qdc(ho:∀a,Er (one a)):∀n a,Er (rowGo l one n a)
 |0,a=>λf h=>by simp [rowGo]at h
 |n+1,a=>by
  unfold rowGo;exact ku (ho a) λx=>QC (ku (qdc ho n _) λy=>y9) (vd wq λc=>y9)
theorem qll(ho:∀a,Er (one a)):Er (row l one n a):=by
 unfold row;exact vd wq λb=>QC y9 (qdc ho n b)
theorem X3(ho:∀a,Er (one a)):∀n a,Er (listGo l one n a)
 |0,a=>λf h=>by simp [listGo]at h
 |n+1,a=>by
  unfold listGo;exact QC y9 (ku (ho a) λx=>vd qr6 λc=>ku (X3 ho n _) λy=>y9)
theorem qaq(ho:∀a,Er (one a)):Er (list l one n a):=by
 unfold list;exact vd wq λb=>X3 ho n _
theorem Xu(l:List Tok):∀n rule d a,Er (run l n rule d a):=by
 intro n
 induction n with
 |zero=>intro rule d a f h;simp [run]at h
 |succ n ih=>
  intro rule d a;cases rule<;>simp only [run]
  all_goals repeat' (with_reducible first
   |exact y9
   |exact qs4
   |exact qv2
   |exact ih _ _ _
   |(refine QC ?_ ?_)
   |(refine vd wq λc=> ?_)
   |(refine vd jo λc=> ?_)
   |(refine ku (qll λc=>ih _ _ c) λx=> ?_)
   |(refine ku (qaq λc=>ih _ _ c) λx=> ?_)
   |(refine ku ?_ λx=> ?_))
theorem qid:Er (result l n a):=by unfold result;exact QC (Xu l n _ _ _) y9
theorem qbw:Er (typeDecl l n a):=by
 unfold typeDecl;exact vd wq λa1=>vd jo λb=>QC (ku (qaq λc=>Xu l n _ _ c) λx=>y9) (vd wq λb=>ku (qaq λc=>Xu l n _ _ c) λx=>y9)
theorem WJ{α β:Type}{x:Except Flt α}{k:α->Except Flt β}(hx:ErE x)(hk:∀a,ErE (k a)):ErE (x>>=k):=by
 cases x with
 |error e=>exactλf h=>by cases h;exact hx _ rfl
 |ok a=>exact hk a
theorem qkd{α:Type}{x:α}:ErE (Except.ok x):=λf h=>by cases h
theorem qot:ErE (recv l a):=by
 unfold recv;split
 ·exact WJ jo λb=>WJ jo λc=>WJ wq λd=>qkd
 ·exact qkd
theorem qcw:Er (funcDecl l n a):=by
 unfold funcDecl;exact vd wq λa1=>vd qot λx=>vd jo λc=>ku (qll λc=>Xu l n _ _ c) λps=>ku qid λy=>ku (Xu l n _ _ _) λb=>y9
theorem We:∀k a,Er (declsGo l n k a)
 |0,a=>λf h=>by simp [declsGo]at h
 |k+1,a=>by
  unfold declsGo;exact QC y9 (ku (QC qbw (QC qcw qs4)) λx=>vd wq λc=>ku (We k _) λxs=>y9)
theorem qpp:Er (file l n):=by unfold file;exact ku (We n _) λxs=>y9
theorem parse_er{s:List UInt8}:Er (parse s n):=λf h=>by
 unfold parse at h;split at h
 ·exact qpp _ h
 ·rename_i g hg;cases h
  exact Pt.toks_err hg
end
end Ps
end Go.Vs
end
section
namespace Go.Vs
open Go.Proofs
variable [GTab] {Z:Nat->Prop}
noncomputable section
section
variable{Γ:GH}{H:qc}{nx:Nat}{K:qr}
theorem qqy{n m:Int}(h0:0<m)(h1:m<=4611686018427387904)(hK:K (.ret (iv (n % m))) H nx):qo PG WB [iv n,iv m] H nx K:=by
 refine qo.of_body qp ?_
 rw [qfl];have hb:=Int.tmod_lt_of_pos n h0
 have hl: -m<n.tmod m:=by
  have h2:=Int.tmod_lt_of_pos (-n) h0
  rw [Int.neg_tmod]at h2;omega
 have e:n % m=if n.tmod m<0 then n.tmod m+m else n.tmod m:=by
  rw [Int.emod_eq_tmod];by_cases hn:0<=n
  ·rw [if_pos (.inl hn)];have:=Int.tmod_nonneg m hn
   rw [if_neg (by omega)];omega
  ·have hle:n.tmod m<=0:=by
    have:=Int.tmod_nonneg m (a:= -n) (by omega)
    rw [Int.neg_tmod]at this;omega
   by_cases hd:m ∣ n
   ·rw [if_pos (.inr hd)];have:=Int.tmod_eq_zero_of_dvd hd
    rw [if_neg (by omega)];omega
   ·rw [if_neg (by rintro(h|h);exact hn h;exact hd h)]
    have hz:n.tmod m≠0:=λh=>hd (Int.dvd_of_tmod_eq_zero h)
    rw [if_pos (by omega)]
    omega
 rw [e]at hK;refine⟨by omega,qf.2 ⟨λh=> ?_,λh=> ?_⟩⟩
 ·have h:n.tmod m<0:=of_decide_eq_true h
  rw [if_pos h]at hK;rw [qB (by omega) (by omega)];exact hK
 ·have h:¬n.tmod m<0:=of_decide_eq_false h
  rw [if_neg h]at hK;exact hK
end
end
end Go.Vs
end
section
namespace Go.Vs
open Go.Proofs Ck
variable [GTab] {Z:Nat->Prop}
noncomputable section
section
variable{A:qD}{F:zr}{H:qc}{nx:Nat}{K:qr}
theorem Wx{s:List UInt8}{n:Nat}{r:Ex Ku}(hrun:checked s n=some r)(h:SH Z A F H nx)(hK:qvh Z A F nx K r):qo PG jW [.str s] H nx K:=by
 refine qo.of_body qp ?_
 refine Eq.mpr (K7 ..) ?_
 refine h.mk1 lR λH0 h0=>h0.mk1 lR λH1 h1=> ?_
 cases hp:Ps.parse s n with
 |none=>unfold checked at hrun;rw [hp]at hrun;cases hrun
 |some q=>
  refine qjh hp h1 ?_
  cases q with
  |error f=>
   have hr:r= .error ⟨0,0,f.e⟩:=by unfold checked at hrun;rw [hp]at hrun;cases hrun;rfl
   subst hr;have he:f.e≠0:=Ps.parse_er f hp
   intro H3 i4 g3 h3;refine qb.2 ⟨_,_,_,_,_,_,_,_,_,rfl,?_⟩
   refine h3.mk1 lR λH15 h15=>h15.mk1 lR λH16 h16=> ?_
   refine h16.all (.tl .hd) rfl rfl λH17 h17=>h17.all .hd rfl rfl λH18 h18=> ?_
   refine ifT (by simp [he]) ?_
   refine h18.all (.tl (.tl (.tl .hd))) rfl rfl λH19 h19=>h19.all (.tl (.tl .hd)) rfl rfl λH20 h20=> ?_
   refine⟨_,_,_,h20.ldA (.tl (.tl (.tl .hd))) rfl,_,_,h20.ldA (.tl (.tl .hd)) rfl,?_⟩
   exact hK _ _ (by omega) h20.drop.drop.drop.drop
  |ok t=>
   have hr:r=Ck.check t:=by unfold checked at hrun;rw [hp]at hrun;cases hrun;rfl
   subst hr;intro d hd hht H3 i4 g3 h3;refine qb.2 ⟨_,_,_,_,_,_,_,_,_,rfl,?_⟩
   refine h3.mk1 lR λH15 h15=>h15.mk1 lR λH16 h16=> ?_
   have hE:Ent ((λΓ=>DF Γ d)::F) λΓ=>DF Γ d:=λΓ hq=>hq _ (.head _)
   have hw:qZ d.kw=true:=by
    obtain⟨Γ,_,hq⟩:=h16.to
    exact(hq _ (.head _)).row.cell
   refine h16.all (.tl .hd) rfl (by simp only [qt,hw];rfl) λH17 h17=>h17.all .hd rfl rfl λH18 h18=> ?_
   refine ifF rfl ⟨_,_,_,_,_,_,h18.ldA (.tl .hd) rfl,?_⟩
   have hsz:=Ps.parse_sz hp
   refine check_ok (d:=d) hE (by omega) h18 ?_
   rw [hd];cases hc:Ck.check t with
   |error f=>
    rw [hc]at hK;intro H' n' g h';refine qb.2 ⟨_,_,_,_,_,_,rfl,?_⟩
    refine h'.all (.tl (.tl (.tl .hd))) rfl rfl λH19 h19=>h19.all (.tl (.tl .hd)) rfl rfl λH20 h20=> ?_
    refine⟨_,_,_,h20.ldA (.tl (.tl (.tl .hd))) rfl,_,_,h20.ldA (.tl (.tl .hd)) rfl,?_⟩
    exact hK _ _ (by omega) (SH.sub h20.drop.drop.drop.drop λP hP=> .tail _ hP)
   |ok i=>
    rw [hc]at hK;intro wt wf H' n' g h' w1 w2;refine qb.2 ⟨_,_,_,_,_,_,rfl,?_⟩
    refine h'.all (.tl (.tl (.tl .hd))) rfl (by simp only [qt,w1,w2];rfl) λH19 h19=>h19.all (.tl (.tl .hd)) rfl rfl λH20 h20=> ?_
    refine⟨_,_,_,h20.ldA (.tl (.tl (.tl .hd))) rfl,_,_,h20.ldA (.tl (.tl .hd)) rfl,?_⟩
    refine hK _ _ _ _ (by omega) (SH.sub h20.drop.drop.drop.drop λP hP=> ?_) w1 w2
    rcases List.mem_cons.1 hP with rfl|hP
    ·exact .head _
    ·exact .tail _ (.tail _ hP)
def qvd:List UInt8:=[102,117,110,99,32,109,97,105,110,40,41,32,123,32,120,32,58,61,32,110,105,108,32,125]
def qvj:List UInt8:=[102,117,110,99,32,102,40,41,32,105,110,116,32,123,32,102,111,114,32,123,32,125,32,125,59,32,102,117,110,99,32,109,97,105,110,40,41,32,123,32,125]
def qv6:List UInt8:=[102,117,110,99,32,102,40,41,32,105,110,116,32,123,32,102,111,114,32,123,32,98,114,101,97,107,32,125,32,125,59,32,102,117,110,99,32,109,97,105,110,40,41,32,123,32,125]
theorem qmd:checked qvd 100=some (.error ⟨1,20,17⟩):=by kernel_rfl
theorem qmv:checked qvj 100=some (.ok ⟨base,[⟨[102],0,[],1⟩,⟨[109,97,105,110],0,[],0⟩],1⟩):=by kernel_rfl
theorem qnk:checked qv6 100=some (.error ⟨1,1,20⟩):=by kernel_rfl
theorem Yh(h:SH Z A F H nx)(hK:∀H' nx',nx<=nx'->SH Z A F H' nx'->K (.ret (.bool true)) H' nx'):qo PG wM [] H nx K:=by
 refine qo.of_body qp ?_
 refine Eq.mpr (Wm _ _ _ _ 0 ..) ?_
 refine Wx (s:=qvd) qmd h λH1 i2 g1 h1=>qb.2 ⟨_,_,_,_,_,_,rfl,?_⟩
 refine h1.mk1 lR λH10 h10=>h10.mk1 lR λH11 h11=> ?_
 refine h11.all (.tl .hd) rfl rfl λH12 h12=>h12.all .hd rfl rfl λH13 h13=> ?_
 refine Wx (s:=qvj) qmv h13 λwt wf H15 i16 g2 h15 w1 w2=>qb.2 ⟨_,_,_,_,_,_,rfl,?_⟩
 refine h15.mk1 lR λH24 h24=>h24.mk1 lR λH25 h25=> ?_
 refine h25.all (.tl .hd) rfl (by simp only [qt,w1,w2];rfl) λH26 h26=>h26.all .hd rfl rfl λH27 h27=> ?_
 refine Wx (s:=qv6) qnk h27 λH29 i30 g3 h29=>qb.2 ⟨_,_,_,_,_,_,rfl,?_⟩
 refine h29.mk1 lR λH38 h38=>h38.mk1 lR λH39 h39=> ?_
 refine h39.all (.tl .hd) rfl rfl λH40 h40=>h40.all .hd rfl rfl λH41 h41=> ?_
 have o1:=h41.ld1 (.tl (.tl (.tl (.tl .hd))))
 refine ifT rfl ⟨_,rfl,_,o1 0,ifT rfl ⟨_,rfl,_,o1 1,ifT rfl (ifT rfl (ifT rfl ⟨_,rfl,_,h41.ld1 .hd 1,?_⟩))⟩⟩
 refine hK _ _ (by omega) (SH.sub h41.drop.drop.drop.drop.drop.drop λP hP=> .tail _ hP)
end
end
end Go.Vs
end
section
namespace Go.Vs
open Ps Ck
abbrev Ob:=List UInt8
namespace En
def hd:Ob:=[102,117,110,99,32,102,40,41,32,105,110,116,32,123,10]
def tl:Ob:=[125,10,102,117,110,99,32,109,97,105,110,40,41,32,123,32,125]
def ln8:Nat->Ob
 |0=>[114,101,116,117,114,110,32,49,10]
 |1=>[102,111,114,32,123,32,125,10]
 |2=>[102,111,114,32,123,32,98,114,101,97,107,32,125,10]
 |3=>[105,102,32,116,114,117,101,32,123,32,114,101,116,117,114,110,32,49,32,125,32,101,108,115,101,32,123,32,114,101,116,117,114,110,32,50,32,125,10]
 |4=>[105,102,32,116,114,117,101,32,123,32,114,101,116,117,114,110,32,49,32,125,10]
 |5=>[123,32,114,101,116,117,114,110,32,49,32,125,10]
 |6=>[102,111,114,32,123,32,105,102,32,116,114,117,101,32,123,32,98,114,101,97,107,32,125,32,101,108,115,101,32,123,32,125,32,125,10]
 |_=>[102,111,114,32,123,32,102,111,114,32,123,32,98,114,101,97,107,32,125,32,125,10]
def flag:Nat->Bool
 |2=>false
 |4=>false
 |6=>false
 |_=>true
def TK(k:Nat)(ln:Int):List Tok:=match Pt.scanR 60 (ln8 k) ln 1 false with
 |some x=>x.1
 |none=>[]
def TR(k:Nat)(ln:Int):qu:=match run (TK k ln) 40 .stmt 0 0 with
 |some (.ok x)=>x.1
 |_=>none_
def HT:List Tok:=match Pt.scanR 60 hd 1 1 false with
 |some x=>x.1
 |none=>[]
def TT(ln:Int):List Tok:=match Pt.scanR 60 tl ln 1 false with
 |some x=>x.1++[Pt.semi x.2.1 x.2.2]
 |none=>[]
def txt:List Nat->Ob
 |[]=>[]
 |k::ks=>ln8 k++txt ks
def tks:List Nat->Int->List Tok
 |[],_=>[]
 |k::ks,ln=>TK k ln++tks ks (ln+1)
def trs:List Nat->Int->List qu
 |[],_=>[]
 |k::ks,ln=>TR k ln::trs ks (ln+1)
def eof(ln:Int):Tok:=⟨0,[],0,ln+1,16⟩
theorem ln8_len:∀k,(ln8 k).length<=60:=λk=>by unfold ln8;split<;>decide
theorem yX{p:Nat->Prop}(h0:p 0)(h1:p 1)(h2:p 2)(h3:p 3)(h4:p 4)(h5:p 5)(h6:p 6)(h7:p 7):∀k,k<8->p k
 |0,_=>h0
 |1,_=>h1
 |2,_=>h2
 |3,_=>h3
 |4,_=>h4
 |5,_=>h5
 |6,_=>h6
 |7,_=>h7
 |_+8,h=>by omega
theorem qsr:∀k,k<8->Pt.Nl (ln8 k):=yX (.inr ⟨_,(by kernel_rfl:ln8 0=[114,101,116,117,114,110,32,49]++[10])⟩) (.inr ⟨_,(by kernel_rfl:ln8 1=[102,111,114,32,123,32,125]++[10])⟩) (.inr ⟨_,(by kernel_rfl:ln8 2=[102,111,114,32,123,32,98,114,101,97,107,32,125]++[10])⟩) (.inr ⟨_,(by kernel_rfl:ln8 3=[105,102,32,116,114,117,101,32,123,32,114,101,116,117,114,110,32,49,32,125,32,101,108,115,101,32,123,32,114,101,116,117,114,110,32,50,32,125]++[10])⟩)
 (.inr ⟨_,(by kernel_rfl:ln8 4=[105,102,32,116,114,117,101,32,123,32,114,101,116,117,114,110,32,49,32,125]++[10])⟩) (.inr ⟨_,(by kernel_rfl:ln8 5=[123,32,114,101,116,117,114,110,32,49,32,125]++[10])⟩) (.inr ⟨_,(by kernel_rfl:ln8 6=[102,111,114,32,123,32,105,102,32,116,114,117,101,32,123,32,98,114,101,97,107,32,125,32,101,108,115,101,32,123,32,125,32,125]++[10])⟩) (.inr ⟨_,(by kernel_rfl:ln8 7=[102,111,114,32,123,32,102,111,114,32,123,32,98,114,101,97,107,32,125,32,125]++[10])⟩)
theorem qpl(ln:Int):∀k,k<8->Pt.scanR 60 (ln8 k) ln 1 false=some (TK k ln,ln+1,1):=yX (by kernel_rfl) (by kernel_rfl) (by kernel_rfl) (by kernel_rfl) (by kernel_rfl) (by kernel_rfl) (by kernel_rfl) (by kernel_rfl)
theorem qhc(ln:Int)(out:List Tok):∀k,k<8->Pt.ends (out++TK k ln)=false:=by
 have go (k:Nat) (c:Int) (h:TK k ln=(TK k ln).dropLast++[Pt.semi ln c]):Pt.ends (out++TK k ln)=false:=by rw [h,<-List.append_assoc,Pt.ends_snoc];rfl
 exact yX (go 0 9 (by kernel_rfl)) (go 1 8 (by kernel_rfl)) (go 2 14 (by kernel_rfl)) (go 3 39 (by kernel_rfl)) (go 4 21 (by kernel_rfl)) (go 5 13 (by kernel_rfl)) (go 6 35 (by kernel_rfl)) (go 7 22 (by kernel_rfl))
theorem qnf(ln:Int):∀k,k<8->(TK k ln).length<=20/\1<=(TK k ln).length:=by
 have go (k n:Nat) (h:(TK k ln).length=n) (h1:n<=20) (h2:1<=n):(TK k ln).length<=20/\1<=(TK k ln).length:=by rw [h];exact⟨h1,h2⟩
 exact yX (go 0 3 (by kernel_rfl) (by decide) (by decide)) (go 1 4 (by kernel_rfl) (by decide) (by decide)) (go 2 5 (by kernel_rfl) (by decide) (by decide)) (go 3 12 (by kernel_rfl) (by decide) (by decide)) (go 4 7 (by kernel_rfl) (by decide) (by decide)) (go 5 5 (by kernel_rfl) (by decide) (by decide)) (go 6 12 (by kernel_rfl) (by decide) (by decide)) (go 7 8 (by kernel_rfl) (by decide) (by decide))
theorem qr4:Pt.scanR 60 hd 1 1 false=some (HT,2,1):=by kernel_rfl
theorem qqp(ln:Int):∃x,Pt.scanR 60 tl ln 1 false=some (x,ln+1,16)/\TT ln=x++[Pt.semi (ln+1) 16]/\∀o:List Tok,Pt.ends (o++x)=true:=by
 refine⟨_,(by kernel_rfl:Pt.scanR 60 tl ln 1 false=some ((TT ln).dropLast,ln+1,16)),by kernel_rfl,λo=> ?_⟩
 have e:(TT ln).dropLast=(TT ln).dropLast.dropLast++[⟨6,[125],0,ln+1,15⟩]:=by kernel_rfl
 rw [e,<-List.append_assoc,Pt.ends_snoc];rfl
theorem WM(r:Ob):∀(ks:List Nat) (ln:Int) (out:List Tok) (f:Nat),(∀k∈ks,k<8)->Pt.ends out=false->out.length+20*ks.length<=3900->(txt ks++r).length<=f->
  Pt.scan f (txt ks++r) ln 1 out=Pt.scan r.length r (ln+ks.length) 1 (out++tks ks ln)
 |[],ln,out,f,_,_,_,hf=>by
  show Pt.scan f r ln 1 out=Pt.scan r.length r (ln+0) 1 (out++[])
  rw [Int.add_zero,List.append_nil];exact Ps.scan_fuel _ _ _ _ _ _ hf lR
 |k::ks,ln,out,f,hk,ho,hl,hf=>by
  have h8:=hk k (List.mem_cons_self ..)
  have e:txt (k::ks)++r=ln8 k++(txt ks++r):=List.append_assoc ..
  rw [e]at hf ⊢;obtain⟨l1,l2⟩:=qnf ln k h8
  simp only [List.length_cons]at hl
  have hlen:(ln8 k).length<=f:=by rw [List.length_append]at hf;omega
  rw [Pt.scan_app f (ln8 k) (txt ks++r) ln 1 out f (qsr k h8) hf (by rw [List.length_append]at hf;omega)]
  have hR:Pt.scanR f (ln8 k) ln 1 (Pt.ends out)=some (TK k ln,ln+1,1):=by rw [ho,Pt.scanR_fuel f 60 _ _ _ _ hlen (ln8_len k)];exact qpl ln k h8
  rw [Pt.scanR_P f (ln8 k) ln 1 out _ _ _ hR (by omega)]
  show Pt.scan f (txt ks++r) (ln+1) 1 (out++TK k ln)=_
  rw [WM r ks (ln+1) (out++TK k ln) f (λq hq=>hk q (List.mem_cons_of_mem _ hq)) (qhc ln out k h8) (by rw [List.length_append];omega) (by rw [List.length_append]at hf;omega)]
  rw [List.append_assoc]
  congr 1
  simp only [List.length_cons];omega
theorem txt_len:∀ks,(txt ks).length<=60*ks.length
 |[]=>Nat.zero_le _
 |k::ks=>by
  have:=txt_len ks
  have:=ln8_len k
  show(ln8 k++txt ks).length<=_
  rw [List.length_append,List.length_cons];omega
theorem qgw:∀ks ln,(∀k∈ks,k<8)->(tks ks ln).length<=20*ks.length
 |[],_,_=>Nat.zero_le _
 |k::ks,ln,h=>by
  have:=qgw ks (ln+1) λq hq=>h q (List.mem_cons_of_mem _ hq)
  have:=(qnf ln k (h k (List.mem_cons_self ..))).1
  show(TK k ln++tks ks (ln+1)).length<=_
  rw [List.length_append,List.length_cons];omega
theorem qh2:∀(ks:List Nat) (ln:Int) (out:List Tok),ks≠[]->(∀k∈ks,k<8)->Pt.ends (out++tks ks ln)=false
 |[],_,_,h,_=>absurd rfl h
 |[k],ln,out,_,h=>by
  show Pt.ends (out++(TK k ln++[]))=false
  rw [List.append_nil];exact qhc ln out k (h k (List.mem_cons_self ..))
 |k::q::ks,ln,out,_,h=>by
  show Pt.ends (out++(TK k ln++tks (q::ks) (ln+1)))=false
  rw [<-List.append_assoc];exact qh2 (q::ks) (ln+1) _ (by simp) λz hz=>h z (List.mem_cons_of_mem _ hz)
theorem qnc:Pt.ends HT=false:=by kernel_rfl
theorem Kv:HT.length=6:=by kernel_rfl
theorem qsh(ln:Int):(TT ln).length=9:=by kernel_rfl
theorem qvk:Pt.Nl hd:= .inr ⟨hd.dropLast,by kernel_rfl⟩
theorem qqv{ks:List Nat}(hk:∀k∈ks,k<8)(hn:ks.length<=6):Pt.toks (hd++(txt ks++tl))= .ok (HT++(tks ks 2++(TT (2+ks.length)++[eof (2+ks.length)]))):=by
 have h1:=txt_len ks
 have h2:=qgw ks 2 hk
 have e0:hd.length=15:=by kernel_rfl
 have e1:tl.length=17:=by kernel_rfl
 have hL:(hd++(txt ks++tl)).length=15+((txt ks).length+17):=by rw [List.length_append,List.length_append,e0,e1]
 unfold Pt.toks;rw [if_neg (by omega)]
 rw [Pt.scan_app _ hd (txt ks++tl) 1 1 [] ((hd++(txt ks++tl)).length) qvk lR (by rw [hL,List.length_append,e1];omega)]
 have hR:Pt.scanR (hd++(txt ks++tl)).length hd 1 1 (Pt.ends [])=some (HT,2,1):=by
  rw [Pt.scanR_fuel _ 60 _ _ _ _ (by omega) (by omega)];exact qr4
 rw [Pt.scanR_P _ hd 1 1 [] _ _ _ hR (by rw [Kv];decide)]
 show Pt.scan _ (txt ks++tl) 2 1 HT=_
 rw [WM tl ks 2 HT _ hk qnc (by rw [Kv];omega) (by rw [hL,List.length_append,e1];omega)]
 obtain⟨x,q1,q2,q3⟩:=qqp (2+ks.length)
 rw [Pt.scan_P _ _ _ _ _ lR];have hx:x.length=8:=by
  have:=congrArg List.length q2
  rw [qsh,List.length_append,List.length_singleton]at this;omega
 have hends:Pt.ends (HT++tks ks 2)=false:=by
  rcases ks with _|⟨k,ks⟩
  ·rw [show tks [] 2=[]from rfl,List.append_nil];exact qnc
  ·exact qh2 (k::ks) 2 HT (by simp) hk
 rw [Pt.scanR_P _ tl _ 1 (HT++tks ks 2) x _ _ (by rw [hends,Pt.scanR_fuel _ 60 _ _ _ _ lR (by omega)];exact q1) (by rw [List.length_append,Kv];omega)]
 show Pt.scan 0 [] (2+ks.length+1) 16 (HT++tks ks 2++x)=_
 have hl:(HT++tks ks 2++x).length<3000:=by rw [List.length_append,List.length_append,Kv];omega
 unfold Pt.scan Pt.putEnd;rw [q3,if_pos rfl,Pt.put_room (by omega)]
 show Pt.put (HT++tks ks 2++x++[Pt.semi (2+ks.length+1) 16]) _=_
 rw [Pt.put_room (by rw [List.length_append,List.length_singleton];omega),q2]
 simp only [List.append_assoc]
 rfl
end En
namespace En
theorem J9{l:List Tok}{a:Nat}(h:is l a [59]=false):gaps l a=a:=by
 unfold gaps;cases l.length - a with
 |zero=>rfl
 |succ n=>unfold gapsN;rw [if_neg (by rw [h];decide)]
theorem qsw(ln:Int)(rest:List Tok)(n:Nat):∀k,k<8->run (TK k ln++rest) (n+40) .stmt 0 0=some (.ok (TR k ln,(TK k ln).length - 1)):=
 yX (by kernel_rfl) (by kernel_rfl) (by kernel_rfl) (by kernel_rfl) (by kernel_rfl) (by kernel_rfl) (by kernel_rfl) (by kernel_rfl)
theorem qu8(ln:Int)(rest:List Tok):∀k,k<8->is (TK k ln++rest) ((TK k ln).length - 1) [125]=false/\Ps.need (TK k ln++rest) ((TK k ln).length - 1) [59]= .ok (TK k ln).length:=
 yX ⟨by kernel_rfl,by kernel_rfl⟩ ⟨by kernel_rfl,by kernel_rfl⟩ ⟨by kernel_rfl,by kernel_rfl⟩ ⟨by kernel_rfl,by kernel_rfl⟩ ⟨by kernel_rfl,by kernel_rfl⟩ ⟨by kernel_rfl,by kernel_rfl⟩ ⟨by kernel_rfl,by kernel_rfl⟩ ⟨by kernel_rfl,by kernel_rfl⟩
theorem qd6(ln:Int)(rest:List Tok):∀k,k<8->is (TK k ln++rest) 0 [125]=false/\is (TK k ln++rest) 0 [59]=false:=
 yX ⟨by kernel_rfl,by kernel_rfl⟩ ⟨by kernel_rfl,by kernel_rfl⟩ ⟨by kernel_rfl,by kernel_rfl⟩ ⟨by kernel_rfl,by kernel_rfl⟩ ⟨by kernel_rfl,by kernel_rfl⟩ ⟨by kernel_rfl,by kernel_rfl⟩ ⟨by kernel_rfl,by kernel_rfl⟩ ⟨by kernel_rfl,by kernel_rfl⟩
theorem qo9{p q:List Tok}(a:Nat):tk (p++q) (p.length+a)=tk q a:=by
 unfold tk;simp only [List.getD_eq_getElem?_getD]
 rw [List.getElem?_append_right (by omega)]
 congr 2;omega
theorem Xh{p q:List Tok}{s:List UInt8}(a:Nat):is (p++q) (p.length+a) s=is q a s:=by unfold is;rw [qo9]
theorem qm3(p q:List Tok):Dr (p++q) q p.length:=⟨qo9,λa=>by rw [List.length_append];omega⟩
theorem qc4(ln0 ln:Int):∀(ks:List Nat) (r:List Tok),(∀k∈ks,k<8)->is (tks ks ln++(TT ln0++r)) 0 [59]=false
 |[],r,_=>by kernel_rfl
 |k::ks,r,h=>by
  show is ((TK k ln++tks ks (ln+1))++(TT ln0++r)) 0 [59]=false
  rw [List.append_assoc];exact(qd6 ln _ k (h k (List.mem_cons_self ..))).2
theorem X5{e:Tok}(ln0:Int)(n:Nat):∀(ks:List Nat) (ln:Int) (p:List Tok) (f:Nat),(∀k∈ks,k<8)->ks.length+1<=f->
  listGo (p++(tks ks ln++(TT ln0++[e]))) (run (p++(tks ks ln++(TT ln0++[e]))) (n+40) .stmt 0) f p.length=some (.ok (trs ks ln,p.length+(tks ks ln).length+1))
 |[],ln,p,f,_,hf=>by
  obtain⟨f,rfl⟩:∃g,f=g+1:=⟨f - 1,by simp at hf;omega⟩
  unfold listGo;rw [if_pos]
  ·rfl
  ·rw [show p.length=p.length+0 from rfl,Xh];kernel_rfl
 |k::ks,ln,p,f,h,hf=>by
  obtain⟨f,rfl⟩:∃g,f=g+1:=⟨f - 1,by simp at hf;omega⟩
  have h8:=h k (List.mem_cons_self ..)
  obtain⟨r,hr⟩:∃r,r=tks ks (ln+1)++(TT ln0++[e]):=⟨_,rfl⟩
  have e1:tks (k::ks) ln++(TT ln0++[e])=TK k ln++r:=by rw [hr];exact List.append_assoc ..
  have e2:p++(TK k ln++r)=p++TK k ln++(tks ks (ln+1)++(TT ln0++[e])):=by rw [hr,List.append_assoc]
  obtain⟨a3,a4⟩:=qu8 ln r k h8
  rw [e1];have W:=qm3 p (TK k ln++r)
  have hg:gaps (TK k ln++r) (TK k ln).length=(TK k ln).length:=by
   apply J9
   rw [show(TK k ln).length=(TK k ln).length+0 from rfl,Xh,hr];exact qc4 ln0 (ln+1) ks [e] λq hq=>h q (List.mem_cons_of_mem _ hq)
  have hends:Ps.ends (TK k ln++r) ((TK k ln).length - 1)= .ok (TK k ln).length:=by
   unfold Ps.ends;rw [if_neg (by rw [a3];decide),a4]
   show Except.ok (gaps (TK k ln++r) (TK k ln).length)=_
   rw [hg]
  unfold listGo;rw [show p.length=p.length+0 from rfl,W.is,if_neg (by rw [(qd6 ln r k h8).1];decide),qb3 W,qsw ln r n k h8]
  show lift (Ps.ends (p++(TK k ln++r)) (p.length+((TK k ln).length - 1))) _=_
  rw [W.ends,hends];show Rs.bind (listGo _ _ f (p.length+(TK k ln).length)) _=_
  have:=X5 (e:=e) ln0 n ks (ln+1) (p++TK k ln) f (λq hq=>h q (List.mem_cons_of_mem _ hq)) (by simp at hf;omega)
  rw [<-e2,List.length_append]at this;rw [this];show some (Except.ok (TR k ln::trs ks (ln+1),_))=some (Except.ok (TR k ln::trs ks (ln+1),_))
  have e3:(tks (k::ks) ln).length=(TK k ln).length+(tks ks (ln+1)).length:=List.length_append ..
  rw [e3]
  congr 3
  omega
def fT(ks:List Nat):qu:= .node 6 [102] 0 1 1 [none_,.node 8 [105,110,116] 0 1 10 [],.node 10 [] 0 1 14 (trs ks 2)]
def mT(ln:Int):qu:= .node 6 [109,97,105,110] 0 ln 1 [none_,none_,.node 10 [] 0 ln 13 []]
def pT(ks:List Nat):qu:= .node 1 [] 0 1 1 [fT ks,mT (2+ks.length+1)]
theorem qsv(R:List Tok)(n:Nat)(h:is R 0 [59]=false):funcDecl (HT++R) (n+45) 0=Rs.bind (listGo (HT++R) (run (HT++R) (n+44) .stmt 0) (n+44) 6) λ(xs,b)=>Rs.ok (.node 6 [102] 0 1 1 [none_,.node 8 [105,110,116] 0 1 10 [],.node 10 [] 0 1 14 xs],b):=by
 have hg:gaps (HT++R) 6=6:=J9 (by rw [show(6:Nat)=HT.length+0 from by kernel_rfl,Xh];exact h)
 have e1:funcDecl (HT++R) (n+45) 0=Rs.bind (listGo (HT++R) (run (HT++R) (n+44) .stmt 0) (n+44) (gaps (HT++R) 6)) λ(xs,b)=>Rs.ok (.node 6 [102] 0 1 1 [none_,.node 8 [105,110,116] 0 1 10 [],.node 10 [] 0 1 14 xs],b):=by
  have e2:funcDecl (HT++R) (n+45) 0=Rs.bind (Rs.bind (listGo (HT++R) (run (HT++R) (n+44) .stmt 0) (n+44) (gaps (HT++R) 6)) λ(xs,b)=>Rs.ok (.node 10 [] 0 1 14 xs,b)) λ(x,b)=>Rs.ok (.node 6 [102] 0 1 1 [none_,.node 8 [105,110,116] 0 1 10 [],x],b):=by kernel_rfl
  rw [e2];cases listGo (HT++R) (run (HT++R) (n+44) .stmt 0) (n+44) (gaps (HT++R) 6)with
  |none=>rfl
  |some r=>cases r<;>rfl
 rw [e1,hg]
theorem qms(ln:Int)(n:Nat):funcDecl ((TT ln).drop 2++[eof ln]) (n+45) 0=some (.ok (mT (ln+1),6)):=by kernel_rfl
theorem parse_ok{ks:List Nat}(hk:∀k∈ks,k<8)(hn:ks.length<=6):Ps.file (HT++(tks ks 2++(TT (2+ks.length)++[eof (2+ks.length)]))) 45=some (.ok (pT ks)):=by
 obtain⟨l0,e0⟩:∃l0:Int,l0=2+ks.length:=⟨_,rfl⟩
 rw [<-e0];have hfirst:=qc4 l0 2 ks [eof l0] hk
 have hlines:=X5 (e:=eof l0) l0 4 ks 2 HT 44 hk (by omega)
 rw [Kv]at hlines;obtain⟨L,eL⟩:∃L,L=HT++(tks ks 2++(TT l0++[eof l0])):=⟨_,rfl⟩
 have hf:funcDecl L 45 0=some (.ok (fT ks,6+(tks ks 2).length+1)):=by
  rw [eL];have:=qsv (tks ks 2++(TT l0++[eof l0])) 0 hfirst
  rw [show 0+45=45 from rfl,show 0+44=44 from rfl]at this;rw [this,hlines];rfl
 have e2:L=(HT++tks ks 2)++(TT l0++[eof l0]):=by rw [eL];simp only [List.append_assoc]
 have len:(HT++tks ks 2).length=6+(tks ks 2).length:=by rw [List.length_append,Kv]
 have hsemi:is L (6+(tks ks 2).length+1) [59]=true:=by
  rw [e2,<-len,Xh];kernel_rfl
 have hfn:is L (6+(tks ks 2).length+1+1) [59]=false:=by
  rw [e2,<-len,Nat.add_assoc,Xh];kernel_rfl
 have e3:L=((HT++tks ks 2)++(TT l0).take 2)++(((TT l0).drop 2)++[eof l0]):=by rw [e2,List.append_assoc,List.append_assoc,<-List.append_assoc ((TT l0).take 2),List.take_append_drop,List.append_assoc]
 have len3:((HT++tks ks 2)++(TT l0).take 2).length=6+(tks ks 2).length+1+1:=by
  rw [List.length_append,len];have:((TT l0).take 2).length=2:=by kernel_rfl
  omega
 have W:Dr L (((TT l0).drop 2)++[eof l0]) (6+(tks ks 2).length+1+1):=by
  have:=qm3 ((HT++tks ks 2)++(TT l0).take 2) ((TT l0).drop 2++[eof l0])
  rw [<-e3,len3]at this;exact this
 obtain⟨A,eA⟩:∃A,A=6+(tks ks 2).length+1+1:=⟨_,rfl⟩
 have eA1:6+(tks ks 2).length+1+1=A:=eA.symm
 rw [eA1]at hfn W;have hm:funcDecl L 45 A=some (.ok (mT (l0+1),A+6)):=by
  have h1:=qcx (n:=45) W 0
  have:=qms l0 0
  rw [show 0+45=45 from rfl]at this;rw [this,Nat.add_zero]at h1;exact h1
 have k0:tk L A=⟨3,wFunc,0,l0+1,1⟩:=by
  rw [<-Nat.add_zero A,W.tk];show tk ((TT l0).drop 2++[eof l0]) 0=⟨3,wFunc,0,l0+1,1⟩
  kernel_rfl
 have s6:is L (A+6) [59]=true:=by
  rw [W.is];kernel_rfl
 have k7:(tk L (A+7)).kind=0:=by
  rw [W.tk];show(tk ((TT l0).drop 2++[eof l0]) 7).kind=0
  kernel_rfl
 have g7:gaps L (A+7)=A+7:=J9 (by unfold is;rw [k7];rfl)
 have g0:gaps L 0=0:=J9 (by rw [eL];kernel_rfl)
 have t0:tk L 0=⟨3,wFunc,0,1,1⟩:=by rw [eL];kernel_rfl
 rw [<-eL];unfold file;rw [g0];have d3:declsGo L 45 43 (A+7)=some (.ok []):=by
  unfold declsGo;rw [if_pos (by rw [k7];rfl)];rfl
 have d2:declsGo L 45 44 A=some (.ok [mT (l0+1)]):=by
  unfold declsGo is;rw [k0,hm];show lift (Ps.need L (A+6) [59]) _=_
  unfold Ps.need;rw [if_pos s6];show Rs.bind (declsGo L 45 43 (gaps L (A+7))) _=_
  rw [g7,d3];rfl
 have d1:declsGo L 45 45 0=some (.ok [fT ks,mT (l0+1)]):=by
  unfold declsGo is;rw [t0,hf];show lift (Ps.need L (6+(tks ks 2).length+1) [59]) _=_
  unfold Ps.need;rw [if_pos hsemi];show Rs.bind (declsGo L 45 44 (gaps L (6+(tks ks 2).length+1+1))) _=_
  rw [eA1,J9 hfn,d2];rfl
 rw [d1,t0];unfold pT;rw [e0];rfl
def fns:List CSg:=[⟨[102],0,[],1⟩,⟨[109,97,105,110],0,[],0⟩]
theorem qqu(ln:Int):∀k,k<8->stmt fns 1 1 0 ⟨base,[],0⟩ (TR k ln)= .ok ⟨base,[],0⟩:=yX (by kernel_rfl) (by kernel_rfl) (by kernel_rfl) (by kernel_rfl) (by kernel_rfl) (by kernel_rfl) (by kernel_rfl) (by kernel_rfl)
theorem qrf(ln:Int):∀k,k<8->Ck.ends (TR k ln)=flag k:=yX (by kernel_rfl) (by kernel_rfl) (by kernel_rfl) (by kernel_rfl) (by kernel_rfl) (by kernel_rfl) (by kernel_rfl) (by kernel_rfl)
theorem qc7:∀(ks:List Nat) (ln:Int),(∀k∈ks,k<8)->wJ fns 1 1 0 ⟨base,[],0⟩ (trs ks ln)= .ok ⟨base,[],0⟩
 |[],_,_=>by rw [trs,wJ]
 |k::ks,ln,h=>by
  rw [trs,wJ,qqu ln k (h k (List.mem_cons_self ..))];exact qc7 ks (ln+1) λq hq=>h q (List.mem_cons_of_mem _ hq)
def lastF:List Nat->Bool
 |[]=>false
 |[k]=>flag k
 |_::q::ks=>lastF (q::ks)
theorem qgp:∀(ks:List Nat) (ln:Int),(∀k∈ks,k<8)->wx (trs ks ln)=lastF ks
 |[],_,_=>by rw [trs,wx,lastF]
 |[k],ln,h=>by rw [trs,trs,wx,lastF,qrf ln k (h k (List.mem_cons_self ..))]
 |k::q::ks,ln,h=>by
  have:=qgp (q::ks) (ln+1) λz hz=>h z (List.mem_cons_of_mem _ hz)
  rw [trs,lastF,<-this,trs,wx]
theorem check_ok{ks:List Nat}(hk:∀k∈ks,k<8):Ck.check (pT ks)=if lastF ks then .ok ⟨base,fns,1⟩else .error ⟨1,1,20⟩:=by
 have e1:Ck.check (pT ks)=Ck.ob (Ck.ob (Ck.ob (Ck.ob (wJ fns 1 1 0 ⟨base,[],0⟩ (trs ks 2)) λS'=>(.ok ⟨S'.T,S'.vs.take 0,S'.many⟩:Ex St)) λS=>Ck.need (decide (1=0)||wx (trs ks 2)) (fT ks) 20 (.ok S.T)) λT=>we T fns [⟨[109,97,105,110],0,[],0⟩] [mT (2+ks.length+1)]) λT=>(.ok ⟨T,fns,1⟩:Ex Ku):=by kernel_rfl
 rw [e1,qc7 ks 2 hk,qgp ks 2 hk];cases lastF ks
 ·rfl
 ·rfl
end En
end Go.Vs
end
section
namespace Go.Vs
open Go.Proofs Ck
variable [GTab] {Z:Nat->Prop}
noncomputable section
namespace En
def pc(k:Nat):List UInt8:=(ln8 k).dropLast
theorem pc_eq:∀k,k<8->pc k++[10]=ln8 k:=yX (by kernel_rfl) (by kernel_rfl) (by kernel_rfl) (by kernel_rfl) (by kernel_rfl) (by kernel_rfl) (by kernel_rfl) (by kernel_rfl)
theorem txt_snoc(k:Nat):∀ks,txt (ks++[k])=txt ks++ln8 k
 |[]=>List.append_nil _
 |q::ks=>by
  show ln8 q++txt (ks++[k])=(ln8 q++txt ks)++ln8 k
  rw [txt_snoc k ks,List.append_assoc]
theorem last_snoc(k:Nat):∀ks,lastF (ks++[k])=flag k
 |[]=>rfl
 |[q]=>rfl
 |q::r::ks=>by
  show lastF ((r::ks)++[k])=flag k
  exact last_snoc k (r::ks)
theorem run_ok{ks:List Nat}(hk:∀k∈ks,k<8)(hn:ks.length<=6):checked (hd++txt ks++tl) 45=some (if lastF ks then .ok ⟨base,fns,1⟩else .error ⟨1,1,20⟩):=by
 unfold checked Ps.parse;rw [List.append_assoc,qqv hk hn];show(match Ps.file _ 45 with|some (.ok t)=>some (Ck.check t)|some (.error f)=>some (.error ⟨0,0,f.e⟩)|none=>none)=_
 rw [En.parse_ok hk hn];show some (Ck.check (pT ks))=_
 rw [En.check_ok hk]
end En
section
variable{A:qD}{F:zr}{H:qc}{nx:Nat}{K:qr}
theorem qn4{n:Int}(hK:∀k,k<8->K (.ret (.tuple [.str (En.pc k),.bool (En.flag k)])) H nx):qo PG Q1 [iv n] H nx K:=by
 refine qo.of_body qp ?_
 refine Eq.mpr (XO ..) ?_
 refine qqy (by decide) (by decide) (qb.2 ⟨_,rfl,?_⟩)
 have h:n % 8=0\/n % 8=1\/n % 8=2\/n % 8=3\/n % 8=4\/n % 8=5\/n % 8=6\/n % 8=7:=by omega
 rcases h with h|h|h|h|h|h|h|h<;>rw [h]
 ·exact hK 0 (by decide)
 ·exact hK 1 (by decide)
 ·exact hK 2 (by decide)
 ·exact hK 3 (by decide)
 ·exact hK 4 (by decide)
 ·exact hK 5 (by decide)
 ·exact hK 6 (by decide)
 ·exact hK 7 (by decide)
theorem qjg{l:qa}{vs:List Int}(hl:qt9 l vs)(h:SH Z A F H nx)(hK:∀H' nx',nx<=nx'->SH Z A F H' nx'->K (.ret (.bool true)) H' nx'):qo PG wh [l] H nx K:=by
 refine qo.of_body qp ?_
 refine Eq.mpr (Jm ..) ?_
 refine zD (P:=PG) (X:=List Nat) (Y:=List Nat) (λks=>qe .und [(0,l),(2,.bool false),(3,.str (En.txt ks)),(4,.bool (En.lastF ks)),(5,iv (ks.length:Int))]) (λks=>qe .und [(0,l),(2,.bool false),(3,.str (En.txt ks)),(4,.bool (En.lastF ks)),(5,iv (ks.length:Int))])
  (λm ks H1 n1=>m=6 - ks.length/\ks.length<=6/\(∀k∈ks,k<8)/\nx<=n1/\SH Z A F H1 n1) (λid ks H1 n1=>id=0/\ks.length<=6/\(∀k∈ks,k<8)/\nx<=n1/\SH Z A F H1 n1) 6 []
  (qq.okay) ⟨rfl,Nat.zero_le _,by simp,Nat.le_refl _,h⟩ ?_ ?_
 ·rintro m ks H1 n1 ⟨rfl,hn,hk,g1,h1⟩
  refine WpP.part (ts:=[0,2,3,4,5]) qp ?_
  refine Eq.mpr (qv3 ..) ?_
  unfold E1;have out:([]:Dfs)=[]/\∃y,qq (qe .und [(0,l),(2,.bool false),(3,.str (En.txt y)),(4,.bool (En.lastF y)),(5,iv ((y:List Nat).length:Int))]) (qe U1 [(0,l),(2,u7 false),(3,u5 (En.txt ks)),(4,u7 (En.lastF ks)),(5,iv (ks.length:Int))])/\(0:Nat)=0/\y.length<=6/\(∀k∈y,k<8)/\nx<=n1/\SH Z A F H1 n1:=⟨rfl,ks,qq.refl _,rfl,hn,hk,g1,h1⟩
  refine⟨_,hl.1,qf.2 ⟨λhi=>qf.2 ⟨λh6=> ?_,λ_=>out⟩,λ_=>out⟩⟩
  have hi:(ks.length:Int)<Int.ofNat vs.length:=of_decide_eq_true hi
  have hi:ks.length<vs.length:=by simpa using hi
  have h6:(ks.length:Int)<6:=of_decide_eq_true h6
  obtain⟨p,hp1,hp2⟩:=hl.2 ks.length hi
  refine⟨by omega,p,by rw [Int.toNat_natCast];exact hp1,_,hp2 H1,qn4 λk hk8=>qb.2 ⟨_,_,rfl,?_⟩⟩
  have t1:=En.txt_len ks
  have t2:(En.pc k).length<=60:=by
   have:=En.ln8_len k
   unfold En.pc;rw [List.length_dropLast];omega
  refine⟨by omega,by rw [List.length_append];omega,rfl,6 - (ks++[k]).length,ks++[k],by rw [List.length_append,List.length_singleton];omega,?_,rfl,by rw [List.length_append,List.length_singleton];omega,?_,g1,h1⟩
  ·rw [En.txt_snoc,En.last_snoc,<-En.pc_eq k hk8,qB (by omega) (by omega),List.length_append,List.length_singleton,<-List.append_assoc]
   exact qq.okay
  ·intro q hq;rcases List.mem_append.1 hq with hq|hq
   ·exact hk q hq
   ·have:q=k:=by simpa using hq
    subst this;exact hk8
 ·rintro id ks H1 n1 ⟨rfl,hn,hk,g1,h1⟩
  refine Eq.mpr (qu3 ..) ?_
  have t1:=En.txt_len ks
  refine⟨by omega,by rw [List.length_append];simp only [List.length_cons,List.length_nil];omega,?_⟩
  have hr:=En.run_ok hk hn
  cases hb:En.lastF ks with
  |true=>
   rw [hb]at hr;refine Wx hr h1 λwt wf H2 i2 g2 h2 w1 w2=>qb.2 ⟨_,_,_,_,_,_,rfl,?_⟩
   refine h2.mk1 lR λH10 h10=>h10.mk1 lR λH11 h11=> ?_
   refine h11.all (.tl .hd) rfl (by simp only [qt,w1,w2];rfl) λH12 h12=>h12.all .hd rfl rfl λH13 h13=> ?_
   refine ifT rfl (Yh h13 λH15 i16 g3 h15=>qb.2 ⟨_,rfl,ifT rfl (hK _ _ (by omega) (SH.sub h15.drop.drop λP hP=> .tail _ hP))⟩)
  |false=>
   rw [hb]at hr;refine Wx hr h1 λH2 i2 g2 h2=>qb.2 ⟨_,_,_,_,_,_,rfl,?_⟩
   refine h2.mk1 lR λH10 h10=>h10.mk1 lR λH11 h11=> ?_
   refine h11.all (.tl .hd) rfl rfl λH12 h12=>h12.all .hd rfl rfl λH13 h13=> ?_
   refine ifF rfl (Yh h13 λH15 i16 g3 h15=>qb.2 ⟨_,rfl,ifT rfl (hK _ _ (by omega) h15.drop.drop)⟩)
theorem qi8{Γ:GH}{o:qa}{rl:List Int}(Hl:qt9 o rl)(hk:HZ Z Γ H nx)(hK:∀H' nx',K (.ret (.bool true)) H' nx'):qo PG wh [o] H nx K:=qjg Hl (SH.of hk) λH' nx' _ _=>hK H' nx'
end
end
end Go.Vs
end
