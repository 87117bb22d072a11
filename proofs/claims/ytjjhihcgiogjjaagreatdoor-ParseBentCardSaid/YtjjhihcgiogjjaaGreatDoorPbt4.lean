/-
  Own work. Texts of a proof, laid together; no condition.
-/
import Derived.Test.YtjjhihcgiogjjaaGreatDoorPbt3
import Derived.Test.YtjjhihcgiogjjaaGreatDoorPbt2
set_option linter.unusedSectionVars false
set_option linter.unusedVariables false
set_option linter.unusedSimpArgs false
set_option maxRecDepth 1000000
open Go.Vs.qa renaming ptr → u0, str → u3, agg → u4, bool → u5, nilSlice → u6, tuple → u7, und → u9
open Go.Vs.qh renaming pan → U0, ret → U1
open Go.IntKind (i64)
section
namespace Go.Vs
open Go.Proofs
variable [GTab]
variable(call:zA)(lp:Nat->jk)(lv:zU)(lvc:zT)(N:KC)(X:Nat->KC)(R:KC)(Pn:List (qa×Bool)->KC)
theorem YH(r:Nat)(H:qd)(nx:Nat):vK PG call (lp 14) 14 (qn (qe PG 49) [1,0,0]) (qj .und [(0,u0 r 0)]) H nx [] none (qW [0] (qV N X R Pn))=
 ((λQ=>call zh [u0 r 0,u3 [59]] H nx λa b c=>qc a (λd=>∃e,d=u5 e/\ifB e (N Q b c [] none) (X 0 Q b c [] none)) λd=>Pn d Q b c [] none) (qj u9 [(0,u0 r 0)])):=by kernel_rfl
theorem qah(r:Nat)(H:qd)(nx:Nat)(K:qv):qx PG call (lp 14) 14 (qe PG 49) [1,0] (qy PG lv lvc K (qF PG 49)) (.exit 0) (qj .und [(0,u0 r 0)]) H nx [] none=
 (K (U1 (u7 [])) H nx):=by kernel_rfl
theorem qh8(r:Nat)(o:qa)(H:qd)(nx:Nat):vK PG call (lp 24) 24 (qn (qe PG 115) [1,1,1,0,1,0,1,0,0]) (qj .und [(3,o),(0,u0 r 0)]) H nx [] none (qW [0,3] (qV N X R Pn))=
 ((λQ=>call zh [u0 r 0,u3 [44]] H nx λa b c=>qc a (λd=>∃e,d=u5 e/\ifB e (call zB [u0 r 0] b c λf g h=>qc f (λi=>∃j k l m n p,i=g6 j k l m n p/\∃q,q=qo h [iv j,u3 k,iv l,iv m,iv n,p] g/\∃s t,zJ 6 q (qa.slice h 0 1 6 true)=some (s,t)/\qq t=true/\∃u v w,zt q (h+1) 6 72 o s t=some (u,v,w)/\N (qj u9 [(0,u0 r 0),(3,u)]) v w [] none) λi=>Pn i Q g h [] none) (X 0 Q b c [] none)) λd=>Pn d Q b c [] none) (qj u9 [(0,u0 r 0),(3,o)])):=by kernel_rfl
theorem qi1(r:Nat)(o:qa)(H:qd)(nx:Nat)(K:qv):qx PG call (lp 24) 24 (qe PG 115) [1,1,1,0,1,0,1,0] (qy PG lv lvc K (qF PG 115)) (.exit 0) (qj .und [(3,o),(0,u0 r 0)]) H nx [] none=
 (call qL [u0 r 0,u3 [41]] H nx λa b c=>qc a (λd=>K (U1 o) b c) (pK K b c)):=by kernel_rfl
theorem qkr(r:Nat)(i:Nat)(o:qa)(H:qd)(nx:Nat):vK PG call (lp 49) 49 (qn (qe PG 108) [1,1,0,0,0]) (qj .und [(3,o),(2,u0 i 0),(0,u0 r 0)]) H nx [] none (qW [0,2,3] (qV N X R Pn))=
 ((λQ0=>call za [u0 r 0,u3 [45]] H nx λa b c=>qc a (λd=>∃e,d=u5 e/\ifB e (call zD [u0 r 0,iv 27] b c λf g h=>qc f (λj=>∃k l m n p q,j=g6 k l m n p q/\∃s,s=qo h [iv 0,u3 [],iv 0,iv 0,iv 0,u6] g/\∃t,stC s (u0 h 0) [iv k,u3 l,iv m,iv n,iv p,q]=some t/\call jc [u0 r 0] t (h+1) λu v w=>qc u (λx=>∃y z A B C,x=g5 y z A B C/\∃D,sP h 1 D/\Tt/\∃E,stC v D [u3 z]=some E/\Tt/\∃F,sP r 1 F/\∃G:Int,ld1 E F=some (iv G)/\Tt/\∃I,sP r 1 I/\Tt/\∃J,stC E I [iv (i64.wrap (G+1))]=some J/\∃K L M O P Q,l6 J (u0 h 0) K L M O P Q/\∃S,S=qo w [iv K,u3 L,iv M,iv O,iv P,Q] J/\∃T U,zJ 6 S (qa.slice w 0 1 6 true)=some (T,U)/\qq U=true/\∃V W Y,zt S (w+1) 6 72 o T U=some (V,W,Y)/\N (qj u9 [(0,u0 r 0),(2,u0 i 0),(3,V)]) W Y [] none) λx=>Pn x Q0 v w [] none) λj=>Pn j Q0 g h [] none) (call za [u0 r 0,u3 [33]] b c λf g h=>qc f (λj=>∃k,j=u5 k/\ifB k (call zD [u0 r 0,iv 27] g h λl m n=>qc l (λp=>∃q s t u v w,p=g6 q s t u v w/\∃x,x=qo n [iv 0,u3 [],iv 0,iv 0,iv 0,u6] m/\∃y,stC x (u0 n 0) [iv q,u3 s,iv t,iv u,iv v,w]=some y/\call jc [u0 r 0] y (n+1) λz A B=>qc z (λC=>∃D E F G I,C=g5 D E F G I/\∃J,sP n 1 J/\Tt/\∃K,stC A J [u3 E]=some K/\Tt/\∃L,sP r 1 L/\∃M:Int,ld1 K L=some (iv M)/\Tt/\∃O,sP r 1 O/\Tt/\∃P,stC K O [iv (i64.wrap (M+1))]=some P/\∃Q S T U V W,l6 P (u0 n 0) Q S T U V W/\∃Y,Y=qo B [iv Q,u3 S,iv T,iv U,iv V,W] P/\∃Z a0,zJ 6 Y (qa.slice B 0 1 6 true)=some (Z,a0)/\qq a0=true/\∃a1 a2 a3,zt Y (B+1) 6 72 o Z a0=some (a1,a2,a3)/\N (qj u9 [(0,u0 r 0),(2,u0 i 0),(3,a1)]) a2 a3 [] none) λC=>Pn C Q0 A B [] none) λp=>Pn p Q0 m n [] none) (X 0 Q0 g h [] none)) λj=>Pn j Q0 g h [] none)) λd=>Pn d Q0 b c [] none) (qj u9 [(0,u0 r 0),(2,u0 i 0),(3,o)])):=by kernel_rfl
def qot(call:zA)(lp:Nat->jk)(lv:zU)(lvc:zT)(r:Nat)(i:Nat)(o:qa)(H:qd)(nx:Nat)(K:qv):Prop:=
 call kP [u0 r 0] H nx λa b c=>qc a (λd=>∃e f g h j k,d=g6 e f g h j k/\∃l,l=qo c [iv 0,u3 [],iv 0,iv 0,iv 0,u6] b/\∃m,stC l (u0 c 0) [iv e,u3 f,iv g,iv h,iv j,k]=some m/\∃n,kI o=some n/\lp 49 (qn (qe PG 108) [1,1,1,1,0,1,0,0]) (qj u9 [(6,iv (i64.wrap (Int.ofNat n - 1))),(35,iv (i64.wrap (Int.ofNat n - 1))),(34,iv (Int.ofNat n)),(33,o),(5,u0 c 0),(32,g6 e f g h j k),(31,u0 r 0),(3,o),(2,u0 i 0),(0,u0 r 0)]) m (c+1) [] none (qx PG call (lp 49) 49 (qe PG 108) [1,1,1,1,0,1,0] (qy PG lv lvc K (qF PG 108)))) (pK K b c)
theorem qm5(call:zA)(lp:Nat->jk)(lv:zU)(lvc:zT)(r:Nat)(i:Nat)(o:qa)(H:qd)(nx:Nat)(K:qv):qx PG call (lp 49) 49 (qe PG 108) [1,1,0,0] (qy PG lv lvc K (qF PG 108)) (.exit 0) (qj .und [(3,o),(2,u0 i 0),(0,u0 r 0)]) H nx [] none=qot call lp lv lvc r i o H nx K:=
 (show qx PG call (lp 49) 49 (qe PG 108) [1,1,0,0] (qy PG lv lvc K (qF PG 108)) (.exit 0) (qj .und [(3,o),(2,u0 i 0),(0,u0 r 0)]) H nx [] none=vK PG call (lp 49) 49 (qn (qe PG 108) [1,1,1]) (qj .und [(3,o),(2,u0 i 0),(0,u0 r 0)]) H nx [] none (qy PG lv lvc K (qF PG 108)) by kernel_rfl).trans (show vK PG call (lp 49) 49 (qn (qe PG 108) [1,1,1]) (qj .und [(3,o),(2,u0 i 0),(0,u0 r 0)]) H nx [] none (qy PG lv lvc K (qF PG 108))=qot call lp lv lvc r i o H nx K by kernel_rfl)
theorem qj4(r:Nat)(i:Nat)(x:Nat)(k:Int)(H:qd)(nx:Nat):vK PG call (lp 51) 51 (qn (qe PG 105) [1,1,0,0,0]) (qj .und [(5,u0 x 0),(4,u0 i 0),(1,iv k),(0,u0 r 0)]) H nx [] none (qW [0,1,4,5] (qV N X R Pn))=
 ((λQ0=>call jo [u0 r 0] H nx λa b c=>qc a (λd=>∃e,d=u5 e/\ifB e (call jc [u0 r 0] b c λf g h=>qc f (λj=>∃l m n o p,j=g5 l m n o p/\ifB (decide (l=6)) (call jc [u0 r 0] g h λq s t=>qc q (λu=>∃v w y z A,u=g5 v w y z A/\call Qg [u3 w] s t λB C D=>qc B (λE=>∃F:Int,E=iv F/\ifB (decide (k<=F)) (call zD [u0 r 0,iv 28] C D λG I J=>qc G (λK=>∃L M O P Q S,K=g6 L M O P Q S/\∃T,T=qo J [iv 0,u3 [],iv 0,iv 0,iv 0,u6] I/\∃U,stC T (u0 J 0) [iv L,u3 M,iv O,iv P,iv Q,S]=some U/\call jc [u0 r 0] U (J+1) λV W Y=>qc V (λZ=>∃a0 a1 a2 a3 a4,Z=g5 a0 a1 a2 a3 a4/\∃a5,sP J 1 a5/\Tt/\∃a6,stC W a5 [u3 a1]=some a6/\Tt/\∃a7,sP r 1 a7/\∃a8:Int,ld1 a6 a7=some (iv a8)/\Tt/\∃a9,sP r 1 a9/\Tt/\∃b0,stC a6 a9 [iv (i64.wrap (a8+1))]=some b0/\∃b1,sP J 1 b1/\∃b2,ld1 b0 b1=some (u3 b2)/\call Qg [u3 b2] b0 Y λb3 b4 b5=>qc b3 (λb6=>∃b7:Int,b6=iv b7/\call kg [u0 r 0,iv (i64.wrap (b7+1))] b4 b5 λb8 b9 c0=>qc b8 (λc1=>∃c2 c3 c4 c5 c6 c7,c1=g6 c2 c3 c4 c5 c6 c7/\∃c8,c8=qo c0 [iv 0,u3 [],iv 0,iv 0,iv 0,u6] b9/\∃c9,stC c8 (u0 c0 0) [iv c2,u3 c3,iv c4,iv c5,iv c6,c7]=some c9/\∃d0 d1 d2 d3 d4 d5,l6 c9 (u0 x 0) d0 d1 d2 d3 d4 d5/\∃d6 d7 d8 d9 e0 e1,l6 c9 (u0 c0 0) d6 d7 d8 d9 e0 e1/\∃e2,e2=qo (c0+1) [iv d0,u3 d1,iv d2,iv d3,iv d4,d5,iv d6,u3 d7,iv d8,iv d9,iv e0,e1] c9/\∃e3,sP J 5 e3/\Tt/\∃e4,stC e2 e3 [qa.slice (c0+1) 0 2 6 true]=some e4/\∃e5 e6 e7 e8 e9 f0,l6 e4 (u0 J 0) e5 e6 e7 e8 e9 f0/\∃f1,stC e4 (u0 x 0) [iv e5,u3 e6,iv e7,iv e8,iv e9,f0]=some f1/\N Q0 f1 (c0+1+1) [] none) λc1=>Pn c1 Q0 b9 c0 [] none) λb6=>Pn b6 Q0 b4 b5 [] none) λZ=>Pn Z Q0 W Y [] none) λK=>Pn K Q0 I J [] none) (X 0 Q0 C D [] none)) λE=>Pn E Q0 C D [] none) λu=>Pn u Q0 s t [] none) (X 0 Q0 g h [] none)) λj=>Pn j Q0 g h [] none) (X 0 Q0 b c [] none)) λd=>Pn d Q0 b c [] none) (qj u9 [(0,u0 r 0),(1,iv k),(4,u0 i 0),(5,u0 x 0)])):=by kernel_rfl
theorem qk8(r:Nat)(i:Nat)(x:Nat)(k:Int)(H:qd)(nx:Nat)(K:qv):qx PG call (lp 51) 51 (qe PG 105) [1,1,0,0] (qy PG lv lvc K (qF PG 105)) (.exit 0) (qj .und [(5,u0 x 0),(4,u0 i 0),(1,iv k),(0,u0 r 0)]) H nx [] none=
 (∃a b c d e f,l6 H (u0 x 0) a b c d e f/\∃g,stC H (u0 i 0) [iv a,u3 b,iv c,iv d,iv e,f]=some g/\∃h j l m n o,l6 g (u0 i 0) h j l m n o/\K (U1 (g6 h j l m n o)) g nx):=by kernel_rfl
theorem qf6(r:Nat)(i:Nat)(x:Nat)(H:qd)(nx:Nat):vK PG call (lp 53) 53 (qn (qe PG 111) [1,1,0,0,0]) (qj .und [(3,u0 x 0),(2,u0 i 0),(0,u0 r 0)]) H nx [] none (qW [0,2,3] (qV N X R Pn))=
 ((λQ0=>call jo [u0 r 0] H nx λa b c=>qc a (λd=>∃e,d=u5 e/\ifB e (call zD [u0 r 0,iv 30] b c λf g h=>qc f (λj=>∃k l m n o p,j=g6 k l m n o p/\∃q,q=qo h [iv 0,u3 [],iv 0,iv 0,iv 0,u6] g/\∃s,stC q (u0 h 0) [iv k,u3 l,iv m,iv n,iv o,p]=some s/\call zh [u0 r 0,u3 [46]] s (h+1) λt u v=>qc t (λw=>∃y,w=u5 y/\ifB y (call zh [u0 r 0,u3 [40]] u v λz A B=>qc z (λC=>∃D,C=u5 D/\ifB D (∃E,sP h 0 E/\Tt/\∃F,stC A E [iv 37]=some F/\∃G I J K L M,l6 F (u0 x 0) G I J K L M/\((∃O P Q S T U,l6 F (u0 x 0) O P Q S T U/\g6 O P Q S T U=g6 G I J K L M)/\True)/\call zY [u0 r 0] F (B+6) λO P Q=>qc O (λS=>∃T U V W Y Z,S=g6 T U V W Y Z/\∃a0,a0=qo (B+3) [iv G,u3 I,iv J,iv K,iv L,M,iv T,u3 U,iv V,iv W,iv Y,Z] P/\∃a1,sP h 5 a1/\((∃a2 a3 a4 a5 a6 a7,l6 a0 (u0 x 0) a2 a3 a4 a5 a6 a7/\g6 a2 a3 a4 a5 a6 a7=g6 G I J K L M)/\True)/\Tt/\∃a2,stC a0 a1 [qa.slice (B+3) 0 2 6 true]=some a2/\True/\call qL [u0 r 0,u3 [41]] a2 Q λa3 a4 a5=>qc a3 (λa6=>∃a7 a8 a9 b0 b1 b2,l6 a4 (u0 h 0) a7 a8 a9 b0 b1 b2/\∃b3,stC a4 (u0 x 0) [iv a7,u3 a8,iv a9,iv b0,iv b1,b2]=some b3/\N Q0 b3 a5 [] none) λa6=>Pn a6 Q0 a4 a5 [] none) λS=>Pn S Q0 P Q [] none) (call jn [u0 r 0] A B λE F G=>qc E (λI=>∃J,I=u3 J/\∃K,sP h 1 K/\Tt/\∃L,stC F K [u3 J]=some L/\∃M O P Q S T,l6 L (u0 x 0) M O P Q S T/\∃U,U=qo G [iv M,u3 O,iv P,iv Q,iv S,T] L/\∃V,sP h 5 V/\Tt/\∃W,stC U V [qa.slice G 0 1 6 true]=some W/\call za [u0 r 0,u3 [40]] W (G+1) λY Z a0=>qc Y (λa1=>∃a2,a1=u5 a2/\ifB a2 (∃a3,sP h 0 a3/\Tt/\∃a4,stC Z a3 [iv 31]=some a4/\∃a5,sP h 5 a5/\∃a6,ld1 a4 a5=some a6/\((∃a7,ld1 a4 a5=some a7/\a7=a6)/\True)/\call vG [u0 r 0] a4 (a0+7) λa7 a8 a9=>qc a7 (λb0=>((∃b1,ld1 a8 a5=some b1/\b1=a6)/\True)/\∃b1 b2,zJ 6 a8 b0=some (b1,b2)/\qq b2=true/\∃b3 b4 b5,zt a8 a9 6 72 a6 b1 b2=some (b3,b4,b5)/\∃b6,sP h 5 b6/\True/\qI b3=true/\∃b7,stC b4 b6 [b3]=some b7/\True/\∃b8 b9 c0 c1 c2 c3,l6 b7 (u0 h 0) b8 b9 c0 c1 c2 c3/\∃c4,stC b7 (u0 x 0) [iv b8,u3 b9,iv c0,iv c1,iv c2,c3]=some c4/\N Q0 c4 b5 [] none) λb0=>Pn b0 Q0 a8 a9 [] none) (∃a3 a4 a5 a6 a7 a8,l6 Z (u0 h 0) a3 a4 a5 a6 a7 a8/\∃a9,stC Z (u0 x 0) [iv a3,u3 a4,iv a5,iv a6,iv a7,a8]=some a9/\N Q0 a9 a0 [] none)) λa1=>Pn a1 Q0 Z a0 [] none) λI=>Pn I Q0 F G [] none)) λC=>Pn C Q0 A B [] none) (call zh [u0 r 0,u3 [91]] u v λz A B=>qc z (λC=>∃D,C=u5 D/\ifB D (∃E,sP h 0 E/\Tt/\∃F,stC A E [iv 32]=some F/\∃G I J K L M,l6 F (u0 x 0) G I J K L M/\((∃O P Q S T U,l6 F (u0 x 0) O P Q S T U/\g6 O P Q S T U=g6 G I J K L M)/\True)/\call zB [u0 r 0] F (B+6) λO P Q=>qc O (λS=>∃T U V W Y Z,S=g6 T U V W Y Z/\∃a0,a0=qo (B+3) [iv G,u3 I,iv J,iv K,iv L,M,iv T,u3 U,iv V,iv W,iv Y,Z] P/\∃a1,sP h 5 a1/\((∃a2 a3 a4 a5 a6 a7,l6 a0 (u0 x 0) a2 a3 a4 a5 a6 a7/\g6 a2 a3 a4 a5 a6 a7=g6 G I J K L M)/\True)/\Tt/\∃a2,stC a0 a1 [qa.slice (B+3) 0 2 6 true]=some a2/\True/\call qL [u0 r 0,u3 [93]] a2 Q λa3 a4 a5=>qc a3 (λa6=>∃a7 a8 a9 b0 b1 b2,l6 a4 (u0 h 0) a7 a8 a9 b0 b1 b2/\∃b3,stC a4 (u0 x 0) [iv a7,u3 a8,iv a9,iv b0,iv b1,b2]=some b3/\N Q0 b3 a5 [] none) λa6=>Pn a6 Q0 a4 a5 [] none) λS=>Pn S Q0 P Q [] none) (∃E F G I J K,l6 A (u0 x 0) E F G I J K/\∃L,stC A (u0 i 0) [iv E,u3 F,iv G,iv I,iv J,K]=some L/\R Q0 L B [] none)) λC=>Pn C Q0 A B [] none)) λw=>Pn w Q0 u v [] none) λj=>Pn j Q0 g h [] none) (X 0 Q0 b c [] none)) λd=>Pn d Q0 b c [] none) (qj u9 [(0,u0 r 0),(2,u0 i 0),(3,u0 x 0)])):=by kernel_rfl
theorem qff(r:Nat)(i:Nat)(x:Nat)(H:qd)(nx:Nat)(K:qv):qx PG call (lp 53) 53 (qe PG 111) [1,1,0,0] (qy PG lv lvc K (qF PG 111)) (.exit 0) (qj .und [(3,u0 x 0),(2,u0 i 0),(0,u0 r 0)]) H nx [] none=
 (∃a b c d e f,l6 H (u0 x 0) a b c d e f/\∃g,stC H (u0 i 0) [iv a,u3 b,iv c,iv d,iv e,f]=some g/\∃h j k l m n,l6 g (u0 i 0) h j k l m n/\K (U1 (g6 h j k l m n)) g nx):=by kernel_rfl
theorem qjl(r:Nat)(i:Nat)(n:Nat)(H:qd)(nx:Nat):vK PG call (lp 29) 29 (qn (qe PG 51) [1,1,1,0,0,0]) (qj .und [(3,u0 n 0),(2,u0 i 0),(0,u0 r 0)]) H nx [] none (qW [0,2,3] (qV N X R Pn))=
 ((λQ=>call zh [u0 r 0,u3 [59]] H nx λa b c=>qc a (λd=>∃e,d=u5 e/\ifB e (N Q b c [] none) (X 0 Q b c [] none)) λd=>Pn d Q b c [] none) (qj u9 [(0,u0 r 0),(2,u0 i 0),(3,u0 n 0)])):=by kernel_rfl
def qac(call:zA)(lp:Nat->jk)(lv:zU)(lvc:zT)(r:Nat)(i:Nat)(n:Nat)(H:qd)(nx:Nat)(K:qv):Prop:=
 lp 29 (qn (qe PG 51) [1,1,1,1,0,0,0]) (qj u9 [(3,u0 n 0),(2,u0 i 0),(0,u0 r 0)]) H nx [] none (qx PG call (lp 29) 29 (qe PG 51) [1,1,1,1,0,0] (qy PG lv lvc K (qF PG 51)))
theorem Vq(call:zA)(lp:Nat->jk)(lv:zU)(lvc:zT)(r:Nat)(i:Nat)(n:Nat)(H:qd)(nx:Nat)(K:qv):qx PG call (lp 29) 29 (qe PG 51) [1,1,1,0,0] (qy PG lv lvc K (qF PG 51)) (.exit 0) (qj .und [(3,u0 n 0),(2,u0 i 0),(0,u0 r 0)]) H nx [] none=qac call lp lv lvc r i n H nx K:=
 (show qx PG call (lp 29) 29 (qe PG 51) [1,1,1,0,0] (qy PG lv lvc K (qF PG 51)) (.exit 0) (qj .und [(3,u0 n 0),(2,u0 i 0),(0,u0 r 0)]) H nx [] none=vK PG call (lp 29) 29 (qn (qe PG 51) [1,1,1,1]) (qj .und [(3,u0 n 0),(2,u0 i 0),(0,u0 r 0)]) H nx [] none (qy PG lv lvc K (qF PG 51)) by kernel_rfl).trans (show vK PG call (lp 29) 29 (qn (qe PG 51) [1,1,1,1]) (qj .und [(3,u0 n 0),(2,u0 i 0),(0,u0 r 0)]) H nx [] none (qy PG lv lvc K (qF PG 51))=qac call lp lv lvc r i n H nx K by kernel_rfl)
theorem qkd(r:Nat)(i:Nat)(n:Nat)(b:Bool)(H:qd)(nx:Nat):vK PG call (lp 84) 84 (qn (qe PG 25) [1,1,1,1,1,1,1,0,0,0]) (qj .und [(4,u5 b),(3,u0 n 0),(2,u0 i 0),(0,u0 r 0)]) H nx [] none (qW [0,2,3,4] (qV N X R Pn))=
 ((λQ=>call zh [u0 r 0,u3 [59]] H nx λa c d=>qc a (λe=>∃f,e=u5 f/\ifB f (N Q c d [] none) (X 0 Q c d [] none)) λe=>Pn e Q c d [] none) (qj u9 [(0,u0 r 0),(2,u0 i 0),(3,u0 n 0),(4,u5 b)])):=by kernel_rfl
def qoo(call:zA)(lp:Nat->jk)(lv:zU)(lvc:zT)(r:Nat)(i:Nat)(n:Nat)(b:Bool)(H:qd)(nx:Nat)(K:qv):Prop:=
 lp 84 (qn (qe PG 25) [1,1,1,1,1,1,1,1,0,0,0]) (qj u9 [(4,u5 b),(3,u0 n 0),(2,u0 i 0),(0,u0 r 0)]) H nx [] none (qx PG call (lp 84) 84 (qe PG 25) [1,1,1,1,1,1,1,1,0,0] (qy PG lv lvc K (qF PG 25)))
theorem qmj(call:zA)(lp:Nat->jk)(lv:zU)(lvc:zT)(r:Nat)(i:Nat)(n:Nat)(b:Bool)(H:qd)(nx:Nat)(K:qv):qx PG call (lp 84) 84 (qe PG 25) [1,1,1,1,1,1,1,0,0] (qy PG lv lvc K (qF PG 25)) (.exit 0) (qj .und [(4,u5 b),(3,u0 n 0),(2,u0 i 0),(0,u0 r 0)]) H nx [] none=qoo call lp lv lvc r i n b H nx K:=
 (show qx PG call (lp 84) 84 (qe PG 25) [1,1,1,1,1,1,1,0,0] (qy PG lv lvc K (qF PG 25)) (.exit 0) (qj .und [(4,u5 b),(3,u0 n 0),(2,u0 i 0),(0,u0 r 0)]) H nx [] none=vK PG call (lp 84) 84 (qn (qe PG 25) [1,1,1,1,1,1,1,1]) (qj .und [(4,u5 b),(3,u0 n 0),(2,u0 i 0),(0,u0 r 0)]) H nx [] none (qy PG lv lvc K (qF PG 25)) by kernel_rfl).trans (show vK PG call (lp 84) 84 (qn (qe PG 25) [1,1,1,1,1,1,1,1]) (qj .und [(4,u5 b),(3,u0 n 0),(2,u0 i 0),(0,u0 r 0)]) H nx [] none (qy PG lv lvc K (qF PG 25))=qoo call lp lv lvc r i n b H nx K by kernel_rfl)
theorem qhi(r:Nat)(i:Nat)(x:Nat)(o:qa)(j:Int)(H:qd)(nx:Nat):vK PG call (lp 49) 49 (qn (qe PG 108) [1,1,1,1,0,1,0,0]) (qj .und [(6,iv j),(5,u0 x 0),(3,o),(2,u0 i 0),(0,u0 r 0)]) H nx [] none (qW [0,2,3,5,6] (qV N X R Pn))=
 (ifB (decide (0<=j)) (0<=j/\∃a,zq o j.toNat 6=some a/\∃b c d e f g,l6 H a b c d e f g/\∃h,h=qo nx [iv 0,u3 [],iv 0,iv 0,iv 0,u6] H/\∃k,stC h (u0 nx 0) [iv b,u3 c,iv d,iv e,iv f,g]=some k/\∃l m n p q s,l6 k (u0 x 0) l m n p q s/\∃t,t=qo (nx+1) [iv l,u3 m,iv n,iv p,iv q,s] k/\∃u,sP nx 5 u/\Tt/\∃v,stC t u [qa.slice (nx+1) 0 1 6 true]=some v/\∃w y z A B C,l6 v (u0 nx 0) w y z A B C/\∃D,stC v (u0 x 0) [iv w,u3 y,iv z,iv A,iv B,C]=some D/\N (qj u9 [(0,u0 r 0),(2,u0 i 0),(3,o),(5,u0 x 0),(6,iv (i64.wrap (j - 1)))]) D (nx+1+1) [] none) (X 2 (qj u9 [(0,u0 r 0),(2,u0 i 0),(3,o),(5,u0 x 0),(6,iv j)]) H nx [] none)):=by kernel_rfl
theorem qht(r:Nat)(i:Nat)(x:Nat)(o:qa)(j:Int)(H:qd)(nx:Nat)(K:qv):qx PG call (lp 49) 49 (qe PG 108) [1,1,1,1,0,1,0] (qy PG lv lvc K (qF PG 108)) (.exit 2) (qj .und [(6,iv j),(5,u0 x 0),(3,o),(2,u0 i 0),(0,u0 r 0)]) H nx [] none=
 (∃a b c d e f,l6 H (u0 x 0) a b c d e f/\∃g,stC H (u0 i 0) [iv a,u3 b,iv c,iv d,iv e,f]=some g/\∃h k l m n p,l6 g (u0 i 0) h k l m n p/\K (U1 (g6 h k l m n p)) g nx):=by kernel_rfl
theorem WU(r:Nat)(i:Nat)(n:Nat)(H:qd)(nx:Nat):vK PG call (lp 29) 29 (qn (qe PG 51) [1,1,1,1,0,0,0]) (qj .und [(3,u0 n 0),(2,u0 i 0),(0,u0 r 0)]) H nx [] none (qW [0,2,3] (qV N X R Pn))=
 ((λQ=>call jo [u0 r 0] H nx λa b c=>qc a (λd=>∃e,d=u5 e/\ifB e (call za [u0 r 0,u3 [125]] b c λf g h=>qc f (λj=>∃k,j=u5 k/\ifB (!k) (∃l,sP n 5 l/\∃m,ld1 g l=some m/\((∃o,ld1 g l=some o/\o=m)/\True)/\call yL [u0 r 0] g (h+8) λo p q=>qc o (λs=>∃t u v w x y,s=g6 t u v w x y/\∃z,z=qo (h+4) [iv t,u3 u,iv v,iv w,iv x,y] p/\((∃A,ld1 z l=some A/\A=m)/\True)/\∃A B,zJ 6 z (qa.slice (h+4) 0 1 6 true)=some (A,B)/\qq B=true/\∃C D E,zt z q 6 72 m A B=some (C,D,E)/\∃F,sP n 5 F/\True/\qI C=true/\∃G,stC D F [C]=some G/\True/\call jf [u0 r 0] G E λI J K=>qc I (λL=>N Q J K [] none) λL=>Pn L Q J K [] none) λs=>Pn s Q p q [] none) (X 2 Q g h [] none)) λj=>Pn j Q g h [] none) (X 2 Q b c [] none)) λd=>Pn d Q b c [] none) (qj u9 [(0,u0 r 0),(2,u0 i 0),(3,u0 n 0)])):=by kernel_rfl
theorem WQ(r:Nat)(i:Nat)(n:Nat)(H:qd)(nx:Nat)(K:qv):qx PG call (lp 29) 29 (qe PG 51) [1,1,1,1,0,0] (qy PG lv lvc K (qF PG 51)) (.exit 2) (qj .und [(3,u0 n 0),(2,u0 i 0),(0,u0 r 0)]) H nx [] none=
 (call qL [u0 r 0,u3 [125]] H nx λa b c=>qc a (λd=>∃e f g h j k,l6 b (u0 n 0) e f g h j k/\∃l,stC b (u0 i 0) [iv e,u3 f,iv g,iv h,iv j,k]=some l/\∃m o p q s t,l6 l (u0 i 0) m o p q s t/\K (U1 (g6 m o p q s t)) l c) (pK K b c)):=by kernel_rfl
theorem qon(i:Nat)(r:Nat)(n:Int)(s:List UInt8)(H:qd)(nx:Nat):vK PG call (lp 220) 220 (qn (qe PG 19) [1,1,1,0,1,0,0,0]) (qj .und [(6,iv n),(5,u0 r 0),(4,iv 0),(3,u0 i 0),(2,u6),(0,u3 s)]) H nx [] none (qW [0,2,3,4,5,6] (qV N X R Pn))=
 (ifB (decide (n<Int.ofNat s.length)) (N (qj u9 [(0,u3 s),(2,u6),(3,u0 i 0),(4,iv 0),(5,u0 r 0),(6,iv n)]) H nx [] none) (X 0 (qj u9 [(0,u3 s),(2,u6),(3,u0 i 0),(4,iv 0),(5,u0 r 0),(6,iv n)]) H nx [] none)):=by kernel_rfl
theorem qo7(i:Nat)(r:Nat)(n:Int)(s:List UInt8)(H:qd)(nx:Nat):vK PG call (lp 220) 220 (qn (qe PG 19) [1,1,1,0,1,0,0,1,0,0]) (qj .und [(6,iv n),(5,u0 r 0),(4,iv 0),(3,u0 i 0),(2,u6),(0,u3 s)]) H nx [] none (qW [0,2,3,4,5,6] (qV N X R Pn))=
 (Tt/\∃a,sP r 3 a/\∃b,ld1 H a=some (u5 b)/\ifB b (X 0 (qj u9 [(0,u3 s),(2,u6),(3,u0 i 0),(4,iv 0),(5,u0 r 0),(6,iv n)]) H nx [] none) (N (qj u9 [(0,u3 s),(2,u6),(3,u0 i 0),(4,iv 0),(5,u0 r 0),(6,iv n)]) H nx [] none)):=by kernel_rfl
theorem qnh(i:Nat)(r:Nat)(n:Int)(s:List UInt8)(H:qd)(nx:Nat):vK PG call (lp 220) 220 (qn (qe PG 19) [1,1,1,0,1,0,0,1,0,1,0]) (qj .und [(6,iv n),(5,u0 r 0),(4,iv 0),(3,u0 i 0),(2,u6),(0,u3 s)]) H nx [] none (qW [0,2,3,4,5,6,7] (qV N X R Pn))=
 (0<=n/\∃a,s[n.toNat]?=some a/\N (qj u9 [(0,u3 s),(2,u6),(3,u0 i 0),(4,iv 0),(5,u0 r 0),(6,iv n),(7,qa.int IntKind.u8 (Int.ofNat a.toNat))]) H nx [] none):=by kernel_rfl
theorem qnb(i:Nat)(r:Nat)(n:Int)(c:Int)(s:List UInt8)(H:qd)(nx:Nat):vK PG call (lp 220) 220 (qn (qe PG 19) [1,1,1,0,1,0,0,1,0,1,1,0]) (qj .und [(7,qa.int .u8 c),(6,iv n),(5,u0 r 0),(4,iv 0),(3,u0 i 0),(2,u6),(0,u3 s)]) H nx [] none (qW [0,2,3,4,5,6,7] (qV N X R Pn))=
 ((λQ=>ifB (decide (c=10)) (Tt/\∃a,sP r 0 a/\∃b,ld1 H a=some b/\∃d,kI b=some d/\ifB (decide (0<Int.ofNat d)) (Tt/\∃e,sP r 0 e/\∃f,ld1 H e=some f/\Tt/\∃g,sP r 0 g/\∃h,ld1 H g=some h/\∃j,kI h=some j/\0<=i64.wrap (Int.ofNat j - 1)/\∃k,zq f (i64.wrap (Int.ofNat j - 1)).toNat 5=some k/\∃l m o p q,l5 H k l m o p q/\((∃t,ld1 H a=some t/\t=b)/\(∃t,ld1 H e=some t/\t=f)/\(∃t,ld1 H g=some t/\t=h)/\(∃t u v w x,l5 H k t u v w x/\g5 t u v w x=g5 l m o p q)/\True)/\call Q6 [g5 l m o p q] H (nx+21) λt u v=>qc t (λw=>∃x,w=u5 x/\True/\ifB x (Tt/\Tt/\call kG [u0 r 0,u4 [iv 1,u3 [59],iv 0,iv 0,iv 0]] u v λy z A=>qc y (λB=>Tt/\∃C,sP r 3 C/\∃D,ld1 z C=some (u5 D)/\ifB D (X 0 Q z A [] none) (Tt/\∃E,sP r 1 E/\∃F:Int,ld1 z E=some (iv F)/\Tt/\∃G,sP r 1 G/\Tt/\∃I,stC z G [iv (i64.wrap (F+1))]=some I/\Tt/\∃J,sP r 2 J/\Tt/\∃K,stC I J [iv 1]=some K/\X 1 (qj u9 [(0,u3 s),(2,u6),(3,u0 i 0),(4,iv 0),(5,u0 r 0),(6,iv (i64.wrap (n+1))),(7,bv c)]) K A [] none)) λB=>Pn B Q z A [] none) (Tt/\∃y,sP r 3 y/\∃z,ld1 u y=some (u5 z)/\ifB z (X 0 Q u v [] none) (Tt/\∃A,sP r 1 A/\∃B:Int,ld1 u A=some (iv B)/\Tt/\∃C,sP r 1 C/\Tt/\∃D,stC u C [iv (i64.wrap (B+1))]=some D/\Tt/\∃E,sP r 2 E/\Tt/\∃F,stC D E [iv 1]=some F/\X 1 (qj u9 [(0,u3 s),(2,u6),(3,u0 i 0),(4,iv 0),(5,u0 r 0),(6,iv (i64.wrap (n+1))),(7,bv c)]) F v [] none))) λw=>Pn w Q u v [] none) (((∃e,ld1 H a=some e/\e=b)/\u7 []=u7 []/\u7 []=u7 []/\u7 []=u7 []/\True)/\True/\Tt/\∃e,sP r 3 e/\∃f,ld1 H e=some (u5 f)/\ifB f (X 0 Q H (nx+21) [] none) (Tt/\∃g,sP r 1 g/\∃h:Int,ld1 H g=some (iv h)/\Tt/\∃j,sP r 1 j/\Tt/\∃k,stC H j [iv (i64.wrap (h+1))]=some k/\Tt/\∃l,sP r 2 l/\Tt/\∃m,stC k l [iv 1]=some m/\X 1 (qj u9 [(0,u3 s),(2,u6),(3,u0 i 0),(4,iv 0),(5,u0 r 0),(6,iv (i64.wrap (n+1))),(7,bv c)]) m (nx+21) [] none))) (N Q H nx [] none)) (qj u9 [(0,u3 s),(2,u6),(3,u0 i 0),(4,iv 0),(5,u0 r 0),(6,iv n),(7,bv c)])):=by kernel_rfl
theorem qo4(i:Nat)(r:Nat)(n:Int)(c:Int)(s:List UInt8)(H:qd)(nx:Nat):vK PG call (lp 220) 220 (qn (qe PG 19) [1,1,1,0,1,0,0,1,0,1,1,1,0]) (qj .und [(7,qa.int .u8 c),(6,iv n),(5,u0 r 0),(4,iv 0),(3,u0 i 0),(2,u6),(0,u3 s)]) H nx [] none (qW [0,2,3,4,5,6,7] (qV N X R Pn))=
 (ifB (decide (c=32)) (Tt/\∃a,sP r 2 a/\∃b:Int,ld1 H a=some (iv b)/\Tt/\∃d,sP r 2 d/\Tt/\∃e,stC H d [iv (i64.wrap (b+1))]=some e/\X 1 (qj u9 [(0,u3 s),(2,u6),(3,u0 i 0),(4,iv 0),(5,u0 r 0),(6,iv (i64.wrap (n+1))),(7,bv c)]) e nx [] none) (ifB (decide (c=9)) (Tt/\∃a,sP r 2 a/\∃b:Int,ld1 H a=some (iv b)/\Tt/\∃d,sP r 2 d/\Tt/\∃e,stC H d [iv (i64.wrap (b+1))]=some e/\X 1 (qj u9 [(0,u3 s),(2,u6),(3,u0 i 0),(4,iv 0),(5,u0 r 0),(6,iv (i64.wrap (n+1))),(7,bv c)]) e nx [] none) (ifB (decide (c=13)) (Tt/\∃a,sP r 2 a/\∃b:Int,ld1 H a=some (iv b)/\Tt/\∃d,sP r 2 d/\Tt/\∃e,stC H d [iv (i64.wrap (b+1))]=some e/\X 1 (qj u9 [(0,u3 s),(2,u6),(3,u0 i 0),(4,iv 0),(5,u0 r 0),(6,iv (i64.wrap (n+1))),(7,bv c)]) e nx [] none) (N (qj u9 [(0,u3 s),(2,u6),(3,u0 i 0),(4,iv 0),(5,u0 r 0),(6,iv n),(7,qa.int IntKind.u8 c)]) H nx [] none)))):=by kernel_rfl
theorem qny(i:Nat)(r:Nat)(n:Int)(c:Int)(s:List UInt8)(H:qd)(nx:Nat):vK PG call (lp 220) 220 (qn (qe PG 19) [1,1,1,0,1,0,0,1,0,1,1,1,1,0,0]) (qj .und [(7,qa.int .u8 c),(6,iv n),(5,u0 r 0),(4,iv 0),(3,u0 i 0),(2,u6),(0,u3 s)]) H nx [] none (qW [0,2,3,4,5,6,104] (qV N X R Pn))=
 (ifB (decide (c=47)) (ifB (decide (i64.wrap (n+1)<Int.ofNat s.length)) (0<=i64.wrap (n+1)/\∃a,s[(i64.wrap (n+1)).toNat]?=some a/\N (qj u9 [(0,u3 s),(2,u6),(3,u0 i 0),(4,iv 0),(5,u0 r 0),(6,iv n),(104,u5 (decide (Int.ofNat a.toNat=47)))]) H nx [] none) (N (qj u9 [(0,u3 s),(2,u6),(3,u0 i 0),(4,iv 0),(5,u0 r 0),(6,iv n),(104,u5 false)]) H nx [] none)) (N (qj u9 [(0,u3 s),(2,u6),(3,u0 i 0),(4,iv 0),(5,u0 r 0),(6,iv n),(104,u5 false)]) H nx [] none)):=by kernel_rfl
theorem qoy(i:Nat)(r:Nat)(n:Int)(s:List UInt8)(H:qd)(nx:Nat):vK PG call (lp 220) 220 (qn (qe PG 19) [1,1,1,0,1,0,0,1,0,1,1,1,1,0,1,0,0,0,0]) (qj .und [(6,iv n),(5,u0 r 0),(4,iv 0),(3,u0 i 0),(2,u6),(0,u3 s)]) H nx [] none (qW [0,2,3,4,5,6] (qV N X R Pn))=
 (ifB (decide (n<Int.ofNat s.length)) (0<=n/\∃a,s[n.toNat]?=some a/\ifB (!decide (Int.ofNat a.toNat=10)) (Tt/\∃b,sP r 2 b/\∃c:Int,ld1 H b=some (iv c)/\Tt/\∃d,sP r 2 d/\Tt/\∃e,stC H d [iv (i64.wrap (c+1))]=some e/\N (qj u9 [(0,u3 s),(2,u6),(3,u0 i 0),(4,iv 0),(5,u0 r 0),(6,iv (i64.wrap (n+1)))]) e nx [] none) (X 2 (qj u9 [(0,u3 s),(2,u6),(3,u0 i 0),(4,iv 0),(5,u0 r 0),(6,iv n)]) H nx [] none)) (X 2 (qj u9 [(0,u3 s),(2,u6),(3,u0 i 0),(4,iv 0),(5,u0 r 0),(6,iv n)]) H nx [] none)):=by kernel_rfl
theorem qo6(i:Nat)(r:Nat)(n:Int)(s:List UInt8)(H:qd)(nx:Nat):vK PG call (lp 220) 220 (qn (qe PG 19) [1,1,1,0,1,0,0,1,0,1,1,1,1,1]) (qj .und [(6,iv n),(5,u0 r 0),(4,iv 0),(3,u0 i 0),(2,u6),(0,u3 s)]) H nx [] none (qW [0,2,3,4,5,6] (qV N X R Pn))=
 ((λQ=>0<=n/\none.getD s.length<=s.length/\(some n.toNat).getD 0<=none.getD s.length/\call ju [u3 (List.take (none.getD s.length - (some n.toNat).getD 0) (List.drop ((some n.toNat).getD 0) s))] H nx λa b c=>qc a (λd=>∃e f g h j k l,d=u7 [g5 e f g h j,iv k,iv l]/\∃m,m=qo c [iv 0,u3 [],iv 0,iv 0,iv 0] b/\∃o,stC m (u0 c 0) [iv e,u3 f,iv g,iv h,iv j]=some o/\ifB (!decide (l=0)) (Tt/\∃p,sP r 1 p/\∃q:Int,ld1 o p=some (iv q)/\Tt/\∃t,sP r 2 t/\∃u:Int,ld1 o t=some (iv u)/\Tt/\Tt/\((∃v:Int,ld1 o p=some (iv v)/\iv v=iv q)/\(∃v:Int,ld1 o t=some (iv v)/\iv v=iv u)/\True)/\∃v,stC o (u0 i 0) [iv 0,u3 [],iv 0,iv q,iv u]=some v/\True/\R (qj u9 [(0,u3 s),(2,u6),(3,u0 i 0),(4,iv l),(5,u0 r 0),(6,iv n)]) v (c+1+13) [] none) (∃p q t u v,l5 o (u0 c 0) p q t u v/\call kG [u0 r 0,g5 p q t u v] o (c+1) λw x y=>qc w (λz=>Tt/\∃A,sP r 3 A/\∃B,ld1 x A=some (u5 B)/\ifB B (X 0 Q x y [] none) (Tt/\∃C,sP r 2 C/\∃D:Int,ld1 x C=some (iv D)/\Tt/\∃E,sP r 2 E/\Tt/\∃F,stC x E [iv (i64.wrap (D+k))]=some F/\N (qj u9 [(0,u3 s),(2,u6),(3,u0 i 0),(4,iv 0),(5,u0 r 0),(6,iv (i64.wrap (n+k)))]) F y [] none)) λz=>Pn z Q x y [] none)) λd=>Pn d Q b c [] none) (qj u9 [(0,u3 s),(2,u6),(3,u0 i 0),(4,iv 0),(5,u0 r 0),(6,iv n)])):=by kernel_rfl
def qie(call:zA)(lp:Nat->jk)(lv:zU)(lvc:zT)(i:Nat)(r:Nat)(n:Int)(s:List UInt8)(H:qd)(nx:Nat)(K:qv):Prop:=
 Tt/\∃a,sP r 3 a/\∃b,ld1 H a=some (u5 b)/\ifB (!b) (Tt/\∃c,sP r 0 c/\∃d,ld1 H c=some d/\∃e,kI d=some e/\ifB (decide (0<Int.ofNat e)) (Tt/\∃f,sP r 0 f/\∃g,ld1 H f=some g/\Tt/\∃h,sP r 0 h/\∃j,ld1 H h=some j/\∃k,kI j=some k/\0<=i64.wrap (Int.ofNat k - 1)/\∃l,zq g (i64.wrap (Int.ofNat k - 1)).toNat 5=some l/\∃m o p q t,l5 H l m o p q t/\((∃u,ld1 H a=some (u5 u)/\u5 u=u5 b)/\(∃u,ld1 H c=some u/\u=d)/\(∃u,ld1 H f=some u/\u=g)/\(∃u,ld1 H h=some u/\u=j)/\(∃u v w x y,l5 H l u v w x y/\g5 u v w x y=g5 m o p q t)/\True)/\call 42 [g5 m o p q t] H (nx+28) λu v w=>qc u (λx=>∃y,x=u5 y/\True/\ifB y (Tt/\Tt/\call kG [u0 r 0,u4 [iv 1,u3 [59],iv 0,iv 0,iv 0]] v w λz A B=>qc z (λC=>Tt/\∃D,sP r 3 D/\∃E,ld1 A D=some (u5 E)/\ifB (!E) (Tt/\call kG [u0 r 0,u4 [iv 0,u3 [],iv 0,iv 0,iv 0]] A B λF G I=>qc F (λJ=>Tt/\∃L,sP r 3 L/\∃M,ld1 G L=some (u5 M)/\ifB M (Tt/\∃N,sP r 1 N/\∃O:Int,ld1 G N=some (iv O)/\Tt/\∃P,sP r 2 P/\∃Q:Int,ld1 G P=some (iv Q)/\Tt/\Tt/\((∃R:Int,ld1 G N=some (iv R)/\iv R=iv O)/\(∃R:Int,ld1 G P=some (iv R)/\iv R=iv Q)/\True)/\∃R,stC G (u0 i 0) [iv 0,u3 [],iv 0,iv O,iv Q]=some R/\True/\∃S T U V W,l5 R (u0 i 0) S T U V W/\K (U1 (u7 [u6,g5 S T U V W,iv 6])) R (I+12)) (Tt/\∃N,sP r 0 N/\∃O,ld1 G N=some O/\∃P,stC G (u0 i 0) [iv 0,u3 [],iv 0,iv 0,iv 0]=some P/\∃Q R S T U,l5 P (u0 i 0) Q R S T U/\K (U1 (u7 [O,g5 Q R S T U,iv 0])) P I)) (pK K G I)) (Tt/\∃F,sP r 3 F/\∃G,ld1 A F=some (u5 G)/\ifB G (Tt/\∃I,sP r 1 I/\∃J:Int,ld1 A I=some (iv J)/\Tt/\∃L,sP r 2 L/\∃M:Int,ld1 A L=some (iv M)/\Tt/\Tt/\((∃N:Int,ld1 A I=some (iv N)/\iv N=iv J)/\(∃N:Int,ld1 A L=some (iv N)/\iv N=iv M)/\True)/\∃N,stC A (u0 i 0) [iv 0,u3 [],iv 0,iv J,iv M]=some N/\True/\∃O P Q R S,l5 N (u0 i 0) O P Q R S/\K (U1 (u7 [u6,g5 O P Q R S,iv 6])) N (B+12)) (Tt/\∃I,sP r 0 I/\∃J,ld1 A I=some J/\∃L,stC A (u0 i 0) [iv 0,u3 [],iv 0,iv 0,iv 0]=some L/\∃M N O P Q,l5 L (u0 i 0) M N O P Q/\K (U1 (u7 [J,g5 M N O P Q,iv 0])) L B))) (pK K A B)) (Tt/\∃z,sP r 3 z/\∃A,ld1 v z=some (u5 A)/\ifB (!A) (Tt/\call kG [u0 r 0,u4 [iv 0,u3 [],iv 0,iv 0,iv 0]] v w λB C D=>qc B (λE=>Tt/\∃F,sP r 3 F/\∃G,ld1 C F=some (u5 G)/\ifB G (Tt/\∃I,sP r 1 I/\∃J:Int,ld1 C I=some (iv J)/\Tt/\∃L,sP r 2 L/\∃M:Int,ld1 C L=some (iv M)/\Tt/\Tt/\((∃N:Int,ld1 C I=some (iv N)/\iv N=iv J)/\(∃N:Int,ld1 C L=some (iv N)/\iv N=iv M)/\True)/\∃N,stC C (u0 i 0) [iv 0,u3 [],iv 0,iv J,iv M]=some N/\True/\∃O P Q R S,l5 N (u0 i 0) O P Q R S/\K (U1 (u7 [u6,g5 O P Q R S,iv 6])) N (D+12)) (Tt/\∃I,sP r 0 I/\∃J,ld1 C I=some J/\∃L,stC C (u0 i 0) [iv 0,u3 [],iv 0,iv 0,iv 0]=some L/\∃M N O P Q,l5 L (u0 i 0) M N O P Q/\K (U1 (u7 [J,g5 M N O P Q,iv 0])) L D)) (pK K C D)) (Tt/\∃B,sP r 3 B/\∃C,ld1 v B=some (u5 C)/\ifB C (Tt/\∃D,sP r 1 D/\∃E:Int,ld1 v D=some (iv E)/\Tt/\∃F,sP r 2 F/\∃G:Int,ld1 v F=some (iv G)/\Tt/\Tt/\((∃I:Int,ld1 v D=some (iv I)/\iv I=iv E)/\(∃I:Int,ld1 v F=some (iv I)/\iv I=iv G)/\True)/\∃I,stC v (u0 i 0) [iv 0,u3 [],iv 0,iv E,iv G]=some I/\True/\∃J L M N O,l5 I (u0 i 0) J L M N O/\K (U1 (u7 [u6,g5 J L M N O,iv 6])) I (w+12)) (Tt/\∃D,sP r 0 D/\∃E,ld1 v D=some E/\∃F,stC v (u0 i 0) [iv 0,u3 [],iv 0,iv 0,iv 0]=some F/\∃G I J L M,l5 F (u0 i 0) G I J L M/\K (U1 (u7 [E,g5 G I J L M,iv 0])) F w)))) (pK K v w)) (((∃f,ld1 H a=some (u5 f)/\u5 f=u5 b)/\(∃f,ld1 H c=some f/\f=d)/\u7 []=u7 []/\u7 []=u7 []/\u7 []=u7 []/\True)/\True/\Tt/\∃f,sP r 3 f/\∃g,ld1 H f=some (u5 g)/\ifB (!g) (Tt/\call kG [u0 r 0,u4 [iv 0,u3 [],iv 0,iv 0,iv 0]] H (nx+28) λh j k=>qc h (λl=>Tt/\∃m,sP r 3 m/\∃o,ld1 j m=some (u5 o)/\ifB o (Tt/\∃p,sP r 1 p/\∃q:Int,ld1 j p=some (iv q)/\Tt/\∃t,sP r 2 t/\∃u:Int,ld1 j t=some (iv u)/\Tt/\Tt/\((∃v:Int,ld1 j p=some (iv v)/\iv v=iv q)/\(∃v:Int,ld1 j t=some (iv v)/\iv v=iv u)/\True)/\∃v,stC j (u0 i 0) [iv 0,u3 [],iv 0,iv q,iv u]=some v/\True/\∃w x y z A,l5 v (u0 i 0) w x y z A/\K (U1 (u7 [u6,g5 w x y z A,iv 6])) v (k+12)) (Tt/\∃p,sP r 0 p/\∃q,ld1 j p=some q/\∃t,stC j (u0 i 0) [iv 0,u3 [],iv 0,iv 0,iv 0]=some t/\∃u v w x y,l5 t (u0 i 0) u v w x y/\K (U1 (u7 [q,g5 u v w x y,iv 0])) t k)) (pK K j k)) (Tt/\∃h,sP r 3 h/\∃j,ld1 H h=some (u5 j)/\ifB j (Tt/\∃k,sP r 1 k/\∃l:Int,ld1 H k=some (iv l)/\Tt/\∃m,sP r 2 m/\∃o:Int,ld1 H m=some (iv o)/\Tt/\Tt/\((∃p:Int,ld1 H k=some (iv p)/\iv p=iv l)/\(∃p:Int,ld1 H m=some (iv p)/\iv p=iv o)/\True)/\∃p,stC H (u0 i 0) [iv 0,u3 [],iv 0,iv l,iv o]=some p/\True/\∃q t u v w,l5 p (u0 i 0) q t u v w/\K (U1 (u7 [u6,g5 q t u v w,iv 6])) p (nx+28+12)) (Tt/\∃k,sP r 0 k/\∃l,ld1 H k=some l/\∃m,stC H (u0 i 0) [iv 0,u3 [],iv 0,iv 0,iv 0]=some m/\∃o p q t u,l5 m (u0 i 0) o p q t u/\K (U1 (u7 [l,g5 o p q t u,iv 0])) m (nx+28))))) (((∃c,ld1 H a=some (u5 c)/\u5 c=u5 b)/\u7 []=u7 []/\u7 []=u7 []/\u7 []=u7 []/\u7 []=u7 []/\True)/\True/\Tt/\∃c,sP r 3 c/\∃d,ld1 H c=some (u5 d)/\ifB (!d) (Tt/\call kG [u0 r 0,u4 [iv 0,u3 [],iv 0,iv 0,iv 0]] H (nx+28) λe f g=>qc e (λh=>Tt/\∃j,sP r 3 j/\∃k,ld1 f j=some (u5 k)/\ifB k (Tt/\∃l,sP r 1 l/\∃m:Int,ld1 f l=some (iv m)/\Tt/\∃o,sP r 2 o/\∃p:Int,ld1 f o=some (iv p)/\Tt/\Tt/\((∃q:Int,ld1 f l=some (iv q)/\iv q=iv m)/\(∃q:Int,ld1 f o=some (iv q)/\iv q=iv p)/\True)/\∃q,stC f (u0 i 0) [iv 0,u3 [],iv 0,iv m,iv p]=some q/\True/\∃t u v w x,l5 q (u0 i 0) t u v w x/\K (U1 (u7 [u6,g5 t u v w x,iv 6])) q (g+12)) (Tt/\∃l,sP r 0 l/\∃m,ld1 f l=some m/\∃o,stC f (u0 i 0) [iv 0,u3 [],iv 0,iv 0,iv 0]=some o/\∃p q t u v,l5 o (u0 i 0) p q t u v/\K (U1 (u7 [m,g5 p q t u v,iv 0])) o g)) (pK K f g)) (Tt/\∃e,sP r 3 e/\∃f,ld1 H e=some (u5 f)/\ifB f (Tt/\∃g,sP r 1 g/\∃h:Int,ld1 H g=some (iv h)/\Tt/\∃j,sP r 2 j/\∃k:Int,ld1 H j=some (iv k)/\Tt/\Tt/\((∃l:Int,ld1 H g=some (iv l)/\iv l=iv h)/\(∃l:Int,ld1 H j=some (iv l)/\iv l=iv k)/\True)/\∃l,stC H (u0 i 0) [iv 0,u3 [],iv 0,iv h,iv k]=some l/\True/\∃m o p q t,l5 l (u0 i 0) m o p q t/\K (U1 (u7 [u6,g5 m o p q t,iv 6])) l (nx+28+12)) (Tt/\∃g,sP r 0 g/\∃h,ld1 H g=some h/\∃j,stC H (u0 i 0) [iv 0,u3 [],iv 0,iv 0,iv 0]=some j/\∃k l m o p,l5 j (u0 i 0) k l m o p/\K (U1 (u7 [h,g5 k l m o p,iv 0])) j (nx+28))))
theorem qjq(call:zA)(lp:Nat->jk)(lv:zU)(lvc:zT)(i:Nat)(r:Nat)(n:Int)(s:List UInt8)(H:qd)(nx:Nat)(K:qv):qx PG call (lp 220) 220 (qe PG 19) [1,1,1,0,1,0] (qy PG lv lvc K (qF PG 19)) (.exit 0) (qj .und [(6,iv n),(5,u0 r 0),(4,iv 0),(3,u0 i 0),(2,u6),(0,u3 s)]) H nx [] none=qie call lp lv lvc i r n s H nx K:=by kernel_rfl
theorem qnx(r:Nat)(i:Nat)(n:Nat)(b:Bool)(H:qd)(nx:Nat):vK PG call (lp 84) 84 (qn (qe PG 25) [1,1,1,1,1,1,1,1,0,0,0]) (qj .und [(4,u5 b),(3,u0 n 0),(2,u0 i 0),(0,u0 r 0)]) H nx [] none (qW [0,2,3,4] (qV N X R Pn))=
 ((λQ0=>call jo [u0 r 0] H nx λa c d=>qc a (λe=>∃f,e=u5 f/\ifB f (call za [u0 r 0,u3 [125]] c d λg h j=>qc g (λk=>∃l,k=u5 l/\ifB (!l) (call zD [u0 r 0,iv 4] h j λm o p=>qc m (λq=>∃s t u v w x,q=g6 s t u v w x/\∃y,y=qo p [iv 0,u3 [],iv 0,iv 0,iv 0,u6] o/\∃z,stC y (u0 p 0) [iv s,u3 t,iv u,iv v,iv w,x]=some z/\call jn [u0 r 0] z (p+1) λA B C=>qc A (λD=>∃E,D=u3 E/\∃F,sP p 1 F/\Tt/\∃G,stC B F [u3 E]=some G/\ifB b (∃I,sP p 0 I/\Tt/\∃J,stC G I [iv 5]=some J/\call qL [u0 r 0,u3 [40]] J C λK L M=>qc K (λO=>call za [u0 r 0,u3 [41]] L M λP Q S=>qc P (λT=>∃U,T=u5 U/\ifB (!U) (call zY [u0 r 0] Q S λV W Y=>qc V (λZ=>∃a0 a1 a2 a3 a4 a5,Z=g6 a0 a1 a2 a3 a4 a5/\∃a6,a6=qo Y [iv a0,u3 a1,iv a2,iv a3,iv a4,a5] W/\∃a7 a8,zJ 6 a6 (qa.slice Y 0 1 6 true)=some (a7,a8)/\qq a8=true/\∃a9 b0 b1,zt a6 (Y+1) 6 72 u6 a7 a8=some (a9,b0,b1)/\lp 84 (qn (qn (qe PG 25) [1,1,1,1,1,1,1,1,0,0,0]) [1,0,1,1,0,1,0,1,1,1,0,1,0,1,0,0]) (qj u9 [(6,a9),(53,a9),(52,qa.slice Y 0 1 6 true),(51,g6 a0 a1 a2 a3 a4 a5),(50,u0 r 0),(49,u6),(48,u5 true),(48,u5 !U),(47,u5 U),(46,u0 r 0),(6,u6),(45,O),(44,u0 r 0),(43,I),(42,u5 true),(42,u5 b),(41,F),(40,u3 E),(39,u0 r 0),(5,u0 p 0),(38,g6 s t u v w x),(37,u0 r 0),(36,u5 true),(36,u5 !l),(35,u5 !l),(32,u5 true),(34,u5 l),(32,u5 true),(33,u0 r 0),(32,u5 true),(32,u5 f),(31,u5 f),(30,u0 r 0),(4,u5 b),(3,u0 n 0),(2,u0 i 0),(0,u0 r 0)]) b0 b1 [] none (qx PG call (lp 84) 84 (qn (qe PG 25) [1,1,1,1,1,1,1,1,0,0,0]) [1,0,1,1,0,1,0,1,1,1,0,1,0,1,0] (qW [0,2,3,4] (qV N X R Pn)))) λZ=>Pn Z Q0 W Y [] none) (call qL [u0 r 0,u3 [41]] Q S λV W Y=>qc V (λZ=>call jH [u0 r 0] W Y λa0 a1 a2=>qc a0 (λa3=>∃a4 a5 a6 a7 a8 a9,a3=g6 a4 a5 a6 a7 a8 a9/\∃b0,b0=qo a2 [iv a4,u3 a5,iv a6,iv a7,iv a8,a9] a1/\∃b1 b2,some (0,[])=some (b1,b2)/\qq b2=true/\∃b3 b4 b5,zt b0 (a2+1) 6 72 (qa.slice a2 0 1 6 true) b1 b2=some (b3,b4,b5)/\∃b6,sP p 5 b6/\qI b3=true/\∃b7,stC b4 b6 [b3]=some b7/\∃b8,sP n 5 b8/\∃b9,ld1 b7 b8=some b9/\∃c0 c1 c2 c3 c4 c5,l6 b7 (u0 p 0) c0 c1 c2 c3 c4 c5/\∃c6,c6=qo b5 [iv c0,u3 c1,iv c2,iv c3,iv c4,c5] b7/\∃c7 c8,zJ 6 c6 (qa.slice b5 0 1 6 true)=some (c7,c8)/\qq c8=true/\∃c9 d0 d1,zt c6 (b5+1) 6 72 b9 c7 c8=some (c9,d0,d1)/\∃d2,sP n 5 d2/\qI c9=true/\∃d3,stC d0 d2 [c9]=some d3/\call 49 [u0 r 0] d3 d1 λd4 d5 d6=>qc d4 (λd7=>N Q0 d5 d6 [] none) λd7=>Pn d7 Q0 d5 d6 [] none) λa3=>Pn a3 Q0 a1 a2 [] none) λZ=>Pn Z Q0 W Y [] none)) λT=>Pn T Q0 Q S [] none) λO=>Pn O Q0 L M [] none) (call zY [u0 r 0] G C λI J K=>qc I (λL=>∃M O P Q S T,L=g6 M O P Q S T/\∃U,U=qo K [iv M,u3 O,iv P,iv Q,iv S,T] J/\∃V,sP p 5 V/\Tt/\∃W,stC U V [qa.slice K 0 1 6 true]=some W/\∃Y,sP n 5 Y/\∃Z,ld1 W Y=some Z/\∃a0 a1 a2 a3 a4 a5,l6 W (u0 p 0) a0 a1 a2 a3 a4 a5/\∃a6,a6=qo (K+1) [iv a0,u3 a1,iv a2,iv a3,iv a4,a5] W/\∃a7 a8,zJ 6 a6 (qa.slice (K+1) 0 1 6 true)=some (a7,a8)/\qq a8=true/\∃a9 b0 b1,zt a6 (K+1+1) 6 72 Z a7 a8=some (a9,b0,b1)/\∃b2,sP n 5 b2/\qI a9=true/\∃b3,stC b0 b2 [a9]=some b3/\call jf [u0 r 0] b3 b1 λb4 b5 b6=>qc b4 (λb7=>N Q0 b5 b6 [] none) λb7=>Pn b7 Q0 b5 b6 [] none) λL=>Pn L Q0 J K [] none)) λD=>Pn D Q0 B C [] none) λq=>Pn q Q0 o p [] none) (X 2 Q0 h j [] none)) λk=>Pn k Q0 h j [] none) (X 2 Q0 c d [] none)) λe=>Pn e Q0 c d [] none) (qj u9 [(0,u0 r 0),(2,u0 i 0),(3,u0 n 0),(4,u5 b)])):=by kernel_rfl
theorem qle(r:Nat)(i:Nat)(n:Nat)(b:Bool)(H:qd)(nx:Nat)(K:qv):qx PG call (lp 84) 84 (qe PG 25) [1,1,1,1,1,1,1,1,0,0] (qy PG lv lvc K (qF PG 25)) (.exit 2) (qj .und [(4,u5 b),(3,u0 n 0),(2,u0 i 0),(0,u0 r 0)]) H nx [] none=
 (call qL [u0 r 0,u3 [125]] H nx λa c d=>qc a (λe=>∃f g h j k l,l6 c (u0 n 0) f g h j k l/\∃m,stC c (u0 i 0) [iv f,u3 g,iv h,iv j,iv k,l]=some m/\∃o p q s t u,l6 m (u0 i 0) o p q s t u/\K (U1 (g6 o p q s t u)) m d) (pK K c d)):=by kernel_rfl
theorem ql7(r:Nat)(i:Nat)(n:Nat)(m:Nat)(b:Bool)(o:qa)(H:qd)(nx:Nat):vK PG call (lp 84) 84 (qn (qe PG 25) [1,1,1,1,1,1,1,1,0,0,0,1,0,1,1,0,1,0,1,1,1,0,1,0,1,0,0]) (qj .und [(6,o),(5,u0 m 0),(4,u5 b),(3,u0 n 0),(2,u0 i 0),(0,u0 r 0)]) H nx [] none (qW [0,2,3,4,5,6] (qV N X R Pn))=
 ((λQ=>call zh [u0 r 0,u3 [44]] H nx λa c d=>qc a (λe=>∃f,e=u5 f/\ifB f (call zY [u0 r 0] c d λg h j=>qc g (λk=>∃l p q s t u,k=g6 l p q s t u/\∃v,v=qo j [iv l,u3 p,iv q,iv s,iv t,u] h/\∃w x,zJ 6 v (qa.slice j 0 1 6 true)=some (w,x)/\qq x=true/\∃y z A,zt v (j+1) 6 72 o w x=some (y,z,A)/\N (qj u9 [(0,u0 r 0),(2,u0 i 0),(3,u0 n 0),(4,u5 b),(5,u0 m 0),(6,y)]) z A [] none) λk=>Pn k Q h j [] none) (X 4 Q c d [] none)) λe=>Pn e Q c d [] none) (qj u9 [(0,u0 r 0),(2,u0 i 0),(3,u0 n 0),(4,u5 b),(5,u0 m 0),(6,o)])):=by kernel_rfl
theorem qks(r:Nat)(i:Nat)(n:Nat)(m:Nat)(b:Bool)(o:qa)(H:qd)(nx:Nat):qx PG call (lp 84) 84 (qn (qe PG 25) [1,1,1,1,1,1,1,1,0,0,0]) [1,0,1,1,0,1,0,1,1,1,0,1,0,1,0] (qW [0,2,3,4] (qV N X R Pn)) (.exit 4) (qj .und [(6,o),(5,u0 m 0),(4,u5 b),(3,u0 n 0),(2,u0 i 0),(0,u0 r 0)]) H nx [] none=
 ((λQ0=>call qL [u0 r 0,u3 [41]] H nx λa c d=>qc a (λe=>call jH [u0 r 0] c d λf g h=>qc f (λj=>∃k l p q s t,j=g6 k l p q s t/\∃u,u=qo h [iv k,u3 l,iv p,iv q,iv s,t] g/\∃v w,zJ 6 u o=some (v,w)/\qq w=true/\∃x y z,zt u (h+1) 6 72 (qa.slice h 0 1 6 true) v w=some (x,y,z)/\∃A,sP m 5 A/\qI x=true/\∃B,stC y A [x]=some B/\∃C,sP n 5 C/\∃D,ld1 B C=some D/\∃E F G I J K,l6 B (u0 m 0) E F G I J K/\∃L,L=qo z [iv E,u3 F,iv G,iv I,iv J,K] B/\∃M O,zJ 6 L (qa.slice z 0 1 6 true)=some (M,O)/\qq O=true/\∃P Q S,zt L (z+1) 6 72 D M O=some (P,Q,S)/\∃T,sP n 5 T/\qI P=true/\∃U,stC Q T [P]=some U/\call jf [u0 r 0] U S λV W Y=>qc V (λZ=>N Q0 W Y [] none) λZ=>Pn Z Q0 W Y [] none) λj=>Pn j Q0 g h [] none) λe=>Pn e Q0 c d [] none) (qj u9 [(0,u0 r 0),(2,u0 i 0),(3,u0 n 0),(4,u5 b)])):=by kernel_rfl
theorem qoc(r:Nat)(i:Nat)(n:Nat)(m:Nat)(o:qa)(H:qd)(nx:Nat):vK PG call (lp 65) 65 (qn (qe PG 26) [1,1,1,1,1,1,1,1,0,1,0,1,0,0]) (qj .und [(6,o),(4,u0 m 0),(3,u0 n 0),(2,u0 i 0),(0,u0 r 0)]) H nx [] none (qW [0,2,3,4,6] (qV N X R Pn))=
 ((λQ=>call zh [u0 r 0,u3 [44]] H nx λa b c=>qc a (λd=>∃e,d=u5 e/\ifB e (call vg [u0 r 0] b c λf g h=>qc f (λj=>∃k l p q s t,j=g6 k l p q s t/\∃u,u=qo h [iv k,u3 l,iv p,iv q,iv s,t] g/\∃v w,zJ 6 u (qa.slice h 0 1 6 true)=some (v,w)/\qq w=true/\∃x y z,zt u (h+1) 6 72 o v w=some (x,y,z)/\N (qj u9 [(0,u0 r 0),(2,u0 i 0),(3,u0 n 0),(4,u0 m 0),(6,x)]) y z [] none) λj=>Pn j Q g h [] none) (X 0 Q b c [] none)) λd=>Pn d Q b c [] none) (qj u9 [(0,u0 r 0),(2,u0 i 0),(3,u0 n 0),(4,u0 m 0),(6,o)])):=by kernel_rfl
theorem qkz(r:Nat)(i:Nat)(n:Nat)(m:Nat)(o:qa)(H:qd)(nx:Nat)(K:qv):qx PG call (lp 65) 65 (qe PG 26) [1,1,1,1,1,1,1,1,0,1,0,1,0] (qy PG lv lvc K (qF PG 26)) (.exit 0) (qj .und [(6,o),(4,u0 m 0),(3,u0 n 0),(2,u0 i 0),(0,u0 r 0)]) H nx [] none=
 (call qL [u0 r 0,u3 [41]] H nx λa b c=>qc a (λd=>call jH [u0 r 0] b c λe f g=>qc e (λh=>∃j k l p q s,h=g6 j k l p q s/\∃t,t=qo g [iv 0,u3 [],iv 0,iv 0,iv 0,u6] f/\∃u,stC t (u0 g 0) [iv j,u3 k,iv l,iv p,iv q,s]=some u/\call zF [u0 r 0] u (g+1) λv w x=>qc v (λy=>∃z A B C D E,y=g6 z A B C D E/\∃F,F=qo x [iv 0,u3 [],iv 0,iv 0,iv 0,u6] w/\∃G,stC F (u0 x 0) [iv z,u3 A,iv B,iv C,iv D,E]=some G/\∃I J L M N O,l6 G (u0 m 0) I J L M N O/\∃P Q R S T U,l6 G (u0 g 0) P Q R S T U/\∃V W X Y Z a0,l6 G (u0 x 0) V W X Y Z a0/\∃a1,a1=qo (x+1) [iv I,u3 J,iv L,iv M,iv N,O,iv P,u3 Q,iv R,iv S,iv T,U,iv V,u3 W,iv X,iv Y,iv Z,a0] G/\∃a2 a3,zJ 6 a1 o=some (a2,a3)/\qq a3=true/\∃a4 a5 a6,zt a1 (x+1+1) 6 72 (qa.slice (x+1) 0 3 6 true) a2 a3=some (a4,a5,a6)/\∃a7,sP n 5 a7/\qI a4=true/\∃a8,stC a5 a7 [a4]=some a8/\∃a9 b0 b1 b2 b3 b4,l6 a8 (u0 n 0) a9 b0 b1 b2 b3 b4/\∃b5,stC a8 (u0 i 0) [iv a9,u3 b0,iv b1,iv b2,iv b3,b4]=some b5/\∃b6 b7 b8 b9 c0 c1,l6 b5 (u0 i 0) b6 b7 b8 b9 c0 c1/\K (U1 (g6 b6 b7 b8 b9 c0 c1)) b5 a6) (pK K w x)) (pK K f g)) (pK K b c)):=by kernel_rfl
theorem qna(i:Nat)(j:Nat)(r:Nat)(n:Nat)(H:qd)(nx:Nat):vK PG call (lp 87) 87 (qn (qe PG 9) [1,1,1,1,1,0,0,0]) (qj .und [(9,u0 n 0),(8,u0 r 0),(3,u0 j 0),(2,u0 i 0)]) H nx [] none (qW [2,3,8,9] (qV N X R Pn))=
 ((λQ=>call zh [u0 r 0,u3 [59]] H nx λa b c=>qc a (λd=>∃e,d=u5 e/\ifB e (N Q b c [] none) (X 0 Q b c [] none)) λd=>Pn d Q b c [] none) (qj u9 [(2,u0 i 0),(3,u0 j 0),(8,u0 r 0),(9,u0 n 0)])):=by kernel_rfl
def qns(call:zA)(lp:Nat->jk)(lv:zU)(lvc:zT)(i:Nat)(j:Nat)(r:Nat)(n:Nat)(H:qd)(nx:Nat)(K:qv):Prop:=
 lp 87 (qn (qe PG 9) [1,1,1,1,1,1,0,0,0]) (qj u9 [(9,u0 n 0),(8,u0 r 0),(3,u0 j 0),(2,u0 i 0)]) H nx [] none (qx PG call (lp 87) 87 (qe PG 9) [1,1,1,1,1,1,0,0] (qy PG lv lvc K (qF PG 9)))
theorem qlo(call:zA)(lp:Nat->jk)(lv:zU)(lvc:zT)(i:Nat)(j:Nat)(r:Nat)(n:Nat)(H:qd)(nx:Nat)(K:qv):qx PG call (lp 87) 87 (qe PG 9) [1,1,1,1,1,0,0] (qy PG lv lvc K (qF PG 9)) (.exit 0) (qj .und [(9,u0 n 0),(8,u0 r 0),(3,u0 j 0),(2,u0 i 0)]) H nx [] none=qns call lp lv lvc i j r n H nx K:=
 (show qx PG call (lp 87) 87 (qe PG 9) [1,1,1,1,1,0,0] (qy PG lv lvc K (qF PG 9)) (.exit 0) (qj .und [(9,u0 n 0),(8,u0 r 0),(3,u0 j 0),(2,u0 i 0)]) H nx [] none=vK PG call (lp 87) 87 (qn (qe PG 9) [1,1,1,1,1,1]) (qj .und [(9,u0 n 0),(8,u0 r 0),(3,u0 j 0),(2,u0 i 0)]) H nx [] none (qy PG lv lvc K (qF PG 9)) by kernel_rfl).trans (show vK PG call (lp 87) 87 (qn (qe PG 9) [1,1,1,1,1,1]) (qj .und [(9,u0 n 0),(8,u0 r 0),(3,u0 j 0),(2,u0 i 0)]) H nx [] none (qy PG lv lvc K (qF PG 9))=qns call lp lv lvc i j r n H nx K by kernel_rfl)
theorem qnl(i:Nat)(j:Nat)(r:Nat)(n:Nat)(H:qd)(nx:Nat):vK PG call (lp 87) 87 (qn (qe PG 9) [1,1,1,1,1,1,0,0,0]) (qj .und [(9,u0 n 0),(8,u0 r 0),(3,u0 j 0),(2,u0 i 0)]) H nx [] none (qW [2,3,8,9] (qV N X R Pn))=
 ((λQ0=>call jo [u0 r 0] H nx λa b c=>qc a (λd=>∃e,d=u5 e/\ifB e (call jc [u0 r 0] b c λf g h=>qc f (λk=>∃l m o p q,k=g5 l m o p q/\ifB (!decide (l=0)) (call za [u0 r 0,u3 [116,121,112,101]] g h λs t u=>qc s (λv=>∃w,v=u5 w/\ifB w (∃x,sP n 5 x/\∃y,ld1 t x=some y/\((∃z,ld1 t x=some z/\z=y)/\True)/\call 25 [u0 r 0] t (u+8) λz A B=>qc z (λC=>∃D E F G I J,C=g6 D E F G I J/\∃K,K=qo (u+4) [iv D,u3 E,iv F,iv G,iv I,J] A/\((∃L,ld1 K x=some L/\L=y)/\True)/\∃L M,zJ 6 K (qa.slice (u+4) 0 1 6 true)=some (L,M)/\qq M=true/\∃O P Q,zt K B 6 72 y L M=some (O,P,Q)/\∃S,sP n 5 S/\True/\qI O=true/\∃T,stC P S [O]=some T/\True/\call jo [u0 r 0] T Q λU V W=>qc U (λY=>∃Z,Y=u5 Z/\ifB Z (call za [u0 r 0,u3 [59]] V W λa0 a1 a2=>qc a0 (λa3=>∃a4,a3=u5 a4/\ifB (!a4) (call jm [u0 r 0,iv 13] a1 a2 λa5 a6 a7=>qc a5 (λa8=>lp 87 (qn (qn (qe PG 9) [1,1,1,1,1,1,0,0,0]) [1,0,1,1,0,0]) (qj u9 [(70,a8),(69,u0 r 0),(68,u5 true),(68,u5 !a4),(67,u5 !a4),(64,u5 true),(66,u5 a4),(64,u5 true),(65,u0 r 0),(64,u5 true),(64,u5 Z),(63,u5 Z),(62,u0 r 0),(51,S),(50,O),(49,qa.slice (u+4) 0 1 6 true),(48,g6 D E F G I J),(47,u0 r 0),(46,y),(45,x),(42,u5 true),(42,u5 w),(44,u5 w),(43,u0 r 0),(39,u5 true),(39,u5 !decide (l=0)),(38,u5 !decide (l=0)),(34,u5 true),(37,iv l),(34,u5 true),(36,g5 l m o p q),(34,u5 true),(35,u0 r 0),(34,u5 true),(34,u5 e),(33,u5 e),(32,u0 r 0),(9,u0 n 0),(8,u0 r 0),(3,u0 j 0),(2,u0 i 0)]) a6 a7 [] none (qx PG call (lp 87) 87 (qn (qe PG 9) [1,1,1,1,1,1,0,0,0]) [1,0,1,1,0] (qW [2,3,8,9] (qV N X R Pn)))) λa8=>Pn a8 Q0 a6 a7 [] none) (lp 87 (qn (qn (qe PG 9) [1,1,1,1,1,1,0,0,0]) [1,0,1,1,0,0]) (qj u9 [(68,u5 false),(68,u5 !a4),(67,u5 !a4),(64,u5 true),(66,u5 a4),(64,u5 true),(65,u0 r 0),(64,u5 true),(64,u5 Z),(63,u5 Z),(62,u0 r 0),(51,S),(50,O),(49,qa.slice (u+4) 0 1 6 true),(48,g6 D E F G I J),(47,u0 r 0),(46,y),(45,x),(42,u5 true),(42,u5 w),(44,u5 w),(43,u0 r 0),(39,u5 true),(39,u5 !decide (l=0)),(38,u5 !decide (l=0)),(34,u5 true),(37,iv l),(34,u5 true),(36,g5 l m o p q),(34,u5 true),(35,u0 r 0),(34,u5 true),(34,u5 e),(33,u5 e),(32,u0 r 0),(9,u0 n 0),(8,u0 r 0),(3,u0 j 0),(2,u0 i 0)]) a1 a2 [] none (qx PG call (lp 87) 87 (qn (qe PG 9) [1,1,1,1,1,1,0,0,0]) [1,0,1,1,0] (qW [2,3,8,9] (qV N X R Pn))))) λa3=>Pn a3 Q0 a1 a2 [] none) (lp 87 (qn (qn (qe PG 9) [1,1,1,1,1,1,0,0,0]) [1,0,1,1,0,0]) (qj u9 [(68,u5 false),(68,u5 false),(67,u7 []),(64,u5 false),(66,u7 []),(64,u5 false),(65,u7 []),(64,u5 false),(64,u5 Z),(63,u5 Z),(62,u0 r 0),(51,S),(50,O),(49,qa.slice (u+4) 0 1 6 true),(48,g6 D E F G I J),(47,u0 r 0),(46,y),(45,x),(42,u5 true),(42,u5 w),(44,u5 w),(43,u0 r 0),(39,u5 true),(39,u5 !decide (l=0)),(38,u5 !decide (l=0)),(34,u5 true),(37,iv l),(34,u5 true),(36,g5 l m o p q),(34,u5 true),(35,u0 r 0),(34,u5 true),(34,u5 e),(33,u5 e),(32,u0 r 0),(9,u0 n 0),(8,u0 r 0),(3,u0 j 0),(2,u0 i 0)]) V W [] none (qx PG call (lp 87) 87 (qn (qe PG 9) [1,1,1,1,1,1,0,0,0]) [1,0,1,1,0] (qW [2,3,8,9] (qV N X R Pn))))) λY=>Pn Y Q0 V W [] none) λC=>Pn C Q0 A B [] none) (call za [u0 r 0,u3 [102,117,110,99]] t u λx y z=>qc x (λA=>∃B,A=u5 B/\ifB B (∃C,sP n 5 C/\∃D,ld1 y C=some D/\((∃E,ld1 y C=some E/\E=D)/\True)/\call zH [u0 r 0] y (z+8) λE F G=>qc E (λI=>∃J K L M O P,I=g6 J K L M O P/\∃Q,Q=qo (z+4) [iv J,u3 K,iv L,iv M,iv O,P] F/\((∃S,ld1 Q C=some S/\S=D)/\True)/\∃S T,zJ 6 Q (qa.slice (z+4) 0 1 6 true)=some (S,T)/\qq T=true/\∃U V W,zt Q G 6 72 D S T=some (U,V,W)/\∃Y,sP n 5 Y/\True/\qI U=true/\∃Z,stC V Y [U]=some Z/\True/\call jo [u0 r 0] Z W λa0 a1 a2=>qc a0 (λa3=>∃a4,a3=u5 a4/\ifB a4 (call 24 [u0 r 0,u3 [59]] a1 a2 λa5 a6 a7=>qc a5 (λa8=>∃a9,a8=u5 a9/\ifB (!a9) (call jm [u0 r 0,iv 13] a6 a7 λb0 b1 b2=>qc b0 (λb3=>lp 87 (qn (qn (qe PG 9) [1,1,1,1,1,1,0,0,0]) [1,0,1,1,0,0]) (qj u9 [(70,b3),(69,u0 r 0),(68,u5 true),(68,u5 !a9),(67,u5 !a9),(64,u5 true),(66,u5 a9),(64,u5 true),(65,u0 r 0),(64,u5 true),(64,u5 a4),(63,u5 a4),(62,u0 r 0),(61,Y),(60,U),(59,qa.slice (z+4) 0 1 6 true),(58,g6 J K L M O P),(57,u0 r 0),(56,D),(55,C),(52,u5 true),(52,u5 B),(54,u5 B),(53,u0 r 0),(42,u5 false),(42,u5 w),(44,u5 w),(43,u0 r 0),(39,u5 true),(39,u5 !decide (l=0)),(38,u5 !decide (l=0)),(34,u5 true),(37,iv l),(34,u5 true),(36,g5 l m o p q),(34,u5 true),(35,u0 r 0),(34,u5 true),(34,u5 e),(33,u5 e),(32,u0 r 0),(9,u0 n 0),(8,u0 r 0),(3,u0 j 0),(2,u0 i 0)]) b1 b2 [] none (qx PG call (lp 87) 87 (qn (qe PG 9) [1,1,1,1,1,1,0,0,0]) [1,0,1,1,0] (qW [2,3,8,9] (qV N X R Pn)))) λb3=>Pn b3 Q0 b1 b2 [] none) (lp 87 (qn (qn (qe PG 9) [1,1,1,1,1,1,0,0,0]) [1,0,1,1,0,0]) (qj u9 [(68,u5 false),(68,u5 !a9),(67,u5 !a9),(64,u5 true),(66,u5 a9),(64,u5 true),(65,u0 r 0),(64,u5 true),(64,u5 a4),(63,u5 a4),(62,u0 r 0),(61,Y),(60,U),(59,qa.slice (z+4) 0 1 6 true),(58,g6 J K L M O P),(57,u0 r 0),(56,D),(55,C),(52,u5 true),(52,u5 B),(54,u5 B),(53,u0 r 0),(42,u5 false),(42,u5 w),(44,u5 w),(43,u0 r 0),(39,u5 true),(39,u5 !decide (l=0)),(38,u5 !decide (l=0)),(34,u5 true),(37,iv l),(34,u5 true),(36,g5 l m o p q),(34,u5 true),(35,u0 r 0),(34,u5 true),(34,u5 e),(33,u5 e),(32,u0 r 0),(9,u0 n 0),(8,u0 r 0),(3,u0 j 0),(2,u0 i 0)]) a6 a7 [] none (qx PG call (lp 87) 87 (qn (qe PG 9) [1,1,1,1,1,1,0,0,0]) [1,0,1,1,0] (qW [2,3,8,9] (qV N X R Pn))))) λa8=>Pn a8 Q0 a6 a7 [] none) (lp 87 (qn (qn (qe PG 9) [1,1,1,1,1,1,0,0,0]) [1,0,1,1,0,0]) (qj u9 [(68,u5 false),(68,u5 false),(67,u7 []),(64,u5 false),(66,u7 []),(64,u5 false),(65,u7 []),(64,u5 false),(64,u5 a4),(63,u5 a4),(62,u0 r 0),(61,Y),(60,U),(59,qa.slice (z+4) 0 1 6 true),(58,g6 J K L M O P),(57,u0 r 0),(56,D),(55,C),(52,u5 true),(52,u5 B),(54,u5 B),(53,u0 r 0),(42,u5 false),(42,u5 w),(44,u5 w),(43,u0 r 0),(39,u5 true),(39,u5 !decide (l=0)),(38,u5 !decide (l=0)),(34,u5 true),(37,iv l),(34,u5 true),(36,g5 l m o p q),(34,u5 true),(35,u0 r 0),(34,u5 true),(34,u5 e),(33,u5 e),(32,u0 r 0),(9,u0 n 0),(8,u0 r 0),(3,u0 j 0),(2,u0 i 0)]) a1 a2 [] none (qx PG call (lp 87) 87 (qn (qe PG 9) [1,1,1,1,1,1,0,0,0]) [1,0,1,1,0] (qW [2,3,8,9] (qV N X R Pn))))) λa3=>Pn a3 Q0 a1 a2 [] none) λI=>Pn I Q0 F G [] none) (call jm [u0 r 0,iv 13] y z λC D E=>qc C (λF=>call jo [u0 r 0] D E λG I J=>qc G (λK=>∃L,K=u5 L/\ifB L (call za [u0 r 0,u3 [59]] I J λM O P=>qc M (λQ=>∃S,Q=u5 S/\ifB (!S) (call jm [u0 r 0,iv 13] O P λT U V=>qc T (λW=>lp 87 (qn (qn (qe PG 9) [1,1,1,1,1,1,0,0,0]) [1,0,1,1,0,0]) (qj u9 [(70,W),(69,u0 r 0),(68,u5 true),(68,u5 !S),(67,u5 !S),(64,u5 true),(66,u5 S),(64,u5 true),(65,u0 r 0),(64,u5 true),(64,u5 L),(63,u5 L),(62,u0 r 0),(41,F),(40,u0 r 0),(52,u5 false),(52,u5 B),(54,u5 B),(53,u0 r 0),(42,u5 false),(42,u5 w),(44,u5 w),(43,u0 r 0),(39,u5 true),(39,u5 !decide (l=0)),(38,u5 !decide (l=0)),(34,u5 true),(37,iv l),(34,u5 true),(36,g5 l m o p q),(34,u5 true),(35,u0 r 0),(34,u5 true),(34,u5 e),(33,u5 e),(32,u0 r 0),(9,u0 n 0),(8,u0 r 0),(3,u0 j 0),(2,u0 i 0)]) U V [] none (qx PG call (lp 87) 87 (qn (qe PG 9) [1,1,1,1,1,1,0,0,0]) [1,0,1,1,0] (qW [2,3,8,9] (qV N X R Pn)))) λW=>Pn W Q0 U V [] none) (lp 87 (qn (qn (qe PG 9) [1,1,1,1,1,1,0,0,0]) [1,0,1,1,0,0]) (qj u9 [(68,u5 false),(68,u5 !S),(67,u5 !S),(64,u5 true),(66,u5 S),(64,u5 true),(65,u0 r 0),(64,u5 true),(64,u5 L),(63,u5 L),(62,u0 r 0),(41,F),(40,u0 r 0),(52,u5 false),(52,u5 B),(54,u5 B),(53,u0 r 0),(42,u5 false),(42,u5 w),(44,u5 w),(43,u0 r 0),(39,u5 true),(39,u5 !decide (l=0)),(38,u5 !decide (l=0)),(34,u5 true),(37,iv l),(34,u5 true),(36,g5 l m o p q),(34,u5 true),(35,u0 r 0),(34,u5 true),(34,u5 e),(33,u5 e),(32,u0 r 0),(9,u0 n 0),(8,u0 r 0),(3,u0 j 0),(2,u0 i 0)]) O P [] none (qx PG call (lp 87) 87 (qn (qe PG 9) [1,1,1,1,1,1,0,0,0]) [1,0,1,1,0] (qW [2,3,8,9] (qV N X R Pn))))) λQ=>Pn Q Q0 O P [] none) (lp 87 (qn (qn (qe PG 9) [1,1,1,1,1,1,0,0,0]) [1,0,1,1,0,0]) (qj u9 [(68,u5 false),(68,u5 false),(67,u7 []),(64,u5 false),(66,u7 []),(64,u5 false),(65,u7 []),(64,u5 false),(64,u5 L),(63,u5 L),(62,u0 r 0),(41,F),(40,u0 r 0),(52,u5 false),(52,u5 B),(54,u5 B),(53,u0 r 0),(42,u5 false),(42,u5 w),(44,u5 w),(43,u0 r 0),(39,u5 true),(39,u5 !decide (l=0)),(38,u5 !decide (l=0)),(34,u5 true),(37,iv l),(34,u5 true),(36,g5 l m o p q),(34,u5 true),(35,u0 r 0),(34,u5 true),(34,u5 e),(33,u5 e),(32,u0 r 0),(9,u0 n 0),(8,u0 r 0),(3,u0 j 0),(2,u0 i 0)]) I J [] none (qx PG call (lp 87) 87 (qn (qe PG 9) [1,1,1,1,1,1,0,0,0]) [1,0,1,1,0] (qW [2,3,8,9] (qV N X R Pn))))) λK=>Pn K Q0 I J [] none) λF=>Pn F Q0 D E [] none)) λA=>Pn A Q0 y z [] none)) λv=>Pn v Q0 t u [] none) (X 2 Q0 g h [] none)) λk=>Pn k Q0 g h [] none) (X 2 Q0 b c [] none)) λd=>Pn d Q0 b c [] none) (qj u9 [(2,u0 i 0),(3,u0 j 0),(8,u0 r 0),(9,u0 n 0)])):=by kernel_rfl
def qnr(call:zA)(lp:Nat->jk)(lv:zU)(lvc:zT)(i:Nat)(j:Nat)(r:Nat)(n:Nat)(H:qd)(nx:Nat)(K:qv):Prop:=
 call jo [u0 r 0] H nx λa b c=>qc a (λd=>∃e,d=u5 e/\ifB (!e) (Tt/\∃f,sP r 4 f/\∃g h:Int,ldN b 2 f=some (u4 [iv g,iv h])/\Tt/\∃k,sP r 3 k/\∃l:Int,ld1 b k=some (iv l)/\((∃m o:Int,ldN b 2 f=some (u4 [iv m,iv o])/\u4 [iv m,iv o]=u4 [iv g,iv h])/\(∃m:Int,ld1 b k=some (iv m)/\iv m=iv l)/\True)/\∃m,stC b (u0 i 0) [iv 0,u3 [],iv 0,iv 0,iv 0,u6]=some m/\((∃o p:Int,ldN m 2 f=some (u4 [iv o,iv p])/\u4 [iv o,iv p]=u4 [iv g,iv h])/\(∃o:Int,ld1 m k=some (iv o)/\iv o=iv l)/\True)/\∃o,stC m (u0 j 0) [iv g,iv h]=some o/\((∃p:Int,ld1 o k=some (iv p)/\iv p=iv l)/\True)/\∃p q s t u v,l6 o (u0 i 0) p q s t u v/\∃w x:Int,ldN o 2 (u0 j 0)=some (u4 [iv w,iv x])/\K (U1 (u7 [g6 p q s t u v,u4 [iv w,iv x],iv l])) o (c+12)) (∃f g h k l m,l6 b (u0 n 0) f g h k l m/\∃o,stC b (u0 i 0) [iv f,u3 g,iv h,iv k,iv l,m]=some o/\∃p,stC o (u0 j 0) [iv 0,iv 0]=some p/\∃q s t u v w,l6 p (u0 i 0) q s t u v w/\∃x y:Int,ldN p 2 (u0 j 0)=some (u4 [iv x,iv y])/\K (U1 (u7 [g6 q s t u v w,u4 [iv x,iv y],iv 0])) p c)) (pK K b c)
theorem qmi(call:zA)(lp:Nat->jk)(lv:zU)(lvc:zT)(i:Nat)(j:Nat)(r:Nat)(n:Nat)(H:qd)(nx:Nat)(K:qv):qx PG call (lp 87) 87 (qe PG 9) [1,1,1,1,1,1,0,0] (qy PG lv lvc K (qF PG 9)) (.exit 2) (qj .und [(9,u0 n 0),(8,u0 r 0),(3,u0 j 0),(2,u0 i 0)]) H nx [] none=qnr call lp lv lvc i j r n H nx K:=by kernel_rfl
theorem qln(i:Nat)(j:Nat)(r:Nat)(n:Nat)(H:qd)(nx:Nat):vK PG call (lp 87) 87 (qn (qe PG 9) [1,1,1,1,1,1,0,0,0,1,0,1,1,0,0]) (qj .und [(9,u0 n 0),(8,u0 r 0),(3,u0 j 0),(2,u0 i 0)]) H nx [] none (qW [2,3,8,9] (qV N X R Pn))=
 ((λQ=>call zh [u0 r 0,u3 [59]] H nx λa b c=>qc a (λd=>∃e,d=u5 e/\ifB e (N Q b c [] none) (X 5 Q b c [] none)) λd=>Pn d Q b c [] none) (qj u9 [(2,u0 i 0),(3,u0 j 0),(8,u0 r 0),(9,u0 n 0)])):=by kernel_rfl
theorem qkp(i:Nat)(j:Nat)(r:Nat)(n:Nat)(H:qd)(nx:Nat):qx PG call (lp 87) 87 (qn (qe PG 9) [1,1,1,1,1,1,0,0,0]) [1,0,1,1,0] (qW [2,3,8,9] (qV N X R Pn)) (.exit 5) (qj .und [(9,u0 n 0),(8,u0 r 0),(3,u0 j 0),(2,u0 i 0)]) H nx [] none=
 (N (qj u9 [(2,u0 i 0),(3,u0 j 0),(8,u0 r 0),(9,u0 n 0)]) H nx [] none):=by kernel_rfl
theorem Ku(s:List UInt8)(H:qd)(nx:Nat)(K:qv):qD PG call lp vP [u3 s] H nx (qy PG lv lvc K)=
 (call wv [u3 s] H nx λa b c=>qc a (λd=>∃e f g h i j k l m,d=u7 [g6 e f g h i j,u4 [iv k,iv l],iv m]/\∃n,n=qo c [iv 0,u3 [],iv 0,iv 0,iv 0,u6] b/\∃o,o=qo (c+1) [iv 0,iv 0] n/\∃p,stC o (u0 c 0) [iv e,u3 f,iv g,iv h,iv i,j]=some p/\∃q,stC p (u0 (c+1) 0) [iv k,iv l]=some q/\call jA [u3 s] q (c+1+1) λr t u=>qc r (λv=>∃w x y z A B C D E,v=u7 [g6 w x y z A B,u4 [iv C,iv D],iv E]/\∃F,F=qo u [iv 0,u3 [],iv 0,iv 0,iv 0,u6] t/\∃G,G=qo (u+1) [iv 0,iv 0] F/\∃I,stC G (u0 u 0) [iv w,u3 x,iv y,iv z,iv A,B]=some I/\∃J,stC I (u0 (u+1) 0) [iv C,iv D]=some J/\∃L M N O P Q,l6 J (u0 c 0) L M N O P Q/\∃R S T U V W,l6 J (u0 u 0) R S T U V W/\call yS [g6 L M N O P Q,g6 R S T U V W] J (u+1+1) λX Y Z=>qc X (λa0=>∃a1,a0=u5 a1/\ifB a1 (∃a2 a3:Int,ldN Y 2 (u0 (c+1) 0)=some (u4 [iv a2,iv a3])/\∃a4 a5:Int,ldN Y 2 (u0 (u+1) 0)=some (u4 [iv a4,iv a5])/\Tt/\ifB (decide (a2=a4)&&(decide (a3=a5)&&true)) (K (U1 (u5 (decide (m=E)))) Y Z) (K (U1 (u5 false)) Y Z)) (K (U1 (u5 false)) Y Z)) (pK K Y Z)) (pK K t u)) (pK K b c)):=by kernel_rfl
theorem qg1(p:Nat)(q:Nat)(i:Int)(H:qd)(nx:Nat):vK PG call (lp 67) 67 (qn (qe PG 10) [1,1,0,1,0,0]) (qj .und [(5,iv i),(4,u5 false),(3,u0 q 0),(2,u0 p 0)]) H nx [] none (qW [2,3,4,5] (qV N X R Pn))=
 (∃a,sP p 5 a/\∃b,ld1 H a=some b/\∃c,kI b=some c/\ifB (decide (i<Int.ofNat c)) (∃d,sP p 5 d/\∃e,ld1 H d=some e/\0<=i/\∃f,zq e i.toNat 6=some f/\∃g h j k l m,l6 H f g h j k l m/\∃n,sP q 5 n/\∃o,ld1 H n=some o/\0<=i/\∃r,zq o i.toNat 6=some r/\∃s t u v w x,l6 H r s t u v w x/\((∃y,ld1 H d=some y/\y=e)/\(∃y z A B C D,l6 H f y z A B C D/\g6 y z A B C D=g6 g h j k l m)/\(∃y,ld1 H n=some y/\y=o)/\(∃y z A B C D,l6 H r y z A B C D/\g6 y z A B C D=g6 s t u v w x)/\True)/\call yS [g6 g h j k l m,g6 s t u v w x] H (nx+12) λy z A=>qc y (λB=>∃C,B=u5 C/\True/\ifB (!C) (R (qj u9 [(2,u0 p 0),(3,u0 q 0),(4,u5 false),(5,iv i)]) z A [] none) (N (qj u9 [(2,u0 p 0),(3,u0 q 0),(4,u5 false),(5,iv (i64.wrap (i+1)))]) z A [] none)) λB=>Pn B (qj u9 [(2,u0 p 0),(3,u0 q 0),(4,u5 false),(5,iv i)]) z A [] none) (X 0 (qj u9 [(2,u0 p 0),(3,u0 q 0),(4,u5 false),(5,iv i)]) H nx [] none)):=by kernel_rfl
theorem qfh(p:Nat)(q:Nat)(i:Int)(H:qd)(nx:Nat)(K:qv):qx PG call (lp 67) 67 (qe PG 10) [1,1,0,1,0] (qy PG lv lvc K (qF PG 10)) (.exit 0) (qj .und [(5,iv i),(4,u5 false),(3,u0 q 0),(2,u0 p 0)]) H nx [] none=
 (K (U1 (u5 true)) H nx):=by kernel_rfl
theorem V3(_u:Nat)(H:qd)(nx:Nat)(K:qv):qD PG call lp yT ([]:List qa) H nx (qy PG lv lvc K)=
 (call wv [u3 [102,117,110,99,32,109,97,105,110,40,41,32,123,32,112,114,105,110,116,40,49,32,43,32,50,32,42,32,120,41,32,125]] H nx λa b c=>qc a (λd=>∃e f g h i j k l m,d=u7 [g6 e f g h i j,u4 [iv k,iv l],iv m]/\∃n,n=qo c [iv 0,u3 [],iv 0,iv 0,iv 0,u6] b/\∃o,o=qo (c+1) [iv 0,iv 0] n/\∃p,stC o (u0 c 0) [iv e,u3 f,iv g,iv h,iv i,j]=some p/\∃q,stC p (u0 (c+1) 0) [iv k,iv l]=some q/\call wv [u3 [102,117,110,99,32,109,97,105,110,40,41,32,123,32,120,32,61,32,125]] q (c+1+1) λr s t=>qc r (λu=>∃v w x y z A B C D,u=u7 [g6 v w x y z A,u4 [iv B,iv C],iv D]/\∃E,E=qo t [iv 0,u3 [],iv 0,iv 0,iv 0,u6] s/\∃F,F=qo (t+1) [iv 0,iv 0] E/\∃G,stC F (u0 t 0) [iv v,u3 w,iv x,iv y,iv z,A]=some G/\∃I,stC G (u0 (t+1) 0) [iv B,iv C]=some I/\ifB (!decide (m=0)) (K (U1 (u5 false)) I (t+1+1)) (∃J,sP c 0 J/\∃L:Int,ld1 I J=some (iv L)/\ifB (!decide (L=1)) (K (U1 (u5 false)) I (t+1+1)) (∃M,sP c 5 M/\∃N,ld1 I M=some N/\∃O,kI N=some O/\ifB (!decide (Int.ofNat O=1)) (K (U1 (u5 false)) I (t+1+1)) (∃P,sP c 5 P/\∃Q,ld1 I P=some Q/\(0:Int)<=0/\∃R,zq Q 0 6=some R/\∃S,jl R 5=some S/\∃T,ld1 I S=some T/\∃U,kI T=some U/\ifB (!decide (Int.ofNat U=3)) (K (U1 (u5 false)) I (t+1+1)) (∃V,sP c 5 V/\∃W,ld1 I V=some W/\(0:Int)<=0/\∃X,zq W 0 6=some X/\∃Y,jl X 5=some Y/\∃Z,ld1 I Y=some Z/\(0:Int)<=2/\∃a0,zq Z 2 6=some a0/\∃a1,jl a0 5=some a1/\∃a2,ld1 I a1=some a2/\∃a3,kI a2=some a3/\ifB (!decide (Int.ofNat a3=1)) (K (U1 (u5 false)) I (t+1+1)) (∃a4,sP c 5 a4/\∃a5,ld1 I a4=some a5/\(0:Int)<=0/\∃a6,zq a5 0 6=some a6/\∃a7,jl a6 5=some a7/\∃a8,ld1 I a7=some a8/\(0:Int)<=2/\∃a9,zq a8 2 6=some a9/\∃b0,jl a9 5=some b0/\∃b1,ld1 I b0=some b1/\(0:Int)<=0/\∃b2,zq b1 0 6=some b2/\∃b3,jl b2 5=some b3/\∃b4,ld1 I b3=some b4/\∃b5,kI b4=some b5/\ifB (!decide (Int.ofNat b5=1)) (K (U1 (u5 false)) I (t+1+1)) (∃b6,sP c 5 b6/\∃b7,ld1 I b6=some b7/\(0:Int)<=0/\∃b8,zq b7 0 6=some b8/\∃b9,jl b8 5=some b9/\∃c0,ld1 I b9=some c0/\(0:Int)<=2/\∃c1,zq c0 2 6=some c1/\∃c2,jl c1 5=some c2/\∃c3,ld1 I c2=some c3/\(0:Int)<=0/\∃c4,zq c3 0 6=some c4/\∃c5,jl c4 5=some c5/\∃c6,ld1 I c5=some c6/\(0:Int)<=0/\∃c7,zq c6 0 6=some c7/\∃c8 c9 d0 d1 d2 d3,l6 I c7 c8 c9 d0 d1 d2 d3/\∃d4,d4=qo (t+1+1) [iv 0,u3 [],iv 0,iv 0,iv 0,u6] I/\∃d5,stC d4 (u0 (t+1+1) 0) [iv c8,u3 c9,iv d0,iv d1,iv d2,d3]=some d5/\∃d6,sP (t+1+1) 0 d6/\∃d7:Int,ld1 d5 d6=some (iv d7)/\ifB (decide (d7=28)) (∃d8,sP (t+1+1) 1 d8/\∃d9,ld1 d5 d8=some (u3 d9)/\ifB (d9==[43]) (∃e0,sP (t+1+1) 5 e0/\∃e1,ld1 d5 e0=some e1/\∃e2,kI e1=some e2/\ifB (decide (Int.ofNat e2=2)) (∃e3,sP (t+1+1) 5 e3/\∃e4,ld1 d5 e3=some e4/\(0:Int)<=1/\∃e5,zq e4 1 6=some e5/\∃e6,jl e5 1=some e6/\∃e7,ld1 d5 e6=some (u3 e7)/\ifB (e7==[42]) (∃e8,sP (t+1+1) 4 e8/\∃e9:Int,ld1 d5 e8=some (iv e9)/\ifB (decide (e9=23)) (ifB (decide (D=13)) (∃f0,sP (t+1) 0 f0/\∃f1:Int,ld1 d5 f0=some (iv f1)/\ifB (decide (f1=1)) (∃f2,sP (t+1) 1 f2/\∃f3:Int,ld1 d5 f2=some (iv f3)/\K (U1 (u5 (decide (f3=19)))) d5 (t+1+1+1)) (K (U1 (u5 false)) d5 (t+1+1+1))) (K (U1 (u5 false)) d5 (t+1+1+1))) (K (U1 (u5 false)) d5 (t+1+1+1))) (K (U1 (u5 false)) d5 (t+1+1+1))) (K (U1 (u5 false)) d5 (t+1+1+1))) (K (U1 (u5 false)) d5 (t+1+1+1))) (K (U1 (u5 false)) d5 (t+1+1+1))))))))) (pK K s t)) (pK K b c)):=by kernel_rfl
theorem Y2(k:Nat)(m:Int)(H:qd)(nx:Nat)(K:qv):qD PG call lp qO [u0 k 0,iv m] H nx (qy PG lv lvc K)=
 (Tt/\∃a,sP k 1 a/\∃b:Int,ld1 H a=some (iv b)/\Tt/\∃c,sP k 0 c/\∃d,ld1 H c=some d/\∃e,kI d=some e/\((∃f:Int,ld1 H a=some (iv f)/\iv f=iv b)/\(∃f,ld1 H c=some f/\f=d)/\True)/\ifB (decide (Int.ofNat e<=b)) (K (U1 (iv 0)) H (nx+10)) (Tt/\∃f,sP k 1 f/\∃g:Int,ld1 H f=some (iv g)/\Tt/\∃h,sP k 1 h/\Tt/\∃i,stC H h [iv (i64.wrap (g+1))]=some i/\Tt/\∃j,sP k 0 j/\∃l,ld1 i j=some l/\Tt/\∃n,sP k 1 n/\∃o:Int,ld1 i n=some (iv o)/\0<=i64.wrap (o - 1)/\∃p,zq l (i64.wrap (o - 1)).toNat 1=some p/\∃q:Int,ld1 i p=some (iv q)/\((∃r,ld1 i j=some r/\r=l)/\(∃r:Int,ld1 i n=some (iv r)/\iv r=iv o)/\(∃r:Int,ld1 i p=some (iv r)/\iv r=iv q)/\True)/\call wL [iv q,iv m] i (nx+10+14) λr s t=>qc r (λu=>∃v:Int,u=iv v/\True/\K (U1 (iv v)) s t) (pK K s t))):=by kernel_rfl
theorem qis(k:Nat)(t:Int)(H:qd)(nx:Nat)(K:qv):qD PG call lp Zw [u0 k 0,iv t] H nx (qy PG lv lvc K)=
 (Tt/\∃a,sP k 2 a/\∃b,ld1 H a=some b/\0<=t/\∃c,zq b t.toNat 1=some c/\∃d,ld1 H c=some d/\∃e,kI d=some e/\ifB (decide (Int.ofNat e=0)) (K (U1 (u3 [])) H nx) (∃f,kI d=some f/\call qO [u0 k 0,iv (Int.ofNat f)] H nx λg h i=>qc g (λj=>∃l:Int,j=iv l/\0<=l/\∃m,zq d l.toNat 1=some m/\∃n,ld1 h m=some (u3 n)/\K (U1 (u3 n)) h i) (pK K h i))):=by kernel_rfl
theorem qb6(k:Nat)(t:Int)(H:qd)(nx:Nat)(K:qv):qD PG call lp zP [u0 k 0,iv t] H nx (qy PG lv lvc K)=
 (call Zw [u0 k 0,iv t] H nx λa b c=>qc a (λd=>∃e,d=u3 e/\ifB (!e==[]) (call qO [u0 k 0,iv 4] b c λf g h=>qc f (λi=>∃j:Int,i=iv j/\ifB (decide (0<j)) (K (U1 (u3 e)) g h) (ifB (decide (t=0)) (Tt/\Tt/\Tt/\Tt/\Tt/\Tt/\Tt/\Tt/\Tt/\call qO [u0 k 0,iv 9] g h λl m n=>qc l (λo=>∃p:Int,o=iv p/\0<=p/\p.toNat<9/\∃q,jM PG kV [u3 [48],u3 [49],u3 [50],u3 [51],u3 [55],u3 [49,48],u3 [57,50,50,51,51,55,50,48,51,54,56,53,52,55,55,53,56,48,55],u3 [40,45,49,41],u3 [49,48,48]] (p.toNat*1)=some (u3 q)/\K (U1 (u3 q)) m n) (pK K m n)) (ifB (decide (t=1)) (Tt/\Tt/\call qO [u0 k 0,iv 2] g h λl m n=>qc l (λo=>∃p:Int,o=iv p/\0<=p/\p.toNat<2/\∃q,jM PG kV [u3 [116,114,117,101],u3 [102,97,108,115,101]] (p.toNat*1)=some (u3 q)/\K (U1 (u3 q)) m n) (pK K m n)) (ifB (decide (t=2)) (Tt/\Tt/\Tt/\Tt/\call qO [u0 k 0,iv 4] g h λl m n=>qc l (λo=>∃p:Int,o=iv p/\0<=p/\p.toNat<4/\∃q,jM PG kV [u3 [34,34],u3 [34,97,34],u3 [34,98,99,34],u3 [34,97,34]] (p.toNat*1)=some (u3 q)/\K (U1 (u3 q)) m n) (pK K m n)) (ifB (decide (t=3)) (K (U1 (u3 [109,97,107,101,40,91,93,105,110,116,44,32,51,41])) g h) (ifB (decide (t=4)) (K (U1 (u3 [110,101,119,40,80,41])) g h) (ifB (decide (t=5)) (K (U1 (u3 [110,101,119,40,81,41])) g h) (K (U1 (u3 [122])) g h)))))))) (pK K g h)) (ifB (decide (t=0)) (Tt/\Tt/\Tt/\Tt/\Tt/\Tt/\Tt/\Tt/\Tt/\call qO [u0 k 0,iv 9] b c λf g h=>qc f (λi=>∃j:Int,i=iv j/\0<=j/\j.toNat<9/\∃l,jM PG kV [u3 [48],u3 [49],u3 [50],u3 [51],u3 [55],u3 [49,48],u3 [57,50,50,51,51,55,50,48,51,54,56,53,52,55,55,53,56,48,55],u3 [40,45,49,41],u3 [49,48,48]] (j.toNat*1)=some (u3 l)/\K (U1 (u3 l)) g h) (pK K g h)) (ifB (decide (t=1)) (Tt/\Tt/\call qO [u0 k 0,iv 2] b c λf g h=>qc f (λi=>∃j:Int,i=iv j/\0<=j/\j.toNat<2/\∃l,jM PG kV [u3 [116,114,117,101],u3 [102,97,108,115,101]] (j.toNat*1)=some (u3 l)/\K (U1 (u3 l)) g h) (pK K g h)) (ifB (decide (t=2)) (Tt/\Tt/\Tt/\Tt/\call 13 [u0 k 0,iv 4] b c λf g h=>qc f (λi=>∃j:Int,i=iv j/\0<=j/\j.toNat<4/\∃l,jM PG kV [u3 [34,34],u3 [34,97,34],u3 [34,98,99,34],u3 [34,97,34]] (j.toNat*1)=some (u3 l)/\K (U1 (u3 l)) g h) (pK K g h)) (ifB (decide (t=3)) (K (U1 (u3 [109,97,107,101,40,91,93,105,110,116,44,32,51,41])) b c) (ifB (decide (t=4)) (K (U1 (u3 [110,101,119,40,80,41])) b c) (ifB (decide (t=5)) (K (U1 (u3 [110,101,119,40,81,41])) b c) (K (U1 (u3 [122])) b c)))))))) (pK K b c)):=by kernel_rfl
theorem qaa(k:Nat)(n:Int)(H:qd)(nx:Nat)(K:qv):qD PG call lp Xh [u0 k 0,iv n] H nx (qy PG lv lvc K)=
 (lp 15 (qn (qe PG 28) [1,1,0,1,0,0]) (qj (u7 []) [(6,iv 0),(5,u3 []),(4,u3 []),(1,iv n),(0,u0 k 0)]) H nx [] none (qx PG call (lp 15) 15 (qe PG 28) [1,1,0,1,0] (qy PG lv lvc K (qF PG 28)))):=by kernel_rfl
theorem Kj(k:Nat)(n:Int)(s:List UInt8)(H:qd)(nx:Nat)(K:qv):qD PG call lp qC [u0 k 0,iv n,u3 s] H nx (qy PG lv lvc K)=
 (Tt/\∃a,sP k 6 a/\∃b,ld1 H a=some (u3 b)/\((∃c,ld1 H a=some (u3 c)/\u3 c=u3 b)/\True)/\call 28 [u0 k 0,iv n] H (nx+15) λc d e=>qc c (λf=>∃g,f=u3 g/\b.length+g.length<=9223372036854775807/\(b++g).length+s.length<=9223372036854775807/\(b++g++s).length+1<=9223372036854775807/\Tt/\∃h,sP k 6 h/\((∃i,ld1 d a=some (u3 i)/\u3 i=u3 b)/\True)/\Tt/\∃i,stC d h [u3 (b++g++s++[10])]=some i/\True/\K (U1 (u7 [])) i e) (pK K d e)):=by kernel_rfl
theorem VI(k:Nat)(t:Int)(n:Int)(s:List UInt8)(H:qd)(nx:Nat)(K:qv):qD PG call lp vx [u0 k 0,iv t,iv n,u3 s] H nx (qy PG lv lvc K)=
 (Tt/\∃a,sP k 3 a/\∃b:Int,ld1 H a=some (iv b)/\call kl [iv b] H nx λc d e=>qc c (λf=>∃g,f=u3 g/\1+g.length<=9223372036854775807/\Tt/\∃h,sP k 3 h/\∃i:Int,ld1 d h=some (iv i)/\Tt/\∃j,sP k 3 j/\Tt/\∃l,stC d j [iv (i64.wrap (i+1))]=some l/\ifB (decide (t=6)) (4+([118]++g).length<=9223372036854775807/\([118,97,114,32]++([118]++g)).length+5<=9223372036854775807/\([118,97,114,32]++([118]++g)++[32,73,32,61,32]).length+s.length<=9223372036854775807/\call qC [u0 k 0,iv n,u3 ([118,97,114,32]++([118]++g)++[32,73,32,61,32]++s)] l e λm o p=>qc m (λq=>Tt/\∃r,sP k 2 r/\∃u,ld1 o r=some u/\∃v,v=qo (p+5) [] o/\Tt/\∃w,sP k 2 w/\∃x,ld1 v w=some x/\0<=t/\∃y,zq x t.toNat 1=some y/\∃z,ld1 v y=some z/\Tt/\∃A,A=qo (p+15) [u3 ([118]++g)] v/\((∃B,ld1 A r=some B/\B=u)/\(∃B,ld1 A w=some B/\B=x)/\(∃B,ld1 A y=some B/\B=z)/\True)/\∃B C,zJ 1 A z=some (B,C)/\qq C=true/\∃D E F,zt A (p+19) 1 16 (qa.slice (p+5) 0 0 1 true) B C=some (D,E,F)/\((∃G,ld1 E r=some G/\G=u)/\True)/\∃G I,zJ 1 E (qa.slice (p+15) 0 1 1 true)=some (G,I)/\qq I=true/\∃J L M,zt E F 1 16 D G I=some (J,L,M)/\0<=t/\∃N,zq u t.toNat 1=some N/\((∃O,ld1 L r=some O/\O=u)/\True)/\qI J=true/\∃O,stC L N [J]=some O/\True/\K (U1 (u7 [])) O M) (pK K o p)) (([118]++g).length+4<=9223372036854775807/\([118]++g++[32,58,61,32]).length+s.length<=9223372036854775807/\call qC [u0 k 0,iv n,u3 ([118]++g++[32,58,61,32]++s)] l e λm o p=>qc m (λq=>Tt/\∃r,sP k 2 r/\∃u,ld1 o r=some u/\∃v,v=qo (p+5) [] o/\Tt/\∃w,sP k 2 w/\∃x,ld1 v w=some x/\0<=t/\∃y,zq x t.toNat 1=some y/\∃z,ld1 v y=some z/\Tt/\∃A,A=qo (p+15) [u3 ([118]++g)] v/\((∃B,ld1 A r=some B/\B=u)/\(∃B,ld1 A w=some B/\B=x)/\(∃B,ld1 A y=some B/\B=z)/\True)/\∃B C,zJ 1 A z=some (B,C)/\qq C=true/\∃D E F,zt A (p+19) 1 16 (qa.slice (p+5) 0 0 1 true) B C=some (D,E,F)/\((∃G,ld1 E r=some G/\G=u)/\True)/\∃G I,zJ 1 E (qa.slice (p+15) 0 1 1 true)=some (G,I)/\qq I=true/\∃J L M,zt E F 1 16 D G I=some (J,L,M)/\0<=t/\∃N,zq u t.toNat 1=some N/\((∃O,ld1 L r=some O/\O=u)/\True)/\qI J=true/\∃O,stC L N [J]=some O/\True/\K (U1 (u7 [])) O M) (pK K o p))) (pK K d e)):=by kernel_rfl
theorem Kb(k:Nat)(t:Int)(d:Int)(H:qd)(nx:Nat)(K:qv):qD PG call lp qP [u0 k 0,iv t,iv d] H nx (qy PG lv lvc K)=
 (Tt/\∃a,a=newBN nx [u0 k 0].length [u0 k 0] H/\Tt/\∃b,b=newBN (nx+1) [iv d].length [iv d] a/\∃c,ld1 b (u0 nx 0)=some c/\wM c=true/\∃e,jl c 5=some e/\∃f:Int,ld1 b e=some (iv f)/\wM c=true/\∃g,jl c 5=some g/\Tt/\∃h,stC b g [iv (i64.wrap (f+1))]=some h/\∃i:Int,ld1 h (u0 (nx+1) 0)=some (iv i)/\ifB (decide (i<=0)) (((∃j:Int,ld1 h (u0 (nx+1) 0)=some (iv j)/\iv j=iv i)/\u7 []=u7 []/\u7 []=u7 []/\u7 []=u7 []/\u7 []=u7 []/\u7 []=u7 []/\u7 []=u7 []/\True)/\∃j,ld1 h (u0 nx 0)=some j/\call zP [j,iv t] h (nx+1+1+21) λl m n=>qc l (λo=>∃p,o=u3 p/\K (U1 (u3 p)) m n) (pK K m n)) (∃j,ld1 h (u0 nx 0)=some j/\wM j=true/\∃l,jl j 5=some l/\∃m:Int,ld1 h l=some (iv m)/\ifB (decide (70<m)) (((∃n:Int,ld1 h (u0 (nx+1) 0)=some (iv n)/\iv n=iv i)/\(∃n,ld1 h (u0 nx 0)=some n/\n=j)/\(∃n:Int,ld1 h l=some (iv n)/\iv n=iv m)/\u7 []=u7 []/\u7 []=u7 []/\u7 []=u7 []/\u7 []=u7 []/\True)/\∃n,ld1 h (u0 nx 0)=some n/\call zP [n,iv t] h (nx+1+1+21) λo p q=>qc o (λr=>∃s,r=u3 s/\K (U1 (u3 s)) p q) (pK K p q)) (∃n,ld1 h (u0 nx 0)=some n/\wM n=true/\∃o,jl n 1=some o/\∃p:Int,ld1 h o=some (iv p)/\∃q,ld1 h (u0 nx 0)=some q/\wM q=true/\∃r,jl q 0=some r/\∃s,ld1 h r=some s/\∃u,kI s=some u/\((∃v:Int,ld1 h (u0 (nx+1) 0)=some (iv v)/\iv v=iv i)/\(∃v,ld1 h (u0 nx 0)=some v/\v=j)/\(∃v:Int,ld1 h l=some (iv v)/\iv v=iv m)/\(∃v,ld1 h (u0 nx 0)=some v/\v=n)/\(∃v:Int,ld1 h o=some (iv v)/\iv v=iv p)/\(∃v,ld1 h (u0 nx 0)=some v/\v=q)/\(∃v,ld1 h r=some v/\v=s)/\True)/\ifB (decide (Int.ofNat u<=p)) (∃v,ld1 h (u0 nx 0)=some v/\call 53 [v,iv t] h (nx+1+1+21) λw x y=>qc w (λz=>∃A,z=u3 A/\K (U1 (u3 A)) x y) (pK K x y)) (ifB (decide (t=0)) (∃v,ld1 h (u0 nx 0)=some v/\call qO [v,iv 16] h (nx+1+1+21) λw x y=>qc w (λz=>∃A:Int,z=iv A/\ifB (decide (A=0)) (∃B C,some (54,[iv 0,u0 nx 0,u0 (nx+1) 0])=some (B,C)/\call B C x y λD E F=>qc D (λG=>∃I,G=u3 I/\1+I.length<=9223372036854775807/\([40]++I).length+3<=9223372036854775807/\∃J L,some (54,[iv 0,u0 nx 0,u0 (nx+1) 0])=some (J,L)/\call J L E F λM N O=>qc M (λP=>∃Q,P=u3 Q/\([40]++I++[32,43,32]).length+Q.length<=9223372036854775807/\([40]++I++[32,43,32]++Q).length+1<=9223372036854775807/\K (U1 (u3 ([40]++I++[32,43,32]++Q++[41]))) N O) (pK K N O)) (pK K E F)) (ifB (decide (A=1)) (∃B C,some (54,[iv 0,u0 nx 0,u0 (nx+1) 0])=some (B,C)/\call B C x y λD E F=>qc D (λG=>∃I,G=u3 I/\1+I.length<=9223372036854775807/\([40]++I).length+3<=9223372036854775807/\∃J L,some (54,[iv 0,u0 nx 0,u0 (nx+1) 0])=some (J,L)/\call J L E F λM N O=>qc M (λP=>∃Q,P=u3 Q/\([40]++I++[32,43,32]).length+Q.length<=9223372036854775807/\([40]++I++[32,43,32]++Q).length+1<=9223372036854775807/\K (U1 (u3 ([40]++I++[32,43,32]++Q++[41]))) N O) (pK K N O)) (pK K E F)) (ifB (decide (A=2)) (∃B C,some (54,[iv 0,u0 nx 0,u0 (nx+1) 0])=some (B,C)/\call B C x y λD E F=>qc D (λG=>∃I,G=u3 I/\1+I.length<=9223372036854775807/\([40]++I).length+3<=9223372036854775807/\∃J L,some (54,[iv 0,u0 nx 0,u0 (nx+1) 0])=some (J,L)/\call J L E F λM N O=>qc M (λP=>∃Q,P=u3 Q/\([40]++I++[32,45,32]).length+Q.length<=9223372036854775807/\([40]++I++[32,45,32]++Q).length+1<=9223372036854775807/\K (U1 (u3 ([40]++I++[32,45,32]++Q++[41]))) N O) (pK K N O)) (pK K E F)) (ifB (decide (A=3)) (∃B C,some (54,[iv 0,u0 nx 0,u0 (nx+1) 0])=some (B,C)/\call B C x y λD E F=>qc D (λG=>∃I,G=u3 I/\1+I.length<=9223372036854775807/\([40]++I).length+3<=9223372036854775807/\∃J L,some (54,[iv 0,u0 nx 0,u0 (nx+1) 0])=some (J,L)/\call J L E F λM N O=>qc M (λP=>∃Q,P=u3 Q/\([40]++I++[32,42,32]).length+Q.length<=9223372036854775807/\([40]++I++[32,42,32]++Q).length+1<=9223372036854775807/\K (U1 (u3 ([40]++I++[32,42,32]++Q++[41]))) N O) (pK K N O)) (pK K E F)) (ifB (decide (A=4)) (∃B C,some (54,[iv 0,u0 nx 0,u0 (nx+1) 0])=some (B,C)/\call B C x y λD E F=>qc D (λG=>∃I,G=u3 I/\1+I.length<=9223372036854775807/\([40]++I).length+3<=9223372036854775807/\∃J L,some (54,[iv 0,u0 nx 0,u0 (nx+1) 0])=some (J,L)/\call J L E F λM N O=>qc M (λP=>∃Q,P=u3 Q/\([40]++I++[32,47,32]).length+Q.length<=9223372036854775807/\([40]++I++[32,47,32]++Q).length+1<=9223372036854775807/\K (U1 (u3 ([40]++I++[32,47,32]++Q++[41]))) N O) (pK K N O)) (pK K E F)) (ifB (decide (A=5)) (∃B C,some (54,[iv 0,u0 nx 0,u0 (nx+1) 0])=some (B,C)/\call B C x y λD E F=>qc D (λG=>∃I,G=u3 I/\1+I.length<=9223372036854775807/\([40]++I).length+3<=9223372036854775807/\∃J L,some (54,[iv 0,u0 nx 0,u0 (nx+1) 0])=some (J,L)/\call J L E F λM N O=>qc M (λP=>∃Q,P=u3 Q/\([40]++I++[32,37,32]).length+Q.length<=9223372036854775807/\([40]++I++[32,37,32]++Q).length+1<=9223372036854775807/\K (U1 (u3 ([40]++I++[32,37,32]++Q++[41]))) N O) (pK K N O)) (pK K E F)) (ifB (decide (A=6)) (∃B C,some (54,[iv 0,u0 nx 0,u0 (nx+1) 0])=some (B,C)/\call B C x y λD E F=>qc D (λG=>∃I,G=u3 I/\2+I.length<=9223372036854775807/\([40,45]++I).length+1<=9223372036854775807/\K (U1 (u3 ([40,45]++I++[41]))) E F) (pK K E F)) (ifB (decide (A=7)) (∃B C,some (54,[iv 3,u0 nx 0,u0 (nx+1) 0])=some (B,C)/\call B C x y λD E F=>qc D (λG=>∃I,G=u3 I/\4+I.length<=9223372036854775807/\([108,101,110,40]++I).length+1<=9223372036854775807/\K (U1 (u3 ([108,101,110,40]++I++[41]))) E F) (pK K E F)) (ifB (decide (A=8)) (∃B C,some (54,[iv 3,u0 nx 0,u0 (nx+1) 0])=some (B,C)/\call B C x y λD E F=>qc D (λG=>∃I,G=u3 I/\I.length+1<=9223372036854775807/\∃J L,some (54,[iv 0,u0 nx 0,u0 (nx+1) 0])=some (J,L)/\call J L E F λM N O=>qc M (λP=>∃Q,P=u3 Q/\(I++[91]).length+Q.length<=9223372036854775807/\(I++[91]++Q).length+1<=9223372036854775807/\K (U1 (u3 (I++[91]++Q++[93]))) N O) (pK K N O)) (pK K E F)) (ifB (decide (A=9)) (∃B C,some (54,[iv 4,u0 nx 0,u0 (nx+1) 0])=some (B,C)/\call B C x y λD E F=>qc D (λG=>∃I,G=u3 I/\I.length+2<=9223372036854775807/\K (U1 (u3 (I++[46,97]))) E F) (pK K E F)) (ifB (decide (A=10)) (∃B C,some (54,[iv 5,u0 nx 0,u0 (nx+1) 0])=some (B,C)/\call B C x y λD E F=>qc D (λG=>∃I,G=u3 I/\I.length+2<=9223372036854775807/\K (U1 (u3 (I++[46,120]))) E F) (pK K E F)) (ifB (decide (A=11)) (∃B,ld1 x (u0 nx 0)=some B/\wM B=true/\∃C,jl B 8=some C/\∃D,ld1 x C=some (u5 D)/\ifB D (∃E F,some (54,[iv 0,u0 nx 0,u0 (nx+1) 0])=some (E,F)/\call E F x y λG I J=>qc G (λL=>∃M,L=u3 M/\2+M.length<=9223372036854775807/\([102,40]++M).length+2<=9223372036854775807/\∃N O,some (54,[iv 0,u0 nx 0,u0 (nx+1) 0])=some (N,O)/\call N O I J λP Q R=>qc P (λS=>∃T,S=u3 T/\([102,40]++M++[44,32]).length+T.length<=9223372036854775807/\([102,40]++M++[44,32]++T).length+1<=9223372036854775807/\K (U1 (u3 ([102,40]++M++[44,32]++T++[41]))) Q R) (pK K Q R)) (pK K I J)) (∃E,ld1 x (u0 nx 0)=some E/\call zP [E,iv t] x y λF G I=>qc F (λJ=>∃L,J=u3 L/\K (U1 (u3 L)) G I) (pK K G I))) (ifB (decide (A=12)) (∃B,ld1 x (u0 nx 0)=some B/\wM B=true/\∃C,jl B 8=some C/\∃D,ld1 x C=some (u5 D)/\ifB D (∃E F,some (54,[iv 6,u0 nx 0,u0 (nx+1) 0])=some (E,F)/\call E F x y λG I J=>qc G (λL=>∃M,L=u3 M/\M.length+5<=9223372036854775807/\∃N O,some (54,[iv 0,u0 nx 0,u0 (nx+1) 0])=some (N,O)/\call N O I J λP Q R=>qc P (λS=>∃T,S=u3 T/\(M++[46,103,101,116,40]).length+T.length<=9223372036854775807/\(M++[46,103,101,116,40]++T).length+1<=9223372036854775807/\K (U1 (u3 (M++[46,103,101,116,40]++T++[41]))) Q R) (pK K Q R)) (pK K I J)) (∃E,ld1 x (u0 nx 0)=some E/\call zP [E,iv t] x y λF G I=>qc F (λJ=>∃L,J=u3 L/\K (U1 (u3 L)) G I) (pK K G I))) (ifB (decide (A=13)) (∃B,ld1 x (u0 nx 0)=some B/\wM B=true/\∃C,jl B 8=some C/\∃D,ld1 x C=some (u5 D)/\ifB D (∃E F,some (54,[iv 4,u0 nx 0,u0 (nx+1) 0])=some (E,F)/\call E F x y λG I J=>qc G (λL=>∃M,L=u3 M/\M.length+5<=9223372036854775807/\∃N O,some (54,[iv 0,u0 nx 0,u0 (nx+1) 0])=some (N,O)/\call N O I J λP Q R=>qc P (λS=>∃T,S=u3 T/\(M++[46,103,101,116,40]).length+T.length<=9223372036854775807/\(M++[46,103,101,116,40]++T).length+1<=9223372036854775807/\K (U1 (u3 (M++[46,103,101,116,40]++T++[41]))) Q R) (pK K Q R)) (pK K I J)) (∃E,ld1 x (u0 nx 0)=some E/\call zP [E,iv t] x y λF G I=>qc F (λJ=>∃L,J=u3 L/\K (U1 (u3 L)) G I) (pK K G I))) (ifB (decide (A=14)) (∃B C,some (54,[iv 2,u0 nx 0,u0 (nx+1) 0])=some (B,C)/\call B C x y λD E F=>qc D (λG=>∃I,G=u3 I/\I.length+1<=9223372036854775807/\∃J L,some (54,[iv 0,u0 nx 0,u0 (nx+1) 0])=some (J,L)/\call J L E F λM N O=>qc M (λP=>∃Q,P=u3 Q/\(I++[91]).length+Q.length<=9223372036854775807/\(I++[91]++Q).length+1<=9223372036854775807/\K (U1 (u3 (I++[91]++Q++[93]))) N O) (pK K N O)) (pK K E F)) (∃B,ld1 x (u0 nx 0)=some B/\call zP [B,iv t] x y λC D E=>qc C (λF=>∃G,F=u3 G/\K (U1 (u3 G)) D E) (pK K D E))))))))))))))))) (pK K x y)) (ifB (decide (t=1)) (∃v,ld1 h (u0 nx 0)=some v/\call 13 [v,iv 10] h (nx+1+1+21) λw x y=>qc w (λz=>∃A:Int,z=iv A/\ifB (decide (A=0)) (Tt/\Tt/\Tt/\Tt/\Tt/\Tt/\∃B,ld1 x (u0 nx 0)=some B/\((∃C,ld1 x (u0 nx 0)=some C/\C=B)/\True)/\∃C D,some (54,[iv 0,u0 nx 0,u0 (nx+1) 0])=some (C,D)/\call C D x (y+13) λE F G=>qc E (λI=>∃J,I=u3 J/\1+J.length<=9223372036854775807/\((∃L,ld1 F (u0 nx 0)=some L/\L=B)/\True)/\call qO [B,iv 6] F G λL M N=>qc L (λO=>∃P:Int,O=iv P/\0<=P/\P.toNat<6/\∃Q,jM PG kV [u3 [32,60,32],u3 [32,60,61,32],u3 [32,62,32],u3 [32,62,61,32],u3 [32,61,61,32],u3 [32,33,61,32]] (P.toNat*1)=some (u3 Q)/\([40]++J).length+Q.length<=9223372036854775807/\True/\∃R S,some (54,[iv 0,u0 nx 0,u0 (nx+1) 0])=some (R,S)/\call R S M N λT U V=>qc T (λW=>∃X,W=u3 X/\([40]++J++Q).length+X.length<=9223372036854775807/\([40]++J++Q++X).length+1<=9223372036854775807/\True/\K (U1 (u3 ([40]++J++Q++X++[41]))) U V) (pK K U V)) (pK K M N)) (pK K F G)) (ifB (decide (A=1)) (Tt/\Tt/\Tt/\Tt/\Tt/\Tt/\∃B,ld1 x (u0 nx 0)=some B/\((∃C,ld1 x (u0 nx 0)=some C/\C=B)/\True)/\∃C D,some (54,[iv 0,u0 nx 0,u0 (nx+1) 0])=some (C,D)/\call C D x (y+13) λE F G=>qc E (λI=>∃J,I=u3 J/\1+J.length<=9223372036854775807/\((∃L,ld1 F (u0 nx 0)=some L/\L=B)/\True)/\call qO [B,iv 6] F G λL M N=>qc L (λO=>∃P:Int,O=iv P/\0<=P/\P.toNat<6/\∃Q,jM PG kV [u3 [32,60,32],u3 [32,60,61,32],u3 [32,62,32],u3 [32,62,61,32],u3 [32,61,61,32],u3 [32,33,61,32]] (P.toNat*1)=some (u3 Q)/\([40]++J).length+Q.length<=9223372036854775807/\True/\∃R S,some (54,[iv 0,u0 nx 0,u0 (nx+1) 0])=some (R,S)/\call R S M N λT U V=>qc T (λW=>∃X,W=u3 X/\([40]++J++Q).length+X.length<=9223372036854775807/\([40]++J++Q++X).length+1<=9223372036854775807/\True/\K (U1 (u3 ([40]++J++Q++X++[41]))) U V) (pK K U V)) (pK K M N)) (pK K F G)) (ifB (decide (A=2)) (Tt/\Tt/\Tt/\Tt/\Tt/\Tt/\∃B,ld1 x (u0 nx 0)=some B/\((∃C,ld1 x (u0 nx 0)=some C/\C=B)/\True)/\∃C D,some (54,[iv 0,u0 nx 0,u0 (nx+1) 0])=some (C,D)/\call C D x (y+13) λE F G=>qc E (λI=>∃J,I=u3 J/\1+J.length<=9223372036854775807/\((∃L,ld1 F (u0 nx 0)=some L/\L=B)/\True)/\call qO [B,iv 6] F G λL M N=>qc L (λO=>∃P:Int,O=iv P/\0<=P/\P.toNat<6/\∃Q,jM PG kV [u3 [32,60,32],u3 [32,60,61,32],u3 [32,62,32],u3 [32,62,61,32],u3 [32,61,61,32],u3 [32,33,61,32]] (P.toNat*1)=some (u3 Q)/\([40]++J).length+Q.length<=9223372036854775807/\True/\∃R S,some (54,[iv 0,u0 nx 0,u0 (nx+1) 0])=some (R,S)/\call R S M N λT U V=>qc T (λW=>∃X,W=u3 X/\([40]++J++Q).length+X.length<=9223372036854775807/\([40]++J++Q++X).length+1<=9223372036854775807/\True/\K (U1 (u3 ([40]++J++Q++X++[41]))) U V) (pK K U V)) (pK K M N)) (pK K F G)) (ifB (decide (A=3)) (∃B C,some (54,[iv 1,u0 nx 0,u0 (nx+1) 0])=some (B,C)/\call B C x y λD E F=>qc D (λG=>∃I,G=u3 I/\1+I.length<=9223372036854775807/\([40]++I).length+4<=9223372036854775807/\∃J L,some (54,[iv 1,u0 nx 0,u0 (nx+1) 0])=some (J,L)/\call J L E F λM N O=>qc M (λP=>∃Q,P=u3 Q/\([40]++I++[32,38,38,32]).length+Q.length<=9223372036854775807/\([40]++I++[32,38,38,32]++Q).length+1<=9223372036854775807/\K (U1 (u3 ([40]++I++[32,38,38,32]++Q++[41]))) N O) (pK K N O)) (pK K E F)) (ifB (decide (A=4)) (∃B C,some (54,[iv 1,u0 nx 0,u0 (nx+1) 0])=some (B,C)/\call B C x y λD E F=>qc D (λG=>∃I,G=u3 I/\1+I.length<=9223372036854775807/\([40]++I).length+4<=9223372036854775807/\∃J L,some (54,[iv 1,u0 nx 0,u0 (nx+1) 0])=some (J,L)/\call J L E F λM N O=>qc M (λP=>∃Q,P=u3 Q/\([40]++I++[32,124,124,32]).length+Q.length<=9223372036854775807/\([40]++I++[32,124,124,32]++Q).length+1<=9223372036854775807/\K (U1 (u3 ([40]++I++[32,124,124,32]++Q++[41]))) N O) (pK K N O)) (pK K E F)) (ifB (decide (A=5)) (∃B C,some (54,[iv 1,u0 nx 0,u0 (nx+1) 0])=some (B,C)/\call B C x y λD E F=>qc D (λG=>∃I,G=u3 I/\2+I.length<=9223372036854775807/\([40,33]++I).length+1<=9223372036854775807/\K (U1 (u3 ([40,33]++I++[41]))) E F) (pK K E F)) (ifB (decide (A=6)) (Tt/\Tt/\∃B,ld1 x (u0 nx 0)=some B/\((∃C,ld1 x (u0 nx 0)=some C/\C=B)/\True)/\∃C D,some (54,[iv 4,u0 nx 0,u0 (nx+1) 0])=some (C,D)/\call C D x (y+10) λE F G=>qc E (λI=>∃J,I=u3 J/\1+J.length<=9223372036854775807/\((∃L,ld1 F (u0 nx 0)=some L/\L=B)/\True)/\call qO [B,iv 2] F G λL M N=>qc L (λO=>∃P:Int,O=iv P/\0<=P/\P.toNat<2/\∃Q,jM PG kV [u3 [32,61,61,32],u3 [32,33,61,32]] (P.toNat*1)=some (u3 Q)/\([40]++J).length+Q.length<=9223372036854775807/\([40]++J++Q).length+4<=9223372036854775807/\True/\K (U1 (u3 ([40]++J++Q++[110,105,108,41]))) M N) (pK K M N)) (pK K F G)) (ifB (decide (A=7)) (Tt/\Tt/\∃B,ld1 x (u0 nx 0)=some B/\((∃C,ld1 x (u0 nx 0)=some C/\C=B)/\True)/\∃C D,some (54,[iv 6,u0 nx 0,u0 (nx+1) 0])=some (C,D)/\call C D x (y+13) λE F G=>qc E (λI=>∃J,I=u3 J/\1+J.length<=9223372036854775807/\([40]++J).length+4<=9223372036854775807/\((∃L,ld1 F (u0 nx 0)=some L/\L=B)/\True)/\call qO [B,iv 2] F G λL M N=>qc L (λO=>∃P:Int,O=iv P/\0<=P/\P.toNat<2/\∃Q:Int,jM PG qgs [iv 4,iv 6] (P.toNat*1)=some (iv Q)/\True/\∃R S,some (54,[iv Q,u0 nx 0,u0 (nx+1) 0])=some (R,S)/\call R S M N λT U V=>qc T (λW=>∃X,W=u3 X/\([40]++J++[32,61,61,32]).length+X.length<=9223372036854775807/\([40]++J++[32,61,61,32]++X).length+1<=9223372036854775807/\True/\K (U1 (u3 ([40]++J++[32,61,61,32]++X++[41]))) U V) (pK K U V)) (pK K M N)) (pK K F G)) (ifB (decide (A=8)) (Tt/\Tt/\Tt/\Tt/\∃B,ld1 x (u0 nx 0)=some B/\((∃C,ld1 x (u0 nx 0)=some C/\C=B)/\True)/\∃C D,some (54,[iv 2,u0 nx 0,u0 (nx+1) 0])=some (C,D)/\call C D x (y+13) λE F G=>qc E (λI=>∃J,I=u3 J/\1+J.length<=9223372036854775807/\((∃L,ld1 F (u0 nx 0)=some L/\L=B)/\True)/\call qO [B,iv 4] F G λL M N=>qc L (λO=>∃P:Int,O=iv P/\0<=P/\P.toNat<4/\∃Q,jM PG kV [u3 [32,60,32],u3 [32,61,61,32],u3 [32,62,61,32],u3 [32,33,61,32]] (P.toNat*1)=some (u3 Q)/\([40]++J).length+Q.length<=9223372036854775807/\True/\∃R S,some (54,[iv 2,u0 nx 0,u0 (nx+1) 0])=some (R,S)/\call R S M N λT U V=>qc T (λW=>∃X,W=u3 X/\([40]++J++Q).length+X.length<=9223372036854775807/\([40]++J++Q++X).length+1<=9223372036854775807/\True/\K (U1 (u3 ([40]++J++Q++X++[41]))) U V) (pK K U V)) (pK K M N)) (pK K F G)) (∃B,ld1 x (u0 nx 0)=some B/\call zP [B,iv t] x y λC D E=>qc C (λF=>∃G,F=u3 G/\K (U1 (u3 G)) D E) (pK K D E))))))))))) (pK K x y)) (ifB (decide (t=2)) (∃v,ld1 h (u0 nx 0)=some v/\call qO [v,iv 3] h (nx+1+1+21) λw x y=>qc w (λz=>∃A:Int,z=iv A/\ifB (decide (A=0)) (∃B C,some (54,[iv 2,u0 nx 0,u0 (nx+1) 0])=some (B,C)/\call B C x y λD E F=>qc D (λG=>∃I,G=u3 I/\1+I.length<=9223372036854775807/\([40]++I).length+3<=9223372036854775807/\∃J L,some (54,[iv 2,u0 nx 0,u0 (nx+1) 0])=some (J,L)/\call J L E F λM N O=>qc M (λP=>∃Q,P=u3 Q/\([40]++I++[32,43,32]).length+Q.length<=9223372036854775807/\([40]++I++[32,43,32]++Q).length+1<=9223372036854775807/\K (U1 (u3 ([40]++I++[32,43,32]++Q++[41]))) N O) (pK K N O)) (pK K E F)) (∃B,ld1 x (u0 nx 0)=some B/\call zP [B,iv t] x y λC D E=>qc C (λF=>∃G,F=u3 G/\K (U1 (u3 G)) D E) (pK K D E))) (pK K x y)) (ifB (decide (t=3)) (∃v,ld1 h (u0 nx 0)=some v/\call qO [v,iv 5] h (nx+1+1+21) λw x y=>qc w (λz=>∃A:Int,z=iv A/\ifB (decide (A=0)) (∃B C,some (54,[iv 0,u0 nx 0,u0 (nx+1) 0])=some (B,C)/\call B C x y λD E F=>qc D (λG=>∃I,G=u3 I/\12+I.length<=9223372036854775807/\([109,97,107,101,40,91,93,105,110,116,44,32]++I).length+1<=9223372036854775807/\K (U1 (u3 ([109,97,107,101,40,91,93,105,110,116,44,32]++I++[41]))) E F) (pK K E F)) (ifB (decide (A=1)) (∃B C,some (54,[iv 5,u0 nx 0,u0 (nx+1) 0])=some (B,C)/\call B C x y λD E F=>qc D (λG=>∃I,G=u3 I/\I.length+2<=9223372036854775807/\K (U1 (u3 (I++[46,115]))) E F) (pK K E F)) (∃B,ld1 x (u0 nx 0)=some B/\call zP [B,iv t] x y λC D E=>qc C (λF=>∃G,F=u3 G/\K (U1 (u3 G)) D E) (pK K D E)))) (pK K x y)) (ifB (decide (t=4)) (∃v,ld1 h (u0 nx 0)=some v/\call qO [v,iv 6] h (nx+1+1+21) λw x y=>qc w (λz=>∃A:Int,z=iv A/\ifB (decide (A=0)) (K (U1 (u3 [110,101,119,40,80,41])) x y) (ifB (decide (A=1)) (∃B C,some (54,[iv 4,u0 nx 0,u0 (nx+1) 0])=some (B,C)/\call B C x y λD E F=>qc D (λG=>∃I,G=u3 I/\I.length+2<=9223372036854775807/\K (U1 (u3 (I++[46,110]))) E F) (pK K E F)) (ifB (decide (A=2)) (∃B C,some (54,[iv 6,u0 nx 0,u0 (nx+1) 0])=some (B,C)/\call B C x y λD E F=>qc D (λG=>∃I,G=u3 I/\I.length+4<=9223372036854775807/\K (U1 (u3 (I++[46,40,80,41]))) E F) (pK K E F)) (ifB (decide (A=3)) (∃B,ld1 x (u0 nx 0)=some B/\wM B=true/\∃C,jl B 8=some C/\∃D,ld1 x C=some (u5 D)/\ifB D (∃E F,some (54,[iv 4,u0 nx 0,u0 (nx+1) 0])=some (E,F)/\call E F x y λG I J=>qc G (λL=>∃M,L=u3 M/\2+M.length<=9223372036854775807/\([104,40]++M).length+1<=9223372036854775807/\K (U1 (u3 ([104,40]++M++[41]))) I J) (pK K I J)) (∃E,ld1 x (u0 nx 0)=some E/\call zP [E,iv t] x y λF G I=>qc F (λJ=>∃L,J=u3 L/\K (U1 (u3 L)) G I) (pK K G I))) (∃B,ld1 x (u0 nx 0)=some B/\call zP [B,iv t] x y λC D E=>qc C (λF=>∃G,F=u3 G/\K (U1 (u3 G)) D E) (pK K D E)))))) (pK K x y)) (ifB (decide (t=5)) (∃v,ld1 h (u0 nx 0)=some v/\call qO [v,iv 3] h (nx+1+1+21) λw x y=>qc w (λz=>∃A:Int,z=iv A/\ifB (decide (A=0)) (K (U1 (u3 [110,101,119,40,81,41])) x y) (∃B,ld1 x (u0 nx 0)=some B/\call zP [B,iv t] x y λC D E=>qc C (λF=>∃G,F=u3 G/\K (U1 (u3 G)) D E) (pK K D E))) (pK K x y)) (ifB (decide (t=6)) (∃v,ld1 h (u0 nx 0)=some v/\call qO [v,iv 5] h (nx+1+1+21) λw x y=>qc w (λz=>∃A:Int,z=iv A/\ifB (decide (A=0)) (∃B C,some (54,[iv 4,u0 nx 0,u0 (nx+1) 0])=some (B,C)/\call B C x y λD E F=>qc D (λG=>∃I,G=u3 I/\I.length+2<=9223372036854775807/\K (U1 (u3 (I++[46,105]))) E F) (pK K E F)) (∃B,ld1 x (u0 nx 0)=some B/\call zP [B,iv t] x y λC D E=>qc C (λF=>∃G,F=u3 G/\K (U1 (u3 G)) D E) (pK K D E))) (pK K x y)) (∃v,ld1 h (u0 nx 0)=some v/\call 53 [v,iv t] h (nx+1+1+21) λw x y=>qc w (λz=>∃A,z=u3 A/\K (U1 (u3 A)) x y) (pK K x y)))))))))))):=by kernel_rfl
theorem Wm(t:Int)(kc:Nat)(dc:Nat)(H:qd)(nx:Nat)(K:qv):qD PG call lp Ke [iv t,u0 kc 0,u0 dc 0] H nx (qy PG lv lvc K)=
 (∃a,ld1 H (u0 kc 0)=some a/\∃b:Int,ld1 H (u0 dc 0)=some (iv b)/\call qP [a,iv t,iv (i64.wrap (b - 1))] H nx λc d e=>qc c (λf=>∃g,f=u3 g/\K (U1 (u3 g)) d e) (pK K d e)):=by kernel_rfl
theorem XN(k:Nat)(n:Int)(d:Int)(H:qd)(nx:Nat)(K:qv):qD PG call lp jR [u0 k 0,iv n,iv d] H nx (qy PG lv lvc K)=
 (∃a,a=qo nx [] H/\Tt/\∃b,sP k 2 b/\∃c,ld1 a b=some c/\∃e f,zJ 1 a c=some (e,f)/\qq f=true/\∃g h i,zt a (nx+1) 1 24 (qa.slice nx 0 0 1 true) e f=some (g,h,i)/\call qO [u0 k 0,iv 4] h i λj l m=>qc j (λo=>∃p:Int,o=iv p/\lp 29 (qn (qe PG 29) [1,0,1,0,0]) (qj (u7 []) [(7,iv (i64.wrap (1+p))),(16,iv (i64.wrap (1+p))),(15,iv p),(14,u0 k 0),(6,g),(13,g),(12,c),(11,b),(10,u0 k 0),(9,u0 k 0),(8,qa.slice nx 0 0 1 true),(2,iv d),(1,iv n),(0,u0 k 0)]) l m [] none (qx PG call (lp 29) 29 (qe PG 29) [1,0,1,0] (qy PG lv lvc K (qF PG 29)))) (pK K l m)):=by kernel_rfl
theorem qar(k:Nat)(n:Int)(d:Int)(H:qd)(nx:Nat)(K:qv):qD PG call lp J0 [u0 k 0,iv n,iv d] H nx (qy PG lv lvc K)=
 (Tt/\∃a,sP k 5 a/\∃b:Int,ld1 H a=some (iv b)/\ifB (decide (70<b)) (call zP [u0 k 0,iv 0] H nx λc e f=>qc c (λg=>∃h,g=u3 h/\6+h.length<=9223372036854775807/\([112,114,105,110,116,40]++h).length+1<=9223372036854775807/\call qC [u0 k 0,iv n,u3 ([112,114,105,110,116,40]++h++[41])] e f λi j l=>qc i (λm=>K (U1 (u7 [])) j l) (pK K j l)) (pK K e f)) (Tt/\∃c,sP k 3 c/\∃e:Int,ld1 H c=some (iv e)/\ifB (decide (24<e)) (call zP [u0 k 0,iv 0] H nx λf g h=>qc f (λi=>∃j,i=u3 j/\6+j.length<=9223372036854775807/\([112,114,105,110,116,40]++j).length+1<=9223372036854775807/\call qC [u0 k 0,iv n,u3 ([112,114,105,110,116,40]++j++[41])] g h λl m o=>qc l (λp=>K (U1 (u7 [])) m o) (pK K m o)) (pK K g h)) (call qO [u0 k 0,iv 15] H nx λf g h=>qc f (λi=>∃j:Int,i=iv j/\ifB (decide (j=0)) (call qO [u0 k 0,iv 7] g h λl m o=>qc l (λp=>∃q:Int,p=iv q/\call qP [u0 k 0,iv q,iv 2] m o λr s t=>qc r (λu=>∃v,u=u3 v/\call vx [u0 k 0,iv q,iv n,u3 v] s t λw x y=>qc w (λz=>K (U1 (u7 [])) x y) (pK K x y)) (pK K s t)) (pK K m o)) (ifB (decide (j=1)) (call qO [u0 k 0,iv 7] g h λl m o=>qc l (λp=>∃q:Int,p=iv q/\call qP [u0 k 0,iv q,iv 2] m o λr s t=>qc r (λu=>∃v,u=u3 v/\call vx [u0 k 0,iv q,iv n,u3 v] s t λw x y=>qc w (λz=>K (U1 (u7 [])) x y) (pK K x y)) (pK K s t)) (pK K m o)) (ifB (decide (j=2)) (call Zw [u0 k 0,iv 0] g h λl m o=>qc l (λp=>∃q,p=u3 q/\ifB (!q==[]) (q.length+3<=9223372036854775807/\call qP [u0 k 0,iv 0,iv 3] m o λr s t=>qc r (λu=>∃v,u=u3 v/\(q++[32,61,32]).length+v.length<=9223372036854775807/\call qC [u0 k 0,iv n,u3 (q++[32,61,32]++v)] s t λw x y=>qc w (λz=>K (U1 (u7 [])) x y) (pK K x y)) (pK K s t)) (K (U1 (u7 [])) m o)) (pK K m o)) (ifB (decide (j=3)) (call Zw [u0 k 0,iv 0] g h λl m o=>qc l (λp=>∃q,p=u3 q/\ifB (!q==[]) (q.length+3<=9223372036854775807/\call qP [u0 k 0,iv 0,iv 3] m o λr s t=>qc r (λu=>∃v,u=u3 v/\(q++[32,61,32]).length+v.length<=9223372036854775807/\call qC [u0 k 0,iv n,u3 (q++[32,61,32]++v)] s t λw x y=>qc w (λz=>K (U1 (u7 [])) x y) (pK K x y)) (pK K s t)) (K (U1 (u7 [])) m o)) (pK K m o)) (ifB (decide (j=4)) (call Zw [u0 k 0,iv 0] g h λl m o=>qc l (λp=>∃q,p=u3 q/\ifB (!q==[]) (q.length+3<=9223372036854775807/\call qP [u0 k 0,iv 0,iv 3] m o λr s t=>qc r (λu=>∃v,u=u3 v/\(q++[32,61,32]).length+v.length<=9223372036854775807/\call qC [u0 k 0,iv n,u3 (q++[32,61,32]++v)] s t λw x y=>qc w (λz=>K (U1 (u7 [])) x y) (pK K x y)) (pK K s t)) (K (U1 (u7 [])) m o)) (pK K m o)) (ifB (decide (j=5)) (call Zw [u0 k 0,iv 1] g h λl m o=>qc l (λp=>∃q,p=u3 q/\ifB (!q==[]) (q.length+3<=9223372036854775807/\call qP [u0 k 0,iv 1,iv 2] m o λr s t=>qc r (λu=>∃v,u=u3 v/\(q++[32,61,32]).length+v.length<=9223372036854775807/\call qC [u0 k 0,iv n,u3 (q++[32,61,32]++v)] s t λw x y=>qc w (λz=>K (U1 (u7 [])) x y) (pK K x y)) (pK K s t)) (K (U1 (u7 [])) m o)) (pK K m o)) (ifB (decide (j=6)) (call qO [u0 k 0,iv 3] g h λl m o=>qc l (λp=>∃q:Int,p=iv q/\call qP [u0 k 0,iv q,iv 2] m o λr s t=>qc r (λu=>∃v,u=u3 v/\6+v.length<=9223372036854775807/\([112,114,105,110,116,40]++v).length+1<=9223372036854775807/\call qC [u0 k 0,iv n,u3 ([112,114,105,110,116,40]++v++[41])] s t λw x y=>qc w (λz=>K (U1 (u7 [])) x y) (pK K x y)) (pK K s t)) (pK K m o)) (ifB (decide (j=7)) (ifB (decide (d<=0)) (K (U1 (u7 [])) g h) (call qP [u0 k 0,iv 1,iv 2] g h λl m o=>qc l (λp=>∃q,p=u3 q/\3+q.length<=9223372036854775807/\([105,102,32]++q).length+2<=9223372036854775807/\call qC [u0 k 0,iv n,u3 ([105,102,32]++q++[32,123])] m o λr s t=>qc r (λu=>call jR [u0 k 0,iv (i64.wrap (n+1)),iv (i64.wrap (d - 1))] s t λv w x=>qc v (λy=>call qO [u0 k 0,iv 2] w x λz A B=>qc z (λC=>∃D:Int,C=iv D/\ifB (decide (D=0)) (call qC [u0 k 0,iv n,u3 [125,32,101,108,115,101,32,123]] A B λE F G=>qc E (λI=>call jR [u0 k 0,iv (i64.wrap (n+1)),iv (i64.wrap (d - 1))] F G λJ L M=>qc J (λN=>call qC [u0 k 0,iv n,u3 [125]] L M λO P Q=>qc O (λR=>K (U1 (u7 [])) P Q) (pK K P Q)) (pK K L M)) (pK K F G)) (call 11 [u0 k 0,iv n,u3 [125]] A B λE F G=>qc E (λI=>K (U1 (u7 [])) F G) (pK K F G))) (pK K A B)) (pK K w x)) (pK K s t)) (pK K m o))) (ifB (decide (j=8)) (ifB (decide (d<=0)) (K (U1 (u7 [])) g h) (call qP [u0 k 0,iv 1,iv 2] g h λl m o=>qc l (λp=>∃q,p=u3 q/\3+q.length<=9223372036854775807/\([105,102,32]++q).length+2<=9223372036854775807/\call qC [u0 k 0,iv n,u3 ([105,102,32]++q++[32,123])] m o λr s t=>qc r (λu=>call jR [u0 k 0,iv (i64.wrap (n+1)),iv (i64.wrap (d - 1))] s t λv w x=>qc v (λy=>call qO [u0 k 0,iv 2] w x λz A B=>qc z (λC=>∃D:Int,C=iv D/\ifB (decide (D=0)) (call 11 [u0 k 0,iv n,u3 [125,32,101,108,115,101,32,123]] A B λE F G=>qc E (λI=>call jR [u0 k 0,iv (i64.wrap (n+1)),iv (i64.wrap (d - 1))] F G λJ L M=>qc J (λN=>call qC [u0 k 0,iv n,u3 [125]] L M λO P Q=>qc O (λR=>K (U1 (u7 [])) P Q) (pK K P Q)) (pK K L M)) (pK K F G)) (call 11 [u0 k 0,iv n,u3 [125]] A B λE F G=>qc E (λI=>K (U1 (u7 [])) F G) (pK K F G))) (pK K A B)) (pK K w x)) (pK K s t)) (pK K m o))) (ifB (decide (j=9)) (call yD [u0 k 0,iv n,iv d] g h λl m o=>qc l (λp=>K (U1 (u7 [])) m o) (pK K m o)) (ifB (decide (j=10)) (call yD [u0 k 0,iv n,iv d] g h λl m o=>qc l (λp=>K (U1 (u7 [])) m o) (pK K m o)) (ifB (decide (j=11)) (call qP [u0 k 0,iv 3,iv 1] g h λl m o=>qc l (λp=>∃q,p=u3 q/\q.length+1<=9223372036854775807/\call qP [u0 k 0,iv 0,iv 2] m o λr s t=>qc r (λu=>∃v,u=u3 v/\(q++[91]).length+v.length<=9223372036854775807/\(q++[91]++v).length+4<=9223372036854775807/\call qP [u0 k 0,iv 0,iv 2] s t λw x y=>qc w (λz=>∃A,z=u3 A/\(q++[91]++v++[93,32,61,32]).length+A.length<=9223372036854775807/\call qC [u0 k 0,iv n,u3 (q++[91]++v++[93,32,61,32]++A)] x y λB C D=>qc B (λE=>K (U1 (u7 [])) C D) (pK K C D)) (pK K x y)) (pK K s t)) (pK K m o)) (ifB (decide (j=12)) (call qO [u0 k 0,iv 5] g h λl m o=>qc l (λp=>∃q:Int,p=iv q/\ifB (decide (q=0)) (call qP [u0 k 0,iv 4,iv 1] m o λr s t=>qc r (λu=>∃v,u=u3 v/\v.length+5<=9223372036854775807/\call qP [u0 k 0,iv 0,iv 2] s t λw x y=>qc w (λz=>∃A,z=u3 A/\(v++[46,97,32,61,32]).length+A.length<=9223372036854775807/\call qC [u0 k 0,iv n,u3 (v++[46,97,32,61,32]++A)] x y λB C D=>qc B (λE=>K (U1 (u7 [])) C D) (pK K C D)) (pK K x y)) (pK K s t)) (ifB (decide (q=1)) (call qP [u0 k 0,iv 4,iv 1] m o λr s t=>qc r (λu=>∃v,u=u3 v/\v.length+5<=9223372036854775807/\call qP [u0 k 0,iv 4,iv 1] s t λw x y=>qc w (λz=>∃A,z=u3 A/\(v++[46,110,32,61,32]).length+A.length<=9223372036854775807/\call qC [u0 k 0,iv n,u3 (v++[46,110,32,61,32]++A)] x y λB C D=>qc B (λE=>K (U1 (u7 [])) C D) (pK K C D)) (pK K x y)) (pK K s t)) (ifB (decide (q=2)) (call qP [u0 k 0,iv 4,iv 1] m o λr s t=>qc r (λu=>∃v,u=u3 v/\v.length+5<=9223372036854775807/\call qP [u0 k 0,iv 6,iv 1] s t λw x y=>qc w (λz=>∃A,z=u3 A/\(v++[46,105,32,61,32]).length+A.length<=9223372036854775807/\call qC [u0 k 0,iv n,u3 (v++[46,105,32,61,32]++A)] x y λB C D=>qc B (λE=>K (U1 (u7 [])) C D) (pK K C D)) (pK K x y)) (pK K s t)) (ifB (decide (q=3)) (call 30 [u0 k 0,iv 5,iv 1] m o λr s t=>qc r (λu=>∃v,u=u3 v/\v.length+5<=9223372036854775807/\call qP [u0 k 0,iv 3,iv 1] s t λw x y=>qc w (λz=>∃A,z=u3 A/\(v++[46,115,32,61,32]).length+A.length<=9223372036854775807/\call 11 [u0 k 0,iv n,u3 (v++[46,115,32,61,32]++A)] x y λB C D=>qc B (λE=>K (U1 (u7 [])) C D) (pK K C D)) (pK K x y)) (pK K s t)) (call qP [u0 k 0,iv 5,iv 1] m o λr s t=>qc r (λu=>∃v,u=u3 v/\v.length+5<=9223372036854775807/\call qP [u0 k 0,iv 0,iv 2] s t λw x y=>qc w (λz=>∃A,z=u3 A/\(v++[46,120,32,61,32]).length+A.length<=9223372036854775807/\call qC [u0 k 0,iv n,u3 (v++[46,120,32,61,32]++A)] x y λB C D=>qc B (λE=>K (U1 (u7 [])) C D) (pK K C D)) (pK K x y)) (pK K s t)))))) (pK K m o)) (ifB (decide (j=13)) (Tt/\∃l,sP k 8 l/\∃m,ld1 g l=some (u5 m)/\ifB m (call qP [u0 k 0,iv 6,iv 1] g h λo p q=>qc o (λr=>∃s,r=u3 s/\s.length+5<=9223372036854775807/\call qP [u0 k 0,iv 0,iv 1] p q λt u v=>qc t (λw=>∃x,w=u3 x/\(s++[46,115,101,116,40]).length+x.length<=9223372036854775807/\(s++[46,115,101,116,40]++x).length+1<=9223372036854775807/\call qC [u0 k 0,iv n,u3 (s++[46,115,101,116,40]++x++[41])] u v λy z A=>qc y (λB=>K (U1 (u7 [])) z A) (pK K z A)) (pK K u v)) (pK K p q)) (K (U1 (u7 [])) g h)) (Tt/\∃l,sP k 4 l/\∃m:Int,ld1 g l=some (iv m)/\ifB (decide (0<m)) (call qO [u0 k 0,iv 3] g h λo p q=>qc o (λr=>∃s:Int,r=iv s/\ifB (decide (s=0)) (call qP [u0 k 0,iv 1,iv 1] p q λt u v=>qc t (λw=>∃x,w=u3 x/\3+x.length<=9223372036854775807/\([105,102,32]++x).length+2<=9223372036854775807/\call qC [u0 k 0,iv n,u3 ([105,102,32]++x++[32,123])] u v λy z A=>qc y (λB=>Tt/\Tt/\call qO [u0 k 0,iv 2] z A λC D E=>qc C (λF=>∃G:Int,F=iv G/\0<=G/\G.toNat<2/\∃I,jM PG kV [u3 [98,114,101,97,107],u3 [99,111,110,116,105,110,117,101]] (G.toNat*1)=some (u3 I)/\call qC [u0 k 0,iv (i64.wrap (n+1)),u3 I] D E λJ L M=>qc J (λN=>call qC [u0 k 0,iv n,u3 [125]] L M λO P Q=>qc O (λR=>K (U1 (u7 [])) P Q) (pK K P Q)) (pK K L M)) (pK K D E)) (pK K z A)) (pK K u v)) (call qO [u0 k 0,iv 6] p q λt u v=>qc t (λw=>∃x:Int,w=iv x/\ifB (decide (x=0)) (Tt/\∃y,sP k 7 y/\∃z:Int,ld1 u y=some (iv z)/\ifB (decide (0<=z)) (call qP [u0 k 0,iv 1,iv 1] u v λA B C=>qc A (λD=>∃E,D=u3 E/\3+E.length<=9223372036854775807/\([105,102,32]++E).length+2<=9223372036854775807/\call qC [u0 k 0,iv n,u3 ([105,102,32]++E++[32,123])] B C λF G I=>qc F (λJ=>Tt/\∃L,sP k 7 L/\∃M:Int,ld1 G L=some (iv M)/\call qP [u0 k 0,iv M,iv 2] G I λN O P=>qc N (λQ=>∃R,Q=u3 R/\7+R.length<=9223372036854775807/\call qC [u0 k 0,iv (i64.wrap (n+1)),u3 ([114,101,116,117,114,110,32]++R)] O P λS T U=>qc S (λV=>call qC [u0 k 0,iv n,u3 [125]] T U λW X Y=>qc W (λZ=>K (U1 (u7 [])) X Y) (pK K X Y)) (pK K T U)) (pK K O P)) (pK K G I)) (pK K B C)) (call qC [u0 k 0,iv n,u3 [112,114,105,110,116,40,105,110,112,117,116,40,41,41]] u v λA B C=>qc A (λD=>K (U1 (u7 [])) B C) (pK K B C))) (call qC [u0 k 0,iv n,u3 [112,114,105,110,116,40,105,110,112,117,116,40,41,41]] u v λy z A=>qc y (λB=>K (U1 (u7 [])) z A) (pK K z A))) (pK K u v))) (pK K p q)) (call qO [u0 k 0,iv 6] g h λo p q=>qc o (λr=>∃s:Int,r=iv s/\ifB (decide (s=0)) (Tt/\∃t,sP k 7 t/\∃u:Int,ld1 p t=some (iv u)/\ifB (decide (0<=u)) (call qP [u0 k 0,iv 1,iv 1] p q λv w x=>qc v (λy=>∃z,y=u3 z/\3+z.length<=9223372036854775807/\([105,102,32]++z).length+2<=9223372036854775807/\call qC [u0 k 0,iv n,u3 ([105,102,32]++z++[32,123])] w x λA B C=>qc A (λD=>Tt/\∃E,sP k 7 E/\∃F:Int,ld1 B E=some (iv F)/\call qP [u0 k 0,iv F,iv 2] B C λG I J=>qc G (λL=>∃M,L=u3 M/\7+M.length<=9223372036854775807/\call qC [u0 k 0,iv (i64.wrap (n+1)),u3 ([114,101,116,117,114,110,32]++M)] I J λN O P=>qc N (λQ=>call qC [u0 k 0,iv n,u3 [125]] O P λR S T=>qc R (λU=>K (U1 (u7 [])) S T) (pK K S T)) (pK K O P)) (pK K I J)) (pK K B C)) (pK K w x)) (call qC [u0 k 0,iv n,u3 [112,114,105,110,116,40,105,110,112,117,116,40,41,41]] p q λv w x=>qc v (λy=>K (U1 (u7 [])) w x) (pK K w x))) (call qC [u0 k 0,iv n,u3 [112,114,105,110,116,40,105,110,112,117,116,40,41,41]] p q λt u v=>qc t (λw=>K (U1 (u7 [])) u v) (pK K u v))) (pK K p q))))))))))))))))) (pK K g h)))):=by kernel_rfl
theorem YV(k:Nat)(n:Int)(d:Int)(H:qd)(nx:Nat)(K:qv):qD PG call lp yD [u0 k 0,iv n,iv d] H nx (qy PG lv lvc K)=
 (ifB (decide (d<=0)) (K (U1 (u7 [])) H nx) (Tt/\∃a,sP k 3 a/\∃b:Int,ld1 H a=some (iv b)/\call kl [iv b] H nx λc e f=>qc c (λg=>∃h,g=u3 h/\1+h.length<=9223372036854775807/\Tt/\∃i,sP k 3 i/\∃j:Int,ld1 e i=some (iv j)/\Tt/\∃l,sP k 3 l/\Tt/\∃m,stC e l [iv (i64.wrap (j+1))]=some m/\∃o,o=qo f [] m/\Tt/\∃p,sP k 2 p/\∃q,ld1 o p=some q/\∃r s,zJ 1 o q=some (r,s)/\qq s=true/\∃t u v,zt o (f+1) 1 24 (qa.slice f 0 0 1 true) r s=some (t,u,v)/\([118]++h).length+5<=9223372036854775807/\call qC [u0 k 0,iv n,u3 ([118]++h++[32,58,61,32,48])] u v λw x y=>qc w (λz=>Tt/\∃A,sP k 2 A/\∃B,ld1 x A=some B/\∃C,C=qo (y+4) [] x/\Tt/\∃D,sP k 2 D/\∃E,ld1 C D=some E/\(0:Int)<=0/\∃F,zq E 0 1=some F/\∃G,ld1 C F=some G/\Tt/\∃I,I=qo (y+13) [u3 ([118]++h)] C/\((∃J,ld1 I A=some J/\J=B)/\(∃J,ld1 I D=some J/\J=E)/\(∃J,ld1 I F=some J/\J=G)/\True)/\∃J L,zJ 1 I G=some (J,L)/\qq L=true/\∃M N O,zt I (y+17) 1 16 (qa.slice (y+4) 0 0 1 true) J L=some (M,N,O)/\((∃P,ld1 N A=some P/\P=B)/\True)/\∃P Q,zJ 1 N (qa.slice (y+13) 0 1 1 true)=some (P,Q)/\qq Q=true/\∃R S T,zt N O 1 16 M P Q=some (R,S,T)/\(0:Int)<=0/\∃U,zq B 0 1=some U/\((∃V,ld1 S A=some V/\V=B)/\True)/\qI R=true/\∃V,stC S U [R]=some V/\True/\call qO [u0 k 0,iv 9] V T λW X Y=>qc W (λZ=>∃a0:Int,Z=iv a0/\ifB (decide (a0=0)) (call qP [u0 k 0,iv 1,iv 2] X Y λa1 a2 a3=>qc a1 (λa4=>∃a5,a4=u3 a5/\4+a5.length<=9223372036854775807/\([102,111,114,32]++a5).length+2<=9223372036854775807/\call qC [u0 k 0,iv n,u3 ([102,111,114,32]++a5++[32,123])] a2 a3 λa6 a7 a8=>qc a6 (λa9=>([118]++h).length+3<=9223372036854775807/\([118]++h++[32,61,32]).length+([118]++h).length<=9223372036854775807/\([118]++h++[32,61,32]++([118]++h)).length+4<=9223372036854775807/\call qC [u0 k 0,iv (i64.wrap (n+1)),u3 ([118]++h++[32,61,32]++([118]++h)++[32,43,32,49])] a7 a8 λb0 b1 b2=>qc b0 (λb3=>Tt/\∃b4,sP k 4 b4/\∃b5:Int,ld1 b1 b4=some (iv b5)/\Tt/\∃b6,sP k 4 b6/\Tt/\∃b7,stC b1 b6 [iv (i64.wrap (b5+1))]=some b7/\call jR [u0 k 0,iv (i64.wrap (n+1)),iv (i64.wrap (d - 1))] b7 b2 λb8 b9 c0=>qc b8 (λc1=>Tt/\∃c2,sP k 4 c2/\∃c3:Int,ld1 b9 c2=some (iv c3)/\Tt/\∃c4,sP k 4 c4/\Tt/\∃c5,stC b9 c4 [iv (i64.wrap (c3 - 1))]=some c5/\call qC [u0 k 0,iv n,u3 [125]] c5 c0 λc6 c7 c8=>qc c6 (λc9=>Tt/\∃d0,sP k 2 d0/\qI t=true/\∃d1,stC c7 d0 [t]=some d1/\K (U1 (u7 [])) d1 c8) (pK K c7 c8)) (pK K b9 c0)) (pK K b1 b2)) (pK K a7 a8)) (pK K a2 a3)) (4+([118]++h).length<=9223372036854775807/\([102,111,114,32]++([118]++h)).length+3<=9223372036854775807/\Tt/\Tt/\Tt/\Tt/\call qO [u0 k 0,iv 4] X Y λa1 a2 a3=>qc a1 (λa4=>∃a5:Int,a4=iv a5/\0<=a5/\a5.toNat<4/\∃a6,jM PG kV [u3 [51],u3 [49,48],u3 [50,48],u3 [52,48]] (a5.toNat*1)=some (u3 a6)/\([102,111,114,32]++([118]++h)++[32,60,32]).length+a6.length<=9223372036854775807/\([102,111,114,32]++([118]++h)++[32,60,32]++a6).length+2<=9223372036854775807/\call qC [u0 k 0,iv n,u3 ([102,111,114,32]++([118]++h)++[32,60,32]++a6++[32,123])] a2 a3 λa7 a8 a9=>qc a7 (λb0=>([118]++h).length+3<=9223372036854775807/\([118]++h++[32,61,32]).length+([118]++h).length<=9223372036854775807/\([118]++h++[32,61,32]++([118]++h)).length+4<=9223372036854775807/\call qC [u0 k 0,iv (i64.wrap (n+1)),u3 ([118]++h++[32,61,32]++([118]++h)++[32,43,32,49])] a8 a9 λb1 b2 b3=>qc b1 (λb4=>Tt/\∃b5,sP k 4 b5/\∃b6:Int,ld1 b2 b5=some (iv b6)/\Tt/\∃b7,sP k 4 b7/\Tt/\∃b8,stC b2 b7 [iv (i64.wrap (b6+1))]=some b8/\call 29 [u0 k 0,iv (i64.wrap (n+1)),iv (i64.wrap (d - 1))] b8 b3 λb9 c0 c1=>qc b9 (λc2=>Tt/\∃c3,sP k 4 c3/\∃c4:Int,ld1 c0 c3=some (iv c4)/\Tt/\∃c5,sP k 4 c5/\Tt/\∃c6,stC c0 c5 [iv (i64.wrap (c4 - 1))]=some c6/\call qC [u0 k 0,iv n,u3 [125]] c6 c1 λc7 c8 c9=>qc c7 (λd0=>Tt/\∃d1,sP k 2 d1/\qI t=true/\∃d2,stC c8 d1 [t]=some d2/\K (U1 (u7 [])) d2 c9) (pK K c8 c9)) (pK K c0 c1)) (pK K b2 b3)) (pK K a8 a9)) (pK K a2 a3))) (pK K X Y)) (pK K x y)) (pK K e f))):=by kernel_rfl
theorem qfk(k:Nat)(h:List UInt8)(ps:qa)(ts:qa)(r:Int)(d:Int)(c:Bool)(H:qd)(nx:Nat)(K:qv):qD PG call lp Qa [u0 k 0,u3 h,ps,ts,iv r,iv d,u5 c] H nx (qy PG lv lvc K)=
 ((7:Int)=7/\(0:Int)<=7/\(7:Nat)<=9223372036854775807/\(168:Nat)<=140737488355328/\(7:Nat)<=9223372036854775807/\∃a,a=qo nx [u6,u6,u6,u6,u6,u6,u6] H/\Tt/\∃b,sP k 2 b/\Tt/\∃e,stC a b [qa.slice nx 0 7 1 true]=some e/\Tt/\∃f,sP k 3 f/\Tt/\∃g,stC e f [iv 0]=some g/\Tt/\∃i,sP k 5 i/\Tt/\∃j,stC g i [iv 0]=some j/\Tt/\∃l,sP k 7 l/\Tt/\∃m,stC j l [iv r]=some m/\Tt/\∃n,sP k 8 n/\Tt/\∃o,stC m n [u5 c]=some o/\lp 96 (qn (qe PG 12) [1,1,1,1,1,0,1,0,0]) (qj (u7 []) [(14,iv 0),(32,n),(31,u0 k 0),(30,u5 c),(29,u0 k 0),(28,l),(27,u0 k 0),(26,iv r),(25,u0 k 0),(24,i),(23,u0 k 0),(22,u0 k 0),(21,f),(20,u0 k 0),(19,u0 k 0),(18,b),(17,u0 k 0),(16,qa.slice nx 0 7 1 true),(15,u0 k 0),(6,u5 c),(5,iv d),(4,iv r),(3,ts),(2,ps),(1,u3 h),(0,u0 k 0)]) o (nx+1) [] none (qx PG call (lp 96) 96 (qe PG 12) [1,1,1,1,1,0,1,0] (qy PG lv lvc K (qF PG 12)))):=by kernel_rfl
theorem qci(raw:qa)(H:qd)(nx:Nat)(K:qv):qD PG call lp ZR [raw] H nx (qy PG lv lvc K)=
 ((7:Int)=7/\(0:Int)<=7/\(7:Nat)<=9223372036854775807/\(168:Nat)<=140737488355328/\(7:Nat)<=9223372036854775807/\∃a,a=qo nx [u6,u6,u6,u6,u6,u6,u6] H/\qI raw=true/\Tt/\Tt/\∃b,b=newBN (nx+1) [raw,iv 0,qa.slice nx 0 7 1 true,iv 0,iv 0,iv 0,u3 [],iv (-1),u5 false].length [raw,iv 0,qa.slice nx 0 7 1 true,iv 0,iv 0,iv 0,u3 [],iv (-1),u5 false] a/\call 11 [u0 (nx+1) 0,iv 0,u3 [116,121,112,101,32,80,32,115,116,114,117,99,116,32,123]] b (nx+1+1) λc d e=>qc c (λf=>Tt/\∃g,sP (nx+1) 6 g/\∃h,ld1 d g=some (u3 h)/\h.length+106<=9223372036854775807/\Tt/\∃i,sP (nx+1) 6 i/\Tt/\∃j,stC d i [u3 (h++[9,97,32,105,110,116,10,9,98,32,98,111,111,108,10,9,110,32,80,10,9,105,32,73,10,125,10,116,121,112,101,32,81,32,115,116,114,117,99,116,32,123,10,9,120,32,105,110,116,10,9,115,32,91,93,105,110,116,10,125,10,116,121,112,101,32,73,32,105,110,116,101,114,102,97,99,101,32,123,10,9,103,101,116,40,105,110,116,41,32,105,110,116,10,9,115,101,116,40,105,110,116,41,10,125,10])]=some j/\call 12 [u0 (nx+1) 0,u3 [102,117,110,99,32,109,97,105,110,40,41],u6,u6,iv (-1),iv 3,u5 true] j e λk l m=>qc k (λn=>Tt/\Tt/\∃o,o=qo m [u3 [97],u3 [98]] l/\Tt/\Tt/\∃p,p=qo (m+1) [iv 0,iv 0] o/\call 13 [u0 (nx+1) 0,iv 4] p (m+1+1) λq r s=>qc q (λt=>∃u:Int,t=iv u/\call Qa [u0 (nx+1) 0,u3 [102,117,110,99,32,102,40,97,32,105,110,116,44,32,98,32,105,110,116,41,32,105,110,116],qa.slice m 0 2 1 true,qa.slice (m+1) 0 2 1 true,iv 0,iv 2,u5 (decide (u=0))] r s λv w x=>qc v (λy=>Tt/\∃z,z=qo x [u3 [112]] w/\Tt/\∃A,A=qo (x+1) [iv 4] z/\call 13 [u0 (nx+1) 0,iv 6] A (x+1+1) λB C D=>qc B (λE=>∃F:Int,E=iv F/\call Qa [u0 (nx+1) 0,u3 [102,117,110,99,32,104,40,112,32,80,41,32,80],qa.slice x 0 1 1 true,qa.slice (x+1) 0 1 1 true,iv 4,iv 1,u5 (decide (F=0))] C D λG I J=>qc G (λL=>Tt/\Tt/\∃M,M=qo J [u3 [112],u3 [97]] I/\Tt/\Tt/\∃N,N=qo (J+1) [iv 4,iv 0] M/\call 12 [u0 (nx+1) 0,u3 [102,117,110,99,32,40,112,32,80,41,32,103,101,116,40,97,32,105,110,116,41,32,105,110,116],qa.slice J 0 2 1 true,qa.slice (J+1) 0 2 1 true,iv 0,iv 1,u5 false] N (J+1+1) λO P Q=>qc O (λR=>Tt/\Tt/\∃S,S=qo Q [u3 [112],u3 [97]] P/\Tt/\Tt/\∃T,T=qo (Q+1) [iv 4,iv 0] S/\call Qa [u0 (nx+1) 0,u3 [102,117,110,99,32,40,112,32,80,41,32,115,101,116,40,97,32,105,110,116,41],qa.slice Q 0 2 1 true,qa.slice (Q+1) 0 2 1 true,iv (-1),iv 1,u5 false] T (Q+1+1) λU V W=>qc U (λX=>Tt/\Tt/\∃Y,Y=qo W [u3 [113],u3 [97]] V/\Tt/\Tt/\∃Z,Z=qo (W+1) [iv 5,iv 0] Y/\call qO [u0 (nx+1) 0,iv 3] Z (W+1+1) λa0 a1 a2=>qc a0 (λa3=>∃a4:Int,a3=iv a4/\call Qa [u0 (nx+1) 0,u3 [102,117,110,99,32,40,113,32,81,41,32,103,101,116,40,97,32,105,110,116,41,32,105,110,116],qa.slice W 0 2 1 true,qa.slice (W+1) 0 2 1 true,iv 0,iv 1,u5 (decide (a4=0))] a1 a2 λa5 a6 a7=>qc a5 (λa8=>Tt/\Tt/\∃a9,a9=qo a7 [u3 [113],u3 [97]] a6/\Tt/\Tt/\∃b0,b0=qo (a7+1) [iv 5,iv 0] a9/\call Qa [u0 (nx+1) 0,u3 [102,117,110,99,32,40,113,32,81,41,32,115,101,116,40,97,32,105,110,116,41],qa.slice a7 0 2 1 true,qa.slice (a7+1) 0 2 1 true,iv (-1),iv 1,u5 false] b0 (a7+1+1) λb1 b2 b3=>qc b1 (λb4=>Tt/\∃b5,sP (nx+1) 6 b5/\∃b6,ld1 b2 b5=some (u3 b6)/\K (U1 (u3 b6)) b2 b3) (pK K b2 b3)) (pK K a6 a7)) (pK K a1 a2)) (pK K V W)) (pK K P Q)) (pK K I J)) (pK K C D)) (pK K w x)) (pK K r s)) (pK K l m)) (pK K d e)):=by kernel_rfl
theorem qcf(raw:qa)(how:qa)(H:qd)(nx:Nat)(K:qv):qD PG call lp QN [raw,how] H nx (qy PG lv lvc K)=
 (call ZR [raw] H nx λa b c=>qc a (λd=>∃e,d=u3 e/\lp 118 (qn (qe PG 7) [1,1,0,1,0,0]) (qj (u7 []) [(6,iv 0),(5,u3 e),(9,u3 e),(8,raw),(4,u3 []),(1,how),(0,raw)]) b c [] none (qx PG call (lp 118) 118 (qe PG 7) [1,1,0,1,0] (qy PG lv lvc K (qF PG 7)))) (pK K b c)):=by kernel_rfl
theorem qcn(n:Int)(m:Int)(H:qd)(nx:Nat)(K:qv):qD PG call lp wL [iv n,iv m] H nx (qy PG lv lvc K)=
 (m≠0/\ifB (decide (n.tmod m<0)) (K (U1 (iv (i64.wrap (n.tmod m+m)))) H nx) (K (U1 (iv (n.tmod m))) H nx)):=by kernel_rfl
theorem ZQ(n:Int)(H:qd)(nx:Nat)(K:qv):qD PG call lp kl [iv n] H nx (qy PG lv lvc K)=
 (ifB (decide (n<10)) (∃a:Int,some (Bool.rec (Bool.rec 0 n (ilt n 0)) (Bool.rec 0 n (ilt 0 n)) true)=some a/\Tt/\∃b,b=qo nx [qa.int IntKind.u8 (IntKind.u8.wrap (i64.wrap (48+a)))] H/\∃c,Zq b (qa.slice nx 0 1 1 true)=some c/\K (U1 (u3 c)) b (nx+1)) ((10:Int)≠0/\call kl [iv (i64.wrap (n.tdiv 10))] H nx λa b c=>qc a (λd=>∃e,d=u3 e/\(10:Int)≠0/\call kl [iv (n.tmod 10)] b c λf g h=>qc f (λi=>∃j,i=u3 j/\e.length+j.length<=9223372036854775807/\K (U1 (u3 (e++j))) g h) (pK K g h)) (pK K b c))):=by kernel_rfl
theorem qij(k:Nat)(n:Int)(i:Int)(s:List UInt8)(H:qd)(nx:Nat):vK PG call (lp 15) 15 (qn (qe PG 28) [1,1,0,1,0,0]) (qj .und [(6,iv i),(5,u3 s),(1,iv n),(0,u0 k 0)]) H nx [] none (qW [0,1,5,6] (qV N X R Pn))=
 (ifB (decide (i<n)) (s.length+1<=9223372036854775807/\N (qj u9 [(0,u0 k 0),(1,iv n),(5,u3 (s++[9])),(6,iv (i64.wrap (i+1)))]) H nx [] none) (X 0 (qj u9 [(0,u0 k 0),(1,iv n),(5,u3 s),(6,iv i)]) H nx [] none)):=by kernel_rfl
theorem qje(k:Nat)(n:Int)(i:Int)(s:List UInt8)(H:qd)(nx:Nat)(K:qv):qx PG call (lp 15) 15 (qe PG 28) [1,1,0,1,0] (qy PG lv lvc K (qF PG 28)) (.exit 0) (qj .und [(6,iv i),(5,u3 s),(1,iv n),(0,u0 k 0)]) H nx [] none=
 (K (U1 (u3 s)) H nx):=by kernel_rfl
theorem qlj(k:Nat)(n:Int)(d:Int)(i:Int)(w:qa)(H:qd)(nx:Nat):vK PG call (lp 29) 29 (qn (qe PG 29) [1,0,1,0,0]) (qj .und [(7,iv i),(6,w),(2,iv d),(1,iv n),(0,u0 k 0)]) H nx [] none (qW [0,1,2,6,7] (qV N X R Pn))=
 (ifB (decide (0<i)) (call J0 [u0 k 0,iv n,iv d] H nx λa b c=>qc a (λe=>N (qj u9 [(0,u0 k 0),(1,iv n),(2,iv d),(6,w),(7,iv (i64.wrap (i - 1)))]) b c [] none) λe=>Pn e (qj u9 [(0,u0 k 0),(1,iv n),(2,iv d),(6,w),(7,iv i)]) b c [] none) (X 0 (qj u9 [(0,u0 k 0),(1,iv n),(2,iv d),(6,w),(7,iv i)]) H nx [] none)):=by kernel_rfl
theorem qmd(k:Nat)(n:Int)(d:Int)(i:Int)(w:qa)(H:qd)(nx:Nat)(K:qv):qx PG call (lp 29) 29 (qe PG 29) [1,0,1,0] (qy PG lv lvc K (qF PG 29)) (.exit 0) (qj .und [(7,iv i),(6,w),(2,iv d),(1,iv n),(0,u0 k 0)]) H nx [] none=
 (Tt/\∃a,sP k 2 a/\qI w=true/\∃b,stC H a [w]=some b/\K (U1 (u7 [])) b nx):=by kernel_rfl
theorem qn7(k:Nat)(h:List UInt8)(ps:qa)(ts:qa)(r:Int)(d:Int)(i:Int)(H:qd)(nx:Nat):vK PG call (lp 96) 96 (qn (qe PG 12) [1,1,1,1,1,0,1,0,0]) (qj .und [(14,iv i),(5,iv d),(4,iv r),(3,ts),(2,ps),(1,u3 h),(0,u0 k 0)]) H nx [] none (qW [0,1,2,3,4,5,14] (qV N X R Pn))=
 (∃a,kI ps=some a/\ifB (decide (i<Int.ofNat a)) (Tt/\∃b,sP k 2 b/\∃c,ld1 H b=some c/\0<=i/\∃e,zq ts i.toNat 1=some e/\∃f:Int,ld1 H e=some (iv f)/\Tt/\∃g,sP k 2 g/\∃j,ld1 H g=some j/\0<=i/\∃l,zq ts i.toNat 1=some l/\∃m:Int,ld1 H l=some (iv m)/\0<=m/\∃n,zq j m.toNat 1=some n/\∃o,ld1 H n=some o/\0<=i/\∃p,zq ps i.toNat 1=some p/\∃q,ld1 H p=some (u3 q)/\Tt/\∃s,s=qo (nx+22) [u3 q] H/\((∃t,ld1 s b=some t/\t=c)/\(∃t:Int,ld1 s e=some (iv t)/\iv t=iv f)/\(∃t,ld1 s g=some t/\t=j)/\(∃t:Int,ld1 s l=some (iv t)/\iv t=iv m)/\(∃t,ld1 s n=some t/\t=o)/\(∃t,ld1 s p=some (u3 t)/\u3 t=u3 q)/\True)/\∃t u,zJ 1 s (qa.slice (nx+22) 0 1 1 true)=some (t,u)/\qq u=true/\∃v w x,zt s (nx+26) 1 16 o t u=some (v,w,x)/\0<=f/\∃y,zq c f.toNat 1=some y/\((∃z,ld1 w b=some z/\z=c)/\(∃z:Int,ld1 w e=some (iv z)/\iv z=iv f)/\True)/\qI v=true/\∃z,stC w y [v]=some z/\True/\N (qj u9 [(0,u0 k 0),(1,u3 h),(2,ps),(3,ts),(4,iv r),(5,iv d),(14,iv (i64.wrap (i+1)))]) z x [] none) (X 0 (qj u9 [(0,u0 k 0),(1,u3 h),(2,ps),(3,ts),(4,iv r),(5,iv d),(14,iv i)]) H nx [] none)):=by kernel_rfl
theorem qnc(k:Nat)(h:List UInt8)(ps:qa)(ts:qa)(r:Int)(d:Int)(i:Int)(H:qd)(nx:Nat)(K:qv):qx PG call (lp 96) 96 (qe PG 12) [1,1,1,1,1,0,1,0] (qy PG lv lvc K (qF PG 12)) (.exit 0) (qj .und [(14,iv i),(5,iv d),(4,iv r),(3,ts),(2,ps),(1,u3 h),(0,u0 k 0)]) H nx [] none=
 (h.length+2<=9223372036854775807/\call qC [u0 k 0,iv 0,u3 (h++[32,123])] H nx λa b c=>qc a (λe=>call qC [u0 k 0,iv 1,u3 [118,97,114,32,122,32,73]] b c λf g j=>qc f (λl=>Tt/\∃m,sP k 2 m/\∃n,ld1 g m=some n/\Tt/\∃o,sP k 2 o/\∃p,ld1 g o=some p/\(0:Int)<=6/\∃q,zq p 6 1=some q/\∃s,ld1 g q=some s/\Tt/\∃t,t=qo (j+10) [u3 [122]] g/\((∃u,ld1 t m=some u/\u=n)/\(∃u,ld1 t o=some u/\u=p)/\(∃u,ld1 t q=some u/\u=s)/\True)/\∃u v,zJ 1 t (qa.slice (j+10) 0 1 1 true)=some (u,v)/\qq v=true/\∃w x y,zt t (j+14) 1 16 s u v=some (w,x,y)/\(0:Int)<=6/\∃z,zq n 6 1=some z/\((∃A,ld1 x m=some A/\A=n)/\True)/\qI w=true/\∃A,stC x z [w]=some A/\True/\call jR [u0 k 0,iv 1,iv d] A y λB C D=>qc B (λE=>ifB (decide (0<=r)) (call qP [u0 k 0,iv r,iv 2] C D λF G I=>qc F (λJ=>∃L,J=u3 L/\7+L.length<=9223372036854775807/\call qC [u0 k 0,iv 1,u3 ([114,101,116,117,114,110,32]++L)] G I λM N O=>qc M (λP=>call 11 [u0 k 0,iv 0,u3 [125]] N O λQ R S=>qc Q (λT=>K (U1 (u7 [])) R S) (pK K R S)) (pK K N O)) (pK K G I)) (call qC [u0 k 0,iv 0,u3 [125]] C D λF G I=>qc F (λJ=>K (U1 (u7 [])) G I) (pK K G I))) (pK K C D)) (pK K g j)) (pK K b c)):=by kernel_rfl
theorem qjg(raw:qa)(how:qa)(s:List UInt8)(i:Int)(H:qd)(nx:Nat):vK PG call (lp 118) 118 (qn (qe PG 7) [1,1,0,1,0,0]) (qj .und [(6,iv i),(5,u3 s),(1,how),(0,raw)]) H nx [] none (qW [0,1,4,5,6] (qV N X R Pn))=
 ((λQ=>∃a,kI how=some a/\ifB (decide (i<Int.ofNat a)) (ifB (decide (i<3)) (ifB (decide (Int.ofNat s.length=0)) (R (qj u9 [(0,raw),(1,how),(4,u3 s),(5,u3 s),(6,iv i)]) H nx [] none) (0<=i/\∃b,zq how i.toNat 1=some b/\∃c:Int,ld1 H b=some (iv c)/\(50:Int)≠0/\call wL [iv (i64.wrap (c.tdiv 50)),iv (Int.ofNat s.length)] H nx λd e f=>qc d (λg=>∃h:Int,g=iv h/\0<=i/\∃j,zq how i.toNat 1=some j/\∃k:Int,ld1 e j=some (iv k)/\call wL [iv k,iv 5] e f λl m n=>qc l (λo=>∃p:Int,o=iv p/\ifB (decide (p=0)) (0<=h/\(some h.toNat).getD s.length<=s.length/\0<=(some h.toNat).getD s.length/\0<=i/\∃q,zq how i.toNat 1=some q/\∃r:Int,ld1 m q=some (iv r)/\(7:Int)≠0/\Tt/\∃t,t=qo (n+9) [bv (IntKind.u8.wrap (i64.wrap (r.tdiv 7)))] m/\∃u,Zq t (qa.slice (n+9) 0 1 1 true)=some u/\(List.take ((some h.toNat).getD s.length - 0) (List.drop 0 s)).length+u.length<=9223372036854775807/\0<=i64.wrap (h+1)/\none.getD s.length<=s.length/\(some (i64.wrap (h+1)).toNat).getD 0<=none.getD s.length/\(List.take ((some h.toNat).getD s.length - 0) (List.drop 0 s)++u).length+(List.take (none.getD s.length - (some (i64.wrap (h+1)).toNat).getD 0) (List.drop ((some (i64.wrap (h+1)).toNat).getD 0) s)).length<=9223372036854775807/\((0<=h/\(some h.toNat).getD s.length<=s.length/\0<=(some h.toNat).getD s.length/\u3 (List.take ((some h.toNat).getD s.length - 0) (List.drop 0 s))=u3 (List.take ((some h.toNat).getD s.length - 0) (List.drop 0 s)))/\(∃v:Int,ld1 t q=some (iv v)/\iv v=iv r)/\bv (IntKind.u8.wrap (i64.wrap (r.tdiv 7)))=bv (IntKind.u8.wrap (i64.wrap (r.tdiv 7)))/\(∃v,Zq t (qa.slice (n+9) 0 1 1 true)=some v/\u3 v=u3 u)/\(0<=i64.wrap (h+1)/\none.getD s.length<=s.length/\(some (i64.wrap (h+1)).toNat).getD 0<=none.getD s.length/\u3 (List.take (none.getD s.length - (some (i64.wrap (h+1)).toNat).getD 0) (List.drop ((some (i64.wrap (h+1)).toNat).getD 0) s))=u3 (List.take (none.getD s.length - (some (i64.wrap (h+1)).toNat).getD 0) (List.drop ((some (i64.wrap (h+1)).toNat).getD 0) s)))/\True)/\N (qj u9 [(0,raw),(1,how),(4,u9),(5,u3 (List.take ((some h.toNat).getD s.length - 0) (List.drop 0 s)++u++List.take (none.getD s.length - (some (i64.wrap (h+1)).toNat).getD 0) (List.drop ((some (i64.wrap (h+1)).toNat).getD 0) s))),(6,iv (i64.wrap (i+1)))]) t (n+17) [] none) (ifB (decide (p=1)) (0<=h/\(some h.toNat).getD s.length<=s.length/\0<=(some h.toNat).getD s.length/\(List.take ((some h.toNat).getD s.length - 0) (List.drop 0 s)).length+1<=9223372036854775807/\0<=i/\∃q,zq how i.toNat 1=some q/\∃r:Int,ld1 m q=some (iv r)/\(5:Int)≠0/\0<=h/\none.getD s.length<=s.length/\(some h.toNat).getD 0<=none.getD s.length/\((0<=h/\(some h.toNat).getD s.length<=s.length/\0<=(some h.toNat).getD s.length/\u3 (List.take ((some h.toNat).getD s.length - 0) (List.drop 0 s))=u3 (List.take ((some h.toNat).getD s.length - 0) (List.drop 0 s)))/\(∃t:Int,ld1 m q=some (iv t)/\iv t=iv r)/\(0<=h/\none.getD s.length<=s.length/\(some h.toNat).getD 0<=none.getD s.length/\u3 (List.take (none.getD s.length - (some h.toNat).getD 0) (List.drop ((some h.toNat).getD 0) s))=u3 (List.take (none.getD s.length - (some h.toNat).getD 0) (List.drop ((some h.toNat).getD 0) s)))/\True)/\call 14 [iv (i64.wrap (r.tdiv 5)),iv 44] m (n+18) λt u v=>qc t (λw=>∃x:Int,w=iv x/\0<=x/\x.toNat<44/\∃y,some (qa.gptr 0 (0+x.toNat*1))=some y/\∃z,ld1 u y=some (u3 z)/\(List.take ((some h.toNat).getD s.length - 0) (List.drop 0 s)++[32]).length+z.length<=9223372036854775807/\(List.take ((some h.toNat).getD s.length - 0) (List.drop 0 s)++[32]++z).length+1<=9223372036854775807/\(List.take ((some h.toNat).getD s.length - 0) (List.drop 0 s)++[32]++z++[32]).length+(List.take (none.getD s.length - (some h.toNat).getD 0) (List.drop ((some h.toNat).getD 0) s)).length<=9223372036854775807/\((0<=h/\(some h.toNat).getD s.length<=s.length/\0<=(some h.toNat).getD s.length/\u3 (List.take ((some h.toNat).getD s.length - 0) (List.drop 0 s))=u3 (List.take ((some h.toNat).getD s.length - 0) (List.drop 0 s)))/\(∃A,ld1 u y=some (u3 A)/\u3 A=u3 z)/\(0<=h/\none.getD s.length<=s.length/\(some h.toNat).getD 0<=none.getD s.length/\u3 (List.take (none.getD s.length - (some h.toNat).getD 0) (List.drop ((some h.toNat).getD 0) s))=u3 (List.take (none.getD s.length - (some h.toNat).getD 0) (List.drop ((some h.toNat).getD 0) s)))/\True)/\N (qj u9 [(0,raw),(1,how),(4,u9),(5,u3 (List.take ((some h.toNat).getD s.length - 0) (List.drop 0 s)++[32]++z++[32]++List.take (none.getD s.length - (some h.toNat).getD 0) (List.drop ((some h.toNat).getD 0) s))),(6,iv (i64.wrap (i+1)))]) u v [] none) λw=>Pn w Q u v [] none) (ifB (decide (p=2)) (0<=h/\(some h.toNat).getD s.length<=s.length/\0<=(some h.toNat).getD s.length/\0<=i/\∃q,zq how i.toNat 1=some q/\∃r:Int,ld1 m q=some (iv r)/\(5:Int)≠0/\((0<=h/\(some h.toNat).getD s.length<=s.length/\0<=(some h.toNat).getD s.length/\u3 (List.take ((some h.toNat).getD s.length - 0) (List.drop 0 s))=u3 (List.take ((some h.toNat).getD s.length - 0) (List.drop 0 s)))/\(∃t:Int,ld1 m q=some (iv t)/\iv t=iv r)/\True)/\call wL [iv (i64.wrap (r.tdiv 5)),iv 9] m (n+18) λt u v=>qc t (λw=>∃x:Int,w=iv x/\∃y:Int,some (Bool.rec (Bool.rec (Int.ofNat s.length) (i64.wrap (i64.wrap (h+1)+x)) (ilt (i64.wrap (i64.wrap (h+1)+x)) (Int.ofNat s.length))) (Bool.rec (Int.ofNat s.length) (i64.wrap (i64.wrap (h+1)+x)) (ilt (Int.ofNat s.length) (i64.wrap (i64.wrap (h+1)+x)))) false)=some y/\0<=y/\none.getD s.length<=s.length/\(some y.toNat).getD 0<=none.getD s.length/\(List.take ((some h.toNat).getD s.length - 0) (List.drop 0 s)).length+(List.take (none.getD s.length - (some y.toNat).getD 0) (List.drop ((some y.toNat).getD 0) s)).length<=9223372036854775807/\((0<=h/\(some h.toNat).getD s.length<=s.length/\0<=(some h.toNat).getD s.length/\u3 (List.take ((some h.toNat).getD s.length - 0) (List.drop 0 s))=u3 (List.take ((some h.toNat).getD s.length - 0) (List.drop 0 s)))/\(0<=y/\none.getD s.length<=s.length/\(some y.toNat).getD 0<=none.getD s.length/\u3 (List.take (none.getD s.length - (some y.toNat).getD 0) (List.drop ((some y.toNat).getD 0) s))=u3 (List.take (none.getD s.length - (some y.toNat).getD 0) (List.drop ((some y.toNat).getD 0) s)))/\True)/\N (qj u9 [(0,raw),(1,how),(4,u9),(5,u3 (List.take ((some h.toNat).getD s.length - 0) (List.drop 0 s)++List.take (none.getD s.length - (some y.toNat).getD 0) (List.drop ((some y.toNat).getD 0) s))),(6,iv (i64.wrap (i+1)))]) u v [] none) λw=>Pn w Q u v [] none) (ifB (decide (p=3)) (0<=h/\(some h.toNat).getD s.length<=s.length/\0<=(some h.toNat).getD s.length/\N (qj u9 [(0,raw),(1,how),(4,u9),(5,u3 (List.take ((some h.toNat).getD s.length - 0) (List.drop 0 s))),(6,iv (i64.wrap (i+1)))]) m n [] none) (0<=h/\(some h.toNat).getD s.length<=s.length/\0<=(some h.toNat).getD s.length/\Tt/\Tt/\Tt/\Tt/\Tt/\Tt/\Tt/\Tt/\0<=i/\∃q,zq how i.toNat 1=some q/\∃r:Int,ld1 m q=some (iv r)/\(5:Int)≠0/\0<=h/\none.getD s.length<=s.length/\(some h.toNat).getD 0<=none.getD s.length/\((0<=h/\(some h.toNat).getD s.length<=s.length/\0<=(some h.toNat).getD s.length/\u3 (List.take ((some h.toNat).getD s.length - 0) (List.drop 0 s))=u3 (List.take ((some h.toNat).getD s.length - 0) (List.drop 0 s)))/\(∃t:Int,ld1 m q=some (iv t)/\iv t=iv r)/\(0<=h/\none.getD s.length<=s.length/\(some h.toNat).getD 0<=none.getD s.length/\u3 (List.take (none.getD s.length - (some h.toNat).getD 0) (List.drop ((some h.toNat).getD 0) s))=u3 (List.take (none.getD s.length - (some h.toNat).getD 0) (List.drop ((some h.toNat).getD 0) s)))/\True)/\call wL [iv (i64.wrap (r.tdiv 5)),iv 8] m (n+16) λt u v=>qc t (λw=>∃x:Int,w=iv x/\0<=x/\x.toNat<8/\∃y,jM PG kV [u3 [118,48],u3 [122],u3 [112],u3 [116,114,117,101],u3 [48],u3 [110,105,108],u3 [34,97,34],u3 [110,101,119,40,81,41]] (x.toNat*1)=some (u3 y)/\(List.take ((some h.toNat).getD s.length - 0) (List.drop 0 s)).length+y.length<=9223372036854775807/\(List.take ((some h.toNat).getD s.length - 0) (List.drop 0 s)++y).length+(List.take (none.getD s.length - (some h.toNat).getD 0) (List.drop ((some h.toNat).getD 0) s)).length<=9223372036854775807/\((0<=h/\(some h.toNat).getD s.length<=s.length/\0<=(some h.toNat).getD s.length/\u3 (List.take ((some h.toNat).getD s.length - 0) (List.drop 0 s))=u3 (List.take ((some h.toNat).getD s.length - 0) (List.drop 0 s)))/\(0<=h/\none.getD s.length<=s.length/\(some h.toNat).getD 0<=none.getD s.length/\u3 (List.take (none.getD s.length - (some h.toNat).getD 0) (List.drop ((some h.toNat).getD 0) s))=u3 (List.take (none.getD s.length - (some h.toNat).getD 0) (List.drop ((some h.toNat).getD 0) s)))/\True)/\N (qj u9 [(0,raw),(1,how),(4,u9),(5,u3 (List.take ((some h.toNat).getD s.length - 0) (List.drop 0 s)++y++List.take (none.getD s.length - (some h.toNat).getD 0) (List.drop ((some h.toNat).getD 0) s))),(6,iv (i64.wrap (i+1)))]) u v [] none) λw=>Pn w Q u v [] none))))) λo=>Pn o Q m n [] none) λg=>Pn g Q e f [] none)) (X 0 Q H nx [] none)) (X 0 Q H nx [] none)) (qj u9 [(0,raw),(1,how),(4,u9),(5,u3 s),(6,iv i)])):=by kernel_rfl
theorem qi5(raw:qa)(how:qa)(s:List UInt8)(i:Int)(H:qd)(nx:Nat)(K:qv):qx PG call (lp 118) 118 (qe PG 7) [1,1,0,1,0] (qy PG lv lvc K (qF PG 7)) (.exit 0) (qj .und [(6,iv i),(5,u3 s),(1,how),(0,raw)]) H nx [] none=
 (K (U1 (u3 s)) H nx):=by kernel_rfl
end Go.Vs
end
section
namespace Go.Vs
variable [GTab] {Z:Nat->Prop}
noncomputable section
def VC(Γ:GH)(v:qa)(sz:Nat)(n:Nat)(cells:List qa):Prop:=
 (v= .nilSlice/\n=0/\cells=[])\/∃b off full cs,v= .slice b off n sz full/\Γ b=some cs/\off+n*sz<=cs.length/\(cs.drop off).take (n*sz)=cells
theorem VC.len{Γ:GH}{v:qa}{sz n:Nat}{cells:List qa}(h:VC Γ v sz n cells):kI v=some n:=by
 rcases h with⟨rfl,rfl,rfl⟩|⟨b,off,full,cs,rfl,_⟩<;>rfl
theorem VC.src{Γ:GH}{H:qd}{nx:Nat}{v:qa}{sz n:Nat}{cells:List qa}(h:VC Γ v sz n cells)(hk:HZ Z Γ H nx):zJ sz H v=some (n,cells):=by
 rcases h with⟨rfl,rfl,rfl⟩|⟨b,off,full,cs,rfl,h1,h2,h3⟩
 ·rfl
 ·rw [hk.src h1 h2,h3]
theorem VC.mono{Γ Γ':GH}{v:qa}{sz n:Nat}{cells:List qa}(h:VC Γ v sz n cells)(hs:∀c ds,Γ c=some ds->Γ' c=some ds):VC Γ' v sz n cells:=by
 rcases h with h|⟨b,off,full,cs,h0,h1,h2⟩
 ·exact .inl h
 ·exact .inr ⟨b,off,full,cs,h0,hs _ _ h1,h2⟩
def qQ(r nx:Nat)(Γ Γ':GH):Prop:=(∀b cs,b≠r->Γ b=some cs->Γ' b=some cs)/\∀b,b<nx->Γ b=none->Γ' b=none
theorem qQ.refl(r nx:Nat)(Γ:GH):qQ r nx Γ Γ:=⟨λ_ _ _ h=>h,λ_ _ h=>h⟩
theorem qQ.trans{r nx nx':Nat}{Γ Γ' Γ'':GH}(h:qQ r nx Γ Γ')(h':qQ r nx' Γ' Γ'')(hn:nx<=nx':=by omega):qQ r nx Γ Γ'':=
 ⟨λb cs hb e=>h'.1 b cs hb (h.1 b cs hb e),λb hb e=>h'.2 b (by omega) (h.2 b hb e)⟩
theorem qQ.le{r nx nx':Nat}{Γ Γ':GH}(h:qQ r nx' Γ Γ')(hn:nx<=nx':=by omega):qQ r nx Γ Γ':=⟨h.1,λb hb e=>h.2 b (by omega) e⟩
theorem qQ.new{r b nx:Nat}{Γ:GH}{cs:List qa}(h:Γ b=none)(hb:nx<=b:=by omega):qQ r nx Γ (gup b (some cs) Γ):=
 ⟨λc ds _ e=>by rw [qg λx=>by rw [x,h]at e;cases e];exact e,λc hc e=>by rw [qg (by omega)];exact e⟩
theorem qQ.upd{r nx:Nat}{Γ:GH}{cs ds:List qa}(h:Γ r=some ds):qQ r nx Γ (gup r (some cs) Γ):=
 ⟨λc ds hc e=>by rw [qg hc];exact e,λc hc e=>by rw [qg λx=>by rw [x,h]at e;cases e];exact e⟩
theorem qQ.upd'{r b nx:Nat}{Γ Γ':GH}{cs:Option (List qa)}(h:qQ r nx Γ Γ')(hb:Γ b=none)(hn:nx<=b\/cs=none:=by first|(left;omega)|(right;rfl)):qQ r nx Γ (gup b cs Γ'):=
 ⟨λc ds hc e=>by rw [qg λx=>by rw [x,hb]at e;cases e];exact h.1 c ds hc e,λc hc e=>by
  by_cases hcb:c=b
  ·subst hcb;rw [qf];rcases hn with hn|hn
   ·omega
   ·exact hn
  ·rw [qg hcb];exact h.2 c hc e⟩
theorem qnj{b:Nat}{x:Option (List qa)}{Γ:GH}(h:Γ b=x):gup b x Γ=Γ:=by
 funext c;by_cases hc:c=b
 ·subst hc;rw [qf,h]
 ·rw [qg hc]
theorem scr{Γ:GH}{H:qd}{nx nx' i:Nat}{cs vs:List qa}{k:qd->Prop}(hk:HZ Z Γ H nx)(h1:nx<=i)(h2:i<nx')(hl:vs.length=cs.length)(hv:qq vs=true)
  (hK:∀H',HZ Z (gup i (some vs) Γ) H' nx'->k H'):∃H0,H0=qo i cs H/\∃H1,stC H0 (.ptr i 0) vs=some H1/\k H1:=by
 have hn:HZ Z (gup i (some cs) Γ) (qo i cs H) nx':=hk.new h1 h2 cs
 obtain⟨H1,e1,e2⟩:=hn.st (qf i (some cs) Γ) (off:=0) (vs:=vs) (by omega) hv
 refine⟨_,rfl,H1,e1,hK _ ?_⟩
 rw [km]at e2;have:ki cs 0 vs=vs:=by unfold ki;simp [hl]
 rw [this]at e2;exact e2
theorem kO{Γ:GH}{H:qd}{nx nx' i:Nat}{cs:List qa}{k:qd->Prop}(hk:HZ Z Γ H nx)(h1:nx<=i)(h2:i<nx')
  (hK:∀H',HZ Z (gup i (some cs) Γ) H' nx'->k H'):∃H0,H0=qo i cs H/\k H0:=⟨_,rfl,hK _ (hk.new h1 h2 cs)⟩
theorem jj{Γ:GH}{H:qd}{nx i:Nat}{cs vs:List qa}{k:qd->Prop}(hk:HZ Z Γ H nx)(hi:Γ i=some cs)(hl:vs.length=cs.length)(hv:qq vs=true)
  (hK:∀H',HZ Z (gup i (some vs) Γ) H' nx->k H'):∃H1,stC H (.ptr i 0) vs=some H1/\k H1:=by
 obtain⟨H1,e1,e2⟩:=hk.st hi (off:=0) (vs:=vs) (by omega) hv
 refine⟨H1,e1,hK _ ?_⟩
 have:ki cs 0 vs=vs:=by unfold ki;simp [hl]
 rw [this]at e2;exact e2
theorem vo{Γ:GH}{H:qd}{nx i j:Nat}{cs:List qa}{v:qa}{k:qd->Prop}(hk:HZ Z Γ H nx)(hi:Γ i=some cs)(hl:j<cs.length)(hv:qI v=true)
  (hK:∀H',HZ Z (gup i (some (cs.set j v)) Γ) H' nx->k H'):∃H1,stC H (.ptr i j) [v]=some H1/\k H1:=by
 obtain⟨H1,e1,e2⟩:=hk.st hi (off:=j) (vs:=[v]) (by simp;omega) (by simp [qq,hv])
 refine⟨H1,e1,hK _ ?_⟩
 have:ki cs j [v]=cs.set j v:=by unfold ki;rw [List.set_eq_take_append_cons_drop,if_pos hl];simp
 rw [this]at e2;exact e2
theorem ldAll{Γ:GH}{H:qd}{nx i sz:Nat}{cs:List qa}(hk:HZ Z Γ H nx)(hi:Γ i=some cs)(hs:sz=cs.length):ldN H sz (.ptr i 0)=some (.agg cs):=by
 rw [hk.ldN hi (off:=0) (by omega),hs];simp
def jd(t:Tok):List qa:=[iv t.kind,.str t.text,iv t.n,iv t.line,iv t.col]
abbrev vz(t:Tok):qa:= .agg [iv t.kind,.str t.text,iv t.n,iv t.line,iv t.col]
def Zk(f:Flt):qa:= .iface Q3 (.agg [iv f.line,iv f.col,iv f.e])
structure zj(l:List Tok):Prop where
 pos:0<l.length
 few:l.length<=5000
 last:(Ps.tk l (l.length - 1)).kind=0
 rest:∀i,i+1<l.length->(Ps.tk l i).kind≠0
structure RC where
 r:Nat
 tb:Nat
 l:List Tok
 ex:Nat->Prop
abbrev RC.add(C:RC)(i:Nat):RC:={C with ex:=λb=>b=i\/C.ex b}
structure Rd(Γ:GH)(C:RC)(a d:Nat):Prop where
 lt:a<C.l.length
 deep:d<=41
 ne:C.tb≠C.r
 rex:C.ex C.r
 exs:∀b,C.ex b->Γ b≠none
 rd:∃full,Γ C.r=some [.slice C.tb 0 C.l.length 5 full,iv a,iv d]
 tk:∃cs,Γ C.tb=some cs/\C.l.length*5<=cs.length/\cs.take (C.l.length*5)=C.l.flatMap jd
theorem qgd{Γ Γ':GH}(hs:∀b cs,Γ b=some cs->Γ' b=some cs){b:Nat}(h:Γ b≠none):Γ' b≠none:=by
 cases e:Γ b with
 |none=>exact absurd e h
 |some cs=>rw [hs _ _ e];simp
theorem Y8{b i:Nat}{Γ:GH}{cs:List qa}(h:Γ b≠none):gup i (some cs) Γ b≠none:=by
 by_cases hb:b=i
 ·subst hb;rw [qf];simp
 ·rw [qg hb];exact h
theorem Rd.keep{Γ Γ':GH}{C:RC}{a d:Nat}(h:Rd Γ C a d)(hs:∀b cs,Γ b=some cs->Γ' b=some cs):Rd Γ' C a d:=
 ⟨h.lt,h.deep,h.ne,h.rex,λb hb=>qgd hs (h.exs b hb),let⟨f,e⟩:=h.rd;⟨f,hs _ _ e⟩,let⟨cs,e,h⟩:=h.tk;⟨cs,hs _ _ e,h⟩⟩
theorem Rd.new{Γ:GH}{C:RC}{a d b:Nat}{cs:Option (List qa)}(h:Rd Γ C a d)(hb:Γ b=none):Rd (gup b cs Γ) C a d:=
 h.keep λc ds e=>by rw [qg λx=>by rw [x,hb]at e;cases e];exact e
theorem Rd.r_ne{Γ:GH}{C:RC}{a d b:Nat}(h:Rd Γ C a d)(hb:Γ b=none):b≠C.r:=λx=>by obtain⟨f,e⟩:=h.rd;rw [<-x,hb]at e;cases e
theorem Rd.tb_ne{Γ:GH}{C:RC}{a d b:Nat}(h:Rd Γ C a d)(hb:Γ b=none):b≠C.tb:=λx=>by obtain⟨f,e,_⟩:=h.tk;rw [<-x,hb]at e;cases e
theorem Rd.upd{Γ:GH}{C:RC}{a d b:Nat}{cs:List qa}(h:Rd Γ C a d)(h1:b≠C.r)(h2:b≠C.tb):Rd (gup b (some cs) Γ) C a d:=
 ⟨h.lt,h.deep,h.ne,h.rex,λb hb=>Y8 (h.exs b hb),let⟨f,e⟩:=h.rd;⟨f,by rw [qg (Ne.symm h1)];exact e⟩,let⟨cs,e,h⟩:=h.tk;⟨cs,by rw [qg (Ne.symm h2)];exact e,h⟩⟩
theorem Rd.set{Γ:GH}{C:RC}{a d a' d':Nat}(h:Rd Γ C a d)(ha:a'<C.l.length)(hd:d'<=41):∃full,Γ C.r=some [.slice C.tb 0 C.l.length 5 full,iv a,iv d]/\Rd (gup C.r (some [.slice C.tb 0 C.l.length 5 full,iv a',iv d']) Γ) C a' d':=
 let⟨f,e⟩:=h.rd
 ⟨f,e,ha,hd,h.ne,h.rex,λb hb=>Y8 (h.exs b hb),⟨f,qf _ _ _⟩,let⟨cs,e,h'⟩:=h.tk;⟨cs,by rw [qg h.ne];exact e,h'⟩⟩
theorem Rd.add{Γ:GH}{C:RC}{a d i:Nat}(h:Rd Γ C a d)(hi:Γ i≠none):Rd Γ (C.add i) a d:=
 ⟨h.lt,h.deep,h.ne,.inr h.rex,λb hb=>hb.elim (λe=>by rw [e];exact hi) (h.exs b),h.rd,h.tk⟩
theorem Rd.newAdd{Γ:GH}{C:RC}{a d i:Nat}{cs:List qa}(h:Rd Γ C a d)(hi:Γ i=none):Rd (gup i (some cs) Γ) (C.add i) a d:=
 (h.new hi).add (by rw [qf];simp)
theorem Rd.less{Γ:GH}{C:RC}{a d i:Nat}(h:Rd Γ (C.add i) a d)(hr:C.ex C.r):Rd Γ C a d:=
 ⟨h.lt,h.deep,h.ne,hr,λb hb=>h.exs b (.inr hb),h.rd,h.tk⟩
theorem QR{l:List Tok}:∀{i:Nat} (h:i<l.length),((l.flatMap jd).drop (i*5)).take 5=jd l[i]:=by
 induction l with
 |nil=>intro i h;simp at h
 |cons t l ih=>
  intro i h;cases i with
  |zero=>simp [jd]
  |succ i=>
   have e:(i+1)*5=5+i*5:=by omega
   rw [List.flatMap_cons,e,<-List.drop_drop];have:(jd t++l.flatMap jd).drop 5=l.flatMap jd:=by simp [jd]
   rw [this]
   simpa using ih (i:=i) (by simpa using h)
theorem Rd.tok{Γ:GH}{H:qd}{nx:Nat}{C:RC}{a d:Nat}(h:Rd Γ C a d)(hk:HZ Z Γ H nx):
  ∃full,ld1 H (.ptr C.r 0)=some (.slice C.tb 0 C.l.length 5 full)/\ld1 H (.ptr C.r 1)=some (iv a)/\ld1 H (.ptr C.r 2)=some (iv d)/\zq (.slice C.tb 0 C.l.length 5 full) a 5=some (.ptr C.tb (a*5))/\ldN H 5 (.ptr C.tb (a*5))=some (vz (Ps.tk C.l a)):=by
 obtain⟨full,h1⟩:=h.rd
 obtain⟨cs,h2,h4,h5⟩:=h.tk
 have ha:=h.lt
 refine⟨full,by rw [hk.ld1 h1];rfl,by rw [hk.ld1 h1];rfl,by rw [hk.ld1 h1];rfl,by rw [zW ha,Nat.zero_add],?_⟩
 rw [hk.ldN h2 (by omega)]
 have e1:(cs.drop (a*5)).take 5=((cs.take (C.l.length*5)).drop (a*5)).take 5:=by
  rw [List.drop_take,List.take_take,Nat.min_eq_left (by omega)]
 rw [e1,h5,QR ha];have:Ps.tk C.l a=C.l[a]:=by unfold Ps.tk;simp [List.getD,ha]
 rw [this];rfl
def ZL(ex:Nat->Prop)(Γ:GH):GH:=λb=> @ite _ (ex b) (Classical.propDecidable _) none (Γ b)
theorem KF{ex:Nat->Prop}{Γ:GH}{b:Nat}(h:ex b):ZL ex Γ b=none:=by unfold ZL;rw [if_pos h]
theorem vS{ex:Nat->Prop}{Γ:GH}{b:Nat}(h:¬ex b):ZL ex Γ b=Γ b:=by unfold ZL;rw [if_neg h]
theorem Jp{ex ex':Nat->Prop}{Γ Γ':GH}(he:∀b,ex' b->ex b)(hk:∀b cs,¬ex b->Γ b=some cs->Γ' b=some cs)(b:Nat)(cs:List qa)(h:ZL ex Γ b=some cs):ZL ex' Γ' b=some cs:=by
 by_cases hb:ex b
 ·rw [KF hb]at h;cases h
 ·rw [vS hb]at h;rw [vS λx=>hb (he b x)]
  exact hk b cs hb h
mutual
inductive zy(ex:Nat->Prop)(Γ:GH):List qa->qu->Prop
 |mk {kind n line col:Int} {name:List UInt8} {v:qa} {kids:List qu} (cs:List qa) (hs:VC (ZL ex Γ) v 6 kids.length cs) (hk:zf ex Γ cs kids):
   zy ex Γ [iv kind,.str name,iv n,iv line,iv col,v] (.node kind name n line col kids)
inductive zf(ex:Nat->Prop)(Γ:GH):List qa->List qu->Prop
 |nil:zf ex Γ [] []
 |cons {c cs:List qa} {t:qu} {ts:List qu} (h:zy ex Γ c t) (hl:zf ex Γ cs ts):zf ex Γ (c++cs) (t::ts)
end
def zM(ex:Nat->Prop)(Γ:GH)(v:qa)(t:qu):Prop:=∃c,v= .agg c/\zy ex Γ c t
def qZ(ex:Nat->Prop)(Γ:GH)(v:qa)(ts:List qu):Prop:=∃cs,VC (ZL ex Γ) v 6 ts.length cs/\zf ex Γ cs ts
section
variable{ex ex':Nat->Prop}{Γ Γ':GH}
mutual
theorem zy.mono(he:∀b,ex' b->ex b)(hk:∀b cs,¬ex b->Γ b=some cs->Γ' b=some cs):∀{c:List qa} {t:qu},zy ex Γ c t->zy ex' Γ' c t
 |_,_,.mk cs hs h=> .mk cs (hs.mono (Jp he hk)) (zf.mono he hk h)
theorem zf.mono(he:∀b,ex' b->ex b)(hk:∀b cs,¬ex b->Γ b=some cs->Γ' b=some cs):∀{c:List qa} {t:List qu},zf ex Γ c t->zf ex' Γ' c t
 |_,_,.nil=> .nil
 |_,_,.cons h hl=> .cons (zy.mono he hk h) (zf.mono he hk hl)
end
theorem qZ.mono(he:∀b,ex' b->ex b)(hk:∀b cs,¬ex b->Γ b=some cs->Γ' b=some cs){v:qa}{t:List qu}(h:qZ ex Γ v t):qZ ex' Γ' v t:=let⟨cs,h1,h2⟩:=h;⟨cs,h1.mono (Jp he hk),h2.mono he hk⟩
theorem qZ.keep{r nx:Nat}(hr:ex r)(hk:qQ r nx Γ Γ'){v:qa}{t:List qu}(h:qZ ex Γ v t):qZ ex Γ' v t:=h.mono (λ_ h=>h) λb cs hb e=>hk.1 b cs (λx=>hb (x▸hr)) e
theorem zy.keep{r nx:Nat}(hr:ex r)(hk:qQ r nx Γ Γ'){v:List qa}{t:qu}(h:zy ex Γ v t):zy ex Γ' v t:=h.mono (λ_ h=>h) λb cs hb e=>hk.1 b cs (λx=>hb (x▸hr)) e
theorem zf.keep{r nx:Nat}(hr:ex r)(hk:qQ r nx Γ Γ'){v:List qa}{t:List qu}(h:zf ex Γ v t):zf ex Γ' v t:=h.mono (λ_ h=>h) λb cs hb e=>hk.1 b cs (λx=>hb (x▸hr)) e
theorem zy.len:∀{c:List qa} {t:qu},zy ex Γ c t->c.length=6
 |_,_,.mk _ _ _=>rfl
theorem zf.len:∀{c:List qa} {t:List qu},zf ex Γ c t->c.length=t.length*6
 |_,_,.nil=>rfl
 |_,_,.cons h hl=>by rw [List.length_append,h.len,zf.len hl,List.length_cons];omega
theorem zf.app:∀{c d:List qa} {s t:List qu},zf ex Γ c s->zf ex Γ d t->zf ex Γ (c++d) (s++t)
 |_,_,_,_,.nil,h=>h
 |_,_,_,_,.cons h hl,h'=>by rw [List.append_assoc];exact .cons h (zf.app hl h')
theorem zy.one{c:List qa}{t:qu}(h:zy ex Γ c t):zf ex Γ c [t]:=by
 have:=zf.cons h zf.nil;rwa [List.append_nil]at this
theorem qZ.nil:qZ ex Γ .nilSlice []:=⟨[],.inl ⟨rfl,rfl,rfl⟩,.nil⟩
theorem qZ.blk{b:Nat}{cs:List qa}{ts:List qu}{full:Bool}{n:Nat}(hb:¬ex b)(e:Γ b=some cs)(h:zf ex Γ cs ts)(hn:n=ts.length):qZ ex Γ (.slice b 0 n 6 full) ts:=
 ⟨cs,.inr ⟨b,0,full,cs,by rw [hn],by rw [vS hb];exact e,by rw [h.len];omega,by rw [<-h.len];simp⟩,h⟩
theorem qZ.node{k n line col:Int}{s:List UInt8}{v:qa}{ts:List qu}(h:qZ ex Γ v ts):zM ex Γ (.agg [iv k,.str s,iv n,iv line,iv col,v]) (.node k s n line col ts):=
 let⟨cs,h1,h2⟩:=h;⟨_,rfl,.mk cs h1 h2⟩
theorem qZ.cell{v:qa}{ts:List qu}(h:qZ ex Γ v ts):qI v=true:=by
 obtain⟨cs,h1,_⟩:=h
 rcases h1 with⟨rfl,_⟩|⟨b,off,full,cs,rfl,_⟩<;>rfl
theorem zM.cells{v:qa}{t:qu}(h:zM ex Γ v t):∃(k:Int) (s:List UInt8) (n li co:Int) (w:qa),v= .agg [iv k,.str s,iv n,iv li,iv co,w]/\qI w=true/\zy ex Γ [iv k,.str s,iv n,iv li,iv co,w] t:=by
 obtain⟨c,rfl,h⟩:=h
 cases h with
 |mk cs hs hk=>exact⟨_,_,_,_,_,_,rfl,qZ.cell ⟨cs,hs,hk⟩,.mk cs hs hk⟩
theorem zy.v{c:List qa}{t:qu}(h:zy ex Γ c t):zM ex Γ (.agg c) t:=⟨c,rfl,h⟩
end
def RdP(Γ:GH)(r:Nat):Prop:=∃(x y:qa) (n:Int),Γ r=some [x,y,iv n]
theorem Rd.p{Γ:GH}{C:RC}{a d:Nat}(h:Rd Γ C a d):RdP Γ C.r:=let⟨_,e⟩:=h.rd;⟨_,_,_,e⟩
def z7{α:Type}(Z:Nat->Prop)(K:qv)(Γ:GH)(nx:Nat)(C:RC)(d:Nat)(res:Except Flt (α×Nat))(V:GH->qa->α->Prop):Prop:=
 (∀x b v Γ' H' nx',res= .ok (x,b)->nx<=nx'->HZ Z Γ' H' nx'->qQ C.r nx Γ Γ'->V Γ' v x->Rd Γ' C b d->K (.ret v) H' nx')/\
 (∀f Γ' H' nx',res= .error f->nx<=nx'->HZ Z Γ' H' nx'->qQ C.r nx Γ Γ'->RdP Γ' C.r->K (.pan [(Zk f,false)]) H' nx')
section
variable{α β:Type}{K:qv}{Γ Γ1:GH}{nx nx1 d:Nat}{C:RC}{V:GH->qa->α->Prop}{res:Except Flt (α×Nat)}
theorem z7.from(h:z7 Z K Γ nx C d res V)(hn:nx<=nx1)(hk:qQ C.r nx Γ Γ1):z7 Z K Γ1 nx1 C d res V:=
 ⟨λx b v Γ' H' nx' e h1 h2 h3 h4 h5=>h.1 x b v Γ' H' nx' e (Nat.le_trans hn h1) h2 (hk.trans h3 hn) h4 h5,λf Γ' H' nx' e h1 h2 h3 h4=>h.2 f Γ' H' nx' e (Nat.le_trans hn h1) h2 (hk.trans h3 hn) h4⟩
theorem z7.on{rK:qa->qd->Nat->Prop}{pK:List (qa×Bool)->qd->Nat->Prop}
  (hok:∀x b v Γ' H' nx',res= .ok (x,b)->nx<=nx'->HZ Z Γ' H' nx'->qQ C.r nx Γ Γ'->V Γ' v x->Rd Γ' C b d->rK v H' nx')
  (hbad:∀f Γ' H' nx',res= .error f->nx<=nx'->HZ Z Γ' H' nx'->qQ C.r nx Γ Γ'->RdP Γ' C.r->pK [(Zk f,false)] H' nx'):
  z7 Z (λe H' nx'=>qc e (λv=>rK v H' nx') λl=>pK l H' nx') Γ nx C d res V:=
 ⟨λx b v Γ' H' nx' e h1 h2 h3 h4 h5=>qb.2 (hok x b v Γ' H' nx' e h1 h2 h3 h4 h5),λf Γ' H' nx' e h1 h2 h3 h4=>zN.2 (hbad f Γ' H' nx' e h1 h2 h3 h4)⟩
end
end
end Go.Vs
end
section
namespace Go.Vs
open Go.Proofs
variable [GTab] {Z:Nat->Prop}
noncomputable section
theorem HZ.drop{Γ:GH}{H:qd}{nx i:Nat}{x:Option (List qa)}(h:HZ Z (gup i x Γ) H nx)(hi:Γ i=none):HZ Z Γ H nx:=
 h.sub λb cs e=>by rw [qg λy=>by rw [y,hi]at e;cases e];exact e
theorem qo3{Γ:GH}{H:qd}{nx i:Nat}{cs:List qa}{K:qv}{n x y z:Int}{s:List UInt8}(hk:HZ Z Γ H nx)(hi:Γ i=some cs)(hl:cs.length=5)
  (hK:∀H',HZ Z (gup i (some [iv n,.str s,iv x,iv y,iv z]) Γ) H' nx->K (.ret (.agg [iv n,.str s,iv x,iv y,iv z])) H' nx):
  ∃H1,stC H (.ptr i 0) [iv n,.str s,iv x,iv y,iv z]=some H1/\∃(n1:Int) (s1:List UInt8) (x1 y1 z1:Int),ldN H1 5 (.ptr i 0)=some (.agg [iv n1,.str s1,iv x1,iv y1,iv z1])/\K (.ret (.agg [iv n1,.str s1,iv x1,iv y1,iv z1])) H1 nx:=
 jj hk hi (by simp [hl]) rfl λH1 h=>⟨n,s,x,y,z,ldAll h (qf _ _ _) rfl,hK H1 h⟩
theorem qpe{Γ:GH}{H:qd}{nx i:Nat}{cs:List qa}{K:qv}{n x y z:Int}{s:List UInt8}{v:qa}(hk:HZ Z Γ H nx)(hi:Γ i=some cs)(hl:cs.length=6)(hv:qI v=true)
  (hK:∀H',HZ Z (gup i (some [iv n,.str s,iv x,iv y,iv z,v]) Γ) H' nx->K (.ret (.agg [iv n,.str s,iv x,iv y,iv z,v])) H' nx):
  ∃H1,stC H (.ptr i 0) [iv n,.str s,iv x,iv y,iv z,v]=some H1/\∃(n1:Int) (s1:List UInt8) (x1 y1 z1:Int) (v1:qa),ldN H1 6 (.ptr i 0)=some (.agg [iv n1,.str s1,iv x1,iv y1,iv z1,v1])/\K (.ret (.agg [iv n1,.str s1,iv x1,iv y1,iv z1,v1])) H1 nx:=
 jj hk hi (by simp [hl]) (by simp only [qq,hv];rfl) λH1 h=>⟨n,s,x,y,z,v,ldAll h (qf _ _ _) rfl,hK H1 h⟩
section
variable{Γ:GH}{H:qd}{nx a d:Nat}{C:RC}{K:qv}
theorem HZ.fresh{Γ:GH}{H:qd}{nx i:Nat}(h:HZ Z Γ H nx)(hi:nx<=i):Γ i=none:=h.non hi
theorem Zy(hk:HZ Z Γ H nx)(hr:Rd Γ C a d)(hK:∀H' nx',nx<=nx'->HZ Z Γ H' nx'->K (.ret (vz (Ps.tk C.l a))) H' nx'):qk PG zX [.ptr C.r 0] H nx K:=by
 refine qk.of_body qr ?_
 rw [qbn];have hf:=hk.fresh (Nat.le_refl nx)
 refine kO hk (nx':=nx+1+11) lR (by omega) λH0 h0=> ?_
 obtain⟨full,e1,e2,e3,e4,e5⟩:=(hr.new (cs:=some [iv 0,u3 [],iv 0,iv 0,iv 0]) hf).tok h0
 refine⟨rfl,_,rfl,_,e1,rfl,_,rfl,_,e2,by omega,_,by rw [Int.toNat_natCast];exact e4,_,_,_,_,_,e5,⟨⟨_,e1,rfl⟩,⟨_,e2,rfl⟩,⟨_,_,_,_,_,e5,rfl⟩,trivial⟩,?_⟩
 obtain⟨H1,g1,g2⟩:=h0.st (qf nx _ Γ) (off:=0) (vs:=jd (Ps.tk C.l a)) (by simp [jd]) rfl
 rw [km]at g2;refine⟨H1,g1,trivial,_,_,_,_,_,ldAll g2 (qf _ _ _) rfl,hK _ _ (by omega) (g2.drop hf)⟩
theorem qau{t:Tok}(hk:HZ Z Γ H nx)(hK:∀H' nx',nx<=nx'->HZ Z Γ H' nx'->K (.ret (.agg [iv t.line,iv t.col])) H' nx'):qk PG Q9 [vz t] H nx K:=by
 refine qk.of_body qr ?_
 rw [qbc];have hf:=hk.fresh (Nat.le_refl nx)
 refine⟨_,rfl,?_⟩
 have h0:HZ Z (gup nx (some [iv t.kind,.str t.text,iv t.n,iv t.line,iv t.col]) Γ) (newBN nx [iv t.kind,u3 t.text,iv t.n,iv t.line,iv t.col].length [iv t.kind,u3 t.text,iv t.n,iv t.line,iv t.col] H) (nx+1):=hk.new lR (by omega) _
 have hf1:=h0.fresh (Nat.le_refl (nx+1))
 refine kO h0 (nx':=nx+1+1) lR (by omega) λH1 h1=> ?_
 have e:gup (nx+1) (some [iv 0,iv 0]) (gup nx (some [iv t.kind,u3 t.text,iv t.n,iv t.line,iv t.col]) Γ) nx=some [iv t.kind,u3 t.text,iv t.n,iv t.line,iv t.col]:=by rw [qg (by omega),qf]
 refine⟨_,rfl,t.line,by rw [h1.ld1 e];rfl,_,rfl,t.col,by rw [h1.ld1 e];rfl,rfl,rfl,?_⟩
 refine jj h1 (qf _ _ _) rfl rfl λH2 h2=>⟨_,_,ldAll h2 (qf _ _ _) rfl,hK _ _ (by omega) ?_⟩
 rw [km]at h2;exact(h2.drop hf1).drop hf
theorem yK{e:Int}(hk:HZ Z Γ H nx)(hr:Rd Γ C a d)(hK:∀H' nx',nx<=nx'->HZ Z Γ H' nx'->K (.pan [(Zk (Ps.flt C.l a e),false)]) H' nx'):qk PG kK [.ptr C.r 0,iv e] H nx K:=by
 refine qk.of_body qr ?_
 rw [XL];refine Zy hk hr λH1 nx1 h1 hk1=>qb.2 ⟨_,_,_,_,_,rfl,qau (t:=Ps.tk C.l a) hk1 λH2 nx2 h2 hk2=>qb.2 ⟨_,_,rfl,rfl,_,_,rfl,hK _ _ (by omega) hk2⟩⟩
theorem YF{s:List UInt8}(hk:HZ Z Γ H nx)(hr:Rd Γ C a d)(hK:∀H' nx',nx<=nx'->HZ Z Γ H' nx'->K (.ret (.bool (Ps.is C.l a s))) H' nx'):qk PG jh [.ptr C.r 0,.str s] H nx K:=by
 refine qk.of_body qr ?_
 rw [qgn];refine Zy hk hr λH1 nx1 h1 hk1=>qb.2 ⟨_,_,_,_,_,rfl,?_⟩
 have hf:=hk1.fresh (Nat.le_refl nx1)
 refine scr hk1 (nx':=nx1+1) lR (by omega) rfl rfl λH2 h2=> ?_
 have e0:=h2.ld1 (qf _ _ _) 0
 have e1:=h2.ld1 (qf _ _ _) 1
 have hK':=hK H2 (nx1+1) (by omega) (h2.drop hf)
 unfold Ps.is at hK';simp only [List.getElem?_cons_zero,List.getElem?_cons_succ]at e0 e1
 refine⟨_,rfl,_,e0,qi.2 ⟨λh=> ?_,λh=>⟨_,rfl,_,e0,qi.2 ⟨λh'=> ?_,λh'=>⟨_,rfl,_,e0,qi.2 ⟨λh''=> ?_,λh''=> ?_⟩⟩⟩⟩⟩⟩
 all_goals simp only [decide_eq_true_eq,decide_eq_false_iff_not]at h
 all_goals try simp only [decide_eq_true_eq,decide_eq_false_iff_not]at h'
 all_goals try simp only [decide_eq_true_eq,decide_eq_false_iff_not]at h''
 ·exact⟨_,rfl,_,e1,by simpa [h]using hK'⟩
 ·exact⟨_,rfl,_,e1,by simpa [h']using hK'⟩
 ·exact⟨_,rfl,_,e1,by simpa [h'']using hK'⟩
 ·have:(((Ps.tk C.l a).kind==3||(Ps.tk C.l a).kind==6||(Ps.tk C.l a).kind==1)&&(Ps.tk C.l a).text==s)=false:=by simp [h,h',h'']
  rw [this]at hK';exact hK'
theorem zj.next(W:zj C.l)(h:(Ps.tk C.l a).kind≠0)(hl:a<C.l.length):a+1<C.l.length:=by
 by_cases h1:a+1<C.l.length
 ·exact h1
 ·have:=W.last
  rw [show C.l.length - 1=a by omega]at this
  exact absurd this h
theorem qlx{s:List UInt8}(h:Ps.is C.l a s=true):(Ps.tk C.l a).kind≠0:=λe=>by simp [Ps.is,e]at h
theorem JR{s:List UInt8}(W:zj C.l)(hk:HZ Z Γ H nx)(hr:Rd Γ C a d)(hno:Ps.is C.l a s=false->∀H' nx',nx<=nx'->HZ Z Γ H' nx'->K (.ret (.bool false)) H' nx')
  (hyes:Ps.is C.l a s=true->∀Γ' H' nx',nx<=nx'->HZ Z Γ' H' nx'->qQ C.r nx Γ Γ'->Rd Γ' C (a+1) d->K (.ret (.bool true)) H' nx'):qk PG zb [.ptr C.r 0,.str s] H nx K:=by
 refine qk.of_body qr ?_
 rw [qcz];refine YF hk hr λH1 nx1 h1 hk1=>qb.2 ⟨_,rfl,qi.2 ⟨λh=> ?_,λh=> ?_⟩⟩
 ·exact hno (by simpa using h) _ _ h1 hk1
 ·have h:Ps.is C.l a s=true:=by simpa using h
  have hn:=W.next (qlx h) hr.lt
  have hW:=W.few
  obtain⟨full,e,hr'⟩:=hr.set (a':=a+1) (d':=d) hn hr.deep
  refine⟨rfl,_,rfl,(a:Int),by rw [hk1.ld1 e];rfl,rfl,_,rfl,rfl,?_⟩
  rw [qw (by omega) (by omega)]
  refine vo hk1 e (j:=1) (by simp) rfl λH2 h2=>hyes h _ _ _ h1 h2 (.upd e) ?_
  simpa using hr'
theorem yN{s:List UInt8}(W:zj C.l)(hk:HZ Z Γ H nx)(hr:Rd Γ C a d)(hno:Ps.is C.l a s=false->∀H' nx',nx<=nx'->HZ Z Γ H' nx'->K (.pan [(Zk (Ps.flt C.l a 13),false)]) H' nx')
  (hyes:Ps.is C.l a s=true->∀Γ' H' nx',nx<=nx'->HZ Z Γ' H' nx'->qQ C.r nx Γ Γ'->Rd Γ' C (a+1) d->K (.ret (vz (Ps.tk C.l a))) H' nx'):qk PG ze [.ptr C.r 0,.str s] H nx K:=by
 refine qk.of_body qr ?_
 rw [YL];have hf:=hk.fresh (Nat.le_refl nx)
 refine kO hk (nx':=nx+1) lR (by omega) λH0 h0=> ?_
 have hr0:=hr.new (cs:=some [iv 0,u3 [],iv 0,iv 0,iv 0]) hf
 refine Zy h0 hr0 λH1 nx1 h1 hk1=>qb.2 ⟨_,_,_,_,_,rfl,?_⟩
 have hf1:=hk1.fresh (Nat.le_refl nx1)
 refine scr hk1 (nx':=nx1+1) lR (by omega) rfl rfl λH2 h2=> ?_
 refine JR W h2 (hr0.new hf1) (λh H3 nx3 h3 hk3=>qb.2 ⟨_,rfl,?_⟩) λh Γ' H3 nx3 h3 hk3 kp hr3=>qb.2 ⟨_,rfl,?_⟩
 ·show ifB (!false) _ _
  refine yK hk3 (hr0.new hf1) λH4 nx4 h4 hk4=>zN.2 (hno h _ _ (by omega) ((hk4.drop hf1).drop hf))
 ·show ifB (!true) _ _
  have e1:Γ' nx1=some (jd (Ps.tk C.l a)):=kp.1 _ _ (hr0.r_ne hf1) (qf _ _ _)
  have e2:Γ' nx=some [iv 0,u3 [],iv 0,iv 0,iv 0]:=kp.1 _ _ (hr.r_ne hf) (by rw [qg (by omega),qf])
  refine⟨_,_,_,_,_,ldAll hk3 e1 rfl,qo3 hk3 e2 rfl λH4 h4=> ?_⟩
  exact hyes h _ _ _ (by omega) h4 ((((qQ.new (nx:=nx) hf).trans (qQ.new (nx:=nx1) hf1)).trans kp).upd' hf) (hr3.upd (hr.r_ne hf) (hr.tb_ne hf))
theorem ZZ(W:zj C.l)(hk:HZ Z Γ H nx)(hr:Rd Γ C a d)(hkd:(Ps.tk C.l a).kind≠0)
  (hyes:∀Γ' H' nx',nx<=nx'->HZ Z Γ' H' nx'->qQ C.r nx Γ Γ'->Rd Γ' C (a+1) d->K (.ret (vz (Ps.tk C.l a))) H' nx'):qk PG vJ [.ptr C.r 0] H nx K:=by
 refine qk.of_body qr ?_
 rw [qb8];have hf:=hk.fresh (Nat.le_refl nx)
 refine kO hk (nx':=nx+1) lR (by omega) λH0 h0=> ?_
 have hr0:=hr.new (cs:=some [iv 0,u3 [],iv 0,iv 0,iv 0]) hf
 refine Zy h0 hr0 λH1 nx1 h1 hk1=>qb.2 ⟨_,_,_,_,_,rfl,?_⟩
 have hf1:=hk1.fresh (Nat.le_refl nx1)
 refine scr hk1 (nx':=nx1+1) lR (by omega) rfl rfl λH2 h2=> ?_
 have hr1:=hr0.new (cs:=some [iv (Ps.tk C.l a).kind,.str (Ps.tk C.l a).text,iv (Ps.tk C.l a).n,iv (Ps.tk C.l a).line,iv (Ps.tk C.l a).col]) hf1
 have hn:=W.next hkd hr.lt
 have hW:=W.few
 obtain⟨full,e,hr'⟩:=hr1.set (a':=a+1) (d':=d) hn hr.deep
 refine⟨_,rfl,_,h2.ld1 (qf _ _ _) 0,qi.2 ⟨λ_=>⟨rfl,_,rfl,(a:Int),by rw [h2.ld1 e];rfl,rfl,_,rfl,rfl,?_⟩,λh=>by simp [hkd]at h⟩⟩
 rw [qw (by omega) (by omega)]
 refine vo h2 e (j:=1) (by simp) rfl λH3 h3=> ?_
 have g1:nx1≠C.r:=hr0.r_ne hf1
 have g0:nx≠C.r:=hr.r_ne hf
 refine⟨_,_,_,_,_,ldAll h3 (by rw [qg g1,qf]) rfl,?_⟩
 refine qo3 h3 (cs:=[iv 0,u3 [],iv 0,iv 0,iv 0]) (by rw [qg g0,qg (by omega),qf]) rfl λH4 h4=> ?_
 exact hyes _ _ _ (by omega) h4 ((((qQ.new (nx:=nx) hf).trans (qQ.new (nx:=nx1) hf1)).trans (qQ.upd (nx:=nx1) e)).upd' hf) (Rd.upd (by simpa using hr') g0 (hr.tb_ne hf))
theorem qk6(W:zj C.l)(hk:HZ Z Γ H nx)(hr:Rd Γ C a d)(hno:(Ps.tk C.l a).kind≠2->∀H' nx',nx<=nx'->HZ Z Γ H' nx'->K (.pan [(Zk (Ps.flt C.l a 13),false)]) H' nx')
  (hyes:(Ps.tk C.l a).kind=2->∀Γ' H' nx',nx<=nx'->HZ Z Γ' H' nx'->qQ C.r nx Γ Γ'->Rd Γ' C (a+1) d->K (.ret (vz (Ps.tk C.l a))) H' nx'):qk PG jp [.ptr C.r 0] H nx K:=by
 refine qk.of_body qr ?_
 rw [qaz];have hf:=hk.fresh (Nat.le_refl nx)
 refine kO hk (nx':=nx+1) lR (by omega) λH0 h0=> ?_
 have hr0:=hr.new (cs:=some [iv 0,u3 [],iv 0,iv 0,iv 0]) hf
 refine Zy h0 hr0 λH1 nx1 h1 hk1=>qb.2 ⟨_,_,_,_,_,rfl,qi.2 ⟨λh=> ?_,λh=> ?_⟩⟩
 ·refine yK hk1 hr0 λH2 nx2 h2 hk2=>zN.2 (hno (by simpa using h) _ _ (by omega) (hk2.drop hf))
 ·have h:(Ps.tk C.l a).kind=2:=by simpa using h
  refine ZZ W hk1 hr0 (by omega) λΓ' H2 nx2 h2 hk2 kp hr2=>qb.2 ⟨_,_,_,_,_,rfl,?_⟩
  refine qo3 hk2 (kp.1 _ _ (hr.r_ne hf) (qf _ _ _)) rfl λH3 h3=> ?_
  exact hyes h _ _ _ (by omega) h3 (((qQ.new (nx:=nx) hf).trans kp).upd' hf) (hr2.upd (hr.r_ne hf) (hr.tb_ne hf))
theorem Ve(hk:HZ Z Γ H nx)(hr:Rd Γ C a d)(hd:d<=40)(hno:40<=d->∀Γ' H' nx',nx<=nx'->HZ Z Γ' H' nx'->qQ C.r nx Γ Γ'->Rd Γ' C a (d+1)->K (.pan [(Zk (Ps.flt C.l a 14),false)]) H' nx')
  (hyes:¬40<=d->∀Γ' H' nx',nx<=nx'->HZ Z Γ' H' nx'->qQ C.r nx Γ Γ'->Rd Γ' C a (d+1)->K (.ret (.tuple [])) H' nx'):qk PG wP [.ptr C.r 0] H nx K:=by
 refine qk.of_body qr ?_
 rw [Ya];obtain⟨full,e,hr'⟩:=hr.set (a':=a) (d':=d+1) hr.lt (by omega)
 refine⟨rfl,_,rfl,(d:Int),by rw [hk.ld1 e];rfl,rfl,_,rfl,rfl,?_⟩
 rw [qw (by omega) (by omega)]
 refine vo hk e (j:=2) (by simp) rfl λH1 h1=>⟨rfl,_,rfl,(d:Int)+1,by rw [h1.ld1 (qf _ _ _)];simp,qi.2 ⟨λh=> ?_,λh=> ?_⟩⟩
 ·have hd':40<=d:=by simp at h;omega
  refine yK h1 (a:=a) (d:=d+1) (by simpa using hr') λH2 nx2 h2 hk2=>zN.2 (hno hd' _ _ _ h2 hk2 (.upd e) (by simpa using hr'))
 ·have hd':¬40<=d:=by simp at h;omega
  exact hyes hd' _ _ _ lR h1 (.upd e) (by simpa using hr')
theorem qe8{t:Tok}{k:Int}{s:List UInt8}{v:qa}(hv:qI v=true)(hk:HZ Z Γ H nx)(hK:∀H' nx',nx<=nx'->HZ Z Γ H' nx'->K (.ret (.agg [iv k,.str s,iv 0,iv t.line,iv t.col,v])) H' nx'):qk PG qE [vz t,iv k,.str s,v] H nx K:=by
 refine qk.of_body qr ?_
 rw [qcp];have hf:=hk.fresh (Nat.le_refl nx)
 refine⟨_,rfl,?_⟩
 have h0:HZ Z (gup nx (some [iv t.kind,.str t.text,iv t.n,iv t.line,iv t.col]) Γ) (newBN nx [iv t.kind,u3 t.text,iv t.n,iv t.line,iv t.col].length [iv t.kind,u3 t.text,iv t.n,iv t.line,iv t.col] H) (nx+1):=hk.new lR (by omega) _
 have hf1:=h0.fresh (Nat.le_refl (nx+1))
 refine kO h0 (nx':=nx+1+1) lR (by omega) λH1 h1=> ?_
 have e:gup (nx+1) (some [iv 0,u3 [],iv 0,iv 0,iv 0,u6]) (gup nx (some [iv t.kind,u3 t.text,iv t.n,iv t.line,iv t.col]) Γ) nx=some [iv t.kind,u3 t.text,iv t.n,iv t.line,iv t.col]:=by rw [qg (by omega),qf]
 refine⟨_,rfl,t.line,by rw [h1.ld1 e];rfl,_,rfl,t.col,by rw [h1.ld1 e];rfl,rfl,rfl,rfl,rfl,hv,?_⟩
 refine jj h1 (qf _ _ _) rfl (by simp only [qq,hv];rfl) λH2 h2=>⟨_,_,_,_,_,_,ldAll h2 (qf _ _ _) rfl,hK _ _ (by omega) ?_⟩
 rw [km]at h2;exact(h2.drop hf1).drop hf
theorem qlq(hk:HZ Z Γ H nx)(hK:∀H' nx',nx<=nx'->HZ Z Γ H' nx'->K (.ret (.agg [iv 38,.str [],iv 0,iv 0,iv 0,.nilSlice])) H' nx'):qk PG kX [] H nx K:=by
 refine qk.of_body qr ?_
 rw [qcv (_u:=0)];have hf:=hk.fresh (Nat.le_refl nx)
 refine kO hk (nx':=nx+1) lR (by omega) λH0 h0=> ?_
 refine qe8 (t:=⟨0,[],0,0,0⟩) rfl h0 λH1 nx1 h1 hk1=>qb.2 ⟨_,_,_,_,_,_,rfl,?_⟩
 exact qpe hk1 (qf _ _ _) rfl rfl λH2 h2=>hK _ _ (by omega) (by rw [km]at h2;exact h2.drop hf)
end
structure Sst where
 s:List UInt8
 a:Nat
 line:Int
 col:Int
 out:List Tok
 bad:Int
 wl:Int
 wc:Int
def JH(ob:Nat):List Tok->qa
 |[]=> .nilSlice
 |t::l=> .slice ob 0 (t::l).length 5 false
def scC(ob:Nat)(σ:Sst):List qa:=[.str σ.s,iv σ.a,iv σ.line,iv σ.col,JH ob σ.out,iv σ.bad,iv 0,.str [],iv 0,iv σ.wl,iv σ.wc]
def scO(Γ0:GH)(ob:Nat):List Tok->GH
 |[]=>Γ0
 |t::l=>gup ob (some ((t::l).flatMap jd)) Γ0
def scG(Γ0:GH)(r ob:Nat)(σ:Sst):GH:=gup r (some (scC ob σ)) (scO Γ0 ob σ.out)
structure ScI(Γ0:GH)(r ob:Nat)(σ:Sst):Prop where
 r0:Γ0 r=none
 o0:Γ0 ob=none
 ne:ob≠r
 le:σ.a<=σ.s.length
 len:σ.s.length<=16384
 few:σ.out.length<=4000
 ln:0<=σ.line/\σ.line<=σ.a+1
 cl:0<=σ.col/\σ.col<=σ.a+1
theorem qft{ob:Nat}{l:List Tok}{t:Tok}:JH ob (l++[t])= .slice ob 0 (l.length+1) 5 false:=by
 cases l with
 |nil=>rfl
 |cons x l=>simp [JH]
theorem qiq{Γ0:GH}{ob:Nat}{l:List Tok}{t:Tok}:scO Γ0 ob (l++[t])=gup ob (some ((l++[t]).flatMap jd)) Γ0:=by
 cases l<;>rfl
theorem VQ{ob:Nat}{l:List Tok}:kI (JH ob l)=some l.length:=by cases l<;>rfl
section
variable{Γ0:GH}{r ob nx:Nat}{σ σ':Sst}{H:qd}{K:qv}
theorem neK{Γ:GH}{b i:Nat}{cs:List qa}(h1:Γ b=some cs)(h2:Γ i=none):b≠i:=λx=>by rw [x,h2]at h1;cases h1
theorem Jj(I:ScI Γ0 r ob σ)(b:Nat)(cs:List qa)(e:Γ0 b=some cs):scG Γ0 r ob σ b=some cs:=by
 unfold scG;rw [qg λx=>by rw [x,I.r0]at e;cases e]
 cases σ.out with
 |nil=>exact e
 |cons t l=>exact(qg λx=>by rw [x,I.o0]at e;cases e).trans e
theorem jy:scG Γ0 r ob σ r=some (scC ob σ):=qf _ _ _
theorem Xq(I:ScI Γ0 r ob σ)(h:σ.out≠[]):scG Γ0 r ob σ ob=some (σ.out.flatMap jd):=by
 unfold scG;rw [qg I.ne];cases ho:σ.out with
 |nil=>exact absurd ho h
 |cons t l=>exact qf _ _ _
theorem qe4(h:σ'.out=σ.out):gup r (some (scC ob σ')) (scG Γ0 r ob σ)=scG Γ0 r ob σ':=by
 unfold scG;rw [km,h]
theorem qc0(σ':Sst)(hk:HZ Z (scG Γ0 r ob σ) H nx){j:Nat}{v:qa}(hv:qI v=true)(hj:j<11)(e:(scC ob σ).set j v=scC ob σ')(eo:σ'.out=σ.out){k:qd->Prop}(hK:∀H',HZ Z (scG Γ0 r ob σ') H' nx->k H'):∃H',stC H (.ptr r j) [v]=some H'/\k H':=by
 refine vo hk jy (by simpa [scC]using hj) hv λH' h=>hK H' ?_
 rw [e,qe4 eo]at h;exact h
theorem qmy(σ':Sst)(hk:HZ Z (scG Γ0 r ob σ) H nx){x y:Int}(e:σ'={σ with wl:=x,wc:=y}){k:qd->Prop}(hK:∀H',HZ Z (scG Γ0 r ob σ') H' nx->k H'):∃H',stC H (.ptr r 6) [iv 0,.str [],iv 0,iv x,iv y]=some H'/\k H':=by
 obtain⟨H',e1,e2⟩:=hk.st (b:=r) (off:=6) (vs:=[iv 0,.str [],iv 0,iv x,iv y]) jy (by simp [scC]) rfl
 refine⟨H',e1,hK H' ?_⟩
 have:ki (scC ob σ) 6 [iv 0,.str [],iv 0,iv x,iv y]=scC ob σ':=by subst e;rfl
 rw [this,qe4 (by subst e;rfl)]at e2;exact e2
theorem qhp{c:UInt8}(I:ScI Γ0 r ob σ)(hk:HZ Z (scG Γ0 r ob σ) H nx)(hc:σ.s[σ.a]?=some c)(hK:∀nx',nx<=nx'->HZ Z (scG Γ0 r ob σ) H nx'->K (.ret (bv (Int.ofNat c.toNat))) H nx'):qk PG Jo [.ptr r 0] H nx K:=by
 refine qk.of_body qr ?_
 rw [qab];have l1:ld1 H (.ptr r 1)=some (iv σ.a):=by rw [hk.ld1 jy];rfl
 have l0:ld1 H (.ptr r 0)=some (.str σ.s):=by rw [hk.ld1 jy];rfl
 have hlt:σ.a<σ.s.length:=by
  by_cases h:σ.a<σ.s.length
  ·exact h
  ·rw [List.getElem?_eq_none (by omega)]at hc;cases hc
 refine⟨rfl,_,rfl,_,l1,rfl,_,rfl,_,l0,⟨⟨_,l1,rfl⟩,⟨_,l0,rfl⟩,trivial⟩,qi.2 ⟨λh=> ?_,λh=>⟨rfl,_,rfl,_,l0,rfl,_,rfl,_,l1,by omega,c,?_,⟨⟨_,l0,rfl⟩,⟨_,l1,rfl⟩,trivial⟩,hK _ (by omega) (hk.more (by omega))⟩⟩⟩
 ·have h:=of_decide_eq_true h
  have:(σ.a:Int)=(σ.s.length:Int):=h
  omega
 ·simpa using hc
theorem wB(I:ScI Γ0 r ob σ)(hk:HZ Z (scG Γ0 r ob σ) H nx)(hK:∀nx',nx<=nx'->HZ Z (scG Γ0 r ob σ) H nx'->K (.ret (.str (σ.s.drop σ.a))) H nx'):qk PG kL [.ptr r 0] H nx K:=by
 refine qk.of_body qr ?_
 rw [qa8];have l1:ld1 H (.ptr r 1)=some (iv σ.a):=by rw [hk.ld1 jy];rfl
 have l0:ld1 H (.ptr r 0)=some (.str σ.s):=by rw [hk.ld1 jy];rfl
 have hle:=I.le
 have hx:(some ((σ.a:Int)).toNat).getD 0<=(none:Option Nat).getD σ.s.length:=by simpa using hle
 refine⟨rfl,_,rfl,_,l0,rfl,_,rfl,_,l1,by omega,Nat.le_refl _,hx,⟨⟨_,l0,rfl⟩,⟨_,l1,rfl⟩,⟨by omega,Nat.le_refl _,hx,rfl⟩,trivial⟩,?_⟩
 have e:List.take ((none:Option Nat).getD σ.s.length - (some ((σ.a:Int)).toNat).getD 0) (List.drop ((some ((σ.a:Int)).toNat).getD 0) σ.s)=σ.s.drop σ.a:=by
  simp only [Option.getD_none,Option.getD_some,Int.toNat_natCast]
  exact List.take_of_length_le (by simp)
 rw [e];exact hK _ (by omega) (hk.more (by omega))
theorem Z8{n:Nat}(I:ScI Γ0 r ob σ)(hk:HZ Z (scG Γ0 r ob σ) H nx)(hn:n<=20000)(hK:∀H',HZ Z (scG Γ0 r ob {σ with a:=σ.a+n,col:=σ.col+n}) H' nx->K (.ret (.tuple [])) H' nx):qk PG zC [.ptr r 0,iv n] H nx K:=by
 refine qk.of_body qr ?_
 rw [Ys];have hle:=I.le;have hlen:=I.len;have hcl:=I.cl
 refine⟨rfl,_,rfl,(σ.a:Int),by rw [hk.ld1 jy];rfl,rfl,_,rfl,rfl,?_⟩
 rw [qw (by omega) (by omega),show((σ.a:Int)+(n:Int))=((σ.a+n:Nat):Int) by omega]
 refine qc0 {σ with a:=σ.a+n} hk rfl (by omega) rfl rfl λH1 h1=> ?_
 refine⟨rfl,_,rfl,σ.col,by rw [h1.ld1 jy];rfl,rfl,_,rfl,rfl,?_⟩
 rw [qw (by omega) (by omega)]
 exact qc0 {σ with a:=σ.a+n,col:=σ.col+n} h1 rfl (by omega) rfl rfl λH2 h2=>hK H2 h2
theorem Zh{e:Int}(I:ScI Γ0 r ob σ)(hb:σ.bad=0)(hk:HZ Z (scG Γ0 r ob σ) H nx)(hK:∀H' nx',nx<=nx'->HZ Z (scG Γ0 r ob {σ with bad:=e,wl:=σ.line,wc:=σ.col}) H' nx'->K (.ret (.tuple [])) H' nx'):qk PG z4 [.ptr r 0,iv e] H nx K:=by
 refine qk.of_body qr ?_
 rw [Xs];have l2:ld1 H (.ptr r 2)=some (iv σ.line):=by rw [hk.ld1 jy];rfl
 have l3:ld1 H (.ptr r 3)=some (iv σ.col):=by rw [hk.ld1 jy];rfl
 refine⟨rfl,_,rfl,σ.bad,by rw [hk.ld1 jy];rfl,qi.2 ⟨λh=>⟨rfl,_,rfl,_,l2,rfl,_,rfl,_,l3,rfl,rfl,rfl,_,rfl,⟨⟨_,l2,rfl⟩,⟨_,l3,rfl⟩,trivial⟩,rfl,?_⟩,λh=>absurd hb (of_decide_eq_false h)⟩⟩
 refine qc0 {σ with bad:=e} hk rfl (by omega) rfl rfl λH1 h1=>⟨rfl,_,rfl,trivial,?_⟩
 exact qmy {σ with bad:=e,wl:=σ.line,wc:=σ.col} h1 rfl λH2 h2=>⟨trivial,hK _ _ (by omega) (h2.more (by omega))⟩
theorem Jc:∀(l:List Tok),(l.flatMap jd).length=l.length*5
 |[]=>rfl
 |t::l=>by rw [List.flatMap_cons,List.length_append,Jc l,List.length_cons];simp [jd];omega
theorem Z1{k n:Int}{s:List UInt8}(I:ScI Γ0 r ob σ)(hk:HZ Z (scG Γ0 r ob σ) H nx)
  (hfull:4000<=σ.out.length->∀H' nx',nx<=nx'->HZ Z (scG Γ0 r ob {σ with bad:=6,wl:=σ.line,wc:=σ.col}) H' nx'->K (.ret (.tuple [])) H' nx')
  (hput:¬4000<=σ.out.length->∀ob' H' nx',nx<=nx'->Γ0 ob'=none->ob'≠r->HZ Z (scG Γ0 r ob' {σ with out:=σ.out++[⟨k,s,n,σ.line,σ.col⟩]}) H' nx'->K (.ret (.tuple [])) H' nx'):qk PG qz [.ptr r 0,iv k,.str s,iv n] H nx K:=by
 refine qk.of_body qr ?_
 rw [qbr];have l2:ld1 H (.ptr r 2)=some (iv σ.line):=by rw [hk.ld1 jy];rfl
 have l3:ld1 H (.ptr r 3)=some (iv σ.col):=by rw [hk.ld1 jy];rfl
 have l4:ld1 H (.ptr r 4)=some (JH ob σ.out):=by rw [hk.ld1 jy];rfl
 have hfew:=I.few
 refine⟨rfl,_,rfl,_,l4,_,VQ,qi.2 ⟨λh=> ?_,λh=> ?_⟩⟩
 ·have h:(σ.out.length:Int)=4000:=of_decide_eq_true h
  refine⟨rfl,_,rfl,_,l2,rfl,_,rfl,_,l3,rfl,rfl,rfl,_,rfl,⟨⟨_,l2,rfl⟩,⟨_,l3,rfl⟩,trivial⟩,rfl,?_⟩
  refine qc0 {σ with bad:=6} hk rfl (by omega) rfl rfl λH1 h1=>⟨rfl,_,rfl,trivial,?_⟩
  exact qmy {σ with bad:=6,wl:=σ.line,wc:=σ.col} h1 rfl λH2 h2=>⟨trivial,hfull (by omega) _ _ (by omega) (h2.more (by omega))⟩
 ·have h:¬(σ.out.length:Int)=4000:=of_decide_eq_false h
  refine⟨rfl,_,rfl,_,l4,rfl,_,rfl,_,l2,rfl,_,rfl,_,l3,rfl,rfl,rfl,rfl,rfl,?_⟩
  have hf:=hk.fresh (by omega:nx<=nx+17)
  refine kO hk (nx':=nx+22) (by omega) (by omega) λH1 h1=> ?_
  have hne:r≠nx+17:=neK jy hf
  have er:gup (nx+17) (some [iv k,.str s,iv n,iv σ.line,iv σ.col]) (scG Γ0 r ob σ) r=some (scC ob σ):=(qg hne).trans jy
  have m2:ld1 H1 (.ptr r 2)=some (iv σ.line):=by rw [h1.ld1 er];rfl
  have m3:ld1 H1 (.ptr r 3)=some (iv σ.col):=by rw [h1.ld1 er];rfl
  have m4:ld1 H1 (.ptr r 4)=some (JH ob σ.out):=by rw [h1.ld1 er];rfl
  refine⟨⟨⟨_,m4,rfl⟩,⟨_,m2,rfl⟩,⟨_,m3,rfl⟩,trivial⟩,1,[iv k,.str s,iv n,iv σ.line,iv σ.col],by rw [h1.src (qf _ _ _) (by simp)];simp,rfl,?_⟩
  have hf2:=h1.fresh (Nat.le_refl (nx+22))
  have hn2:nx+22≠r:=λx=>by rw [x,er]at hf2;cases hf2
  have h02:Γ0 (nx+22)=none:=by
   cases e:Γ0 (nx+22)with
   |none=>rfl
   |some cs=>rw [qg (by omega),Jj I _ _ e]at hf2;cases hf2
  have h017:Γ0 (nx+17)=none:=by
   cases e:Γ0 (nx+17)with
   |none=>rfl
   |some cs=>have:=Jj I _ _ e;rw [hf]at this;cases this
  have fin:∀(Γ':GH) (H2:qd),HZ Z Γ' H2 (nx+23)->Γ' r=some (scC ob σ)->Γ' (nx+22)=some ((σ.out++[(⟨k,s,n,σ.line,σ.col⟩:Tok)]).flatMap jd)->(∀b cs,Γ0 b=some cs->Γ' b=some cs)->
    ∃H3,stC H2 (.ptr r 4) [.slice (nx+22) 0 (σ.out.length+1) 5 false]=some H3/\True/\K (.ret (.tuple [])) H3 (nx+23):=by
   intro Γ' H2 h2 e1 e2 e3;refine vo (k:=λH3=>True/\K (.ret (.tuple [])) H3 (nx+23)) h2 e1 (j:=4) (by simp [scC]) rfl λH3 h3=>And.intro trivial (hput (by omega) (nx+22) _ _ (by omega) h02 hn2 (h3.sub λb cs e=> ?_))
   unfold scG at e;by_cases hb:b=r
   ·subst hb;rw [qf]at e ⊢;rw [<-e];simp only [scC,qft]
    rfl
   ·rw [qg hb]at e ⊢;rw [qiq]at e;by_cases hb2:b=nx+22
    ·subst hb2;rw [qf]at e;rw [<-e];exact e2
    ·rw [qg hb2]at e;exact e3 b cs e
  have hsub:∀b cs,Γ0 b=some cs->gup (nx+17) (some [iv k,.str s,iv n,iv σ.line,iv σ.col]) (scG Γ0 r ob σ) b=some cs:=λb cs e=>by
   rw [qg λx=>by rw [x,h017]at e;cases e];exact Jj I b cs e
  cases hout:σ.out with
  |nil=>
   obtain⟨H2,a1,a2⟩:=h1.appNil (esz:=5) (ebytes:=48) (k:=1) (new:=[iv k,.str s,iv n,iv σ.line,iv σ.col]) (by simp) (by omega) (by omega) (by omega)
   refine⟨_,H2,_,a1,rfl,_,rfl,trivial,rfl,?_⟩
   have:=fin _ H2 a2 ((qg (Ne.symm hn2)).trans er) (by rw [qf,hout];rfl) λb cs e=>(qg (neK e h02)).trans (hsub b cs e)
   rw [hout]at this;exact this
  |cons t l=>
   have ho:σ.out≠[]:=by rw [hout];simp
   have hob:ob≠nx+17:=neK (Xq I ho) hf
   have eo:gup (nx+17) (some [iv k,.str s,iv n,iv σ.line,iv σ.col]) (scG Γ0 r ob σ) ob=some (σ.out.flatMap jd):=(qg hob).trans (Xq I ho)
   have hfl:=Jc σ.out
   obtain⟨H2,a1,a2⟩:=h1.app (esz:=5) (ebytes:=48) (k:=1) (len:=σ.out.length) (new:=[iv k,.str s,iv n,iv σ.line,iv σ.col]) eo (by omega) (by simp) (by omega) (by omega) (by omega)
   have ev:JH ob (t::l)= .slice ob 0 σ.out.length 5 false:=by rw [hout];rfl
   rw [ev];refine⟨_,H2,_,a1,rfl,_,rfl,trivial,rfl,?_⟩
   refine fin _ H2 a2 ?_ ?_ λb cs e=> ?_
   ·rw [qg (Ne.symm hn2),qg (Ne.symm I.ne)];exact er
   ·rw [qf,<-hfl,List.take_length,List.flatMap_append];rfl
   ·exact(qg (neK e h02)).trans ((qg (neK e I.o0)).trans (hsub b cs e))
theorem qmr{a b:UInt8}:a<=b↔a.toNat<=b.toNat:=UInt8.le_iff_toNat_le
theorem wC{c:UInt8}:Pt.letter c=true↔(97<=c.toNat/\c.toNat<=122)\/(65<=c.toNat/\c.toNat<=90)\/c.toNat=95:=by
 unfold Pt.letter;simp only [Bool.or_eq_true,Bool.and_eq_true,decide_eq_true_eq,beq_iff_eq,qmr,<-UInt8.toNat_inj]
 show((97<=c.toNat/\c.toNat<=122)\/(65<=c.toNat/\c.toNat<=90))\/c.toNat=95↔_
 rw [or_assoc]
theorem wt{c:UInt8}:Pt.digit c=true↔48<=c.toNat/\c.toNat<=57:=by
 unfold Pt.digit;simp only [Bool.and_eq_true,decide_eq_true_eq,qmr]
 rfl
theorem KL{a b:Bool}(h:a=true↔b=true):a=b:=by cases a<;>cases b<;>simp_all
theorem K6{c:UInt8}(h:K (.ret (.bool (Pt.letter c))) H nx):qk PG vi [bv (Int.ofNat c.toNat)] H nx K:=by
 refine qk.of_body qr ?_
 rw [Wu];have yes:(97<=c.toNat/\c.toNat<=122)\/(65<=c.toNat/\c.toNat<=90)\/c.toNat=95->K (.ret (.bool true)) H nx:=λe=>by rw [wC.2 e]at h;exact h
 have last:¬(97<=c.toNat/\c.toNat<=122)->¬(65<=c.toNat/\c.toNat<=90)->K (.ret (.bool (decide (Int.ofNat c.toNat=95)))) H nx:=λe1 e2=>by
  have:Pt.letter c=decide (Int.ofNat c.toNat=95):=KL (wC.trans ⟨λx=>by simp;omega,λx=>by simp at x;omega⟩)
  rw [this]at h;exact h
 have mid:¬(97<=c.toNat/\c.toNat<=122)->ifB (decide (65<=Int.ofNat c.toNat)) (ifB (decide (Int.ofNat c.toNat<=90)) (K (.ret (.bool true)) H nx) (K (.ret (.bool (decide (Int.ofNat c.toNat=95)))) H nx)) (K (.ret (.bool (decide (Int.ofNat c.toNat=95)))) H nx):=λe=>by
  refine qi.2 ⟨λh1=>qi.2 ⟨λh2=>yes ?_,λh2=>last e ?_⟩,λh1=>last e ?_⟩
  ·have h1:65<=(c.toNat:Int):=of_decide_eq_true h1
   have h2:(c.toNat:Int)<=90:=of_decide_eq_true h2
   omega
  ·have h2:¬(c.toNat:Int)<=90:=of_decide_eq_false h2
   omega
  ·have h1:¬65<=(c.toNat:Int):=of_decide_eq_false h1
   omega
 refine qi.2 ⟨λh1=>qi.2 ⟨λh2=>yes ?_,λh2=>mid ?_⟩,λh1=>mid ?_⟩
 ·have h1:97<=(c.toNat:Int):=of_decide_eq_true h1
  have h2:(c.toNat:Int)<=122:=of_decide_eq_true h2
  omega
 ·have h2:¬(c.toNat:Int)<=122:=of_decide_eq_false h2
  omega
 ·have h1:¬97<=(c.toNat:Int):=of_decide_eq_false h1
  omega
theorem JW{c:UInt8}(h:K (.ret (.bool (Pt.digit c))) H nx):qk PG kB [bv (Int.ofNat c.toNat)] H nx K:=by
 refine qk.of_body qr ?_
 rw [X4];refine qi.2 ⟨λh1=> ?_,λh1=> ?_⟩
 ·have h1:48<=(c.toNat:Int):=of_decide_eq_true h1
  have:Pt.digit c=decide (Int.ofNat c.toNat<=57):=KL (wt.trans ⟨λx=>by simp;omega,λx=>by simp at x;omega⟩)
  rw [this]at h;exact h
 ·have h1:¬48<=(c.toNat:Int):=of_decide_eq_false h1
  have:Pt.digit c=false:=by
   cases e:Pt.digit c with
   |false=>rfl
   |true=>have:=wt.1 e;omega
  rw [this]at h;exact h
theorem qY{s u:List UInt8}{p q:Prop}(h1:s=u->p)(h2:s≠u->q):ifB (s==u) p q:=qi.2 ⟨λe=>h1 (by simpa using e),λe=>h2 (by simpa using e)⟩
theorem qc8{s:List UInt8}(h:K (.ret (.bool (Pt.isWord s))) H nx):qk PG QG [.str s] H nx K:=by
 refine qk.of_body qr ?_
 rw [Wc];have yes:s∈Pt.words->K (.ret (.bool true)) H nx:=λe=>by unfold Pt.isWord at h;rw [decide_eq_true e]at h;exact h
 refine qY (λe=>yes (by subst e;decide)) λe0=> ?_
 refine qY (λe=>yes (by subst e;decide)) λe1=> ?_
 refine qY (λe=>yes (by subst e;decide)) λe2=> ?_
 refine qY (λe=>yes (by subst e;decide)) λe3=> ?_
 refine qY (λe=>yes (by subst e;decide)) λe4=> ?_
 refine qY (λe=>yes (by subst e;decide)) λe5=> ?_
 refine qY (λe=>yes (by subst e;decide)) λe6=> ?_
 refine qY (λe=>yes (by subst e;decide)) λe7=> ?_
 refine qY (λe=>yes (by subst e;decide)) λe8=> ?_
 refine qY (λe=>yes (by subst e;decide)) λe9=> ?_
 refine qY (λe=>yes (by subst e;decide)) λe10=> ?_
 refine qY (λe=>yes (by subst e;decide)) λe11=> ?_
 refine qY (λe=>yes (by subst e;decide)) λe12=> ?_
 refine qY (λe=>yes (by subst e;decide)) λe13=> ?_
 refine qY (λe=>yes (by subst e;decide)) λe14=> ?_
 refine qY (λe=>yes (by subst e;decide)) λe15=> ?_
 refine qY (λe=>yes (by subst e;decide)) λe16=> ?_
 refine qY (λe=>yes (by subst e;decide)) λe17=> ?_
 refine qY (λe=>yes (by subst e;decide)) λe18=> ?_
 refine qY (λe=>yes (by subst e;decide)) λe19=> ?_
 refine qY (λe=>yes (by subst e;decide)) λe20=> ?_
 refine qY (λe=>yes (by subst e;decide)) λe21=> ?_
 have:Pt.isWord s=false:=decide_eq_false λe=>by
  simp only [Pt.words,List.mem_cons,List.not_mem_nil,or_false]at e
  rcases e with e|e|e|e|e|e|e|e|e|e|e|e|e|e|e|e|e|e|e|e|e|e
  ·exact e0 e
  ·exact e1 e
  ·exact e2 e
  ·exact e3 e
  ·exact e4 e
  ·exact e5 e
  ·exact e6 e
  ·exact e7 e
  ·exact e8 e
  ·exact e9 e
  ·exact e10 e
  ·exact e11 e
  ·exact e12 e
  ·exact e13 e
  ·exact e14 e
  ·exact e15 e
  ·exact e16 e
  ·exact e17 e
  ·exact e18 e
  ·exact e19 e
  ·exact e20 e
  ·exact e21 e
 rw [this]at h;exact h
theorem qbe{c:UInt8}(h:K (.ret (.tuple (if c=110 then [bv 10,.bool true]else if c=116 then [bv 9,.bool true]else if c=34\/c=92 then [bv (Int.ofNat c.toNat),.bool true]else [bv 0,.bool false]))) H nx):qk PG Ql [bv (Int.ofNat c.toNat)] H nx K:=by
 refine qk.of_body qr ?_
 rw [We];have ec:∀m:UInt8,c=m↔Int.ofNat c.toNat=Int.ofNat m.toNat:=λm=>by rw [<-UInt8.toNat_inj];show _↔((c.toNat:Int)=(m.toNat:Int));omega
 have st:∀{m:UInt8} {p q:Prop},(c=m->p)->(c≠m->q)->ifB (decide (Int.ofNat c.toNat=Int.ofNat m.toNat)) p q:=λh1 h2=>qi.2 ⟨λe=>h1 ((ec _).2 (of_decide_eq_true e)),λe=>h2 λx=>of_decide_eq_false e ((ec _).1 x)⟩
 refine st (m:=110) (λe=>by rw [if_pos e]at h;exact h) λe1=> ?_
 refine st (m:=116) (λe=>by rw [if_neg e1,if_pos e]at h;exact h) λe2=> ?_
 rw [if_neg e1,if_neg e2]at h;refine st (m:=34) (λe=>by rw [if_pos (.inl e)]at h;exact h) λe3=> ?_
 refine st (m:=92) (λe=>by rw [if_pos (.inr e)]at h;exact h) λe4=> ?_
 rw [if_neg (by intro x;exact x.elim e3 e4)]at h
 exact h
theorem qa9(I:ScI Γ0 r ob σ)(hk:HZ Z (scG Γ0 r ob σ) H nx)(hK:∀H' nx',nx<=nx'->HZ Z (scG Γ0 r ob σ) H' nx'->K (.ret (.bool (Pt.ends σ.out))) H' nx'):qk PG Zg [.ptr r 0] H nx K:=by
 refine qk.of_body qr ?_
 rw [qb3];have l4:ld1 H (.ptr r 4)=some (JH ob σ.out):=by rw [hk.ld1 jy];rfl
 have hfew:=I.few
 refine⟨rfl,_,rfl,_,l4,_,VQ,qi.2 ⟨λh=> ?_,λh=> ?_⟩⟩
 ·have h:(σ.out.length:Int)=0:=of_decide_eq_true h
  have e:σ.out=[]:=List.length_eq_zero_iff.1 (by omega)
  have:=hK H nx lR hk
  rw [e]at this;exact this
 ·have h:¬(σ.out.length:Int)=0:=of_decide_eq_false h
  have ho:σ.out≠[]:=λe=>by rw [e]at h;exact h rfl
  have hl:0<σ.out.length:=by omega
  have ev:JH ob σ.out= .slice ob 0 σ.out.length 5 false:=by
   cases e:σ.out with
   |nil=>exact absurd e ho
   |cons t l=>rfl
  obtain⟨t,ht⟩:∃t,t=σ.out[σ.out.length - 1]'(by omega):=⟨_,rfl⟩
  have hend:Pt.ends σ.out=Pt.endsTok t:=by
   unfold Pt.ends;rw [List.getLast?_eq_getElem?,List.getElem?_eq_getElem (by omega),ht]
  have ei:zq (JH ob σ.out) (i64.wrap (Int.ofNat σ.out.length - 1)).toNat 5=some (.ptr ob ((σ.out.length - 1)*5)):=by
   have:(i64.wrap (Int.ofNat σ.out.length - 1)).toNat=σ.out.length - 1:=by
    rw [qw (by show _<=(σ.out.length:Int) - 1;omega) (by show(σ.out.length:Int) - 1<=_;omega)]
    show((σ.out.length:Int) - 1).toNat=_
    omega
   rw [this,ev,zW (by omega),Nat.zero_add]
  have hfl:=Jc σ.out
  have lt:ldN H 5 (.ptr ob ((σ.out.length - 1)*5))=some (vz t):=by
   rw [hk.ldN (Xq I ho) (by omega),QR (by omega),ht];rfl
  have hf:=hk.fresh (by omega:nx<=nx+12)
  refine⟨rfl,_,rfl,_,l4,rfl,_,rfl,_,l4,_,VQ,by rw [qw (by show _<=(σ.out.length:Int) - 1;omega) (by show(σ.out.length:Int) - 1<=_;omega)];show 0<=(σ.out.length:Int) - 1;omega,_,ei,_,_,_,_,_,lt,?_⟩
  refine kO hk (nx':=nx+14) (by omega) (by omega) λH1 h1=> ?_
  have hne:r≠nx+12:=neK jy hf
  have hob:ob≠nx+12:=neK (Xq I ho) hf
  have m4:ld1 H1 (.ptr r 4)=some (JH ob σ.out):=by rw [h1.ld1 ((qg hne).trans jy)];rfl
  have mt:ldN H1 5 (.ptr ob ((σ.out.length - 1)*5))=some (vz t):=by
   rw [h1.ldN ((qg hob).trans (Xq I ho)) (by omega),QR (by omega),ht];rfl
  refine⟨⟨⟨_,m4,rfl⟩,⟨_,m4,rfl⟩,⟨_,_,_,_,_,mt,rfl⟩,trivial⟩,?_⟩
  refine jj h1 (qf _ _ _) rfl rfl λH2 h2=>⟨trivial,_,rfl,t.kind,by rw [h2.ld1 (qf _ _ _)];rfl,?_⟩
  rw [km]at h2;have fin:∀{b:Bool},Pt.endsTok t=b->K (.ret (.bool b)) H2 (nx+14):=λe=>by rw [<-e,<-hend];exact hK _ _ (by omega) (h2.drop hf)
  have l1:ld1 H2 (.ptr (nx+12) 1)=some (.str t.text):=by rw [h2.ld1 (qf _ _ _)];rfl
  have kd:∀{m:Int} {p q:Prop},(t.kind=m->p)->(t.kind≠m->q)->ifB (decide (t.kind=m)) p q:=λh1 h2=>qi.2 ⟨λe=>h1 (of_decide_eq_true e),λe=>h2 (of_decide_eq_false e)⟩
  refine kd (λe=>fin (by simp [Pt.endsTok,e])) λe1=> ?_
  refine kd (λe=>fin (by simp [Pt.endsTok,e])) λe2=> ?_
  refine kd (λe=>fin (by simp [Pt.endsTok,e])) λe3=> ?_
  refine kd (λe=>⟨_,rfl,_,l1,?_⟩) λe4=> ?_
  ·have et:Pt.endsTok t=decide (t.text∈Pt.endWords):=by unfold Pt.endsTok;rw [if_neg (by omega),if_pos e]
   have yes:t.text∈Pt.endWords->K (.ret (.bool true)) H2 (nx+14):=λe=>fin (by rw [et,decide_eq_true e])
   refine qY (λe=>yes (by rw [e];decide)) λf0=> ?_
   refine qY (λe=>yes (by rw [e];decide)) λf1=> ?_
   refine qY (λe=>yes (by rw [e];decide)) λf2=> ?_
   refine qY (λe=>yes (by rw [e];decide)) λf3=> ?_
   refine qY (λe=>yes (by rw [e];decide)) λf4=> ?_
   refine qY (λe=>yes (by rw [e];decide)) λf5=> ?_
   refine qY (λe=>yes (by rw [e];decide)) λf6=> ?_
   refine qY (λe=>yes (by rw [e];decide)) λf7=> ?_
   refine qY (λe=>yes (by rw [e];decide)) λf8=> ?_
   refine fin (by rw [et];refine decide_eq_false λe=> ?_;simp only [Pt.endWords,List.mem_cons,List.not_mem_nil,or_false]at e;rcases e with e|e|e|e|e|e|e|e|e;exact f0 e;exact f1 e;exact f2 e;exact f3 e;exact f4 e;exact f5 e;exact f6 e;exact f7 e;exact f8 e)
  ·refine kd (λe=>⟨_,rfl,_,l1,?_⟩) λe5=>fin (by unfold Pt.endsTok;rw [if_neg (by omega),if_neg e4,if_neg e5])
   have et:Pt.endsTok t=(t.text=[41]||t.text=[93]||t.text=[125]:Bool):=by unfold Pt.endsTok;rw [if_neg (by omega),if_neg e4,if_pos e]
   refine qY (λe=>fin (by rw [et,e];rfl)) λf1=>⟨_,rfl,_,l1,?_⟩
   refine qY (λe=>fin (by rw [et,e];rfl)) λf2=>⟨_,rfl,_,l1,?_⟩
   exact fin (by rw [et];simp only [f1,f2,decide_false,Bool.false_or];rw [Bool.eq_iff_iff];simp)
end
theorem yX{p:UInt8->Bool}:∀{u:List UInt8} {n:Nat},n<=(u.takeWhile p).length->(∀c,u[n]?=some c->(p c=true->n+1<=(u.takeWhile p).length)/\(p c=false->(u.takeWhile p).length=n))/\(u[n]?=none->(u.takeWhile p).length=n)
 |[],n,h=>⟨λc e=>by simp at e,λ_=>by simp at h ⊢;omega⟩
 |x::u,0,h=>by
  refine⟨λc e=> ?_,λe=>by simp at e⟩
  have:x=c:=by simpa using e
  subst this;refine⟨λhp=>by rw [List.takeWhile_cons,if_pos hp];simp,λhp=>by rw [List.takeWhile_cons,if_neg (by rw [hp];simp)];rfl⟩
 |x::u,n+1,h=>by
  by_cases hx:p x=true
  ·rw [List.takeWhile_cons,if_pos hx]at h ⊢;have:=yX (p:=p) (u:=u) (n:=n) (by simpa using h)
   simp only [List.getElem?_cons_succ,List.length_cons]
   refine⟨λc e=>⟨λhp=>by have:=(this.1 c e).1 hp;omega,λhp=>by have:=(this.1 c e).2 hp;omega⟩,λe=>by have:=this.2 e;omega⟩
  ·rw [List.takeWhile_cons,if_neg hx]at h;simp at h
theorem Q4{p:UInt8->Bool}:∀{u:List UInt8},u.take (u.takeWhile p).length=u.takeWhile p
 |[]=>rfl
 |x::u=>by
  rw [List.takeWhile_cons];split
  ·simp [Q4 (p:=p) (u:=u)]
  ·rfl
theorem Vj{p:UInt8->Bool}{u:List UInt8}:(u.takeWhile p).length<=u.length:=by
 have:=congrArg List.length (Q4 (p:=p) (u:=u))
 rw [List.length_take]at this;omega
theorem qma(call:zA)(lp:Nat->jk)(lv:zU)(lvc:zT)(r:Nat)(x n v:Int)(s:List UInt8)(H:qd)(nx:Nat)(K:qv):
  qx PG call (lp 45) 45 (qe PG vU) [1,1,1,1,0,0] (qy PG lv lvc K (qF PG vU)) .ret (qj .und [(0,.ptr r 0),(2,iv x),(3,.str s),(4,iv n),(5,uv v)]) H nx [] none=K (.ret (iv x)) H nx:=by kernel_rfl
section
variable{Γ0:GH}{r ob nx:Nat}{σ:Sst}{H:qd}{K:qv}
def RdK(Z:Nat->Prop)(Γ0:GH)(r nx:Nat)(σ:Sst)(K:qv)(res:Except Int (Int×List UInt8×Int×Nat)):Prop:=match res with
 | .ok (k,tx,v,n)=>(4000<=σ.out.length->∀ob H' nx',nx<=nx'->Γ0 ob=none->ob≠r->HZ Z (scG Γ0 r ob {σ with bad:=6,wl:=σ.line,wc:=σ.col}) H' nx'->K (.ret (iv n)) H' nx')/\
  (¬4000<=σ.out.length->∀ob H' nx',nx<=nx'->Γ0 ob=none->ob≠r->HZ Z (scG Γ0 r ob {σ with out:=σ.out++[⟨k,tx,v,σ.line,σ.col⟩]}) H' nx'->K (.ret (iv n)) H' nx')
 | .error e=>∀ob H' nx',nx<=nx'->Γ0 ob=none->ob≠r->HZ Z (scG Γ0 r ob {σ with bad:=e,wl:=σ.line,wc:=σ.col}) H' nx'->K (.ret (iv 0)) H' nx'
theorem RdK.put{k v:Int}{tx:List UInt8}{n:Nat}{m:Int}(h:RdK Z Γ0 r nx σ K (.ok (k,tx,v,n)))(hm:m=n)(I:ScI Γ0 r ob σ){nx1:Nat}(hn:nx<=nx1)(hk:HZ Z (scG Γ0 r ob σ) H nx1){pK:List (qa×Bool)->qd->Nat->Prop}:
  qk PG qz [.ptr r 0,iv k,.str tx,iv v] H nx1 λe H' nx'=>qc e (λ_=>K (.ret (iv m)) H' nx') λl=>pK l H' nx':=by
 subst hm;exact Z1 I hk (λhf H' nx' h1 h2=>qb.2 (h.1 hf ob H' nx' (by omega) I.o0 I.ne h2)) λhf ob' H' nx' h1 h2 h3 h4=>qb.2 (h.2 hf ob' H' nx' (by omega) h2 h3 h4)
theorem RdK.flt{e:Int}(h:RdK Z Γ0 r nx σ K (.error e))(I:ScI Γ0 r ob σ)(hb:σ.bad=0){nx1:Nat}(hn:nx<=nx1)(hk:HZ Z (scG Γ0 r ob σ) H nx1){pK:List (qa×Bool)->qd->Nat->Prop}:
  qk PG z4 [.ptr r 0,iv e] H nx1 λe H' nx'=>qc e (λ_=>K (.ret (iv 0)) H' nx') λl=>pK l H' nx':=
 Zh I hb hk λH' nx' h1 h2=>qb.2 (h ob H' nx' (by omega) I.o0 I.ne h2)
theorem YE(I:ScI Γ0 r ob σ)(hk:HZ Z (scG Γ0 r ob σ) H nx)(hK:∀nx',nx<=nx'->HZ Z (scG Γ0 r ob σ) H nx'->K (.ret (iv ((σ.s.drop σ.a).takeWhile λc=>c !=10).length)) H nx'):qk PG Jd [.ptr r 0] H nx K:=by
 refine qk.of_body qr ?_
 rw [Vw];obtain⟨u,hu⟩:∃u,u=σ.s.drop σ.a:=⟨_,rfl⟩
 rw [<-hu]at hK;have hul:u.length<=16384:=by have:=I.len;rw [hu,List.length_drop];omega
 refine wB I hk λnx1 h1 hk1=>qb.2 ⟨_,rfl,?_⟩
 rw [<-hu];have htw:=Vj (p:=λc:UInt8=>c !=10) (u:=u)
 refine zu (P:=PG) (X:=Nat) (Y:=Nat) (λn=>qj .und [(0,.ptr r 0),(2,iv 0),(3,iv n),(4,.str u)]) (λn=>qj .und [(4,.str u),(3,iv n),(0,.ptr r 0)])
  (λm n H2 nx2=>H2=H/\nx2=nx1/\m=u.length - n/\n<=(u.takeWhile λc=>c !=10).length)
  (λid n H2 nx2=>id=0/\H2=H/\nx2=nx1/\n=(u.takeWhile λc=>c !=10).length) (u.length - 0) 0 (ql.okay) ⟨rfl,rfl,rfl,by omega⟩ ?_ ?_
 ·rintro m n H2 nx2 ⟨rfl,rfl,rfl,hn⟩
  refine WpP.trim (ts:=[0,2,3,4]) (WpP.weaken (e:=qj .und [(4,.str u),(3,iv n),(2,iv 0),(0,.ptr r 0)]) (ql.okay) (WpP.of_vK qr ?_))
  rw [qk4];have hs:=yX hn
  have out:(u.takeWhile λc=>c !=10).length=n->_:=λe=>(⟨rfl,n,ql.okay,rfl,rfl,rfl,e.symm⟩:([]:Dfs)=([]:Dfs)/\∃y,ql (qj .und [(4,.str u),(3,iv (y:Nat)),(0,.ptr r 0)]) (qj .und [(0,.ptr r 0),(2,iv 0),(3,iv n),(4,.str u)])/\0=0/\H2=H2/\nx2=nx2/\y=(u.takeWhile λc=>c !=10).length)
  refine qi.2 ⟨λh=> ?_,λh=> ?_⟩
  ·have h:(n:Int)<(u.length:Int):=of_decide_eq_true h
   have hlt:n<u.length:=by omega
   refine⟨by omega,u[n],by simp [hlt],qi.2 ⟨λh2=> ?_,λh2=> ?_⟩⟩
   ·have hp:(u[n] !=10)=true:=by
     rw [bne_iff_ne];intro e;have h2:¬(Int.ofNat u[n].toNat=10):=by simpa using h2
     rw [e]at h2;exact h2 rfl
    have:=(hs.1 u[n] (by simp [hlt])).1 hp
    refine⟨rfl,u.length - (n+1),n+1,by omega,ql.of_list (by rw [qw (by omega) (by omega)];exact⟨rfl,rfl,rfl,rfl,trivial⟩),rfl,rfl,rfl,this⟩
   ·have hp:(u[n] !=10)=false:=by
     have h2:Int.ofNat u[n].toNat=10:=by simpa using h2
     have:u[n]=10:=by rw [<-UInt8.toNat_inj];show u[n].toNat=10;have h2:(u[n].toNat:Int)=10:=h2;omega
     simp [this]
    exact out ((hs.1 u[n] (by simp [hlt])).2 hp)
  ·have h:¬(n:Int)<(u.length:Int):=of_decide_eq_false h
   exact out (hs.2 (by rw [List.getElem?_eq_none (by omega)]))
 ·rintro id n H2 nx2 ⟨rfl,rfl,rfl,hn⟩
  refine Eq.mpr (qhl (qk PG) (LpP PG) (zx (qB PG)) (qS PG (qB PG)) r n u H2 nx2 K) ?_
  rw [hn];exact hK _ h1 hk1
theorem qdo{u:List UInt8}{n:Nat}:List.take ((some ((n:Nat):Int).toNat).getD u.length - 0) (List.drop 0 u)=u.take n:=by simp
theorem Kc{u:List UInt8}{n:Nat}(h:n<=u.length):(some ((n:Nat):Int).toNat).getD u.length<=u.length:=by simpa using h
theorem qji(I:ScI Γ0 r ob σ)(hk:HZ Z (scG Γ0 r ob σ) H nx){w:List UInt8}(hw:w=(σ.s.drop σ.a).takeWhile λc=>Pt.letter c||Pt.digit c)(hK:RdK Z Γ0 r nx σ K (.ok (if Pt.isWord w then 3 else 2,w,0,w.length))):qk PG Jv [.ptr r 0] H nx K:=by
 refine qk.of_body qr ?_
 rw [qak];obtain⟨u,hu⟩:∃u,u=σ.s.drop σ.a:=⟨_,rfl⟩
 rw [<-hu]at hw;have hul:u.length<=16384:=by have:=I.len;rw [hu,List.length_drop];omega
 refine wB I hk λnx1 h1 hk1=>qb.2 ⟨_,rfl,?_⟩
 rw [<-hu];have htw:=Vj (p:=λc:UInt8=>Pt.letter c||Pt.digit c) (u:=u)
 refine zu (P:=PG) (X:=Nat) (Y:=Nat) (λn=>qj .und [(0,.ptr r 0),(2,iv 0),(3,.str u),(4,iv n)]) (λn=>qj .und [(4,iv n),(3,.str u),(0,.ptr r 0)])
  (λm n H2 nx2=>H2=H/\nx2=nx1/\m=u.length - n/\n<=w.length)
  (λid n H2 nx2=>id=0/\H2=H/\nx2=nx1/\n=w.length) (u.length - 0) 0 (ql.okay) ⟨rfl,rfl,rfl,by omega⟩ ?_ ?_
 ·rintro m n H2 nx2 ⟨rfl,rfl,rfl,hn⟩
  refine WpP.trim (ts:=[0,2,3,4]) (WpP.weaken (e:=qj .und [(4,iv n),(3,.str u),(2,iv 0),(0,.ptr r 0)]) (ql.okay) (WpP.of_vK qr ?_))
  rw [qiy];rw [hw]at hn;have hs:=yX hn
  rw [<-hw]at hs;have out:w.length=n->_:=λe=>(⟨rfl,n,ql.okay,rfl,rfl,rfl,e.symm⟩:([]:Dfs)=([]:Dfs)/\∃y,ql (qj .und [(4,iv (y:Nat)),(3,.str u),(0,.ptr r 0)]) (qj .und [(0,.ptr r 0),(2,iv 0),(3,.str u),(4,iv n)])/\0=0/\H2=H2/\nx2=nx2/\y=w.length)
  refine qi.2 ⟨λh=> ?_,λh=> ?_⟩
  ·have h:(n:Int)<(u.length:Int):=of_decide_eq_true h
   have hlt:n<u.length:=by omega
   have hget:u[(n:Int).toNat]?=some u[n]:=by simp [hlt]
   have on:(Pt.letter u[n]||Pt.digit u[n])=true->_:=λhp=>(⟨rfl,u.length - (n+1),n+1,by omega,ql.of_list (by rw [qw (by omega) (by omega)];exact⟨rfl,rfl,rfl,rfl,trivial⟩),rfl,rfl,rfl,(hs.1 u[n] (by simp [hlt])).1 hp⟩:
    ([]:Dfs)=([]:Dfs)/\∃m' n',m'<u.length - n/\ql (qj .und [(0,.ptr r 0),(2,iv 0),(3,.str u),(4,iv (n':Nat))]) (qj .und [(0,.ptr r 0),(2,iv 0),(3,.str u),(4,iv (i64.wrap (n+1)))])/\H2=H2/\nx2=nx2/\m'=u.length - n'/\n'<=w.length)
   refine⟨by omega,u[n],hget,K6 (qb.2 ⟨_,rfl,qi.2 ⟨λh2=>on (by simp [h2]),λh2=>⟨by omega,u[n],hget,JW (qb.2 ⟨_,rfl,qi.2 ⟨λh3=>on (by simp [h3]),λh3=> ?_⟩⟩)⟩⟩⟩)⟩
   exact out ((hs.1 u[n] (by simp [hlt])).2 (by simp [h2,h3]))
  ·have h:¬(n:Int)<(u.length:Int):=of_decide_eq_false h
   exact out (hs.2 (by rw [List.getElem?_eq_none (by omega)]))
 ·rintro id n H2 nx2 ⟨rfl,rfl,rfl,hn⟩
  refine Eq.mpr (qhz (qk PG) (LpP PG) (zx (qB PG)) (qS PG (qB PG)) r n u H2 nx2 K) ?_
  have hle:n<=u.length:=by rw [hn,hw];exact htw
  have ew:List.take ((some ((n:Nat):Int).toNat).getD u.length - 0) (List.drop 0 u)=w:=by rw [qdo,hn,hw,Q4]
  rw [ew];refine⟨by omega,Kc hle,by omega,qc8 (qb.2 ⟨_,rfl,qi.2 ⟨λh2=>⟨by omega,Kc hle,by omega,?_⟩,λh2=>⟨by omega,Kc hle,by omega,?_⟩⟩⟩)⟩
  ·rw [h2]at hK;exact hK.put (by omega) I (by omega) hk1
  ·rw [h2]at hK;exact hK.put (by omega) I (by omega) hk1
theorem qia{n:Int}(h0:0<=n)(h1:n<18446744073709551616):IntKind.u64.wrap n=n:=by simp only [IntKind.wrap,IntKind.signed,IntKind.bits];simp;omega
theorem wu8{n:Int}(h0:0<=n)(h1:n<256):IntKind.u8.wrap n=n:=by simp only [IntKind.wrap,IntKind.signed,IntKind.bits];simp;omega
theorem kR{u:List UInt8}{n:Nat}(h:n<u.length):u.drop n=u[n]::u.drop (n+1):=List.drop_eq_getElem_cons h
theorem qbt(I:ScI Γ0 r ob σ)(hb:σ.bad=0)(hk:HZ Z (scG Γ0 r ob σ) H nx){w:List UInt8}(hw:w=(σ.s.drop σ.a).takeWhile Pt.digit)
  (hK:RdK Z Γ0 r nx σ K (match Pt.numGo 0 (σ.s.drop σ.a)with|some v=> .ok (4,w,v,w.length)|none=> .error 12)):qk PG vU [.ptr r 0] H nx K:=by
 refine qk.of_body qr ?_
 rw [Ws];obtain⟨u,hu⟩:∃u,u=σ.s.drop σ.a:=⟨_,rfl⟩
 rw [<-hu]at hw hK;have hul:u.length<=16384:=by have:=I.len;rw [hu,List.length_drop];omega
 refine wB I hk λnx1 h1 hk1=>qb.2 ⟨_,rfl,?_⟩
 rw [<-hu];have htw:=Vj (p:=Pt.digit) (u:=u)
 refine zu (P:=PG) (X:=Nat×Nat) (Y:=Nat×Nat) (λn=>qj .und [(0,.ptr r 0),(2,iv 0),(3,.str u),(4,iv n.1),(5,uv n.2)]) (λn=>qj .und [(5,uv n.2),(4,iv n.1),(3,.str u),(0,.ptr r 0)])
  (λm n H2 nx2=>H2=H/\nx2=nx1/\m=u.length - n.1/\n.1<=w.length/\n.2<=9223372036854775807/\Pt.numGo 0 u=Pt.numGo n.2 (u.drop n.1))
  (λid n H2 nx2=>id=0/\H2=H/\nx2=nx1/\n.1=w.length/\n.2<=9223372036854775807/\Pt.numGo 0 u=some n.2) (u.length - 0) (0,0) (ql.okay) ⟨rfl,rfl,rfl,by simp,by simp,rfl⟩ ?_ ?_
 ·rintro m ⟨n,v⟩ H2 nx2 ⟨rfl,rfl,rfl,hn,hv,hg⟩
  dsimp only at hn hv hg ⊢
  refine WpP.trim (ts:=[0,2,3,4,5]) (WpP.weaken (e:=qj .und [(5,uv v),(4,iv n),(3,.str u),(2,iv 0),(0,.ptr r 0)]) (ql.okay) (WpP.of_vK qr ?_))
  rw [qmb];rw [hw]at hn;have hs:=yX hn
  rw [<-hw]at hs;have out:w.length=n->Pt.numGo v (u.drop n)=some v->_:=λe e2=>(⟨rfl,(n,v),ql.okay,rfl,rfl,rfl,e.symm,hv,hg.trans e2⟩:
   ([]:Dfs)=([]:Dfs)/\∃y:Nat×Nat,ql (qj .und [(5,uv y.2),(4,iv y.1),(3,.str u),(0,.ptr r 0)]) (qj .und [(0,.ptr r 0),(2,iv 0),(3,.str u),(4,iv n),(5,uv v)])/\0=0/\H2=H2/\nx2=nx2/\y.1=w.length/\y.2<=9223372036854775807/\Pt.numGo 0 u=some y.2)
  refine qi.2 ⟨λh=> ?_,λh=> ?_⟩
  ·have h:(n:Int)<(u.length:Int):=of_decide_eq_true h
   have hlt:n<u.length:=by omega
   have hget:u[(n:Int).toNat]?=some u[n]:=by simp [hlt]
   have hd:u.drop n=u[n]::u.drop (n+1):=kR hlt
   refine⟨by omega,u[n],hget,JW (qb.2 ⟨_,rfl,qi.2 ⟨λh2=> ?_,λh2=> ?_⟩⟩)⟩
   ·obtain⟨d1,d2⟩:=wt.1 h2
    obtain⟨d,hd0⟩:∃d,d=u[n].toNat - 48:=⟨_,rfl⟩
    have e1:IntKind.u64.wrap (IntKind.u8.wrap (Int.ofNat u[n].toNat - 48))=(d:Int):=by
     have:Int.ofNat u[n].toNat - 48=(d:Int):=by show(u[n].toNat:Int) - 48=_;omega
     rw [this,wu8 (by omega) (by omega),qia (by omega) (by omega)]
    have e2:(IntKind.u64.wrap (9223372036854775807 - (d:Int))).tdiv 10=(((9223372036854775807 - d) / 10:Nat):Int):=by
     rw [qia (by omega) (by omega),Int.tdiv_eq_ediv_of_nonneg (by omega)];omega
    have hg':Pt.numGo 0 u=if(9223372036854775807 - d) / 10<v then none else Pt.numGo (10*v+d) (u.drop (n+1)):=by
     rw [hg,hd,Pt.numGo,if_pos h2,<-hd0]
    refine⟨by omega,u[n],hget,by decide,?_⟩
    rw [e1,e2,qia (n:=(((9223372036854775807 - d) / 10:Nat):Int)) (by omega) (by omega)]
    refine qi.2 ⟨λh3=> ?_,λh3=> ?_⟩
    ·have h3:(((9223372036854775807 - d) / 10:Nat):Int)<(v:Int):=of_decide_eq_true h3
     rw [if_pos (by omega)]at hg'
     rw [hg']at hK;refine Zh I hb hk1 λH' nx' g1 g2=>qb.2 ?_
     exact Eq.mpr (qma (qk PG) (LpP PG) (zx (qB PG)) (qS PG (qB PG)) r 0 n v u H' nx' K) (hK ob H' nx' (by omega) I.o0 I.ne g2)
    ·have h3:¬(((9223372036854775807 - d) / 10:Nat):Int)<(v:Int):=of_decide_eq_false h3
     rw [if_neg (by omega)]at hg'
     have:=(hs.1 u[n] (by simp [hlt])).1 h2
     refine⟨rfl,u.length - (n+1),(n+1,10*v+d),by omega,ql.of_list ?_,rfl,rfl,rfl,this,?_,hg'⟩
     ·rw [qw (by omega) (by omega),qia (n:=10*(v:Int)) (by omega) (by omega),qia (by omega) (by omega),show(10*(v:Int)+(d:Int))=((10*v+d:Nat):Int) by omega]
      exact⟨rfl,rfl,rfl,rfl,rfl,trivial⟩
     ·show 10*v+d<=_;omega
   ·exact out ((hs.1 u[n] (by simp [hlt])).2 h2) (by rw [hd,Pt.numGo,if_neg (by rw [h2];simp)])
  ·have h:¬(n:Int)<(u.length:Int):=of_decide_eq_false h
   exact out (hs.2 (by rw [List.getElem?_eq_none (by omega)])) (by rw [List.drop_eq_nil_of_le (by omega)];rfl)
 ·rintro id ⟨n,v⟩ H2 nx2 ⟨rfl,rfl,rfl,hn,hv,hg⟩
  dsimp only at hn hv hg ⊢
  refine Eq.mpr (qmf (qk PG) (LpP PG) (zx (qB PG)) (qS PG (qB PG)) r n v u H2 nx2 K) ?_
  have hle:n<=u.length:=by rw [hn,hw];exact htw
  have ew:List.take ((some ((n:Nat):Int).toNat).getD u.length - 0) (List.drop 0 u)=w:=by rw [qdo,hn,hw,Q4]
  rw [ew,qw (by omega) (by omega)]
  rw [hg]at hK;exact⟨by omega,Kc hle,by omega,hK.put (by omega) I (by omega) hk1⟩
end
section
variable{Γ0:GH}{r ob nx:Nat}{σ:Sst}{H:qd}{K:qv}
theorem qjh{c:UInt8}{s':List UInt8}(I:ScI Γ0 r ob σ)(hb:σ.bad=0)(hk:HZ Z (scG Γ0 r ob σ) H nx)(hu:σ.s.drop σ.a=c::s')(hK:RdK Z Γ0 r nx σ K (Pt.sign c s')):qk PG JK [.ptr r 0] H nx K:=by
 refine qk.of_body qr ?_
 rw [Yy];refine wB I hk λnx1 h1 hk1=>qb.2 ⟨_,rfl,?_⟩
 rw [hu];have ec:∀m:UInt8,c=m↔Int.ofNat c.toNat=Int.ofNat m.toNat:=λm=>by rw [<-UInt8.toNat_inj];show _↔((c.toNat:Int)=(m.toNat:Int));omega
 have st:∀{m:UInt8} {p q:Prop},(c=m->p)->(c≠m->q)->ifB (decide (Int.ofNat c.toNat=Int.ofNat m.toNat)) p q:=λh1 h2=>qi.2 ⟨λe=>h1 ((ec _).2 (of_decide_eq_true e)),λe=>h2 λx=>of_decide_eq_false e ((ec _).1 x)⟩
 have e1:List.take ((some 1).getD (c::s').length - 0) (List.drop 0 (c::s'))=[c]:=rfl
 have one:Pt.sign c s'=(if c=59 then .ok (1,[59],0,1)else if c∈Pt.signs then .ok (6,[c],0,1)else .error 10)->
  ((0:Int)<=0/\∃x40,(c::s')[0]?=some x40/\ifB (decide (Int.ofNat x40.toNat=59)) (qk PG qz [u0 r 0,iv 1,u3 [59],iv 0] H nx1 λe H i=>qc e (λ_=>K (.ret (iv 1)) H i) λl=>K (.pan l) H i)
   (ifB (decide (Int.ofNat x40.toNat=43)) ((0:Int)<=1/\(some 1).getD (c::s').length<=(c::s').length/\0<=(some 1).getD (c::s').length/\qk PG qz [u0 r 0,iv 6,u3 (List.take ((some 1).getD (c::s').length - 0) (List.drop 0 (c::s'))),iv 0] H nx1 λe H i=>qc e (λ_=>K (.ret (iv 1)) H i) λl=>K (.pan l) H i)
   (ifB (decide (Int.ofNat x40.toNat=45)) ((0:Int)<=1/\(some 1).getD (c::s').length<=(c::s').length/\0<=(some 1).getD (c::s').length/\qk PG qz [u0 r 0,iv 6,u3 (List.take ((some 1).getD (c::s').length - 0) (List.drop 0 (c::s'))),iv 0] H nx1 λe H i=>qc e (λ_=>K (.ret (iv 1)) H i) λl=>K (.pan l) H i)
   (ifB (decide (Int.ofNat x40.toNat=42)) ((0:Int)<=1/\(some 1).getD (c::s').length<=(c::s').length/\0<=(some 1).getD (c::s').length/\qk PG qz [u0 r 0,iv 6,u3 (List.take ((some 1).getD (c::s').length - 0) (List.drop 0 (c::s'))),iv 0] H nx1 λe H i=>qc e (λ_=>K (.ret (iv 1)) H i) λl=>K (.pan l) H i)
   (ifB (decide (Int.ofNat x40.toNat=47)) ((0:Int)<=1/\(some 1).getD (c::s').length<=(c::s').length/\0<=(some 1).getD (c::s').length/\qk PG qz [u0 r 0,iv 6,u3 (List.take ((some 1).getD (c::s').length - 0) (List.drop 0 (c::s'))),iv 0] H nx1 λe H i=>qc e (λ_=>K (.ret (iv 1)) H i) λl=>K (.pan l) H i)
   (ifB (decide (Int.ofNat x40.toNat=37)) ((0:Int)<=1/\(some 1).getD (c::s').length<=(c::s').length/\0<=(some 1).getD (c::s').length/\qk PG qz [u0 r 0,iv 6,u3 (List.take ((some 1).getD (c::s').length - 0) (List.drop 0 (c::s'))),iv 0] H nx1 λe H i=>qc e (λ_=>K (.ret (iv 1)) H i) λl=>K (.pan l) H i)
   (ifB (decide (Int.ofNat x40.toNat=60)) ((0:Int)<=1/\(some 1).getD (c::s').length<=(c::s').length/\0<=(some 1).getD (c::s').length/\qk PG qz [u0 r 0,iv 6,u3 (List.take ((some 1).getD (c::s').length - 0) (List.drop 0 (c::s'))),iv 0] H nx1 λe H i=>qc e (λ_=>K (.ret (iv 1)) H i) λl=>K (.pan l) H i)
   (ifB (decide (Int.ofNat x40.toNat=62)) ((0:Int)<=1/\(some 1).getD (c::s').length<=(c::s').length/\0<=(some 1).getD (c::s').length/\qk PG qz [u0 r 0,iv 6,u3 (List.take ((some 1).getD (c::s').length - 0) (List.drop 0 (c::s'))),iv 0] H nx1 λe H i=>qc e (λ_=>K (.ret (iv 1)) H i) λl=>K (.pan l) H i)
   (ifB (decide (Int.ofNat x40.toNat=61)) ((0:Int)<=1/\(some 1).getD (c::s').length<=(c::s').length/\0<=(some 1).getD (c::s').length/\qk PG qz [u0 r 0,iv 6,u3 (List.take ((some 1).getD (c::s').length - 0) (List.drop 0 (c::s'))),iv 0] H nx1 λe H i=>qc e (λ_=>K (.ret (iv 1)) H i) λl=>K (.pan l) H i)
   (ifB (decide (Int.ofNat x40.toNat=33)) ((0:Int)<=1/\(some 1).getD (c::s').length<=(c::s').length/\0<=(some 1).getD (c::s').length/\qk PG qz [u0 r 0,iv 6,u3 (List.take ((some 1).getD (c::s').length - 0) (List.drop 0 (c::s'))),iv 0] H nx1 λe H i=>qc e (λ_=>K (.ret (iv 1)) H i) λl=>K (.pan l) H i)
   (ifB (decide (Int.ofNat x40.toNat=40)) ((0:Int)<=1/\(some 1).getD (c::s').length<=(c::s').length/\0<=(some 1).getD (c::s').length/\qk PG qz [u0 r 0,iv 6,u3 (List.take ((some 1).getD (c::s').length - 0) (List.drop 0 (c::s'))),iv 0] H nx1 λe H i=>qc e (λ_=>K (.ret (iv 1)) H i) λl=>K (.pan l) H i)
   (ifB (decide (Int.ofNat x40.toNat=41)) ((0:Int)<=1/\(some 1).getD (c::s').length<=(c::s').length/\0<=(some 1).getD (c::s').length/\qk PG qz [u0 r 0,iv 6,u3 (List.take ((some 1).getD (c::s').length - 0) (List.drop 0 (c::s'))),iv 0] H nx1 λe H i=>qc e (λ_=>K (.ret (iv 1)) H i) λl=>K (.pan l) H i)
   (ifB (decide (Int.ofNat x40.toNat=91)) ((0:Int)<=1/\(some 1).getD (c::s').length<=(c::s').length/\0<=(some 1).getD (c::s').length/\qk PG qz [u0 r 0,iv 6,u3 (List.take ((some 1).getD (c::s').length - 0) (List.drop 0 (c::s'))),iv 0] H nx1 λe H i=>qc e (λ_=>K (.ret (iv 1)) H i) λl=>K (.pan l) H i)
   (ifB (decide (Int.ofNat x40.toNat=93)) ((0:Int)<=1/\(some 1).getD (c::s').length<=(c::s').length/\0<=(some 1).getD (c::s').length/\qk PG qz [u0 r 0,iv 6,u3 (List.take ((some 1).getD (c::s').length - 0) (List.drop 0 (c::s'))),iv 0] H nx1 λe H i=>qc e (λ_=>K (.ret (iv 1)) H i) λl=>K (.pan l) H i)
   (ifB (decide (Int.ofNat x40.toNat=123)) ((0:Int)<=1/\(some 1).getD (c::s').length<=(c::s').length/\0<=(some 1).getD (c::s').length/\qk PG qz [u0 r 0,iv 6,u3 (List.take ((some 1).getD (c::s').length - 0) (List.drop 0 (c::s'))),iv 0] H nx1 λe H i=>qc e (λ_=>K (.ret (iv 1)) H i) λl=>K (.pan l) H i)
   (ifB (decide (Int.ofNat x40.toNat=125)) ((0:Int)<=1/\(some 1).getD (c::s').length<=(c::s').length/\0<=(some 1).getD (c::s').length/\qk PG qz [u0 r 0,iv 6,u3 (List.take ((some 1).getD (c::s').length - 0) (List.drop 0 (c::s'))),iv 0] H nx1 λe H i=>qc e (λ_=>K (.ret (iv 1)) H i) λl=>K (.pan l) H i)
   (ifB (decide (Int.ofNat x40.toNat=44)) ((0:Int)<=1/\(some 1).getD (c::s').length<=(c::s').length/\0<=(some 1).getD (c::s').length/\qk PG qz [u0 r 0,iv 6,u3 (List.take ((some 1).getD (c::s').length - 0) (List.drop 0 (c::s'))),iv 0] H nx1 λe H i=>qc e (λ_=>K (.ret (iv 1)) H i) λl=>K (.pan l) H i)
   (ifB (decide (Int.ofNat x40.toNat=46)) ((0:Int)<=1/\(some 1).getD (c::s').length<=(c::s').length/\0<=(some 1).getD (c::s').length/\qk PG qz [u0 r 0,iv 6,u3 (List.take ((some 1).getD (c::s').length - 0) (List.drop 0 (c::s'))),iv 0] H nx1 λe H i=>qc e (λ_=>K (.ret (iv 1)) H i) λl=>K (.pan l) H i)
   (qk PG z4 [u0 r 0,iv 10] H nx1 λe H i=>qc e (λ_=>K (.ret (iv 0)) H i) λl=>K (.pan l) H i))))))))))))))))))):=λe=>by
  rw [e]at hK;refine⟨by omega,c,rfl,st (m:=59) (λh=> ?_) λh0=> ?_⟩
  ·rw [if_pos h]at hK;exact hK.put (by rfl) I (by omega) hk1
  rw [if_neg h0]at hK;have yes:c∈Pt.signs->((0:Int)<=1/\(some 1).getD (c::s').length<=(c::s').length/\0<=(some 1).getD (c::s').length/\qk PG qz [u0 r 0,iv 6,u3 (List.take ((some 1).getD (c::s').length - 0) (List.drop 0 (c::s'))),iv 0] H nx1 λe H i=>qc e (λ_=>K (.ret (iv 1)) H i) λl=>K (.pan l) H i):=λh=>by
   rw [if_pos h]at hK;exact⟨by omega,by simp,by simp,by rw [e1];exact hK.put (by rfl) I (by omega) hk1⟩
  refine st (m:=43) (λh=>yes (by rw [h];decide)) λh1=> ?_
  refine st (m:=45) (λh=>yes (by rw [h];decide)) λh2=> ?_
  refine st (m:=42) (λh=>yes (by rw [h];decide)) λh3=> ?_
  refine st (m:=47) (λh=>yes (by rw [h];decide)) λh4=> ?_
  refine st (m:=37) (λh=>yes (by rw [h];decide)) λh5=> ?_
  refine st (m:=60) (λh=>yes (by rw [h];decide)) λh6=> ?_
  refine st (m:=62) (λh=>yes (by rw [h];decide)) λh7=> ?_
  refine st (m:=61) (λh=>yes (by rw [h];decide)) λh8=> ?_
  refine st (m:=33) (λh=>yes (by rw [h];decide)) λh9=> ?_
  refine st (m:=40) (λh=>yes (by rw [h];decide)) λh10=> ?_
  refine st (m:=41) (λh=>yes (by rw [h];decide)) λh11=> ?_
  refine st (m:=91) (λh=>yes (by rw [h];decide)) λh12=> ?_
  refine st (m:=93) (λh=>yes (by rw [h];decide)) λh13=> ?_
  refine st (m:=123) (λh=>yes (by rw [h];decide)) λh14=> ?_
  refine st (m:=125) (λh=>yes (by rw [h];decide)) λh15=> ?_
  refine st (m:=44) (λh=>yes (by rw [h];decide)) λh16=> ?_
  refine st (m:=46) (λh=>yes (by rw [h];decide)) λh17=> ?_
  rw [if_neg (by intro h;simp only [Pt.signs,List.mem_cons,List.not_mem_nil,or_false]at h;rcases h with h|h|h|h|h|h|h|h|h|h|h|h|h|h|h|h|h;exact h1 h;exact h2 h;exact h3 h;exact h4 h;exact h5 h;exact h6 h;exact h7 h;exact h8 h;exact h9 h;exact h10 h;exact h11 h;exact h12 h;exact h13 h;exact h14 h;exact h15 h;exact h16 h;exact h17 h)]at hK
  exact hK.flt I hb (by omega) hk1
 refine qi.2 ⟨λh=> ?_,λh=> ?_⟩
 ·have h:(1:Int)<((c::s').length:Int):=of_decide_eq_true h
  cases s' with
  |nil=>simp at h
  |cons e s'=>
   have e2:List.take ((some 2).getD (c::e::s').length - 0) (List.drop 0 (c::e::s'))=[c,e]:=rfl
   have yes:[c,e]∈Pt.pairs->((0:Int)<=2/\(some 2).getD (c::e::s').length<=(c::e::s').length/\0<=(some 2).getD (c::e::s').length/\qk PG qz [u0 r 0,iv 6,u3 (List.take ((some 2).getD (c::e::s').length - 0) (List.drop 0 (c::e::s'))),iv 0] H nx1 λe H i=>qc e (λ_=>K (.ret (iv 2)) H i) λl=>K (.pan l) H i):=λh=>by
    have:Pt.sign c (e::s')= .ok (6,[c,e],0,2):=by unfold Pt.sign;dsimp only;rw [if_pos h]
    rw [this]at hK;exact⟨by omega,by simp,by simp,by rw [e2];exact hK.put (by rfl) I (by omega) hk1⟩
   refine⟨by omega,by simp,by simp,qY (λh=>yes (by rw [show [c,e]=[58,61]from h];decide)) λh0=> ?_⟩
   refine qY (λh=>yes (by rw [show [c,e]=[61,61]from h];decide)) λh1=> ?_
   refine qY (λh=>yes (by rw [show [c,e]=[33,61]from h];decide)) λh2=> ?_
   refine qY (λh=>yes (by rw [show [c,e]=[60,61]from h];decide)) λh3=> ?_
   refine qY (λh=>yes (by rw [show [c,e]=[62,61]from h];decide)) λh4=> ?_
   refine qY (λh=>yes (by rw [show [c,e]=[38,38]from h];decide)) λh5=> ?_
   refine qY (λh=>yes (by rw [show [c,e]=[124,124]from h];decide)) λh6=> ?_
   refine one ?_
   unfold Pt.sign
   dsimp only
   rw [if_neg (by intro h;simp only [Pt.pairs,List.mem_cons,List.not_mem_nil,or_false]at h;rcases h with h|h|h|h|h|h|h;exact h0 h;exact h1 h;exact h2 h;exact h3 h;exact h4 h;exact h5 h;exact h6 h)]
 ·have h:¬(1:Int)<((c::s').length:Int):=of_decide_eq_false h
  cases s' with
  |nil=>exact one rfl
  |cons e s'=>simp at h;omega
end
end
end Go.Vs
end
section
namespace Go.Vs
namespace Pt
theorem wz:∀(m:Nat) (s:List UInt8) {n:Nat} {out w:List UInt8} {k:Nat},s.length<=m->textGo n out s=some (w,k)->n+1<=k/\k<=n+s.length
 |_,[],_,_,_,_,_,h=>by simp [textGo]at h
 |m+1,c::s,n,out,w,k,hm,h=>by
  have hm':s.length<=m:=by simpa using hm
  rw [textGo.eq_def]at h
  dsimp only at h
  split at h
  ·cases h;simp
  ·split at h
   ·cases s with
    |nil=>simp at h
    |cons e s=>
     simp at hm'
     simp only at h
     split at h
     ·have:=wz m s (by omega) h;simp;omega
     ·split at h
      ·have:=wz m s (by omega) h;simp;omega
      ·split at h
       ·have:=wz m s (by omega) h;simp;omega
       ·cases h
   ·split at h
    ·cases h
    ·have:=wz m s hm' h;simp;omega
theorem qcg{p:UInt8->Bool}:∀{u:List UInt8},(u.takeWhile p).length<=u.length
 |[]=>Nat.le_refl _
 |x::u=>by rw [List.takeWhile_cons];split<;>simp [qcg (p:=p) (u:=u)]
theorem qgp{c:UInt8}{s:List UInt8}{k:Int}{tx:List UInt8}{v:Int}{n:Nat}(h:sign c s= .ok (k,tx,v,n)):1<=n/\n<=s.length+1/\k≠0:=by
 unfold sign at h;cases s with
 |nil=>
  dsimp only at h
  split at h
  ·cases h;simp
  ·split at h
   ·cases h;simp
   ·cases h
 |cons e s=>
  dsimp only at h
  split at h
  ·cases h;simp
  ·split at h
   ·cases h;simp
   ·split at h
    ·cases h;simp
    ·cases h
theorem one_len{c:UInt8}{s:List UInt8}{k:Int}{tx:List UInt8}{v:Int}{n:Nat}(h:one c s= .ok (k,tx,v,n)):1<=n/\n<=s.length+1/\k≠0:=by
 unfold one at h
 dsimp only at h
 split at h
 ·cases h
  have:=qcg (p:=λc=>letter c||digit c) (u:=s)
  refine⟨by simp,by simp;exact this,?_⟩
  split<;>decide
 ·split at h
  ·split at h
   ·cases h
    have:=qcg (p:=digit) (u:=s)
    exact⟨by omega,by omega,by decide⟩
   ·cases h
  ·split at h
   ·split at h
    ·rename_i hg;cases h
     have:=wz s.length s lR hg
     exact⟨by omega,by omega,by decide⟩
    ·cases h
   ·exact qgp h
theorem one_err{c:UInt8}{s:List UInt8}{e:Int}(h:one c s= .error e):e≠0:=by
 unfold one at h
 dsimp only at h
 split at h
 ·cases h
 ·split at h
  ·split at h
   ·cases h
   ·cases h;decide
  ·split at h
   ·split at h
    ·cases h
    ·cases h;decide
   ·unfold sign at h;cases s with
    |nil=>dsimp only at h;split at h<;>first|(cases h;done)|(split at h<;>first|(cases h;done)|(cases h;decide))
    |cons e s=>dsimp only at h;split at h<;>first|(cases h;done)|(split at h<;>first|(cases h;done)|(split at h<;>first|(cases h;done)|(cases h;decide)))
theorem qcb{out:List Tok}{t:Tok}{l:List Tok}(h:put out t= .ok l):l=out++[t]/\out.length<4000:=by
 unfold put at h;split at h
 ·cases h
 ·cases h;exact⟨rfl,by omega⟩
theorem KI{out:List Tok}{t:Tok}{f:Flt}(h:put out t= .error f):f.e=6:=by
 unfold put at h;split at h
 ·cases h;rfl
 ·cases h
theorem Xd{out:List Tok}{line col:Int}{l:List Tok}(h:putEnd out line col= .ok l)(ho:∀t,t∈out->t.kind≠0):∀t,t∈l->t.kind≠0:=by
 unfold putEnd at h;split at h
 ·obtain⟨rfl,_⟩:=qcb h
  intro t ht;rw [List.mem_append]at ht;rcases ht with ht|ht
  ·exact ho t ht
  ·simp at ht;subst ht;show(1:Int)≠0;decide
 ·cases h;exact ho
def ql5(l:List Tok):Prop:=∃l' L C,l=l'++[⟨0,[],0,L,C⟩]/\(∀t,t∈l'->t.kind≠0)/\l'.length<4000
theorem yH:∀f s line col out l,scan f s line col out= .ok l->(∀t,t∈out->t.kind≠0)->ql5 l
 |f,[],line,col,out,l,h,ho=>by
  have h:(putEnd out line col>>=λout=>put out ⟨0,[],0,line,col⟩)= .ok l:=by cases f<;>exact h
  cases he:putEnd out line col with
  |error e=>rw [he]at h;cases h
  |ok o=>
   rw [he]at h;obtain⟨rfl,hl⟩:=qcb h
   exact⟨o,line,col,rfl,Xd he ho,hl⟩
 |0,c::s,_,_,_,_,h,_=>by cases h
 |f+1,c::s,line,col,out,l,h,ho=>by
  rw [scan]at h;split at h
  ·cases he:putEnd out line col with
   |error e=>rw [he]at h;cases h
   |ok o=>
    rw [he]at h;exact yH f s _ _ o l h (Xd he ho)
  ·split at h
   ·exact yH f s _ _ out l h ho
   ·split at h
    ·exact yH f _ _ _ out l h ho
    ·split at h
     ·cases h
     ·rename_i k tx v n h1;cases he:put out ⟨k,tx,v,line,col⟩with
      |error e=>rw [he]at h;cases h
      |ok o=>
       rw [he]at h;obtain⟨rfl,_⟩:=qcb he
       refine yH f _ _ _ _ l h λt ht=> ?_
       rw [List.mem_append]at ht;rcases ht with ht|ht
       ·exact ho t ht
       ·simp at ht;subst ht;exact(one_len h1).2.2
theorem ql5.toks{l:List Tok}(h:ql5 l):zj l:=by
 obtain⟨l',L,C,rfl,h1,h2⟩:=h
 refine⟨by simp,by simp;omega,?_,λi hi=> ?_⟩
 ·unfold Ps.tk;simp [List.getD]
 ·simp at hi
  unfold Ps.tk;rw [List.getD,List.getElem?_append_left hi,List.getElem?_eq_getElem hi];exact h1 _ (List.getElem_mem hi)
theorem toks_good{s:List UInt8}{l:List Tok}(h:toks s= .ok l):ql5 l:=by
 unfold toks at h;split at h
 ·cases h
 ·exact yH _ _ _ _ _ _ h (by simp)
theorem Qn:∀f s line col out e,s.length<=f->scan f s line col out= .error e->e.e≠0
 |f,[],line,col,out,e,_,h=>by
  have h:(putEnd out line col>>=λout=>put out ⟨0,[],0,line,col⟩)= .error e:=by cases f<;>exact h
  cases he:putEnd out line col with
  |error e'=>
   rw [he]at h;have:e'=e:=by cases h;rfl
   subst this;unfold putEnd at he;split at he
   ·rw [KI he];decide
   ·cases he
  |ok o=>rw [he]at h;rw [KI h];decide
 |0,c::s,_,_,_,_,hl,_=>by simp at hl
 |f+1,c::s,line,col,out,e,hl,h=>by
  have hl:s.length<=f:=by simpa using hl
  rw [scan]at h;split at h
  ·cases he:putEnd out line col with
   |error e'=>
    rw [he]at h;have:e'=e:=by cases h;rfl
    subst this;unfold putEnd at he;split at he
    ·rw [KI he];decide
    ·cases he
   |ok o=>rw [he]at h;exact Qn f s _ _ o e hl h
  ·split at h
   ·exact Qn f s _ _ out e hl h
   ·split at h
    ·exact Qn f _ _ _ out e (by simp;omega) h
    ·split at h
     ·rename_i e' h1;cases h
      exact one_err h1
     ·rename_i k tx v n h1;cases he:put out ⟨k,tx,v,line,col⟩with
      |error e'=>
       rw [he]at h;have:e'=e:=by cases h;rfl
       subst this;rw [KI he];decide
      |ok o=>rw [he]at h;exact Qn f _ _ _ o e (by simp;omega) h
theorem toks_err{s:List UInt8}{e:Flt}(h:toks s= .error e):e.e≠0:=by
 unfold toks at h;split at h
 ·cases h;decide
 ·exact Qn _ _ _ _ _ _ lR h
end Pt
end Go.Vs
end
section
namespace Go.Vs
open Go.Proofs
variable [GTab] {Z:Nat->Prop}
noncomputable section
theorem WpP.part{P:Program}{nt:Nat}{c:Code}{env:Env}{H:qd}{nx:Nat}{dfs:Dfs}{K:KP}{ts:List Nat}(hm:P.follows .mixedOrders=true)
  (h:vK P (qk P) (LpP P nt) nt c env H nx dfs none (qW ts (qV (λe H n d _=>K .normal e H n d none) (λid e H n d _=>K (.exit id) e H n d none) (λe H n d _=>K .ret e H n d none) (λl e H n d _=>K (.pan l) e H n d none)))):WpP P nt c env H nx dfs K:=
 WpP.trim (WpP.mono (WpP.of_vK hm h) (by intro ex env' H' nx' dfs' h;cases ex<;>exact h))
def kU(w:List UInt8):List qa:=w.map λb=>qa.int .u8 (.ofNat b.toNat)
theorem Xa:∀w:List UInt8,wZ (kU w)=some w
 |[]=>rfl
 |c::w=>by
  have hb:Nat.ble c.toNat 255=true:=Nat.ble_eq_true_of_le (by have:=c.toNat_lt;omega)
  show wZ (qa.int .u8 (.ofNat c.toNat)::kU w)=_
  rw [wZ,hb,Xa w];simp
theorem HZ.str{Γ:GH}{H:qd}{nx b:Nat}{w:List UInt8}{full:Bool}(h:HZ Z Γ H nx)(e:Γ b=some (kU w)):Zq H (.slice b 0 w.length 1 full)=some w:=by
 obtain⟨_,olds,⟨ct,hb,hc⟩,_⟩:=h.2 b _ e
 unfold Zq;simp only [zg]
 rw [hb];have hl:(kU w).length=w.length:=by simp [kU]
 have:Nat.ble (Nat.add 0 w.length) (kU w).length=true:=Nat.ble_eq_true_of_le (by rw [hl];simp)
 simp only [this]
 rw [Zj hc (by rw [hl];omega)]
 rw [List.drop_zero,<-hl,List.take_length];exact Xa w
def kE(bb:Nat):List UInt8->qa
 |[]=> .nilSlice
 |c::w=> .slice bb 0 (c::w).length 1 false
def Zo(Γ:GH)(bb:Nat):List UInt8->GH
 |[]=>Γ
 |c::w=>gup bb (some (kU (c::w))) Γ
theorem qem{bb:Nat}{w:List UInt8}:kI (kE bb w)=some w.length:=by cases w<;>rfl
theorem qga{Γ:GH}{H:qd}{nx bb:Nat}{w:List UInt8}(h:HZ Z (Zo Γ bb w) H nx):Zq H (kE bb w)=some w:=by
 cases w with
 |nil=>rfl
 |cons c w=>exact h.str (qf _ _ _)
theorem yt{Γ:GH}{bb:Nat}{w:List UInt8}(hb:Γ bb=none)(b:Nat)(cs:List qa)(e:Γ b=some cs):Zo Γ bb w b=some cs:=by
 cases w with
 |nil=>exact e
 |cons c w=>exact(qg (neK e hb)).trans e
theorem Zb{Γ:GH}{H:qd}{nx bb:Nat}{w:List UInt8}{c:UInt8}(hk:HZ Z (Zo Γ bb w) H nx)(hb:Γ bb=none)(hw:w.length<=20000){k:qa->qd->Nat->Prop}
  (hK:∀bb' H' nx',nx<=nx'->Γ bb'=none->HZ Z (Zo Γ bb' (w++[c])) H' nx'->k (kE bb' (w++[c])) H' nx'):
  ∃H0,H0=qo nx [bv (Int.ofNat c.toNat)] H/\∃i13 l14,zJ 1 H0 (qa.slice nx 0 1 1 true)=some (i13,l14)/\qq l14=true/\∃v15 H16 i17,zt H0 (nx+1) 1 1 (kE bb w) i13 l14=some (v15,H16,i17)/\k v15 H16 i17:=by
 have hf:=hk.fresh (Nat.le_refl nx)
 refine kO hk (nx':=nx+1) lR (by omega) λH1 h1=>⟨1,[bv (Int.ofNat c.toNat)],by rw [h1.src (qf _ _ _) (by simp)];simp,rfl,?_⟩
 have hf2:=h1.fresh (Nat.le_refl (nx+1))
 have hg1:Γ nx=none:=by
  cases e:Γ nx with
  |none=>rfl
  |some cs=>rw [yt hb _ _ e]at hf;cases hf
 have hg2:Γ (nx+1)=none:=by
  cases e:Γ (nx+1)with
  |none=>rfl
  |some cs=>rw [qg (by omega),yt hb _ _ e]at hf2;cases hf2
 have hs:∀b cs,Γ b=some cs->gup nx (some [bv (Int.ofNat c.toNat)]) (Zo Γ bb w) b=some cs:=λb cs e=>(qg (neK e hg1)).trans (yt hb b cs e)
 cases w with
 |nil=>
  obtain⟨H2,a1,a2⟩:=h1.appNil (esz:=1) (ebytes:=1) (k:=1) (new:=[bv (Int.ofNat c.toNat)]) (by simp) (by omega) (by omega) (by omega)
  refine⟨_,H2,_,a1,hK (nx+1) _ _ (by omega) hg2 (a2.sub λb cs e=> ?_)⟩
  have e:gup (nx+1) (some (kU [c])) Γ b=some cs:=e
  by_cases hb2:b=nx+1
  ·subst hb2;rw [qf]at e ⊢;exact e
  ·rw [qg hb2]at e ⊢;exact hs b cs e
 |cons x w=>
  have hbn:bb≠nx:=neK (qf bb (some (kU (x::w))) Γ) hf
  have hl:(kU (x::w)).length=(x::w).length:=by simp [kU]
  obtain⟨H2,a1,a2⟩:=h1.app (b:=bb) (cs:=kU (x::w)) (esz:=1) (ebytes:=1) (k:=1) (len:=(x::w).length) (new:=[bv (Int.ofNat c.toNat)]) ((qg hbn).trans (qf _ _ _)) (by omega) (by simp) (by omega) (by omega) (by omega)
  refine⟨_,H2,_,a1,?_⟩
  have ev:kE (nx+1) (x::w++[c])= .slice (nx+1) 0 ((x::w).length+1) 1 false:=by simp [kE]
  rw [<-ev];refine hK (nx+1) _ _ (by omega) hg2 (a2.sub λb cs e=> ?_)
  have e:gup (nx+1) (some (kU (x::w++[c]))) Γ b=some cs:=e
  by_cases hb2:b=nx+1
  ·subst hb2;rw [qf]at e ⊢;rw [<-e];have:(kU (x::w)).take ((x::w).length*1)=kU (x::w):=by rw [Nat.mul_one,<-hl,List.take_length]
   rw [this];simp [kU]
  ·rw [qg hb2]at e ⊢;rw [qg (neK e hb)];exact hs b cs e
theorem Z6(call:zA)(lp:Nat->jk)(lv:zU)(lvc:zT)(r:Nat)(x n c:Int)(o:qa)(s:List UInt8)(H:qd)(nx:Nat)(K:qv):
  qx PG call (lp 84) 84 (qe PG zO) [1,1,1,0,1,0] (qy PG lv lvc K (qF PG zO)) .ret (qj .und [(0,.ptr r 0),(2,iv x),(3,.str s),(4,o),(5,iv n),(6,bv c)]) H nx [] none=K (.ret (iv x)) H nx:=by kernel_rfl
theorem qkg:qn (qe PG zO) [1,1,1,0,1,0,0]= .seq (qn (qe PG zO) [1,1,1,0,1,0,0,0]) (.seq (.block 1 (.seq (qn (qe PG zO) [1,1,1,0,1,0,0,1,0,0,0]) (.block 2 (.seq (qn (qe PG zO) [1,1,1,0,1,0,0,1,0,0,1,0,0]) (.cond (.tmp 24) (qn (qe PG zO) [1,1,1,0,1,0,0,1,0,0,1,0,1,0])
  (.seq (qn (qe PG zO) [1,1,1,0,1,0,0,1,0,0,1,0,1,1,0]) (.cond (.tmp 38) (qn (qe PG zO) [1,1,1,0,1,0,0,1,0,0,1,0,1,1,1,0]) (qn (qe PG zO) [1,1,1,0,1,0,0,1,0,0,1,0,1,1,1,1])))))))) (qn (qe PG zO) [1,1,1,0,1,0,0,1,1])):=by kernel_rfl
section
variable{Γ0:GH}{r ob nx:Nat}{σ:Sst}{H:qd}{K:qv}
def qcw(u:List UInt8):Except Int (Int×List UInt8×Int×Nat):=match Pt.textGo 1 [] (u.drop 1)with
 |some (w,n)=> .ok (5,w,0,n)
 |none=> .error 11
theorem qej{K0:KP}{u w:List UInt8}{c:UInt8}{n bb nx2:Nat}{H2:qd}(I:ScI Γ0 r ob σ)(hbad:σ.bad=0)(hul:u.length<=16384)(hk2:HZ Z (Zo (scG Γ0 r ob σ) bb w) H2 nx2)(hbb:scG Γ0 r ob σ bb=none)(hn1:1<=n)(hlt:n<u.length)(hwn:w.length<=n)(hd:u.drop n=c::u.drop (n+1))
  (hno:¬(c=34/\w.length<=2000)) (hg:Pt.textGo 1 [] (u.drop 1)=Pt.textGo n w (c::u.drop (n+1)))
  (hgo:∀bb' w' n' H3 nx3,nx2<=nx3->scG Γ0 r ob σ bb'=none->HZ Z (Zo (scG Γ0 r ob σ) bb' w') H3 nx3->n<=n'->n'+1<=u.length->w'.length<=n'+1->Pt.textGo 1 [] (u.drop 1)=Pt.textGo (n'+1) w' (u.drop (n'+1))->
   K0 .normal (qj .und [(0,.ptr r 0),(2,iv 0),(3,.str u),(4,kE bb' w'),(5,iv (n':Nat)),(6,bv (Int.ofNat c.toNat))]) H3 nx3 [] none)
  (hflt:Pt.textGo 1 [] (u.drop 1)=none->∀(n':Int) H3 nx3,nx2<=nx3->HZ Z (scG Γ0 r ob {σ with bad:=11,wl:=σ.line,wc:=σ.col}) H3 nx3->
   K0 .ret (qj .und [(0,.ptr r 0),(2,iv 0),(3,.str u),(4,kE bb w),(5,iv n'),(6,bv (Int.ofNat c.toNat))]) H3 nx3 [] none):
  WpP PG 84 (.seq (qn (qe PG zO) [1,1,1,0,1,0,0,1,0,0,1,0,1,1,0]) (.cond (.tmp 38) (qn (qe PG zO) [1,1,1,0,1,0,0,1,0,0,1,0,1,1,1,0]) (qn (qe PG zO) [1,1,1,0,1,0,0,1,0,0,1,0,1,1,1,1])))
   (qj .und [(6,bv (Int.ofNat c.toNat)),(5,iv n),(4,kE bb w),(3,.str u),(2,iv 0),(0,.ptr r 0)]) H2 nx2 [] K0:=by
 have hk0:HZ Z (scG Γ0 r ob σ) H2 nx2:=hk2.sub (yt hbb)
 have ec:∀m:UInt8,c=m↔Int.ofNat c.toNat=Int.ofNat m.toNat:=λm=>by rw [<-UInt8.toNat_inj];show _↔((c.toNat:Int)=(m.toNat:Int));omega
 have hq:=Pt.textGo.eq_def n w (c::u.drop (n+1))
 dsimp only at hq
 rw [hq]at hg;clear hq;rw [if_neg hno]at hg;have part3:c≠92\/u.drop (n+1)=[]->∀{env:Env},ql (qj .und [(6,bv (Int.ofNat c.toNat)),(5,iv n),(4,kE bb w),(3,.str u),(2,iv 0),(0,.ptr r 0)]) env->WpP PG 84 (qn (qe PG zO) [1,1,1,0,1,0,0,1,0,0,1,0,1,1,1,1]) env H2 nx2 [] K0:=λh92 {env} hle=>by
  refine WpP.weaken hle (WpP.part (ts:=[0,2,3,4,5,6]) qr ?_)
  rw [qn6];have bad:Pt.textGo 1 [] (u.drop 1)=none->∀{pK:List (qa×Bool)->qd->Nat->Prop},qk PG z4 [.ptr r 0,iv 11] H2 nx2 λe H1 i2=>qc e (λ_=>K0 .ret (qj .und [(0,.ptr r 0),(2,iv 0),(3,.str u),(4,kE bb w),(5,iv n),(6,bv (Int.ofNat c.toNat))]) H1 i2 [] none) λl=>pK l H1 i2:=
   λe {pK}=>Zh I hbad hk0 λH' nx' g1 g2=>qb.2 (hflt e n H' nx' g1 g2)
  by_cases h5:c=92
  ·have hnil:u.drop (n+1)=[]:=h92.resolve_left (by simp [h5])
   rw [if_pos h5,hnil]at hg;subst h5;refine qi.2 ⟨λh=>absurd (of_decide_eq_true h) (by decide),λ_=>qi.2 ⟨λh=>absurd (of_decide_eq_true h) (by decide),λ_=>qi.2 ⟨λh=>absurd (of_decide_eq_true h) (by decide),λ_=>qi.2 ⟨λ_=>bad hg,λh=>absurd rfl (of_decide_eq_false h)⟩⟩⟩⟩
  ·rw [if_neg h5]at hg;refine qi.2 ⟨λh=> ?_,λh=>qi.2 ⟨λh2=> ?_,λh2=>qi.2 ⟨λh3=> ?_,λh3=>qi.2 ⟨λh4=>absurd ((ec 92).2 (of_decide_eq_true h4)) h5,λ_=> ?_⟩⟩⟩⟩
   ·have h:(c.toNat:Int)<32:=of_decide_eq_true h
    rw [if_pos (.inl (by rw [UInt8.lt_iff_toNat_lt];show c.toNat<32;omega))]at hg
    exact bad hg
   ·have h2:(126:Int)<(c.toNat:Int):=of_decide_eq_true h2
    rw [if_pos (.inr (.inl (by rw [UInt8.lt_iff_toNat_lt];show 126<c.toNat;omega)))]at hg
    exact bad hg
   ·rw [if_pos (.inr (.inr ((ec 34).2 (of_decide_eq_true h3))))]at hg;exact bad hg
   ·have h:¬(c.toNat:Int)<32:=of_decide_eq_false h
    have h2:¬(126:Int)<(c.toNat:Int):=of_decide_eq_false h2
    rw [if_neg (by
     rintro(x|x|x)
     ·rw [UInt8.lt_iff_toNat_lt]at x;have x:c.toNat<32:=x;omega
     ·rw [UInt8.lt_iff_toNat_lt]at x;have x:126<c.toNat:=x;omega
     ·exact of_decide_eq_false h3 ((ec 34).1 x))]at hg
    refine⟨rfl,Zb hk2 hbb (by omega) λbb' H3 nx3 g1 g2 g3=> ?_⟩
    exact hgo bb' (w++[c]) n H3 nx3 g1 g2 g3 lR (by omega) (by simp;omega) hg
 refine WpP.seq (WpP.part (ts:=[0,2,3,4,5,6,38]) qr ?_)
 rw [qoi];refine qi.2 ⟨λh=> ?_,λh=> ?_⟩
 ·have h5:c=92:=(ec 92).2 (of_decide_eq_true h)
  rw [qw (by omega) (by omega)]
  show WpP _ _ (.cond _ _ _) _ _ _ _ _
  by_cases hl:n+1<u.length
  ·refine WpP.cond (p:=true) (by show u5 (decide _)=_;rw [decide_eq_true (by show(n:Int)+1<(u.length:Int);omega)]) ?_
   show WpP _ _ _ _ _ _ _ _
   refine WpP.weaken (e:=qj .und [(6,bv (Int.ofNat c.toNat)),(5,iv n),(4,kE bb w),(3,.str u),(2,iv 0),(0,.ptr r 0)]) (ql.okay) (WpP.part (ts:=[0,2,3,4,5,6]) qr ?_)
   rw [qnu];rw [qw (by omega) (by omega)]
   obtain⟨e,he⟩:∃e,e=u[n+1]:=⟨_,rfl⟩
   have hd2:u.drop (n+1)=e::u.drop (n+2):=by rw [he];exact kR hl
   rw [if_pos h5,hd2]at hg
   dsimp only at hg
   refine⟨by omega,e,by rw [show((n:Int)+1).toNat=n+1 by omega];simp [hl,he],qbe (qb.2 ?_)⟩
   by_cases q1:e=110
   ·rw [if_pos q1]at hg ⊢;exact⟨Int.ofNat (10:UInt8).toNat,true,rfl,qi.2 ⟨λh=>Bool.noConfusion h,λ_=>⟨rfl,Zb (c:=10) hk2 hbb (by omega) λbb' H3 nx3 g1 g2 g3=>hgo bb' (w++[10]) (n+1) H3 nx3 g1 g2 g3 (by omega) (by omega) (by simp;omega) hg⟩⟩⟩
   rw [if_neg q1]at hg ⊢;by_cases q2:e=116
   ·rw [if_pos q2]at hg ⊢;exact⟨Int.ofNat (9:UInt8).toNat,true,rfl,qi.2 ⟨λh=>Bool.noConfusion h,λ_=>⟨rfl,Zb (c:=9) hk2 hbb (by omega) λbb' H3 nx3 g1 g2 g3=>hgo bb' (w++[9]) (n+1) H3 nx3 g1 g2 g3 (by omega) (by omega) (by simp;omega) hg⟩⟩⟩
   rw [if_neg q2]at hg ⊢;by_cases q3:e=34\/e=92
   ·rw [if_pos q3]at hg ⊢;exact⟨Int.ofNat (e:UInt8).toNat,true,rfl,qi.2 ⟨λh=>Bool.noConfusion h,λ_=>⟨rfl,Zb (c:=e) hk2 hbb (by omega) λbb' H3 nx3 g1 g2 g3=>hgo bb' (w++[e]) (n+1) H3 nx3 g1 g2 g3 (by omega) (by omega) (by simp;omega) hg⟩⟩⟩
   rw [if_neg q3]at hg ⊢;exact⟨0,false,rfl,qi.2 ⟨λ_=>Zh I hbad hk0 λH' nx' g1 g2=>qb.2 (hflt hg _ H' nx' g1 g2),λh=>Bool.noConfusion h⟩⟩
  ·refine WpP.cond (p:=false) (by show u5 (decide _)=_;rw [decide_eq_false (by show¬(n:Int)+1<(u.length:Int);omega)]) ?_
   exact part3 (.inr (List.drop_eq_nil_of_le (by omega))) (ql.okay)
 ·have h5:c≠92:=λx=>of_decide_eq_false h ((ec 92).1 x)
  show WpP _ _ (.cond _ _ _) _ _ _ _ _
  refine WpP.cond (p:=false) rfl ?_
  exact part3 (.inl h5) (ql.okay)
theorem qic(I:ScI Γ0 r ob σ)(hbad:σ.bad=0)(hk:HZ Z (scG Γ0 r ob σ) H nx)(hne:1<=(σ.s.drop σ.a).length)(hK:RdK Z Γ0 r nx σ K (qcw (σ.s.drop σ.a))):qk PG zO [.ptr r 0] H nx K:=by
 refine qk.of_body qr ?_
 rw [qa3];obtain⟨u,hu⟩:∃u,u=σ.s.drop σ.a:=⟨_,rfl⟩
 rw [<-hu]at hK hne;have hul:u.length<=16384:=by have:=I.len;rw [hu,List.length_drop];omega
 refine wB I hk λnx1 h1 hk1=>qb.2 ⟨_,rfl,?_⟩
 rw [<-hu];refine zu (P:=PG) (X:=Nat×qa) (Y:=Unit) (λn=>qj .und [(5,iv n.1),(4,n.2),(3,.str u),(2,iv 0),(0,.ptr r 0)]) (λn=>qj .und [(0,.ptr r 0)])
  (λm n H2 nx2=>nx<=nx2/\∃bb w,n.2=kE bb w/\scG Γ0 r ob σ bb=none/\HZ Z (Zo (scG Γ0 r ob σ) bb w) H2 nx2/\m=u.length - n.1/\1<=n.1/\n.1<=u.length/\w.length<=n.1/\Pt.textGo 1 [] (u.drop 1)=Pt.textGo n.1 w (u.drop n.1))
  (λid n H2 nx2=>id=0/\nx<=nx2/\HZ Z (scG Γ0 r ob σ) H2 nx2/\Pt.textGo 1 [] (u.drop 1)=none) (u.length - 1) (1,.nilSlice) (ql.okay)
  ⟨h1,nx1,[],rfl,hk1.fresh lR,hk1,rfl,Nat.le_refl _,hne,by simp,rfl⟩ ?_ ?_
 ·rintro m ⟨n,o⟩ H2 nx2 ⟨h2,bb,w,ho,hbb,hk2,rfl,hn1,hn2,hwn,hg⟩
  dsimp only at ho hn1 hn2 hwn hg ⊢
  subst ho;have hk0:HZ Z (scG Γ0 r ob σ) H2 nx2:=hk2.sub (yt hbb)
  rw [qkg];refine WpP.seq (WpP.part (ts:=[0,2,3,4,5]) qr ?_)
  rw [qne];refine qi.2 ⟨λh=> ?_,λh=> ?_⟩
  ·have h:(n:Int)<(u.length:Int):=of_decide_eq_true h
   have hlt:n<u.length:=by omega
   have hd:u.drop n=u[n]::u.drop (n+1):=kR hlt
   obtain⟨c,hc⟩:∃c,c=u[n]:=⟨_,rfl⟩
   rw [<-hc]at hd;rw [hd]at hg;have ec:∀m:UInt8,c=m↔Int.ofNat c.toNat=Int.ofNat m.toNat:=λm=>by rw [<-UInt8.toNat_inj];show _↔((c.toNat:Int)=(m.toNat:Int));omega
   have go:∀{bb':Nat} {w':List UInt8} {n':Nat} {H3:qd} {nx3:Nat},nx<=nx3->scG Γ0 r ob σ bb'=none->HZ Z (Zo (scG Γ0 r ob σ) bb' w') H3 nx3->n<n'->n'<=u.length->w'.length<=n'->Pt.textGo 1 [] (u.drop 1)=Pt.textGo n' w' (u.drop n')->
     (([]:Dfs)=([]:Dfs)/\∃m' x',m'<u.length - n/\ql (qj .und [(5,iv ((x':Nat×qa).1:Nat)),(4,x'.2),(3,.str u),(2,iv 0),(0,.ptr r 0)]) (qj .und [(0,.ptr r 0),(2,iv 0),(3,.str u),(4,kE bb' w'),(5,iv n')])/\
      nx<=nx3/\∃bb w,x'.2=kE bb w/\scG Γ0 r ob σ bb=none/\HZ Z (Zo (scG Γ0 r ob σ) bb w) H3 nx3/\m'=u.length - x'.1/\1<=x'.1/\x'.1<=u.length/\w.length<=x'.1/\Pt.textGo 1 [] (u.drop 1)=Pt.textGo x'.1 w (u.drop x'.1)):=
    λ{bb'} {w'} {n'} {H3} {nx3} g1 g2 g3 g4 g5 g6 g7=>⟨rfl,u.length - n',(n',kE bb' w'),by omega,ql.okay,g1,bb',w',rfl,g2,g3,rfl,by show 1<=n';omega,g5,g6,g7⟩
   show WpP _ _ (.seq _ _) _ _ _ _ _
   refine WpP.weaken (e:=qj .und [(5,iv n),(4,kE bb w),(3,.str u),(2,iv 0),(0,.ptr r 0)]) (ql.okay) ?_
   refine WpP.seq (WpP.block (WpP.seq (WpP.part (ts:=[0,2,3,4,5,6]) qr ?_)))
   rw [qn4];refine⟨by omega,c,by simp [hlt,hc],?_⟩
   show WpP _ _ (.block 2 _) _ _ _ _ _
   refine WpP.weaken (e:=qj .und [(6,bv (Int.ofNat c.toNat)),(5,iv n),(4,kE bb w),(3,.str u),(2,iv 0),(0,.ptr r 0)]) (ql.okay) ?_
   refine WpP.block (WpP.seq (WpP.part (ts:=[0,2,3,4,5,6,24]) qr ?_))
   rw [qou];refine qi.2 ⟨λh3=> ?_,λh3=> ?_⟩
   ·have h3:c=34:=(ec 34).2 (of_decide_eq_true h3)
    refine⟨_,qem,?_⟩
    show WpP _ _ (.cond _ _ _) _ _ _ _ _
    by_cases hl:w.length<=2000
    ·refine WpP.cond (p:=true) (by show u5 (decide _)=_;rw [decide_eq_true (by show(w.length:Int)<=2000;omega)]) ?_
     show WpP _ _ _ _ _ _ _ _
     refine WpP.weaken (e:=qj .und [(6,bv (Int.ofNat c.toNat)),(5,iv n),(4,kE bb w),(3,.str u),(2,iv 0),(0,.ptr r 0)]) (ql.okay) (WpP.part (ts:=[0,2,3,4,5,6]) qr ?_)
     rw [qnt];rw [qw (by omega) (by omega),show((n:Int)+1)=((n+1:Nat):Int) by omega]
     have hr:Pt.textGo 1 [] (u.drop 1)=some (w,n+1):=by rw [hg,Pt.textGo.eq_def];dsimp only;rw [if_pos ⟨h3,hl⟩]
     unfold qcw at hK;rw [hr]at hK;refine⟨w,qga hk2,Z1 I hk0 (λhf H' nx' g1 g2=>qb.2 ?_) λhf ob' H' nx' g1 g2 g3 g4=>qb.2 ?_⟩
     ·exact Eq.mpr (Z6 (qk PG) (LpP PG) (zx (qB PG)) (qS PG (qB PG)) r _ n _ _ u H' nx' K) (hK.1 hf ob H' nx' (by omega) I.o0 I.ne g2)
     ·exact Eq.mpr (Z6 (qk PG) (LpP PG) (zx (qB PG)) (qS PG (qB PG)) r _ n _ _ u H' nx' K) (hK.2 hf ob' H' nx' (by omega) g2 g3 g4)
    ·refine WpP.cond (p:=false) (by show u5 (decide _)=_;rw [decide_eq_false (by show¬(w.length:Int)<=2000;omega)]) ?_
     refine WpP.weaken (e:=qj .und [(6,bv (Int.ofNat c.toNat)),(5,iv n),(4,kE bb w),(3,.str u),(2,iv 0),(0,.ptr r 0)]) (ql.okay) (qej I hbad hul hk2 hbb hn1 hlt hwn hd (λx=>hl x.2) hg (λbb' w' n' H3 nx3 g1 g2 g3 g4 g5 g6 g7=> ?_) λhn n' H3 nx3 g1 g2=> ?_)
     ·show WpP _ _ _ _ _ _ _ _
      refine WpP.weaken (e:=qj .und [(5,iv n'),(4,kE bb' w'),(3,.str u),(2,iv 0),(0,.ptr r 0)]) (ql.okay) (WpP.part (ts:=[0,2,3,4,5]) qr ?_)
      rw [qj8];rw [qw (by omega) (by omega),show((n':Int)+1)=((n'+1:Nat):Int) by omega]
      exact go (by omega) g2 g3 (by omega) g5 g6 g7
     ·unfold qcw at hK;rw [hn]at hK;exact Eq.mpr (Z6 (qk PG) (LpP PG) (zx (qB PG)) (qS PG (qB PG)) r 0 n' _ _ u H3 nx3 K) (hK ob H3 nx3 (by omega) I.o0 I.ne g2)
   ·have h3:c≠34:=λx=>of_decide_eq_false h3 ((ec 34).1 x)
    show WpP _ _ (.cond _ _ _) _ _ _ _ _
    refine WpP.cond (p:=false) rfl ?_
    refine WpP.weaken (e:=qj .und [(6,bv (Int.ofNat c.toNat)),(5,iv n),(4,kE bb w),(3,.str u),(2,iv 0),(0,.ptr r 0)]) (ql.okay) (qej I hbad hul hk2 hbb hn1 hlt hwn hd (λx=>h3 x.1) hg (λbb' w' n' H3 nx3 g1 g2 g3 g4 g5 g6 g7=> ?_) λhn n' H3 nx3 g1 g2=> ?_)
    ·show WpP _ _ _ _ _ _ _ _
     refine WpP.weaken (e:=qj .und [(5,iv n'),(4,kE bb' w'),(3,.str u),(2,iv 0),(0,.ptr r 0)]) (ql.okay) (WpP.part (ts:=[0,2,3,4,5]) qr ?_)
     rw [qj8];rw [qw (by omega) (by omega),show((n':Int)+1)=((n'+1:Nat):Int) by omega]
     exact go (by omega) g2 g3 (by omega) g5 g6 g7
    ·unfold qcw at hK;rw [hn]at hK;exact Eq.mpr (Z6 (qk PG) (LpP PG) (zx (qB PG)) (qS PG (qB PG)) r 0 n' _ _ u H3 nx3 K) (hK ob H3 nx3 (by omega) I.o0 I.ne g2)
  ·have h:¬(n:Int)<(u.length:Int):=of_decide_eq_false h
   have he:n=u.length:=by omega
   refine⟨rfl,(),ql.okay,rfl,h2,hk0,?_⟩
   rw [hg,List.drop_eq_nil_of_le (by omega)]
   rw [Pt.textGo.eq_def]
 ·rintro id ⟨⟩ H2 nx2 ⟨rfl,h2,hk2,hg⟩
  rw [qhv];unfold qcw at hK;rw [hg]at hK;exact hK.flt I hbad h2 hk2
end
end
end Go.Vs
end
