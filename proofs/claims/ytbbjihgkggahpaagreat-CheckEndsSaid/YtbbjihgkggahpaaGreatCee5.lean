/-
  Own work. Texts of a proof,laid together; no condition.
-/
import Derived.Test.YtbbjihgkggahpaaGreatCee4
import Derived.Test.YtbbjihgkggahpaaGreatCee2
set_option linter.unusedSectionVars false
set_option linter.unusedVariables false
set_option linter.unusedSimpArgs false
set_option maxRecDepth 1000000
open Go.Vs.qa renaming ptr → u0, str → u5, agg → u6, bool → u7, nilSlice → u9, tuple → U0, und → U1
open Go.Vs.qg renaming pan → U2, ret → U3
open Go.IntKind (i64)
section
namespace Go.Vs
open Go.Proofs
variable [GTab]
variable(call:zm)(lp:Nat->jl)(lv:zJ)(lvc:zI)(N:KC)(X:Nat->KC)(R:KC)(Pn:List (qa×Bool)->KC)
theorem qej(r:Nat)(H:qc)(nx:Nat)(K:qr):qL PG call lp zZ [u0 r 0] H nx (qy PG lv lvc K)=
 (∃a,a=qC nx [iv 0,u5 [],iv 0,iv 0,iv 0] H/\Tt/\∃b,sP r 0 b/\lV a b λc=>Tt/\∃d,sP r 1 d/\lJ a d λe=>0<=e/\∃f,qY c e.toNat 5=some f/\∃g h i j k,l5 a f g h i j k/\((lV a b λl=>l=c)/\(lJ a d λl=>iv l=iv e)/\(∃l m n o p,l5 a f l m n o p/\g5 l m n o p=g5 g h i j k)/\True)/\sT a (u0 nx 0) [iv g,u5 h,iv i,iv j,iv k] λl=>True/\∃m n o p q,l5 l (u0 nx 0) m n o p q/\K (U3 (g5 m n o p q)) l (nx+1+11)):=by kernel_rfl
theorem qcd(r:Nat)(H:qc)(nx:Nat)(K:qr):qL PG call lp vZ [u0 r 0] H nx (qy PG lv lvc K)=
 (∃a,a=qC nx [iv 0,u5 [],iv 0,iv 0,iv 0] H/\cL K (call zZ [u0 r 0] a (nx+1)) λe c d=>∃f g h i j,e=g5 f g h i j/\∃k,k=qC d [iv 0,u5 [],iv 0,iv 0,iv 0] c/\sT k (u0 d 0) [iv f,u5 g,iv h,iv i,iv j] λl=>sI l d 0 λn=>ifB (!decide (n=0)) (Tt/\sI l r 1 λp=>Tt/\∃q,sP r 1 q/\Tt/\sT l q [iv (i64.wrap (p+1))] λs=>∃t u v w x,l5 s (u0 d 0) t u v w x/\sT s (u0 nx 0) [iv t,u5 u,iv v,iv w,iv x] λy=>∃z A B C D,l5 y (u0 nx 0) z A B C D/\K (U3 (g5 z A B C D)) y (d+1)) (∃o p q s t,l5 l (u0 d 0) o p q s t/\sT l (u0 nx 0) [iv o,u5 p,iv q,iv s,iv t] λu=>∃v w x y z,l5 u (u0 nx 0) v w x y z/\K (U3 (g5 v w x y z)) u (d+1))):=by kernel_rfl
theorem YR(r:Nat)(H:qc)(nx:Nat)(K:qr):qL PG call lp ya [u0 r 0] H nx (qy PG lv lvc K)=
 (Tt/\sI H r 2 λb=>Tt/\∃c,sP r 2 c/\Tt/\sT H c [iv (i64.wrap (b+1))] λd=>Tt/\sI d r 2 λf=>ifB (decide (40<f)) (cL K (call kS [u0 r 0,iv 14] d nx) λj h i=>K (U3 (U0 [])) h i) (K (U3 (U0 [])) d nx)):=by kernel_rfl
theorem qb7(r:Nat)(H:qc)(nx:Nat)(K:qr):qL PG call lp jB [u0 r 0] H nx (qy PG lv lvc K)=
 (Tt/\sI H r 2 λb=>Tt/\∃c,sP r 2 c/\Tt/\sT H c [iv (i64.wrap (b - 1))] λd=>K (U3 (U0 [])) d nx):=by kernel_rfl
theorem qbq(r:Nat)(H:qc)(nx:Nat)(K:qr):qL PG call lp vD [u0 r 0] H nx (qy PG lv lvc K)=
 (lp 4 (qi (qd PG 37) [0,0]) (qe (U0 []) [(0,u0 r 0)]) H nx [] none (qA PG call (lp 4) 4 (qd PG 37) [0] (qy PG lv lvc K (qP PG 37)))):=by kernel_rfl
theorem qc0(r:Nat)(H:qc)(nx:Nat)(K:qr):qL PG call lp Kl [u0 r 0] H nx (qy PG lv lvc K)=
 (cB K (call jn [u0 r 0,u5 [125]] H nx) λe b c=>ifB (!e) (cL K (call zd [u0 r 0,u5 [59]] b c) λi g h=>∃j k l m n,i=g5 j k l m n/\cL K (call vD [u0 r 0] g h) λs p q=>K (U3 (U0 [])) p q) (cL K (call vD [u0 r 0] b c) λi g h=>K (U3 (U0 [])) g h)):=by kernel_rfl
theorem qbv(r:Nat)(H:qc)(nx:Nat)(K:qr):qL PG call lp Ko [u0 r 0] H nx (qy PG lv lvc K)=
 (∃a,a=qC nx [iv 0,u5 [],iv 0,iv 0,iv 0,u9] H/\cL K (call zZ [u0 r 0] a (nx+1)) λe c d=>∃f g h i j,e=g5 f g h i j/\∃k,k=qC d [iv 0,u5 [],iv 0,iv 0,iv 0] c/\sT k (u0 d 0) [iv f,u5 g,iv h,iv i,iv j] λl=>cL K (call vD [u0 r 0] l (d+1)) λp n o=>lp 38 (qi (qd PG 21) [1,1,1,1,0,0,0]) (qe (U0 []) [(8,p),(7,u0 r 0),(4,u9),(3,u0 d 0),(6,g5 f g h i j),(5,u0 r 0),(2,u0 nx 0),(0,u0 r 0)]) n o [] none (qA PG call (lp 38) 38 (qd PG 21) [1,1,1,1,0,0] (qy PG lv lvc K (qP PG 21)))):=by kernel_rfl
theorem VM(r:Nat)(H:qc)(nx:Nat)(K:qr):qL PG call lp yS [u0 r 0] H nx (qy PG lv lvc K)=
 (∃a,a=qC nx [iv 0,u5 [],iv 0,iv 0,iv 0,u9] H/\cL K (call zd [u0 r 0,u5 [116,121,112,101]] a (nx+1)) λe c d=>∃f g h i j,e=g5 f g h i j/\∃k,k=qC d [iv 0,u5 [],iv 0,iv 0,iv 0] c/\sT k (u0 d 0) [iv f,u5 g,iv h,iv i,iv j] λl=>cL K (call jp [u0 r 0] l (d+1)) λp n o=>∃q s t u v,p=g5 q s t u v/\cB K (call zb [u0 r 0,u5 [105,110,116,101,114,102,97,99,101]] n o) λA x y=>ifB A (∃B C D E F,l5 x (u0 d 0) B C D E F/\((∃G I J L M,l5 x (u0 d 0) G I J L M/\g5 G I J L M=g5 B C D E F)/\True)/\cL K (call wV [u0 r 0,qa.func (Fn.func 72) [u0 r 0] []] x (y+8)) λL I J=>((∃M N O P Q,l5 I (u0 d 0) M N O P Q/\g5 M N O P Q=g5 B C D E F)/\True)/\cL K (call qH [g5 B C D E F,iv 3,u5 s,L] I J) λP N O=>∃Q R S T U V,P=g6 Q R S T U V/\True/\sT N (u0 nx 0) [iv Q,u5 R,iv S,iv T,iv U,V] λW=>True/\∃X Y Z a0 a1 a2,l6 W (u0 nx 0) X Y Z a0 a1 a2/\K (U3 (g6 X Y Z a0 a1 a2)) W O) (cL K (call zd [u0 r 0,u5 [115,116,114,117,99,116]] x y) λE C D=>∃F G I J L,E=g5 F G I J L/\∃M N O P Q,l5 C (u0 d 0) M N O P Q/\((∃R S T U V,l5 C (u0 d 0) R S T U V/\g5 R S T U V=g5 M N O P Q)/\True)/\cL K (call wV [u0 r 0,qa.func (Fn.func 73) [u0 r 0] []] C (D+8)) λU S T=>((∃V W X Y Z,l5 S (u0 d 0) V W X Y Z/\g5 V W X Y Z=g5 M N O P Q)/\True)/\cL K (call qH [g5 M N O P Q,iv 2,u5 s,U] S T) λY W X=>∃Z a0 a1 a2 a3 a4,Y=g6 Z a0 a1 a2 a3 a4/\True/\sT W (u0 nx 0) [iv Z,u5 a0,iv a1,iv a2,iv a3,a4] λa5=>True/\∃a6 a7 a8 a9 b0 b1,l6 a5 (u0 nx 0) a6 a7 a8 a9 b0 b1/\K (U3 (g6 a6 a7 a8 a9 b0 b1)) a5 X)):=by kernel_rfl
theorem qao(r:Nat)(H:qc)(nx:Nat)(K:qr):qL PG call lp ye [u0 r 0] H nx (qy PG lv lvc K)=
 (∃a,a=qC nx [iv 0,u5 [],iv 0,iv 0,iv 0,u9] H/\cL K (call jp [u0 r 0] a (nx+1)) λe c d=>∃f g h i j,e=g5 f g h i j/\∃k,k=qC d [iv 0,u5 [],iv 0,iv 0,iv 0] c/\sT k (u0 d 0) [iv f,u5 g,iv h,iv i,iv j] λl=>∃m n o p q,l5 l (u0 d 0) m n o p q/\∃s,sP d 1 s/\∃t,ld1 l s=some (u5 t)/\((∃u v w x y,l5 l (u0 d 0) u v w x y/\g5 u v w x y=g5 m n o p q)/\(∃u,ld1 l s=some (u5 u)/\u5 u=u5 t)/\True)/\cL K (call 91 [u0 r 0] l (d+1+8)) λx v w=>∃y z A B C D,x=g6 y z A B C D/\∃E,E=qC (d+1+5) [iv y,u5 z,iv A,iv B,iv C,D] v/\((∃F G I J L,l5 E (u0 d 0) F G I J L/\g5 F G I J L=g5 m n o p q)/\(∃F,ld1 E s=some (u5 F)/\u5 F=u5 t)/\True)/\cL K (call qH [g5 m n o p q,iv 4,u5 t,qa.slice (d+1+5) 0 1 6 true] E w) λJ G I=>∃L M N O P Q,J=g6 L M N O P Q/\True/\sT G (u0 nx 0) [iv L,u5 M,iv N,iv O,iv P,Q] λR=>True/\∃S T U V W X,l6 R (u0 nx 0) S T U V W X/\K (U3 (g6 S T U V W X)) R I):=by kernel_rfl
theorem Xx(r:Nat)(H:qc)(nx:Nat)(K:qr):qL PG call lp ww [u0 r 0] H nx (qy PG lv lvc K)=
 (∃a,a=qC nx [iv 0,u5 [],iv 0,iv 0,iv 0,u9] H/\cL K (call jp [u0 r 0] a (nx+1)) λe c d=>∃f g h i j,e=g5 f g h i j/\∃k,k=qC d [iv 0,u5 [],iv 0,iv 0,iv 0] c/\sT k (u0 d 0) [iv f,u5 g,iv h,iv i,iv j] λl=>cL K (call vM [u0 r 0,qa.func (Fn.func 91) [u0 r 0] []] l (d+1)) λp n o=>∃q s t u v,l5 n (u0 d 0) q s t u v/\∃w,sP d 1 w/\∃x,ld1 n w=some (u5 x)/\((∃y z A B C,l5 n (u0 d 0) y z A B C/\g5 y z A B C=g5 q s t u v)/\(∃y,ld1 n w=some (u5 y)/\u5 y=u5 x)/\True)/\cL K (call wA [u0 r 0] n (o+10)) λB z A=>∃C D E F G I,B=g6 C D E F G I/\∃J,J=qC (o+5) [iv C,u5 D,iv E,iv F,iv G,I] z/\((∃L M N O P,l5 J (u0 d 0) L M N O P/\g5 L M N O P=g5 q s t u v)/\(∃L,ld1 J w=some (u5 L)/\u5 L=u5 x)/\True)/\∃L M,jN 6 J p=some (L,M)/\qt M=true/\∃N O P,z3 J A 6 72 (qa.slice (o+5) 0 1 6 true) L M=some (N,O,P)/\((∃Q R S T U,l5 O (u0 d 0) Q R S T U/\g5 Q R S T U=g5 q s t u v)/\(∃Q,ld1 O w=some (u5 Q)/\u5 Q=u5 x)/\True)/\cL K (call qH [g5 q s t u v,iv 5,u5 x,N] O P) λT R S=>∃U V W X Y Z,T=g6 U V W X Y Z/\True/\sT R (u0 nx 0) [iv U,u5 V,iv W,iv X,iv Y,Z] λa0=>True/\∃a1 a2 a3 a4 a5 a6,l6 a0 (u0 nx 0) a1 a2 a3 a4 a5 a6/\K (U3 (g6 a1 a2 a3 a4 a5 a6)) a0 S):=by kernel_rfl
theorem XR(r:Nat)(H:qc)(nx:Nat)(K:qr):qL PG call lp wA [u0 r 0] H nx (qy PG lv lvc K)=
 (∃a,a=qC nx [iv 0,u5 [],iv 0,iv 0,iv 0,u9] H/\cL K (call zZ [u0 r 0] a (nx+1)) λe c d=>∃f g h i j,e=g5 f g h i j/\∃k,k=qC d [iv 0,u5 [],iv 0,iv 0,iv 0] c/\sT k (u0 d 0) [iv f,u5 g,iv h,iv i,iv j] λl=>sI l d 0 λn=>ifB (decide (n=2)) (cL K (call jM [u0 r 0] l (d+1)) λs p q=>∃t u v w x y,s=g6 t u v w x y/\sT p (u0 nx 0) [iv t,u5 u,iv v,iv w,iv x,y] λz=>∃A B C D E F,l6 z (u0 nx 0) A B C D E F/\K (U3 (g6 A B C D E F)) z q) (cB K (call jn [u0 r 0,u5 [105,110,116]] l (d+1)) λt p q=>ifB t (cL K (call jM [u0 r 0] p q) λx v w=>∃y z A B C D,x=g6 y z A B C D/\sT v (u0 nx 0) [iv y,u5 z,iv A,iv B,iv C,D] λE=>∃F G I J L M,l6 E (u0 nx 0) F G I J L M/\K (U3 (g6 F G I J L M)) E w) (cB K (call jn [u0 r 0,u5 [98,111,111,108]] p q) λy v w=>ifB y (cL K (call 91 [u0 r 0] v w) λC A B=>∃D E F G I J,C=g6 D E F G I J/\sT A (u0 nx 0) [iv D,u5 E,iv F,iv G,iv I,J] λL=>∃M N O P Q R,l6 L (u0 nx 0) M N O P Q R/\K (U3 (g6 M N O P Q R)) L B) (cB K (call jn [u0 r 0,u5 [115,116,114,105,110,103]] v w) λD A B=>ifB D (cL K (call jM [u0 r 0] A B) λI F G=>∃J L M N O P,I=g6 J L M N O P/\sT F (u0 nx 0) [iv J,u5 L,iv M,iv N,iv O,P] λQ=>∃R S T U V W,l6 Q (u0 nx 0) R S T U V W/\K (U3 (g6 R S T U V W)) Q G) (cB K (call jn [u0 r 0,u5 [91]] A B) λJ F G=>ifB J (cL K (call jM [u0 r 0] F G) λO M N=>∃P Q R S T U,O=g6 P Q R S T U/\sT M (u0 nx 0) [iv P,u5 Q,iv R,iv S,iv T,U] λV=>∃W X Y Z a0 a1,l6 V (u0 nx 0) W X Y Z a0 a1/\K (U3 (g6 W X Y Z a0 a1)) V N) (cL K (call vu [] F G) λO M N=>∃P Q R S T U,O=g6 P Q R S T U/\sT M (u0 nx 0) [iv P,u5 Q,iv R,iv S,iv T,U] λV=>∃W X Y Z a0 a1,l6 V (u0 nx 0) W X Y Z a0 a1/\K (U3 (g6 W X Y Z a0 a1)) V N)))))):=by kernel_rfl
theorem qfv(r:Nat)(H:qc)(nx:Nat)(K:qr):qL PG call lp jM [u0 r 0] H nx (qy PG lv lvc K)=
 (∃a,a=qC nx [iv 0,u5 [],iv 0,iv 0,iv 0,u9] H/\cL K (call ya [u0 r 0] a (nx+1)) λe c d=>call zZ [u0 r 0] c d λf g h=>qj f (λi=>∃j k l m n,i=g5 j k l m n/\∃o,o=qC h [iv 0,u5 [],iv 0,iv 0,iv 0] g/\sT o (u0 h 0) [iv j,u5 k,iv l,iv m,iv n] λp=>call zb [u0 r 0,u5 [91]] p (h+1) λq s t=>qj q (λu=>∃v,u=u7 v/\ifB v (call zd [u0 r 0,u5 [93]] s t λw x y=>qj w (λz=>∃A B C D E,z=g5 A B C D E/\∃F G I J L,l5 x (u0 h 0) F G I J L/\((∃M N O P Q,l5 x (u0 h 0) M N O P Q/\g5 M N O P Q=g5 F G I J L)/\True)/\call jM [u0 r 0] x (y+6) λM N O=>qj M (λP=>∃Q R S T U V,P=g6 Q R S T U V/\∃W,W=qC (y+3) [iv Q,u5 R,iv S,iv T,iv U,V] N/\((∃X Y Z a0 a1,l5 W (u0 h 0) X Y Z a0 a1/\g5 X Y Z a0 a1=g5 F G I J L)/\True)/\call 43 [g5 F G I J L,iv 9,u5 [],qa.slice (y+3) 0 1 6 true] W O λX Y Z=>qj X (λa0=>∃a1 a2 a3 a4 a5 a6,a0=g6 a1 a2 a3 a4 a5 a6/\True/\sT Y (u0 nx 0) [iv a1,u5 a2,iv a3,iv a4,iv a5,a6] λa7=>True/\lvc [zq.cell (u0 nx 0) qJ] [(105,[u0 r 0])] qw.returning a7 Z λa8 a9 b0=>K a8 a9 b0) λa0=>lvc [zq.cell (u0 nx 0) qJ] [(105,[u0 r 0])] (qw.panicking a0) Y Z λa1 a2 a3=>K a1 a2 a3) λP=>lvc [zq.cell (u0 nx 0) qJ] [(105,[u0 r 0])] (qw.panicking P) N O λQ R S=>K Q R S) λz=>lvc [zq.cell (u0 nx 0) qJ] [(105,[u0 r 0])] (qw.panicking z) x y λA B C=>K A B C) (call zb [u0 r 0,u5 [105,110,116]] s t λw x y=>qj w (λz=>∃A,z=u7 A/\ifB A (∃B C D E F,l5 x (u0 h 0) B C D E F/\∃G,sP h 1 G/\∃I,ld1 x G=some (u5 I)/\call qH [g5 B C D E F,iv 8,u5 I,u9] x y λJ L M=>qj J (λN=>∃O P Q R S T,N=g6 O P Q R S T/\sT L (u0 nx 0) [iv O,u5 P,iv Q,iv R,iv S,T] λU=>lvc [zq.cell (u0 nx 0) qJ] [(105,[u0 r 0])] qw.returning U M λV W X=>K V W X) λN=>lvc [zq.cell (u0 nx 0) qJ] [(105,[u0 r 0])] (qw.panicking N) L M λO P Q=>K O P Q) (call zb [u0 r 0,u5 [98,111,111,108]] x y λB C D=>qj B (λE=>∃F,E=u7 F/\ifB F (∃G I J L M,l5 C (u0 h 0) G I J L M/\∃N,sP h 1 N/\∃O,ld1 C N=some (u5 O)/\call qH [g5 G I J L M,iv 8,u5 O,u9] C D λP Q R=>qj P (λS=>∃T U V W X Y,S=g6 T U V W X Y/\sT Q (u0 nx 0) [iv T,u5 U,iv V,iv W,iv X,Y] λZ=>lvc [zq.cell (u0 nx 0) qJ] [(105,[u0 r 0])] qw.returning Z R λa0 a1 a2=>K a0 a1 a2) λS=>lvc [zq.cell (u0 nx 0) qJ] [(105,[u0 r 0])] (qw.panicking S) Q R λT U V=>K T U V) (call zb [u0 r 0,u5 [115,116,114,105,110,103]] C D λG I J=>qj G (λL=>∃M,L=u7 M/\ifB M (∃N O P Q R,l5 I (u0 h 0) N O P Q R/\∃S,sP h 1 S/\∃T,ld1 I S=some (u5 T)/\call qH [g5 N O P Q R,iv 8,u5 T,u9] I J λU V W=>qj U (λX=>∃Y Z a0 a1 a2 a3,X=g6 Y Z a0 a1 a2 a3/\sT V (u0 nx 0) [iv Y,u5 Z,iv a0,iv a1,iv a2,a3] λa4=>lvc [zq.cell (u0 nx 0) qJ] [(105,[u0 r 0])] qw.returning a4 W λa5 a6 a7=>K a5 a6 a7) λX=>lvc [zq.cell (u0 nx 0) qJ] [(105,[u0 r 0])] (qw.panicking X) V W λY Z a0=>K Y Z a0) (∃N,sP h 1 N/\∃O,ld1 I N=some (u5 O)/\((∃P,ld1 I N=some (u5 P)/\u5 P=u5 O)/\True)/\call jp [u0 r 0] I (J+6) λP Q R=>qj P (λS=>∃T U V W X,S=g5 T U V W X/\((∃Y,ld1 Q N=some (u5 Y)/\u5 Y=u5 O)/\True)/\call qH [g5 T U V W X,iv 8,u5 O,u9] Q R λY Z a0=>qj Y (λa1=>∃a2 a3 a4 a5 a6 a7,a1=g6 a2 a3 a4 a5 a6 a7/\True/\sT Z (u0 nx 0) [iv a2,u5 a3,iv a4,iv a5,iv a6,a7] λa8=>True/\lvc [zq.cell (u0 nx 0) qJ] [(105,[u0 r 0])] qw.returning a8 a0 λa9 b0 b1=>K a9 b0 b1) λa1=>lvc [zq.cell (u0 nx 0) qJ] [(105,[u0 r 0])] (qw.panicking a1) Z a0 λa2 a3 a4=>K a2 a3 a4) λS=>lvc [zq.cell (u0 nx 0) qJ] [(105,[u0 r 0])] (qw.panicking S) Q R λT U V=>K T U V)) λL=>lvc [zq.cell (u0 nx 0) qJ] [(105,[u0 r 0])] (qw.panicking L) I J λM N O=>K M N O)) λE=>lvc [zq.cell (u0 nx 0) qJ] [(105,[u0 r 0])] (qw.panicking E) C D λF G I=>K F G I)) λz=>lvc [zq.cell (u0 nx 0) qJ] [(105,[u0 r 0])] (qw.panicking z) x y λA B C=>K A B C)) λu=>lvc [zq.cell (u0 nx 0) qJ] [(105,[u0 r 0])] (qw.panicking u) s t λv w x=>K v w x) λi=>lvc [zq.cell (u0 nx 0) qJ] [(105,[u0 r 0])] (qw.panicking i) g h λj k l=>K j k l):=by kernel_rfl
theorem Y9(r:Nat)(H:qc)(nx:Nat)(K:qr):qL PG call lp yo [u0 r 0] H nx (qy PG lv lvc K)=
 (∃a,a=qC nx [iv 0,u5 [],iv 0,iv 0,iv 0,u9] H/\cL K (call jp [u0 r 0] a (nx+1)) λe c d=>∃f g h i j,e=g5 f g h i j/\∃k,k=qC d [iv 0,u5 [],iv 0,iv 0,iv 0] c/\sT k (u0 d 0) [iv f,u5 g,iv h,iv i,iv j] λl=>∃m n o p q,l5 l (u0 d 0) m n o p q/\∃s,sP d 1 s/\∃t,ld1 l s=some (u5 t)/\((∃u v w x y,l5 l (u0 d 0) u v w x y/\g5 u v w x y=g5 m n o p q)/\(∃u,ld1 l s=some (u5 u)/\u5 u=u5 t)/\True)/\cL K (call 91 [u0 r 0] l (d+1+8)) λx v w=>∃y z A B C D,x=g6 y z A B C D/\∃E,E=qC (d+1+5) [iv y,u5 z,iv A,iv B,iv C,D] v/\((∃F G I J L,l5 E (u0 d 0) F G I J L/\g5 F G I J L=g5 m n o p q)/\(∃F,ld1 E s=some (u5 F)/\u5 F=u5 t)/\True)/\cL K (call qH [g5 m n o p q,iv 7,u5 t,qa.slice (d+1+5) 0 1 6 true] E w) λJ G I=>∃L M N O P Q,J=g6 L M N O P Q/\True/\sT G (u0 nx 0) [iv L,u5 M,iv N,iv O,iv P,Q] λR=>True/\∃S T U V W X,l6 R (u0 nx 0) S T U V W X/\K (U3 (g6 S T U V W X)) R I):=by kernel_rfl
theorem VI(r:Nat)(H:qc)(nx:Nat)(K:qr):qL PG call lp yU [u0 r 0] H nx (qy PG lv lvc K)=
 (∃a,a=qC nx [iv 0,u5 [],iv 0,iv 0,iv 0,u9] H/\cL K (call zd [u0 r 0,u5 [102,117,110,99]] a (nx+1)) λe c d=>∃f g h i j,e=g5 f g h i j/\∃k,k=qC d [iv 0,u5 [],iv 0,iv 0,iv 0] c/\sT k (u0 d 0) [iv f,u5 g,iv h,iv i,iv j] λl=>cL K (call vu [] l (d+1)) λp n o=>∃q s t u v w,p=g6 q s t u v w/\∃x,x=qC o [iv 0,u5 [],iv 0,iv 0,iv 0,u9] n/\sT x (u0 o 0) [iv q,u5 s,iv t,iv u,iv v,w] λy=>cB K (call zb [u0 r 0,u5 [40]] y (o+1)) λD A B=>ifB D (cL K (call jp [u0 r 0] A B) λI F G=>∃J L M N O,I=g5 J L M N O/\∃P,P=qC G [iv 0,u5 [],iv 0,iv 0,iv 0] F/\sT P (u0 G 0) [iv J,u5 L,iv M,iv N,iv O] λQ=>cL K (call jp [u0 r 0] Q (G+1)) λU S T=>∃V W X Y Z,U=g5 V W X Y Z/\∃a0,a0=qC T [iv 0,u5 [],iv 0,iv 0,iv 0] S/\sT a0 (u0 T 0) [iv V,u5 W,iv X,iv Y,iv Z] λa1=>∃a2 a3 a4 a5 a6,l5 a1 (u0 G 0) a2 a3 a4 a5 a6/\∃a7,sP G 1 a7/\∃a8,ld1 a1 a7=some (u5 a8)/\∃a9 b0 b1 b2 b3,l5 a1 (u0 T 0) a9 b0 b1 b2 b3/\∃b4,sP T 1 b4/\∃b5,ld1 a1 b4=some (u5 b5)/\((∃b6 b7 b8 b9 c0,l5 a1 (u0 G 0) b6 b7 b8 b9 c0/\g5 b6 b7 b8 b9 c0=g5 a2 a3 a4 a5 a6)/\(∃b6,ld1 a1 a7=some (u5 b6)/\u5 b6=u5 a8)/\(∃b6 b7 b8 b9 c0,l5 a1 (u0 T 0) b6 b7 b8 b9 c0/\g5 b6 b7 b8 b9 c0=g5 a9 b0 b1 b2 b3)/\(∃b6,ld1 a1 b4=some (u5 b6)/\u5 b6=u5 b5)/\True)/\cL K (call qH [g5 a9 b0 b1 b2 b3,iv 8,u5 b5,u9] a1 (T+1+10)) λb9 b7 b8=>∃c0 c1 c2 c3 c4 c5,b9=g6 c0 c1 c2 c3 c4 c5/\∃c6,c6=qC (T+1+7) [iv c0,u5 c1,iv c2,iv c3,iv c4,c5] b7/\((∃c7 c8 c9 d0 d1,l5 c6 (u0 G 0) c7 c8 c9 d0 d1/\g5 c7 c8 c9 d0 d1=g5 a2 a3 a4 a5 a6)/\(∃c7,ld1 c6 a7=some (u5 c7)/\u5 c7=u5 a8)/\True)/\cL K (call qH [g5 a2 a3 a4 a5 a6,iv 7,u5 a8,qa.slice (T+1+7) 0 1 6 true] c6 b8) λd0 c8 c9=>∃d1 d2 d3 d4 d5 d6,d0=g6 d1 d2 d3 d4 d5 d6/\True/\sT c8 (u0 o 0) [iv d1,u5 d2,iv d3,iv d4,iv d5,d6] λd7=>True/\cL K (call zd [u0 r 0,u5 [41]] d7 c9) λe1 d9 e0=>∃e2 e3 e4 e5 e6,e1=g5 e2 e3 e4 e5 e6/\cL K (call jp [u0 r 0] d9 e0) λf0 e8 e9=>∃f1 f2 f3 f4 f5,f0=g5 f1 f2 f3 f4 f5/\cL K (call vM [u0 r 0,qa.func (Fn.func 76) [u0 r 0] []] e8 e9) λf9 f7 f8=>cL K (call wA [u0 r 0] f7 f8) λg3 g1 g2=>∃g4 g7 g8 g9 h0 h1,g3=g6 g4 g7 g8 g9 h0 h1/\∃h2,h2=qC g2 [iv 0,u5 [],iv 0,iv 0,iv 0,u9] g1/\sT h2 (u0 g2 0) [iv g4,u5 g7,iv g8,iv g9,iv h0,h1] λh3=>∃h4 h5 h6 h7 h8,l5 h3 (u0 d 0) h4 h5 h6 h7 h8/\∃h9 i0 i1 i2 i3 i4,l6 h3 (u0 o 0) h9 i0 i1 i2 i3 i4/\∃i5 i6 i7 i8 i9 j0,l6 h3 (u0 g2 0) i5 i6 i7 i8 i9 j0/\((∃j1 j2 j3 j4 j5,l5 h3 (u0 d 0) j1 j2 j3 j4 j5/\g5 j1 j2 j3 j4 j5=g5 h4 h5 h6 h7 h8)/\(∃j1 j2 j3 j4 j5 j6,l6 h3 (u0 o 0) j1 j2 j3 j4 j5 j6/\g6 j1 j2 j3 j4 j5 j6=g6 h9 i0 i1 i2 i3 i4)/\(∃j1 j2 j3 j4 j5 j6,l6 h3 (u0 g2 0) j1 j2 j3 j4 j5 j6/\g6 j1 j2 j3 j4 j5 j6=g6 i5 i6 i7 i8 i9 j0)/\True)/\cL K (call jO [u0 r 0] h3 (g2+1+11)) λj4 j2 j3=>∃j5 j6 j7 j8 j9 k0,j4=g6 j5 j6 j7 j8 j9 k0/\∃k1,k1=qC (g2+1+6) [iv h9,u5 i0,iv i1,iv i2,iv i3,i4,iv i5,u5 i6,iv i7,iv i8,iv i9,j0,iv j5,u5 j6,iv j7,iv j8,iv j9,k0] j2/\((∃k2 k3 k4 k5 k6,l5 k1 (u0 d 0) k2 k3 k4 k5 k6/\g5 k2 k3 k4 k5 k6=g5 h4 h5 h6 h7 h8)/\(∃k2 k3 k4 k5 k6 k7,l6 k1 (u0 o 0) k2 k3 k4 k5 k6 k7/\g6 k2 k3 k4 k5 k6 k7=g6 h9 i0 i1 i2 i3 i4)/\(∃k2 k3 k4 k5 k6 k7,l6 k1 (u0 g2 0) k2 k3 k4 k5 k6 k7/\g6 k2 k3 k4 k5 k6 k7=g6 i5 i6 i7 i8 i9 j0)/\True)/\∃k2 k3,jN 6 k1 f9=some (k2,k3)/\qt k3=true/\∃k4 k5 k6,z3 k1 j3 6 72 (qa.slice (g2+1+6) 0 3 6 true) k2 k3=some (k4,k5,k6)/\((∃k7 k8 k9 l0 l1,l5 k5 (u0 d 0) k7 k8 k9 l0 l1/\g5 k7 k8 k9 l0 l1=g5 h4 h5 h6 h7 h8)/\True)/\cL K (call qH [g5 h4 h5 h6 h7 h8,iv 6,u5 f2,k4] k5 k6) λl0 k8 k9=>∃l1 l2 l3 l4 l7 l8,l0=g6 l1 l2 l3 l4 l7 l8/\True/\sT k8 (u0 nx 0) [iv l1,u5 l2,iv l3,iv l4,iv l7,l8] λl9=>True/\∃m0 m1 m2 m3 m4 m5,l6 l9 (u0 nx 0) m0 m1 m2 m3 m4 m5/\K (U3 (g6 m0 m1 m2 m3 m4 m5)) l9 k9) (cL K (call jp [u0 r 0] A B) λI F G=>∃J L M N O,I=g5 J L M N O/\cL K (call vM [u0 r 0,qa.func (Fn.func 76) [u0 r 0] []] F G) λS Q R=>cL K (call wA [u0 r 0] Q R) λW U V=>∃X Y Z a0 a1 a2,W=g6 X Y Z a0 a1 a2/\∃a3,a3=qC V [iv 0,u5 [],iv 0,iv 0,iv 0,u9] U/\sT a3 (u0 V 0) [iv X,u5 Y,iv Z,iv a0,iv a1,a2] λa4=>∃a5 a6 a7 a8 a9,l5 a4 (u0 d 0) a5 a6 a7 a8 a9/\∃b0 b1 b2 b3 b4 b5,l6 a4 (u0 o 0) b0 b1 b2 b3 b4 b5/\∃b6 b7 b8 b9 c0 c1,l6 a4 (u0 V 0) b6 b7 b8 b9 c0 c1/\((∃c2 c3 c4 c5 c6,l5 a4 (u0 d 0) c2 c3 c4 c5 c6/\g5 c2 c3 c4 c5 c6=g5 a5 a6 a7 a8 a9)/\(∃c2 c3 c4 c5 c6 c7,l6 a4 (u0 o 0) c2 c3 c4 c5 c6 c7/\g6 c2 c3 c4 c5 c6 c7=g6 b0 b1 b2 b3 b4 b5)/\(∃c2 c3 c4 c5 c6 c7,l6 a4 (u0 V 0) c2 c3 c4 c5 c6 c7/\g6 c2 c3 c4 c5 c6 c7=g6 b6 b7 b8 b9 c0 c1)/\True)/\cL K (call jO [u0 r 0] a4 (V+1+11)) λc5 c3 c4=>∃c6 c7 c8 c9 d0 d1,c5=g6 c6 c7 c8 c9 d0 d1/\∃d2,d2=qC (V+1+6) [iv b0,u5 b1,iv b2,iv b3,iv b4,b5,iv b6,u5 b7,iv b8,iv b9,iv c0,c1,iv c6,u5 c7,iv c8,iv c9,iv d0,d1] c3/\((∃d3 d4 d5 d6 d7,l5 d2 (u0 d 0) d3 d4 d5 d6 d7/\g5 d3 d4 d5 d6 d7=g5 a5 a6 a7 a8 a9)/\(∃d3 d4 d5 d6 d7 d8,l6 d2 (u0 o 0) d3 d4 d5 d6 d7 d8/\g6 d3 d4 d5 d6 d7 d8=g6 b0 b1 b2 b3 b4 b5)/\(∃d3 d4 d5 d6 d7 d8,l6 d2 (u0 V 0) d3 d4 d5 d6 d7 d8/\g6 d3 d4 d5 d6 d7 d8=g6 b6 b7 b8 b9 c0 c1)/\True)/\∃d3 d4,jN 6 d2 S=some (d3,d4)/\qt d4=true/\∃d5 d6 d7,z3 d2 c4 6 72 (qa.slice (V+1+6) 0 3 6 true) d3 d4=some (d5,d6,d7)/\((∃d8 d9 e0 e1 e2,l5 d6 (u0 d 0) d8 d9 e0 e1 e2/\g5 d8 d9 e0 e1 e2=g5 a5 a6 a7 a8 a9)/\True)/\cL K (call qH [g5 a5 a6 a7 a8 a9,iv 6,u5 L,d5] d6 d7) λe1 d9 e0=>∃e2 e3 e4 e5 e6 e7,e1=g6 e2 e3 e4 e5 e6 e7/\True/\sT d9 (u0 nx 0) [iv e2,u5 e3,iv e4,iv e5,iv e6,e7] λe8=>True/\∃e9 f0 f1 f2 f3 f4,l6 e8 (u0 nx 0) e9 f0 f1 f2 f3 f4/\K (U3 (g6 e9 f0 f1 f2 f3 f4)) e8 e0)):=by kernel_rfl
theorem qa2(r:Nat)(H:qc)(nx:Nat)(K:qr):qL PG call lp jO [u0 r 0] H nx (qy PG lv lvc K)=
 (∃a,a=qC nx [iv 0,u5 [],iv 0,iv 0,iv 0,u9] H/\cL K (call zZ [u0 r 0] a (nx+1)) λe c d=>∃f g h i j,e=g5 f g h i j/\∃k,k=qC d [iv 0,u5 [],iv 0,iv 0,iv 0] c/\sT k (u0 d 0) [iv f,u5 g,iv h,iv i,iv j] λl=>∃m n o p q,l5 l (u0 d 0) m n o p q/\((∃s t u v w,l5 l (u0 d 0) s t u v w/\g5 s t u v w=g5 m n o p q)/\True)/\cL K (call wV [u0 r 0,qa.func (Fn.func 92) [u0 r 0] []] l (d+1+7)) λv t u=>((∃w x y z A,l5 t (u0 d 0) w x y z A/\g5 w x y z A=g5 m n o p q)/\True)/\cL K (call qH [g5 m n o p q,iv 10,u5 [],v] t u) λz x y=>∃A B C D E F,z=g6 A B C D E F/\True/\sT x (u0 nx 0) [iv A,u5 B,iv C,iv D,iv E,F] λG=>True/\∃I J L M N O,l6 G (u0 nx 0) I J L M N O/\K (U3 (g6 I J L M N O)) G y):=by kernel_rfl
theorem qc3(r:Nat)(H:qc)(nx:Nat)(K:qr):qL PG call lp Qi [u0 r 0] H nx (qy PG lv lvc K)=
 (∃a,a=qC nx [iv 0,u5 [],iv 0,iv 0,iv 0,u9] H/\cL K (call ya [u0 r 0] a (nx+1)) λe c d=>call zZ [u0 r 0] c d λf g h=>qj f (λi=>∃j k l m n,i=g5 j k l m n/\∃o,o=qC h [iv 0,u5 [],iv 0,iv 0,iv 0] g/\sT o (u0 h 0) [iv j,u5 k,iv l,iv m,iv n] λp=>call jn [u0 r 0,u5 [123]] p (h+1) λq s t=>qj q (λu=>∃v,u=u7 v/\ifB v (call jO [u0 r 0] s t λw x y=>qj w (λz=>∃A B C D E F,z=g6 A B C D E F/\sT x (u0 nx 0) [iv A,u5 B,iv C,iv D,iv E,F] λG=>lvc [zq.cell (u0 nx 0) qJ] [(105,[u0 r 0])] qw.returning G y λI J L=>K I J L) λz=>lvc [zq.cell (u0 nx 0) qJ] [(105,[u0 r 0])] (qw.panicking z) x y λA B C=>K A B C) (call zb [u0 r 0,u5 [118,97,114]] s t λw x y=>qj w (λz=>∃A,z=u7 A/\ifB A (call jp [u0 r 0] x y λB C D=>qj B (λE=>∃F G I J L,E=g5 F G I J L/\call jM [u0 r 0] C D λM N O=>qj M (λP=>∃Q R S T U V,P=g6 Q R S T U V/\∃W,W=qC O [iv 0,u5 [],iv 0,iv 0,iv 0,u9] N/\sT W (u0 O 0) [iv Q,u5 R,iv S,iv T,iv U,V] λX=>∃Y Z a0 a1 a2,l5 X (u0 h 0) Y Z a0 a1 a2/\∃a3 a4 a5 a6 a7 a8,l6 X (u0 O 0) a3 a4 a5 a6 a7 a8/\((∃a9 b0 b1 b2 b3,l5 X (u0 h 0) a9 b0 b1 b2 b3/\g5 a9 b0 b1 b2 b3=g5 Y Z a0 a1 a2)/\(∃a9 b0 b1 b2 b3 b4,l6 X (u0 O 0) a9 b0 b1 b2 b3 b4/\g6 a9 b0 b1 b2 b3 b4=g6 a3 a4 a5 a6 a7 a8)/\True)/\call Jw [u0 r 0,u5 [61]] X (O+1+8) λa9 b0 b1=>qj a9 (λb2=>∃b3 b4 b5 b6 b7 b8,b2=g6 b3 b4 b5 b6 b7 b8/\∃b9,b9=qC (O+1+5) [iv a3,u5 a4,iv a5,iv a6,iv a7,a8,iv b3,u5 b4,iv b5,iv b6,iv b7,b8] b0/\((∃c0 c1 c2 c3 c4,l5 b9 (u0 h 0) c0 c1 c2 c3 c4/\g5 c0 c1 c2 c3 c4=g5 Y Z a0 a1 a2)/\(∃c0 c1 c2 c3 c4 c5,l6 b9 (u0 O 0) c0 c1 c2 c3 c4 c5/\g6 c0 c1 c2 c3 c4 c5=g6 a3 a4 a5 a6 a7 a8)/\True)/\call qH [g5 Y Z a0 a1 a2,iv 11,u5 G,qa.slice (O+1+5) 0 2 6 true] b9 b1 λc0 c1 c2=>qj c0 (λc3=>∃c4 c5 c6 c7 c8 c9,c3=g6 c4 c5 c6 c7 c8 c9/\True/\sT c1 (u0 nx 0) [iv c4,u5 c5,iv c6,iv c7,iv c8,c9] λd0=>True/\lvc [zq.cell (u0 nx 0) 47] [(105,[u0 r 0])] qw.returning d0 c2 λd1 d2 d3=>K d1 d2 d3) λc3=>lvc [zq.cell (u0 nx 0) qJ] [(105,[u0 r 0])] (qw.panicking c3) c1 c2 λc4 c5 c6=>K c4 c5 c6) λb2=>lvc [zq.cell (u0 nx 0) qJ] [(105,[u0 r 0])] (qw.panicking b2) b0 b1 λb3 b4 b5=>K b3 b4 b5) λP=>lvc [zq.cell (u0 nx 0) qJ] [(105,[u0 r 0])] (qw.panicking P) N O λQ R S=>K Q R S) λE=>lvc [zq.cell (u0 nx 0) qJ] [(105,[u0 r 0])] (qw.panicking E) C D λF G I=>K F G I) (call jn [u0 r 0,u5 [105,102]] x y λB C D=>qj B (λE=>∃F,E=u7 F/\ifB F (call Q7 [u0 r 0] C D λG I J=>qj G (λL=>∃M N O P Q R,L=g6 M N O P Q R/\sT I (u0 nx 0) [iv M,u5 N,iv O,iv P,iv Q,R] λS=>lvc [zq.cell (u0 nx 0) qJ] [(105,[u0 r 0])] qw.returning S J λT U V=>K T U V) λL=>lvc [zq.cell (u0 nx 0) qJ] [(105,[u0 r 0])] (qw.panicking L) I J λM N O=>K M N O) (call zb [u0 r 0,u5 [102,111,114]] C D λG I J=>qj G (λL=>∃M,L=u7 M/\ifB M (call vu [] I J λN O P=>qj N (λQ=>∃R S T U V W,Q=g6 R S T U V W/\∃X,X=qC P [iv 0,u5 [],iv 0,iv 0,iv 0,u9] O/\sT X (u0 P 0) [iv R,u5 S,iv T,iv U,iv V,W] λY=>call jn [u0 r 0,u5 [123]] Y (P+1) λZ a0 a1=>qj Z (λa2=>∃a3,a2=u7 a3/\ifB (!a3) (call jj [u0 r 0] a0 a1 λa4 a5 a6=>qj a4 (λa7=>∃a8 a9 b0 b1 b2 b3,a7=g6 a8 a9 b0 b1 b2 b3/\sT a5 (u0 P 0) [iv a8,u5 a9,iv b0,iv b1,iv b2,b3] λb4=>∃b5 b6 b7 b8 b9,l5 b4 (u0 h 0) b5 b6 b7 b8 b9/\∃c0 c1 c2 c3 c4 c5,l6 b4 (u0 P 0) c0 c1 c2 c3 c4 c5/\((∃c6 c7 c8 c9 d0,l5 b4 (u0 h 0) c6 c7 c8 c9 d0/\g5 c6 c7 c8 c9 d0=g5 b5 b6 b7 b8 b9)/\(∃c6 c7 c8 c9 d0 d1,l6 b4 (u0 P 0) c6 c7 c8 c9 d0 d1/\g6 c6 c7 c8 c9 d0 d1=g6 c0 c1 c2 c3 c4 c5)/\True)/\call jO [u0 r 0] b4 (a6+7) λc6 c7 c8=>qj c6 (λc9=>∃d0 d1 d2 d3 d4 d5,c9=g6 d0 d1 d2 d3 d4 d5/\∃d6,d6=qC (a6+4) [iv c0,u5 c1,iv c2,iv c3,iv c4,c5,iv d0,u5 d1,iv d2,iv d3,iv d4,d5] c7/\((∃d7 d8 d9 e0 e1,l5 d6 (u0 h 0) d7 d8 d9 e0 e1/\g5 d7 d8 d9 e0 e1=g5 b5 b6 b7 b8 b9)/\(∃d7 d8 d9 e0 e1 e2,l6 d6 (u0 P 0) d7 d8 d9 e0 e1 e2/\g6 d7 d8 d9 e0 e1 e2=g6 c0 c1 c2 c3 c4 c5)/\True)/\call qH [g5 b5 b6 b7 b8 b9,iv 15,u5 [],qa.slice (a6+4) 0 2 6 true] d6 c8 λd7 d8 d9=>qj d7 (λe0=>∃e1 e2 e3 e4 e5 e6,e0=g6 e1 e2 e3 e4 e5 e6/\True/\sT d8 (u0 nx 0) [iv e1,u5 e2,iv e3,iv e4,iv e5,e6] λe7=>True/\lvc [zq.cell (u0 nx 0) qJ] [(105,[u0 r 0])] qw.returning e7 d9 λe8 e9 f0=>K e8 e9 f0) λe0=>lvc [zq.cell (u0 nx 0) qJ] [(105,[u0 r 0])] (qw.panicking e0) d8 d9 λe1 e2 e3=>K e1 e2 e3) λc9=>lvc [zq.cell (u0 nx 0) qJ] [(105,[u0 r 0])] (qw.panicking c9) c7 c8 λd0 d1 d2=>K d0 d1 d2) λa7=>lvc [zq.cell (u0 nx 0) qJ] [(105,[u0 r 0])] (qw.panicking a7) a5 a6 λa8 a9 b0=>K a8 a9 b0) (∃a4 a5 a6 a7 a8,l5 a0 (u0 h 0) a4 a5 a6 a7 a8/\∃a9 b0 b1 b2 b3 b4,l6 a0 (u0 P 0) a9 b0 b1 b2 b3 b4/\((∃b5 b6 b7 b8 b9,l5 a0 (u0 h 0) b5 b6 b7 b8 b9/\g5 b5 b6 b7 b8 b9=g5 a4 a5 a6 a7 a8)/\(∃b5 b6 b7 b8 b9 c0,l6 a0 (u0 P 0) b5 b6 b7 b8 b9 c0/\g6 b5 b6 b7 b8 b9 c0=g6 a9 b0 b1 b2 b3 b4)/\True)/\call jO [u0 r 0] a0 (a1+7) λb5 b6 b7=>qj b5 (λb8=>∃b9 c0 c1 c2 c3 c4,b8=g6 b9 c0 c1 c2 c3 c4/\∃c5,c5=qC (a1+4) [iv a9,u5 b0,iv b1,iv b2,iv b3,b4,iv b9,u5 c0,iv c1,iv c2,iv c3,c4] b6/\((∃c6 c7 c8 c9 d0,l5 c5 (u0 h 0) c6 c7 c8 c9 d0/\g5 c6 c7 c8 c9 d0=g5 a4 a5 a6 a7 a8)/\(∃c6 c7 c8 c9 d0 d1,l6 c5 (u0 P 0) c6 c7 c8 c9 d0 d1/\g6 c6 c7 c8 c9 d0 d1=g6 a9 b0 b1 b2 b3 b4)/\True)/\call qH [g5 a4 a5 a6 a7 a8,iv 15,u5 [],qa.slice (a1+4) 0 2 6 true] c5 b7 λc6 c7 c8=>qj c6 (λc9=>∃d0 d1 d2 d3 d4 d5,c9=g6 d0 d1 d2 d3 d4 d5/\True/\sT c7 (u0 nx 0) [iv d0,u5 d1,iv d2,iv d3,iv d4,d5] λd6=>True/\lvc [zq.cell (u0 nx 0) qJ] [(105,[u0 r 0])] qw.returning d6 c8 λd7 d8 d9=>K d7 d8 d9) λc9=>lvc [zq.cell (u0 nx 0) qJ] [(105,[u0 r 0])] (qw.panicking c9) c7 c8 λd0 d1 d2=>K d0 d1 d2) λb8=>lvc [zq.cell (u0 nx 0) qJ] [(105,[u0 r 0])] (qw.panicking b8) b6 b7 λb9 c0 c1=>K b9 c0 c1)) λa2=>lvc [zq.cell (u0 nx 0) qJ] [(105,[u0 r 0])] (qw.panicking a2) a0 a1 λa3 a4 a5=>K a3 a4 a5) λQ=>lvc [zq.cell (u0 nx 0) qJ] [(105,[u0 r 0])] (qw.panicking Q) O P λR S T=>K R S T) (call zb [u0 r 0,u5 [98,114,101,97,107]] I J λN O P=>qj N (λQ=>∃R,Q=u7 R/\ifB R (∃S T U V W,l5 O (u0 h 0) S T U V W/\call qH [g5 S T U V W,iv 16,u5 [],u9] O P λX Y Z=>qj X (λa0=>∃a1 a2 a3 a4 a5 a6,a0=g6 a1 a2 a3 a4 a5 a6/\sT Y (u0 nx 0) [iv a1,u5 a2,iv a3,iv a4,iv a5,a6] λa7=>lvc [zq.cell (u0 nx 0) qJ] [(105,[u0 r 0])] qw.returning a7 Z λa8 a9 b0=>K a8 a9 b0) λa0=>lvc [zq.cell (u0 nx 0) qJ] [(105,[u0 r 0])] (qw.panicking a0) Y Z λa1 a2 a3=>K a1 a2 a3) (call zb [u0 r 0,u5 [99,111,110,116,105,110,117,101]] O P λS T U=>qj S (λV=>∃W,V=u7 W/\ifB W (∃X Y Z a0 a1,l5 T (u0 h 0) X Y Z a0 a1/\call qH [g5 X Y Z a0 a1,iv 17,u5 [],u9] T U λa2 a3 a4=>qj a2 (λa5=>∃a6 a7 a8 a9 b0 b1,a5=g6 a6 a7 a8 a9 b0 b1/\sT a3 (u0 nx 0) [iv a6,u5 a7,iv a8,iv a9,iv b0,b1] λb2=>lvc [zq.cell (u0 nx 0) qJ] [(105,[u0 r 0])] qw.returning b2 a4 λb3 b4 b5=>K b3 b4 b5) λa5=>lvc [zq.cell (u0 nx 0) qJ] [(105,[u0 r 0])] (qw.panicking a5) a3 a4 λa6 a7 a8=>K a6 a7 a8) (call 69 [u0 r 0,u5 [114,101,116,117,114,110]] T U λX Y Z=>qj X (λa0=>∃a1,a0=u7 a1/\ifB a1 (call jn [u0 r 0,u5 [59]] Y Z λa2 a3 a4=>qj a2 (λa5=>∃a6,a5=u7 a6/\ifB a6 (∃a7 a8 a9 b0 b1,l5 a3 (u0 h 0) a7 a8 a9 b0 b1/\((∃b2 b3 b4 b5 b6,l5 a3 (u0 h 0) b2 b3 b4 b5 b6/\g5 b2 b3 b4 b5 b6=g5 a7 a8 a9 b0 b1)/\True)/\call vu [] a3 (a4+5) λb2 b3 b4=>qj b2 (λb5=>∃b6 b7 b8 b9 c0 c1,b5=g6 b6 b7 b8 b9 c0 c1/\∃c2,c2=qC (a4+2) [iv b6,u5 b7,iv b8,iv b9,iv c0,c1] b3/\((∃c3 c4 c5 c6 c7,l5 c2 (u0 h 0) c3 c4 c5 c6 c7/\g5 c3 c4 c5 c6 c7=g5 a7 a8 a9 b0 b1)/\True)/\call qH [g5 a7 a8 a9 b0 b1,iv 18,u5 [],qa.slice (a4+2) 0 1 6 true] c2 b4 λc3 c4 c5=>qj c3 (λc6=>∃c7 c8 c9 d0 d1 d2,c6=g6 c7 c8 c9 d0 d1 d2/\True/\sT c4 (u0 nx 0) [iv c7,u5 c8,iv c9,iv d0,iv d1,d2] λd3=>True/\lvc [zq.cell (u0 nx 0) qJ] [(105,[u0 r 0])] qw.returning d3 c5 λd4 d5 d6=>K d4 d5 d6) λc6=>lvc [zq.cell (u0 nx 0) qJ] [(105,[u0 r 0])] (qw.panicking c6) c4 c5 λc7 c8 c9=>K c7 c8 c9) λb5=>lvc [zq.cell (u0 nx 0) qJ] [(105,[u0 r 0])] (qw.panicking b5) b3 b4 λb6 b7 b8=>K b6 b7 b8) (call jn [u0 r 0,u5 [125]] a3 a4 λa7 a8 a9=>qj a7 (λb0=>∃b1,b0=u7 b1/\ifB b1 (∃b2 b3 b4 b5 b6,l5 a8 (u0 h 0) b2 b3 b4 b5 b6/\((∃b7 b8 b9 c0 c1,l5 a8 (u0 h 0) b7 b8 b9 c0 c1/\g5 b7 b8 b9 c0 c1=g5 b2 b3 b4 b5 b6)/\True)/\call vu [] a8 (a9+5) λb7 b8 b9=>qj b7 (λc0=>∃c1 c2 c3 c4 c5 c6,c0=g6 c1 c2 c3 c4 c5 c6/\∃c7,c7=qC (a9+2) [iv c1,u5 c2,iv c3,iv c4,iv c5,c6] b8/\((∃c8 c9 d0 d1 d2,l5 c7 (u0 h 0) c8 c9 d0 d1 d2/\g5 c8 c9 d0 d1 d2=g5 b2 b3 b4 b5 b6)/\True)/\call qH [g5 b2 b3 b4 b5 b6,iv 18,u5 [],qa.slice (a9+2) 0 1 6 true] c7 b9 λc8 c9 d0=>qj c8 (λd1=>∃d2 d3 d4 d5 d6 d7,d1=g6 d2 d3 d4 d5 d6 d7/\True/\sT c9 (u0 nx 0) [iv d2,u5 d3,iv d4,iv d5,iv d6,d7] λd8=>True/\lvc [zq.cell (u0 nx 0) qJ] [(105,[u0 r 0])] qw.returning d8 d0 λd9 e0 e1=>K d9 e0 e1) λd1=>lvc [zq.cell (u0 nx 0) qJ] [(105,[u0 r 0])] (qw.panicking d1) c9 d0 λd2 d3 d4=>K d2 d3 d4) λc0=>lvc [zq.cell (u0 nx 0) qJ] [(105,[u0 r 0])] (qw.panicking c0) b8 b9 λc1 c2 c3=>K c1 c2 c3) (∃b2 b3 b4 b5 b6,l5 a8 (u0 h 0) b2 b3 b4 b5 b6/\((∃b7 b8 b9 c0 c1,l5 a8 (u0 h 0) b7 b8 b9 c0 c1/\g5 b7 b8 b9 c0 c1=g5 b2 b3 b4 b5 b6)/\True)/\call jj [u0 r 0] a8 (a9+6) λb7 b8 b9=>qj b7 (λc0=>∃c1 c2 c3 c4 c5 c6,c0=g6 c1 c2 c3 c4 c5 c6/\∃c7,c7=qC (a9+3) [iv c1,u5 c2,iv c3,iv c4,iv c5,c6] b8/\((∃c8 c9 d0 d1 d2,l5 c7 (u0 h 0) c8 c9 d0 d1 d2/\g5 c8 c9 d0 d1 d2=g5 b2 b3 b4 b5 b6)/\True)/\call qH [g5 b2 b3 b4 b5 b6,iv 18,u5 [],qa.slice (a9+3) 0 1 6 true] c7 b9 λc8 c9 d0=>qj c8 (λd1=>∃d2 d3 d4 d5 d6 d7,d1=g6 d2 d3 d4 d5 d6 d7/\True/\sT c9 (u0 nx 0) [iv d2,u5 d3,iv d4,iv d5,iv d6,d7] λd8=>True/\lvc [zq.cell (u0 nx 0) qJ] [(105,[u0 r 0])] qw.returning d8 d0 λd9 e0 e1=>K d9 e0 e1) λd1=>lvc [zq.cell (u0 nx 0) qJ] [(105,[u0 r 0])] (qw.panicking d1) c9 d0 λd2 d3 d4=>K d2 d3 d4) λc0=>lvc [zq.cell (u0 nx 0) qJ] [(105,[u0 r 0])] (qw.panicking c0) b8 b9 λc1 c2 c3=>K c1 c2 c3)) λb0=>lvc [zq.cell (u0 nx 0) 47] [(105,[u0 r 0])] (qw.panicking b0) a8 a9 λb1 b2 b3=>K b1 b2 b3)) λa5=>lvc [zq.cell (u0 nx 0) qJ] [(105,[u0 r 0])] (qw.panicking a5) a3 a4 λa6 a7 a8=>K a6 a7 a8) (call zb [u0 r 0,u5 [112,114,105,110,116]] Y Z λa2 a3 a4=>qj a2 (λa5=>∃a6,a5=u7 a6/\ifB a6 (call zd [u0 r 0,u5 [40]] a3 a4 λa7 a8 a9=>qj a7 (λb0=>∃b1 b2 b3 b4 b5,b0=g5 b1 b2 b3 b4 b5/\call jj [u0 r 0] a8 a9 λb6 b7 b8=>qj b6 (λb9=>∃c0 c1 c2 c3 c4 c5,b9=g6 c0 c1 c2 c3 c4 c5/\∃c6,c6=qC b8 [iv 0,u5 [],iv 0,iv 0,iv 0,u9] b7/\sT c6 (u0 b8 0) [iv c0,u5 c1,iv c2,iv c3,iv c4,c5] λc7=>call zd [u0 r 0,u5 [41]] c7 (b8+1) λc8 c9 d0=>qj c8 (λd1=>∃d2 d3 d4 d5 d6,d1=g5 d2 d3 d4 d5 d6/\∃d7 d8 d9 e0 e1,l5 c9 (u0 h 0) d7 d8 d9 e0 e1/\∃e2 e3 e4 e5 e6 e7,l6 c9 (u0 b8 0) e2 e3 e4 e5 e6 e7/\∃e8,e8=qC d0 [iv e2,u5 e3,iv e4,iv e5,iv e6,e7] c9/\call qH [g5 d7 d8 d9 e0 e1,iv 20,u5 [],qa.slice d0 0 1 6 true] e8 (d0+1) λe9 f0 f1=>qj e9 (λf2=>∃f3 f4 f5 f6 f7 f8,f2=g6 f3 f4 f5 f6 f7 f8/\sT f0 (u0 nx 0) [iv f3,u5 f4,iv f5,iv f6,iv f7,f8] λf9=>lvc [zq.cell (u0 nx 0) qJ] [(105,[u0 r 0])] qw.returning f9 f1 λg0 g1 g2=>K g0 g1 g2) λf2=>lvc [zq.cell (u0 nx 0) qJ] [(105,[u0 r 0])] (qw.panicking f2) f0 f1 λf3 f4 f5=>K f3 f4 f5) λd1=>lvc [zq.cell (u0 nx 0) qJ] [(105,[u0 r 0])] (qw.panicking d1) c9 d0 λd2 d3 d4=>K d2 d3 d4) λb9=>lvc [zq.cell (u0 nx 0) qJ] [(105,[u0 r 0])] (qw.panicking b9) b7 b8 λc0 c1 c2=>K c0 c1 c2) λb0=>lvc [zq.cell (u0 nx 0) qJ] [(105,[u0 r 0])] (qw.panicking b0) a8 a9 λb1 b2 b3=>K b1 b2 b3) (call Zn [u0 r 0] a3 a4 λa7 a8 a9=>qj a7 (λb0=>∃b1 b2 b3 b4 b5 b6,b0=g6 b1 b2 b3 b4 b5 b6/\sT a8 (u0 nx 0) [iv b1,u5 b2,iv b3,iv b4,iv b5,b6] λb7=>lvc [zq.cell (u0 nx 0) qJ] [(105,[u0 r 0])] qw.returning b7 a9 λb8 b9 c0=>K b8 b9 c0) λb0=>lvc [zq.cell (u0 nx 0) qJ] [(105,[u0 r 0])] (qw.panicking b0) a8 a9 λb1 b2 b3=>K b1 b2 b3)) λa5=>lvc [zq.cell (u0 nx 0) qJ] [(105,[u0 r 0])] (qw.panicking a5) a3 a4 λa6 a7 a8=>K a6 a7 a8)) λa0=>lvc [zq.cell (u0 nx 0) qJ] [(105,[u0 r 0])] (qw.panicking a0) Y Z λa1 a2 a3=>K a1 a2 a3)) λV=>lvc [zq.cell (u0 nx 0) qJ] [(105,[u0 r 0])] (qw.panicking V) T U λW X Y=>K W X Y)) λQ=>lvc [zq.cell (u0 nx 0) qJ] [(105,[u0 r 0])] (qw.panicking Q) O P λR S T=>K R S T)) λL=>lvc [zq.cell (u0 nx 0) qJ] [(105,[u0 r 0])] (qw.panicking L) I J λM N O=>K M N O)) λE=>lvc [zq.cell (u0 nx 0) qJ] [(105,[u0 r 0])] (qw.panicking E) C D λF G I=>K F G I)) λz=>lvc [zq.cell (u0 nx 0) qJ] [(105,[u0 r 0])] (qw.panicking z) x y λA B C=>K A B C)) λu=>lvc [zq.cell (u0 nx 0) qJ] [(105,[u0 r 0])] (qw.panicking u) s t λv w x=>K v w x) λi=>lvc [zq.cell (u0 nx 0) qJ] [(105,[u0 r 0])] (qw.panicking i) g h λj k l=>K j k l):=by kernel_rfl
theorem qg0(r:Nat)(H:qc)(nx:Nat)(K:qr):qL PG call lp Q7 [u0 r 0] H nx (qy PG lv lvc K)=
 (∃a,a=qC nx [iv 0,u5 [],iv 0,iv 0,iv 0,u9] H/\cL K (call zd [u0 r 0,u5 [105,102]] a (nx+1)) λe c d=>∃f g h i j,e=g5 f g h i j/\∃k,k=qC d [iv 0,u5 [],iv 0,iv 0,iv 0] c/\sT k (u0 d 0) [iv f,u5 g,iv h,iv i,iv j] λl=>cL K (call jj [u0 r 0] l (d+1)) λp n o=>∃q s t u v w,p=g6 q s t u v w/\∃x,x=qC o [iv 0,u5 [],iv 0,iv 0,iv 0,u9] n/\sT x (u0 o 0) [iv q,u5 s,iv t,iv u,iv v,w] λy=>cL K (call jO [u0 r 0] y (o+1)) λC A B=>∃D E F G I J,C=g6 D E F G I J/\∃L,L=qC B [iv 0,u5 [],iv 0,iv 0,iv 0,u9] A/\sT L (u0 B 0) [iv D,u5 E,iv F,iv G,iv I,J] λM=>cL K (call vu [] M (B+1)) λQ O P=>∃R S T U V W,Q=g6 R S T U V W/\∃X,X=qC P [iv 0,u5 [],iv 0,iv 0,iv 0,u9] O/\sT X (u0 P 0) [iv R,u5 S,iv T,iv U,iv V,W] λY=>cB K (call 69 [u0 r 0,u5 [101,108,115,101]] Y (P+1)) λa3 a0 a1=>ifB a3 (cB K (call jn [u0 r 0,u5 [105,102]] a0 a1) λa8 a5 a6=>ifB a8 (cL K (call Q5 [u0 r 0] a5 a6) λb2 b0 b1=>∃b3 b4 b5 b6 b7 b8,b2=g6 b3 b4 b5 b6 b7 b8/\sT b0 (u0 P 0) [iv b3,u5 b4,iv b5,iv b6,iv b7,b8] λb9=>∃c0 c1 c2 c3 c4,l5 b9 (u0 d 0) c0 c1 c2 c3 c4/\∃c5 c6 c7 c8 c9 d0,l6 b9 (u0 o 0) c5 c6 c7 c8 c9 d0/\∃d1 d2 d3 d4 d5 d6,l6 b9 (u0 B 0) d1 d2 d3 d4 d5 d6/\∃d7 d8 d9 e0 e1 e2,l6 b9 (u0 P 0) d7 d8 d9 e0 e1 e2/\∃e3,e3=qC b1 [iv c5,u5 c6,iv c7,iv c8,iv c9,d0,iv d1,u5 d2,iv d3,iv d4,iv d5,d6,iv d7,u5 d8,iv d9,iv e0,iv e1,e2] b9/\cL K (call qH [g5 c0 c1 c2 c3 c4,iv 14,u5 [],qa.slice b1 0 3 6 true] e3 (b1+1)) λe7 e5 e6=>∃e8 e9 f0 f1 f2 f3,e7=g6 e8 e9 f0 f1 f2 f3/\sT e5 (u0 nx 0) [iv e8,u5 e9,iv f0,iv f1,iv f2,f3] λf4=>∃f5 f6 f7 f8 f9 g0,l6 f4 (u0 nx 0) f5 f6 f7 f8 f9 g0/\K (U3 (g6 f5 f6 f7 f8 f9 g0)) f4 e6) (cB K (call jn [u0 r 0,u5 [123]] a5 a6) λb3 b0 b1=>ifB b3 (cL K (call jO [u0 r 0] b0 b1) λb7 b5 b6=>∃b8 b9 c0 c1 c2 c3,b7=g6 b8 b9 c0 c1 c2 c3/\sT b5 (u0 P 0) [iv b8,u5 b9,iv c0,iv c1,iv c2,c3] λc4=>∃c5 c6 c7 c8 c9,l5 c4 (u0 d 0) c5 c6 c7 c8 c9/\∃d0 d1 d2 d3 d4 d5,l6 c4 (u0 o 0) d0 d1 d2 d3 d4 d5/\∃d6 d7 d8 d9 e0 e1,l6 c4 (u0 B 0) d6 d7 d8 d9 e0 e1/\∃e2 e3 e4 e5 e6 e7,l6 c4 (u0 P 0) e2 e3 e4 e5 e6 e7/\∃e8,e8=qC b6 [iv d0,u5 d1,iv d2,iv d3,iv d4,d5,iv d6,u5 d7,iv d8,iv d9,iv e0,e1,iv e2,u5 e3,iv e4,iv e5,iv e6,e7] c4/\cL K (call qH [g5 c5 c6 c7 c8 c9,iv 14,u5 [],qa.slice b6 0 3 6 true] e8 (b6+1)) λf2 f0 f1=>∃f3 f4 f5 f6 f7 f8,f2=g6 f3 f4 f5 f6 f7 f8/\sT f0 (u0 nx 0) [iv f3,u5 f4,iv f5,iv f6,iv f7,f8] λf9=>∃g0 g1 g2 g3 g4 g7,l6 f9 (u0 nx 0) g0 g1 g2 g3 g4 g7/\K (U3 (g6 g0 g1 g2 g3 g4 g7)) f9 f1) (cL K (call kS [u0 r 0,iv 13] b0 b1) λb7 b5 b6=>∃b8 b9 c0 c1 c2,l5 b5 (u0 d 0) b8 b9 c0 c1 c2/\∃c3 c4 c5 c6 c7 c8,l6 b5 (u0 o 0) c3 c4 c5 c6 c7 c8/\∃c9 d0 d1 d2 d3 d4,l6 b5 (u0 B 0) c9 d0 d1 d2 d3 d4/\∃d5 d6 d7 d8 d9 e0,l6 b5 (u0 P 0) d5 d6 d7 d8 d9 e0/\∃e1,e1=qC b6 [iv c3,u5 c4,iv c5,iv c6,iv c7,c8,iv c9,u5 d0,iv d1,iv d2,iv d3,d4,iv d5,u5 d6,iv d7,iv d8,iv d9,e0] b5/\cL K (call qH [g5 b8 b9 c0 c1 c2,iv 14,u5 [],qa.slice b6 0 3 6 true] e1 (b6+1)) λe5 e3 e4=>∃e6 e7 e8 e9 f0 f1,e5=g6 e6 e7 e8 e9 f0 f1/\sT e3 (u0 nx 0) [iv e6,u5 e7,iv e8,iv e9,iv f0,f1] λf2=>∃f3 f4 f5 f6 f7 f8,l6 f2 (u0 nx 0) f3 f4 f5 f6 f7 f8/\K (U3 (g6 f3 f4 f5 f6 f7 f8)) f2 e4))) (∃a4 a5 a6 a7 a8,l5 a0 (u0 d 0) a4 a5 a6 a7 a8/\∃a9 b0 b1 b2 b3 b4,l6 a0 (u0 o 0) a9 b0 b1 b2 b3 b4/\∃b5 b6 b7 b8 b9 c0,l6 a0 (u0 B 0) b5 b6 b7 b8 b9 c0/\∃c1 c2 c3 c4 c5 c6,l6 a0 (u0 P 0) c1 c2 c3 c4 c5 c6/\∃c7,c7=qC a1 [iv a9,u5 b0,iv b1,iv b2,iv b3,b4,iv b5,u5 b6,iv b7,iv b8,iv b9,c0,iv c1,u5 c2,iv c3,iv c4,iv c5,c6] a0/\cL K (call qH [g5 a4 a5 a6 a7 a8,iv 14,u5 [],qa.slice a1 0 3 6 true] c7 (a1+1)) λd1 c9 d0=>∃d2 d3 d4 d5 d6 d7,d1=g6 d2 d3 d4 d5 d6 d7/\sT c9 (u0 nx 0) [iv d2,u5 d3,iv d4,iv d5,iv d6,d7] λd8=>∃d9 e0 e1 e2 e3 e4,l6 d8 (u0 nx 0) d9 e0 e1 e2 e3 e4/\K (U3 (g6 d9 e0 e1 e2 e3 e4)) d8 d0)):=by kernel_rfl
theorem XT(r:Nat)(H:qc)(nx:Nat)(K:qr):qL PG call lp Q5 [u0 r 0] H nx (qy PG lv lvc K)=
 (∃a,a=qC nx [iv 0,u5 [],iv 0,iv 0,iv 0,u9] H/\cL K (call Q7 [u0 r 0] a (nx+1)) λe c d=>∃f g h i j k,e=g6 f g h i j k/\sT c (u0 nx 0) [iv f,u5 g,iv h,iv i,iv j,k] λl=>∃m n o p q s,l6 l (u0 nx 0) m n o p q s/\K (U3 (g6 m n o p q s)) l d):=by kernel_rfl
theorem XI(r:Nat)(H:qc)(nx:Nat)(K:qr):qL PG call lp Zn [u0 r 0] H nx (qy PG lv lvc K)=
 (∃a,a=qC nx [iv 0,u5 [],iv 0,iv 0,iv 0,u9] H/\cL K (call zZ [u0 r 0] a (nx+1)) λe c d=>∃f g h i j,e=g5 f g h i j/\∃k,k=qC d [iv 0,u5 [],iv 0,iv 0,iv 0] c/\sT k (u0 d 0) [iv f,u5 g,iv h,iv i,iv j] λl=>cL K (call jj [u0 r 0] l (d+1)) λp n o=>∃q s t u v w,p=g6 q s t u v w/\∃x,x=qC o [iv 0,u5 [],iv 0,iv 0,iv 0,u9] n/\sT x (u0 o 0) [iv q,u5 s,iv t,iv u,iv v,w] λy=>cL K (call zZ [u0 r 0] y (o+1)) λC A B=>∃D E F G I,C=g5 D E F G I/\∃J,J=qC B [iv 0,u5 [],iv 0,iv 0,iv 0] A/\sT J (u0 B 0) [iv D,u5 E,iv F,iv G,iv I] λL=>cB K (call zb [u0 r 0,u5 [58,61]] L (B+1)) λQ N O=>ifB Q (∃R S T U V,l5 N (u0 B 0) R S T U V/\∃W X Y Z a0 a1,l6 N (u0 o 0) W X Y Z a0 a1/\((∃a2 a3 a4 a5 a6,l5 N (u0 B 0) a2 a3 a4 a5 a6/\g5 a2 a3 a4 a5 a6=g5 R S T U V)/\(∃a2 a3 a4 a5 a6 a7,l6 N (u0 o 0) a2 a3 a4 a5 a6 a7/\g6 a2 a3 a4 a5 a6 a7=g6 W X Y Z a0 a1)/\True)/\cL K (call jj [u0 r 0] N (O+7)) λa5 a3 a4=>∃a6 a7 a8 a9 b0 b1,a5=g6 a6 a7 a8 a9 b0 b1/\∃b2,b2=qC (O+4) [iv W,u5 X,iv Y,iv Z,iv a0,a1,iv a6,u5 a7,iv a8,iv a9,iv b0,b1] a3/\((∃b3 b4 b5 b6 b7,l5 b2 (u0 B 0) b3 b4 b5 b6 b7/\g5 b3 b4 b5 b6 b7=g5 R S T U V)/\(∃b3 b4 b5 b6 b7 b8,l6 b2 (u0 o 0) b3 b4 b5 b6 b7 b8/\g6 b3 b4 b5 b6 b7 b8=g6 W X Y Z a0 a1)/\True)/\cL K (call qH [g5 R S T U V,iv 12,u5 [],qa.slice (O+4) 0 2 6 true] b2 a4) λb6 b4 b5=>∃b7 b8 b9 c0 c1 c2,b6=g6 b7 b8 b9 c0 c1 c2/\True/\sT b4 (u0 nx 0) [iv b7,u5 b8,iv b9,iv c0,iv c1,c2] λc3=>True/\∃c4 c5 c6 c7 c8 c9,l6 c3 (u0 nx 0) c4 c5 c6 c7 c8 c9/\K (U3 (g6 c4 c5 c6 c7 c8 c9)) c3 b5) (cB K (call zb [u0 r 0,u5 [61]] N O) λV S T=>ifB V (∃W X Y Z a0,l5 S (u0 B 0) W X Y Z a0/\∃a1 a2 a3 a4 a5 a6,l6 S (u0 o 0) a1 a2 a3 a4 a5 a6/\((∃a7 a8 a9 b0 b1,l5 S (u0 B 0) a7 a8 a9 b0 b1/\g5 a7 a8 a9 b0 b1=g5 W X Y Z a0)/\(∃a7 a8 a9 b0 b1 b2,l6 S (u0 o 0) a7 a8 a9 b0 b1 b2/\g6 a7 a8 a9 b0 b1 b2=g6 a1 a2 a3 a4 a5 a6)/\True)/\cL K (call jj [u0 r 0] S (T+7)) λb0 a8 a9=>∃b1 b2 b3 b4 b5 b6,b0=g6 b1 b2 b3 b4 b5 b6/\∃b7,b7=qC (T+4) [iv a1,u5 a2,iv a3,iv a4,iv a5,a6,iv b1,u5 b2,iv b3,iv b4,iv b5,b6] a8/\((∃b8 b9 c0 c1 c2,l5 b7 (u0 B 0) b8 b9 c0 c1 c2/\g5 b8 b9 c0 c1 c2=g5 W X Y Z a0)/\(∃b8 b9 c0 c1 c2 c3,l6 b7 (u0 o 0) b8 b9 c0 c1 c2 c3/\g6 b8 b9 c0 c1 c2 c3=g6 a1 a2 a3 a4 a5 a6)/\True)/\cL K (call qH [g5 W X Y Z a0,iv 13,u5 [],qa.slice (T+4) 0 2 6 true] b7 a9) λc1 b9 c0=>∃c2 c3 c4 c5 c6 c7,c1=g6 c2 c3 c4 c5 c6 c7/\True/\sT b9 (u0 nx 0) [iv c2,u5 c3,iv c4,iv c5,iv c6,c7] λc8=>True/\∃c9 d0 d1 d2 d3 d4,l6 c8 (u0 nx 0) c9 d0 d1 d2 d3 d4/\K (U3 (g6 c9 d0 d1 d2 d3 d4)) c8 c0) (∃W X Y Z a0,l5 S (u0 d 0) W X Y Z a0/\∃a1 a2 a3 a4 a5 a6,l6 S (u0 o 0) a1 a2 a3 a4 a5 a6/\∃a7,a7=qC T [iv a1,u5 a2,iv a3,iv a4,iv a5,a6] S/\cL K (call qH [g5 W X Y Z a0,iv 19,u5 [],qa.slice T 0 1 6 true] a7 (T+1)) λb1 a9 b0=>∃b2 b3 b4 b5 b6 b7,b1=g6 b2 b3 b4 b5 b6 b7/\sT a9 (u0 nx 0) [iv b2,u5 b3,iv b4,iv b5,iv b6,b7] λb8=>∃b9 c0 c1 c2 c3 c4,l6 b8 (u0 nx 0) b9 c0 c1 c2 c3 c4/\K (U3 (g6 b9 c0 c1 c2 c3 c4)) b8 b0))):=by kernel_rfl
theorem qdw(r:Nat)(H:qc)(nx:Nat)(K:qr):qL PG call lp jj [u0 r 0] H nx (qy PG lv lvc K)=
 (∃a,a=qC nx [iv 0,u5 [],iv 0,iv 0,iv 0,u9] H/\cL K (call ya [u0 r 0] a (nx+1)) λe c d=>call jb [u0 r 0,iv 1] c d λf g h=>qj f (λi=>∃j k l m n o,i=g6 j k l m n o/\sT g (u0 nx 0) [iv j,u5 k,iv l,iv m,iv n,o] λp=>lvc [zq.cell (u0 nx 0) qJ] [(105,[u0 r 0])] qw.returning p h λq s t=>K q s t) λi=>lvc [zq.cell (u0 nx 0) qJ] [(105,[u0 r 0])] (qw.panicking i) g h λj k l=>K j k l):=by kernel_rfl
theorem qap(r:Nat)(H:qc)(nx:Nat)(K:qr):qL PG call lp vB [u0 r 0] H nx (qy PG lv lvc K)=
 (∃a,a=qC nx [iv 0,u5 [],iv 0,iv 0,iv 0,u9] H/\cL K (call zZ [u0 r 0] a (nx+1)) λe c d=>∃f g h i j,e=g5 f g h i j/\∃k,k=qC d [iv 0,u5 [],iv 0,iv 0,iv 0] c/\sT k (u0 d 0) [iv f,u5 g,iv h,iv i,iv j] λl=>cB K (call zb [u0 r 0,u5 [45]] l (d+1)) λq n o=>ifB q (∃s t u v w,l5 n (u0 d 0) s t u v w/\∃x,sP d 1 x/\∃y,ld1 n x=some (u5 y)/\((∃z A B C D,l5 n (u0 d 0) z A B C D/\g5 z A B C D=g5 s t u v w)/\(∃z,ld1 n x=some (u5 z)/\u5 z=u5 y)/\True)/\cL K (call vB [u0 r 0] n (o+8)) λC A B=>∃D E F G I J,C=g6 D E F G I J/\∃L,L=qC (o+5) [iv D,u5 E,iv F,iv G,iv I,J] A/\((∃M N O P Q,l5 L (u0 d 0) M N O P Q/\g5 M N O P Q=g5 s t u v w)/\(∃M,ld1 L x=some (u5 M)/\u5 M=u5 y)/\True)/\cL K (call qH [g5 s t u v w,iv 27,u5 y,qa.slice (o+5) 0 1 6 true] L B) λP N O=>∃Q R S T U V,P=g6 Q R S T U V/\True/\sT N (u0 nx 0) [iv Q,u5 R,iv S,iv T,iv U,V] λW=>True/\∃X Y Z a0 a1 a2,l6 W (u0 nx 0) X Y Z a0 a1 a2/\K (U3 (g6 X Y Z a0 a1 a2)) W O) (cB K (call zb [u0 r 0,u5 [33]] n o) λw t u=>ifB w (∃x y z A B,l5 t (u0 d 0) x y z A B/\∃C,sP d 1 C/\∃D,ld1 t C=some (u5 D)/\((∃E F G I J,l5 t (u0 d 0) E F G I J/\g5 E F G I J=g5 x y z A B)/\(∃E,ld1 t C=some (u5 E)/\u5 E=u5 D)/\True)/\cL K (call vB [u0 r 0] t (u+8)) λI F G=>∃J L M N O P,I=g6 J L M N O P/\∃Q,Q=qC (u+5) [iv J,u5 L,iv M,iv N,iv O,P] F/\((∃R S T U V,l5 Q (u0 d 0) R S T U V/\g5 R S T U V=g5 x y z A B)/\(∃R,ld1 Q C=some (u5 R)/\u5 R=u5 D)/\True)/\cL K (call qH [g5 x y z A B,iv 27,u5 D,qa.slice (u+5) 0 1 6 true] Q G) λU S T=>∃V W X Y Z a0,U=g6 V W X Y Z a0/\True/\sT S (u0 nx 0) [iv V,u5 W,iv X,iv Y,iv Z,a0] λa1=>True/\∃a2 a3 a4 a5 a6 a7,l6 a1 (u0 nx 0) a2 a3 a4 a5 a6 a7/\K (U3 (g6 a2 a3 a4 a5 a6 a7)) a1 T) (cL K (call kF [u0 r 0] t u) λA y z=>∃B C D E F G,A=g6 B C D E F G/\sT y (u0 nx 0) [iv B,u5 C,iv D,iv E,iv F,G] λI=>∃J L M N O P,l6 I (u0 nx 0) J L M N O P/\K (U3 (g6 J L M N O P)) I z))):=by kernel_rfl
theorem qcj(r:Nat)(H:qc)(nx:Nat)(K:qr):qL PG call lp kF [u0 r 0] H nx (qy PG lv lvc K)=
 (∃a,a=qC nx [iv 0,u5 [],iv 0,iv 0,iv 0,u9] H/\cL K (call QH [u0 r 0] a (nx+1)) λe c d=>∃f g h i j k,e=g6 f g h i j k/\∃l,l=qC d [iv 0,u5 [],iv 0,iv 0,iv 0,u9] c/\sT l (u0 d 0) [iv f,u5 g,iv h,iv i,iv j,k] λm=>lp 30 (qi (qd PG 125) [1,1,0,0]) (qe (U0 []) [(3,u0 d 0),(7,g6 f g h i j k),(6,u0 r 0),(2,u0 nx 0),(0,u0 r 0)]) m (d+1) [] none (qA PG call (lp 30) 30 (qd PG 125) [1,1,0] (qy PG lv lvc K (qP PG 125)))):=by kernel_rfl
theorem qa4(r:Nat)(H:qc)(nx:Nat)(K:qr):qL PG call lp QH [u0 r 0] H nx (qy PG lv lvc K)=
 (∃a,a=qC nx [iv 0,u5 [],iv 0,iv 0,iv 0,u9] H/\cL K (call zZ [u0 r 0] a (nx+1)) λe c d=>∃f g h i j,e=g5 f g h i j/\∃k,k=qC d [iv 0,u5 [],iv 0,iv 0,iv 0] c/\sT k (u0 d 0) [iv f,u5 g,iv h,iv i,iv j] λl=>sI l d 0 λn=>ifB (decide (n=4)) (cL K (call vZ [u0 r 0] l (d+1)) λs p q=>∃t u v w x,s=g5 t u v w x/\∃y z A B C,l5 p (u0 d 0) y z A B C/\cL K (call qH [g5 y z A B C,iv 21,u5 [],u9] p q) λG E F=>∃I J L M N O,G=g6 I J L M N O/\∃P,P=qC F [iv 0,u5 [],iv 0,iv 0,iv 0,u9] E/\sT P (u0 F 0) [iv I,u5 J,iv L,iv M,iv N,O] λQ=>sI Q d 2 λS=>∃T,sP F 2 T/\Tt/\sT Q T [iv S] λU=>∃V W X Y Z a0,l6 U (u0 F 0) V W X Y Z a0/\sT U (u0 nx 0) [iv V,u5 W,iv X,iv Y,iv Z,a0] λa1=>∃a2 a3 a4 a5 a6 a7,l6 a1 (u0 nx 0) a2 a3 a4 a5 a6 a7/\K (U3 (g6 a2 a3 a4 a5 a6 a7)) a1 (F+1)) (ifB (decide (n=5)) (cL K (call vZ [u0 r 0] l (d+1)) λs p q=>∃t u v w x,s=g5 t u v w x/\∃y z A B C,l5 p (u0 d 0) y z A B C/\∃D,sP d 1 D/\∃E,ld1 p D=some (u5 E)/\cL K (call qH [g5 y z A B C,iv 24,u5 E,u9] p q) λJ G I=>∃L M N O P Q,J=g6 L M N O P Q/\sT G (u0 nx 0) [iv L,u5 M,iv N,iv O,iv P,Q] λR=>∃S T U V W X,l6 R (u0 nx 0) S T U V W X/\K (U3 (g6 S T U V W X)) R I) (ifB (decide (n=2)) (cL K (call vZ [u0 r 0] l (d+1)) λs p q=>∃t u v w x,s=g5 t u v w x/\cB K (call jn [u0 r 0,u5 [40]] p q) λC z A=>ifB C (∃D E F G I,l5 z (u0 d 0) D E F G I/\∃J,sP d 1 J/\∃L,ld1 z J=some (u5 L)/\((∃M N O P Q,l5 z (u0 d 0) M N O P Q/\g5 M N O P Q=g5 D E F G I)/\(∃M,ld1 z J=some (u5 M)/\u5 M=u5 L)/\True)/\cL K (call vM [u0 r 0,qa.func (Fn.func 108) [u0 r 0] []] z (A+9)) λP N O=>((∃Q R S T U,l5 N (u0 d 0) Q R S T U/\g5 Q R S T U=g5 D E F G I)/\(∃Q,ld1 N J=some (u5 Q)/\u5 Q=u5 L)/\True)/\cL K (call qH [g5 D E F G I,iv 29,u5 L,P] N O) λT R S=>∃U V W X Y Z,T=g6 U V W X Y Z/\True/\sT R (u0 nx 0) [iv U,u5 V,iv W,iv X,iv Y,Z] λa0=>True/\∃a1 a2 a3 a4 a5 a6,l6 a0 (u0 nx 0) a1 a2 a3 a4 a5 a6/\K (U3 (g6 a1 a2 a3 a4 a5 a6)) a0 S) (∃D E F G I,l5 z (u0 d 0) D E F G I/\∃J,sP d 1 J/\∃L,ld1 z J=some (u5 L)/\cL K (call qH [g5 D E F G I,iv 26,u5 L,u9] z A) λP N O=>∃Q R S T U V,P=g6 Q R S T U V/\sT N (u0 nx 0) [iv Q,u5 R,iv S,iv T,iv U,V] λW=>∃X Y Z a0 a1 a2,l6 W (u0 nx 0) X Y Z a0 a1 a2/\K (U3 (g6 X Y Z a0 a1 a2)) W O)) (cB K (call 69 [u0 r 0,u5 [116,114,117,101]] l (d+1)) λt p q=>ifB t (∃u v w x y,l5 p (u0 d 0) u v w x y/\cL K (call qH [g5 u v w x y,iv 22,u5 [],u9] p q) λC A B=>∃D E F G I J,C=g6 D E F G I J/\sT A (u0 nx 0) [iv D,u5 E,iv F,iv G,iv I,J] λL=>∃M N O P Q R,l6 L (u0 nx 0) M N O P Q R/\K (U3 (g6 M N O P Q R)) L B) (cB K (call zb [u0 r 0,u5 [102,97,108,115,101]] p q) λy v w=>ifB y (∃z A B C D,l5 v (u0 d 0) z A B C D/\cL K (call qH [g5 z A B C D,iv 23,u5 [],u9] v w) λI F G=>∃J L M N O P,I=g6 J L M N O P/\sT F (u0 nx 0) [iv J,u5 L,iv M,iv N,iv O,P] λQ=>∃R S T U V W,l6 Q (u0 nx 0) R S T U V W/\K (U3 (g6 R S T U V W)) Q G) (cB K (call zb [u0 r 0,u5 [110,105,108]] v w) λD A B=>ifB D (∃E F G I J,l5 A (u0 d 0) E F G I J/\cL K (call qH [g5 E F G I J,iv 25,u5 [],u9] A B) λO M N=>∃P Q R S T U,O=g6 P Q R S T U/\sT M (u0 nx 0) [iv P,u5 Q,iv R,iv S,iv T,U] λV=>∃W X Y Z a0 a1,l6 V (u0 nx 0) W X Y Z a0 a1/\K (U3 (g6 W X Y Z a0 a1)) V N) (cB K (call jn [u0 r 0,u5 [40]] A B) λJ F G=>ifB J (cL K (call Zj [u0 r 0,qa.func (Fn.func 108) [u0 r 0] []] F G) λO M N=>∃P Q R S T U,O=g6 P Q R S T U/\sT M (u0 nx 0) [iv P,u5 Q,iv R,iv S,iv T,U] λV=>∃W X Y Z a0 a1,l6 V (u0 nx 0) W X Y Z a0 a1/\K (U3 (g6 W X Y Z a0 a1)) V N) (cB K (call zb [u0 r 0,u5 [108,101,110]] F G) λP M N=>ifB P (∃Q R S T U,l5 M (u0 d 0) Q R S T U/\((∃V W X Y Z,l5 M (u0 d 0) V W X Y Z/\g5 V W X Y Z=g5 Q R S T U)/\True)/\cL K (call Zj [u0 r 0,qa.func (Fn.func 108) [u0 r 0] []] M (N+8)) λY W X=>∃Z a0 a1 a2 a3 a4,Y=g6 Z a0 a1 a2 a3 a4/\∃a5,a5=qC (N+5) [iv Z,u5 a0,iv a1,iv a2,iv a3,a4] W/\((∃a6 a7 a8 a9 b0,l5 a5 (u0 d 0) a6 a7 a8 a9 b0/\g5 a6 a7 a8 a9 b0=g5 Q R S T U)/\True)/\cL K (call qH [g5 Q R S T U,iv 33,u5 [],qa.slice (N+5) 0 1 6 true] a5 X) λa9 a7 a8=>∃b0 b1 b2 b3 b4 b5,a9=g6 b0 b1 b2 b3 b4 b5/\True/\sT a7 (u0 nx 0) [iv b0,u5 b1,iv b2,iv b3,iv b4,b5] λb6=>True/\∃b7 b8 b9 c0 c1 c2,l6 b6 (u0 nx 0) b7 b8 b9 c0 c1 c2/\K (U3 (g6 b7 b8 b9 c0 c1 c2)) b6 a8) (cB K (call zb [u0 r 0,u5 [110,101,119]] M N) λU R S=>ifB U (∃V W X Y Z,l5 R (u0 d 0) V W X Y Z/\((∃a0 a1 a2 a3 a4,l5 R (u0 d 0) a0 a1 a2 a3 a4/\g5 a0 a1 a2 a3 a4=g5 V W X Y Z)/\True)/\cL K (call Zj [u0 r 0,qa.func (Fn.func 91) [u0 r 0] []] R (S+8)) λa3 a1 a2=>∃a4 a5 a6 a7 a8 a9,a3=g6 a4 a5 a6 a7 a8 a9/\∃b0,b0=qC (S+5) [iv a4,u5 a5,iv a6,iv a7,iv a8,a9] a1/\((∃b1 b2 b3 b4 b5,l5 b0 (u0 d 0) b1 b2 b3 b4 b5/\g5 b1 b2 b3 b4 b5=g5 V W X Y Z)/\True)/\cL K (call qH [g5 V W X Y Z,iv 35,u5 [],qa.slice (S+5) 0 1 6 true] b0 a2) λb4 b2 b3=>∃b5 b6 b7 b8 b9 c0,b4=g6 b5 b6 b7 b8 b9 c0/\True/\sT b2 (u0 nx 0) [iv b5,u5 b6,iv b7,iv b8,iv b9,c0] λc1=>True/\∃c2 c3 c4 c5 c6 c7,l6 c1 (u0 nx 0) c2 c3 c4 c5 c6 c7/\K (U3 (g6 c2 c3 c4 c5 c6 c7)) c1 b3) (cB K (call zb [u0 r 0,u5 [109,97,107,101]] R S) λZ W X=>ifB Z (cL K (call zd [u0 r 0,u5 [40]] W X) λa3 a1 a2=>∃a4 a5 a6 a7 a8,a3=g5 a4 a5 a6 a7 a8/\cL K (call jM [u0 r 0] a1 a2) λb2 b0 b1=>∃b3 b4 b5 b6 b7 b8,b2=g6 b3 b4 b5 b6 b7 b8/\∃b9,b9=qC b1 [iv 0,u5 [],iv 0,iv 0,iv 0,u9] b0/\sT b9 (u0 b1 0) [iv b3,u5 b4,iv b5,iv b6,iv b7,b8] λc0=>cL K (call zd [u0 r 0,u5 [44]] c0 (b1+1)) λc4 c2 c3=>∃c5 c6 c7 c8 c9,c4=g5 c5 c6 c7 c8 c9/\cL K (call jj [u0 r 0] c2 c3) λd3 d1 d2=>∃d4 d5 d6 d7 d8 d9,d3=g6 d4 d5 d6 d7 d8 d9/\∃e0,e0=qC d2 [iv 0,u5 [],iv 0,iv 0,iv 0,u9] d1/\sT e0 (u0 d2 0) [iv d4,u5 d5,iv d6,iv d7,iv d8,d9] λe1=>cL K (call zd [u0 r 0,u5 [41]] e1 (d2+1)) λe5 e3 e4=>∃e6 e7 e8 e9 f0,e5=g5 e6 e7 e8 e9 f0/\∃f1 f2 f3 f4 f5,l5 e3 (u0 d 0) f1 f2 f3 f4 f5/\∃f6 f7 f8 f9 g0 g1,l6 e3 (u0 b1 0) f6 f7 f8 f9 g0 g1/\∃g2 g3 g4 g7 g8 g9,l6 e3 (u0 d2 0) g2 g3 g4 g7 g8 g9/\∃h0,h0=qC e4 [iv f6,u5 f7,iv f8,iv f9,iv g0,g1,iv g2,u5 g3,iv g4,iv g7,iv g8,g9] e3/\cL K (call qH [g5 f1 f2 f3 f4 f5,iv 34,u5 [],qa.slice e4 0 2 6 true] h0 (e4+1)) λh4 h2 h3=>∃h5 h6 h7 h8 h9 i0,h4=g6 h5 h6 h7 h8 h9 i0/\sT h2 (u0 nx 0) [iv h5,u5 h6,iv h7,iv h8,iv h9,i0] λi1=>∃i2 i3 i4 i5 i6 i7,l6 i1 (u0 nx 0) i2 i3 i4 i5 i6 i7/\K (U3 (g6 i2 i3 i4 i5 i6 i7)) i1 h3) (cB K (call zb [u0 r 0,u5 [105,110,112,117,116]] W X) λa4 a1 a2=>ifB a4 (cL K (call zd [u0 r 0,u5 [40]] a1 a2) λa8 a6 a7=>∃a9 b0 b1 b2 b3,a8=g5 a9 b0 b1 b2 b3/\cL K (call zd [u0 r 0,u5 [41]] a6 a7) λb7 b5 b6=>∃b8 b9 c0 c1 c2,b7=g5 b8 b9 c0 c1 c2/\∃c3 c4 c5 c6 c7,l5 b5 (u0 d 0) c3 c4 c5 c6 c7/\cL K (call qH [g5 c3 c4 c5 c6 c7,iv 36,u5 [],u9] b5 b6) λd1 c9 d0=>∃d2 d3 d4 d5 d6 d7,d1=g6 d2 d3 d4 d5 d6 d7/\sT c9 (u0 nx 0) [iv d2,u5 d3,iv d4,iv d5,iv d6,d7] λd8=>∃d9 e0 e1 e2 e3 e4,l6 d8 (u0 nx 0) d9 e0 e1 e2 e3 e4/\K (U3 (g6 d9 e0 e1 e2 e3 e4)) d8 d0) (cL K (call kS [u0 r 0,iv 13] a1 a2) λa8 a6 a7=>sT a6 (u0 nx 0) [iv 0,u5 [],iv 0,iv 0,iv 0,u9] λa9=>∃b0 b1 b2 b3 b4 b5,l6 a9 (u0 nx 0) b0 b1 b2 b3 b4 b5/\K (U3 (g6 b0 b1 b2 b3 b4 b5)) a9 a7)))))))))))):=by kernel_rfl
theorem qea(r:Nat)(H:qc)(nx:Nat)(K:qr):qL PG call lp jp [u0 r 0] H nx (qy PG lv lvc K)=
 (∃a,a=qC nx [iv 0,u5 [],iv 0,iv 0,iv 0] H/\cL K (call zZ [u0 r 0] a (nx+1)) λe c d=>∃f g h i j,e=g5 f g h i j/\ifB (!decide (f=2)) (cL K (call kS [u0 r 0,iv 13] c d) λn l m=>cL K (call vZ [u0 r 0] l m) λs p q=>∃t u v w x,s=g5 t u v w x/\sT p (u0 nx 0) [iv t,u5 u,iv v,iv w,iv x] λy=>∃z A B C D,l5 y (u0 nx 0) z A B C D/\K (U3 (g5 z A B C D)) y q) (cL K (call vZ [u0 r 0] c d) λn l m=>∃o p q s t,n=g5 o p q s t/\sT l (u0 nx 0) [iv o,u5 p,iv q,iv s,iv t] λu=>∃v w x y z,l5 u (u0 nx 0) v w x y z/\K (U3 (g5 v w x y z)) u m)):=by kernel_rfl
theorem qj0(r:Nat)(s:List UInt8)(H:qc)(nx:Nat)(K:qr):qL PG call lp jn [u0 r 0,u5 s] H nx (qy PG lv lvc K)=
 (cL K (call zZ [u0 r 0] H nx) λd b c=>∃e f g h i,d=g5 e f g h i/\∃j,j=qC c [iv 0,u5 [],iv 0,iv 0,iv 0] b/\sT j (u0 c 0) [iv e,u5 f,iv g,iv h,iv i] λk=>sI k c 0 λm=>ifB (decide (m=3)) (∃n,sP c 1 n/\∃o,ld1 k n=some (u5 o)/\K (U3 (u7 (o==s))) k (c+1)) (sI k c 0 λo=>ifB (decide (o=6)) (∃p,sP c 1 p/\∃q,ld1 k p=some (u5 q)/\K (U3 (u7 (q==s))) k (c+1)) (sI k c 0 λq=>ifB (decide (q=1)) (∃t,sP c 1 t/\∃u,ld1 k t=some (u5 u)/\K (U3 (u7 (u==s))) k (c+1)) (K (U3 (u7 false)) k (c+1))))):=by kernel_rfl
theorem qfs(r:Nat)(s:List UInt8)(H:qc)(nx:Nat)(K:qr):qL PG call lp zb [u0 r 0,u5 s] H nx (qy PG lv lvc K)=
 (cB K (call jn [u0 r 0,u5 s] H nx) λe b c=>ifB (!e) (K (U3 (u7 false)) b c) (Tt/\sI b r 1 λg=>Tt/\∃h,sP r 1 h/\Tt/\sT b h [iv (i64.wrap (g+1))] λi=>K (U3 (u7 true)) i c)):=by kernel_rfl
theorem qe8(r:Nat)(s:List UInt8)(H:qc)(nx:Nat)(K:qr):qL PG call lp zd [u0 r 0,u5 s] H nx (qy PG lv lvc K)=
 (∃a,a=qC nx [iv 0,u5 [],iv 0,iv 0,iv 0] H/\cL K (call zZ [u0 r 0] a (nx+1)) λe c d=>∃f g h i j,e=g5 f g h i j/\∃k,k=qC d [iv 0,u5 [],iv 0,iv 0,iv 0] c/\sT k (u0 d 0) [iv f,u5 g,iv h,iv i,iv j] λl=>cB K (call 69 [u0 r 0,u5 s] l (d+1)) λq n o=>ifB (!q) (cL K (call kS [u0 r 0,iv 13] n o) λw u v=>∃x y z A B,l5 u (u0 d 0) x y z A B/\sT u (u0 nx 0) [iv x,u5 y,iv z,iv A,iv B] λC=>∃D E F G I,l5 C (u0 nx 0) D E F G I/\K (U3 (g5 D E F G I)) C v) (∃t u v w x,l5 n (u0 d 0) t u v w x/\sT n (u0 nx 0) [iv t,u5 u,iv v,iv w,iv x] λy=>∃z A B C D,l5 y (u0 nx 0) z A B C D/\K (U3 (g5 z A B C D)) y o)):=by kernel_rfl
theorem Y7(r:Nat)(s:List UInt8)(H:qc)(nx:Nat)(K:qr):qL PG call lp Jw [u0 r 0,u5 s] H nx (qy PG lv lvc K)=
 (∃a,a=qC nx [iv 0,u5 [],iv 0,iv 0,iv 0,u9] H/\cB K (call zb [u0 r 0,u5 s] a (nx+1)) λf c d=>ifB (!f) (cL K (call vu [] c d) λj h i=>∃k l m n o p,j=g6 k l m n o p/\sT h (u0 nx 0) [iv k,u5 l,iv m,iv n,iv o,p] λq=>∃t u v w x y,l6 q (u0 nx 0) t u v w x y/\K (U3 (g6 t u v w x y)) q i) (cL K (call jj [u0 r 0] c d) λj h i=>∃k l m n o p,j=g6 k l m n o p/\sT h (u0 nx 0) [iv k,u5 l,iv m,iv n,iv o,p] λq=>∃t u v w x y,l6 q (u0 nx 0) t u v w x y/\K (U3 (g6 t u v w x y)) q i)):=by kernel_rfl
theorem qbo(r:Nat)(g:Nat)(fs:List qa)(cs:List qa)(H:qc)(nx:Nat)(K:qr):qL PG call lp wV [u0 r 0,qa.func (.func g) fs cs] H nx (qy PG lv lvc K)=
 (cL K (call zd [u0 r 0,u5 [123]] H nx) λd b c=>∃e f h i j,d=g5 e f h i j/\cL K (call vD [u0 r 0] b c) λn l m=>lp 21 (qi (qd PG 71) [1,1,1,1,0,0,0]) (qe (U0 []) [(9,n),(8,u0 r 0),(7,g5 e f h i j),(6,u0 r 0),(5,u9),(4,u9),(1,qa.func (Fn.func g) fs cs),(0,u0 r 0)]) l m [] none (qA PG call (lp 21) 21 (qd PG 71) [1,1,1,1,0,0] (qy PG lv lvc K (qP PG 71)))):=by kernel_rfl
theorem qg5(r:Nat)(g:Nat)(fs:List qa)(cs:List qa)(H:qc)(nx:Nat)(K:qr):qL PG call lp vM [u0 r 0,qa.func (.func g) fs cs] H nx (qy PG lv lvc K)=
 (cL K (call zd [u0 r 0,u5 [40]] H nx) λd b c=>∃e f h i j,d=g5 e f h i j/\cB K (call zb [u0 r 0,u5 [41]] b c) λo l m=>ifB o (K (U3 u9) l m) (lp 22 (qi (qd PG 75) [1,1,1,1,0,0]) (qe (U0 []) [(9,u7 false),(9,u7 o),(8,u0 r 0),(7,g5 e f h i j),(6,u0 r 0),(5,u9),(4,u9),(1,qa.func (Fn.func g) fs cs),(0,u0 r 0)]) l m [] none (qA PG call (lp 22) 22 (qd PG 75) [1,1,1,1,0] (qy PG lv lvc K (qP PG 75))))):=by kernel_rfl
theorem qev(r:Nat)(g:Nat)(fs:List qa)(cs:List qa)(H:qc)(nx:Nat)(K:qr):qL PG call lp Zj [u0 r 0,qa.func (.func g) fs cs] H nx (qy PG lv lvc K)=
 (∃a,a=qC nx [iv 0,u5 [],iv 0,iv 0,iv 0,u9] H/\cL K (call zd [u0 r 0,u5 [40]] a (nx+1)) λe c d=>∃f h i j k,e=g5 f h i j k/\∃l m,zR PG (qa.func (Fn.func g) fs cs) []=some (l,m)/\call l m c d λn o p=>qj n (λq=>∃s t u v w x,q=g6 s t u v w x/\∃y,y=qC p [iv 0,u5 [],iv 0,iv 0,iv 0,u9] o/\sT y (u0 p 0) [iv s,u5 t,iv u,iv v,iv w,x] λz=>cL K (call zd [u0 r 0,u5 [41]] z (p+1)) λD B C=>∃E F G I J,D=g5 E F G I J/\∃L M N O P Q,l6 B (u0 p 0) L M N O P Q/\sT B (u0 nx 0) [iv L,u5 M,iv N,iv O,iv P,Q] λR=>∃S T U V W X,l6 R (u0 nx 0) S T U V W X/\K (U3 (g6 S T U V W X)) R C) (pK K o p)):=by kernel_rfl
theorem YV(r:Nat)(e:Int)(H:qc)(nx:Nat)(K:qr):qL PG call lp kS [u0 r 0,iv e] H nx (qy PG lv lvc K)=
 (cL K (call zZ [u0 r 0] H nx) λd b c=>∃f g h i j,d=g5 f g h i j/\cL K (call ZV [g5 f g h i j] b c) λn l m=>∃o p:Int,n=u6 [iv o,iv p]/\Tt/\∃q s,qa.iface ZX (u6 [iv o,iv p,iv e])=qa.iface q s/\K (U2 [(qa.iface q s,false)]) l m):=by kernel_rfl
theorem XC(r:Nat)(k:Int)(H:qc)(nx:Nat)(K:qr):qL PG call lp jb [u0 r 0,iv k] H nx (qy PG lv lvc K)=
 (∃a,a=qC nx [iv 0,u5 [],iv 0,iv 0,iv 0,u9] H/\cL K (call vB [u0 r 0] a (nx+1)) λe c d=>∃f g h i j l,e=g6 f g h i j l/\∃m,m=qC d [iv 0,u5 [],iv 0,iv 0,iv 0,u9] c/\sT m (u0 d 0) [iv f,u5 g,iv h,iv i,iv j,l] λn=>lp 36 (qi (qd PG 116) [1,1,0,0]) (qe (U0 []) [(5,u0 d 0),(9,g6 f g h i j l),(8,u0 r 0),(4,u0 nx 0),(1,iv k),(0,u0 r 0)]) n (d+1) [] none (qA PG call (lp 36) 36 (qd PG 116) [1,1,0] (qy PG lv lvc K (qP PG 116)))):=by kernel_rfl
theorem qep(r:Nat)(x0:qa)(x1:qa)(x2:qa)(x3:qa)(x4:qa)(x5:qa)(tk:Int)(tn:Int)(tl:Int)(tc:Int)(tt:List UInt8)(H:qc)(nx:Nat)(K:qr):qL PG call lp W0 [u0 r 0,u6 [iv tk,u5 tt,iv tn,iv tl,iv tc],u6 [x0,x1,x2,x3,x4,x5]] H nx (qy PG lv lvc K)=
 (∃a,a=zA nx [iv tk,u5 tt,iv tn,iv tl,iv tc].length [iv tk,u5 tt,iv tn,iv tl,iv tc] H/\∃b,b=zA (nx+1) [x0,x1,x2,x3,x4,x5].length [x0,x1,x2,x3,x4,x5] a/\∃c,c=qC (nx+1+1) [iv 0,u5 [],iv 0,iv 0,iv 0,u9] b/\cB K (call zb [u0 r 0,u5 [40]] c (nx+1+1+1)) λh e f=>ifB h (cL K (call jM [u0 r 0] e f) λl j k=>∃m n o p q s,l=g6 m n o p q s/\∃t,t=qC k [iv 0,u5 [],iv 0,iv 0,iv 0,u9] j/\sT t (u0 k 0) [iv m,u5 n,iv o,iv p,iv q,s] λu=>cL K (call zd [u0 r 0,u5 [41]] u (k+1)) λy w x=>∃z A B C D,y=g5 z A B C D/\∃E F G I J,l5 w (u0 nx 0) E F G I J/\∃L M N O P Q,ldN w 6 (u0 (nx+1) 0)=some (g6 L M N O P Q)/\∃R S T U V W,l6 w (u0 k 0) R S T U V W/\∃X,X=qC x [iv L,u5 M,iv N,iv O,iv P,Q,iv R,u5 S,iv T,iv U,iv V,W] w/\cL K (call 43 [g5 E F G I J,iv 37,u5 [],qa.slice x 0 2 6 true] X (x+1)) λa1 Z a0=>∃a2 a3 a4 a5 a6 a7,a1=g6 a2 a3 a4 a5 a6 a7/\sT Z (u0 (nx+1+1) 0) [iv a2,u5 a3,iv a4,iv a5,iv a6,a7] λa8=>∃a9 b0 b1 b2 b3 b4,ldN a8 6 (u0 (nx+1+1) 0)=some (g6 a9 b0 b1 b2 b3 b4)/\K (U3 (g6 a9 b0 b1 b2 b3 b4)) a8 a0) (cL K (call jp [u0 r 0] e f) λl j k=>∃m n o p q,l=g5 m n o p q/\cB K (call jn [u0 r 0,u5 [40]] j k) λw t u=>ifB (!w) (∃x y z A B,l5 t (u0 nx 0) x y z A B/\∃C D E F G I,ldN t 6 (u0 (nx+1) 0)=some (g6 C D E F G I)/\∃J,J=qC u [iv C,u5 D,iv E,iv F,iv G,I] t/\cL K (call qH [g5 x y z A B,iv 30,u5 n,qa.slice u 0 1 6 true] J (u+1)) λO M N=>∃P Q R S T U,O=g6 P Q R S T U/\sT M (u0 (nx+1+1) 0) [iv P,u5 Q,iv R,iv S,iv T,U] λV=>∃W X Y Z a0 a1,ldN V 6 (u0 (nx+1+1) 0)=some (g6 W X Y Z a0 a1)/\K (U3 (g6 W X Y Z a0 a1)) V N) (∃x y z A B,l5 t (u0 nx 0) x y z A B/\∃C D E F G I,ldN t 6 (u0 (nx+1) 0)=some (g6 C D E F G I)/\∃J,J=qC (u+3) [iv C,u5 D,iv E,iv F,iv G,I] t/\((∃L M N O P,l5 J (u0 nx 0) L M N O P/\g5 L M N O P=g5 x y z A B)/\(∃L M N O P Q,ldN J 6 (u0 (nx+1) 0)=some (g6 L M N O P Q)/\g6 L M N O P Q=g6 C D E F G I)/\True)/\cL K (call 75 [u0 r 0,qa.func (Fn.func 108) [u0 r 0] []] J (u+11)) λO M N=>((∃P Q R S T,l5 M (u0 nx 0) P Q R S T/\g5 P Q R S T=g5 x y z A B)/\(∃P Q R S T U,ldN M 6 (u0 (nx+1) 0)=some (g6 P Q R S T U)/\g6 P Q R S T U=g6 C D E F G I)/\True)/\∃P Q,jN 6 M O=some (P,Q)/\qt Q=true/\∃R S T,z3 M N 6 72 (qa.slice (u+3) 0 1 6 true) P Q=some (R,S,T)/\((∃U V W X Y,l5 S (u0 nx 0) U V W X Y/\g5 U V W X Y=g5 x y z A B)/\True)/\cL K (call qH [g5 x y z A B,iv 31,u5 n,R] S T) λX V W=>∃Y Z a0 a1 a2 a3,X=g6 Y Z a0 a1 a2 a3/\True/\sT V (u0 (nx+1+1) 0) [iv Y,u5 Z,iv a0,iv a1,iv a2,a3] λa4=>True/\∃a5 a6 a7 a8 a9 b0,ldN a4 6 (u0 (nx+1+1) 0)=some (g6 a5 a6 a7 a8 a9 b0)/\K (U3 (g6 a5 a6 a7 a8 a9 b0)) a4 W))):=by kernel_rfl
theorem qci(tk:Int)(tn:Int)(tl:Int)(tc:Int)(tt:List UInt8)(H:qc)(nx:Nat)(K:qr):qL PG call lp ZV [u6 [iv tk,u5 tt,iv tn,iv tl,iv tc]] H nx (qy PG lv lvc K)=
 (∃a,a=zA nx [iv tk,u5 tt,iv tn,iv tl,iv tc].length [iv tk,u5 tt,iv tn,iv tl,iv tc] H/\∃b,b=qC (nx+1) [iv 0,iv 0] a/\sI b nx 3 λd=>sI b nx 4 λf=>Tt/\Tt/\sT b (u0 (nx+1) 0) [iv d,iv f] λg=>∃h i:Int,ldN g 2 (u0 (nx+1) 0)=some (u6 [iv h,iv i])/\K (U3 (u6 [iv h,iv i])) g (nx+1+1)):=by kernel_rfl
theorem qfg(tk:Int)(tn:Int)(tl:Int)(tc:Int)(tt:List UInt8)(k:Int)(s:List UInt8)(v:qa)(H:qc)(nx:Nat)(K:qr):qL PG call lp qH [u6 [iv tk,u5 tt,iv tn,iv tl,iv tc],iv k,u5 s,v] H nx (qy PG lv lvc K)=
 (∃a,a=zA nx [iv tk,u5 tt,iv tn,iv tl,iv tc].length [iv tk,u5 tt,iv tn,iv tl,iv tc] H/\∃b,b=qC (nx+1) [iv 0,u5 [],iv 0,iv 0,iv 0,u9] a/\sI b nx 3 λd=>sI b nx 4 λf=>Tt/\Tt/\Tt/\Tt/\qZ v=true/\sT b (u0 (nx+1) 0) [iv k,u5 s,iv 0,iv d,iv f,v] λg=>∃h i j l m n,ldN g 6 (u0 (nx+1) 0)=some (g6 h i j l m n)/\K (U3 (g6 h i j l m n)) g (nx+1+1)):=by kernel_rfl
theorem qgc(_u:Nat)(H:qc)(nx:Nat)(K:qr):qL PG call lp vu ([]:List qa) H nx (qy PG lv lvc K)=
 (∃a,a=qC nx [iv 0,u5 [],iv 0,iv 0,iv 0,u9] H/\cL K (call qH [u6 [iv 0,u5 [],iv 0,iv 0,iv 0],iv 38,u5 [],u9] a (nx+1)) λe c d=>∃f g h i j k,e=g6 f g h i j k/\sT c (u0 nx 0) [iv f,u5 g,iv h,iv i,iv j,k] λl=>∃m n o p q r,l6 l (u0 nx 0) m n o p q r/\K (U3 (g6 m n o p q r)) l d):=by kernel_rfl
theorem qex(s:List UInt8)(H:qc)(nx:Nat)(K:qr):qL PG call lp WL [u5 s] H nx (qy PG lv lvc K)=
 (ifB (s==[124,124]) (K (U3 (iv 1)) H nx) (ifB (s==[38,38]) (K (U3 (iv 2)) H nx) (ifB (s==[61,61]) (K (U3 (iv 3)) H nx) (ifB (s==[33,61]) (K (U3 (iv 3)) H nx) (ifB (s==[60]) (K (U3 (iv 3)) H nx) (ifB (s==[60,61]) (K (U3 (iv 3)) H nx) (ifB (s==[62]) (K (U3 (iv 3)) H nx) (ifB (s==[62,61]) (K (U3 (iv 3)) H nx) (ifB (s==[43]) (K (U3 (iv 4)) H nx) (ifB (s==[45]) (K (U3 (iv 4)) H nx) (ifB (s==[42]) (K (U3 (iv 5)) H nx) (ifB (s==[47]) (K (U3 (iv 5)) H nx) (ifB (s==[37]) (K (U3 (iv 5)) H nx) (K (U3 (iv 0)) H nx)))))))))))))):=by kernel_rfl
theorem qdr(s:List UInt8)(H:qc)(nx:Nat)(K:qr):qL PG call lp y3 [u5 s] H nx (qy PG lv lvc K)=
 (∃a,a=qC nx [iv 0,u5 [],iv 0,iv 0,iv 0,u9] H/\∃b,b=qC (nx+1) [iv 0,iv 0] a/\∃c,c=qC (nx+1+1) [iv 0] b/\cL K (call Xr [u5 s] c (nx+1+1+1)) λg e f=>∃h i j k l m n,g=U0 [h,g5 i j k l m,iv n]/\∃o,o=qC f [iv 0,u5 [],iv 0,iv 0,iv 0] e/\sT o (u0 f 0) [iv i,u5 j,iv k,iv l,iv m] λp=>Tt/\sT p (u0 (nx+1+1) 0) [iv n] λq=>lJ q (u0 (nx+1+1) 0) λr=>ifB (!decide (r=0)) (∃t u v w x,l5 q (u0 f 0) t u v w x/\lJ q (u0 (nx+1+1) 0) λy=>((∃z A B C D,l5 q (u0 f 0) z A B C D/\g5 z A B C D=g5 t u v w x)/\(lJ q (u0 (nx+1+1) 0) λz=>iv z=iv y)/\True)/\cL K (call ZV [g5 t u v w x] q (f+1+7)) λC A B=>∃D E:Int,C=u6 [iv D,iv E]/\((lJ A (u0 (nx+1+1) 0) λF=>iv F=iv y)/\True)/\sT A (u0 nx 0) [iv 0,u5 [],iv 0,iv 0,iv 0,u9] λF=>((lJ F (u0 (nx+1+1) 0) λG=>iv G=iv y)/\True)/\sT F (u0 (nx+1) 0) [iv D,iv E] λG=>((lJ G (u0 (nx+1+1) 0) λI=>iv I=iv y)/\True)/\Tt/\sT G (u0 (nx+1+1) 0) [iv y] λI=>True/\∃J L M N O P,l6 I (u0 nx 0) J L M N O P/\∃Q R:Int,ldN I 2 (u0 (nx+1) 0)=some (u6 [iv Q,iv R])/\lJ I (u0 (nx+1+1) 0) λS=>K (U3 (U0 [g6 J L M N O P,u6 [iv Q,iv R],iv S])) I B) (∃t u,some (20,[u0 nx 0,u0 (nx+1) 0,u0 (nx+1+1) 0])=some (t,u)/\qZ h=true/\∃v,v=zA (f+1) [h,iv 0,iv 0].length [h,iv 0,iv 0] q/\call Ko [u0 (f+1) 0] v (f+1+1) λw x y=>qj w (λz=>∃A B C D E F,z=g6 A B C D E F/\sT x (u0 nx 0) [iv A,u5 B,iv C,iv D,iv E,F] λG=>sT G (u0 (nx+1) 0) [iv 0,iv 0] λI=>Tt/\sT I (u0 (nx+1+1) 0) [iv 0] λJ=>lvc [zq.cell (u0 nx 0) qJ,zq.cell (u0 (nx+1) 0) 29,zq.cell (u0 (nx+1+1) 0) 30] [(t,u)] qw.returning J y λL M N=>K L M N) λz=>lvc [zq.cell (u0 nx 0) qJ,zq.cell (u0 (nx+1) 0) 29,zq.cell (u0 (nx+1+1) 0) 30] [(t,u)] (qw.panicking z) x y λA B C=>K A B C)):=by kernel_rfl
theorem qnl(r:Nat)(H:qc)(nx:Nat):vK PG call (lp 4) 4 (qi (qd PG 37) [0,0]) (qe .und [(0,u0 r 0)]) H nx [] none (qG [0] (qF N X R Pn))=
 ((λQ=>call zb [u0 r 0,u5 [59]] H nx λa b c=>qj a (λd=>∃e,d=u7 e/\ifB e (N Q b c [] none) (X 0 Q b c [] none)) λd=>Pn d Q b c [] none) (qe U1 [(0,u0 r 0)])):=by kernel_rfl
theorem qnp(r:Nat)(H:qc)(nx:Nat)(K:qr):qA PG call (lp 4) 4 (qd PG 37) [0] (qy PG lv lvc K (qP PG 37)) (.exit 0) (qe .und [(0,u0 r 0)]) H nx [] none=
 (K (U3 (U0 [])) H nx):=by kernel_rfl
theorem qnb(r:Nat)(g:Nat)(fs:List qa)(cs:List qa)(o:qa)(H:qc)(nx:Nat):vK PG call (lp 21) 21 (qi (qd PG 71) [1,1,1,1,0,0,0]) (qe .und [(5,o),(1,qa.func (.func g) fs cs),(0,u0 r 0)]) H nx [] none (qG [0,1,5] (qF N X R Pn))=
 (call zb [u0 r 0,u5 [125]] H nx λa b c=>qj a (λd=>∃e,d=u7 e/\ifB (!e) (∃f h,zR PG (qa.func (Fn.func g) fs cs) []=some (f,h)/\call f h b c λi j k=>qj i (λl=>∃m n p q s t,l=g6 m n p q s t/\∃u,u=qC k [iv m,u5 n,iv p,iv q,iv s,t] j/\∃v w,jN 6 u (qa.slice k 0 1 6 true)=some (v,w)/\qt w=true/\∃x y z,z3 u (k+1) 6 72 o v w=some (x,y,z)/\call Kl [u0 r 0] y z λA B C=>qj A (λD=>N (qe U1 [(0,u0 r 0),(1,qa.func (Fn.func g) fs cs),(5,x)]) B C [] none) λD=>Pn D (qe U1 [(0,u0 r 0),(1,qa.func (Fn.func g) fs cs),(5,x)]) B C [] none) λl=>Pn l (qe U1 [(0,u0 r 0),(1,qa.func (Fn.func g) fs cs),(5,o)]) j k [] none) (X 0 (qe U1 [(0,u0 r 0),(1,qa.func (Fn.func g) fs cs),(5,o)]) b c [] none)) λd=>Pn d (qe U1 [(0,u0 r 0),(1,qa.func (Fn.func g) fs cs),(5,o)]) b c [] none):=by kernel_rfl
theorem qkw(o:qa)(H:qc)(nx:Nat)(K:qr):qA PG call (lp 21) 21 (qd PG 71) [1,1,1,1,0,0] (qy PG lv lvc K (qP PG 71)) (.exit 0) (qe .und [(5,o)]) H nx [] none=
 (K (U3 o) H nx):=by kernel_rfl
theorem qrs(r:Nat)(g:Nat)(fs:List qa)(cs:List qa)(o:qa)(H:qc)(nx:Nat):vK PG call (lp 22) 22 (qi (qd PG 75) [1,1,1,1,0,0]) (qe .und [(5,o),(1,qa.func (.func g) fs cs),(0,u0 r 0)]) H nx [] none (qG [0,1,4,5] (qF N X R Pn))=
 (∃a b,zR PG (qa.func (Fn.func g) fs cs) []=some (a,b)/\call a b H nx λc d e=>qj c (λf=>∃h i j k l m,f=g6 h i j k l m/\∃n,n=qC e [iv h,u5 i,iv j,iv k,iv l,m] d/\∃p q,jN 6 n (qa.slice e 0 1 6 true)=some (p,q)/\qt q=true/\∃s t u,z3 n (e+1) 6 72 o p q=some (s,t,u)/\call zb [u0 r 0,u5 [44]] t u λv w x=>qj v (λy=>∃z,y=u7 z/\ifB (!z) (call zd [u0 r 0,u5 [41]] w x λA B C=>qj A (λD=>∃E F G I J,D=g5 E F G I J/\R (qe U1 [(0,u0 r 0),(1,qa.func (Fn.func g) fs cs),(4,s),(5,s)]) B C [] none) λD=>Pn D (qe U1 [(0,u0 r 0),(1,qa.func (Fn.func g) fs cs),(4,U1),(5,s)]) B C [] none) (N (qe U1 [(0,u0 r 0),(1,qa.func (Fn.func g) fs cs),(4,U1),(5,s)]) w x [] none)) λy=>Pn y (qe U1 [(0,u0 r 0),(1,qa.func (Fn.func g) fs cs),(4,U1),(5,s)]) w x [] none) λf=>Pn f (qe U1 [(0,u0 r 0),(1,qa.func (Fn.func g) fs cs),(4,U1),(5,o)]) d e [] none):=by kernel_rfl
theorem qqb(r:Nat)(x:Nat)(c:Nat)(k:Int)(H:qc)(nx:Nat):vK PG call (lp 36) 36 (qi (qd PG 116) [1,1,0,0]) (qe .und [(5,u0 x 0),(4,u0 c 0),(1,iv k),(0,u0 r 0)]) H nx [] none (qG [0,1,4,5] (qF N X R Pn))=
 ((λQ0=>call zZ [u0 r 0] H nx λa b d=>qj a (λe=>∃f g h i j,e=g5 f g h i j/\∃l,l=qC d [iv 0,u5 [],iv 0,iv 0,iv 0] b/\sT l (u0 d 0) [iv f,u5 g,iv h,iv i,iv j] λm=>∃n,sP d 1 n/\∃o,ld1 m n=some (u5 o)/\call WL [u5 o] m (d+1) λp q s=>qj p (λt=>∃u:Int,t=iv u/\sI q d 0 λw=>ifB (!decide (w=6)) (∃y z A B C D,l6 q (u0 x 0) y z A B C D/\sT q (u0 c 0) [iv y,u5 z,iv A,iv B,iv C,D] λE=>R Q0 E s [] none) (ifB (decide (u<k)) (∃y z A B C D,l6 q (u0 x 0) y z A B C D/\sT q (u0 c 0) [iv y,u5 z,iv A,iv B,iv C,D] λE=>R Q0 E s [] none) (call 89 [u0 r 0] q s λy z A=>qj y (λB=>∃C D E F G,B=g5 C D E F G/\∃I J K L M,l5 z (u0 d 0) I J K L M/\∃O,sP d 1 O/\∃P,ld1 z O=some (u5 P)/\∃Q S T U V W,l6 z (u0 x 0) Q S T U V W/\((∃Y Z a0 a1 a2,l5 z (u0 d 0) Y Z a0 a1 a2/\g5 Y Z a0 a1 a2=g5 I J K L M)/\(∃Y,ld1 z O=some (u5 Y)/\u5 Y=u5 P)/\(∃Y Z a0 a1 a2 a3,l6 z (u0 x 0) Y Z a0 a1 a2 a3/\g6 Y Z a0 a1 a2 a3=g6 Q S T U V W)/\True)/\call jb [u0 r 0,iv (i64.wrap (u+1))] z (A+11) λY Z a0=>qj Y (λa1=>∃a2 a3 a4 a5 a6 a7,a1=g6 a2 a3 a4 a5 a6 a7/\∃a8,a8=qC (A+8) [iv Q,u5 S,iv T,iv U,iv V,W,iv a2,u5 a3,iv a4,iv a5,iv a6,a7] Z/\((∃a9 b0 b1 b2 b3,l5 a8 (u0 d 0) a9 b0 b1 b2 b3/\g5 a9 b0 b1 b2 b3=g5 I J K L M)/\(∃a9,ld1 a8 O=some (u5 a9)/\u5 a9=u5 P)/\(∃a9 b0 b1 b2 b3 b4,l6 a8 (u0 x 0) a9 b0 b1 b2 b3 b4/\g6 a9 b0 b1 b2 b3 b4=g6 Q S T U V W)/\True)/\call qH [g5 I J K L M,iv 28,u5 P,qa.slice (A+8) 0 2 6 true] a8 a0 λa9 b0 b1=>qj a9 (λb2=>∃b3 b4 b5 b6 b7 b8,b2=g6 b3 b4 b5 b6 b7 b8/\True/\sT b0 (u0 x 0) [iv b3,u5 b4,iv b5,iv b6,iv b7,b8] λb9=>True/\N Q0 b9 b1 [] none) λb2=>Pn b2 Q0 b0 b1 [] none) λa1=>Pn a1 Q0 Z a0 [] none) λB=>Pn B Q0 z A [] none))) λt=>Pn t Q0 q s [] none) λe=>Pn e Q0 b d [] none) (qe U1 [(0,u0 r 0),(1,iv k),(4,u0 c 0),(5,u0 x 0)])):=by kernel_rfl
theorem qn2(r:Nat)(x:Nat)(c:Nat)(H:qc)(nx:Nat):vK PG call (lp 30) 30 (qi (qd PG 125) [1,1,0,0]) (qe .und [(3,u0 x 0),(2,u0 c 0),(0,u0 r 0)]) H nx [] none (qG [0,2,3] (qF N X R Pn))=
 ((λQ0=>call zZ [u0 r 0] H nx λa b d=>qj a (λe=>∃f g h i j,e=g5 f g h i j/\∃k,k=qC d [iv 0,u5 [],iv 0,iv 0,iv 0] b/\sT k (u0 d 0) [iv f,u5 g,iv h,iv i,iv j] λl=>call zb [u0 r 0,u5 [91]] l (d+1) λm n o=>qj m (λp=>∃q,p=u7 q/\ifB q (call jj [u0 r 0] n o λs t u=>qj s (λv=>∃w y z A B C,v=g6 w y z A B C/\∃D,D=qC u [iv 0,u5 [],iv 0,iv 0,iv 0,u9] t/\sT D (u0 u 0) [iv w,u5 y,iv z,iv A,iv B,C] λE=>call zd [u0 r 0,u5 [93]] E (u+1) λF G I=>qj F (λJ=>∃K L M O P,J=g5 K L M O P/\∃Q S T U V,l5 G (u0 d 0) Q S T U V/\∃W Y Z a0 a1 a2,l6 G (u0 x 0) W Y Z a0 a1 a2/\∃a3 a4 a5 a6 a7 a8,l6 G (u0 u 0) a3 a4 a5 a6 a7 a8/\∃a9,a9=qC I [iv W,u5 Y,iv Z,iv a0,iv a1,a2,iv a3,u5 a4,iv a5,iv a6,iv a7,a8] G/\call 43 [g5 Q S T U V,iv 32,u5 [],qa.slice I 0 2 6 true] a9 (I+1) λb0 b1 b2=>qj b0 (λb3=>∃b4 b5 b6 b7 b8 b9,b3=g6 b4 b5 b6 b7 b8 b9/\sT b1 (u0 x 0) [iv b4,u5 b5,iv b6,iv b7,iv b8,b9] λc0=>N Q0 c0 b2 [] none) λb3=>Pn b3 Q0 b1 b2 [] none) λJ=>Pn J Q0 G I [] none) λv=>Pn v Q0 t u [] none) (call zb [u0 r 0,u5 [46]] n o λs t u=>qj s (λv=>∃w,v=u7 w/\ifB w (∃y z A B C,l5 t (u0 d 0) y z A B C/\∃D E F G I J,l6 t (u0 x 0) D E F G I J/\call W0 [u0 r 0,g5 y z A B C,g6 D E F G I J] t u λK L M=>qj K (λO=>∃P Q S T U V,O=g6 P Q S T U V/\sT L (u0 x 0) [iv P,u5 Q,iv S,iv T,iv U,V] λW=>N Q0 W M [] none) λO=>Pn O Q0 L M [] none) (∃y z A B C D,l6 t (u0 x 0) y z A B C D/\sT t (u0 c 0) [iv y,u5 z,iv A,iv B,iv C,D] λE=>R Q0 E u [] none)) λv=>Pn v Q0 t u [] none)) λp=>Pn p Q0 n o [] none) λe=>Pn e Q0 b d [] none) (qe U1 [(0,u0 r 0),(2,u0 c 0),(3,u0 x 0)])):=by kernel_rfl
theorem qls(r:Nat)(f:Nat)(c:Nat)(o:qa)(H:qc)(nx:Nat):vK PG call (lp 38) 38 (qi (qd PG 21) [1,1,1,1,0,0,0]) (qe .und [(4,o),(3,u0 f 0),(2,u0 c 0),(0,u0 r 0)]) H nx [] none (qG [0,2,3,4] (qF N X R Pn))=
 ((λQ0=>call zZ [u0 r 0] H nx λa b d=>qj a (λe=>∃g h i j k,e=g5 g h i j k/\ifB (!decide (g=0)) (call jn [u0 r 0,u5 [116,121,112,101]] b d λl m n=>qj l (λp=>∃q,p=u7 q/\ifB q (call yS [u0 r 0] m n λs t u=>qj s (λv=>∃w x y z A B,v=g6 w x y z A B/\∃C,C=qC u [iv w,u5 x,iv y,iv z,iv A,B] t/\∃D E,jN 6 C (qa.slice u 0 1 6 true)=some (D,E)/\qt E=true/\∃F G I,z3 C (u+1) 6 72 o D E=some (F,G,I)/\call 42 [u0 r 0,u5 [59]] G I λJ K L=>qj J (λM=>∃O P Q S T,M=g5 O P Q S T/\call 37 [u0 r 0] K L λU V W=>qj U (λY=>N (qe U1 [(0,u0 r 0),(2,u0 c 0),(3,u0 f 0),(4,F)]) V W [] none) λY=>Pn Y (qe U1 [(0,u0 r 0),(2,u0 c 0),(3,u0 f 0),(4,F)]) V W [] none) λM=>Pn M (qe U1 [(0,u0 r 0),(2,u0 c 0),(3,u0 f 0),(4,F)]) K L [] none) λv=>Pn v Q0 t u [] none) (call jn [u0 r 0,u5 [102,117,110,99]] m n λs t u=>qj s (λv=>∃w,v=u7 w/\ifB w (call yU [u0 r 0] t u λx y z=>qj x (λA=>∃B C D E F G,A=g6 B C D E F G/\∃I,I=qC z [iv B,u5 C,iv D,iv E,iv F,G] y/\∃J K,jN 6 I (qa.slice z 0 1 6 true)=some (J,K)/\qt K=true/\∃L M O,z3 I (z+1) 6 72 o J K=some (L,M,O)/\call 42 [u0 r 0,u5 [59]] M O λP Q S=>qj P (λT=>∃U V W Y Z,T=g5 U V W Y Z/\call 37 [u0 r 0] Q S λa0 a1 a2=>qj a0 (λa3=>N (qe U1 [(0,u0 r 0),(2,u0 c 0),(3,u0 f 0),(4,L)]) a1 a2 [] none) λa3=>Pn a3 (qe U1 [(0,u0 r 0),(2,u0 c 0),(3,u0 f 0),(4,L)]) a1 a2 [] none) λT=>Pn T (qe U1 [(0,u0 r 0),(2,u0 c 0),(3,u0 f 0),(4,L)]) Q S [] none) λA=>Pn A Q0 y z [] none) (call kS [u0 r 0,iv 13] t u λx y z=>qj x (λA=>call zd [u0 r 0,u5 [59]] y z λB C D=>qj B (λE=>∃F G I J K,E=g5 F G I J K/\call vD [u0 r 0] C D λL M O=>qj L (λP=>N Q0 M O [] none) λP=>Pn P Q0 M O [] none) λE=>Pn E Q0 C D [] none) λA=>Pn A Q0 y z [] none)) λv=>Pn v Q0 t u [] none)) λp=>Pn p Q0 m n [] none) (X 0 Q0 b d [] none)) λe=>Pn e Q0 b d [] none) (qe U1 [(0,u0 r 0),(2,u0 c 0),(3,u0 f 0),(4,o)])):=by kernel_rfl
theorem ql1(f:Nat)(c:Nat)(o:qa)(H:qc)(nx:Nat)(K:qr):qA PG call (lp 38) 38 (qd PG 21) [1,1,1,1,0,0] (qy PG lv lvc K (qP PG 21)) (.exit 0) (qe .und [(4,o),(3,u0 f 0),(2,u0 c 0)]) H nx [] none=
 (∃a b d e g,l5 H (u0 f 0) a b d e g/\cL K (call qH [g5 a b d e g,iv 1,u5 [],o] H nx) λk i j=>∃l m n p q r,k=g6 l m n p q r/\sT i (u0 c 0) [iv l,u5 m,iv n,iv p,iv q,r] λs=>∃t u v w x y,l6 s (u0 c 0) t u v w x y/\K (U3 (g6 t u v w x y)) s j):=by kernel_rfl
theorem K7(s:List UInt8)(H:qc)(nx:Nat)(K:qr):qL PG call lp jW [u5 s] H nx (qy PG lv lvc K)=
 (∃a,a=qC nx [u9,u9,iv 0] H/\∃b,b=qC (nx+1) [iv 0,iv 0] a/\cL K (call y3 [u5 s] b (nx+1+1)) λf d e=>∃g h i j k l m n o,f=U0 [g6 g h i j k l,u6 [iv m,iv n],iv o]/\∃p,p=qC e [iv 0,u5 [],iv 0,iv 0,iv 0,u9] d/\∃q,q=qC (e+1) [iv 0,iv 0] p/\sT q (u0 e 0) [iv g,u5 h,iv i,iv j,iv k,l] λr=>sT r (u0 (e+1) 0) [iv m,iv n] λt=>ifB (!decide (o=0)) (sT t (u0 nx 0) [u9,u9,iv 0] λu=>sT u (u0 (nx+1) 0) [iv 0,iv 0] λv=>∃w x y,ldN v 3 (u0 nx 0)=some (u6 [w,x,iv y])/\∃z A:Int,ldN v 2 (u0 (nx+1) 0)=some (u6 [iv z,iv A])/\K (U3 (U0 [u6 [w,x,iv y],u6 [iv z,iv A],iv o])) v (e+1+1)) (∃u v w x y z,l6 t (u0 e 0) u v w x y z/\cL K (call qI [g6 u v w x y z] t (e+1+1)) λD B C=>∃E F G I J L,D=U0 [u6 [E,F,iv G],u6 [iv I,iv J],iv L]/\sT B (u0 nx 0) [E,F,iv G] λM=>sT M (u0 (nx+1) 0) [iv I,iv J] λN=>∃O P Q,ldN N 3 (u0 nx 0)=some (u6 [O,P,iv Q])/\∃R S:Int,ldN N 2 (u0 (nx+1) 0)=some (u6 [iv R,iv S])/\K (U3 (U0 [u6 [O,P,iv Q],u6 [iv R,iv S],iv L])) N C)):=by kernel_rfl
theorem Wm(_u:Nat)(H:qc)(nx:Nat)(K:qr):qL PG call lp wM ([]:List qa) H nx (qy PG lv lvc K)=
 (cL K (call jW [u5 [102,117,110,99,32,109,97,105,110,40,41,32,123,32,120,32,58,61,32,110,105,108,32,125]] H nx) λd b c=>∃e f g h i j,d=U0 [u6 [e,f,iv g],u6 [iv h,iv i],iv j]/\∃k,k=qC c [u9,u9,iv 0] b/\∃l,l=qC (c+1) [iv 0,iv 0] k/\sT l (u0 c 0) [e,f,iv g] λm=>sT m (u0 (c+1) 0) [iv h,iv i] λn=>cL K (call jW [u5 [102,117,110,99,32,102,40,41,32,105,110,116,32,123,32,102,111,114,32,123,32,125,32,125,59,32,102,117,110,99,32,109,97,105,110,40,41,32,123,32,125]] n (c+1+1)) λr p q=>∃s t u v w x,r=U0 [u6 [s,t,iv u],u6 [iv v,iv w],iv x]/\∃y,y=qC q [u9,u9,iv 0] p/\∃z,z=qC (q+1) [iv 0,iv 0] y/\sT z (u0 q 0) [s,t,iv u] λA=>sT A (u0 (q+1) 0) [iv v,iv w] λB=>cL K (call jW [u5 [102,117,110,99,32,102,40,41,32,105,110,116,32,123,32,102,111,114,32,123,32,98,114,101,97,107,32,125,32,125,59,32,102,117,110,99,32,109,97,105,110,40,41,32,123,32,125]] B (q+1+1)) λF D E=>∃G I J L M N,F=U0 [u6 [G,I,iv J],u6 [iv L,iv M],iv N]/\∃O,O=qC E [u9,u9,iv 0] D/\∃P,P=qC (E+1) [iv 0,iv 0] O/\sT P (u0 E 0) [G,I,iv J] λQ=>sT Q (u0 (E+1) 0) [iv L,iv M] λR=>ifB (decide (j=17)) (sI R (c+1) 0 λT=>ifB (decide (T=1)) (sI R (c+1) 1 λV=>ifB (decide (V=20)) (ifB (decide (x=0)) (ifB (decide (N=20)) (sI R (E+1) 1 λX=>K (U3 (u7 (decide (X=1)))) R (E+1+1)) (K (U3 (u7 false)) R (E+1+1))) (K (U3 (u7 false)) R (E+1+1))) (K (U3 (u7 false)) R (E+1+1))) (K (U3 (u7 false)) R (E+1+1))) (K (U3 (u7 false)) R (E+1+1))):=by kernel_rfl
theorem XO(k:Int)(H:qc)(nx:Nat)(K:qr):qL PG call lp Q1 [iv k] H nx (qy PG lv lvc K)=
 (cI K (call WB [iv k,iv 8] H nx) λe b c=>ifB (decide (e=0)) (K (U3 (U0 [u5 [114,101,116,117,114,110,32,49],u7 true])) b c) (ifB (decide (e=1)) (K (U3 (U0 [u5 [102,111,114,32,123,32,125],u7 true])) b c) (ifB (decide (e=2)) (K (U3 (U0 [u5 [102,111,114,32,123,32,98,114,101,97,107,32,125],u7 false])) b c) (ifB (decide (e=3)) (K (U3 (U0 [u5 [105,102,32,116,114,117,101,32,123,32,114,101,116,117,114,110,32,49,32,125,32,101,108,115,101,32,123,32,114,101,116,117,114,110,32,50,32,125],u7 true])) b c) (ifB (decide (e=4)) (K (U3 (U0 [u5 [105,102,32,116,114,117,101,32,123,32,114,101,116,117,114,110,32,49,32,125],u7 false])) b c) (ifB (decide (e=5)) (K (U3 (U0 [u5 [123,32,114,101,116,117,114,110,32,49,32,125],u7 true])) b c) (ifB (decide (e=6)) (K (U3 (U0 [u5 [102,111,114,32,123,32,105,102,32,116,114,117,101,32,123,32,98,114,101,97,107,32,125,32,101,108,115,101,32,123,32,125,32,125],u7 false])) b c) (K (U3 (U0 [u5 [102,111,114,32,123,32,102,111,114,32,123,32,98,114,101,97,107,32,125,32,125],u7 true])) b c)))))))):=by kernel_rfl
theorem Jm(l:qa)(H:qc)(nx:Nat)(K:qr):qL PG call lp wh [l] H nx (qy PG lv lvc K)=
 (lp 53 (qi (qd PG 4) [1,1,1,0,1,0,0]) (qe (U0 []) [(5,iv 0),(4,u7 false),(3,u5 []),(2,u7 false),(0,l)]) H nx [] none (qA PG call (lp 53) 53 (qd PG 4) [1,1,1,0,1,0] (qy PG lv lvc K (qP PG 4)))):=by kernel_rfl
def E1(call:zm)(lp:Nat->jl)(N:KC)(X:Nat->KC)(R:KC)(Pn:List (qa×Bool)->KC)(l:qa)(s:List UInt8)(b:Bool)(i:Int)(H:qc)(nx:Nat):Prop:=
 ∃a,zw l=some a/\ifB (decide (i<Int.ofNat a)) (ifB (decide (i<6)) (0<=i/\∃c,qY l i.toNat 1=some c/\lJ H c λd=>call Q1 [iv d] H nx λe f g=>qj e (λh=>∃j k,h=U0 [u5 j,u7 k]/\s.length+j.length<=9223372036854775807/\(s++j).length+1<=9223372036854775807/\N (qe U1 [(0,l),(2,u7 false),(3,u5 (s++j++[10])),(4,u7 k),(5,iv (i64.wrap (i+1)))]) f g [] none) λh=>Pn h (qe U1 [(0,l),(2,u7 false),(3,u5 s),(4,u7 b),(5,iv i)]) f g [] none) (X 0 (qe U1 [(0,l),(2,u7 false),(3,u5 s),(4,u7 b),(5,iv i)]) H nx [] none)) (X 0 (qe U1 [(0,l),(2,u7 false),(3,u5 s),(4,u7 b),(5,iv i)]) H nx [] none)
theorem qv3(call:zm)(lp:Nat->jl)(N:KC)(X:Nat->KC)(R:KC)(Pn:List (qa×Bool)->KC)(l:qa)(s:List UInt8)(b:Bool)(i:Int)(H:qc)(nx:Nat):vK PG call (lp 53) 53 (qi (qd PG 4) [1,1,1,0,1,0,0]) (qe .und [(0,l),(2,u7 false),(3,u5 s),(4,u7 b),(5,iv i)]) H nx [] none (qG [0,2,3,4,5] (qF N X R Pn))=E1 call lp N X R Pn l s b i H nx:=by kernel_rfl
theorem qu3(l:qa)(s:List UInt8)(b:Bool)(i:Int)(H:qc)(nx:Nat)(K:qr):qA PG call (lp 53) 53 (qd PG 4) [1,1,1,0,1,0] (qy PG lv lvc K (qP PG 4)) (.exit 0) (qe .und [(0,l),(2,u7 false),(3,u5 s),(4,u7 b),(5,iv i)]) H nx [] none=
 (15+s.length<=9223372036854775807/\([102,117,110,99,32,102,40,41,32,105,110,116,32,123,10]++s).length+17<=9223372036854775807/\cL K (call jW [u5 ([102,117,110,99,32,102,40,41,32,105,110,116,32,123,10]++s++[125,10,102,117,110,99,32,109,97,105,110,40,41,32,123,32,125])] H nx) λe c d=>∃f g h j k m,e=U0 [u6 [f,g,iv h],u6 [iv j,iv k],iv m]/\∃n,n=qC d [u9,u9,iv 0] c/\∃o,o=qC (d+1) [iv 0,iv 0] n/\sT o (u0 d 0) [f,g,iv h] λp=>sT p (u0 (d+1) 0) [iv j,iv k] λq=>ifB b (cB K (call wM [] q (d+1+1)) λw t u=>ifB w (K (U3 (u7 (decide (m=0)))) t u) (K (U3 (u7 false)) t u)) (cB K (call wM [] q (d+1+1)) λw t u=>ifB w (K (U3 (u7 (decide (m=20)))) t u) (K (U3 (u7 false)) t u))):=by kernel_rfl
theorem qfl(n:Int)(m:Int)(H:qc)(nx:Nat)(K:qr):qL PG call lp WB [iv n,iv m] H nx (qy PG lv lvc K)=
 (m≠0/\ifB (decide (n.tmod m<0)) (K (U3 (iv (i64.wrap (n.tmod m+m)))) H nx) (K (U3 (iv (n.tmod m))) H nx)):=by kernel_rfl
end Go.Vs
end
section
namespace Go.Vs
variable [GTab] {Z:Nat->Prop}
noncomputable section
def Z9(Γ:GH)(v:qa)(sz:Nat)(n:Nat)(cells:List qa):Prop:=
 (v= .nilSlice/\n=0/\cells=[])\/∃b off full cs,v= .slice b off n sz full/\Γ b=some cs/\off+n*sz<=cs.length/\(cs.drop off).take (n*sz)=cells
theorem Z9.len{Γ:GH}{v:qa}{sz n:Nat}{cells:List qa}(h:Z9 Γ v sz n cells):zw v=some n:=by
 rcases h with⟨rfl,rfl,rfl⟩|⟨b,off,full,cs,rfl,_⟩<;>rfl
theorem Z9.src{Γ:GH}{H:qc}{nx:Nat}{v:qa}{sz n:Nat}{cells:List qa}(h:Z9 Γ v sz n cells)(hk:HZ Z Γ H nx):jN sz H v=some (n,cells):=by
 rcases h with⟨rfl,rfl,rfl⟩|⟨b,off,full,cs,rfl,h1,h2,h3⟩
 ·rfl
 ·rw [hk.src h1 h2,h3]
theorem Z9.mono{Γ Γ':GH}{v:qa}{sz n:Nat}{cells:List qa}(h:Z9 Γ v sz n cells)(hs:∀c ds,Γ c=some ds->Γ' c=some ds):Z9 Γ' v sz n cells:=by
 rcases h with h|⟨b,off,full,cs,h0,h1,h2⟩
 ·exact .inl h
 ·exact .inr ⟨b,off,full,cs,h0,hs _ _ h1,h2⟩
def qU(r nx:Nat)(Γ Γ':GH):Prop:=(∀b cs,b≠r->Γ b=some cs->Γ' b=some cs)/\∀b,b<nx->Γ b=none->Γ' b=none
theorem qU.refl(r nx:Nat)(Γ:GH):qU r nx Γ Γ:=⟨λ_ _ _ h=>h,λ_ _ h=>h⟩
theorem qU.trans{r nx nx':Nat}{Γ Γ' Γ'':GH}(h:qU r nx Γ Γ')(h':qU r nx' Γ' Γ'')(hn:nx<=nx':=by omega):qU r nx Γ Γ'':=
 ⟨λb cs hb e=>h'.1 b cs hb (h.1 b cs hb e),λb hb e=>h'.2 b (by omega) (h.2 b hb e)⟩
theorem qU.le{r nx nx':Nat}{Γ Γ':GH}(h:qU r nx' Γ Γ')(hn:nx<=nx':=by omega):qU r nx Γ Γ':=⟨h.1,λb hb e=>h.2 b (by omega) e⟩
theorem qU.new{r b nx:Nat}{Γ:GH}{cs:List qa}(h:Γ b=none)(hb:nx<=b:=by omega):qU r nx Γ (gup b (some cs) Γ):=
 ⟨λc ds _ e=>by rw [qn λx=>by rw [x,h]at e;cases e];exact e,λc hc e=>by rw [qn (by omega)];exact e⟩
theorem qU.upd{r nx:Nat}{Γ:GH}{cs ds:List qa}(h:Γ r=some ds):qU r nx Γ (gup r (some cs) Γ):=
 ⟨λc ds hc e=>by rw [qn hc];exact e,λc hc e=>by rw [qn λx=>by rw [x,h]at e;cases e];exact e⟩
theorem qU.upd'{r b nx:Nat}{Γ Γ':GH}{cs:Option (List qa)}(h:qU r nx Γ Γ')(hb:Γ b=none)(hn:nx<=b\/cs=none:=by first|(left;omega)|(right;rfl)):qU r nx Γ (gup b cs Γ'):=
 ⟨λc ds hc e=>by rw [qn λx=>by rw [x,hb]at e;cases e];exact h.1 c ds hc e,λc hc e=>by
  by_cases hcb:c=b
  ·subst hcb;rw [qk];rcases hn with hn|hn
   ·omega
   ·exact hn
  ·rw [qn hcb];exact h.2 c hc e⟩
theorem qlf{b c:Nat}{x y:Option (List qa)}{Γ:GH}(h:b≠c):gup b x (gup c y Γ)=gup c y (gup b x Γ):=by
 funext d
 by_cases h1:d=b
 ·subst h1;rw [qk,qn h,qk]
 ·by_cases h2:d=c
  ·subst h2;rw [qk,qn h1,qk]
  ·rw [qn h1,qn h2,qn h2,qn h1]
theorem qtk{b:Nat}{x:Option (List qa)}{Γ:GH}(h:Γ b=x):gup b x Γ=Γ:=by
 funext c;by_cases hc:c=b
 ·subst hc;rw [qk,h]
 ·rw [qn hc]
theorem scr{Γ:GH}{H:qc}{nx nx' i:Nat}{cs vs:List qa}{k:qc->Prop}(hk:HZ Z Γ H nx)(h1:nx<=i)(h2:i<nx')(hl:vs.length=cs.length)(hv:qt vs=true)
  (hK:∀H',HZ Z (gup i (some vs) Γ) H' nx'->k H'):∃H0,H0=qC i cs H/\∃H1,stC H0 (.ptr i 0) vs=some H1/\k H1:=by
 have hn:HZ Z (gup i (some cs) Γ) (qC i cs H) nx':=hk.new h1 h2 cs
 obtain⟨H1,e1,e2⟩:=hn.st (qk i (some cs) Γ) (off:=0) (vs:=vs) (by omega) hv
 refine⟨_,rfl,H1,e1,hK _ ?_⟩
 rw [vz]at e2;have:jw cs 0 vs=vs:=by unfold jw;simp [hl]
 rw [this]at e2;exact e2
theorem Qe{Γ:GH}{H:qc}{nx nx' i:Nat}{cs:List qa}{k:qc->Prop}(hk:HZ Z Γ H nx)(h1:nx<=i)(h2:i<nx')
  (hK:∀H',HZ Z (gup i (some cs) Γ) H' nx'->k H'):∃H0,H0=qC i cs H/\k H0:=⟨_,rfl,hK _ (hk.new h1 h2 cs)⟩
theorem jS{Γ:GH}{H:qc}{nx i:Nat}{cs vs:List qa}{k:qc->Prop}(hk:HZ Z Γ H nx)(hi:Γ i=some cs)(hl:vs.length=cs.length)(hv:qt vs=true)
  (hK:∀H',HZ Z (gup i (some vs) Γ) H' nx->k H'):∃H1,stC H (.ptr i 0) vs=some H1/\k H1:=by
 obtain⟨H1,e1,e2⟩:=hk.st hi (off:=0) (vs:=vs) (by omega) hv
 refine⟨H1,e1,hK _ ?_⟩
 have:jw cs 0 vs=vs:=by unfold jw;simp [hl]
 rw [this]at e2;exact e2
theorem Wh{Γ:GH}{H:qc}{nx i j:Nat}{cs:List qa}{v:qa}{k:qc->Prop}(hk:HZ Z Γ H nx)(hi:Γ i=some cs)(hl:j<cs.length)(hv:qZ v=true)
  (hK:∀H',HZ Z (gup i (some (cs.set j v)) Γ) H' nx->k H'):∃H1,stC H (.ptr i j) [v]=some H1/\k H1:=by
 obtain⟨H1,e1,e2⟩:=hk.st hi (off:=j) (vs:=[v]) (by simp;omega) (by simp [qt,hv])
 refine⟨H1,e1,hK _ ?_⟩
 have:jw cs j [v]=cs.set j v:=by unfold jw;rw [List.set_eq_take_append_cons_drop,if_pos hl];simp
 rw [this]at e2;exact e2
theorem qX{Γ:GH}{H:qc}{nx i sz:Nat}{cs:List qa}(hk:HZ Z Γ H nx)(hi:Γ i=some cs)(hs:sz=cs.length):ldN H sz (.ptr i 0)=some (.agg cs):=by
 rw [hk.ldN hi (off:=0) (by omega),hs];simp
def ky(t:Tok):List qa:=[iv t.kind,.str t.text,iv t.n,iv t.line,iv t.col]
abbrev wQ(t:Tok):qa:= .agg [iv t.kind,.str t.text,iv t.n,iv t.line,iv t.col]
def Ja(f:Flt):qa:= .iface ZX (.agg [iv f.line,iv f.col,iv f.e])
structure kv(l:List Tok):Prop where
 pos:0<l.length
 few:l.length<=5000
 last:(Ps.tk l (l.length - 1)).kind=0
 rest:∀i,i+1<l.length->(Ps.tk l i).kind≠0
structure RC where
 r:Nat
 tb:Nat
 l:List Tok
 ex:Nat->Prop
abbrev RC.add(C:RC)(i:Nat):RC:={C with ex:=λb=>b=i\/C.ex b}
structure Rd(Γ:GH)(C:RC)(a d:Nat):Prop where
 lt:a<C.l.length
 deep:d<=41
 ne:C.tb≠C.r
 rex:C.ex C.r
 exs:∀b,C.ex b->Γ b≠none
 rd:∃full,Γ C.r=some [.slice C.tb 0 C.l.length 5 full,iv a,iv d]
 tk:∃cs,Γ C.tb=some cs/\C.l.length*5<=cs.length/\cs.take (C.l.length*5)=C.l.flatMap ky
theorem qj8{Γ Γ':GH}(hs:∀b cs,Γ b=some cs->Γ' b=some cs){b:Nat}(h:Γ b≠none):Γ' b≠none:=by
 cases e:Γ b with
 |none=>exact absurd e h
 |some cs=>rw [hs _ _ e];simp
theorem qby{b i:Nat}{Γ:GH}{cs:List qa}(h:Γ b≠none):gup i (some cs) Γ b≠none:=by
 by_cases hb:b=i
 ·subst hb;rw [qk];simp
 ·rw [qn hb];exact h
theorem Rd.keep{Γ Γ':GH}{C:RC}{a d:Nat}(h:Rd Γ C a d)(hs:∀b cs,Γ b=some cs->Γ' b=some cs):Rd Γ' C a d:=
 ⟨h.lt,h.deep,h.ne,h.rex,λb hb=>qj8 hs (h.exs b hb),let⟨f,e⟩:=h.rd;⟨f,hs _ _ e⟩,let⟨cs,e,h⟩:=h.tk;⟨cs,hs _ _ e,h⟩⟩
theorem Rd.new{Γ:GH}{C:RC}{a d b:Nat}{cs:Option (List qa)}(h:Rd Γ C a d)(hb:Γ b=none):Rd (gup b cs Γ) C a d:=
 h.keep λc ds e=>by rw [qn λx=>by rw [x,hb]at e;cases e];exact e
theorem Rd.r_ne{Γ:GH}{C:RC}{a d b:Nat}(h:Rd Γ C a d)(hb:Γ b=none):b≠C.r:=λx=>by obtain⟨f,e⟩:=h.rd;rw [<-x,hb]at e;cases e
theorem Rd.tb_ne{Γ:GH}{C:RC}{a d b:Nat}(h:Rd Γ C a d)(hb:Γ b=none):b≠C.tb:=λx=>by obtain⟨f,e,_⟩:=h.tk;rw [<-x,hb]at e;cases e
theorem Rd.upd{Γ:GH}{C:RC}{a d b:Nat}{cs:List qa}(h:Rd Γ C a d)(h1:b≠C.r)(h2:b≠C.tb):Rd (gup b (some cs) Γ) C a d:=
 ⟨h.lt,h.deep,h.ne,h.rex,λb hb=>qby (h.exs b hb),let⟨f,e⟩:=h.rd;⟨f,by rw [qn (Ne.symm h1)];exact e⟩,let⟨cs,e,h⟩:=h.tk;⟨cs,by rw [qn (Ne.symm h2)];exact e,h⟩⟩
theorem Rd.set{Γ:GH}{C:RC}{a d a' d':Nat}(h:Rd Γ C a d)(ha:a'<C.l.length)(hd:d'<=41):∃full,Γ C.r=some [.slice C.tb 0 C.l.length 5 full,iv a,iv d]/\Rd (gup C.r (some [.slice C.tb 0 C.l.length 5 full,iv a',iv d']) Γ) C a' d':=
 let⟨f,e⟩:=h.rd
 ⟨f,e,ha,hd,h.ne,h.rex,λb hb=>qby (h.exs b hb),⟨f,qk _ _ _⟩,let⟨cs,e,h'⟩:=h.tk;⟨cs,by rw [qn h.ne];exact e,h'⟩⟩
theorem Rd.add{Γ:GH}{C:RC}{a d i:Nat}(h:Rd Γ C a d)(hi:Γ i≠none):Rd Γ (C.add i) a d:=
 ⟨h.lt,h.deep,h.ne,.inr h.rex,λb hb=>hb.elim (λe=>by rw [e];exact hi) (h.exs b),h.rd,h.tk⟩
theorem Rd.newAdd{Γ:GH}{C:RC}{a d i:Nat}{cs:List qa}(h:Rd Γ C a d)(hi:Γ i=none):Rd (gup i (some cs) Γ) (C.add i) a d:=
 (h.new hi).add (by rw [qk];simp)
theorem Rd.less{Γ:GH}{C:RC}{a d i:Nat}(h:Rd Γ (C.add i) a d)(hr:C.ex C.r):Rd Γ C a d:=
 ⟨h.lt,h.deep,h.ne,hr,λb hb=>h.exs b (.inr hb),h.rd,h.tk⟩
theorem Wf{l:List Tok}:∀{i:Nat} (h:i<l.length),((l.flatMap ky).drop (i*5)).take 5=ky l[i]:=by
 induction l with
 |nil=>intro i h;simp at h
 |cons t l ih=>
  intro i h;cases i with
  |zero=>simp [ky]
  |succ i=>
   have e:(i+1)*5=5+i*5:=by omega
   rw [List.flatMap_cons,e,<-List.drop_drop];have:(ky t++l.flatMap ky).drop 5=l.flatMap ky:=by simp [ky]
   rw [this]
   simpa using ih (i:=i) (by simpa using h)
theorem Rd.tok{Γ:GH}{H:qc}{nx:Nat}{C:RC}{a d:Nat}(h:Rd Γ C a d)(hk:HZ Z Γ H nx):
  ∃full,ld1 H (.ptr C.r 0)=some (.slice C.tb 0 C.l.length 5 full)/\ld1 H (.ptr C.r 1)=some (iv a)/\ld1 H (.ptr C.r 2)=some (iv d)/\qY (.slice C.tb 0 C.l.length 5 full) a 5=some (.ptr C.tb (a*5))/\ldN H 5 (.ptr C.tb (a*5))=some (wQ (Ps.tk C.l a)):=by
 obtain⟨full,h1⟩:=h.rd
 obtain⟨cs,h2,h4,h5⟩:=h.tk
 have ha:=h.lt
 refine⟨full,by rw [hk.ld1 h1];rfl,by rw [hk.ld1 h1];rfl,by rw [hk.ld1 h1];rfl,by rw [yc ha,Nat.zero_add],?_⟩
 rw [hk.ldN h2 (by omega)]
 have e1:(cs.drop (a*5)).take 5=((cs.take (C.l.length*5)).drop (a*5)).take 5:=by
  rw [List.drop_take,List.take_take,Nat.min_eq_left (by omega)]
 rw [e1,h5,Wf ha];have:Ps.tk C.l a=C.l[a]:=by unfold Ps.tk;simp [List.getD,ha]
 rw [this];rfl
def hide(ex:Nat->Prop)(Γ:GH):GH:=λb=> @ite _ (ex b) (Classical.propDecidable _) none (Γ b)
theorem Wc{ex:Nat->Prop}{Γ:GH}{b:Nat}(h:ex b):hide ex Γ b=none:=by unfold hide;rw [if_pos h]
theorem vp{ex:Nat->Prop}{Γ:GH}{b:Nat}(h:¬ex b):hide ex Γ b=Γ b:=by unfold hide;rw [if_neg h]
theorem XZ{ex ex':Nat->Prop}{Γ Γ':GH}(he:∀b,ex' b->ex b)(hk:∀b cs,¬ex b->Γ b=some cs->Γ' b=some cs)(b:Nat)(cs:List qa)(h:hide ex Γ b=some cs):hide ex' Γ' b=some cs:=by
 by_cases hb:ex b
 ·rw [Wc hb]at h;cases h
 ·rw [vp hb]at h;rw [vp λx=>hb (he b x)]
  exact hk b cs hb h
mutual
inductive zu(ex:Nat->Prop)(Γ:GH):List qa->qu->Prop
 |mk {kind n line col:Int} {name:List UInt8} {v:qa} {kids:List qu} (cs:List qa) (hs:Z9 (hide ex Γ) v 6 kids.length cs) (hk:zX ex Γ cs kids):
   zu ex Γ [iv kind,.str name,iv n,iv line,iv col,v] (.node kind name n line col kids)
inductive zX(ex:Nat->Prop)(Γ:GH):List qa->List qu->Prop
 |nil:zX ex Γ [] []
 |cons {c cs:List qa} {t:qu} {ts:List qu} (h:zu ex Γ c t) (hl:zX ex Γ cs ts):zX ex Γ (c++cs) (t::ts)
end
def zM(ex:Nat->Prop)(Γ:GH)(v:qa)(t:qu):Prop:=∃c,v= .agg c/\zu ex Γ c t
def zC(ex:Nat->Prop)(Γ:GH)(v:qa)(ts:List qu):Prop:=∃cs,Z9 (hide ex Γ) v 6 ts.length cs/\zX ex Γ cs ts
section
variable{ex ex':Nat->Prop}{Γ Γ':GH}
mutual
theorem zu.mono(he:∀b,ex' b->ex b)(hk:∀b cs,¬ex b->Γ b=some cs->Γ' b=some cs):∀{c:List qa} {t:qu},zu ex Γ c t->zu ex' Γ' c t
 |_,_,.mk cs hs h=> .mk cs (hs.mono (XZ he hk)) (zX.mono he hk h)
theorem zX.mono(he:∀b,ex' b->ex b)(hk:∀b cs,¬ex b->Γ b=some cs->Γ' b=some cs):∀{c:List qa} {t:List qu},zX ex Γ c t->zX ex' Γ' c t
 |_,_,.nil=> .nil
 |_,_,.cons h hl=> .cons (zu.mono he hk h) (zX.mono he hk hl)
end
theorem zC.mono(he:∀b,ex' b->ex b)(hk:∀b cs,¬ex b->Γ b=some cs->Γ' b=some cs){v:qa}{t:List qu}(h:zC ex Γ v t):zC ex' Γ' v t:=let⟨cs,h1,h2⟩:=h;⟨cs,h1.mono (XZ he hk),h2.mono he hk⟩
theorem zC.keep{r nx:Nat}(hr:ex r)(hk:qU r nx Γ Γ'){v:qa}{t:List qu}(h:zC ex Γ v t):zC ex Γ' v t:=h.mono (λ_ h=>h) λb cs hb e=>hk.1 b cs (λx=>hb (x▸hr)) e
theorem zu.keep{r nx:Nat}(hr:ex r)(hk:qU r nx Γ Γ'){v:List qa}{t:qu}(h:zu ex Γ v t):zu ex Γ' v t:=h.mono (λ_ h=>h) λb cs hb e=>hk.1 b cs (λx=>hb (x▸hr)) e
theorem zX.keep{r nx:Nat}(hr:ex r)(hk:qU r nx Γ Γ'){v:List qa}{t:List qu}(h:zX ex Γ v t):zX ex Γ' v t:=h.mono (λ_ h=>h) λb cs hb e=>hk.1 b cs (λx=>hb (x▸hr)) e
theorem zu.len:∀{c:List qa} {t:qu},zu ex Γ c t->c.length=6
 |_,_,.mk _ _ _=>rfl
theorem zX.len:∀{c:List qa} {t:List qu},zX ex Γ c t->c.length=t.length*6
 |_,_,.nil=>rfl
 |_,_,.cons h hl=>by rw [List.length_append,h.len,zX.len hl,List.length_cons];omega
theorem zX.app:∀{c d:List qa} {s t:List qu},zX ex Γ c s->zX ex Γ d t->zX ex Γ (c++d) (s++t)
 |_,_,_,_,.nil,h=>h
 |_,_,_,_,.cons h hl,h'=>by rw [List.append_assoc];exact .cons h (zX.app hl h')
theorem zu.one{c:List qa}{t:qu}(h:zu ex Γ c t):zX ex Γ c [t]:=by
 have:=zX.cons h zX.nil;rwa [List.append_nil]at this
theorem zC.nil:zC ex Γ .nilSlice []:=⟨[],.inl ⟨rfl,rfl,rfl⟩,.nil⟩
theorem zC.blk{b:Nat}{cs:List qa}{ts:List qu}{full:Bool}{n:Nat}(hb:¬ex b)(e:Γ b=some cs)(h:zX ex Γ cs ts)(hn:n=ts.length):zC ex Γ (.slice b 0 n 6 full) ts:=
 ⟨cs,.inr ⟨b,0,full,cs,by rw [hn],by rw [vp hb];exact e,by rw [h.len];omega,by rw [<-h.len];simp⟩,h⟩
theorem zC.node{k n line col:Int}{s:List UInt8}{v:qa}{ts:List qu}(h:zC ex Γ v ts):zM ex Γ (.agg [iv k,.str s,iv n,iv line,iv col,v]) (.node k s n line col ts):=
 let⟨cs,h1,h2⟩:=h;⟨_,rfl,.mk cs h1 h2⟩
theorem zC.cell{v:qa}{ts:List qu}(h:zC ex Γ v ts):qZ v=true:=by
 obtain⟨cs,h1,_⟩:=h
 rcases h1 with⟨rfl,_⟩|⟨b,off,full,cs,rfl,_⟩<;>rfl
theorem zM.cells{v:qa}{t:qu}(h:zM ex Γ v t):∃(k:Int) (s:List UInt8) (n li co:Int) (w:qa),v= .agg [iv k,.str s,iv n,iv li,iv co,w]/\qZ w=true/\zu ex Γ [iv k,.str s,iv n,iv li,iv co,w] t:=by
 obtain⟨c,rfl,h⟩:=h
 cases h with
 |mk cs hs hk=>exact⟨_,_,_,_,_,_,rfl,zC.cell ⟨cs,hs,hk⟩,.mk cs hs hk⟩
theorem zu.v{c:List qa}{t:qu}(h:zu ex Γ c t):zM ex Γ (.agg c) t:=⟨c,rfl,h⟩
end
def RdP(Γ:GH)(r:Nat):Prop:=∃(x y:qa) (n:Int),Γ r=some [x,y,iv n]
theorem Rd.p{Γ:GH}{C:RC}{a d:Nat}(h:Rd Γ C a d):RdP Γ C.r:=let⟨_,e⟩:=h.rd;⟨_,_,_,e⟩
def ja{α:Type}(Z:Nat->Prop)(K:qr)(Γ:GH)(nx:Nat)(C:RC)(d:Nat)(res:Except Flt (α×Nat))(V:GH->qa->α->Prop):Prop:=
 (∀x b v Γ' H' nx',res= .ok (x,b)->nx<=nx'->HZ Z Γ' H' nx'->qU C.r nx Γ Γ'->V Γ' v x->Rd Γ' C b d->K (.ret v) H' nx')/\
 (∀f Γ' H' nx',res= .error f->nx<=nx'->HZ Z Γ' H' nx'->qU C.r nx Γ Γ'->RdP Γ' C.r->K (.pan [(Ja f,false)]) H' nx')
section
variable{α β:Type}{K:qr}{Γ Γ1:GH}{nx nx1 d:Nat}{C:RC}{V:GH->qa->α->Prop}{res:Except Flt (α×Nat)}
theorem ja.from(h:ja Z K Γ nx C d res V)(hn:nx<=nx1)(hk:qU C.r nx Γ Γ1):ja Z K Γ1 nx1 C d res V:=
 ⟨λx b v Γ' H' nx' e h1 h2 h3 h4 h5=>h.1 x b v Γ' H' nx' e (Nat.le_trans hn h1) h2 (hk.trans h3 hn) h4 h5,λf Γ' H' nx' e h1 h2 h3 h4=>h.2 f Γ' H' nx' e (Nat.le_trans hn h1) h2 (hk.trans h3 hn) h4⟩
theorem ja.on{rK:qa->qc->Nat->Prop}{pK:List (qa×Bool)->qc->Nat->Prop}
  (hok:∀x b v Γ' H' nx',res= .ok (x,b)->nx<=nx'->HZ Z Γ' H' nx'->qU C.r nx Γ Γ'->V Γ' v x->Rd Γ' C b d->rK v H' nx')
  (hbad:∀f Γ' H' nx',res= .error f->nx<=nx'->HZ Z Γ' H' nx'->qU C.r nx Γ Γ'->RdP Γ' C.r->pK [(Ja f,false)] H' nx'):
  ja Z (λe H' nx'=>qj e (λv=>rK v H' nx') λl=>pK l H' nx') Γ nx C d res V:=
 ⟨λx b v Γ' H' nx' e h1 h2 h3 h4 h5=>qb.2 (hok x b v Γ' H' nx' e h1 h2 h3 h4 h5),λf Γ' H' nx' e h1 h2 h3 h4=>ql.2 (hbad f Γ' H' nx' e h1 h2 h3 h4)⟩
end
end
end Go.Vs
end
section
namespace Go.Vs
open Go.Proofs Ck
variable [GTab] {Z:Nat->Prop}
noncomputable section
theorem WpP.partK{P:Program}{nt:Nat}{c:Code}{env:Env}{H:qc}{nx:Nat}{dfs:Dfs}{K:KP}{ts:List Nat}(hm:P.follows .mixedOrders=true)
  (h:vK P (qo P) (LpP P nt) nt c env H nx dfs none (qG ts (qF (λe H n d _=>K .normal e H n d none) (λid e H n d _=>K (.exit id) e H n d none) (λe H n d _=>K .ret e H n d none) (λl e H n d _=>K (.pan l) e H n d none)))):WpP P nt c env H nx dfs K:=
 WpP.trim (WpP.mono (WpP.of_vK hm h) (by intro ex env' H' nx' dfs' h;cases ex<;>exact h))
theorem ifT{b:Bool}{p q:Prop}(h:b=true)(hp:p):ifB b p q:=by subst h;exact hp
theorem ifF{b:Bool}{p q:Prop}(h:b=false)(hq:q):ifB b p q:=by subst h;exact hq
def qE{α:Type}(x:Ex α)(ok:α->Prop)(no:Flt->Prop):Prop:=match x with
 | .ok a=>ok a
 | .error f=>no f
section
variable{α β:Type}{x:Ex α}{k:α->Ex β}{ok ok':α->Prop}{okb:β->Prop}{no no':Flt->Prop}
theorem qE.ob(h:qE (Ck.ob x k) okb no):qE x (λa=>qE (k a) okb no) no:=by cases x<;>exact h
theorem qE.mono(h:qE x ok no)(h1:∀a,x= .ok a->ok a->ok' a)(h2:∀f,x= .error f->no f->no' f):qE x ok' no':=by
 cases x with
 |ok a=>exact h1 a rfl h
 |error f=>exact h2 f rfl h
theorem qE.needT{b:Bool}{n:qu}{e:Int}(h:qE (need b n e x) ok no)(hb:b=true):qE x ok no:=by subst hb;exact h
theorem qE.needF{b:Bool}{n:qu}{e:Int}(h:qE (need b n e x) ok no)(hb:b=false):no (WG e n):=by subst hb;exact h
end
abbrev RS(Z:Nat->Prop)(Γ:GH)(A:qD)(H:qc)(nx:Nat):Prop:=SH Z A [qru Γ] H nx
section
variable{Γ:GH}{A:qD}{F:zr}{H:qc}{nx:Nat}{k:qc->Prop}
theorem SH.toZ(h:RS Z Γ A H nx):HZ Z Γ H nx:=by
 obtain⟨Γ',h1,h2⟩:=SH.to h
 exact h1.sub (h2 (qru Γ) (by simp))
theorem SH.mk1{i:Nat}{cs:List qa}(h:SH Z A F H nx)(h1:nx<=i)(hK:∀H',SH Z ((i,cs)::A) F H' (i+1)->k H'):∃H0,H0=qC i cs H/\k H0:=⟨_,rfl,hK _ (h.newN h1 (Nat.lt_succ_self i))⟩
theorem SH.mkN{i:Nat}{cs:List qa}(h:SH Z A F H nx)(h1:nx<=i)(hK:∀H',SH Z ((i,cs)::A) F H' (i+1)->k H'):∃H0,H0=zA i cs.length cs H/\k H0:=SH.mk1 h h1 hK
theorem SH.ldA{b sz:Nat}{cs:List qa}(h:SH Z A F H nx)(hb:Own A b cs)(ho:sz=cs.length):Vs.ldN H sz (.ptr b 0)=some (.agg cs):=by
 rw [h.ldN hb (by omega)];simp [ho]
end
theorem qqn{α:Type}{c:α->List qa}{sz:Nat}(hc:∀x,(c x).length=sz){l:List α}:∀{i:Nat} (h:i<l.length),((l.flatMap c).drop (i*sz)).take sz=c l[i]:=by
 induction l with
 |nil=>intro i h;simp at h
 |cons t l ih=>
  intro i h;cases i with
  |zero=>simp [<-hc t]
  |succ i=>
   have e:(i+1)*sz=sz+i*sz:=by rw [Nat.succ_mul,Nat.add_comm]
   rw [List.flatMap_cons,e,<-List.drop_drop,List.drop_left' (hc t)]
   simpa using ih (i:=i) (by simpa using h)
theorem zY{α:Type}{c:α->List qa}{sz:Nat}(hc:∀x,(c x).length=sz):∀{l:List α},(l.flatMap c).length=l.length*sz
 |[]=>by simp
 |x::l=>by rw [List.flatMap_cons,List.length_append,hc,zY hc,List.length_cons,Nat.succ_mul,Nat.add_comm]
def q9{α:Type}(c:α->List qa)(sz:Nat)(Γ:GH)(o:qa)(l:List α):Prop:=Z9 Γ o sz l.length (l.flatMap c)/\l.length<=100000
section
variable{α:Type}{c:α->List qa}{sz:Nat}{Γ Γ':GH}{o:qa}{l:List α}{H:qc}{nx i:Nat}
theorem q9.len(h:q9 c sz Γ o l):zw o=some l.length:=Z9.len h.1
theorem q9.few(h:q9 c sz Γ o l):l.length<=100000:=h.2
theorem q9.mono(h:q9 c sz Γ o l)(hs:∀c ds,Γ c=some ds->Γ' c=some ds):q9 c sz Γ' o l:=⟨Z9.mono h.1 hs,h.2⟩
theorem q9.nil:q9 c sz Γ .nilSlice ([]:List α):=⟨.inl ⟨rfl,rfl,rfl⟩,Nat.zero_le _⟩
theorem q9.cell(h:q9 c sz Γ o l):qZ o=true:=by
 rcases h.1 with⟨rfl,_⟩|⟨b,off,full,cs,rfl,_⟩<;>rfl
theorem q9.at(hc:∀x,(c x).length=sz)(h:q9 c sz Γ o l)(hi:i<l.length):∃b off cs,qY o i sz=some (.ptr b off)/\Γ b=some cs/\off+sz<=cs.length/\(cs.drop off).take sz=c l[i]:=by
 rcases h.1 with⟨rfl,hn,_⟩|⟨b,off,full,cs,rfl,hb,hl,e⟩
 ·omega
 ·have h1:(i+1)*sz<=l.length*sz:=Nat.mul_le_mul_right _ hi
  rw [Nat.succ_mul]at h1;refine⟨b,off+i*sz,cs,yc hi,hb,by omega,?_⟩
  rw [<-qqn hc hi,<-e,List.drop_take,List.take_take,List.drop_drop,Nat.min_eq_left (by omega)]
theorem q9.rd(hc:∀x,(c x).length=sz)(h:q9 c sz Γ o l)(hk:HZ Z Γ H nx)(hi:i<l.length):∃b off,qY o i sz=some (.ptr b off)/\ldN H sz (.ptr b off)=some (.agg (c l[i]))/\∀j,j<sz->ld1 H (.ptr b (off+j))=(c l[i])[j]?:=by
 obtain⟨b,off,cs,h1,h2,h3,h4⟩:=h.at hc hi
 refine⟨b,off,h1,by rw [hk.ldN h2 h3,h4],λj hj=> ?_⟩
 rw [hk.ld1 h2,<-h4,List.getElem?_take_of_lt hj,List.getElem?_drop]
end
def yv(n:Nat):List qa:=[iv n]
def Xw(f:Bs×Nat):List qa:=[.str f.1,iv f.2]
def wg(m:yM×qa):List qa:=[.str m.1.name,m.2,iv m.1.result,iv m.1.fn]
def tyC(t:Ty×qa×qa):List qa:=[iv t.1.kind,.str t.1.name,iv t.1.elem,t.2.1,t.2.2]
def sgC(s:CSg×qa):List qa:=[.str s.1.name,iv s.1.recv,s.2,iv s.1.result]
def vT(v:Var):List qa:=[.str v.name,iv v.t,iv v.deep]
abbrev kY(Γ:GH)(w:qa)(l:List Nat):Prop:=q9 yv 1 Γ w l
abbrev YI(Γ:GH)(w:qa)(l:List (Bs×Nat)):Prop:=q9 Xw 2 Γ w l
abbrev qm5(Γ:GH)(w:qa)(l:List Var):Prop:=q9 vT 3 Γ w l
def wz(Γ:GH)(w:qa)(l:List yM):Prop:=∃L:List (yM×qa),L.map (·.1)=l/\q9 wg 4 Γ w L/\∀x∈L,kY Γ x.2 x.1.params
def ZE(Γ:GH)(w:qa)(l:List Ty):Prop:=∃L:List (Ty×qa×qa),L.map (·.1)=l/\q9 tyC 5 Γ w L/\∀x∈L,YI Γ x.2.1 x.1.fields/\wz Γ x.2.2 x.1.methods
def qac(Γ:GH)(w:qa)(l:List CSg):Prop:=∃L:List (CSg×qa),L.map (·.1)=l/\q9 sgC 4 Γ w L/\∀x∈L,kY Γ x.2 x.1.params
section
variable{Γ:GH}{w:qa}{H:qc}{nx i:Nat}
theorem wz.len{l:List yM}(h:wz Γ w l):zw w=some l.length:=by obtain⟨L,rfl,h,_⟩:=h;rw [h.len,List.length_map]
theorem ZE.len{l:List Ty}(h:ZE Γ w l):zw w=some l.length:=by obtain⟨L,rfl,h,_⟩:=h;rw [h.len,List.length_map]
theorem qac.len{l:List CSg}(h:qac Γ w l):zw w=some l.length:=by obtain⟨L,rfl,h,_⟩:=h;rw [h.len,List.length_map]
theorem wz.few{l:List yM}(h:wz Γ w l):l.length<=100000:=by obtain⟨L,rfl,h,_⟩:=h;rw [List.length_map];exact h.few
theorem ZE.few{l:List Ty}(h:ZE Γ w l):l.length<=100000:=by obtain⟨L,rfl,h,_⟩:=h;rw [List.length_map];exact h.few
theorem qac.few{l:List CSg}(h:qac Γ w l):l.length<=100000:=by obtain⟨L,rfl,h,_⟩:=h;rw [List.length_map];exact h.few
theorem wz.rd{l:List yM}(h:wz Γ w l)(hk:HZ Z Γ H nx)(hi:i<l.length):∃b off pw,kY Γ pw l[i].params/\qY w i 4=some (.ptr b off)/\ldN H 4 (.ptr b off)=some (.agg (wg (l[i],pw)))/\∀j,j<4->ld1 H (.ptr b (off+j))=(wg (l[i],pw))[j]?:=by
 obtain⟨L,rfl,h,hp⟩:=h
 have hi':i<L.length:=by simpa using hi
 obtain⟨b,off,h1,h2,h3⟩:=q9.rd (sz:=4) (λ_=>rfl) h hk hi'
 simp only [List.getElem_map]
 exact⟨b,off,L[i].2,hp _ (List.getElem_mem hi'),h1,h2,h3⟩
theorem qac.rd{l:List CSg}(h:qac Γ w l)(hk:HZ Z Γ H nx)(hi:i<l.length):∃b off pw,kY Γ pw l[i].params/\qY w i 4=some (.ptr b off)/\ldN H 4 (.ptr b off)=some (.agg (sgC (l[i],pw)))/\∀j,j<4->ld1 H (.ptr b (off+j))=(sgC (l[i],pw))[j]?:=by
 obtain⟨L,rfl,h,hp⟩:=h
 have hi':i<L.length:=by simpa using hi
 obtain⟨b,off,h1,h2,h3⟩:=q9.rd (sz:=4) (λ_=>rfl) h hk hi'
 simp only [List.getElem_map]
 exact⟨b,off,L[i].2,hp _ (List.getElem_mem hi'),h1,h2,h3⟩
theorem ZE.rd{l:List Ty}(h:ZE Γ w l)(hk:HZ Z Γ H nx)(hi:i<l.length):∃b off wf wm,YI Γ wf (ty l i).fields/\wz Γ wm (ty l i).methods/\qY w i 5=some (.ptr b off)/\ldN H 5 (.ptr b off)=some (.agg (tyC (ty l i,wf,wm)))/\∀j,j<5->ld1 H (.ptr b (off+j))=(tyC (ty l i,wf,wm))[j]?:=by
 obtain⟨L,rfl,h,hp⟩:=h
 have hi':i<L.length:=by simpa using hi
 obtain⟨b,off,h1,h2,h3⟩:=q9.rd (sz:=5) (λ_=>rfl) h hk hi'
 have e:ty (L.map (·.1)) i=L[i].1:=by unfold ty;simp [List.getD,hi']
 obtain⟨p1,p2⟩:=hp _ (List.getElem_mem hi')
 rw [e];exact⟨b,off,L[i].2.1,L[i].2.2,p1,p2,h1,h2,h3⟩
end
section
variable{α:Type}{p:Nat->α->Bool}{l:List α}{i:Nat}
theorem yj(h:i<l.length):zk p (l.drop i) i=if p i l[i]then some i else zk p (l.drop (i+1)) (i+1):=by
 rw [List.drop_eq_getElem_cons h];rfl
theorem wa:zk p (l.drop l.length) i=none:=by rw [List.drop_length];rfl
theorem Wn:∀{l:List α} {k i:Nat},zk p l k=some i->∃h:i - k<l.length,k<=i/\p i l[i - k]=true
 |[],_,_,h=>by cases h
 |x::l,k,i,h=>by
  unfold zk at h;by_cases hx:p k x=true
  ·rw [if_pos hx]at h
   injection h with h
   subst h;exact⟨by simp,Nat.le_refl _,by simpa using hx⟩
  ·rw [if_neg hx]at h;obtain⟨h1,h2,h3⟩:=Wn h
   refine⟨by simp;omega,by omega,?_⟩
   have e:i - k=(i - (k+1))+1:=by omega
   simp only [e,List.getElem_cons_succ]
   exact h3
theorem Kb{i:Nat}(h:zk p l 0=some i):∃h:i<l.length,p i l[i]=true:=by
 obtain⟨h1,_,h3⟩:=Wn h
 exact⟨by simpa using h1,by simpa using h3⟩
end
def Jt:Option Nat->Int
 |some i=>i
 |none=> -1
inductive DT where
 |node (k:Int) (s:Bs) (n l c:Int) (w:qa) (ks:List DT)
def DT.kd:DT->Int
 | .node k _ _ _ _ _ _=>k
def DT.nm:DT->Bs
 | .node _ s _ _ _ _ _=>s
def DT.nn:DT->Int
 | .node _ _ n _ _ _ _=>n
def DT.li:DT->Int
 | .node _ _ _ l _ _ _=>l
def DT.co:DT->Int
 | .node _ _ _ _ c _ _=>c
def DT.kw:DT->qa
 | .node _ _ _ _ _ w _=>w
def DT.cells(d:DT):List qa:=[iv d.kd,.str d.nm,iv d.nn,iv d.li,iv d.co,d.kw]
def DT.val(d:DT):qa:= .agg d.cells
def DT.kids:DT->List DT
 | .node _ _ _ _ _ _ ks=>ks
mutual
def DT.er:DT->qu
 | .node k s n l c _ ks=> .node k s n l c (ers ks)
def ers:List DT->List qu
 |[]=>[]
 |d::ds=>d.er::ers ds
end
mutual
def DF(Γ:GH):DT->Prop
 | .node _ _ _ _ _ w ks=>q9 DT.cells 6 Γ w ks/\DFs Γ ks
def DFs(Γ:GH):List DT->Prop
 |[]=>True
 |d::ds=>DF Γ d/\DFs Γ ds
end
def zT:DT:= .node 0 [] 0 0 0 .nilSlice []
def qQ(ks:List DT)(i:Nat):DT:=ks.getD i zT
theorem zV(d:DT):d.cells.length=6:=rfl
theorem vi:∀ks:List DT,ers ks=ks.map DT.er
 |[]=>rfl
 |_::ks=>by rw [List.map_cons,<-vi ks];rfl
theorem QQ:∀d:DT,d.er= .node d.kd d.nm d.nn d.li d.co (ers d.kids)
 | .node _ _ _ _ _ _ _=>rfl
theorem kL(d:DT):kh d.er=d.kd:=by rw [QQ];rfl
theorem jo(d:DT):jR d.er=d.nm:=by rw [QQ];rfl
theorem yI(d:DT):Zm d.er=ers d.kids:=by rw [QQ];rfl
theorem zh(d:DT)(e:Int):WG e d.er=⟨d.li,d.co,e⟩:=by rw [QQ];rfl
theorem DF.row{Γ:GH}:∀{d:DT},DF Γ d->q9 DT.cells 6 Γ d.kw d.kids
 | .node _ _ _ _ _ _ _,h=>h.1
theorem DF.kids{Γ:GH}:∀{d:DT},DF Γ d->DFs Γ d.kids
 | .node _ _ _ _ _ _ _,h=>h.2
theorem qpt{Γ:GH}:DF Γ zT:=⟨.nil,trivial⟩
theorem ZQ{ks:List DT}{i:Nat}:(ers ks).getD i zx=(qQ ks i).er:=by
 rw [vi];unfold qQ;simp only [List.getD,List.getElem?_map]
 cases ks[i]?<;>rfl
theorem DFs.get{Γ:GH}:∀{ks:List DT} {d:DT},DFs Γ ks->d∈ks->DF Γ d
 |_::ks,d,h,hd=>by
  rcases List.mem_cons.1 hd with rfl|hd
  ·exact h.1
  ·exact DFs.get h.2 hd
theorem yd(d:DT)(i:Nat):Q3 d.er i=(qQ d.kids i).er:=by unfold Q3;rw [yI,ZQ]
theorem jk(ks:List DT):(ers ks).length=ks.length:=by rw [vi,List.length_map]
theorem JH(ks:List DT)(i:Nat):(ers ks).drop i=ers (ks.drop i):=by rw [vi,vi,List.map_drop]
theorem DFs.drop{Γ:GH}:∀{ks:List DT} {i:Nat},DFs Γ ks->DFs Γ (ks.drop i)
 |_,0,h=>h
 |[],_+1,_=>trivial
 |_::ks,i+1,h=>DFs.drop (ks:=ks) (i:=i) h.2
theorem DFs.kid{Γ:GH}{ks:List DT}{i:Nat}(h:DFs Γ ks):DF Γ (qQ ks i):=by
 unfold qQ;by_cases hi:i<ks.length
 ·have e:ks.getD i zT=ks[i]:=by simp [List.getD,hi]
  rw [e];exact h.get (List.getElem_mem hi)
 ·have e:ks.getD i zT=zT:=by simp [List.getD,List.getElem?_eq_none (by omega:ks.length<=i)]
  rw [e];exact qpt
mutual
theorem DF.mono{Γ Γ':GH}(hs:∀c ds,Γ c=some ds->Γ' c=some ds):∀{d:DT},DF Γ d->DF Γ' d
 | .node _ _ _ _ _ _ _,h=>⟨h.1.mono hs,DFs.mono hs h.2⟩
theorem DFs.mono{Γ Γ':GH}(hs:∀c ds,Γ c=some ds->Γ' c=some ds):∀{ds:List DT},DFs Γ ds->DFs Γ' ds
 |[],_=>trivial
 |_::_,h=>⟨DF.mono hs h.1,DFs.mono hs h.2⟩
end
structure Sv where
 T:List Ty
 fs:List CSg
 vs:List Var
 many:Nat
 deep:Nat
 loops:Nat
 fn:CSg
def CkV(Γ:GH)(r:Nat)(S:Sv):Prop:=∃wt wf wd wn wv pw,Γ r=some [wt,wf,wd,wn,wv,iv S.many,iv S.deep,iv S.loops,.str S.fn.name,iv S.fn.recv,pw,iv S.fn.result]/\ZE Γ wt S.T/\qac Γ wf S.fs/\qm5 Γ wv S.vs
def jQ(f:Flt):qa:= .iface wr (.agg [iv f.line,iv f.col,iv f.e])
def Rt(Z:Nat->Prop)(Γ:GH)(A:qD)(nx:Nat)(K:qr)(v:qa):Prop:=∀H' nx',nx<=nx'->RS Z Γ A H' nx'->K (.ret v) H' nx'
def Pn(Z:Nat->Prop)(Γ:GH)(A:qD)(nx:Nat)(K:qr)(f:Flt):Prop:=∀H' nx',nx<=nx'->RS Z Γ A H' nx'->K (.pan [(jQ f,false)]) H' nx'
section
variable{Γ:GH}{A:qD}{H:qc}{nx:Nat}{K:qr}
theorem qmz(call:zm)(lp:jl)(lv:zJ)(lvc:zI)(K:qr)(o:qa)(f:qa)(w n i:Int)(H:qc)(nx:Nat)(rc:Option qw):
  qA PG call lp 19 (qd PG q8) [1,0,1,0] (qy PG lv lvc K (qP PG q8)) .ret (qe .und [(0,o),(1,f),(4,iv w),(7,iv n),(8,iv i)]) H nx [] rc=K (.ret (iv w)) H nx:=by kernel_rfl
theorem qpn{o:qa}{g:Nat}{q:Nat}{l:List (Bs×Nat)}{p:Bs×Nat->Bool}(h:RS Z Γ A H nx)(ho:q9 Xw 2 Γ o l)
  (hg:∀x∈l,∀H nx K,RS Z Γ A H nx->Rt Z Γ A nx K (.bool (p x))->qo PG g [.agg (Xw x),.ptr q 0] H nx K)
  (hc:∀v,zR PG (.func (.func g) [] [.ptr q 0]) [v]=some (g,[v,.ptr q 0]))
  (hK:Rt Z Γ A nx K (iv (Jt (zk (λ_ x=>p x) l 0)))):qo PG q8 [o,(.func (.func g) [] [.ptr q 0])] H nx K:=by
 refine qo.of_body qp ?_
 refine Eq.mpr (kM ..) ?_
 have hN:=ho.few
 refine⟨_,ho.len,?_⟩
 refine zD (P:=PG) (X:=Nat) (Y:=Unit) (λi=>qe .und [(0,o),(1,.func (.func g) [] [.ptr q 0]),(4,iv 0),(7,iv (l.length:Int)),(8,iv (i:Int))]) (λ_=>qe .und [(4,iv 0)])
  (λm i H1 nx1=>nx<=nx1/\RS Z Γ A H1 nx1/\m=l.length - i/\i<=l.length/\zk (λ_ x=>p x) l 0=zk (λ_ x=>p x) (l.drop i) i)
  (λid _ H1 nx1=>id=0/\nx<=nx1/\RS Z Γ A H1 nx1/\zk (λ_ x=>p x) l 0=none) l.length 0 (qq.okay) ⟨Nat.le_refl _,h,rfl,Nat.zero_le _,rfl⟩ ?_ ?_
 ·rintro m i H1 nx1 ⟨g1,s1,rfl,hi,hf⟩
  refine WpP.partK (ts:=[0,1,4,7,8]) qp ?_
  refine Eq.mpr (qmx ..) ?_
  refine qf.2 ⟨λhc'=> ?_,λhc'=> ?_⟩
  ·have hc':(i:Int)<(l.length:Int):=of_decide_eq_true hc'
   have hil:i<l.length:=by omega
   obtain⟨b,off,i1,i2,_⟩:=q9.rd (sz:=2) (λ_=>rfl) ho s1.toZ hil
   have e1:i64.wrap ((i:Int)+1)=((i+1:Nat):Int):=by rw [qB (by omega) (by omega)];omega
   rw [yj hil]at hf;refine⟨by omega,_,i1,_,_,i2,_,_,hc _,hg _ (List.getElem_mem hil) _ _ _ s1 λH2 n2 g2 p2=>qb.2 ⟨_,rfl,qf.2 ⟨λhd=> ?_,λhd=> ?_⟩⟩⟩
   ·show qA PG _ _ 19 _ _ _ _ _ _ _ _ _
    refine Eq.mpr (qmz ..) ?_
    rw [if_pos hd]at hf;rw [hf]at hK;exact hK H2 n2 (by omega) p2
   ·rw [e1];rw [if_neg (by rw [hd];simp)]at hf
    exact⟨rfl,l.length - (i+1),i+1,by omega,qq.okay,by omega,p2,rfl,by omega,hf⟩
  ·have hc':¬(i:Int)<(l.length:Int):=of_decide_eq_false hc'
   have:i=l.length:=by omega
   subst this;rw [wa]at hf;exact⟨rfl,(),qq.okay,rfl,g1,s1,hf⟩
 ·rintro id _ H1 nx1 ⟨rfl,g1,s1,hf⟩
  refine Eq.mpr (qir (_u:=0) ..) ?_
  rw [hf]at hK;exact hK H1 nx1 g1 s1
theorem qnq(call:zm)(lp:jl)(lv:zJ)(lvc:zI)(K:qr)(o:qa)(f:qa)(w n i:Int)(H:qc)(nx:Nat)(rc:Option qw):
  qA PG call lp 19 (qd PG qR) [1,0,1,0] (qy PG lv lvc K (qP PG qR)) .ret (qe .und [(0,o),(1,f),(4,iv w),(7,iv n),(8,iv i)]) H nx [] rc=K (.ret (iv w)) H nx:=by kernel_rfl
theorem qq7{o:qa}{g:Nat}{q:Nat}{l:List (yM×qa)}{p:yM×qa->Bool}(h:RS Z Γ A H nx)(ho:q9 wg 4 Γ o l)
  (hg:∀x∈l,∀H nx K,RS Z Γ A H nx->Rt Z Γ A nx K (.bool (p x))->qo PG g [.agg (wg x),.ptr q 0] H nx K)
  (hc:∀v,zR PG (.func (.func g) [] [.ptr q 0]) [v]=some (g,[v,.ptr q 0]))
  (hK:Rt Z Γ A nx K (iv (Jt (zk (λ_ x=>p x) l 0)))):qo PG qR [o,(.func (.func g) [] [.ptr q 0])] H nx K:=by
 refine qo.of_body qp ?_
 refine Eq.mpr (kz ..) ?_
 have hN:=ho.few
 refine⟨_,ho.len,?_⟩
 refine zD (P:=PG) (X:=Nat) (Y:=Unit) (λi=>qe .und [(0,o),(1,.func (.func g) [] [.ptr q 0]),(4,iv 0),(7,iv (l.length:Int)),(8,iv (i:Int))]) (λ_=>qe .und [(4,iv 0)])
  (λm i H1 nx1=>nx<=nx1/\RS Z Γ A H1 nx1/\m=l.length - i/\i<=l.length/\zk (λ_ x=>p x) l 0=zk (λ_ x=>p x) (l.drop i) i)
  (λid _ H1 nx1=>id=0/\nx<=nx1/\RS Z Γ A H1 nx1/\zk (λ_ x=>p x) l 0=none) l.length 0 (qq.okay) ⟨Nat.le_refl _,h,rfl,Nat.zero_le _,rfl⟩ ?_ ?_
 ·rintro m i H1 nx1 ⟨g1,s1,rfl,hi,hf⟩
  refine WpP.partK (ts:=[0,1,4,7,8]) qp ?_
  refine Eq.mpr (qkh ..) ?_
  refine qf.2 ⟨λhc'=> ?_,λhc'=> ?_⟩
  ·have hc':(i:Int)<(l.length:Int):=of_decide_eq_true hc'
   have hil:i<l.length:=by omega
   obtain⟨b,off,i1,i2,_⟩:=q9.rd (sz:=4) (λ_=>rfl) ho s1.toZ hil
   have e1:i64.wrap ((i:Int)+1)=((i+1:Nat):Int):=by rw [qB (by omega) (by omega)];omega
   rw [yj hil]at hf;refine⟨by omega,_,i1,_,_,_,_,i2,_,_,hc _,hg _ (List.getElem_mem hil) _ _ _ s1 λH2 n2 g2 p2=>qb.2 ⟨_,rfl,qf.2 ⟨λhd=> ?_,λhd=> ?_⟩⟩⟩
   ·show qA PG _ _ 19 _ _ _ _ _ _ _ _ _
    refine Eq.mpr (qnq ..) ?_
    rw [if_pos hd]at hf;rw [hf]at hK;exact hK H2 n2 (by omega) p2
   ·rw [e1];rw [if_neg (by rw [hd];simp)]at hf
    exact⟨rfl,l.length - (i+1),i+1,by omega,qq.okay,by omega,p2,rfl,by omega,hf⟩
  ·have hc':¬(i:Int)<(l.length:Int):=of_decide_eq_false hc'
   have:i=l.length:=by omega
   subst this;rw [wa]at hf;exact⟨rfl,(),qq.okay,rfl,g1,s1,hf⟩
 ·rintro id _ H1 nx1 ⟨rfl,g1,s1,hf⟩
  refine Eq.mpr (qk0 (_u:=0) ..) ?_
  rw [hf]at hK;exact hK H1 nx1 g1 s1
theorem qmj(call:zm)(lp:jl)(lv:zJ)(lvc:zI)(K:qr)(o:qa)(f:qa)(w n i:Int)(H:qc)(nx:Nat)(rc:Option qw):
  qA PG call lp 19 (qd PG za) [1,0,1,0] (qy PG lv lvc K (qP PG za)) .ret (qe .und [(0,o),(1,f),(4,iv w),(7,iv n),(8,iv i)]) H nx [] rc=K (.ret (iv w)) H nx:=by kernel_rfl
theorem qpa{o:qa}{g:Nat}{l:List (DT)}{p:DT->Bool}(h:RS Z Γ A H nx)(ho:q9 DT.cells 6 Γ o l)
  (hg:∀x∈l,∀H nx K,RS Z Γ A H nx->Rt Z Γ A nx K (.bool (p x))->qo PG g [.agg (DT.cells x)] H nx K)
  (hc:∀v,zR PG (.func (.func g) [] []) [v]=some (g,[v]))
  (hK:Rt Z Γ A nx K (iv (Jt (zk (λ_ x=>p x) l 0)))):qo PG za [o,(.func (.func g) [] [])] H nx K:=by
 refine qo.of_body qp ?_
 refine Eq.mpr (vh ..) ?_
 have hN:=ho.few
 refine⟨_,ho.len,?_⟩
 refine zD (P:=PG) (X:=Nat) (Y:=Unit) (λi=>qe .und [(0,o),(1,.func (.func g) [] []),(4,iv 0),(7,iv (l.length:Int)),(8,iv (i:Int))]) (λ_=>qe .und [(4,iv 0)])
  (λm i H1 nx1=>nx<=nx1/\RS Z Γ A H1 nx1/\m=l.length - i/\i<=l.length/\zk (λ_ x=>p x) l 0=zk (λ_ x=>p x) (l.drop i) i)
  (λid _ H1 nx1=>id=0/\nx<=nx1/\RS Z Γ A H1 nx1/\zk (λ_ x=>p x) l 0=none) l.length 0 (qq.okay) ⟨Nat.le_refl _,h,rfl,Nat.zero_le _,rfl⟩ ?_ ?_
 ·rintro m i H1 nx1 ⟨g1,s1,rfl,hi,hf⟩
  refine WpP.partK (ts:=[0,1,4,7,8]) qp ?_
  refine Eq.mpr (qma ..) ?_
  refine qf.2 ⟨λhc'=> ?_,λhc'=> ?_⟩
  ·have hc':(i:Int)<(l.length:Int):=of_decide_eq_true hc'
   have hil:i<l.length:=by omega
   obtain⟨b,off,i1,i2,_⟩:=q9.rd (sz:=6) zV ho s1.toZ hil
   have e1:i64.wrap ((i:Int)+1)=((i+1:Nat):Int):=by rw [qB (by omega) (by omega)];omega
   rw [yj hil]at hf;refine⟨by omega,_,i1,_,_,_,_,_,_,i2,_,_,hc _,hg _ (List.getElem_mem hil) _ _ _ s1 λH2 n2 g2 p2=>qb.2 ⟨_,rfl,qf.2 ⟨λhd=> ?_,λhd=> ?_⟩⟩⟩
   ·show qA PG _ _ 19 _ _ _ _ _ _ _ _ _
    refine Eq.mpr (qmj ..) ?_
    rw [if_pos hd]at hf;rw [hf]at hK;exact hK H2 n2 (by omega) p2
   ·rw [e1];rw [if_neg (by rw [hd];simp)]at hf
    exact⟨rfl,l.length - (i+1),i+1,by omega,qq.okay,by omega,p2,rfl,by omega,hf⟩
  ·have hc':¬(i:Int)<(l.length:Int):=of_decide_eq_false hc'
   have:i=l.length:=by omega
   subst this;rw [wa]at hf;exact⟨rfl,(),qq.okay,rfl,g1,s1,hf⟩
 ·rintro id _ H1 nx1 ⟨rfl,g1,s1,hf⟩
  refine Eq.mpr (qjx (_u:=0) ..) ?_
  rw [hf]at hK;exact hK H1 nx1 g1 s1
theorem qu7(call:zm)(lp:jl)(lv:zJ)(lvc:zI)(K:qr)(o m:qa)(w:Bool)(n i:Int)(H:qc)(nx:Nat)(rc:Option qw):
  qA PG call lp 26 (qd PG jh) [1,1,0,1,0] (qy PG lv lvc K (qP PG jh)) .ret (qe .und [(0,o),(1,m),(4,.bool w),(12,iv n),(13,iv i)]) H nx [] rc=K (.ret (.bool w)) H nx:=by kernel_rfl
theorem qqh{a b:qa}{l m:List Nat}(h:RS Z Γ A H nx)(ha:kY Γ a l)(hb:kY Γ b m)(hK:Rt Z Γ A nx K (.bool (decide (l=m)))):qo PG jh [a,b] H nx K:=by
 refine qo.of_body qp ?_
 refine Eq.mpr (Qb ..) ?_
 have hN:=ha.few
 refine⟨_,ha.len,_,hb.len,qf.2 ⟨λhd=> ?_,λhd=>⟨_,ha.len,?_⟩⟩⟩
 ·have:l≠m:=λe=>by subst e;simp at hd
  rw [decide_eq_false this]at hK;exact hK H nx lR h
 have hlm:l.length=m.length:=Int.ofNat.inj (by simpa using hd)
 refine zD (P:=PG) (X:=Nat) (Y:=Unit) (λi=>qe .und [(0,a),(1,b),(4,.bool false),(12,iv (l.length:Int)),(13,iv (i:Int))]) (λ_=>qe .und [(4,.bool false)])
  (λk i H1 nx1=>nx<=nx1/\RS Z Γ A H1 nx1/\k=l.length - i/\i<=l.length/\l.take i=m.take i)
  (λid _ H1 nx1=>id=0/\nx<=nx1/\RS Z Γ A H1 nx1/\l=m) l.length 0 (qq.okay) ⟨Nat.le_refl _,h,rfl,Nat.zero_le _,rfl⟩ ?_ ?_
 ·rintro k i H1 nx1 ⟨g1,s1,rfl,hi,hf⟩
  refine WpP.partK (ts:=[0,1,4,12,13]) qp ?_
  refine Eq.mpr (qp2 ..) ?_
  refine qf.2 ⟨λhc'=> ?_,λhc'=> ?_⟩
  ·have hc':(i:Int)<(l.length:Int):=of_decide_eq_true hc'
   have hil:i<l.length:=by omega
   have him:i<m.length:=by omega
   obtain⟨b1,o1,i1,_,i2⟩:=q9.rd (sz:=1) (λ_=>rfl) ha s1.toZ hil
   obtain⟨b2,o2,j1,_,j2⟩:=q9.rd (sz:=1) (λ_=>rfl) hb s1.toZ him
   have e1:i64.wrap ((i:Int)+1)=((i+1:Nat):Int):=by rw [qB (by omega) (by omega)];omega
   have i3:=i2 0 (by omega)
   have j3:=j2 0 (by omega)
   refine⟨by omega,_,i1,_,i3,by omega,_,j1,_,j3,⟨⟨_,i3,rfl⟩,⟨_,j3,rfl⟩,trivial⟩,qf.2 ⟨λhd=> ?_,λhd=> ?_⟩⟩
   ·show qA PG _ _ 26 _ _ _ _ _ _ _ _ _
    refine Eq.mpr (qu7 ..) ?_
    have:l≠m:=λe=>by subst e;simp at hd
    rw [decide_eq_false this]at hK;exact hK H1 _ (by omega) (s1.more (by omega))
   ·rw [e1];have e:l[i]=m[i]:=Int.ofNat.inj (by simpa using hd)
    exact⟨rfl,l.length - (i+1),i+1,by omega,qq.okay,by omega,s1.more (by omega),rfl,by omega,by rw [List.take_add_one,List.take_add_one,hf,List.getElem?_eq_getElem hil,List.getElem?_eq_getElem him,e]⟩
  ·have hc':¬(i:Int)<(l.length:Int):=of_decide_eq_false hc'
   have:i=l.length:=by omega
   subst this;rw [List.take_length,hlm,List.take_length]at hf;exact⟨rfl,(),qq.okay,rfl,g1,s1,hf⟩
 ·rintro id _ H1 nx1 ⟨rfl,g1,s1,hf⟩
  refine Eq.mpr (qrk (_u:=0) ..) ?_
  rw [decide_eq_true hf]at hK;exact hK H1 nx1 g1 s1
end
section
variable{Γ:GH}{A:qD}{H:qc}{nx:Nat}{K:qr}{w:qa}{T:List Ty}
theorem KB{t:Nat}(h:¬t<T.length):ty T t=tyZ:=by unfold ty;simp [List.getD,List.getElem?_eq_none (by omega:T.length<=t)]
theorem wz.cell{l:List yM}(h:wz Γ w l):qZ w=true:=let⟨_,_,h,_⟩:=h;h.cell
theorem Qd{t:Ty}{wf wm:qa}(h1:YI Γ wf t.fields)(h2:wz Γ wm t.methods):qt (tyC (t,wf,wm))=true:=by
 have e1:=h1.cell
 have e2:=h2.cell
 simp only [tyC,qt,e1,e2]
 rfl
theorem qgb{t:Nat}(h:RS Z Γ A H nx)(hT:ZE Γ w T)(hK:∀wf wm,YI Γ wf (ty T t).fields->wz Γ wm (ty T t).methods->Rt Z Γ A nx K (.tuple [.agg (tyC (ty T t,wf,wm)),.bool (decide (t<T.length))])):qo PG J5 [w,iv t] H nx K:=by
 refine qo.of_body qp ?_
 refine Eq.mpr (qjo ..) ?_
 refine h.mk1 lR λH0 s0=>ifF (by simp) ⟨_,hT.len,qf.2 ⟨λhd=> ?_,λhd=>⟨by omega,?_⟩⟩⟩
 ·have ht:¬t<T.length:=by simp at hd;omega
  have e:=KB ht
  rw [e,decide_eq_false ht]at hK;exact s0.all .hd rfl rfl λH1 s1=>⟨_,_,_,_,_,s1.ldA .hd rfl,hK .nilSlice .nilSlice .nil ⟨[],rfl,.nil,λ_ h=>nomatch h⟩ H1 _ (by omega) s1.drop⟩
 ·have ht:t<T.length:=by simp at hd;omega
  obtain⟨b,off,wf,wm,f1,f2,i1,i2,_⟩:=hT.rd s0.toZ ht
  rw [decide_eq_true ht]at hK;refine⟨_,i1,_,_,_,_,_,i2,?_⟩
  exact s0.all (vs:=tyC (ty T t,wf,wm)) .hd rfl (Qd f1 f2) λH1 s1=>⟨_,_,_,_,_,s1.ldA .hd rfl,hK wf wm f1 f2 H1 _ (by omega) s1.drop⟩
def YQ(T:List Ty)(t:Nat):Int:=if t<T.length then kindT T t else -1
theorem J8{t:Nat}(h:RS Z Γ A H nx)(hT:ZE Γ w T)(hK:Rt Z Γ A nx K (iv (YQ T t))):qo PG wX [w,iv t] H nx K:=by
 refine qo.of_body qp ?_
 refine Eq.mpr (qbg ..) ?_
 refine qgb h hT λwf wm f1 f2 H1 n1 g1 s1=>qb.2 ⟨_,_,_,_,_,_,rfl,s1.mk1 lR λH2 s2=>s2.all (vs:=tyC (ty T t,wf,wm)) .hd rfl (Qd f1 f2) λH3 s3=>qf.2 ⟨λhd=> ?_,λhd=>⟨_,rfl,_,s3.ld1 .hd 0,?_⟩⟩⟩
 ·have ht:¬t<T.length:=by simpa using hd
  unfold YQ at hK;rw [if_neg ht]at hK;exact hK H3 _ (by omega) s3.drop
 ·have ht:t<T.length:=by simpa using hd
  unfold YQ at hK;rw [if_pos ht]at hK;exact hK H3 _ (by omega) s3.drop
theorem Ws{t:Nat}(h:t<T.length):YQ T t=kindT T t:=if_pos h
theorem ZT{t:Nat}(h:¬t<T.length):kindT T t=0:=by unfold kindT;rw [KB h];rfl
theorem JY{t k:Nat}(hk:k≠0):(YQ T t=k)↔kindT T t=k:=by
 by_cases h:t<T.length
 ·rw [Ws h];omega
 ·unfold YQ;rw [if_neg h,ZT h];omega
theorem qiw(a b:Bs):(a==b)=decide (a=b):=by rw [Bool.eq_iff_iff];simp
theorem qk7{s0:Bs}{q:Nat}{x:Bs×Nat}(h:RS Z Γ A H nx)(hq:Own A q [.str s0])(hK:Rt Z Γ A nx K (.bool (decide (x.1=s0)))):qo PG J7 [.agg (Xw x),.ptr q 0] H nx K:=by
 refine qo.of_body qp ?_
 refine Eq.mpr (Wv ..) ?_
 refine h.mk1 lR λH0 p0=>⟨_,rfl,_,p0.ld1 .hd 0,_,p0.ld1 (.tl hq) 0,?_⟩
 rw [qiw];exact hK H0 _ (by omega) p0.drop
theorem qko{s0:Bs}{q:Nat}{x:yM×qa}(h:RS Z Γ A H nx)(hq:Own A q [.str s0])(hK:Rt Z Γ A nx K (.bool (decide (x.1.name=s0)))):qo PG yO [.agg (wg x),.ptr q 0] H nx K:=by
 refine qo.of_body qp ?_
 refine Eq.mpr (VL ..) ?_
 refine h.mk1 lR λH0 p0=>⟨_,rfl,_,p0.ld1 .hd 0,_,p0.ld1 (.tl hq) 0,?_⟩
 rw [qiw];exact hK H0 _ (by omega) p0.drop
def XX:Option Nat->qa
 |some i=> .tuple [iv i,.bool true]
 |none=> .tuple [iv 0,.bool false]
theorem qvc{i:Nat}:(some (Bool.rec (Bool.rec (Jt (some i)) 0 (ilt 0 (Jt (some i)))) (Bool.rec (Jt (some i)) 0 (ilt (Jt (some i)) 0)) true:Int))=some (i:Int):=by
 have:ilt (i:Int) 0=false:=by rw [yK];simp
 simp only [Jt,this]
theorem YD{t:Nat}{s:Bs}(h:RS Z Γ A H nx)(hT:ZE Γ w T)(hK:Rt Z Γ A nx K (XX (field T t s))):qo PG yf [w,iv t,.str s] H nx K:=by
 refine qo.of_body qp ?_
 refine Eq.mpr (qb6 ..) ?_
 refine⟨rfl,h.mkN lR λH0 s0=>qgb s0 hT λwf wm f1 f2 H1 n1 g1 s1=>qb.2 ⟨_,_,_,_,_,_,rfl,s1.mk1 lR λH2 s2=>s2.all (vs:=tyC (ty T t,wf,wm)) .hd rfl (Qd f1 f2) λH3 s3=>⟨_,rfl,_,s3.ld1 .hd 0,qf.2 ⟨λhd=> ?_,λhd=>⟨_,rfl,_,s3.ld1 .hd 3,?_⟩⟩⟩⟩⟩
 ·have hk:¬kindT T t=5:=λe=>by
   have e:(ty T t).kind=5:=e
   simp [e]at hd
  unfold field at hK;rw [if_neg hk]at hK;exact hK H3 _ (by omega) s3.drop.drop
 ·have hk:kindT T t=5:=by
   have:((ty T t).kind:Int)=5:=by simpa using hd
   show(ty T t).kind=5
   omega
  unfold field at hK;rw [if_pos hk]at hK;refine qpn (p:=λx=>decide (x.1=s)) s3 f1 (λx hx H nx K hs hk=>qk7 hs (.tl .hd) hk) (λ_=>rfl) λH4 n4 g4 s4=>qb.2 ⟨_,rfl,?_⟩
  have hK:=hK H4 n4 (by omega) s4.drop.drop
  cases hf:zk (λ_ x=>decide (x.1=s)) (ty T t).fields 0 with
  |none=>rw [hf]at hK;exact⟨0,rfl,hK⟩
  |some i=>rw [hf]at hK;exact⟨i,qvc,by rw [show decide (0<=Jt (some i))=true from decide_eq_true (by simp [Jt])];exact hK⟩
theorem Km{α β:Type}{f:β->α}{p:α->Bool}:∀{L:List β} {k:Nat},zk (λ_ x=>p (f x)) L k=zk (λ_ x=>p x) (L.map f) k
 |[],_=>rfl
 |x::L,k=>by unfold zk;rw [List.map_cons,Km]
theorem qq0{q:Nat}{s:Bs}{wm:qa}{l:List yM}{X:Nat×List qa}(h:RS Z Γ (X::(q,[u5 s])::A) H nx)(hm:wz Γ wm l)(hK:Rt Z Γ A nx K (XX (zk (λ_ x=>decide (x.name=s)) l 0))):
  qo PG qR [wm,.func (.func yO) [] [.ptr q 0]] H nx (λe H' i=>qj e (λv=>∃n:Int,v=iv n/\∃m:Int,some (Bool.rec (Bool.rec n 0 (ilt 0 n)) (Bool.rec n 0 (ilt n 0)) true)=some m/\
   K (U3 (U0 [iv m,u7 (decide (0<=n))])) H' i) λl=>K (U2 l) H' i):=by
 obtain⟨L,rfl,hm,_⟩:=hm
 refine qq7 (p:=λx=>decide (x.1.name=s)) h hm (λx hx H nx K hs hk=>qko hs (.tl .hd) hk) (λ_=>rfl) λH4 n4 g4 s4=>qb.2 ⟨_,rfl,?_⟩
 have hK:=hK H4 n4 g4 s4.drop.drop
 rw [<-Km (f:=λx:yM×qa=>x.1) (p:=λx=>decide (x.name=s))]at hK
 cases hf:zk (λ_ (x:yM×qa)=>decide (x.1.name=s)) L 0 with
 |none=>rw [hf]at hK;exact⟨0,rfl,hK⟩
 |some i=>rw [hf]at hK;exact⟨i,qvc,by rw [show decide (0<=Jt (some i))=true from decide_eq_true (by simp [Jt])];exact hK⟩
theorem Qv{t:Nat}{s:Bs}(h:RS Z Γ A H nx)(hT:ZE Γ w T)(hK:Rt Z Γ A nx K (XX (Jn T t s))):qo PG kU [w,iv t,.str s] H nx K:=by
 refine qo.of_body qp ?_
 refine Eq.mpr (XN ..) ?_
 unfold Jn at hK;refine⟨rfl,h.mkN lR λH0 s0=>qgb s0 hT λwf wm f1 f2 H1 n1 g1 s1=>qb.2 ⟨_,_,_,_,_,_,rfl,s1.mk1 lR λH2 s2=>s2.all (vs:=tyC (ty T t,wf,wm)) .hd rfl (Qd f1 f2) λH3 s3=>⟨_,rfl,_,s3.ld1 .hd 0,?_⟩⟩⟩
 have go (hk:kindT T t=5\/kindT T t=7):=qq0 (K:=K) s3 f2 (λH' nx' g=>by rw [if_pos hk]at hK;exact hK H' nx' (by omega))
 refine qf.2 ⟨λhd=>⟨_,rfl,_,s3.ld1 .hd 0,qf.2 ⟨λhd'=> ?_,λhd'=>⟨_,rfl,_,s3.ld1 .hd 4,go ?_⟩⟩⟩,λhd=>⟨_,rfl,_,s3.ld1 .hd 4,go ?_⟩⟩
 ·have h5:¬kindT T t=5:=λe=>by
   have e:(ty T t).kind=5:=e
   simp [e]at hd
  have h7:¬kindT T t=7:=λe=>by
   have e:(ty T t).kind=7:=e
   simp [e]at hd'
  rw [if_neg (by omega)]at hK
  exact hK H3 _ (by omega) s3.drop.drop
 ·have:((ty T t).kind:Int)=7:=by simpa using hd'
  exact .inr (show(ty T t).kind=7 by omega)
 ·have:((ty T t).kind:Int)=5:=by simpa using hd
  exact .inl (show(ty T t).kind=5 by omega)
end
section
variable{Γ:GH}{A:qD}{H:qc}{nx:Nat}{K:qr}{w:qa}{T:List Ty}
theorem qah{t i:Nat}{s:Bs}(h:Jn T t s=some i):t<T.length/\∃hi:i<(ty T t).methods.length,vY T t i=(ty T t).methods[i]/\(ty T t).methods[i].name=s:=by
 unfold Jn at h;split at h
 ·rename_i hk;obtain⟨hi,he⟩:=Kb h
  refine⟨?_,hi,?_,of_decide_eq_true he⟩
  ·by_cases ht:t<T.length
   ·exact ht
   ·rw [ZT ht]at hk;omega
  ·unfold vY;simp [List.getD,hi]
 ·cases h
def qb1(T:List Ty)(s:Nat)(m:yM):Bool:=match Jn T s m.name with
 |none=>false
 |some i=>decide ((vY T s i).result=m.result)&&decide ((vY T s i).params=m.params)
theorem qsg(T:List Ty)(s f:Nat):has T s f=(decide (kindT T s=5)&&decide (kindT T f=7)&&(ty T f).methods.all (qb1 T s)):=rfl
theorem qax(call:zm)(lp:jl)(lv:zJ)(lvc:zI)(K:qr)(o m:qa)(v:Bool)(a b n i:Int)(H:qc)(nx:Nat)(rc:Option qw):
  qA PG call lp 64 (qd PG ym) [1,1,0,1,0] (qy PG lv lvc K (qP PG ym)) .ret (qe .und [(0,o),(1,iv a),(2,iv b),(6,.bool v),(26,m),(27,iv n),(28,iv i)]) H nx [] rc=K (.ret (.bool v)) H nx:=by kernel_rfl
theorem Z8{m:yM}{pw:qa}(h:kY Γ pw m.params):qt (wg (m,pw))=true:=by
 have e:=h.cell
 simp only [wg,qt,e]
 rfl
theorem VV{a b:Nat}(h:RS Z Γ A H nx)(hT:ZE Γ w T)(hK:Rt Z Γ A nx K (.bool (has T a b))):qo PG ym [w,iv a,iv b] H nx K:=by
 refine qo.of_body qp ?_
 refine Eq.mpr (qel ..) ?_
 rw [qsg]at hK;refine J8 h hT λH1 n1 g1 s1=>qb.2 ⟨_,rfl,qf.2 ⟨λhd=> ?_,λhd=> ?_⟩⟩
 ·have h5:¬kindT T a=5:=λe=>by
   have:=(JY (T:=T) (t:=a) (k:=5) (by omega)).2 e
   rw [this]at hd;simp at hd
  rw [decide_eq_false h5]at hK;exact hK H1 n1 g1 s1
 have h5:kindT T a=5:=(JY (by omega)).1 (by simpa using hd)
 refine J8 s1 hT λH2 n2 g2 s2=>qb.2 ⟨_,rfl,qf.2 ⟨λhd=> ?_,λhd=> ?_⟩⟩
 ·have h7:¬kindT T b=7:=λe=>by
   have:=(JY (T:=T) (t:=b) (k:=7) (by omega)).2 e
   rw [this]at hd;simp at hd
  rw [decide_eq_false h7,Bool.and_false]at hK;exact hK H2 n2 (by omega) s2
 have h7:kindT T b=7:=(JY (by omega)).1 (by simpa using hd)
 rw [decide_eq_true h5,decide_eq_true h7,Bool.true_and,Bool.true_and]at hK;have ha:a<T.length:=by
  by_cases ht:a<T.length
  ·exact ht
  ·rw [ZT ht]at h5;omega
 have hb:b<T.length:=by
  by_cases ht:b<T.length
  ·exact ht
  ·rw [ZT ht]at h7;omega
 obtain⟨bb,off,wf,wm,f1,f2,i1,_,i2⟩:=hT.rd s2.toZ hb
 have hN:=f2.few
 refine⟨by omega,_,i1,_,rfl,_,i2 4 (by omega),_,f2.len,?_⟩
 generalize hl:(ty T b).methods=l at*
 have hK2:Rt Z Γ A n2 K (.bool (l.all (qb1 T a))):=λH' n' g' s'=>hK H' n' (by omega) s'
 clear hK i1 i2 hl hd s1;refine zD (P:=PG) (X:=Nat) (Y:=Unit) (λi=>qe .und [(0,w),(1,iv a),(2,iv b),(6,.bool false),(26,wm),(27,iv (l.length:Int)),(28,iv (i:Int))]) (λ_=>qe .und [(6,.bool false)])
  (λm i H1 nx1=>n2<=nx1/\RS Z Γ A H1 nx1/\m=l.length - i/\i<=l.length/\l.all (qb1 T a)=(l.drop i).all (qb1 T a))
  (λid _ H1 nx1=>id=0/\n2<=nx1/\RS Z Γ A H1 nx1/\l.all (qb1 T a)=true) l.length 0 (qq.okay) ⟨Nat.le_refl _,s2,rfl,Nat.zero_le _,rfl⟩ ?_ ?_
 ·rintro m i H3 n3 ⟨g3,s3,rfl,hi,hf⟩
  refine WpP.partK (ts:=[0,1,2,6,26,27,28]) qp ?_
  refine Eq.mpr (qku ..) ?_
  refine qf.2 ⟨λhc=> ?_,λhc=> ?_⟩
  ·have hc:(i:Int)<(l.length:Int):=of_decide_eq_true hc
   have hil:i<l.length:=by omega
   obtain⟨b1,o1,pw,hp,j1,j2,_⟩:=f2.rd s3.toZ hil
   have e1:i64.wrap ((i:Int)+1)=((i+1:Nat):Int):=by rw [qB (by omega) (by omega)];omega
   rw [List.drop_eq_getElem_cons hil,List.all_cons]at hf;have no (H':qc) (n':Nat) (g':n2<=n') (s':RS Z Γ A H' n') (e:qb1 T a l[i]=false):K (.ret (.bool false)) H' n':=by
    rw [e,Bool.false_and]at hf;rw [hf]at hK2;exact hK2 H' n' g' s'
   refine⟨by omega,_,j1,_,_,_,_,j2,s3.mk1 lR λH4 s4=>s4.all (vs:=wg (l[i],pw)) .hd rfl (Z8 hp) λH5 s5=>⟨_,rfl,_,s5.ld1 .hd 0,Qv s5 hT λH6 n6 g6 s6=> ?_⟩⟩
   cases hm:Jn T a l[i].name with
   |none=>
    refine qb.2 ⟨_,_,rfl,ifT rfl ?_⟩
    show qA PG _ _ 64 _ _ _ _ _ _ _ _ _
    refine Eq.mpr (qax ..) ?_
    exact no _ _ (by omega) s6.drop (by unfold qb1;rw [hm])
   |some k=>
    obtain⟨_,hk,e2,_⟩:=qah hm
    refine qb.2 ⟨_,_,rfl,ifF rfl ?_⟩
    obtain⟨b2,o2,wf',wm',_,f2',k1,_,k2⟩:=hT.rd s6.toZ ha
    obtain⟨b3,o3,pw',hp',l1,l2,_⟩:=f2'.rd s6.toZ hk
    refine⟨by omega,_,k1,_,rfl,_,k2 4 (by omega),by omega,_,l1,_,_,_,_,l2,s6.mk1 lR λH7 s7=>s7.all (vs:=wg ((ty T a).methods[k],pw')) .hd rfl (Z8 hp') λH8 s8=>⟨_,rfl,_,s8.ld1 .hd 2,_,rfl,_,s8.ld1 (.tl .hd) 2,?_⟩⟩
    have hv:qb1 T a l[i]=(decide ((ty T a).methods[k].result=l[i].result)&&decide ((ty T a).methods[k].params=l[i].params)):=by unfold qb1;rw [hm];simp only [e2]
    refine qf.2 ⟨λhd=> ?_,λhd=>⟨_,rfl,_,s8.ld1 .hd 1,_,rfl,_,s8.ld1 (.tl .hd) 1,qqh s8 hp' hp λH9 n9 g9 s9=>qb.2 ⟨_,rfl,qf.2 ⟨λhd'=> ?_,λhd'=> ?_⟩⟩⟩⟩
    ·show qA PG _ _ 64 _ _ _ _ _ _ _ _ _
     refine Eq.mpr (qax ..) ?_
     refine no _ _ (by omega) s8.drop.drop ?_
     have:¬(ty T a).methods[k].result=l[i].result:=λe=>by rw [e]at hd;simp at hd
     rw [hv,decide_eq_false this];rfl
    ·show qA PG _ _ 64 _ _ _ _ _ _ _ _ _
     refine Eq.mpr (qax ..) ?_
     refine no _ _ (by omega) s9.drop.drop ?_
     have:¬(ty T a).methods[k].params=l[i].params:=λe=>by rw [e]at hd';simp at hd'
     rw [hv,decide_eq_false this,Bool.and_false]
    ·have e3:(ty T a).methods[k].result=l[i].result:=Int.ofNat.inj (by simpa using hd)
     have e4:(ty T a).methods[k].params=l[i].params:=by simpa using hd'
     rw [hv,decide_eq_true e3,decide_eq_true e4,Bool.true_and,Bool.true_and]at hf;rw [e1];exact⟨rfl,l.length - (i+1),i+1,by omega,qq.okay,by omega,s9.drop.drop,rfl,by omega,hf⟩
  ·have hc:¬(i:Int)<(l.length:Int):=of_decide_eq_false hc
   have:i=l.length:=by omega
   subst this;rw [List.drop_length]at hf;exact⟨rfl,(),qq.okay,rfl,g3,s3,hf⟩
 ·rintro id _ H3 n3 ⟨rfl,g3,s3,hf⟩
  refine Eq.mpr (qka (_u:=0) ..) ?_
  rw [hf]at hK2;exact hK2 H3 n3 g3 s3
theorem qnz{a b:Nat}(ha:a<T.length)(hb:b<T.length)(h:RS Z Γ A H nx)(hT:ZE Γ w T)(hK:Rt Z Γ A nx K (.bool (Ck.fits T a b))):qo PG K3 [w,iv a,iv b] H nx K:=by
 refine qo.of_body qp ?_
 refine Eq.mpr (qe0 ..) ?_
 unfold Ck.fits at hK;refine J8 h hT λH1 n1 g1 s1=>qb.2 ⟨_,rfl,J8 s1 hT λH2 n2 g2 s2=>qb.2 ⟨_,rfl,?_⟩⟩
 rw [Ws ha,Ws hb];have hK0:=hK
 have hK:=hK H2 n2 (by omega) s2
 refine ifF (decide_eq_false (by omega)) (ifF (decide_eq_false (by omega)) (qf.2 ⟨λhd=> ?_,λhd=> ?_⟩))
 ·have e:a=b:=Int.ofNat.inj (by simpa using hd)
  rw [if_pos e]at hK;refine qf.2 ⟨λh0=> ?_,λh0=> ?_⟩
  ·have e0:kindT T a≠0:=by simpa using h0
   rw [decide_eq_true e0,Bool.true_and]at hK;have:(!decide ((kindT T a:Int)=4))=decide (kindT T a≠4):=by rw [Bool.eq_iff_iff];simp;omega
   rw [this];exact hK
  ·have e0:¬kindT T a≠0:=by simpa using h0
   rw [decide_eq_false e0,Bool.false_and]at hK;exact hK
 ·have e:¬a=b:=λx=>by subst x;simp at hd
  rw [if_neg e]at hK;refine qf.2 ⟨λh4=> ?_,λh4=> ?_⟩
  ·have e4:kindT T a=4:=by simp at h4;omega
   rw [if_pos e4]at hK;unfold JG at hK;refine qf.2 ⟨λh5=> ?_,λh5=>qf.2 ⟨λh6=> ?_,λh6=> ?_⟩⟩
   ·have e5:kindT T b=5:=by simp at h5;omega
    rw [decide_eq_true e5]at hK;exact hK
   ·have e6:kindT T b=6:=by simp at h6;omega
    rw [decide_eq_true e6,Bool.or_true]at hK;exact hK
   ·have e5:¬kindT T b=5:=by simp at h5;omega
    have e6:¬kindT T b=6:=by simp at h6;omega
    rw [decide_eq_false e5,decide_eq_false e6]at hK;have:decide ((kindT T b:Int)=7)=decide (kindT T b=7):=by rw [Bool.eq_iff_iff];simp;omega
    rw [this];exact hK
  ·have e4:¬kindT T a=4:=by simp at h4;omega
   rw [if_neg e4]at hK;rw [if_neg e,if_neg e4]at hK0;exact VV s2 hT λH3 n3 g3 s3=>qb.2 ⟨_,rfl,hK0 H3 n3 (by omega) s3⟩
end
section
variable{α:Type}{c:α->List qa}{sz:Nat}{Γ:GH}{o:qa}{l:List α}{i:Nat}
theorem q9.drop(hc:∀x,(c x).length=sz)(h:q9 c sz Γ o l)(hi:i<=l.length):∃o',ZL o sz i none=some o'/\q9 c sz Γ o' (l.drop i):=by
 obtain⟨h,hN⟩:=h
 rcases h with⟨rfl,hn,hl⟩|⟨b,off,full,cs,rfl,hb,hl,e⟩
 ·have:l=[]:=List.eq_nil_of_length_eq_zero hn
  subst this;have:i=0:=by simpa using hi
  subst this;exact⟨.nilSlice,rfl,.inl ⟨rfl,rfl,rfl⟩,by simp⟩
 ·refine⟨.slice b (off+i*sz) (l.length - i) sz (Bool.rec false full (Nat.beq l.length l.length)),?_,.inr ⟨b,_,_,cs,by rw [List.length_drop],hb,?_,?_⟩,by rw [List.length_drop];omega⟩
  ·show(match Nat.ble l.length l.length,Nat.ble i l.length,Nat.beq sz sz with
    |true,true,true=>some (qa.slice b (Nat.add off (Nat.mul i sz)) (Nat.sub l.length i) sz (Bool.rec false full (Nat.beq l.length l.length)))
    |_,_,_=>none)=_
   rw [Nat.ble_eq_true_of_le lR,Nat.ble_eq_true_of_le hi,Nat.beq_refl]
   rfl
  ·rw [List.length_drop,Nat.sub_mul];have:i*sz<=l.length*sz:=Nat.mul_le_mul_right _ hi
   omega
  ·rw [List.length_drop,Nat.sub_mul,<-List.drop_drop,<-List.drop_take,e];have h1:l.flatMap c=(l.take i).flatMap c++(l.drop i).flatMap c:=by rw [<-List.flatMap_append,List.take_append_drop]
   have h2:((l.take i).flatMap c).length=i*sz:=by rw [zY hc,List.length_take,Nat.min_eq_left hi]
   rw [h1,List.drop_left' h2]
end
section
variable{Γ:GH}{A:qD}{H:qc}{nx:Nat}{K:qr}{d:DT}{r:Nat}
theorem DF.cell{d:DT}(h:DF Γ d):qt d.cells=true:=by
 have e:=h.row.cell
 simp only [DT.cells,qt,e]
 rfl
theorem jf{i:Nat}(h:RS Z Γ A H nx)(hd:DF Γ d)(hK:Rt Z Γ A nx K (qQ d.kids i).val):qo PG zo [d.val,iv i] H nx K:=by
 refine qo.of_body qp ?_
 refine Eq.mpr (qcp ..) ?_
 have hw:=hd.row
 refine h.mkN lR λH0 s0=>s0.mk1 lR λH1 s1=>⟨_,rfl,_,s1.ld1 (.tl .hd) 5,_,hw.len,qf.2 ⟨λhc=> ?_,λhc=>⟨_,rfl,_,s1.ld1 (.tl .hd) 5,by omega,?_⟩⟩⟩
 ·have hi:d.kids.length<=i:=by simp at hc;omega
  have e:qQ d.kids i=zT:=by unfold qQ;simp [List.getD,List.getElem?_eq_none hi]
  rw [e]at hK;exact s1.all .hd rfl rfl λH2 s2=>⟨_,_,_,_,_,_,s2.ldA .hd rfl,hK H2 _ (by omega) s2.drop.drop⟩
 ·have hi:i<d.kids.length:=by simp at hc;omega
  have e:qQ d.kids i=d.kids[i]:=by unfold qQ;simp [List.getD,hi]
  obtain⟨b,off,i1,i2,_⟩:=q9.rd (sz:=6) zV hw s1.toZ hi
  rw [<-e]at i2;exact⟨_,i1,_,_,_,_,_,_,i2,s1.all (vs:=(qQ d.kids i).cells) .hd rfl hd.kids.kid.cell λH2 s2=>⟨_,_,_,_,_,_,s2.ldA .hd rfl,hK H2 _ (by omega) s2.drop.drop⟩⟩
theorem w4{i:Nat}{w':qa}(h:RS Z Γ A H nx)(hd:DF Γ d)(hw:ZL d.kw 6 (min i d.kids.length) none=some w')(hK:Rt Z Γ A nx K w'):qo PG vj [d.val,iv i] H nx K:=by
 refine qo.of_body qp ?_
 refine Eq.mpr (WK ..) ?_
 have e:(some (Bool.rec (Bool.rec (i:Int) (Int.ofNat d.kids.length) (ilt (Int.ofNat d.kids.length) i)) (Bool.rec (i:Int) (Int.ofNat d.kids.length) (ilt i (Int.ofNat d.kids.length))) false:Int))=some ((min i d.kids.length:Nat):Int):=by
  simp only [yK]
  by_cases hx:d.kids.length<i
  ·rw [decide_eq_true (by show(d.kids.length:Int)<i;omega),Nat.min_eq_right (by omega)];rfl
  ·rw [decide_eq_false (by show¬(d.kids.length:Int)<i;omega),Nat.min_eq_left (by omega)]
 refine h.mkN lR λH0 s0=>⟨_,rfl,_,s0.ld1 .hd 5,_,rfl,_,s0.ld1 .hd 5,_,hd.row.len,_,e,by omega,w',?_,hK H0 _ (by omega) s0.drop⟩
 simpa using hw
theorem K2{e:Int}(h:RS Z Γ A H nx)(hK:Pn Z Γ A nx K ⟨d.li,d.co,e⟩):qo PG yp [.ptr r 0,d.val,iv e] H nx K:=by
 refine qo.of_body qp ?_
 refine Eq.mpr (YS ..) ?_
 exact h.mkN lR λH0 s0=>⟨_,rfl,_,s0.ld1 .hd 3,_,rfl,_,s0.ld1 .hd 4,rfl,rfl,rfl,_,_,rfl,hK H0 _ (by omega) s0.drop⟩
theorem zB{b:Bool}{e:Int}(h:RS Z Γ A H nx)(hT:b=true->Rt Z Γ A nx K (.tuple []))(hF:b=false->Pn Z Γ A nx K ⟨d.li,d.co,e⟩):qo PG qh [.ptr r 0,.bool b,d.val,iv e] H nx K:=by
 refine qo.of_body qp ?_
 refine Eq.mpr (qdh ..) ?_
 refine h.mkN lR λH0 s0=> ?_
 cases b with
 |true=>exact ifF rfl (hT rfl H0 _ (by omega) s0.drop)
 |false=>exact ifT rfl ⟨_,_,_,_,_,_,s0.ldA .hd rfl,K2 s0 λH1 n1 g1 s1=>ql.2 (hF rfl H1 n1 (by omega) s1.drop)⟩
def VH(s:Bs):List qa:=[.str s]
abbrev qm9(Γ:GH)(w:qa)(l:List Bs):Prop:=q9 VH 1 Γ w l
theorem qkc(call:zm)(lp:jl)(lv:zJ)(lvc:zI)(K:qr)(o:qa)(s:Bs)(w n i:Int)(H:qc)(nx:Nat)(rc:Option qw):
  qA PG call lp 19 (qd PG z4) [1,0,1,0] (qy PG lv lvc K (qP PG z4)) .ret (qe .und [(0,o),(1,.str s),(4,iv w),(7,iv n),(8,iv i)]) H nx [] rc=K (.ret (iv w)) H nx:=by kernel_rfl
theorem qa9{s:Bs}{l:List Bs}{i:Nat}(hi:i<l.length):(l.drop i).contains s=(s==l[i]||(l.drop (i+1)).contains s):=by
 rw [List.drop_eq_getElem_cons hi,List.contains_cons]
theorem qd3{o:qa}{l:List Bs}{s:Bs}(h:RS Z Γ A H nx)(ho:qm9 Γ o l)(hK:Rt Z Γ A nx K (.bool (l.contains s))):qo PG zH [o,.str s] H nx K:=by
 refine qo.of_body qp ?_
 refine Eq.mpr (vL ..) ?_
 refine qo.of_body qp ?_
 refine Eq.mpr (wB ..) ?_
 have hN:=ho.few
 refine⟨_,ho.len,?_⟩
 refine zD (P:=PG) (X:=Nat) (Y:=Unit) (λi=>qe .und [(0,o),(1,.str s),(4,iv 0),(7,iv (l.length:Int)),(8,iv (i:Int))]) (λ_=>qe .und [(4,iv 0)])
  (λm i H1 nx1=>nx<=nx1/\RS Z Γ A H1 nx1/\m=l.length - i/\i<=l.length/\l.contains s=(l.drop i).contains s)
  (λid _ H1 nx1=>id=0/\nx<=nx1/\RS Z Γ A H1 nx1/\l.contains s=false) l.length 0 (qq.okay) ⟨Nat.le_refl _,h,rfl,Nat.zero_le _,rfl⟩ ?_ ?_
 ·rintro m i H1 nx1 ⟨g1,s1,rfl,hi,hf⟩
  refine WpP.partK (ts:=[0,1,4,7,8]) qp ?_
  refine Eq.mpr (qo8 ..) ?_
  refine qf.2 ⟨λhc'=> ?_,λhc'=> ?_⟩
  ·have hc':(i:Int)<(l.length:Int):=of_decide_eq_true hc'
   have hil:i<l.length:=by omega
   obtain⟨b,off,i1,_,i2⟩:=q9.rd (sz:=1) (λ_=>rfl) ho s1.toZ hil
   have e1:i64.wrap ((i:Int)+1)=((i+1:Nat):Int):=by rw [qB (by omega) (by omega)];omega
   rw [qa9 hil]at hf;refine⟨by omega,_,i1,_,i2 0 (by omega),qf.2 ⟨λhd=> ?_,λhd=> ?_⟩⟩
   ·show qA PG _ _ 19 _ _ _ _ _ _ _ _ _
    refine Eq.mpr (qkc ..) (qb.2 ⟨_,rfl,?_⟩)
    rw [hd,Bool.true_or]at hf;rw [hf]at hK;rw [decide_eq_true (by omega)]
    exact hK H1 _ g1 s1
   ·rw [e1];rw [hd,Bool.false_or]at hf;exact⟨rfl,l.length - (i+1),i+1,by omega,qq.okay,by omega,s1,rfl,by omega,hf⟩
  ·have hc':¬(i:Int)<(l.length:Int):=of_decide_eq_false hc'
   have:i=l.length:=by omega
   subst this;rw [List.drop_length]at hf;exact⟨rfl,(),qq.okay,rfl,g1,s1,hf⟩
 ·rintro id _ H1 nx1 ⟨rfl,g1,s1,hf⟩
  refine Eq.mpr (qi0 (_u:=0) ..) (qb.2 ⟨_,rfl,?_⟩)
  rw [hf]at hK;exact hK H1 nx1 g1 s1
end
theorem DT.ind{P:DT->Prop}(h:∀d,(∀e∈d.kids,P e)->P d):∀d,P d
 | .node k s n l c w ks=>h _ λe he=>DT.ind h e
termination_by d=>SizeOf.sizeOf d
decreasing_by
 have:=List.sizeOf_lt_of_mem he
 simp only [DT.kids]at this
 simp;omega
theorem WI{P:DT->Prop}{ks:List DT}{i:Nat}(h0:P zT)(h:∀d∈ks,P d):P (qQ ks i):=by
 unfold qQ;by_cases hi:i<ks.length
 ·have e:ks.getD i zT=ks[i]:=by simp [List.getD,hi]
  rw [e];exact h _ (List.getElem_mem hi)
 ·have e:ks.getD i zT=zT:=by simp [List.getD,List.getElem?_eq_none (by omega:ks.length<=i)]
  rw [e];exact h0
theorem XV{α:Type}{p:α->Bool}:∀{l:List α} {k:Nat},decide (0<=Jt (zk (λ_ x=>p x) l k))=l.any p
 |[],_=>rfl
 |x::l,k=>by
  unfold zk;rw [List.any_cons];cases hp:p x with
  |true=>rw [if_pos rfl,Bool.true_or];exact decide_eq_true (by simp [Jt])
  |false=>rw [if_neg (by simp),Bool.false_or];exact XV
theorem Vm:∀ks:List DT,qaj (ers ks)=ks.any λd=>yT d.er
 |[]=>rfl
 |d::ks=>by rw [List.any_cons,<-Vm ks];rfl
theorem qja(d:DT):yT d.er=if d.kd=16 then true else if d.kd=10\/d.kd=14 then d.kids.any (λd=>yT d.er)else false:=by
 rw [QQ,<-Vm];unfold yT;rfl
section
variable{Γ:GH}
theorem qfx:∀d:DT,DF Γ d->∀{A:qD} {H:qc} {nx:Nat} {K:qr},RS Z Γ A H nx->Rt Z Γ A nx K (.bool (yT d.er))->qo PG wS [d.val] H nx K:=by
 refine DT.ind λd ih hd A H nx K h hK=> ?_
 refine qo.of_body qp ?_
 refine Eq.mpr (Xq ..) ?_
 rw [qja]at hK;have go {H1:qc} {n1:Nat} (g1:nx<=n1) (s1:RS Z Γ ((nx,d.cells)::A) H1 n1) (hk:d.kd=10\/d.kd=14) (h16:¬d.kd=16):qo PG zF [d.kw,.func (.func wS) [] []] H1 n1 (λe H6 i=>qj e (λv=>∃b,v=u7 b/\K (U3 (u7 b)) H6 i) λl=>K (U2 l) H6 i):=by
  rw [if_neg h16,if_pos hk]at hK;refine qo.of_body qp ?_
  refine Eq.mpr (kG ..) ?_
  refine qpa (p:=λx=>yT x.er) s1 hd.row (λx hx H nx K hs hk=>ih x hx (hd.kids.get hx) hs hk) (λ_=>rfl) λH2 n2 g2 s2=>qb.2 ⟨_,rfl,qb.2 ⟨_,rfl,?_⟩⟩
  rw [XV];exact hK H2 n2 (by omega) s2.drop
 refine h.mkN lR λH0 s0=>⟨_,rfl,_,s0.ld1 .hd 0,qf.2 ⟨λh1=> ?_,λh1=>qf.2 ⟨λh2=>⟨_,rfl,_,s0.ld1 .hd 5,go (by omega) s0 (.inl (of_decide_eq_true h2)) (of_decide_eq_false h1)⟩,λh2=>qf.2 ⟨λh3=>⟨_,rfl,_,s0.ld1 .hd 5,go (by omega) s0 (.inr (of_decide_eq_true h3)) (of_decide_eq_false h1)⟩,λh3=> ?_⟩⟩⟩⟩
 ·rw [if_pos (of_decide_eq_true h1)]at hK;exact hK H0 _ (by omega) s0.drop
 ·rw [if_neg (of_decide_eq_false h1),if_neg (not_or.2 ⟨of_decide_eq_false h2,of_decide_eq_false h3⟩)]at hK;exact hK H0 _ (by omega) s0.drop
theorem KV:∀(ks:List DT) (i:Nat),YY (ers ks) i=ends (qQ ks i).er
 |[],_=>rfl
 |_::_,0=>rfl
 |_::ks,i+1=>KV ks i
theorem Vq:∀(ks:List DT),wx (ers ks)=(decide (0<ks.length)&&ends (qQ ks (ks.length - 1)).er)
 |[]=>rfl
 |[_]=>by simp [qQ];rfl
 |_::m::ks=>by
  have:=Vq (m::ks)
  simp only [List.length_cons,Nat.add_sub_cancel]at this ⊢
  exact this
theorem qpw(d:DT):ends d.er=if d.kd=18 then true else if d.kd=10 then decide (0<d.kids.length)&&ends (qQ d.kids (d.kids.length - 1)).er else if d.kd=14 then ends (qQ d.kids 1).er&&ends (qQ d.kids 2).er
  else if d.kd=15 then decide ((qQ d.kids 0).kd=38)&& !yT (qQ d.kids 1).er else false:=by
 rw [QQ,<-Vq d.kids,<-KV d.kids 1,<-KV d.kids 2];have e1:qla (ers d.kids) 1=yT (qQ d.kids 1).er:=by unfold qla;rw [ZQ]
 have e2:kh ((ers d.kids).getD 0 zx)=(qQ d.kids 0).kd:=by rw [ZQ,kL]
 rw [<-e1,<-e2];unfold ends;rfl
def qhn(Z:Nat->Prop)(Γ:GH)(d:DT):Prop:=DF Γ d->∀{A:qD} {H:qc} {nx:Nat} {K:qr},RS Z Γ A H nx->Rt Z Γ A nx K (.bool (ends d.er))->qo PG v5 [d.val] H nx K
theorem Yi(d:DT)(ih:∀i,(d.kd=18\/d.kd=10/\0<d.kids.length/\i=d.kids.length - 1\/d.kd=14\/d.kd=15)->qhn Z Γ (qQ d.kids i)):qhn Z Γ d:=by
 intro hd A H nx K h hK;refine qo.of_body qp ?_
 refine Eq.mpr (Y8 ..) ?_
 rw [qpw]at hK;have hN:=hd.row.few
 refine h.mkN lR λH0 s0=>⟨_,rfl,_,s0.ld1 .hd 0,qf.2 ⟨λh1=> ?_,λh1=> ?_⟩⟩
 ·rw [if_pos (of_decide_eq_true h1)]at hK;exact hK H0 _ (by omega) s0.drop
 rw [if_neg (of_decide_eq_false h1)]at hK;refine qf.2 ⟨λh2=>⟨_,rfl,_,s0.ld1 .hd 5,_,hd.row.len,qf.2 ⟨λh3=>⟨_,rfl,_,s0.ld1 .hd 5,_,rfl,_,s0.ld1 .hd 5,_,hd.row.len,?_⟩,λh3=> ?_⟩⟩,λh2=> ?_⟩
 ·have hl:0<d.kids.length:=by simpa using h3
  have e1:i64.wrap (Int.ofNat d.kids.length - 1)=((d.kids.length - 1:Nat):Int):=by
   show i64.wrap ((d.kids.length:Int) - 1)=_
   rw [qB (by omega) (by omega)];omega
  rw [if_pos (of_decide_eq_true h2),decide_eq_true hl,Bool.true_and]at hK;rw [e1];have hi:d.kids.length - 1<d.kids.length:=by omega
  obtain⟨b,off,i1,i2,_⟩:=q9.rd (sz:=6) zV hd.row s0.toZ hi
  have e:qQ d.kids (d.kids.length - 1)=d.kids[d.kids.length - 1]:=by unfold qQ;simp [List.getD,hi]
  rw [<-e]at i2;exact⟨by omega,_,i1,_,_,_,_,_,_,i2,ih _ (.inr (.inl ⟨of_decide_eq_true h2,hl,rfl⟩)) hd.kids.kid s0 λH1 n1 g1 s1=>qb.2 ⟨_,rfl,hK H1 n1 (by omega) s1.drop⟩⟩
 ·have hl:¬0<d.kids.length:=by simpa using h3
  rw [if_pos (of_decide_eq_true h2),decide_eq_false hl,Bool.false_and]at hK;exact hK H0 _ (by omega) s0.drop
 rw [if_neg (of_decide_eq_false h2)]at hK;refine qf.2 ⟨λh3=>⟨_,_,_,_,_,_,s0.ldA .hd rfl,jf (i:=1) s0 hd λH1 n1 g1 s1=>qb.2 ⟨_,_,_,_,_,_,rfl,ih 1 (.inr (.inr (.inl (of_decide_eq_true h3)))) hd.kids.kid s1 λH2 n2 g2 s2=>qb.2 ⟨_,rfl,?_⟩⟩⟩,λh3=> ?_⟩
 ·rw [if_pos (of_decide_eq_true h3)]at hK;cases he:ends (qQ d.kids 1).er with
  |false=>rw [he,Bool.false_and]at hK;exact hK H2 n2 (by omega) s2.drop
  |true=>
   rw [he,Bool.true_and]at hK;exact⟨_,_,_,_,_,_,s2.ldA .hd rfl,jf (i:=2) s2 hd λH3 n3 g3 s3=>qb.2 ⟨_,_,_,_,_,_,rfl,ih 2 (.inr (.inr (.inl (of_decide_eq_true h3)))) hd.kids.kid s3 λH4 n4 g4 s4=>qb.2 ⟨_,rfl,hK H4 n4 (by omega) s4.drop⟩⟩⟩
 rw [if_neg (of_decide_eq_false h3)]at hK;refine qf.2 ⟨λh4=>⟨_,_,_,_,_,_,s0.ldA .hd rfl,jf (i:=0) s0 hd λH1 n1 g1 s1=>qb.2 ⟨_,_,_,_,_,_,rfl,qf.2 ⟨λh5=> ?_,λh5=> ?_⟩⟩⟩,λh4=> ?_⟩
 ·rw [if_pos (of_decide_eq_true h4),h5,Bool.true_and]at hK;exact⟨_,_,_,_,_,_,s1.ldA .hd rfl,jf (i:=1) s1 hd λH2 n2 g2 s2=>qb.2 ⟨_,_,_,_,_,_,rfl,qfx _ hd.kids.kid s2 λH3 n3 g3 s3=>qb.2 ⟨_,rfl,hK H3 n3 (by omega) s3.drop⟩⟩⟩
 ·rw [if_pos (of_decide_eq_true h4),h5,Bool.false_and]at hK;exact hK H1 n1 (by omega) s1.drop
 rw [if_neg (of_decide_eq_false h4)]at hK;exact hK H0 _ (by omega) s0.drop
theorem qj6:qhn Z Γ zT:=Yi zT λi h=>by
 rcases h with h|⟨_,h,_⟩|h|h
 ·cases h
 ·exact absurd h (by decide)
 ·cases h
 ·cases h
theorem qny:∀d:DT,qhn Z Γ d:=DT.ind λd ih=>Yi d λi _=>WI qj6 ih
end
section
variable{Γ:GH}{A:qD}{H:qc}{nx:Nat}{K:qr}{d:DT}{r:Nat}{S:Sv}
theorem qpb(call:zm)(lp:jl)(lv:zJ)(lvc:zI)(K:qr)(o:qa)(s:Bs)(b:Bool)(w n i:Int)(H:qc)(nx:Nat)(rc:Option qw):
  qA PG call lp 37 (qd PG vA) [1,0,1,0] (qy PG lv lvc K (qP PG vA)) .ret (qe .und [(1,.str s),(4,iv w),(5,.bool b),(11,o),(12,iv n),(13,iv i)]) H nx [] rc=K (.ret (.tuple [iv w,.bool b])) H nx:=by kernel_rfl
theorem KQ{s:Bs}(h:RS Z Γ A H nx)(hr:CkV Γ r S)(hK:Rt Z Γ A nx K (XX (Ck.named S.T s))):qo PG vA [.ptr r 0,.str s] H nx K:=by
 refine qo.of_body qp ?_
 refine Eq.mpr (qak ..) ?_
 obtain⟨wt,wf,wd,wn,wv,pw,hc,hT,_⟩:=hr
 have hN:=hT.few
 refine⟨rfl,_,rfl,_,h.toZ.ld1 hc 0,_,hT.len,?_⟩
 unfold Ck.named at hK
 generalize hp:(λ(i:Nat) (x:Ty)=>decide (x.kind≠6)&&(decide (x.name=s)&&(decide (i≠0)&&decide (i≠4))))=p at hK
 refine zD (P:=PG) (X:=Nat) (Y:=Unit) (λi=>qe .und [(1,.str s),(4,iv 0),(5,.bool false),(11,wt),(12,iv (S.T.length:Int)),(13,iv (i:Int))]) (λ_=>qe .und [(4,iv 0),(5,.bool false)])
  (λm i H1 nx1=>nx<=nx1/\RS Z Γ A H1 nx1/\m=S.T.length - i/\i<=S.T.length/\zk p S.T 0=zk p (S.T.drop i) i)
  (λid _ H1 nx1=>id=0/\nx<=nx1/\RS Z Γ A H1 nx1/\zk p S.T 0=none) S.T.length 0 (qq.okay) ⟨Nat.le_refl _,h,rfl,Nat.zero_le _,rfl⟩ ?_ ?_
 ·rintro m i H1 nx1 ⟨g1,s1,rfl,hi,hf⟩
  refine WpP.partK (ts:=[1,4,5,11,12,13]) qp ?_
  refine Eq.mpr (qq8 ..) ?_
  refine qf.2 ⟨λhc'=> ?_,λhc'=> ?_⟩
  ·have hc':(i:Int)<(S.T.length:Int):=of_decide_eq_true hc'
   have hil:i<S.T.length:=by omega
   obtain⟨b,off,w1,w2,f1,f2,i1,i2,_⟩:=hT.rd s1.toZ hil
   have e1:i64.wrap ((i:Int)+1)=((i+1:Nat):Int):=by rw [qB (by omega) (by omega)];omega
   rw [yj hil]at hf;have et:S.T[i]=ty S.T i:=by unfold ty;simp [List.getD,hil]
   rw [et]at hf;rw [e1];refine⟨by omega,_,i1,_,_,_,_,_,i2,s1.mk1 lR λH2 s2=>s2.all (vs:=tyC (ty S.T i,w1,w2)) .hd rfl (Qd f1 f2) λH3 s3=>⟨_,rfl,_,s3.ld1 .hd 0,?_⟩⟩
   have hno (e:p i (ty S.T i)=false):∃m' x',m'<S.T.length - i/\qq (qe .und [(1,.str s),(4,iv 0),(5,.bool false),(11,wt),(12,iv (S.T.length:Int)),(13,iv ((x':Nat):Int))]) (qe .und [(1,.str s),(4,iv 0),(5,.bool false),(11,wt),(12,iv (S.T.length:Int)),(13,iv ((i+1:Nat):Int))])/\nx<=nx1+1/\RS Z Γ A H3 (nx1+1)/\m'=S.T.length - x'/\x'<=S.T.length/\zk p S.T 0=zk p (S.T.drop x') x':=by
    rw [if_neg (by rw [e];simp)]at hf
    exact⟨S.T.length - (i+1),i+1,by omega,qq.refl _,by omega,s3.drop,rfl,by omega,hf⟩
   refine qf.2 ⟨λh6=>⟨_,rfl,_,s3.ld1 .hd 1,qf.2 ⟨λhn=>qf.2 ⟨λh0=>qf.2 ⟨λh4=> ?_,λh4=>⟨rfl,hno ?_⟩⟩,λh0=>⟨rfl,hno ?_⟩⟩,λhn=>⟨rfl,hno ?_⟩⟩⟩,λh6=>⟨rfl,hno ?_⟩⟩
   ·show qA PG _ _ 37 _ _ _ _ _ _ _ _ _
    refine Eq.mpr (qpb ..) ?_
    have e:p i (ty S.T i)=true:=by
     rw [<-hp];have a1:(ty S.T i).kind≠6:=λx=>by rw [x]at h6;simp at h6
     have a2:(ty S.T i).name=s:=by simpa using hn
     have a3:i≠0:=λx=>by rw [x]at h0;simp at h0
     have a4:i≠4:=λx=>by rw [x]at h4;simp at h4
     simp only [decide_eq_true a1,decide_eq_true a2,decide_eq_true a3,decide_eq_true a4,Bool.and_self]
    rw [if_pos e]at hf;rw [hf]at hK;exact hK H3 _ (by omega) s3.drop
   ·rw [<-hp];have a4:i=4:=by simp at h4;omega
    simp [a4]
   ·rw [<-hp];have a4:i=0:=by simp at h0;omega
    simp [a4]
   ·rw [<-hp];have a2:(ty S.T i).name≠s:=by simpa using hn
    simp [a2]
   ·rw [<-hp];have a1:(ty S.T i).kind=6:=by
     have:((ty S.T i).kind:Int)=6:=by simpa using h6
     omega
    simp [a1]
  ·have hc':¬(i:Int)<(S.T.length:Int):=of_decide_eq_false hc'
   have:i=S.T.length:=by omega
   subst this;rw [wa]at hf;exact⟨rfl,(),qq.okay,rfl,g1,s1,hf⟩
 ·rintro id _ H1 nx1 ⟨rfl,g1,s1,hf⟩
  refine Eq.mpr (qkt (_u:=0) ..) ?_
  rw [hf]at hK;exact hK H1 nx1 g1 s1
theorem qbj(s:Bs)(v:Var):∀l:List Var,Ck.look s (l++[v])=if v.name=s then some v.t else Ck.look s l
 |[]=>by
  show(match Ck.look s []with|some t=>some t|none=>if v.name=s then some v.t else none)=_
  rfl
 |x::l=>by
  show(match Ck.look s (l++[v])with|some t=>some t|none=>if x.name=s then some x.t else none)=_
  rw [qbj s v l];by_cases h:v.name=s
  ·rw [if_pos h,if_pos h]
  ·rw [if_neg h,if_neg h];rfl
theorem qpo{s:Bs}{l:List Var}{i:Nat}(h:i<l.length):Ck.look s (l.take (i+1))=if l[i].name=s then some l[i].t else Ck.look s (l.take i):=by
 rw [List.take_add_one,List.getElem?_eq_getElem h];exact qbj s l[i] _
theorem qs0(call:zm)(lp:jl)(lv:zJ)(lvc:zI)(K:qr)(r q:Nat)(w i:Int)(H:qc)(nx:Nat)(rc:Option qw):
  qA PG call lp 38 (qd PG vv) [1,0,1,0] (qy PG lv lvc K (qP PG vv)) .ret (qe .und [(0,.ptr r 0),(3,.ptr q 0),(4,iv w),(5,iv i)]) H nx [] rc=K (.ret (iv w)) H nx:=by kernel_rfl
theorem Kg(h:RS Z Γ A H nx)(hr:CkV Γ r S)(hT:∀t,Ck.look d.nm S.vs=some t->Rt Z Γ A nx K (iv t))(hF:Ck.look d.nm S.vs=none->Pn Z Γ A nx K ⟨d.li,d.co,15⟩):qo PG vv [.ptr r 0,d.val] H nx K:=by
 refine qo.of_body qp ?_
 refine Eq.mpr (VJ ..) ?_
 obtain⟨wt,wf,wd,wn,wv,pw,hc,_,_,hV⟩:=hr
 have hN:=hV.few
 refine h.mkN lR λH0 s0=>⟨rfl,_,rfl,_,s0.toZ.ld1 hc 4,_,hV.len,?_⟩
 have e0:i64.wrap (Int.ofNat S.vs.length - 1)=(S.vs.length:Int) - 1:=qB (by show _<=(S.vs.length:Int) - 1;omega) (by show(S.vs.length:Int) - 1<=_;omega)
 rw [e0]
 generalize hl:S.vs=l at*
 refine zD (P:=PG) (X:=Nat) (Y:=Unit) (λi=>qe .und [(0,.ptr r 0),(3,.ptr nx 0),(4,iv 0),(5,iv ((i:Int) - 1))]) (λ_=>qe .und [(0,.ptr r 0),(3,.ptr nx 0),(4,iv 0)])
  (λm i H1 nx1=>nx+1<=nx1/\RS Z Γ ((nx,d.cells)::A) H1 nx1/\m=i/\i<=l.length/\Ck.look d.nm l=Ck.look d.nm (l.take i))
  (λid _ H1 nx1=>id=0/\nx+1<=nx1/\RS Z Γ ((nx,d.cells)::A) H1 nx1/\Ck.look d.nm l=none) l.length l.length (qq.okay) ⟨Nat.le_refl _,s0,rfl,Nat.le_refl _,by rw [List.take_length]⟩ ?_ ?_
 ·rintro m i H1 nx1 ⟨g1,s1,rfl,hi,hf⟩
  refine WpP.partK (ts:=[0,3,4,5]) qp ?_
  refine Eq.mpr (qqm ..) ?_
  refine qf.2 ⟨λhc'=> ?_,λhc'=> ?_⟩
  ·have hc':0<=(m:Int) - 1:=of_decide_eq_true hc'
   obtain⟨i,rfl⟩:∃i,m=i+1:=⟨m - 1,by omega⟩
   have hil:i<l.length:=by omega
   have e1:((i+1:Nat):Int) - 1=(i:Int):=by omega
   have e2:i64.wrap ((i:Int) - 1)=(i:Int) - 1:=qB (by omega) (by omega)
   rw [e1,e2];obtain⟨b,off,i1,_,i2⟩:=q9.rd (sz:=3) (λ_=>rfl) hV s1.toZ hil
   have c0:=i2 0 (by omega)
   have cn:=s1.ld1 .hd 1
   have cr:=s1.toZ.ld1 hc 4
   rw [qpo hil]at hf;refine⟨rfl,_,rfl,_,cr,by omega,_,i1,_,rfl,_,c0,_,rfl,_,cn,⟨⟨_,cr,rfl⟩,⟨_,c0,rfl⟩,⟨_,cn,rfl⟩,trivial⟩,qf.2 ⟨λhd=>⟨rfl,_,rfl,_,cr,by omega,_,i1,_,rfl,_,i2 1 (by omega),?_⟩,λhd=> ?_⟩⟩
   ·show qA PG _ _ 38 _ _ _ _ _ _ _ _ _
    refine Eq.mpr (qs0 ..) ?_
    rw [if_pos (by simpa using hd)]at hf
    exact hT _ hf H1 _ (by omega) (s1.more (by omega)).drop
   ·rw [if_neg (by simpa using hd)]at hf
    exact⟨rfl,i,i,by omega,qq.okay,by omega,s1.more (by omega),rfl,by omega,hf⟩
  ·have hc':¬0<=(m:Int) - 1:=of_decide_eq_false hc'
   have:m=0:=by omega
   subst this;exact⟨rfl,(),qq.okay,rfl,g1,s1,hf⟩
 ·rintro id _ H1 nx1 ⟨rfl,g1,s1,hf⟩
  refine Eq.mpr (qob ..) ?_
  exact⟨_,_,_,_,_,_,s1.ldA .hd rfl,K2 s1 λH2 n2 g2 s2=>ql.2 (hF hf H2 n2 (by omega) s2.drop)⟩
theorem qc9{a b:Nat}(ha:a<S.T.length)(hb:b<S.T.length)(h:RS Z Γ A H nx)(hr:CkV Γ r S)(hT:Ck.fits S.T a b=true->Rt Z Γ A nx K (.tuple []))(hF:Ck.fits S.T a b=false->Pn Z Γ A nx K ⟨d.li,d.co,17⟩):qo PG jY [.ptr r 0,d.val,iv a,iv b] H nx K:=by
 refine qo.of_body qp ?_
 refine Eq.mpr (qe5 ..) ?_
 obtain⟨wt,wf,wd,wn,wv,pw,hc,hTy,_⟩:=hr
 refine h.mkN lR λH0 s0=>⟨rfl,_,rfl,_,s0.toZ.ld1 hc 0,_,_,_,_,_,_,s0.ldA .hd rfl,⟨⟨_,s0.toZ.ld1 hc 0,rfl⟩,⟨_,_,_,_,_,_,s0.ldA .hd rfl,rfl⟩,trivial⟩,qnz ha hb (s0.more (by omega)) hTy λH1 n1 g1 s1=>qb.2 ⟨_,rfl,⟨⟨_,_,_,_,_,_,s1.ldA .hd rfl,rfl⟩,trivial⟩,zB s1 (λhb H2 n2 g2 s2=>qb.2 ⟨trivial,hT hb H2 n2 (by omega) s2.drop⟩) λhb H2 n2 g2 s2=>ql.2 (hF hb H2 n2 (by omega) s2.drop)⟩⟩
end
section
variable{Γ:GH}{A:qD}{H:qc}{nx:Nat}{K:qr}{d:DT}{r:Nat}{S:Sv}
theorem qf2{T:List Ty}{ks:List qu}{ps:List Nat}:args.go T ks [] ps= .ok ():=by
 cases ks<;>cases ps<;>rfl
theorem W6{ks:List DT}{l ps:List Nat}{kw lw pw:qa}(hk:q9 DT.cells 6 Γ kw ks)(hl:kY Γ lw l)(hp:kY Γ pw ps)(hlk:l.length=ks.length)(hlT:∀t∈l,t<S.T.length)(hpT:∀t∈ps,t<S.T.length)
  (h:RS Z Γ A H nx) (hr:CkV Γ r S) (ho:qE (args S.T d.er (ers ks) l ps) (λ_=>Rt Z Γ A nx K (.tuple [])) (Pn Z Γ A nx K)):qo PG Z2 [.ptr r 0,d.val,kw,lw,pw] H nx K:=by
 refine qo.of_body qp ?_
 refine Eq.mpr (qec ..) ?_
 have hN:=hl.few
 unfold args at ho;refine h.mkN lR λH0 s0=>⟨_,hl.len,_,hp.len,_,_,_,_,_,_,s0.ldA .hd rfl,zB s0 (λhb H1 n1 g1 s1=>qb.2 ⟨_,hl.len,?_⟩) λhb H1 n1 g1 s1=>ql.2 ?_⟩
 ·have hb':l.length=ps.length:=Int.ofNat.inj (of_decide_eq_true hb)
  have ho:=ho.needT (decide_eq_true hb')
  refine zD (P:=PG) (X:=Nat) (Y:=Unit) (λi=>qe .und [(0,.ptr r 0),(2,kw),(4,pw),(20,lw),(21,iv (l.length:Int)),(22,iv (i:Int))]) (λ_=>qe .und [(0,.ptr r 0)])
   (λm i H1 nx1=>nx<=nx1/\RS Z Γ A H1 nx1/\m=l.length - i/\i<=l.length/\qE (args.go S.T (ers (ks.drop i)) (l.drop i) (ps.drop i)) (λ_=>Rt Z Γ A nx K (.tuple [])) (Pn Z Γ A nx K))
   (λid _ H1 nx1=>id=0/\nx<=nx1/\RS Z Γ A H1 nx1/\Rt Z Γ A nx K (.tuple [])) l.length 0 (qq.okay) ⟨by omega,s1.drop,rfl,Nat.zero_le _,ho⟩ ?_ ?_
  ·rintro m i H2 n2 ⟨g2,s2,rfl,hi,hf⟩
   refine WpP.partK (ts:=[0,2,4,20,21,22]) qp ?_
   refine Eq.mpr (qpx ..) ?_
   refine qf.2 ⟨λhc=> ?_,λhc=> ?_⟩
   ·have hc:(i:Int)<(l.length:Int):=of_decide_eq_true hc
    have hil:i<l.length:=by omega
    have hik:i<ks.length:=by omega
    have hip:i<ps.length:=by omega
    obtain⟨b1,o1,i1,_,i2⟩:=q9.rd (sz:=1) (λ_=>rfl) hl s2.toZ hil
    obtain⟨b2,o2,j1,j2,_⟩:=q9.rd (sz:=6) zV hk s2.toZ hik
    obtain⟨b3,o3,l1,_,l2⟩:=q9.rd (sz:=1) (λ_=>rfl) hp s2.toZ hip
    have l3:=l2 0 (by omega)
    have e1:i64.wrap ((i:Int)+1)=((i+1:Nat):Int):=by rw [qB (by omega) (by omega)];omega
    rw [List.drop_eq_getElem_cons hil,List.drop_eq_getElem_cons hik,List.drop_eq_getElem_cons hip]at hf;have hf:qE (Ck.need (Ck.fits S.T l[i] ps[i]) ks[i].er 17 (args.go S.T (ers (ks.drop (i+1))) (l.drop (i+1)) (ps.drop (i+1)))) (λ_=>Rt Z Γ A nx K (.tuple [])) (Pn Z Γ A nx K):=hf
    rw [e1];refine⟨by omega,_,i1,_,i2 0 (by omega),by omega,_,j1,_,_,_,_,_,_,j2,by omega,_,l1,_,l3,⟨⟨_,_,_,_,_,_,j2,rfl⟩,⟨_,l3,rfl⟩,trivial⟩,?_⟩
    refine qc9 (d:=ks[i]) (hlT _ (List.getElem_mem hil)) (hpT _ (List.getElem_mem hip)) (s2.more (by omega)) hr (λhb H3 n3 g3 s3=>qb.2 ⟨trivial,rfl,l.length - (i+1),i+1,by omega,qq.refl _,by omega,s3,rfl,by omega,hf.needT hb⟩) λhb H3 n3 g3 s3=>ql.2 ?_
    have:=hf.needF hb
    rw [zh]at this;exact this H3 n3 (by omega) s3
   ·have hc:¬(i:Int)<(l.length:Int):=of_decide_eq_false hc
    have:i=l.length:=by omega
    subst this;rw [List.drop_length,qf2]at hf;exact⟨rfl,(),qq.okay,rfl,g2,s2,hf⟩
  ·rintro id _ H2 n2 ⟨rfl,g2,s2,hf⟩
   refine Eq.mpr (ql7 (r:=r) ..) ?_
   exact hf H2 n2 g2 s2
 ·have hb':¬l.length=ps.length:=λe=>by
   have:=of_decide_eq_false hb
   exact this (congrArg Int.ofNat e)
  have:=ho.needF (decide_eq_false hb')
  rw [zh]at this;exact this H1 n1 (by omega) s1.drop
theorem qre(call:zm)(lp:jl)(lv:zJ)(lvc:zI)(K:qr)(r q:Nat)(o lw:qa)(w n i:Int)(H:qc)(nx:Nat)(rc:Option qw):
  qA PG call lp 42 (qd PG v7) [1,0,1,0] (qy PG lv lvc K (qP PG v7)) .ret (qe .und [(0,.ptr r 0),(2,lw),(4,.ptr q 0),(6,iv w),(12,o),(13,iv n),(14,iv i)]) H nx [] rc=K (.ret (iv w)) H nx:=by kernel_rfl
theorem qqc(call:zm)(lp:jl)(lv:zJ)(lvc:zI)(K:qr)(r q:Nat)(o lw:qa)(w n i:Int)(l:List (qa×Bool))(H:qc)(nx:Nat)(rc:Option qw):
  qA PG call lp 42 (qd PG v7) [1,0,1,0] (qy PG lv lvc K (qP PG v7)) (.pan l) (qe .und [(0,.ptr r 0),(2,lw),(4,.ptr q 0),(6,iv w),(12,o),(13,iv n),(14,iv i)]) H nx [] rc=K (.pan l) H nx:=by kernel_rfl
theorem qe9{s:CSg}{pw:qa}(h:kY Γ pw s.params):qt (sgC (s,pw))=true:=by
 have e:=h.cell
 simp only [sgC,qt,e]
 rfl
theorem qs1{fs:List CSg}{i:Nat}(h:i<fs.length):sg fs i=fs[i]:=by unfold sg;simp [List.getD,h]
def qb0(T:List Ty)(fs:List CSg)(n:qu)(l:List Nat):Ex Nat:=match callee (jR n) fs with
 |some i=>Ck.ob (args T n (Zm n) l (sg fs i).params) λ_=> .ok (sg fs i).result
 |none=> .error (WG 15 n)
theorem qn7{l:List Nat}{lw:qa}(hd:DF Γ d)(hl:kY Γ lw l)(hlk:l.length=d.kids.length)(hlT:∀t∈l,t<S.T.length)(hfT:∀f∈S.fs,∀t∈f.params,t<S.T.length)
  (h:RS Z Γ A H nx) (hr:CkV Γ r S) (ho:qE (qb0 S.T S.fs d.er l) (λt=>Rt Z Γ A nx K (iv t)) (Pn Z Γ A nx K)):qo PG v7 [.ptr r 0,d.val,lw] H nx K:=by
 refine qo.of_body qp ?_
 refine Eq.mpr (qde ..) ?_
 have hr':=hr
 obtain⟨wt,wf,wd,wn,wv,pw,hc,_,hS,_⟩:=hr'
 have hN:=hS.few
 unfold qb0 callee at ho;rw [jo,yI,zh]at ho
 generalize hp:(λ(_:Nat) (f:CSg)=>decide (f.recv=0)&&decide (f.name=d.nm))=p at ho
 refine h.mkN lR λH0 s0=>⟨rfl,_,rfl,_,s0.toZ.ld1 hc 1,_,hS.len,?_⟩
 refine zD (P:=PG) (X:=Nat) (Y:=Unit) (λi=>qe .und [(0,.ptr r 0),(2,lw),(4,.ptr nx 0),(6,iv 0),(12,wf),(13,iv (S.fs.length:Int)),(14,iv (i:Int))]) (λ_=>qe .und [(0,.ptr r 0),(4,.ptr nx 0),(6,iv 0)])
  (λm i H1 nx1=>nx+1<=nx1/\RS Z Γ ((nx,d.cells)::A) H1 nx1/\m=S.fs.length - i/\i<=S.fs.length/\zk p S.fs 0=zk p (S.fs.drop i) i)
  (λid _ H1 nx1=>id=0/\nx+1<=nx1/\RS Z Γ ((nx,d.cells)::A) H1 nx1/\zk p S.fs 0=none) S.fs.length 0 (qq.okay) ⟨Nat.le_refl _,s0,rfl,Nat.zero_le _,rfl⟩ ?_ ?_
 ·rintro m i H1 nx1 ⟨g1,s1,rfl,hi,hf⟩
  refine WpP.partK (ts:=[0,2,4,6,12,13,14]) qp ?_
  refine Eq.mpr (qrt ..) ?_
  refine qf.2 ⟨λhc'=> ?_,λhc'=> ?_⟩
  ·have hc':(i:Int)<(S.fs.length:Int):=of_decide_eq_true hc'
   have hil:i<S.fs.length:=by omega
   obtain⟨b,off,pw',hpw,i1,i2,_⟩:=hS.rd s1.toZ hil
   have e1:i64.wrap ((i:Int)+1)=((i+1:Nat):Int):=by rw [qB (by omega) (by omega)];omega
   rw [yj hil]at hf;rw [e1];refine⟨by omega,_,i1,_,_,_,_,i2,s1.mk1 lR λH2 s2=>s2.all (vs:=sgC (S.fs[i],pw')) .hd rfl (qe9 hpw) λH3 s3=>⟨_,rfl,_,s3.ld1 .hd 1,?_⟩⟩
   have hno (e:p i S.fs[i]=false):∃m' x',m'<S.fs.length - i/\qq (qe .und [(0,.ptr r 0),(2,lw),(4,.ptr nx 0),(6,iv 0),(12,wf),(13,iv (S.fs.length:Int)),(14,iv ((x':Nat):Int))]) (qe .und [(0,.ptr r 0),(2,lw),(4,.ptr nx 0),(6,iv 0),(12,wf),(13,iv (S.fs.length:Int)),(14,iv ((i+1:Nat):Int))])/\nx+1<=nx1+1/\RS Z Γ ((nx,d.cells)::A) H3 (nx1+1)/\m'=S.fs.length - x'/\x'<=S.fs.length/\zk p S.fs 0=zk p (S.fs.drop x') x':=by
    rw [if_neg (by rw [e];simp)]at hf
    exact⟨S.fs.length - (i+1),i+1,by omega,qq.refl _,by omega,s3.drop,rfl,by omega,hf⟩
   refine qf.2 ⟨λh0=>⟨_,rfl,_,s3.ld1 .hd 0,_,rfl,_,s3.ld1 (.tl .hd) 1,qf.2 ⟨λhn=> ?_,λhn=>⟨rfl,hno ?_⟩⟩⟩,λh0=>⟨rfl,hno ?_⟩⟩
   ·have e:p i S.fs[i]=true:=by
     rw [<-hp];have a1:S.fs[i].recv=0:=by
      have:(S.fs[i].recv:Int)=0:=by simpa using h0
      omega
     have a2:S.fs[i].name=d.nm:=by simpa using hn
     simp only [decide_eq_true a1,decide_eq_true a2,Bool.and_self]
    rw [if_pos e]at hf;rw [hf]at ho;have ho:qE (Ck.ob (args S.T d.er (ers d.kids) l (sg S.fs i).params) λ_=> .ok (sg S.fs i).result) (λt=>Rt Z Γ A nx K (iv t)) (Pn Z Γ A nx K):=ho
    rw [qs1 hil]at ho;have hm:∀H' nx',nx<=nx'->RS Z Γ A H' nx'->True:=λ_ _ _ _=>trivial
    refine⟨_,_,_,_,_,_,s3.ldA (.tl .hd) rfl,_,rfl,_,s3.ld1 (.tl .hd) 5,_,rfl,_,s3.ld1 .hd 2,W6 hd.row hl hpw hlk hlT (hfT _ (List.getElem_mem hil)) s3 hr (ho.ob.mono (λ_ _ hx=> ?_) λf _ hx=> ?_)⟩
    ·intro H4 n4 g4 s4;refine qb.2 ⟨_,rfl,_,s4.ld1 .hd 3,?_⟩
     show qA PG _ _ 42 _ _ _ _ _ _ _ _ _
     refine Eq.mpr (qre ..) ?_
     exact hx H4 n4 (by omega) s4.drop.drop
    ·intro H4 n4 g4 s4;refine ql.2 ?_
     show qA PG _ _ 42 _ _ _ _ _ _ _ _ _
     refine Eq.mpr (qqc ..) ?_
     exact hx H4 n4 (by omega) s4.drop.drop
   ·rw [<-hp];have a2:S.fs[i].name≠d.nm:=by simpa using hn
    simp [a2]
   ·rw [<-hp];have a1:S.fs[i].recv≠0:=λe=>by rw [e]at h0;simp at h0
    simp [a1]
  ·have hc':¬(i:Int)<(S.fs.length:Int):=of_decide_eq_false hc'
   have:i=S.fs.length:=by omega
   subst this;rw [wa]at hf;exact⟨rfl,(),qq.okay,rfl,g1,s1,hf⟩
 ·rintro id _ H1 nx1 ⟨rfl,g1,s1,hf⟩
  refine Eq.mpr (qnw ..) ?_
  rw [hf]at ho;exact⟨_,_,_,_,_,_,s1.ldA .hd rfl,K2 s1 λH2 n2 g2 s2=>ql.2 (ho H2 n2 (by omega) s2.drop)⟩
end
section
variable{Γ:GH}{A:qD}{H:qc}{nx:Nat}{K:qr}{d:DT}{r:Nat}{S:Sv}
theorem qh9{k:Nat}(h:RS Z Γ A H nx)(hK:Rt Z Γ A nx K (.bool (JG k))):qo PG wO [iv k] H nx K:=by
 refine qo.of_body qp ?_
 refine Eq.mpr (Wz ..) ?_
 have hK:=hK H nx lR h
 unfold JG at hK;refine qf.2 ⟨λh5=> ?_,λh5=>qf.2 ⟨λh6=> ?_,λh6=> ?_⟩⟩
 ·have e:k=5:=by simp at h5;omega
  rw [decide_eq_true e]at hK;exact hK
 ·have e:k=6:=by simp at h6;omega
  rw [decide_eq_true e,Bool.or_true]at hK;exact hK
 ·have e5:¬k=5:=by simp at h5;omega
  have e6:¬k=6:=by simp at h6;omega
  rw [decide_eq_false e5,decide_eq_false e6]at hK;have:decide ((k:Int)=7)=decide (k=7):=by rw [Bool.eq_iff_iff];simp;omega
  rw [this];exact hK
theorem qh4{ka kb:Nat}(s:RS Z Γ A H nx)(hK:Rt Z Γ A nx K (.bool (decide (ka≠kb)&&(JG ka||JG kb)))):
  ifB (!decide ((ka:Int)=kb)) (∃x l,some (wO,[iv ka])=some (x,l)/\qo PG x l H nx λe H i=>qj e (λv=>∃b,v= .bool b/\ifB b (K (.ret (.bool true)) H i)
   (∃x l,some (wO,[iv kb])=some (x,l)/\qo PG x l H i λe H i=>qj e (λv=>∃b,v= .bool b/\K (.ret (.bool b)) H i) λl=>K (.pan l) H i)) λl=>K (.pan l) H i) (K (.ret (.bool false)) H nx):=by
 refine qf.2 ⟨λhd=> ?_,λhd=> ?_⟩
 ·have e:ka≠kb:=λx=>by subst x;simp at hd
  rw [decide_eq_true e,Bool.true_and]at hK;refine⟨_,_,rfl,qh9 s λH1 n1 g1 s1=>qb.2 ⟨_,rfl,?_⟩⟩
  cases he:JG ka with
  |true=>rw [he,Bool.true_or]at hK;exact hK H1 n1 g1 s1
  |false=>
   rw [he,Bool.false_or]at hK;exact⟨_,_,rfl,qh9 s1 λH2 n2 g2 s2=>qb.2 ⟨_,rfl,hK H2 n2 (by omega) s2⟩⟩
 ·have e:¬ka≠kb:=λx=>by
   have:¬(ka:Int)=kb:=by omega
   rw [decide_eq_false this]at hd;simp at hd
  rw [decide_eq_false e,Bool.false_and]at hK;exact hK H nx lR s
theorem qk5{a b:Nat}(ha:a<S.T.length)(hb:b<S.T.length)(h:RS Z Γ A H nx)(hr:CkV Γ r S)(hK:Rt Z Γ A nx K (.bool (Ck.equal S.T a b))):qo PG jA [.ptr r 0,iv a,iv b] H nx K:=by
 refine qo.of_body qp ?_
 refine Eq.mpr (qam ..) ?_
 obtain⟨wt,wf,wd,wn,wv,pw,hc,hT,_⟩:=hr
 obtain⟨b1,o1,_,_,_,_,i1,_,i2⟩:=hT.rd h.toZ ha
 obtain⟨b2,o2,_,_,_,_,j1,_,j2⟩:=hT.rd h.toZ hb
 have c0:=h.toZ.ld1 hc 0
 have i3:=i2 0 (by omega)
 have j3:=j2 0 (by omega)
 unfold Ck.equal at hK;have hm:=h.more (nx':=nx+18) (by omega)
 refine⟨rfl,_,rfl,_,c0,by omega,_,i1,_,rfl,_,i3,rfl,_,rfl,_,c0,by omega,_,j1,_,rfl,_,j3,⟨⟨_,c0,rfl⟩,⟨_,i3,rfl⟩,⟨_,c0,rfl⟩,⟨_,j3,rfl⟩,trivial⟩,?_⟩
 have hK':Rt Z Γ A (nx+18) K _:=λH' n' g' s'=>hK H' n' (by omega) s'
 refine qf.2 ⟨λh4=> ?_,λh4=>qf.2 ⟨λh4'=> ?_,λh4'=>qf.2 ⟨λhab=> ?_,λhab=> ?_⟩⟩⟩
 ·have e:kindT S.T a=4\/kindT S.T b=4:= .inl (Int.ofNat.inj (of_decide_eq_true h4))
  rw [if_pos e]at hK';exact qh4 hm hK'
 ·have e:kindT S.T a=4\/kindT S.T b=4:= .inr (Int.ofNat.inj (of_decide_eq_true h4'))
  rw [if_pos e]at hK';exact qh4 hm hK'
 ·have e1:¬kindT S.T a=4:=λe=>of_decide_eq_false h4 (congrArg Int.ofNat e)
  have e2:¬kindT S.T b=4:=λe=>of_decide_eq_false h4' (congrArg Int.ofNat e)
  have e:a=b:=Int.ofNat.inj (of_decide_eq_true hab)
  rw [if_neg (not_or.2 ⟨e1,e2⟩),if_pos e]at hK';have hK2:=hK' H _ lR hm
  refine qf.2 ⟨λh0=> ?_,λh0=> ?_⟩
  ·have e0:kindT S.T a≠0:=λe=>by
    have e:(ty S.T a).kind=0:=e
    rw [e]at h0;simp at h0
   rw [decide_eq_true e0,Bool.true_and]at hK2;have:(!decide (((ty S.T a).kind:Int)=6))=decide (kindT S.T a≠6):=by
    show(!decide (((ty S.T a).kind:Int)=6))=decide ((ty S.T a).kind≠6)
    rw [Bool.eq_iff_iff];simp;omega
   rw [this];exact hK2
  ·have e0:¬kindT S.T a≠0:=λe=>by
    have:¬((ty S.T a).kind:Int)=0:=λx=>e (show(ty S.T a).kind=0 by omega)
    rw [decide_eq_false this]at h0;simp at h0
   rw [decide_eq_false e0,Bool.false_and]at hK2;exact hK2
 ·have e1:¬kindT S.T a=4:=λe=>of_decide_eq_false h4 (congrArg Int.ofNat e)
  have e2:¬kindT S.T b=4:=λe=>of_decide_eq_false h4' (congrArg Int.ofNat e)
  have e:¬a=b:=λe=>of_decide_eq_false hab (by rw [e])
  rw [if_neg (not_or.2 ⟨e1,e2⟩),if_neg e]at hK';refine⟨rfl,_,rfl,_,c0,VV hm hT λH1 n1 g1 s1=>qb.2 ⟨_,rfl,?_⟩⟩
  cases he:has S.T a b with
  |true=>rw [he,Bool.true_or]at hK';exact hK' H1 n1 (by omega) s1
  |false=>
   rw [he,Bool.false_or]at hK';exact⟨rfl,_,rfl,_,s1.toZ.ld1 hc 0,VV s1 hT λH2 n2 g2 s2=>qb.2 ⟨_,rfl,hK' H2 n2 (by omega) s2⟩⟩
theorem JR{q a b v:Nat}{X:Bool}(s0:RS Z Γ ((q,d.cells)::A) H nx)(ho:qE (Ck.binary S.T d.er a b) (λt=>Rt Z Γ A nx K (iv t)) (Pn Z Γ A nx K))(he:Ck.binary S.T d.er a b=Ck.need X d.er 17 (.ok v)):
  ∃n1 s2 n3 n4 n5 v6,ldN H 6 (.ptr q 0)=some (.agg [iv n1,.str s2,iv n3,iv n4,iv n5,v6])/\qo PG qh [.ptr r 0,.bool X,.agg [iv n1,.str s2,iv n3,iv n4,iv n5,v6],iv 17] H nx λe H i=>qj e (λ_=>K (.ret (iv (v:Int))) H i) λl=>K (.pan l) H i:=by
 rw [he]at ho;refine⟨_,_,_,_,_,_,s0.ldA .hd rfl,zB s0 (λhb H1 n1 g1 s1=>qb.2 (ho.needT hb H1 n1 g1 s1.drop)) λhb H1 n1 g1 s1=>ql.2 ?_⟩
 have:=ho.needF hb
 rw [zh]at this;exact this H1 n1 g1 s1.drop
theorem qth{q a b:Nat}(ha:a<S.T.length)(hb:b<S.T.length)(hr:CkV Γ r S)(s0:RS Z Γ ((q,d.cells)::A) H nx)(ho:qE (Ck.binary S.T d.er a b) (λt=>Rt Z Γ A nx K (iv t)) (Pn Z Γ A nx K))(he:Ck.binary S.T d.er a b=Ck.need (Ck.equal S.T a b) d.er 17 (.ok 2)):
  qo PG jA [.ptr r 0,iv a,iv b] H nx λe H i=>qj e (λv=>∃X,v= .bool X/\∃n1 s2 n3 n4 n5 v6,ldN H 6 (.ptr q 0)=some (.agg [iv n1,.str s2,iv n3,iv n4,iv n5,v6])/\
   qo PG qh [.ptr r 0,.bool X,.agg [iv n1,.str s2,iv n3,iv n4,iv n5,v6],iv 17] H i λe H i=>qj e (λ_=>K (.ret (iv 2)) H i) λl=>K (.pan l) H i) λl=>K (.pan l) H i:=
 qk5 ha hb s0 hr λH1 n1 g1 s1=>qb.2 ⟨_,rfl,JR (v:=2) s1 (ho.mono (λ_ _ hx H' n' g' s'=>hx H' n' (by omega) s') λ_ _ hx H' n' g' s'=>hx H' n' (by omega) s') he⟩
theorem QR(a k:Nat):decide ((a:Int)=(k:Int))=decide (a=k):=by rw [Bool.eq_iff_iff];simp;omega
theorem qft{a b:Nat}(ha:a<S.T.length)(hb:b<S.T.length)(h:RS Z Γ A H nx)(hr:CkV Γ r S)(ho:qE (Ck.binary S.T d.er a b) (λt=>Rt Z Γ A nx K (iv t)) (Pn Z Γ A nx K)):qo PG Q4 [.ptr r 0,d.val,iv a,iv b] H nx K:=by
 refine qo.of_body qp ?_
 refine Eq.mpr (XH ..) ?_
 have ho:∀n,nx<=n->qE (Ck.binary S.T d.er a b) (λt=>Rt Z Γ A n K (iv t)) (Pn Z Γ A n K):=λn g=>ho.mono (λ_ _ hx H' n' g' s'=>hx H' n' (by omega) s') λ_ _ hx H' n' g' s'=>hx H' n' (by omega) s'
 have ho:=ho (nx+1) (by omega)
 refine h.mkN lR λH0 s0=> ?_
 have cn:=s0.ld1 .hd 1
 have a1:decide ((a:Int)=1)=decide (a=1):=QR a 1
 have a2:decide ((a:Int)=2)=decide (a=2):=QR a 2
 have a3:decide ((a:Int)=3)=decide (a=3):=QR a 3
 have b1:decide ((b:Int)=1)=decide (b=1):=QR b 1
 have b2:decide ((b:Int)=2)=decide (b=2):=QR b 2
 have b3:decide ((b:Int)=3)=decide (b=3):=QR b 3
 simp only [qiw,a1,a2,a3,b1,b2,b3]
 clear a1 a2 a3 b1 b2 b3
 repeat' first|refine qf.2 ⟨λ_=> ?_,λ_=> ?_⟩|refine⟨_,rfl,_,cn,?_⟩|fail
 all_goals
  simp only [decide_eq_true_eq,decide_eq_false_iff_not]at*
 all_goals
  first
   |refine qth ha hb hr s0 ho ?_
   |refine JR (v:=2) s0 ho ?_
   |refine JR (v:=1) s0 ho ?_
   |refine JR (v:=a) s0 ho ?_
   |fail
 all_goals
  clear ho h hr s0 cn;unfold Ck.binary;rw [jo]
  first
   |(exfalso;omega)
   |(simp [*,sLt];done)
end
section
variable{α:Type}{c:α->List qa}{sz:Nat}{Γ:GH}{o w:qa}{i:Nat}
abbrev RdA(Z:Nat->Prop)(Γ:GH)(sz b off:Nat)(cs:List qa):Prop:=∀H nx,HZ Z Γ H nx->ldN H sz (.ptr b off)=some (.agg cs)/\∀j,j<sz->ld1 H (.ptr b (off+j))=cs[j]?
theorem q9.rdA{l:List α}(hc:∀x,(c x).length=sz)(h:q9 c sz Γ o l)(hi:i<l.length):∃b off,qY o i sz=some (.ptr b off)/\RdA Z Γ sz b off (c l[i]):=by
 obtain⟨b,off,cs,h1,h2,h3,h4⟩:=h.at hc hi
 refine⟨b,off,h1,λH nx hk=>⟨by rw [hk.ldN h2 h3,h4],λj hj=> ?_⟩⟩
 rw [hk.ld1 h2,<-h4,List.getElem?_take_of_lt hj,List.getElem?_drop]
theorem wz.rdA{l:List yM}(h:wz Γ w l)(hi:i<l.length):∃b off pw,kY Γ pw l[i].params/\qY w i 4=some (.ptr b off)/\RdA Z Γ 4 b off (wg (l[i],pw)):=by
 obtain⟨L,rfl,h,hp⟩:=h
 have hi':i<L.length:=by simpa using hi
 obtain⟨b,off,h1,h2⟩:=q9.rdA (Z:=Z) (sz:=4) (λ_=>rfl) h hi'
 simp only [List.getElem_map]
 exact⟨b,off,L[i].2,hp _ (List.getElem_mem hi'),h1,h2⟩
theorem ZE.rdA{l:List Ty}(h:ZE Γ w l)(hi:i<l.length):∃b off wf wm,YI Γ wf (ty l i).fields/\wz Γ wm (ty l i).methods/\qY w i 5=some (.ptr b off)/\RdA Z Γ 5 b off (tyC (ty l i,wf,wm)):=by
 obtain⟨L,rfl,h,hp⟩:=h
 have hi':i<L.length:=by simpa using hi
 obtain⟨b,off,h1,h2⟩:=q9.rdA (Z:=Z) (sz:=5) (λ_=>rfl) h hi'
 have e:ty (L.map (·.1)) i=L[i].1:=by unfold ty;simp [List.getD,hi']
 obtain⟨p1,p2⟩:=hp _ (List.getElem_mem hi')
 rw [e];exact⟨b,off,L[i].2.1,L[i].2.2,p1,p2,h1,h2⟩
end
theorem qoa{T:List Ty}{t i:Nat}{s:Bs}(h:field T t s=some i):∃hi:i<(ty T t).fields.length,(ty T t).fields.getD i ([],0)=(ty T t).fields[i]:=by
 unfold field at h;split at h
 ·obtain⟨hi,_⟩:=Kb h
  exact⟨hi,by simp [List.getD,hi]⟩
 ·cases h
section
variable{Γ:GH}{A:qD}{H:qc}{nx:Nat}{K:qr}{d:DT}{r:Nat}{S:Sv}
theorem qE.up{x:Ex Nat}{n:Nat}(ho:qE x (λt=>Rt Z Γ A nx K (iv t)) (Pn Z Γ A nx K))(h:nx<=n):qE x (λt=>Rt Z Γ A n K (iv t)) (Pn Z Γ A n K):=
 ho.mono (λ_ _ hx H' n' g' s'=>hx H' n' (by omega) s') λ_ _ hx H' n' g' s'=>hx H' n' (by omega) s'
theorem qcb{q n v:Nat}{X:Bool}{e:Int}{Q:Prop}(hQ:Q)(g:nx<=n)(s0:RS Z Γ ((q,d.cells)::A) H n)(ho:qE (Ck.need X d.er e (.ok v:Ex Nat)) (λt=>Rt Z Γ A nx K (iv t)) (Pn Z Γ A nx K)):
  qo PG qh [.ptr r 0,.bool X,d.val,iv e] H n λe H i=>qj e (λ_=>Q/\K (.ret (iv (v:Int))) H i) λl=>K (.pan l) H i:=
 zB s0 (λhb H1 n1 g1 s1=>qb.2 ⟨hQ,ho.needT hb H1 n1 (by omega) s1.drop⟩) λhb H1 n1 g1 s1=>ql.2 (by
  have:=ho.needF hb
  rw [zh]at this;exact this H1 n1 (by omega) s1.drop)
theorem YB{q n v:Nat}{X:Bool}{e:Int}(g:nx<=n)(s0:RS Z Γ ((q,d.cells)::A) H n)(ho:qE (Ck.need X d.er e (.ok v:Ex Nat)) (λt=>Rt Z Γ A nx K (iv t)) (Pn Z Γ A nx K)):
  qo PG qh [.ptr r 0,.bool X,d.val,iv e] H n λe H i=>qj e (λ_=>K (.ret (iv (v:Int))) H i) λl=>K (.pan l) H i:=
 zB s0 (λhb H1 n1 g1 s1=>qb.2 (ho.needT hb H1 n1 (by omega) s1.drop)) λhb H1 n1 g1 s1=>ql.2 (by
  have:=ho.needF hb
  rw [zh]at this;exact this H1 n1 (by omega) s1.drop)
theorem qlt{l:List Nat}{lw:qa}(hd:DF Γ d)(hl:kY Γ lw l)(hlk:l.length=d.kids.length)(hlT:∀t∈l,t<S.T.length)(hfT:∀f∈S.fs,∀t∈f.params,t<S.T.length)
  (hmT:∀t∈S.T,∀m∈t.methods,∀p∈m.params,p<S.T.length) (h:RS Z Γ A H nx) (hr:CkV Γ r S) (ho:qE (Ck.made S.T S.fs d.er l) (λt=>Rt Z Γ A nx K (iv t)) (Pn Z Γ A nx K)):qo PG KZ [.ptr r 0,d.val,lw] H nx K:=by
 refine qo.of_body qp ?_
 refine Eq.mpr (qdn ..) ?_
 have hr':=hr
 obtain⟨wt,wf,wd,wn,wv,pw,hc,hT,_⟩:=hr'
 have hN:=hl.few
 unfold Ck.made at ho;simp only [kL,jo,yI,zh]at ho
 refine h.mkN lR λH0 s0=>⟨_,rfl,_,s0.ld1 .hd 0,qf.2 ⟨λh29=> ?_,λh29=> ?_⟩⟩
 ·rw [if_pos (of_decide_eq_true h29)]at ho;have ho:qE (qb0 S.T S.fs d.er l) (λt=>Rt Z Γ A nx K (iv t)) (Pn Z Γ A nx K):=by
   unfold qb0;rw [jo,yI,zh];exact ho
  refine⟨_,_,_,_,_,_,s0.ldA .hd rfl,qn7 hd hl hlk hlT hfT s0 hr (ho.mono (λt _ hx H' n' g' s'=>qb.2 ⟨_,rfl,hx H' n' (by omega) s'.drop⟩) λf _ hx H' n' g' s'=>ql.2 (hx H' n' (by omega) s'.drop))⟩
 rw [if_neg (of_decide_eq_false h29)]at ho;refine⟨_,hl.len,qf.2 ⟨λh0=> ?_,λh0=> ?_⟩⟩
 ·have e:l=[]:=List.eq_nil_of_length_eq_zero (Int.ofNat.inj (of_decide_eq_true h0))
  rw [if_pos e]at ho;exact ho H0 _ (by omega) s0.drop
 have hne:l≠[]:=λe=>of_decide_eq_false h0 (by rw [e];rfl)
 have hl0:0<l.length:=by cases l with
  |nil=>exact absurd rfl hne
  |cons x l=>simp
 rw [if_neg hne]at ho;obtain⟨b0,o0,i0,r0⟩:=q9.rdA (Z:=Z) (sz:=1) (λ_=>rfl) hl hl0
 obtain⟨bz,oz,iz,rz⟩:=q9.rdA (Z:=Z) (sz:=1) (λ_=>rfl) hl (show l.length - 1<l.length by omega)
 have ea:l.headD 0=l[0]:=by cases l with
  |nil=>exact absurd rfl hne
  |cons x l=>rfl
 have ez:l.getLastD 0=l[l.length - 1]:=by rw [List.getLastD_eq_getLast?,List.getLast?_eq_getElem?,List.getElem?_eq_getElem (by omega)];rfl
 rw [ea,ez]at ho;have haT:l[0]<S.T.length:=hlT _ (List.getElem_mem hl0)
 have hzT:l[l.length - 1]<S.T.length:=hlT _ (List.getElem_mem (by omega))
 generalize l[0]=a at*
 generalize l[l.length - 1]=z at*
 obtain⟨bt,ot,wf',wm',f1,f2,it,rt⟩:=hT.rdA (Z:=Z) haT
 have c0 {B:qD} {H:qc} {n:Nat} (s:RS Z Γ B H n):ld1 H (.ptr r 0)=some wt:=s.toZ.ld1 hc 0
 have q0 {B:qD} {H:qc} {n:Nat} (s:RS Z Γ B H n):ld1 H (.ptr b0 (o0+0))=some (iv a):=(r0 H n s.toZ).2 0 (by omega)
 have qz {B:qD} {H:qc} {n:Nat} (s:RS Z Γ B H n):ld1 H (.ptr bz (oz+0))=some (iv z):=(rz H n s.toZ).2 0 (by omega)
 have t0 {B:qD} {H:qc} {n:Nat} (s:RS Z Γ B H n):ld1 H (.ptr bt (ot+0))=some (iv (ty S.T a).kind):=(rt H n s.toZ).2 0 (by omega)
 have t2 {B:qD} {H:qc} {n:Nat} (s:RS Z Γ B H n):ld1 H (.ptr bt (ot+2))=some (iv (ty S.T a).elem):=(rt H n s.toZ).2 2 (by omega)
 have t3 {B:qD} {H:qc} {n:Nat} (s:RS Z Γ B H n):ld1 H (.ptr bt (ot+3))=some wf':=(rt H n s.toZ).2 3 (by omega)
 have t4 {B:qD} {H:qc} {n:Nat} (s:RS Z Γ B H n):ld1 H (.ptr bt (ot+4))=some wm':=(rt H n s.toZ).2 4 (by omega)
 have d6 {B:qD} {H:qc} {n:Nat} (s:RS Z Γ ((nx,d.cells)::B) H n):ldN H 6 (.ptr nx 0)=some (.agg [iv d.kd,.str d.nm,iv d.nn,iv d.li,iv d.co,d.kw]):=s.ldA .hd rfl
 have e1:i64.wrap (Int.ofNat l.length - 1)=((l.length - 1:Nat):Int):=by
  show i64.wrap ((l.length:Int) - 1)=_
  rw [qB (by omega) (by omega)];omega
 refine⟨rfl,_,rfl,_,c0 s0,by omega,_,i0,_,q0 s0,by omega,_,it,_,rfl,_,t0 s0,⟨⟨_,c0 s0,rfl⟩,⟨_,q0 s0,rfl⟩,⟨_,t0 s0,rfl⟩,trivial⟩,_,rfl,_,s0.ld1 .hd 0,qf.2 ⟨λh27=> ?_,λh27=> ?_⟩⟩
 ·rw [if_pos (of_decide_eq_true h27)]at ho;refine⟨_,rfl,_,s0.ld1 .hd 1,qf.2 ⟨λhn=>⟨by omega,_,i0,_,q0 s0,_,_,_,_,_,_,d6 s0,⟨⟨_,q0 s0,rfl⟩,⟨_,_,_,_,_,_,d6 s0,rfl⟩,trivial⟩,?_⟩,λhn=>⟨by omega,_,i0,_,q0 s0,_,_,_,_,_,_,d6 s0,⟨⟨_,q0 s0,rfl⟩,⟨_,_,_,_,_,_,d6 s0,rfl⟩,trivial⟩,?_⟩⟩⟩
  ·rw [if_pos (by simpa using hn)]at ho
   rw [show decide ((a:Int)=2)=decide (a=2)from QR a 2];exact qcb (v:=2) trivial (by omega) (s0.more (by omega)) ho
  ·rw [if_neg (by simpa using hn)]at ho
   rw [show decide ((a:Int)=1)=decide (a=1)from QR a 1];exact qcb (v:=1) trivial (by omega) (s0.more (by omega)) ho
 rw [if_neg (of_decide_eq_false h27)]at ho;refine qf.2 ⟨λh28=> ?_,λh28=> ?_⟩
 ·rw [if_pos (of_decide_eq_true h28)]at ho;refine⟨_,_,_,_,_,_,d6 s0,by omega,_,i0,_,q0 s0,_,hl.len,?_⟩
  rw [e1];exact⟨by omega,_,iz,_,qz s0,⟨⟨_,_,_,_,_,_,d6 s0,rfl⟩,⟨_,q0 s0,rfl⟩,⟨_,qz s0,rfl⟩,trivial⟩,qft haT hzT (s0.more (by omega)) hr (ho.mono (λt _ hx H' n' g' s'=>qb.2 ⟨_,rfl,trivial,hx H' n' (by omega) s'.drop⟩) λf _ hx H' n' g' s'=>ql.2 (hx H' n' (by omega) s'.drop))⟩
 rw [if_neg (of_decide_eq_false h28)]at ho;refine qf.2 ⟨λh30=> ?_,λh30=> ?_⟩
 ·rw [if_pos (of_decide_eq_true h30)]at ho;refine⟨_,_,_,_,_,_,d6 s0,zB (s0.more (by omega)) (λhb H1 n1 g1 s1=>qb.2 ?_) λhb H1 n1 g1 s1=>ql.2 ?_⟩
  ·have ho:=ho.needT (decide_eq_true (show kindT S.T a=5 from Int.ofNat.inj (of_decide_eq_true hb)))
   refine⟨rfl,_,rfl,_,c0 s1,by omega,_,i0,_,q0 s1,_,rfl,_,s1.ld1 .hd 1,⟨⟨_,c0 s1,rfl⟩,⟨_,q0 s1,rfl⟩,⟨_,s1.ld1 .hd 1,rfl⟩,trivial⟩,YD (s1.more (by omega)) hT λH2 n2 g2 s2=> ?_⟩
   cases hf:field S.T a d.nm with
   |none=>
    rw [hf]at ho;exact qb.2 ⟨_,_,rfl,trivial,_,_,_,_,_,_,d6 s2,zB s2 (λhb=>nomatch hb) λ_ H3 n3 g3 s3=>ql.2 (ho H3 n3 (by omega) s3.drop)⟩
   |some i=>
    rw [hf]at ho;obtain⟨hi,ei⟩:=qoa hf
    have ho:Rt Z Γ A nx K (iv ((((ty S.T a).fields.getD i ([],0)).2:Nat):Int)):=ho
    rw [ei]at ho;obtain⟨bf,of',ff,rf⟩:=q9.rdA (Z:=Z) (sz:=2) (λ_=>rfl) f1 hi
    have u1 {B:qD} {H:qc} {n:Nat} (s:RS Z Γ B H n):ld1 H (.ptr bf (of'+1))=some (iv (ty S.T a).fields[i].2):=(rf H n s.toZ).2 1 (by omega)
    exact qb.2 ⟨_,_,rfl,trivial,_,_,_,_,_,_,d6 s2,zB s2 (λ_ H3 n3 g3 s3=>qb.2 ⟨rfl,_,rfl,_,c0 s3,by omega,_,i0,_,q0 s3,by omega,_,it,_,rfl,_,t3 s3,by omega,_,ff,_,rfl,_,u1 s3,⟨⟨_,c0 s3,rfl⟩,⟨_,q0 s3,rfl⟩,⟨_,t3 s3,rfl⟩,⟨_,u1 s3,rfl⟩,trivial⟩,ho H3 _ (by omega) (s3.more (by omega)).drop⟩) λhb=>nomatch hb⟩
  ·have:=ho.needF (decide_eq_false (λe:kindT S.T a=5=>of_decide_eq_false hb (congrArg Int.ofNat e)))
   rw [zh]at this;exact this H1 n1 (by omega) s1.drop
 rw [if_neg (of_decide_eq_false h30)]at ho;refine qf.2 ⟨λh31=> ?_,λh31=> ?_⟩
 ·rw [if_pos (of_decide_eq_true h31)]at ho;refine qf.2 ⟨λh5=>⟨_,_,_,_,_,_,d6 s0,zB (s0.more (by omega)) ?_ ?_⟩,λh5=>⟨_,_,_,_,_,_,d6 s0,zB (s0.more (by omega)) ?_ ?_⟩⟩
  ·intro hb H1 n1 g1 s1;refine qb.2 ?_
   have hk57:kindT S.T a=5\/kindT S.T a=7:=(.inl (Int.ofNat.inj (of_decide_eq_true h5)))
   have ho:=ho.needT (by rcases hk57 with e|e<;>simp [e])
   refine⟨rfl,_,rfl,_,c0 s1,by omega,_,i0,_,q0 s1,_,rfl,_,s1.ld1 .hd 1,⟨⟨_,c0 s1,rfl⟩,⟨_,q0 s1,rfl⟩,⟨_,s1.ld1 .hd 1,rfl⟩,trivial⟩,Qv (s1.more (by omega)) hT λH2 n2 g2 s2=> ?_⟩
   cases hm:Jn S.T a d.nm with
   |none=>
    rw [hm]at ho;exact qb.2 ⟨_,_,rfl,trivial,_,_,_,_,_,_,d6 s2,zB s2 (λhb=>nomatch hb) λ_ H3 n3 g3 s3=>ql.2 (ho H3 n3 (by omega) s3.drop)⟩
   |some i=>
    rw [hm]at ho;obtain⟨_,hi,e2,_⟩:=qah hm
    obtain⟨bm,om,pw',hpw,im,rm⟩:=f2.rdA (Z:=Z) hi
    have ho:qE (Ck.ob (args S.T d.er ((ers d.kids).drop 1) (l.drop 1) (vY S.T a i).params) λ_=> .ok (vY S.T a i).result) (λt=>Rt Z Γ A nx K (iv t)) (Pn Z Γ A nx K):=ho
    rw [e2,JH]at ho;have hmem:(ty S.T a).methods[i]∈(ty S.T a).methods:=List.getElem_mem hi
    have hty:ty S.T a∈S.T:=by unfold ty;rw [show S.T.getD a tyZ=S.T[a] by simp [List.getD,haT]];exact List.getElem_mem haT
    have hpT:=hmT _ hty _ hmem
    generalize (ty S.T a).methods[i]=m at*
    have m4 {B:qD} {H:qc} {n:Nat} (s:RS Z Γ B H n):ldN H 4 (.ptr bm om)=some (.agg (wg (m,pw'))):=(rm H n s.toZ).1
    obtain⟨lw',sl,hlw⟩:=q9.drop (sz:=1) (i:=1) (λ_=>rfl) hl hl0
    have hk1:1<=d.kids.length:=by omega
    obtain⟨kw',sk,hkw⟩:=q9.drop (i:=1) zV hd.row hk1
    have sk':ZL d.kw 6 (min 1 d.kids.length) none=some kw':=by rw [Nat.min_eq_left hk1];exact sk
    refine qb.2 ⟨_,_,rfl,trivial,_,_,_,_,_,_,d6 s2,zB s2 (λ_ H3 n3 g3 s3=>qb.2 ⟨rfl,_,rfl,_,c0 s3,by omega,_,i0,_,q0 s3,by omega,_,it,_,rfl,_,t4 s3,by omega,_,im,_,_,_,_,m4 s3,s3.mk1 (by omega) λH4 s4=>⟨⟨⟨_,c0 s4,rfl⟩,⟨_,q0 s4,rfl⟩,⟨_,t4 s4,rfl⟩,⟨_,_,_,_,m4 s4,rfl⟩,trivial⟩,s4.all (vs:=wg (m,pw')) .hd rfl (Z8 hpw) λH5 s5=> ?_⟩⟩) λhb=>nomatch hb⟩
    have d7 {H:qc} {n q:Nat} {c:List qa} (s:RS Z Γ ((q,c)::(nx,d.cells)::A) H n):ldN H 6 (.ptr nx 0)=some (.agg [iv d.kd,.str d.nm,iv d.nn,iv d.li,iv d.co,d.kw]):=s.ldA (.tl .hd) rfl
    have cp:=s5.ld1 .hd 1
    refine⟨trivial,_,_,_,_,_,_,d7 s5,_,_,_,_,_,_,d7 s5,by omega,_,sl,_,rfl,_,cp,⟨⟨_,_,_,_,_,_,d7 s5,rfl⟩,⟨_,_,_,_,_,_,d7 s5,rfl⟩,⟨by omega,_,sl,rfl⟩,⟨_,cp,rfl⟩,trivial⟩,w4 (i:=1) (s5.more (by omega)) hd sk' λH6 n6 g6 s6=>qb.2 ⟨⟨⟨_,_,_,_,_,_,d7 s6,rfl⟩,⟨by omega,_,sl,rfl⟩,⟨_,s6.ld1 .hd 1,rfl⟩,trivial⟩,?_⟩⟩
    exact W6 hkw hlw hpw (by rw [List.length_drop,List.length_drop,hlk]) (λt ht=>hlT t (List.mem_of_mem_drop ht)) hpT s6 hr (ho.ob.mono (λ_ _ hx H7 n7 g7 s7=>qb.2 ⟨trivial,_,rfl,_,s7.ld1 .hd 2,hx H7 n7 (by omega) s7.drop.drop⟩) λf _ hx H7 n7 g7 s7=>ql.2 (hx H7 n7 (by omega) s7.drop.drop))
  ·exactλhb=>nomatch hb
  ·intro hb H1 n1 g1 s1;refine qb.2 ?_
   have hk57:kindT S.T a=5\/kindT S.T a=7:=(.inr (Int.ofNat.inj (of_decide_eq_true hb)))
   have ho:=ho.needT (by rcases hk57 with e|e<;>simp [e])
   refine⟨rfl,_,rfl,_,c0 s1,by omega,_,i0,_,q0 s1,_,rfl,_,s1.ld1 .hd 1,⟨⟨_,c0 s1,rfl⟩,⟨_,q0 s1,rfl⟩,⟨_,s1.ld1 .hd 1,rfl⟩,trivial⟩,Qv (s1.more (by omega)) hT λH2 n2 g2 s2=> ?_⟩
   cases hm:Jn S.T a d.nm with
   |none=>
    rw [hm]at ho;exact qb.2 ⟨_,_,rfl,trivial,_,_,_,_,_,_,d6 s2,zB s2 (λhb=>nomatch hb) λ_ H3 n3 g3 s3=>ql.2 (ho H3 n3 (by omega) s3.drop)⟩
   |some i=>
    rw [hm]at ho;obtain⟨_,hi,e2,_⟩:=qah hm
    obtain⟨bm,om,pw',hpw,im,rm⟩:=f2.rdA (Z:=Z) hi
    have ho:qE (Ck.ob (args S.T d.er ((ers d.kids).drop 1) (l.drop 1) (vY S.T a i).params) λ_=> .ok (vY S.T a i).result) (λt=>Rt Z Γ A nx K (iv t)) (Pn Z Γ A nx K):=ho
    rw [e2,JH]at ho;have hmem:(ty S.T a).methods[i]∈(ty S.T a).methods:=List.getElem_mem hi
    have hty:ty S.T a∈S.T:=by unfold ty;rw [show S.T.getD a tyZ=S.T[a] by simp [List.getD,haT]];exact List.getElem_mem haT
    have hpT:=hmT _ hty _ hmem
    generalize (ty S.T a).methods[i]=m at*
    have m4 {B:qD} {H:qc} {n:Nat} (s:RS Z Γ B H n):ldN H 4 (.ptr bm om)=some (.agg (wg (m,pw'))):=(rm H n s.toZ).1
    obtain⟨lw',sl,hlw⟩:=q9.drop (sz:=1) (i:=1) (λ_=>rfl) hl hl0
    have hk1:1<=d.kids.length:=by omega
    obtain⟨kw',sk,hkw⟩:=q9.drop (i:=1) zV hd.row hk1
    have sk':ZL d.kw 6 (min 1 d.kids.length) none=some kw':=by rw [Nat.min_eq_left hk1];exact sk
    refine qb.2 ⟨_,_,rfl,trivial,_,_,_,_,_,_,d6 s2,zB s2 (λ_ H3 n3 g3 s3=>qb.2 ⟨rfl,_,rfl,_,c0 s3,by omega,_,i0,_,q0 s3,by omega,_,it,_,rfl,_,t4 s3,by omega,_,im,_,_,_,_,m4 s3,s3.mk1 (by omega) λH4 s4=>⟨⟨⟨_,c0 s4,rfl⟩,⟨_,q0 s4,rfl⟩,⟨_,t4 s4,rfl⟩,⟨_,_,_,_,m4 s4,rfl⟩,trivial⟩,s4.all (vs:=wg (m,pw')) .hd rfl (Z8 hpw) λH5 s5=> ?_⟩⟩) λhb=>nomatch hb⟩
    have d7 {H:qc} {n q:Nat} {c:List qa} (s:RS Z Γ ((q,c)::(nx,d.cells)::A) H n):ldN H 6 (.ptr nx 0)=some (.agg [iv d.kd,.str d.nm,iv d.nn,iv d.li,iv d.co,d.kw]):=s.ldA (.tl .hd) rfl
    have cp:=s5.ld1 .hd 1
    refine⟨trivial,_,_,_,_,_,_,d7 s5,_,_,_,_,_,_,d7 s5,by omega,_,sl,_,rfl,_,cp,⟨⟨_,_,_,_,_,_,d7 s5,rfl⟩,⟨_,_,_,_,_,_,d7 s5,rfl⟩,⟨by omega,_,sl,rfl⟩,⟨_,cp,rfl⟩,trivial⟩,w4 (i:=1) (s5.more (by omega)) hd sk' λH6 n6 g6 s6=>qb.2 ⟨⟨⟨_,_,_,_,_,_,d7 s6,rfl⟩,⟨by omega,_,sl,rfl⟩,⟨_,s6.ld1 .hd 1,rfl⟩,trivial⟩,?_⟩⟩
    exact W6 hkw hlw hpw (by rw [List.length_drop,List.length_drop,hlk]) (λt ht=>hlT t (List.mem_of_mem_drop ht)) hpT s6 hr (ho.ob.mono (λ_ _ hx H7 n7 g7 s7=>qb.2 ⟨trivial,_,rfl,_,s7.ld1 .hd 2,hx H7 n7 (by omega) s7.drop.drop⟩) λf _ hx H7 n7 g7 s7=>ql.2 (hx H7 n7 (by omega) s7.drop.drop))
  ·intro hb H1 n1 g1 s1;refine ql.2 ?_
   have a5:¬kindT S.T a=5:=λe=>of_decide_eq_false h5 (congrArg Int.ofNat e)
   have a7:¬kindT S.T a=7:=λe=>of_decide_eq_false hb (congrArg Int.ofNat e)
   rw [decide_eq_false a5,decide_eq_false a7]at ho;have:=ho.needF rfl
   rw [zh]at this;exact this H1 n1 (by omega) s1.drop
 rw [if_neg (of_decide_eq_false h31)]at ho;have k6 (e:¬(((ty S.T a).kind:Int)=6)):¬kindT S.T a=6:=λx=>e (congrArg Int.ofNat x)
 have k3 (e:¬(((ty S.T a).kind:Int)=3)):¬kindT S.T a=3:=λx=>e (congrArg Int.ofNat x)
 refine qf.2 ⟨λh32=> ?_,λh32=> ?_⟩
 ·rw [if_pos (of_decide_eq_true h32)]at ho;have tail (H1:qc) (n1:Nat) (g1:nx<=n1) (s1:RS Z Γ ((nx,d.cells)::A) H1 n1) (hx:Rt Z Γ A nx K (iv ((if kindT S.T a=3 then 1 else(ty S.T a).elem:Nat):Int))):
    ifB (decide (((ty S.T a).kind:Int)=3)) (K (U3 (iv 1)) H1 n1) (true=true/\∃v414,some (u0 r 0)=some v414/\∃v415,ld1 H1 v414=some v415/\(0:Int)<=0/\∃v416,qY lw 0 1=some v416/\∃n417:Int,ld1 H1 v416=some (iv n417)/\0<=n417/\∃v418,qY v415 n417.toNat 5=some v418/\∃v419,zg v418 2=some v419/\∃n420:Int,ld1 H1 v419=some (iv n420)/\((∃v421,ld1 H1 v414=some v421/\v421=v415)/\(∃n422:Int,ld1 H1 v416=some (iv n422)/\iv n422=iv n417)/\(∃n423:Int,ld1 H1 v419=some (iv n423)/\iv n423=iv n420)/\True)/\K (U3 (iv n420)) H1 (n1+11)):=by
   refine qf.2 ⟨λh3=> ?_,λh3=>⟨rfl,_,rfl,_,c0 s1,by omega,_,i0,_,q0 s1,by omega,_,it,_,rfl,_,t2 s1,⟨⟨_,c0 s1,rfl⟩,⟨_,q0 s1,rfl⟩,⟨_,t2 s1,rfl⟩,trivial⟩,?_⟩⟩
   ·rw [if_pos (show kindT S.T a=3 from Int.ofNat.inj (of_decide_eq_true h3))]at hx;exact hx H1 n1 g1 s1.drop
   ·rw [if_neg (k3 (of_decide_eq_false h3))]at hx;exact hx H1 _ (by omega) (s1.more (by omega)).drop
  have pan (H1:qc) (n1:Nat) (g1:nx<=n1) (s1:RS Z Γ ((nx,d.cells)::A) H1 n1) (hb:((decide (kindT S.T a=6)||decide (kindT S.T a=3))&&decide (z=1))=false):K (.pan [(jQ ⟨d.li,d.co,17⟩,false)]) H1 n1:=by
   have:=ho.needF hb
   rw [zh]at this;exact this H1 n1 g1 s1.drop
  refine qf.2 ⟨λh6=>⟨_,hl.len,?_⟩,λh6=>qf.2 ⟨λh3=>⟨_,hl.len,?_⟩,λh3=> ?_⟩⟩
  ·rw [e1];refine⟨by omega,_,iz,_,qz s0,_,_,_,_,_,_,d6 s0,⟨⟨_,qz s0,rfl⟩,⟨_,_,_,_,_,_,d6 s0,rfl⟩,trivial⟩,zB (s0.more (by omega)) (λhb H1 n1 g1 s1=>qb.2 ⟨trivial,tail H1 n1 (by omega) s1 (ho.needT ?_)⟩) λhb H1 n1 g1 s1=>ql.2 (pan H1 n1 (by omega) s1 ?_)⟩
   ·rw [decide_eq_true (show kindT S.T a=6 from Int.ofNat.inj (of_decide_eq_true h6)),decide_eq_true (show z=1 from Int.ofNat.inj (of_decide_eq_true hb))];rfl
   ·rw [decide_eq_false (λe:z=1=>of_decide_eq_false hb (congrArg Int.ofNat e)),Bool.and_false]
  ·rw [e1];refine⟨by omega,_,iz,_,qz s0,_,_,_,_,_,_,d6 s0,⟨⟨_,qz s0,rfl⟩,⟨_,_,_,_,_,_,d6 s0,rfl⟩,trivial⟩,zB (s0.more (by omega)) (λhb H1 n1 g1 s1=>qb.2 ⟨trivial,tail H1 n1 (by omega) s1 (ho.needT ?_)⟩) λhb H1 n1 g1 s1=>ql.2 (pan H1 n1 (by omega) s1 ?_)⟩
   ·rw [decide_eq_true (show kindT S.T a=3 from Int.ofNat.inj (of_decide_eq_true h3)),decide_eq_true (show z=1 from Int.ofNat.inj (of_decide_eq_true hb)),Bool.or_true];rfl
   ·rw [decide_eq_false (λe:z=1=>of_decide_eq_false hb (congrArg Int.ofNat e)),Bool.and_false]
  ·refine⟨_,_,_,_,_,_,d6 s0,⟨rfl,⟨_,_,_,_,_,_,d6 s0,rfl⟩,trivial⟩,zB (s0.more (by omega)) (λhb=>nomatch hb) λhb H1 n1 g1 s1=>ql.2 (pan H1 n1 (by omega) s1 ?_)⟩
   rw [decide_eq_false (k6 (of_decide_eq_false h6)),decide_eq_false (k3 (of_decide_eq_false h3))];rfl
 rw [if_neg (of_decide_eq_false h32)]at ho;refine qf.2 ⟨λh33=> ?_,λh33=> ?_⟩
 ·rw [if_pos (of_decide_eq_true h33)]at ho;refine qf.2 ⟨λh6=>⟨_,_,_,_,_,_,d6 s0,?_⟩,λh6=>⟨_,_,_,_,_,_,d6 s0,?_⟩⟩
  ·rw [decide_eq_true (show kindT S.T a=6 from Int.ofNat.inj (of_decide_eq_true h6)),Bool.true_or]at ho;exact YB (v:=1) (by omega) (s0.more (by omega)) ho
  ·rw [decide_eq_false (k6 (of_decide_eq_false h6)),Bool.false_or]at ho;rw [show decide (((ty S.T a).kind:Int)=3)=decide (kindT S.T a=3)from QR _ 3];exact YB (v:=1) (by omega) (s0.more (by omega)) ho
 rw [if_neg (of_decide_eq_false h33)]at ho;exact ho H0 _ (by omega) (s0.more (by omega)).drop
end
section
variable{A B:qD}{F:zr}{H:qc}{nx:Nat}
theorem Ys{Γ:GH}(p:A.Perm B):ko A Γ->over A Γ=over B Γ/\ko B Γ:=by
 induction p with
 |nil=>exactλh=>⟨rfl,h⟩
 | @cons x A B p ih=>
  obtain⟨b,cs⟩:=x
  intro h;obtain⟨i1,i2⟩:=ih h.2
  exact⟨by unfold over;rw [i1],by rw [<-i1];exact h.1,i2⟩
 |swap x y A=>
  obtain⟨b,cs⟩:=x
  obtain⟨c,ds⟩:=y
  intro h;have hbc:c≠b:=λe=>by have:=h.1;unfold over at this;rw [e,qk]at this;cases this
  refine⟨?_,?_,?_,h.2.2⟩
  ·show gup c (some ds) (gup b (some cs) (over A Γ))=gup b (some cs) (gup c (some ds) (over A Γ))
   exact qlf hbc
  ·show gup c (some ds) (over A Γ) b=none
   rw [qn (Ne.symm hbc)];exact h.2.1
  ·have:=h.1
   unfold over at this
   rwa [qn hbc]at this
 |trans _ _ i1 i2=>exactλh=>⟨(i1 h).1.trans (i2 (i1 h).2).1,(i2 (i1 h).2).2⟩
theorem SH.perm(p:A.Perm B)(h:SH Z A F H nx):SH Z B F H nx:=let⟨Γ,h1,h2,h3⟩:=h
 ⟨Γ,by rw [<-(Ys p h2).1];exact h1,(Ys p h2).2,h3⟩
theorem Own.mem{b:Nat}{cs:List qa}:∀{A:qD},(b,cs)∈A->Own A b cs
 |x::A,h=>by
  rcases List.mem_cons.1 h with rfl|h
  ·exact .hd
  ·exact .tl (Own.mem h)
theorem SH.ro(h:SH Z A F H nx):∃Γ,HZ Z Γ H nx/\(∀P,P∈F->P Γ)/\(∀b cs,Own A b cs->Γ b=some cs)/\∀H' nx',HZ Z Γ H' nx'->SH Z A F H' nx':=
 let⟨Γ,h1,h2,h3⟩:=h
 ⟨over A Γ,h1,λP hP=>h3 _ (λ_ _ e=>h2.row e) P hP,λb cs hb=>h2.at hb,λ_ _ h'=>⟨Γ,h',h2,h3⟩⟩
theorem SH.srcO{b off n sz e:Nat}{full:Bool}{cs:List qa}(h:SH Z A F H nx)(hb:Own A b cs)(ho:off+n*sz<=cs.length):jN sz H (.slice b off n e full)=some (n,(cs.drop off).take (n*sz)):=let⟨Γ,g1,g2,g3⟩:=h;g1.src (g2.at hb) ho
theorem SH.appW{b len esz ebytes k:Nat}{cs new:List qa}(h:SH Z ((b,cs)::A) F H nx)(hl:len*esz<=cs.length)(hk:new.length=k*esz)(hk0:0<k)(h1:(len+k)*esz<=9223372036854775807)(h2:(len+k)*ebytes<=140737488355328):
  ∃H',z3 H nx esz ebytes (.slice b 0 len esz false) k new=some (.slice nx 0 (len+k) esz false,H',nx+1)/\SH Z ((nx,cs.take (len*esz)++new)::A) F H' (nx+1):=by
 obtain⟨Γ,g1,g2,g3⟩:=h
 obtain⟨H',e1,e2⟩:=g1.app (esz:=esz) (ebytes:=ebytes) (k:=k) (new:=new) (len:=len) (cs:=cs) (ko.at .hd g2) (by omega) hk hk0 h1 h2
 have e3:gup b none (over ((b,cs)::A) Γ)=over A Γ:=by
  show gup b none (gup b (some cs) (over A Γ))=over A Γ
  rw [vz]
  funext c;by_cases hc:c=b
  ·subst hc;rw [qk,g2.1]
  ·rw [qn hc]
 rw [e3]at e2;refine⟨H',e1,Γ,e2,⟨?_,g2.2⟩,g3⟩
 rw [<-e3];by_cases hb:nx=b
 ·rw [hb,qk]
 ·rw [qn hb];exact g1.non lR
end
def qT{α:Type}(b sz:Nat):List α->qa
 |[]=> .nilSlice
 |x::l=> .slice b 0 (x::l).length sz false
def zc{α:Type}(c:α->List qa)(b:Nat):List α->qD
 |[]=>[]
 |x::l=>[(b,(x::l).flatMap c)]
section
variable{α:Type}{c:α->List qa}{b sz eb:Nat}{l:List α}{A:qD}{F:zr}{H:qc}{nx:Nat}
theorem zp:qZ (qT b sz l)=true:=by cases l<;>rfl
theorem ZJ{Γ:GH}(hc:∀x,(c x).length=sz)(hN:l.length<=100000)(h:∀b' cs,(b',cs)∈zc c b l->Γ b'=some cs):q9 c sz Γ (qT b sz l) l:=by
 cases l with
 |nil=>exact .nil
 |cons x l=>exact⟨.inr ⟨b,0,false,(x::l).flatMap c,rfl,h b _ (List.mem_singleton.2 rfl),by rw [zY hc];omega,by rw [List.drop_zero,<-zY hc,List.take_length]⟩,hN⟩
theorem SH.appO{x:α}(hc:∀x,(c x).length=sz)(h0:0<sz)(h9:sz<=16)(h8:eb<=128)(hN:l.length<=100000)(h:SH Z (zc c b l++A) F H nx):
  ∃H',z3 H nx sz eb (qT b sz l) 1 (c x)=some (qT nx sz (l++[x]),H',nx+1)/\SH Z (zc c nx (l++[x])++A) F H' (nx+1):=by
 have b1:(l.length+1)*sz<=100001*16:=Nat.mul_le_mul (by omega) h9
 have b2:(l.length+1)*eb<=100001*128:=Nat.mul_le_mul (by omega) h8
 cases l with
 |nil=>
  obtain⟨H',e1,e2⟩:=SH.appNil (esz:=sz) (ebytes:=eb) (k:=1) (new:=c x) h (by rw [hc];omega) (by omega) (by omega) (by simp at b2;omega)
  exact⟨H',e1,by simpa [zc]using e2⟩
 |cons y l=>
  obtain⟨H',e1,e2⟩:=SH.app (esz:=sz) (ebytes:=eb) (k:=1) (new:=c x) (len:=(y::l).length) h (by rw [zY hc]) (by rw [hc];omega) (by omega) (by omega) (by omega)
  refine⟨H',?_,?_⟩
  ·show z3 H nx sz eb (.slice b 0 (y::l).length sz false) 1 (c x)=some (.slice nx 0 (y::(l++[x])).length sz false,H',nx+1)
   rw [e1,List.length_cons,List.length_cons,List.length_append];rfl
  ·show SH Z ((nx,(y::(l++[x])).flatMap c)::A) F H' (nx+1)
   have:(y::(l++[x])).flatMap c=(y::l).flatMap c++c x:=by simp
   rw [this];exact e2
end
structure DTy where
 t:Ty
 fb:Nat
 mb:Nat
 pw:List qa
def DTy.ms(x:DTy):List (yM×qa):=x.t.methods.zip x.pw
def DTy.v(x:DTy):Ty×qa×qa:=(x.t,qT x.fb 2 x.t.fields,qT x.mb 4 x.ms)
def DTy.rows(x:DTy):qD:=zc Xw x.fb x.t.fields++zc wg x.mb x.ms
def DTy.ok(Γ:GH)(x:DTy):Prop:=x.pw.length=x.t.methods.length/\x.t.fields.length<=1000/\x.t.methods.length<=1000/\∀m∈x.ms,kY Γ m.2 m.1.params
structure DS where
 tb:Nat
 T:List DTy
 fb:Nat
 fs:List (CSg×qa)
 dw:qa
 nw:qa
 vb:Option (Nat×List qa)
 vs:List Var
 many:Nat
 deep:Nat
 loops:Nat
 fn:CSg
 fpw:qa
def DS.sv(s:DS):Sv:=⟨s.T.map (·.t),s.fs.map (·.1),s.vs,s.many,s.deep,s.loops,s.fn⟩
def DS.vw(s:DS):qa:=match s.vb with
 |none=> .nilSlice
 |some (b,_)=> .slice b 0 s.vs.length 3 false
def DS.vrow(s:DS):qD:=match s.vb with
 |none=>[]
 |some (b,j)=>[(b,s.vs.flatMap vT++j)]
def DS.cells(s:DS):List qa:=[.slice s.tb 0 s.T.length 5 false,qT s.fb 4 s.fs,s.dw,s.nw,s.vw,iv s.many,iv s.deep,iv s.loops,.str s.fn.name,iv s.fn.recv,s.fpw,iv s.fn.result]
def DS.rest(s:DS)(A:qD):qD:=zc sgC s.fb s.fs++(s.vrow++(s.T.flatMap DTy.rows++A))
abbrev DS.own(s:DS)(r:Nat)(A:qD):qD:=(r,s.cells)::(s.tb,(s.T.map DTy.v).flatMap tyC)::s.rest A
structure DS.ok(s:DS)(Γ:GH):Prop where
 ty:∀x∈s.T,x.ok Γ
 fs:∀f∈s.fs,kY Γ f.2 f.1.params
 fw:kY Γ s.fpw s.fn.params
 tN:s.T.length<=1000
 fN:s.fs.length<=1000
 vN:s.vs.length<=1000
 v0:s.vb=none->s.vs=[]
 dw:qZ s.dw=true
 nw:qZ s.nw=true
def CK(Z:Nat->Prop)(r:Nat)(s:DS)(A:qD)(F:zr)(H:qc)(nx:Nat):Prop:=SH Z (s.own r A) (s.ok::F) H nx
section
variable{r:Nat}{s:DS}{A:qD}{F:zr}{H:qc}{nx:Nat}{Γ:GH}
theorem qgm{α β:Type}:∀{l:List α} {m:List β},m.length=l.length->(l.zip m).map (·.1)=l
 |[],_,_=>rfl
 |_::_,[],h=>by simp at h
 |x::l,y::m,h=>by rw [List.zip_cons_cons,List.map_cons,qgm (by simpa using h)]
theorem qa3{α β:Type}{l:List α}{m:List β}(h:m.length=l.length):(l.zip m).length=l.length:=by rw [List.length_zip,h,Nat.min_self]
theorem DTy.see{x:DTy}(h:x.ok Γ)(hr:∀b cs,(b,cs)∈x.rows->Γ b=some cs):YI Γ x.v.2.1 x.t.fields/\wz Γ x.v.2.2 x.t.methods:=by
 obtain⟨h1,h2,h3,h4⟩:=h
 refine⟨ZJ (λ_=>rfl) (by omega) λb cs hb=>hr b cs (List.mem_append.2 (.inl hb)),x.ms,qgm h1,ZJ (λ_=>rfl) (by unfold DTy.ms;rw [qa3 h1];omega) λb cs hb=>hr b cs (List.mem_append.2 (.inr hb)),h4⟩
theorem Qh{b:Nat}{cs:List qa}:(b,cs)∈s.rest A↔(b,cs)∈zc sgC s.fb s.fs\/(b,cs)∈s.vrow\/(∃x∈s.T,(b,cs)∈x.rows)\/(b,cs)∈A:=by
 unfold DS.rest;rw [List.mem_append,List.mem_append,List.mem_append,List.mem_flatMap]
theorem DS.see(ho:s.ok Γ)(hr:∀b cs,Own (s.own r A) b cs->Γ b=some cs):CkV Γ r s.sv:=by
 have hm:∀b cs,(b,cs)∈s.rest A->Γ b=some cs:=λb cs h=>hr b cs (.tl (.tl (Own.mem h)))
 refine⟨_,_,_,_,_,_,hr r _ .hd,⟨s.T.map DTy.v,?_,⟨.inr ⟨s.tb,0,false,(s.T.map DTy.v).flatMap tyC,by rw [List.length_map],hr _ _ (.tl .hd),by rw [zY (c:=tyC) (sz:=5) λ_=>rfl];omega,by rw [List.drop_zero,<-zY (c:=tyC) (sz:=5) (λ_=>rfl),List.take_length]⟩,by rw [List.length_map];exact Nat.le_trans ho.tN (by omega)⟩,?_⟩,⟨s.fs,rfl,ZJ (λ_=>rfl) (Nat.le_trans ho.fN (by omega)) λb cs hb=>hm b cs (Qh.2 (.inl hb)),ho.fs⟩,?_⟩
 ·show(s.T.map DTy.v).map (·.1)=s.T.map (·.t)
  rw [List.map_map];rfl
 ·intro x hx;obtain⟨y,hy,rfl⟩:=List.mem_map.1 hx
  exact DTy.see (ho.ty y hy) λb cs hb=>hm b cs (Qh.2 (.inr (.inr (.inl ⟨y,hy,hb⟩))))
 ·show qm5 Γ s.vw s.vs
  unfold DS.vw;have hv:=ho.v0
  have hm':∀b cs,(b,cs)∈s.vrow->Γ b=some cs:=λb cs hb=>hm b cs (Qh.2 (.inr (.inl hb)))
  unfold DS.vrow at hm';cases hb:s.vb with
  |none=>rw [hv hb];exact .nil
  |some x=>
   obtain⟨b,j⟩:=x
   rw [hb]at hm';have hN:=ho.vN
   exact⟨.inr ⟨b,0,false,s.vs.flatMap vT++j,rfl,hm' b _ (List.mem_singleton.2 rfl),by rw [List.length_append,zY (c:=vT) (sz:=3) λ_=>rfl];omega,by rw [List.drop_zero,<-zY (sz:=3) (c:=vT) (λ_=>rfl),List.take_left'];rfl⟩,by omega⟩
theorem CK.ro(h:CK Z r s A F H nx):∃Γ,RS Z Γ [] H nx/\CkV Γ r s.sv/\Γ r=some s.cells/\s.ok Γ/\(∀P,P∈F->P Γ)/\(∀b cs,(b,cs)∈A->Γ b=some cs)/\∀H' nx',RS Z Γ [] H' nx'->CK Z r s A F H' nx':=by
 obtain⟨Γ,h1,h2,h3,h4⟩:=SH.ro h
 have ho:s.ok Γ:=h2 _ (.head _)
 exact⟨Γ,SH.of h1,DS.see ho h3,h3 r _ .hd,ho,λP hP=>h2 P (.tail _ hP),λb cs hb=>h3 b cs (.tl (.tl (Own.mem (Qh.2 (.inr (.inr (.inr hb))))))),λH' nx' h'=>h4 H' nx' h'.toZ⟩
theorem CkV.ty(hv:CkV Γ r s.sv)(hr:Γ r=some s.cells):ZE Γ (.slice s.tb 0 s.T.length 5 false) s.sv.T:=by
 obtain⟨wt,wf,wd,wn,wv,pw,hc,hT,_⟩:=hv
 rw [hr]at hc
 injection hc with hc
 injection hc with hc _
 rw [hc];exact hT
theorem CK.end_(h:CK Z r s A F H nx):SH Z A F H nx:=by
 refine SH.sub (SH.sel ?_ h) λ_ h=> .tail _ h
 exact .cons _ (.cons _ (((List.sublist_append_right _ _).trans (List.sublist_append_right _ _)).trans (List.sublist_append_right _ _)))
end
section
variable{r:Nat}{s s':DS}{A B:qD}{F G:zr}{H:qc}{nx nx':Nat}{K:qr}{k:qc->Prop}{x:Nat×List qa}{i:Nat}{cs vs:List qa}
theorem Own.to_mem{b:Nat}{A:qD}(h:Own A b cs):(b,cs)∈A:=by
 induction h with
 |hd=>exact .head _
 |tl _ ih=>exact .tail _ ih
theorem Wd:(x::s.own r A).Perm (s.own r (x::A)):=by
 show(x::(r,s.cells)::(s.tb,(s.T.map DTy.v).flatMap tyC)::s.rest A).Perm ((r,s.cells)::(s.tb,(s.T.map DTy.v).flatMap tyC)::s.rest (x::A))
 have e:(x::s.rest A).Perm (s.rest (x::A)):=by
  unfold DS.rest;have e1:∀l:qD,(l++x::A).Perm (x::(l++A)):=λl=>List.perm_middle
  have e2:zc sgC s.fb s.fs++(s.vrow++(s.T.flatMap DTy.rows++A))=(zc sgC s.fb s.fs++s.vrow++s.T.flatMap DTy.rows)++A:=by simp [List.append_assoc]
  have e3:zc sgC s.fb s.fs++(s.vrow++(s.T.flatMap DTy.rows++x::A))=(zc sgC s.fb s.fs++s.vrow++s.T.flatMap DTy.rows)++x::A:=by simp [List.append_assoc]
  rw [e2,e3];exact(e1 _).symm
 exact(List.Perm.swap _ _ _).trans (((List.Perm.swap _ _ _).trans (e.cons _)).cons _)
theorem CK.top(h:CK Z r s (x::A) F H nx):SH Z (x::s.own r A) (s.ok::F) H nx:=SH.perm Wd.symm h
theorem CK.of_top(h:SH Z (x::s.own r A) (s.ok::F) H nx):CK Z r s (x::A) F H nx:=SH.perm Wd h
theorem CK.more(h:CK Z r s A F H nx)(hn:nx<=nx'):CK Z r s A F H nx':=SH.more h hn
theorem CK.mk1(h:CK Z r s A F H nx)(h1:nx<=i)(hK:∀H',CK Z r s ((i,cs)::A) F H' (i+1)->k H'):∃H0,H0=qC i cs H/\k H0:=SH.mk1 h h1 λH' h'=>hK H' (CK.of_top h')
theorem CK.mkN(h:CK Z r s A F H nx)(h1:nx<=i)(hK:∀H',CK Z r s ((i,cs)::A) F H' (i+1)->k H'):∃H0,H0=zA i cs.length cs H/\k H0:=CK.mk1 h h1 hK
theorem CK.all(h:CK Z r s ((i,cs)::A) F H nx)(hl:vs.length=cs.length)(hv:qt vs=true)(hK:∀H',CK Z r s ((i,vs)::A) F H' nx->k H'):∃H1,stC H (.ptr i 0) vs=some H1/\k H1:=h.top.all .hd hl hv λH' h'=>hK H' (CK.of_top h')
theorem CK.drop(h:CK Z r s (x::A) F H nx):CK Z r s A F H nx:=SH.drop h.top
theorem CK.ownA{b:Nat}(hb:Own A b cs):Own (s.own r A) b cs:= .tl (.tl (Own.mem (Qh.2 (.inr (.inr (.inr hb.to_mem))))))
theorem CK.ld1{b:Nat}(h:CK Z r s A F H nx)(hb:Own A b cs)(off:Nat):Vs.ld1 H (.ptr b off)=cs[off]?:=SH.ld1 h (CK.ownA hb) off
theorem CK.ldA{b sz:Nat}(h:CK Z r s A F H nx)(hb:Own A b cs)(ho:sz=cs.length):Vs.ldN H sz (.ptr b 0)=some (.agg cs):=SH.ldA h (CK.ownA hb) ho
theorem CK.cell(h:CK Z r s A F H nx)(off:Nat):Vs.ld1 H (.ptr r off)=s.cells[off]?:=SH.ld1 h .hd off
theorem CK.okF(h:CK Z r s A F H nx):∃Γ,s.ok Γ/\∀P∈F,P Γ:=by
 obtain⟨Γ,_,h2⟩:=SH.to h
 exact⟨Γ,h2 _ (.head _),λP hP=>h2 P (.tail _ hP)⟩
theorem CK.as(h:SH Z B (s.ok::F) H nx)(he:B=s'.own r A)(ho:∀Γ,s.ok Γ->s'.ok Γ):CK Z r s' A F H nx:=by
 subst he;exact SH.sub (SH.add h (P:=s'.ok) λΓ hq=>ho Γ (hq _ (.head _))) λP hP=>by
  rcases List.mem_cons.1 hP with rfl|hP
  ·exact .head _
  ·exact .tail _ (.tail _ hP)
def Ent(F:zr)(P:GH->Prop):Prop:=∀Γ,(∀Q,Q∈F->Q Γ)->P Γ
theorem CK.addTy{t:Ty}(hf:t.fields=[])(hm:t.methods=[])(h:CK Z r s A F H nx)(hN:s.T.length<1000):
  ∃H',z3 H nx 5 80 (.slice s.tb 0 s.T.length 5 false) 1 (tyC (t,.nilSlice,.nilSlice))=some (.slice nx 0 (s.T.length+1) 5 false,H',nx+1)/\
   ∃H'',stC H' (.ptr r 0) [.slice nx 0 (s.T.length+1) 5 false]=some H''/\CK Z r {s with tb:=nx,T:=s.T++[⟨t,0,0,[]⟩]} A F H'' (nx+1):=by
 have h1:SH Z ((s.tb,(s.T.map DTy.v).flatMap tyC)::(r,s.cells)::s.rest A) (s.ok::F) H nx:=SH.swap h
 have hl:((s.T.map DTy.v).flatMap tyC).length=s.T.length*5:=by rw [zY (c:=tyC) (sz:=5) λ_=>rfl,List.length_map]
 obtain⟨H',e1,e2⟩:=SH.app (esz:=5) (ebytes:=80) (k:=1) (new:=tyC (t,.nilSlice,.nilSlice)) (len:=s.T.length) h1 hl rfl (by omega) (by omega) (by omega)
 refine⟨H',e1,?_⟩
 obtain⟨H'',e3,e4⟩:=SH.st (off:=0) (vs:=[.slice nx 0 (s.T.length+1) 5 false]) e2 (.tl .hd) (by simp [DS.cells]) rfl
 refine⟨H'',e3,CK.as (SH.swap e4) ?_ λΓ ho=> ?_⟩
 ·have e5:((s.T++[(⟨t,0,0,[]⟩:DTy)]).map DTy.v).flatMap tyC=(s.T.map DTy.v).flatMap tyC++tyC (t,.nilSlice,.nilSlice):=by
   rw [List.map_append,List.flatMap_append]
   congr 1
   simp [DTy.v,qT,DTy.ms,hf,hm]
  have e6:(s.T++[(⟨t,0,0,[]⟩:DTy)]).flatMap DTy.rows=s.T.flatMap DTy.rows:=by
   rw [List.flatMap_append];simp [DTy.rows,zc,DTy.ms,hf,hm]
  show _=(r,DS.cells {s with tb:=nx,T:=s.T++[⟨t,0,0,[]⟩]})::(nx,((s.T++[(⟨t,0,0,[]⟩:DTy)]).map DTy.v).flatMap tyC)::(zc sgC s.fb s.fs++(s.vrow++((s.T++[(⟨t,0,0,[]⟩:DTy)]).flatMap DTy.rows++A)))
  rw [e5,e6];have e7:jw s.cells 0 [.slice nx 0 (s.T.length+1) 5 false]=DS.cells {s with tb:=nx,T:=s.T++[⟨t,0,0,[]⟩]}:=by
   unfold DS.cells;simp [jw]
   rfl
  rw [e7]
  rfl
 ·refine⟨λx hx=> ?_,ho.fs,ho.fw,?_,ho.fN,ho.vN,ho.v0,ho.dw,ho.nw⟩
  ·rcases List.mem_append.1 hx with hx|hx
   ·exact ho.ty x hx
   ·rw [List.mem_singleton.1 hx];exact⟨by rw [hm];rfl,by rw [hf];simp,by rw [hm];simp,by simp [DTy.ms,hm]⟩
  ·show(s.T++[_]).length<=1000
   rw [List.length_append];simp;omega
def jC(s s':DS)(T:List Ty):Prop:=∃tb L,s'={s with tb:=tb,T:=s.T++L}/\(s.T++L).map (·.t)=T
theorem jC.refl:jC s s s.sv.T:=⟨s.tb,[],by simp,by simp [DS.sv]⟩
theorem jC.trans{s1 s2 s3:DS}{T1 T2:List Ty}(h:jC s1 s2 T1)(h':jC s2 s3 T2):jC s1 s3 T2:=by
 obtain⟨b,L,rfl,_⟩:=h
 obtain⟨c,M,rfl,e⟩:=h'
 exact⟨c,L++M,by simp [List.append_assoc],by simpa [List.append_assoc]using e⟩
theorem jC.T{T:List Ty}(h:jC s s' T):s'.sv.T=T:=by obtain⟨b,L,rfl,e⟩:=h;exact e
def Tw(Z:Nat->Prop)(r:Nat)(s:DS)(A:qD)(F:zr)(nx:Nat)(K:qr)(x:Ex (Nat×List Ty)):Prop:=
 qE x (λp=>∀s' H' nx',nx<=nx'->jC s s' p.2->CK Z r s' A F H' nx'->K (.ret (iv p.1)) H' nx') λf=>∀H' nx',nx<=nx'->SH Z A F H' nx'->K (.pan [(jQ f,false)]) H' nx'
def qic(Z:Nat->Prop)(d:DT):Prop:=∀{r:Nat} {s:DS} {A:qD} {F:zr} {H:qc} {nx:Nat} {K:qr},Ent F (λΓ=>DF Γ d)->CK Z r s A F H nx->Tw Z r s A F nx K (typ s.sv.T d.er)->qo PG kg [.ptr r 0,d.val] H nx K
theorem qpr(call:zm)(lp:jl)(lv:zJ)(lvc:zI)(K:qr)(r q:Nat)(o:qa)(w e n i:Int)(H:qc)(nx:Nat)(rc:Option qw):
  qA PG call lp 76 (qd PG kg) [1,1,1,0,1,0] (qy PG lv lvc K (qP PG kg)) .ret (qe .und [(0,.ptr r 0),(3,.ptr q 0),(4,iv w),(7,iv e),(32,o),(33,iv n),(34,iv i)]) H nx [] rc=K (.ret (iv w)) H nx:=by kernel_rfl
theorem qtb(T:List Ty)(d:DT):typ T d.er=if d.kd=9 then Ck.ob (typ T (qQ d.kids 0).er) λp=>Q9 p.2 d.er p.1 else VA T d.nm ⟨d.li,d.co,15⟩:=by
 have e:Qs T (ers d.kids)=typ T (qQ d.kids 0).er:=by
  cases d.kids with
  |nil=>
   show Qs T []=typ T zx
   rfl
  |cons x l=>rfl
 rw [QQ,<-e]
 rfl
theorem qc6(d:DT)(ih:d.kd=9->qic Z (qQ d.kids 0)):qic Z d:=by
 intro r s A F H nx K hd h ho;refine qo.of_body qp ?_
 refine Eq.mpr (qfr ..) ?_
 rw [qtb]at ho;refine h.mkN lR λH0 h0=> ?_
 obtain⟨Γ,s0,hv,hr,hok,hF,hA,back⟩:=h0.ro
 refine⟨_,rfl,_,h0.ld1 .hd 0,qf.2 ⟨λh9=>⟨_,rfl,_,h0.ld1 .hd 1,KQ s0 hv λH1 n1 g1 s1=> ?_⟩,λh9=>⟨_,_,_,_,_,_,h0.ldA .hd rfl,jf (i:=0) s0 (hd Γ hF) λH1 n1 g1 s1=>qb.2 ⟨_,_,_,_,_,_,rfl,?_⟩⟩⟩⟩
 ·have h9':¬d.kd=9:=by simpa using h9
  rw [if_neg h9']at ho;unfold VA at ho;cases hn:Ck.named s.sv.T d.nm with
  |none=>
   rw [hn]at ho;exact qb.2 ⟨_,_,rfl,_,_,_,_,_,_,(back H1 n1 s1).ldA .hd rfl,zB s1 (λhb=>nomatch hb) λ_ H2 n2 g2 s2=>ql.2 (ho H2 n2 (by omega) (back H2 n2 s2).drop.end_)⟩
  |some i=>
   rw [hn]at ho;exact qb.2 ⟨_,_,rfl,_,_,_,_,_,_,(back H1 n1 s1).ldA .hd rfl,zB s1 (λ_ H2 n2 g2 s2=>qb.2 (ho s H2 n2 (by omega) jC.refl (back H2 n2 s2).drop)) λhb=>nomatch hb⟩
 have h9':d.kd=9:=by simpa using h9
 rw [if_pos h9']at ho;refine ih h9' (λΓ hq=>(hd Γ hq).kids.kid) (back H1 n1 s1) ((qE.ob ho).mono (λp _ hx=> ?_) λf _ hx=>λH2 n2 g2 s2=>ql.2 (hx H2 n2 (by omega) s2.drop))
 obtain⟨e,T1⟩:=p
 intro s2 H2 n2 g2 ht2 h2;have eT:s2.sv.T=T1:=ht2.T
 subst eT;have hx:Tw Z r s A F nx K (Q9 s2.sv.T d.er e):=hx
 unfold Q9 qaw at hx
 generalize hp:(λ(_:Nat) (x:Ty)=>decide (x.kind=6)&&decide (x.elem=e))=p at hx
 have hlen:s2.sv.T.length=s2.T.length:=by simp [DS.sv]
 have hN:s2.T.length<=1000:=let⟨Γ,ho,_⟩:=h2.okF;ho.tN
 refine qb.2 ⟨_,rfl,rfl,_,rfl,_,h2.cell 0,_,rfl,?_⟩
 refine zD (P:=PG) (X:=Nat) (Y:=Unit) (λi=>qe .und [(0,.ptr r 0),(3,.ptr nx 0),(4,iv 0),(7,iv e),(32,.slice s2.tb 0 s2.T.length 5 false),(33,iv (s2.T.length:Int)),(34,iv (i:Int))]) (λ_=>qe .und [(0,.ptr r 0),(3,.ptr nx 0),(4,iv 0),(7,iv e)])
  (λm i H3 n3=>n2<=n3/\CK Z r s2 ((nx,d.cells)::A) F H3 n3/\m=s2.T.length - i/\i<=s2.T.length/\zk p s2.sv.T 0=zk p (s2.sv.T.drop i) i)
  (λid _ H3 n3=>id=0/\n2<=n3/\CK Z r s2 ((nx,d.cells)::A) F H3 n3/\zk p s2.sv.T 0=none) s2.T.length 0 (qq.okay) ⟨Nat.le_refl _,h2,rfl,Nat.zero_le _,rfl⟩ ?_ ?_
 ·rintro m i H3 n3 ⟨g3,h3,rfl,hi,hf⟩
  refine WpP.partK (ts:=[0,3,4,7,32,33,34]) qp ?_
  refine Eq.mpr (qq3 ..) ?_
  obtain⟨Γ3,s3,hv3,hr3,_,_,_,back3⟩:=h3.ro
  refine qf.2 ⟨λhc=> ?_,λhc=> ?_⟩
  ·have hc:(i:Int)<(s2.T.length:Int):=of_decide_eq_true hc
   have hil:i<s2.sv.T.length:=by omega
   obtain⟨b,off,w1,w2,f1,f2,i1,i2,_⟩:=(hv3.ty hr3).rd s3.toZ hil
   have e1:i64.wrap ((i:Int)+1)=((i+1:Nat):Int):=by rw [qB (by omega) (by omega)];omega
   rw [yj hil]at hf;have et:s2.sv.T[i]=ty s2.sv.T i:=by unfold ty;simp [List.getD,hil]
   rw [et]at hf;rw [e1];refine⟨by omega,_,i1,_,_,_,_,_,i2,s3.mk1 lR λH4 s4=>s4.all (vs:=tyC (ty s2.sv.T i,w1,w2)) .hd rfl (Qd f1 f2) λH5 s5=>⟨_,rfl,_,s5.ld1 .hd 0,?_⟩⟩
   have hno (e':p i (ty s2.sv.T i)=false):∃m' x',m'<s2.T.length - i/\qq (qe .und [(0,.ptr r 0),(3,.ptr nx 0),(4,iv 0),(7,iv e),(32,.slice s2.tb 0 s2.T.length 5 false),(33,iv (s2.T.length:Int)),(34,iv ((x':Nat):Int))]) (qe .und [(0,.ptr r 0),(3,.ptr nx 0),(4,iv 0),(7,iv e),(32,.slice s2.tb 0 s2.T.length 5 false),(33,iv (s2.T.length:Int)),(34,iv ((i+1:Nat):Int))])/\n2<=n3+1/\CK Z r s2 ((nx,d.cells)::A) F H5 (n3+1)/\m'=s2.T.length - x'/\x'<=s2.T.length/\zk p s2.sv.T 0=zk p (s2.sv.T.drop x') x':=by
    rw [if_neg (by rw [e'];simp)]at hf
    exact⟨s2.T.length - (i+1),i+1,by omega,qq.refl _,by omega,back3 H5 _ s5.drop,rfl,by omega,hf⟩
   refine qf.2 ⟨λh6=>⟨_,rfl,_,s5.ld1 .hd 2,qf.2 ⟨λhe=> ?_,λhe=>⟨rfl,hno ?_⟩⟩⟩,λh6=>⟨rfl,hno ?_⟩⟩
   ·show qA PG _ _ 76 _ _ _ _ _ _ _ _ _
    refine Eq.mpr (qpr ..) ?_
    have e':p i (ty s2.sv.T i)=true:=by
     rw [<-hp];have a1:(ty s2.sv.T i).kind=6:=Int.ofNat.inj (of_decide_eq_true h6)
     have a2:(ty s2.sv.T i).elem=e:=Int.ofNat.inj (of_decide_eq_true he)
     simp only [decide_eq_true a1,decide_eq_true a2,Bool.and_self]
    rw [if_pos e']at hf;rw [hf]at hx;exact hx s2 H5 _ (by omega) ht2 (back3 H5 _ s5.drop).drop
   ·rw [<-hp];have a2:¬(ty s2.sv.T i).elem=e:=λx=>of_decide_eq_false he (congrArg Int.ofNat x)
    simp [a2]
   ·rw [<-hp];have a1:¬(ty s2.sv.T i).kind=6:=λx=>of_decide_eq_false h6 (congrArg Int.ofNat x)
    simp [a1]
  ·have hc:¬(i:Int)<(s2.T.length:Int):=of_decide_eq_false hc
   have:i=s2.T.length:=by omega
   subst this;rw [<-hlen,wa]at hf;exact⟨rfl,(),qq.okay,rfl,g3,h3,hf⟩
 ·rintro id _ H3 n3 ⟨rfl,g3,h3,hf⟩
  refine Eq.mpr (qod ..) ?_
  rw [hf]at hx;have hx:Tw Z r s A F nx K (Ck.need (decide (s2.sv.T.length<60)) d.er 18 (.ok (s2.sv.T.length,s2.sv.T++[⟨6,[],e,[],[]⟩]))):=hx
  rw [hlen]at hx;obtain⟨Γ3,s3,hv3,hr3,_,_,_,back3⟩:=h3.ro
  refine⟨rfl,_,rfl,_,h3.cell 0,_,rfl,_,_,_,_,_,_,h3.ldA .hd rfl,⟨⟨_,h3.cell 0,rfl⟩,⟨_,_,_,_,_,_,h3.ldA .hd rfl,rfl⟩,trivial⟩,zB (s3.more (by omega)) (λhb H4 n4 g4 s4=>qb.2 ?_) λhb H4 n4 g4 s4=>ql.2 ?_⟩
  ·have h60:s2.T.length<60:=by
    have:(s2.T.length:Int)<60:=of_decide_eq_true hb
    omega
   have hx:=hx.needT (decide_eq_true h60)
   have h4:=back3 H4 n4 s4
   refine⟨trivial,rfl,_,rfl,_,h4.cell 0,rfl,rfl,h4.mk1 (cs:=tyC (⟨6,[],e,[],[]⟩,.nilSlice,.nilSlice)) lR λH5 h5=>⟨_,_,SH.srcO (sz:=5) h5 (CK.ownA .hd) (by simp [tyC]),rfl,?_⟩⟩
   obtain⟨H6,e6,H7,e7,h7⟩:=h5.addTy (t:=⟨6,[],e,[],[]⟩) rfl rfl (by omega)
   refine⟨_,H6,_,e6,rfl,_,rfl,rfl,H7,e7,rfl,_,rfl,_,h7.cell 0,_,rfl,?_⟩
   have e1:i64.wrap (Int.ofNat (s2.T++[(⟨⟨6,[],e,[],[]⟩,0,0,[]⟩:DTy)]).length - 1)=(s2.T.length:Int):=by
    rw [List.length_append];show i64.wrap (((s2.T.length+1:Nat):Int) - 1)=_
    rw [qB (by omega) (by omega)];omega
   rw [e1];exact hx _ H7 _ (by omega) (ht2.trans ⟨_,_,rfl,by simp [DS.sv]⟩) h7.drop.drop
  ·have:=hx.needF (decide_eq_false (λx:s2.T.length<60=>of_decide_eq_false hb (by show(s2.T.length:Int)<60;omega)))
   rw [zh]at this;exact this H4 n4 (by omega) (back3 H4 n4 s4).drop.end_
theorem qlg:qic Z zT:=qc6 zT λh=>nomatch h
theorem yH:∀d:DT,qic Z d:=DT.ind (P:=qic Z) λd ih=>qc6 d λ_=>WI (P:=qic Z) (@qlg _ Z) ih
end
section
variable{r:Nat}{s s':DS}{A B:qD}{F G:zr}{H:qc}{nx nx':Nat}{K:qr}{k:qc->Prop}{d:DT}
theorem WA:∀B:qD,(B++s.own r A).Perm (s.own r (B++A))
 |[]=> .refl _
 |x::B=>((WA B).cons x).trans Wd
theorem CK.tops(h:CK Z r s (B++A) F H nx):SH Z (B++s.own r A) (s.ok::F) H nx:=SH.perm (WA B).symm h
theorem CK.of_tops(h:SH Z (B++s.own r A) (s.ok::F) H nx):CK Z r s (B++A) F H nx:=SH.perm (WA B) h
theorem CK.appO{α:Type}{c:α->List qa}{b sz eb:Nat}{l:List α}{x:α}(hc:∀x,(c x).length=sz)(h0:0<sz)(h9:sz<=16)(h8:eb<=128)(hN:l.length<=100000)(h:CK Z r s (zc c b l++A) F H nx):
  ∃H',z3 H nx sz eb (qT b sz l) 1 (c x)=some (qT nx sz (l++[x]),H',nx+1)/\CK Z r s (zc c nx (l++[x])++A) F H' (nx+1):=by
 obtain⟨H',e1,e2⟩:=SH.appO (x:=x) (eb:=eb) hc h0 h9 h8 hN h.tops
 exact⟨H',e1,CK.of_tops e2⟩
theorem CK.drops(h:CK Z r s (B++A) F H nx):CK Z r s A F H nx:=SH.sel (List.sublist_append_right _ _) h.tops
theorem jC.fs{T:List Ty}(h:jC s s' T):s'.sv.fs=s.sv.fs:=by obtain⟨b,L,rfl,e⟩:=h;rfl
theorem jC.vs{T:List Ty}(h:jC s s' T):s'.sv.vs=s.sv.vs:=by obtain⟨b,L,rfl,e⟩:=h;rfl
theorem qtn(T:List Ty)(d:DT):Ck.res T d.er=if d.kd=38 then .ok (0,T)else typ T d.er:=by unfold Ck.res;rw [kL]
theorem Xe(hd:Ent F λΓ=>DF Γ d)(h:CK Z r s A F H nx)(ho:Tw Z r s A F nx K (Ck.res s.sv.T d.er)):qo PG yA [.ptr r 0,d.val] H nx K:=by
 refine qo.of_body qp ?_
 refine Eq.mpr (XD ..) ?_
 rw [qtn]at ho;refine h.mkN lR λH0 h0=>⟨_,rfl,_,h0.ld1 .hd 0,qf.2 ⟨λh1=> ?_,λh1=>⟨_,_,_,_,_,_,h0.ldA .hd rfl,?_⟩⟩⟩
 ·rw [if_pos (of_decide_eq_true h1)]at ho;exact ho s H0 _ (by omega) jC.refl h0.drop
 ·rw [if_neg (of_decide_eq_false h1)]at ho;exact yH d hd h0 (qE.mono ho (λp _ hx s2 H2 n2 g2 e2 h2=>qb.2 ⟨_,rfl,hx s2 H2 n2 (by omega) e2 h2.drop⟩) λf _ hx H2 n2 g2 s2=>ql.2 (hx H2 n2 (by omega) s2.drop))
theorem Ky(fs:List CSg)(vs:List Var)(T:List Ty):∀(ks:List DT) (i:Nat),Zy fs vs T (ers ks) i=Ck.expr fs vs T (qQ ks i).er
 |[],i=>by
  have:qQ [] i=zT:=by unfold qQ;simp
  rw [this];rfl
 |_::_,0=>rfl
 |_::ks,i+1=>Ky fs vs T ks i
theorem qr7(fs:List CSg)(vs:List Var)(T:List Ty)(d:DT):Ck.expr fs vs T d.er=
  if d.kd=21\/d.kd=36 then .ok (1,T)
  else if d.kd=22\/d.kd=23 then .ok (2,T)
  else if d.kd=24 then .ok (3,T)
  else if d.kd=25 then .ok (4,T)
  else if d.kd=26 then(match Ck.look d.nm vs with
   |some t=> .ok (t,T)
   |none=> .error ⟨d.li,d.co,15⟩)
  else if d.kd=34 then Ck.ob (typ T (qQ d.kids 0).er) λp=>Ck.ob (Ck.expr fs vs p.2 (qQ d.kids 1).er) λq=>Ck.need (decide (kindT q.2 p.1=6)&&decide (q.1=1)) d.er 17 (.ok (p.1,q.2))
  else if d.kd=35 then Ck.ob (typ T (qQ d.kids 0).er) λp=>Ck.need (decide (kindT p.2 p.1=5)) d.er 17 (.ok (p.1,p.2))
  else if d.kd=37 then Ck.ob (Ck.expr fs vs T (qQ d.kids 0).er) λp=>Ck.ob (typ p.2 (qQ d.kids 1).er) λq=>Ck.need (has q.2 q.1 p.1) d.er 17 (.ok (q.1,q.2))
  else Ck.ob (QU fs vs T (ers d.kids)) λp=>Ck.ob (Ck.made p.2 fs d.er p.1) λt=> .ok (t,p.2):=by
 have e1:=λT=>Ky fs vs T d.kids 1
 have e0:=λT=>Ky fs vs T d.kids 0
 have k0:(ers d.kids).getD 0 zx=(qQ d.kids 0).er:=ZQ
 have k1:(ers d.kids).getD 1 zx=(qQ d.kids 1).er:=ZQ
 rw [QQ];simp only [<-e1,<-e0]
 simp only [<-k0,<-k1]
 rw [Ck.expr]
 rfl
def WU(Z:Nat->Prop)(d:DT):Prop:=∀{r:Nat} {s:DS} {A:qD} {F:zr} {H:qc} {nx:Nat} {K:qr},Ent F (λΓ=>DF Γ d)->zK s.sv.T s.sv.fs->kK s.sv.T s.sv.vs->CK Z r s A F H nx->
 Tw Z r s A F nx K (Ck.expr s.sv.fs s.sv.vs s.sv.T d.er)->qo PG zt [.ptr r 0,d.val] H nx K
theorem qrc(call:zm)(lp:jl)(lv:zJ)(lvc:zI)(K:qr)(r q:Nat)(o lw:qa)(n i:Int)(l:List (qa×Bool))(H:qc)(nx:Nat)(rc:Option qw):
  qA PG call lp 117 (qd PG zt) [1,1,1,0,1,0] (qy PG lv lvc K (qP PG zt)) (.pan l) (qe .und [(0,.ptr r 0),(3,.ptr q 0),(4,iv 0),(10,lw),(99,o),(100,iv n),(101,iv i)]) H nx [] rc=K (.pan l) H nx:=by kernel_rfl
theorem Zs{α β γ:Type}{x:Ex α}{f:α->Ex β}{g:β->Ex γ}:Ck.ob (Ck.ob x f) g=Ck.ob x λa=>Ck.ob (f a) g:=by cases x<;>rfl
theorem JP{X Y:Bool}{q n v:Nat}{e:Int}{T3:List Ty}{s3:DS}(e3:jC s s3 T3)(h3:CK Z r s3 ((q,d.cells)::A) F H n)(g:nx<=n)(hX:X=Y)(ho:Tw Z r s A F nx K (Ck.need X d.er e (.ok (v,T3)))):
  qo PG qh [.ptr r 0,.bool Y,d.val,iv e] H n λe H i=>qj e (λ_=>True/\K (.ret (iv (v:Int))) H i) λl=>K (.pan l) H i:=by
 subst hX;obtain⟨Γ,s0,hv,hr,hok,hF,hA,back⟩:=h3.ro
 refine zB s0 (λhb H4 n4 g4 s4=>qb.2 ⟨trivial,qE.needT ho hb s3 H4 n4 (by omega) e3 (back H4 n4 s4).drop⟩) λhb H4 n4 g4 s4=>ql.2 ?_
 have:=qE.needF ho hb
 rw [zh]at this;exact this H4 n4 (by omega) (back H4 n4 s4).drop.end_
theorem YC(d:DT)(ih:∀e∈d.kids,WU Z e)(ik:d.kd=34\/d.kd=37->∀i,WU Z (qQ d.kids i)):WU Z d:=by
 intro r s A F H nx K hd hg hgv h ho;refine qo.of_body qp ?_
 refine Eq.mpr (qc1 ..) ?_
 rw [qr7]at ho;have hk:∀i,Ent F λΓ=>DF Γ (qQ d.kids i):=λi Γ hq=>(hd Γ hq).kids.kid
 refine h.mkN lR λH0 h0=>⟨_,rfl,_,h0.ld1 .hd 0,?_⟩
 obtain⟨Γ,s0,hv,hr,hok,hF,hA,back⟩:=h0.ro
 refine qf.2 ⟨λh1=> ?_,λh1=>qf.2 ⟨λh2=> ?_,λh2=> ?_⟩⟩
 ·rw [if_pos (.inl (of_decide_eq_true h1))]at ho;exact ho s H0 _ (by omega) jC.refl h0.drop
 ·rw [if_pos (.inr (of_decide_eq_true h2))]at ho;exact ho s H0 _ (by omega) jC.refl h0.drop
 rw [if_neg (not_or.2 ⟨of_decide_eq_false h1,of_decide_eq_false h2⟩)]at ho;refine qf.2 ⟨λh1=> ?_,λh1=>qf.2 ⟨λh2=> ?_,λh2=> ?_⟩⟩
 ·rw [if_pos (.inl (of_decide_eq_true h1))]at ho;exact ho s H0 _ (by omega) jC.refl h0.drop
 ·rw [if_pos (.inr (of_decide_eq_true h2))]at ho;exact ho s H0 _ (by omega) jC.refl h0.drop
 rw [if_neg (not_or.2 ⟨of_decide_eq_false h1,of_decide_eq_false h2⟩)]at ho;refine qf.2 ⟨λh1=> ?_,λh1=> ?_⟩
 ·rw [if_pos (of_decide_eq_true h1)]at ho;exact ho s H0 _ (by omega) jC.refl h0.drop
 rw [if_neg (of_decide_eq_false h1)]at ho;refine qf.2 ⟨λh1=> ?_,λh1=> ?_⟩
 ·rw [if_pos (of_decide_eq_true h1)]at ho;exact ho s H0 _ (by omega) jC.refl h0.drop
 rw [if_neg (of_decide_eq_false h1)]at ho;refine qf.2 ⟨λh1=>⟨_,_,_,_,_,_,h0.ldA .hd rfl,?_⟩,λh1=> ?_⟩
 ·rw [if_pos (of_decide_eq_true h1)]at ho;cases hl:Ck.look d.nm s.sv.vs with
  |none=>
   rw [hl]at ho;exact Kg s0 hv (λt ht=>by rw [hl]at ht;cases ht) λ_ H1 n1 g1 s1=>ql.2 (ho H1 n1 (by omega) (back H1 n1 s1).drop.end_)
  |some t=>
   rw [hl]at ho;exact Kg s0 hv (λt' ht H1 n1 g1 s1=>qb.2 ⟨_,rfl,by
    rw [hl]at ht
    injection ht with ht
    subst ht;exact ho s H1 n1 (by omega) jC.refl (back H1 n1 s1).drop⟩) λhn=>by rw [hl]at hn;cases hn
 rw [if_neg (of_decide_eq_false h1)]at ho;refine qf.2 ⟨λh1=>⟨_,_,_,_,_,_,h0.ldA .hd rfl,jf (i:=0) s0 (hd Γ hF) λH1 n1 g1 s1=>qb.2 ⟨_,_,_,_,_,_,rfl,?_⟩⟩,λh1=> ?_⟩
 ·have h34:d.kd=34:=of_decide_eq_true h1
  rw [if_pos h34]at ho;refine yH _ (hk 0) (back H1 n1 s1) ((qE.ob ho).mono (λp hp hx=> ?_) λf _ hx H2 n2 g2 s2=>ql.2 (hx H2 n2 (by omega) s2.drop))
  obtain⟨t,T1⟩:=p
  obtain⟨G1,L1,a1⟩:=kX _ hg hp
  intro s2 H2 n2 g2 e2 h2;have eT:=e2.T
  subst eT;obtain⟨Γ2,s2',hv2,hr2,_,hF2,_,back2⟩:=h2.ro
  refine qb.2 ⟨_,rfl,_,_,_,_,_,_,h2.ldA .hd rfl,jf (i:=1) s2' (hd Γ2 hF2) λH3 n3 g3 s3=>qb.2 ⟨_,_,_,_,_,_,rfl,?_⟩⟩
  have hx:Tw Z r s A F nx K (Ck.ob (Ck.expr s.sv.fs s.sv.vs s2.sv.T (qQ d.kids 1).er) λq=>Ck.need (decide (kindT q.2 t=6)&&decide (q.1=1)) d.er 17 (.ok (t,q.2))):=hx
  have G1:zK s2.sv.T s2.sv.fs:=by rw [e2.fs];exact G1
  have V1:kK s2.sv.T s2.sv.vs:=by rw [e2.vs];exact hgv.mono L1
  rw [<-e2.fs,<-e2.vs]at hx;refine ik (.inl h34) 1 (hk 1) G1 V1 (back2 H3 n3 s3) ((qE.ob hx).mono (λq hq hy=> ?_) λf _ hy H4 n4 g4 s4=>ql.2 (hy H4 n4 (by omega) s4.drop))
  obtain⟨e,T2⟩:=q
  obtain⟨G2,L2,a2⟩:=kE _ G1 V1 hq
  intro s4 H4 n4 g4 e4 h4;have eT:=e4.T
  subst eT;have hy:Tw Z r s A F nx K (Ck.need (decide (kindT s4.sv.T t=6)&&decide (e=1)) d.er 17 (.ok (t,s4.sv.T))):=hy
  obtain⟨Γ4,s4',hv4,hr4,_,hF4,_,back4⟩:=h4.ro
  obtain⟨bt,ot,_,_,_,_,it,rt⟩:=(hv4.ty hr4).rdA (Z:=Z) (show t<s4.sv.T.length by omega)
  have t0:ld1 H4 (.ptr bt (ot+0))=some (iv (ty s4.sv.T t).kind):=(rt H4 n4 s4'.toZ).2 0 (by omega)
  refine qb.2 ⟨_,rfl,rfl,_,rfl,_,h4.cell 0,by omega,_,it,_,rfl,_,t0,qf.2 ⟨λh6=>⟨_,_,_,_,_,_,h4.ldA .hd rfl,⟨⟨_,h4.cell 0,rfl⟩,⟨_,t0,rfl⟩,⟨_,_,_,_,_,_,h4.ldA .hd rfl,rfl⟩,trivial⟩,?_⟩,λh6=>⟨_,_,_,_,_,_,h4.ldA .hd rfl,⟨⟨_,h4.cell 0,rfl⟩,⟨_,t0,rfl⟩,⟨_,_,_,_,_,_,h4.ldA .hd rfl,rfl⟩,trivial⟩,?_⟩⟩⟩
  ·refine JP (e2.trans e4) (h4.more (by omega)) (by omega) ?_ hy
   rw [decide_eq_true (show kindT s4.sv.T t=6 from Int.ofNat.inj (of_decide_eq_true h6)),Bool.true_and];exact(QR e 1).symm
  ·refine JP (e2.trans e4) (h4.more (by omega)) (by omega) ?_ hy
   rw [decide_eq_false (λx:kindT s4.sv.T t=6=>of_decide_eq_false h6 (congrArg Int.ofNat x)),Bool.false_and]
 have h34:¬d.kd=34:=of_decide_eq_false h1
 rw [if_neg h34]at ho;refine qf.2 ⟨λh1=>⟨_,_,_,_,_,_,h0.ldA .hd rfl,jf (i:=0) s0 (hd Γ hF) λH1 n1 g1 s1=>qb.2 ⟨_,_,_,_,_,_,rfl,?_⟩⟩,λh1=> ?_⟩
 ·rw [if_pos (of_decide_eq_true h1)]at ho;refine yH _ (hk 0) (back H1 n1 s1) ((qE.ob ho).mono (λp hp hx=> ?_) λf _ hx H2 n2 g2 s2=>ql.2 (hx H2 n2 (by omega) s2.drop))
  obtain⟨t,T1⟩:=p
  obtain⟨G1,L1,a1⟩:=kX _ hg hp
  intro s4 H4 n4 g4 e4 h4;have eT:=e4.T
  subst eT;have hy:Tw Z r s A F nx K (Ck.need (decide (kindT s4.sv.T t=5)) d.er 17 (.ok (t,s4.sv.T))):=hx
  obtain⟨Γ4,s4',hv4,hr4,_,hF4,_,back4⟩:=h4.ro
  obtain⟨bt,ot,_,_,_,_,it,rt⟩:=(hv4.ty hr4).rdA (Z:=Z) (show t<s4.sv.T.length by omega)
  have t0:ld1 H4 (.ptr bt (ot+0))=some (iv (ty s4.sv.T t).kind):=(rt H4 n4 s4'.toZ).2 0 (by omega)
  refine qb.2 ⟨_,rfl,rfl,_,rfl,_,h4.cell 0,by omega,_,it,_,rfl,_,t0,_,_,_,_,_,_,h4.ldA .hd rfl,⟨⟨_,h4.cell 0,rfl⟩,⟨_,t0,rfl⟩,⟨_,_,_,_,_,_,h4.ldA .hd rfl,rfl⟩,trivial⟩,JP e4 (h4.more (by omega)) (by omega) (QR _ 5).symm hy⟩
 rw [if_neg (of_decide_eq_false h1)]at ho;refine qf.2 ⟨λh1=>⟨_,_,_,_,_,_,h0.ldA .hd rfl,jf (i:=0) s0 (hd Γ hF) λH1 n1 g1 s1=>qb.2 ⟨_,_,_,_,_,_,rfl,?_⟩⟩,λh1=> ?_⟩
 ·have h37:d.kd=37:=of_decide_eq_true h1
  rw [if_pos h37]at ho;refine ik (.inr h37) 0 (hk 0) hg hgv (back H1 n1 s1) ((qE.ob ho).mono (λp hp hx=> ?_) λf _ hx H2 n2 g2 s2=>ql.2 (hx H2 n2 (by omega) s2.drop))
  obtain⟨x,T1⟩:=p
  obtain⟨G1,L1,a1⟩:=kE _ hg hgv hp
  intro s2 H2 n2 g2 e2 h2;have eT:=e2.T
  subst eT;obtain⟨Γ2,s2',hv2,hr2,_,hF2,_,back2⟩:=h2.ro
  refine qb.2 ⟨_,rfl,_,_,_,_,_,_,h2.ldA .hd rfl,jf (i:=1) s2' (hd Γ2 hF2) λH3 n3 g3 s3=>qb.2 ⟨_,_,_,_,_,_,rfl,?_⟩⟩
  have hx:Tw Z r s A F nx K (Ck.ob (typ s2.sv.T (qQ d.kids 1).er) λq=>Ck.need (has q.2 q.1 x) d.er 17 (.ok (q.1,q.2))):=hx
  refine yH _ (hk 1) (back2 H3 n3 s3) ((qE.ob hx).mono (λq hq hy=> ?_) λf _ hy H4 n4 g4 s4=>ql.2 (hy H4 n4 (by omega) s4.drop))
  obtain⟨t,T2⟩:=q
  intro s4 H4 n4 g4 e4 h4;have eT:=e4.T
  subst eT;have hy:Tw Z r s A F nx K (Ck.need (has s4.sv.T t x) d.er 17 (.ok (t,s4.sv.T))):=hy
  obtain⟨Γ4,s4',hv4,hr4,_,hF4,_,back4⟩:=h4.ro
  exact qb.2 ⟨_,rfl,rfl,_,rfl,_,h4.cell 0,_,_,_,_,_,_,h4.ldA .hd rfl,⟨⟨_,h4.cell 0,rfl⟩,⟨_,_,_,_,_,_,h4.ldA .hd rfl,rfl⟩,trivial⟩,VV (s4'.more (by omega)) (hv4.ty hr4) λH5 n5 g5 s5=>qb.2 ⟨_,rfl,⟨⟨_,_,_,_,_,_,(back4 H5 n5 s5).ldA .hd rfl,rfl⟩,trivial⟩,JP (e2.trans e4) (back4 H5 n5 s5) (by omega) rfl hy⟩⟩
 rw [if_neg (of_decide_eq_false h1)]at ho;have hrow:=(hd Γ hF).row
 have hN:=hrow.few
 refine⟨_,rfl,_,h0.ld1 .hd 5,_,hrow.len,?_⟩
 refine zD (P:=PG) (X:=Nat×qa) (Y:=qa) (λx=>qe .und [(0,.ptr r 0),(3,.ptr nx 0),(4,iv 0),(10,x.2),(99,d.kw),(100,iv (d.kids.length:Int)),(101,iv (x.1:Int))]) (λlw=>qe .und [(0,.ptr r 0),(3,.ptr nx 0),(4,iv 0),(10,lw)])
  (λm x H1 n1=>nx+1<=n1/\m=d.kids.length - x.1/\x.1<=d.kids.length/\∃s1 lb l,x.2=qT lb 1 l/\l.length=x.1/\jC s s1 s1.sv.T/\zK s1.sv.T s1.sv.fs/\kK s1.sv.T s1.sv.vs/\(∀t∈l,t<s1.sv.T.length)/\
   CK Z r s1 (zc yv lb l++((nx,d.cells)::A)) F H1 n1/\Tw Z r s A F nx K (Ck.ob (QU s1.sv.fs s1.sv.vs s1.sv.T (ers (d.kids.drop x.1))) λp=>Ck.ob (Ck.made p.2 s.sv.fs d.er (l++p.1)) λt=> .ok (t,p.2)))
  (λid lw H1 n1=>id=1/\nx+1<=n1/\∃s1 lb l,lw=qT lb 1 l/\l.length=d.kids.length/\jC s s1 s1.sv.T/\zK s1.sv.T s1.sv.fs/\(∀t∈l,t<s1.sv.T.length)/\
   CK Z r s1 (zc yv lb l++((nx,d.cells)::A)) F H1 n1/\Tw Z r s A F nx K (Ck.ob (Ck.made s1.sv.T s.sv.fs d.er l) λt=> .ok (t,s1.sv.T)))
  d.kids.length (0,.nilSlice) (qq.okay) ⟨Nat.le_refl _,rfl,Nat.zero_le _,s,0,[],rfl,rfl,jC.refl,hg,hgv,(λ_ h=>nomatch h),h0,ho⟩ ?_ ?_
 ·rintro m ⟨i,lw⟩ H1 n1 ⟨g1,hm,hi,s1,lb,l,hlw,hll,e1,G1,V1,hlT,c1,hf⟩
  have hlw:lw=qT lb 1 l:=hlw
  have hll:l.length=i:=hll
  have hm:m=d.kids.length - i:=hm
  have hi:i<=d.kids.length:=hi
  subst hlw;refine WpP.partK (ts:=[0,3,4,10,99,100,101]) qp ?_
  refine Eq.mpr (qqw ..) ?_
  obtain⟨Γ1,s1',hv1,hr1,_,hF1,_,back1⟩:=c1.ro
  refine qf.2 ⟨λhc=> ?_,λhc=> ?_⟩
  ·have hc:(i:Int)<(d.kids.length:Int):=of_decide_eq_true hc
   have hil:i<d.kids.length:=by omega
   obtain⟨b,off,i1,i2,_⟩:=q9.rd (sz:=6) zV (hd Γ1 hF1).row s1'.toZ hil
   have ew:i64.wrap ((i:Int)+1)=((i+1:Nat):Int):=by rw [qB (by omega) (by omega)];omega
   have hkd:DF Γ1 d.kids[i]:=(hd Γ1 hF1).kids.get (List.getElem_mem hil)
   have hf:Tw Z r s A F nx K (Ck.ob (QU s1.sv.fs s1.sv.vs s1.sv.T (ers (d.kids.drop i))) λp=>Ck.ob (Ck.made p.2 s.sv.fs d.er (l++p.1)) λt=> .ok (t,p.2)):=hf
   rw [List.drop_eq_getElem_cons hil]at hf;have hf:Tw Z r s A F nx K (Ck.ob (Ck.ob (Ck.expr s1.sv.fs s1.sv.vs s1.sv.T d.kids[i].er) λp=>Ck.ob (QU s1.sv.fs s1.sv.vs p.2 (ers (d.kids.drop (i+1)))) λq=> .ok (p.1::q.1,q.2)) λp=>Ck.ob (Ck.made p.2 s.sv.fs d.er (l++p.1)) λt=> .ok (t,p.2)):=hf
   rw [Zs]at hf;refine⟨by omega,_,i1,_,_,_,_,_,_,i2,c1.mk1 lR λH2 h2=>h2.all (vs:=d.kids[i].cells) rfl hkd.cell λH3 h3=>⟨_,_,_,_,_,_,h3.ldA .hd rfl,ih _ (List.getElem_mem hil) (λΓ hq=>(hd Γ hq).kids.get (List.getElem_mem hil)) G1 V1 h3 ((qE.ob hf).mono (λp hp hx=> ?_) λf _ hx H4 n4 g4 s4=>ql.2 ?_)⟩⟩
   ·obtain⟨t,T2⟩:=p
    obtain⟨G2,L2,a2⟩:=kE _ G1 V1 hp
    intro s4 H4 n4 g4 e4 h4;have eT:=e4.T
    subst eT;have hx:Tw Z r s A F nx K (Ck.ob (Ck.ob (QU s1.sv.fs s1.sv.vs s4.sv.T (ers (d.kids.drop (i+1)))) λq=> .ok (t::q.1,q.2)) λp=>Ck.ob (Ck.made p.2 s.sv.fs d.er (l++p.1)) λt=> .ok (t,p.2)):=hx
    rw [Zs]at hx;have hx:Tw Z r s A F nx K (Ck.ob (QU s1.sv.fs s1.sv.vs s4.sv.T (ers (d.kids.drop (i+1)))) λq=>Ck.ob (Ck.made q.2 s.sv.fs d.er (l++(t::q.1))) λt=> .ok (t,q.2)):=hx
    have ea:(λq:List Nat×List Ty=>Ck.ob (Ck.made q.2 s.sv.fs d.er (l++(t::q.1))) λt=>(.ok (t,q.2):Ex (Nat×List Ty)))=λq=>Ck.ob (Ck.made q.2 s.sv.fs d.er ((l++[t])++q.1)) λt=> .ok (t,q.2):=by
     funext q
     rw [List.append_assoc];rfl
    rw [ea]at hx;rw [<-e4.fs,<-e4.vs]at hx;refine qb.2 ⟨_,rfl,rfl,h4.mk1 (cs:=yv t) lR λH5 h5=>⟨_,_,SH.srcO (sz:=1) h5 (CK.ownA .hd) (by simp [yv]),rfl,?_⟩⟩
    obtain⟨H6,e6,h6⟩:=CK.appO (x:=t) (eb:=8) (c:=yv) (sz:=1) (λ_=>rfl) (by omega) (by omega) (by omega) (by omega) h5.drop.drop
    rw [ew];refine⟨_,H6,_,e6,rfl,d.kids.length - (i+1),(i+1,qT (n4+1) 1 (l++[t])),by omega,qq.refl _,by omega,rfl,by show i+1<=_;omega,s4,n4+1,l++[t],rfl,by rw [List.length_append,hll];rfl,e1.trans e4,by rw [e4.fs];exact G2,by rw [e4.vs];exact V1.mono L2,λx hx=> ?_,h6,hx⟩
    rcases List.mem_append.1 hx with hx|hx
    ·have:=hlT x hx;omega
    ·rw [List.mem_singleton.1 hx];exact a2
   ·show qA PG _ _ 117 _ _ _ _ _ _ _ _ _
    refine Eq.mpr (qrc ..) ?_
    exact hx H4 n4 (by omega) (SH.sel (.cons _ ((List.sublist_cons_self _ _).trans (List.sublist_append_right _ _))) s4)
  ·have hc:¬(i:Int)<(d.kids.length:Int):=of_decide_eq_false hc
   have:i=d.kids.length:=by omega
   subst this;have hf:Tw Z r s A F nx K (Ck.ob (QU s1.sv.fs s1.sv.vs s1.sv.T (ers (d.kids.drop d.kids.length))) λp=>Ck.ob (Ck.made p.2 s.sv.fs d.er (l++p.1)) λt=> .ok (t,p.2)):=hf
   rw [List.drop_length]at hf;have hf:Tw Z r s A F nx K (Ck.ob (Ck.made s1.sv.T s.sv.fs d.er (l++[])) λt=> .ok (t,s1.sv.T)):=hf
   rw [List.append_nil]at hf;exact⟨rfl,_,qq.okay,rfl,g1,s1,lb,l,rfl,hll,e1,G1,hlT,c1,hf⟩
 ·rintro id lw H1 n1 ⟨rfl,g1,s1,lb,l,rfl,hll,e1,G1,hlT,c1,hf⟩
  refine Eq.mpr (qkz ..) ?_
  obtain⟨Γ1,s1',hv1,hr1,_,hF1,hA1,back1⟩:=c1.ro
  rw [<-e1.fs]at hf;refine⟨_,_,_,_,_,_,c1.ldA (Own.mem (List.mem_append.2 (.inr (.head _)))) rfl,qlt (S:=s1.sv) (hd Γ1 hF1) (ZJ (λ_=>rfl) (by omega) λb cs hb=>hA1 b cs (List.mem_append.2 (.inl hb))) hll hlT G1.fp G1.mp s1' hv1 ((qE.ob hf).mono (λt _ hx H2 n2 g2 s2=>qb.2 ⟨_,rfl,?_⟩) λf _ hx H2 n2 g2 s2=>ql.2 ?_)⟩
  ·exact hx s1 H2 n2 (by omega) e1 ((back1 H2 n2 s2).drops.drop)
  ·exact hx H2 n2 (by omega) ((back1 H2 n2 s2).drops.drop.end_)
theorem qfe:WU Z zT:=YC zT (λ_ h=>nomatch h) λh=>by rcases h with h|h<;>exact nomatch h
theorem vq:∀d:DT,WU Z d:=DT.ind (P:=WU Z) λd ih=>YC d ih λ_ i=>WI (P:=WU Z) (@qfe _ Z) ih
end
end
end Go.Vs
end
