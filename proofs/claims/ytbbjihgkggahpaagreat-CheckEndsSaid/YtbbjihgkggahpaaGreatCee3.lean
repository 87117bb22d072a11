/-
  Own work. Texts of a proof,laid together; no condition.
-/
import Derived.ChangeSame
import Derived.RowKit3
import Derived.OpenShut
import Derived.ChangeReads
import Derived.Test.YtbbjihgkggahpaaGreatCee2
set_option linter.unusedSectionVars false
set_option linter.unusedVariables false
set_option linter.unusedSimpArgs false
set_option maxRecDepth 1000000
open Go.Vs.qa renaming ptr → u0, str → u5, agg → u6, bool → u7, nilSlice → u9, tuple → U0, und → U1
open Go.Vs.qg renaming pan → U2, ret → U3
open Go.IntKind (i64)
section
namespace Go.Vs
namespace Ps
theorem qlw{l:List Tok}{a:Nat}{s:List UInt8}(h:is l a s=true):a<l.length:=by
 by_cases hl:a<l.length
 ·exact hl
 ·exfalso
  have:tk l a=⟨0,[],0,0,0⟩:=by unfold tk;simp [List.getD,List.getElem?_eq_none (by omega:l.length<=a)]
  unfold is at h;rw [this]at h;simp at h
theorem need_ok{l:List Tok}{a b:Nat}{s:List UInt8}(h:need l a s= .ok b):is l a s=true/\b=a+1:=by
 unfold need at h;split at h
 ·rename_i h1;cases h;exact⟨h1,rfl⟩
 ·cases h
theorem name_ok{l:List Tok}{a b:Nat}(h:name l a= .ok b):(tk l a).kind=2/\b=a+1:=by
 unfold name at h;split at h
 ·rename_i h1;cases h;exact⟨by simpa using h1,rfl⟩
 ·cases h
theorem qbx(l:List Tok):∀n a,a<=gapsN l n a
 |0,a=>Nat.le_refl _
 |n+1,a=>by
  unfold gapsN;split
  ·exact Nat.le_trans (Nat.le_succ a) (qbx l n (a+1))
  ·exact Nat.le_refl _
theorem gaps_le(l:List Tok)(a:Nat):a<=gaps l a:=qbx _ _ _
theorem ends_ok{l:List Tok}{a b:Nat}(h:ends l a= .ok b):a<=b:=by
 unfold ends at h;split at h
 ·cases h;exact gaps_le _ _
 ·split at h
  ·rename_i b' h';cases h;have:=need_ok h';have:=gaps_le l b';omega
  ·cases h
theorem bind_some{α β:Type}{x:Rs α}{k:α->Rs β}{r:Except Flt β}(h:Rs.bind x k=some r):(∃f,x=some (.error f)/\r= .error f)\/∃a,x=some (.ok a)/\k a=some r:=by
 unfold Rs.bind at h;split at h
 ·cases h
 ·cases h;exact .inl ⟨_,rfl,rfl⟩
 ·exact .inr ⟨_,rfl,h⟩
theorem YJ{α β:Type}{x:Except Flt α}{k:α->Rs β}{r:Except Flt β}(h:lift x k=some r):(∃f,x= .error f/\r= .error f)\/∃a,x= .ok a/\k a=some r:=by
 unfold lift at h;split at h
 ·exact .inr ⟨_,rfl,h⟩
 ·cases h;exact .inl ⟨_,rfl,rfl⟩
theorem jc{α β:Type}{x:Rs α}{k:α->Rs β}{r:β}(h:Rs.bind x k=some (.ok r)):∃a,x=some (.ok a)/\k a=some (.ok r):=by
 rcases bind_some h with⟨f,_,h⟩|h
 ·cases h
 ·exact h
theorem je{α β:Type}{x:Except Flt α}{k:α->Rs β}{r:β}(h:lift x k=some (.ok r)):∃a,x= .ok a/\k a=some (.ok r):=by
 rcases YJ h with⟨f,_,h⟩|h
 ·cases h
 ·exact h
theorem jt{α:Type}{c:Prop} [Decidable c] {x y r:α} (h:(if c then x else y)=r):(c/\x=r)\/(¬c/\y=r):=by
 by_cases hc:c
 ·rw [if_pos hc]at h;exact .inl ⟨hc,h⟩
 ·rw [if_neg hc]at h;exact .inr ⟨hc,h⟩
theorem qo3{α:Type}{f:Flt}{r:α}(h:Rs.bad f=some (.ok r)):False:=by cases h
theorem jP{α β:Type}{x r:α}{y s:β}(h:Rs.ok (x,y)=some (.ok (r,s))):x=r/\y=s:=by cases h;exact⟨rfl,rfl⟩
theorem ite_el{α:Type}{c G:Prop} [Decidable c] {x y r:α} (h:(if c then x else y)=r) (h1:c->x=r->G) (h2:¬c->y=r->G):G:=by
 by_cases hc:c
 ·rw [if_pos hc]at h;exact h1 hc h
 ·rw [if_neg hc]at h;exact h2 hc h
theorem ok_el{α β:Type}{G:Prop}{x r:α}{y s:β}(h:Rs.ok (x,y)=some (.ok (r,s)))(k:x=r->y=s->G):G:=by cases h;exact k rfl rfl
theorem lift_el{α β:Type}{G:Prop}{x:Except Flt α}{k:α->Rs β}{r:β}(h:lift x k=some (.ok r))(g:∀a,x= .ok a->k a=some (.ok r)->G):G:=
 let⟨a,h1,h2⟩:=je h;g a h1 h2
theorem bind_el{α β:Type}{G:Prop}{x:Rs (α×Nat)}{k:α×Nat->Rs β}{r:β}(h:Rs.bind x k=some (.ok r))(g:∀a b,x=some (.ok (a,b))->k (a,b)=some (.ok r)->G):G:=
 let⟨(a,b),h1,h2⟩:=jc h;g a b h1 h2
def adv:Rule->Nat
 | .binGo _ _=>0
 | .postGo _=>0
 |_=>1
def AdvOK(one:Nat->Rs (qu×Nat)):Prop:=∀a t b,one a=some (.ok (t,b))->a+1<=b
theorem YE{l:List Tok}{one:Nat->Rs (qu×Nat)}(ho:AdvOK one):∀n a xs b,rowGo l one n a=some (.ok (xs,b))->a+1<=b
 |0,_,_,_,h=>by simp [rowGo]at h
 |n+1,a,xs,b,h=>by
  unfold rowGo at h;obtain⟨⟨x,c⟩,h1,h⟩:=jc h
  have h1:=ho _ _ _ h1
  dsimp only at h
  split at h
  ·obtain⟨⟨ys,d⟩,h2,h⟩:=jc h
   have:=YE ho n _ _ _ h2
   cases h;omega
  ·obtain⟨d,h2,h⟩:=je h
   have:=need_ok h2
   cases h;omega
theorem row_adv{l:List Tok}{one:Nat->Rs (qu×Nat)}(ho:AdvOK one){n a:Nat}{xs:List qu}{b:Nat}(h:row l one n a=some (.ok (xs,b))):a+2<=b:=by
 unfold row at h;obtain⟨c,h1,h⟩:=je h
 have h1:=need_ok h1
 split at h
 ·cases h;omega
 ·have:=YE ho _ _ _ _ h;omega
theorem Xb{l:List Tok}{one:Nat->Rs (qu×Nat)}(ho:AdvOK one):∀n a xs b,listGo l one n a=some (.ok (xs,b))->a+1<=b
 |0,_,_,_,h=>by simp [listGo]at h
 |n+1,a,xs,b,h=>by
  unfold listGo at h;split at h
  ·cases h;omega
  ·obtain⟨⟨x,c⟩,h1,h⟩:=jc h
   have h1:=ho _ _ _ h1
   obtain⟨d,h2,h⟩:=je h
   have h2:=ends_ok h2
   obtain⟨⟨ys,e⟩,h3,h⟩:=jc h
   have:=Xb ho n _ _ _ h3
   cases h;omega
theorem list_adv{l:List Tok}{one:Nat->Rs (qu×Nat)}(ho:AdvOK one){n a:Nat}{xs:List qu}{b:Nat}(h:list l one n a=some (.ok (xs,b))):a+2<=b:=by
 unfold list at h;obtain⟨c,h1,h⟩:=je h
 have h1:=need_ok h1
 have:=Xb ho _ _ _ _ h
 have:=gaps_le l c
 omega
theorem run_adv(l:List Tok):∀n rule d a t b,run l n rule d a=some (.ok (t,b))->a+adv rule<=b:=by
 intro n
 induction n with
 |zero=>intro rule d a t b h;simp [run]at h
 |succ n ih=>
  intro rule d a t b h;have go1:∀rule d,adv rule=1->AdvOK (run l n rule d):=λrule d e a t b h=>by have:=ih _ _ _ _ _ h;omega
  have res1:∀{c d:Nat} {x:qu×Nat} {p:Prop} [Decidable p],(if p then run l n .typ d c else Rs.ok (none_,c))=some (.ok x)->c<=x.2:=λh=>by
   rcases jt h with⟨_,h⟩|⟨_,h⟩
   ·have:=ih .typ _ _ _ _ h;simp only [adv]at this;omega
   ·cases h;exact Nat.le_refl _
  cases rule<;>simp only [run]at h<;>simp only [adv]
  all_goals repeat' (with_reducible first
   |(refine ite_el h (λhc h=> ?_) (λhc h=> ?_))
   |exact(qo3 h).elim
   |(refine ok_el h λh1 h2=> ?_;omega)
   |(refine lift_el h λc h1 h=> ?_;first|(replace h1:=need_ok h1)|(replace h1:=name_ok h1))
   |(refine bind_el h λx c h1 h=> ?_;first|(replace h1:=row_adv (go1 _ _ rfl) h1)|(replace h1:=list_adv (go1 _ _ rfl) h1)|(replace h1:=ih _ _ _ _ _ h1;simp only [adv]at h1)|(replace h1:=res1 h1;dsimp only at h1))
   |(replace h:=ih _ _ _ _ _ h;simp only [adv]at h;omega))
end Ps
namespace Ps
def rk:Rule->Nat
 | .stmt=>8
 | .expr=>6
 | .binary _=>5
 | .unary=>4
 | .post=>3
 | .prime=>2
 | .ifs=>1
 | .block=>1
 |_=>0
end Ps
namespace Ps
theorem scan_fuel:∀f g s line col out,s.length<=f->s.length<=g->Pt.scan f s line col out=Pt.scan g s line col out
 |f,g,[],line,col,out,_,_=>by cases f<;>cases g<;>rfl
 |0,_,_::_,_,_,_,h,_=>by simp at h
 |_,0,_::_,_,_,_,_,h=>by simp at h
 |f+1,g+1,c::s,line,col,out,h,h'=>by
  have hs:s.length<=f:=by simpa using h
  have hs':s.length<=g:=by simpa using h'
  rw [Pt.scan,Pt.scan];split
  ·congr 1;funext o;exact scan_fuel f g s _ _ o hs hs'
  ·split
   ·exact scan_fuel f g s _ _ out hs hs'
   ·split
    ·exact scan_fuel f g _ _ _ out (by simp;omega) (by simp;omega)
    ·cases Pt.one c s with
     |error e=>rfl
     |ok r=>
      obtain⟨kd,tx,v,n⟩:=r
      dsimp only
      congr 1;funext o;exact scan_fuel f g _ _ _ o (by simp;omega) (by simp;omega)
end Ps
namespace Ps
section
variable{l:List Tok}{k:Int->Int}{n a:Nat}
theorem Qc{α β:Type}{x:Except Flt α}{f:α->Except Flt β}{r:β}(h:(x>>=f)= .ok r):∃a,x= .ok a/\f a= .ok r:=by
 cases x with
 |error e=>cases h
 |ok a=>exact⟨a,rfl,h⟩
end
end Ps
namespace Pt
def key(t:Tok):Int×List UInt8×Int:=(t.kind,t.text,t.n)
abbrev Key:=Int×List UInt8×Int
end Pt
namespace Pl
open Pt (Key key)
def dig(i:Nat):List UInt8:=if i<10 then [UInt8.ofNat (48+i)]else [UInt8.ofNat (48+i / 10),UInt8.ofNat (48+i % 10)]
def prm:Nat->List UInt8
 |0=>[]
 |i+1=>prm i++((if 0<i then [44,32]else [])++(112::(dig i++[32,105,110,116])))
def ji(m:Nat):List UInt8:=[102,117,110,99,32,102,40]++(prm m++[41,32,123,10])
def qv8(i:Nat)(b:Bool):List UInt8:=[112,114,105,110,116,40]++(dig i++([41,10]++if b then [59,59,10,59]else []))
def body(sem:Nat->Bool):Nat->List UInt8
 |0=>[]
 |i+1=>body sem i++qv8 i (sem i)
def qvp:List UInt8:=[125,10,59,59,10]
def text(m n:Nat)(sem:Nat->Bool):List UInt8:=ji m++(body sem n++qvp)
end Pl
namespace Pt
abbrev Ob:=List UInt8
def QT:Nat->Ob->Int->Int->List Tok->Except Flt (List Tok×Int×Int)
 |_,[],line,col,out=> .ok (out,line,col)
 |0,_::_,_,_,_=> .error ⟨0,0,0⟩
 |n+1,c::s,line,col,out=>
  if c=10 then do
   let out <-putEnd out line col
   QT n s (line+1) 1 out
  else if c=32\/c=9\/c=13 then QT n s line (col+1) out
  else if c=47/\s.head?=some 47 then
   let w:=s.takeWhile λc=>c !=10
   QT n (s.drop w.length) line (col+1+w.length) out
  else match one c s with
   | .error e=> .error ⟨line,col,e⟩
   | .ok (kind,text,v,k)=>do
    let out <-put out ⟨kind,text,v,line,col⟩
    QT n (s.drop (k - 1)) line (col+k) out
def Nl(p:Ob):Prop:=p=[]\/∃q,p=q++[10]
theorem qtu{p:Ob}(h:Nl p)(hp:p≠[]):(10:UInt8)∈p:=by
 rcases h with h|⟨q,rfl⟩
 ·exact absurd h hp
 ·simp
theorem qaa{p:Ob}(h:Nl p)(k:Nat):Nl (p.drop k):=by
 rcases h with rfl|⟨q,rfl⟩
 ·exact .inl (by simp)
 ·by_cases hk:k<=q.length
  ·exact .inr ⟨q.drop k,by rw [List.drop_append_of_le_length hk]⟩
  ·exact .inl (by apply List.drop_eq_nil_of_le;simp;omega)
theorem qur{c:UInt8}{s:Ob}(h:Nl (c::s)):Nl s:=by have:=qaa h 1;simpa using this
theorem qqi{c:UInt8}{s:Ob}(h:Nl (c::s))(hc:c≠10):(10:UInt8)∈s:=by
 have:=qtu h (by simp)
 rcases List.mem_cons.1 this with e|e
 ·exact absurd e.symm hc
 ·exact e
section
variable{α:Type}{P:α->Bool}{x:α}
theorem JZ:∀{s r:List α},x∈s->P x=false->(s++r).takeWhile P=s.takeWhile P
 |[],_,h,_=>by cases h
 |y::s,r,h,hx=>by
  rw [List.cons_append,List.takeWhile_cons,List.takeWhile_cons];by_cases hy:P y=true
  ·rw [if_pos hy,if_pos hy];rcases List.mem_cons.1 h with rfl|h
   ·rw [hx]at hy;cases hy
   ·rw [JZ h hx]
  ·rw [if_neg hy,if_neg hy]
theorem ZZ:∀{s:List α},x∈s->P x=false->x∈s.drop (s.takeWhile P).length
 |[],h,_=>by cases h
 |y::s,h,hx=>by
  rw [List.takeWhile_cons];by_cases hy:P y=true
  ·rw [if_pos hy];rcases List.mem_cons.1 h with rfl|h
   ·rw [hx]at hy;cases hy
   ·exact ZZ h hx
  ·rw [if_neg hy];exact h
theorem Zd{s:List α}(h:x∈s)(hx:P x=false):(s.takeWhile P).length<=s.length:=(List.takeWhile_prefix P).length_le
end
theorem qhk:∀{s r:Ob} {v:Nat},(10:UInt8)∈s->numGo v (s++r)=numGo v s
 |[],_,_,h=>by cases h
 |c::s,r,v,h=>by
  rw [List.cons_append];unfold numGo;by_cases hc:digit c=true
  ·rw [if_pos hc,if_pos hc];have h:(10:UInt8)∈s:=by
    rcases List.mem_cons.1 h with e|e
    ·rw [<-e]at hc;exact absurd hc (by decide)
    ·exact e
   rw [qhk h]
  ·rw [if_neg hc,if_neg hc]
theorem Wq:∀(m:Nat) {s r:Ob} {n:Nat} {out:Ob},s.length<=m->(10:UInt8)∈s->textGo n out (s++r)=textGo n out s/\∀w k,textGo n out s=some (w,k)->n+1<=k/\(10:UInt8)∈s.drop (k - n)
 |_,[],_,_,_,_,h=>by cases h
 |0,_::_,_,_,_,h,_=>by simp at h
 |m+1,c::s,r,n,out,hm,h=>by
  have hm:s.length<=m:=by simpa using hm
  have hs:c≠10->(10:UInt8)∈s:=λhc=>by
   rcases List.mem_cons.1 h with e|e
   ·exact absurd e.symm hc
   ·exact e
  rw [List.cons_append];unfold textGo;by_cases h1:c=34/\out.length<=2000
  ·rw [if_pos h1,if_pos h1];refine⟨rfl,λw k e=> ?_⟩
   injection e with e
   injection e with e1 e2
   subst e2;refine⟨Nat.le_refl _,?_⟩
   rw [show n+1 - n=1 by omega]
   exact hs (by rw [h1.1];decide)
  ·rw [if_neg h1,if_neg h1];by_cases h2:c=92
   ·rw [if_pos h2,if_pos h2];have hs:=hs (by rw [h2];decide)
    cases s with
    |nil=>cases hs
    |cons e s'=>
     have hm':s'.length<=m:=by simp at hm;omega
     have hs':e≠10->(10:UInt8)∈s':=λhe=>by
      rcases List.mem_cons.1 hs with q|q
      ·exact absurd q.symm he
      ·exact q
     have go (o:Ob) (he:e≠10):textGo (n+2) o (s'++r)=textGo (n+2) o s'/\∀w k,textGo (n+2) o s'=some (w,k)->n+1<=k/\(10:UInt8)∈(c::e::s').drop (k - n):=by
      obtain⟨g1,g2⟩:=Wq m (n:=n+2) (out:=o) (r:=r) hm' (hs' he)
      refine⟨g1,λw k e'=> ?_⟩
      obtain⟨q1,q2⟩:=g2 w k e'
      refine⟨by omega,?_⟩
      rw [show k - n=(k - (n+2))+1+1 by omega]
      exact q2
     show(if e=110 then textGo (n+2) (out++[10]) (s'++r)else if e=116 then textGo (n+2) (out++[9]) (s'++r)else if e=34\/e=92 then textGo (n+2) (out++[e]) (s'++r)else none)=
      (if e=110 then textGo (n+2) (out++[10]) s' else if e=116 then textGo (n+2) (out++[9]) s' else if e=34\/e=92 then textGo (n+2) (out++[e]) s' else none)/\_
     by_cases e1:e=110
     ·simp only [if_pos e1]
      exact go _ (by rw [e1];decide)
     ·simp only [if_neg e1]
      by_cases e2:e=116
      ·simp only [if_pos e2]
       exact go _ (by rw [e2];decide)
      ·simp only [if_neg e2]
       by_cases e3:e=34\/e=92
       ·simp only [if_pos e3]
        exact go _ (by rcases e3 with e3|e3<;>(rw [e3];decide))
       ·rw [if_neg e3,if_neg e3];exact⟨rfl,λ_ _ h=>by cases h⟩
   ·rw [if_neg h2,if_neg h2];by_cases h3:c<32\/126<c\/c=34
    ·rw [if_pos h3,if_pos h3];exact⟨rfl,λ_ _ h=>by cases h⟩
    ·rw [if_neg h3,if_neg h3];have hc:c≠10:=λe=>h3 (.inl (by rw [e];decide))
     obtain⟨g1,g2⟩:=Wq m (n:=n+1) (out:=out++[c]) (r:=r) hm (hs hc)
     refine⟨g1,λw k e'=> ?_⟩
     obtain⟨q1,q2⟩:=g2 w k e'
     refine⟨by omega,?_⟩
     rw [show k - n=(k - (n+1))+1 by omega]
     exact q2
theorem qmn(c e:UInt8)(h:[c,e]∈pairs):e≠10:=by
 intro he;subst he;unfold pairs at h;simp at h
theorem qpy{c:UInt8}{s r:Ob}(h:(10:UInt8)∈s):one c (s++r)=one c s/\∀kind text v k,one c s= .ok (kind,text,v,k)->(10:UInt8)∈s.drop (k - 1):=by
 have hl:(letter 10||digit 10)=false:=by decide
 have hd:digit 10=false:=by decide
 unfold one;by_cases h1:letter c=true
 ·simp only [if_pos h1]
  have e:=JZ (P:=λc=>letter c||digit c) (r:=r) h hl
  rw [e];refine⟨rfl,λkind text v k q=> ?_⟩
  injection q with q
  injection q with _ q
  injection q with _ q
  injection q with _ q
  rw [<-q];exact ZZ h hl
 ·simp only [if_neg h1]
  by_cases h2:digit c=true
  ·simp only [if_pos h2]
   have e1:numGo 0 (c::(s++r))=numGo 0 (c::s):=by
    have:=qhk (s:=c::s) (r:=r) (v:=0) (.tail _ h)
    rwa [List.cons_append]at this
   have e2:=JZ (P:=digit) (r:=r) h hd
   rw [e1,e2];refine⟨rfl,λkind text v k q=> ?_⟩
   cases hn:numGo 0 (c::s)with
   |none=>rw [hn]at q;cases q
   |some w=>
    rw [hn]at q
    injection q with q
    injection q with _ q
    injection q with _ q
    injection q with _ q
    rw [<-q,show 1+(s.takeWhile digit).length - 1=(s.takeWhile digit).length by omega]
    exact ZZ h hd
  ·simp only [if_neg h2]
   by_cases h3:c=34
   ·simp only [if_pos h3]
    obtain⟨g1,g2⟩:=Wq s.length (n:=1) (out:=[]) (r:=r) lR h
    rw [g1];refine⟨rfl,λkind text v k q=> ?_⟩
    cases ht:textGo 1 [] s with
    |none=>rw [ht]at q;cases q
    |some p=>
     obtain⟨w,m⟩:=p
     rw [ht]at q
     injection q with q
     injection q with _ q
     injection q with _ q
     injection q with _ q
     rw [<-q];exact(g2 w m ht).2
   ·simp only [if_neg h3]
    cases s with
    |nil=>cases h
    |cons e s'=>
     rw [List.cons_append];refine⟨rfl,λkind text v k q=> ?_⟩
     unfold sign at q;simp only at q
     by_cases p1:[c,e]∈pairs
     ·rw [if_pos p1]at q
      injection q with q
      injection q with _ q
      injection q with _ q
      injection q with _ q
      rw [<-q];show(10:UInt8)∈s'
      rcases List.mem_cons.1 h with q|q
      ·exact absurd q.symm (qmn c e p1)
      ·exact q
     ·rw [if_neg p1]at q;have fin:(Except.ok (1,[59],0,1):Except Int (Int×List UInt8×Int×Nat))= .ok (kind,text,v,k)\/(Except.ok (6,[c],0,1):Except Int (Int×List UInt8×Int×Nat))= .ok (kind,text,v,k)->(10:UInt8)∈(e::s').drop (k - 1):=by
       rintro(q|q)<;>
       ·injection q with q
        injection q with _ q
        injection q with _ q
        injection q with _ q
        rw [<-q];exact h
      by_cases p2:c=59
      ·rw [if_pos p2]at q;exact fin (.inl q)
      ·rw [if_neg p2]at q;by_cases p3:c∈signs
       ·rw [if_pos p3]at q;exact fin (.inr q)
       ·rw [if_neg p3]at q;cases q
theorem Ww{s r:Ob}{k:Nat}(h:(10:UInt8)∈s.drop k):(s++r).drop k=s.drop k++r:=by
 have:k<=s.length:=by
  by_cases hk:k<=s.length
  ·exact hk
  ·rw [List.drop_eq_nil_of_le (by omega)]at h;cases h
 exact List.drop_append_of_le_length this
theorem scan_app:∀(f:Nat) (p r:Ob) (line col:Int) (out:List Tok) (g:Nat),Nl p->(p++r).length<=f->r.length<=g->scan f (p++r) line col out=(QT f p line col out>>=λx=>scan g r x.2.1 x.2.2 x.1)
 |f,[],r,line,col,out,g,_,hf,hg=>by
  have e:QT f [] line col out= .ok (out,line,col):=by cases f<;>rfl
  rw [e];show scan f r line col out=scan g r line col out
  exact Ps.scan_fuel f g r line col out (by simpa using hf) hg
 |0,c::s,r,line,col,out,g,_,hf,_=>by simp at hf
 |f+1,c::s,r,line,col,out,g,hn,hf,hg=>by
  have hf:(s++r).length<=f:=by simpa using hf
  have hn':=qur hn
  have hdl (k:Nat) (h:(10:UInt8)∈s.drop k):(s.drop k++r).length<=f:=by
   rw [<-Ww h];rw [List.length_drop];omega
  rw [List.cons_append,scan,QT];by_cases h1:c=10
  ·rw [if_pos h1,if_pos h1];cases putEnd out line col with
   |error e=>rfl
   |ok o=>exact scan_app f s r (line+1) 1 o g hn' hf hg
  ·rw [if_neg h1,if_neg h1];have hm:=qqi hn h1
   by_cases h2:c=32\/c=9\/c=13
   ·rw [if_pos h2,if_pos h2];exact scan_app f s r line (col+1) out g hn' hf hg
   ·rw [if_neg h2,if_neg h2];have hh:(s++r).head?=s.head?:=by
     cases s with
     |nil=>cases hm
     |cons e s'=>rfl
    rw [hh];by_cases h3:c=47/\s.head?=some 47
    ·rw [if_pos h3,if_pos h3];have hx:((10:UInt8) !=10)=false:=by decide
     have e1:=JZ (P:=λc:UInt8=>c !=10) (r:=r) hm hx
     have e2:=ZZ (P:=λc:UInt8=>c !=10) hm hx
     simp only [e1]
     rw [Ww e2];exact scan_app f _ r line _ out g (qaa hn' _) (hdl _ e2) hg
    ·rw [if_neg h3,if_neg h3];obtain⟨o1,o2⟩:=qpy (c:=c) (r:=r) hm
     rw [o1];cases ho:one c s with
     |error e=>rfl
     |ok q=>
      obtain⟨kind,text,v,k⟩:=q
      have hk:=o2 kind text v k ho
      simp only [Ww hk]
      cases put out ⟨kind,text,v,line,col⟩with
      |error e=>rfl
      |ok o=>exact scan_app f _ r line _ o g (qaa hn' _) (hdl _ hk) hg
def scanR:Nat->Ob->Int->Int->Bool->Option (List Tok×Int×Int)
 |_,[],line,col,_=>some ([],line,col)
 |0,_::_,_,_,_=>none
 |n+1,c::s,line,col,e=>
  if c=10 then match e with
   |true=>(scanR n s (line+1) 1 false).map λx=>(semi line col::x.1,x.2)
   |false=>scanR n s (line+1) 1 false
  else if c=32\/c=9\/c=13 then scanR n s line (col+1) e
  else if c=47/\s.head?=some 47 then scanR n (s.drop (s.takeWhile λc=>c !=10).length) line (col+1+(s.takeWhile λc=>c !=10).length) e
  else match one c s with
   | .error _=>none
   | .ok (kind,text,v,k)=>(scanR n (s.drop (k - 1)) line (col+k) (endsTok ⟨kind,text,v,line,col⟩)).map λx=>(⟨kind,text,v,line,col⟩::x.1,x.2)
theorem scanR_fuel:∀f g s line col e,s.length<=f->s.length<=g->scanR f s line col e=scanR g s line col e
 |f,g,[],line,col,e,_,_=>by cases f<;>cases g<;>rfl
 |0,_,_::_,_,_,_,h,_=>by simp at h
 |_,0,_::_,_,_,_,_,h=>by simp at h
 |f+1,g+1,c::s,line,col,e,h,h'=>by
  have hs:s.length<=f:=by simpa using h
  have hs':s.length<=g:=by simpa using h'
  have ih (k:Nat) (l c:Int) (e:Bool):scanR f (s.drop k) l c e=scanR g (s.drop k) l c e:=scanR_fuel f g _ l c e (by simp;omega) (by simp;omega)
  have ih0 (l c:Int) (e:Bool):scanR f s l c e=scanR g s l c e:=scanR_fuel f g _ l c e hs hs'
  unfold scanR;simp only [ih,ih0]
theorem scan_P:∀(f:Nat) (p:Ob) (line col:Int) (out:List Tok),p.length<=f->scan f p line col out=(QT f p line col out>>=λx=>scan 0 [] x.2.1 x.2.2 x.1)
 |f,[],line,col,out,_=>by
  have e:QT f [] line col out= .ok (out,line,col):=by cases f<;>rfl
  rw [e];show scan f [] line col out=scan 0 [] line col out
  exact Ps.scan_fuel f 0 [] line col out (Nat.zero_le _) lR
 |0,c::s,line,col,out,h=>by simp at h
 |f+1,c::s,line,col,out,h=>by
  have h:s.length<=f:=by simpa using h
  have hd (k:Nat):(s.drop k).length<=f:=by rw [List.length_drop];omega
  rw [scan,QT];by_cases h1:c=10
  ·rw [if_pos h1,if_pos h1];cases putEnd out line col with
   |error e=>rfl
   |ok o=>exact scan_P f s (line+1) 1 o h
  ·rw [if_neg h1,if_neg h1];by_cases h2:c=32\/c=9\/c=13
   ·rw [if_pos h2,if_pos h2];exact scan_P f s line (col+1) out h
   ·rw [if_neg h2,if_neg h2];by_cases h3:c=47/\s.head?=some 47
    ·rw [if_pos h3,if_pos h3];exact scan_P f _ line _ out (hd _)
    ·rw [if_neg h3,if_neg h3];cases ho:one c s with
     |error e=>rfl
     |ok q=>
      obtain⟨kind,text,v,k⟩:=q
      dsimp only
      cases put out ⟨kind,text,v,line,col⟩with
      |error e=>rfl
      |ok o=>exact scan_P f _ line _ o (hd _)
theorem ends_snoc{out:List Tok}{t:Tok}:ends (out++[t])=endsTok t:=by unfold ends;simp
theorem put_room{out:List Tok}{t:Tok}(h:out.length<4000):put out t= .ok (out++[t]):=by unfold put;rw [if_neg (by omega)]
theorem scanR_P:∀(f:Nat) (p:Ob) (line col:Int) (out:List Tok) (ts:List Tok) (l' c':Int),scanR f p line col (ends out)=some (ts,l',c')->out.length+ts.length<=4000->QT f p line col out= .ok (out++ts,l',c')
 |f,[],line,col,out,ts,l',c',h,_=>by
  have e:scanR f [] line col (ends out)=some ([],line,col):=by cases f<;>rfl
  rw [e]at h
  injection h with h
  injection h with h1 h
  injection h with h2 h3
  subst h1 h2 h3;rw [List.append_nil];cases f<;>rfl
 |0,c::s,line,col,out,ts,l',c',h,_=>by cases h
 |f+1,c::s,line,col,out,ts,l',c',h,hl=>by
  unfold scanR at h;rw [QT];by_cases h1:c=10
  ·rw [if_pos h1]at h ⊢;unfold putEnd;cases he:ends out with
   |true=>
    rw [he]at h;simp only [Option.map_eq_some_iff]at h
    obtain⟨⟨ts',l2,c2⟩,q1,q2⟩:=h
    injection q2 with q2 q3
    injection q3 with q3 q4
    subst q2 q3 q4;simp only [List.length_cons]at hl
    have e2:ends (out++[semi line col])=false:=by rw [ends_snoc];rfl
    rw [if_pos rfl,put_room (by omega)]
    rw [<-e2]at q1;have:=scanR_P f s (line+1) 1 (out++[semi line col]) ts' l2 c2 q1 (by simp;omega)
    rw [List.append_assoc]at this;exact this
   |false=>
    rw [he]at h;simp only at h
    rw [if_neg (by simp)]
    rw [<-he]at h;exact scanR_P f s (line+1) 1 out ts l' c' h hl
  ·rw [if_neg h1]at h ⊢;by_cases h2:c=32\/c=9\/c=13
   ·rw [if_pos h2]at h ⊢;exact scanR_P f s line (col+1) out ts l' c' h hl
   ·rw [if_neg h2]at h ⊢;by_cases h3:c=47/\s.head?=some 47
    ·rw [if_pos h3]at h ⊢;exact scanR_P f _ line _ out ts l' c' h hl
    ·rw [if_neg h3]at h ⊢;cases ho:one c s with
     |error e=>rw [ho]at h;cases h
     |ok q=>
      obtain⟨kind,text,v,k⟩:=q
      rw [ho]at h;simp only [Option.map_eq_some_iff]at h
      obtain⟨⟨ts',l2,c2⟩,q1,q2⟩:=h
      injection q2 with q2 q3
      injection q3 with q3 q4
      subst q2 q3 q4;simp only [List.length_cons]at hl
      simp only [put_room (show out.length<4000 by omega)]
      rw [<-ends_snoc (out:=out)]at q1;have:=scanR_P f _ line _ (out++[⟨kind,text,v,line,col⟩]) ts' l2 c2 q1 (by simp;omega)
      rw [List.append_assoc]at this;exact this
end Pt
namespace Ps
structure Dr(l l':List Tok)(k:Nat):Prop where
 tk:∀a,tk l (k+a)=tk l' a
 len:∀a,l.length - (k+a)=l'.length - a
def up{α:Type}(k:Nat):Rs (α×Nat)->Rs (α×Nat)
 |some (.ok x)=>some (.ok (x.1,k+x.2))
 |r=>r
def upN(k:Nat):Except Flt Nat->Except Flt Nat
 | .ok b=> .ok (k+b)
 |r=>r
section
variable{l l':List Tok}{k n:Nat}{α β:Type}
namespace Dr
section
variable(W:Dr l l' k)
include W
theorem is(s:List UInt8)(a:Nat):Ps.is l (k+a) s=Ps.is l' a s:=by unfold Ps.is;rw [W.tk]
theorem isTyp(a:Nat):Ps.isTyp l (k+a)=Ps.isTyp l' a:=by unfold Ps.isTyp;rw [W.is,W.is,W.is]
theorem flt(a:Nat)(e:Int):Ps.flt l (k+a) e=Ps.flt l' a e:=by unfold Ps.flt;rw [W.tk]
theorem need(s:List UInt8)(a:Nat):Ps.need l (k+a) s=upN k (Ps.need l' a s):=by unfold Ps.need;rw [W.is,W.flt];split<;>rfl
theorem name(a:Nat):Ps.name l (k+a)=upN k (Ps.name l' a):=by unfold Ps.name;rw [W.tk,W.flt];split<;>rfl
theorem gapsN:∀n a,Ps.gapsN l n (k+a)=k+Ps.gapsN l' n a
 |0,a=>rfl
 |n+1,a=>by
  unfold Ps.gapsN;rw [W.is];split
  ·exact gapsN n (a+1)
  ·rfl
theorem gaps(a:Nat):Ps.gaps l (k+a)=k+Ps.gaps l' a:=by unfold Ps.gaps;rw [W.len,W.gapsN]
theorem ends(a:Nat):Ps.ends l (k+a)=upN k (Ps.ends l' a):=by
 unfold Ps.ends;rw [W.is,W.need,W.gaps];split
 ·rfl
 ·cases Ps.need l' a [59]with
  |error f=>rfl
  |ok b=>show Except.ok (Ps.gaps l (k+b))=_;rw [W.gaps];rfl
end
theorem bind{x:Rs (α×Nat)}{f g:α×Nat->Rs (β×Nat)}(h:∀t b,g (t,k+b)=up k (f (t,b))):Rs.bind (up k x) g=up k (Rs.bind x f):=by
 match x with
 |none=>rfl
 |some (.error _)=>rfl
 |some (.ok (t,b))=>exact h t b
theorem lift{x:Except Flt Nat}{f g:Nat->Rs (β×Nat)}(h:∀b,g (k+b)=up k (f b)):Ps.lift (upN k x) g=up k (Ps.lift x f):=by
 match x with
 | .error _=>rfl
 | .ok b=>exact h b
theorem ite{c:Prop} [Decidable c] {x y x' y':Rs (β×Nat)} (h:x'=up k x) (g:y'=up k y):(if c then x' else y')=up k (if c then x else y):=by
 by_cases hc:c
 ·rw [if_pos hc,if_pos hc];exact h
 ·rw [if_neg hc,if_neg hc];exact g
end Dr
section
variable{one one':Nat->Rs (qu×Nat)}(W:Dr l l' k)(ho:∀a,one (k+a)=up k (one' a))
include W ho
theorem qe2:∀n a,rowGo l one n (k+a)=up k (rowGo l' one' n a)
 |0,_=>rfl
 |n+1,a=>by
  unfold rowGo;rw [ho];refine Dr.bind λt b=> ?_
  simp only [W.is,W.need,Nat.add_assoc,qe2 n]
  exact Dr.ite (Dr.bind λ_ _=>rfl) (Dr.lift λ_=>rfl)
theorem qke(n a:Nat):row l one n (k+a)=up k (row l' one' n a):=by
 unfold row;rw [W.need];refine Dr.lift λb=> ?_
 simp only [W.is,qe2 W ho]
 exact Dr.ite rfl rfl
theorem Yp:∀n a,listGo l one n (k+a)=up k (listGo l' one' n a)
 |0,_=>rfl
 |n+1,a=>by
  unfold listGo;rw [ho,W.is];refine Dr.ite rfl (Dr.bind λt b=> ?_)
  simp only [W.ends]
  refine Dr.lift λc=> ?_
  simp only [Yp n]
  exact Dr.bind λ_ _=>rfl
theorem qov(n a:Nat):list l one n (k+a)=up k (list l' one' n a):=by
 unfold list;rw [W.need];refine Dr.lift λb=> ?_
 simp only [W.gaps]
 exact Yp W ho n _
end
set_option maxHeartbeats 4000000 in
theorem qb3(W:Dr l l' k):∀n rule d a,run l n rule d (k+a)=up k (run l' n rule d a):=by
 intro n
 induction n with
 |zero=>intro rule d a;rfl
 |succ n ih=>
  intro rule d a;have hrow (r:Rule) (d n' a:Nat):row l (run l n r d) n' (k+a)=up k (row l' (run l' n r d) n' a):=qke W (ih r d) n' a
  have hlist (r:Rule) (d n' a:Nat):list l (run l n r d) n' (k+a)=up k (list l' (run l' n r d) n' a):=qov W (ih r d) n' a
  have res (d b:Nat):(if((tk l' b).kind==2||isTyp l' b||is l' b [91])=true then up k (run l' n .typ d b)else Rs.ok (none_,k+b))=up k (if((tk l' b).kind==2||isTyp l' b||is l' b [91])=true then run l' n .typ d b else Rs.ok (none_,b)):=Dr.ite rfl rfl
  cases rule<;>simp only [run,Nat.add_assoc,W.is,W.isTyp,W.flt,W.tk,W.need,W.name,ih,hrow,hlist]
  all_goals repeat' (with_reducible first
   |(refine Dr.ite ?_ ?_)
   |(refine Dr.bind λt b=> ?_;try simp only [Nat.add_assoc,W.is,W.isTyp,W.flt,W.tk,W.need,W.name,ih,hrow,hlist,res])
   |(refine Dr.lift λb=> ?_;try simp only [Nat.add_assoc,W.is,W.isTyp,W.flt,W.tk,W.need,W.name,ih,hrow,hlist]))
  all_goals rfl
def upE(k:Nat):Except Flt (qu×Nat)->Except Flt (qu×Nat)
 | .ok x=> .ok (x.1,k+x.2)
 |r=>r
theorem qr5(W:Dr l l' k)(a:Nat):recv l (k+a)=upE k (recv l' a):=by
 unfold recv;simp only [Nat.add_assoc,W.is,W.name,W.tk]
 split
 ·cases name l' (a+1)with
  |error f=>rfl
  |ok b=>
   simp only [upN,bind,Except.bind,W.name,W.tk]
   cases name l' b with
   |error f=>rfl
   |ok c=>
    simp only [upN,W.need]
    cases need l' c [41]<;>rfl
 ·rfl
theorem qcx(W:Dr l l' k)(a:Nat):funcDecl l n (k+a)=up k (funcDecl l' n a):=by
 unfold funcDecl;rw [W.need,W.tk];refine Dr.lift λb=> ?_
 rw [qr5 W];cases recv l' b with
 |error f=>rfl
 |ok x=>
  obtain⟨rv,c⟩:=x
  show lift (name l (k+c)) _=up k (lift (name l' c) _)
  rw [W.name,W.tk];refine Dr.lift λd=> ?_
  rw [qke W (qb3 W n .param 0)];refine Dr.bind λps e=> ?_
  have h:result l n (k+e)=up k (result l' n e):=by
   unfold result;rw [W.tk,W.isTyp,W.is,qb3 W];exact Dr.ite rfl rfl
  dsimp only
  rw [h];refine Dr.bind λy f=> ?_
  dsimp only
  rw [qb3 W];exact Dr.bind λ_ _=>rfl
end
end Ps
end Go.Vs
end
section
namespace Go.Vs
variable [GTab]
structure qar(a:qa)(us:List qa):Prop where
 len:zw a=some us.length
 at_:∀i (h:i<us.length),∃p,qY a i 1=some p/\∀H,ld1 H p=some us[i]
def qt9(a:qa)(l:List Int):Prop:=zw a=some l.length/\∀i,i<l.length->∃p,qY a i 1=some p/\∀H,ld1 H p=some (.int .i64 (l.getD i 0))
theorem qar.ints{a:qa}{l:List Int}(h:qar a (l.map (.int .i64))):qt9 a l:=by
 refine⟨by rw [h.len,List.length_map],λi hi=> ?_⟩
 obtain⟨p,h1,h2⟩:=h.at_ i (by simpa using hi)
 exact⟨p,h1,λH=>by rw [h2];simp [List.getD,hi]⟩
end Go.Vs
end
section
namespace Go.Vs
open Go Go.ChangeShapes Go.WideShapes
def JL(W w':World):Prop:=w'.os=W.os/\w'.output=W.output/\W.heap.size<=w'.heap.size/\∀i,i<W.heap.size->w'.heap[i]?=W.heap[i]?
theorem JL.keptBut{W w':World}(h:JL W w')(may:MemPlace->Prop):W.keptBut w' may:=by
 refine⟨h.1,h.2.1,λi hi=> ?_⟩
 rw [h.2.2.2 i hi];cases e:W.heap[i]? with
 |none=>rfl
 |some o=>cases o<;>simp
theorem JL.frozen{W w':World}(h:JL W w')(a:Addr)(ha:a.block<W.heap.size):w'.frozen? a=W.frozen? a:=by
 simp only [World.frozen?,h.2.2.2 a.block ha]
theorem JL.cell{W w':World}(h:JL W w')(a:Addr)(ha:a.block<W.heap.size):w'.cell? a=W.cell? a:=by
 simp only [World.cell?,h.2.2.2 a.block ha]
theorem JL.sameAt{W w':World}(h:JL W w'){p:MemPlace}(hp:p.block<W.heap.size):W.sameAt w' p:=by
 cases p with
 |cell b off=>exact h.cell ⟨b,off,none⟩ hp
 |map b=>exact h.2.2.2 b hp
section
variable{H:Type}{enc:TypeId×Value->H}{P:Program}
theorem qai{f:Func}{s:ChangeSpec}{apart fresh handsOn Jb:Bool}{W W':World}{args:Array Value}{v:Value}{ds gs:List (DataW H)}{before pa pv:List MemPlace}
  (hW:DataW.Whole enc P f.params.toList s.vars apart W args.toList ds gs before)
  (hres:∀(b:Nat) (sp:Nat->Bool) (hd:Bool),DataW.TrodAll enc P W' b sp hd f.resultTypes.toList (v.resultList f.resultTypes.size) (s.fn H (ds++gs)).results [])
  (hargs:∀sp:Nat->Bool,(∀p∈before,sp p.block=true)->DataW.TrodAll enc P W' 0 sp true f.params.toList args.toList (s.fn H (ds++gs)).args pa)
  (hvars:∀sp:Nat->Bool,(∀p∈before,sp p.block=true)->DataW.TrodVars enc P W' sp s.vars (s.fn H (ds++gs)).vars pv)
  (hps:before=pa++pv) (hk:JL W W')
  (hok:∀(j:Nat) (t:TypeId) (r:Value),f.resultTypes[j]?=some t->(v.resultList f.resultTypes.size)[j]?=some r->Value.okWide P W' .any 0 t r):
  s.post enc P f apart fresh handsOn Jb W args v W':=by
 have hlt:∀p∈before,p.block<W.heap.size:=λp hp=>hW.lt p hp
 have hold:∀p∈before,(λb=>decide (b<W.heap.size)) p.block=true:=λp hp=>by simpa using hlt p hp
 refine⟨ds,gs,before,[],pa,pv,hW,hres _ _ _,hargs _ hold,hvars _ hold,hk.keptBut _,λ_=> ?_⟩
 obtain⟨_,_,_,_,_,hz,hn⟩:=hW
 refine⟨hok,_,_,([]++pa)++pv,⟨[]++pa,pv,trodAll_append (hargs _ (λ_ _=>rfl)) (hres _ _ _),hvars _ (λ_ _=>rfl),rfl,?_,?_⟩,?_⟩
 ·intro b off hp;have hb:MemPlace.cell b off∈before:=by rw [hps];simpa using hp
  rw [hk.frozen _ (hlt _ hb)];exact hz b off hb
 ·intro ha;have:=hn ha
  rw [hps]at this
  simpa using this
 ·intro p hp _;rw [hps]
  simpa using hp
def QE(P:Program):Bool:=(List.range P.types.size).all λt=>match P.underlying t with
 |some (.slice e)=>Nat.blt 0 (P.cellsOf e)&&Nat.blt e P.types.size
 |some (.pointer e)=>Nat.blt e P.types.size
 |some (.array _ e)=>Nat.blt e P.types.size
 |some (.map _ e)=>Nat.blt e P.types.size
 |some (.struct fs)=>fs.toList.all λf=>Nat.blt f.type P.types.size
 |_=>true
theorem vX{a b:Nat}(h:Nat.blt a b=true):a<b:=Nat.le_of_ble_eq_true h
theorem qf7(h:QE P=true){t:TypeId}(ht:t<P.types.size):(match P.underlying t with
 |some (.slice e)=>Nat.blt 0 (P.cellsOf e)&&Nat.blt e P.types.size
 |some (.pointer e)=>Nat.blt e P.types.size
 |some (.array _ e)=>Nat.blt e P.types.size
 |some (.map _ e)=>Nat.blt e P.types.size
 |some (.struct fs)=>fs.toList.all λf=>Nat.blt f.type P.types.size
 |_=>true)=true:=List.all_eq_true.1 h t (List.mem_range.2 ht)
theorem W8{w:World}{base:Nat}{sp:Nat->Bool}(hz:QE P=true){r r':TypeId->List Value->Option (DataW H×List MemPlace)}
  (hr:∀t cs x,t<P.types.size->r t cs=some x->(∀p∈x.2,sp p.block=true)->r' t cs=some x) {t:TypeId} {cs:List Value} {x:DataW H×List MemPlace} (hT:t<P.types.size)
  (h:DataW.trodStep enc P w base (λ_=>true) true r t cs=some x) (hs:∀p∈x.2,sp p.block=true):DataW.trodStep enc P w base sp true r' t cs=some x:=by
 have hcl:=qf7 hz hT
 unfold DataW.trodStep at h ⊢;split at h
 case h_1=>exact h
 case h_2=>exact h
 case h_3=>exact h
 case h_4=>exact h
 case h_5=>exact h
 case h_6 e a hu=>
  rw [hu]at hcl;simp only [Option.map_eq_some_iff,Option.bind_eq_some_iff]at h ⊢
  obtain⟨y,⟨cs',hc,hy⟩,rfl⟩:=h
  exact⟨y,⟨cs',hc,hr _ _ _ (vX hcl) hy (λp hp=>hs p (by simp [hp]))⟩,rfl⟩
 case h_7=>exact h
 case h_8 e a len cap hu=>
  rw [hu]at hcl
  dsimp only at hcl
  rw [Bool.and_eq_true]at hcl;simp only at h ⊢
  split at h
  ·rename_i hc;rw [if_pos hc];simp only [if_true,Option.map_eq_some_iff,Option.bind_eq_some_iff]at h ⊢
   obtain⟨elems,he,rest,hrest,rfl⟩:=h
   have hlen:elems.length=len:=by simpa using mapM_some_length he
   have hrl:rest.length=cap - len:=by simpa using mapM_some_length hrest
   have one:∀(i:Nat) (y:DataW H×List MemPlace),y∈elems++rest->
     (w.cells? base (a.add (i*P.cellsOf e)) (P.cellsOf e)).bind (r e)=some y->(w.cells? base (a.add (i*P.cellsOf e)) (P.cellsOf e)).bind (r' e)=some y:=by
    intro i y hy hv;simp only [Option.bind_eq_some_iff]at hv ⊢
    obtain⟨cs',hc',hy'⟩:=hv
    refine⟨cs',hc',hr _ _ _ (vX hcl.2) hy' (λp hp=>hs p ?_)⟩
    simp only [List.mem_append,List.mem_flatMap]
    right
    exact⟨y,by simpa using hy,hp⟩
   refine⟨elems,mapM_carry he (λi y _ hy=>one i y (by simp [hy])),rest,?_,rfl⟩
   by_cases hcap:cap=0
   ·have hr0:rest=[]:=List.length_eq_zero_iff.1 (by omega)
    have hcl:cap - len=0:=by omega
    subst hr0;split
    ·rw [hcl];rfl
    ·rfl
   ·have hpos:=vX hcl.1
    have hin:MemPlace.cell a.block (a.off+0)∈MemPlace.row a ((elems.length+rest.length)*P.cellsOf e):=MemPlace.mem_row.2 ⟨0,Nat.mul_pos (by omega) hpos,rfl⟩
    have hsp:sp a.block=true:=hs (.cell a.block (a.off+0)) (by simp only [List.mem_append];exact .inl hin)
    rw [if_pos hsp];exact mapM_carry hrest (λj y _ hy=>one (len+j) y (by simp [hy]))
  ·cases h
 case h_9 fs cs hu=>
  rw [hu]at hcl;split at h
  ·rename_i hc;rw [if_pos hc];simp only [Option.map_eq_some_iff]at h ⊢
   obtain⟨xs,hx,rfl⟩:=h
   exact⟨xs,mapM_carry hx (λf y hf hy hv=>hr _ _ _ (vX (List.all_eq_true.1 hcl f hf)) hv (λp hp=>hs p (List.mem_flatMap.2 ⟨y,hy,hp⟩))),rfl⟩
  ·cases h
 case h_10 n e cs hu=>
  rw [hu]at hcl;split at h
  ·rename_i hc;rw [if_pos hc];simp only [Option.map_eq_some_iff]at h ⊢
   obtain⟨xs,hx,rfl⟩:=h
   exact⟨xs,mapM_carry hx (λf y _ hy hv=>hr _ _ _ (vX hcl) hv (λp hp=>hs p (List.mem_flatMap.2 ⟨y,hy,hp⟩))),rfl⟩
  ·cases h
 case h_11=>exact h
 case h_12=>exact h
 case h_13=>exact h
 case h_14 k e b hu=>
  rw [hu]at hcl;split at h
  ·rename_i es clock hb;split at h
   ·rename_i hc;simp only [Option.bind_eq_some_iff]at h
    obtain⟨entries,he,hd⟩:=h
    split at hd
    ·rename_i hris;have hx:=Option.some.inj hd
     subst hx;simp only [if_pos hc,Option.bind_eq_some_iff]
     refine⟨entries,mapM_carry he (λx y _ hy hv=> ?_),by simp [hris]⟩
     simp only [Option.bind_eq_some_iff]at hv ⊢
     obtain⟨key,hk,hz⟩:=hv
     refine⟨key,hk,?_⟩
     split at hz
     ·rename_i hf;rw [if_pos hf];simp only [Option.map_eq_some_iff]at hz ⊢
      obtain⟨q,hq,rfl⟩:=hz
      exact⟨q,hr _ _ _ (vX hcl) hq (λp hp=>hs p (by simp only [List.mem_cons,List.mem_flatMap];right;exact⟨_,hy,hp⟩)),rfl⟩
     ·cases hz
    ·cases hd
   ·cases h
  ·cases h
 case h_15=>exact h
 case h_16=>exact h
 case h_17=>exact h
 case h_18=>exact h
 case h_19=>exact h
 case h_20=>exact h
 case h_21=>cases h
theorem qeu{w:World}{base:Nat}{sp:Nat->Bool}(hz:QE P=true):∀(n:Nat) (t:TypeId) (cs:List Value) (x:DataW H×List MemPlace),t<P.types.size->
  DataW.trod enc P w base (λ_=>true) true n t cs=some x->(∀p∈x.2,sp p.block=true)->DataW.trod enc P w base sp true n t cs=some x:=by
 intro n
 induction n with
 |zero=>intro t cs x _ h;simp [DataW.trod]at h
 |succ n ih=>
  intro t cs x hT h hs;rw [DataW.trod_step]at h ⊢;exact W8 hz ih hT h hs
theorem qi4{W W':World}{base:Nat}{sp:Nat->Bool}(hz:QE P=true)(hk:JL W W'){t:TypeId}(hT:t<P.types.size){v:Value}{d:DataW H}{ps:List MemPlace}
  (h:DataW.Trod enc P W base (λ_=>true) true t v d ps) (hlt:∀p∈ps,p.block<W.heap.size) (hsp:∀p∈ps,sp p.block=true):DataW.Trod enc P W' base sp true t v d ps:=by
 obtain⟨n,hn⟩:=h
 exact⟨n,DataW.trod_carry n _ _ _ (qeu hz n _ _ _ hT hn hsp) λp hp=>hk.sameAt (hlt p hp)⟩
theorem J2{W W':World}{base:Nat}{sp:Nat->Bool}(hz:QE P=true)(hk:JL W W'):∀{ts:List TypeId} {vs:List Value} {ds:List (DataW H)} {ps:List MemPlace},(ts.all λt=>Nat.blt t P.types.size)=true->
  DataW.TrodAll enc P W base (λ_=>true) true ts vs ds ps->(∀p∈ps,p.block<W.heap.size)->(∀p∈ps,sp p.block=true)->DataW.TrodAll enc P W' base sp true ts vs ds ps
 |[],[],[],_,_,h,_,_=>h
 |t::ts,_::_,_::_,_,hT,⟨p,q,h,hs,e⟩,hlt,hsp=>by
  subst e;rw [List.all_cons,Bool.and_eq_true]at hT;exact⟨p,q,qi4 hz hk (vX hT.1) h (λx hx=>hlt x (List.mem_append_left _ hx)) (λx hx=>hsp x (List.mem_append_left _ hx)),J2 hz hk hT.2 hs (λx hx=>hlt x (List.mem_append_right _ hx)) (λx hx=>hsp x (List.mem_append_right _ hx)),rfl⟩
theorem qiq{f:Func}{s:ChangeSpec}{apart fresh handsOn Jb:Bool}{W W':World}{args:Array Value}{v:Value}{ds:List (DataW H)}{before:List MemPlace}(hz:QE P=true)(hT:(f.params.toList.all λt=>Nat.blt t P.types.size)=true)
  (hv:s.vars=[]) (hW:DataW.Whole enc P f.params.toList s.vars apart W args.toList ds [] before)
  (hres:∀(b:Nat) (sp:Nat->Bool) (hd:Bool),DataW.TrodAll enc P W' b sp hd f.resultTypes.toList (v.resultList f.resultTypes.size) (s.fn H (ds++[])).results [])
  (hargs:(s.fn H (ds++[])).args=ds) (hvars:(s.fn H (ds++[])).vars=[]) (hk:JL W W')
  (hok:∀(j:Nat) (t:TypeId) (r:Value),f.resultTypes[j]?=some t->(v.resultList f.resultTypes.size)[j]?=some r->Value.okWide P W' .any 0 t r):
  s.post enc P f apart fresh handsOn Jb W args v W':=by
 have hlt:∀p∈before,p.block<W.heap.size:=λp hp=>hW.lt p hp
 have hW':=hW
 obtain⟨p,q,hA,hV,rfl,_,_⟩:=hW
 have hq:q=[]:=by
  rw [hv]at hV;exact hV
 subst hq;refine qai (pa:=p) (pv:=[]) hW' hres (λsp hsp=> ?_) (λsp hsp=> ?_) (by simp) hk hok
 ·rw [hargs];exact J2 hz hk hT hA (λx hx=>hlt x (by simp [hx])) λx hx=>hsp x (by simp [hx])
 ·rw [hv,hvars];rfl
end
def qd1:Value->qa
 | .int k n=> .int k n
 | .bool b=> .bool b
 | .string s=> .str s.data.toList
 |_=> .und
def qih(W:World)(g:Nat):Option (List qa):=match W.heap[g]? with
 |some (.cells c _ _)=>some (c.toList.map qd1)
 |_=>none
@[reducible] noncomputable def Jj(W:World):GTab:={tab:=qih W}
theorem qlk(σ:Sg)(v:Value):Den σ (qd1 v) v:=by
 cases v<;>first|exact .int _ _|exact .bool _|exact .und _|skip
 rename_i s;exact .str _
theorem qj1(W:World): @VO (Jj W) (λ_=>none) W:=by
 refine @VO.mk (Jj W) _ _ (λg l hg=> ?_) λb o' hb=>by cases hb
 have hg:qih W g=some l:=hg
 unfold qih at hg;split at hg
 ·rename_i c t fr hb;cases hg
  have hlt:g<W.heap.size:=by
   rcases Nat.lt_or_ge g W.heap.size with h|h
   ·exact h
   ·rw [Array.getElem?_eq_none h]at hb;cases hb
  refine⟨hlt,(λ_ _ e=>by cases e),λi v hv=> ?_⟩
  rw [List.getElem?_map,Array.getElem?_toList]at hv;cases hi:c[i]? with
  |none=>rw [hi]at hv;cases hv
  |some u=>
   rw [hi]at hv;cases hv
   exact⟨u,by simp [World.cell?,hb,hi],λτ=>qlk τ u⟩
 ·cases hg
theorem qos{us:List qa}(h:∀x,x∈us->∃n,x= .int .i64 n):∃l:List Int,us=l.map (.int .i64):=by
 induction us with
 |nil=>exact⟨[],rfl⟩
 |cons x us ih=>
  obtain⟨b,rfl⟩:=h _ (List.mem_cons_self ..)
  obtain⟨l,rfl⟩:=ih λx hx=>h x (List.mem_cons_of_mem _ hx)
  exact⟨b::l,rfl⟩
theorem qi6{H:Type}{enc:TypeId×Value->H}{P:Program}{W:World}{sp:Nat->Bool}{e:TypeId}{x:qa}{n:Nat}{u:Value}{y:DataW H×List MemPlace}(he:P.underlying e=some (.int .i64))(hx:x=qd1 u)(h:DataW.trod enc P W 0 sp true n e [u]=some y):∃m,x= .int .i64 m:=by
 obtain⟨m,hb,_⟩:=DataW.trod_int he h
 cases hb;exact⟨m,hx⟩
theorem qjc{H:Type}{enc:TypeId×Value->H}{P:Program}{W:World}{sp:Nat->Bool}{t e:TypeId}{v:Value}{d:DataW H}{ps:List MemPlace}(ht:P.underlying t=some (.slice e))(hc:P.cellsOf e=1)
  (hform:∃a len cap,v= .slice a len cap) (h:DataW.Trod enc P W 0 sp true t v d ps):
  ∃(a:qa) (us:List qa),(∀σ,Den σ a v)/\ @qar (Jj W) a us/\(qZ a=true/\us.length<=9223372036854775807)/\∀x,x∈us->∃(n:Nat) (u:Value) (y:DataW H×List MemPlace),x=qd1 u/\DataW.trod enc P W 0 sp true n e [u]=some y:=by
 obtain⟨a0,len0,cap0,rfl⟩:=hform
 obtain⟨fuel,hf⟩:=h
 rcases DataW.trod_slice ht hf with⟨hcs,_⟩|⟨a,len,cap,elems,rest,n,rfl,hcs,hx,_,hle,hmax,hlen,hel,_,_⟩
 ·simp [Value.cells]at hcs
  obtain⟨rfl,rfl,rfl⟩:=hcs
  exact⟨.nilSlice,[],λσ=>Den.nilSlice,@qar.mk (Jj W) _ _ rfl λi h=>by simp at h,⟨rfl,by simp⟩,λx hx=>by cases hx⟩
 ·simp [Value.cells]at hcs
  obtain⟨rfl,rfl,rfl⟩:=hcs
  have hcell:∀i,i<len0->∃u y,W.cell? (a.add i)=some u/\DataW.trod enc P W 0 sp true n e [u]=some y:=by
   intro i hi;have:=hel i hi
   rw [hc,Nat.mul_one,List.getElem?_eq_getElem (show i<elems.length by omega),Option.bind_eq_some_iff]at this
   obtain⟨cs,h1,h2⟩:=this
   have hl1:=(World.cells?_some h1).2.1
   obtain⟨u,rfl⟩:∃u,cs=[u]:=by
    match cs,hl1 with
    |[u],_=>exact⟨u,rfl⟩
    |[],h=>simp at h
    |_::_::_,h=>simp at h
   exact⟨u,_,cell_of_cells?_one h1,h2⟩
  by_cases hz:len0=0
  ·subst hz;exact⟨.gslice a.block a.off 0 1,[],λσ=>Den.gslice0,@qar.mk (Jj W) _ _ rfl λi h=>by simp at h,⟨rfl,by simp⟩,λx hx=>by cases hx⟩
  ·obtain⟨b,off,spot⟩:=a
   have hspot:spot=none:=by
    obtain⟨u,y,h1,_⟩:=hcell 0 (by omega)
    simpa [Addr.add]using World.cell?_spot h1
   subst hspot;have hat:∀i,i<len0->∃u y,W.cell? ⟨b,off+i,none⟩=some u/\DataW.trod enc P W 0 sp true n e [u]=some y:=λi hi=>by
    have:=hcell i hi
    rwa [Go.WideShapes.add_plain]at this
   obtain⟨c,tt,fr,hb⟩:∃c tt fr,W.heap[b]?=some (.cells c tt fr):=by
    obtain⟨u,y,h1,_⟩:=hat 0 (by omega)
    unfold World.cell? at h1
    dsimp only at h1
    cases hq:W.heap[b]? with
    |none=>rw [hq]at h1;cases h1
    |some o=>
     rw [hq]at h1;cases o with
     |cells c t fr=>exact⟨c,t,fr,rfl⟩
     |_=>cases h1
   have hci:∀i,i<len0->∃u y,c[off+i]?=some u/\DataW.trod enc P W 0 sp true n e [u]=some y:=λi hi=>by
    obtain⟨u,y,h1,h2⟩:=hat i hi
    refine⟨u,y,?_,h2⟩
    simpa [World.cell?,hb]using h1
   refine⟨.gslice b off len0 1,((c.toList.drop off).take len0).map qd1,λσ=>Den.gslice hle,@qar.mk (Jj W) _ _ ?_ λi h=> ?_,⟨rfl,?_⟩,λx hx=> ?_⟩
   ·have:((c.toList.drop off).take len0).length=len0:=by
     obtain⟨u,y,h1,_⟩:=hci (len0 - 1) (by omega)
     have:=(Array.getElem?_eq_some_iff.1 h1).1
     simp;omega
    show some len0=_
    rw [List.length_map,this]
   ·simp only [List.length_map,List.length_take]at h
    have hi:i<len0:=by omega
    refine⟨.gptr b (off+i*1),?_,λH=> ?_⟩
    ·have:Nat.ble (Nat.succ i) len0=true:=Nat.ble_eq_true_of_le hi
     simp only [qY,this];rfl
    ·show(match qih W b with|some l=>l[off+i*1]?|none=>none)=_
     have:qih W b=some (c.toList.map qd1):=by unfold qih;rw [hb]
     rw [this];show(c.toList.map qd1)[off+i*1]?=_
     obtain⟨u,y,h1,_⟩:=hci i hi
     have hlt:=(Array.getElem?_eq_some_iff.1 h1).1
     rw [Nat.mul_one,List.getElem?_map,Array.getElem?_toList,h1];simp only [List.getElem_map,List.getElem_take,List.getElem_drop]
     have h3:=(Array.getElem?_eq_some_iff.1 h1).2
     simp [h3]
   ·have:len0<=9223372036854775807:=Nat.le_trans hle (Nat.le_trans hmax (by decide))
    simp only [List.length_map,List.length_take];omega
   ·obtain⟨u,hu,rfl⟩:=List.mem_map.1 hx
    obtain⟨i,hi⟩:=List.getElem?_of_mem hu
    rw [List.getElem?_take]at hi;split at hi
    ·rename_i hil;rw [List.getElem?_drop,Array.getElem?_toList]at hi;obtain⟨u',y,h1,h2⟩:=hci i hil
     rw [h1]at hi;cases hi
     exact⟨n,_,y,rfl,h2⟩
    ·cases hi
theorem qle{H:Type}{enc:TypeId×Value->H}{P:Program}{W:World}{sp:Nat->Bool}{t e:TypeId}{v:Value}{d:DataW H}{ps:List MemPlace}(ht:P.underlying t=some (.slice e))(hc:P.cellsOf e=1)
  (hform:∃a len cap,v= .slice a len cap) (h:DataW.Trod enc P W 0 sp true t v d ps):
  ∃(a:qa) (us:List qa),(∀σ,Den σ a v)/\ @qar (Jj W) a us/\∀x,x∈us->∃(n:Nat) (u:Value) (y:DataW H×List MemPlace),x=qd1 u/\DataW.trod enc P W 0 sp true n e [u]=some y:=
 let⟨a,us,h1,h2,_,h3⟩:=qjc ht hc hform h;⟨a,us,h1,h2,h3⟩
section
variable [GTab]
theorem qoo{w:World}(hg:VO (λ_=>none) w):Rel (λ_=>none) (qvg none) 0 w:=by
 refine⟨Nat.le_refl _,?_,?_,?_,?_,?_,hg⟩
 ·intro b cb sz e;cases e
 ·intro b o cb sz _ e;cases e
 ·intro b b' o o' cb sz sz' _ _ e;cases e
 ·intro b b' o o' p _ _ e;cases e
 ·intro b o p _ e;cases e
theorem qux{P:Program}{f:FuncId}{argsV:List qa}{args':List Value}{w:World}(h:qo P f argsV (qvg none) 0 (λe _ _=>e= .ret (.bool true)))
  (hg:VO (λ_=>none) w) (hd:zj (λ_=>none) argsV args'):Calls P f ⟨args'⟩ w λe w'=>e= .returned (.bool true)/\JL w w':=by
 refine h (λ_=>none) w args' _ (qoo hg) hd ?_
 intro e H' nx' σ' w' en k R1 E1 X1;subst k;cases en<;>try exact X1.elim
 rename_i v;have hv:Den σ' (.bool true) v:=X1
 cases hv
 exact⟨rfl,E1.os,E1.output,E1.size,λi hi=>E1.frame i hi λ_ _ e=>by cases e⟩
end
end Go.Vs
end
