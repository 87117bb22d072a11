/-
  Own work. Texts of a proof,laid together; no condition.
-/
import Derived.Laws.World
import Derived.Laws.Cells
import Derived.Orders
import Derived.Recover
import GoSem.Dispatch
import Derived.Laws.Strings
import Derived.Laws.Concat
import Derived.Lib.Strings
import Derived.IntWalk
import Derived.Laws.StructEq
import Derived.Laws.BytesString
import Derived.Laws.Append
import Derived.MapKept
import Derived.LoopN
import Derived.Tactics
set_option linter.unusedSectionVars false
set_option linter.unusedVariables false
set_option linter.unusedSimpArgs false
set_option maxRecDepth 1000000
theorem lR{n:Nat}:n<=n:=Nat.le_refl n
section
namespace Go.Vs
section
inductive qa where
 |und
 |bool (b:Bool)
 |int (k:IntKind) (n:Int)
 |str (s:List UInt8)
 |ptr (b off:Nat)
 |nilPtr
 |slice (b off len esz:Nat) (full:Bool)
 |nilSlice
 |map (b:Nat)
 |nilMap
 |func (fn:Fn) (first captured:List qa)
 |nilFunc
 |iface (t:TypeId) (v:qa)
 |nilIface
 |agg (cs:List qa)
 |tuple (vs:List qa)
 |gptr (g off:Nat)
 |gslice (g off len esz:Nat)
class GTab where
 tab:Nat->Option (List qa)
 blk:Nat->Option Obj:=λ_=>none
variable [GTab]
abbrev Sg:=Nat->Option (Nat×Nat)
def txt(s:List UInt8):ByteArray:=⟨s.toArray⟩
theorem yY(s:List UInt8):(txt s).size=s.length:=by show s.toArray.size=_;simp
theorem qdb(s:List UInt8):(txt s).data.toList=s:=rfl
mutual
inductive Den(σ:Sg):qa->Value->Prop
 |und (v:Value):Den σ .und v
 |bool (b:Bool):Den σ (.bool b) (.bool b)
 |int (k:IntKind) (n:Int):Den σ (.int k n) (.int k n)
 |str (s:List UInt8):Den σ (.str s) (.string (txt s))
 |ptr {b off cb sz:Nat} (h:σ b=some (cb,sz)):Den σ (.ptr b off) (.pointer (some ⟨cb,off,none⟩))
 |nilPtr:Den σ .nilPtr (.pointer none)
 |slice {b off len esz cb sz cap:Nat} {full:Bool} (h:σ b=some (cb,sz)) (h1:len<=cap) (h2:off+cap*esz<=sz) (h3:full=true->cap=len):
   Den σ (.slice b off len esz full) (.slice (some ⟨cb,off,none⟩) len cap)
 |slice0 {b off off' esz cb sz:Nat} {full:Bool} (h:σ b=some (cb,sz)):Den σ (.slice b off 0 esz full) (.slice (some ⟨cb,off',none⟩) 0 0)
 |nilSlice:Den σ .nilSlice (.slice none 0 0)
 |map {b cb sz:Nat} (h:σ b=some (cb,sz)):Den σ (.map b) (.map (some cb))
 |nilMap:Den σ .nilMap (.map none)
 |func {fn:Fn} {a b:List qa} {a' b':List Value} (h1:zj σ a a') (h2:zj σ b b'):Den σ (.func fn a b) (.func fn ⟨a'⟩ ⟨b'⟩)
 |nilFunc:Den σ .nilFunc .nilFunc
 |iface {t:TypeId} {v:qa} {v':Value} (h:Den σ v v'):Den σ (.iface t v) (.iface t v')
 |nilIface:Den σ .nilIface .nilIface
 |agg {a:List qa} {a':List Value} (h:zj σ a a'):Den σ (.agg a) (.agg ⟨a'⟩)
 |tuple {a:List qa} {a':List Value} (h:zj σ a a'):Den σ (.tuple a) (.tuple ⟨a'⟩)
 |gptr (g off:Nat):Den σ (.gptr g off) (.pointer (some ⟨g,off,none⟩))
 |gslice {g off len esz cap:Nat} (h:len<=cap):Den σ (.gslice g off len esz) (.slice (some ⟨g,off,none⟩) len cap)
 |gslice0 {g off esz cap:Nat} {a:Addr}:Den σ (.gslice g off 0 esz) (.slice (some a) 0 cap)
inductive zj(σ:Sg):List qa->List Value->Prop
 |nil:zj σ [] []
 |cons {v:qa} {v':Value} {l:List qa} {l':List Value} (h:Den σ v v') (t:zj σ l l'):zj σ (v::l) (v'::l')
end
mutual
theorem Den.mono{σ σ':Sg}(hs:∀b p,σ b=some p->σ' b=some p):∀{v:qa} {v':Value},Den σ v v'->Den σ' v v'
 |_,_,.und v=> .und v
 |_,_,.bool b=> .bool b
 |_,_,.int k n=> .int k n
 |_,_,.str s=> .str s
 |_,_,.ptr h=> .ptr (hs _ _ h)
 |_,_,.nilPtr=> .nilPtr
 |_,_,.slice h h1 h2 h3=> .slice (hs _ _ h) h1 h2 h3
 |_,_,.slice0 h=> .slice0 (hs _ _ h)
 |_,_,.nilSlice=> .nilSlice
 |_,_,.map h=> .map (hs _ _ h)
 |_,_,.nilMap=> .nilMap
 |_,_,.func h1 h2=> .func (zj.mono hs h1) (zj.mono hs h2)
 |_,_,.nilFunc=> .nilFunc
 |_,_,.iface h=> .iface (Den.mono hs h)
 |_,_,.nilIface=> .nilIface
 |_,_,.agg h=> .agg (zj.mono hs h)
 |_,_,.tuple h=> .tuple (zj.mono hs h)
 |_,_,.gptr g off=> .gptr g off
 |_,_,.gslice h=> .gslice h
 |_,_,.gslice0=> .gslice0
theorem zj.mono{σ σ':Sg}(hs:∀b p,σ b=some p->σ' b=some p):∀{v:List qa} {v':List Value},zj σ v v'->zj σ' v v'
 |_,_,.nil=> .nil
 |_,_,.cons h t=> .cons (Den.mono hs h) (zj.mono hs t)
end
theorem zj.length{σ:Sg}:∀{l:List qa} {l':List Value},zj σ l l'->l.length=l'.length
 |_,_,.nil=>rfl
 |_,_,.cons _ t=>by simp [zj.length t]
theorem zj.append{σ:Sg}:∀{l:List qa} {l':List Value} {m:List qa} {m':List Value},zj σ l l'->zj σ m m'->zj σ (l++m) (l'++m')
 |_,_,_,_,.nil,h=>h
 |_,_,_,_,.cons h t,h'=> .cons h (zj.append t h')
theorem zj.get{σ:Sg}:∀{l:List qa} {l':List Value},zj σ l l'->∀(i:Nat) (v:qa),l[i]?=some v->∃v',l'[i]?=some v'/\Den σ v v'
 |_,_,.nil,i,v,h=>by simp at h
 |_,_,.cons h t,0,v,e=>by simp at e;subst e;exact⟨_,by simp,h⟩
 |_,_,.cons h t,i+1,v,e=>by simp at e;simpa using zj.get t i v e
theorem zj.drop{σ:Sg}:∀{l:List qa} {l':List Value},zj σ l l'->∀n,zj σ (l.drop n) (l'.drop n)
 |_,_,.nil,n=>by simp;exact .nil
 |_,_,.cons h t,0=> .cons h t
 |_,_,.cons h t,n+1=>by simpa using zj.drop t n
theorem zj.take{σ:Sg}:∀{l:List qa} {l':List Value},zj σ l l'->∀n,zj σ (l.take n) (l'.take n)
 |_,_,.nil,n=>by simp;exact .nil
 |_,_,.cons h t,0=>by simp;exact .nil
 |_,_,.cons h t,n+1=>by simpa using zj.cons h (zj.take t n)
theorem zj.of_get{σ:Sg}:∀{l:List qa} {l':List Value},l.length=l'.length->(∀(i:Nat) (v:qa) (v':Value),l[i]?=some v->l'[i]?=some v'->Den σ v v')->zj σ l l'
 |[],[],_,_=> .nil
 |[],_::_,h,_=>by simp at h
 |_::_,[],h,_=>by simp at h
 |_::l,_::l',h,hh=> .cons (hh 0 _ _ (by simp) (by simp)) (zj.of_get (by simpa using h) λi v v' e e'=>hh (i+1) v v' (by simpa using e) (by simpa using e'))
abbrev CT:=List qa
namespace CT
def cap(c:CT):Nat:=c.length
def get(i:Nat)(c:CT):qa:=c.getD i .und
def set(i:Nat)(v:qa)(c:CT):CT:=List.set c i v
theorem YX(i:Nat)(v:qa)(c:CT):(set i v c).cap=c.cap:=by simp [set,cap]
theorem qau(i:Nat)(v:qa)(c:CT)(h:i<c.cap):get i (set i v c)=v:=by
 simp only [cap]at h
 simp [get,set,List.getD,h]
theorem qez(i j:Nat)(v:qa)(c:CT)(h:i≠j):get j (set i v c)=get j c:=by
 simp [get,set,List.getD,List.getElem?_set_ne h]
def ofL(n:Nat)(l:List qa):CT:=l++List.replicate (n - l.length) .und
theorem ofL_cap(n:Nat)(l:List qa){lim:Nat}(_h:n<=lim):n<=(ofL n l).cap:=by simp [ofL,cap];omega
theorem get_ofL(n:Nat)(l:List qa)(i:Nat){lim:Nat}(_h:n<=lim)(_hi:i<n):get i (ofL n l)=l.getD i .und:=by
 simp only [ofL,get,List.getD]
 by_cases h:i<l.length
 ·rw [List.getElem?_append_left h]
 ·rw [List.getElem?_append_right (by omega),List.getElem?_eq_none (by omega:l.length<=i),List.getElem?_replicate]
  split<;>rfl
theorem ofL_eq{n:Nat}{l:List qa}(h:l.length=n):ofL n l=l:=by subst h;simp [ofL]
def slab(c:CT)(n i:Nat):List qa:=(List.range n).map λj=>get (i+j) c
theorem slab_length(c:CT)(n i:Nat):(slab c n i).length=n:=by simp [slab]
theorem slab_get(c:CT)(n i j:Nat)(hj:j<n):(slab c n i)[j]?=some (get (i+j) c):=by simp [slab,hj]
theorem slab_eq{c:CT}{n i:Nat}(h:i+n<=c.length):slab c n i=(c.drop i).take n:=by
 refine List.ext_getElem? λj=> ?_
 by_cases hj:j<n
 ·rw [slab_get c n i j hj,List.getElem?_take_of_lt hj,List.getElem?_drop];simp [get,List.getElem?_eq_getElem (show i+j<c.length by omega)]
 ·rw [List.getElem?_eq_none (by rw [slab_length];omega),List.getElem?_eq_none (by simp;omega)]
def lay(l:List qa)(i:Nat)(c:CT):CT:=match l with
 |[]=>c
 |v::l=>lay l (i+1) (set i v c)
theorem Xp(v:qa)(l:List qa)(i:Nat)(c:CT):lay (v::l) i c=lay l (i+1) (set i v c):=rfl
theorem lay_cap:∀(l:List qa) (i:Nat) (c:CT),(lay l i c).cap=c.cap
 |[],_,_=>rfl
 |v::l,i,c=>by rw [Xp,lay_cap l,YX]
theorem lay_get:∀(l:List qa) (i:Nat) (c:CT) (j:Nat),i+l.length<=c.cap->j<c.cap->
  get j (lay l i c)=if i<=j/\j<i+l.length then l.getD (j - i) .und else get j c
 |[],i,c,j,_,_=>by
  have:¬(i<=j/\j<i+([]:List qa).length):=by simp
  rw [if_neg this];rfl
 |v::l,i,c,j,h,hj=>by
  simp only [List.length_cons]at h
  rw [Xp,lay_get l (i+1) (set i v c) j (by rw [YX];omega) (by rw [YX];exact hj)]
  by_cases h1:i=j
  ·subst h1;rw [if_neg (by omega),qau _ _ _ (by omega),if_pos (by simp)]
   simp
  ·by_cases h2:i+1<=j/\j<i+1+l.length
   ·rw [if_pos h2,if_pos (by simp;omega)]
    have e:j - i=(j - (i+1))+1:=by omega
    rw [e];simp
   ·rw [if_neg h2,qez _ _ _ _ h1,if_neg (by simp;omega)]
theorem lay_eq:∀{l:List qa} {i:Nat} {c:CT},i+l.length<=c.length->lay l i c=c.take i++l++c.drop (i+l.length)
 |[],i,c,_=>by simp [lay]
 |v::l,i,c,h=>by
  simp only [List.length_cons]at h
  rw [Xp,lay_eq (by simp [set];omega)]
  have e1:(set i v c).take (i+1)=c.take i++[v]:=by
   simp only [set]
   rw [List.take_add_one,List.take_set_of_le (by omega)]
   simp [show i<c.length by omega]
  have e2:(set i v c).drop (i+1+l.length)=c.drop (i+1+l.length):=by
   simp only [set];rw [List.drop_set_of_lt (by omega)]
  rw [e1,e2];simp [Nat.add_assoc,Nat.add_comm 1]
def widen(n:Nat)(c:CT):CT:=c++List.replicate (n - c.length) .und
theorem widen_cap(n:Nat)(c:CT){lim:Nat}(_h:n<=lim):n<=(widen n c).cap:=by simp [widen,cap];omega
theorem widen_get(n:Nat)(c:CT)(i:Nat)(_hi:i<c.cap):get i (widen n c)=get i c:=by
 simp only [widen,get,List.getD]
 by_cases h:i<c.length
 ·rw [List.getElem?_append_left h]
 ·rw [List.getElem?_append_right (by omega),List.getElem?_eq_none (by omega:c.length<=i),List.getElem?_replicate]
  split<;>rfl
end CT
end
end Go.Vs
end
section
namespace Go.Vs
variable [GTab]
structure qoe where
 key:qa
 val:qa
 born:Nat
inductive wD where
 |cells (n:Nat) (ct:CT) (olds:List Nat) (sup:Bool)
 |map (es:List qoe) (clock:Nat)
 |iter (m since:Nat) (seen:List Nat) (last:Nat)
def wD.olds:wD->List Nat
 | .cells _ _ o _=>o
 | .map _ _=>[]
 | .iter _ _ _ _=>[]
def wD.sup:wD->Bool
 | .cells _ _ _ s=>s
 | .map _ _=>false
 | .iter _ _ _ _=>false
abbrev qc:=Nat->Option wD
def zf(b:Nat)(H:qc):Option wD:=H b
def zS(b:Nat)(x:Option wD)(H:qc):qc:=λc=>if c=b then x else H c
def qvg(x:Option wD):qc:=λ_=>x
theorem qW(b:Nat)(x:Option wD)(H:qc):zf b (zS b x H)=x:=by simp [zf,zS]
inductive qd2(σ:Sg):List qoe->List MapEntry->Prop
 |nil:qd2 σ [] []
 |cons {e:qoe} {e':MapEntry} {l:List qoe} {l':List MapEntry} (hk:Den σ e.key e'.key) (hv:Den σ e.val e'.val) (hb:e'.born=e.born) (t:qd2 σ l l'):qd2 σ (e::l) (e'::l')
theorem qd2.mono{σ σ':Sg}(hs:∀b p,σ b=some p->σ' b=some p):∀{l:List qoe} {l':List MapEntry},qd2 σ l l'->qd2 σ' l l'
 |_,_,.nil=> .nil
 |_,_,.cons hk hv hb t=> .cons (hk.mono hs) (hv.mono hs) hb (qd2.mono hs t)
abbrev at'(cb i:Nat):Addr:=⟨cb,i,none⟩
def VE(σ:Sg)(o:wD)(cb sz:Nat)(w:World):Prop:=
 match o with
 | .cells n ct _ _=>n<=sz/\n<=ct.cap/\(∀i,i<sz->w.frozen? (at' cb i)=false/\∃v,w.cell? (at' cb i)=some v)/\
   (∀i,i<n->∃v',w.cell? (at' cb i)=some v'/\Den σ (ct.get i) v')
 | .map es clock=>∃es':Array MapEntry,w.heap[cb]?=some (.map es' clock)/\qd2 σ es es'.toList
 | .iter m since seen last=>∃mc ms,σ m=some (mc,ms)/\w.heap[cb]?=some (.mapIter (some mc) since seen.toArray last)
structure VO(σ:Sg)(w:World):Prop where
 var:∀g l,GTab.tab g=some l->g<w.heap.size/\(∀b sz,σ b≠some (g,sz))/\∀(i:Nat) (v:qa),l[i]?=some v->∃v',w.cell? (at' g i)=some v'/\∀τ:Sg,Den τ v v'
 blk:∀g o,GTab.blk g=some o->g<w.heap.size/\(∀b sz,σ b≠some (g,sz))/\w.heap[g]?=some o
theorem VO.of{σ σ':Sg}{w w':World}(h:VO σ w)(hs:w.heap.size<=w'.heap.size)(hb:∀i,i<w.heap.size->(∀b sz,σ b≠some (i,sz))->w'.heap[i]?=w.heap[i]?)
  (hr:∀b cb sz,σ' b=some (cb,sz)->cb<w.heap.size->∃b' sz',σ b'=some (cb,sz')):VO σ' w':=by
 refine⟨λg l hg=> ?_,λg o hg=> ?_⟩
 ·obtain⟨h1,h2,h3⟩:=h.var g l hg
  refine⟨Nat.lt_of_lt_of_le h1 hs,?_,?_⟩
  ·intro b sz e;obtain⟨b',sz',e'⟩:=hr b g sz e h1
   exact h2 b' sz' e'
  ·intro i v hv;obtain⟨v',e,d⟩:=h3 i v hv
   exact⟨v',by simpa [World.cell?,hb g h1 h2]using e,d⟩
 ·obtain⟨h1,h2,h3⟩:=h.blk g o hg
  refine⟨Nat.lt_of_lt_of_le h1 hs,?_,?_⟩
  ·intro b sz e;obtain⟨b',sz',e'⟩:=hr b g sz e h1
   exact h2 b' sz' e'
  ·rw [hb g h1 h2,h3]
structure Rel(σ:Sg)(H:qc)(nx:Nat)(w:World):Prop where
 lim:nx<=nx
 dom:∀b cb sz,σ b=some (cb,sz)->b<nx/\cb<w.heap.size
 obj:∀b o cb sz,zf b H=some o->σ b=some (cb,sz)->VE σ o cb sz w
 sep:∀b b' o o' cb sz sz',zf b H=some o->zf b' H=some o'->σ b=some (cb,sz)->σ b'=some (cb,sz')->b=b'\/b∈o'.olds\/b'∈o.olds
 sup:∀b b' o o' p,zf b H=some o->zf b' H=some o'->σ b'=some p->b∈o'.olds->o.sup=true
 old:∀b o p,zf b H=some o->σ b=some p->∀b',b'∈o.olds->∃p',σ b'=some p'
 glob:VO σ w
structure Ext(σ σ':Sg)(H H':qc)(nx nx':Nat)(w w':World):Prop where
 sub:∀b p,σ b=some p->σ' b=some p
 rng:∀b cb sz,σ' b=some (cb,sz)->cb<w.heap.size->∃b' sz',σ b'=some (cb,sz')
 pend:∀b,b<nx->σ b=none->σ' b=none/\zf b H'=zf b H
 le:nx<=nx'
 os:w'.os=w.os
 tape:w'.tape=w.tape
 output:w'.output=w.output
 size:w.heap.size<=w'.heap.size
 frame:∀i,i<w.heap.size->(∀b sz,σ b≠some (i,sz))->w'.heap[i]?=w.heap[i]?
 drawn:w.drawn<=w'.drawn
theorem Ext.refl(σ:Sg)(H:qc)(nx:Nat)(w:World):Ext σ σ H H nx nx w w:=
 ⟨λ_ _ h=>h,λb _ sz h _=>⟨b,sz,h⟩,λ_ _ h=>⟨h,rfl⟩,Nat.le_refl _,rfl,rfl,rfl,Nat.le_refl _,λ_ _ _=>rfl,Nat.le_refl _⟩
theorem Ext.trans{σ₁ σ₂ σ₃:Sg}{H₁ H₂ H₃:qc}{n₁ n₂ n₃:Nat}{w₁ w₂ w₃:World}(a:Ext σ₁ σ₂ H₁ H₂ n₁ n₂ w₁ w₂)(b:Ext σ₂ σ₃ H₂ H₃ n₂ n₃ w₂ w₃):
  Ext σ₁ σ₃ H₁ H₃ n₁ n₃ w₁ w₃ where
 sub:=λx p h=>b.sub x p (a.sub x p h)
 rng:=λx cb sz h hlt=>by
  obtain⟨b',sz',h'⟩:=b.rng x cb sz h (Nat.lt_of_lt_of_le hlt a.size)
  exact a.rng b' cb sz' h' hlt
 pend:=λx hx h=>by
  obtain⟨h1,h2⟩:=a.pend x hx h
  obtain⟨h3,h4⟩:=b.pend x (Nat.lt_of_lt_of_le hx a.le) h1
  exact⟨h3,h4.trans h2⟩
 le:=Nat.le_trans a.le b.le
 os:=b.os.trans a.os
 tape:=b.tape.trans a.tape
 output:=b.output.trans a.output
 size:=Nat.le_trans a.size b.size
 frame:=λi hi h=>by
  rw [b.frame i (Nat.lt_of_lt_of_le hi a.size),a.frame i hi h];intro x sz e;obtain⟨b',sz',h'⟩:=a.rng x i sz e hi
  exact h b' sz' h'
 drawn:=Nat.le_trans a.drawn b.drawn
theorem VE.mono{σ σ':Sg}{o:wD}{cb sz:Nat}{w:World}(hs:∀b p,σ b=some p->σ' b=some p)(h:VE σ o cb sz w):VE σ' o cb sz w:=by
 cases o with
 |cells n ct olds sup=>
  obtain⟨h1,h2,h3,h4⟩:=h
  exact⟨h1,h2,h3,λi hi=>let⟨v',e,d⟩:=h4 i hi;⟨v',e,d.mono hs⟩⟩
 |map es clock=>
  obtain⟨es',h1,h2⟩:=h
  exact⟨es',h1,h2.mono hs⟩
 |iter m since seen last=>
  obtain⟨mc,ms,h1,h2⟩:=h
  exact⟨mc,ms,hs _ _ h1,h2⟩
theorem VE.of_block{σ:Sg}{o:wD}{cb sz:Nat}{w w':World}(e:w'.heap[cb]?=w.heap[cb]?)(h:VE σ o cb sz w):VE σ o cb sz w':=by
 have e1:∀i,w'.cell? (at' cb i)=w.cell? (at' cb i):=λi=>by simp [World.cell?,e]
 have e2:∀i,w'.frozen? (at' cb i)=w.frozen? (at' cb i):=λi=>by simp [World.frozen?,e]
 cases o with
 |cells n ct olds sup=>
  obtain⟨h1,h2,h3,h4⟩:=h
  exact⟨h1,h2,λi hi=>by rw [e1,e2];exact h3 i hi,λi hi=>by rw [e1];exact h4 i hi⟩
 |map es clock=>
  obtain⟨es',h1,h2⟩:=h
  exact⟨es',e.trans h1,h2⟩
 |iter m since seen last=>
  obtain⟨mc,ms,h1,h2⟩:=h
  exact⟨mc,ms,h1,e.trans h2⟩
theorem Rel.drew{σ:Sg}{H:qc}{nx:Nat}{w:World}(h:Rel σ H nx w):Rel σ H nx {w with drawn:=w.drawn+1}:=
 ⟨h.lim,h.dom,λb o cb sz e1 e2=>(h.obj b o cb sz e1 e2).of_block rfl,h.sep,h.sup,h.old,h.glob.of lR (λ_ _ _=>rfl) λb _ sz e _=>⟨b,sz,e⟩⟩
theorem Ext.drew(σ:Sg)(H:qc)(nx:Nat)(w:World):Ext σ σ H H nx nx w {w with drawn:=w.drawn+1}:=
 ⟨λ_ _ h=>h,λb _ sz h _=>⟨b,sz,h⟩,λ_ _ h=>⟨h,rfl⟩,Nat.le_refl _,rfl,rfl,rfl,Nat.le_refl _,λ_ _ _=>rfl,Nat.le_succ _⟩
theorem jm{H:qc}{b b':Nat}{x:Option wD}(h:b≠b')(_:b<b+1)(_:b'<b'+1):zf b' (zS b x H)=zf b' H:=by
 have:¬b'=b:=λe=>h e.symm
 simp [zf,zS,this]
theorem Rel.pend{σ:Sg}{H:qc}{nx nx' b:Nat}{w:World}{x:Option wD}(h:Rel σ H nx w)(hb:σ b=none)(hn:nx<=nx')(hl:nx'<=nx')(hb2:b<b+1):
  Rel σ (zS b x H) nx' w:=by
 have ne:∀{c p},σ c=some p->zf c (zS b x H)=zf c H:=by
  intro c p hc;obtain⟨cb,sz⟩:=p
  have:=(h.dom c cb sz hc).1
  have:=h.lim
  exact jm (λe=>by subst e;rw [hb]at hc;cases hc) hb2 (by omega)
 refine⟨hl,λc cb sz hc=>⟨Nat.lt_of_lt_of_le (h.dom c cb sz hc).1 hn,(h.dom c cb sz hc).2⟩,?_,?_,?_,?_,h.glob⟩
 ·intro c o cb sz e1 e2;rw [ne e2]at e1;exact h.obj c o cb sz e1 e2
 ·intro c c' o o' cb sz sz' e1 e2 e3 e4;rw [ne e3]at e1;rw [ne e4]at e2;exact h.sep c c' o o' cb sz sz' e1 e2 e3 e4
 ·intro c c' o o' p e1 e2 e3 e4;rw [ne e3]at e2;obtain⟨p',hp'⟩:=h.old c' o' p e2 e3 c e4
  rw [ne hp']at e1;exact h.sup c c' o o' p e1 e2 e3 e4
 ·intro c o p e1 e2 c' e3;rw [ne e2]at e1;exact h.old c o p e1 e2 c' e3
theorem Rel.forget{σ:Sg}{H:qc}{nx b:Nat}{w:World}(h:Rel σ H nx w)(hb2:b<b+1):Rel σ (zS b none H) nx w:=by
 have key:∀c o,c<c+1->zf c (zS b none H)=some o->zf c H=some o:=by
  intro c o hc e;by_cases hcb:b=c
  ·subst hcb;rw [qW]at e;cases e
  ·rwa [jm hcb hb2 hc]at e
 have lt:∀{c p},σ c=some p->c<c+1:=λ{c p} hc=>by obtain⟨cb,sz⟩:=p;have:=(h.dom c cb sz hc).1;have:=h.lim;omega
 refine⟨h.lim,h.dom,?_,?_,?_,?_,h.glob⟩
 ·intro c o cb sz e1 e2;exact h.obj c o cb sz (key c o (lt e2) e1) e2
 ·intro c c' o o' cb sz sz' e1 e2 e3 e4;exact h.sep c c' o o' cb sz sz' (key _ _ (lt e3) e1) (key _ _ (lt e4) e2) e3 e4
 ·intro c c' o o' p e1 e2 e3 e4;have e2':=key _ _ (lt e3) e2
  obtain⟨p',hp'⟩:=h.old c' o' p e2' e3 c e4
  exact h.sup c c' o o' p (key _ _ (lt hp') e1) e2' e3 e4
 ·intro c o p e1 e2 c' e3;exact h.old c o p (key _ _ (lt e2) e1) e2 c' e3
noncomputable def yu(l:List Nat):qc->qc:=List.rec (λH=>H) (λb _ ih H=>ih (zS b none H)) l
theorem YO(b:Nat)(l:List Nat)(H:qc):yu (b::l) H=yu l (zS b none H):=rfl
theorem Qk:∀(l:List Nat) (H:qc) (c:Nat),(∀b,b∈l->b<b+1)->c<c+1->zf c (yu l H)=if c∈l then none else zf c H
 |[],H,c,_,_=>by rw [if_neg (by simp)];rfl
 |b::l,H,c,hl,hc=>by
  rw [YO,Qk l _ c (λx hx=>hl x (List.mem_cons_of_mem _ hx)) hc]
  by_cases h1:c∈l
  ·rw [if_pos h1,if_pos (List.mem_cons_of_mem _ h1)]
  ·rw [if_neg h1];by_cases h2:b=c
   ·subst h2;rw [qW,if_pos (List.mem_cons_self ..)]
   ·rw [jm h2 (hl b (List.mem_cons_self ..)) hc,if_neg (by simp [h1];exactλe=>h2 e.symm)]
def upd(σ:Sg)(b:Nat)(p:Nat×Nat):Sg:=λc=>if c=b then some p else σ c
theorem Z4{σ:Sg}{b:Nat}{p:Nat×Nat}(hb:σ b=none):∀c q,σ c=some q->upd σ b p c=some q:=by
 intro c q hc;unfold upd;rw [if_neg (λe=>by subst e;rw [hb]at hc;cases hc)]
 exact hc
theorem jF{σ:Sg}{b c:Nat}{p q:Nat×Nat}(h:upd σ b p c=some q):(c=b/\q=p)\/(c≠b/\σ c=some q):=by
 unfold upd at h;by_cases e:c=b
 ·rw [if_pos e]at h;exact .inl ⟨e,(Option.some.inj h).symm⟩
 ·rw [if_neg e]at h;exact .inr ⟨e,h⟩
theorem Rel.alloc_at{σ:Sg}{H:qc}{nx b n sz:Nat}{w:World}{ct:CT}{c:Array Value}{t:TypeId}{fz:Nat×Nat}(h:Rel σ H nx w)(hb:σ b=none)(hlt:b<nx)
  (ho:zf b H=some (.cells n ct [] false)) (hn:n<=ct.cap) (hsz:sz=c.size) (hnc:n<=sz) (hfz:∀i,i<sz->¬(fz.1<=i/\i<fz.2))
  (hd:∀i,i<n->∃v',c[i]?=some v'/\Den σ (ct.get i) v'):
  Rel (upd σ b (w.heap.size,sz)) H nx (w.alloc (.cells c t fz)):=by
 have sub:=Z4 (p:=(w.heap.size,sz)) hb
 have blk:∀i,i<w.heap.size->(w.alloc (.cells c t fz)).heap[i]?=w.heap[i]?:=by
  intro i hi;show(w.heap.push _)[i]?=_
  rw [Array.getElem?_push,if_neg (by omega)]
 have newb:(w.alloc (.cells c t fz)).heap[w.heap.size]?=some (.cells c t fz):=by
  show(w.heap.push _)[w.heap.size]?=_
  simp
 have newc:∀i,(w.alloc (.cells c t fz)).cell? (at' w.heap.size i)=c[i]?:=by
  intro i;unfold World.cell?;rw [newb]
  rfl
 have hglob:VO (upd σ b (w.heap.size,sz)) (w.alloc (.cells c t fz)):=by
  refine h.glob.of (by simp) (λi hi _=>blk i hi) λx cb s e hlt=> ?_
  rcases jF e with⟨rfl,q⟩|⟨_,q⟩
  ·cases q;omega
  ·exact⟨x,s,q⟩
 refine⟨h.lim,?_,?_,?_,?_,?_,hglob⟩
 ·intro x cb s e;rcases jF e with⟨rfl,q⟩|⟨_,q⟩
  ·cases q;exact⟨hlt,by simp⟩
  ·have:=h.dom x cb s q
   exact⟨this.1,by simp;omega⟩
 ·intro x o cb s e1 e2;rcases jF e2 with⟨rfl,e⟩|⟨_,e⟩
  ·cases e
   rw [ho]at e1;cases e1
   refine⟨hnc,hn,?_,?_⟩
   ·intro i hi;refine⟨?_,?_⟩
    ·have:=hfz i hi
     simp only [World.frozen?,newb]
     simp
     intro h1;have:¬(fz.1<=i/\i<fz.2):=this
     omega
    ·refine⟨c[i]'(by omega),?_⟩
     rw [newc,Array.getElem?_eq_getElem]
   ·intro i hi;obtain⟨v',e,d⟩:=hd i hi
    exact⟨v',by rw [newc,e],d.mono sub⟩
  ·have hlt':=(h.dom x cb s e).2
   exact(VE.mono sub (h.obj x o cb s e1 e)).of_block (blk cb hlt')
 ·intro x x' o o' cb s s' e1 e2 e3 e4;rcases jF e3 with⟨rfl,e⟩|⟨_,e⟩
  ·cases e
   rcases jF e4 with⟨rfl,_⟩|⟨_,e'⟩
   ·exact .inl rfl
   ·have:=(h.dom x' _ s' e').2;omega
  ·rcases jF e4 with⟨rfl,e'⟩|⟨_,e'⟩
   ·cases e';have:=(h.dom x _ s e).2;omega
   ·exact h.sep x x' o o' cb s s' e1 e2 e e'
 ·intro x x' o o' p e1 e2 e3 e4;rcases jF e3 with⟨rfl,e⟩|⟨_,e⟩
  ·rw [ho]at e2;cases e2;simp [wD.olds]at e4
  ·exact h.sup x x' o o' p e1 e2 e e4
 ·intro x o p e1 e2 x' e3;rcases jF e2 with⟨rfl,e⟩|⟨_,e⟩
  ·rw [ho]at e1;cases e1;simp [wD.olds]at e3
  ·obtain⟨p',hp'⟩:=h.old x o p e1 e x' e3
   exact⟨p',sub _ _ hp'⟩
theorem Ext.alloc_at{σ:Sg}{H:qc}{nx b sz:Nat}{w:World}(o:Obj)(_h:Rel σ H nx w)(hb:σ b=none):
  (∀c,c≠b->c<nx->σ c=none->upd σ b (w.heap.size,sz) c=none)/\
  (∀c p,σ c=some p->upd σ b (w.heap.size,sz) c=some p)/\
  (∀c cb s,upd σ b (w.heap.size,sz) c=some (cb,s)->cb<w.heap.size->∃b' sz',σ b'=some (cb,sz'))/\
  (∀i,i<w.heap.size->(w.alloc o).heap[i]?=w.heap[i]?):=by
 refine⟨?_,Z4 hb,?_,?_⟩
 ·intro c hc _ hn;unfold upd;rw [if_neg hc];exact hn
 ·intro c cb s e hlt;rcases jF e with⟨rfl,q⟩|⟨_,q⟩
  ·cases q;omega
  ·exact⟨c,s,q⟩
 ·intro i hi;show(w.heap.push _)[i]?=_
  rw [Array.getElem?_push,if_neg (by omega)]
theorem Rel.alloc{σ:Sg}{H:qc}{nx n sz:Nat}{w:World}{ct:CT}{c:Array Value}{t:TypeId}{fz:Nat×Nat}(h:Rel σ H nx w)(hx:nx<nx+1)
  (hn:n<=ct.cap) (hsz:sz=c.size) (hnc:n<=sz) (hfz:∀i,i<sz->¬(fz.1<=i/\i<fz.2)) (hd:∀i,i<n->∃v',c[i]?=some v'/\Den σ (ct.get i) v'):
  Rel (upd σ nx (w.heap.size,sz)) (zS nx (some (.cells n ct [] false)) H) (nx+1) (w.alloc (.cells c t fz))/\
  Ext σ (upd σ nx (w.heap.size,sz)) H (zS nx (some (.cells n ct [] false)) H) nx (nx+1) w (w.alloc (.cells c t fz)):=by
 have hb:σ nx=none:=by
  cases e:σ nx with
  |none=>rfl
  |some p=>obtain⟨cb,s⟩:=p;have:=(h.dom nx cb s e).1;omega
 have h1:Rel σ (zS nx (some (.cells n ct [] false)) H) (nx+1) w:=h.pend hb (by omega) (by omega) hx
 obtain⟨e1,e2,e3,e4⟩:=Ext.alloc_at (sz:=sz) (.cells c t fz) h hb
 refine⟨h1.alloc_at hb (by omega) (qW _ _ _) hn hsz hnc hfz hd,⟨e2,e3,?_,by omega,rfl,rfl,rfl,by simp,λi hi _=>e4 i hi,Nat.le_refl _⟩⟩
 intro c hc hn;exact⟨e1 c (by omega) hc hn,jm (by omega) hx (by omega)⟩
def z2(w:World)(cb:Nat):Nat->List Value->World
 |_,[]=>w
 |i,v::l=>z2 (w.setCell (at' cb i) v) cb (i+1) l
theorem ki:∀(l:List Value) (w:World) (cb i k:Nat),k≠cb->(z2 w cb i l).heap[k]?=w.heap[k]?
 |[],_,_,_,_,_=>rfl
 |v::l,w,cb,i,k,h=>by
  show(z2 (w.setCell (at' cb i) v) cb (i+1) l).heap[k]?=_
  rw [ki l _ cb (i+1) k h];simp only [World.setCell,Array.getElem?_modify]
  rw [if_neg (λe=>h e.symm)]
theorem wj:∀(l:List Value) (w:World) (cb i:Nat),(z2 w cb i l).os=w.os/\(z2 w cb i l).tape=w.tape/\(z2 w cb i l).output=w.output/\(z2 w cb i l).heap.size=w.heap.size
 |[],_,_,_=>⟨rfl,rfl,rfl,rfl⟩
 |v::l,w,cb,i=>by
  obtain⟨h1,h2,h3,h4⟩:=wj l (w.setCell (at' cb i) v) cb (i+1)
  exact⟨h1,h2,h3,h4.trans (by simp)⟩
theorem yl:∀(l:List Value) (w:World) (cb i:Nat),(z2 w cb i l).drawn=w.drawn
 |[],_,_,_=>rfl
 |v::l,w,cb,i=>yl l (w.setCell (at' cb i) v) cb (i+1)
theorem vy:∀(l:List Value) (w:World) (cb i:Nat) (a:Addr),(z2 w cb i l).frozen? a=w.frozen? a
 |[],_,_,_,_=>rfl
 |v::l,w,cb,i,a=>by
  show(z2 (w.setCell (at' cb i) v) cb (i+1) l).frozen? a=_
  rw [vy l,World.frozen?_setCell]
theorem wk:∀(l:List Value) (w:World) (cb i j:Nat),(∀k,i<=k->k<i+l.length->∃v,w.cell? (at' cb k)=some v)->
  (z2 w cb i l).cell? (at' cb j)=if i<=j/\j<i+l.length then l[j - i]? else w.cell? (at' cb j)
 |[],w,cb,i,j,_=>by
  have:¬(i<=j/\j<i+([]:List Value).length):=by simp
  rw [if_neg this];rfl
 |v::l,w,cb,i,j,h=>by
  show(z2 (w.setCell (at' cb i) v) cb (i+1) l).cell? (at' cb j)=_
  obtain⟨u,hu⟩:=h i lR (by simp)
  have same:(w.setCell (at' cb i) v).cell? (at' cb i)=some v:=World.cell?_setCell_same (w:=w) (a:=at' cb i) (v:=v) (u:=u) hu
  have other:∀k,k≠i->(w.setCell (at' cb i) v).cell? (at' cb k)=w.cell? (at' cb k):=λk hk=>
   World.cell?_setCell_other (w:=w) (a:=at' cb i) (b:=at' cb k) (v:=v) (λe=>hk (by cases e;rfl))
  rw [wk l _ cb (i+1) j]
  ·by_cases h1:j=i
   ·subst h1;rw [if_neg (by omega),same,if_pos (by simp)]
    simp
   ·rw [other j h1];by_cases h2:i+1<=j/\j<i+1+l.length
    ·rw [if_pos h2,if_pos (by simp;omega)]
     have e:j - i=(j - (i+1))+1:=by omega
     rw [e];simp
    ·rw [if_neg h2,if_neg (by simp;omega)]
  ·intro k hk1 hk2;rw [other k (by omega)]
   exact h k (by omega) (by simp;omega)
theorem kn(cb i n:Nat):Addr.add (at' cb i) n=at' cb (i+n):=by
 unfold Addr.add;split
 ·rename_i h;subst h;rfl
 ·rfl
theorem vP{P:Program}:∀(l:List Value) (w:World) (cb off i:Nat),(∀v,v∈l->v.oneCell'=true)->
  (∀k,off+i<=k->k<off+i+l.length->w.frozen? (at' cb k)=false/\∃v,w.cell? (at' cb k)=some v)->
  (storeCells (at' cb off) l i).run P w= .ok () (z2 w cb (off+i) l)
 |[],w,cb,off,i,_,_=>rfl
 |v::l,w,cb,off,i,h1,h2=>by
  obtain⟨hf,u,hu⟩:=h2 (off+i) lR (by simp)
  have hs:(store (Addr.add (at' cb off) i) v).run P w= .ok () (w.setCell (at' cb (off+i)) v):=by
   rw [run_store P w _ v .plain (h1 v (List.mem_cons_self ..)),kn,hu];simp [hf]
  have ih:=vP (P:=P) l (w.setCell (at' cb (off+i)) v) cb off (i+1) (λx hx=>h1 x (List.mem_cons_of_mem _ hx)) (by
   intro k hk1 hk2;have:=h2 k (by omega) (by simp;omega)
   rw [World.frozen?_setCell,World.cell?_setCell_other]
   ·exact this
   ·intro e;have:=congrArg Addr.off e;simp at this;omega)
  simp only [storeCells,Sem.run_bind,hs,Result.andThen_ok,ih]
  rfl
theorem Rel.store{σ:Sg}{H:qc}{nx b n off cb sz:Nat}{w:World}{ct:CT}{olds:List Nat}{l:List qa}{l':List Value}(h:Rel σ H nx w)
  (hb:σ b=some (cb,sz)) (ho:zf b H=some (.cells n ct olds false)) (hoff:off+l.length<=n) (hd:zj σ l l'):
  Rel σ (zS b (some (.cells n (CT.lay l off ct) [] false)) (yu olds H)) nx (z2 w cb off l')/\
  Ext σ σ H (zS b (some (.cells n (CT.lay l off ct) [] false)) (yu olds H)) nx nx w (z2 w cb off l'):=by
 have hlim:=h.lim
 have lt:∀{c p},σ c=some p->c<c+1:=λ{c p} hc=>by obtain⟨cb,sz⟩:=p;have:=(h.dom c cb sz hc).1;omega
 have hold:∀c,c∈olds->∃p',σ c=some p':=λc hc=>h.old b _ _ ho hb c hc
 have holt:∀c,c∈olds->c<c+1:=λc hc=>let⟨_,e⟩:=hold c hc;lt e
 obtain⟨r1,r2,r3,r4⟩:=wj l' w cb off
 obtain⟨o1,o2,o3,o4⟩:=h.obj b _ cb sz ho hb
 have hlen:l.length=l'.length:=hd.length
 have bn:b<b+1:=lt hb
 have key:∀c o,c≠b->c<c+1->zf c (zS b (some (.cells n (CT.lay l off ct) [] false)) (yu olds H))=some o->zf c H=some o/\c ∉ olds:=by
  intro c o hcb hc e;rw [jm (λe=>hcb e.symm) bn hc,Qk olds H c holt hc]at e
  by_cases hm:c∈olds
  ·rw [if_pos hm]at e;cases e
  ·rw [if_neg hm]at e;exact⟨e,hm⟩
 have keyb:zf b (zS b (some (.cells n (CT.lay l off ct) [] false)) (yu olds H))=some (.cells n (CT.lay l off ct) [] false):=qW _ _ _
 have alone:∀c o s,c≠b->c ∉ olds->zf c H=some o->σ c=some (cb,s)->False:=by
  intro c o s hcb hno hc hs;rcases h.sep c b o _ cb s sz hc ho hs hb with e|e|e
  ·exact hcb e
  ·exact hno e
  ·have:=h.sup b c _ o _ ho hc hs e
   simp [wD.sup]at this
 have hglob:VO σ (z2 w cb off l'):=by
  refine h.glob.of (Nat.le_of_eq r4.symm) (λi hi hno=>ki l' w cb off i (λe=>by subst e;exact hno b sz hb)) λx cb s e _=>⟨x,s,e⟩
 refine⟨⟨hlim,?_,?_,?_,?_,?_,hglob⟩,⟨λ_ _ e=>e,λc _ s e _=>⟨c,s,e⟩,?_,Nat.le_refl _,r1,r2,r3,Nat.le_of_eq r4.symm,?_,Nat.le_of_eq (yl l' w cb off).symm⟩⟩
 ·intro c x s e;have:=h.dom c x s e;rw [r4];exact this
 ·intro c o x s e1 e2;by_cases hcb:c=b
  ·subst hcb;rw [hb]at e2;cases e2
   rw [keyb]at e1;cases e1
   have cells:∀k,off<=k->k<off+l'.length->∃v,w.cell? (at' cb k)=some v:=λk hk1 hk2=>(o3 k (by omega)).2
   refine⟨o1,by rw [CT.lay_cap];exact o2,?_,?_⟩
   ·intro i hi;rw [vy,wk l' w cb off i cells];refine⟨(o3 i hi).1,?_⟩
    by_cases hin:off<=i/\i<off+l'.length
    ·rw [if_pos hin];exact⟨l'[i - off]'(by omega),by simp [List.getElem?_eq_getElem (show i - off<l'.length by omega)]⟩
    ·rw [if_neg hin];exact(o3 i hi).2
   ·intro i hi;rw [wk l' w cb off i cells,CT.lay_get l off ct i (by omega) (by omega)]
    by_cases hin:off<=i/\i<off+l.length
    ·rw [if_pos hin,if_pos (by omega)]
     have hlt:i - off<l.length:=by omega
     obtain⟨v',e,d⟩:=hd.get (i - off) (l[i - off]) (by simp [List.getElem?_eq_getElem hlt])
     refine⟨v',e,?_⟩
     simpa [List.getD,List.getElem?_eq_getElem hlt]using d
    ·rw [if_neg hin,if_neg (by omega)];exact o4 i hi
  ·obtain⟨e1',hno⟩:=key c o hcb (lt e2) e1
   refine(h.obj c o x s e1' e2).of_block (ki l' w cb off x ?_)
   intro e;subst e;exact alone c o s hcb hno e1' e2
 ·intro c c' o o' x s s' e1 e2 e3 e4;by_cases h1:c=b
  ·subst h1;by_cases h2:c'=c
   ·exact .inl h2.symm
   ·obtain⟨e2',hno⟩:=key c' o' h2 (lt e4) e2
    rw [hb]at e3;cases e3
    exact(alone c' o' s' h2 hno e2' e4).elim
  ·obtain⟨e1',hno⟩:=key c o h1 (lt e3) e1
   by_cases h2:c'=b
   ·subst h2;rw [hb]at e4;cases e4
    exact(alone c o s h1 hno e1' e3).elim
   ·obtain⟨e2',hno'⟩:=key c' o' h2 (lt e4) e2
    exact h.sep c c' o o' x s s' e1' e2' e3 e4
 ·intro c c' o o' p e1 e2 e3 e4;by_cases h2:c'=b
  ·subst h2;rw [keyb]at e2;cases e2;simp [wD.olds]at e4
  ·obtain⟨e2',hno'⟩:=key c' o' h2 (lt e3) e2
   obtain⟨p',hp'⟩:=h.old c' o' p e2' e3 c e4
   by_cases h1:c=b
   ·subst h1;have:=h.sup c c' _ o' p ho e2' e3 e4
    simp [wD.sup]at this
   ·obtain⟨e1',hno⟩:=key c o h1 (lt hp') e1
    exact h.sup c c' o o' p e1' e2' e3 e4
 ·intro c o p e1 e2 c' e3;by_cases h1:c=b
  ·subst h1;rw [keyb]at e1;cases e1;simp [wD.olds]at e3
  ·obtain⟨e1',_⟩:=key c o h1 (lt e2) e1
   exact h.old c o p e1' e2 c' e3
 ·intro c hc hn;refine⟨hn,?_⟩
  have hcb:b≠c:=λe=>by subst e;rw [hb]at hn;cases hn
  have hno:c ∉ olds:=λhm=>by obtain⟨_,e⟩:=hold c hm;rw [hn]at e;cases e
  rw [jm hcb bn (by omega),Qk olds H c holt (by omega),if_neg hno]
 ·intro i hi hno;exact ki l' w cb off i (λe=>by subst e;exact hno b sz hb)
end Go.Vs
end
section
namespace Go.Vs
variable [GTab]
noncomputable section
inductive zG where
 |val (v:qa) (H:qc) (nx:Nat)
 |call (f:FuncId) (args:List qa)
 |dfr (f:FuncId) (args:List qa)
 |pan (v:qa)
 |rcv
 |any (Q:qa->qc->Nat->Prop)
def qkr(σ:Sg)(f:FuncId)(args:List qa)(d:Deferred):Prop:=
 ∃cap,d.target= .fn (.func f) cap/\zj σ args (d.args++cap).toList
def zE(P:Program)(o:Oper)(ρ:Operand->qa)(H:qc)(nx:Nat)(r:zG):Prop:=
 ∀(σ:Sg) (w:World) (ρ':Operand->Value),Rel σ H nx w->(∀x,Den σ (ρ x) (ρ' x))->
  match r with
  | .val v H' nx'=>∃σ' w' v',Rel σ' H' nx' w'/\Ext σ σ' H H' nx nx' w w'/\Den σ' v v'/\
    ((execOp ρ' o).run P w= .ok (.value v') w'\/((execOp ρ' o).run P w= .ok .skip w'/\v'=undef))
  | .call f args=>∃args',zj σ args args'/\(execOp ρ' o).run P w= .ok (.enter f ⟨args'⟩) w
  | .dfr f args=>∃d,qkr σ f args d/\(execOp ρ' o).run P w= .ok (.defer d) w
  | .pan v=>∃v',Den σ v v'/\(execOp ρ' o).run P w= .halt (.panic v') w
  | .rcv=>(execOp ρ' o).run P w= .ok .recover w
  | .any Q=>∃v H' nx' σ' w' v',Q v H' nx'/\Rel σ' H' nx' w'/\Ext σ σ' H H' nx nx' w w'/\Den σ' v v'/\(execOp ρ' o).run P w= .ok (.value v') w'
theorem zE.pure{P:Program}{o:Oper}{ρ:Operand->qa}{H:qc}{nx:Nat}{v:qa}
  (h:∀(σ:Sg) (w:World) (ρ':Operand->Value),Rel σ H nx w->(∀x,Den σ (ρ x) (ρ' x))->∃v',Den σ v v'/\(execOp ρ' o).run P w= .ok (.value v') w):
  zE P o ρ H nx (.val v H nx):=by
 intro σ w ρ' hr hd;obtain⟨v',h1,h2⟩:=h σ w ρ' hr hd
 exact⟨σ,w,v',hr,Ext.refl _ _ _ _,h1,.inl h2⟩
theorem qm{P:Program}{w:World}{t:TypeId}{d:TypeDesc}(h:P.underlying t=some d):(underlying t).run P w= .ok d w:=by
 simp [underlying,h]
theorem zQ{P:Program}{w:World}{t:TypeId}{i:TypeInfo}(h:P.info? t=some i):(typeInfo t).run P w= .ok i w:=by
 simp [typeInfo,h]
theorem qN{P:Program}{w:World}{t:TypeId}{i:TypeInfo}(h:P.info? t=some i):(sizeOf t).run P w= .ok i.size w:=by
 simp [sizeOf,zQ h]
theorem zn{P:Program}{w:World}{t:TypeId}{i:TypeInfo}{v:Value}(h:P.info? t=some i)(hz:i.zero=some v):(zeroValue t).run P w= .ok v w:=by
 simp [zeroValue,zQ h,hz]
def XP:TypeDesc->Bool
 | .struct _| .array _ _=>true
 |_=>false
theorem kP{P:Program}{w:World}{t:TypeId}{d:TypeDesc}(h:P.underlying t=some d):(isAgg t).run P w= .ok (XP d) w:=by
 simp only [isAgg,Sem.run_bind,qm h,Result.andThen_ok]
 cases d<;>rfl
def Zb:Value->qa
 | .bool b=> .bool b
 | .int k n=> .int k n
 | .string s=> .str s.data.toList
 | .pointer none=> .nilPtr
 | .slice none 0 0=> .nilSlice
 | .map none=> .nilMap
 | .nilFunc=> .nilFunc
 | .nilIface=> .nilIface
 |_=> .und
def qcg:Value->qa
 | .agg cs=> .agg (cs.toList.map Zb)
 |v=>Zb v
theorem Wo(σ:Sg)(v:Value):Den σ (Zb v) v:=by
 unfold Zb;split<;>first|constructor|skip
theorem kq(σ:Sg):∀l:List Value,zj σ (l.map Zb) l
 |[]=> .nil
 |v::l=> .cons (Wo σ v) (kq σ l)
theorem X0(σ:Sg)(v:Value):Den σ (qcg v) v:=by
 unfold qcg;split
 ·rename_i cs;exact Den.agg (kq σ cs.toList)
 ·exact Wo σ v
def Qw(x:Operand)(ρ:Operand->qa)(H:qc)(nx:Nat):Option zG:=some (.val (ρ x) H nx)
theorem YF{P:Program}{o:Oper}{x:Operand}{ρ:Operand->qa}{H:qc}{nx:Nat}{r:zG}(ho:o.op= .move x\/o.op= .assign x)
  (h:Qw x ρ H nx=some r):zE P o ρ H nx r:=by
 cases h
 refine zE.pure λσ w ρ' _ hd=>⟨ρ' x,hd x,?_⟩
 rcases ho with e|e<;>simp [execOp,e]
def Q6(c a b:Operand)(ρ:Operand->qa)(H:qc)(nx:Nat):Option zG:=
 match ρ c with
 | .bool true=>some (.val (ρ a) H nx)
 | .bool false=>some (.val (ρ b) H nx)
 |_=>none
theorem qjy{P:Program}{o:Oper}{c a b:Operand}{ρ:Operand->qa}{H:qc}{nx:Nat}{r:zG}(ho:o.op= .pick c a b)
  (h:Q6 c a b ρ H nx=some r):zE P o ρ H nx r:=by
 unfold Q6 at h;split at h
 ·rename_i hc;cases h
  refine zE.pure λσ w ρ' _ hd=>⟨ρ' a,hd a,?_⟩
  have:=hd c;rw [hc]at this
  cases hv:ρ' c<;>rw [hv]at this<;>cases this
  simp [execOp,ho,hv,asBool]
 ·rename_i hc;cases h
  refine zE.pure λσ w ρ' _ hd=>⟨ρ' b,hd b,?_⟩
  have:=hd c;rw [hc]at this
  cases hv:ρ' c<;>rw [hv]at this<;>cases this
  simp [execOp,ho,hv,asBool]
 ·cases h
def Jd(P:Program)(t:TypeId)(H:qc)(v:qa):Option qa:=
 match v with
 | .ptr b off=>
  match zf b H with
  |some (.cells n ct _ _)=>
   match P.underlying t,P.info? t with
   |some d,some i=>
    match XP d with
    |true=>match Nat.ble (Nat.add off i.size) n with
     |true=>some (.agg (CT.slab ct i.size off))
     |false=>none
    |false=>match Nat.ble (Nat.succ off) n with
     |true=>some (CT.get off ct)
     |false=>none
   |_,_=>none
  |_=>none
 | .gptr g off=>
  match GTab.tab g with
  |some l=>
   match P.underlying t,P.info? t with
   |some d,some i=>
    match XP d with
    |true=>match Nat.ble (Nat.add off i.size) l.length with
     |true=>some (.agg ((l.drop off).take i.size))
     |false=>none
    |false=>l[off]?
   |_,_=>none
  |none=>none
 |_=>none
theorem YA{σ:Sg}{w:World}{g:Nat}{l:List qa}(h:VO σ w)(hl:GTab.tab g=some l)(P:Program)(off k:Nat)(hk:off+k<=l.length):
  ∃l':List Value,(∀τ:Sg,zj τ ((l.drop off).take k) l')/\(loadCells (at' g off) k).run P w= .ok ⟨l'⟩ w:=by
 obtain⟨_,_,h3⟩:=h.var g l hl
 have hf:∀j,j<k->∃v',w.cell? (at' g (off+j))=some v'/\∀τ:Sg,Den τ (l[off+j]?.getD .und) v':=by
  intro j hj;have hlt:off+j<l.length:=by omega
  obtain⟨v',e,d⟩:=h3 (off+j) l[off+j] (by simp [List.getElem?_eq_getElem hlt])
  exact⟨v',e,by simpa [List.getElem?_eq_getElem hlt]using d⟩
 refine⟨(List.range k).map λj=>(w.cell? (at' g (off+j))).getD undef,λτ=> ?_,?_⟩
 ·refine zj.of_get (by simp;omega) ?_
  intro i v v' e1 e2;have hi:i<k:=by
   rcases Nat.lt_or_ge i k with h|h
   ·exact h
   ·rw [List.getElem?_eq_none (by simp;omega)]at e2;cases e2
  obtain⟨u,q1,q2⟩:=hf i hi
  simp [hi,q1]at e2
  subst e2;have hlt:off+i<l.length:=by omega
  have:v=l[off+i]?.getD .und:=by
   simp [hi,List.getElem?_drop,List.getElem?_eq_getElem hlt]at e1
   simp [List.getElem?_eq_getElem hlt,e1]
  rw [this];exact q2 τ
 ·refine run_loadCells (P:=P) w (at' g off) k _ (λj hj=> ?_)
  obtain⟨u,q1,_⟩:=hf j hj
  rw [kn,q1];simp
theorem vG{σ:Sg}{H:qc}{nx b n cb sz:Nat}{w:World}{ct:CT}{olds:List Nat}{s:Bool}(h:Rel σ H nx w)(ho:zf b H=some (.cells n ct olds s))(hb:σ b=some (cb,sz))
  (P:Program) (off k:Nat) (hk:off+k<=n):∃l:List Value,l.length=k/\zj σ (CT.slab ct k off) l/\(∀j,j<k->w.cell? (at' cb (off+j))=l[j]?)/\(loadCells (at' cb off) k).run P w= .ok ⟨l⟩ w:=by
 obtain⟨_,_,_,h4⟩:=h.obj b _ cb sz ho hb
 have f:∃f:Nat->Value,∀j,j<k->w.cell? (at' cb (off+j))=some (f j)/\Den σ (ct.get (off+j)) (f j):=by
  refine⟨λj=>(w.cell? (at' cb (off+j))).getD undef,λj hj=> ?_⟩
  obtain⟨v',e,d⟩:=h4 (off+j) (by omega)
  simp only [e,Option.getD_some]
  exact⟨trivial,d⟩
 obtain⟨f,hf⟩:=f
 refine⟨(List.range k).map f,by simp,?_,?_,?_⟩
 ·refine zj.of_get (by simp [CT.slab_length]) ?_
  intro i v v' e1 e2;have hi:i<k:=by
   rcases Nat.lt_or_ge i k with h|h
   ·exact h
   ·rw [List.getElem?_eq_none (by simp [CT.slab_length];exact h)]at e1;cases e1
  rw [CT.slab_get ct k off i hi]at e1;cases e1
  simp [hi]at e2
  subst e2;exact(hf i hi).2
 ·intro j hj;rw [(hf j hj).1];simp [hj]
 ·exact run_loadCells (P:=P) w (at' cb off) k f (λj hj=>by rw [kn];exact(hf j hj).1)
theorem WZ{P:Program}{t:TypeId}{H:qc}{v x:qa}{σ:Sg}{nx:Nat}{w:World}{v':Value}(hr:Rel σ H nx w)(hv:Den σ v v')(h:Jd P t H v=some x):
  ∃x',Den σ x x'/\(Instr.loadAt t v').run P w= .ok x' w:=by
 unfold Jd at h;split at h
 ·rename_i b off;split at h
  ·rename_i n ct olds s ho;split at h
   ·rename_i d i hd hi;cases hv with
    | @ptr _ _ cb sz hb=>
     split at h
     ·rename_i hagg;split at h
      ·rename_i hle;have hle':=Nat.le_of_ble_eq_true hle
       cases h
       obtain⟨l,_,hl,_,hrun⟩:=vG hr ho hb P off i.size hle'
       exact⟨_,.agg hl,by simp [Instr.loadAt,Instr.sureAddr,loadVar,kP hd,hagg,qN hi,hrun]⟩
      ·cases h
     ·rename_i hagg;split at h
      ·rename_i hle;have hle':=Nat.le_of_ble_eq_true hle
       cases h
       obtain⟨_,_,_,h4⟩:=hr.obj b _ cb sz ho hb
       obtain⟨u,e,du⟩:=h4 off (by omega)
       exact⟨u,du,by simp [Instr.loadAt,Instr.sureAddr,loadVar,kP hd,hagg,e]⟩
      ·cases h
   ·cases h
  ·cases h
 ·rename_i g off;split at h<;>try (cases h;done)
  rename_i l hl;split at h<;>try (cases h;done)
  rename_i d i hd hi;cases hv
  split at h
  ·rename_i hagg;split at h<;>try (cases h;done)
   rename_i hle;have hle':off+i.size<=l.length:=Nat.le_of_ble_eq_true hle
   cases h
   obtain⟨l',hd',hrun⟩:=YA hr.glob hl P off i.size hle'
   exact⟨_,.agg (hd' σ),by simp [Instr.loadAt,Instr.sureAddr,loadVar,kP hd,hagg,qN hi,hrun]⟩
  ·rename_i hagg;obtain⟨_,_,h3⟩:=hr.glob.var g l hl
   obtain⟨v',e,du⟩:=h3 off x h
   exact⟨v',du σ,by simp [Instr.loadAt,Instr.sureAddr,loadVar,kP hd,hagg,e]⟩
 ·cases h
def Vf(P:Program)(t:TypeId)(a:Operand)(ρ:Operand->qa)(H:qc)(nx:Nat):Option zG:=
 match Jd P t H (ρ a)with
 |some v=>some (.val v H nx)
 |none=>none
theorem qif{P:Program}{o:Oper}{t:TypeId}{a:Operand}{ρ:Operand->qa}{H:qc}{nx:Nat}{r:zG}(ho:o.op= .load t a)
  (h:Vf P t a ρ H nx=some r):zE P o ρ H nx r:=by
 unfold Vf at h;split at h
 ·rename_i v hv;cases h
  refine zE.pure λσ w ρ' hr hd=> ?_
  obtain⟨x',dx,hrun⟩:=WZ hr (hd a) hv
  exact⟨x',dx,by simp [execOp,ho,hrun]⟩
 ·cases h
def Kt:qa->Option (List qa)
 | .und=>none
 | .tuple _=>none
 | .agg cs=>some cs
 |v=>some [v]
theorem Kw{σ:Sg}{v:qa}{v':Value}{cs:List qa}(h:Kt v=some cs)(hd:Den σ v v'):zj σ cs v'.cells.toList:=by
 unfold Kt at h;split at h
 ·cases h
 ·cases h
 ·cases h;cases hd with|agg hl=>exact hl
 ·rename_i h1 h2 h3;cases h
  have e:v'.cells=#[v']:=by
   cases hd<;>first
    |rfl
    |exact(h1 rfl).elim
    |exact(h2 _ rfl).elim
    |exact(h3 _ rfl).elim
  rw [e];exact .cons hd .nil
def qZ:qa->Bool
 | .und| .agg _| .tuple _=>false
 |_=>true
theorem qkb{σ:Sg}{v:qa}{v':Value}(h:qZ v=true)(hd:Den σ v v'):v'.oneCell'=true:=by
 cases hd<;>first|rfl|(simp [qZ]at h)
def qt:List qa->Bool
 |[]=>true
 |v::l=>match qZ v with|true=>qt l|false=>false
theorem QJ{σ:Sg}:∀{l:List qa} {l':List Value},qt l=true->zj σ l l'->∀v,v∈l'->v.oneCell'=true
 |_,_,_,.nil,v,h=>by simp at h
 |a::l,b::l',ha,.cons hd t,v,h=>by
  unfold qt at ha;split at ha
  ·rename_i hc;rcases List.mem_cons.1 h with rfl|h
   ·exact qkb hc hd
   ·exact QJ ha t v h
  ·cases ha
def relay(l:List qa)(len off n:Nat)(ct:CT):CT:=
 match Nat.beq off 0,Nat.beq len n,Nat.ble n 9223372036854775807 with
 |true,true,true=>CT.ofL n l
 |_,_,_=>CT.lay l off ct
theorem qib{l:List qa}{off n:Nat}{ct:CT}(h:n<=ct.cap):n<=(relay l l.length off n ct).cap:=by
 unfold relay;split
 ·rename_i h3;exact CT.ofL_cap n l (Nat.le_of_ble_eq_true h3)
 ·rw [CT.lay_cap];exact h
theorem qjj{l:List qa}{off n:Nat}{ct:CT}(h:n<=ct.cap)(_ho:off+l.length<=n)(i:Nat)(hi:i<n):(relay l l.length off n ct).get i=(CT.lay l off ct).get i:=by
 unfold relay;split
 ·rename_i h1 h2 h3;have e1:=Nat.eq_of_beq_eq_true h1
  have e2:=Nat.eq_of_beq_eq_true h2
  rw [CT.get_ofL n l i (Nat.le_of_ble_eq_true h3) hi,CT.lay_get l off ct i (by omega) (by omega),if_pos (by omega)]
  congr 1
  omega
 ·rfl
def vH(P:Program)(t:TypeId)(H:qc)(a x:qa):Option qc:=
 match a,Kt x,P.info? t with
 | .ptr b off,some cs,some i=>
  match zf b H with
  |some (.cells n ct olds false)=>
   match Nat.beq cs.length i.size,Nat.ble (Nat.add off i.size) n,qt cs with
   |true,true,true=>some (zS b (some (.cells n (relay cs i.size off n ct) [] false)) (yu olds H))
   |_,_,_=>none
  |_=>none
 |_,_,_=>none
theorem Rel.relay{σ:Sg}{H:qc}{nx b n:Nat}{w:World}{ct ct':CT}{olds:List Nat}{s:Bool}(h:Rel σ (zS b (some (.cells n ct olds s)) H) nx w)(hb:∃p,σ b=some p)
  (hcap:n<=ct'.cap) (hg:∀i,i<n->ct'.get i=ct.get i):Rel σ (zS b (some (.cells n ct' olds s)) H) nx w:=by
 obtain⟨⟨cb,sz⟩,hb⟩:=hb
 have hlim:=h.lim
 have lt:∀{c p},σ c=some p->c<c+1:=λ{c p} hc=>by obtain⟨cb,sz⟩:=p;have:=(h.dom c cb sz hc).1;omega
 have bn:=lt hb
 have key:∀c o,c<c+1->zf c (zS b (some (.cells n ct' olds s)) H)=some o->∃o',zf c (zS b (some (.cells n ct olds s)) H)=some o'/\o'.olds=o.olds/\o'.sup=o.sup:=by
  intro c o hc e;by_cases hcb:b=c
  ·subst hcb;rw [qW]at e;cases e;exact⟨_,qW _ _ _,rfl,rfl⟩
  ·rw [jm hcb bn hc]at e;exact⟨o,by rw [jm hcb bn hc];exact e,rfl,rfl⟩
 refine⟨h.lim,h.dom,?_,?_,?_,?_,h.glob⟩
 ·intro c o x z e1 e2;by_cases hcb:b=c
  ·subst hcb;rw [qW]at e1;cases e1
   obtain⟨a1,a2,a3,a4⟩:=h.obj b _ x z (qW _ _ _) e2
   exact⟨a1,hcap,a3,λi hi=>by rw [hg i hi];exact a4 i hi⟩
  ·rw [jm hcb bn (lt e2)]at e1;exact h.obj c o x z (by rw [jm hcb bn (lt e2)];exact e1) e2
 ·intro c c' o o' x z z' e1 e2 e3 e4;obtain⟨p,f1,g1,_⟩:=key c o (lt e3) e1
  obtain⟨q,f2,g2,_⟩:=key c' o' (lt e4) e2
  rw [<-g1,<-g2];exact h.sep c c' p q x z z' f1 f2 e3 e4
 ·intro c c' o o' p e1 e2 e3 e4;obtain⟨q,f2,g2,_⟩:=key c' o' (lt e3) e2
  rw [<-g2]at e4;obtain⟨p',hp'⟩:=h.old c' q p f2 e3 c e4
  obtain⟨r,f1,_,g1⟩:=key c o (lt hp') e1
  rw [<-g1];exact h.sup c c' r q p f1 f2 e3 e4
 ·intro c o p e1 e2 c' e3;obtain⟨q,f1,g1,_⟩:=key c o (lt e2) e1
  rw [<-g1]at e3;exact h.old c q p f1 e2 c' e3
theorem Ext.relay{σ σ':Sg}{H H':qc}{nx nx' b:Nat}{w w':World}{x y:Option wD}(h:Ext σ σ' H (zS b x H') nx nx' w w')(hb:∃p,σ b=some p)(bn:b<b+1)(_hl:nx<=nx):
  Ext σ σ' H (zS b y H') nx nx' w w':=by
 obtain⟨p,hb⟩:=hb
 refine{h with pend:=λc hc hn=> ?_}
 obtain⟨h1,h2⟩:=h.pend c hc hn
 refine⟨h1,?_⟩
 have hcb:b≠c:=λe=>by subst e;rw [hb]at hn;cases hn
 rw [jm hcb bn (by omega)]at h2 ⊢
 exact h2
theorem qjv{P:Program}{t:TypeId}{H H':qc}{a x:qa}{σ:Sg}{nx:Nat}{w:World}{a' x':Value}(hr:Rel σ H nx w)(ha:Den σ a a')(hx:Den σ x x')
  (h:vH P t H a x=some H'):∃w',Rel σ H' nx w'/\Ext σ σ H H' nx nx w w'/\(Instr.storeAt t a' x').run P w= .ok () w':=by
 unfold vH at h;split at h
 ·rename_i b off cs i hcs hi;split at h
  ·rename_i n ct olds ho;split at h
   ·rename_i h1 h2 h3;have e1:=Nat.eq_of_beq_eq_true h1
    have e2:=Nat.le_of_ble_eq_true h2
    cases h
    cases ha with
    | @ptr _ _ cb sz hb=>
     have hlim:=hr.lim
     have bn:b<b+1:=by have:=(hr.dom b cb sz hb).1;omega
     have hl:=Kw hcs hx
     obtain⟨o1,o2,o3,o4⟩:=hr.obj b _ cb sz ho hb
     have hadd:off+cs.length<=n:=by simp at e2;omega
     obtain⟨r1,r2⟩:=hr.store hb ho hadd hl
     rw [<-e1];refine⟨z2 w cb off x'.cells.toList,r1.relay ⟨_,hb⟩ (qib o2) (qjj o2 hadd),r2.relay ⟨_,hb⟩ bn hlim,?_⟩
     have hlen:=hl.length
     have hrun:=vP (P:=P) x'.cells.toList w cb off 0 (QJ h3 hl) (λk hk1 hk2=>o3 k (by omega))
     have hsz:x'.cells.size=i.size:=by rw [<-e1,hlen];simp
     simp only [Instr.storeAt,Instr.sureAddr,storeVar,Sem.run_bind,Sem.run_pure,Result.andThen_ok,qN hi,hsz,Sem.run_ite]
     simpa using hrun
   ·cases h
  ·cases h
 ·cases h
def wR(P:Program)(t:TypeId)(a x:Operand)(ρ:Operand->qa)(H:qc)(nx:Nat):Option zG:=
 match vH P t H (ρ a) (ρ x)with
 |some H'=>some (.val .und H' nx)
 |none=>none
theorem qg1{P:Program}{o:Oper}{t:TypeId}{a x:Operand}{ρ:Operand->qa}{H:qc}{nx:Nat}{r:zG}(ho:o.op= .store t a x)
  (h:wR P t a x ρ H nx=some r):zE P o ρ H nx r:=by
 unfold wR at h;split at h
 ·rename_i H' hv;cases h
  intro σ w ρ' hr hd;obtain⟨w',r1,r2,hrun⟩:=qjv hr (hd a) (hd x) hv
  exact⟨σ,w',undef,r1,r2,.und _,.inr ⟨by simp [execOp,ho,hrun],rfl⟩⟩
 ·cases h
end
end Go.Vs
namespace Go.Vs
variable [GTab]
noncomputable section
def vl{β:Type}(n:Int)(k:Int->β):β:=
 Int.rec (motive:=λ_=>(Int->β)->β) (λa k=>Nat.rec (k (.ofNat 0)) (λm _=>k (.ofNat (Nat.succ m))) a) (λa k=>Nat.rec (k (.negSucc 0)) (λm _=>k (.negSucc (Nat.succ m))) a) n k
theorem zP{β:Type}(n:Int)(k:Int->β):vl n k=k n:=by
 cases n with
 |ofNat a=>cases a<;>rfl
 |negSucc a=>cases a<;>rfl
def kH{β:Type}(n:Nat)(k:Nat->β):β:=Nat.rec (motive:=λ_=>β) (k 0) (λm _=>k (Nat.succ m)) n
theorem qS{β:Type}(n:Nat)(k:Nat->β):kH n k=k n:=by cases n<;>rfl
def fits(k:IntKind)(n:Int):Bool:=
 Int.rec (motive:=λ_=>IntKind->Bool)
  (λa k=>IntKind.rec (Nat.ble a 127) (Nat.ble a 32767) (Nat.ble a 2147483647) (Nat.ble a 9223372036854775807) (Nat.ble a 255) (Nat.ble a 65535) (Nat.ble a 4294967295) (Nat.ble a 18446744073709551615) k)
  (λa k=>IntKind.rec (Nat.ble a 127) (Nat.ble a 32767) (Nat.ble a 2147483647) (Nat.ble a 9223372036854775807) false false false false k) n k
theorem qq6{k:IntKind}{n:Int}(h:fits k n=true):k.wrap n=n:=by
 have le:∀{a b:Nat},Nat.ble a b=true->a<=b:=λh=>Nat.le_of_ble_eq_true h
 cases n with
 |ofNat a=>
  have e:Int.ofNat a=(a:Int):=rfl
  rw [e]at h ⊢;cases k
  ·have:=le (b:=127) h;exact IntWalk.i8_in _ (by omega)
  ·have:=le (b:=32767) h;exact IntWalk.i16_in _ (by omega)
  ·have:=le (b:=2147483647) h;exact IntWalk.i32_in _ (by omega)
  ·have:=le (b:=9223372036854775807) h;exact IntWalk.i64_in _ (by omega)
  ·have:=le (b:=255) h;exact IntWalk.u8_in _ (by omega)
  ·have:=le (b:=65535) h;exact IntWalk.u16_in _ (by omega)
  ·have:=le (b:=4294967295) h;exact IntWalk.u32_in _ (by omega)
  ·have:=le (b:=18446744073709551615) h;exact IntWalk.u64_in _ (by omega)
 |negSucc a=>
  cases k
  ·have:=le (b:=127) h;exact IntWalk.i8_in _ (by omega)
  ·have:=le (b:=32767) h;exact IntWalk.i16_in _ (by omega)
  ·have:=le (b:=2147483647) h;exact IntWalk.i32_in _ (by omega)
  ·have:=le (b:=9223372036854775807) h;exact IntWalk.i64_in _ (by omega)
  all_goals (cases h)
def Vv(k:IntKind)(n:Int):Int:=Bool.rec (k.wrap n) n (fits k n)
theorem Qf(k:IntKind)(n:Int):Vv k n=k.wrap n:=by
 unfold Vv;cases h:fits k n with
 |true=>exact(qq6 h).symm
 |false=>rfl
def ilt(a b:Int):Bool:=Int.rec (motive:=λ_=>Int->Bool) (λx b=>Int.rec (motive:=λ_=>Nat->Bool) (λy x=>Nat.ble (Nat.succ x) y) (λ_ _=>false) b x) (λx b=>Int.rec (motive:=λ_=>Nat->Bool) (λ_ _=>true) (λy x=>Nat.ble (Nat.succ y) x) b x) a b
def ieq(a b:Int):Bool:=Int.rec (motive:=λ_=>Int->Bool) (λx b=>Int.rec (motive:=λ_=>Nat->Bool) (λy x=>Nat.beq x y) (λ_ _=>false) b x) (λx b=>Int.rec (motive:=λ_=>Nat->Bool) (λ_ _=>false) (λy x=>Nat.beq x y) b x) a b
theorem yK(a b:Int):ilt a b=decide (a<b):=by
 rw [Bool.eq_iff_iff,decide_eq_true_iff];cases a with
 |ofNat x=>cases b with
  |ofNat y=>show Nat.ble (x+1) y=true↔_;rw [Nat.ble_eq];simp;omega
  |negSucc y=>show false=true↔_;simp;omega
 |negSucc x=>cases b with
  |ofNat y=>show true=true↔_;simp;omega
  |negSucc y=>show Nat.ble (y+1) x=true↔_;rw [Nat.ble_eq];omega
theorem qm0(a b:Int):ieq a b=(a==b):=by
 rw [Bool.eq_iff_iff,beq_iff_eq];cases a with
 |ofNat x=>cases b with
  |ofNat y=>show Nat.beq x y=true↔_;rw [Nat.beq_eq];simp;omega
  |negSucc y=>show false=true↔_;simp
 |negSucc x=>cases b with
  |ofNat y=>show false=true↔_;simp
  |negSucc y=>show Nat.beq x y=true↔_;rw [Nat.beq_eq];simp
def VC(b:Bool):Bool:=Bool.rec true false b
theorem wL(b:Bool):VC b= !b:=by cases b<;>rfl
def qnr(op:BinOp)(k:IntKind)(a b:Int):Option qa:=
 match op with
 | .add=>vl (Vv k (Int.add a b)) λr=>some (.int k r)
 | .sub=>vl (Vv k (Int.sub a b)) λr=>some (.int k r)
 | .mul=>vl (Vv k (Int.mul a b)) λr=>some (.int k r)
 | .quo=>match ieq b 0 with|true=>none|false=>vl (Vv k (Int.tdiv a b)) λr=>some (.int k r)
 | .rem=>match ieq b 0 with|true=>none|false=>vl (Int.tmod a b) λr=>some (.int k r)
 | .and=>vl (k.wrap (BitVec.ofInt k.bits a&&&BitVec.ofInt k.bits b).toNat) λr=>some (.int k r)
 | .or=>vl (k.wrap (BitVec.ofInt k.bits a|||BitVec.ofInt k.bits b).toNat) λr=>some (.int k r)
 | .xor=>vl (k.wrap (BitVec.ofInt k.bits a ^^^ BitVec.ofInt k.bits b).toNat) λr=>some (.int k r)
 | .andNot=>vl (k.wrap (BitVec.ofInt k.bits a&&&~~~BitVec.ofInt k.bits b).toNat) λr=>some (.int k r)
 | .eql=>some (.bool (ieq a b))
 | .neq=>some (.bool (VC (ieq a b)))
 | .lss=>some (.bool (ilt a b))
 | .leq=>some (.bool (VC (ilt b a)))
 | .gtr=>some (.bool (ilt b a))
 | .geq=>some (.bool (VC (ilt a b)))
 |_=>none
def Xg(op:BinOp)(k:IntKind)(a b:Int):Option qa:=
 match ilt b 0,op with
 |false,.shl=>vl (k.wrap (a*2 ^ (min b.toNat k.bits))) λr=>some (.int k r)
 |false,.shr=>vl (a.fdiv (2 ^ (min b.toNat k.bits))) λr=>some (.int k r)
 |_,_=>none
theorem qro{P:Program}{w:World}{op:BinOp}{k:IntKind}{a b:Int}{t:TypeId}{v:qa}(σ:Sg)(h:qnr op k a b=some v):
  ∃v',Den σ v v'/\(binOp op t (.int k a) (.int k b)).run P w= .ok v' w:=by
 unfold qnr at h;split at h
 all_goals (try (cases h;done))
 all_goals (simp only [zP,Qf,qm0,yK,wL]at h)
 case h_4=>split at h<;>first|(cases h;done)|(rename_i hz;cases h;exact⟨_,.int _ _,by have:¬b=0:=(by simpa using hz);simp [binOp,Op.intDiv,this]⟩)
 case h_5=>split at h<;>first|(cases h;done)|(rename_i hz;cases h;exact⟨_,.int _ _,by have:¬b=0:=(by simpa using hz);simp [binOp,Op.intDiv,this]⟩)
 all_goals (cases h)
 all_goals first
  |(refine⟨_,.int _ _,?_⟩;simp only [binOp,ne_eq,not_true_eq_false,if_false,Op.intArith,Op.intBits];rfl)
  |(refine⟨_,.bool _,?_⟩;simp only [binOp,ne_eq,not_true_eq_false,if_false,Op.intCmp,Sem.run_pure];done)
  |(refine⟨_,.bool _,?_⟩;simp only [binOp,ne_eq,not_true_eq_false,if_false,Op.intCmp,Sem.run_pure];rfl)
  |(refine⟨_,.bool _,?_⟩;simp only [binOp,ne_eq,not_true_eq_false,if_false,Op.intCmp,Sem.run_pure];congr 2;rw [Bool.eq_iff_iff];simp)
theorem YH{P:Program}{w:World}{op:BinOp}{k k':IntKind}{a b:Int}{t:TypeId}{v:qa}(σ:Sg)(h:Xg op k a b=some v):
  ∃v',Den σ v v'/\(binOp op t (.int k a) (.int k' b)).run P w= .ok v' w:=by
 unfold Xg at h;split at h
 ·rename_i h1;rw [yK]at h1;have h2:¬b<0:=by simpa using h1
  rw [zP]at h;cases h
  exact⟨_,.int _ _,by simp [binOp,Op.shift,h2]⟩
 ·rename_i h1;rw [yK]at h1;have h2:¬b<0:=by simpa using h1
  rw [zP]at h;cases h
  exact⟨_,.int _ _,by simp [binOp,Op.shift,h2]⟩
 ·cases h
theorem qey(s:List UInt8):(txt s).toList=s:=by rw [ByteArray.toList_eq];rfl
theorem qg3(s t:List UInt8):txt s++txt t=txt (s++t):=by
 unfold txt;rw [ByteArray.mk_append_mk]
def qe3(op:BinOp)(s t:List UInt8):Option qa:=
 match op with
 | .add=>match Nat.ble (s.length+t.length) 9223372036854775807 with
  |true=>some (.str (s++t))
  |false=>none
 | .eql=>some (.bool (s==t))
 | .neq=>some (.bool (!(s==t)))
 | .lss=>some (.bool (Op.bytesLess s t))
 | .leq=>some (.bool (Op.bytesLess s t||s==t))
 | .gtr=>some (.bool !(Op.bytesLess s t||s==t))
 | .geq=>some (.bool !(Op.bytesLess s t))
 |_=>none
theorem qm8{P:Program}{w:World}{op:BinOp}{s u:List UInt8}{t:TypeId}{v:qa}(σ:Sg)(h:qe3 op s u=some v):
  ∃v',Den σ v v'/\(binOp op t (.string (txt s)) (.string (txt u))).run P w= .ok v' w:=by
 unfold qe3 at h;split at h
 ·split at h
  ·rename_i hle;have hle':=Nat.le_of_ble_eq_true hle
   cases h
   refine⟨.string (txt (s++u)),.str _,?_⟩
   have hsz:¬(((txt s).size+(txt u).size:Nat):Int)>IntKind.i64.max:=by
    rw [yY,yY];simp [IntKind.max,IntKind.signed,IntKind.bits]
    omega
   simp only [binOp,Op.stringOp,if_neg hsz,Sem.run_pure]
   rw [qg3]
  ·cases h
 all_goals first
  |(cases h;done)
  |(cases h;exact⟨_,.bool _,by simp only [binOp,Op.stringOp,Sem.run_pure,qey]⟩)
def QB:TypeDesc->qa->Option Bool
 | .pointer _,.ptr _ _=>some false
 | .pointer _,.nilPtr=>some true
 | .slice _,.slice ..=>some false
 | .slice _,.nilSlice=>some true
 | .slice _,.gslice ..=>some false
 | .map _ _,.map _=>some false
 | .map _ _,.nilMap=>some true
 | .func _ _ _,.func _ _ _=>some false
 | .func _ _ _,.nilFunc=>some true
 | .interface _,.iface _ _=>some false
 | .interface _,.nilIface=>some true
 |_,_=>none
def vt:Operand->Bool
 | .const _=>true
 |_=>false
def aEq(P:Program)(t:TypeId)(x y:Operand)(a b:qa):Option Bool:=
 match P.underlying t with
 |some .bool=>match a,b with
  | .bool p,.bool q=>some (Bool.rec (VC q) q p)
  |_,_=>none
 |some d=>match QB d a,QB d b with
  |some p,some q=>match vt x,vt y with
   |true,_=>match p with|true=>some q|false=>none
   |false,true=>match q with|true=>some p|false=>none
   |_,_=>none
  |_,_=>none
 |none=>none
theorem Vr{P:Program}{w:World}{op:BinOp}{t:TypeId}{x y:Operand}{a b:Value}(h:(vt x=true\/vt y=true)\/¬(∃cs ds,a= .agg cs/\b= .agg ds)/\¬(a= .nilIface/\b= .nilIface))(hagg:¬(∃cs ds,a= .agg cs/\b= .agg ds)):
  (eqGuard op t x y a b).run P w= .ok () w:=by
 have two:op= .eql\/op= .neq\/(eqGuard op t x y a b).run P w= .ok () w:=by
  cases op<;>first|exact .inl rfl|exact .inr (.inl rfl)|exact .inr (.inr rfl)
 rcases two with rfl|rfl|h'
 case inr.inr=>exact h'
 all_goals
  unfold eqGuard;rw [if_neg (by simp)]
  cases a<;>cases b<;>first
   |rfl
   |exact(hagg ⟨_,_,rfl,rfl⟩).elim
   |skip
  rcases h with(h|h)|⟨_,h⟩
  ·cases x<;>first|(simp [vt]at h;done)|rfl
  ·cases y<;>first|(simp [vt]at h;done)|(cases x<;>rfl)
  ·exact(h ⟨rfl,rfl⟩).elim
theorem qdi{P:Program}{w:World}{t:TypeId}{a b:Value}{r:Bool}(h:∀d,(Op.equalIn (d+1) t a b).run P w= .ok r w):(Op.equal t a b).run P w= .ok r w:=h 9999
structure qmu(a b:Value):Prop where
 agg:¬(∃cs ds,a= .agg cs/\b= .agg ds)
 int:∀k n k' n',¬(a= .int k n/\b= .int k' n')
 str:∀s s',¬(a= .string s/\b= .string s')
 flt:∀k n k' n',¬(a= .float k n/\b= .float k' n')
 cpl:∀k n m k' n' m',¬(a= .complex k n m/\b= .complex k' n' m')
theorem qgs{P:Program}{w:World}{t:TypeId}{d:TypeDesc}{a b:qa}{a' b':Value}{p q:Bool}{σ:Sg}(hu:P.underlying t=some d)(hp:QB d a=some p)(hq:QB d b=some q)
  (hpq:p=true\/q=true) (ha:Den σ a a') (hb:Den σ b b'):(Op.equal t a' b').run P w= .ok (Bool.rec p q p) w/\qmu a' b':=by
 unfold QB at hp;split at hp<;>try (cases hp;done)
 all_goals (cases hp;unfold QB at hq;split at hq<;>try (cases hq;done))
 all_goals (first|contradiction|skip)
 all_goals (cases hq)
 all_goals (first|(rcases hpq with e|e<;>cases e<;>done)|skip)
 all_goals (cases ha<;>cases hb)
 all_goals (refine⟨qdi λd=> ?_,⟨?_,?_,?_,?_,?_⟩⟩)
 all_goals (first|(simp;done)|skip)
 all_goals (unfold Op.equalIn;simp only [Sem.run_bind,qm hu,Result.andThen_ok];rfl)
theorem X4{P:Program}{w:World}{t:TypeId}{x y:Operand}{a b:qa}{a' b':Value}{r:Bool}{σ:Sg}(h:aEq P t x y a b=some r)(ha:Den σ a a')(hb:Den σ b b'):
  (Op.equal t a' b').run P w= .ok r w/\qmu a' b'/\((vt x=true\/vt y=true)\/¬(a'= .nilIface/\b'= .nilIface)):=by
 unfold aEq at h;split at h
 ·rename_i hu;split at h
  ·cases h
   cases ha
   cases hb
   rename_i p q;refine⟨qdi λd=> ?_,⟨by simp,by simp,by simp,by simp,by simp⟩,.inr (by simp)⟩
   unfold Op.equalIn;simp only [Sem.run_bind,qm hu,Result.andThen_ok,Sem.run_pure]
   cases p<;>cases q<;>rfl
  ·cases h
 ·rename_i d hnb hu;split at h
  ·rename_i p q hp hq;split at h
   ·rename_i hc;split at h
    ·cases h
     obtain⟨h1,h2⟩:=qgs (P:=P) (w:=w) hu hp hq (.inl rfl) ha hb
     exact⟨h1,h2,.inl (.inl hc)⟩
    ·cases h
   ·rename_i hc;split at h
    ·cases h
     obtain⟨h1,h2⟩:=qgs (P:=P) (w:=w) hu hp hq (.inr rfl) ha hb
     refine⟨?_,h2,.inl (.inr hc)⟩
     cases r<;>exact h1
    ·cases h
   ·cases h
  ·cases h
 ·cases h
def Qo(P:Program):Nat->List Field->Nat->Bool
 |i,[],n=>Nat.beq i n
 |i,f::fs,n=>(match P.underlying f.type with|some (.int _)=>true|_=>false)&&(Nat.beq f.offset i&&(!(f.name== "_")&&Qo P (i+1) fs n))
@[irreducible] def J1(P:Program)(t:TypeId)(n:Nat):Bool:=
 (match P.underlying t with|some (.struct _)=>true|_=>false)&&(!(P.stoodInHeld t)&&(!(P.eqGuardType P.depth t)&&Qo P 0 (P.fieldsOf t).toList n))
def WT:List qa->List qa->Option Bool
 |[],[]=>some true
 | .int k a::cs,.int k' b::ds=>match decide (k=k')with
  |true=>match WT cs ds with
   |some r=>some (decide (a=b)&&r)
   |none=>none
  |false=>none
 |_,_=>none
theorem YK{P:Program}{w:World}{σ:Sg}{xs ys:Array Value}{n d:Nat}:∀{fs:List Field} {i:Nat} {cs ds:List qa} {r:Bool},Qo P i fs n=true->WT cs ds=some r->cs.length=n - i->zj σ cs (xs.toList.drop i)->zj σ ds (ys.toList.drop i)->(Op.eqFields (d+1) xs ys fs).run P w= .ok r w
 |[],i,cs,ds,r,h,e,hl,hx,hy=>by
  have h:i=n:=Nat.eq_of_beq_eq_true h
  have:cs=[]:=List.length_eq_zero_iff.1 (by omega)
  subst this;cases ds with
  |nil=>cases e;simp [Op.eqFields]
  |cons _ _=>cases e
 |f::fs,i,cs,ds,r,h,e,hl,hx,hy=>by
  unfold Qo at h;simp only [Bool.and_eq_true]at h
  obtain⟨h1,h2,h3,h4⟩:=h
  have h2:f.offset=i:=Nat.eq_of_beq_eq_true h2
  have h3:f.name≠ "_" :=by simpa using h3
  split at h1
  ·rename_i k0 hu;cases cs with
   |nil=>
    exfalso
    have:∀{fs:List Field} {i:Nat},Qo P i fs n=true->i<=n:=by
     intro fs
     induction fs with
     |nil=>intro i h;exact Nat.le_of_eq (Nat.eq_of_beq_eq_true h)
     |cons g gs ih=>
      intro i h;unfold Qo at h;simp only [Bool.and_eq_true]at h
      have:=ih h.2.2.2
      omega
    have:=this h4
    simp at hl
    omega
   |cons c cs=>
    cases c<;>try (cases e;done)
    rename_i k a;cases ds with
    |nil=>cases e
    |cons g ds=>
     cases g<;>try (cases e;done)
     rename_i k' b;unfold WT at e;split at e
     ·rename_i hk;have hk:k=k':=of_decide_eq_true hk
      subst hk;split at e
      ·rename_i r' hr';cases e
       generalize hxs:xs.toList.drop i=lx at hx
       generalize hys:ys.toList.drop i=ly at hy
       cases hx with
       |cons da ta=>
        cases hy with
        |cons db tb=>
         rename_i va la vb lb;cases da
         cases db
         have gx:xs[i]?=some (.int k a):=by rw [<-Array.getElem?_toList,<-List.head?_drop,hxs];rfl
         have gy:ys[i]?=some (.int k b):=by rw [<-Array.getElem?_toList,<-List.head?_drop,hys];rfl
         have tx:xs.toList.drop (i+1)=la:=by rw [<-List.tail_drop,hxs];rfl
         have ty:ys.toList.drop (i+1)=lb:=by rw [<-List.tail_drop,hys];rfl
         have px:∀w,(part f.type xs f.offset).run P w= .ok (.int k a) w:=λw=>by
          rw [h2];simp [part,kP hu,XP,gx]
         have py:∀w,(part f.type ys f.offset).run P w= .ok (.int k b) w:=λw=>by
          rw [h2];simp [part,kP hu,XP,gy]
         have ih:=YK (P:=P) (w:=w) (σ:=σ) (xs:=xs) (ys:=ys) (n:=n) (d:=d) h4 hr' (by simp at hl;omega) (by rw [tx];exact ta) (by rw [ty];exact tb)
         unfold Op.eqFields;rw [if_pos h3];simp only [Sem.run_bind,px,py,Result.andThen_ok,run_equalIn_int w d f.type k k0 a b hu]
         by_cases hab:a=b
         ·simp [hab,ih]
         ·simp [hab]
      ·cases e
     ·cases e
  ·cases h1
theorem JQ{P:Program}{w:World}{t:TypeId}{x y:Operand}{cs ds:List qa}{a b:Value}{r:Bool}{σ:Sg}(h:J1 P t cs.length=true)(e:WT cs ds=some r)(ha:Den σ (.agg cs) a)(hb:Den σ (.agg ds) b):
  (∀op:BinOp,(eqGuard op t x y a b).run P w= .ok () w)/\(binOp .eql t a b).run P w= .ok (.bool r) w/\(binOp .neq t a b).run P w= .ok (.bool (!r)) w:=by
 cases ha with
 |agg ha=>
 cases hb with
 |agg hb=>
 unfold J1 at h;simp only [Bool.and_eq_true,Bool.not_eq_true']at h
 obtain⟨h1,h2,h3,h4⟩:=h
 have hu:P.underlying t=some (.struct (P.fieldsOf t)):=by
  unfold Program.fieldsOf;split at h1
  ·rename_i fs e;rw [e]
  ·cases h1
 have heq:(Op.equalIn 10000 t (.agg ⟨_⟩) (.agg ⟨_⟩)).run P w= .ok r w:=(run_equalIn_agg w 9999 t _ _ hu h2).trans (YK (d:=9998) h4 e (by omega) (by simpa using ha) (by simpa using hb))
 refine⟨λop=>run_eqGuard_agg w op t x y _ _ h3,?_,?_⟩
 ·rw [run_eql_struct,heq];rfl
 ·rw [run_neq_struct,heq];rfl
def qdz(P:Program)(t:TypeId)(x y:Operand)(a b:qa):Option Bool:=
 match a,b with
 | .agg cs,.agg ds=>match J1 P t cs.length with
  |true=>WT cs ds
  |false=>none
 |a,b=>aEq P t x y a b
def yi(P:Program)(op:BinOp)(t:TypeId)(x y:Operand)(ρ:Operand->qa)(H:qc)(nx:Nat):Option zG:=
 match ρ x,ρ y with
 | .int k a,.int k' b=>
  match op with
  | .shl| .shr=>match Xg op k a b with
   |some v=>some (.val v H nx)
   |none=>none
  |op=>match decide (k=k')with
   |true=>match qnr op k a b with
    |some v=>some (.val v H nx)
    |none=>none
   |false=>none
 | .str a,.str b=>match qe3 op a b with
  |some v=>some (.val v H nx)
  |none=>none
 |a,b=>match op with
  | .eql=>match qdz P t x y a b with
   |some r=>some (.val (.bool r) H nx)
   |none=>none
  | .neq=>match qdz P t x y a b with
   |some r=>some (.val (.bool (VC r)) H nx)
   |none=>none
  |_=>none
theorem KL{P:Program}{w:World}{op:BinOp}{t:TypeId}{x y:Operand}{k k':IntKind}{a b:Int}:(eqGuard op t x y (.int k a) (.int k' b)).run P w= .ok () w:=by
 unfold eqGuard;split<;>rfl
theorem qhz{P:Program}{w:World}{op:BinOp}{t:TypeId}{x y:Operand}{a b:ByteArray}:(eqGuard op t x y (.string a) (.string b)).run P w= .ok () w:=by
 unfold eqGuard;split<;>rfl
theorem X9{t:TypeId}{a b:Value}(h:qmu a b):
  binOp .eql t a b=(do pure (.bool (<-Op.equal t a b)))/\binOp .neq t a b=(do pure (.bool (!(<-Op.equal t a b)))):=by
 cases a<;>cases b<;>first|exact⟨rfl,rfl⟩|skip
 all_goals first
  |exact(h.int _ _ _ _ ⟨rfl,rfl⟩).elim
  |exact(h.str _ _ ⟨rfl,rfl⟩).elim
  |exact(h.flt _ _ _ _ ⟨rfl,rfl⟩).elim
  |exact(h.cpl _ _ _ _ _ _ ⟨rfl,rfl⟩).elim
theorem qlb{P:Program}{o:Oper}{op:BinOp}{t u:TypeId}{x y:Operand}{ρ:Operand->qa}{H:qc}{nx:Nat}{r:zG}(ho:o.op= .binOp op t x y u)
  (h:yi P op t x y ρ H nx=some r):zE P o ρ H nx r:=by
 unfold yi at h;split at h
 ·rename_i k a k' b hx hy;split at h
  ·split at h
   ·rename_i v hv;cases h
    refine zE.pure λσ w ρ' _ hd=> ?_
    have d1:=hd x;have d2:=hd y;rw [hx]at d1;rw [hy]at d2
    obtain⟨v',dv,hrun⟩:=YH (P:=P) (w:=w) (t:=t) (k':=k') σ hv
    refine⟨v',dv,?_⟩
    cases e1:ρ' x<;>rw [e1]at d1<;>cases d1
    cases e2:ρ' y<;>rw [e2]at d2<;>cases d2
    simp [execOp,ho,e1,e2,KL,hrun]
   ·cases h
  ·split at h
   ·rename_i v hv;cases h
    refine zE.pure λσ w ρ' _ hd=> ?_
    have d1:=hd x;have d2:=hd y;rw [hx]at d1;rw [hy]at d2
    obtain⟨v',dv,hrun⟩:=YH (P:=P) (w:=w) (t:=t) (k':=k') σ hv
    refine⟨v',dv,?_⟩
    cases e1:ρ' x<;>rw [e1]at d1<;>cases d1
    cases e2:ρ' y<;>rw [e2]at d2<;>cases d2
    simp [execOp,ho,e1,e2,KL,hrun]
   ·cases h
  ·split at h
   ·rename_i hk;have hk':k=k':=by simpa using hk
    subst hk';split at h
    ·rename_i v hv;cases h
     refine zE.pure λσ w ρ' _ hd=> ?_
     have d1:=hd x;have d2:=hd y;rw [hx]at d1;rw [hy]at d2
     obtain⟨v',dv,hrun⟩:=qro (P:=P) (w:=w) (t:=t) σ hv
     refine⟨v',dv,?_⟩
     cases e1:ρ' x<;>rw [e1]at d1<;>cases d1
     cases e2:ρ' y<;>rw [e2]at d2<;>cases d2
     simp [execOp,ho,e1,e2,KL,hrun]
    ·cases h
   ·cases h
 ·rename_i a b hx hy;split at h
  ·rename_i v hv;cases h
   refine zE.pure λσ w ρ' _ hd=> ?_
   have d1:=hd x;have d2:=hd y;rw [hx]at d1;rw [hy]at d2
   cases e1:ρ' x<;>rw [e1]at d1<;>cases d1
   cases e2:ρ' y<;>rw [e2]at d2<;>cases d2
   obtain⟨v',dv,hrun⟩:=qm8 (P:=P) (w:=w) (t:=t) σ hv
   refine⟨v',dv,?_⟩
   simp [execOp,ho,e1,e2,qhz,hrun]
  ·cases h
 ·skip
  split at h
  ·split at h
   ·rename_i r' hr';cases h
    refine zE.pure λσ w ρ' _ hd=> ?_
    refine⟨.bool r',.bool _,?_⟩
    unfold qdz at hr';split at hr'
    ·rename_i cs ds hx hy;split at hr'
     ·rename_i hok;have dx:=hd x;have dy:=hd y;rw [hx]at dx;rw [hy]at dy
      obtain⟨q1,q2,_⟩:=JQ (x:=x) (y:=y) (w:=w) hok hr' dx dy
      simp [execOp,ho,q1,q2]
     ·cases hr'
    obtain⟨hrun,hoth,hg⟩:=X4 (P:=P) (w:=w) hr' (hd x) (hd y)
    have hguard:=Vr (P:=P) (w:=w) (op:= .eql) (t:=t) (x:=x) (y:=y) (a:=ρ' x) (b:=ρ' y) (hg.imp id λh=>⟨hoth.agg,h⟩) hoth.agg
    simp [execOp,ho,hguard,(X9 (t:=t) hoth).1,hrun]
   ·cases h
  ·split at h
   ·rename_i r' hr';cases h
    refine zE.pure λσ w ρ' _ hd=> ?_
    refine⟨.bool (VC r'),.bool _,?_⟩
    unfold qdz at hr';split at hr'
    ·rename_i cs ds hx hy;split at hr'
     ·rename_i hok;have dx:=hd x;have dy:=hd y;rw [hx]at dx;rw [hy]at dy
      obtain⟨q1,_,q2⟩:=JQ (x:=x) (y:=y) (w:=w) hok hr' dx dy
      simp [execOp,ho,q1,q2,wL]
     ·cases hr'
    obtain⟨hrun,hoth,hg⟩:=X4 (P:=P) (w:=w) hr' (hd x) (hd y)
    have hguard:=Vr (P:=P) (w:=w) (op:= .neq) (t:=t) (x:=x) (y:=y) (a:=ρ' x) (b:=ρ' y) (hg.imp id λh=>⟨hoth.agg,h⟩) hoth.agg
    simp [execOp,ho,hguard,(X9 (t:=t) hoth).2,hrun,wL]
   ·cases h
  ·cases h
end
end Go.Vs
end
section
namespace Go.Vs
variable [GTab] {P:Program} {H:qc} {nx:Nat} {w:World} {o:Oper}
noncomputable section
def kr(P:Program)(s:TypeId)(x:Operand)(f:Nat)(ρ:Operand->qa)(H:qc)(nx:Nat):Option zG:=
 match P.underlying s with
 |some (.struct fields)=>match fields[f]? with
  |some fd=>match P.info? fd.type with
   |some i=>match Nat.beq i.size 0 with
    |false=>match ρ x with
     | .ptr b off=>some (.val (.ptr b (Nat.add off fd.offset)) H nx)
     | .gptr g off=>some (.val (.gptr g (Nat.add off fd.offset)) H nx)
     |_=>none
    |true=>none
   |none=>none
  |none=>none
 |_=>none
theorem Wj{s:TypeId}{x:Operand}{f:Nat}{ρ:Operand->qa}{r:zG}(ho:o.op= .fieldAddr s x f)
  (h:kr P s x f ρ H nx=some r):zE P o ρ H nx r:=by
 unfold kr at h;split at h<;>try (cases h;done)
 rename_i fields hu;split at h<;>try (cases h;done)
 rename_i fd hf;split at h<;>try (cases h;done)
 rename_i i hi;split at h<;>try (cases h;done)
 rename_i hz;have hz':¬i.size=0:=λe=>by rw [e]at hz;cases hz
 split at h<;>try (cases h;done)
 ·rename_i b off hx;cases h
  refine zE.pure λσ w ρ' _ hd=> ?_
  have d:=hd x
  rw [hx]at d;cases e:ρ' x<;>rw [e]at d<;>cases d
  rename_i cb sz hb;refine⟨.pointer (some (at' cb (off+fd.offset))),.ptr hb,?_⟩
  have:=kn cb off fd.offset
  simp [execOp,ho,Instr.fieldAt,qm hu,hf,e,Instr.sureAddr,fieldPlace,qN hi,hz',this]
 ·rename_i g off hx;cases h
  refine zE.pure λσ w ρ' _ hd=> ?_
  have d:=hd x
  rw [hx]at d;cases e:ρ' x<;>rw [e]at d<;>cases d
  refine⟨.pointer (some (at' g (off+fd.offset))),.gptr _ _,?_⟩
  have:=kn g off fd.offset
  simp [execOp,ho,Instr.fieldAt,qm hu,hf,e,Instr.sureAddr,fieldPlace,qN hi,hz',this]
def qee(P:Program)(t:TypeId)(cs:List qa)(off:Nat):Option qa:=
 match P.underlying t,P.info? t with
 |some d,some i=>match XP d with
  |true=>some (.agg (List.take i.size (List.drop off cs)))
  |false=>match List.drop off cs with
   |v::_=>some v
   |[]=>none
 |_,_=>none
theorem qcf{t:TypeId}{cs:List qa}{cs':List Value}{off:Nat}{v:qa}{σ:Sg}(h:qee P t cs off=some v)(hd:zj σ cs cs'):
  ∃v',Den σ v v'/\(part t ⟨cs'⟩ off).run P w= .ok v' w:=by
 unfold qee at h;split at h<;>try (cases h;done)
 rename_i d i hu hi;split at h
 ·rename_i hagg;cases h
  refine⟨.agg ⟨(cs'.drop off).take i.size⟩,.agg ((hd.drop off).take i.size),?_⟩
  have e:(Array.mk cs').extract off (off+i.size)=⟨(cs'.drop off).take i.size⟩:=by
   apply Array.ext'
   simp [List.extract]
  simp [part,kP hu,hagg,qN hi]
 ·rename_i hagg;split at h<;>try (cases h;done)
  rename_i v0 rest hdrop;cases h
  have hl:=hd.drop off
  rw [hdrop]at hl;cases hl':cs'.drop off with
  |nil=>rw [hl']at hl;cases hl
  |cons v' rest'=>
   rw [hl']at hl;cases hl with
   |cons hv _=>
    refine⟨v',hv,?_⟩
    have e:(Array.mk cs')[off]?=some v':=by
     have:cs'[off]?=some v':=by
      have:=congrArg (λl:List Value=>l[0]?) hl'
      simpa using this
     simpa using this
    simp [part,kP hu,hagg,e]
def Qz(P:Program)(t:TypeId)(x:Operand)(f:Nat)(ρ:Operand->qa)(H:qc)(nx:Nat):Option zG:=
 match P.underlying t with
 |some (.struct fields)=>match fields[f]? with
  |some fd=>match ρ x with
   | .agg cs=>match qee P fd.type cs fd.offset with
    |some v=>some (.val v H nx)
    |none=>none
   |_=>none
  |none=>none
 |_=>none
theorem qf3{t:TypeId}{x:Operand}{f:Nat}{ρ:Operand->qa}{r:zG}(ho:o.op= .field t x f)
  (h:Qz P t x f ρ H nx=some r):zE P o ρ H nx r:=by
 unfold Qz at h;split at h<;>try (cases h;done)
 rename_i fields hu;split at h<;>try (cases h;done)
 rename_i fd hf;split at h<;>try (cases h;done)
 rename_i cs hx;split at h<;>try (cases h;done)
 rename_i v hv;cases h
 refine zE.pure λσ w ρ' _ hd=> ?_
 have d:=hd x
 rw [hx]at d;cases e:ρ' x<;>rw [e]at d<;>cases d
 rename_i cs' hl;obtain⟨v',dv,hrun⟩:=qcf (w:=w) hv hl
 exact⟨v',dv,by simp [execOp,ho,Instr.field,qm hu,hf,e,asAgg,hrun]⟩
def Wk:Int->Option Nat
 | .ofNat n=>some n
 | .negSucc _=>none
theorem Zg{i:Int}{n:Nat}(h:Wk i=some n):i=(n:Int):=by cases i<;>cases h;rfl
def jK(P:Program)(t:TypeId)(x ix:Operand)(ρ:Operand->qa)(H:qc)(nx:Nat):Option zG:=
 match ρ ix with
 | .int _ i=>match Wk i with
  |some n=>match P.underlying t,ρ x with
   |some (.array len elem),.ptr b off=>match Nat.ble (Nat.succ n) len,P.info? elem with
    |true,some e=>some (.val (.ptr b (Nat.add off (Nat.mul n e.size))) H nx)
    |_,_=>none
   |some (.array len elem),.gptr g off=>match Nat.ble (Nat.succ n) len,P.info? elem with
    |true,some e=>some (.val (.gptr g (Nat.add off (Nat.mul n e.size))) H nx)
    |_,_=>none
   |some (.slice elem),.slice b off len _ _=>match Nat.ble (Nat.succ n) len,P.info? elem with
    |true,some e=>some (.val (.ptr b (Nat.add off (Nat.mul n e.size))) H nx)
    |_,_=>none
   |some (.slice elem),.gslice g off len _=>match Nat.ble (Nat.succ n) len,P.info? elem with
    |true,some e=>some (.val (.gptr g (Nat.add off (Nat.mul n e.size))) H nx)
    |_,_=>none
   |_,_=>none
  |none=>none
 |_=>none
theorem Xa{t:TypeId}{x ix:Operand}{ρ:Operand->qa}{r:zG}(ho:o.op= .indexAddr t x ix)
  (h:jK P t x ix ρ H nx=some r):zE P o ρ H nx r:=by
 unfold jK at h;split at h<;>try (cases h;done)
 rename_i k i hix;split at h<;>try (cases h;done)
 rename_i n hn;have hi:=Zg hn
 subst hi;split at h
 ·rename_i len elem b off hu hx;split at h<;>try (cases h;done)
  rename_i ei hle he;have hlt:=Nat.le_of_ble_eq_true hle
  cases h
  refine zE.pure λσ w ρ' _ hd=> ?_
  have d:=hd x;have d2:=hd ix
  rw [hx]at d;rw [hix]at d2;cases e:ρ' x<;>rw [e]at d<;>cases d
  cases e2:ρ' ix<;>rw [e2]at d2<;>cases d2
  rename_i cb sz hb;refine⟨.pointer (some (at' cb (off+n*ei.size))),.ptr hb,?_⟩
  have:=kn cb off (n*ei.size)
  have h1:n<len:=by omega
  simp [execOp,ho,Instr.indexAt,e,e2,asIntOf,qm hu,Instr.sureAddr,h1,qN he,this]
 ·rename_i len elem g off hu hx;split at h<;>try (cases h;done)
  rename_i ei hle he;have hlt:=Nat.le_of_ble_eq_true hle
  cases h
  refine zE.pure λσ w ρ' _ hd=> ?_
  have d:=hd x;have d2:=hd ix
  rw [hx]at d;rw [hix]at d2;cases e:ρ' x<;>rw [e]at d<;>cases d
  cases e2:ρ' ix<;>rw [e2]at d2<;>cases d2
  refine⟨.pointer (some (at' g (off+n*ei.size))),.gptr _ _,?_⟩
  have:=kn g off (n*ei.size)
  have h1:n<len:=by omega
  simp [execOp,ho,Instr.indexAt,e,e2,asIntOf,qm hu,Instr.sureAddr,h1,qN he,this]
 ·rename_i elem b off len esz full hu hx;split at h<;>try (cases h;done)
  rename_i ei hle he;have hlt:=Nat.le_of_ble_eq_true hle
  cases h
  refine zE.pure λσ w ρ' _ hd=> ?_
  have d:=hd x;have d2:=hd ix
  rw [hx]at d;rw [hix]at d2;cases e:ρ' x<;>rw [e]at d<;>cases d
  ·cases e2:ρ' ix<;>rw [e2]at d2<;>cases d2
   rename_i cb sz hb h1 h2 h3;refine⟨.pointer (some (at' cb (off+n*ei.size))),.ptr hb,?_⟩
   have:=kn cb off (n*ei.size)
   have h1:n<len:=by omega
   simp [execOp,ho,Instr.indexAt,e,e2,asIntOf,qm hu,h1,qN he,this]
  ·omega
 ·rename_i elem g off len esz hu hx;split at h<;>try (cases h;done)
  rename_i ei hle he;have hlt:=Nat.le_of_ble_eq_true hle
  cases h
  refine zE.pure λσ w ρ' _ hd=> ?_
  have d:=hd x;have d2:=hd ix
  rw [hx]at d;rw [hix]at d2;cases e:ρ' x<;>rw [e]at d<;>cases d
  ·cases e2:ρ' ix<;>rw [e2]at d2<;>cases d2
   refine⟨.pointer (some (at' g (off+n*ei.size))),.gptr _ _,?_⟩
   have:=kn g off (n*ei.size)
   have h1:n<len:=by omega
   simp [execOp,ho,Instr.indexAt,e,e2,asIntOf,qm hu,h1,qN he,this]
  ·omega
 ·cases h
def wN(P:Program)(t:TypeId)(x ix:Operand)(ρ:Operand->qa)(H:qc)(nx:Nat):Option zG:=
 match ρ ix with
 | .int _ i=>match Wk i with
  |some n=>match P.underlying t,ρ x with
   |some (.array len elem),.agg cs=>match Nat.ble (Nat.succ n) len,P.info? elem with
    |true,some e=>match qee P elem cs (Nat.mul n e.size)with
     |some v=>some (.val v H nx)
     |none=>none
    |_,_=>none
   |some .string,.str l=>match l[n]? with
    |some c=>some (.val (.int .u8 (.ofNat c.toNat)) H nx)
    |none=>none
   |_,_=>none
  |none=>none
 |_=>none
theorem qer{t:TypeId}{x ix:Operand}{ρ:Operand->qa}{r:zG}(ho:o.op= .index t x ix)
  (h:wN P t x ix ρ H nx=some r):zE P o ρ H nx r:=by
 unfold wN at h;split at h<;>try (cases h;done)
 rename_i k i hix;split at h<;>try (cases h;done)
 rename_i n hn;have hi:=Zg hn
 subst hi;split at h
 ·rename_i len elem cs hu hx;split at h<;>try (cases h;done)
  rename_i ei hle he;have hlt:=Nat.le_of_ble_eq_true hle
  split at h<;>try (cases h;done)
  rename_i v hv;cases h
  refine zE.pure λσ w ρ' _ hd=> ?_
  have d:=hd x;have d2:=hd ix
  rw [hx]at d;rw [hix]at d2;cases e:ρ' x<;>rw [e]at d<;>cases d
  cases e2:ρ' ix<;>rw [e2]at d2<;>cases d2
  rename_i cs' hl;obtain⟨v',dv,hrun⟩:=qcf (w:=w) hv hl
  refine⟨v',dv,?_⟩
  have h1:n<len:=by omega
  have hrun':(part elem ⟨cs'⟩ (n*ei.size)).run P w= .ok v' w:=hrun
  simp [execOp,ho,Instr.index,e,e2,asIntOf,qm hu,h1,qN he,hrun']
 ·rename_i l hu hx;split at h<;>try (cases h;done)
  rename_i c hc;cases h
  refine zE.pure λσ w ρ' _ hd=> ?_
  have d:=hd x;have d2:=hd ix
  rw [hx]at d;rw [hix]at d2;cases e:ρ' x<;>rw [e]at d<;>cases d
  cases e2:ρ' ix<;>rw [e2]at d2<;>cases d2
  refine⟨_,.int _ _,?_⟩
  have hlt:n<l.length:=by
   rcases Nat.lt_or_ge n l.length with h|h
   ·exact h
   ·rw [List.getElem?_eq_none h]at hc;cases hc
  have hg:(txt l)[n]?=some c:=by
   have hs:n<(txt l).size:=by rw [yY];exact hlt
   rw [ByteArray.getElem?_lt' _ _ hs];rw [List.getElem?_eq_getElem hlt]at hc;exact hc
  simp only [execOp,ho,Instr.index,e,e2,asIntOf,Sem.run_bind,Sem.run_pure,Result.andThen_ok,qm hu]
  have h0:(0:Int)<=(n:Int):=by omega
  rw [if_pos h0,Int.toNat_natCast,hg];simp only [Sem.run_pure,Result.andThen_ok]
  rfl
 ·cases h
def v3(t:Operand)(i:Nat)(ρ:Operand->qa)(H:qc)(nx:Nat):Option zG:=
 match ρ t with
 | .tuple vs=>match vs[i]? with
  |some v=>some (.val v H nx)
  |none=>none
 |_=>none
theorem qae{t:Operand}{i:Nat}{ρ:Operand->qa}{r:zG}(ho:o.op= .extract t i)
  (h:v3 t i ρ H nx=some r):zE P o ρ H nx r:=by
 unfold v3 at h;split at h<;>try (cases h;done)
 rename_i vs hx;split at h<;>try (cases h;done)
 rename_i v hv;cases h
 refine zE.pure λσ w ρ' _ hd=> ?_
 have d:=hd t
 rw [hx]at d;cases e:ρ' t<;>rw [e]at d<;>cases d
 rename_i vs' hl;obtain⟨v',hv',dv⟩:=hl.get i v hv
 exact⟨v',dv,by simp [execOp,ho,Instr.extract,e,hv']⟩
def qan:TypeDesc->Bool
 | .interface _=>true
 |_=>false
def jr(P:Program)(t:TypeId)(x:Operand)(ρ:Operand->qa)(H:qc)(nx:Nat):Option zG:=
 match P.underlying t with
 |some d=>match qan d with
  |false=>some (.val (.iface t (ρ x)) H nx)
  |true=>none
 |none=>none
theorem JF{t:TypeId}{x:Operand}{ρ:Operand->qa}{r:zG}(ho:o.op= .makeInterface t x)
  (h:jr P t x ρ H nx=some r):zE P o ρ H nx r:=by
 unfold jr at h;split at h<;>try (cases h;done)
 rename_i d hu;split at h<;>try (cases h;done)
 rename_i hd';cases h
 refine zE.pure λσ w ρ' _ hd=>⟨.iface t (ρ' x),.iface (hd x),?_⟩
 simp only [execOp,ho,Instr.makeInterface,Sem.run_bind,qm hu,Result.andThen_ok]
 cases d<;>first|rfl|(cases hd')
theorem ws{σ:Sg}{ρ:Operand->qa}{ρ':Operand->Value}(h:∀x,Den σ (ρ x) (ρ' x)):∀l:List Operand,zj σ (l.map ρ) (l.map ρ')
 |[]=> .nil
 |x::l=> .cons (h x) (ws h l)
theorem qh8{ρ':Operand->Value}(xs:Array Operand):xs.map ρ'=⟨xs.toList.map ρ'⟩:=by
 apply Array.ext'
 simp
def yk(fn:Fn)(first captured:Array Operand)(ρ:Operand->qa)(H:qc)(nx:Nat):Option zG:=
 some (.val (.func fn (first.toList.map ρ) (captured.toList.map ρ)) H nx)
theorem XA{fn:Fn}{first captured:Array Operand}{ρ:Operand->qa}{r:zG}(ho:o.op= .makeFunc fn first captured)
  (h:yk fn first captured ρ H nx=some r):zE P o ρ H nx r:=by
 cases h
 refine zE.pure λσ w ρ' _ hd=>⟨.func fn ⟨first.toList.map ρ'⟩ ⟨captured.toList.map ρ'⟩,.func (ws hd _) (ws hd _),?_⟩
 simp only [execOp,ho,Instr.makeFunc,Sem.run_bind,Sem.run_pure,Result.andThen_ok,qh8]
def kO(x:Operand)(ρ:Operand->qa)(H:qc)(nx:Nat):Option zG:=
 match ρ x with
 | .ptr b off=>some (.val (.ptr b off) H nx)
 | .gptr g off=>some (.val (.gptr g off) H nx)
 | .iface t v=>some (.val (.iface t v) H nx)
 | .func (.func f) a b=>some (.val (.func (.func f) a b) H nx)
 |_=>none
theorem XG{x:Operand}{ρ:Operand->qa}{r:zG}(ho:o.op= .nilCheck x)
  (h:kO x ρ H nx=some r):zE P o ρ H nx r:=by
 unfold kO at h;split at h<;>try (cases h;done)
 all_goals (rename_i hx;cases h;refine zE.pure λσ w ρ' _ hd=> ?_;have d:=hd x;rw [hx]at d)
 all_goals (refine⟨ρ' x,d,?_⟩;cases e:ρ' x<;>rw [e]at d<;>cases d)
 all_goals (simp [execOp,ho,e])
def qdo(op:UnOp)(x:Operand)(ρ:Operand->qa)(H:qc)(nx:Nat):Option zG:=
 match op,ρ x with
 | .neg,.int k n=>vl (Vv k (Int.sub 0 n)) λr=>some (.val (.int k r) H nx)
 | .not,.bool b=>some (.val (.bool (VC b)) H nx)
 |_,_=>none
theorem qrr{op:UnOp}{t:TypeId}{x:Operand}{ρ:Operand->qa}{r:zG}(ho:o.op= .unOp op t x)
  (h:qdo op x ρ H nx=some r):zE P o ρ H nx r:=by
 unfold qdo at h;split at h<;>try (cases h;done)
 ·rename_i k n hx;rw [zP,Qf]at h;cases h
  refine zE.pure λσ w ρ' _ hd=> ?_
  have d:=hd x;rw [hx]at d
  refine⟨_,.int _ _,?_⟩
  cases e:ρ' x<;>rw [e]at d<;>cases d
  simp only [execOp,ho,e,Op.unary,Op.intArith,Sem.run_bind,Sem.run_pure,Result.andThen_ok]
  rfl
 ·rename_i b hx;cases h
  refine zE.pure λσ w ρ' _ hd=> ?_
  have d:=hd x;rw [hx]at d
  refine⟨_,.bool _,?_⟩
  cases e:ρ' x<;>rw [e]at d<;>cases d
  simp [execOp,ho,e,Op.unary,wL]
def yz:List qa->Option (List UInt8)
 |[]=>some []
 | .int .u8 (.ofNat n)::l=>match Nat.ble n 255,yz l with
  |true,some bs=>some (UInt8.ofNat n::bs)
  |_,_=>none
 |_=>none
theorem Xv:∀{l:List qa} {bs:List UInt8},yz l=some bs->l=bs.map (λb=>qa.int .u8 (.ofNat b.toNat))
 |[],bs,h=>by cases h;rfl
 |v::l,bs,h=>by
  unfold yz at h;split at h<;>try (cases h;done)
  ·rename_i e;cases e
  ·rename_i n l' e;cases e
   split at h<;>try (cases h;done)
   rename_i bs' hn hl;cases h
   have hn':n<256:=Nat.lt_of_le_of_lt (Nat.le_of_ble_eq_true hn) (by decide)
   have hb:(UInt8.ofNat n).toNat=n:=by simp [UInt8.toNat_ofNat',Nat.mod_eq_of_lt hn']
   rw [List.map_cons,hb,<-Xv hl]
theorem Wp{σ:Sg}:∀{bs:List UInt8} {l':List Value},zj σ (bs.map λb=>qa.int .u8 (.ofNat b.toNat)) l'->l'=(bs.map λb=>(b.toNat:Int)).map (Value.int .u8)
 |[],_,.nil=>rfl
 |b::bs,_,.cons h t=>by
  cases h
  rw [Wp t]
  rfl
theorem Xi:∀(bs:List UInt8) (s:ByteArray),(bs.map λb=>(b.toNat:Int)).foldl (λr n=>r.push (UInt8.ofNat n.toNat)) s=⟨s.data++bs.toArray⟩
 |[],s=>by simp
 |b::bs,s=>by
  rw [List.map_cons,List.foldl_cons,Xi bs];have:(s.push (UInt8.ofNat ((b.toNat:Int).toNat))).data=s.data.push b:=by simp [ByteArray.push]
  rw [this];simp
def yQ(P:Program)(src dst:TypeId)(x:Operand)(ρ:Operand->qa)(H:qc)(nx:Nat):Option zG:=
 match P.underlying src,P.underlying dst,ρ x with
 |some _,some (.int k),.int _ n=>vl (Vv k n) λr=>some (.val (.int k r) H nx)
 |some _,some .string,.str s=>some (.val (.str s) H nx)
 |some (.slice e),some .string,.slice b off n _ _=>match P.underlying e,zf b H with
  |some (.int .u8),some (.cells cnt ct _ _)=>match Nat.ble (Nat.add off n) cnt with
   |true=>match yz (CT.slab ct n off)with
    |some z=>some (.val (.str z) H nx)
    |none=>none
   |false=>none
  |_,_=>none
 |some (.slice e),some .string,.nilSlice=>match P.underlying e with
  |some (.int .u8)=>some (.val (.str []) H nx)
  |_=>none
 |_,_,_=>none
theorem qjd{src dst:TypeId}{x:Operand}{ρ:Operand->qa}{r:zG}(ho:o.op= .convert src dst x)
  (h:yQ P src dst x ρ H nx=some r):zE P o ρ H nx r:=by
 unfold yQ at h;split at h<;>try (cases h;done)
 ·rename_i d k k' n hs hdst hx;rw [zP,Qf]at h;cases h
  refine zE.pure λσ w ρ' _ hd=> ?_
  have dx:=hd x;rw [hx]at dx
  refine⟨_,.int _ _,?_⟩
  cases e:ρ' x<;>rw [e]at dx<;>cases dx
  simp [execOp,ho,e,convert,qm hs,qm hdst,Conv.intToInt]
 ·rename_i d s hs hdst hx;cases h
  refine zE.pure λσ w ρ' _ hd=> ?_
  have dx:=hd x;rw [hx]at dx
  refine⟨ρ' x,dx,?_⟩
  cases e:ρ' x<;>rw [e]at dx<;>cases dx
  simp [execOp,ho,e,convert,qm hs,qm hdst]
 ·rename_i el b off n esz full hs hdst hx;split at h<;>try (cases h;done)
  rename_i cnt ct olds s hel hob;split at h<;>try (cases h;done)
  rename_i hle;have hle':off+n<=cnt:=Nat.le_of_ble_eq_true hle
  split at h<;>try (cases h;done)
  rename_i bs hz;cases h
  have e1:=Xv hz
  have hlen:bs.length=n:=by have:=CT.slab_length ct n off;rw [e1]at this;simpa using this
  refine zE.pure λσ w ρ' hr hd=> ?_
  have dx:=hd x;rw [hx]at dx
  have key:∀(a:Addr) (cap:Nat),(loadCells a n).run P w= .ok ((bs.map λb=>(b.toNat:Int)).map (Value.int .u8)).toArray w->∃v',Den σ (.str bs) v'/\(convert src dst (.slice (some a) n cap)).run P w= .ok v' w:=by
   intro a cap hl;refine⟨_,Den.str bs,?_⟩
   rw [run_convert_bytes_string w src dst el _ _ cap hs hel hdst,run_bytesToString w a n cap _ hl,Xi];have e0:(ByteArray.empty.data++bs.toArray)=bs.toArray:=by
    show #[]++bs.toArray=bs.toArray
    simp
   rw [e0]
   rfl
  cases e:ρ' x<;>rw [e]at dx<;>cases dx
  ·rename_i cap cb sz hb h1 h2 h3;obtain⟨l',_,hl,_,hrun⟩:=vG hr hob hb P off n hle'
   rw [e1]at hl;rw [Wp hl]at hrun;obtain⟨v',dv,hv⟩:=key (at' cb off) cap hrun
   exact⟨v',dv,by simp [execOp,ho,e,hv]⟩
  ·rename_i off' cb sz hb;have hbs:bs=[]:=List.length_eq_zero_iff.1 hlen
   subst hbs;obtain⟨v',dv,hv⟩:=key (at' cb off') 0 (by simp [loadCells,loadCellsFrom])
   have hv':(convert src dst (.slice (some {block:=cb,off:=off'}) 0 0)).run P w= .ok v' w:=hv
   exact⟨v',dv,by simp [execOp,ho,e,hv']⟩
 ·rename_i el hs hdst hx;split at h<;>try (cases h;done)
  rename_i hel;cases h
  refine zE.pure λσ w ρ' hr hd=> ?_
  have dx:=hd x;rw [hx]at dx
  cases e:ρ' x<;>rw [e]at dx<;>cases dx
  refine⟨_,Den.str [],?_⟩
  have:=run_convert_bytes_string w src dst el none 0 0 hs hel hdst
  simp only [execOp,ho,e,Sem.run_bind,this]
  simp [Conv.bytesToString,txt,ByteArray.empty,ByteArray.emptyWithCapacity]
  rfl
end
end Go.Vs
namespace Go.Vs
variable [GTab] {P:Program} {H:qc} {nx:Nat} {w:World} {o:Oper}
noncomputable section
def bnd(d:Nat)(x:Option Operand)(ρ:Operand->qa):Option Nat:=
 match x with
 |none=>some d
 |some y=>match ρ y with
  | .int _ i=>Wk i
  |_=>none
theorem vO{d n:Nat}{x:Option Operand}{ρ:Operand->qa}{ρ':Operand->Value}{σ:Sg}(hd:∀x,Den σ (ρ x) (ρ' x))(h:bnd d x ρ=some n):
  (x.map ρ'=none/\n=d)\/∃k,x.map ρ'=some (.int k (n:Int)):=by
 unfold bnd at h;split at h
 ·cases h;exact .inl ⟨rfl,rfl⟩
 ·rename_i y;split at h<;>try (cases h;done)
  rename_i k i hy;have hi:=Zg h
  subst hi;have:=hd y
  rw [hy]at this;cases e:ρ' y<;>rw [e]at this<;>cases this
  exact .inr ⟨k,by simp [e]⟩
theorem vR{k:IntKind}{n y:Nat}{c:BoundsCode}(h:n<=y):(Instr.sliceBound (.int k (n:Int)) y c).run P w= .ok n w:=by
 simp [Instr.sliceBound,asIntOf,h]
theorem ju{isS:Bool}{len cap l h:Nat}{lo hi:Option Value}(hh:(hi=none/\h=len)\/∃k,hi=some (.int k (h:Int)))(hle:h<=cap)
  (hl:(lo=none/\l=0)\/∃k,lo=some (.int k (l:Int))) (hlh:l<=h):(Instr.sliceBounds isS len cap lo hi none).run P w= .ok (l,h,cap) w:=by
 rcases hh with⟨rfl,rfl⟩|⟨k,rfl⟩<;>rcases hl with⟨rfl,rfl⟩|⟨k',rfl⟩
 ·simp [Instr.sliceBounds]
 ·simp [Instr.sliceBounds,vR hlh]
 ·simp [Instr.sliceBounds,vR hle]
 ·simp [Instr.sliceBounds,vR hle,vR hlh]
def yD(P:Program)(t:TypeId)(x:Operand)(lo hi mx:Option Operand)(ρ:Operand->qa)(H:qc)(nx:Nat):Option zG:=
 match mx with
 |some _=>none
 |none=>match P.underlying t,ρ x with
  |some .string,.str s=>match bnd 0 lo ρ,bnd s.length hi ρ with
   |some l,some h=>match Nat.ble h s.length,Nat.ble l h with
    |true,true=>some (.val (.str ((s.drop l).take (h - l))) H nx)
    |_,_=>none
   |_,_=>none
  |some (.slice elem),.slice b off len esz full=>match bnd 0 lo ρ,bnd len hi ρ,P.info? elem with
   |some l,some h,some e=>match Nat.ble h len,Nat.ble l h,Nat.beq e.size esz with
    |true,true,true=>kH (Nat.add off (Nat.mul l esz)) λo=>kH (Nat.sub h l) λm=>some (.val (.slice b o m esz (Bool.rec false full (Nat.beq h len))) H nx)
    |_,_,_=>none
   |_,_,_=>none
  |some (.slice elem),.nilSlice=>match bnd 0 lo ρ,bnd 0 hi ρ,P.info? elem with
   |some 0,some 0,some _=>some (.val .nilSlice H nx)
   |_,_,_=>none
  |some (.slice elem),.gslice g off len esz=>match bnd 0 lo ρ,bnd len hi ρ,P.info? elem with
   |some l,some h,some e=>match Nat.ble h len,Nat.ble l h,Nat.beq e.size esz with
    |true,true,true=>some (.val (.gslice g (Nat.add off (Nat.mul l esz)) (Nat.sub h l) esz) H nx)
    |_,_,_=>none
   |_,_,_=>none
  |some (.array n elem),.ptr b off=>match bnd 0 lo ρ,bnd n hi ρ,P.info? elem,zf b H with
   |some l,some h,some e,some (.cells cnt _ _ _)=>match Nat.ble h n,Nat.ble l h,Nat.ble (Nat.add off (Nat.mul n e.size)) cnt with
    |true,true,true=>kH (Nat.add off (Nat.mul l e.size)) λo=>kH (Nat.sub h l) λm=>some (.val (.slice b o m e.size (Nat.beq h n)) H nx)
    |_,_,_=>none
   |_,_,_,_=>none
  |_,_=>none
theorem qf9{t:TypeId}{x:Operand}{lo hi mx:Option Operand}{ρ:Operand->qa}{r:zG}(ho:o.op= .slice t x lo hi mx)
  (h:yD P t x lo hi mx ρ H nx=some r):zE P o ρ H nx r:=by
 unfold yD at h;split at h<;>try (cases h;done)
 split at h
 ·rename_i s hu hx;split at h<;>try (cases h;done)
  rename_i l hh hl hhi;split at h<;>try (cases h;done)
  rename_i h1 h2;have h1':=Nat.le_of_ble_eq_true h1
  have h2':=Nat.le_of_ble_eq_true h2
  cases h
  refine zE.pure λσ w ρ' _ hd=> ?_
  have d:=hd x;rw [hx]at d
  cases e:ρ' x<;>rw [e]at d<;>cases d
  refine⟨.string (txt ((s.drop l).take (hh - l))),.str _,?_⟩
  have hb:=ju (P:=P) (w:=w) (isS:=false) (len:=s.length) (cap:=s.length) (vO hd hhi) h1' (vO hd hl) h2'
  have hx2:(txt s).extract l hh=txt ((s.drop l).take (hh - l)):=by rw [Lib.extract_eq,qdb];rfl
  have hsz:=yY s
  simp [execOp,ho,e,Instr.sliceAt,Instr.slice,qm hu,hsz,hb,hx2]
 ·rename_i elem b off len esz full hu hx;split at h<;>try (cases h;done)
  rename_i l hh ei hl hhi hei;split at h<;>try (cases h;done)
  rename_i h1 h2 h3;have h1':=Nat.le_of_ble_eq_true h1
  have h2':=Nat.le_of_ble_eq_true h2
  have h3':=Nat.eq_of_beq_eq_true h3
  rw [qS,qS]at h;cases h
  refine zE.pure λσ w ρ' _ hd=> ?_
  have d:=hd x;rw [hx]at d
  cases e:ρ' x<;>rw [e]at d<;>cases d
  ·rename_i cap cb sz hb g1 g2 g3;have hbd:=ju (P:=P) (w:=w) (isS:=true) (len:=len) (cap:=cap) (vO hd hhi) (by omega) (vO hd hl) h2'
   by_cases hm:cap=l
   ·refine⟨.slice (some (at' cb off)) (hh - l) (cap - l),?_,?_⟩
    ·have e1:hh - l=0:=by omega
     have e2:cap - l=0:=by omega
     rw [e2];show Den σ (.slice b _ (hh - l) esz _) (.slice (some (at' cb off)) (hh - l) 0)
     rw [e1];exact .slice0 hb
    ·simp only [execOp,ho,e,Instr.sliceAt,Instr.slice,Sem.run_bind,Sem.run_pure,Result.andThen_ok,qm hu,Option.map_none,hbd,qN hei,if_pos hm]
   ·refine⟨.slice (some (at' cb (off+l*esz))) (hh - l) (cap - l),.slice hb (show hh - l<=cap - l by omega) ?_ ?_,?_⟩
    ·have:off+l*esz+(cap - l)*esz=off+cap*esz:=by
      rw [Nat.add_assoc,<-Nat.add_mul]
      congr 2
      omega
     show off+l*esz+(cap - l)*esz<=sz
     omega
    ·intro hf;cases hq:Nat.beq hh len with
     |true=>
      have:=Nat.eq_of_beq_eq_true hq
      rw [hq]at hf;have:=g3 hf
      show cap - l=hh - l
      omega
     |false=>rw [hq]at hf;cases hf
    ·have:=kn cb off (l*esz)
     simp [execOp,ho,e,Instr.sliceAt,Instr.slice,qm hu,hbd,qN hei,hm,h3',this]
  ·rename_i off' cb sz hb;have hl0:l=0:=by omega
   have hh0:hh=0:=by omega
   subst hl0;subst hh0;have hbd:=ju (P:=P) (w:=w) (isS:=true) (len:=0) (cap:=0) (vO hd hhi) (by omega) (vO hd hl) h2'
   refine⟨.slice (some (at' cb off')) 0 0,.slice0 hb,?_⟩
   simp [execOp,ho,e,Instr.sliceAt,Instr.slice,qm hu,hbd,qN hei]
 ·rename_i elem hu hx;split at h<;>try (cases h;done)
  rename_i ei hl hhi hei;cases h
  refine zE.pure λσ w ρ' _ hd=> ?_
  have d:=hd x;rw [hx]at d
  cases e:ρ' x<;>rw [e]at d<;>cases d
  have hbd:=ju (P:=P) (w:=w) (isS:=true) (len:=0) (cap:=0) (vO hd hhi) (by omega) (vO hd hl) lR
  refine⟨.slice none 0 0,.nilSlice,?_⟩
  simp [execOp,ho,e,Instr.sliceAt,Instr.slice,qm hu,hbd,qN hei]
 ·rename_i elem g off len esz hu hx;split at h<;>try (cases h;done)
  rename_i l hh ei hl hhi hei;split at h<;>try (cases h;done)
  rename_i h1 h2 h3;have h1':=Nat.le_of_ble_eq_true h1
  have h2':=Nat.le_of_ble_eq_true h2
  have h3':=Nat.eq_of_beq_eq_true h3
  cases h
  refine zE.pure λσ w ρ' _ hd=> ?_
  have d:=hd x;rw [hx]at d
  cases e:ρ' x<;>rw [e]at d<;>cases d
  ·rename_i cap g1;have hbd:=ju (P:=P) (w:=w) (isS:=true) (len:=len) (cap:=cap) (vO hd hhi) (by omega) (vO hd hl) h2'
   by_cases hm:cap=l
   ·refine⟨.slice (some (at' g off)) (hh - l) (cap - l),?_,?_⟩
    ·have e1:hh - l=0:=by omega
     show Den σ (.gslice g _ (hh - l) esz) (.slice (some (at' g off)) (hh - l) _)
     rw [e1];exact .gslice0
    ·simp only [execOp,ho,e,Instr.sliceAt,Instr.slice,Sem.run_bind,Sem.run_pure,Result.andThen_ok,qm hu,Option.map_none,hbd,qN hei,if_pos hm]
   ·refine⟨.slice (some (at' g (off+l*esz))) (hh - l) (cap - l),.gslice (show hh - l<=cap - l by omega),?_⟩
    have:=kn g off (l*esz)
    simp [execOp,ho,e,Instr.sliceAt,Instr.slice,qm hu,hbd,qN hei,hm,h3',this]
  ·rename_i cap ad;have hl0:l=0:=by omega
   have hh0:hh=0:=by omega
   subst hl0;subst hh0;have hbd:=ju (P:=P) (w:=w) (isS:=true) (len:=0) (cap:=cap) (vO hd hhi) (by omega) (vO hd hl) h2'
   by_cases hm:cap=0
   ·subst hm;refine⟨.slice (some ad) 0 0,.gslice0,?_⟩
    simp [execOp,ho,e,Instr.sliceAt,Instr.slice,qm hu,hbd,qN hei]
   ·refine⟨.slice (some (ad.add 0)) 0 cap,.gslice0,?_⟩
    simp [execOp,ho,e,Instr.sliceAt,Instr.slice,qm hu,hbd,qN hei,hm,h3']
 ·rename_i n elem b off hu hx;split at h<;>try (cases h;done)
  rename_i l hh ei cnt ct olds sp hl hhi hei hblk;split at h<;>try (cases h;done)
  rename_i h1 h2 h3;have h1':=Nat.le_of_ble_eq_true h1
  have h2':=Nat.le_of_ble_eq_true h2
  have h3':=Nat.le_of_ble_eq_true h3
  rw [qS,qS]at h;cases h
  refine zE.pure λσ w ρ' hr hd=> ?_
  have d:=hd x;rw [hx]at d
  cases e:ρ' x<;>rw [e]at d<;>cases d
  rename_i cb sz hb;obtain⟨o1,_,_,_⟩:=hr.obj b _ cb sz hblk hb
  have hbd:=ju (P:=P) (w:=w) (isS:=false) (len:=n) (cap:=n) (vO hd hhi) h1' (vO hd hl) h2'
  by_cases hm:n=l
  ·refine⟨.slice (some (at' cb off)) (hh - l) (n - l),?_,?_⟩
   ·have e1:hh - l=0:=by omega
    have e2:n - l=0:=by omega
    rw [e2];show Den σ (.slice b _ (hh - l) ei.size _) (.slice (some (at' cb off)) (hh - l) 0)
    rw [e1];exact .slice0 hb
   ·simp only [execOp,ho,e,Instr.sliceAt,Instr.sureAddr,Sem.run_bind,Sem.run_pure,Result.andThen_ok,qm hu,Option.map_none,hbd,qN hei,if_pos hm]
  ·refine⟨.slice (some (at' cb (off+l*ei.size))) (hh - l) (n - l),.slice hb (show hh - l<=n - l by omega) ?_ ?_,?_⟩
   ·have:off+l*ei.size+(n - l)*ei.size=off+n*ei.size:=by
     rw [Nat.add_assoc,<-Nat.add_mul]
     congr 2
     omega
    have h3'':off+n*ei.size<=cnt:=h3'
    show off+l*ei.size+(n - l)*ei.size<=sz
    omega
   ·intro hf;have:=Nat.eq_of_beq_eq_true hf
    show n - l=hh - l
    omega
   ·have:=kn cb off (l*ei.size)
    simp [execOp,ho,e,Instr.sliceAt,Instr.sureAddr,qm hu,hbd,qN hei,hm,this]
 ·cases h
def qb5(ok:Bool)(v:qa):qa:=match ok with|true=> .tuple [v,.bool true]|false=>v
def KW(P:Program)(asserted:TypeId)(ok:Bool):Option qa:=
 match ok with
 |true=>match P.info? asserted with
  |some i=>match i.zero with
   |some z=>some (.tuple [qcg z,.bool false])
   |none=>none
  |none=>none
 |false=>none
def VU(P:Program)(v:qa)(asserted:TypeId)(ok:Bool):Option qa:=
 match P.underlying asserted,v with
 |some (.interface _),.nilIface=>KW P asserted ok
 |some (.interface want),.iface t x=>match P.info? t with
  |some i=>match Instr.missingMethod want i.methods with
   |none=>some (qb5 ok (.iface t x))
   |some _=>KW P asserted ok
  |none=>none
 |some d,.nilIface=>match qan d with
  |false=>KW P asserted ok
  |true=>none
 |some d,.iface t x=>match qan d with
  |false=>match Nat.beq t asserted with
   |true=>some (qb5 ok x)
   |false=>KW P asserted ok
  |true=>none
 |_,_=>none
theorem Vy{σ:Sg}{v:qa}{v':Value}(ok:Bool)(h:Den σ v v'):Den σ (qb5 ok v) (if ok then .tuple #[v',.bool true]else v'):=by
 cases ok with
 |true=>exact .tuple (.cons h (.cons (.bool _) .nil))
 |false=>exact h
def wC(P:Program)(x:Operand)(asserted:TypeId)(ok:Bool)(ρ:Operand->qa)(H:qc)(nx:Nat):Option zG:=
 match VU P (ρ x) asserted ok with
 |some v=>some (.val v H nx)
 |none=>none
theorem qbb{x:Operand}{xt asserted:TypeId}{ok:Bool}{ρ:Operand->qa}{r:zG}(ho:o.op= .typeAssert x xt asserted ok)
  (h:wC P x asserted ok ρ H nx=some r):zE P o ρ H nx r:=by
 unfold wC at h;split at h<;>try (cases h;done)
 rename_i v hv;cases h
 have fails:∀{u:qa} {σ:Sg},KW P asserted ok=some u->ok=true/\∃i z,P.info? asserted=some i/\i.zero=some z/\u= .tuple [qcg z,.bool false]/\Den σ u (.tuple #[z,.bool false]):=by
  intro u σ hu;unfold KW at hu;split at hu<;>try (cases hu;done)
  split at hu<;>try (cases hu;done)
  rename_i i hi;split at hu<;>try (cases hu;done)
  rename_i z hz;cases hu
  exact⟨rfl,i,z,hi,hz,rfl,.tuple (.cons (X0 σ z) (.cons (.bool _) .nil))⟩
 refine zE.pure λσ w ρ' _ hd=> ?_
 have d:=hd x
 unfold VU at hv;split at hv
 ·rename_i want hu hx;rw [hx]at d;cases e:ρ' x<;>rw [e]at d<;>cases d
  obtain⟨hok,i,z,hi,hz,_,dz⟩:=fails (σ:=σ) hv
  exact⟨_,dz,by simp [execOp,ho,e,Instr.typeAssert,qm hu,hok,zn hi hz]⟩
 ·rename_i want t y hu hx;rw [hx]at d;cases e:ρ' x<;>rw [e]at d<;>cases d
  rename_i y' dy;split at hv<;>try (cases hv;done)
  rename_i i hi;split at hv
  ·rename_i hm;cases hv
   exact⟨_,Vy ok (.iface dy),by simp [execOp,ho,e,Instr.typeAssert,qm hu,zQ hi,hm]⟩
  ·rename_i m hm;obtain⟨hok,j,z,hj,hz,_,dz⟩:=fails (σ:=σ) hv
   exact⟨_,dz,by simp [execOp,ho,e,Instr.typeAssert,qm hu,zQ hi,hm,hok,zn hj hz]⟩
 ·rename_i dd hni hu hx;rw [hx]at d;cases e:ρ' x<;>rw [e]at d<;>cases d
  split at hv<;>try (cases hv;done)
  rename_i hif;obtain⟨hok,j,z,hj,hz,_,dz⟩:=fails (σ:=σ) hv
  refine⟨_,dz,?_⟩
  simp only [execOp,ho,e,Instr.typeAssert,Sem.run_bind,qm hu,Result.andThen_ok]
  cases dd<;>first|(cases hif;done)|(simp [hok,zn hj hz])
 ·rename_i dd t y hni hu hx;rw [hx]at d;cases e:ρ' x<;>rw [e]at d<;>cases d
  rename_i y' dy;split at hv<;>try (cases hv;done)
  rename_i hif;split at hv
  ·rename_i hq;have hq':=Nat.eq_of_beq_eq_true hq
   cases hv
   refine⟨_,Vy ok dy,?_⟩
   simp only [execOp,ho,e,Instr.typeAssert,Sem.run_bind,qm hu,Result.andThen_ok]
   cases dd<;>first|(cases hif;done)|(simp [hq'])
  ·rename_i hq;have hq':¬t=asserted:=λe=>by subst e;simp at hq
   obtain⟨hok,j,z,hj,hz,_,dz⟩:=fails (σ:=σ) hv
   refine⟨_,dz,?_⟩
   simp only [execOp,ho,e,Instr.typeAssert,Sem.run_bind,qm hu,Result.andThen_ok]
   cases dd<;>first|(cases hif;done)|(simp [hq',hok,zn hj hz])
 ·cases hv
def vx(P:Program)(f:FuncId):Bool:=
 match P.funcs[f]? with
 |some fn=>match fn.body with
  |some _=> !(fn.name== "runtime.NumGoroutine")
  |none=>false
 |none=>false
theorem QG{f:FuncId}(h:vx P f=true)(args:Array Value)(w:World):(callFunc f args).run P w= .ok (.enter f args) w:=by
 unfold vx at h;split at h<;>try (cases h;done)
 rename_i fn hf;split at h<;>try (cases h;done)
 rename_i c hb;have hn:¬fn.name= "runtime.NumGoroutine" :=by simpa using h
 simp [callFunc,hf,hb,hn]
def zR(P:Program)(v:qa)(args:List qa):Option (FuncId×List qa):=
 match v with
 | .func (.func f) first captured=>match vx P f with
  |true=>some (f,first++args++captured)
  |false=>none
 |_=>none
def Zp(P:Program)(t:TypeId)(v:qa):Option Nat:=
 match P.underlying t,v with
 |some .string,.str s=>some s.length
 |some (.array n _),_=>some n
 |some (.slice _),.slice _ _ n _ _=>some n
 |some (.slice _),.nilSlice=>some 0
 |some (.slice _),.gslice _ _ n _=>some n
 |_,_=>none
theorem qj7{t:TypeId}{v:qa}{v':Value}{n:Nat}{σ:Sg}{u:TypeId}(h:Zp P t v=some n)(hd:Den σ v v'):
  (Builtin.len_ #[t] u #[v']).run P w= .ok (.int .i64 (n:Int)) w:=by
 unfold Zp at h;split at h
 ·rename_i hu;cases h;cases hd
  have:=yY ‹_›
  simp [Builtin.len_,qm hu,goInt,this]
 ·rename_i hu;cases h;simp [Builtin.len_,qm hu,goInt]
 ·rename_i hu;cases h;cases hd<;>simp [Builtin.len_,qm hu,goInt]
 ·rename_i hu;cases h;cases hd;simp [Builtin.len_,qm hu,goInt]
 ·rename_i hu;cases h;cases hd<;>simp [Builtin.len_,qm hu,goInt]
 ·cases h
def Kj(P:Program)(f:Operand)(args:Array Operand)(ρ:Operand->qa)(_H:qc)(_nx:Nat):Option zG:=
 match zR P (ρ f) (args.toList.map ρ)with
 |some (g,as)=>some (.call g as)
 |none=>none
theorem Yj{v:qa}{v':Value}{args:List qa}{args':List Value}{f:FuncId}{as:List qa}{σ:Sg}(h:zR P v args=some (f,as))(hv:Den σ v v')(ha:zj σ args args'):
  vx P f=true/\∃first captured:List Value,v'= .func (.func f) ⟨first⟩ ⟨captured⟩/\zj σ as (first++args'++captured):=by
 unfold zR at h;split at h<;>try (cases h;done)
 split at h<;>try (cases h;done)
 rename_i hb;cases h
 cases hv with
 |func h1 h2=>exact⟨hb,_,_,rfl,(h1.append ha).append h2⟩
theorem qeg{f:Operand}{c:Call}{ρ:Operand->qa}{r:zG}(ho:o.op= .call c)(hc:c.callee= .value f)
  (h:Kj P f c.args ρ H nx=some r):zE P o ρ H nx r:=by
 unfold Kj at h;split at h<;>try (cases h;done)
 rename_i g as hg;cases h
 intro σ w ρ' hr hd;obtain⟨hb,first,captured,e,hl⟩:=Yj hg (hd f) (ws hd c.args.toList)
 refine⟨_,hl,?_⟩
 simp only [execOp,ho,resolve,hc,e,Deferred.ofValue,Sem.run_bind,Sem.run_pure,Result.andThen_ok,invoke,QG hb,qh8]
 simp
def JO(P:Program)(f:Operand)(args:Array Operand)(ρ:Operand->qa)(_H:qc)(_nx:Nat):Option zG:=
 match zR P (ρ f) (args.toList.map ρ)with
 |some (g,as)=>some (.dfr g as)
 |none=>none
theorem qg8{f:Operand}{c:Call}{ρ:Operand->qa}{r:zG}(ho:o.op= .defer c)(hc:c.callee= .value f)
  (h:JO P f c.args ρ H nx=some r):zE P o ρ H nx r:=by
 unfold JO at h;split at h<;>try (cases h;done)
 rename_i g as hg;cases h
 intro σ w ρ' hr hd;obtain⟨hb,first,captured,e,hl⟩:=Yj hg (hd f) (ws hd c.args.toList)
 refine⟨{target:= .fn (.func g) ⟨captured⟩,args:=⟨first⟩++c.args.map ρ'},⟨⟨captured⟩,rfl,?_⟩,?_⟩
 ·have e2:((⟨first⟩++c.args.map ρ':Array Value)++⟨captured⟩).toList=first++c.args.toList.map ρ'++captured:=by simp
  rw [e2];exact hl
 ·simp [execOp,ho,resolve,hc,e,Deferred.ofValue]
def J3(x:Operand)(ρ:Operand->qa)(_H:qc)(_nx:Nat):Option zG:=
 match ρ x with
 | .iface t v=>some (.pan (.iface t v))
 |_=>none
theorem qf6{x:Operand}{ρ:Operand->qa}{r:zG}(ho:o.op= .panic x)
  (h:J3 x ρ H nx=some r):zE P o ρ H nx r:=by
 unfold J3 at h;split at h<;>try (cases h;done)
 rename_i t v hx;cases h
 intro σ w ρ' hr hd;have d:=hd x;rw [hx]at d
 cases e:ρ' x<;>rw [e]at d<;>cases d
 rename_i v' dv;exact⟨_,.iface dv,by simp [execOp,ho,e,Instr.panic]⟩
def W1(greatest:Bool)(k:IntKind)(n:Int):List qa->Option Int
 |[]=>some n
 | .int _ m::l=>W1 greatest k (Bool.rec (Bool.rec n m (ilt m n)) (Bool.rec n m (ilt n m)) greatest) l
 |_::_=>none
theorem Yo{P:Program}{w:World}{σ:Sg}{k:IntKind}:∀{l:List qa} {l':List Value} {n m:Int},W1 true k n l=some m->zj σ l l'->
  (l'.foldlM Builtin.max2 (.int k n)).run P w= .ok (.int k m) w
 |[],_,n,m,h,.nil=>by cases h;rfl
 | .int j q::l,v'::l',n,m,h,.cons hd ht=>by
  cases hd
  have e:Bool.rec (motive:=λ_=>Int) n q (ilt n q)=if q>n then q else n:=by
   rw [yK];by_cases hq:n<q
   ·simp [hq]
   ·simp [hq]
  have:=Yo (P:=P) (w:=w) (l:=l) (n:=Bool.rec (motive:=λ_=>Int) n q (ilt n q)) h ht
  simp only [List.foldlM_cons,Builtin.max2,Sem.run_bind,Sem.run_pure,Result.andThen_ok]
  rw [<-e];exact this
theorem YP{P:Program}{w:World}{σ:Sg}{k:IntKind}:∀{l:List qa} {l':List Value} {n m:Int},W1 false k n l=some m->zj σ l l'->
  (l'.foldlM Builtin.min2 (.int k n)).run P w= .ok (.int k m) w
 |[],_,n,m,h,.nil=>by cases h;rfl
 | .int j q::l,v'::l',n,m,h,.cons hd ht=>by
  cases hd
  have e:Bool.rec (motive:=λ_=>Int) n q (ilt q n)=if q<n then q else n:=by
   rw [yK];by_cases hq:q<n
   ·simp [hq]
   ·simp [hq]
  have:=YP (P:=P) (w:=w) (l:=l) (n:=Bool.rec (motive:=λ_=>Int) n q (ilt q n)) h ht
  simp only [List.foldlM_cons,Builtin.min2,Sem.run_bind,Sem.run_pure,Result.andThen_ok]
  rw [<-e];exact this
def zL(P:Program)(b:Builtin)(types:Array TypeId)(args:Array Operand)(ρ:Operand->qa)(H:qc)(nx:Nat):Option zG:=
 match b,types.toList,args.toList with
 | .len,[t],[x]=>match Zp P t (ρ x)with
  |some n=>some (.val (.int .i64 (.ofNat n)) H nx)
  |none=>none
 | .max,_,x::l=>match ρ x with
  | .int k n=>match W1 true k n (l.map ρ)with
   |some m=>vl m λm=>some (.val (.int k m) H nx)
   |none=>none
  |_=>none
 | .min,_,x::l=>match ρ x with
  | .int k n=>match W1 false k n (l.map ρ)with
   |some m=>vl m λm=>some (.val (.int k m) H nx)
   |none=>none
  |_=>none
 | .recover,_,[]=>some .rcv
 |_,_,_=>none
theorem XJ{b:Builtin}{c:Call}{ρ:Operand->qa}{r:zG}(ho:o.op= .call c)(hc:c.callee= .builtin b)
  (h:zL P b c.argTypes c.args ρ H nx=some r):zE P o ρ H nx r:=by
 unfold zL at h;split at h<;>try (cases h;done)
 ·rename_i t x ht hx;split at h<;>try (cases h;done)
  rename_i n hn;cases h
  refine zE.pure λσ w ρ' _ hd=>⟨.int .i64 (n:Int),.int _ _,?_⟩
  have e1:c.argTypes=#[t]:=by apply Array.ext';rw [ht]
  have e2:c.args=#[x]:=by apply Array.ext';rw [hx]
  simp [execOp,ho,resolve,hc,invoke,builtin,e1,e2,qj7 (P:=P) (w:=w) hn (hd x)]
 ·rename_i x l hx;split at h<;>try (cases h;done)
  rename_i k n hk;split at h<;>try (cases h;done)
  rename_i m hm;rw [zP]at h;cases h
  refine zE.pure λσ w ρ' _ hd=>⟨.int k m,.int _ _,?_⟩
  have d:=hd x;rw [hk]at d
  cases e:ρ' x<;>rw [e]at d<;>cases d
  have e2:c.args=⟨x::l⟩:=by apply Array.ext';rw [hx]
  have:=Yo (P:=P) (w:=w) hm (ws hd l)
  simp [execOp,ho,resolve,hc,invoke,builtin,e2,Builtin.max_,e,this]
 ·rename_i x l hx;split at h<;>try (cases h;done)
  rename_i k n hk;split at h<;>try (cases h;done)
  rename_i m hm;rw [zP]at h;cases h
  refine zE.pure λσ w ρ' _ hd=>⟨.int k m,.int _ _,?_⟩
  have d:=hd x;rw [hk]at d
  cases e:ρ' x<;>rw [e]at d<;>cases d
  have e2:c.args=⟨x::l⟩:=by apply Array.ext';rw [hx]
  have:=YP (P:=P) (w:=w) hm (ws hd l)
  simp [execOp,ho,resolve,hc,invoke,builtin,e2,Builtin.min_,e,this]
 ·cases h
  intro σ w ρ' _ hd;simp [execOp,ho,resolve,hc,invoke,builtin]
end
end Go.Vs
end
section
namespace Go.Vs
variable [GTab] {P:Program} {H:qc} {nx:Nat} {w:World} {o:Oper}
noncomputable section
def seg(off:Nat)(cs l:List qa):List qa:=l.take off++cs++l.drop (off+cs.length)
def QS(place:Nat->Option (Nat×Nat))(ρ:Operand->qa)(cells:List qa):List (Nat×Operand)->Option (List qa)
 |[]=>some cells
 |(i,x)::rest=>
  match place i,Kt (ρ x)with
  |some (off,size),some cs=>match Nat.beq cs.length size,Nat.ble (Nat.add off size) cells.length with
   |true,true=>QS place ρ (seg off cs cells) rest
   |_,_=>none
  |_,_=>none
theorem qdv:∀(xs:List Value) (k off:Nat) (A:Array Value),off+k+xs.length<=A.size->
  ((xs.zipIdx k).foldl (λ(cs:Array Value) (p:Value×Nat)=>cs.setIfInBounds (off+p.2) p.1) A).toList=A.toList.take (off+k)++xs++A.toList.drop (off+k+xs.length)
 |[],k,off,A,h=>by simp
 |x::xs,k,off,A,h=>by
  simp only [List.zipIdx_cons,List.foldl_cons,List.length_cons]at h ⊢
  rw [qdv xs (k+1) off _ (by simp;omega)]
  simp only [Array.toList_setIfInBounds]
  have hlt:off+k<A.toList.length:=by simp;omega
  rw [List.set_eq_take_append_cons_drop,if_pos hlt];have e1:(List.take (off+k) A.toList++x::List.drop (off+k+1) A.toList).take (off+(k+1))=List.take (off+k) A.toList++[x]:=by
   rw [List.take_append];have:(List.take (off+k) A.toList).length=off+k:=by simp;omega
   rw [this,List.take_of_length_le (by simp;omega)]
   have:off+(k+1) - (off+k)=1:=by omega
   rw [this];simp
  have e2:(List.take (off+k) A.toList++x::List.drop (off+k+1) A.toList).drop (off+(k+1)+xs.length)=List.drop (off+k+(xs.length+1)) A.toList:=by
   rw [List.drop_append];have:(List.take (off+k) A.toList).length=off+k:=by simp;omega
   rw [this,List.drop_of_length_le (by simp;omega)]
   have:off+(k+1)+xs.length - (off+k)=xs.length+1:=by omega
   rw [this];simp [List.drop_drop]
   congr 1
   omega
  rw [e1,e2];simp
theorem VS{σ:Sg}{ρ:Operand->qa}{ρ':Operand->Value}(hd:∀x,Den σ (ρ x) (ρ' x))(place:Nat->Option (Nat×Nat)):
  ∀(parts:List (Nat×Operand)) (zs cs:List qa) (zs':List Value),QS place ρ zs parts=some cs->zj σ zs zs'->
   ∃cs',Instr.fill place ⟨zs'⟩ (parts.map λp=>(p.1,ρ' p.2))=some ⟨cs'⟩/\zj σ cs cs'/\cs.length=zs.length
 |[],zs,cs,zs',h,hz=>by cases h;exact⟨zs',rfl,hz,rfl⟩
 |(i,x)::rest,zs,cs,zs',h,hz=>by
  unfold QS at h;split at h<;>try (cases h;done)
  rename_i off size xs hp hxs;split at h<;>try (cases h;done)
  rename_i h1 h2;have h1':=Nat.eq_of_beq_eq_true h1
  have h2':=Nat.le_of_ble_eq_true h2
  have hx:=Kw hxs (hd x)
  have hlz:=hz.length
  have hlx:=hx.length
  have hsz:(ρ' x).cells.size=size:=by rw [<-h1',hlx];simp
  have hadd:off+size<=zs'.length:=by simp at h2';omega
  have hs:zj σ (seg off xs zs) (zs'.take off++(ρ' x).cells.toList++zs'.drop (off+(ρ' x).cells.toList.length)):=by
   unfold seg;rw [<-hlx];exact((hz.take off).append hx).append (hz.drop _)
  have hseg:(seg off xs zs).length=zs.length:=by unfold seg;simp;omega
  obtain⟨cs',e,hc,hlen⟩:=VS hd place rest _ cs _ h hs
  refine⟨cs',?_,hc,hlen.trans hseg⟩
  have hfold:(ρ' x).cells.zipIdx.foldl (λ(cs:Array Value) (p:Value×Nat)=>cs.setIfInBounds (off+p.2) p.1) ⟨zs'⟩=⟨zs'.take off++(ρ' x).cells.toList++zs'.drop (off+(ρ' x).cells.toList.length)⟩:=by
   apply Array.ext'
   rw [<-Array.foldl_toList,Array.toList_zipIdx];have:=qdv (ρ' x).cells.toList 0 off ⟨zs'⟩ (by simp;omega)
   simpa using this
  simp only [List.map_cons,Instr.fill,hp]
  have hcond:¬((decide ((ρ' x).cells.size≠size)||decide (off+(ρ' x).cells.size>(Array.mk zs').size))=true):=by
   simp
   omega
  rw [if_neg hcond];rw [<-e]
  congr 1
theorem KS{ρ':Operand->Value}(ps:Array (Nat×Operand)):(ps.map λ(i,x)=>(i,ρ' x)).toList=ps.toList.map λp=>(p.1,ρ' p.2):=by
 simp
def KT(P:Program):List Field->Option (List (Nat×Nat))
 |[]=>some []
 |f::l=>match P.info? f.type,KT P l with
  |some i,some r=>some ((f.offset,i.size)::r)
  |_,_=>none
theorem W7{P:Program}{w:World}:∀(l:List Field) (r:List (Nat×Nat)),KT P l=some r->
  (l.mapM λf=>do pure (f.offset,<-sizeOf f.type):Sem (List (Nat×Nat))).run P w= .ok r w
 |[],r,h=>by cases h;rfl
 |f::l,r,h=>by
  unfold KT at h;split at h<;>try (cases h;done)
  rename_i i r' hi hr;cases h
  have ih:=W7 (P:=P) (w:=w) l r' hr
  simp only [List.mapM_cons,Sem.run_bind,qN hi,Result.andThen_ok,Sem.run_pure,ih]
def w8(P:Program)(t:TypeId):Option (List qa):=
 match P.info? t with
 |some i=>match i.zero with
  |some z=>match Nat.beq z.cells.toList.length i.size with
   |true=>some (z.cells.toList.map Zb)
   |false=>none
  |none=>none
 |none=>none
theorem w7{t:TypeId}{l:List qa}(h:w8 P t=some l):∃i z,P.info? t=some i/\i.zero=some z/\l=z.cells.toList.map Zb/\z.cells.size=i.size:=by
 unfold w8 at h;split at h<;>try (cases h;done)
 rename_i i hi;split at h<;>try (cases h;done)
 rename_i z hz;split at h<;>try (cases h;done)
 rename_i hq;cases h
 exact⟨i,z,hi,hz,rfl,by have:=Nat.eq_of_beq_eq_true hq;simpa using this⟩
def Xf(P:Program)(t:TypeId)(parts:Array (Nat×Operand))(ρ:Operand->qa):Option (List qa):=
 match w8 P t,P.underlying t with
 |some z,some (.struct fields)=>match KT P fields.toList with
  |some pl=>QS (λi=>pl[i]?) ρ z parts.toList
  |none=>none
 |some z,some (.array _ elem)=>match P.info? elem with
  |some e=>QS (λi=>some (Nat.mul i e.size,e.size)) ρ z parts.toList
  |none=>none
 |_,_=>none
def Qu(P:Program)(t:TypeId)(parts:Array (Nat×Operand))(ρ:Operand->qa)(H:qc)(nx:Nat):Option zG:=
 match Xf P t parts ρ with
 |some cs=>some (.val (.agg cs) H nx)
 |none=>none
theorem qgh{t:TypeId}{parts:Array (Nat×Operand)}{ρ:Operand->qa}{r:zG}(ho:o.op= .build t parts)
  (h:Qu P t parts ρ H nx=some r):zE P o ρ H nx r:=by
 unfold Qu at h;split at h<;>try (cases h;done)
 rename_i cs hcs;cases h
 refine zE.pure λσ w ρ' _ hd=> ?_
 unfold Xf at hcs;split at hcs<;>try (cases hcs;done)
 ·rename_i z fields hz hu;split at hcs<;>try (cases hcs;done)
  rename_i pl hpl;obtain⟨i,zv,hi,hzv,rfl,hsz⟩:=w7 hz
  obtain⟨cs',e,hc,_⟩:=VS hd (λi=>pl[i]?) parts.toList _ cs zv.cells.toList hcs (kq σ _)
  refine⟨.agg ⟨cs'⟩,.agg hc,?_⟩
  have hm:(fields.mapM λf=>do pure (f.offset,<-sizeOf f.type):Sem (Array (Nat×Nat))).run P w= .ok ⟨pl⟩ w:=by
   rw [Array.mapM_eq_mapM_toList];have:=W7 (P:=P) (w:=w) fields.toList pl hpl
   simp only [Sem.run_map]
   rw [this]
   rfl
  have e':Instr.fill (λx=>(Array.mk pl)[x]?) zv.cells (parts.map λ(i,x)=>(i,ρ' x)).toList=some ⟨cs'⟩:=by
   rw [KS,<-e]
   congr 1
   funext x
   simp
  simp only [execOp,ho,Instr.build,Sem.run_bind,Sem.run_pure,Result.andThen_ok,zn hi hzv,qm hu,hm,e']
 ·rename_i z len elem hz hu;split at hcs<;>try (cases hcs;done)
  rename_i ei hei;obtain⟨i,zv,hi,hzv,rfl,hsz⟩:=w7 hz
  obtain⟨cs',e,hc,_⟩:=VS hd (λi=>some (Nat.mul i ei.size,ei.size)) parts.toList _ cs zv.cells.toList hcs (kq σ _)
  refine⟨.agg ⟨cs'⟩,.agg hc,?_⟩
  have e':Instr.fill (λi=>some (i*ei.size,ei.size)) zv.cells (parts.map λ(i,x)=>(i,ρ' x)).toList=some ⟨cs'⟩:=by
   rw [KS,<-e]
   congr 1
  simp only [execOp,ho,Instr.build,Sem.run_bind,Sem.run_pure,Result.andThen_ok,zn hi hzv,qm hu,qN hei,e']
structure Made where
 n:Nat
 l:List qa
 v:Nat->qa
def KD(P:Program)(o:Oper)(ρ:Operand->qa)(m:Made):Prop:=
 ∀(σ:Sg) (w:World) (ρ':Operand->Value),(∀x,Den σ (ρ x) (ρ' x))->
  ∃(l':List Value) (t:TypeId) (v':Value),zj σ m.l l'/\m.l.length=m.n/\(∀(σ':Sg) (b:Nat),σ' b=some (w.heap.size,m.n)->Den σ' (m.v b) v')/\
   (execOp ρ' o).run P w= .ok (.value v') (w.alloc (.cells ⟨l'⟩ t))
def Z1(P:Program)(t:TypeId):Option Made:=
 match w8 P t with
 |some z=>some ⟨z.length,z,λb=> .ptr b 0⟩
 |none=>none
theorem Y3{t:TypeId}{ρ:Operand->qa}{m:Made}(ho:o.op= .alloc t)(h:Z1 P t=some m):KD P o ρ m:=by
 unfold Z1 at h;split at h<;>try (cases h;done)
 rename_i z hz;cases h
 obtain⟨i,zv,hi,hzv,rfl,hsz⟩:=w7 hz
 intro σ w ρ' hd;refine⟨zv.cells.toList,t,.pointer (some (at' w.heap.size 0)),kq σ _,rfl,λσ' b hb=> .ptr hb,?_⟩
 simp [execOp,ho,Instr.alloc,zn hi hzv,newVar,newRow]
def Kc(x:Operand)(ρ:Operand->qa):Option Made:=
 match Kt (ρ x)with
 |some cs=>kH cs.length λn=>some ⟨n,cs,λb=> .ptr b 0⟩
 |none=>none
theorem qfa{t:TypeId}{x:Operand}{ρ:Operand->qa}{m:Made}(ho:o.op= .box t x)(h:Kc x ρ=some m):KD P o ρ m:=by
 unfold Kc at h;split at h<;>try (cases h;done)
 rename_i cs hcs;rw [qS]at h;cases h
 intro σ w ρ' hd;refine⟨(ρ' x).cells.toList,t,.pointer (some (at' w.heap.size 0)),Kw hcs (hd x),rfl,λσ' b hb=> .ptr hb,?_⟩
 simp [execOp,ho,Instr.box,newVar,newRow]
def VK(l:List qa)(k:Nat):List qa:=Nat.rec [] (λ_ ih=>l++ih) k
theorem Yr(l:List qa)(k:Nat):VK l (k+1)=l++VK l k:=rfl
def Kd(l:List Value):Nat->List Value
 |0=>[]
 |k+1=>l++Kd l k
theorem JI{σ:Sg}{l:List qa}{l':List Value}(h:zj σ l l'):∀k,zj σ (VK l k) (Kd l' k)
 |0=> .nil
 |k+1=>by rw [Yr];exact h.append (JI h k)
theorem yB(l:List qa):∀k,(VK l k).length=k*l.length
 |0=>by show([]:List qa).length=_;simp
 |k+1=>by rw [Yr,List.length_append,yB l k,Nat.succ_mul];omega
theorem qab(z:Array Value):∀k:Nat,((Array.range (k*z.size)).map (z[· % z.size]!)).toList=Kd z.toList k:=by
 intro k
 induction k with
 |zero=>simp [Kd]
 |succ k ih=>
  rw [Kd,<-ih];simp only [Array.toList_map,Array.toList_range]
  have e:(k+1)*z.size=z.size+k*z.size:=by rw [Nat.succ_mul];omega
  rw [e,List.range_add,List.map_append]
  congr 1
  ·apply List.ext_getElem
   ·simp
   ·intro i h1 h2;simp at h1 h2
    simp [Nat.mod_eq_of_lt h1,getElem!_pos z i h1]
  ·rw [List.map_map];apply List.map_congr_left
   intro i _;simp
def vS(P:Program)(t:TypeId)(len:Nat)(parts:Array (Nat×Operand))(ρ:Operand->qa):Option Made:=
 match P.underlying t with
 |some (.slice elem)=>match w8 P elem,P.info? elem with
  |some z,some e=>match Nat.ble (Nat.mul len e.size) 4096,Nat.beq e.size 0 with
   |true,false=>match QS (λi=>some (Nat.mul i e.size,e.size)) ρ (VK z len) parts.toList with
    |some cs=>some ⟨Nat.mul len e.size,cs,λb=> .slice b 0 len e.size true⟩
    |none=>none
   |_,_=>none
  |_,_=>none
 |_=>none
theorem VG{t:TypeId}{len:Nat}{parts:Array (Nat×Operand)}{ρ:Operand->qa}{m:Made}(ho:o.op= .buildSlice t len parts)
  (h:vS P t len parts ρ=some m):KD P o ρ m:=by
 unfold vS at h;split at h<;>try (cases h;done)
 rename_i elem hu;split at h<;>try (cases h;done)
 rename_i z e hz he;split at h<;>try (cases h;done)
 rename_i h1 h2;have h1':len*e.size<=4096:=Nat.le_of_ble_eq_true h1
 have h2':e.size≠0:=λq=>by rw [q]at h2;cases h2
 split at h<;>try (cases h;done)
 rename_i cs hcs;cases h
 obtain⟨i,zv,hi,hzv,rfl,hsz⟩:=w7 hz
 rw [he]at hi;cases hi
 intro σ w ρ' hd;obtain⟨cs',ef,hc,hlen⟩:=VS hd (λi=>some (Nat.mul i e.size,e.size)) parts.toList _ cs _ hcs (JI (kq σ zv.cells.toList) len)
 have hlen':cs.length=len*e.size:=by rw [hlen,yB];simp [hsz]
 refine⟨cs',elem,.slice (some (at' w.heap.size 0)) len len,hc,hlen',λσ' b hb=> .slice hb lR (by simp) (λ_=>rfl),?_⟩
 have ez:(Array.range (len*e.size)).map (λx=>zv.cells[x % zv.cells.size]!)=⟨Kd zv.cells.toList len⟩:=by
  apply Array.ext'
  rw [<-hsz];exact qab zv.cells len
 have e':Instr.fill (λi=>some (i*e.size,e.size)) ⟨Kd zv.cells.toList len⟩ (parts.map λ(i,x)=>(i,ρ' x)).toList=some ⟨cs'⟩:=by
  rw [KS,<-ef]
  congr 1
 have hbig:¬len*e.size>2 ^ 24:=by omega
 simp only [execOp,ho,Instr.buildSlice,Sem.run_bind,Sem.run_pure,Result.andThen_ok,qm hu,qN he,Sem.run_ite,if_neg hbig]
 by_cases hl0:len*e.size=0
 ·have hlen0:len=0:=by
   rcases Nat.mul_eq_zero.1 hl0 with h|h
   ·exact h
   ·exact(h2' h).elim
  subst hlen0;have ez':(Array.range (0*e.size)).map (λx=>(#[]:Array Value)[x % (#[]:Array Value).size]!)=⟨Kd zv.cells.toList 0⟩:=by simp [Kd]
  simp only [if_pos hl0,Result.andThen_ok,ez',e',newRow,Sem.run_bind,run_newObj,Sem.run_pure]
  rfl
 ·simp only [if_neg hl0,zn he hzv,Sem.run_bind,Sem.run_pure,Result.andThen_ok,ez,e',newRow,run_newObj]
  rfl
def ZC(P:Program)(t:TypeId)(l c:Operand)(ρ:Operand->qa):Option Made:=
 match P.underlying t,ρ l,ρ c with
 |some (.slice elem),.int _ li,.int _ ci=>match w8 P elem,P.info? elem,Wk li,Wk ci with
  |some z,some e,some n,some m=>match Nat.beq n m,Nat.ble (Nat.mul n e.size) 9223372036854775807,Nat.ble (Nat.mul n e.bytes) 140737488355328,Nat.beq e.size 0,Nat.ble n 9223372036854775807 with
   |true,true,true,false,true=>kH (Nat.mul n e.size) λk=>some ⟨k,VK z n,λb=> .slice b 0 n e.size true⟩
   |_,_,_,_,_=>none
  |_,_,_,_=>none
 |_,_,_=>none
theorem qbf{t:TypeId}{l c:Operand}{ρ:Operand->qa}{m:Made}(ho:o.op= .makeSlice t l c)
  (h:ZC P t l c ρ=some m):KD P o ρ m:=by
 unfold ZC at h;split at h<;>try (cases h;done)
 rename_i elem k1 li k2 ci hu hl hc;split at h<;>try (cases h;done)
 rename_i z e n n2 hz he hn hn2;split at h<;>try (cases h;done)
 rename_i h1 h2 h3 h4 h5;have h1':=Nat.eq_of_beq_eq_true h1
 subst h1';have h2':n*e.size<=9223372036854775807:=Nat.le_of_ble_eq_true h2
 have h3':n*e.bytes<=140737488355328:=Nat.le_of_ble_eq_true h3
 have h4':e.size≠0:=λq=>by rw [q]at h4;cases h4
 have h5':n<=9223372036854775807:=Nat.le_of_ble_eq_true h5
 have e1:=Zg hn
 have e2:=Zg hn2
 subst e1;subst e2;rw [qS]at h;cases h
 obtain⟨i,zv,hi,hzv,rfl,hsz⟩:=w7 hz
 rw [he]at hi;cases hi
 intro σ w ρ' hd;have d1:=hd l;rw [hl]at d1
 have d2:=hd c;rw [hc]at d2
 cases q1:ρ' l<;>rw [q1]at d1<;>cases d1
 cases q2:ρ' c<;>rw [q2]at d2<;>cases d2
 refine⟨Kd zv.cells.toList n,elem,.slice (some (at' w.heap.size 0)) n n,JI (kq σ _) n,(by show _=n*e.size;rw [yB,List.length_map,Array.length_toList,hsz]),λσ' b hb=> .slice hb lR (by simp) (λ_=>rfl),?_⟩
 have ez:(Array.range (n*e.size)).map (λx=>zv.cells[x % zv.cells.size]!)=⟨Kd zv.cells.toList n⟩:=by
  apply Array.ext'
  rw [<-hsz];exact qab zv.cells n
 have w1:IntKind.i64.wrap (n:Int)=(n:Int):=IntWalk.i64_in _ (by omega)
 have t1:¬((n:Int)<0):=by omega
 have hb:((e.bytes:Int)*(n:Int))=((n*e.bytes:Nat):Int):=by rw [Int.natCast_mul,Int.mul_comm]
 have t2:¬((e.bytes:Int)*(n:Int)>2 ^ 48):=by rw [hb];omega
 have t3:¬((n:Int)>(n:Int)):=by omega
 simp only [execOp,ho,Instr.makeSlice,q1,q2,Sem.run_bind,Sem.run_pure,Result.andThen_ok,qm hu,asInt,asIntOf,zQ he,w1]
 have tl:(decide ((n:Int)<0)||decide ((e.bytes:Int)*(n:Int)>2 ^ 48))=false:=by rw [decide_eq_false t1,decide_eq_false t2];rfl
 have cond:¬((((decide ((n:Int)<0)||decide ((e.bytes:Int)*(n:Int)>2 ^ 48))||decide ((n:Int)<0))||decide ((n:Int)>(n:Int)))=true):=by
  rw [tl];have:decide ((n:Int)<0)=false:=decide_eq_false t1
  rw [this];simp
 rw [Sem.run_ite,if_neg cond];simp only [Sem.run_bind,Sem.run_pure,Result.andThen_ok,run_askRoom,Int.toNat_natCast,qN he,Sem.run_ite]
 by_cases hl0:n*e.size=0
 ·have hn0:n=0:=by
   rcases Nat.mul_eq_zero.1 hl0 with h|h
   ·exact h
   ·exact(h4' h).elim
  subst hn0;have ez':(Array.range (0*e.size)).map (λx=>(#[]:Array Value)[x % (#[]:Array Value).size]!)=⟨Kd zv.cells.toList 0⟩:=by simp [Kd]
  simp only [if_pos hl0,Sem.run_pure,Result.andThen_ok,ez',newRow,Sem.run_bind,run_newObj]
  rfl
 ·simp only [if_neg hl0,zn he hzv,Sem.run_bind,Sem.run_pure,Result.andThen_ok,ez,newRow,run_newObj]
  rfl
def made(P:Program)(op:Op)(ρ:Operand->qa):Option Made:=
 match op with
 | .alloc t=>Z1 P t
 | .box _ x=>Kc x ρ
 | .buildSlice t len parts=>vS P t len parts ρ
 | .makeSlice t l c=>ZC P t l c ρ
 |_=>none
theorem qhd{ρ:Operand->qa}{m:Made}(h:made P o.op ρ=some m):KD P o ρ m:=by
 unfold made at h;split at h<;>try (cases h;done)
 ·exact Y3 ‹_› h
 ·exact qfa ‹_› h
 ·exact VG ‹_› h
 ·exact qbf ‹_› h
theorem WN{σ:Sg}{n:Nat}{l:List qa}{l':List Value}(hl:zj σ l l')(hn:l.length=n)(h4:n<=9223372036854775807):
  n<=(CT.ofL n l).cap/\n=(Array.mk l').size/\∀i,i<n->∃v',(Array.mk l')[i]?=some v'/\Den σ ((CT.ofL n l).get i) v':=by
 refine⟨CT.ofL_cap n l h4,by rw [<-hn,hl.length];rfl,λi hi=> ?_⟩
 have hlt:i<l.length:=by omega
 obtain⟨v',e,d⟩:=hl.get i l[i] (by simp [List.getElem?_eq_getElem hlt])
 refine⟨v',by simpa using e,?_⟩
 rw [CT.get_ofL n l i h4 hi]
 simpa [List.getD,List.getElem?_eq_getElem hlt]using d
def qa5(m:Made)(H:qc)(nx:Nat):Option zG:=
 match Nat.ble m.n 9223372036854775807,Nat.ble (Nat.succ nx) (Nat.succ nx)with
 |true,true=>kH nx λb=>some (.val (m.v b) (zS b (some (.cells m.n (CT.ofL m.n m.l) [] false)) H) (Nat.succ b))
 |_,_=>none
theorem qk3{ρ:Operand->qa}{m:Made}{r:zG}(hm:KD P o ρ m)(h:qa5 m H nx=some r):zE P o ρ H nx r:=by
 unfold qa5 at h;split at h<;>try (cases h;done)
 rename_i h1 h2;have h1':=Nat.le_of_ble_eq_true h1
 have h2':=Nat.le_of_ble_eq_true h2
 rw [qS]at h;cases h
 intro σ w ρ' hr hd;obtain⟨l',t,v',hl,hn,hv,hrun⟩:=hm σ w ρ' hd
 obtain⟨c1,c2,c3⟩:=WN hl hn h1'
 obtain⟨r1,r2⟩:=hr.alloc (t:=t) (fz:=(0,0)) (by omega) c1 c2 lR (λi _ h=>by omega) c3
 refine⟨_,_,v',r1,r2,hv _ nx (by simp [upd]),.inl hrun⟩
end
end Go.Vs
namespace Go.Vs
variable [GTab] {P:Program} {H:qc} {nx:Nat} {w:World} {o:Oper}
noncomputable section
theorem Rel.demote{σ:Sg}{nx b n cb sz:Nat}{ct:CT}{olds:List Nat}(h:Rel σ H nx w)(hb:σ b=some (cb,sz))(ho:zf b H=some (.cells n ct olds false)):
  Rel σ (zS b (some (.cells n ct [] true)) (yu olds H)) nx w/\(∀c,c<nx->σ c=none->zf c (zS b (some (.cells n ct [] true)) (yu olds H))=zf c H)/\
  (∀c o s,zf c (zS b (some (.cells n ct [] true)) (yu olds H))=some o->σ c=some (cb,s)->c=b):=by
 have hlim:=h.lim
 have lt:∀{c p},σ c=some p->c<c+1:=λ{c p} hc=>by obtain⟨cb,sz⟩:=p;have:=(h.dom c cb sz hc).1;omega
 have hold:∀c,c∈olds->∃p',σ c=some p':=λc hc=>h.old b _ _ ho hb c hc
 have holt:∀c,c∈olds->c<c+1:=λc hc=>let⟨_,e⟩:=hold c hc;lt e
 have bn:b<b+1:=lt hb
 have key:∀c o,c≠b->c<c+1->zf c (zS b (some (.cells n ct [] true)) (yu olds H))=some o->zf c H=some o/\c ∉ olds:=by
  intro c o hcb hc e;rw [jm (λe=>hcb e.symm) bn hc,Qk olds H c holt hc]at e
  by_cases hm:c∈olds
  ·rw [if_pos hm]at e;cases e
  ·rw [if_neg hm]at e;exact⟨e,hm⟩
 have keyb:zf b (zS b (some (.cells n ct [] true)) (yu olds H))=some (.cells n ct [] true):=qW _ _ _
 have alone:∀c o s,c≠b->c ∉ olds->zf c H=some o->σ c=some (cb,s)->False:=by
  intro c o s hcb hno hc hs;rcases h.sep c b o _ cb s sz hc ho hs hb with e|e|e
  ·exact hcb e
  ·exact hno e
  ·have:=h.sup b c _ o _ ho hc hs e
   simp [wD.sup]at this
 refine⟨⟨hlim,h.dom,?_,?_,?_,?_,h.glob⟩,?_,?_⟩
 ·intro c o x s e1 e2;by_cases hcb:c=b
  ·subst hcb;rw [keyb]at e1;cases e1
   have:=h.obj c _ x s ho e2
   exact this
  ·exact h.obj c o x s (key c o hcb (lt e2) e1).1 e2
 ·intro c c' o o' x s s' e1 e2 e3 e4;by_cases h1:c=b
  ·subst h1;by_cases h2:c'=c
   ·exact .inl h2.symm
   ·obtain⟨e2',hno⟩:=key c' o' h2 (lt e4) e2
    rw [hb]at e3;cases e3
    exact(alone c' o' s' h2 hno e2' e4).elim
  ·obtain⟨e1',hno⟩:=key c o h1 (lt e3) e1
   by_cases h2:c'=b
   ·subst h2;rw [hb]at e4;cases e4
    exact(alone c o s h1 hno e1' e3).elim
   ·exact h.sep c c' o o' x s s' e1' (key c' o' h2 (lt e4) e2).1 e3 e4
 ·intro c c' o o' p e1 e2 e3 e4;by_cases h2:c'=b
  ·subst h2;rw [keyb]at e2;cases e2;simp [wD.olds]at e4
  ·obtain⟨e2',_⟩:=key c' o' h2 (lt e3) e2
   obtain⟨p',hp'⟩:=h.old c' o' p e2' e3 c e4
   by_cases h1:c=b
   ·subst h1;rw [keyb]at e1;cases e1;rfl
   ·exact h.sup c c' o o' p (key c o h1 (lt hp') e1).1 e2' e3 e4
 ·intro c o p e1 e2 c' e3;by_cases h1:c=b
  ·subst h1;rw [keyb]at e1;cases e1;simp [wD.olds]at e3
  ·exact h.old c o p (key c o h1 (lt e2) e1).1 e2 c' e3
 ·intro c hc hn;have hcb:b≠c:=λe=>by subst e;rw [hb]at hn;cases hn
  have hno:c ∉ olds:=λhm=>by obtain⟨_,e⟩:=hold c hm;rw [hn]at e;cases e
  rw [jm hcb bn (by omega),Qk olds H c holt (by omega),if_neg hno]
 ·intro c o s e1 e2;by_cases hcb:c=b
  ·exact hcb
  ·obtain⟨e1',hno⟩:=key c o hcb (lt e2) e1
   exact(alone c o s hcb hno e1' e2).elim
theorem Rel.share{σ:Sg}{nx cb sz n:Nat}{w w':World}{ct:CT}{os:List Nat}(h:Rel σ H nx w)(hx:nx<nx+1)(hcb:cb<w'.heap.size)
  (hsize:w.heap.size<=w'.heap.size) (hblk:∀i,i<w.heap.size->i≠cb->w'.heap[i]?=w.heap[i]?)
  (hos:∀c,c∈os->(∃p,σ c=some p)/\∀o,zf c H=some o->o.sup=true)
  (hal:∀c o s,zf c H=some o->σ c=some (cb,s)->c∈os/\VE σ o cb s w')
  (hnew:VE (upd σ nx (cb,sz)) (.cells n ct os false) cb sz w') (hrng:cb<w.heap.size->∃b' sz',σ b'=some (cb,sz')):
  Rel (upd σ nx (cb,sz)) (zS nx (some (.cells n ct os false)) H) (nx+1) w':=by
 have hb:σ nx=none:=by
  cases e:σ nx with
  |none=>rfl
  |some p=>obtain⟨cb,s⟩:=p;have:=(h.dom nx cb s e).1;omega
 have sub:=Z4 (p:=(cb,sz)) hb
 have hlim:=h.lim
 have lt:∀{c p},σ c=some p->c<nx:=λ{c p} hc=>by obtain⟨cb,sz⟩:=p;exact(h.dom c cb sz hc).1
 have ne:∀{c p},σ c=some p->zf c (zS nx (some (.cells n ct os false)) H)=zf c H:=by
  intro c p hc;have:=lt hc
  exact jm (by omega) hx (by omega)
 have hglob:VO (upd σ nx (cb,sz)) w':=by
  refine h.glob.of hsize (λi hi hno=>hblk i hi λe=> ?_) λx c s e hlt=> ?_
  ·subst e;obtain⟨b',sz',e'⟩:=hrng hi
   exact hno b' sz' e'
  ·rcases jF e with⟨rfl,q⟩|⟨_,q⟩
   ·cases q;exact hrng hlt
   ·exact⟨x,s,q⟩
 refine⟨by omega,?_,?_,?_,?_,?_,hglob⟩
 ·intro c x s e;rcases jF e with⟨rfl,q⟩|⟨_,q⟩
  ·cases q;exact⟨by omega,hcb⟩
  ·have:=h.dom c x s q;exact⟨by omega,by omega⟩
 ·intro c o x s e1 e2;rcases jF e2 with⟨rfl,q⟩|⟨hne,q⟩
  ·cases q;rw [qW]at e1;cases e1;exact hnew
  ·rw [ne q]at e1;by_cases hx':x=cb
   ·subst hx';exact VE.mono sub (hal c o s e1 q).2
   ·exact(VE.mono sub (h.obj c o x s e1 q)).of_block (hblk x (h.dom c x s q).2 hx')
 ·intro c c' o o' x s s' e1 e2 e3 e4;rcases jF e3 with⟨rfl,q⟩|⟨_,q⟩
  ·cases q
   rcases jF e4 with⟨rfl,_⟩|⟨_,q'⟩
   ·exact .inl rfl
   ·rw [ne q']at e2;rw [qW]at e1;cases e1
    exact .inr (.inr (hal c' o' s' e2 q').1)
  ·rw [ne q]at e1;rcases jF e4 with⟨rfl,q'⟩|⟨_,q'⟩
   ·cases q'
    rw [qW]at e2;cases e2
    exact .inr (.inl (hal c o s e1 q).1)
   ·rw [ne q']at e2;exact h.sep c c' o o' x s s' e1 e2 q q'
 ·intro c c' o o' p e1 e2 e3 e4;rcases jF e3 with⟨rfl,_⟩|⟨_,q⟩
  ·rw [qW]at e2;cases e2
   obtain⟨⟨p',hp'⟩,hs⟩:=hos c e4
   rw [ne hp']at e1;exact hs o e1
  ·rw [ne q]at e2;obtain⟨p',hp'⟩:=h.old c' o' p e2 q c e4
   rw [ne hp']at e1;exact h.sup c c' o o' p e1 e2 q e4
 ·intro c o p e1 e2 c' e3;rcases jF e2 with⟨rfl,_⟩|⟨_,q⟩
  ·rw [qW]at e1;cases e1
   obtain⟨⟨p',hp'⟩,_⟩:=hos c' e3
   exact⟨p',sub _ _ hp'⟩
  ·rw [ne q]at e1;obtain⟨p',hp'⟩:=h.old c o p e1 q c' e3
   exact⟨p',sub _ _ hp'⟩
theorem Ym{σ:Sg}:∀s:List UInt8,zj σ (s.map λb=>qa.int .u8 (.ofNat b.toNat)) (s.map λb=>Value.int .u8 b.toNat)
 |[]=> .nil
 |_::s=> .cons (.int _ _) (Ym s)
def qal(n:Nat):Option (Nat×List qa):=match Nat.beq n 0 with
 |true=>some (0,[])
 |false=>none
def jN(size:Nat)(H:qc)(x:qa):Option (Nat×List qa):=
 match x with
 | .slice b off n _ _=>match zf b H with
  |some (.cells cnt ct _ _)=>match Nat.ble (Nat.add off (Nat.mul n size)) cnt with
   |true=>some (n,CT.slab ct (Nat.mul n size) off)
   |false=>none
  |_=>none
 | .nilSlice=>some (0,[])
 | .gslice g off n _=>match GTab.tab g with
  |some l=>match Nat.ble (Nat.add off (Nat.mul n size)) l.length with
   |true=>some (n,(l.drop off).take (Nat.mul n size))
   |false=>qal n
  |none=>qal n
 | .str s=>match Nat.beq size 1 with
  |true=>some (s.length,s.map λb=>qa.int .u8 (.ofNat b.toNat))
  |false=>none
 |_=>none
theorem qhp{σ:Sg}{size n:Nat}{x:qa}{x':Value}{l:List qa}(hr:Rel σ H nx w)(hd:Den σ x x')(h:jN size H x=some (n,l)):
  l.length=n*size/\∃l',zj σ l l'/\(Builtin.lenOf x').run P w= .ok n w/\(Builtin.firstCells size n x').run P w= .ok ⟨l'⟩ w:=by
 unfold jN at h;split at h
 ·rename_i b off m esz full;split at h<;>try (cases h;done)
  rename_i cnt ct olds s ho;split at h<;>try (cases h;done)
  rename_i hle;have hle':off+m*size<=cnt:=Nat.le_of_ble_eq_true hle
  cases h
  refine⟨CT.slab_length _ _ _,?_⟩
  cases hd with
  | @slice _ _ _ _ cb sz cap _ hb h1 h2 h3=>
   obtain⟨l',_,hl,_,hrun⟩:=vG hr ho hb P off (n*size) hle'
   exact⟨l',hl,rfl,hrun⟩
  |slice0 hb=>
   have e:Nat.mul 0 size=0:=Nat.zero_mul _
   rw [e];refine⟨[],.nil,rfl,?_⟩
   simp [Builtin.firstCells,loadCells,loadCellsFrom]
 ·cases h
  cases hd
  exact⟨by simp,[],.nil,rfl,rfl⟩
 ·rename_i g off m esz;have zero:qal m=some (n,l)->l.length=n*size/\∃l',zj σ l l'/\(Builtin.lenOf x').run P w= .ok n w/\(Builtin.firstCells size n x').run P w= .ok ⟨l'⟩ w:=λhz=>by
   unfold qal at hz;split at hz<;>try (cases hz;done)
   rename_i h0;have h0:=Nat.eq_of_beq_eq_true h0
   subst h0;cases hz
   refine⟨by simp,[],.nil,?_⟩
   cases hd with
   |gslice h1=>exact⟨rfl,by simp [Builtin.firstCells,loadCells,loadCellsFrom]⟩
   |gslice0=>exact⟨rfl,by simp [Builtin.firstCells,loadCells,loadCellsFrom]⟩
  split at h
  ·rename_i tl htl;split at h
   ·rename_i hle;have hle':off+m*size<=tl.length:=Nat.le_of_ble_eq_true hle
    cases h
    refine⟨by rw [List.length_take,List.length_drop];show min (n*size) _=_;omega,?_⟩
    cases hd with
    |gslice h1=>
     obtain⟨l',hl,hrun⟩:=YA hr.glob htl P off (n*size) hle'
     exact⟨l',hl σ,rfl,hrun⟩
    |gslice0=>
     have e:Nat.mul 0 size=0:=Nat.zero_mul _
     rw [e];refine⟨[],.nil,rfl,?_⟩
     simp [Builtin.firstCells,loadCells,loadCellsFrom]
   ·exact zero h
  ·exact zero h
 ·rename_i s;split at h<;>try (cases h;done)
  rename_i hs;have hs':=Nat.eq_of_beq_eq_true hs
  cases h
  cases hd
  refine⟨by rw [List.length_map,hs',Nat.mul_one],_,Ym s,?_,?_⟩
  ·show Result.ok (txt s).size w=_
   rw [yY]
  ·simp only [Builtin.firstCells,Sem.run_pure]
   congr 1
   apply Array.ext'
   rw [Lib.extract_eq,qdb];simp only [List.drop_zero,Nat.sub_zero]
   rw [List.take_of_length_le lR];simp
 ·cases h
def qhy:TypeDesc->Bool
 | .slice _| .string=>true
 |_=>false
def qcq(b cnt:Nat)(ct:CT)(olds:List Nat)(k:Nat)(H:qc)(b' total:Nat)(ct':CT):qc:=
 match Nat.beq k cnt with
 |true=>zS b' (some (.cells total ct' [b] false)) (zS b (some (.cells cnt ct [] true)) (yu olds H))
 |false=>zS b' (some (.cells total ct' [] false)) (zS b none (zS b (some (.cells cnt ct [] true)) (yu olds H)))
def Jq(P:Program)(elem:TypeId)(size:Nat)(x:qa):Option (Nat×List qa):=
 match x,w8 P elem with
 | .int .i64 (.ofNat n),some z=>match Nat.ble (Nat.mul n size) 9223372036854775807,Nat.ble n 9223372036854775807 with
  |true,true=>some (n,VK z n)
  |_,_=>none
 |_,_=>none
def qsd:TypeDesc->Bool
 | .int _=>true
 |_=>false
def yF(P:Program)(elem:TypeId)(H:qc)(nx:Nat)(s:qa)(src:Nat->Option (Nat×List qa)):Option zG:=
 match w8 P elem,P.info? elem with
 |some _,some e=>
  match src e.size,Nat.beq e.size 0,Nat.ble (Nat.succ nx) (Nat.succ nx)with
  |some (0,_),false,true=>match s with
   | .nilSlice=>some (.val .nilSlice H nx)
   | .slice b off len esz full=>some (.val (.slice b off len esz full) H nx)
   |_=>none
  |some (Nat.succ n',new),false,true=>match s with
   | .nilSlice=>match Nat.ble (Nat.mul (Nat.succ n') e.size) 9223372036854775807,Nat.ble (Nat.mul (Nat.succ n') e.bytes) 140737488355328 with
    |true,true=>kH nx λb'=>kH (Nat.mul (Nat.succ n') e.size) λtotal=>
      some (.val (.slice b' 0 (Nat.succ n') e.size false) (zS b' (some (.cells total (CT.ofL total new) [] false)) H) (Nat.succ b'))
    |_,_=>none
   | .slice b off len esz full=>match zf b H,Nat.beq esz e.size,Nat.ble (Nat.mul (Nat.add len (Nat.succ n')) e.size) 9223372036854775807,Nat.ble (Nat.mul (Nat.add len (Nat.succ n')) e.bytes) 140737488355328 with
    |some (.cells cnt ct olds sup),true,true,true=>match Nat.ble (Nat.add off (Nat.mul len e.size)) cnt,full with
     |true,true=>kH nx λb'=>kH (Nat.mul (Nat.add len (Nat.succ n')) e.size) λtotal=>kH (Nat.add len (Nat.succ n')) λm=>
       some (.val (.slice b' 0 m e.size false) (zS b' (some (.cells total (CT.ofL total (CT.slab ct (Nat.mul len e.size) off++new)) [] false)) H) (Nat.succ b'))
     |true,false=>match off,sup with
      |0,false=>kH nx λb'=>kH (Nat.mul (Nat.add len (Nat.succ n')) e.size) λtotal=>kH (Nat.add len (Nat.succ n')) λm=>
        some (.val (.slice b' 0 m e.size false) (qcq b cnt ct olds (Nat.mul len e.size) H b' total (CT.lay new (Nat.mul len e.size) (CT.widen total ct))) (Nat.succ b'))
      |_,_=>none
     |_,_=>none
    |_,_,_,_=>none
   |_=>none
  |_,_,_=>none
 |_,_=>none
theorem VN{sT xT u elem:TypeId}{e:TypeInfo}{d:TypeDesc}{base:Option Addr}{len cap n:Nat}{x':Value}{l':List Value}
  (hu:P.underlying sT=some (.slice elem)) (hx:P.underlying xT=some d) (hd:qhy d=true) (he:P.info? elem=some e)
  (hlen:(Builtin.lenOf x').run P w= .ok n w) (hfc:(Builtin.firstCells e.size n x').run P w= .ok ⟨l'⟩ w) (hroom:len+n<=cap):
  (Builtin.append_ #[sT,xT] u #[.slice base len cap,x']).run P w=
   (match base with|some a=>(storeCells (a.add (len*e.size)) l').run P w|none=> .ok () w).andThen λ_ w'=> .ok (.slice base (len+n) cap) w':=by
 cases d<;>try (cases hd;done)
 all_goals (cases base<;>simp [Builtin.append_,qm hu,qm hx,qN he,hlen,hroom,hfc])
theorem Kr{sT xT u elem:TypeId}{e:TypeInfo}{z:Value}{d:TypeDesc}{base:Option Addr}{len cap n:Nat}{x':Value}{l' o':List Value}
  (hu:P.underlying sT=some (.slice elem)) (hx:P.underlying xT=some d) (hd:qhy d=true) (he:P.info? elem=some e) (hz:e.zero=some z)
  (hlen:(Builtin.lenOf x').run P w= .ok n w) (hfc:(Builtin.firstCells e.size n x').run P w.drew= .ok ⟨l'⟩ w.drew)
  (hold:(Builtin.firstCells e.size len (.slice base len cap)).run P w.drew= .ok ⟨o'⟩ w.drew) (hroom:cap<len+n) (hb:(len+n)*e.bytes<=140737488355328) (h4:len+n<=9223372036854775807):
  ∃c,len+n<=c/\(Builtin.append_ #[sT,xT] u #[.slice base len cap,x']).run P w=
   .ok (.slice (some (at' w.heap.size 0)) (len+n) c) (w.drew.alloc (.cells (⟨o'⟩++⟨l'⟩++Builtin.zeroCells z.cells (c - (len+n))) elem)):=by
 have hn:¬(len+n<=cap):=by omega
 have h63:¬(9223372036854775807<((len:Int)+(n:Int))):=by omega
 have h48:¬(281474976710656<Builtin.nextslicecap (len+n) cap*e.bytes):=by have:=growslice_fits hroom hb;omega
 refine⟨(Question.appendCap (len+n) cap elem).cut (w.tape w.drawn (.appendCap (len+n) cap elem)),by simp [Question.cut],?_⟩
 cases d<;>try (cases hd;done)
 all_goals (simp [Builtin.append_,qm hu,qm hx,qN he,zQ he,zn he hz,hlen,hn,h63,h48,Question.forced,hfc,hold,newRow];congr 2;apply Array.ext';simp)
def Y0(P:Program)(w:World)(sT xT:TypeId)(e:TypeInfo)(x':Value)(n:Nat)(l':List Value):Prop:=
 n*e.bytes<=140737488355328->∀(u:TypeId) (base:Option Addr) (len cap:Nat),len+n<=cap->
  (Builtin.append_ #[sT,xT] u #[.slice base len cap,x']).run P w=
   (match base with|some a=>(storeCells (a.add (len*e.size)) l').run P w|none=> .ok () w).andThen λ_ w'=> .ok (.slice base (len+n) cap) w'
def qay(P:Program)(w:World)(sT xT elem:TypeId)(e:TypeInfo)(z:Value)(x':Value)(n:Nat)(l':List Value):Prop:=
 ∀(u:TypeId) (base:Option Addr) (len cap:Nat) (o':List Value),(Builtin.firstCells e.size len (.slice base len cap)).run P w.drew= .ok ⟨o'⟩ w.drew->cap<len+n->(len+n)*e.bytes<=140737488355328->len+n<=9223372036854775807->
  ∃c,len+n<=c/\(Builtin.append_ #[sT,xT] u #[.slice base len cap,x']).run P w=
   .ok (.slice (some (at' w.heap.size 0)) (len+n) c) (w.drew.alloc (.cells (⟨o'⟩++⟨l'⟩++Builtin.zeroCells z.cells (c - (len+n))) elem))
theorem qln{sT xT elem:TypeId}{e:TypeInfo}{d:TypeDesc}{n:Nat}{x':Value}{l':List Value}
  (hu:P.underlying sT=some (.slice elem)) (hx:P.underlying xT=some d) (hd:qhy d=true) (he:P.info? elem=some e)
  (hlen:(Builtin.lenOf x').run P w= .ok n w) (hfc:(Builtin.firstCells e.size n x').run P w= .ok ⟨l'⟩ w):Y0 P w sT xT e x' n l':=
 λ_ _ _ _ _ hroom=>VN hu hx hd he hlen hfc hroom
theorem qn5{sT xT elem:TypeId}{e:TypeInfo}{z:Value}{d:TypeDesc}{n:Nat}{x':Value}{l':List Value}
  (hu:P.underlying sT=some (.slice elem)) (hx:P.underlying xT=some d) (hd:qhy d=true) (he:P.info? elem=some e) (hz:e.zero=some z)
  (hlen:(Builtin.lenOf x').run P w= .ok n w) (hfc:(Builtin.firstCells e.size n x').run P w.drew= .ok ⟨l'⟩ w.drew):qay P w sT xT elem e z x' n l':=
 λ_ _ _ _ _ hold hroom hb h4=>Kr hu hx hd he hz hlen hfc hold hroom hb h4
theorem WS{n:Nat}(h:n<=9223372036854775807):IntKind.i64.wrap (n:Int)=(n:Int):=by
 have h1:((n:Int) % 2 ^ 64)=(n:Int):=by omega
 simp only [IntKind.wrap,IntKind.signed,IntKind.bits,h1]
 rw [if_neg (by simp;omega)]
theorem ZW{n:Nat}:(asIntOf (.int .i64 (n:Int))).run P w= .ok (.i64,(n:Int)) w:=rfl
theorem qeh{sT xT elem:TypeId}{e:TypeInfo}{z:Value}{k:IntKind}{n:Nat}
  (hu:P.underlying sT=some (.slice elem)) (hx:P.underlying xT=some (.int k)) (he:P.info? elem=some e) (hz:e.zero=some z) (hzs:z.cells.size=e.size) (hn:n<=9223372036854775807):
  Y0 P w sT xT e (.int .i64 (n:Int)) n (Builtin.zeroCells z.cells n).toList:=by
 intro hb u base len cap hroom;have hwr:=WS hn
 have h1:¬((n:Int)<0):=by omega
 have h2:¬(281474976710656<(n:Int)*(e.bytes:Int)):=by omega
 by_cases h0:n*e.size=0
 ·have e0:Builtin.zeroCells z.cells n=#[]:=by apply Array.eq_empty_of_size_eq_zero;simp [Builtin.zeroCells,hzs,h0]
  cases base<;>simp [Builtin.append_,qm hu,qm hx,qN he,zQ he,asInt,ZW,hwr,h1,h2,hroom,h0,e0]
 ·cases base<;>simp [Builtin.append_,qm hu,qm hx,qN he,zQ he,zn he hz,asInt,ZW,hwr,h1,h2,hroom,h0]
theorem qga{sT xT elem:TypeId}{e:TypeInfo}{z:Value}{k:IntKind}{n:Nat}
  (hu:P.underlying sT=some (.slice elem)) (hx:P.underlying xT=some (.int k)) (he:P.info? elem=some e) (hz:e.zero=some z) (hzs:z.cells.size=e.size) (hn:n<=9223372036854775807):
  qay P w sT xT elem e z (.int .i64 (n:Int)) n (Builtin.zeroCells z.cells n).toList:=by
 intro u base len cap o' hold hroom hb h4;have hwr:=WS hn
 have h1:¬((n:Int)<0):=by omega
 have h2:¬(281474976710656<(n:Int)*(e.bytes:Int)):=by
  have:n*e.bytes<=(len+n)*e.bytes:=Nat.mul_le_mul_right _ (by omega)
  omega
 have hn':¬(len+n<=cap):=by omega
 have h63:¬(9223372036854775807<((len:Int)+(n:Int))):=by omega
 have h48:¬(281474976710656<Builtin.nextslicecap (len+n) cap*e.bytes):=by have:=growslice_fits hroom hb;omega
 refine⟨(Question.appendCap (len+n) cap elem).cut (w.tape w.drawn (.appendCap (len+n) cap elem)),by simp [Question.cut],?_⟩
 by_cases h0:n*e.size=0
 ·have e0:Builtin.zeroCells z.cells n=#[]:=by apply Array.eq_empty_of_size_eq_zero;simp [Builtin.zeroCells,hzs,h0]
  simp [Builtin.append_,qm hu,qm hx,qN he,zQ he,zn he hz,asInt,ZW,hwr,h1,h2,hn',h63,h48,Question.forced,hold,newRow,e0]
 ·simp [Builtin.append_,qm hu,qm hx,qN he,zQ he,zn he hz,asInt,ZW,hwr,h1,h2,hn',h63,h48,Question.forced,hold,newRow,h0]
theorem qjt{σ:Sg}{elem:TypeId}{e:TypeInfo}{z:Value}{x:qa}{n:Nat}{l:List qa}(he:P.info? elem=some e)(hz:e.zero=some z)(h:Jq P elem e.size x=some (n,l)):
  ∃m:Nat,x= .int .i64 (.ofNat m)/\m=n/\n<=9223372036854775807/\zj σ l (Builtin.zeroCells z.cells n).toList/\l.length=n*e.size:=by
 unfold Jq at h;split at h<;>try (cases h;done)
 rename_i m zl hzl;split at h<;>try (cases h;done)
 rename_i h1 h2;cases h
 obtain⟨i,zv,hi,hzv,rfl,hsz⟩:=w7 hzl
 rw [he]at hi;cases hi
 rw [hz]at hzv;cases hzv
 have hd:zj σ (VK (z.cells.toList.map Zb) n) (Kd z.cells.toList n):=JI (kq σ _) n
 refine⟨n,rfl,rfl,Nat.le_of_ble_eq_true h2,?_,?_⟩
 ·show zj σ _ ((Array.range (n*z.cells.size)).map (z.cells[· % z.cells.size]!)).toList
  rw [qab];exact hd
 ·rw [yB,List.length_map,Array.length_toList,hsz]
theorem Vw{elem:TypeId}{s:qa}{src:Nat->Option (Nat×List qa)}{r:zG}(h:yF P elem H nx s src=some r):∃v H' nx',r= .val v H' nx':=by
 unfold yF at h;split at h<;>try (cases h;done)
 split at h<;>try (cases h;done)
 ·split at h<;>first|(cases h;done)|(cases h;exact⟨_,_,_,rfl⟩)
 ·split at h<;>try (cases h;done)
  ·split at h<;>first|(cases h;done)|(rw [qS,qS]at h;cases h;exact⟨_,_,_,rfl⟩)
  ·split at h<;>try (cases h;done)
   split at h<;>try (cases h;done)
   ·rw [qS,qS,qS]at h;cases h;exact⟨_,_,_,rfl⟩
   ·split at h<;>first|(cases h;done)|(rw [qS,qS,qS]at h;cases h;exact⟨_,_,_,rfl⟩)
theorem Ext.more{σ:Sg}{H H':qc}{nx cb sz:Nat}{w w':World}(h:Rel σ H nx w)(hp:∀c,c<nx->σ c=none->zf c H'=zf c H)(hr:w.heap.size<=cb\/∃b s,σ b=some (cb,s))
  (h1:w'.os=w.os) (h2:w'.tape=w.tape) (h3:w'.output=w.output) (h4:w.heap.size<=w'.heap.size) (h5:∀i,i<w.heap.size->(∀b s,σ b≠some (i,s))->w'.heap[i]?=w.heap[i]?) (h6:w.drawn<=w'.drawn):
  Ext σ (upd σ nx (cb,sz)) H H' nx (nx+1) w w':=by
 have hb:σ nx=none:=by
  cases e:σ nx with
  |none=>rfl
  |some p=>obtain⟨cb,s⟩:=p;have:=(h.dom nx cb s e).1;omega
 refine⟨Z4 hb,?_,?_,by omega,h1,h2,h3,h4,h5,h6⟩
 ·intro c x s e hlt;rcases jF e with⟨rfl,q⟩|⟨_,q⟩
  ·cases q
   rcases hr with hr|⟨b,s',hr⟩
   ·omega
   ·exact⟨b,s',hr⟩
  ·exact⟨c,s,q⟩
 ·intro c hc hn;refine⟨?_,hp c hc hn⟩
  unfold upd;rw [if_neg (by omega)]
  exact hn
theorem Rel.realloc{σ:Sg}{nx total:Nat}{ct:CT}{os:List Nat}{l:List qa}{l':List Value}{rest:Array Value}{t:TypeId}(h:Rel σ H nx w)(hx:nx<nx+1)
  (hos:∀c,c∈os->(∃p,σ c=some p)/\∀o,zf c H=some o->o.sup=true) (hl:zj σ l l') (hlen:l.length=total) (hcap:total<=ct.cap) (hg:∀i,i<total->ct.get i=l.getD i .und):
  Rel (upd σ nx (w.heap.size,total+rest.size)) (zS nx (some (.cells total ct os false)) H) (nx+1) (w.drew.alloc (.cells (⟨l'⟩++rest) t)):=by
 have hb:σ nx=none:=by
  cases e:σ nx with
  |none=>rfl
  |some p=>obtain⟨cb,s⟩:=p;have:=(h.dom nx cb s e).1;omega
 have newb:(w.drew.alloc (.cells (⟨l'⟩++rest) t)).heap[w.heap.size]?=some (.cells (⟨l'⟩++rest) t):=by
  show(w.heap.push _)[w.heap.size]?=_
  simp
 have newc:∀i,(w.drew.alloc (.cells (⟨l'⟩++rest) t)).cell? (at' w.heap.size i)=((⟨l'⟩:Array Value)++rest)[i]?:=by
  intro i;unfold World.cell?;rw [newb]
  rfl
 have hll:=hl.length
 refine h.share hx (w':=w.drew.alloc (.cells (⟨l'⟩++rest) t)) (cb:=w.heap.size) (sz:=total+rest.size) (by simp) (by simp) ?_ hos ?_ ⟨Nat.le_add_right _ _,hcap,?_,?_⟩ (λh=>absurd h (Nat.lt_irrefl _))
 ·intro i hi _;show(w.heap.push _)[i]?=_
  rw [Array.getElem?_push,if_neg (by omega)]
 ·intro c o s _ e;have:=(h.dom c _ s e).2
  omega
 ·intro i hi;refine⟨?_,?_⟩
  ·unfold World.frozen?;rw [newb];simp
  ·rw [newc];exact⟨_,Array.getElem?_eq_getElem (by simp;omega)⟩
 ·intro i hi;have hlt:i<l.length:=by omega
  obtain⟨v',e,d⟩:=hl.get i l[i] (by simp [List.getElem?_eq_getElem hlt])
  refine⟨v',?_,?_⟩
  ·rw [newc,Array.getElem?_append_left (by simp;omega)]
   simpa using e
  ·rw [hg i hi];have:=d.mono (Z4 (p:=(w.heap.size,total+rest.size)) hb)
   simpa [List.getD,List.getElem?_eq_getElem hlt]using this
theorem Ext.realloc{σ:Sg}{H H':qc}{nx sz:Nat}{o:Obj}(h:Rel σ H nx w)(hp:∀c,c<nx->σ c=none->zf c H'=zf c H):
  Ext σ (upd σ nx (w.heap.size,sz)) H H' nx (nx+1) w (w.drew.alloc o):=
 Ext.more h hp (.inl lR) rfl rfl rfl (by simp) (λi hi _=>by
  show(w.heap.push _)[i]?=_
  rw [Array.getElem?_push,if_neg (by omega)]) (Nat.le_succ _)
theorem Rel.inplace{σ:Sg}{nx total cb sz k:Nat}{ct:CT}{os:List Nat}{l:List qa}{l':List Value}(h:Rel σ H nx w)(hx:nx<nx+1)(hcb:cb<w.heap.size)(hrng:∃b' sz',σ b'=some (cb,sz'))
  (hos:∀c,c∈os->(∃p,σ c=some p)/\∀o,zf c H=some o->o.sup=true)
  (hal:∀c o s,zf c H=some o->σ c=some (cb,s)->c∈os/\∃n cc oo sp,o= .cells n cc oo sp/\n<=k)
  (hl:zj σ l l') (hlen:k+l.length=total) (hsz:total<=sz) (hcap:total<=ct.cap)
  (hfz:∀i,i<sz->w.frozen? (at' cb i)=false/\∃v,w.cell? (at' cb i)=some v)
  (hold:∀i,i<k->∃v',w.cell? (at' cb i)=some v'/\Den σ (ct.get i) v') (hnew:∀i,i<l.length->ct.get (k+i)=l.getD i .und):
  Rel (upd σ nx (cb,sz)) (zS nx (some (.cells total ct os false)) H) (nx+1) (z2 w cb k l'):=by
 have hb:σ nx=none:=by
  cases e:σ nx with
  |none=>rfl
  |some p=>obtain⟨cb,s⟩:=p;have:=(h.dom nx cb s e).1;omega
 have hll:=hl.length
 obtain⟨r1,r2,r3,r4⟩:=wj l' w cb k
 have hcell:=wk l' w cb k
 have hex:∀j,k<=j->j<k+l'.length->∃v,w.cell? (at' cb j)=some v:=λj _ hj=>(hfz j (by omega)).2
 have sub:=Z4 (p:=(cb,sz)) hb
 refine h.share hx (w':=z2 w cb k l') (by rw [r4];exact hcb) (by rw [r4];exact Nat.le_refl _) (λi _ hne=>ki l' w cb k i hne) hos ?_ ⟨hsz,hcap,?_,?_⟩ (λ_=>hrng)
 ·intro c o s e1 e2;obtain⟨hm,n,cc,oo,sp,rfl,hn⟩:=hal c o s e1 e2
  refine⟨hm,?_⟩
  obtain⟨a1,a2,a3,a4⟩:=h.obj c _ cb s e1 e2
  refine⟨a1,a2,?_,?_⟩
  ·intro i hi;rw [vy,hcell i hex];refine⟨(a3 i hi).1,?_⟩
   by_cases hin:k<=i/\i<k+l'.length
   ·rw [if_pos hin];exact⟨_,List.getElem?_eq_getElem (show i - k<l'.length by omega)⟩
   ·rw [if_neg hin];exact(a3 i hi).2
  ·intro i hi;rw [hcell i hex,if_neg (by omega)]
   exact a4 i hi
 ·intro i hi;rw [vy,hcell i hex];refine⟨(hfz i hi).1,?_⟩
  by_cases hin:k<=i/\i<k+l'.length
  ·rw [if_pos hin];exact⟨_,List.getElem?_eq_getElem (show i - k<l'.length by omega)⟩
  ·rw [if_neg hin];exact(hfz i hi).2
 ·intro i hi;rw [hcell i hex];by_cases hin:k<=i/\i<k+l'.length
  ·rw [if_pos hin];have hlt:i - k<l.length:=by omega
   obtain⟨v',e,d⟩:=hl.get (i - k) l[i - k] (by simp [List.getElem?_eq_getElem hlt])
   refine⟨v',e,?_⟩
   have hg:=hnew (i - k) hlt
   rw [show k+(i - k)=i by omega]at hg
   rw [hg];have:=d.mono sub
   simpa [List.getD,List.getElem?_eq_getElem hlt]using this
  ·rw [if_neg hin];obtain⟨v',e,d⟩:=hold i (by omega)
   exact⟨v',e,d.mono sub⟩
theorem Vc{z:Array Value}{n:Nat}:(Builtin.zeroCells z n).size=n*z.size:=by simp [Builtin.zeroCells]
set_option maxHeartbeats 2000000 in
theorem Wu{σ:Sg}{H H':qc}{nx nx':Nat}{sT xT u elem:TypeId}{s v:qa}{s' x':Value}{src:Nat->Option (Nat×List qa)}(hr:Rel σ H nx w)(ds:Den σ s s')
  (hs:∀n l e z,P.info? elem=some e->e.zero=some z->z.cells.size=e.size->src e.size=some (n,l)->l.length=n*e.size/\qt l=true/\(∃l',zj σ l l'/\Y0 P w sT xT e x' n l')/\∃l',zj σ l l'/\qay P w sT xT elem e z x' n l')
  (h:yF P elem H nx s src=some (.val v H' nx')):
  ∃σ' w' v',Rel σ' H' nx' w'/\Ext σ σ' H H' nx nx' w w'/\Den σ' v v'/\(Builtin.append_ #[sT,xT] u #[s',x']).run P w= .ok v' w':=by
 unfold yF at h;split at h<;>try (cases h;done)
 rename_i zl e hzl he;obtain⟨e0,z,he0,hz,_,hzs⟩:=w7 hzl
 rw [he]at he0;cases he0
 split at h<;>try (cases h;done)
 ·
  rename_i l hsrc h0 hn;obtain⟨hll,_,⟨l',hl,hroomr⟩,_⟩:=hs _ _ _ _ he hz hzs hsrc
  have l0:l'=[]:=by
   have:=hl.length
   rw [hll,Nat.zero_mul]at this;cases l' with
   |nil=>rfl
   |cons _ _=>simp at this
  subst l0;split at h<;>try (cases h;done)
  ·cases h
   cases ds
   have hrun:=hroomr (by simp) u none 0 0 (by omega)
   exact⟨σ,w,_,hr,Ext.refl _ _ _ _,.nilSlice,hrun⟩
  ·rename_i b off len esz full;cases h
   refine⟨σ,w,s',hr,Ext.refl _ _ _ _,ds,?_⟩
   cases ds with
   | @slice _ _ _ _ cb sz cap _ hb h1 h2 h3=>exact hroomr (by simp) u (some _) len cap (by omega)
   |slice0 hb=>exact hroomr (by simp) u (some _) 0 0 (by omega)
 ·rename_i n' new hsrc h0 hn;have hn':=Nat.le_of_ble_eq_true hn
  have hnx:nx<nx+1:=by omega
  obtain⟨hll,hcell,⟨l',hl,hroomr⟩,l2,hl2,hgrow⟩:=hs _ _ _ _ he hz hzs hsrc
  have hone:=QJ hcell hl
  have hnone:∀c,c<nx->σ c=none->∀o,zf c (zS nx o H)=zf c H:=λc hc _ o=>jm (by omega) hnx (by omega)
  split at h<;>try (cases h;done)
  ·
   split at h<;>try (cases h;done)
   rename_i h1 h2;have h1':(n'+1)*e.size<=9223372036854775807:=Nat.le_of_ble_eq_true h1
   have h2':(n'+1)*e.bytes<=140737488355328:=Nat.le_of_ble_eq_true h2
   have hsz0:e.size≠0:=λq=>by rw [q]at h0;cases h0
   have hn4:n'+1<=9223372036854775807:=Nat.le_trans (Nat.le_mul_of_pos_right _ (by omega)) h1'
   rw [qS,qS]at h;cases h
   cases ds
   obtain⟨c,hc,hrun⟩:=hgrow u none 0 0 [] (by simp [Builtin.firstCells]) (by omega) (by simpa using h2') (by omega)
   simp only [Nat.zero_add]at hc hrun
   have hll':new.length=(n'+1)*e.size:=hll
   have R:=hr.realloc (os:=[]) (rest:=Builtin.zeroCells z.cells (c - (n'+1))) (t:=elem) hnx (λc hc=>by cases hc) hl2 hll' (CT.ofL_cap _ _ h1') (λi hi=>CT.get_ofL _ _ i h1' hi)
   refine⟨_,_,.slice (some (at' w.heap.size 0)) (n'+1) c,R,Ext.realloc hr (λc hc hcn=>hnone c hc hcn _),?_,?_⟩
   ·refine Den.slice (cap:=c) (sz:=(n'+1)*e.size+(Builtin.zeroCells z.cells (c - (n'+1))).size) (by simp [upd]) (by omega) ?_ (λq=>by cases q)
    rw [Vc,hzs,<-Nat.add_mul,Nat.zero_add];exact Nat.mul_le_mul_right _ (by omega)
   ·rw [hrun];simp
  ·rename_i b off len esz full;split at h<;>try (cases h;done)
   rename_i cnt ct olds sup hblk hesz h1 h2;have hesz':=Nat.eq_of_beq_eq_true hesz
   subst hesz';have h1':(len+(n'+1))*e.size<=9223372036854775807:=Nat.le_of_ble_eq_true h1
   have h2':(len+(n'+1))*e.bytes<=140737488355328:=Nat.le_of_ble_eq_true h2
   have hsz0:e.size≠0:=λq=>by rw [q]at h0;cases h0
   have hn4:len+(n'+1)<=9223372036854775807:=Nat.le_trans (Nat.le_mul_of_pos_right _ (by omega)) h1'
   have hll':new.length=(n'+1)*e.size:=hll
   split at h<;>try (cases h;done)
   ·
    rename_i hk;have hk':off+len*e.size<=cnt:=Nat.le_of_ble_eq_true hk
    rw [qS,qS,qS]at h;cases h
    have key:∀cb sz o',σ b=some (cb,sz)->zj σ (CT.slab ct (len*e.size) off) o'->
      (Builtin.firstCells e.size len (s')).run P w.drew= .ok ⟨o'⟩ w.drew->s'= .slice (some (at' cb off)) len len\/(len=0/\∃off',s'= .slice (some (at' cb off')) 0 0)->
      ∃σ' w' v',Rel σ' (zS nx (some (.cells (Nat.mul (Nat.add len (Nat.succ n')) e.size) (CT.ofL (Nat.mul (Nat.add len (Nat.succ n')) e.size) (CT.slab ct (Nat.mul len e.size) off++new)) [] false)) H) (nx+1) w'/\
       Ext σ σ' H (zS nx (some (.cells (Nat.mul (Nat.add len (Nat.succ n')) e.size) (CT.ofL (Nat.mul (Nat.add len (Nat.succ n')) e.size) (CT.slab ct (Nat.mul len e.size) off++new)) [] false)) H) nx (nx+1) w w'/\
       Den σ' (.slice nx 0 (Nat.add len (Nat.succ n')) e.size false) v'/\(Builtin.append_ #[sT,xT] u #[s',x']).run P w= .ok v' w':=by
     intro cb sz o' hb ho hfo hs;have hall:zj σ (CT.slab ct (len*e.size) off++new) (o'++l2):=ho.append hl2
     have hlen2:(CT.slab ct (len*e.size) off++new).length=(len+(n'+1))*e.size:=by rw [List.length_append,CT.slab_length,hll',Nat.add_mul len (n'+1) e.size]
     have fin:∀base cap,s'= .slice base len cap->cap=len->∃c,len+(n'+1)<=c/\(Builtin.append_ #[sT,xT] u #[s',x']).run P w=
       .ok (.slice (some (at' w.heap.size 0)) (len+(n'+1)) c) (w.drew.alloc (.cells (⟨o'⟩++⟨l2⟩++Builtin.zeroCells z.cells (c - (len+(n'+1)))) elem)):=by
      intro base cap hs hc;rw [hs]at hfo ⊢;exact hgrow u base len cap _ hfo (by omega) h2' hn4
     obtain⟨c,hc,hrun⟩:∃c,len+(n'+1)<=c/\(Builtin.append_ #[sT,xT] u #[s',x']).run P w=
       .ok (.slice (some (at' w.heap.size 0)) (len+(n'+1)) c) (w.drew.alloc (.cells (⟨o'⟩++⟨l2⟩++Builtin.zeroCells z.cells (c - (len+(n'+1)))) elem)):=by
      rcases hs with hs|⟨h0,off',hs⟩
      ·exact fin _ _ hs rfl
      ·subst h0;exact fin _ _ hs rfl
     have R:=hr.realloc (os:=[]) (rest:=Builtin.zeroCells z.cells (c - (len+(n'+1)))) (t:=elem) hnx (λc hc=>by cases hc) hall hlen2 (CT.ofL_cap _ _ h1') (λi hi=>CT.get_ofL _ _ i h1' hi)
     refine⟨_,_,.slice (some (at' w.heap.size 0)) (len+(n'+1)) c,R,Ext.realloc hr (λc hc hcn=>hnone c hc hcn _),?_,?_⟩
     ·refine Den.slice (cap:=c) (sz:=(len+(n'+1))*e.size+(Builtin.zeroCells z.cells (c - (len+(n'+1)))).size) (by simp [upd]) hc ?_ (λq=>by cases q)
      rw [Vc,hzs,<-Nat.add_mul,Nat.zero_add];exact Nat.mul_le_mul_right _ (by omega)
     ·rw [hrun];simp
    cases ds with
    | @slice _ _ _ _ cb sz cap _ hb g1 g2 g3=>
     have hcl:=g3 rfl
     obtain⟨o',_,ho,_,hfo⟩:=vG hr.drew hblk hb P off (len*e.size) hk'
     exact key cb sz o' hb ho hfo (.inl (by rw [hcl]))
    | @slice0 _ _ off' _ cb sz _ hb=>
     obtain⟨o',hol,ho,_,_⟩:=vG hr.drew hblk hb P off (0*e.size) hk'
     have o0:o'=[]:=by
      cases o' with
      |nil=>rfl
      |cons _ _=>simp at hol
     subst o0;exact key cb sz [] hb ho (by simp [Builtin.firstCells,loadCells,loadCellsFrom]) (.inr ⟨rfl,off',rfl⟩)
   ·
    rename_i hk;split at h<;>try (cases h;done)
    have hk':0+len*e.size<=cnt:=Nat.le_of_ble_eq_true hk
    rw [qS,qS,qS]at h;have hk2:len*e.size<=cnt:=by omega
    cases hbb:σ b with
    |none=>
     exfalso
     cases ds with
     |slice hb _ _ _=>rw [hbb]at hb;cases hb
     |slice0 hb=>rw [hbb]at hb;cases hb
    |some p=>
    obtain⟨cb,sz⟩:=p
    obtain⟨D1,D2,D3⟩:=hr.demote hbb hblk
    have bn:b<b+1:=by have:=(hr.dom b cb sz hbb).1;have:=hr.lim;omega
    have blt:b<nx:=(hr.dom b cb sz hbb).1
    have cbl:=(hr.dom b cb sz hbb).2
    obtain⟨o1,o2,o3,o4⟩:=hr.obj b _ cb sz hblk hbb
    have htot:len*e.size+new.length=(len+(n'+1))*e.size:=by rw [hll',Nat.add_mul len (n'+1) e.size]
    have hwc:=CT.widen_cap ((len+(n'+1))*e.size) ct h1'
    have hget1:∀i,i<len*e.size->CT.get i (CT.lay new (len*e.size) (CT.widen ((len+(n'+1))*e.size) ct))=CT.get i ct:=by
     intro i hi;rw [CT.lay_get _ _ _ i (by omega) (by omega),if_neg (by omega),CT.widen_get _ _ i (by omega)]
    have hget2:∀i,i<new.length->CT.get (len*e.size+i) (CT.lay new (len*e.size) (CT.widen ((len+(n'+1))*e.size) ct))=new.getD i .und:=by
     intro i hi;rw [CT.lay_get _ _ _ _ (by omega) (by omega),if_pos (by omega)]
     congr 1
     omega
    have hcap':(len+(n'+1))*e.size<=(CT.lay new (len*e.size) (CT.widen ((len+(n'+1))*e.size) ct)).cap:=by rw [CT.lay_cap];exact hwc
    have both:∃(H2:qc) (os:List Nat),H'=zS nx (some (.cells ((len+(n'+1))*e.size) (CT.lay new (len*e.size) (CT.widen ((len+(n'+1))*e.size) ct)) os false)) H2/\nx'=nx+1/\v= .slice nx 0 (len+(n'+1)) e.size false/\
      Rel σ H2 nx w/\(∀c,c<nx->σ c=none->zf c H2=zf c H)/\(∀c,c∈os->(∃p,σ c=some p)/\∀o,zf c H2=some o->o.sup=true)/\
      (∀c o s,zf c H2=some o->σ c=some (cb,s)->c∈os/\∃n cc oo sp,o= .cells n cc oo sp/\n<=len*e.size):=by
     unfold qcq at h;cases hq:Nat.beq (Nat.mul len e.size) cnt with
     |true=>
      rw [hq]at h;cases h
      have hq':len*e.size=cnt:=Nat.eq_of_beq_eq_true hq
      refine⟨_,[b],rfl,rfl,rfl,D1,D2,?_,?_⟩
      ·intro c hc;simp at hc
       subst hc;refine⟨⟨_,hbb⟩,λo ho=> ?_⟩
       rw [qW]at ho;cases ho
       rfl
      ·intro c o s e1 e2;have:=D3 c o s e1 e2
       subst this;rw [qW]at e1;cases e1
       exact⟨by simp,_,_,_,_,rfl,by omega⟩
     |false=>
      rw [hq]at h;cases h
      refine⟨_,[],rfl,rfl,rfl,D1.forget bn,?_,(λc hc=>by cases hc),?_⟩
      ·intro c hc hcn;rw [jm (λq=>by subst q;rw [hbb]at hcn;cases hcn) bn (by omega)]
       exact D2 c hc hcn
      ·intro c o s e1 e2;by_cases hcb:b=c
       ·subst hcb;rw [qW]at e1;cases e1
       ·have hcn:c<c+1:=by have:=(hr.dom c cb s e2).1;omega
        rw [jm hcb bn hcn]at e1;exact absurd (D3 c o s e1 e2).symm hcb
    obtain⟨H2,os,rfl,rfl,rfl,R2,hp2,hos,hal⟩:=both
    have hpend:∀c,c<nx->σ c=none->zf c (zS nx (some (.cells ((len+(n'+1))*e.size) (CT.lay new (len*e.size) (CT.widen ((len+(n'+1))*e.size) ct)) os false)) H2)=zf c H:=by
     intro c hc hcn;rw [jm (by omega) hnx (by omega)]
     exact hp2 c hc hcn
    have grow:∀base cap,s'= .slice base len cap->cap<len+(n'+1)->∀o',zj σ (CT.slab ct (len*e.size) 0) o'->(Builtin.firstCells e.size len s').run P w.drew= .ok ⟨o'⟩ w.drew->
      ∃σ' w' v',Rel σ' (zS nx (some (.cells ((len+(n'+1))*e.size) (CT.lay new (len*e.size) (CT.widen ((len+(n'+1))*e.size) ct)) os false)) H2) (nx+1) w'/\
       Ext σ σ' H (zS nx (some (.cells ((len+(n'+1))*e.size) (CT.lay new (len*e.size) (CT.widen ((len+(n'+1))*e.size) ct)) os false)) H2) nx (nx+1) w w'/\
       Den σ' (.slice nx 0 (len+(n'+1)) e.size false) v'/\(Builtin.append_ #[sT,xT] u #[s',x']).run P w= .ok v' w':=by
     intro base cap hs hcap o' ho hfo;subst hs;obtain⟨c,hc,hrun⟩:=hgrow u base len cap _ hfo hcap h2' hn4
     have hall:zj σ (CT.slab ct (len*e.size) 0++new) (o'++l2):=ho.append hl2
     have hlen2:(CT.slab ct (len*e.size) 0++new).length=(len+(n'+1))*e.size:=by rw [List.length_append,CT.slab_length,hll',Nat.add_mul len (n'+1) e.size]
     have R:=R2.realloc (rest:=Builtin.zeroCells z.cells (c - (len+(n'+1)))) (t:=elem) hnx hos hall hlen2 hcap' (by
      intro i hi;by_cases hik:i<len*e.size
      ·rw [hget1 i hik];have:=CT.slab_get ct (len*e.size) 0 i hik
       simp [List.getD,List.getElem?_append_left (show i<(CT.slab ct (len*e.size) 0).length by rw [CT.slab_length];exact hik),this]
      ·have hi2:i - len*e.size<new.length:=by omega
       have:=hget2 (i - len*e.size) hi2
       rw [show len*e.size+(i - len*e.size)=i by omega]at this
       rw [this];simp only [List.getD]
       rw [List.getElem?_append_right (by rw [CT.slab_length];omega),CT.slab_length])
     refine⟨_,_,.slice (some (at' w.heap.size 0)) (len+(n'+1)) c,R,Ext.realloc hr hpend,?_,?_⟩
     ·refine Den.slice (cap:=c) (sz:=(len+(n'+1))*e.size+(Builtin.zeroCells z.cells (c - (len+(n'+1)))).size) (by simp [upd]) hc ?_ (λq=>by cases q)
      rw [Vc,hzs,<-Nat.add_mul,Nat.zero_add];exact Nat.mul_le_mul_right _ (by omega)
     ·rw [hrun];simp
    cases ds with
    | @slice _ _ _ _ cb' sz' cap _ hb g1 g2 g3=>
     rw [hbb]at hb;cases hb
     by_cases hroom:len+(n'+1)<=cap
     ·have hle:(len+(n'+1))*e.size<=sz:=Nat.le_trans (Nat.mul_le_mul_right _ hroom) (by omega)
      have hst:=vP (P:=P) l' w cb (len*e.size) 0 hone (λk hk1 hk2=>o3 k (by have:=hl.length;omega))
      have hrun:=hroomr (Nat.le_trans (Nat.mul_le_mul_right _ (Nat.le_add_left _ _)) h2') u (some (at' cb 0)) len cap hroom
      have hadd:Addr.add (at' cb 0) (len*e.size)=at' cb (len*e.size):=by rw [kn,Nat.zero_add]
      simp only [hadd,hst,Result.andThen_ok,Nat.add_zero]at hrun
      have R:=R2.inplace (sz:=sz) (k:=len*e.size) hnx cbl ⟨_,_,hbb⟩ hos hal hl htot hle hcap' o3 (λi hi=>by rw [hget1 i hi];exact o4 i (by omega)) hget2
      obtain⟨r1,r2,r3,r4⟩:=wj l' w cb (len*e.size)
      refine⟨_,_,.slice (some (at' cb 0)) (len+(n'+1)) cap,R,Ext.more hr hpend (.inr ⟨b,sz,hbb⟩) r1 r2 r3 (by rw [r4];exact Nat.le_refl _) (λi hi hno=>ki l' w cb _ i (λq=>by subst q;exact hno b sz hbb)) (Nat.le_of_eq (yl l' w cb _).symm),?_,hrun⟩
      exact Den.slice (cap:=cap) (sz:=sz) (by simp [upd]) hroom (by omega) (λq=>by cases q)
     ·obtain⟨o',_,ho,_,hfo⟩:=vG hr.drew hblk hbb P 0 (len*e.size) hk'
      exact grow _ cap rfl (by omega) o' ho hfo
    | @slice0 _ _ off' _ cb' sz' _ hb=>
     rw [hbb]at hb;cases hb
     obtain⟨o',hol,ho,_,_⟩:=vG hr.drew hblk hbb P 0 (0*e.size) hk'
     have o0:o'=[]:=by
      cases o' with
      |nil=>rfl
      |cons _ _=>simp at hol
     subst o0;exact grow _ 0 rfl (by omega) [] ho (by simp [Builtin.firstCells,loadCells,loadCellsFrom])
end
end Go.Vs
end
section
namespace Go.Vs
variable [GTab] {P:Program} {H:qc} {nx:Nat} {o:Oper}
noncomputable section
def yw(a b:Nat):Nat:=Bool.rec b a (Nat.ble a b)
theorem qqo(a b:Nat):yw a b=Nat.min b a/\yw a b<=a/\yw a b<=b/\yw a b=Nat.min a b:=by
 unfold yw;cases h:Nat.ble a b with
 |true=>have:=Nat.le_of_ble_eq_true h;show a=Nat.min b a/\a<=a/\a<=b/\a=Nat.min a b;simp only [Nat.min_def];refine⟨?_,Nat.le_refl _,this,?_⟩<;>split<;>omega
 |false=>
  have:¬a<=b:=λhle=>by rw [Nat.ble_eq_true_of_le hle]at h;cases h
  show b=Nat.min b a/\b<=a/\b<=b/\b=Nat.min a b
  simp only [Nat.min_def]
  refine⟨?_,by omega,Nat.le_refl _,?_⟩<;>split<;>omega
def K5(P:Program)(types:Array TypeId)(args:Array Operand)(ρ:Operand->qa)(H:qc)(nx:Nat):Option zG:=
 match types.toList,args.toList with
 |dT::_,[d,s]=>match P.underlying dT with
  |some (.slice elem)=>match P.info? elem,ρ d,ρ s with
   |some e,.slice b off len _ _,.slice b2 off2 len2 _ _=>match zf b H,zf b2 H with
    |some (.cells cnt ct olds false),some (.cells cnt2 ct2 _ _)=>kH (yw len2 len) λn=>match Nat.ble (Nat.add off (Nat.mul n e.size)) cnt,Nat.ble (Nat.add off2 (Nat.mul n e.size)) cnt2,qt (CT.slab ct2 (Nat.mul n e.size) off2)with
     |true,true,true=>some (.val (.int .i64 (.ofNat n)) (zS b (some (.cells cnt (CT.lay (CT.slab ct2 (Nat.mul n e.size) off2) off ct) [] false)) (yu olds H)) nx)
     |_,_,_=>none
    |_,_=>none
   |some _,.slice _ _ _ _ _,.nilSlice=>some (.val (.int .i64 0) H nx)
   |some _,.nilSlice,.nilSlice=>some (.val (.int .i64 0) H nx)
   |some _,.nilSlice,.slice _ _ _ _ _=>some (.val (.int .i64 0) H nx)
   |_,_,_=>none
  |_=>none
 |_,_=>none
theorem qiv{c:Call}{ρ:Operand->qa}{r:zG}(ho:o.op= .call c)(hc:c.callee= .builtin .copy)(h:K5 P c.argTypes c.args ρ H nx=some r):zE P o ρ H nx r:=by
 unfold K5 at h;split at h<;>try (cases h;done)
 rename_i dT rT d s hT hA;split at h<;>try (cases h;done)
 rename_i elem hu;have eT:c.argTypes[0]?=some dT:=by rw [<-Array.getElem?_toList,hT];rfl
 have eA:c.args=#[d,s]:=by apply Array.ext';rw [hA]
 have ex:∀(ρ':Operand->Value) (w:World) (v:Value) (w':World),(Builtin.copy_ c.argTypes o.type #[ρ' d,ρ' s]).run P w= .ok v w'->(execOp ρ' o).run P w= .ok (.value v) w':=by
  intro ρ' w v w' hrun;simp [execOp,ho,resolve,hc,invoke,builtin,eA,hrun]
 split at h<;>try (cases h;done)
 ·rename_i e b off len esz full b2 off2 len2 esz2 full2 he hdv hsv;split at h<;>try (cases h;done)
  rename_i cnt ct olds cnt2 ct2 olds2 s2 ho1 ho2;rw [qS]at h;split at h<;>try (cases h;done)
  rename_i h1 h2 h3;cases h
  have h1':off+yw len2 len*e.size<=cnt:=Nat.le_of_ble_eq_true h1
  have h2':off2+yw len2 len*e.size<=cnt2:=Nat.le_of_ble_eq_true h2
  obtain⟨m1,m2,m3,m4⟩:=qqo len2 len
  intro σ w ρ' hr hd;have dd:=hd d;rw [hdv]at dd
  have ds:=hd s;rw [hsv]at ds
  have src:∃l',zj σ (CT.slab ct2 (yw len2 len*e.size) off2) l'/\(Builtin.lenOf (ρ' s)).run P w= .ok len2 w/\(Builtin.firstCells e.size (yw len2 len) (ρ' s)).run P w= .ok ⟨l'⟩ w:=by
   cases hq:ρ' s<;>rw [hq]at ds<;>cases ds
   ·rename_i cb sz cap hb q1 q2 q3;obtain⟨l',_,hl,_,hrun⟩:=vG hr ho2 hb P off2 (yw len2 len*e.size) h2'
    exact⟨l',hl,rfl,hrun⟩
   ·rename_i off' cb sz hb;have z:yw 0 len=0:=by omega
    rw [z,Nat.zero_mul];exact⟨[],.nil,rfl,by simp [Builtin.firstCells,loadCells,loadCellsFrom]⟩
  obtain⟨l',hl,hlen,hfirst⟩:=src
  have hll:(CT.slab ct2 (yw len2 len*e.size) off2).length=yw len2 len*e.size:=CT.slab_length _ _ _
  have hll':=hl.length
  have dst:∃base cap cb sz,σ b=some (cb,sz)/\ρ' d= .slice (some base) len cap/\(storeCells base l').run P w= .ok () (z2 w cb off l'):=by
   cases hq:ρ' d<;>rw [hq]at dd<;>cases dd
   ·rename_i cap cb sz hb q1 q2 q3;obtain⟨o1,o2,o3,o4⟩:=hr.obj b _ cb sz ho1 hb
    refine⟨at' cb off,cap,cb,sz,hb,rfl,?_⟩
    exact vP (P:=P) l' w cb off 0 (QJ h3 hl) (λk hk1 hk2=>o3 k (by omega))
   ·rename_i off' cb sz hb;have z:yw len2 0=0:=by omega
    have hz:yw len2 0*e.size=0:=by rw [z,Nat.zero_mul]
    have hn:l'=[]:=List.length_eq_zero_iff.1 (by omega)
    subst hn;exact⟨at' cb off',0,cb,sz,hb,rfl,rfl⟩
  obtain⟨base,cap,cb,sz,hb,hv,hst⟩:=dst
  obtain⟨R,E⟩:=hr.store hb ho1 (by rw [hll];omega) hl
  refine⟨σ,_,_,R,E,.int .i64 (.ofNat (yw len2 len)),.inl (ex ρ' w _ _ ?_)⟩
  rw [m4]at hfirst;simp only [Builtin.copy_,eT,hv,List.getElem?_toArray,List.getElem?_cons_zero,List.getElem?_cons_succ,Sem.run_bind,qm hu,Result.andThen_ok,hlen,qN he,hfirst,hst,Sem.run_pure,goInt,m4]
  rfl
 all_goals (
  cases h
  refine zE.pure λσ w ρ' hr hd=> ?_
  have dd:=hd d
  have ds:=hd s
  rename_i hdv hsv;rw [hdv]at dd;rw [hsv]at ds;refine⟨_,.int .i64 0,ex ρ' w _ _ ?_⟩
  cases hq:ρ' d<;>rw [hq]at dd<;>cases dd<;>cases hq2:ρ' s<;>rw [hq2]at ds<;>cases ds<;>
  simp [Builtin.copy_,eT,qm hu,Builtin.lenOf,qN ‹_›,Builtin.firstCells,loadCells,loadCellsFrom,storeCells,goInt])
end
end Go.Vs
namespace Go.Vs
variable [GTab] {P:Program} {H:qc} {nx:Nat} {o:Oper}
noncomputable section
def qh7(P:Program)(H:qc)(t:TypeId)(v:qa)(byPtr:Bool):Option qa:=
 match P.underlying t,byPtr with
 |some (.pointer _),true=>some v
 |some (.pointer elem),false=>Jd P elem H v
 |some d,false=>match d with
  | .pointer _=>none
  |_=>some v
 |_,_=>none
def qb2(P:Program)(t:TypeId)(name:String):Option (FuncId×Bool):=
 match P.info? t with
 |some i=>match i.methods.find? (·.name==name)with
  |some m=>match m.path.isEmpty,m.func with
   |true,some p=>some p
   |_,_=>none
  |none=>none
 |none=>none
def Zk(P:Program)(r:Operand)(name:String)(args:Array Operand)(ρ:Operand->qa)(H:qc)(_nx:Nat):Option zG:=
 match ρ r with
 | .iface t v=>match qb2 P t name with
  |some (f,byPtr)=>match vx P f,qh7 P H t v byPtr with
   |true,some u=>some (.call f (u::args.toList.map ρ))
   |_,_=>none
  |none=>none
 |_=>none
theorem ql8{σ:Sg}{w:World}{t:TypeId}{v u:qa}{v':Value}{byPtr:Bool}{name:String}(hr:Rel σ H nx w)(hv:Den σ v v')(h:qh7 P H t v byPtr=some u):
  ∃u',Den σ u u'/\(receiverAt t (.val v') byPtr (some name)).run P w= .ok u' w:=by
 unfold qh7 at h;split at h
 ·rename_i hu;cases h
  exact⟨v',hv,by simp [receiverAt,qm hu,Place.get]⟩
 ·rename_i elem hu;obtain⟨x',dx,hx⟩:=WZ (P:=P) hr hv h
  refine⟨x',dx,?_⟩
  have isptr:∃ad,v'= .pointer (some ad):=by
   unfold Jd at h;split at h<;>try (cases h;done)
   all_goals
    cases hv
    exact⟨_,rfl⟩
  obtain⟨ad,rfl⟩:=isptr
  have hx':(loadVar elem ad).run P w= .ok x' w:=by simpa [Instr.loadAt,Instr.sureAddr]using hx
  have hck:(Builtin.ssaWrapNilChk_ #[t] t #[.pointer (some ad),strVal "",strVal name]).run P w= .ok (.pointer (some ad)) w:=rfl
  have hgt:(Place.get t (.val (.pointer (some ad)))).run P w= .ok (.pointer (some ad)) w:=rfl
  have had:(asAddr (.pointer (some ad))).run P w= .ok ad w:=rfl
  simp only [receiverAt,Sem.run_bind,qm hu,Result.andThen_ok,hgt,hck,had,hx']
 ·rename_i d hne hu;split at h<;>try (cases h;done)
  rename_i hd;cases h
  refine⟨v',hv,?_⟩
  simp only [receiverAt,Sem.run_bind,qm hu,Result.andThen_ok]
  cases d<;>first|exact absurd rfl (hd _)|rfl
 ·cases h
theorem qdf{c:Call}{rcv:Operand}{name:String}{ρ:Operand->qa}{r:zG}(ho:o.op= .call c)(hc:c.callee= .invoke rcv name)
  (h:Zk P rcv name c.args ρ H nx=some r):zE P o ρ H nx r:=by
 unfold Zk at h;split at h<;>try (cases h;done)
 rename_i t v hx;split at h<;>try (cases h;done)
 rename_i f byPtr hm;split at h<;>try (cases h;done)
 rename_i u hb hu;cases h
 unfold qb2 at hm;split at hm<;>try (cases hm;done)
 rename_i i hi;split at hm<;>try (cases hm;done)
 rename_i m hf;split at hm<;>try (cases hm;done)
 rename_i p hp hfun;cases hm
 intro σ w ρ' hr hd;have dx:=hd rcv
 rw [hx]at dx;cases e:ρ' rcv<;>rw [e]at dx<;>cases dx
 rename_i v' dv;obtain⟨u',du,hrun⟩:=ql8 (P:=P) (name:=(name.splitOn ".").getLastD name) hr dv hu
 refine⟨u'::c.args.toList.map ρ',.cons du (ws hd _),?_⟩
 have hpath:m.path.toList=[]:=by
  have:m.path=#[]:=by simpa using hp
  rw [this]
 have hmeth:∀n,(method (n+1) t v' name).run P w= .ok (f,u') w:=by
  intro n;unfold method;simp only [Sem.run_bind,zQ hi,Result.andThen_ok,hf,hpath,follow,Sem.run_pure,hfun,hp,if_true,hrun]
 have hfuel:∃n,P.types.size+Made.depth=n+1:=⟨P.types.size+Made.depth - 1,by
  have:0<Made.depth:=by decide
  omega⟩
 obtain⟨n,hn⟩:=hfuel
 have hcm:(callMethod (.iface t v') name (c.args.map ρ')).run P w= .ok (.enter f (#[u']++c.args.map ρ')) w:=by
  simp only [callMethod,Sem.run_bind,program,Sem.run,Result.andThen_ok,hn,hmeth,QG hb]
 have hex:((#[Value.iface t v']++c.args.map ρ').extract 1 (#[Value.iface t v']++c.args.map ρ').size)=c.args.map ρ':=by
  apply Array.ext'
  simp
  rw [List.take_of_length_le (by simp)]
 simp only [execOp,ho,resolve,hc,e,Sem.run_bind,Sem.run_pure,Result.andThen_ok,invoke]
 have hg:(#[Value.iface t v']++c.args.map ρ')[0]?=some (.iface t v'):=by rw [Array.getElem?_append_left (by simp)];rfl
 simp only [hg,hex,hcm]
 congr 2
 simp
end
end Go.Vs
end
section
namespace Go.Vs
variable [GTab]
noncomputable section
def js(P:Program)(c:Call)(ρ:Operand->qa)(H:qc)(nx:Nat):Option zG:=
 match c.callee with
 | .value f=>Kj P f c.args ρ H nx
 | .builtin .append=>match c.argTypes.toList,c.args.toList with
  |[sT,xT],[s,x]=>match P.underlying sT,P.underlying xT with
   |some (.slice elem),some d=>match qhy d,P.info? elem with
    |true,some e=>match jN e.size H (ρ x)with
     |some (_,l)=>match qt l with
      |true=>yF P elem H nx (ρ s) (λsize=>jN size H (ρ x))
      |false=>none
     |none=>none
    |false,some e=>match qsd d,Jq P elem e.size (ρ x)with
     |true,some (_,l)=>match qt l with
      |true=>yF P elem H nx (ρ s) (λsize=>Jq P elem size (ρ x))
      |false=>none
     |_,_=>none
    |_,_=>none
   |_,_=>none
  |_,_=>none
 | .builtin .copy=>K5 P c.argTypes c.args ρ H nx
 | .builtin b=>zL P b c.argTypes c.args ρ H nx
 | .invoke r name=>Zk P r name c.args ρ H nx
def qat(_ρ:Operand->qa)(_H:qc)(_nx:Nat):Option zG:=none
def kR(P:Program)(op:Op)(ρ:Operand->qa)(H:qc)(nx:Nat):Option zG:=
 match made P op ρ with
 |some m=>qa5 m H nx
 |none=>none
def QY(P:Program)(c:Call)(ρ:Operand->qa)(H:qc)(nx:Nat):Option zG:=
 match c.callee with
 | .value f=>JO P f c.args ρ H nx
 |_=>none
def aop(P:Program)(o:Oper):(Operand->qa)->qc->Nat->Option zG:=
 match o.op with
 | .move x=>Qw x
 | .assign x=>Qw x
 | .pick c a b=>Q6 c a b
 | .load t a=>Vf P t a
 | .store t a x=>wR P t a x
 | .nilCheck x=>kO x
 | .binOp op t x y _=>yi P op t x y
 | .unOp op _ x=>qdo op x
 | .convert s d x=>yQ P s d x
 | .makeInterface t x=>jr P t x
 | .makeFunc fn a b=>yk fn a b
 | .slice t x lo hi mx=>yD P t x lo hi mx
 | .fieldAddr s x f=>kr P s x f
 | .field t x f=>Qz P t x f
 | .indexAddr t x i=>jK P t x i
 | .index t x i=>wN P t x i
 | .typeAssert x _ a ok=>wC P x a ok
 | .extract t i=>v3 t i
 | .build t ps=>Qu P t ps
 | .alloc t=>kR P (.alloc t)
 | .box t x=>kR P (.box t x)
 | .buildSlice t n ps=>kR P (.buildSlice t n ps)
 | .makeSlice t l c=>kR P (.makeSlice t l c)
 | .call c=>js P c
 | .defer c=>QY P c
 | .panic x=>J3 x
 |_=>qat
abbrev Env:=Nat->qa
def get2(t:Nat)(env:Env):qa:=env t
def Zq(t:Nat)(v:qa)(env:Env):Env:=λs=>Bool.rec (env s) v (Nat.beq s t)
def qeo(v:qa):Env:=λ_=>v
theorem qo4(n:Nat)(v:qa):get2 n (qeo v)=v:=rfl
theorem QZ(n:Nat)(v:qa)(t:Env):get2 n (Zq n v t)=v:=by
 show(Bool.rec (t n) v (Nat.beq n n):qa)=v
 rw [Nat.beq_refl]
theorem qa8(n m:Nat)(v:qa)(t:Env)(h:n % 4096≠m % 4096):get2 m (Zq n v t)=get2 m t:=by
 show(Bool.rec (t m) v (Nat.beq m n):qa)=t m
 cases e:Nat.beq m n with
 |false=>rfl
 |true=>have:=Nat.eq_of_beq_eq_true e;subst this;exact(h rfl).elim
def aev(env:Env)(x:Operand):qa:=
 Operand.rec (motive:=λ_=>Env->qa) (λt env=>Bool.rec .und (get2 t env) (Nat.ble t 4095)) (λv _=>qcg v) (λg _=> .gptr g 0) (λf _=> .func (.func f) [] []) x env
def put(d:Option Nat)(v:qa)(env:Env):Env:=Option.rec (motive:=λ_=>qa->Env->Env) (λ_ env=>env) (λd v env=>Zq d v env) d v env
def Qp(nt:Nat)(d:Option Nat):Bool:=Option.rec (motive:=λ_=>Bool) true (λd=>Nat.ble (Nat.succ d) nt) d
inductive qw where
 |returning
 |panicking (l:List (qa×Bool))
inductive qhb where
 |normal
 |exit (id:Nat)
 |ret
 |pan (l:List (qa×Bool))
inductive qg where
 |ret (v:qa)
 |pan (l:List (qa×Bool))
abbrev Dfs:=List (FuncId×List qa)
abbrev qj5:=qhb->Env->qc->Nat->Dfs->Option qw->Bool
abbrev qvb:=qg->qc->Nat->Bool
abbrev Za:=FuncId->List qa->qc->Nat->qvb->Bool
def jd(ops:Array Oper)(g:Option (Nat×Bool))(env:Env):Option Bool:=
 match g with
 |none=>some true
 |some (j,want)=>match(ops[j]?).bind (·.dst)with
  |some t=>match Nat.ble t 4095 with
   |true=>match get2 t env with
    | .bool b=>some (Bool.rec (VC want) want b)
    | .tuple []=>some false
    |_=>none
   |false=>none
  |none=>some false
def qvy(call:Za)(d:Option Nat)(r:zG)(env:Env)(H:qc)(nx:Nat)(dfs:Dfs)(rc:Option qw)(k:Env->qc->Nat->Dfs->Option qw->Bool)(K:qj5):Bool:=
 match r with
 | .val v H' nx'=>k (put d v env) H' nx' dfs rc
 | .call f args=>call f args H nx λe H' nx'=>match e with
  | .ret v=>k (put d v env) H' nx' dfs rc
  | .pan l=>K (.pan l) env H' nx' dfs rc
 | .dfr f args=>k (put d (.tuple []) env) H nx ((f,args)::dfs) rc
 | .pan v=>K (.pan [(v,false)]) env H nx dfs rc
 | .rcv=>match rc with
  |some (.panicking ((v,false)::older))=>k (put d v env) H nx dfs (some (.panicking ((v,true)::older)))
  |some .returning=>k (put d .nilIface env) H nx dfs rc
  |_=>false
 | .any _=>false
def cls:Op->Nat
 | .alloc _| .box _ _| .buildSlice _ _ _| .makeSlice _ _ _=>1
 | .store _ _ _| .defer _| .panic _| .mapUpdate _ _ _ _| .insert _ _ _ _| .mapEntry _ _ _| .entryStore _ _ _ _| .next _ _| .go _| .send _ _| .recv _ _ _| .select _ _| .ready _| .range _ _| .makeMap _ _| .makeChan _ _=>2
 | .call c=>match c.callee with
  | .builtin .len| .builtin .max| .builtin .min=>0
  |_=>2
 |_=>0
def QL:Op->Bool
 | .load _ _| .slice _ _ _ _ _| .convert _ _ _| .lookup _ _ _ _=>true
 |_=>false
def yJ(as:List Nat)(es:List Edge):Nat:=
 List.rec (motive:=λ_=>Nat) 0 (λe _ ih=>Bool.rec ih (Nat.lor (Nat.lor (Nat.shiftLeft 1 e.on) (as.getD e.on 0)) ih) (Region.binds .any e)) es
def qno:List Oper->List Nat->List Nat
 |[],acc=>acc
 |o::l,acc=>qno l (acc++[yJ acc o.after.toList])
def ahead(ops:Array Oper):List Nat:=qno ops.toList []
def qjk(l:List Oper)(i:Nat):List Nat:=
 match l with
 |[]=>[]
 |o::l=>match Nat.beq (cls o.op) 2 with
  |true=>i::qjk l (i+1)
  |false=>qjk l (i+1)
def bit(m j:Nat):Bool:=Nat.beq (Nat.mod (Nat.shiftRight m j) 2) 1
def qs9(m:Nat)(es:List Nat):Nat:=List.rec (motive:=λ_=>Nat) 0 (λe _ ih=>Bool.rec ih (Nat.succ ih) (bit m e)) es
def WQ(l:List Oper)(as:List Nat)(es:List Nat)(k i:Nat):List Nat:=
 match l,as with
 |o::l,m::as=>match Nat.beq (cls o.op) 2,Nat.beq (qs9 m es) k with
  |false,true=>i::WQ l as es k (i+1)
  |_,_=>WQ l as es k (i+1)
 |_,_=>[]
def Jb(l:List Oper)(as:List Nat)(es:List Nat)(k me i:Nat):List Nat:=
 match l,as with
 |o::l,m::as=>match QL o.op,Nat.ble (qs9 m es) k,bit me i with
  |true,true,false=>i::Jb l as es k me (i+1)
  |_,_,_=>Jb l as es k me (i+1)
 |_,_=>[]
def qew(l:List Oper)(as:List Nat)(all es:List Nat)(k:Nat):List (Nat×List Nat×List Nat):=
 match es with
 |[]=>[]
 |e::es=>(e,WQ l as all k 0,Jb l as all k (as.getD e 0) 0)::qew l as all es (k+1)
def y7(ops:Array Oper)(o:Oper):List Nat:=
 (o.op.operands.toList.filterMap λ| .tmp t=>some t|_=>none)++(match o.guard with|some (g,_)=>((ops[g]?).bind (·.dst)).toList|none=>[])
def yg(l:List Oper)(t i:Nat):List Nat:=
 match l with
 |[]=>[]
 |o::l=>match o.dst with
  |some d=>match Nat.beq d t with
   |true=>i::yg l t (i+1)
   |false=>yg l t (i+1)
  |none=>yg l t (i+1)
def yt{α:Type}(p:α->Bool)(l:List α):Bool:=List.rec (motive:=λ_=>Bool) true (λx _ ih=>Bool.rec false ih (p x)) l
def qqs(nt:Nat)(ops:Array Oper)(l:List Oper)(as:List Nat)(i:Nat)(o:Oper):Bool:=
 match Qp nt o.dst,Nat.beq (as.getD i 0) (yJ as o.after.toList)with
 |true,true=>match yt (λe=>Bool.rec true (Nat.ble (Nat.succ e.on) i) (Region.binds .any e)) o.after.toList,yt (λt=>yt (λj=>bit (as.getD i 0) j) (yg l t 0)) (y7 ops o)with
  |true,true=>match(match o.dst with|some t=>yt (λj=>Nat.beq j i) (yg l t 0)|none=>true)with
   |true=>match o.guard with
    |some (g,_)=>match(ops[g]?).bind (·.dst)with
     |some _=>true
     |none=>false
    |none=>true
   |_=>false
  |_,_=>false
 |_,_=>false
def Xl(nt:Nat)(ops:Array Oper)(l:List Oper)(as:List Nat):List Oper->Nat->Bool
 |[],_=>true
 |o::r,i=>match qqs nt ops l as i o with
  |true=>Xl nt ops l as r (i+1)
  |false=>false
def qoi(i:Nat)(l:List Nat):Bool:=List.rec (motive:=λ_=>Bool) false (λj _ ih=>Bool.rec ih true (Nat.beq j i)) l
def JS(ops:Array Oper)(past:List Nat)(i:Nat)(o:Oper):Bool:=
 yt (λp=>match Nat.beq p i with
  |true=>false
  |false=>match o.dst,ops[p]? with
   |some d,some q=>yt (λt=>VC (Nat.beq t d)) (y7 ops q)
   |none,some _=>true
   |_,none=>false) past
def JC(ops:Array Oper):List Nat->List Nat->Option (List Nat)
 |[],past=>some past
 |i::l,past=>match ops[i]? with
  |some o=>match Nat.beq (cls o.op) 2,JS ops past i o with
   |false,true=>JC ops l (i::past)
   |_,_=>none
  |none=>none
def qlm(ops:Array Oper)(m:Nat)(A past:List Nat):Bool:=
 yt (λi=>match ops[i]? with
  |some o=>match QL o.op with
   |true=>match qoi i A with
    |true=>true
    |false=>bit m i
   |false=>true
  |none=>false) past
def JN(ops:Array Oper)(as:List Nat):List (Nat×List Nat×List Nat)->Option Nat->List Nat->Bool
 |[],_,_=>true
 |(e,F,A)::rest,prev,past=>match ops[e]?,(match prev with|some p=>bit (as.getD e 0) p|none=>true)with
  |some o,true=>match JS ops past e o,yt (λi=>bit (as.getD i 0) e) F with
   |true,true=>match JC ops F past with
    |some past'=>match qlm ops (as.getD e 0) A past' with
     |true=>JN ops as rest (some e) past'
     |false=>false
    |none=>false
   |_,_=>false
  |_,_=>false
def named(st:List (Nat×List Nat×List Nat)):List Nat:=
 match st with
 |[]=>[]
 |(e,F,_)::rest=>e::(F++named rest)
def qh1(ops:Array Oper):List Nat:=WQ ops.toList (ahead ops) (qjk ops.toList 0) 0 0
def qgi(ops:Array Oper):List Nat:=Jb ops.toList (ahead ops) (qjk ops.toList 0) 0 0 0
def qdu(ops:Array Oper):List (Nat×List Nat×List Nat):=qew ops.toList (ahead ops) (qjk ops.toList 0) (qjk ops.toList 0) 1
def qg7(nt:Nat)(ops:Array Oper):Bool:=
 match Nat.ble nt 4096,Xl nt ops ops.toList (ahead ops) ops.toList 0,JC ops (qh1 ops) []with
 |true,true,some past=>match qlm ops 0 (qgi ops) past,JN ops (ahead ops) (qdu ops) none past,yt (λi=>qoi i (qh1 ops++named (qdu ops))) (List.range ops.size)with
  |true,true,true=>true
  |_,_,_=>false
 |_,_,_=>false
def quh:Nat->qa->qa->Bool
 |0,_,_=>false
 |n+1,a,b=>
  let qnd:List qa->List qa->Bool:=λl m=>List.rec (motive:=λ_=>List qa->Bool) (λm=>List.rec (motive:=λ_=>Bool) true (λ_ _ _=>false) m)
   (λa _ ih m=>List.rec (motive:=λ_=>Bool) false (λb t _=>Bool.rec false (ih t) (quh n a b)) m) l m
  match a,b with
  | .und,.und=>true
  | .bool x,.bool y=>Bool.rec (VC y) y x
  | .int k x,.int j y=>match decide (k=j)with|true=>ieq x y|false=>false
  | .str x,.str y=>x==y
  | .ptr x y,.ptr z w=>match Nat.beq x z with|true=>Nat.beq y w|false=>false
  | .nilPtr,.nilPtr=>true
  | .slice x y z u f,.slice x' y' z' u' f'=>match Nat.beq x x',Nat.beq y y',Nat.beq z z',Nat.beq u u',(Bool.rec (VC f') f' f:Bool)with
   |true,true,true,true,true=>true
   |_,_,_,_,_=>false
  | .nilSlice,.nilSlice=>true
  | .map x,.map y=>Nat.beq x y
  | .nilMap,.nilMap=>true
  | .func (.func f) l m,.func (.func g) l' m'=>match Nat.beq f g,qnd l l' with|true,true=>qnd m m'|_,_=>false
  | .nilFunc,.nilFunc=>true
  | .iface t v,.iface u w=>match Nat.beq t u with|true=>quh n v w|false=>false
  | .nilIface,.nilIface=>true
  | .agg l,.agg m=>qnd l m
  | .tuple l,.tuple m=>qnd l m
  | .gptr x y,.gptr z w=>match Nat.beq x z with|true=>Nat.beq y w|false=>false
  |_,_=>false
def yL(P:Program)(ops:Array Oper)(res:Nat)(o:Oper)(i:Nat)(env:Env)(H:qc)(nx:Nat)(k:Env->qc->Bool):Bool:=
 match jd ops o.guard env with
 |some true=>match Nat.beq (cls o.op) 1 with
  |true=>match made P o.op (aev env)with
   |some m=>match Nat.ble m.n 9223372036854775807 with
    |true=>kH (Nat.add res i) λb=>k (put o.dst (m.v b) env) (zS b (some (.cells m.n (CT.ofL m.n m.l) [] false)) H)
    |false=>false
   |none=>false
  |false=>match aop P o (aev env) H nx with
   |some (.val v _ _)=>k (put o.dst v env) H
   |_=>false
 |some false=>k (put o.dst (.tuple []) env) H
 |none=>false
def yG(P:Program)(ops:Array Oper)(res:Nat)(nx:Nat)(k:Env->qc->Bool)(l:List Nat):Env->qc->Bool:=
 List.rec (motive:=λ_=>Env->qc->Bool) k (λi _ ih env H=>match ops[i]? with
  |some o=>yL P ops res o i env H nx ih
  |none=>false) l
def KU(P:Program)(ops:Array Oper)(env:Env)(H:qc)(nx:Nat)(o:Oper):Bool:=
 match jd ops o.guard env with
 |some true=>match aop P o (aev env) H nx with
  |some (.val v _ _)=>match o.dst with
   |some d=> @decide (v=get2 d env) (Classical.propDecidable _)
   |none=>true
  |_=>false
 |some false=>match o.dst with
  |some d=>match get2 d env with
   | .tuple []=>true
   |_=>false
  |none=>true
 |none=>false
def wF(P:Program)(ops:Array Oper)(env:Env)(H:qc)(nx:Nat)(l:List Nat):Bool:=
 yt (λi=>match ops[i]? with
  |some o=>KU P ops env H nx o
  |none=>false) l
def qa0(P:Program)(call:Za)(ops:Array Oper)(o:Oper)(env:Env)(H:qc)(nx:Nat)(dfs:Dfs)(rc:Option qw)(k:Env->qc->Nat->Bool)(K:qj5)(env0:Env):Bool:=
 match jd ops o.guard env with
 |some true=>match aop P o (aev env) H nx with
  |some (.val v H' nx')=>k (put o.dst v env) H' nx'
  |some (.call f args)=>call f args H nx λe H' nx'=>match e with
   | .ret v=>k (put o.dst v env) H' nx'
   | .pan l=>K (.pan l) env0 H' nx' dfs rc
  |some (.pan v)=>K (.pan [(v,false)]) env0 H nx dfs rc
  |_=>false
 |some false=>k (put o.dst (.tuple []) env) H nx
 |none=>false
def Zh(l:List Oper)(env:Env):Env:=List.rec (motive:=λ_=>Env->Env) (λenv=>env) (λo _ ih env=>ih (put o.dst .und env)) l env
def yh(args:List qa):Nat->Env->Env:=List.rec (motive:=λ_=>Nat->Env->Env) (λ_ env=>env) (λv _ ih i env=>ih (Nat.succ i) (Zq i v env)) args
def km(P:Program)(env:Env)(H:qc):List ResultVar->Option (List qa)
 |[]=>some []
 | .tmp t::l=>match Nat.ble t 4095,km P env H l with
  |true,some vs=>some (get2 t env::vs)
  |_,_=>none
 | .cell a t::l=>match Nat.ble a 4095,km P env H l with
  |true,some vs=>match Jd P t H (get2 a env)with
   |some v=>some (v::vs)
   |none=>none
  |_,_=>none
def yr(vs:List qa):qa:=match vs with
 |[v]=>v
 |vs=> .tuple vs
def VQ:qw->qw
 | .panicking ((_,true)::_)=> .returning
 |m=>m
def VX(m:qw)(l:List (qa×Bool)):qw:=match m with
 | .panicking old=> .panicking (l++old)
 | .returning=> .panicking l
end
end Go.Vs
end
section
namespace Go.Vs
variable [GTab] {P:Program} {H:qc} {nx:Nat} {ops:Array Oper} {o:Oper} {nt:Nat} {env:Env}
set_option maxHeartbeats 2000000 in
theorem qip{c:Call}{ρ:Operand->qa}{r:zG}(ho:o.op= .call c)(h:js P c ρ H nx=some r):zE P o ρ H nx r:=by
 unfold js at h;split at h<;>try (cases h;done)
 ·exact qeg ho ‹_› h
 ·rename_i hc;split at h<;>try (cases h;done)
  rename_i sT xT s x hT hA;split at h<;>try (cases h;done)
  rename_i elem d hu hx;split at h<;>try (cases h;done)
  ·rename_i e hd he;split at h<;>try (cases h;done)
   rename_i n l hsrc;split at h<;>try (cases h;done)
   rename_i hall;have e1:c.argTypes=#[sT,xT]:=by apply Array.ext';rw [hT]
   have e2:c.args=#[s,x]:=by apply Array.ext';rw [hA]
   obtain⟨v,H',nx',rfl⟩:=Vw h
   intro σ w ρ' hr hdn;obtain⟨σ',w',v',R,E,D,hrun⟩:=Wu (P:=P) (u:=o.type) hr (hdn s) (sT:=sT) (xT:=xT) (x':=ρ' x) (λn' l' e' z' he' hz' _ hs'=>by
    rw [he]at he';cases he'
    obtain⟨hll,l1,hl1,hlen,hfc⟩:=qhp (P:=P) hr (hdn x) hs'
    obtain⟨_,l2,hl2,_,hfc2⟩:=qhp (P:=P) hr.drew (hdn x) hs'
    have hq:l'=l:=by rw [hsrc]at hs';cases hs';rfl
    exact⟨hll,by rw [hq];exact hall,⟨l1,hl1,qln hu hx hd he hlen hfc⟩,l2,hl2,qn5 hu hx hd he hz' hlen hfc2⟩) h
   refine⟨σ',w',v',R,E,D,.inl ?_⟩
   simp [execOp,ho,resolve,hc,invoke,builtin,e1,e2,hrun]
  ·rename_i e hd he;split at h<;>try (cases h;done)
   rename_i n l hi hsrc;split at h<;>try (cases h;done)
   rename_i hall;have e1:c.argTypes=#[sT,xT]:=by apply Array.ext';rw [hT]
   have e2:c.args=#[s,x]:=by apply Array.ext';rw [hA]
   obtain⟨k,rfl⟩:∃k,d= .int k:=by cases d<;>first|exact⟨_,rfl⟩|cases hi
   obtain⟨v,H',nx',rfl⟩:=Vw h
   intro σ w ρ' hr hdn;obtain⟨σ',w',v',R,E,D,hrun⟩:=Wu (P:=P) (u:=o.type) hr (hdn s) (sT:=sT) (xT:=xT) (x':=ρ' x) (λn' l' e' z' he' hz' hzs' hs'=>by
    rw [he]at he';cases he'
    have hq:l'=l:=by rw [hsrc]at hs';cases hs';rfl
    obtain⟨m,hm,rfl,hle,hden,hll⟩:=qjt (σ:=σ) he hz' hs'
    have hdx:=hdn x
    rw [hm]at hdx;have ex:∀y,Den σ (.int .i64 (.ofNat m)) y->y= .int .i64 (m:Int):=λy hy=>by cases hy;rfl
    rw [ex _ hdx];exact⟨hll,by rw [hq];exact hall,⟨_,hden,qeh hu hx he hz' hzs' hle⟩,_,hden,qga hu hx he hz' hzs' hle⟩) h
   refine⟨σ',w',v',R,E,D,.inl ?_⟩
   simp [execOp,ho,resolve,hc,invoke,builtin,e1,e2,hrun]
 ·exact qiv ho ‹_› h
 ·exact XJ ho ‹_› h
 ·exact qdf ho ‹_› h
theorem yE{ρ:Operand->qa}{r:zG}(h:kR P o.op ρ H nx=some r):zE P o ρ H nx r:=by
 unfold kR at h;split at h<;>try (cases h;done)
 exact qk3 (qhd ‹_›) h
theorem K9{ρ:Operand->qa}{r:zG}(h:aop P o ρ H nx=some r):zE P o ρ H nx r:=by
 unfold aop at h;cases hop:o.op<;>rw [hop]at h
 case move=>exact YF (.inl hop) h
 case assign=>exact YF (.inr hop) h
 case pick=>exact qjy hop h
 case load=>exact qif hop h
 case store=>exact qg1 hop h
 case nilCheck=>exact XG hop h
 case binOp=>exact qlb hop h
 case unOp=>exact qrr hop h
 case convert=>exact qjd hop h
 case makeInterface=>exact JF hop h
 case makeFunc=>exact XA hop h
 case slice=>exact qf9 hop h
 case fieldAddr=>exact Wj hop h
 case field=>exact qf3 hop h
 case indexAddr=>exact Xa hop h
 case index=>exact qer hop h
 case typeAssert=>exact qbb hop h
 case extract=>exact qae hop h
 case build=>exact qgh hop h
 case alloc=>exact yE (by rw [hop];exact h)
 case box=>exact yE (by rw [hop];exact h)
 case buildSlice=>exact yE (by rw [hop];exact h)
 case makeSlice=>exact yE (by rw [hop];exact h)
 case call=>exact qip hop h
 case defer c=>
  have h':QY P c ρ H nx=some r:=h
  unfold QY at h';split at h'<;>first|(cases h';done)|skip
  exact qg8 hop ‹_› h'
 case panic=>exact qf6 hop h
 all_goals (have h':qat ρ H nx=some r:=h;cases h')
structure kQ(σ:Sg)(nt:Nat)(env:Env)(tmps:Array Value):Prop where
 size:tmps.size=nt
 le:nt<=4096
 den:∀t,t<4096->Den σ (get2 t env) (tmps.getD t undef)
theorem kQ.mono{σ σ':Sg}{tmps:Array Value}(hs:∀b p,σ b=some p->σ' b=some p)(h:kQ σ nt env tmps):kQ σ' nt env tmps:=
 ⟨h.size,h.le,λt ht=>(h.den t ht).mono hs⟩
theorem kQ.aev{σ:Sg}{a:Act}(h:kQ σ nt env a.tmps)(x:Operand):Den σ (aev env x) (a.eval x):=by
 cases x with
 |tmp t=>
  show Den σ (Bool.rec .und (get2 t env) (Nat.ble t 4095)) (a.tmps.getD t undef)
  cases hb:Nat.ble t 4095 with
  |false=>exact .und _
  |true=>exact h.den t (by have:=Nat.le_of_ble_eq_true hb;omega)
 |const v=>exact X0 σ v
 |global g=>exact .gptr g 0
 |func f=>exact .func .nil .nil
theorem Zi{d:Nat}{v:qa}{t:Nat}(hd:d<4096)(ht:t<4096):get2 t (Zq d v env)=if d=t then v else get2 t env:=by
 by_cases h:d=t
 ·subst h;rw [if_pos rfl,QZ]
 ·rw [if_neg h,qa8];rw [Nat.mod_eq_of_lt hd,Nat.mod_eq_of_lt ht];exact h
theorem Zw(tmps:Array Value)(d t:Nat)(v:Value)(h:d<tmps.size):(tmps.setIfInBounds d v).getD t undef=if d=t then v else tmps.getD t undef:=by
 by_cases e:d=t
 ·subst e;rw [if_pos rfl];simp [h]
 ·rw [if_neg e];simp [Array.getElem?_setIfInBounds_ne e]
theorem kQ.put{σ:Sg}{a:Act}{d:Option Nat}{v:qa}{v':Value}(h:kQ σ nt env a.tmps)(hd:Qp nt d=true)(hv:Den σ v v'):kQ σ nt (put d v env) (a.put d v').tmps:=by
 cases d with
 |none=>exact h
 |some d=>
  have hlt:d<nt:=Nat.le_of_ble_eq_true hd
  have hle:=h.le
  have hsz:=h.size
  refine⟨?_,h.le,λt ht=> ?_⟩
  ·show(a.tmps.setIfInBounds d v').size=nt
   rw [Array.size_setIfInBounds];exact h.size
  ·show Den σ (get2 t (Zq d v env)) ((a.tmps.setIfInBounds d v').getD t undef)
   rw [Zi (by omega) ht,Zw _ _ _ _ (by omega)]
   by_cases e:d=t
   ·rw [if_pos e,if_pos e];exact hv
   ·rw [if_neg e,if_neg e];exact h.den t ht
inductive w5(σ:Sg):Dfs->List Deferred->Prop
 |nil:w5 σ [] []
 |cons {f:FuncId} {args:List qa} {d:Deferred} {l:Dfs} {l':List Deferred} (h:qkr σ f args d) (t:w5 σ l l'):w5 σ ((f,args)::l) (d::l')
theorem qkr.mono{σ σ':Sg}{f:FuncId}{args:List qa}{d:Deferred}(hs:∀b p,σ b=some p->σ' b=some p)(h:qkr σ f args d):qkr σ' f args d:=by
 obtain⟨cap,h1,h2⟩:=h
 exact⟨cap,h1,h2.mono hs⟩
theorem w5.mono{σ σ':Sg}(hs:∀b p,σ b=some p->σ' b=some p):∀{l:Dfs} {l':List Deferred},w5 σ l l'->w5 σ' l l'
 |_,_,.nil=> .nil
 |_,_,.cons h t=> .cons (h.mono hs) (w5.mono hs t)
structure kT(σ:Sg)(nt:Nat)(env:Env)(dfs:Dfs)(a:Act):Prop where
 env:kQ σ nt env a.tmps
 dfs:w5 σ dfs a.defers
theorem kT.mono{σ σ':Sg}{dfs:Dfs}{a:Act}(hs:∀b p,σ b=some p->σ' b=some p)(h:kT σ nt env dfs a):kT σ' nt env dfs a:=⟨h.env.mono hs,h.dfs.mono hs⟩
theorem kT.put{σ:Sg}{dfs:Dfs}{a:Act}{d:Option Nat}{v:qa}{v':Value}(h:kT σ nt env dfs a)(hd:Qp nt d=true)(hv:Den σ v v'):kT σ nt (put d v env) dfs (a.put d v'):=
 ⟨h.env.put hd hv,by cases d<;>exact h.dfs⟩
inductive kA(σ:Sg):List (qa×Bool)->List PanicEntry->Prop
 |nil:kA σ [] []
 |cons {v:qa} {r:Bool} {p:PanicEntry} {l:List (qa×Bool)} {l':List PanicEntry} (hv:Den σ v p.v) (hr:p.recovered=r) (hg:p.goexit=false) (t:kA σ l l'):kA σ ((v,r)::l) (p::l')
theorem kA.mono{σ σ':Sg}(hs:∀b p,σ b=some p->σ' b=some p):∀{l:List (qa×Bool)} {l':List PanicEntry},kA σ l l'->kA σ' l l'
 |_,_,.nil=> .nil
 |_,_,.cons hv hr hg t=> .cons (hv.mono hs) hr hg (kA.mono hs t)
theorem kA.append{σ:Sg}:∀{l:List (qa×Bool)} {l':List PanicEntry} {m:List (qa×Bool)} {m':List PanicEntry},kA σ l l'->kA σ m m'->kA σ (l++m) (l'++m')
 |_,_,_,_,.nil,h=>h
 |_,_,_,_,.cons hv hr hg t,h=> .cons hv hr hg (kA.append t h)
def qck(σ:Sg):qhb->Exit->Prop
 | .normal,.normal=>True
 | .exit i,.exit j=>i=j
 | .ret,.ret=>True
 | .pan l,.panic c=>kA σ l c
 |_,_=>False
def qb8(σ:Sg):qg->Ending->Prop
 | .ret v,.returned v'=>Den σ v v'
 | .pan l,.panicked c=>kA σ l c
 |_,_=>False
def QX(σ:Sg):qw->FrameMode->Prop
 | .returning,.returning=>True
 | .panicking l,.panicking c=>kA σ l c
 |_,_=>False
theorem QX.mono{σ σ':Sg}{m:qw}{u:FrameMode}(hs:∀b p,σ b=some p->σ' b=some p)(h:QX σ m u):QX σ' m u:=by
 cases m<;>cases u<;>first|exact h|exact kA.mono hs h
theorem vk{σ:Sg}{a:Act}{b:Bool}(h:jd ops o.guard env=some b)(he:kQ σ nt env a.tmps):Region.wanted o (yielded ops a.tmps)=b:=by
 unfold jd at h;unfold Region.wanted;split at h
 ·rename_i hg;cases h;rw [hg]
 ·rename_i j want hg;rw [hg];split at h
  ·rename_i t ht;split at h<;>try (cases h;done)
   rename_i hle;have hlt:t<4096:=Nat.lt_of_le_of_lt (Nat.le_of_ble_eq_true hle) (by decide)
   have hd:=he.den t hlt
   have hy:yielded ops a.tmps j=match a.tmps[t]? with|some (.bool b)=>some b|_=>none:=by
    unfold yielded;rw [ht];rfl
   split at h<;>try (cases h;done)
   ·rename_i x hx;cases h
    rw [hx]at hd;have hg2:a.tmps[t]?=some (.bool x):=by
     cases hq:a.tmps[t]? with
     |none=>simp [hq]at hd;cases hd
     |some v=>simp [hq]at hd;cases hd;rfl
    simp only [hy,hg2]
    cases x<;>cases want<;>rfl
   ·rename_i hx;cases h
    rw [hx]at hd;have hn:yielded ops a.tmps j=none:=by
     rw [hy];cases hq:a.tmps[t]? with
     |none=>rfl
     |some v=>
      simp [hq]at hd
      cases hd
      rfl
    simp [hn]
  ·rename_i ht;cases h
   have hn:yielded ops a.tmps j=none:=by unfold yielded;rw [ht];rfl
   simp [hn]
def qts(P:Program)(o:Oper)(a:Act)(w:World):Prop:=∀w',(execOp a.eval o).run P w≠ .ok .recover w'
theorem qli{Q:Exit->Act->World->Prop}{l:List Oper}{a:Act}{w:World}(h:Region.wanted o (yielded ops a.tmps)=false)(hn:wpList P ops Q l (a.put o.dst undef) w):
  wpList P ops Q (o::l) a w:=by
 unfold wpList;rw [if_neg (by rw [h];simp)]
 exact hn
end Go.Vs
end
section
namespace Go.Vs
variable [GTab] {P:Program} {H:qc} {nx:Nat} {o:Oper}
theorem Zr{place:Nat->Option (Nat×Nat)}{ρ ρ2:Operand->qa}:∀(l:List (Nat×Operand)) (cells:List qa),(∀x,x∈l.map (·.2)->ρ x=ρ2 x)->QS place ρ cells l=QS place ρ2 cells l
 |[],_,_=>rfl
 |(i,x)::rest,cells,h=>by
  have h1:ρ x=ρ2 x:=h x (by simp)
  have h2:=λc=>Zr (place:=place) rest c (λy hy=>h y (by simp at hy ⊢;exact .inr hy))
  simp only [QS,h1,h2]
theorem v9{ρ ρ2:Operand->qa}{l:List Operand}(h:∀x,x∈l->ρ x=ρ2 x):l.map ρ=l.map ρ2:=List.map_congr_left h
theorem YL{ρ ρ2:Operand->qa}{d:Nat}{x:Option Operand}(h:∀y,x=some y->ρ y=ρ2 y):bnd d x ρ=bnd d x ρ2:=by
 cases x with
 |none=>rfl
 |some y=>unfold bnd;simp only [h y rfl]
theorem QF{op:Op}{ρ ρ2:Operand->qa}(h:∀x∈op.operands,ρ x=ρ2 x):made P op ρ=made P op ρ2:=by
 unfold made;cases op<;>simp only [Op.operands]at h<;>simp only []
 case box t x=>unfold Kc;rw [h x (by simp)]
 case buildSlice t n ps=>
  unfold vS;have:=λpl c=>Zr (place:=pl) (ρ:=ρ) (ρ2:=ρ2) ps.toList c (λx hx=>h x (by simpa using hx))
  simp only [this]
 case makeSlice t l c=>unfold ZC;rw [h l (by simp),h c (by simp)]
theorem qb9{c:Call}{ρ ρ2:Operand->qa}(h:∀x∈c.operands,ρ x=ρ2 x):js P c ρ H nx=js P c ρ2 H nx:=by
 have hargs:∀x,x∈c.args.toList->ρ x=ρ2 x:=λx hx=>h x (by simp [Call.operands];simp at hx;simp [hx])
 unfold js;cases hc:c.callee with
 |value f=>
  simp only [Kj]
  rw [h f (by simp [Call.operands,hc]),v9 hargs]
 |invoke r m=>
  simp only [Zk]
  rw [h r (by simp [Call.operands,hc]),v9 hargs]
 |builtin b=>
  have hb:zL P b c.argTypes c.args ρ H nx=zL P b c.argTypes c.args ρ2 H nx:=by
   unfold zL;split
   ·rename_i hA;rw [hargs _ (by rw [hA];simp)]
   ·rename_i x l hA;rw [hargs x (by rw [hA];simp),v9 (l:=l) λy hy=>hargs y (by rw [hA];simp [hy])]
   ·rename_i x l hA;rw [hargs x (by rw [hA];simp),v9 (l:=l) λy hy=>hargs y (by rw [hA];simp [hy])]
   ·rfl
   ·rfl
  cases b<;>simp only []<;>first|exact hb|skip
  case copy=>
   unfold K5;cases hT:c.argTypes.toList with
   |nil=>rfl
   |cons dT tl=>
    cases hA:c.args.toList with
    |nil=>rfl
    |cons d al=>
     cases al with
     |nil=>rfl
     |cons s al=>
      cases al with
      |cons _ _=>rfl
      |nil=>
       rw [hA]at hargs;simp only [hargs d (by simp),hargs s (by simp)]
  cases hT:c.argTypes.toList with
  |nil=>rfl
  |cons sT tl=>
   cases tl with
   |nil=>rfl
   |cons xT tl=>
    cases tl with
    |cons _ _=>rfl
    |nil=>
     cases hA:c.args.toList with
     |nil=>rfl
     |cons s al=>
      cases al with
      |nil=>rfl
      |cons x al=>
       cases al with
       |cons _ _=>rfl
       |nil=>
        rw [hA]at hargs;simp only [hargs s (by simp),hargs x (by simp)]
theorem wY{ρ ρ2:Operand->qa}(h:∀x∈o.op.operands,ρ x=ρ2 x):aop P o ρ H nx=aop P o ρ2 H nx:=by
 have hm:kR P o.op ρ H nx=kR P o.op ρ2 H nx:=by unfold kR;rw [QF h]
 unfold aop;cases hop:o.op<;>rw [hop]at h hm<;>simp only [Op.operands]at h<;>simp only []
 case move x=>unfold Qw;rw [h x (by simp)]
 case assign x=>unfold Qw;rw [h x (by simp)]
 case pick c a b=>unfold Q6;rw [h c (by simp),h a (by simp),h b (by simp)]
 case load t a=>unfold Vf;rw [h a (by simp)]
 case store t a x=>unfold wR;rw [h a (by simp),h x (by simp)]
 case nilCheck x=>unfold kO;rw [h x (by simp)]
 case binOp op t x y _=>unfold yi;rw [h x (by simp),h y (by simp)]
 case unOp op t x=>unfold qdo;rw [h x (by simp)]
 case convert s d x=>unfold yQ;rw [h x (by simp)]
 case makeInterface t x=>unfold jr;rw [h x (by simp)]
 case makeFunc fn a b=>unfold yk;rw [v9 (l:=a.toList) (λx hx=>h x (by simp at hx;simp [hx])),v9 (l:=b.toList) (λx hx=>h x (by simp at hx;simp [hx]))]
 case slice t x lo hi mx=>
  unfold yD;have h1:=λd=>YL (d:=d) (x:=lo) (ρ:=ρ) (ρ2:=ρ2) (λy e=>h y (by subst e;simp))
  have h2:=λd=>YL (d:=d) (x:=hi) (ρ:=ρ) (ρ2:=ρ2) (λy e=>h y (by subst e;simp))
  simp only [h x (by simp),h1,h2]
 case fieldAddr s x f=>unfold kr;rw [h x (by simp)]
 case field s x f=>unfold Qz;rw [h x (by simp)]
 case indexAddr t x i=>unfold jK;rw [h x (by simp),h i (by simp)]
 case index t x i=>unfold wN;rw [h x (by simp),h i (by simp)]
 case typeAssert x _ a ok=>unfold wC;rw [h x (by simp)]
 case extract t i=>unfold v3;rw [h t (by simp)]
 case build t ps=>
  unfold Qu Xf;have:=λpl c=>Zr (place:=pl) (ρ:=ρ) (ρ2:=ρ2) ps.toList c (λx hx=>h x (by simpa using hx))
  simp only [this]
 case alloc t=>exact hm
 case box t x=>exact hm
 case buildSlice t n ps=>exact hm
 case makeSlice t l c=>exact hm
 case call c=>exact qb9 h
 case defer c=>
  unfold QY;have hargs:∀x,x∈c.args.toList->ρ x=ρ2 x:=λx hx=>h x (by simp [Call.operands];simp at hx;simp [hx])
  cases hc:c.callee with
  |value f=>simp only [JO];rw [h f (by simp [Call.operands,hc]),v9 hargs]
  |invoke r m=>rfl
  |builtin b=>rfl
 case panic x=>unfold J3;rw [h x (by simp)]
 all_goals rfl
theorem XY{ρ:Operand->qa}{H H':qc}{nx nx':Nat}{v:qa}(hc:cls o.op=0)(h:aop P o ρ H nx=some (.val v H' nx')):H'=H/\nx'=nx:=by
 unfold aop at h;cases hop:o.op<;>rw [hop]at h hc<;>simp only []at h<;>try (cases hc;done)
 case move=>unfold Qw at h;cases h;exact⟨rfl,rfl⟩
 case assign=>unfold Qw at h;cases h;exact⟨rfl,rfl⟩
 case call c=>
  simp only [cls]at hc
  unfold js at h;cases hce:c.callee with
  |value f=>rw [hce]at hc;cases hc
  |invoke r m=>rw [hce]at hc;cases hc
  |builtin b=>
   rw [hce]at hc h;cases b<;>simp only []at hc h<;>try (cases hc;done)
   all_goals
    unfold zL at h;split at h<;>try (cases h;done)
    all_goals (repeat' (split at h))<;>first|(cases h;done)|(cases h;exact⟨rfl,rfl⟩)|(rw [zP]at h;cases h;exact⟨rfl,rfl⟩)
 all_goals first
  |(have h':qat ρ H nx=some (.val v H' nx'):=h;cases h';done)
  |(unfold Q6 at h)|(unfold Vf at h)|(unfold kO at h)|(unfold yi at h)|(unfold qdo at h)|(unfold yQ at h)|(unfold jr at h)|(unfold yk at h)|(unfold yD at h)
  |(unfold kr at h)|(unfold Qz at h)|(unfold jK at h)|(unfold wN at h)|(unfold wC at h)|(unfold v3 at h)|(unfold Qu at h)
 all_goals (repeat' (split at h))<;>first|(cases h;done)|(cases h;exact⟨rfl,rfl⟩)|(rw [qS]at h;cases h;exact⟨rfl,rfl⟩)|(rw [zP]at h;cases h;exact⟨rfl,rfl⟩)|(rw [qS,qS]at h;cases h;exact⟨rfl,rfl⟩)|skip
noncomputable def qnd(n:Nat)(l m:List qa):Bool:=
 List.rec (motive:=λ_=>List qa->Bool) (λm=>List.rec (motive:=λ_=>Bool) true (λ_ _ _=>false) m)
   (λa _ ih m=>List.rec (motive:=λ_=>Bool) false (λb t _=>Bool.rec false (ih t) (quh n a b)) m) l m
end Go.Vs
end
section
namespace Go.Vs
variable [GTab] {P:Program} {H:qc} {nx:Nat} {w:World} {ops:Array Oper} {o:Oper} {nt:Nat} {env:Env}
theorem jg{α:Type}{p:α->Bool}:∀{l:List α},yt p l=true->∀x,x∈l->p x=true
 |[],_,x,hx=>by cases hx
 |y::l,h,x,hx=>by
  have h':(Bool.rec false (yt p l) (p y):Bool)=true:=h
  cases e:p y<;>rw [e]at h'
  ·cases h'
  ·rcases List.mem_cons.1 hx with rfl|hx
   ·exact e
   ·exact jg h' x hx
theorem Z3{i:Nat}:∀{l:List Nat},qoi i l=true->i∈l
 |[],h=>by cases h
 |j::l,h=>by
  have h':(Bool.rec (qoi i l) true (Nat.beq j i):Bool)=true:=h
  cases e:Nat.beq j i<;>rw [e]at h'
  ·exact List.mem_cons_of_mem _ (Z3 h')
  ·rw [Nat.eq_of_beq_eq_true e];exact List.mem_cons_self ..
theorem KJ(m j:Nat):bit m j=m.testBit j:=by
 unfold bit;have e:Nat.beq (Nat.mod (Nat.shiftRight m j) 2) 1=decide (m>>>j % 2=1):=by
  by_cases h:m>>>j % 2=1
  ·rw [decide_eq_true h];have h2:Nat.mod (Nat.shiftRight m j) 2=1:=h
   rw [h2];rfl
  ·rw [decide_eq_false h];cases q:Nat.beq (Nat.mod (Nat.shiftRight m j) 2) 1
   ·rfl
   ·exact(h (Nat.eq_of_beq_eq_true q)).elim
 rw [e,Nat.testBit,Nat.and_comm,Nat.and_one_is_mod];by_cases h:m>>>j % 2=1
 ·rw [decide_eq_true h,h];rfl
 ·have:m>>>j % 2=0:=by omega
  rw [decide_eq_false h,this];rfl
theorem Qr{as:List Nat}{j:Nat}:∀{es:List Edge},bit (yJ as es) j=true->∃e,e∈es/\Region.binds .any e=true/\(e.on=j\/bit (as.getD e.on 0) j=true)
 |[],h=>by rw [KJ]at h;have:yJ as []=0:=rfl;rw [this]at h;simp at h
 |e::es,h=>by
  have h':bit (Bool.rec (yJ as es) (Nat.lor (Nat.lor (Nat.shiftLeft 1 e.on) (as.getD e.on 0)) (yJ as es)) (Region.binds .any e)) j=true:=h
  cases q:Region.binds .any e<;>rw [q]at h'
  ·obtain⟨e',m,b,c⟩:=Qr h'
   exact⟨e',List.mem_cons_of_mem _ m,b,c⟩
  ·rw [KJ]at h';have h2:((1<<<e.on|||as.getD e.on 0)|||yJ as es).testBit j=true:=h'
   rw [Nat.testBit_or,Nat.testBit_or,Bool.or_eq_true,Bool.or_eq_true]at h2;rcases h2 with(h2|h2)|h2
   ·refine⟨e,List.mem_cons_self ..,q,.inl ?_⟩
    rw [Nat.one_shiftLeft,Nat.testBit_two_pow]at h2;exact of_decide_eq_true h2
   ·exact⟨e,List.mem_cons_self ..,q,.inr (by rw [KJ];exact h2)⟩
   ·obtain⟨e',m,b,c⟩:=Qr (by rw [KJ];exact h2)
    exact⟨e',List.mem_cons_of_mem _ m,b,c⟩
theorem YG{t:Nat}:∀{l:List Oper} {i j:Nat} {o:Oper},l[j]?=some o->o.dst=some t->i+j∈yg l t i
 |[],i,j,o,h,_=>by simp at h
 |q::l,i,0,o,h,hd=>by
  simp at h
  subst h;unfold yg;simp only [hd]
  have:Nat.beq t t=true:=Nat.beq_refl t
  rw [this];exact List.mem_cons_self ..
 |q::l,i,j+1,o,h,hd=>by
  simp at h
  have ih:=YG (i:=i+1) h hd
  have e:i+(j+1)=i+1+j:=by omega
  rw [e];unfold yg;split
  ·split
   ·exact List.mem_cons_of_mem _ ih
   ·exact ih
  ·exact ih
structure jU(nt:Nat)(ops:Array Oper)(as:List Nat):Prop where
 dst:∀(i:Nat) (o:Oper),ops[i]?=some o->Qp nt o.dst=true
 edge:∀(i:Nat) (o:Oper),ops[i]?=some o->∀e,e∈o.after.toList->Region.binds .any e=true->e.on<i
 ahead:∀(i:Nat) (o:Oper),ops[i]?=some o->∀j,bit (as.getD i 0) j=true->∃e,e∈o.after.toList/\Region.binds .any e=true/\(e.on=j\/bit (as.getD e.on 0) j=true)
 look:∀(i:Nat) (o:Oper),ops[i]?=some o->∀t,t∈y7 ops o->∀(j:Nat) (q:Oper),ops[j]?=some q->q.dst=some t->bit (as.getD i 0) j=true
 uniq:∀(i j:Nat) (o q:Oper) (t:Nat),ops[i]?=some o->ops[j]?=some q->o.dst=some t->q.dst=some t->i=j
 grd:∀(i:Nat) (o:Oper) (g:Nat) (b:Bool),ops[i]?=some o->o.guard=some (g,b)->∃t,(ops[g]?).bind (·.dst)=some t
theorem Yq{l:List Oper}{as:List Nat}:∀{r:List Oper} {k i:Nat} {o:Oper},Xl nt ops l as r k=true->r[i]?=some o->qqs nt ops l as (k+i) o=true
 |[],_,_,_,_,h=>by simp at h
 |q::r,k,i,o,h,hi=>by
  unfold Xl at h;split at h<;>try (cases h;done)
  rename_i hq;cases i with
  |zero=>simp at hi;subst hi;exact hq
  |succ i=>
   simp at hi
   have:=Yq h hi
   have e:k+(i+1)=k+1+i:=by omega
   rw [e];exact this
theorem JE{as:List Nat}(h:Xl nt ops ops.toList as ops.toList 0=true):jU nt ops as:=by
 have key:∀i o,ops[i]?=some o->qqs nt ops ops.toList as i o=true:=λi o hi=>by
  have:=Yq h (i:=i) (o:=o) (by simpa using hi)
  simpa using this
 have parts:∀i o,ops[i]?=some o->Qp nt o.dst=true/\as.getD i 0=yJ as o.after.toList/\yt (λe=>Bool.rec true (Nat.ble (Nat.succ e.on) i) (Region.binds .any e)) o.after.toList=true/\
   yt (λt=>yt (λj=>bit (as.getD i 0) j) (yg ops.toList t 0)) (y7 ops o)=true/\(∀t,o.dst=some t->yt (λj=>Nat.beq j i) (yg ops.toList t 0)=true)/\
   (∀g b,o.guard=some (g,b)->∃t,(ops[g]?).bind (·.dst)=some t):=by
  intro i o hi;have h1:=key i o hi
  unfold qqs at h1;split at h1<;>try (cases h1;done)
  rename_i a1 a2;split at h1<;>try (cases h1;done)
  rename_i a3 a4;split at h1<;>try (cases h1;done)
  rename_i a5;refine⟨a1,Nat.eq_of_beq_eq_true a2,a3,a4,λt ht=> ?_,λg b hg=> ?_⟩
  ·rw [ht]at a5;exact a5
  ·rw [hg]at h1;simp only []at h1
   split at h1<;>try (cases h1;done)
   rename_i t ht;exact⟨_,ht⟩
 have own:∀j q t,ops[j]?=some q->q.dst=some t->j∈yg ops.toList t 0:=λj q t hj hd=>by
  have:=YG (t:=t) (l:=ops.toList) (i:=0) (j:=j) (o:=q) (by simpa using hj) hd
  simpa using this
 refine⟨λi o hi=>(parts i o hi).1,?_,?_,?_,?_,λi o g b hi hg=>(parts i o hi).2.2.2.2.2 g b hg⟩
 ·intro i o hi e he hb;have:=jg (parts i o hi).2.2.1 e he
  rw [hb]at this;exact Nat.le_of_ble_eq_true this
 ·intro i o hi j hj;rw [(parts i o hi).2.1]at hj;exact Qr hj
 ·intro i o hi t ht j q hj hq;exact jg (jg (parts i o hi).2.2.2.1 t ht) j (own j q t hj hq)
 ·intro i j o q t hi hj ho hq;exact(Nat.eq_of_beq_eq_true (jg ((parts i o hi).2.2.2.2.1 t ho) j (own j q t hj hq))).symm
theorem Jp{past:List Nat}{i:Nat}(h:JS ops past i o=true):∀p,p∈past->p≠i/\∃q,ops[p]?=some q/\∀d,o.dst=some d->d ∉ y7 ops q:=by
 intro p hp;have h1:=jg h p hp
 split at h1<;>try (cases h1;done)
 rename_i hne;have ne:p≠i:=λe=>by subst e;rw [Nat.beq_refl]at hne;cases hne
 split at h1<;>try (cases h1;done)
 ·rename_i d q hd hq;refine⟨ne,q,hq,λd' hd' hm=> ?_⟩
  rw [hd]at hd';cases hd'
  have:=jg h1 d hm
  simp only [Nat.beq_refl]at this
  cases this
 ·rename_i q hd hq;exact⟨ne,q,hq,λd' hd'=>by rw [hd]at hd';cases hd'⟩
theorem kj:∀{l past past':List Nat},JC ops l past=some past'->∀i,i∈past'↔(i∈past\/i∈l)
 |[],past,past',h,i=>by cases h;simp
 |j::l,past,past',h,i=>by
  unfold JC at h;split at h<;>try (cases h;done)
  split at h<;>try (cases h;done)
  have:=kj h i
  rw [this];simp [or_assoc,or_comm,or_left_comm]
theorem vC:∀{l past past':List Nat},JC ops l past=some past'->∀p,p∈past->∀j,j∈l->p≠j/\∃q o,ops[p]?=some q/\ops[j]?=some o/\∀d,o.dst=some d->d ∉ y7 ops q
 |[],_,_,_,_,_,j,hj=>by cases hj
 |i::l,past,past',h,p,hp,j,hj=>by
  unfold JC at h;split at h<;>try (cases h;done)
  rename_i o ho;split at h<;>try (cases h;done)
  rename_i hc hf;rcases List.mem_cons.1 hj with rfl|hj
  ·obtain⟨h1,q,h2,h3⟩:=Jp hf p hp
   exact⟨h1,q,o,h2,ho,h3⟩
  ·exact vC h p (List.mem_cons_of_mem _ hp) j hj
theorem Zf:∀{l past past':List Nat},JC ops l past=some past'->∀j,j∈l->∃o,ops[j]?=some o/\cls o.op≠2
 |[],_,_,_,j,hj=>by cases hj
 |i::l,past,past',h,j,hj=>by
  unfold JC at h;split at h<;>try (cases h;done)
  rename_i o ho;split at h<;>try (cases h;done)
  rename_i hc hf;rcases List.mem_cons.1 hj with rfl|hj
  ·exact⟨o,ho,λe=>by rw [e]at hc;cases hc⟩
  ·exact Zf h j hj
theorem jU.lt{as:List Nat}(F:jU nt ops as):∀(i:Nat) (o:Oper),ops[i]?=some o->∀j,bit (as.getD i 0) j=true->j<i:=by
 intro i
 induction i using Nat.strongRecOn with
 |_ i ih=>
  intro o hi j hj;obtain⟨e,he,hb,hc⟩:=F.ahead i o hi j hj
  have hlt:=F.edge i o hi e he hb
  rcases hc with hc|hc
  ·omega
  ·have hsz:i<ops.size:=(Array.getElem?_eq_some_iff.1 hi).1
   have:=ih e.on hlt ops[e.on] (Array.getElem?_eq_getElem (by omega)) j hc
   omega
theorem jU.own{as:List Nat}(F:jU nt ops as){i:Nat}(hi:ops[i]?=some o){d:Nat}(hd:o.dst=some d):d ∉ y7 ops o:=by
 intro hm;have:=F.lt i o hi i (F.look i o hi d hm i o hi hd)
 omega
theorem qhw{env env':Env}{x:Operand}(h:∀t,x= .tmp t->t<4096->get2 t env'=get2 t env):aev env' x=aev env x:=by
 cases x with
 |tmp t=>
  show(Bool.rec .und (get2 t env') (Nat.ble t 4095):qa)=Bool.rec .und (get2 t env) (Nat.ble t 4095)
  cases hb:Nat.ble t 4095 with
  |false=>rfl
  |true=>exact h t rfl (Nat.lt_of_le_of_lt (Nat.le_of_ble_eq_true hb) (by decide))
 |const v=>rfl
 |global g=>rfl
 |func f=>rfl
theorem v4{env env':Env}(h:∀t,t∈y7 ops o->t<4096->get2 t env'=get2 t env):
  jd ops o.guard env'=jd ops o.guard env/\∀x∈o.op.operands,aev env' x=aev env x:=by
 constructor
 ·unfold jd;cases hg:o.guard with
  |none=>rfl
  |some p=>
   obtain⟨g,b⟩:=p
   simp only []
   cases ht:(ops[g]?).bind (·.dst)with
   |none=>rfl
   |some t=>
    simp only []
    cases hb:Nat.ble t 4095 with
    |false=>rfl
    |true=>
     simp only []
     rw [h t (by unfold y7;rw [hg];simp only [ht];simp) (Nat.lt_of_le_of_lt (Nat.le_of_ble_eq_true hb) (by decide))]
 ·intro x hx;refine qhw λt e ht=>h t ?_ ht
  subst e;unfold y7;exact List.mem_append_left _ (List.mem_filterMap.2 ⟨.tmp t,by simpa using hx,rfl⟩)
end Go.Vs
namespace Go.Vs
variable [GTab] {P:Program} {H:qc} {nx:Nat} {w:World} {ops:Array Oper} {o:Oper} {nt:Nat} {env:Env}
def Fl1(P:Program)(ops:Array Oper)(res:Nat)(env:Env)(H:qc)(i:Nat)(o:Oper):Prop:=
 (jd ops o.guard env=some false/\∀d,o.dst=some d->get2 d env= .tuple [])\/
 (jd ops o.guard env=some true/\∃m,made P o.op (aev env)=some m/\m.n<=9223372036854775807/\zf (res+i) H=some (.cells m.n (CT.ofL m.n m.l) [] false)/\∀d,o.dst=some d->get2 d env=m.v (res+i))
theorem Fl1.keep{res:Nat}{env env':Env}{H H':qc}{i:Nat}(h:Fl1 P ops res env H i o)(hl:∀t,t∈y7 ops o->t<4096->get2 t env'=get2 t env)
  (hd:∀d,o.dst=some d->get2 d env'=get2 d env) (hH:zf (res+i) H'=zf (res+i) H):Fl1 P ops res env' H' i o:=by
 obtain⟨e1,e2⟩:=v4 hl
 rcases h with⟨h1,h2⟩|⟨h1,m,h2,h3,h4,h5⟩
 ·exact .inl ⟨e1.trans h1,λd hd'=>(hd d hd').trans (h2 d hd')⟩
 ·exact .inr ⟨e1.trans h1,m,(QF e2).trans h2,h3,hH.trans h4,λd hd'=>(hd d hd').trans (h5 d hd')⟩
def Fl0(P:Program)(ops:Array Oper)(env:Env)(H:qc)(nx:Nat)(o:Oper):Prop:=
 (jd ops o.guard env=some false/\∀d,o.dst=some d->get2 d env= .tuple [])\/
 (jd ops o.guard env=some true/\∃v,aop P o (aev env) H nx=some (.val v H nx)/\∀d,o.dst=some d->get2 d env=v)
theorem JA(hc:cls o.op=0)(h:KU P ops env H nx o=true):Fl0 P ops env H nx o:=by
 unfold KU at h;split at h<;>try (cases h;done)
 ·rename_i hw;split at h<;>try (cases h;done)
  rename_i v H1 nx1 hop;obtain⟨rfl,rfl⟩:=XY hc hop
  refine .inr ⟨hw,v,hop,λd hd=> ?_⟩
  rw [hd]at h;exact(@of_decide_eq_true _ (Classical.propDecidable _) h).symm
 ·rename_i hw;refine .inl ⟨hw,λd hd=> ?_⟩
  rw [hd]at h;simp only []at h
  split at h<;>first|(cases h;done)|assumption
theorem qhx{ρ:Operand->qa}{H H':qc}{nx nx':Nat}{v:qa}(hc:cls o.op=0)(hp:QL o.op=false)(h:aop P o ρ H nx=some (.val v H nx)):aop P o ρ H' nx'=some (.val v H' nx'):=by
 unfold aop at h ⊢;cases hop:o.op<;>rw [hop]at h hc hp<;>simp only []at h ⊢<;>first|(cases hc;done)|(cases hp;done)|skip
 case move=>unfold Qw at h ⊢;cases h;rfl
 case assign=>unfold Qw at h ⊢;cases h;rfl
 case call c=>
  simp only [cls]at hc
  unfold js at h ⊢;cases hce:c.callee with
  |value f=>rw [hce]at hc;cases hc
  |invoke r m=>rw [hce]at hc;cases hc
  |builtin b=>
   rw [hce]at hc h;cases b<;>simp only []at hc h ⊢<;>try (cases hc;done)
   all_goals
    unfold zL at h ⊢
    try simp only [zP]at h ⊢
    split at h<;>try (cases h;done)
    all_goals (repeat' (split at h))<;>first|(cases h;done)|(cases h;simp only [*];done)|(cases h;simp [*];done)
 all_goals first
  |(have h':qat ρ H nx=some (.val v H nx):=h;cases h';done)
  |(unfold Q6 at h ⊢)|(unfold kO at h ⊢)|(unfold qdo at h ⊢)|(unfold yQ at h ⊢)|(unfold jr at h ⊢)|(unfold yk at h ⊢;cases h;rfl;done)
  |(unfold kr at h ⊢)|(unfold Qz at h ⊢)|(unfold jK at h ⊢)|(unfold wN at h ⊢)|(unfold wC at h ⊢)|(unfold v3 at h ⊢)|(unfold Qu at h ⊢)|(unfold yi at h ⊢)
 all_goals try simp only [zP,qS]at h ⊢
 all_goals (repeat' (split at h))<;>first|(cases h;done)|(cases h;simp only [*];done)|(cases h;simp [*];done)|skip
theorem Fl0.keep{env env':Env}{H H':qc}{nx nx':Nat}(hc:cls o.op=0)(hp:QL o.op=false)(h:Fl0 P ops env H nx o)(hl:∀t,t∈y7 ops o->t<4096->get2 t env'=get2 t env)
  (hd:∀d,o.dst=some d->get2 d env'=get2 d env):Fl0 P ops env' H' nx' o:=by
 obtain⟨e1,e2⟩:=v4 hl
 rcases h with⟨h1,h2⟩|⟨h1,v,h2,h3⟩
 ·exact .inl ⟨e1.trans h1,λd hd'=>(hd d hd').trans (h2 d hd')⟩
 ·exact .inr ⟨e1.trans h1,v,(wY e2).trans (qhx hc hp h2),λd hd'=>(hd d hd').trans (h3 d hd')⟩
theorem jX{d:Option Nat}{v:qa}{nt t:Nat}(hd:Qp nt d=true)(hn:nt<=4096)(ht:t<4096)(hne:d≠some t):get2 t (put d v env)=get2 t env:=by
 cases d with
 |none=>rfl
 |some d=>
  have h1:d<nt:=Nat.le_of_ble_eq_true hd
  show get2 t (Zq d v env)=_
  rw [Zi (by omega) ht,if_neg (λe=>hne (by rw [e]))]
theorem kD{d:Nat}{v:qa}:get2 d (put (some d) v env)=v:=by
 show get2 d (Zq d v env)=v
 rw [QZ]
theorem qjp{as:List Nat}{res nx:Nat}{k:Env->qc->Bool}{i:Nat}(F:jU nt ops as)(hn:nt<=4096)(hlim:res+ops.size<=res+ops.size)
  (hi:ops[i]?=some o) (h:yL P ops res o i env H nx k=true):
  ∃env' H',k env' H'=true/\(∀t,t<4096->o.dst≠some t->get2 t env'=get2 t env)/\(∀b,b<b+1->b≠res+i->zf b H'=zf b H)/\
   (∀σ w,Rel σ H nx w->σ (res+i)=none->Rel σ H' nx w)/\(cls o.op=1->Fl1 P ops res env' H' i o)/\(cls o.op=0->QL o.op=false->Fl0 P ops env' H' nx o):=by
 have hd:=F.dst i o hi
 have hsz:i<ops.size:=(Array.getElem?_eq_some_iff.1 hi).1
 have looks_same:∀v t,t∈y7 ops o->t<4096->get2 t (put o.dst v env)=get2 t env:=λv t ht hlt=>jX hd hn hlt (λe=>F.own hi e ht)
 unfold yL at h;split at h<;>try (cases h;done)
 ·rename_i hw;split at h
  ·rename_i hc;split at h<;>try (cases h;done)
   rename_i m hm;split at h<;>try (cases h;done)
   rename_i h4;rw [qS]at h;refine⟨_,_,h,λt ht hne=>jX hd hn ht hne,?_,?_,λ_=> ?_,λe=>by rw [e]at hc;cases hc⟩
   ·intro b hb hne;exact jm (λe=>hne e.symm) (show res+i<res+i+1 by omega) hb
   ·intro σ w hr hp;exact hr.pend hp lR hr.lim (by show res+i<res+i+1;omega)
   ·obtain⟨e1,e2⟩:=v4 (looks_same (m.v (Nat.add res i)))
    refine .inr ⟨e1.trans hw,m,(QF e2).trans hm,Nat.le_of_ble_eq_true h4,qW ..,λd hd'=> ?_⟩
    rw [hd'];exact kD
  ·rename_i hc;split at h<;>try (cases h;done)
   rename_i v H1 nx1 hop;refine⟨_,_,h,λt ht hne=>jX hd hn ht hne,λ_ _ _=>rfl,λ_ _ hr _=>hr,λe=> ?_,λhc0 hp=> ?_⟩
   ·rw [e]at hc;cases hc
   ·obtain⟨rfl,rfl⟩:=XY hc0 hop
    obtain⟨e1,e2⟩:=v4 (looks_same v)
    refine .inr ⟨e1.trans hw,v,(wY e2).trans hop,λd hd'=> ?_⟩
    rw [hd'];exact kD
 ·rename_i hw;obtain⟨e1,e2⟩:=v4 (looks_same (.tuple []))
  refine⟨_,_,h,λt ht hne=>jX hd hn ht hne,λ_ _ _=>rfl,λ_ _ hr _=>hr,λ_=> ?_,λ_ _=> ?_⟩
  ·refine .inl ⟨e1.trans hw,λd hd'=> ?_⟩
   rw [hd'];exact kD
  ·refine .inl ⟨e1.trans hw,λd hd'=> ?_⟩
   rw [hd'];exact kD
theorem QK{as:List Nat}{res nx:Nat}{k:Env->qc->Bool}(F:jU nt ops as)(hn:nt<=4096)(hlim:res+ops.size<=res+ops.size):
  ∀(l past past':List Nat) (env:Env) (H:qc),JC ops l past=some past'->yG P ops res nx k l env H=true->
   ∃env' H',k env' H'=true/\(∀t,t<4096->(∀(j:Nat) (q:Oper),j∈l->ops[j]?=some q->q.dst≠some t)->get2 t env'=get2 t env)/\(∀b,b<b+1->(∀j,j∈l->b≠res+j)->zf b H'=zf b H)/\
    (∀σ w,Rel σ H nx w->(∀j,j∈l->σ (res+j)=none)->Rel σ H' nx w)/\(∀(i:Nat) (q:Oper),i∈l->ops[i]?=some q->cls q.op=1->Fl1 P ops res env' H' i q)/\
    (∀(i:Nat) (q:Oper),i∈l->ops[i]?=some q->cls q.op=0->QL q.op=false->Fl0 P ops env' H' nx q)
 |[],_,_,env,H,_,h=>⟨env,H,h,λ_ _ _=>rfl,λ_ _ _=>rfl,λ_ _ hr _=>hr,(λi q hi=>by cases hi),λi q hi=>by cases hi⟩
 |i::l,past,past',env,H,hc,h=>by
  have h':(match ops[i]? with|some o=>yL P ops res o i env H nx (yG P ops res nx k l)|none=>false)=true:=h
  unfold JC at hc;split at hc<;>try (cases hc;done)
  rename_i o ho;split at hc<;>try (cases hc;done)
  rw [ho]at h';simp only []at h'
  obtain⟨env1,H1,hk,a1,a2,a3,a4,a5⟩:=qjp F hn hlim ho h'
  obtain⟨env2,H2,hk2,b1,b2,b3,b4,b5⟩:=QK F hn hlim l _ past' env1 H1 hc hk
  have hsz:i<ops.size:=(Array.getElem?_eq_some_iff.1 ho).1
  have fr:=vC hc i (List.mem_cons_self ..)
  refine⟨env2,H2,hk2,?_,?_,?_,?_,?_⟩
  ·intro t ht hne;rw [b1 t ht (λj q hj hq=>hne j q (List.mem_cons_of_mem _ hj) hq),a1 t ht (hne i o (List.mem_cons_self ..) ho)]
  ·intro b hb hne;rw [b2 b hb (λj hj=>hne j (List.mem_cons_of_mem _ hj)),a2 b hb (hne i (List.mem_cons_self ..))]
  ·intro σ w hr hp;exact b3 σ w (a3 σ w hr (hp i (List.mem_cons_self ..))) λj hj=>hp j (List.mem_cons_of_mem _ hj)
  ·intro j q hj hq hcl;rcases List.mem_cons.1 hj with rfl|hj
   ·rw [ho]at hq;cases hq
    refine(a4 hcl).keep ?_ ?_ ?_
    ·intro t ht hlt;refine b1 t hlt λj' q' hj' hq' e=> ?_
     obtain⟨_,q0,o0,e1,e2,e3⟩:=fr j' hj'
     rw [ho]at e1;cases e1
     rw [hq']at e2;cases e2
     exact e3 t e ht
    ·intro d hd;have hdl:d<nt:=by have:=F.dst j o ho;rw [hd]at this;exact Nat.le_of_ble_eq_true this
     refine b1 d (Nat.lt_of_lt_of_le hdl hn) λj' q' hj' hq' e=> ?_
     exact(fr j' hj').1 (F.uniq j j' o q' d ho hq' hd e)
    ·exact b2 _ (by omega) λj' hj' e=>(fr j' hj').1 (by omega)
   ·exact b4 j q hj hq hcl
  ·intro j q hj hq hcl hp;rcases List.mem_cons.1 hj with rfl|hj
   ·rw [ho]at hq;cases hq
    refine(a5 hcl hp).keep hcl hp ?_ ?_
    ·intro t ht hlt;refine b1 t hlt λj' q' hj' hq' e=> ?_
     obtain⟨_,q0,o0,e1,e2,e3⟩:=fr j' hj'
     rw [ho]at e1;cases e1
     rw [hq']at e2;cases e2
     exact e3 t e ht
    ·intro d hd;have hdl:d<nt:=by have:=F.dst j o ho;rw [hd]at this;exact Nat.le_of_ble_eq_true this
     refine b1 d (Nat.lt_of_lt_of_le hdl hn) λj' q' hj' hq' e=> ?_
     exact(fr j' hj').1 (F.uniq j j' o q' d ho hq' hd e)
   ·exact b5 j q hj hq hcl hp
end Go.Vs
namespace Go.Vs
variable [GTab] {P:Program} {H:qc} {nx:Nat} {w:World} {ops:Array Oper} {o:Oper} {nt:Nat} {env:Env}
abbrev wH:=Nat×List Nat×List Nat
def isL(listed:Array Bool)(i:Nat):Prop:=listed.getD i false=true
structure Inv(P:Program)(nt:Nat)(ops:Array Oper)(as:List Nat)(res:Nat)(σ0:Sg)(H0:qc)(w0:World)(dfs:Dfs)(past:List Nat)(rest:List wH)(env:Env)(H:qc)(nx:Nat)(listed:Array Bool)(σ:Sg)(w:World)(a:Act):Prop where
 size:listed.size=ops.size
 tsize:a.tmps.size=nt
 closed:∀i j,isL listed i->bit (as.getD i 0) j=true->isL listed j
 todo:∀i,i∈named rest->¬isL listed i
 all:∀i,i<ops.size->i∈past\/i∈named rest\/isL listed i
 den:∀t,t<4096->(∀(j:Nat) (q:Oper),ops[j]?=some q->q.dst=some t->isL listed j)->Den σ (get2 t env) (a.tmps.getD t undef)
 fl0:∀(i:Nat) (q:Oper),i∈past->ops[i]?=some q->¬isL listed i->cls q.op=0->Fl0 P ops env H nx q
 fl1:∀(i:Nat) (q:Oper),i∈past->ops[i]?=some q->¬isL listed i->cls q.op=1->Fl1 P ops res env H i q
 pend:∀i,i<ops.size->¬isL listed i->σ (res+i)=none
 lim:res+ops.size<=nx
 rel:Rel σ H nx w
 ext:Ext σ0 σ H0 H res nx w0 w
 dfs:w5 σ dfs a.defers
theorem qog(p:Nat->Prop)(env:Env):∃env',∀t,t<4096->(p t->get2 t env'=get2 t env)/\(¬p t->get2 t env'= .und):=by
 have key:∀n,n<=4096->∃env',∀t,t<4096->((p t\/n<=t)->get2 t env'=get2 t env)/\((¬p t/\t<n)->get2 t env'= .und):=by
  intro n
  induction n with
  |zero=>exactλ_=>⟨env,λt _=>⟨λ_=>rfl,λh=>by omega⟩⟩
  |succ n ih=>
   intro hn;obtain⟨e,he⟩:=ih (by omega)
   by_cases hp:p n
   ·refine⟨e,λt ht=>⟨λh=>(he t ht).1 ?_,λh=>(he t ht).2 ⟨h.1,?_⟩⟩⟩
    ·rcases h with h|h
     ·exact .inl h
     ·exact .inr (by omega)
    ·have:t≠n:=λq=>h.1 (q▸hp)
     omega
   ·refine⟨Zq n .und e,λt ht=>⟨λh=> ?_,λh=> ?_⟩⟩
    ·have hne:n≠t:=λq=>by
      rcases h with h|h
      ·exact hp (q▸h)
      ·omega
     rw [Zi (by omega) ht,if_neg hne]
     refine(he t ht).1 ?_
     rcases h with h|h
     ·exact .inl h
     ·exact .inr (by omega)
    ·rw [Zi (by omega) ht]
     by_cases q:n=t
     ·rw [if_pos q]
     ·rw [if_neg q];exact(he t ht).2 ⟨h.1,by omega⟩
 obtain⟨e,he⟩:=key 4096 lR
 exact⟨e,λt ht=>⟨λh=>(he t ht).1 (.inl h),λh=>(he t ht).2 ⟨h,ht⟩⟩⟩
theorem wK{listed:Array Bool}{i j:Nat}(hi:i<listed.size):isL (listed.setIfInBounds i true) j↔(j=i\/isL listed j):=by
 unfold isL;by_cases e:i=j
 ·subst e;simp [hi]
 ·simp only [Array.getD_eq_getD_getElem?,Array.getElem?_setIfInBounds_ne e]
  constructor
  ·exactλh=> .inr h
  ·rintro(h|h)
   ·exact(e h.symm).elim
   ·exact h
theorem Inv.view{as:List Nat}{res:Nat}{σ0:Sg}{H0:qc}{w0:World}{dfs:Dfs}{past:List Nat}{rest:List wH}{listed:Array Bool}{σ:Sg}{a:Act}
  (F:jU nt ops as) (hn:nt<=4096) (I:Inv P nt ops as res σ0 H0 w0 dfs past rest env H nx listed σ w a) {i:Nat} {o:Oper} (hi:ops[i]?=some o) (hr:∀j,bit (as.getD i 0) j=true->isL listed j):
  ∃envm,kQ σ nt envm a.tmps/\jd ops o.guard envm=jd ops o.guard env/\∀x∈o.op.operands,aev envm x=aev env x:=by
 obtain⟨envm,hm⟩:=qog (λt=>∀(j:Nat) (q:Oper),ops[j]?=some q->q.dst=some t->isL listed j) env
 refine⟨envm,⟨I.tsize,hn,λt ht=> ?_⟩,v4 λt ht hlt=>(hm t hlt).1 λj q hj hq=>hr j (F.look i o hi t ht j q hj hq)⟩
 by_cases hp:∀(j:Nat) (q:Oper),ops[j]?=some q->q.dst=some t->isL listed j
 ·rw [(hm t ht).1 hp];exact I.den t ht hp
 ·rw [(hm t ht).2 hp];exact .und _
theorem Inv.next{as:List Nat}{res:Nat}{σ0:Sg}{H0:qc}{w0:World}{dfs:Dfs}{past:List Nat}{rest:List wH}{listed:Array Bool}{σ:Sg}{a:Act}
  (F:jU nt ops as) (I:Inv P nt ops as res σ0 H0 w0 dfs past rest env H nx listed σ w a) {i:Nat} {o:Oper} (hi:ops[i]?=some o) (hr:∀j,bit (as.getD i 0) j=true->isL listed j) (hrest:i ∉ named rest)
  {σ1:Sg} {w1:World} {v':Value} (sub:∀b p,σ b=some p->σ1 b=some p) (R:Rel σ1 H nx w1) (E:Ext σ0 σ1 H0 H res nx w0 w1) (hp:∀j,j<ops.size->j≠i->σ (res+j)=none->σ1 (res+j)=none)
  (hv:∀d,o.dst=some d->Den σ1 (get2 d env) v'):Inv P nt ops as res σ0 H0 w0 dfs past rest env H nx (listed.setIfInBounds i true) σ1 w1 (a.put o.dst v'):=by
 have hlt:i<ops.size:=(Array.getElem?_eq_some_iff.1 hi).1
 have S:∀j,isL (listed.setIfInBounds i true) j↔(j=i\/isL listed j):=λj=>wK (by rw [I.size];exact hlt)
 have hd:=F.dst i o hi
 refine⟨by rw [Array.size_setIfInBounds];exact I.size,?_,?_,?_,?_,?_,?_,?_,?_,I.lim,R,E,?_⟩
 ·cases hdst:o.dst with
  |none=>exact I.tsize
  |some d=>show(a.tmps.setIfInBounds d v').size=nt;rw [Array.size_setIfInBounds];exact I.tsize
 ·intro j k hj hb;rw [S]at hj ⊢;rcases hj with rfl|hj
  ·exact .inr (hr k hb)
  ·exact .inr (I.closed j k hj hb)
 ·intro j hj hl;rw [S]at hl;rcases hl with rfl|hl
  ·exact hrest hj
  ·exact I.todo j hj hl
 ·intro j hj;rw [S];rcases I.all j hj with h|h|h
  ·exact .inl h
  ·exact .inr (.inl h)
  ·exact .inr (.inr (.inr h))
 ·intro t ht hown;by_cases e:o.dst=some t
  ·rw [e];show Den σ1 (get2 t env) ((a.tmps.setIfInBounds t v').getD t undef)
   have:t<a.tmps.size:=by rw [I.tsize];rw [e]at hd;exact Nat.le_of_ble_eq_true hd
   rw [Zw _ _ _ _ this,if_pos rfl];exact hv t e
  ·have h1:(a.put o.dst v').tmps.getD t undef=a.tmps.getD t undef:=by
    cases hdst:o.dst with
    |none=>rfl
    |some d=>
     show(a.tmps.setIfInBounds d v').getD t undef=_
     have:d<a.tmps.size:=by rw [I.tsize];rw [hdst]at hd;exact Nat.le_of_ble_eq_true hd
     rw [Zw _ _ _ _ this,if_neg (λq=>e (by rw [hdst,q]))]
   rw [h1];refine(I.den t ht λj q hj hq=> ?_).mono sub
   have:=hown j q hj hq
   rw [S]at this;rcases this with rfl|h
   ·rw [hi]at hj;cases hj;exact(e hq).elim
   ·exact h
 ·intro j q hj hq hl;exact I.fl0 j q hj hq (λh=>hl ((S j).2 (.inr h)))
 ·intro j q hj hq hl;exact I.fl1 j q hj hq (λh=>hl ((S j).2 (.inr h)))
 ·intro j hj hl;exact hp j hj (λe=>hl ((S j).2 (.inl e))) (I.pend j hj (λh=>hl ((S j).2 (.inr h))))
 ·have:(a.put o.dst v').defers=a.defers:=by cases o.dst<;>rfl
  rw [this];exact I.dfs.mono sub
theorem Inv.float{as:List Nat}{res:Nat}{σ0:Sg}{H0:qc}{w0:World}{dfs:Dfs}{past:List Nat}{rest:List wH}{listed:Array Bool}{σ:Sg}{a:Act}
  (F:jU nt ops as) (hn:nt<=4096) (I:Inv P nt ops as res σ0 H0 w0 dfs past rest env H nx listed σ w a) {i:Nat} {o:Oper} (hi:ops[i]?=some o) (hpast:i∈past) (hnl:¬isL listed i) (hcls:cls o.op=0\/cls o.op=1)
  (hr:∀j,bit (as.getD i 0) j=true->isL listed j) (hrest:i ∉ named rest) {Q:Exit->Act->World->Prop} {K:Act->World->Prop}
  (hK:∀σ1 w1 a1,Inv P nt ops as res σ0 H0 w0 dfs past rest env H nx (listed.setIfInBounds i true) σ1 w1 a1->K a1 w1):wpOp P ops Q i K a w:=by
 have hlt:i<ops.size:=(Array.getElem?_eq_some_iff.1 hi).1
 obtain⟨envm,M,hw,hx⟩:=I.view F hn hi hr
 unfold wpOp;rw [hi];simp only []
 have unw:jd ops o.guard env=some false->(∀d,o.dst=some d->get2 d env= .tuple [])->(if Region.wanted o (yielded ops a.tmps)=true then o.wp P a w K Q\/(o.asks P a w/\LetsOut Q)else K (a.put o.dst undef) w):=by
  intro h1 h2;rw [if_neg (by rw [vk (hw.trans h1) M];simp)]
  exact hK σ w _ (I.next F hi hr hrest (λ_ _ h=>h) I.rel I.ext (λ_ _ _ h=>h) λd hd=>by rw [h2 d hd];exact .tuple .nil)
 rcases hcls with hc|hc
 ·rcases I.fl0 i o hpast hi hnl hc with⟨h1,h2⟩|⟨hwt,v,hop,hdv⟩
  ·exact unw h1 h2
  ·rw [if_pos (vk (hw.trans hwt) M)];have hop':aop P o (aev envm) H nx=some (.val v H nx):=(wY hx).trans hop
   obtain⟨σ',w',v',R,E,D,hrun⟩:=K9 hop' σ w a.eval I.rel M.aev
   have fin:K (a.put o.dst v') w':=by
    refine hK σ' w' _ (I.next F hi hr hrest E.sub R (I.ext.trans E) (λj hj _ h=>(E.pend (res+j) (by have:=I.lim;omega) h).1) λd hd=> ?_)
    rw [hdv d hd];exact D
   refine .inl ?_
   unfold Oper.wp;rcases hrun with hrun|⟨hrun,rfl⟩
   ·rw [hrun];exact fin
   ·rw [hrun];exact fin
 ·rcases I.fl1 i o hpast hi hnl hc with⟨h1,h2⟩|⟨h1,m,h2,h3,h4,h5⟩
  ·exact unw h1 h2
  ·rw [if_pos (vk (hw.trans h1) M)];have hm:made P o.op (aev envm)=some m:=(QF hx).trans h2
   obtain⟨l',t,v',hl,hln,hv,hrun⟩:=qhd hm σ w a.eval M.aev
   obtain⟨c1,c2,c3⟩:=WN hl hln h3
   have hb:σ (res+i)=none:=I.pend i hlt hnl
   have hbx:res+i<nx:=by have:=I.lim;omega
   have R:=I.rel.alloc_at (t:=t) (fz:=(0,0)) hb hbx h4 c1 c2 lR (λi _ h=>by omega) c3
   obtain⟨e1,e2,e3,e4⟩:=Ext.alloc_at (sz:=m.n) (.cells ⟨l'⟩ t) I.rel hb
   have E:=I.ext
   refine .inl ?_
   unfold Oper.wp;rw [hrun];refine hK _ _ _ (I.next F hi hr hrest e2 R ⟨λb p h=>e2 b p (E.sub b p h),?_,?_,E.le,E.os,E.tape,E.output,?_,?_,E.drawn⟩ ?_ ?_)
   ·intro b cb sz h hcb;obtain⟨b',sz',h'⟩:=e3 b cb sz h (Nat.lt_of_lt_of_le hcb E.size)
    exact E.rng b' cb sz' h' hcb
   ·intro b hbr h;obtain⟨p1,p2⟩:=E.pend b hbr h
    exact⟨e1 b (by omega) (by have:=E.le;omega) p1,p2⟩
   ·have:=E.size
    have:(w.alloc (.cells ⟨l'⟩ t)).heap.size=w.heap.size+1:=by simp
    omega
   ·intro k hk h;rw [e4 k (Nat.lt_of_lt_of_le hk E.size)];exact E.frame k hk h
   ·intro j hj hne h;exact e1 _ (by omega) (by have:=I.lim;omega) h
   ·intro d hd;rw [h5 d hd];exact hv _ _ (by simp [upd])
end Go.Vs
end
section
namespace Go.Vs
variable [GTab] {P:Program} {H:qc} {nx:Nat} {w:World} {nt:Nat} {env:Env}
theorem qi1{Q:Exit->Act->List Frame->World->Prop}{a:Act}{cs:List Frame}{id:Nat}{c:Code}
  (h:c.wpS P (λe a' cs' w'=>match e with| .exit j=>if j=id then Q .normal a' cs' w' else Q (.exit j) a' cs' w'|e=>Q e a' cs' w') a cs w):(Code.block id c).wpS P Q a cs w:=by
 intro b k hb hro;obtain⟨e,a₁,cs₁,w₁,hq,harr⟩:=h b (.inBlock id::k) hb hro
 cases e with
 |normal=>exact⟨.normal,a₁,cs₁,w₁,hq,.head step_block (Steps.trans harr (.one step_inBlock))⟩
 |exit id'=>
  by_cases hid:id'=id
  ·simp only [hid,if_true]at hq
   exact⟨.normal,a₁,cs₁,w₁,hq,.head step_block (harr k (by simp [exitTo,hid]))⟩
  ·simp only [hid,if_false]at hq
   refine⟨.exit id',a₁,cs₁,w₁,hq,λk' hk=> .head step_block (harr k' ?_)⟩
   have:(id==id')=false:=by simp;exactλh=>hid h.symm
   simp [exitTo,this,hk]
 |goto l=>exact⟨_,a₁,cs₁,w₁,hq,λk' hk=> .head step_block (harr k' (by simp [gotoIn,hk]))⟩
 |ret=>exact⟨_,a₁,cs₁,w₁,hq,.of_steps (.one step_block) harr⟩
 |panic ch=>exact⟨_,a₁,cs₁,w₁,hq,.of_steps (.one step_block) harr⟩
 |outgrown=>exact⟨_,a₁,cs₁,w₁,hq,.of_steps (b:=b) (k:=k) (cs:=cs₁) (e:= .outgrown) (.one step_block) harr⟩
theorem wW{σ:Sg}{dfs:Dfs}{a:Act}{c:Operand}{b:Bool}(ha:kT σ nt env dfs a)(h:aev env c= .bool b):a.eval c= .bool b:=by
 have:=ha.env.aev c
 rw [h]at this;cases hq:a.eval c<;>rw [hq]at this<;>cases this
 rfl
theorem JJ:∀(args:List qa) (i:Nat) (env:Env) (t:Nat),i+args.length<=4096->t<4096->
  get2 t (yh args i env)=if i<=t/\t<i+args.length then args.getD (t - i) .und else get2 t env
 |[],i,env,t,_,_=>by
  have:¬(i<=t/\t<i+([]:List qa).length):=by simp
  rw [if_neg this];rfl
 |v::args,i,env,t,h,ht=>by
  show get2 t (yh args (i+1) (Zq i v env))=_
  simp only [List.length_cons]at h
  rw [JJ args (i+1) _ t (by omega) ht,Zi (by omega) ht]
  by_cases h1:i=t
  ·subst h1;rw [if_neg (by omega),if_pos rfl,if_pos (by simp)]
   simp
  ·rw [if_neg h1];by_cases h2:i+1<=t/\t<i+1+args.length
   ·rw [if_pos h2,if_pos (by simp;omega)]
    have e:t - i=(t - (i+1))+1:=by omega
    rw [e];simp
   ·rw [if_neg h2,if_neg (by simp;omega)]
theorem ZO{σ:Sg}{args:List qa}{args':List Value}(hn:nt<=4096)(hl:args.length<=nt)(hd:zj σ args args'):
  kQ σ nt (yh args 0 (qeo (.tuple []))) ((⟨args'⟩:Array Value)++Array.replicate (nt - (⟨args'⟩:Array Value).size) undef):=by
 have hlen:=hd.length
 have hs:(⟨args'⟩:Array Value).size=args'.length:=rfl
 refine⟨by simp;omega,hn,λt ht=> ?_⟩
 rw [JJ args 0 _ t (by omega) ht]
 by_cases h:t<args.length
 ·rw [if_pos (by omega)]
  obtain⟨v',e,d⟩:=hd.get t args[t] (by simp [List.getElem?_eq_getElem h])
  have e1:((⟨args'⟩:Array Value)++Array.replicate (nt - (⟨args'⟩:Array Value).size) undef).getD t undef=v':=by
   have:((⟨args'⟩:Array Value)++Array.replicate (nt - (⟨args'⟩:Array Value).size) undef)[t]?=some v':=by
    rw [Array.getElem?_append_left (by rw [hs];omega)]
    simpa using e
   rw [Array.getD_eq_getD_getElem?,this]
   rfl
  rw [e1]
  simpa [List.getD,List.getElem?_eq_getElem h]using d
 ·rw [if_neg (by omega),qo4]
  have e1:((⟨args'⟩:Array Value)++Array.replicate (nt - (⟨args'⟩:Array Value).size) undef).getD t undef=undef:=by
   by_cases h2:t<nt
   ·have:((⟨args'⟩:Array Value)++Array.replicate (nt - (⟨args'⟩:Array Value).size) undef)[t]?=some undef:=by
     rw [Array.getElem?_append_right (by rw [hs];omega),Array.getElem?_replicate,if_pos (by rw [hs];omega)]
    rw [Array.getD_eq_getD_getElem?,this]
    rfl
   ·have:((⟨args'⟩:Array Value)++Array.replicate (nt - (⟨args'⟩:Array Value).size) undef)[t]?=none:=by
     apply Array.getElem?_eq_none
     rw [Array.size_append,Array.size_replicate,hs];omega
    rw [Array.getD_eq_getD_getElem?,this]
    rfl
  rw [e1];exact .tuple .nil
theorem ZH{σ:Sg}{tmps:Array Value}(hr:Rel σ H nx w)(he:kQ σ nt env tmps):
  ∀(rs:List ResultVar) (vs:List qa),km P env H rs=some vs->
   ∃vs',zj σ vs vs'/\(rs.mapM (λ| .tmp t=>pure (tmps.getD t undef)| .cell a t=>do loadVar t (<-asAddr (tmps.getD a undef))):Sem (List Value)).run P w= .ok vs' w
 |[],vs,h=>by cases h;exact⟨[],.nil,rfl⟩
 | .tmp t::l,vs,h=>by
  unfold km at h;split at h<;>try (cases h;done)
  rename_i vs1 hle h1;cases h
  obtain⟨vs',hd,hrun⟩:=ZH hr he l vs1 h1
  refine⟨tmps.getD t undef::vs',.cons (he.den t (Nat.lt_of_le_of_lt (Nat.le_of_ble_eq_true hle) (by decide))) hd,?_⟩
  simp only [List.mapM_cons,Sem.run_bind,Sem.run_pure,Result.andThen_ok,hrun]
 | .cell a t::l,vs,h=>by
  unfold km at h;split at h<;>try (cases h;done)
  rename_i vs1 hle h1;split at h<;>try (cases h;done)
  rename_i v hv;cases h
  obtain⟨vs',hd,hrun⟩:=ZH hr he l vs1 h1
  have hda:=he.den a (Nat.lt_of_le_of_lt (Nat.le_of_ble_eq_true hle) (by decide))
  obtain⟨x',dx,hx⟩:=WZ (P:=P) hr hda hv
  refine⟨x'::vs',.cons dx hd,?_⟩
  have isptr:∃ad,tmps.getD a undef= .pointer (some ad):=by
   unfold Jd at hv;split at hv<;>try (cases hv;done)
   all_goals
    rename_i heq;rw [heq]at hda;cases hq:tmps.getD a undef<;>rw [hq]at hda<;>cases hda
    exact⟨_,rfl⟩
  obtain⟨ad,had⟩:=isptr
  rw [had]at hx;have hx':(loadVar t ad).run P w= .ok x' w:=by simpa [Instr.loadAt,Instr.sureAddr]using hx
  have hasa:(asAddr (tmps.getD a undef)).run P w= .ok ad w:=by rw [had];rfl
  simp only [List.mapM_cons,Sem.run_bind,hasa,Result.andThen_ok,hx',hrun,Sem.run_pure]
theorem w6{σ:Sg}{tmps:Array Value}{fn:Func}{vs:List qa}(hr:Rel σ H nx w)(he:kQ σ nt env tmps)
  (h:km P env H fn.results.toList=some vs):∃v',Den σ (yr vs) v'/\(results fn tmps).run P w= .ok v' w:=by
 obtain⟨vs',hd,hrun⟩:=ZH hr he _ vs h
 have hm:(fn.results.mapM (λ| .tmp t=>pure (tmps.getD t undef)| .cell a t=>do loadVar t (<-asAddr (tmps.getD a undef))):Sem (Array Value)).run P w= .ok ⟨vs'⟩ w:=by
  rw [Array.mapM_eq_mapM_toList];simp only [Sem.run_map]
  rw [hrun]
  rfl
 refine⟨if h:(⟨vs'⟩:Array Value).size=1 then(⟨vs'⟩:Array Value)[0]else .tuple ⟨vs'⟩,?_,?_⟩
 ·cases hd with
  |nil=>exact .tuple .nil
  |cons h1 t1=>cases t1 with
   |nil=>exact h1
   |cons h2 t2=>exact .tuple (.cons h1 (.cons h2 t2))
 ·unfold results;rw [Sem.run_bind];exact(congrArg (λr:Result (Array Value)=>r.andThen λvs w'=>Sem.run P (pure (if h:vs.size=1 then vs[0]else .tuple vs)) w') hm).trans rfl
theorem qjz{σ:Sg}{m:qw}{u:FrameMode}(h:QX σ m u):QX σ (VQ m) (settle u):=by
 cases m with
 |returning=>cases u<;>first|exact h.elim|trivial
 |panicking l=>
  cases u with
  |run=>exact h.elim
  |returning=>exact h.elim
  |panicking c=>
   have hc:kA σ l c:=h
   cases hc with
   |nil=>exact kA.nil
   | @cons v r p l c hv hr hg t=>
    obtain⟨pv,pr,pg⟩:=p
    simp only at hr hg hv
    subst hr;subst hg;cases pr with
    |false=>exact kA.cons hv rfl rfl t
    |true=>
     have all:∀{l:List (qa×Bool)} {c:List PanicEntry},kA σ l c->c.dropWhile (!·.goexit)=[]:=by
      intro l c hch
      induction hch with
      |nil=>rfl
      |cons hv hr hg t ih=>simp [hg,ih]
     show QX σ .returning (settle (.panicking ({v:=pv,recovered:=true,goexit:=false}::c)))
     simp only [settle,all t]
     trivial
theorem qiy{σ:Sg}{m:qw}{u:FrameMode}{l:List (qa×Bool)}{c:List PanicEntry}(h:QX σ m u)(hc:kA σ l c):QX σ (VX m l) (raised u c):=by
 cases m with
 |returning=>cases u<;>first|exact h.elim|exact hc
 |panicking l0=>cases u<;>first|exact h.elim|exact hc.append h
theorem qp8{σ:Sg}{m:qw}{u:FrameMode}(h:QX σ m u):u≠ .run:=by
 rintro rfl
 cases m<;>exact h.elim
end Go.Vs
end
section
namespace Go.Vs
variable [GTab] {ops:Array Oper} {nt:Nat}
def qt2(P:Program)(ops:Array Oper)(o:Oper)(a:Act)(w:World)(next:Act->World->Prop)(Q:Exit->Act->World->Prop):Prop:=
 if Region.wanted o (yielded ops a.tmps)=true then o.wp P a w next Q\/(o.asks P a w/\LetsOut Q)else next (a.put o.dst undef) w
noncomputable def left(ops:Array Oper)(listed:Array Bool):Nat:=(List.range ops.size).countP λi=> !listed.getD i false
theorem Yz{α:Type}{p q:α->Bool}:∀{l:List α},(∀x,x∈l->p x=true->q x=true)->(∃x,x∈l/\p x=false/\q x=true)->l.countP p<l.countP q
 |[],_,⟨x,hx,_⟩=>by cases hx
 |y::l,h,⟨x,hx,hp,hq⟩=>by
  rw [List.countP_cons,List.countP_cons];have mono:l.countP p<=l.countP q:=List.countP_mono_left λz hz=>h z (List.mem_cons_of_mem _ hz)
  have hy:=h y (List.mem_cons_self ..)
  rcases List.mem_cons.1 hx with rfl|hx
  ·rw [hp,hq];simp;omega
  ·have ih:=Yz (λz hz=>h z (List.mem_cons_of_mem _ hz)) ⟨x,hx,hp,hq⟩
   cases e1:p y with
   |false=>simp;omega
   |true=>rw [hy e1];simp;omega
theorem Ki{listed:Array Bool}{i:Nat}(hs:listed.size=ops.size)(hi:i<ops.size)(hn:¬isL listed i):left ops (listed.setIfInBounds i true)<left ops listed:=by
 refine Yz (λx _ hx=> ?_) ⟨i,List.mem_range.2 hi,?_,?_⟩
 ·cases e:listed.getD x false with
  |false=>rfl
  |true=>have:=(wK (listed:=listed) (i:=i) (j:=x) (by omega)).2 (.inr e);unfold isL at this;rw [this]at hx;cases hx
 ·have:=(wK (listed:=listed) (i:=i) (j:=i) (by omega)).2 (.inl rfl);unfold isL at this;rw [this];rfl
 ·cases e:listed.getD i false with
  |false=>rfl
  |true=>exact(hn e).elim
theorem KM{listed:Array Bool}(h:left ops listed=0):∀i,i<ops.size->isL listed i:=by
 intro i hi;unfold left at h;rw [List.countP_eq_zero]at h;have:=h i (List.mem_range.2 hi)
 unfold isL;cases e:listed.getD i false with
 |true=>rfl
 |false=>rw [e]at this;simp at this
theorem jI{listed:Array Bool}{i:Nat}(hs:listed.size=ops.size):i∈Region.ready .any ops listed↔∃o,ops[i]?=some o/\¬isL listed i/\∀e,e∈o.after.toList->Region.binds .any e=true->isL listed e.on:=by
 unfold Region.ready;rw [List.mem_filter,List.mem_range]
 constructor
 ·rintro⟨h1,h2⟩
  have hi:ops[i]?=some ops[i]:=Array.getElem?_eq_getElem h1
  rw [hi,Bool.and_eq_true]at h2;obtain⟨h2,h3⟩:=h2
  refine⟨_,hi,?_,?_⟩
  ·intro h;unfold isL at h;have:listed.getD i true=true:=by
    rw [Array.getD_eq_getD_getElem?]at h ⊢;rw [Array.getElem?_eq_getElem (by omega)]at h ⊢
    exact h
   rw [this]at h2;cases h2
  ·intro e he hb;simp only [Option.map_some,Option.getD_some,Array.all_eq_true']at h3
   have:=h3 e (by simpa using he)
   rw [hb]at this
   simpa [isL]using this
 ·rintro⟨o,ho,h1,h2⟩
  have hlt:i<ops.size:=(Array.getElem?_eq_some_iff.1 ho).1
  refine⟨hlt,?_⟩
  rw [ho,Bool.and_eq_true]
  constructor
  ·unfold isL at h1;rw [Array.getD_eq_getD_getElem?]at h1 ⊢;rw [Array.getElem?_eq_getElem (by omega)]at h1 ⊢
   simpa using h1
  ·simp only [Option.map_some,Option.getD_some,Array.all_eq_true']
   intro e he;have:=h2 e (by simpa using he)
   cases hb:Region.binds .any e with
   |false=>rfl
   |true=>simpa [isL]using this hb
theorem Qa{as:List Nat}(F:jU nt ops as){listed:Array Bool}(hs:listed.size=ops.size)(h:Region.ready .any ops listed=[]):∀i,i<ops.size->isL listed i:=by
 intro i
 induction i using Nat.strongRecOn with
 |_ i ih=>
  intro hi;refine Classical.byContradiction λhn=> ?_
  have ho:ops[i]?=some ops[i]:=Array.getElem?_eq_getElem hi
  have:i∈Region.ready .any ops listed:=(jI hs).2 ⟨_,ho,hn,λe he hb=>by
   have:=F.edge i _ ho e he hb
   exact ih e.on this (by omega)⟩
  rw [h]at this;cases this
theorem KR{as:List Nat}:∀{rest:List wH} {p:Nat} {past:List Nat},JN ops as rest (some p) past=true->∀i,i∈named rest->∃j,(j=p\/j∈named rest)/\bit (as.getD i 0) j=true
 |[],_,_,_,i,hi=>by cases hi
 |(e,L,A)::rest,p,past,h,i,hi=>by
  unfold JN at h;split at h<;>try (cases h;done)
  rename_i o ho hp;split at h<;>try (cases h;done)
  rename_i hf hL;split at h<;>try (cases h;done)
  split at h<;>try (cases h;done)
  unfold named at hi;rcases List.mem_cons.1 hi with rfl|hi
  ·exact⟨p,.inl rfl,hp⟩
  ·rcases List.mem_append.1 hi with hi|hi
   ·exact⟨e,.inr (by unfold named;exact List.mem_cons_self ..),jg hL i hi⟩
   ·obtain⟨j,hj,hb⟩:=KR h i hi
    refine⟨j,.inr ?_,hb⟩
    unfold named;rcases hj with rfl|hj
    ·exact List.mem_cons_self ..
    ·exact List.mem_cons_of_mem _ (List.mem_append_right _ hj)
theorem ZS(hn:nt<=4096):∀(l:List Oper) (env:Env) (t:Nat),t<4096->(∀o,o∈l->Qp nt o.dst=true)->get2 t (Zh l env)= .und\/((∀o,o∈l->o.dst≠some t)/\get2 t (Zh l env)=get2 t env)
 |[],env,t,_,_=> .inr ⟨λo ho=>(by cases ho),rfl⟩
 |o::l,env,t,ht,hd=>by
  have e:Zh (o::l) env=Zh l (put o.dst .und env):=rfl
  rw [e];rcases ZS hn l (put o.dst .und env) t ht (λq hq=>hd q (List.mem_cons_of_mem _ hq))with h|⟨h1,h2⟩
  ·exact .inl h
  ·by_cases ed:o.dst=some t
   ·refine .inl ?_
    rw [h2,ed];exact kD
   ·refine .inr ⟨λq hq=> ?_,?_⟩
    ·rcases List.mem_cons.1 hq with rfl|hq
     ·exact ed
     ·exact h1 q hq
    ·rw [h2,jX (hd o (List.mem_cons_self ..)) hn ht ed]
theorem vo{n i:Nat}:¬isL (Array.replicate n false) i:=by
 unfold isL;rw [Array.getD_eq_getD_getElem?,Array.getElem?_replicate];split<;>simp
theorem Rel.more{σ:Sg}{H:qc}{nx nx':Nat}{w:World}(h:Rel σ H nx w)(hn:nx<=nx')(hl:nx'<=nx'):Rel σ H nx' w:=
 ⟨hl,λb cb sz e=>⟨Nat.lt_of_lt_of_le (h.dom b cb sz e).1 hn,(h.dom b cb sz e).2⟩,h.obj,h.sep,h.sup,h.old,h.glob⟩
end Go.Vs
end
