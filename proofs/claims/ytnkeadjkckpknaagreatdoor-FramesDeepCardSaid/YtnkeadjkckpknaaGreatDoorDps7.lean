/-
  Own work. Texts of a proof,laid together; no condition.
-/
import Derived.MakeChecks
import Derived.RowKit
import Derived.Test.YtnkeadjkckpknaaGreatDoorChecked
import Derived.Test.YtnkeadjkckpknaaGreatDoorDps5
import Derived.Test.YtnkeadjkckpknaaGreatDoorDpsMSrcD
import Derived.Test.YtnkeadjkckpknaaGreatDoorDps6
import Derived.Test.YtnkeadjkckpknaaGreatDoorDps4
import Derived.Test.YtnkeadjkckpknaaGreatDoorDpsSrcDeep
set_option linter.unusedSectionVars false
set_option linter.unusedVariables false
set_option linter.unusedSimpArgs false
set_option maxRecDepth 1000000
section
namespace Go.Vs
open Go Go.Proofs
variable [GTab]
theorem WpP.part {P : Program} {nt : Nat} {c : Code} {env : Env} {H : Heap} {nx : Nat} {dfs : Dfs} {K : KP} {ts : List Nat} (hm : P.follows .mixedOrders = true)
  (h : vK P (TriP P) (LpP P nt) nt c env H nx dfs none (vx ts (jT (fun e H n d _ => K .normal e H n d none) (fun id e H n d _ => K (.exit id) e H n d none) (fun e H n d _ => K .ret e H n d none) (fun l e H n d _ => K (.pan l) e H n d none)))) : WpP P nt c env H nx dfs K :=
 WpP.trim (WpP.mono (WpP.of_vK hm h) (by intro ex env' H' nx' dfs' h; cases ex <;> exact h))
theorem qha (call : qh) (lp : Nat → qj) (lv : ql) (lvc : qk) (b : Nat) (i n : Int) (l : AVal) (H : Heap) (nx : Nat) (K : EndP) :
  zW Tryz.prog call (lp 108) 108 (qs Tryz.prog 22) [1,1,0,1,0] (endK Tryz.prog lv lvc K (kj Tryz.prog 22)) .ret (envL .und [(4,.bool false),(21,iv i),(20,iv n),(19,l),(2,.ptr b 0),(1,l)]) H nx [] none = K (.ret (.bool false)) H nx := by kernel_rfl
theorem qdf : qY (qs Tryz.prog 22) [1,1,0,1,0,0] = .seq (qY (qs Tryz.prog 22) [1,1,0,1,0,0,0]) (.seq (.cond (.tmp 22) .skip (.exit 0)) (.seq (.block 1 (.seq (qY (qs Tryz.prog 22) [1,1,0,1,0,0,1,1,0,0,0])
  (.seq (qY (qs Tryz.prog 22) [1,1,0,1,0,0,1,1,0,0,1,0]) (.seq (.seq (qY (qs Tryz.prog 22) [1,1,0,1,0,0,1,1,0,0,1,1,0,0]) (.cond (.tmp 68) (qY (qs Tryz.prog 22) [1,1,0,1,0,0,1,1,0,0,1,1,0,1,0]) .skip))
   (.seq (qY (qs Tryz.prog 22) [1,1,0,1,0,0,1,1,0,0,1,1,1,0]) (.seq (qY (qs Tryz.prog 22) [1,1,0,1,0,0,1,1,0,0,1,1,1,1,0]) (qY (qs Tryz.prog 22) [1,1,0,1,0,0,1,1,0,0,1,1,1,1,1]))))))) (qY (qs Tryz.prog 22) [1,1,0,1,0,0,1,1,1]))) := by kernel_rfl
theorem yV {b : Bool} {p q : Prop} (h : b = false) (hq : q) : ifB b p q := by rw [h]; exact hq
theorem qey {b : Bool} {p q : Prop} (h : b = true) (hq : p) : ifB b p q := by rw [h]; exact hq
def FOK (code : j0) (hs : List (List Int)) (f : Fm) (last : Prop) (e : Int) : Prop :=
 ∃ (fi pcn : Nat) (ht : List Int) (h : Int),f.f = fi ∧ f.pc = pcn ∧ hs[fi]? = some ht ∧ ht[pcn]? = some h ∧ 0 ≤ h ∧ h < 1000000 ∧ code f.f (-1) = some (37,(f.ls.length : Int),0) ∧
  ((last ∧ e = h) ∨ (¬ last ∧ ∃ a B,code f.f f.pc = some (36,a,B) ∧ 0 ≤ B ∧ B < 1000000 ∧ e = h - B))
theorem Kk {Γ : GH} {v : AVal} {f : Int} {n : Nat} (h : jv Γ v f = some n) : 0 ≤ f ∧ ∃ b off len e full cs lv,v = .slice b off len e full ∧ f < len ∧ Γ b = some cs ∧ cs[off + f.toNat * 5 + 3]? = some lv ∧ lenS lv = some n := by
 unfold jv at h
 split at h <;> try (cases h; done)
 split at h <;> try (cases h; done)
 rename_i hf
 split at h <;> try (cases h; done)
 rename_i cs hc
 split at h <;> try (cases h; done)
 rename_i lv hl
 exact ⟨hf.1,_,_,_,_,_,_,_,rfl,hf.2,hc,hl,h⟩
theorem ZC {Γ : GH} {v : AVal} {f pc op a b : Int} (e : j7 Γ v f pc = some (op,a,b)) : 0 ≤ f ∧ 0 ≤ pc ∧ ∃ b1 o1 v2 b3 o3 cs ds,idxS v f.toNat 5 = some (.ptr b1 o1) ∧ Γ b1 = some cs ∧ cs[o1 + 4]? = some v2 ∧ idxS v2 pc.toNat 3 = some (.ptr b3 o3) ∧
  Γ b3 = some ds ∧ o3 + 3 ≤ ds.length ∧ (ds.drop o3).take 3 = [iv op,iv a,iv b] := by
 unfold j7 at e
 split at e <;> try (cases e; done)
 split at e <;> try (cases e; done)
 rename_i hf
 split at e <;> try (cases e; done)
 rename_i cs hc
 split at e <;> try (cases e; done)
 rename_i cb coff clen ez fl hcs
 split at e <;> try (cases e; done)
 rename_i hp
 split at e <;> try (cases e; done)
 rename_i ds hd
 split at e <;> try (cases e; done)
 rename_i op' a' b' ht
 cases e
 refine ⟨hf.1,hp.1,_,_,.slice cb coff clen ez fl,_,_,cs,ds,qW (by omega),hc,hcs,qW (by omega),hd,?_,ht⟩
 have := congrArg List.length ht
 rw [List.length_take,List.length_drop] at this
 simp at this
 omega
theorem VU {Γ : GH} {H : Heap} {nx : Nat} {p0 p1 p4 l : AVal} {p2 : Int} {fs : List Fm} {code : j0} {hs : List (List Int)} {es : Nat → Int} {K : EndP} (hk : HOK Γ H nx) (hc : CodeIn Γ p1 code) (hh : HtsOK Γ (.agg [p0,p1,iv p2,.nilSlice,p4]) hs)
  (hl : FrIn Γ l fs) (h0 : 0 < fs.length) (h1 : fs.length ≤ 30) (hf : ∀ i f,fs[i]? = some f → FOK code hs f (i + 1 = fs.length) (es i))
  (hK : ∀ H' Γ' nx' r,nx ≤ nx' → HOK Γ' H' nx' → Sub Γ Γ' → (r = true ↔ ∀ i f,fs[i]? = some f → (f.st.length : Int) = es i) → K (.ret (.bool r)) H' nx') : TriP Tryz.prog 22 [.agg [p0,p1,iv p2,.nilSlice,p4],l] H nx K := by
 refine TriP.of_body qw ?_
 rw [XI]
 unfold Yb
 have hlen : lenS l = some fs.length := by obtain ⟨b,full,cs,rfl,_⟩ := hl; rfl
 refine ⟨_,rfl,_,hlen,qA (by simp only [Int.ofNat_eq_natCast]; omega) ⟨_,hlen,qA (by simp only [Int.ofNat_eq_natCast]; omega) ⟨_,hlen,?_⟩⟩⟩
 have k0 := hk.new (b := nx) (nx' := nx + 1) (by omega) (by omega) [p0,p1,iv p2,.nilSlice,p4]
 have s0 : Sub Γ (gup nx (some [p0,p1,iv p2,.nilSlice,p4]) Γ) := .new hk (Nat.le_refl _)
 rw [show kB nx [p0,p1,iv p2,AVal.nilSlice,p4].length [p0,p1,iv p2,.nilSlice,p4] H = newB nx [p0,p1,iv p2,.nilSlice,p4] H from rfl]
 refine KS (P := Tryz.prog) (X := Nat) (Y := Unit) (fun i => envL .und [(21,iv i),(20,iv fs.length),(19,l),(2,.ptr nx 0),(1,l)]) (fun _ => envL .und [(2,.ptr nx 0)])
  (fun m i H1 nx1 => m = fs.length - i ∧ i ≤ fs.length ∧ nx + 1 ≤ nx1 ∧ ∃ Γ1,HOK Γ1 H1 nx1 ∧ Sub (gup nx (some [p0,p1,iv p2,.nilSlice,p4]) Γ) Γ1 ∧ ∀ j f,j < i → fs[j]? = some f → (f.st.length : Int) = es j)
  (fun id _ H1 nx1 => id = 0 ∧ nx + 1 ≤ nx1 ∧ ∃ Γ1,HOK Γ1 H1 nx1 ∧ Sub (gup nx (some [p0,p1,iv p2,.nilSlice,p4]) Γ) Γ1 ∧ ∀ j f,fs[j]? = some f → (f.st.length : Int) = es j) fs.length 0 (qI.of_list (by exact ⟨rfl,rfl,rfl,rfl,rfl,trivial⟩))
  ⟨rfl,Nat.zero_le _,Nat.le_refl _,_,k0,.refl _,fun j f hj => absurd hj (by omega)⟩ ?_ ?_
 ·rintro m i H1 nx1 ⟨rfl,hi,hnx,Γ1,k1,s1,hall⟩
  rw [qdf]
  refine WpP.seq (WpP.part (ts := [22,21,20,19,2,1]) qw ?_)
  rw [qh8]
  unfold RB4
  show WpP _ _ (.seq _ _) _ _ _ _ _
  by_cases hlt : i < fs.length
  ·refine WpP.seq (WpP.cond (p := true) (by show AVal.bool (decide _) = _; rw [decide_eq_true (by omega)]) (WpP.skip ?_))
   show WpP _ _ (.seq _ _) _ _ _ _ _
   refine WpP.weaken (e := envL .und [(21,iv i),(20,iv fs.length),(19,l),(2,.ptr nx 0),(1,l)]) (qI.of_list (by exact ⟨rfl,rfl,rfl,rfl,rfl,trivial⟩)) ?_
   refine WpP.seq (WpP.block (WpP.seq (WpP.part (ts := [5,6,21,20,19,2,1]) qw ?_)))
   rw [qgu]
   unfold RB5
   obtain ⟨p,lv,sv,q1,q2,q3,q4,q5,q6⟩ := YE k1 (hl.mono (s0.trans s1)) hlt
   obtain ⟨fi,pcn,ht,h,e1,e2,e3,e4,e5,e6,e7,e8⟩ := hf i _ (List.getElem?_eq_getElem hlt)
   have kk := k1.new (b := nx1) (nx' := nx1 + 1) (Nat.le_refl _) (by omega) [iv 0,iv 0,.nilSlice,.nilSlice]
   obtain ⟨H6,s6,k6⟩ := kk.st (off := 0) (vs := [iv fs[i].f,iv fs[i].pc,lv,sv]) (qc _ _ _) (by simp) (by simp [qo,q5,q6]; rfl)
   rw [show qC [iv 0,iv 0,AVal.nilSlice,.nilSlice] 0 [iv fs[i].f,iv fs[i].pc,lv,sv] = [iv fs[i].f,iv fs[i].pc,lv,sv] from rfl,vh] at k6
   have n6 : Sub Γ1 (gup nx1 (some [iv fs[i].f,iv fs[i].pc,lv,sv]) Γ1) := .new k1 (Nat.le_refl _)
   refine ⟨by omega,p,by rw [Int.toNat_natCast]; exact q1,_,_,_,_,q2,_,rfl,H6,s6,?_⟩
   show WpP _ _ (.seq _ _) _ _ _ _ _
   refine WpP.weaken (e := envL .und [(5,iv i),(6,.ptr nx1 0),(21,iv i),(20,iv fs.length),(19,l),(2,.ptr nx 0),(1,l)]) (qI.of_list (by exact ⟨rfl,rfl,rfl,rfl,rfl,rfl,rfl,trivial⟩)) ?_
   refine WpP.seq (WpP.part (ts := [8,7,5,6,21,20,19,2,1]) qw ?_)
   rw [qh3]
   unfold RB6
   have f6 : gup nx1 (some [iv fs[i].f,iv fs[i].pc,lv,sv]) Γ1 nx = some [p0,p1,iv p2,.nilSlice,p4] := n6 _ _ (s1 _ _ (qc _ _ _))
   refine ⟨_,_,_,_,_,by rw [k6.ldN f6 (by simp)]; rfl,_,rfl,fi,by rw [k6.ld1 (qc _ _ _),← e1]; rfl,?_⟩
   refine hh fi ht e3 _ _ _ _ ((s0.trans s1).trans n6) k6 fun H7 Γ7 nx7 hb fl hn7 k7 n7 ehb => ?_
   rw [qd]
   refine ⟨_,_,rfl,?_⟩
   show WpP _ _ (.seq _ _) _ _ _ _ _
   refine WpP.weaken (e := envL .und [(8,.bool true),(7,.slice hb 0 ht.length 1 fl),(5,iv i),(6,.ptr nx1 0),(21,iv i),(20,iv fs.length),(19,l),(2,.ptr nx 0),(1,l)]) (qI.of_list (by exact ⟨rfl,rfl,rfl,rfl,rfl,rfl,rfl,rfl,rfl,trivial⟩)) ?_
   refine WpP.seq (WpP.seq (WpP.part (ts := [68,7,5,6,21,20,19,2,1]) qw ?_))
   rw [qh1]
   unfold RB7
   have f7 : Γ7 nx1 = some [iv fs[i].f,iv fs[i].pc,lv,sv] := n7 _ _ (qc _ _ _)
   have g7 : Γ7 nx = some [p0,p1,iv p2,.nilSlice,p4] := n7 _ _ f6
   have d0 : ld1 H7 (.ptr nx1 0) = some (iv fi) := by rw [k7.ld1 f7,← e1]; rfl
   have d1 : ld1 H7 (.ptr nx1 1) = some (iv pcn) := by rw [k7.ld1 f7,← e2]; rfl
   have d2 : ld1 H7 (.ptr nx1 2) = some lv := by rw [k7.ld1 f7]; rfl
   have d3 : ld1 H7 (.ptr nx1 3) = some sv := by rw [k7.ld1 f7]; rfl
   have dp : ld1 H7 (.ptr nx 1) = some p1 := by rw [k7.ld1 g7]; rfl
   have hpl : pcn < ht.length := (List.getElem?_eq_some_iff.1 e4).1
   have dh : ld1 H7 (.ptr hb pcn) = some (iv h) := by rw [k7.ld1 ehb,List.getElem?_map,e4]; rfl
   have ix : idxS (.slice hb 0 ht.length 1 fl) ((pcn : Int).toNat) 1 = some (.ptr hb pcn) := by rw [Int.toNat_natCast,qW hpl]; simp
   have t7 : Sub Γ Γ7 := ((s0.trans s1).trans n6).trans n7
   obtain ⟨w0,cb,coff,clen,ce,cf,cs,lvp,rfl,w1,w2,w3,w4⟩ := Kk (hc.locals _ _ e7)
   rw [e1] at w1 w3
   have w4' : lenS lvp = some fs[i].ls.length := by rw [w4]; simp
   have dl : ld1 H7 (.ptr cb (coff + fi * 5 + 3)) = some lvp := by rw [k7.ld1 (t7 _ _ w2)]; simpa using w3
   refine ⟨_,rfl,pcn,d1,qA (by omega) ⟨_,rfl,pcn,d1,_,rfl,qA (by simp only [Int.ofNat_eq_natCast]; omega) ⟨_,rfl,pcn,d1,by omega,_,ix,h,dh,qA (by omega) ⟨_,rfl,_,d2,_,q3.len,_,rfl,_,dp,_,rfl,fi,d0,by omega,_,by rw [Int.toNat_natCast]; exact qW (by omega),
    _,qt _ _ _,_,dl,_,w4',⟨⟨_,d1,rfl⟩,⟨_,d1,rfl⟩,⟨_,d1,rfl⟩,⟨_,dh,rfl⟩,⟨_,d2,rfl⟩,⟨_,dp,rfl⟩,⟨_,d0,rfl⟩,⟨_,dl,rfl⟩,trivial⟩,?_⟩⟩⟩⟩
   show WpP _ _ (.cond _ _ _) _ _ _ _ _
   refine WpP.cond (p := false) (by show AVal.bool (!decide _) = _; simp) (WpP.skip ?_)
   show WpP _ _ (.seq _ _) _ _ _ _ _
   refine WpP.weaken (e := envL .und [(7,.slice hb 0 ht.length 1 fl),(5,iv i),(6,.ptr nx1 0),(21,iv i),(20,iv fs.length),(19,l),(2,.ptr nx 0),(1,l)]) (qI.of_list (by exact ⟨rfl,rfl,rfl,rfl,rfl,rfl,rfl,rfl,trivial⟩)) ?_
   refine WpP.seq (WpP.part (ts := [9,5,6,21,20,19,2,1]) qw ?_)
   rw [qf9]
   unfold RB9
   have k7' := k7.more (show nx7 ≤ nx7 + 36 by omega)
   refine ⟨_,rfl,pcn,d1,by omega,_,ix,h,dh,?_⟩
   show WpP _ _ (.seq _ _) _ _ _ _ _
   refine WpP.weaken (e := envL .und [(9,iv h),(5,iv i),(6,.ptr nx1 0),(21,iv i),(20,iv fs.length),(19,l),(2,.ptr nx 0),(1,l)]) (qI.of_list (by exact ⟨rfl,rfl,rfl,rfl,rfl,rfl,rfl,rfl,trivial⟩)) ?_
   have ew1 : IntKind.i64.wrap (Int.ofNat fs.length - 1) = (fs.length : Int) - 1 := by simp only [Int.ofNat_eq_natCast]; exact qP (by omega) (by omega)
   have mid : WpP Tryz.prog 108 (qY (qs Tryz.prog 22) [1,1,0,1,0,0,1,1,0,0,1,1,1,1,0]) (envL .und [(9,iv h),(5,iv i),(6,.ptr nx1 0),(21,iv i),(20,iv fs.length),(19,l),(2,.ptr nx 0),(1,l)]) H7 (nx7 + 36) []
     (fun ex env' H' nx' dfs' _ => ex = .normal ∧ dfs' = [] ∧ ∃ Γ8,env' = envL .und [(9,iv (es i)),(6,.ptr nx1 0),(21,iv i),(20,iv fs.length),(19,l),(2,.ptr nx 0),(1,l)] ∧ nx1 ≤ nx' ∧ HOK Γ8 H' nx' ∧ Sub Γ7 Γ8) := by
    refine WpP.part (ts := [9,6,21,20,19,2,1]) qw ?_
    rw [qct]
    unfold RB10
    refine ⟨_,hlen,?_⟩
    rw [ew1]
    rcases e8 with ⟨e8,e9⟩ | ⟨e8,a,B,e9,e10,e11,e12⟩
    ·refine qA (by omega) ?_
     exact ⟨rfl,rfl,Γ7,by rw [e9],by omega,k7',.refl _⟩
    ·obtain ⟨x1,x2,b1,o1,v2,b3,o3,cs1,ds,y1,y2,y3,y4,y5,y6,y7⟩ := ZC (hc.instr _ _ _ (by simp) e9)
     rw [e1,Int.toNat_natCast] at y1
     rw [e2] at y4
     have z1 : ld1 H7 (.ptr b1 (o1 + 4)) = some v2 := by rw [k7.ld1 (t7 _ _ y2)]; exact y3
     have z2 : ldN H7 3 (.ptr b3 o3) = some (.agg [iv 36,iv a,iv B]) := by rw [k7.ldN (t7 _ _ y5) y6,y7]
     have k14 := k7'.new (b := nx7 + 36 + 11) (nx' := nx7 + 36 + 13) (by omega) (by omega) [iv 0,iv 0,iv 0]
     have n14 : Sub Γ7 (gup (nx7 + 36 + 11) (some [iv 0,iv 0,iv 0]) Γ7) := .new k7' (by omega)
     obtain ⟨H22,s22,k22⟩ := k14.st (off := 0) (vs := [iv 36,iv a,iv B]) (qc _ _ _) (by simp) rfl
     rw [vh,show qC [iv 0,iv 0,iv 0] 0 [iv 36,iv a,iv B] = [iv 36,iv a,iv B] from rfl] at k22
     have n22 : Sub Γ7 (gup (nx7 + 36 + 11) (some [iv 36,iv a,iv B]) Γ7) := .new k7' (by omega)
     refine jA (by omega) ⟨_,rfl,_,dp,_,rfl,fi,d0,by omega,_,by rw [Int.toNat_natCast]; exact y1,_,qt _ _ _,_,z1,_,rfl,pcn,d1,by omega,_,y4,36,a,B,z2,_,rfl,⟨⟨_,?_,rfl⟩,⟨fi,?_,rfl⟩,⟨_,?_,rfl⟩,⟨pcn,?_,rfl⟩,⟨36,a,B,?_,rfl⟩,trivial⟩,H22,s22,trivial,_,rfl,36,?_,?_⟩
     ·rw [k14.ld1 (n14 _ _ g7)]; rfl
     ·rw [k14.ld1 (n14 _ _ f7),← e1]; rfl
     ·rw [k14.ld1 (n14 _ _ (t7 _ _ y2))]; exact y3
     ·rw [k14.ld1 (n14 _ _ f7),← e2]; rfl
     ·rw [k14.ldN (n14 _ _ (t7 _ _ y5)) y6,y7]
     ·rw [k22.ld1 (qc _ _ _)]; rfl
     ·refine yV (by simp) ⟨_,rfl,B,?_,?_⟩
      ·rw [k22.ld1 (qc _ _ _)]; rfl
      ·have ewB : IntKind.i64.wrap (h - B) = h - B := qP (by omega) (by omega)
       exact ⟨rfl,rfl,_,by rw [ewB,e12],by omega,k22,n22⟩
   refine WpP.seq (mid.mono ?_)
   rintro ex env' H8 nx8 dfs8 ⟨rfl,rfl,Γ8,rfl,hn8,k8,n8⟩
   show WpP _ _ _ _ _ _ _ _
   refine WpP.part (ts := [4,21,20,19,2,1]) qw ?_
   rw [qc9]
   unfold RB15
   have f8 := n8 _ _ f7
   refine ⟨_,rfl,sv,by rw [k8.ld1 f8]; rfl,_,q4.len,?_⟩
   by_cases heq : (fs[i].st.length : Int) = es i
   ·refine yV ?_ ?_
    ·simp only [Int.ofNat_eq_natCast]; rw [decide_eq_true heq]; rfl
    show WpP _ _ _ _ _ _ _ _
    refine WpP.weaken (e := envL .und [(21,iv i),(20,iv fs.length),(19,l),(2,.ptr nx 0),(1,l)]) (qI.of_list (by exact ⟨rfl,rfl,rfl,rfl,rfl,trivial⟩)) ?_
    refine WpP.part (ts := [21,20,19,2,1]) qw ?_
    rw [qdr]
    unfold RB17
    have ew : IntKind.i64.wrap ((i : Int) + 1) = ((i + 1 : Nat) : Int) := by rw [qP (by omega) (by omega)]; omega
    refine ⟨rfl,fs.length - (i + 1),i + 1,by omega,qI.of_list ⟨?_,rfl,rfl,rfl,rfl,trivial⟩,rfl,by omega,by omega,Γ8,k8,((s1.trans n6).trans n7).trans n8,fun j f hj hfj => ?_⟩
    ·show AVal.int .i64 _ = _
     rw [ew]
    ·rcases Nat.lt_or_ge j i with hj' | hj'
     ·exact hall j f hj' hfj
     ·have : j = i := by omega
      subst this
      rw [List.getElem?_eq_getElem hlt] at hfj
      cases hfj
      exact heq
   ·refine qey ?_ ?_
    ·simp only [Int.ofNat_eq_natCast]; rw [decide_eq_false heq]; rfl
    refine Eq.mpr (qha (TriP Tryz.prog) (LpP Tryz.prog) (Qs (jL Tryz.prog)) (wZ Tryz.prog (jL Tryz.prog)) nx i fs.length l H8 nx8 K) ?_
    refine hK _ _ _ _ (by omega) k8 ((((s0.trans s1).trans n6).trans n7).trans n8) ⟨fun h => (by cases h),fun h => ?_⟩
    exact absurd (h i _ (List.getElem?_eq_getElem hlt)) heq
  ·refine WpP.seq (WpP.cond (p := false) (by show AVal.bool (decide _) = _; rw [decide_eq_false (by omega)]) (WpP.of_vK qw ?_))
   have : i = fs.length := by omega
   subst this
   refine ⟨rfl,(),qI.of_list (by exact ⟨rfl,trivial⟩),rfl,hnx,Γ1,k1,s1,fun j f hj => hall j f (List.getElem?_eq_some_iff.1 hj).1 hj⟩
 ·rintro id _ H1 nx1 ⟨rfl,hnx,Γ1,k1,s1,hall⟩
  rw [qfv]
  exact hK _ _ _ _ (by omega) k1 (s0.trans s1) ⟨fun _ => hall,fun _ => rfl⟩
end Go.Vs
end
section
namespace Go.Vs
open Go.Ev (at')
open Go Go.Proofs Go.Bridge Go.Proofs.YtnkeadjkckpknaaGreatDoor
def qaq : Ev.Syms := { vals := [] }
theorem Xn : qaq.OK := by constructor <;> (intro t ht; cases ht)
noncomputable abbrev JA (o : Obj) : Ev.GTab := qaq.tab Xn 0 o
theorem symC {t : TypeId} {fz : Nat × Nat} : @Ev.SymC (JA (.cells zS t fz)) Tryz.prog 202 25 :=
 @Ev.SymC.mk (JA (.cells zS t fz)) _ _ _ (@Ev.SymOK.mk (JA (.cells zS t fz)) _ _ _
  (fun n w h0 h1 hg => @qg2 (JA (.cells zS t fz)) t fz Ev.Syms.blk n w h0 h1 hg) qgk (fun _ => rfl))
noncomputable abbrev gtab (tb : Nat → Option (List AVal)) (o : Obj) : GTab := { tab := tb,blk := fun b => Bool.rec none (some o) (Nat.beq b 0) }
theorem YM {w : World} {o : Obj} {tb : Nat → Option (List AVal)} (hw : w.heap[0]? = some o)
  (ht : ∀ g l,tb g = some l → g < w.heap.size ∧ ∀ (i : Nat) (v : AVal),l[i]? = some v → ∃ v',w.cell? (at' g i) = some v' ∧ ∀ τ : Sg,Den τ v v') : @Glob (gtab tb o) (fun _ => none) w := by
 refine @Glob.mk (gtab tb o) _ _ (fun g l hg => ?_) fun b o' hb => ?_
 ·obtain ⟨h1,h2⟩ := ht g l hg
  exact ⟨h1,(fun _ _ e => by cases e),h2⟩
 ·have hb' : (Bool.rec none (some o) (Nat.beq b 0) : Option Obj) = some o' := hb
  cases he : Nat.beq b 0 with
  | false => rw [he] at hb'; cases hb'
  | true =>
   rw [he] at hb'
   cases hb'
   have := Nat.eq_of_beq_eq_true he
   subst this
   refine ⟨?_,(fun _ _ e => by cases e),hw⟩
   rcases Nat.lt_or_ge 0 w.heap.size with hlt | hge
   ·exact hlt
   ·rw [Array.getElem?_eq_none hge] at hw; cases hw
class Tabs [Ev.GTab] [GTab] (t : TypeId) (fz : Nat × Nat) : Prop where
 ev : ∀ q,Ev.GTab.tab q = none
 same : ∀ q o',Ev.GTab.blk q = some o' → GTab.blk q = some o'
 pow : GTab.blk 0 = some (.cells zS t fz)
theorem tabs {t : TypeId} {fz : Nat × Nat} {tb : Nat → Option (List AVal)} : @Tabs (JA (.cells zS t fz)) (gtab tb (.cells zS t fz)) t fz :=
 @Tabs.mk (JA (.cells zS t fz)) (gtab tb (.cells zS t fz)) t fz (fun _ => rfl) (fun _ _ e => e) rfl
section
variable [Ev.GTab] [GTab] {t : TypeId} {fz : Nat × Nat}
end
theorem Y6 {H : Heap} {nx : Nat} : HOK (fun _ => none) H nx := fun b cs e => by cases e
theorem qih [GTab] {main : Int} {nl fuel : Nat} {room : Int} {inputs : List Int} (hf : fuel < 1000000) (h1 : 1 ≤ room) (h2 : room < 900000) (hi : inputs.length < 1000000) :
  Mst.FineN fuel ⟨[],⟨main,0,List.replicate nl 0,[]⟩,⟨[0],room,[],inputs,0,[]⟩,0,0⟩ := by
 refine ⟨⟨?_,?_,?_⟩,?_,?_,⟨?_,?_,?_,?_,?_,?_,?_,?_⟩⟩
 ·show 0 + fuel < 1000000; omega
 ·intro x hx; cases hx
 ·intro x hx; rw [List.mem_replicate] at hx; omega
 ·show 0 < 1000; omega
 ·intro f hf; cases hf
 ·show ((1 : Nat) : Int) ≤ room + 1; omega
 ·intro x hx; simp at hx; omega
 ·show 0 + fuel < 1000000; omega
 ·exact hi
 ·exact Nat.zero_le _
 ·show 0 ≤ room; omega
 ·exact h2
 ·intro x hx; cases hx
end Go.Vs
end
section
namespace Go.Vs
open Go Go.Proofs Go.Bridge Go.Proofs.YtnkeadjkckpknaaGreatDoor
theorem RowV.srcUv [GTab] {Γ : GH} {own : Nat → Nat} {role : Nat} {v : AVal} {l : List Int} (h : RowV Γ own role uv v l) : SrcV Γ v 1 l.length (uvs l) := by
 rcases h with ⟨rfl,rfl⟩ | ⟨b,cs,⟨full,rfl⟩,h1,h2,h3⟩
 ·exact .inl ⟨rfl,rfl,rfl⟩
 ·have := jX h3 (by simp)
  exact .inr ⟨b,0,full,cs,rfl,h2,by omega,by rw [List.drop_zero,Nat.mul_one,h3]; rfl⟩
theorem FmV.src [GTab] {Γ : GH} {own : Nat → Nat} {i : Nat} {g : Nat × AVal} {f : Fm} (h : FmV Γ own i g f) : SrcV Γ (.slice g.1 0 f.ls.length 1 true) 1 f.ls.length (uvs f.ls) ∧ SrcV Γ g.2 1 f.st.length (uvs f.st) := by
 refine ⟨.inr ⟨g.1,0,true,_,rfl,h.lc,by simp [uvs],?_⟩,h.st.srcUv⟩
 rw [List.drop_zero,Nat.mul_one]
 exact List.take_of_length_le (by simp [uvs])
theorem FmsV.at_ [GTab] {Γ : GH} {own : Nat → Nat} : ∀ {i : Nat} {gs : List (Nat × AVal)} {fs : List Fm} (R : List AVal),FmsV Γ own i gs fs → ∀ j f,fs[j]? = some f →
  ∃ lv sv,((qD gs fs ++ R).drop (j * 4)).take 4 = [iv f.f,iv f.pc,lv,sv] ∧ SrcV Γ lv 1 f.ls.length (uvs f.ls) ∧ SrcV Γ sv 1 f.st.length (uvs f.st)
 | _,_,_,R,.nil i,j,f,h => by simp at h
 | _,_,_,R,.cons (g := g) (f := f0) (gs := gs) (fs := fs) h t,0,f,hj => by
  simp at hj; subst hj
  obtain ⟨a,b⟩ := h.src
  exact ⟨_,_,by simp [qD,qL],a,b⟩
 | _,_,_,R,.cons (g := g) (f := f0) (gs := gs) (fs := fs) h t,j + 1,f,hj => by
  obtain ⟨lv,sv,a1,a2,a3⟩ := FmsV.at_ R t j f (by simpa using hj)
  refine ⟨lv,sv,?_,a2,a3⟩
  rw [show (j + 1) * 4 = j * 4 + 1 + 1 + 1 + 1 by omega]
  exact a1
theorem FmsV.frIn [GTab] {Γ : GH} {own : Nat → Nat} {gs : List (Nat × AVal)} {fs : List Fm} {g : Nat × AVal} {f : Fm} {R : List AVal} {b : Nat} {full : Bool} (h : FmsV Γ own 0 gs fs) (ht : FmV Γ own fs.length g f)
  (hb : Γ b = some (qD gs fs ++ (qL g f ++ R))) : FrIn Γ (.slice b 0 (fs.length + 1) 4 full) (fs ++ [f]) := by
 obtain ⟨s1,s2⟩ := h.snoc (g := g) (f := f) (by rw [Nat.zero_add]; exact ht)
 refine ⟨b,full,_,by simp,hb,?_,fun i f' hf => ?_⟩
 ·rw [List.length_append,List.length_append,h.len]; simp [qL]; omega
 ·rw [← List.append_assoc,← s2]
  exact s1.at_ R i f' hf
theorem Xv [GTab] {Γ0 : GH} {pg : Pg} {m : Nat} {S : Mst} {H : Heap} {nx : Nat} {K : EndP} (h : MS Γ0 pg m S H nx) (hl : S.low.length < 100) (hs : ∀ f,f ∈ S.low ++ [S.top] → f.ls.length < 1000000 ∧ f.st.length < 1000000)
  (hK : ∀ H' Γ' nx' bb,nx ≤ nx' → nx ≤ bb → HOK Γ' H' nx' → Sub Γ0 Γ' → FrC Γ' nx bb (S.low ++ [S.top]) → K (.ret (.slice bb 0 (S.low.length + 1) 4 false)) H' nx') : TriP Tryz.prog 21 [.ptr m 0] H nx K := by
 obtain ⟨Γ,own,G,hk,g⟩ := h
 refine TriP.of_body qw ?_
 rw [V6]
 unfold W8
 refine ⟨rfl,_,rfl,.slice pg.fb 0 (S.low.length + 1) 4 G.full,by rw [hk.ld1 g.em]; rfl,?_⟩
 have hin := g.lowV.frIn (full := G.full) g.topV g.ef
 have e : (S.low ++ [S.top]).length = S.low.length + 1 := by simp
 refine YO hk hin (by rw [e]; omega) (by simp) hs fun H' Γ' nx' bb h1 h2 h3 h4 h5 => ?_
 rw [qd,e]
 exact hK H' Γ' nx' bb h1 h2 h3 (fun c ds hc => h4 _ _ (g.ro c ds hc).1) h5
theorem qa4 [Ev.GTab] [Ev.SymC Tryz.prog 202 25] [GTab] : runJ Tryz.prog w0 20 1000 [] [] [] [] (.bool true) = true := by kernel_rfl
theorem qdh [Ev.GTab] [Ev.SymC Tryz.prog 202 25] [GTab] (hg0 : ∀ q,Ev.GTab.tab q = none) (hg1 : ∀ q o',Ev.GTab.blk q = some o' → GTab.blk q = some o') {Γ : GH} {H : Heap} {nx : Nat} {K : EndP} (hk : HOK Γ H nx)
  (hK : ∀ H',HOK Γ H' nx → K (.ret (.bool true)) H' nx) : TriP Tryz.prog 20 [] H nx K := by
 refine Vo (objs0 := []) (objs1 := []) (φ := fun b => b) qw VA (by simp) rfl (fun b c hb => by simp at hb) hk (fun i c h => by simp at h) (fun σ w h => QE hg0 hg1 h) (fun σ args' h => by cases h; exact .nil) rfl rfl qa4 fun H' hk' => ?_
 refine hK H' ?_
 intro b cs e
 obtain ⟨h1,olds,h2,h3⟩ := hk' b cs (by rw [vg (hk.lt e)]; exact e)
 refine ⟨h1,olds,h2,fun o ho => ?_⟩
 obtain ⟨h4,h5⟩ := h3 o ho
 have h4' : o < nx := by simpa using h4
 rw [vg h4'] at h5
 exact ⟨h4',h5⟩
theorem KQ {cs : List AVal} {i j : Nat} {v : AVal} (h : j ≠ i) (hi : i < cs.length) : (qC cs i [v])[j]? = cs[j]? := by
 unfold qC
 rcases Nat.lt_or_ge j i with h1 | h1
 ·simp only [List.append_assoc]
  rw [List.getElem?_append_left (by rw [List.length_take]; omega),List.getElem?_take_of_lt h1]
 ·simp only [List.append_assoc]
  rw [List.getElem?_append_right (by rw [List.length_take]; omega),List.length_take,Nat.min_eq_left (by omega),List.getElem?_append_right (by simp; omega),List.getElem?_drop]
  congr 1
  simp only [List.length_cons,List.length_nil]
  omega
theorem SrcV.mono' [GTab] {Γ Γ' : GH} {v : AVal} {sz n : Nat} {cells : List AVal} (h : SrcV Γ v sz n cells) (hs : ∀ ds,z3 v = z3 v → Γ (z3 v) = some ds → Γ' (z3 v) = some ds) : SrcV Γ' v sz n cells := by
 rcases h with h | ⟨b,off,full,cs,rfl,h1,h2⟩
 ·exact .inl h
 ·exact .inr ⟨b,off,full,cs,rfl,hs _ rfl h1,h2⟩
def bump (fs : List Fm) (k : Nat) : List Fm := match fs[k]? with
 | some f => fs.set k { f with st := f.st ++ [5] }
 | none => fs
theorem Qn (fs : List Fm) (k : Nat) : (bump fs k).length = fs.length := by unfold bump; split <;> simp
theorem FrC.bump [GTab] {Γ base : GH} {H : Heap} {nx x lo bb k : Nat} {fs : List Fm} (h : FrC Γ lo bb fs) (hk : HOK Γ H nx) (hs : Sub base Γ) (hb : ∀ c ds,base c = some ds → c < lo) (hlo : lo ≤ bb) (hlt : k < fs.length) (hst : fs[k].st.length < 1000) (hx : nx ≤ x) :
  ∃ sv,ld1 H (.ptr bb (k * 4 + 3)) = some sv ∧ aSrc 1 (newB x [uv 5] H) (.slice x 0 1 1 true) = some (1,[uv 5]) ∧ ∃ v H2,appC (newB x [uv 5] H) (x + 1) 1 8 sv 1 [uv 5] = some (v,H2,x + 2) ∧ qx v = true ∧
   ∃ H3 Γ3,stC H2 (.ptr bb (k * 4 + 3)) [v] = some H3 ∧ HOK Γ3 H3 (x + 2) ∧ Sub base Γ3 ∧ FrIn Γ3 (.slice bb 0 fs.length 4 false) (Vs.bump fs k) := by
 obtain ⟨cs,own,e1,e2,e3⟩ := h
 obtain ⟨lv,sv,a1,a2,a3,a4,a5⟩ := e3 k _ (List.getElem?_eq_getElem hlt)
 have hbn := hk.lt e1
 have hat : ∀ j (hj : j < fs.length),j * 4 + 4 ≤ cs.length := fun j hj => by omega
 have hsv : cs[k * 4 + 3]? = some sv := by
  have : ((cs.drop (k * 4)).take 4)[3]? = some sv := by rw [a1]; rfl
  rw [List.getElem?_take_of_lt (by omega),List.getElem?_drop] at this
  exact this
 obtain ⟨b,full,ds,rfl,g1,g2,g3,g4⟩ := a3
 have hbb : b ≠ bb := by omega
 have k1 := hk.new (b := x) (nx' := x + 1) hx (by omega) [uv 5]
 have hx' : ∀ c ds,Γ c = some ds → c < x := fun c ds e => by have := hk.lt e; omega
 refine ⟨_,by rw [hk.ld1 e1]; exact hsv,by rw [k1.src (qc _ _ _) (by simp)]; rfl,?_⟩
 have hdl : fs[k].st.length ≤ ds.length := by
  have := congrArg List.length g4
  rw [List.length_take] at this
  simp [uvs] at this; omega
 have gb : gup x (some [uv 5]) Γ b = some ds := by rw [qe (by have := hx' _ _ g3; omega)]; exact g3
 have happ : ∃ v H2 Γ2,appC (newB x [uv 5] H) (x + 1) 1 8 (.slice b 0 fs[k].st.length 1 full) 1 [uv 5] = some (v,H2,x + 2) ∧ qx v = true ∧ HOK Γ2 H2 (x + 2) ∧ SrcV Γ2 v 1 (fs[k].st.length + 1) (uvs (fs[k].st ++ [5])) ∧ (∀ c ds,c ≠ b → Γ c = some ds → Γ2 c = some ds) ∧ z3 v = x + 1 := by
  have hu : uvs (fs[k].st ++ [5]) = uvs fs[k].st ++ [uv 5] := by simp [uvs]
  have hul : (uvs fs[k].st).length = fs[k].st.length := by simp [uvs]
  cases full with
  | true =>
   obtain ⟨H',q1,q2⟩ := k1.appFull (b := b) (off := 0) (len := fs[k].st.length) (esz := 1) (ebytes := 8) (k := 1) (new := [uv 5]) gb (by omega) rfl (by omega) (by omega) (by omega)
   refine ⟨_,H',_,q1,rfl,q2,.inr ⟨x + 1,0,false,_,rfl,qc _ _ _,?_,?_⟩,fun c ds' hc e => ?_,rfl⟩
   ·simp only [List.drop_zero,Nat.mul_one,g4]; simp [uvs]
   ·simp only [List.drop_zero,Nat.mul_one,g4,hu]
    exact List.take_of_length_le (by simp [uvs])
   ·have := hx' _ _ e
    rw [qe (by omega),qe (by omega)]; exact e
  | false =>
   obtain ⟨H',q1,q2⟩ := k1.app (b := b) (len := fs[k].st.length) (esz := 1) (ebytes := 8) (k := 1) (new := [uv 5]) gb (by omega) rfl (by omega) (by omega) (by omega)
   refine ⟨_,H',_,q1,rfl,q2,.inr ⟨x + 1,0,false,_,rfl,qc _ _ _,?_,?_⟩,fun c ds' hc e => ?_,rfl⟩
   ·simp only [Nat.mul_one,g4]; simp [uvs]
   ·simp only [List.drop_zero,Nat.mul_one,g4,hu]
    exact List.take_of_length_le (by simp [uvs])
   ·have := hx' _ _ e
    rw [qe (by omega),qe hc,qe (by omega)]; exact e
 obtain ⟨v,H2,Γ2,p1,p2,p3,p4,p5,p6⟩ := happ
 have ebb := p5 _ _ (Ne.symm hbb) e1
 obtain ⟨H3,s1,s2⟩ := p3.st (off := k * 4 + 3) (vs := [v]) ebb (by have := hat k hlt; simp; omega) (by simp [qo,p2])
 refine ⟨v,H2,p1,p2,H3,_,s1,s2,fun c ds' e => ?_,bb,false,_,by rw [Qn],qc _ _ _,?_,fun j f hf => ?_⟩
 ·have := hb _ _ e
  rw [qe (by omega)]; exact p5 _ _ (by omega) (hs _ _ e)
 ·rw [Qn]; simp [qC]; have := hat k hlt; omega
 ·have hother : ∀ {y : AVal} {l : List Int},RowB Γ lo bb y l → z3 y ≠ b → SrcV (gup bb (some (qC cs (k * 4 + 3) [v])) Γ2) y 1 l.length (uvs l) := fun hr hne => by
   have hr0 := hr
   obtain ⟨b',full',ds',rfl,w1,w2,w3,w4⟩ := hr
   have hne' : b' ≠ b := hne
   exact RowB.src (lo := lo) (hi := bb) ⟨b',full',ds',rfl,w1,w2,by rw [qe (by omega)]; exact p5 _ _ hne' w3,w4⟩
  have hown : own b = 2 * k + 1 := a5
  have hjl : j < fs.length := by
   have := (List.getElem?_eq_some_iff.1 hf).1
   rw [Qn] at this; exact this
  obtain ⟨lv',sv',c1,c2,c3,c4,c5⟩ := e3 j _ (List.getElem?_eq_getElem hjl)
  by_cases hjk : j = k
  ·subst hjk
   have hf' : f = { fs[j] with st := fs[j].st ++ [5] } := by
    unfold Vs.bump at hf
    rw [List.getElem?_eq_getElem hlt] at hf
    simp only [List.getElem?_set_self hlt] at hf
    exact (Option.some.inj hf).symm
   subst hf'
   refine ⟨lv,v,?_,hother a2 (fun e => by rw [e] at a4; omega),?_⟩
   ·have h4 : j * 4 + 4 ≤ cs.length := hat j hlt
    have e5 : qC cs (j * 4 + 3) [v] = cs.take (j * 4 + 3) ++ ([v] ++ cs.drop (j * 4 + 3 + 1)) := by simp [qC]
    rw [e5]
    have e6 : (cs.take (j * 4 + 3)) = cs.take (j * 4) ++ [iv fs[j].f,iv fs[j].pc,lv] := by
     have h7 : ((cs.drop (j * 4)).take 4).take 3 = [iv fs[j].f,iv fs[j].pc,lv] := by rw [a1]; rfl
     rw [List.take_take] at h7
     rw [← h7,List.take_add]; rfl
    rw [e6,List.append_assoc,List.drop_left' (by rw [List.length_take]; omega)]
    rfl
   ·rw [List.length_append]
    refine (p4.mono' fun ds' _ e => ?_)
    rw [qe (by omega)]; exact e
  ·have hf' : f = fs[j] := by
    unfold Vs.bump at hf
    rw [List.getElem?_eq_getElem hlt] at hf
    simp only [List.getElem?_set_ne (Ne.symm hjk),List.getElem?_eq_getElem hjl] at hf
    exact (Option.some.inj hf).symm
   subst hf'
   refine ⟨lv',sv',?_,hother c2 (fun e => by rw [e] at c4; omega),hother c3 (fun e => by rw [e] at c5; omega)⟩
   have h4 := hat k hlt
   have h5 := hat j hjl
   rw [← c1]
   apply List.ext_getElem?
   intro q
   by_cases hq : q < 4
   ·rw [List.getElem?_take_of_lt hq,List.getElem?_take_of_lt hq,List.getElem?_drop,List.getElem?_drop]
    exact KQ (by omega) (by omega)
   ·rw [List.getElem?_eq_none (by rw [List.length_take]; omega),List.getElem?_eq_none (by rw [List.length_take]; omega)]
end Go.Vs
end
section
namespace Go.Vs
open Go.Proofs
variable [GTab]
def LDh (call : qh) (lp : Nat → qj) (N : KC) (X : Nat → KC) (R : KC) (Pn : List (AVal × Bool) → KC) (i : Int) (n : Int) (a : Int) (p : Nat) (l : AVal) (H : Heap) (nx : Nat) : Prop :=
 ∃ i0,lenS l = some i0 ∧ N (envL AVal.und [(62,AVal.bool (decide (i < IntKind.i64.wrap (Int.ofNat i0 - 1)))),(11,iv i),(10,l),(5,AVal.ptr p 0),(1,iv a),(0,iv n)]) H nx []
 none
theorem qft (call : qh) (lp : Nat → qj) (N : KC) (X : Nat → KC) (R : KC) (Pn : List (AVal × Bool) → KC) (i : Int) (n : Int) (a : Int) (p : Nat) (l : AVal) (H : Heap) (nx : Nat) : vK Tryz.prog call (lp 166) 166 (qY (qs Tryz.prog 7) [1,1,1,1,1,1,1,1,0,1,0,0,0,0]) (envL .und [(11,iv i),(10,l),(5,AVal.ptr p 0),(1,iv a),(0,iv n)]) H nx [] none (vx [62,11,10,5,1,0] (jT N X R Pn)) = LDh call lp N X R Pn i n a p l H nx := by kernel_rfl
def LDr (call : qh) (lp : Nat → qj) (N : KC) (X : Nat → KC) (R : KC) (Pn : List (AVal × Bool) → KC) (i : Int) (n : Int) (a : Int) (p : Nat) (l : AVal) (H : Heap) (nx : Nat) : Prop :=
 ∃ v0,some (AVal.ptr p 1) = some v0 ∧ ∃ v1,ld1 H v0 = some v1 ∧ 0 ≤ i ∧ ∃ v2,idxS l i.toNat 4 = some v2 ∧ ∃ v3,qJ v2 0 = some v3 ∧ ∃ n4 : Int,ld1 H v3 = some (iv n4) ∧ 0 ≤
 n4 ∧ ∃ v5,idxS v1 n4.toNat 5 = some v5 ∧ ∃ v6,qJ v5 4 = some v6 ∧ ∃ v7,ld1 H v6 = some v7 ∧ 0 ≤ i ∧ ∃ v8,idxS l i.toNat 4 = some v8 ∧ ∃ v9,qJ v8 1 = some v9 ∧ ∃ n10 :
 Int,ld1 H v9 = some (iv n10) ∧ 0 ≤ n10 ∧ ∃ v11,idxS v7 n10.toNat 3 = some v11 ∧ ∃ v12,qJ v11 0 = some v12 ∧ ∃ n13 : Int,ld1 H v12 = some (iv n13) ∧ ifB (!decide (n13 = 36))
 (((∃ v14,ld1 H v0 = some v14 ∧ v14 = v1) ∧ (∃ n15 : Int,ld1 H v3 = some (iv n15) ∧ iv n15 = iv n4) ∧ (∃ v16,ld1 H v6 = some v16 ∧ v16 = v7) ∧ (∃ n17 : Int,ld1 H v9 = some (iv
 n17) ∧ iv n17 = iv n10) ∧ (∃ n18 : Int,ld1 H v12 = some (iv n18) ∧ iv n18 = iv n13) ∧ AVal.tuple [] = AVal.tuple [] ∧ AVal.tuple [] = AVal.tuple [] ∧ AVal.tuple [] = AVal.tuple []
 ∧ AVal.tuple [] = AVal.tuple [] ∧ AVal.tuple [] = AVal.tuple [] ∧ AVal.tuple [] = AVal.tuple [] ∧ AVal.tuple [] = AVal.tuple [] ∧ AVal.tuple [] = AVal.tuple [] ∧ AVal.tuple [] =
 AVal.tuple [] ∧ True) ∧ N (envL AVal.und [(136,AVal.bool true),(11,iv i),(10,l),(5,AVal.ptr p 0),(1,iv a),(0,iv n)]) H (nx + 72) [] none) (ifB (decide (0 < i)) (0 ≤ i ∧ ∃
 v19,idxS l i.toNat 4 = some v19 ∧ ∃ v20,qJ v19 2 = some v20 ∧ ∃ v21,ld1 H v20 = some v21 ∧ (0 : Int) ≤ 0 ∧ ∃ v22,idxS v21 0 1 = some v22 ∧ ∃ n23 : Int,ld1 H v22 = some
 (uv n23) ∧ ifB (!decide (n23 = IntKind.u64.wrap (IntKind.i64.wrap (IntKind.i64.wrap (n + 1) - i)))) (((∃ v24,ld1 H v0 = some v24 ∧ v24 = v1) ∧ (∃ n25 : Int,ld1 H
 v3 = some (iv n25) ∧ iv n25 = iv n4) ∧ (∃ v26,ld1 H v6 = some v26 ∧ v26 = v7) ∧ (∃ n27 : Int,ld1 H v9 = some (iv n27) ∧ iv n27 = iv n10) ∧ (∃ n28 : Int,ld1 H v12 = some (iv n28)
 ∧ iv n28 = iv n13) ∧ (∃ v29,ld1 H v20 = some v29 ∧ v29 = v21) ∧ (∃ n30 : Int,ld1 H v22 = some (uv n30) ∧ uv n30 = uv n23) ∧
 uv (IntKind.u64.wrap (IntKind.i64.wrap (IntKind.i64.wrap (n + 1) - i))) = uv (IntKind.u64.wrap (IntKind.i64.wrap (IntKind.i64.wrap (n + 1) - i)))
 ∧ AVal.tuple [] = AVal.tuple [] ∧ AVal.tuple [] = AVal.tuple [] ∧ AVal.tuple [] = AVal.tuple [] ∧ AVal.tuple [] = AVal.tuple [] ∧ AVal.tuple [] = AVal.tuple [] ∧ AVal.tuple [] =
 AVal.tuple [] ∧ True) ∧ N (envL AVal.und [(136,AVal.bool true),(11,iv i),(10,l),(5,AVal.ptr p 0),(1,iv a),(0,iv n)]) H (nx + 72) [] none) (0 ≤ i ∧ ∃ v31,idxS l i.toNat 4
 = some v31 ∧ ∃ v32,qJ v31 2 = some v32 ∧ ∃ v33,ld1 H v32 = some v33 ∧ (0 : Int) ≤ 1 ∧ ∃ v34,idxS v33 1 1 = some v34 ∧ ∃ n35 : Int,ld1 H v34 = some (uv n35)
 ∧ ifB (!decide (n35 = 7)) (((∃ v36,ld1 H v0 = some v36 ∧ v36 = v1) ∧ (∃ n37 : Int,ld1 H v3 = some (iv n37) ∧ iv n37 = iv n4) ∧ (∃ v38,ld1 H v6 = some v38 ∧ v38 = v7) ∧ (∃ n39 :
 Int,ld1 H v9 = some (iv n39) ∧ iv n39 = iv n10) ∧ (∃ n40 : Int,ld1 H v12 = some (iv n40) ∧ iv n40 = iv n13) ∧ (∃ v41,ld1 H v20 = some v41 ∧ v41 = v21) ∧ (∃ n42 : Int,ld1 H v22 =
 some (uv n42) ∧ uv n42 = uv n23) ∧ uv (IntKind.u64.wrap (IntKind.i64.wrap (IntKind.i64.wrap (n + 1) - i))) =
 uv (IntKind.u64.wrap (IntKind.i64.wrap (IntKind.i64.wrap (n + 1) - i))) ∧ (∃ v43,ld1 H v32 = some v43 ∧ v43 = v33) ∧ (∃ n44 : Int,ld1 H v34 = some (AVal.int
 IntKind.u64 n44) ∧ uv n44 = uv n35) ∧ AVal.tuple [] = AVal.tuple [] ∧ AVal.tuple [] = AVal.tuple [] ∧ AVal.tuple [] = AVal.tuple [] ∧ AVal.tuple
 [] = AVal.tuple [] ∧ True) ∧ N (envL AVal.und [(136,AVal.bool true),(11,iv i),(10,l),(5,AVal.ptr p 0),(1,iv a),(0,iv n)]) H (nx + 72) [] none) (0 ≤ i ∧ ∃ v45,idxS l
 i.toNat 4 = some v45 ∧ ∃ v46,qJ v45 3 = some v46 ∧ ∃ v47,ld1 H v46 = some v47 ∧ ∃ i48,lenS v47 = some i48 ∧ ifB (!decide (Int.ofNat i48 = 1)) (((∃ v49,ld1 H v0 = some v49 ∧
 v49 = v1) ∧ (∃ n50 : Int,ld1 H v3 = some (iv n50) ∧ iv n50 = iv n4) ∧ (∃ v51,ld1 H v6 = some v51 ∧ v51 = v7) ∧ (∃ n52 : Int,ld1 H v9 = some (iv n52) ∧ iv n52 = iv n10) ∧ (∃ n53 :
 Int,ld1 H v12 = some (iv n53) ∧ iv n53 = iv n13) ∧ (∃ v54,ld1 H v20 = some v54 ∧ v54 = v21) ∧ (∃ n55 : Int,ld1 H v22 = some (uv n55) ∧ uv n55
 = uv n23) ∧ uv (IntKind.u64.wrap (IntKind.i64.wrap (IntKind.i64.wrap (n + 1) - i))) = uv (IntKind.u64.wrap (IntKind.i64.wrap
 (IntKind.i64.wrap (n + 1) - i))) ∧ (∃ v56,ld1 H v32 = some v56 ∧ v56 = v33) ∧ (∃ n57 : Int,ld1 H v34 = some (uv n57) ∧ uv n57 = AVal.int
 IntKind.u64 n35) ∧ (∃ v58,ld1 H v46 = some v58 ∧ v58 = v47) ∧ AVal.tuple [] = AVal.tuple [] ∧ AVal.tuple [] = AVal.tuple [] ∧ AVal.tuple [] = AVal.tuple [] ∧ True) ∧ N (envL
 AVal.und [(136,AVal.bool true),(11,iv i),(10,l),(5,AVal.ptr p 0),(1,iv a),(0,iv n)]) H (nx + 72) [] none) (0 ≤ i ∧ ∃ v59,idxS l i.toNat 4 = some v59 ∧ ∃ v60,qJ v59
 3 = some v60 ∧ ∃ v61,ld1 H v60 = some v61 ∧ (0 : Int) ≤ 0 ∧ ∃ v62,idxS v61 0 1 = some v62 ∧ ∃ n63 : Int,ld1 H v62 = some (uv n63) ∧ ((∃ v64,ld1 H v0 = some v64
 ∧ v64 = v1) ∧ (∃ n65 : Int,ld1 H v3 = some (iv n65) ∧ iv n65 = iv n4) ∧ (∃ v66,ld1 H v6 = some v66 ∧ v66 = v7) ∧ (∃ n67 : Int,ld1 H v9 = some (iv n67) ∧ iv n67 = iv n10) ∧ (∃ n68
 : Int,ld1 H v12 = some (iv n68) ∧ iv n68 = iv n13) ∧ (∃ v69,ld1 H v20 = some v69 ∧ v69 = v21) ∧ (∃ n70 : Int,ld1 H v22 = some (uv n70) ∧ AVal.int IntKind.u64
 n70 = uv n23) ∧ uv (IntKind.u64.wrap (IntKind.i64.wrap (IntKind.i64.wrap (n + 1) - i))) = uv (IntKind.u64.wrap
 (IntKind.i64.wrap (IntKind.i64.wrap (n + 1) - i))) ∧ (∃ v71,ld1 H v32 = some v71 ∧ v71 = v33) ∧ (∃ n72 : Int,ld1 H v34 = some (uv n72) ∧ uv n72
 = uv n35) ∧ (∃ v73,ld1 H v46 = some v73 ∧ v73 = v47) ∧ (∃ v74,ld1 H v60 = some v74 ∧ v74 = v61) ∧ (∃ n75 : Int,ld1 H v62 = some (uv n75) ∧
 uv n75 = uv n63) ∧ uv (IntKind.u64.wrap (IntKind.i64.wrap (IntKind.i64.wrap (n + 1) - i))) = AVal.int IntKind.u64
 (IntKind.u64.wrap (IntKind.i64.wrap (IntKind.i64.wrap (n + 1) - i))) ∧ True) ∧ N (envL AVal.und [(136,AVal.bool !decide (n63 = IntKind.u64.wrap (IntKind.i64.wrap (IntKind.i64.wrap
 (n + 1) - i)))),(11,iv i),(10,l),(5,AVal.ptr p 0),(1,iv a),(0,iv n)]) H (nx + 72) [] none)))) (((∃ v76,ld1 H v0 = some v76 ∧ v76 = v1) ∧ (∃ n77 : Int,ld1 H v3 = some (iv
 n77) ∧ iv n77 = iv n4) ∧ (∃ v78,ld1 H v6 = some v78 ∧ v78 = v7) ∧ (∃ n79 : Int,ld1 H v9 = some (iv n79) ∧ iv n79 = iv n10) ∧ (∃ n80 : Int,ld1 H v12 = some (iv n80) ∧ iv n80 = iv
 n13) ∧ AVal.tuple [] = AVal.tuple [] ∧ AVal.tuple [] = AVal.tuple [] ∧ AVal.tuple [] = AVal.tuple [] ∧ AVal.tuple [] = AVal.tuple [] ∧ AVal.tuple [] = AVal.tuple [] ∧ AVal.tuple []
 = AVal.tuple [] ∧ AVal.tuple [] = AVal.tuple [] ∧ AVal.tuple [] = AVal.tuple [] ∧ AVal.tuple [] = AVal.tuple [] ∧ True) ∧ N (envL AVal.und [(136,AVal.bool false),(11,iv i),(10,
 l),(5,AVal.ptr p 0),(1,iv a),(0,iv n)]) H (nx + 72) [] none))
theorem qfe (call : qh) (lp : Nat → qj) (N : KC) (X : Nat → KC) (R : KC) (Pn : List (AVal × Bool) → KC) (i : Int) (n : Int) (a : Int) (p : Nat) (l : AVal) (H : Heap) (nx : Nat) : vK Tryz.prog call (lp 166) 166 (qY (qs Tryz.prog 7) [1,1,1,1,1,1,1,1,0,1,0,0,1,0,0,0]) (envL .und [(11,iv i),(10,l),(5,AVal.ptr p 0),(1,iv a),(0,iv n)]) H nx [] none (vx [136,11,10,5,1,0] (jT N X R Pn)) = LDr call lp N X R Pn i n a p l H nx := by kernel_rfl
def LDn (call : qh) (lp : Nat → qj) (N : KC) (X : Nat → KC) (R : KC) (Pn : List (AVal × Bool) → KC) (i : Int) (n : Int) (a : Int) (p : Nat) (l : AVal) (H : Heap) (nx : Nat) : Prop :=
 N (envL AVal.und [(11,iv (IntKind.i64.wrap (i + 1))),(10,l),(5,AVal.ptr p 0),(1,iv a),(0,iv n)]) H nx [] none
theorem qf8 (call : qh) (lp : Nat → qj) (N : KC) (X : Nat → KC) (R : KC) (Pn : List (AVal × Bool) → KC) (i : Int) (n : Int) (a : Int) (p : Nat) (l : AVal) (H : Heap) (nx : Nat) : vK Tryz.prog call (lp 166) 166 (qY (qs Tryz.prog 7) [1,1,1,1,1,1,1,1,0,1,0,0,1,1]) (envL .und [(11,iv i),(10,l),(5,AVal.ptr p 0),(1,iv a),(0,iv n)]) H nx [] none (vx [11,10,5,1,0] (jT N X R Pn)) = LDn call lp N X R Pn i n a p l H nx := by kernel_rfl
def LDa (call : qh) (lp : Nat → qj) (lv : ql) (lvc : qk) (n : Int) (a : Int) (p : Nat) (l : AVal) (H : Heap) (nx : Nat) (K : EndP) : Prop :=
 ∃ i0,lenS l = some i0 ∧ call 12 [iv a,iv (Int.ofNat i0)] H nx fun e1 H2 i3 => qi e1 (fun v4 => ∃ n5 : Int,v4 = iv n5 ∧ call 23 [l] H2 i3 fun e6 H7 i8 => qi e6 (fun v9 => 0
 ≤ n5 ∧ ∃ v10,idxS v9 n5.toNat 4 = some v10 ∧ ∃ v11,qJ v10 3 = some v11 ∧ ∃ v12,ld1 H7 v11 = some v12 ∧ true = true ∧ ∃ H13,H13 = newB i8 [uv 5] H7 ∧ ∃ i14
 l15,aSrc 1 H13 (AVal.slice i8 0 1 1 true) = some (i14,l15) ∧ qo l15 = true ∧ ∃ v16 H17 i18,appC H13 (i8 + 1) 1 8 v12 i14 l15 = some (v16,H17,i18) ∧ 0 ≤ n5 ∧ ∃ v19,idxS v9
 n5.toNat 4 = some v19 ∧ ∃ v20,qJ v19 3 = some v20 ∧ qx v16 = true ∧ ∃ H21,stC H17 v20 [v16] = some H21 ∧ ∃ v22 v23 n24 v25 v26,ldN H21 5 (AVal.ptr p 0) = some (AVal.agg
 [v22,v23,iv n24,v25,v26]) ∧ call 22 [AVal.agg [v22,v23,iv n24,v25,v26],v9] H21 i18 fun e27 H28 i29 => qi e27 (fun v30 => ∃ b31,v30 = AVal.bool b31 ∧ ifB (!b31) ((0 :
 Int) ≤ 0 ∧ ∃ v32,idxS l 0 4 = some v32 ∧ ∃ v33,qJ v32 3 = some v33 ∧ ∃ v34,ld1 H28 v33 = some v34 ∧ ∃ i35,lenS v34 = some i35 ∧ K (AEnd.ret (AVal.bool (decide (Int.ofNat i35
 = 0)))) H28 i29) (K (AEnd.ret (AVal.bool false)) H28 i29)) fun l36 => K (AEnd.pan l36) H28 i29) fun l37 => K (AEnd.pan l37) H7 i8) fun l38 => K (AEnd.pan l38) H2 i3
theorem qgr (call : qh) (lp : Nat → qj) (lv : ql) (lvc : qk) (n : Int) (a : Int) (p : Nat) (l : AVal) (H : Heap) (nx : Nat) (K : EndP) : zW Tryz.prog call (lp 166) 166 (qs Tryz.prog 7) [1,1,1,1,1,1,1,1,0,1,0] (endK Tryz.prog lv lvc K (kj Tryz.prog 7)) (.exit 0) (envL .und [(10,l),(5,AVal.ptr p 0),(1,iv a),(0,iv n)]) H nx [] none = LDa call lp lv lvc n a p l H nx K := by kernel_rfl
end Go.Vs
end
section
namespace Go.Vs
open Go Go.Proofs Go.Bridge Go.Proofs.YtnkeadjkckpknaaGreatDoor
theorem CodeIn.mono [GTab] {Γ Γ' : GH} {v : AVal} {code : j0} (h : CodeIn Γ v code) (hs : Sub Γ Γ') : CodeIn Γ' v code :=
 ⟨fun f pc x e0 e => QO hs (h.instr f pc x e0 e),fun f x e => yS hs (h.locals f x e)⟩
def dfs (n : Nat) : List Fm := (⟨1,2,[],[]⟩ :: Deep.fr n) ++ [⟨0,4,[0,7],[]⟩]
theorem js [GTab] (n : Nat) : (dfs n).length = n + 2 := by simp [dfs,Deep.fr_len]
def hsD : List (List Int) := [[0,1,2,1,0,0,1,2,3,2,3,2,1,-1],[0,1,2,1,0]]
theorem qh2 : hDeep.map HtB.h = hsD := rfl
theorem Xc [GTab] (n : Nat) : (dfs n)[0]? = some ⟨1,2,[],[]⟩ := rfl
theorem Kw [GTab] {n j : Nat} (h0 : 0 < j) (h : j ≤ n) : (dfs n)[j]? = some ⟨0,10,[((n + 1 - j : Nat) : Int),7],[((n + 1 - j : Nat) : Int)]⟩ := by
 obtain ⟨q,rfl⟩ : ∃ q,j = q + 1 := ⟨j - 1,by omega⟩
 unfold dfs
 rw [List.getElem?_append_left (by simp [Deep.fr_len]; omega)]
 show (Deep.fr n)[q]? = _
 rw [Deep.fr_get n q (by omega),show n + 1 - (q + 1) = n - q by omega]
theorem VM [GTab] (n : Nat) : (dfs n)[n + 1]? = some ⟨0,4,[0,7],[]⟩ := by
 unfold dfs
 rw [List.getElem?_append_right (by simp [Deep.fr_len])]
 simp [Deep.fr_len]
def J6 (fs : List Fm) (j : Nat) : Int := match fs[j]? with
 | some f => f.st.length
 | none => 0
theorem WQ [GTab] {n j : Nat} {f : Fm} (h : (dfs n)[j]? = some f) : FOK Deep.C hsD f (j + 1 = n + 2) (J6 (dfs n) j) := by
 have hj := (List.getElem?_eq_some_iff.1 h).1
 rw [js] at hj
 unfold J6
 rw [h]
 by_cases h0 : j = 0
 ·subst h0
  rw [Xc] at h; cases h
  exact ⟨1,2,[0,1,2,1,0],2,rfl,rfl,rfl,rfl,by omega,by omega,by kernel_rfl,.inr ⟨by omega,0,2,by kernel_rfl,by omega,by omega,by simp⟩⟩
 ·by_cases h1 : j ≤ n
  ·rw [Kw (by omega) h1] at h; cases h
   exact ⟨0,10,_,3,rfl,rfl,rfl,rfl,by omega,by omega,by kernel_rfl,.inr ⟨by omega,0,2,by kernel_rfl,by omega,by omega,by simp⟩⟩
  ·have : j = n + 1 := by omega
   subst this
   rw [VM] at h; cases h
   exact ⟨0,4,_,0,rfl,rfl,rfl,rfl,by omega,by omega,by kernel_rfl,.inl ⟨rfl,by simp⟩⟩
theorem Ze [GTab] {n : Nat} (f : Fm) (h : f ∈ dfs n) : f.ls.length < 1000000 ∧ f.st.length < 1000 := by
 obtain ⟨j,hj⟩ := List.mem_iff_getElem?.1 h
 have hl := (List.getElem?_eq_some_iff.1 hj).1
 rw [js] at hl
 by_cases h0 : j = 0
 ·subst h0
  rw [Xc] at hj; cases hj; simp
 ·by_cases h1 : j ≤ n
  ·rw [Kw (by omega) h1] at hj; cases hj; simp
  ·have : j = n + 1 := by omega
   subst this
   rw [VM] at hj; cases hj; simp
theorem Yx [GTab] {Γ : GH} {H : Heap} {nx i : Nat} {v : AVal} {fs : List Fm} (hk : HOK Γ H nx) (hv : FrIn Γ v fs) {f : Fm} (hf : fs[i]? = some f) :
  ∃ b lv sv,idxS v i 4 = some (.ptr b (i * 4)) ∧ ld1 H (.ptr b (i * 4)) = some (iv f.f) ∧ ld1 H (.ptr b (i * 4 + 1)) = some (iv f.pc) ∧ ld1 H (.ptr b (i * 4 + 2)) = some lv ∧ ld1 H (.ptr b (i * 4 + 3)) = some sv ∧
   SrcV Γ lv 1 f.ls.length (uvs f.ls) ∧ SrcV Γ sv 1 f.st.length (uvs f.st) := by
 obtain ⟨b,full,cs,rfl,h2,h3,h4⟩ := hv
 have hi := (List.getElem?_eq_some_iff.1 hf).1
 obtain ⟨lv,sv,a1,a2,a3⟩ := h4 i _ hf
 have at_ : ∀ q,q < 4 → ld1 H (.ptr b (i * 4 + q)) = [iv f.f,iv f.pc,lv,sv][q]? := fun q hq => by
  rw [hk.ld1 h2,← a1,List.getElem?_take_of_lt hq,List.getElem?_drop]
 exact ⟨b,lv,sv,by rw [qW hi]; simp,at_ 0 (by omega),at_ 1 (by omega),at_ 2 (by omega),at_ 3 (by omega),a2,a3⟩
theorem SrcV.getU [GTab] {Γ : GH} {H : Heap} {nx : Nat} {v : AVal} {l : List Int} (hk : HOK Γ H nx) (h : SrcV Γ v 1 l.length (uvs l)) {q : Nat} (hq : q < l.length) : ∃ p,idxS v q 1 = some p ∧ ld1 H p = some (uv l[q]) := by
 rcases h with ⟨rfl,h0,_⟩ | ⟨b,off,full,cs,rfl,h1,h2,h3⟩
 ·omega
 ·refine ⟨_,qW hq,?_⟩
  rw [hk.ld1 h1]
  have h4 : ((cs.drop off).take (l.length * 1))[q]? = some (uv l[q]) := by rw [h3]; simp [uvs,hq]
  rw [List.getElem?_take_of_lt (by omega),List.getElem?_drop] at h4
  rw [Nat.mul_one]; exact h4
theorem qce : qY (qs Tryz.prog 7) [1,1,1,1,1,1,1,1,0,1,0,0] = .seq (.seq (qY (qs Tryz.prog 7) [1,1,1,1,1,1,1,1,0,1,0,0,0,0]) (.cond (.tmp 62) .skip (.exit 0)))
  (.seq (.block 1 (.seq (qY (qs Tryz.prog 7) [1,1,1,1,1,1,1,1,0,1,0,0,1,0,0,0]) (.cond (.tmp 136) (qY (qs Tryz.prog 7) [1,1,1,1,1,1,1,1,0,1,0,0,1,0,0,1,0]) .skip))) (qY (qs Tryz.prog 7) [1,1,1,1,1,1,1,1,0,1,0,0,1,1])) := by kernel_rfl
section
variable [Ev.GTab] [GTab] [Ev.SymC Tryz.prog 202 25] {t : TypeId} {fz : Nat × Nat}
theorem Y2 {Γ : GH} {H : Heap} {nx n j x : Nat} {a : Int} {l p0 p1 p4 : AVal} {K : KP} (hn : n ≤ 20) (hk : HOK Γ H nx) (hl : FrIn Γ l (dfs n)) (hp : Γ x = some [p0,p1,iv 1,.nilSlice,p4]) (hc : CodeIn Γ p1 Deep.C) (hj : j ≤ n)
  (hK : ∀ nx',nx ≤ nx' → K .normal (envL .und [(136,.bool false),(11,iv j),(10,l),(5,.ptr x 0),(1,iv a),(0,iv n)]) H nx' [] none) :
  WpP Tryz.prog 166 (qY (qs Tryz.prog 7) [1,1,1,1,1,1,1,1,0,1,0,0,1,0,0,0]) (envL .und [(11,iv j),(10,l),(5,.ptr x 0),(1,iv a),(0,iv n)]) H nx [] K := by
 refine WpP.part (ts := [136,11,10,5,1,0]) qw ?_
 rw [qfe]
 unfold LDr
 obtain ⟨f,hf⟩ : ∃ f,(dfs n)[j]? = some f := ⟨_,List.getElem?_eq_getElem (by rw [js]; omega)⟩
 obtain ⟨b,lv,sv,q1,q2,q3,q4,q5,q6,q7⟩ := Yx hk hl hf
 obtain ⟨fi,pcn,aa,BB,e1,e2,e3,e4,e5⟩ : ∃ (fi pcn : Nat) (aa BB : Int),f.f = fi ∧ f.pc = pcn ∧ Deep.C f.f f.pc = some (36,aa,BB) ∧ (j = 0 ∨ (f.ls = [((n + 1 - j : Nat) : Int),7] ∧ f.st = [((n + 1 - j : Nat) : Int)])) ∧ True := by
  by_cases h0 : j = 0
  ·subst h0; rw [Xc] at hf; cases hf
   exact ⟨1,2,0,2,rfl,rfl,by kernel_rfl,.inl rfl,trivial⟩
  ·rw [Kw (by omega) hj] at hf; cases hf
   exact ⟨0,10,0,2,rfl,rfl,by kernel_rfl,.inr ⟨rfl,rfl⟩,trivial⟩
 obtain ⟨x1,x2,b1,o1,v2,b3,o3,cs1,ds,y1,y2,y3,y4,y5,y6,y7⟩ := ZC (hc.instr _ _ _ (by simp) e3)
 rw [e1] at q2; rw [e2] at q3
 rw [e1,Int.toNat_natCast] at y1
 rw [e2] at y4
 have dp : ld1 H (.ptr x 1) = some p1 := by rw [hk.ld1 hp]; rfl
 have z1 : ld1 H (.ptr b1 (o1 + 4)) = some v2 := by rw [hk.ld1 y2]; exact y3
 have z2 : ld1 H (.ptr b3 (o3 + 0)) = some (iv 36) := by
  rw [hk.ld1 y5]
  have : ((ds.drop o3).take 3)[0]? = some (iv 36) := by rw [y7]; rfl
  rw [List.getElem?_take_of_lt (by omega),List.getElem?_drop] at this
  exact this
 have ix : idxS l ((j : Int).toNat) 4 = some (.ptr b (j * 4)) := by rw [Int.toNat_natCast]; exact q1
 refine ⟨_,rfl,_,dp,by omega,_,ix,_,qt _ _ _,fi,q2,by omega,_,by rw [Int.toNat_natCast]; exact y1,_,qt _ _ _,_,z1,by omega,_,ix,_,qt _ _ _,pcn,q3,by omega,_,y4,_,qt _ _ _,36,z2,yV (by simp) ?_⟩
 rw [qS]; simp only [decide_eq_true_eq,decide_eq_false_iff_not]
 refine ⟨fun hpos => ?_,fun hz => ?_⟩
 ·rcases e4 with h0 | ⟨hls,hst⟩
  ·omega
  rw [hls] at q6
  rw [hst] at q7
  obtain ⟨pa,w1,w2⟩ := q6.getU hk (q := 0) (by simp)
  obtain ⟨pb,w3,w4⟩ := q6.getU hk (q := 1) (by simp)
  obtain ⟨pc,w5,w6⟩ := q7.getU hk (q := 0) (by simp)
  have ew : IntKind.u64.wrap (IntKind.i64.wrap (IntKind.i64.wrap ((n : Int) + 1) - (j : Int))) = ((n + 1 - j : Nat) : Int) := by
   rw [qP (n := (n : Int) + 1) (by omega) (by omega),qP (by omega) (by omega),u_id (by omega) (by omega)]; omega
  rw [ew]
  refine ⟨by omega,_,ix,_,qt _ _ _,_,q4,by omega,_,w1,_,w2,yV (by simp) ⟨by omega,_,ix,_,qt _ _ _,_,q4,by omega,_,w3,7,w4,yV (by simp) ⟨by omega,_,ix,_,qt _ _ _,_,q5,_,q7.len,yV (by simp) ⟨by omega,_,ix,_,qt _ _ _,_,q5,by omega,_,w5,_,w6,
   ⟨⟨_,dp,rfl⟩,⟨_,q2,rfl⟩,⟨_,z1,rfl⟩,⟨_,q3,rfl⟩,⟨_,z2,rfl⟩,⟨_,q4,rfl⟩,⟨_,w2,rfl⟩,trivial,⟨_,q4,rfl⟩,⟨_,w4,rfl⟩,⟨_,q5,rfl⟩,⟨_,q5,rfl⟩,⟨_,w6,rfl⟩,trivial,trivial⟩,?_⟩⟩⟩⟩
  have := hK (nx + 72) (by omega)
  simpa using this
 ·refine ⟨⟨⟨_,dp,rfl⟩,⟨_,q2,rfl⟩,⟨_,z1,rfl⟩,⟨_,q3,rfl⟩,⟨_,z2,rfl⟩,?_⟩,?_⟩
  ·simp
  ·exact hK (nx + 72) (by omega)
theorem XN (T : Tabs t fz) (n0 a0 : Int) {H : Heap} {nx : Nat} : TriP Tryz.prog 7 [iv n0,iv a0] H nx (fun e _ _ => e = .ret (.bool true)) := by
 refine TriP.of_body qw ?_
 rw [qbd]
 unfold qer
 refine WG (m := 20) (by omega) (by omega) fun i hi => ?_
 rw [qd]
 refine ⟨_,rfl,?_⟩
 have en : IntKind.i64.wrap (1 + (i : Int)) = ((i + 1 : Nat) : Int) := by rw [qP (by omega) (by omega)]; omega
 rw [en]
 refine srcDeep T.ev T.same (fun _ => none) H nx _ Y6 fun H1 Γ1 x p0 p1 p4 lx k1 s1 hp hc hh => ?_
 rw [qd]
 have hcv : qx p0 = true ∧ qx p1 = true ∧ qx p4 = true := by
  obtain ⟨G,fb,off,len,e,nt,full,rfl,_,_,_,_,_,_,_,_,_,a11,a12⟩ := hp
  exact ⟨a11,rfl,a12⟩
 have k12 := k1.new (b := x) (nx' := x + 1) (by omega) (by omega) [p0,p1,iv 1,.nilSlice,p4]
 have k13 := k12.new (b := x + 1) (nx' := x + 1 + 1) (by omega) (by omega) [iv 0,iv 0]
 have k26 := k13.new (b := x + 1 + 1) (nx' := x + 1 + 1 + 1) (by omega) (by omega) [iv ((i + 1 : Nat) : Int)]
 have e14 : stC (newB (x + 1) [iv 0,iv 0] (newB x [.nilSlice,.nilSlice,iv 0,.nilSlice,.nilSlice] H1)) (.ptr x 0) [p0,p1,iv 1,.nilSlice,p4] = some (newB (x + 1) [iv 0,iv 0] (newB x [p0,p1,iv 1,.nilSlice,p4] H1)) := by
  have hh : Has (newB (x + 1) [iv 0,iv 0] (newB x [.nilSlice,.nilSlice,iv 0,.nilSlice,.nilSlice] H1)) x [.nilSlice,.nilSlice,iv 0,.nilSlice,.nilSlice] := (W3 x _ H1).ne (by omega)
  rw [Yy hh (by simp) (by simp [qo,hcv.1,hcv.2.1,hcv.2.2]; rfl)]
  congr 1
  funext c
  by_cases hc : c = x
  ·subst hc; rw [kD,jd (by omega),kD]; rfl
  ·rw [jd hc]
   by_cases hc2 : c = x + 1
   ·subst hc2; rw [kD,kD]
   ·rw [jd hc2,jd hc2,jd hc,jd hc]
 have e15 : stC (newB (x + 1) [iv 0,iv 0] (newB x [p0,p1,iv 1,.nilSlice,p4] H1)) (.ptr (x + 1) 0) [iv 0,iv 0] = some (newB (x + 1) [iv 0,iv 0] (newB x [p0,p1,iv 1,.nilSlice,p4] H1)) := ZQ rfl rfl
 have l15 : ldN (newB (x + 1) [iv 0,iv 0] (newB x [p0,p1,iv 1,.nilSlice,p4] H1)) 5 (.ptr x 0) = some (.agg [p0,p1,iv 1,.nilSlice,p4]) := by rw [k13.ldN (by rw [qe (by omega),qc]) (by simp)]; rfl
 refine ⟨_,_,_,_,_,_,_,_,rfl,_,rfl,_,rfl,_,e14,_,e15,_,_,_,_,_,l15,rfl,_,rfl,?_⟩
 obtain ⟨Γp,eΓ⟩ : ∃ Γp,Γp = gup (x + 1 + 1) (some [iv ((i + 1 : Nat) : Int)]) (gup (x + 1) (some [iv 0,iv 0]) (gup x (some [p0,p1,iv 1,.nilSlice,p4]) Γ1)) := ⟨_,rfl⟩
 have s13 : Sub Γ1 Γp := fun c ds ec => by have := k1.lt ec; rw [eΓ,qe (by omega),qe (by omega),qe (by omega)]; exact ec
 have ex : Γp x = some [p0,p1,iv 1,.nilSlice,p4] := by rw [eΓ,qe (by omega),qe (by omega),qc]
 have ein : Γp (x + 1 + 1) = some [iv ((i + 1 : Nat) : Int)] := by rw [eΓ,qc]
 rw [← eΓ] at k26
 have hp13 := hp.mono (H' := newB (x + 1 + 1) [iv ((i + 1 : Nat) : Int)] (newB (x + 1) [iv 0,iv 0] (newB x [p0,p1,iv 1,.nilSlice,p4] H1))) (nx' := x + 1 + 1 + 1) s13 (fun b hb => by rw [jd (by omega),jd (by omega),jd (by omega)]) (by omega)
 have hcp := hc.mono s13
 have hhp := hh.mono s13
 obtain ⟨G,fb,off,len,e,nt,full,rfl,a2,a3,a4,a5,a6,a7,a8,a9,a10,a11,a12⟩ := hp13
 refine qgm a2 a3 a4 a5 k26 a6 a7 a8 a9 a10 (inputs := [((i + 1 : Nat) : Int)]) (room := 50) (.inr ⟨x + 1 + 1,0,true,_,rfl,ein,by simp,rfl⟩) (by simp) ⟨a11,a12⟩ (by omega) (by omega) fun H2 x2 m pg Γq l2 lm lq hcq hpg hms => ?_
 rw [qd]
 refine ⟨_,_,rfl,?_⟩
 obtain ⟨Γm,own,Gm,km,gm⟩ := hms
 refine qdh T.ev T.same km fun H3 km3 => ?_
 rw [qd]
 refine ⟨_,rfl,yV rfl (ZN rfl (ZN rfl ⟨false,rfl,yV rfl ?_⟩))⟩
 have st := Deep.main (num := Lib.itoa) (n := i + 1) (by omega) (words := [0]) (room := 50) (lits := [])
 refine qgx (fuel := 5000) (qfa T.pow) (by omega) hpg (st.runs (k := 0) hcq (qih (nl := 0) (fuel := 5000 + 0) (by omega) (by omega) (by omega) (by simp)) (.stop (.inl rfl))) ⟨Γm,own,Gm,km3,gm⟩ fun v H4 x4 l4 hov => ?_
 rw [qd]
 refine ⟨_,rfl,?_⟩
 obtain ⟨S,fb4,eS,hms4⟩ : ∃ S fb4,Out.go (Deep.at_ (⟨1,2,[],[]⟩ :: Deep.fr (i + 1)) 0 4 [0,7] [] ⟨[0],50,[],[((i + 1 : Nat) : Int)],1,[]⟩) = .go S ∧ MS (orG Γp Γq) (pg.at fb4) m S H4 x4 := by
  rcases hov with h | ⟨W,eW,_⟩
  ·exact h
  ·cases eW
 cases eS
 refine Xv hms4 (by simp [Deep.fr_len]; omega) (fun f hf => by have := Ze (n := i + 1) f hf; omega) fun H5 Γ5 x5 bb l5 lb k5 s5 f5 => ?_
 rw [qd]
 have f5' : FrC Γ5 x4 bb (dfs (i + 1)) := f5
 have elen : (⟨1,2,[],[]⟩ :: Deep.fr (i + 1) : List Fm).length + 1 = (dfs (i + 1)).length := by simp [dfs]
 have sp5 : Sub Γp Γ5 := fun c ds ec => s5 _ _ (qj8 ec)
 have ev2 : (AVal.slice bb 0 ((⟨1,2,[],[]⟩ :: Deep.fr (i + 1) : List Fm).length + 1) 4 false) = .slice bb 0 (dfs (i + 1)).length 4 false := by rw [elen]
 have hgoal := ev2
 show ∃ i48,lenS (AVal.slice bb 0 ((⟨1,2,[],[]⟩ :: Deep.fr (i + 1) : List Fm).length + 1) 4 false) = some i48 ∧ _
 rw [ev2]
 refine ⟨(dfs (i + 1)).length,rfl,yV ?_ ?_⟩
 ·rw [js,qP (by omega) (by omega)]; simp
 have l5' : ldN H5 5 (.ptr x 0) = some (.agg [p0,.slice fb off len e full,iv 1,.nilSlice,p4]) := by rw [k5.ldN (sp5 _ _ ex) (by simp)]; rfl
 refine ⟨_,_,_,_,_,l5',?_⟩
 have fin5 : FrIn Γ5 (.slice bb 0 (dfs (i + 1)).length 4 false) (dfs (i + 1)) := f5'.in
 rw [qh2] at hhp
 refine VU (code := Deep.C) (hs := hsD) (fs := dfs (i + 1)) (es := J6 (dfs (i + 1))) k5 (hcp.mono sp5) (hhp.mono sp5) fin5 (by rw [js]; omega) (by rw [js]; omega) (fun j f hf => by rw [js]; exact WQ hf) fun H6 Γ6 x6 r l6 k6 s6 hr => ?_
 have : r = true := hr.2 fun j f hf => by unfold J6; rw [hf]
 subst this
 rw [qd]
 refine ⟨_,rfl,yV rfl ?_⟩
 have sp6 : Sub Γp Γ6 := sp5.trans s6
 have fin6 := fin5.mono s6
 refine KS (P := Tryz.prog) (X := Nat) (Y := Unit) (fun j => envL .und [(11,iv j),(10,.slice bb 0 (dfs (i + 1)).length 4 false),(5,.ptr x 0),(1,iv a0),(0,iv ((i + 1 : Nat) : Int))])
  (fun _ => envL .und [(10,.slice bb 0 (dfs (i + 1)).length 4 false),(5,.ptr x 0),(1,iv a0),(0,iv ((i + 1 : Nat) : Int))])
  (fun mm j H' nx' => mm = i + 2 - j ∧ j ≤ i + 2 ∧ x6 ≤ nx' ∧ H' = H6) (fun id _ H' nx' => id = 0 ∧ x6 ≤ nx' ∧ H' = H6) (i + 2) 0 (qI.of_list (by exact ⟨rfl,rfl,rfl,rfl,rfl,trivial⟩)) ⟨rfl,Nat.zero_le _,Nat.le_refl _,rfl⟩ ?_ ?_
 ·rintro mm j H' nx7 ⟨rfl,hj,hn7,rfl⟩
  rw [qce]
  refine WpP.seq (WpP.seq (WpP.part (ts := [62,11,10,5,1,0]) qw ?_))
  rw [qft]
  unfold LDh
  refine ⟨_,rfl,?_⟩
  have ew : IntKind.i64.wrap (Int.ofNat (dfs (i + 1)).length - 1) = ((i + 2 : Nat) : Int) := by rw [js]; simp only [Int.ofNat_eq_natCast]; rw [qP (by omega) (by omega)]; omega
  rw [ew]
  show WpP _ _ (.cond _ _ _) _ _ _ _ _
  by_cases hlt : j < i + 2
  ·refine WpP.cond (p := true) (by show AVal.bool (decide _) = _; rw [decide_eq_true (by omega)]) (WpP.skip ?_)
   show WpP _ _ (.seq _ _) _ _ _ _ _
   refine WpP.weaken (e := envL .und [(11,iv j),(10,.slice bb 0 (dfs (i + 1)).length 4 false),(5,.ptr x 0),(1,iv a0),(0,iv ((i + 1 : Nat) : Int))]) (qI.of_list (by exact ⟨rfl,rfl,rfl,rfl,rfl,trivial⟩)) ?_
   refine WpP.seq (WpP.block (WpP.seq ?_))
   refine Y2 (n := i + 1) (by omega) (k6.more hn7) fin6 (sp6 _ _ ex) (hcp.mono sp6) (by omega) fun nx8 hn8 => ?_
   show WpP _ _ (.cond _ _ _) _ _ _ _ _
   refine WpP.cond (p := false) rfl (WpP.skip ?_)
   show WpP _ _ _ _ _ _ _ _
   refine WpP.weaken (e := envL .und [(11,iv j),(10,.slice bb 0 (dfs (i + 1)).length 4 false),(5,.ptr x 0),(1,iv a0),(0,iv ((i + 1 : Nat) : Int))]) (qI.of_list (by exact ⟨rfl,rfl,rfl,rfl,rfl,trivial⟩)) ?_
   refine WpP.part (ts := [11,10,5,1,0]) qw ?_
   rw [qf8]
   unfold LDn
   have ew : IntKind.i64.wrap ((j : Int) + 1) = ((j + 1 : Nat) : Int) := by rw [qP (by omega) (by omega)]; omega
   refine ⟨rfl,i + 2 - (j + 1),j + 1,by omega,qI.of_list ⟨?_,rfl,rfl,rfl,rfl,trivial⟩,rfl,by omega,by omega,rfl⟩
   show AVal.int .i64 _ = _
   rw [ew]
  ·refine WpP.cond (p := false) (by show AVal.bool (decide _) = _; rw [decide_eq_false (by omega)]) (WpP.of_vK qw ?_)
   exact ⟨rfl,(),qI.of_list (by exact ⟨rfl,rfl,rfl,rfl,trivial⟩),rfl,hn7,rfl⟩
 ·rintro id _ H' nx7 ⟨rfl,hn7,rfl⟩
  rw [qgr]
  unfold LDa
  refine ⟨(dfs (i + 1)).length,rfl,?_⟩
  refine WG (m := (dfs (i + 1)).length) (by rw [js]; omega) (by rw [js]; omega) fun k hk => ?_
  rw [qd]
  refine ⟨_,rfl,?_⟩
  have k7 := k6.more hn7
  refine qac k7 fin6 (by rw [js]; omega) (fun h => by have := js (i + 1); rw [h] at this; simp at this) (fun f hf => by have := Ze f hf; omega) fun H8 Γ8 x8 b8 l8 lb8 k8 s8 f8 => ?_
  rw [qd]
  obtain ⟨sv,c1,c2,v,H9,c3,c4,H10,Γ10,c5,k10,s10,fin10⟩ := f8.bump (base := Γ6) (k := k) k8 s8 (fun c ds e => k7.lt e) lb8 hk (by have := Ze (n := i + 1) _ (List.getElem_mem hk); omega) (Nat.le_refl x8)
  have ix : idxS (.slice b8 0 (dfs (i + 1)).length 4 false) ((k : Int).toNat) 4 = some (.ptr b8 (k * 4)) := by rw [Int.toNat_natCast,qW hk]; simp
  have sp10 : Sub Γp Γ10 := sp6.trans s10
  have l10 : ldN H10 5 (.ptr x 0) = some (.agg [p0,.slice fb off len e full,iv 1,.nilSlice,p4]) := by rw [k10.ldN (sp10 _ _ ex) (by simp)]; rfl
  refine ⟨by omega,_,ix,_,qt _ _ _,_,c1,rfl,_,rfl,_,_,c2,rfl,_,_,_,c3,by omega,_,ix,_,qt _ _ _,c4,_,c5,_,_,_,_,_,l10,?_⟩
  have hbl : (Vs.bump (dfs (i + 1)) k).length = (dfs (i + 1)).length := Qn _ _
  rw [← hbl] at fin10
  have hbump : ∀ j f,(Vs.bump (dfs (i + 1)) k)[j]? = some f → ∃ f0,(dfs (i + 1))[j]? = some f0 ∧ f.f = f0.f ∧ f.pc = f0.pc ∧ f.ls = f0.ls ∧ (j = k → f.st.length = f0.st.length + 1) := fun j f hf => by
   unfold Vs.bump at hf
   rw [List.getElem?_eq_getElem hk] at hf
   by_cases hjk : j = k
   ·subst hjk
    simp only [List.getElem?_set_self hk] at hf
    cases hf
    exact ⟨_,List.getElem?_eq_getElem hk,rfl,rfl,rfl,fun _ => by simp⟩
   ·simp only [List.getElem?_set_ne (Ne.symm hjk)] at hf
    exact ⟨f,hf,rfl,rfl,rfl,fun h => absurd h hjk⟩
  rw [show AVal.slice b8 0 (dfs (i + 1)).length 4 false = .slice b8 0 (Vs.bump (dfs (i + 1)) k).length 4 false by rw [hbl]]
  refine VU (code := Deep.C) (hs := hsD) (fs := Vs.bump (dfs (i + 1)) k) (es := J6 (dfs (i + 1))) k10 (hcp.mono sp10) (hhp.mono sp10) fin10 (by rw [hbl,js]; omega) (by rw [hbl,js]; omega) (fun j f hf => ?_) fun H11 Γ11 x11 r l11 k11 s11 hr => ?_
  ·obtain ⟨f0,h1,h2,h3,h4,_⟩ := hbump j f hf
   obtain ⟨fi,pcn,ht,hh',g1,g2,g3,g4,g5,g6,g7,g8⟩ := WQ h1
   refine ⟨fi,pcn,ht,hh',by rw [h2]; exact g1,by rw [h3]; exact g2,g3,g4,g5,g6,by rw [h2,h4]; exact g7,?_⟩
   rw [hbl,js,h2,h3]
   exact g8
  ·have hrf : r = false := by
    cases hr0 : r with
    | false => rfl
    | true =>
     obtain ⟨f,hf⟩ : ∃ f,(Vs.bump (dfs (i + 1)) k)[k]? = some f := ⟨_,List.getElem?_eq_getElem (by rw [hbl]; exact hk)⟩
     obtain ⟨f0,h1,_,_,_,h5⟩ := hbump k f hf
     have h6 := hr.1 hr0 k f hf
     unfold J6 at h6
     rw [h1] at h6
     have h7 := h5 rfl
     dsimp only at h6
     omega
   subst hrf
   rw [qd]
   refine ⟨_,rfl,qey rfl ?_⟩
   obtain ⟨b0,lv0,sv0,r1,r2,r3,r4,r5,r6,r7⟩ := Yx k11 ((fin6.mono s10).mono s11) (Xc (i + 1))
   exact ⟨by omega,_,r1,_,qt _ _ _,_,r5,_,r7.len,rfl⟩
end
end Go.Vs
end
