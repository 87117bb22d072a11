/-
  Own work. Texts of a proof,laid together; no condition.
-/
import Derived.Test.YtnkeadjkckpknaaGreatDoorChecked
import Derived.Shelf.Strings.Count
import Derived.Shelf.Strings.Search1
import Derived.WalkKit
import Derived.ProofKit
import Derived.Shelf.Strconv.Itoa4
import Derived.Lib.LaidTab
import Derived.Test.YtnkeadjkckpknaaGreatDoorDps5
import Derived.Test.YtnkeadjkckpknaaGreatDoorDps4
set_option linter.unusedSectionVars false
set_option linter.unusedVariables false
set_option linter.unusedSimpArgs false
set_option maxRecDepth 1000000
section
namespace Go.Vs
open Go.Ev (ilt zH)
open Go.Proofs
variable [GTab]
theorem ZN {p : Prop} [Decidable p] {A B : Prop} (h : p) (hb : B) : ifB (!decide p) A B := by rw [decide_eq_true h]; exact hb
theorem qcr {room : Int} {H : Heap} {nx : Nat} {K : EndP} (h1 : 1 ≤ room) (h2 : room ≤ 65536)
  (hK : K (.ret (.tuple [.ptr (nx + 1) 0,iv 0])) (newB (nx + 1) [.slice nx 0 1 1 true,iv room] (newB nx [uv 0] H)) (nx + 1 + 1)) : TriP Tryz.prog 49 [iv room] H nx K := by
 refine TriP.of_body qw ?_
 rw [Yg]
 unfold qdy
 refine qA (by omega) (qA (by omega) ⟨rfl,_,rfl,rfl,rfl,_,rfl,hK⟩)
def SrcV (Γ : GH) (v : AVal) (sz : Nat) (n : Nat) (cells : List AVal) : Prop :=
 (v = .nilSlice ∧ n = 0 ∧ cells = []) ∨ ∃ b off full cs,v = .slice b off n sz full ∧ Γ b = some cs ∧ off + n * sz ≤ cs.length ∧ (cs.drop off).take (n * sz) = cells
theorem SrcV.len {Γ : GH} {v : AVal} {sz n : Nat} {cells : List AVal} (h : SrcV Γ v sz n cells) : lenS v = some n := by
 rcases h with ⟨rfl,rfl,rfl⟩ | ⟨b,off,full,cs,rfl,_⟩ <;> rfl
theorem SrcV.src {Γ : GH} {H : Heap} {nx : Nat} {v : AVal} {sz n : Nat} {cells : List AVal} (h : SrcV Γ v sz n cells) (hk : HOK Γ H nx) : aSrc sz H v = some (n,cells) := by
 rcases h with ⟨rfl,rfl,rfl⟩ | ⟨b,off,full,cs,rfl,h1,h2,h3⟩
 ·rfl
 ·rw [hk.src h1 h2,h3]
theorem SrcV.mono {Γ Γ' : GH} {v : AVal} {sz n : Nat} {cells : List AVal} (h : SrcV Γ v sz n cells) (hs : ∀ c ds,Γ c = some ds → Γ' c = some ds) : SrcV Γ' v sz n cells := by
 rcases h with h | ⟨b,off,full,cs,h0,h1,h2⟩
 ·exact .inl h
 ·exact .inr ⟨b,off,full,cs,h0,hs _ _ h1,h2⟩
structure TypesV (Γ : GH) (v : AVal) (n : Nat) : Prop where
 small : n < 1000000
 row : ∃ b full cs,v = .slice b 0 n 5 full ∧ Γ b = some cs ∧ ∀ i,i < n → i * 5 + 5 ≤ cs.length ∧ ∃ kd nm el ml,(cs.drop (i * 5)).take 5 = [iv kd,.str nm,iv el,.nilSlice,ml] ∧ qx ml = true
structure NewW (Γ Γ' : GH) (nx nx' : Nat) (w hp hb inb : Nat) (inf : Bool) (tv : AVal) (inputs : List Int) (room : Int) : Prop where
 le : nx ≤ nx'
 old : ∀ c ds,Γ c = some ds → Γ' c = some ds
 ws : nx ≤ w ∧ nx ≤ hp ∧ nx ≤ hb ∧ nx ≤ inb
 ne : w ≠ hp ∧ w ≠ hb ∧ w ≠ inb ∧ hp ≠ hb ∧ hp ≠ inb ∧ hb ≠ inb
 ew : Γ' w = some [tv,.ptr hp 0,.nilSlice,.slice inb 0 inputs.length 1 inf,iv 0,.nilSlice]
 eh : Γ' hp = some [.slice hb 0 1 1 true,iv room]
 eb : Γ' hb = some [uv 0]
 ei : Γ' inb = some (inputs.map iv)
def TvV (F Γ1 : GH) (w : Nat) (tv : AVal) (k : Nat) : Prop := (tv = .nilSlice ∧ k = 0) ∨ ∃ b cs,tv = .slice b 0 k 5 false ∧ Γ1 b = some cs ∧ k * 5 ≤ cs.length ∧ F b = none ∧ b ≠ w
theorem YR {room : Int} (h1 : 1 ≤ room) (h2 : room ≤ 65536) : (Bool.rec (Bool.rec room 1 (ilt 1 room)) (Bool.rec room 1 (ilt room 1)) true : Int) = room ∧ (Bool.rec (Bool.rec room 65536 (ilt 65536 room)) (Bool.rec room 65536 (ilt room 65536)) false : Int) = room := by
 have e1 : ilt room 1 = false := by rw [zH]; simp; omega
 have e2 : ilt 65536 room = false := by rw [zH]; simp; omega
 rw [e1,e2]
 exact ⟨rfl,rfl⟩
theorem qdl {Γ : GH} {H : Heap} {nx nt : Nat} {p0 p1 p4 ins : AVal} {p2 room : Int} {inputs : List Int} {K : EndP} (hk : HOK Γ H nx) (ht : TypesV Γ p0 nt) (hi : SrcV Γ ins 1 inputs.length (inputs.map iv)) (hl : inputs.length < 1000000)
  (hp : qx p0 = true ∧ qx p1 = true ∧ qx p4 = true) (h1 : 1 ≤ room) (h2 : room ≤ 65536)
  (hK : ∀ Γ' H' nx' w hp hb inb inf tv,HOK Γ' H' nx' → NewW Γ Γ' nx nx' w hp hb inb inf tv inputs room → K (.ret (.tuple [.ptr w 0,.bool true])) H' nx') :
  TriP Tryz.prog 32 [.agg [p0,p1,iv p2,.nilSlice,p4],iv room,ins] H nx K := by
 refine TriP.of_body qw ?_
 rw [YA]
 unfold qdt
 have k0 := hk.new (b := nx) (nx' := nx + 1) (by omega) (by omega) [p0,p1,iv p2,.nilSlice,p4]
 have hnb : ∀ c ds,Γ c = some ds → c < nx := fun c ds ec => hk.lt ec
 obtain ⟨m1,m2⟩ := YR h1 h2
 refine ⟨_,rfl,_,rfl,_,rfl,?_⟩
 rw [m1,m2]
 refine qcr h1 h2 ?_
 rw [qd]
 have k1 := (k0.new (b := nx + 1) (nx' := nx + 2) (by omega) (by omega) [uv 0]).new (b := nx + 2) (nx' := nx + 3) (by omega) (by omega) [.slice (nx + 1) 0 1 1 true,iv room]
 have k2 := k1.new (b := nx + 3) (nx' := nx + 4) (by omega) (by omega) []
 refine ⟨_,_,rfl,ZN rfl ⟨_,rfl,?_⟩⟩
 have sub2 : ∀ c ds,Γ c = some ds → gup (nx + 3) (some []) (gup (nx + 2) (some [.slice (nx + 1) 0 1 1 true,iv room]) (gup (nx + 1) (some [uv 0]) (gup nx (some [p0,p1,iv p2,.nilSlice,p4]) Γ))) c = some ds := fun c ds ec => by
  have := hnb _ _ ec
  rw [qe (by omega),qe (by omega),qe (by omega),qe (by omega)]; exact ec
 have esrc := (hi.mono sub2).src k2
 have hcell : qo (inputs.map iv) = true := kV (f := iv) (fun _ => rfl) _
 refine ⟨_,_,esrc,hcell,?_⟩
 have hap : ∃ inb inf H13 i14 Γ13,appC (newB (nx + 3) [] (newB (nx + 2) [.slice (nx + 1) 0 1 1 true,iv room] (newB (nx + 1) [uv 0] (newB nx [p0,p1,iv p2,.nilSlice,p4] H)))) (nx + 4) 1 8 (.slice (nx + 3) 0 0 1 true) inputs.length (inputs.map iv) = some (.slice inb 0 inputs.length 1 inf,H13,i14) ∧
   HOK Γ13 H13 i14 ∧ nx + 4 ≤ i14 ∧ nx + 3 ≤ inb ∧ Γ13 inb = some (inputs.map iv) ∧ (∀ c ds,c < nx + 3 → gup (nx + 2) (some [.slice (nx + 1) 0 1 1 true,iv room]) (gup (nx + 1) (some [uv 0]) (gup nx (some [p0,p1,iv p2,.nilSlice,p4]) Γ)) c = some ds → Γ13 c = some ds) := by
  by_cases hz : inputs.length = 0
  ·have hnil : inputs = [] := List.length_eq_zero_iff.1 hz
   subst hnil
   exact ⟨nx + 3,true,_,nx + 4,_,rfl,k2,Nat.le_refl _,Nat.le_refl _,qc _ _ _,fun c ds hc e => by rw [qe (by omega)]; exact e⟩
  ·obtain ⟨H',q1,q2⟩ := k2.appFull (b := nx + 3) (off := 0) (len := 0) (esz := 1) (ebytes := 8) (k := inputs.length) (new := inputs.map iv) (qc _ _ _) (by simp) (by simp) (by omega) (by omega) (by omega)
   rw [Nat.zero_add] at q1
   refine ⟨nx + 4,false,H',nx + 4 + 1,_,q1,q2,by omega,by omega,?_,fun c ds hc e => ?_⟩
   ·rw [qc]; simp
   ·rw [qe (by omega),qe (by omega)]; exact e
 obtain ⟨inb,inf,H13,i14,Γ13,q1,k13,l14,linb,einb,sub13⟩ := hap
 refine ⟨_,_,_,q1,rfl,rfl,_,rfl,_,rfl,?_⟩
 have ninb := k13.lt einb
 have k15 := k13.new (b := i14) (nx' := i14 + 1) (by omega) (by omega) [.nilSlice,.ptr (nx + 2) 0,.nilSlice,.slice inb 0 inputs.length 1 inf,iv 0,.nilSlice]
 have sub15 : ∀ c ds,c < nx + 3 → gup (nx + 2) (some [.slice (nx + 1) 0 1 1 true,iv room]) (gup (nx + 1) (some [uv 0]) (gup nx (some [p0,p1,iv p2,.nilSlice,p4]) Γ)) c = some ds → gup i14 (some [.nilSlice,.ptr (nx + 2) 0,.nilSlice,.slice inb 0 inputs.length 1 inf,iv 0,.nilSlice]) Γ13 c = some ds := fun c ds hc e => by rw [qe (by omega)]; exact sub13 c ds hc e
 rw [vb]
 have e0 : ld1 (newB i14 [.nilSlice,.ptr (nx + 2) 0,.nilSlice,.slice inb 0 inputs.length 1 inf,iv 0,.nilSlice] H13) (.ptr nx 0) = some p0 := by
  rw [k15.ld1 (sub15 nx _ (by omega) (by rw [qe (by omega),qe (by omega),qc]))]; rfl
 obtain ⟨tb,tf,tcs,rfl,etb,hty⟩ := ht.row
 refine ⟨_,e0,_,rfl,?_⟩
 have ltb := hnb _ _ etb
 have hsm := ht.small
 have hF : ∃ F : GH,(∀ c ds,Γ c = some ds → F c = some ds) ∧ F nx = some [.slice tb 0 nt 5 tf,p1,iv p2,.nilSlice,p4] ∧ F (nx + 1) = some [uv 0] ∧ F (nx + 2) = some [.slice (nx + 1) 0 1 1 true,iv room] ∧ F inb = some (inputs.map iv) ∧ F i14 = none ∧ (∀ c ds,F c = some ds → c < i14 + 1) ∧
   ∀ c ds,F c = some ds → gup i14 (some [.nilSlice,.ptr (nx + 2) 0,.nilSlice,.slice inb 0 inputs.length 1 inf,iv 0,.nilSlice]) Γ13 c = some ds := by
  refine ⟨fun c => if c = inb then some (inputs.map iv) else if c < nx + 3 then gup (nx + 2) (some [.slice (nx + 1) 0 1 1 true,iv room]) (gup (nx + 1) (some [uv 0]) (gup nx (some [.slice tb 0 nt 5 tf,p1,iv p2,.nilSlice,p4]) Γ)) c else none,fun c ds ec => ?_,?_,?_,?_,?_,?_,fun c ds ec => ?_,fun c ds ec => ?_⟩
  ·have := hnb _ _ ec
   simp only [show c ≠ inb by omega,if_false,show c < nx + 3 by omega,if_true]
   rw [qe (by omega),qe (by omega),qe (by omega)]; exact ec
  ·simp only [show nx ≠ inb by omega,if_false,show nx < nx + 3 by omega,if_true]
   rw [qe (by omega),qe (by omega),qc]
  ·simp only [show nx + 1 ≠ inb by omega,if_false,show nx + 1 < nx + 3 by omega,if_true]
   rw [qe (by omega),qc]
  ·simp only [show nx + 2 ≠ inb by omega,if_false,show nx + 2 < nx + 3 by omega,if_true]
   rw [qc]
  ·simp
  ·simp only [show i14 ≠ inb by omega,if_false,show ¬ i14 < nx + 3 by omega]
  ·have ec' : (if c = inb then some (inputs.map iv) else if c < nx + 3 then gup (nx + 2) (some [.slice (nx + 1) 0 1 1 true,iv room]) (gup (nx + 1) (some [uv 0]) (gup nx (some [.slice tb 0 nt 5 tf,p1,iv p2,.nilSlice,p4]) Γ)) c else none) = some ds := ec
   split at ec'
   ·omega
   ·split at ec'
    ·omega
    ·cases ec'
  ·have ec' : (if c = inb then some (inputs.map iv) else if c < nx + 3 then gup (nx + 2) (some [.slice (nx + 1) 0 1 1 true,iv room]) (gup (nx + 1) (some [uv 0]) (gup nx (some [.slice tb 0 nt 5 tf,p1,iv p2,.nilSlice,p4]) Γ)) c else none) = some ds := ec
   split at ec'
   ·rename_i hc; subst hc; cases ec'
    rw [qe (by omega)]; exact einb
   ·split at ec'
    ·exact sub15 c ds (by assumption) ec'
    ·cases ec'
 obtain ⟨F,F0,F1,F2,F3,F4,F5,F6,F7⟩ := hF
 refine KG qw (X := Nat) (Y := Unit) (fun k => envL .und [(35,iv k),(34,iv nt),(33,.slice tb 0 nt 5 tf),(10,.ptr i14 0),(8,.ptr (nx + 2) 0),(3,.ptr nx 0)]) (fun _ => envL .und [(10,.ptr i14 0),(8,.ptr (nx + 2) 0),(3,.ptr nx 0)])
  (fun μ k H' nx' => μ = nt - k ∧ k ≤ nt ∧ i14 + 1 ≤ nx' ∧ ∃ Γ1 tv,HOK Γ1 H' nx' ∧ (∀ c ds,F c = some ds → Γ1 c = some ds) ∧ Γ1 i14 = some [tv,.ptr (nx + 2) 0,.nilSlice,.slice inb 0 inputs.length 1 inf,iv 0,.nilSlice] ∧ TvV F Γ1 i14 tv k)
  (fun id _ H' nx' => id = 0 ∧ i14 + 1 ≤ nx' ∧ ∃ Γ1 tv,HOK Γ1 H' nx' ∧ (∀ c ds,F c = some ds → Γ1 c = some ds) ∧ Γ1 i14 = some [tv,.ptr (nx + 2) 0,.nilSlice,.slice inb 0 inputs.length 1 inf,iv 0,.nilSlice]) nt 0 ?_ ?_ ?_ ?_
 ·exact qI.of_list ⟨rfl,rfl,rfl,rfl,rfl,rfl,trivial⟩
 ·exact ⟨rfl,Nat.zero_le _,Nat.le_refl _,_,.nilSlice,k15,F7,qc _ _ _,.inl ⟨rfl,rfl⟩⟩
 ·rintro μ k H1 nx1 ⟨rfl,hkn,hnx,Γ1,tv,hk1,sub1,ew1,htv⟩
  rw [qgf]
  unfold LWT
  rw [qS]; simp only [decide_eq_true_eq,decide_eq_false_iff_not]
  refine ⟨fun hlt => ?_,fun hge => ?_⟩
  ·have hlt' : k < nt := by omega
   obtain ⟨hlen,kd,nm,el,ml,hcs,hml⟩ := hty k hlt'
   have etb1 := sub1 _ _ (F0 _ _ etb)
   have i0 : idxS (.slice tb 0 nt 5 tf) ((k : Int)).toNat 5 = some (.ptr tb (k * 5)) := by rw [Int.toNat_natCast,qW hlt',Nat.zero_add]
   have l0 : ldN H1 5 (.ptr tb (k * 5)) = some (.agg [iv kd,.str nm,iv el,.nilSlice,ml]) := by rw [hk1.ldN etb1 hlen,hcs]
   have st7 : stC (newB nx1 [iv 0,.str [],iv 0,.nilSlice,.nilSlice] H1) (.ptr nx1 0) [iv kd,.str nm,iv el,.nilSlice,ml] = some (newB nx1 [iv kd,.str nm,iv el,.nilSlice,ml] H1) := ZQ rfl (by simp only [qo,hml]; rfl)
   have k7 := hk1.new (b := nx1) (nx' := nx1 + 1) (by omega) (by omega) [iv kd,.str nm,iv el,.nilSlice,ml]
   have k12 := k7.new (b := nx1 + 8) (nx' := nx1 + 9) (by omega) (by omega) []
   have k23 := k12.new (b := nx1 + 13) (nx' := nx1 + 18) (by omega) (by omega) [iv kd,.str [],iv 0,.slice (nx1 + 8) 0 0 2 true,.nilSlice]
   have lw : i14 < nx1 := by omega
   have w7 : ld1 (newB nx1 [iv kd,.str nm,iv el,.nilSlice,ml] H1) (.ptr i14 0) = some tv := by rw [k7.ld1 (by rw [qe (by omega)]; exact ew1)]; rfl
   have n7 : ld1 (newB nx1 [iv kd,.str nm,iv el,.nilSlice,ml] H1) (.ptr nx1 0) = some (iv kd) := by rw [k7.ld1 (qc _ _ _)]; rfl
   have w12 : ld1 (newB (nx1 + 8) [] (newB nx1 [iv kd,.str nm,iv el,.nilSlice,ml] H1)) (.ptr i14 0) = some tv := by rw [k12.ld1 (by rw [qe (by omega),qe (by omega)]; exact ew1)]; rfl
   have n12 : ld1 (newB (nx1 + 8) [] (newB nx1 [iv kd,.str nm,iv el,.nilSlice,ml] H1)) (.ptr nx1 0) = some (iv kd) := by rw [k12.ld1 (by rw [qe (by omega),qc])]; rfl
   have f12 : ld1 (newB (nx1 + 8) [] (newB nx1 [iv kd,.str nm,iv el,.nilSlice,ml] H1)) (.ptr nx1 3) = some .nilSlice := by rw [k12.ld1 (by rw [qe (by omega),qc])]; rfl
   have w23 : ld1 (newB (nx1 + 13) [iv kd,.str [],iv 0,.slice (nx1 + 8) 0 0 2 true,.nilSlice] (newB (nx1 + 8) [] (newB nx1 [iv kd,.str nm,iv el,.nilSlice,ml] H1))) (.ptr i14 0) = some tv := by rw [k23.ld1 (by rw [qe (by omega),qe (by omega),qe (by omega)]; exact ew1)]; rfl
   have n23 : ld1 (newB (nx1 + 13) [iv kd,.str [],iv 0,.slice (nx1 + 8) 0 0 2 true,.nilSlice] (newB (nx1 + 8) [] (newB nx1 [iv kd,.str nm,iv el,.nilSlice,ml] H1))) (.ptr nx1 0) = some (iv kd) := by rw [k23.ld1 (by rw [qe (by omega),qe (by omega),qc])]; rfl
   have s23 : aSrc 5 (newB (nx1 + 13) [iv kd,.str [],iv 0,.slice (nx1 + 8) 0 0 2 true,.nilSlice] (newB (nx1 + 8) [] (newB nx1 [iv kd,.str nm,iv el,.nilSlice,ml] H1))) (.slice (nx1 + 13) 0 1 5 true) = some (1,[iv kd,.str [],iv 0,.slice (nx1 + 8) 0 0 2 true,.nilSlice]) := by
    rw [k23.src (qc _ _ _) (by simp)]; rfl
   have hap : ∃ b H29 i30 Γ29 cs29,appC (newB (nx1 + 13) [iv kd,.str [],iv 0,.slice (nx1 + 8) 0 0 2 true,.nilSlice] (newB (nx1 + 8) [] (newB nx1 [iv kd,.str nm,iv el,.nilSlice,ml] H1))) (nx1 + 18) 5 80 tv 1 [iv kd,.str [],iv 0,.slice (nx1 + 8) 0 0 2 true,.nilSlice] = some (.slice b 0 (k + 1) 5 false,H29,i30) ∧
     HOK Γ29 H29 i30 ∧ nx1 ≤ i30 ∧ Γ29 b = some cs29 ∧ (k + 1) * 5 ≤ cs29.length ∧ nx1 ≤ b ∧ (∀ c ds,F c = some ds → Γ29 c = some ds) ∧ Γ29 i14 = some [tv,.ptr (nx + 2) 0,.nilSlice,.slice inb 0 inputs.length 1 inf,iv 0,.nilSlice] := by
    have subF : ∀ c ds,F c = some ds → gup (nx1 + 13) (some [iv kd,.str [],iv 0,.slice (nx1 + 8) 0 0 2 true,.nilSlice]) (gup (nx1 + 8) (some []) (gup nx1 (some [iv kd,.str nm,iv el,.nilSlice,ml]) Γ1)) c = some ds := fun c ds ec => by
     have := F6 _ _ ec
     rw [qe (by omega),qe (by omega),qe (by omega)]; exact sub1 _ _ ec
    have subW : gup (nx1 + 13) (some [iv kd,.str [],iv 0,.slice (nx1 + 8) 0 0 2 true,.nilSlice]) (gup (nx1 + 8) (some []) (gup nx1 (some [iv kd,.str nm,iv el,.nilSlice,ml]) Γ1)) i14 = some [tv,.ptr (nx + 2) 0,.nilSlice,.slice inb 0 inputs.length 1 inf,iv 0,.nilSlice] := by
     rw [qe (by omega),qe (by omega),qe (by omega)]; exact ew1
    rcases htv with ⟨rfl,rfl⟩ | ⟨b,cs,rfl,hb1,hb2,hb3,hb4⟩
    ·obtain ⟨H',a1,a2⟩ := k23.appNil (esz := 5) (ebytes := 80) (k := 1) (new := [iv kd,.str [],iv 0,.slice (nx1 + 8) 0 0 2 true,.nilSlice]) rfl (by omega) (by omega) (by omega)
     refine ⟨_,H',_,_,_,a1,a2,by omega,qc _ _ _,by simp,by omega,fun c ds ec => ?_,?_⟩
     ·have := F6 _ _ ec
      rw [qe (by omega)]; exact subF _ _ ec
     ·rw [qe (by omega)]; exact subW
    ·have lb := hk1.lt hb1
     obtain ⟨H',a1,a2⟩ := k23.app (b := b) (len := k) (esz := 5) (ebytes := 80) (k := 1) (new := [iv kd,.str [],iv 0,.slice (nx1 + 8) 0 0 2 true,.nilSlice]) (by rw [qe (by omega),qe (by omega),qe (by omega)]; exact hb1) hb2 rfl (by omega) (by omega) (by omega)
     refine ⟨_,H',_,_,_,a1,a2,by omega,qc _ _ _,?_,by omega,fun c ds ec => ?_,?_⟩
     ·rw [List.length_append,List.length_take]; simp; omega
     ·have := F6 _ _ ec
      have hcb : c ≠ b := fun e => by rw [e,hb3] at ec; cases ec
      rw [qe (by omega),qe hcb]; exact subF _ _ ec
     ·rw [qe (by omega),qe (fun e => hb4 e.symm)]; exact subW
   obtain ⟨b29,H29,i30,Γ29,cs29,a1,k29,l30,eb29,lb29,gb29,sub29,ew29⟩ := hap
   obtain ⟨H32,s1,s2⟩ := k29.st (b := i14) (off := 0) (vs := [.slice b29 0 (k + 1) 5 false]) ew29 (by simp) rfl
   have ew : IntKind.i64.wrap ((k : Int) + 1) = ((k + 1 : Nat) : Int) := by rw [qP (by omega) (by omega)]; omega
   refine ⟨by omega,_,i0,_,_,_,_,_,l0,_,rfl,_,st7,trivial,_,rfl,_,w7,_,rfl,_,n7,_,rfl,_,rfl,_,f12,?_,_,_,rfl,rfl,_,_,_,rfl,trivial,rfl,_,rfl,?_,_,_,s23,rfl,_,_,_,a1,trivial,_,rfl,trivial,rfl,_,s1,trivial,?_⟩
   ·exact ⟨⟨_,w12,rfl⟩,⟨_,n12,rfl⟩,⟨_,f12,rfl⟩,trivial⟩
   ·exact ⟨⟨_,w23,rfl⟩,⟨_,n23,rfl⟩,trivial⟩
   ·refine ⟨by first | rfl | trivial,nt - (k + 1),k + 1,by omega,qI.of_list ⟨?_,rfl,rfl,rfl,rfl,rfl,trivial⟩,rfl,by omega,by omega,_,.slice b29 0 (k + 1) 5 false,s2,fun c ds ec => ?_,?_,?_⟩
    ·show AVal.int .i64 _ = _
     rw [ew]
    ·have hc : c ≠ i14 := fun e => by rw [e,F5] at ec; cases ec
     rw [qe hc]; exact sub29 _ _ ec
    ·rw [qc]; rfl
    ·refine .inr ⟨b29,cs29,rfl,by rw [qe (by omega)]; exact eb29,lb29,?_,by omega⟩
     cases e : F b29 with
     | none => rfl
     | some ds => have := F6 _ _ e; omega
  ·exact ⟨by first | rfl | trivial,(),qI.of_list ⟨rfl,rfl,rfl,trivial⟩,by first | rfl | trivial,hnx,Γ1,tv,hk1,sub1,ew1⟩
 ·rintro id _ H1 nx1 ⟨rfl,hnx,Γ1,tv,hk1,sub1,ew1⟩
  rw [qfm]
  unfold AWT
  have e3 : ld1 H1 (.ptr nx 3) = some .nilSlice := by rw [hk1.ld1 (sub1 _ _ F1)]; rfl
  refine ⟨_,rfl,_,e3,_,rfl,?_⟩
  refine KG qw (X := Unit) (Y := Unit) (fun _ => envL .und [(59,iv (0 : Nat)),(58,iv (0 : Nat)),(57,.nilSlice),(10,.ptr i14 0),(8,.ptr (nx + 2) 0),(3,.ptr nx 0)]) (fun _ => envL .und [(10,.ptr i14 0),(8,.ptr (nx + 2) 0),(3,.ptr nx 0)])
   (fun μ _ H' nx' => H' = H1 ∧ nx' = nx1) (fun id _ H' nx' => id = 2 ∧ H' = H1 ∧ nx' = nx1) 0 () ?_ ⟨rfl,rfl⟩ ?_ ?_
  ·exact qI.of_list ⟨rfl,rfl,rfl,rfl,rfl,rfl,trivial⟩
  ·rintro μ _ H2 nx2 ⟨rfl,rfl⟩
   rw [qhb]
   unfold LWX
   refine qA (by simp) ?_
   exact ⟨by first | rfl | trivial,(),qI.of_list ⟨rfl,rfl,rfl,trivial⟩,by first | rfl | trivial,rfl,rfl⟩
  ·rintro id _ H2 nx2 ⟨rfl,rfl,rfl⟩
   rw [qgc]
   unfold AWX
   exact hK Γ1 H2 nx2 i14 (nx + 2) (nx + 1) inb inf tv hk1 ⟨by omega,fun c ds ec => sub1 _ _ (F0 _ _ ec),⟨by omega,by omega,by omega,by omega⟩,⟨by omega,by omega,by omega,by omega,by omega,by omega⟩,ew1,sub1 _ _ F3,sub1 _ _ F2,sub1 _ _ F4⟩
theorem qbk {Γ : GH} {H : Heap} {nx fb off len e n : Nat} {full : Bool} {p0 p3 p4 : AVal} {p2 : Int} {K : EndP} (hk : HOK Γ H nx) (hf : FnAt Γ (.slice fb off len e full) p2 n) (hn : n < 1000000) (hlen : len < 1000000) (h2 : p2 < len)
  (hp : qx p0 = true ∧ qx p3 = true ∧ qx p4 = true)
  (hK : ∀ Γ' H' nx' x lb,nx ≤ x → nx ≤ lb → lb ≠ x → x < nx' → HOK Γ' H' nx' → Γ' x = some [iv p2,iv 0,.slice lb 0 n 1 true,.nilSlice] → Γ' lb = some (uvs (List.replicate n 0)) → (∀ c ds,Γ c = some ds → Γ' c = some ds) → K (.ret (.slice x 0 1 4 true)) H' nx') :
  TriP Tryz.prog 31 [.agg [p0,.slice fb off len e full,iv p2,p3,p4]] H nx K := by
 refine TriP.of_body qw ?_
 rw [XW]
 unfold qat
 have k0 := hk.new (b := nx) (nx' := nx + 1) (by omega) (by omega) [p0,.slice fb off len e full,iv p2,p3,p4]
 have e2 : ld1 (newB nx [p0,.slice fb off len e full,iv p2,p3,p4] H) (.ptr nx 2) = some (iv p2) := by rw [k0.ld1 (qc _ _ _)]; rfl
 have e1 : ld1 (newB nx [p0,.slice fb off len e full,iv p2,p3,p4] H) (.ptr nx 1) = some (.slice fb off len e full) := by rw [k0.ld1 (qc _ _ _)]; rfl
 have eN : ldN (newB nx [p0,.slice fb off len e full,iv p2,p3,p4] H) 5 (.ptr nx 0) = some (.agg [p0,.slice fb off len e full,iv p2,p3,p4]) := by rw [k0.ldN (qc _ _ _) (by simp)]; rfl
 have hnn := hf.nn
 have hsub : ∀ c ds,Γ c = some ds → gup nx (some [p0,.slice fb off len e full,iv p2,p3,p4]) Γ c = some ds := fun c ds ec => by have := hk.lt ec; rw [qe (by omega)]; exact ec
 have hf' : FnAt (gup nx (some [p0,.slice fb off len e full,iv p2,p3,p4]) Γ) (.slice fb off len e full) p2 n := by
  obtain ⟨b,o,l,e',f',cs,lv,h1,h2,h3,h4,h5⟩ := hf.ex
  exact ⟨hf.nn,b,o,l,e',f',cs,lv,h1,h2,hsub _ _ h3,h4,h5⟩
 refine ⟨_,rfl,_,rfl,_,e2,qA (by omega) ⟨_,rfl,_,e2,_,rfl,_,e1,_,rfl,qA (by simp only [Int.ofNat_eq_natCast]; omega) ⟨_,_,_,_,_,eN,_,rfl,_,e2,?_⟩⟩⟩
 refine Vk (Γ := gup nx (some [p0,.slice fb off len e full,iv p2,p3,p4]) Γ) (own := fun _ => 0) (role := 0) (l := []) k0 hf' hn (fun b off len e full h => by cases h; exact hlen) (.inl ⟨rfl,rfl⟩) (by simp) ⟨hp.1,rfl,hp.2.1,hp.2.2⟩ fun Γ2 H2 nx2 l2 k2 eb2 sub2 _ => ?_
 rw [qd]
 refine ⟨_,_,_,_,rfl,_,rfl,?_⟩
 have k3 := k2.new (b := nx2) (nx' := nx2 + 1) (by omega) (by omega) [iv p2,iv 0,.slice (nx + 1 + 2) 0 n 1 true,.nilSlice]
 have := k2.lt eb2
 refine hK _ _ _ nx2 (nx + 1 + 2) (by omega) (by omega) (by omega) (by omega) k3 (qc _ _ _) ?_ fun c ds ec => ?_
 ·rw [qe (by omega)]
  simpa using eb2
 ·have := hk.lt ec
  rw [qe (by omega)]; exact sub2 _ _ (hsub _ _ ec)
end Go.Vs
end
section
namespace Go.Vs
open Go.Proofs
variable [GTab]
abbrev j0 := Int → Int → Option (Int × Int × Int)
def Mst.stepC (num : Int → List UInt8) (code : j0) (nums : Int → Option Int) (S : Mst) : Option Out :=
 match code S.top.f S.top.pc with
 | none => none
 | some (op,a,b) =>
  if op = 36 then (match code a (-1) with
   | some x => S.calls x.2.1.toNat a b
   | none => none)
  else if op = 37 then none
  else if op = 41 then some (S.ret a)
  else match S.jump op a with
   | some S' => some (.go S')
   | none => match S.does num nums op a with
    | none => none
    | some (S',t) => if t = 0 then some (.go { S' with top := { S'.top with pc := IntKind.i64.wrap (S'.top.pc + 1) } }) else some (.go { S' with state := 2,trap := t })
structure CodeOK (code : j0) (nums : Int → Option Int) (Γ0 : GH) (pg : Pg) : Prop where
 instr : ∀ f pc x,x.1 ≠ 37 → code f pc = some x → j7 Γ0 pg.funcs f pc = some x
 nums : ∀ k n,nums k = some n → kq Γ0 pg.nums k = some n
 locals : ∀ f x,code f (-1) = some x → jv Γ0 pg.funcs f = some x.2.1.toNat
theorem qay {num : Int → List UInt8} {code : j0} {nums : Int → Option Int} {Γ0 : GH} {pg : Pg} {S : Mst} {o : Out} (c : CodeOK code nums Γ0 pg) (h : S.stepC num code nums = some o) : S.step num Γ0 pg = some o := by
 unfold Mst.stepC at h
 unfold Mst.step
 cases hi : code S.top.f S.top.pc with
 | none => rw [hi] at h; cases h
 | some x =>
  obtain ⟨op,a,b⟩ := x
  rw [hi] at h
  have h37 : op ≠ 37 := by
   intro e
   subst e
   dsimp only at h
   rw [if_neg (by omega),if_pos rfl] at h
   cases h
  rw [c.instr _ _ _ h37 hi]
  dsimp only at h ⊢
  by_cases h0 : op = 36
  ·rw [if_pos h0] at h ⊢
   cases hl : code a (-1) with
   | none => rw [hl] at h; cases h
   | some x =>
    rw [hl] at h
    rw [c.locals _ _ hl]
    exact h
  rw [if_neg h0] at h ⊢
  by_cases h1 : op = 37
  ·rw [if_pos h1] at h; cases h
  rw [if_neg h1] at h ⊢
  by_cases h2 : op = 41
  ·rw [if_pos h2] at h ⊢; exact h
  rw [if_neg h2] at h ⊢
  cases hj : S.jump op a with
  | some S' => rw [hj] at h; exact h
  | none =>
   rw [hj] at h
   dsimp only at h ⊢
   cases hd : S.does num nums op a with
   | none => rw [hd] at h; cases h
   | some r =>
    rw [hd] at h
    rw [J9 c.nums hd]
    exact h
def nnL (l : List Int) : Prop := ∀ x,x ∈ l → 0 ≤ x
theorem nnL.snoc {l : List Int} {v : Int} (h : nnL l) (hv : 0 ≤ v) : nnL (l ++ [v]) := fun x hx => by
 rcases List.mem_append.1 hx with h1 | h1
 ·exact h x h1
 ·rw [List.mem_singleton] at h1; omega
theorem nnL.drop {l : List Int} {n : Nat} (h : nnL l) : nnL (jf n l) := fun x hx => h x (List.mem_of_mem_take hx)
theorem nnL.set {l : List Int} {i : Nat} {v : Int} (h : nnL l) (hv : 0 ≤ v) : nnL (l.set i v) := fun x hx => by
 rcases List.mem_or_eq_of_mem_set hx with h1 | h1
 ·exact h x h1
 ·omega
theorem nnL.getD {l : List Int} {i : Nat} (h : nnL l) : 0 ≤ l.getD i 0 := by
 simp only [List.getD]
 cases e : l[i]? with
 | none => simp
 | some x => exact h x (List.mem_of_getElem? e)
theorem nnL.pk {l : List Int} {i : Nat} (h : nnL l) : 0 ≤ Go.Vs.pk l i := by
 unfold Go.Vs.pk; split
 ·exact h.getD
 ·omega
theorem kL (n : Nat) (l : List Int) : (jf n l).length = l.length - n := by unfold jf; rw [List.length_take]; omega
theorem k9 (n : Int) : 0 ≤ IntKind.u64.wrap n := by simp only [IntKind.wrap,IntKind.signed,IntKind.bits]; simp; omega
theorem W0 (b : Bool) : 0 ≤ bitI b := by cases b <;> simp [bitI]
structure FmOK (k : Nat) (f : Fm) : Prop where
 st : f.st.length + k < 1000000
 nn : nnL f.st
 ls : nnL f.ls
structure WdOK (k : Nat) (W : Wd) : Prop where
 words : (W.words.length : Int) ≤ W.room + 1
 wn : nnL W.words
 lines : W.lines.length + k < 1000000
 inputs : W.inputs.length < 1000000
 taken : W.taken ≤ W.inputs.length
 room0 : 0 ≤ W.room
 room1 : W.room < 900000
 lits : nnL W.lits
structure Mst.FineN (k : Nat) (S : Mst) : Prop where
 top : FmOK k S.top
 low : S.low.length < 1000
 lows : ∀ f,f ∈ S.low → FmOK k f
 wd : WdOK k S.wd
section
variable {k : Nat}
theorem FmOK.less {f : Fm} {j : Nat} (h : FmOK k f) (e : j ≤ k) : FmOK j f := ⟨by have := h.st; omega,h.nn,h.ls⟩
theorem WdOK.less {W : Wd} {j : Nat} (h : WdOK k W) (e : j ≤ k) : WdOK j W := ⟨h.words,h.wn,by have := h.lines; omega,h.inputs,h.taken,h.room0,h.room1,h.lits⟩
theorem Mst.FineN.less {S : Mst} {j : Nat} (h : S.FineN k) (e : j ≤ k) : S.FineN j := ⟨h.top.less e,h.low,fun f hf => (h.lows f hf).less e,h.wd.less e⟩
theorem Mst.FineN.fine2 {S : Mst} (h : S.FineN k) : S.Fine2 :=
 ⟨⟨by have := h.top.st; omega,h.top.nn,by have := h.wd.words; have := h.wd.room1; omega,by have := h.wd.lines; omega,h.wd.inputs,h.wd.taken,h.wd.room0,by have := h.wd.room1; omega⟩,h.low,fun f hf => by have := (h.lows f hf).st; omega⟩
theorem Mst.FineN.setTop {S : Mst} {f : Fm} (h : S.FineN (k + 1)) (hf : FmOK k f) : ({ S with top := f } : Mst).FineN k := ⟨hf,h.low,fun f hf => (h.lows f hf).less (by omega),h.wd.less (by omega)⟩
theorem Mst.FineN.setWd {S : Mst} {W : Wd} (h : S.FineN k) (hf : WdOK k W) : ({ S with wd := W } : Mst).FineN k := ⟨h.top,h.low,h.lows,hf⟩
theorem Mst.FineN.st' {S : Mst} {l : List Int} (h : S.FineN (k + 1)) (hl : l.length ≤ S.top.st.length + 1) (hn : nnL l) : (S.st l).FineN k := h.setTop ⟨by have := h.top.st; show l.length + k < _; omega,hn,h.top.ls⟩
theorem Mst.FineN.push {S : Mst} {v : Int} (h : S.FineN (k + 1)) (hv : 0 ≤ v) : (S.push v).FineN k := h.st' (by simp) (h.top.nn.snoc hv)
theorem Mst.FineN.put {S : Mst} {v : Int} {n : Nat} (h : S.FineN (k + 1)) (hv : 0 ≤ v) : (S.put n v).FineN k := h.st' (by simp [kL]) (h.top.nn.drop.snoc hv)
theorem Mst.FineN.drp {S : Mst} {n : Nat} (h : S.FineN (k + 1)) : (S.st (jf n S.top.st)).FineN k := h.st' (by simp [kL]; omega) h.top.nn.drop
theorem WdOK.word {W : Wd} {a : Int} (h : WdOK k W) : 0 ≤ W.word a := by
 unfold Wd.word; split
 ·exact h.wn.getD
 ·omega
theorem WdOK.set {W : Wd} {r i v : Int} (h : WdOK k W) (hv : 0 ≤ v) : WdOK k (W.set r i v) := by
 unfold Wd.set; split
 ·exact h
 ·exact ⟨by simpa using h.words,h.wn.set hv,h.lines,h.inputs,h.taken,h.room0,h.room1,h.lits⟩
theorem WdOK.alloc {W W' : Wd} {t n r : Int} (h : WdOK k W) (e : W.alloc t n = some (W',r)) : WdOK k W' ∧ 0 ≤ r := by
 unfold Wd.alloc at e
 split at e
 ·cases e
 ·rename_i hc
  cases e
  refine ⟨⟨?_,?_,h.lines,h.inputs,h.taken,h.room0,h.room1,h.lits⟩,by omega⟩
  ·have := h.words
   simp only [List.length_append,List.length_cons,List.length_nil,List.length_replicate]
   omega
  ·intro x hx
   rcases List.mem_append.1 hx with h1 | h1
   ·exact h.wn.snoc (k9 _) x h1
   ·rw [List.mem_replicate] at h1; omega
theorem WdOK.input {W : Wd} (h : WdOK k W) : WdOK k W.input.1 ∧ 0 ≤ W.input.2 := by
 unfold Wd.input; split
 ·exact ⟨h,by simp⟩
 ·rename_i hc
  exact ⟨⟨h.words,h.wn,h.lines,h.inputs,by have := h.taken; show W.taken + 1 ≤ W.inputs.length; omega,h.room0,h.room1,h.lits⟩,k9 _⟩
theorem WdOK.line {W : Wd} {s : List UInt8} (h : WdOK (k + 1) W) : WdOK k (W.line s) := by
 unfold Wd.line; split
 ·exact h.less (by omega)
 ·exact ⟨h.words,h.wn,by have := h.lines; simp; omega,h.inputs,h.taken,h.room0,h.room1,h.lits⟩
theorem Xq {S S' : Mst} {op a t : Int} (h : S.FineN (k + 1)) (e : S.part op a = some (S',t)) : S'.FineN k := by
 unfold Mst.part at e
 dsimp only at e
 have hw : ∀ {n : Nat} {W : Wd},WdOK k W → (({ S with wd := W } : Mst).st (jf n S.top.st)).FineN k := fun {n W} hW => ⟨⟨by have := h.top.st; have := kL n S.top.st; show (jf n S.top.st).length + k < _; omega,h.top.nn.drop,h.top.ls⟩,h.low,fun f hf => (h.lows f hf).less (by omega),hW⟩
 split at e
 ·split at e <;> cases e
  ·exact h.less (by omega)
  ·exact h.put h.wd.word
 split at e
 ·split at e <;> cases e
  ·exact h.less (by omega)
  ·exact hw ((h.wd.set h.top.nn.pk).less (by omega))
 split at e
 ·split at e
  ·cases e; exact h.less (by omega)
  ·split at e <;> cases e
   ·exact h.less (by omega)
   ·exact h.put h.wd.word
 split at e
 ·split at e
  ·cases e; exact h.less (by omega)
  ·split at e <;> cases e
   ·exact h.less (by omega)
   ·exact hw ((h.wd.set h.top.nn.pk).less (by omega))
 cases e
theorem X8 {S : Mst} {a : Int} (h : S.FineN (k + 1)) : (S.make a).1.FineN k := by
 unfold Mst.make
 split
 ·exact h.less (by omega)
 ·cases e : S.wd.slice a (IntKind.i64.wrap (pk S.top.st 0)) with
  | none => exact h.less (by omega)
  | some r =>
   obtain ⟨W,r⟩ := r
   unfold Wd.slice at e
   split at e
   ·cases e
   ·split at e
    ·cases e
    ·obtain ⟨h1,h2⟩ := h.wd.alloc e
     exact Mst.FineN.put (h.setWd h1) h2
theorem Yo {op a b r : Int} (h : yT op a b = some r) : 0 ≤ r := by
 unfold yT at h
 repeat' split at h
 all_goals first | (cases h; done) | (cases h; first | exact k9 _ | exact W0 _)
theorem Yn (op a b : Int) : 0 ≤ VN op a b := by unfold VN; split <;> exact k9 _
theorem XM {num : Int → List UInt8} {nums : Int → Option Int} {S S' : Mst} {op a t : Int} (h : S.FineN (k + 1)) (e : S.does num nums op a = some (S',t)) : S'.FineN k := by
 unfold Mst.does at e
 dsimp only at e
 by_cases h1 : op = 1
 ·rw [if_pos h1] at e
  cases hq : nums a with
  | none => rw [hq] at e; cases e
  | some n => rw [hq] at e; cases e; exact h.push (k9 _)
 rw [if_neg h1] at e
 by_cases h2 : op = 2
 ·rw [if_pos h2] at e; cases e; exact h.push (k9 _)
 rw [if_neg h2] at e
 by_cases h3 : op = 3
 ·rw [if_pos h3] at e; cases e
  refine h.push ?_
  unfold Wd.lit
  split
  ·omega
  ·split
   ·omega
   ·exact h.wd.lits.getD
 rw [if_neg h3] at e
 by_cases h4 : op = 4
 ·rw [if_pos h4] at e; cases e; exact h.push (by omega)
 rw [if_neg h4] at e
 by_cases h5 : op = 5
 ·rw [if_pos h5] at e
  split at e <;> cases e
  exact h.push h.top.ls.getD
 rw [if_neg h5] at e
 by_cases h6 : op = 6
 ·rw [if_pos h6] at e
  split at e <;> cases e
  exact h.setTop ⟨by have := h.top.st; have := kL 1 S.top.st; show (jf 1 S.top.st).length + k < _; omega,h.top.nn.drop,h.top.ls.set h.top.nn.pk⟩
 rw [if_neg h6] at e
 by_cases h7 : op = 7
 ·rw [if_pos h7] at e; cases e; exact h.drp
 rw [if_neg h7] at e
 by_cases h13 : op = 13
 ·rw [if_pos h13] at e; cases e; exact h.put (k9 _)
 rw [if_neg h13] at e
 by_cases h14 : op = 14
 ·rw [if_pos h14] at e; cases e; exact h.put (W0 _)
 rw [if_neg h14] at e
 by_cases hd : op = 11 ∨ op = 12
 ·rw [if_pos hd] at e
  split at e
  ·cases e; exact h.less (by omega)
  ·split at e <;> cases e
   exact h.put (Yn _ _ _)
 rw [if_neg hd] at e
 by_cases hq : op = 28 ∨ op = 29 ∨ op = 30 ∨ op = 31
 ·rw [if_pos hq] at e; exact Xq h e
 rw [if_neg hq] at e
 by_cases h33 : op = 33
 ·rw [if_pos h33] at e; cases e; exact h.put (k9 _)
 rw [if_neg h33] at e
 by_cases h35 : op = 35
 ·rw [if_pos h35] at e
  have e' : S.make a = (S',t) := by simpa using e
  have := X8 (a := a) h
  rw [e'] at this; exact this
 rw [if_neg h35] at e
 by_cases h39 : op = 39
 ·rw [if_pos h39] at e
  cases hs : JH num a (pk S.top.st 0) with
  | none => rw [hs] at e; cases e
  | some s =>
   rw [hs] at e; cases e
   exact ⟨⟨by have := h.top.st; have := kL 1 S.top.st; show (jf 1 S.top.st).length + k < _; omega,h.top.nn.drop,h.top.ls⟩,h.low,fun f hf => (h.lows f hf).less (by omega),h.wd.line⟩
 rw [if_neg h39] at e
 by_cases h40 : op = 40
 ·rw [if_pos h40] at e; cases e
  obtain ⟨i1,i2⟩ := h.wd.input
  exact Mst.FineN.push (h.setWd i1) i2
 rw [if_neg h40] at e
 cases hs : yT op (pk S.top.st 1) (pk S.top.st 0) with
 | none => rw [hs] at e; cases e
 | some s => rw [hs] at e; cases e; exact h.put (Yo hs)
theorem XU {S S' : Mst} {op a : Int} (h : S.FineN (k + 1)) (e : S.jump op a = some S') : S'.FineN k := by
 unfold Mst.jump at e
 have hd := kL 1 S.top.st
 have hs := h.top.st
 split at e
 ·cases e; exact h.setTop (h.top.less (by omega) |> fun q => ⟨q.st,q.nn,q.ls⟩)
 ·split at e
  ·split at e <;> cases e
   ·exact h.setTop ⟨by show (jf 1 S.top.st).length + k < _; omega,h.top.nn.drop,h.top.ls⟩
   ·exact h.setTop ⟨by show (jf 1 S.top.st).length + k < _; omega,h.top.nn.drop,h.top.ls⟩
  ·cases e
theorem Yt {S S' : Mst} {a : Int} (h : S.FineN (k + 1)) (e : S.ret a = .go S') : S'.FineN k := by
 unfold Mst.ret at e
 cases hl : S.low.getLast? with
 | none => rw [hl] at e; cases e
 | some f =>
  rw [hl] at e; cases e
  have hf : f ∈ S.low := List.mem_of_getLast? hl
  have q := h.lows f hf
  refine ⟨⟨?_,?_,q.ls⟩,?_,fun g hg => (h.lows g (List.dropLast_subset _ hg)).less (by omega),h.wd.less (by omega)⟩
  ·show (if a = 1 then f.st ++ [pk S.top.st 0] else f.st).length + k < _
   have := q.st
   split <;> simp <;> omega
  ·show nnL (if a = 1 then f.st ++ [pk S.top.st 0] else f.st)
   split
   ·exact q.nn.snoc h.top.nn.pk
   ·exact q.nn
  ·have := h.low; show S.low.dropLast.length < _; simp; omega
theorem Xp {S S' : Mst} {n : Nat} {a b : Int} (h : S.FineN (k + 1)) (e : S.calls n a b = some (.go S')) : S'.FineN k := by
 unfold Mst.calls at e
 split at e <;> cases e
 rename_i hb
 have h1 := h.top.st
 refine ⟨⟨?_,?_,?_⟩,?_,fun f hf => ?_,h.wd.less (by omega)⟩
 ·show 0 + k < 1000000; omega
 ·intro x hx; cases hx
 ·intro x hx
  rcases List.mem_append.1 hx with h2 | h2
  ·unfold jJ at h2
   obtain ⟨i,_,rfl⟩ := List.mem_map.1 h2
   exact h.top.nn.pk
  ·rw [List.mem_replicate] at h2; omega
 ·show (S.low ++ [_]).length < 1000
  simp; omega
 ·rcases List.mem_append.1 hf with h2 | h2
  ·exact (h.lows f h2).less (by omega)
  ·rw [List.mem_singleton] at h2
   subst h2
   refine ⟨?_,h.top.nn.drop,h.top.ls⟩
   have := kL b.toNat S.top.st
   show (jf b.toNat S.top.st).length + k < 1000000
   omega
theorem V8 {num : Int → List UInt8} {code : j0} {nums : Int → Option Int} {S S' : Mst} (h : S.FineN (k + 1)) (e : S.stepC num code nums = some (.go S')) : S'.FineN k := by
 unfold Mst.stepC at e
 split at e
 ·cases e
 ·rename_i op a b _
  split at e
  ·split at e
   ·exact Xp h e
   ·cases e
  split at e
  ·cases e
  split at e
  ·exact Yt h (Option.some.inj e)
  split at e
  ·rename_i S1 hj
   cases e; exact XU h hj
  ·split at e
   ·cases e
   ·rename_i S1 t hd
    have q := XM h hd
    split at e <;> cases e
    ·exact ⟨⟨q.top.st,q.top.nn,q.top.ls⟩,q.low,q.lows,q.wd⟩
    ·exact ⟨⟨q.top.st,q.top.nn,q.top.ls⟩,q.low,q.lows,q.wd⟩
end
def Mst.stepG (num : Int → List UInt8) (code : j0) (nums : Int → Option Int) (S : Mst) : Option Mst := if S.state = 0 then (match S.stepC num code nums with | some (.go S') => some S' | _ => none) else none
inductive Steps (num : Int → List UInt8) (code : j0) (nums : Int → Option Int) : Nat → Mst → Mst → Prop
 | refl (S : Mst) : Steps num code nums 0 S S
 | step {n : Nat} {S S1 S2 : Mst} (h : S.stepG num code nums = some S1) (t : Steps num code nums n S1 S2) : Steps num code nums (n + 1) S S2
section
variable {num : Int → List UInt8} {code : j0} {nums : Int → Option Int}
theorem Steps.trans {a b : Nat} {S1 S2 S3 : Mst} (h : Steps num code nums a S1 S2) (k : Steps num code nums b S2 S3) : Steps num code nums (a + b) S1 S3 := by
 induction h with
 | refl S => rw [Nat.zero_add]; exact k
 | step h t ih => rw [Nat.add_right_comm]; exact .step h (ih k)
theorem Steps.cast {a b : Nat} {S1 S2 S3 : Mst} (h : Steps num code nums a S1 S2) (e : a = b) (e2 : S2 = S3) : Steps num code nums b S1 S3 := by subst e; subst e2; exact h
theorem Wj {S S' : Mst} (h : S.stepG num code nums = some S') : S.state = 0 ∧ S.stepC num code nums = some (.go S') := by
 unfold Mst.stepG at h
 split at h
 ·rename_i h0
  refine ⟨h0,?_⟩
  split at h
  ·cases h; assumption
  ·cases h
 ·cases h
theorem Steps.runs {Γ0 : GH} {pg : Pg} (c : CodeOK code nums Γ0 pg) {n k : Nat} {S S' : Mst} {o : Out} (h : Steps num code nums n S S') (f : S.FineN (n + k)) (t : Runs num Γ0 pg k S' o) : Runs num Γ0 pg (n + k) S o := by
 induction h with
 | refl S => rw [Nat.zero_add]; exact t
 | @step n S S1 S2 h _ ih =>
  obtain ⟨h0,hs⟩ := Wj h
  have f1 : S.FineN (n + k + 1) := by rw [show n + k + 1 = n + 1 + k by omega]; exact f
  rw [show n + 1 + k = n + k + 1 by omega]
  exact .step f1.fine2 h0 (qay c hs) (ih (V8 f1 hs) t)
end
end Go.Vs
end
section
namespace Go.Vs
open Go.Proofs
variable [GTab]
abbrev Ins := Int × Int × Int
def qe2 (l : List (List Ins)) : j0 := fun f pc => if 0 ≤ f ∧ 0 ≤ pc then (match l[f.toNat]? with | some c => c[pc.toNat]? | none => none) else none
def Kf (l : List Int) : Int → Option Int := fun k => if 0 ≤ k then l[k.toNat]? else none
def runS (num : Int → List UInt8) (code : j0) (nums : Int → Option Int) : Nat → Mst → Option Mst
 | 0,S => some S
 | k + 1,S => match S.stepG num code nums with
  | some S' => runS num code nums k S'
  | none => none
theorem jq {num : Int → List UInt8} {code : j0} {nums : Int → Option Int} : ∀ {k : Nat} {S S' : Mst},runS num code nums k S = some S' → Steps num code nums k S S'
 | 0,S,S',h => by cases h; exact .refl S
 | k + 1,S,S',h => by
  unfold runS at h
  cases e : S.stepG num code nums with
  | none => rw [e] at h; cases h
  | some S1 => rw [e] at h; exact .step e (jq h)
def wg (c : List Ins) : List AVal := c.flatMap fun x => [iv x.1,iv x.2.1,iv x.2.2]
theorem QC : ∀ {c : List Ins} {k : Nat} {x : Ins},c[k]? = some x → ((wg c).drop (k * 3)).take 3 = [iv x.1,iv x.2.1,iv x.2.2]
 | [],k,x,h => by simp at h
 | y :: c,0,x,h => by simp at h; subst h; rfl
 | y :: c,k + 1,x,h => by
  simp at h
  have := QC h
  show (([iv y.1,iv y.2.1,iv y.2.2] ++ wg c).drop ((k + 1) * 3)).take 3 = _
  rw [show (k + 1) * 3 = k * 3 + 1 + 1 + 1 by omega]
  exact this
theorem QO {Γ Γ' : GH} {v : AVal} {f pc : Int} {x : Int × Int × Int} (hs : ∀ c ds,Γ c = some ds → Γ' c = some ds) (h : j7 Γ v f pc = some x) : j7 Γ' v f pc = some x := by
 unfold j7 at h ⊢
 split at h <;> try (cases h; done)
 split at h <;> try (cases h; done)
 rename_i hf
 split at h <;> try (cases h; done)
 rename_i cs hc
 split at h <;> try (cases h; done)
 rename_i cb coff clen ez fl hcs
 split at h <;> try (cases h; done)
 rename_i hp
 split at h <;> try (cases h; done)
 rename_i ds hd
 rw [if_pos hf,hs _ _ hc]
 dsimp only
 rw [hcs]
 dsimp only
 rw [if_pos hp,hs _ _ hd]
 exact h
theorem Wn {Γ Γ' : GH} {v : AVal} {k n : Int} (hs : ∀ c ds,Γ c = some ds → Γ' c = some ds) (h : kq Γ v k = some n) : kq Γ' v k = some n := by
 unfold kq at h ⊢
 split at h <;> try (cases h; done)
 split at h <;> try (cases h; done)
 rename_i hk
 split at h <;> try (cases h; done)
 rename_i cs hc
 rw [if_pos hk,hs _ _ hc]
 exact h
theorem yS {Γ Γ' : GH} {v : AVal} {f : Int} {n : Nat} (hs : ∀ c ds,Γ c = some ds → Γ' c = some ds) (h : jv Γ v f = some n) : jv Γ' v f = some n := by
 unfold jv at h ⊢
 split at h <;> try (cases h; done)
 split at h <;> try (cases h; done)
 rename_i hf
 split at h <;> try (cases h; done)
 rename_i cs hc
 rw [if_pos hf,hs _ _ hc]
 exact h
theorem CodeOK.mono {code : j0} {nums : Int → Option Int} {Γ Γ' : GH} {pg : Pg} (h : CodeOK code nums Γ pg) (hs : ∀ c ds,Γ c = some ds → Γ' c = some ds) : CodeOK code nums Γ' pg :=
 ⟨fun f pc x e0 e => QO hs (h.instr f pc x e0 e),fun k n e => Wn hs (h.nums k n e),fun f x e => yS hs (h.locals f x e)⟩
theorem u_id {n : Int} (h0 : 0 ≤ n) (h1 : n < 18446744073709551616) : IntKind.u64.wrap n = n := by simp only [IntKind.wrap,IntKind.signed,IntKind.bits]; simp; omega
end Go.Vs
end
section
namespace Go.Vs
open Go.Proofs
variable [GTab]
theorem HOK.same {Γ : GH} {H H' : Heap} {nx : Nat} (h : HOK Γ H nx) (hs : ∀ b,b < nx → H' b = H b) : HOK Γ H' nx := by
 intro b cs e
 obtain ⟨h1,olds,⟨ct,h2,h2'⟩,h3⟩ := h b cs e
 exact ⟨h1,olds,⟨ct,by rw [hs b h1]; exact h2,h2'⟩,h3⟩
structure OwnV (Γq : GH) (lo hi : Nat) (q0 q1 q3 q4 : AVal) (code : j0) (nums : Int → Option Int) : Prop where
 inside : ∀ c ds,Γq c = some ds → lo ≤ c ∧ c < hi
 prog : ∀ p2 w fb,CodeOK code nums Γq ⟨q0,q1,p2,q3,q4,w,fb⟩
 small : ∀ b off len e full,q1 = .slice b off len e full → len < 1000000
 cells : qx q0 = true ∧ qx q1 = true ∧ qx q3 = true ∧ qx q4 = true
def orG (Γ Γq : GH) : GH := fun c => match Γ c with | some ds => some ds | none => Γq c
theorem qj8 {Γ Γq : GH} {c : Nat} {ds : List AVal} (h : Γ c = some ds) : orG Γ Γq c = some ds := by simp [orG,h]
theorem qi5 {Γ Γq : GH} {c : Nat} {ds : List AVal} (h : Γ c = none) (e : Γq c = some ds) : orG Γ Γq c = some ds := by simp [orG,h,e]
theorem X9 {Γ Γq : GH} {c : Nat} {ds : List AVal} (h : orG Γ Γq c = some ds) : Γ c = some ds ∨ (Γ c = none ∧ Γq c = some ds) := by
 unfold orG at h
 split at h
 ·cases h; exact .inl (by assumption)
 ·exact .inr ⟨by assumption,h⟩
theorem qgm {G : Heap → Nat → Prop} (hG : ∀ H H' nx nx',G H nx → (∀ b,b < nx → H' b = H b) → nx ≤ nx' → G H' nx') {p0 p4 : AVal} {p2 : Int} {code : j0} {nums : Int → Option Int} {fb off len e nl nt : Nat} {full : Bool}
  (hV : ∀ H nx K,G H nx → (∀ H',(∀ b,b < nx → H' b = H b) → K (.ret (.tuple [.agg [iv 0,iv 0],iv 0])) H' nx) → TriP Tryz.prog 28 [.agg [p0,.slice fb off len e full,iv p2,.nilSlice,p4]] H nx K)
  (hO : ∀ H nx Γ K,G H nx → HOK Γ H nx → (∀ H' Γ' nx' Γq q0 q1 q3 q4,nx ≤ nx' → HOK Γ' H' nx' → (∀ c ds,Γ c = some ds → Γ' c = some ds) → (∀ c ds,Γq c = some ds → Γ' c = some ds) → OwnV Γq nx nx' q0 q1 q3 q4 code nums → K (.ret (.agg [q0,q1,iv p2,q3,q4])) H' nx') →
   TriP Tryz.prog 29 [.agg [p0,.slice fb off len e full,iv p2,.nilSlice,p4]] H nx K)
  {Γ : GH} {H : Heap} {nx : Nat} {K : EndP} {ins : AVal} {inputs : List Int} {room : Int} (hg : G H nx) (hk : HOK Γ H nx) (hf : FnAt Γ (.slice fb off len e full) p2 nl) (hnl : nl < 1000000) (hlen : len < 1000000) (h2 : p2 < len)
  (ht : TypesV Γ p0 nt) (hi : SrcV Γ ins 1 inputs.length (inputs.map iv)) (hl : inputs.length < 1000000) (hp : qx p0 = true ∧ qx p4 = true) (r1 : 1 ≤ room) (r2 : room ≤ 65536)
  (hK : ∀ H' nx' m pg Γq,nx ≤ nx' → nx ≤ m → (∀ c ds,Γq c = some ds → nx ≤ c) → CodeOK code nums (orG Γ Γq) pg → PgOK pg → MS (orG Γ Γq) pg m ⟨[],⟨p2,0,List.replicate nl 0,[]⟩,⟨[0],room,[],inputs,0,[]⟩,0,0⟩ H' nx' → K (.ret (.tuple [.ptr m 0,iv 0])) H' nx') :
  TriP Tryz.prog 15 [.agg [p0,.slice fb off len e full,iv p2,.nilSlice,p4],iv room,ins] H nx K := by
 refine TriP.of_body qw ?_
 rw [qc1]
 unfold FNew
 have hnb : ∀ c ds,Γ c = some ds → c < nx := fun c ds ec => hk.lt ec
 have k0 := hk.new (b := nx) (nx' := nx + 1) (by omega) (by omega) [p0,.slice fb off len e full,iv p2,.nilSlice,p4]
 have s0 : ∀ c ds,Γ c = some ds → gup nx (some [p0,.slice fb off len e full,iv p2,.nilSlice,p4]) Γ c = some ds := fun c ds ec => by have := hnb _ _ ec; rw [qe (by omega)]; exact ec
 have g0 : G (newB nx [p0,.slice fb off len e full,iv p2,.nilSlice,p4] H) (nx + 1) := hG _ _ _ _ hg (fun b hb => jd (by omega)) (by omega)
 have l0 : ldN (newB nx [p0,.slice fb off len e full,iv p2,.nilSlice,p4] H) 5 (.ptr nx 0) = some (.agg [p0,.slice fb off len e full,iv p2,.nilSlice,p4]) := by rw [k0.ldN (qc _ _ _) (by simp)]; rfl
 refine ⟨_,rfl,_,_,_,_,_,l0,?_⟩
 refine hV _ _ _ g0 fun H7 s7 => ?_
 rw [qd]
 have k7 := k0.same s7
 have g7 := hG _ _ _ _ g0 s7 (Nat.le_refl _)
 have k14 := k7.new (b := nx + 1) (nx' := nx + 2) (by omega) (by omega) [iv 0,iv 0]
 have g14 : G (newB (nx + 1) [iv 0,iv 0] H7) (nx + 2) := hG _ _ _ _ g7 (fun b hb => jd (by omega)) (by omega)
 have st : stC (newB (nx + 1) [iv 0,iv 0] H7) (.ptr (nx + 1) 0) [iv 0,iv 0] = some (newB (nx + 1) [iv 0,iv 0] H7) := ZQ rfl rfl
 have l14 : ldN (newB (nx + 1) [iv 0,iv 0] H7) 5 (.ptr nx 0) = some (.agg [p0,.slice fb off len e full,iv p2,.nilSlice,p4]) := by rw [k14.ldN (by rw [qe (by omega),qc]) (by simp)]; rfl
 have s14 : ∀ c ds,gup nx (some [p0,.slice fb off len e full,iv p2,.nilSlice,p4]) Γ c = some ds → gup (nx + 1) (some [iv 0,iv 0]) (gup nx (some [p0,.slice fb off len e full,iv p2,.nilSlice,p4]) Γ) c = some ds := fun c ds ec => by have := k0.lt ec; rw [qe (by omega)]; exact ec
 refine ⟨_,_,_,rfl,_,rfl,_,st,ZN rfl ⟨_,_,_,_,_,l14,?_⟩⟩
 refine hO _ _ _ _ g14 k14 fun H21 Γ21 x Γq q0 q1 q3 q4 lx k21 s21 sq ho => ?_
 rw [qd]
 have k29 := k21.new (b := x) (nx' := x + 1) (by omega) (by omega) [q0,q1,iv p2,q3,q4,.nilPtr,.nilSlice,iv 0,iv 0,.nilPtr]
 have s29 : ∀ c ds,Γ21 c = some ds → gup x (some [q0,q1,iv p2,q3,q4,.nilPtr,.nilSlice,iv 0,iv 0,.nilPtr]) Γ21 c = some ds := fun c ds ec => by have := k21.lt ec; rw [qe (by omega)]; exact ec
 have enx : gup x (some [q0,q1,iv p2,q3,q4,.nilPtr,.nilSlice,iv 0,iv 0,.nilPtr]) Γ21 nx = some [p0,.slice fb off len e full,iv p2,.nilSlice,p4] := s29 _ _ (s21 _ _ (s14 _ _ (qc _ _ _)))
 have l29 : ldN (newB x [q0,q1,iv p2,q3,q4,.nilPtr,.nilSlice,iv 0,iv 0,.nilPtr] H21) 5 (.ptr nx 0) = some (.agg [p0,.slice fb off len e full,iv p2,.nilSlice,p4]) := by rw [k29.ldN enx (by simp)]; rfl
 have sAll : ∀ c ds,Γ c = some ds → gup x (some [q0,q1,iv p2,q3,q4,.nilPtr,.nilSlice,iv 0,iv 0,.nilPtr]) Γ21 c = some ds := fun c ds ec => s29 _ _ (s21 _ _ (s14 _ _ (s0 _ _ ec)))
 have hf' : FnAt (gup x (some [q0,q1,iv p2,q3,q4,.nilPtr,.nilSlice,iv 0,iv 0,.nilPtr]) Γ21) (.slice fb off len e full) p2 nl := by
  obtain ⟨b,o,l,e',f',cs,lv,a1,a2,a3,a4,a5⟩ := hf.ex
  exact ⟨hf.nn,b,o,l,e',f',cs,lv,a1,a2,sAll _ _ a3,a4,a5⟩
 refine ⟨_,_,_,_,_,rfl,_,rfl,_,_,_,_,_,l29,?_⟩
 rw [vb]
 refine qbk k29 hf' hnl hlen h2 ⟨hp.1,rfl,hp.2⟩ fun Γ3 H3 nx3 fr lb lfr llb nlb lfr2 k3 efr elb s3 => ?_
 rw [qd]
 refine Wb k3 (s3 _ _ (qc _ _ _)) (by omega) fun H4 k4 => ?_
 rw [qd]
 have llb2 := k3.lt elb
 have hne : ∀ c ds,gup x (some [q0,q1,iv p2,q3,q4,.nilPtr,.nilSlice,iv 0,iv 0,.nilPtr]) Γ21 c = some ds → c ≠ x → gup x (some [q0,q1,iv p2,q3,q4,.nilPtr,.slice fr 0 1 4 true,iv 0,iv 0,zk fr 1]) Γ3 c = some ds := fun c ds ec hc => by rw [qe hc]; exact s3 _ _ ec
 have enx4 := hne _ _ enx (by omega)
 have l4 : ldN H4 5 (.ptr nx 0) = some (.agg [p0,.slice fb off len e full,iv p2,.nilSlice,p4]) := by rw [k4.ldN enx4 (by simp)]; rfl
 have sOld : ∀ c ds,Γ c = some ds → gup x (some [q0,q1,iv p2,q3,q4,.nilPtr,.slice fr 0 1 4 true,iv 0,iv 0,zk fr 1]) Γ3 c = some ds := fun c ds ec => hne _ _ (sAll _ _ ec) (by have := hnb _ _ ec; omega)
 have ht' : TypesV (gup x (some [q0,q1,iv p2,q3,q4,.nilPtr,.slice fr 0 1 4 true,iv 0,iv 0,zk fr 1]) Γ3) p0 nt := by
  obtain ⟨b,f',cs,a1,a2,a3⟩ := ht.row
  exact ⟨ht.small,b,f',cs,a1,sOld _ _ a2,a3⟩
 refine ⟨_,_,_,_,_,l4,?_⟩
 refine qdl k4 ht' (hi.mono sOld) hl ⟨hp.1,rfl,hp.2⟩ r1 r2 fun Γ5 H5 nx5 w hp5 hb5 inb inf tv k5 nw => ?_
 rw [qd]
 have em5 := nw.old _ _ (qc x (some [q0,q1,iv p2,q3,q4,.nilPtr,.slice fr 0 1 4 true,iv 0,iv 0,zk fr 1]) Γ3)
 obtain ⟨H6,t1,t2⟩ := k5.st (b := x) (off := 5) (vs := [.ptr w 0]) em5 (by simp) rfl
 refine ⟨_,_,rfl,?_⟩
 show ifB (!true) _ _
 have : (!true) = false := rfl
 rw [this,zG]
 refine ⟨rfl,_,rfl,rfl,_,t1,?_⟩
 obtain ⟨nw1,nw2,nw3,nw4⟩ := nw.ws
 obtain ⟨d1,d2,d3,d4,d5,d6⟩ := nw.ne
 have le5 := nw.le
 have keep5 : ∀ c ds,c ≠ x → Γ3 c = some ds → gup x (some (qC [q0,q1,iv p2,q3,q4,.nilPtr,.slice fr 0 1 4 true,iv 0,iv 0,zk fr 1] 5 [.ptr w 0])) Γ5 c = some ds := fun c ds hc ec => by
  rw [qe hc]; exact nw.old _ _ (by rw [qe hc]; exact ec)
 have hq : ∀ c ds,Γq c = some ds → c < x ∧ nx ≤ c := fun c ds ec => by have := ho.inside c ds ec; omega
 refine hK H6 nx5 x ⟨q0,q1,p2,q3,q4,w,fr⟩ Γq (by omega) (by omega) (fun c ds ec => (hq c ds ec).2) ?_ ⟨ho.cells,ho.small⟩ ?_
 ·refine (ho.prog p2 w fr).mono fun c ds ec => ?_
  refine qi5 ?_ ec
  cases e : Γ c with
  | none => rfl
  | some cs => have := hnb _ _ e; have := (hq c ds ec).2; omega
 ·refine ⟨_,fun c => if c = x then 1 else if c = w then 2 else if c = hp5 then 3 else if c = fr then 4 else if c = hb5 then 5 else if c = inb then 7 else if c = lb then 10 else 9,
   ⟨hp5,true,tv,.slice hb5 0 1 1 true,.nilSlice,.nilSlice,inb,inf,[],(lb,.nilSlice),[]⟩,t2,?_⟩
  have gx : ∀ c,c ≠ x → gup x (some (qC [q0,q1,iv p2,q3,q4,.nilPtr,.slice fr 0 1 4 true,iv 0,iv 0,zk fr 1] 5 [.ptr w 0])) Γ5 c = Γ5 c := fun c hc => qe hc
  have xl : x < nx3 := by have := k3.lt (s3 _ _ (qc x (some [q0,q1,iv p2,q3,q4,.nilPtr,.nilSlice,iv 0,iv 0,.nilPtr]) Γ21)); exact this
  refine ⟨fun c ds ec => ?_,by simp,?_,?_,?_,.nil 0,⟨?_,?_,.inl ⟨rfl,rfl⟩⟩,⟨?_,?_,?_,?_,.inr ⟨hb5,[uv 0],⟨true,rfl⟩,?_,?_,rfl⟩,?_,?_,.inl ⟨rfl,rfl⟩,.inl ⟨rfl,rfl⟩⟩⟩
  ·rcases X9 ec with h | ⟨_,h⟩
   ·have := hnb _ _ h
    refine ⟨keep5 _ _ (by omega) (s3 _ _ (sAll _ _ h)),?_⟩
    simp only [show c ≠ x by omega,show c ≠ w by omega,show c ≠ hp5 by omega,show c ≠ fr by omega,show c ≠ hb5 by omega,show c ≠ inb by omega,show c ≠ lb by omega,if_false]
   ·have := hq _ _ h
    refine ⟨keep5 _ _ (by omega) (s3 _ _ (s29 _ _ (sq _ _ h))),?_⟩
    simp only [show c ≠ x by omega,show c ≠ w by omega,show c ≠ hp5 by omega,show c ≠ fr by omega,show c ≠ hb5 by omega,show c ≠ inb by omega,show c ≠ lb by omega,if_false]
  ·rw [qc]; rfl
  ·show (if fr = x then 1 else _) = 4
   simp only [show fr ≠ x by omega,show fr ≠ w by omega,show fr ≠ hp5 by omega,if_false,if_true]
  ·rw [keep5 fr _ (by omega) efr]
   simp [qD,qL]
  ·show (if lb = x then 1 else _) = 10 + 2 * 0
   simp only [show lb ≠ x by omega,show lb ≠ w by omega,show lb ≠ hp5 by omega,show lb ≠ fr by omega,show lb ≠ hb5 by omega,show lb ≠ inb by omega,if_false,if_true]
  ·exact keep5 lb _ (by omega) elb
  ·show (if w = x then 1 else _) = 2
   simp only [show w ≠ x by omega,if_false,if_true]
  ·show (if hp5 = x then 1 else _) = 3
   simp only [show hp5 ≠ x by omega,show hp5 ≠ w by omega,if_false,if_true]
  ·exact (gx w (by omega)).trans nw.ew
  ·exact (gx hp5 (by omega)).trans nw.eh
  ·show (if hb5 = x then 1 else _) = 5
   simp only [show hb5 ≠ x by omega,show hb5 ≠ w by omega,show hb5 ≠ hp5 by omega,show hb5 ≠ fr by omega,if_false,if_true]
  ·exact (gx hb5 (by omega)).trans nw.eb
  ·show (if inb = x then 1 else _) = 7
   simp only [show inb ≠ x by omega,show inb ≠ w by omega,show inb ≠ hp5 by omega,show inb ≠ fr by omega,show inb ≠ hb5 by omega,if_false,if_true]
  ·exact (gx inb (by omega)).trans nw.ei
end Go.Vs
end
section
namespace Go.Proofs.YtnkeadjkckpknaaGreatDoor
open Go.Shelf in
def Tryz.lays138_ren : Go.Shelf.Ren := ⟨fun | 138 => 250 | 195 => 263 | 218 => 265 | 143 => 251 | 219 => 266 | 217 => 275 | 225 => 276 | 224 => 277 | 267 => 278 | 266 => 284 | 314 => 285 | n => n, fun | 9 => 9 | 3 => 3 | 4 => 4 | 5 => 5 | 0 => 0 | 46 => 220 | 146 => 303 | 51 => 293 | n => n, fun | 1 => 1 | n => n⟩
theorem Tryz.lays138 : Go.Proofs.Lays.n138 Tryz.prog Tryz.lays138_ren where
  mixed := by kernel_rfl
  f138 := Tryz.func250.trans (congrArg some (by kernel_rfl))
  f143 := Tryz.func251.trans (congrArg some (by kernel_rfl))
  f195 := Tryz.func263.trans (congrArg some (by kernel_rfl))
  f217 := Tryz.func275.trans (congrArg some (by kernel_rfl))
  f218 := Tryz.func265.trans (congrArg some (by kernel_rfl))
  f219 := Tryz.func266.trans (congrArg some (by kernel_rfl))
  f224 := Tryz.func277.trans (congrArg some (by kernel_rfl))
  f225 := Tryz.func276.trans (congrArg some (by kernel_rfl))
  f266 := Tryz.func284.trans (congrArg some (by kernel_rfl))
  f267 := Tryz.func278.trans (congrArg some (by kernel_rfl))
  f314 := Tryz.func285.trans (congrArg some (by kernel_rfl))
  t0 := Tryz.underlying0
  a0 := Tryz.isAgg0
  z0 := Tryz.sizeOf0
  v0 := Tryz.zeroValue0
  t3 := Tryz.underlying3
  a3 := Tryz.isAgg3
  z3 := Tryz.sizeOf3
  v3 := Tryz.zeroValue3
  t4 := Tryz.underlying4
  a4 := Tryz.isAgg4
  z4 := Tryz.sizeOf4
  v4 := Tryz.zeroValue4
  t5 := Tryz.underlying5
  a5 := Tryz.isAgg5
  z5 := Tryz.sizeOf5
  v5 := Tryz.zeroValue5
  t9 := Tryz.underlying9
  a9 := Tryz.isAgg9
  z9 := Tryz.sizeOf9
  v9 := Tryz.zeroValue9
  t46 := Tryz.underlying220
  a46 := Tryz.isAgg220
  z46 := Tryz.sizeOf220
  v46 := Tryz.zeroValue220
  t51 := Tryz.underlying293
  a51 := Tryz.isAgg293
  z51 := Tryz.sizeOf293
  v51 := Tryz.zeroValue293
  t146 := Tryz.underlying303
  a146 := Tryz.isAgg303
  z146 := Tryz.sizeOf303
  v146 := Tryz.zeroValue303
  g1 := by kernel_rfl
open Go.Shelf in
def Tryz.lays217_ren : Go.Shelf.Ren := ⟨fun | 217 => 275 | 266 => 284 | n => n, fun | 9 => 9 | 5 => 5 | 3 => 3 | n => n, fun | n => n⟩
theorem Tryz.lays217 : Go.Proofs.Lays.n217 Tryz.prog Tryz.lays217_ren where
  mixed := by kernel_rfl
  f217 := Tryz.func275.trans (congrArg some (by kernel_rfl))
  f266 := Tryz.func284.trans (congrArg some (by kernel_rfl))
  t3 := Tryz.underlying3
  a3 := Tryz.isAgg3
  z3 := Tryz.sizeOf3
  v3 := Tryz.zeroValue3
  t5 := Tryz.underlying5
  a5 := Tryz.isAgg5
  z5 := Tryz.sizeOf5
  v5 := Tryz.zeroValue5
  t9 := Tryz.underlying9
  a9 := Tryz.isAgg9
  z9 := Tryz.sizeOf9
  v9 := Tryz.zeroValue9
theorem own : ownKnob Tryz.prog.godebug = none := by kernel_rfl
theorem qw : Tryz.prog.follows .mixedOrders = true := by kernel_rfl
theorem texts : Ev.TextOK Tryz.prog 250 275 := ⟨Any.strings_Count_one Tryz.lays138,Any.stringslite_IndexByte Tryz.lays217⟩
variable [Ev.GTab] [Ev.SymC Tryz.prog 202 25]
noncomputable def w0 : Ev.Wr := Ev.orcW (Ev.Wv 202 25 (Ev.KY 250 275 Ev.wq))
theorem VA : Ev.WrOK Tryz.prog w0 := Ev.WN (Ev.XR (Ev.Wo (Ev.K5 _) texts) Ev.SymC.ok)
end Go.Proofs.YtnkeadjkckpknaaGreatDoor
end
section
namespace Go.Proofs.YtnkeadjkckpknaaGreatDoor
open Go.Shelf in
def Tryz.laysM173_ren : Go.Shelf.Ren := ⟨fun | 173 => 202 | 246 => 234 | 283 => 252 | 284 => 253 | 285 => 254 | 286 => 255 | 129 => 268 | 317 => 267 | 318 => 269 | 319 => 270 | 320 => 271 | 337 => 279 | 338 => 280 | n => n, fun | 2 => 2 | 3 => 3 | 9 => 9 | 4 => 4 | 171 => 282 | 0 => 0 | 53 => 64 | 37 => 139 | 5 => 5 | 173 => 284 | 212 => 292 | 51 => 293 | 20 => 20 | 213 => 294 | 46 => 220 | 232 => 305 | 233 => 306 | n => n, fun | 17 => 0 | 18 => 4 | 19 => 5 | n => n⟩
theorem Tryz.laysM173 : Go.Proofs.LaysM.n173 Tryz.prog Tryz.laysM173_ren where
  mixed := by kernel_rfl
  f129 := Tryz.func268.trans (congrArg some (by kernel_rfl))
  f173 := Tryz.func202.trans (congrArg some (by kernel_rfl))
  f246 := Tryz.func234.trans (congrArg some (by kernel_rfl))
  f283 := Tryz.func252.trans (congrArg some (by kernel_rfl))
  f284 := Tryz.func253.trans (congrArg some (by kernel_rfl))
  f285 := Tryz.func254.trans (congrArg some (by kernel_rfl))
  f286 := Tryz.func255.trans (congrArg some (by kernel_rfl))
  f317 := Tryz.func267.trans (congrArg some (by kernel_rfl))
  f318 := Tryz.func269.trans (congrArg some (by kernel_rfl))
  f319 := Tryz.func270.trans (congrArg some (by kernel_rfl))
  f320 := Tryz.func271.trans (congrArg some (by kernel_rfl))
  f337 := Tryz.func279.trans (congrArg some (by kernel_rfl))
  f338 := Tryz.func280.trans (congrArg some (by kernel_rfl))
  t0 := Tryz.underlying0
  a0 := Tryz.isAgg0
  z0 := Tryz.sizeOf0
  v0 := Tryz.zeroValue0
  t2 := Tryz.underlying2
  a2 := Tryz.isAgg2
  z2 := Tryz.sizeOf2
  v2 := Tryz.zeroValue2
  t3 := Tryz.underlying3
  a3 := Tryz.isAgg3
  z3 := Tryz.sizeOf3
  v3 := Tryz.zeroValue3
  t4 := Tryz.underlying4
  a4 := Tryz.isAgg4
  z4 := Tryz.sizeOf4
  v4 := Tryz.zeroValue4
  t5 := Tryz.underlying5
  a5 := Tryz.isAgg5
  z5 := Tryz.sizeOf5
  v5 := Tryz.zeroValue5
  t9 := Tryz.underlying9
  a9 := Tryz.isAgg9
  z9 := Tryz.sizeOf9
  v9 := Tryz.zeroValue9
  t20 := Tryz.underlying20
  a20 := Tryz.isAgg20
  z20 := Tryz.sizeOf20
  v20 := Tryz.zeroValue20
  t37 := Tryz.underlying139
  a37 := Tryz.isAgg139
  z37 := Tryz.sizeOf139
  v37 := Tryz.zeroValue139
  t46 := Tryz.underlying220
  a46 := Tryz.isAgg220
  z46 := Tryz.sizeOf220
  v46 := Tryz.zeroValue220
  t51 := Tryz.underlying293
  a51 := Tryz.isAgg293
  z51 := Tryz.sizeOf293
  v51 := Tryz.zeroValue293
  t53 := Tryz.underlying64
  a53 := Tryz.isAgg64
  z53 := Tryz.sizeOf64
  v53 := Tryz.zeroValue64
  t171 := Tryz.underlying282
  a171 := Tryz.isAgg282
  z171 := Tryz.sizeOf282
  v171 := Tryz.zeroValue282
  t173 := Tryz.underlying284
  a173 := Tryz.isAgg284
  z173 := Tryz.sizeOf284
  v173 := Tryz.zeroValue284
  t212 := Tryz.underlying292
  a212 := Tryz.isAgg292
  z212 := Tryz.sizeOf292
  v212 := Tryz.zeroValue292
  t213 := Tryz.underlying294
  a213 := Tryz.isAgg294
  z213 := Tryz.sizeOf294
  t232 := Tryz.underlying305
  a232 := Tryz.isAgg305
  z232 := Tryz.sizeOf305
  v232 := Tryz.zeroValue305
  t233 := Tryz.underlying306
  a233 := Tryz.isAgg306
  z233 := Tryz.sizeOf306
  v233 := Tryz.zeroValue306
  g17 := by kernel_rfl
  g18 := by kernel_rfl
  g19 := by kernel_rfl
  i0 := by kernel_rfl
  i2 := by kernel_rfl
  i3 := by kernel_rfl
  i4 := by kernel_rfl
  i5 := by kernel_rfl
  i9 := by kernel_rfl
  i20 := by kernel_rfl
  i37 := by kernel_rfl
  i46 := by kernel_rfl
  i51 := by kernel_rfl
  i53 := by kernel_rfl
  i171 := by kernel_rfl
  i173 := by kernel_rfl
  i212 := by kernel_rfl
  i232 := by kernel_rfl
  i233 := by kernel_rfl
  m17 := by kernel_rfl
  m18 := by kernel_rfl
  m19 := by kernel_rfl
theorem gPow : Tryz.prog.globalNamed "internal/strconv.uint64pow10" = some 0 := by kernel_rfl
theorem qb2 : (Tryz.prog.globals[0]?).map (·.type) = some 292 := by kernel_rfl
def zS : Array Value := (Lib.pow10Tab.map fun z => Value.int .u64 z).toArray
def W6 (w : World) (t : TypeId) (fz : Nat × Nat) : Prop := w.heap[0]? = some (.cells zS t fz)
theorem qg5 {w : World} (h : Lib.TabIs Tryz.prog w "internal/strconv.uint64pow10" .u64 Lib.pow10Tab) : ∃ t fz,W6 w t fz := by
 unfold Lib.TabIs World.var? at h
 rw [gPow] at h
 simp only [Option.bind_some] at h
 split at h <;> try (cases h; done)
 rename_i cs t fz hc
 cases h
 exact ⟨t,fz,hc⟩
theorem Ym {w : World} {t : TypeId} {fz : Nat × Nat} (h : W6 w t fz) : Lib.TabIs Tryz.prog w "internal/strconv.uint64pow10" .u64 Lib.pow10Tab := by
 unfold Lib.TabIs World.var?
 rw [gPow]
 unfold W6 at h
 simp only [Option.bind_some,h]
 rfl
theorem qg2 [Ev.GTab] {t : TypeId} {fz : Nat × Nat} (hb : Ev.GTab.blk 0 = some (.cells zS t fz)) (n : Int) (w : World) (h0 : -9223372036854775808 ≤ n) (h1 : n ≤ 9223372036854775807) (hg : Ev.Glob (fun _ => none) w) :
  Calls Tryz.prog 202 #[.int .i64 n,.int .i64 10] w fun e w' => e = .returned (.string ⟨(Lib.itoa n).toArray⟩) ∧ w'.tape = w.tape ∧ Ev.Kept w w' := by
 refine (Any.strconv_FormatInt_10 Tryz.laysM173 n h0 h1 w (Ym (hg.blk _ _ hb).2.2)).mono fun e w' ⟨he,k,os,hw⟩ => ?_
 subst hw
 refine ⟨he,rfl,rfl,rfl,?_,fun i hi => ?_⟩
 ·simp [Go.Sort.grow,World.drewN]
 ·simp only [Go.Sort.grow,World.drewN]
  rw [Array.getElem?_append_left hi]
theorem Y7 {w : World} {x0 : String × DataW Unit} {x1 : String × DataW Unit} {rest : List (String × DataW Unit)} (h : laidMet Tryz.prog (x0 :: x1 :: ("internal/strconv.uint64pow10",Lib.tabData .u64 Lib.pow10Tab) :: rest) w) : ∃ t fz,W6 w t fz := by
 obtain ⟨ps,⟨_,_,_,_,_,_,_,_,_,_,⟨_,_,_,_,_,_,_,_,_,_,⟨g,t,cs,f,p,q,hg,ht,hv,hd,_,_⟩,_⟩,_⟩,_⟩ := h
 obtain rfl := Option.some.inj (gPow.symm.trans hg)
 obtain rfl := Option.some.inj (qb2.symm.trans ht)
 refine qg5 ?_
 unfold Lib.TabIs
 rw [hv,← Lib.cells_of_tab Tryz.underlying292 Tryz.underlying64 (by kernel_rfl) (by kernel_rfl) hd]
end Go.Proofs.YtnkeadjkckpknaaGreatDoor
end
section
namespace Go.Proofs.YtnkeadjkckpknaaGreatDoor
open Go.Ev
theorem qby {k : Nat} (h : 10 ≤ k) : Lib.decDigits k = Lib.decDigits (k / 10) ++ [UInt8.ofNat (48 + k % 10)] := by
 rw [Lib.decDigits,dif_neg (by omega)]
theorem WV {k : Nat} (h : k ≤ 9223372036854775808) : (Lib.decDigits k).length ≤ 20 := by
 rw [Lib.decDigits_length]
 rcases Nat.lt_or_ge 20 (Lib.nDigits k) with hlt | hge
 ·have h1 := Lib.lt_pow_nDigits (k / 10)
  by_cases h10 : k < 10
  ·rw [Lib.nDigits_small h10] at hlt; omega
  ·have pw : ∀ (j u : Nat),u < 10 ^ j → Lib.nDigits u ≤ j ∨ j = 0 := by
    intro j
    induction j with
    | zero => intro u _; exact .inr rfl
    | succ j ih =>
     intro u hu
     refine .inl ?_
     by_cases hs : u < 10
     ·rw [Lib.nDigits_small hs]; omega
     ·rw [Lib.nDigits_big hs]
      rw [Nat.pow_succ] at hu
      rcases ih (u / 10) (by omega) with hh | rfl
      ·omega
      ·simp at hu; omega
   rcases pw 20 k (by omega) with hh | hh
   ·omega
   ·cases hh
 ·exact hge
noncomputable abbrev zK (k d : Nat) (hk : 10 ≤ k) (hk2 : k ≤ 9223372036854775808) (hd : k % 10 = d) : GTab where
 tab := fun _ => none
 val := fun i => ([-(k : Int),-((k / 10 : Nat) : Int),-(d : Int),10,-10] : List Int).getD i 0
 txt := fun i => Bool.rec ⟨(Lib.decDigits (k / 10)).toArray⟩ ⟨(Lib.decDigits k).toArray⟩ (Nat.beq i 5)
 con := Vu [(10,3),(-10,4)]
 lit := WM [(2,-(d : Int))]
 quo := vv [(0,3,1)]
 rem := vv [(0,3,2)]
 lt := vv [(4,0,false)]
 cat := fun i n x => Bool.rec none (Bool.rec none (Bool.rec none (some 5) (Nat.beq x (48 + d))) (Nat.beq n 1)) (Nat.beq i 1)
 conOK := fun n i h => by
  have := QM h
  simp only [List.mem_cons,List.not_mem_nil,or_false,Prod.mk.injEq] at this
  rcases this with ⟨rfl,rfl⟩ | ⟨rfl,rfl⟩ <;> exact qF.self _
 litOK := fun i n h => by
  have := Jh h
  simp only [List.mem_cons,List.not_mem_nil,or_false,Prod.mk.injEq] at this
  obtain ⟨rfl,rfl⟩ := this
  exact qF.self _
 quoOK := fun i j r h => by
  have := z9 h
  simp only [List.mem_cons,List.not_mem_nil,or_false,Prod.mk.injEq] at this
  obtain ⟨rfl,rfl,rfl⟩ := this
  show IntKind.i64.wrap 10 ≠ 0 ∧ qF ((IntKind.i64.wrap (-(k : Int))).tdiv (IntKind.i64.wrap 10)) (-((k / 10 : Nat) : Int))
  have e1 : IntKind.i64.wrap 10 = 10 := by decide
  have e2 : IntKind.i64.wrap (-(k : Int)) = -(k : Int) := by rw [ZA]; split <;> omega
  rw [e1,e2,Int.neg_tdiv]
  refine ⟨by decide,0,?_⟩
  have : (k : Int).tdiv 10 = ((k / 10 : Nat) : Int) := by rw [Int.tdiv_eq_ediv_of_nonneg (by omega)]; omega
  rw [this]; omega
 remOK := fun i j r h => by
  have := z9 h
  simp only [List.mem_cons,List.not_mem_nil,or_false,Prod.mk.injEq] at this
  obtain ⟨rfl,rfl,rfl⟩ := this
  show IntKind.i64.wrap 10 ≠ 0 ∧ qF ((IntKind.i64.wrap (-(k : Int))).tmod (IntKind.i64.wrap 10)) (-(d : Int))
  have e1 : IntKind.i64.wrap 10 = 10 := by decide
  have e2 : IntKind.i64.wrap (-(k : Int)) = -(k : Int) := by rw [ZA]; split <;> omega
  rw [e1,e2,Int.neg_tmod]
  refine ⟨by decide,0,?_⟩
  have : (k : Int).tmod 10 = (d : Int) := by rw [Int.tmod_eq_emod_of_nonneg (by omega)]; omega
  rw [this]; omega
 ltOK := fun i j b h => by
  have := z9 h
  simp only [List.mem_cons,List.not_mem_nil,or_false,Prod.mk.injEq] at this
  obtain ⟨rfl,rfl,rfl⟩ := this
  show false = decide (IntKind.i64.wrap (-10) < IntKind.i64.wrap (-(k : Int)))
  have e1 : IntKind.i64.wrap (-10) = -10 := by decide
  have e2 : IntKind.i64.wrap (-(k : Int)) = -(k : Int) := by rw [ZA]; split <;> omega
  rw [e1,e2]
  symm
  rw [decide_eq_false_iff_not]
  omega
 catOK := fun i n x r h => by
  cases h1 : Nat.beq i 1 with
  | false => rw [h1] at h; cases h
  | true =>
   rw [h1] at h
   cases h2 : Nat.beq n 1 with
   | false => rw [h2] at h; cases h
   | true =>
    rw [h2] at h
    cases h3 : Nat.beq x (48 + d) with
    | false => rw [h3] at h; cases h
    | true =>
     rw [h3] at h
     cases h
     have e1 := Nat.eq_of_beq_eq_true h1
     have e2 := Nat.eq_of_beq_eq_true h2
     have e3 := Nat.eq_of_beq_eq_true h3
     subst e1 e2 e3
     refine ⟨?_,?_⟩
     ·show (⟨(Lib.decDigits k).toArray⟩ : ByteArray) = ⟨(Lib.decDigits (k / 10)).toArray⟩ ++ dec 1 (48 + d)
      rw [qby hk,hd]
      apply ByteArray.ext
      simp [dec,digs]
     ·show (Lib.decDigits (k / 10)).toArray.size + 1 ≤ _
      have := WV (k := k / 10) (by omega)
      simp only [List.size_toArray]
      omega
noncomputable abbrev mk0 : GTab where
 tab := fun _ => none
noncomputable def jh : Orc := fun f args => Bool.rec none (match args with
 | [.anyInt .i64 m i] => match Nat.beq m 65536,Nat.beq i 1 with
  | true,true => some [.anyStr 1]
  | _,_ => none
 | _ => none) (Nat.beq f 37)
def Vx (k : Nat) : Prop := ∀ w : World,Calls Tryz.prog 37 #[.int .i64 (-(k : Int))] w fun e w' => e = .returned (.string ⟨(Lib.decDigits k).toArray⟩) ∧ w'.tape = w.tape ∧ Kept w w'
theorem Vz {k d : Nat} (hk : 10 ≤ k) (hk2 : k ≤ 9223372036854775808) (hd : k % 10 = d) (ih : Vx (k / 10)) : @yR (zK k d hk hk2 hd) Tryz.prog jh := by
 letI : GTab := zK k d hk hk2 hd
 intro f args l hl σ w args' hg hda
 unfold jh at hl
 cases hf : Nat.beq f 37 with
 | false => rw [hf] at hl; cases hl
 | true =>
  rw [hf] at hl
  have e := Nat.eq_of_beq_eq_true hf
  subst e
  simp only at hl
  split at hl <;> try (cases hl; done)
  rename_i m i
  split at hl <;> try (cases hl; done)
  rename_i h1 h2
  cases hl
  have e1 := Nat.eq_of_beq_eq_true h1
  have e2 := Nat.eq_of_beq_eq_true h2
  subst e1 e2
  cases hda with
  | cons a1 t1 =>
   cases t1
   cases a1 with
   | anyInt _ _ _ n hn =>
    have hn' : n = IntKind.i64.wrap (-((k / 10 : Nat) : Int)) := by unfold vM at hn; rwa [if_pos rfl] at hn
    have e3 : IntKind.i64.wrap (-((k / 10 : Nat) : Int)) = -((k / 10 : Nat) : Int) := by rw [ZA]; split <;> omega
    rw [e3] at hn'
    subst hn'
    exact (ih w).mono fun e w' ⟨he,ht,hkept⟩ => ⟨⟨_,_,List.mem_singleton.2 rfl,.anyStr 1,he⟩,ht,hkept⟩
theorem one0 : @runV mk0 Tryz.prog wq 37 100 [.int .i64 (0)] (.str 1 48) = true := by kernel_rfl
theorem qhl (k : Nat) (hk : 10 ≤ k) (hk2 : k ≤ 9223372036854775808) (hd : k % 10 = 0) : @runV (zK k 0 hk hk2 hd) Tryz.prog jh 37 100 [.anyInt .i64 65536 0] (.anyStr 5) = true := by kernel_rfl
theorem one1 : @runV mk0 Tryz.prog wq 37 100 [.int .i64 (-1)] (.str 1 49) = true := by kernel_rfl
theorem qio (k : Nat) (hk : 10 ≤ k) (hk2 : k ≤ 9223372036854775808) (hd : k % 10 = 1) : @runV (zK k 1 hk hk2 hd) Tryz.prog jh 37 100 [.anyInt .i64 65536 0] (.anyStr 5) = true := by kernel_rfl
theorem one2 : @runV mk0 Tryz.prog wq 37 100 [.int .i64 (-2)] (.str 1 50) = true := by kernel_rfl
theorem qhv (k : Nat) (hk : 10 ≤ k) (hk2 : k ≤ 9223372036854775808) (hd : k % 10 = 2) : @runV (zK k 2 hk hk2 hd) Tryz.prog jh 37 100 [.anyInt .i64 65536 0] (.anyStr 5) = true := by kernel_rfl
theorem one3 : @runV mk0 Tryz.prog wq 37 100 [.int .i64 (-3)] (.str 1 51) = true := by kernel_rfl
theorem qhx (k : Nat) (hk : 10 ≤ k) (hk2 : k ≤ 9223372036854775808) (hd : k % 10 = 3) : @runV (zK k 3 hk hk2 hd) Tryz.prog jh 37 100 [.anyInt .i64 65536 0] (.anyStr 5) = true := by kernel_rfl
theorem one4 : @runV mk0 Tryz.prog wq 37 100 [.int .i64 (-4)] (.str 1 52) = true := by kernel_rfl
theorem qj1 (k : Nat) (hk : 10 ≤ k) (hk2 : k ≤ 9223372036854775808) (hd : k % 10 = 4) : @runV (zK k 4 hk hk2 hd) Tryz.prog jh 37 100 [.anyInt .i64 65536 0] (.anyStr 5) = true := by kernel_rfl
theorem one5 : @runV mk0 Tryz.prog wq 37 100 [.int .i64 (-5)] (.str 1 53) = true := by kernel_rfl
theorem qhz (k : Nat) (hk : 10 ≤ k) (hk2 : k ≤ 9223372036854775808) (hd : k % 10 = 5) : @runV (zK k 5 hk hk2 hd) Tryz.prog jh 37 100 [.anyInt .i64 65536 0] (.anyStr 5) = true := by kernel_rfl
theorem one6 : @runV mk0 Tryz.prog wq 37 100 [.int .i64 (-6)] (.str 1 54) = true := by kernel_rfl
theorem qj0 (k : Nat) (hk : 10 ≤ k) (hk2 : k ≤ 9223372036854775808) (hd : k % 10 = 6) : @runV (zK k 6 hk hk2 hd) Tryz.prog jh 37 100 [.anyInt .i64 65536 0] (.anyStr 5) = true := by kernel_rfl
theorem one7 : @runV mk0 Tryz.prog wq 37 100 [.int .i64 (-7)] (.str 1 55) = true := by kernel_rfl
theorem qiu (k : Nat) (hk : 10 ≤ k) (hk2 : k ≤ 9223372036854775808) (hd : k % 10 = 7) : @runV (zK k 7 hk hk2 hd) Tryz.prog jh 37 100 [.anyInt .i64 65536 0] (.anyStr 5) = true := by kernel_rfl
theorem one8 : @runV mk0 Tryz.prog wq 37 100 [.int .i64 (-8)] (.str 1 56) = true := by kernel_rfl
theorem qjg (k : Nat) (hk : 10 ≤ k) (hk2 : k ≤ 9223372036854775808) (hd : k % 10 = 8) : @runV (zK k 8 hk hk2 hd) Tryz.prog jh 37 100 [.anyInt .i64 65536 0] (.anyStr 5) = true := by kernel_rfl
theorem one9 : @runV mk0 Tryz.prog wq 37 100 [.int .i64 (-9)] (.str 1 57) = true := by kernel_rfl
theorem qjs (k : Nat) (hk : 10 ≤ k) (hk2 : k ≤ 9223372036854775808) (hd : k % 10 = 9) : @runV (zK k 9 hk hk2 hd) Tryz.prog jh 37 100 [.anyInt .i64 65536 0] (.anyStr 5) = true := by kernel_rfl
theorem qjp (w : World) : @Glob mk0 (fun _ => none) w := QX _ (fun _ => rfl) (fun _ => rfl) _ _
theorem qic {k d : Nat} {hk : 10 ≤ k} {hk2 : k ≤ 9223372036854775808} {hd : k % 10 = d} (w : World) : @Glob (zK k d hk hk2 hd) (fun _ => none) w := QX (zK k d hk hk2 hd) (fun _ => rfl) (fun _ => rfl) _ _
theorem less {k : Nat} {x : Nat} (hx : x = 48 + k) (h : k < 10) (hr : @runV mk0 Tryz.prog wq 37 100 [.int .i64 (-(k : Int))] (.str 1 x) = true) : Vx k := by
 letI : GTab := mk0
 intro w
 refine (@ZG mk0 _ _ _ _ _ _ qw (@K5 mk0 _) hr w (qjp w) [.int .i64 (-(k : Int))] (.cons (.int _ _) .nil)).mono fun e w' ⟨⟨v',dv,he⟩,ht,hkept⟩ => ?_
 cases dv
 refine ⟨?_,ht,hkept⟩
 rw [he,Lib.decDigits,dif_pos h,hx]
 simp [dec,digs]
theorem more {k d : Nat} (hk : 10 ≤ k) (hk2 : k ≤ 9223372036854775808) (hd : k % 10 = d) (ih : Vx (k / 10)) (hr : @runV (zK k d hk hk2 hd) Tryz.prog jh 37 100 [.anyInt .i64 65536 0] (.anyStr 5) = true) : Vx k := by
 letI : GTab := zK k d hk hk2 hd
 intro w
 refine (@ZG (zK k d hk hk2 hd) _ _ _ _ _ _ qw (Vz hk hk2 hd ih) hr w (qic w) [.int .i64 (-(k : Int))] (.cons (.anyInt _ _ _ _ ?_) .nil)).mono fun e w' ⟨⟨v',dv,he⟩,ht,hkept⟩ => ?_
 ·unfold vM
  rw [if_pos rfl]
  show -(k : Int) = IntKind.i64.wrap (-(k : Int))
  rw [ZA]
  split <;> omega
 ·cases dv
  exact ⟨he,ht,hkept⟩
theorem qa9 : ∀ k : Nat,k ≤ 9223372036854775808 → Vx k := by
 intro k
 induction k using Nat.strongRecOn with
 | _ k ih =>
  intro hk2
  by_cases h : k < 10
  ·match k,h with
   | 0,h => exact less rfl h one0
   | 1,h => exact less rfl h one1
   | 2,h => exact less rfl h one2
   | 3,h => exact less rfl h one3
   | 4,h => exact less rfl h one4
   | 5,h => exact less rfl h one5
   | 6,h => exact less rfl h one6
   | 7,h => exact less rfl h one7
   | 8,h => exact less rfl h one8
   | 9,h => exact less rfl h one9
  ·have hk : 10 ≤ k := by omega
   have ih' := ih (k / 10) (by omega) (by omega)
   have hlt : k % 10 < 10 := Nat.mod_lt _ (by decide)
   generalize hd : k % 10 = d at hlt
   match d,hlt with
   | 0,_ => exact more hk hk2 hd ih' (qhl k hk hk2 hd)
   | 1,_ => exact more hk hk2 hd ih' (qio k hk hk2 hd)
   | 2,_ => exact more hk hk2 hd ih' (qhv k hk hk2 hd)
   | 3,_ => exact more hk hk2 hd ih' (qhx k hk hk2 hd)
   | 4,_ => exact more hk hk2 hd ih' (qj1 k hk hk2 hd)
   | 5,_ => exact more hk hk2 hd ih' (qhz k hk hk2 hd)
   | 6,_ => exact more hk hk2 hd ih' (qj0 k hk hk2 hd)
   | 7,_ => exact more hk hk2 hd ih' (qiu k hk hk2 hd)
   | 8,_ => exact more hk hk2 hd ih' (qjg k hk hk2 hd)
   | 9,_ => exact more hk hk2 hd ih' (qjs k hk hk2 hd)
noncomputable abbrev yc (n : Int) (h0 : -9223372036854775808 ≤ n) (h1 : n ≤ 9223372036854775807) (neg : Bool) (hneg : neg = decide (n < 0)) : GTab where
 tab := fun _ => none
 val := fun i => ([n,-n,0] : List Int).getD i 0
 txt := fun i => Bool.rec ⟨(Lib.decDigits n.natAbs).toArray⟩ ⟨(45 :: Lib.decDigits n.natAbs).toArray⟩ (Nat.beq i 5)
 con := Vu [(0,2)]
 sub := vv [(2,0,1)]
 lt := vv [(0,2,neg)]
 catL := fun n x i => Bool.rec none (Bool.rec none (Bool.rec none (some 5) (Nat.beq i 0)) (Nat.beq x 45)) (Nat.beq n 1)
 conOK := fun n i h => by
  have := QM h
  simp only [List.mem_cons,List.not_mem_nil,or_false,Prod.mk.injEq] at this
  obtain ⟨rfl,rfl⟩ := this
  exact qF.self _
 subOK := fun i j r h => by
  have := z9 h
  simp only [List.mem_cons,List.not_mem_nil,or_false,Prod.mk.injEq] at this
  obtain ⟨rfl,rfl,rfl⟩ := this
  exact ⟨0,by show (0 : Int) - n = -n + 0 * _; omega⟩
 ltOK := fun i j b h => by
  have := z9 h
  simp only [List.mem_cons,List.not_mem_nil,or_false,Prod.mk.injEq] at this
  obtain ⟨rfl,rfl,rfl⟩ := this
  show b = decide (IntKind.i64.wrap n < IntKind.i64.wrap 0)
  have e1 : IntKind.i64.wrap 0 = 0 := by decide
  have e2 : IntKind.i64.wrap n = n := by rw [ZA]; split <;> omega
  rw [e1,e2,hneg]
 catLOK := fun m x i r h => by
  cases h1 : Nat.beq m 1 with
  | false => rw [h1] at h; cases h
  | true =>
   rw [h1] at h
   cases h2 : Nat.beq x 45 with
   | false => rw [h2] at h; cases h
   | true =>
    rw [h2] at h
    cases h3 : Nat.beq i 0 with
    | false => rw [h3] at h; cases h
    | true =>
     rw [h3] at h
     cases h
     have e1 := Nat.eq_of_beq_eq_true h1
     have e2 := Nat.eq_of_beq_eq_true h2
     have e3 := Nat.eq_of_beq_eq_true h3
     subst e1 e2 e3
     refine ⟨?_,?_⟩
     ·show (⟨(45 :: Lib.decDigits n.natAbs).toArray⟩ : ByteArray) = dec 1 45 ++ ⟨(Lib.decDigits n.natAbs).toArray⟩
      apply ByteArray.ext
      simp [dec,digs]
     ·show 1 + (Lib.decDigits n.natAbs).toArray.size ≤ _
      have := WV (k := n.natAbs) (by omega)
      simp only [List.size_toArray]
      omega
noncomputable def KU (j : Nat) : Orc := fun f args => Bool.rec none (match args with
 | [.anyInt .i64 m i] => match Nat.beq m 65536,Nat.beq i j with
  | true,true => some [.anyStr j]
  | _,_ => none
 | _ => none) (Nat.beq f 37)
theorem Ke {n : Int} {h0 : -9223372036854775808 ≤ n} {h1 : n ≤ 9223372036854775807} {neg : Bool} {hneg : neg = decide (n < 0)} (j : Nat) (hj : ([n,-n,0] : List Int).getD j 0 = -((n.natAbs : Nat) : Int)) (hj5 : Nat.beq j 5 = false) :
  @yR (yc n h0 h1 neg hneg) Tryz.prog (KU j) := by
 letI : GTab := yc n h0 h1 neg hneg
 intro f args l hl σ w args' hg hda
 unfold KU at hl
 cases hf : Nat.beq f 37 with
 | false => rw [hf] at hl; cases hl
 | true =>
  rw [hf] at hl
  have e := Nat.eq_of_beq_eq_true hf
  subst e
  simp only at hl
  split at hl <;> try (cases hl; done)
  rename_i m i
  split at hl <;> try (cases hl; done)
  rename_i g1 g2
  cases hl
  have e1 := Nat.eq_of_beq_eq_true g1
  have e2 := Nat.eq_of_beq_eq_true g2
  subst e1 e2
  cases hda with
  | cons a1 t1 =>
   cases t1
   cases a1 with
   | anyInt _ _ _ x hn =>
    have hn' : x = IntKind.i64.wrap (([n,-n,0] : List Int).getD i 0) := by unfold vM at hn; rwa [if_pos rfl] at hn
    rw [hj] at hn'
    have e3 : IntKind.i64.wrap (-((n.natAbs : Nat) : Int)) = -((n.natAbs : Nat) : Int) := by rw [ZA]; split <;> omega
    rw [e3] at hn'
    subst hn'
    refine (qa9 n.natAbs (by omega) w).mono fun e w' ⟨he,ht,hkept⟩ => ⟨⟨_,_,List.mem_singleton.2 rfl,.anyStr i,?_⟩,ht,hkept⟩
    rw [he]
    show _ = Ending.returned (Value.string (Bool.rec ⟨(Lib.decDigits n.natAbs).toArray⟩ ⟨(45 :: Lib.decDigits n.natAbs).toArray⟩ (Nat.beq i 5)))
    rw [hj5]
theorem dNeg (n : Int) (h0 : -9223372036854775808 ≤ n) (h1 : n ≤ 9223372036854775807) (h : true = decide (n < 0)) : @runV (yc n h0 h1 true h) Tryz.prog (KU 0) 25 100 [.anyInt .i64 65536 0] (.anyStr 5) = true := by kernel_rfl
theorem dPos (n : Int) (h0 : -9223372036854775808 ≤ n) (h1 : n ≤ 9223372036854775807) (h : false = decide (n < 0)) : @runV (yc n h0 h1 false h) Tryz.prog (KU 1) 25 100 [.anyInt .i64 65536 0] (.anyStr 1) = true := by kernel_rfl
theorem qec {n : Int} {h0 : -9223372036854775808 ≤ n} {h1 : n ≤ 9223372036854775807} {neg : Bool} {hneg : neg = decide (n < 0)} (w : World) : @Glob (yc n h0 h1 neg hneg) (fun _ => none) w := QX (yc n h0 h1 neg hneg) (fun _ => rfl) (fun _ => rfl) _ _
theorem qgk (n : Int) (w : World) (h0 : -9223372036854775808 ≤ n) (h1 : n ≤ 9223372036854775807) :
  Calls Tryz.prog 25 #[.int .i64 n] w fun e w' => e = .returned (.string ⟨(Lib.itoa n).toArray⟩) ∧ w'.tape = w.tape ∧ Kept w w' := by
 have wn : IntKind.i64.wrap n = n := by rw [ZA]; split <;> omega
 by_cases hn : n < 0
 ·have hd : true = decide (n < 0) := by simp [hn]
  letI : GTab := yc n h0 h1 true hd
  refine (@ZG (yc n h0 h1 true hd) _ _ _ _ _ _ qw (Ke 0 (by show n = _; omega) rfl) (dNeg n h0 h1 hd) w (qec w) [.int .i64 n] (.cons (.anyInt _ _ _ _ ?_) .nil)).mono fun e w' ⟨⟨v',dv,he⟩,ht,hkept⟩ => ?_
  ·unfold vM; rw [if_pos rfl]; exact wn.symm
  ·cases dv
   refine ⟨?_,ht,hkept⟩
   rw [he]
   have : Lib.itoa n = 45 :: Lib.decDigits n.natAbs := by unfold Lib.itoa; rw [if_pos hn]
   rw [this]
   rfl
 ·have hd : false = decide (n < 0) := by simp [hn]
  letI : GTab := yc n h0 h1 false hd
  refine (@ZG (yc n h0 h1 false hd) _ _ _ _ _ _ qw (Ke 1 (by show -n = _; omega) rfl) (dPos n h0 h1 hd) w (qec w) [.int .i64 n] (.cons (.anyInt _ _ _ _ ?_) .nil)).mono fun e w' ⟨⟨v',dv,he⟩,ht,hkept⟩ => ?_
  ·unfold vM; rw [if_pos rfl]; exact wn.symm
  ·cases dv
   refine ⟨?_,ht,hkept⟩
   rw [he]
   have : Lib.itoa n = Lib.decDigits n.natAbs := by unfold Lib.itoa; rw [if_neg hn]; congr 1; omega
   rw [this]
   rfl
end Go.Proofs.YtnkeadjkckpknaaGreatDoor
end
section
namespace Go.Vs
open Go.Proofs Go.Proofs.YtnkeadjkckpknaaGreatDoor
variable [GTab]
def YN (call : qh) (lp : Nat → qj) (lv : ql) (lvc : qk) (b : Bool) (H : Heap) (nx : Nat) (K : EndP) : Prop :=
 ifB b (K (AEnd.ret (AVal.str [116,114,117,101])) H nx) (K (AEnd.ret (AVal.str [102,97,108,115,101])) H nx)
def YL (call : qh) (lp : Nat → qj) (lv : ql) (lvc : qk) (b : Bool) (H : Heap) (nx : Nat) (K : EndP) : Prop :=
 call 235 [AVal.bool b] H nx fun e0 H1 i2 => qi e0 (fun v3 => ∃ s4,v3 = AVal.str s4 ∧ K (AEnd.ret (AVal.str s4)) H1 i2) fun l5 => K (AEnd.pan l5) H1 i2
theorem X4 (call : qh) (lp : Nat → qj) (lv : ql) (lvc : qk) (b : Bool) (H : Heap) (nx : Nat) (K : EndP) : q9 Tryz.prog call lp 235 [AVal.bool b] H nx (endK Tryz.prog lv lvc K) = YN call lp lv lvc b H nx K := by kernel_rfl
theorem XG (call : qh) (lp : Nat → qj) (lv : ql) (lvc : qk) (b : Bool) (H : Heap) (nx : Nat) (K : EndP) : q9 Tryz.prog call lp 203 [AVal.bool b] H nx (endK Tryz.prog lv lvc K) = YL call lp lv lvc b H nx K := by kernel_rfl
theorem qcl {t : TypeId} {fz : Nat × Nat} (hb : GTab.blk 0 = some (.cells zS t fz)) {n : Int} {H : Heap} {nx : Nat} {K : EndP} (h0 : -9223372036854775808 ≤ n) (h1 : n ≤ 9223372036854775807)
  (hK : K (.ret (.str (Lib.itoa n))) H nx) : TriP Tryz.prog 202 [iv n,iv 10] H nx K := by
 refine TriP.of_kept (v := .str (Lib.itoa n)) (fun σ w args' hg hd => ?_) hK
 cases hd with
 | cons a1 t1 => cases t1 with
  | cons a2 t2 =>
   cases t2
   cases a1
   cases a2
   refine (Any.strconv_FormatInt_10 Tryz.laysM173 n h0 h1 w (Ym (hg.blk _ _ hb).2.2)).mono fun e w' ⟨he,k,os,hw⟩ => ?_
   subst hw
   refine ⟨⟨_,he,.str _⟩,rfl,rfl,rfl,?_,fun i hi => ?_⟩
   ·simp [Go.Sort.grow,World.drewN]
   ·simp only [Go.Sort.grow,World.drewN]
    rw [Array.getElem?_append_left hi]
theorem qfa {t : TypeId} {fz : Nat × Nat} (hb : GTab.blk 0 = some (.cells zS t fz)) : J8 Lib.itoa := by
 refine ⟨fun n H nx K h0 h1 hK => qcl hb h0 h1 (hK _ (Nat.le_refl _)),fun b H nx K hK => ?_⟩
 refine TriP.of_body qw ?_
 rw [XG]
 unfold YL
 refine TriP.of_body qw ?_
 rw [X4]
 unfold YN
 have := hK nx (Nat.le_refl _)
 cases b
 ·show qi _ _ _
  rw [qd]; exact ⟨_,rfl,this⟩
 ·show qi _ _ _
  rw [qd]; exact ⟨_,rfl,this⟩
end Go.Vs
end
section
namespace Go.Vs
open Go.Proofs
variable [GTab]
theorem WG {n : Int} {m : Nat} {H : Heap} {nx : Nat} {K : EndP} (hm : 0 < m) (hm2 : m ≤ 4096) (hK : ∀ i : Nat,i < m → K (.ret (iv i)) H nx) : TriP Tryz.prog 12 [iv n,iv m] H nx K := by
 refine TriP.of_body qw ?_
 rw [XE]
 unfold qa7
 have h1 : n.tmod m < m := Int.tmod_lt_of_pos n (by omega)
 have h2 : -(m : Int) < n.tmod m := by
  have := Int.tmod_lt_of_pos (-n) (show (0 : Int) < m by omega)
  rw [Int.neg_tmod] at this
  omega
 refine ⟨by omega,?_⟩
 rw [qS]; simp only [decide_eq_true_eq,decide_eq_false_iff_not]
 refine ⟨fun h => ?_,fun h => ?_⟩
 ·have e : IntKind.i64.wrap (n.tmod m + m) = ((n.tmod m + m).toNat : Int) := by rw [qP (by omega) (by omega)]; omega
  rw [e]; exact hK _ (by omega)
 ·have e : n.tmod m = ((n.tmod m).toNat : Int) := by omega
  rw [e]; exact hK _ (by omega)
def Kh (Γ : GH) (H : Heap) (nx : Nat) (p0 p1 p4 : AVal) (p2 : Int) (code : j0) (nums : Int → Option Int) (nl : Nat) : Prop :=
 ∃ (G : Heap → Nat → Prop) (fb off len e nt : Nat) (full : Bool),p1 = .slice fb off len e full ∧ (∀ H H' nx nx',G H nx → (∀ b,b < nx → H' b = H b) → nx ≤ nx' → G H' nx') ∧
  (∀ H nx K,G H nx → (∀ H',(∀ b,b < nx → H' b = H b) → K (.ret (.tuple [.agg [iv 0,iv 0],iv 0])) H' nx) → TriP Tryz.prog 28 [.agg [p0,p1,iv p2,.nilSlice,p4]] H nx K) ∧
  (∀ H nx Γ K,G H nx → HOK Γ H nx → (∀ H' Γ' nx' Γq q0 q1 q3 q4,nx ≤ nx' → HOK Γ' H' nx' → (∀ c ds,Γ c = some ds → Γ' c = some ds) → (∀ c ds,Γq c = some ds → Γ' c = some ds) → OwnV Γq nx nx' q0 q1 q3 q4 code nums → K (.ret (.agg [q0,q1,iv p2,q3,q4])) H' nx') →
   TriP Tryz.prog 29 [.agg [p0,p1,iv p2,.nilSlice,p4]] H nx K) ∧
  G H nx ∧ FnAt Γ p1 p2 nl ∧ nl < 1000000 ∧ len < 1000000 ∧ p2 < len ∧ TypesV Γ p0 nt ∧ qx p0 = true ∧ qx p4 = true
theorem Kh.mono {Γ Γ' : GH} {H H' : Heap} {nx nx' nl : Nat} {p0 p1 p4 : AVal} {p2 : Int} {code : j0} {nums : Int → Option Int} (h : Kh Γ H nx p0 p1 p4 p2 code nums nl) (hs : ∀ c ds,Γ c = some ds → Γ' c = some ds) (hH : ∀ b,b < nx → H' b = H b) (hn : nx ≤ nx') : Kh Γ' H' nx' p0 p1 p4 p2 code nums nl := by
 obtain ⟨G,fb,off,len,e,nt,full,a1,a2,a3,a4,a5,a6,a7,a8,a9,a10,a11⟩ := h
 refine ⟨G,fb,off,len,e,nt,full,a1,a2,a3,a4,a2 _ _ _ _ a5 hH hn,?_,a7,a8,a9,?_,a11⟩
 ·obtain ⟨b,o,l,e',f',cs,lv,b1,b2,b3,b4,b5⟩ := a6.ex
  exact ⟨a6.nn,b,o,l,e',f',cs,lv,b1,b2,hs _ _ b3,b4,b5⟩
 ·obtain ⟨b,f',cs,b1,b2,b3⟩ := a10.row
  exact ⟨a10.small,b,f',cs,b1,hs _ _ b2,b3⟩
end Go.Vs
end
section
namespace Go.Vs
open Go Go.Proofs Go.Bridge Go.Proofs.YtnkeadjkckpknaaGreatDoor
def intB (v : Ev.AVal) (n : Int) : Bool := match v with
 | .int .i64 m => decide (m = n)
 | _ => false
theorem ZY {v : Ev.AVal} {n : Int} (h : intB v n = true) : v = .int .i64 n := by
 unfold intB at h
 split at h
 ·rw [of_decide_eq_true h]
 ·cases h
def W7 : List Ev.AVal → List Ins → Bool
 | [],[] => true
 | a :: b :: d :: r,x :: c => intB a x.1 && intB b x.2.1 && intB d x.2.2 && W7 r c
 | _,_ => false
def VK : List Ev.AVal → List Int → Bool
 | [],[] => true
 | a :: r,x :: c => intB a x && VK r c
 | _,_ => false
def typB : List Ev.AVal → Nat → Bool
 | _,0 => true
 | .int .i64 _ :: .str _ _ :: .int .i64 _ :: .nilSlice :: .nilSlice :: r,n + 1 => typB r n
 | _,_ => false
def fnsB (objs : List (List Ev.AVal)) (n0 : Nat) : List Ev.AVal → List (List Ins) → Bool
 | [],[] => true
 | _ :: _ :: _ :: _ :: .slice cb 0 len 3 _ :: r,c :: l => Nat.ble n0 cb && Nat.beq len c.length && (match objs[cb - n0]? with | some x => W7 x c | none => false) && fnsB objs n0 r l
 | _,_ => false
section
variable [Ev.GTab] [GTab] {ψ : Nat → Nat}
theorem Vi : ∀ {r : List Ev.AVal} {c : List Ins},W7 r c = true → r.map (tr2 ψ) = wg c
 | [],[],_ => rfl
 | a :: b :: d :: r,x :: c,h => by
  unfold W7 at h
  simp only [Bool.and_eq_true] at h
  obtain ⟨⟨⟨h1,h2⟩,h3⟩,h4⟩ := h
  rw [ZY h1,ZY h2,ZY h3]
  show _ :: _ :: _ :: r.map (tr2 ψ) = _
  rw [Vi h4]
  rfl
 | [],_ :: _,h => by cases h
 | [_],_,h => by cases ‹List Ins› <;> cases h
 | [_,_],_,h => by cases ‹List Ins› <;> cases h
 | _ :: _ :: _ :: _,[],h => by cases h
theorem JI : ∀ {r : List Ev.AVal} {c : List Int},VK r c = true → r.map (tr2 ψ) = c.map iv
 | [],[],_ => rfl
 | a :: r,x :: c,h => by
  unfold VK at h
  rw [Bool.and_eq_true] at h
  rw [ZY h.1]
  show _ :: r.map (tr2 ψ) = _
  rw [JI h.2]; rfl
 | [],_ :: _,h => by cases h
 | _ :: _,[],h => by cases h
theorem W9 : ∀ {n : Nat} {r : List Ev.AVal},typB r n = true → ∀ i,i < n → i * 5 + 5 ≤ (r.map (tr2 ψ)).length ∧ ∃ kd nm el ml,((r.map (tr2 ψ)).drop (i * 5)).take 5 = [iv kd,.str nm,iv el,.nilSlice,ml] ∧ qx ml = true
 | 0,_,_,i,hi => by omega
 | n + 1,r,h,i,hi => by
  unfold typB at h
  split at h <;> first | omega | (cases h; done) | skip
  rename_i k1 q1 q2 k2 r' n' _ e
  cases e
  cases i with
  | zero => exact ⟨by simp,_,_,_,.nilSlice,rfl,rfl⟩
  | succ i =>
   obtain ⟨h1,h2⟩ := W9 h i (by omega)
   refine ⟨by simp at h1 ⊢; omega,?_⟩
   rw [show (i + 1) * 5 = i * 5 + 1 + 1 + 1 + 1 + 1 by omega]
   exact h2
theorem Kq {objs : List (List Ev.AVal)} {n0 : Nat} : ∀ {r : List Ev.AVal} {l : List (List Ins)},fnsB objs n0 r l = true → ∀ i c,l[i]? = some c → ∃ cb ce cf,(r.map (tr2 ψ))[i * 5 + 4]? = some (.slice (ψ cb) 0 c.length ce cf) ∧ n0 ≤ cb ∧ ∃ x,objs[cb - n0]? = some x ∧ x.map (tr2 ψ) = wg c
 | r,[],_,i,c,hc => by simp at hc
 | r,c0 :: l,h,i,c,hc => by
  unfold fnsB at h
  split at h <;> try (cases h; done)
  ·rename_i e; cases e
  rename_i cb len f r' c0' l' e
  cases e
  simp only [Bool.and_eq_true] at h
  obtain ⟨⟨⟨h1,h2⟩,h3⟩,h4⟩ := h
  cases i with
  | zero =>
   simp at hc; subst hc
   split at h3
   ·rename_i x hx
    refine ⟨cb,3,f,?_,Nat.le_of_ble_eq_true h1,x,hx,Vi h3⟩
    rw [← Nat.eq_of_beq_eq_true h2]; rfl
   ·cases h3
  | succ i =>
   obtain ⟨cb',ce,cf,a1,a2⟩ := Kq h4 i c (by simpa using hc)
   refine ⟨cb',ce,cf,?_,a2⟩
   rw [show (i + 1) * 5 + 4 = i * 5 + 4 + 1 + 1 + 1 + 1 + 1 by omega]
   exact a1
end
structure SrcB where
 objs : List (List Ev.AVal)
 rn : List Nat
 objs2 : List (List Ev.AVal)
 rn2 : List Nat
 tb : Nat
 nt : Nat
 tf : Bool
 fb : Nat
 nf : Nat
 ff : Bool
 main : Nat
 p4 : Ev.AVal
 q0 : Ev.AVal
 fb2 : Nat
 ff2 : Bool
 q3 : Ev.AVal
 nb2 : Nat
 nf2 : Bool
 lv : Ev.AVal
 nl : Nat
 code : List (List Ins)
 nums : List Int
namespace SrcB
abbrev p (s : SrcB) : List Ev.AVal := [.slice s.tb 0 s.nt 5 s.tf,.slice s.fb 0 s.nf 5 s.ff,.int .i64 s.main,.nilSlice,s.p4]
abbrev q (s : SrcB) : List Ev.AVal := [s.q0,.slice s.fb2 0 s.code.length 5 s.ff2,.int .i64 s.main,s.q3,.slice s.nb2 0 s.nums.length 1 s.nf2]
def cellB (v : Ev.AVal) : Bool := match v with
 | .nilSlice => true
 | .slice _ _ _ _ _ => true
 | _ => false
def lenB (v : Ev.AVal) (n : Nat) : Bool := match v with
 | .nilSlice => Nat.beq n 0
 | .slice _ _ len _ _ => Nat.beq len n
 | _ => false
noncomputable def okB (s : SrcB) : Bool :=
 Nat.ble s.objs.length 1000 && Nat.ble s.objs2.length 1000 && wR s.objs && Ev.vz s.rn && Ev.vz (List.range s.objs.length ++ s.rn2) &&
 (match s.objs[s.tb]? with | some c => typB c s.nt | none => false) &&
 (match s.objs[s.fb]? with | some c => (match c[s.main * 5 + 3]? with | some v => lenB v s.nl | none => false) | none => false) &&
 Nat.ble (Nat.succ s.main) s.nf && Nat.ble s.nf 1000 && Nat.ble s.nl 1000 && Nat.ble s.nt 1000 && cellB s.p4 && cellB s.q0 && cellB s.q3 &&
 Nat.ble s.objs.length s.fb2 && Nat.ble s.objs.length s.nb2 &&
 (match s.objs2[s.fb2 - s.objs.length]? with | some c => fnsB s.objs2 s.objs.length c s.code | none => false) &&
 (match s.objs2[s.nb2 - s.objs.length]? with | some c => VK c s.nums | none => false) && Nat.ble s.code.length 1000
end SrcB
theorem XZ [Ev.GTab] {l : List Nat} (h : l.Nodup) : Ev.vz l = true := by
 induction l with
 | nil => rfl
 | cons a l ih =>
  unfold Ev.vz
  have h1 : Ev.memN a l = false := by
   cases e : Ev.memN a l with
   | false => rfl
   | true => exact ((List.nodup_cons.1 h).1 ((Ev.ys a l).1 e)).elim
  rw [h1]
  exact ih (List.nodup_cons.1 h).2
theorem nodup_range [Ev.GTab] (n : Nat) : Ev.vz (List.range n) = true := XZ List.nodup_range
section
variable [Ev.GTab] [Ev.SymC Tryz.prog 202 25] [GTab]
theorem JL {ψ : Nat → Nat} {v : Ev.AVal} (h : SrcB.cellB v = true) : qx (tr2 ψ v) = true := by
 unfold SrcB.cellB at h
 split at h <;> first | rfl | (cases h; done)
theorem Z1 {σ : Sg} {σ1 : Ev.Sg} {φ : Nat → Nat} {n0 : Nat} (hs : ∀ b p,b < n0 → σ (φ b) = some p → σ1 b = some p) : ∀ {l : List Ev.AVal} {l' : List Value},(∀ v,v ∈ l → Qe n0 v) → DenL σ (l.map (tr2 φ)) l' → Ev.DenL σ1 l l'
 | [],_,_,h => by cases h; exact .nil
 | v :: l,_,hb,h => by
  have h' : DenL σ (tr2 φ v :: l.map (tr2 φ)) _ := h
  cases h' with
  | cons h1 h2 => exact .cons (Ju hs (hb v (List.mem_cons_self ..)) h1) (Z1 hs (fun v hv => hb v (List.mem_cons_of_mem _ hv)) h2)
end
end Go.Vs
end
section
namespace Go.Vs.Deep
open Go.Proofs Go.Vs
variable [GTab]
def code : List (List Ins) := [[(5,0,0),(1,0,0),(15,0,0),(27,5,0),(26,4,0),(5,0,0),(5,0,0),(1,1,0),(9,0,0),(5,1,0),(36,0,2),(8,0,0),(41,1,0),(26,13,0)],[(40,0,0),(1,2,0),(36,0,2),(39,1,0),(41,0,0)]]
def nums : List Int := [0,1,7]
def locs : List Nat := [2,0]
def codeD (l : List (List Ins)) (ls : List Nat) : j0 := fun f pc => if pc = -1 then (if 0 ≤ f then (match ls[f.toNat]? with | some n => some (37,(n : Int),0) | none => none) else none) else qe2 l f pc
abbrev C : j0 := codeD code locs
abbrev N : Int → Option Int := Kf nums
abbrev u (n : Int) : Int := IntKind.u64.wrap n
abbrev at_ (low : List Fm) (f pc : Int) (ls st : List Int) (W : Wd) : Mst := ⟨low,⟨f,pc,ls,st⟩,W,0,0⟩
section
variable (num : Int → List UInt8) (low : List Fm) (a b x : Int) (W : Wd)
theorem b0 (words : List Int) (room : Int) (lits : List Int) : runS num C N 3 (at_ [] 1 0 [] [] ⟨words,room,lits,[a],0,[]⟩) = some (at_ [⟨1,2,[],[]⟩] 0 0 [u a,u 7] [] ⟨words,room,lits,[a],1,[]⟩) := by kernel_rfl
theorem c0 : runS num C N 3 (at_ low 0 0 [a,b] [] W) = some (at_ low 0 3 [a,b] [bitI (decide (a = u 0))] W) := by kernel_rfl
theorem j3 (x : Bool) : runS num C N 1 (at_ low 0 3 [a,b] [bitI x] W) = some (at_ low 0 (if x then 4 else 5) [a,b] [] W) := by cases x <;> kernel_rfl
theorem j4 : runS num C N 1 (at_ low 0 4 [a,b] [] W) = some (at_ low 0 4 [a,b] [] W) := by kernel_rfl
theorem c5 : runS num C N 5 (at_ low 0 5 [a,b] [] W) = some (at_ low 0 10 [a,b] [a,u (a - u 1),b] W) := by kernel_rfl
theorem c10 (hl : low.length + 1 < 30) : runS num C N 1 (at_ low 0 10 [a,b] [a,x,b] W) = some (at_ (low ++ [⟨0,10,[a,b],[a]⟩]) 0 0 [x,b] [] W) := by
 have c1 : C 0 10 = some (36,0,2) := by kernel_rfl
 have c2 : C 0 (-1) = some (37,2,0) := by kernel_rfl
 unfold runS Mst.stepG Mst.stepC
 rw [c1]
 dsimp only
 rw [if_pos rfl,if_pos rfl,c2]
 dsimp only
 unfold Mst.calls
 rw [if_pos ⟨by omega,by decide,by decide,hl⟩]
 rfl
end
def fr : Nat → List Fm
 | 0 => []
 | a + 1 => ⟨0,10,[((a + 1 : Nat) : Int),7],[((a + 1 : Nat) : Int)]⟩ :: fr a
theorem fr_len : ∀ a,(fr a).length = a
 | 0 => rfl
 | a + 1 => by simp [fr,fr_len a]
theorem fr_get : ∀ (a i : Nat),i < a → (fr a)[i]? = some ⟨0,10,[((a - i : Nat) : Int),7],[((a - i : Nat) : Int)]⟩
 | 0,i,h => by omega
 | a + 1,0,h => rfl
 | a + 1,i + 1,h => by
  show (fr a)[i]? = _
  rw [fr_get a i (by omega),show a + 1 - (i + 1) = a - i by omega]
section
variable {num : Int → List UInt8} {W : Wd}
theorem down : ∀ (a : Nat) (low : List Fm),low.length + a + 1 < 30 → Steps num C N (10 * a + 4) (at_ low 0 0 [(a : Int),7] [] W) (at_ (low ++ fr a) 0 4 [0,7] [] W)
 | 0,low,h => by
  have h1 := jq (c0 num low 0 7 W)
  have h2 := jq (j3 num low 0 7 W true)
  rw [show (decide ((0 : Int) = u 0)) = true by decide] at h1
  exact (h1.trans h2).cast rfl (by simp [fr])
 | a + 1,low,h => by
  have e1 : decide (((a + 1 : Nat) : Int) = u 0) = false := by
   have : u 0 = 0 := by decide
   rw [this]; simp; omega
  have h1 := jq (c0 num low ((a + 1 : Nat) : Int) 7 W)
  have h2 := jq (j3 num low ((a + 1 : Nat) : Int) 7 W false)
  have h3 := jq (c5 num low ((a + 1 : Nat) : Int) 7 W)
  have e2 : u (((a + 1 : Nat) : Int) - u 1) = (a : Int) := by
   have : u 1 = 1 := by decide
   rw [this,show ((a + 1 : Nat) : Int) - 1 = (a : Int) by omega]
   exact u_id (by omega) (by omega)
  have h4 := jq (c10 num low ((a + 1 : Nat) : Int) 7 (a : Int) W (by omega))
  rw [e1] at h1
  rw [e2] at h3
  have h5 := down a (low ++ [⟨0,10,[((a + 1 : Nat) : Int),7],[((a + 1 : Nat) : Int)]⟩]) (by simp; omega)
  exact ((((h1.trans h2).trans h3).trans h4).trans h5).cast (by omega) (by simp [fr])
theorem spin {low : List Fm} {a b : Int} : ∀ k,Steps num C N k (at_ low 0 4 [a,b] [] W) (at_ low 0 4 [a,b] [] W)
 | 0 => .refl _
 | k + 1 => ((jq (j4 num low a b W)).trans (spin k)).cast (by omega) rfl
theorem main {n : Nat} (hn : n ≤ 20) {words : List Int} {room : Int} {lits : List Int} :
  Steps num C N 5000 (at_ [] 1 0 [] [] ⟨words,room,lits,[(n : Int)],0,[]⟩) (at_ (⟨1,2,[],[]⟩ :: fr n) 0 4 [0,7] [] ⟨words,room,lits,[(n : Int)],1,[]⟩) := by
 have h1 := jq (b0 num (n : Int) words room lits)
 rw [show u (n : Int) = n from u_id (by omega) (by omega),show u 7 = 7 by decide] at h1
 have h2 := down (num := num) (W := ⟨words,room,lits,[(n : Int)],1,[]⟩) n [⟨1,2,[],[]⟩] (by simp; omega)
 exact ((h1.trans h2).trans (spin (5000 - (3 + (10 * n + 4))))).cast (by omega) (by simp)
end
end Go.Vs.Deep
end
section
namespace Go.Vs
open Go.Proofs
variable [GTab]
def Sub (Γ Γ' : GH) : Prop := ∀ c ds,Γ c = some ds → Γ' c = some ds
theorem Sub.refl (Γ : GH) : Sub Γ Γ := fun _ _ e => e
theorem Sub.trans {Γ Γ' Γ'' : GH} (h : Sub Γ Γ') (k : Sub Γ' Γ'') : Sub Γ Γ'' := fun c ds e => k c ds (h c ds e)
theorem Sub.new {Γ : GH} {H : Heap} {nx b : Nat} {cs : List AVal} (hk : HOK Γ H nx) (hb : nx ≤ b) : Sub Γ (gup b (some cs) Γ) := fun c ds e => by have := hk.lt e; rw [qe (by omega)]; exact e
def FrIn (Γ : GH) (v : AVal) (fs : List Fm) : Prop :=
 ∃ b full cs,v = .slice b 0 fs.length 4 full ∧ Γ b = some cs ∧ fs.length * 4 ≤ cs.length ∧ ∀ i f,fs[i]? = some f → ∃ lv sv,(cs.drop (i * 4)).take 4 = [iv f.f,iv f.pc,lv,sv] ∧ SrcV Γ lv 1 f.ls.length (uvs f.ls) ∧ SrcV Γ sv 1 f.st.length (uvs f.st)
theorem FrIn.mono {Γ Γ' : GH} {v : AVal} {fs : List Fm} (h : FrIn Γ v fs) (hs : Sub Γ Γ') : FrIn Γ' v fs := by
 obtain ⟨b,full,cs,h1,h2,h3,h4⟩ := h
 refine ⟨b,full,cs,h1,hs _ _ h2,h3,fun i f hf => ?_⟩
 obtain ⟨lv,sv,a1,a2,a3⟩ := h4 i f hf
 exact ⟨lv,sv,a1,a2.mono hs,a3.mono hs⟩
def RowB (Γ : GH) (lo hi : Nat) (v : AVal) (l : List Int) : Prop := ∃ b full cs,v = .slice b 0 l.length 1 full ∧ lo ≤ b ∧ b < hi ∧ Γ b = some cs ∧ cs.take l.length = uvs l
theorem RowB.src {Γ : GH} {lo hi : Nat} {v : AVal} {l : List Int} (h : RowB Γ lo hi v l) : SrcV Γ v 1 l.length (uvs l) := by
 obtain ⟨b,full,cs,rfl,_,h1,h2,h3⟩ := h
 have := jX h3 (by simp [uvs])
 exact .inr ⟨b,0,full,cs,rfl,h2,by omega,by rw [List.drop_zero,Nat.mul_one,h3]⟩
theorem RowB.cell {Γ : GH} {lo hi : Nat} {v : AVal} {l : List Int} (h : RowB Γ lo hi v l) : qx v = true := by obtain ⟨b,full,cs,rfl,_⟩ := h; rfl
theorem RowB.mono {Γ Γ' : GH} {lo hi lo' hi' : Nat} {v : AVal} {l : List Int} (h : RowB Γ lo hi v l) (hb : hi ≤ hi') (hlo : lo' ≤ lo) (hs : ∀ c ds,lo ≤ c → c < hi → Γ c = some ds → Γ' c = some ds) : RowB Γ' lo' hi' v l := by
 obtain ⟨b,full,cs,h0,h1,h2,h3,h4⟩ := h
 exact ⟨b,full,cs,h0,by omega,by omega,hs _ _ h1 h2 h3,h4⟩
def z3 : AVal → Nat
 | .slice b _ _ _ _ => b
 | _ => 0
def vN (Γ : GH) (own : Nat → Nat) (lo bb : Nat) (cs : List AVal) (fs : List Fm) : Prop :=
 cs.length = fs.length * 4 ∧ ∀ i f,fs[i]? = some f → ∃ lv sv,(cs.drop (i * 4)).take 4 = [iv f.f,iv f.pc,lv,sv] ∧ RowB Γ lo bb lv f.ls ∧ RowB Γ lo bb sv f.st ∧ own (z3 lv) = 2 * i ∧ own (z3 sv) = 2 * i + 1
def FrC (Γ : GH) (lo bb : Nat) (fs : List Fm) : Prop := ∃ cs own,Γ bb = some cs ∧ vN Γ own lo bb cs fs
theorem FrC.in {Γ : GH} {lo bb : Nat} {fs : List Fm} {full : Bool} (h : FrC Γ lo bb fs) : FrIn Γ (.slice bb 0 fs.length 4 full) fs := by
 obtain ⟨cs,own,h1,h2,h3⟩ := h
 refine ⟨bb,full,cs,rfl,h1,by omega,fun i f hf => ?_⟩
 obtain ⟨lv,sv,a1,a2,a3,_⟩ := h3 i f hf
 exact ⟨lv,sv,a1,a2.src,a3.src⟩
theorem RowB.blk {Γ : GH} {lo hi : Nat} {v : AVal} {l : List Int} (h : RowB Γ lo hi v l) : lo ≤ z3 v ∧ z3 v < hi := by obtain ⟨b,full,cs,rfl,h1,h2,_⟩ := h; exact ⟨h1,h2⟩
theorem vN.mono {Γ Γ' : GH} {own own' : Nat → Nat} {lo bb bb' : Nat} {cs : List AVal} {fs : List Fm} (h : vN Γ own lo bb cs fs) (hb : bb ≤ bb') (hs : ∀ c ds,lo ≤ c → c < bb → Γ c = some ds → Γ' c = some ds) (ho : ∀ c,c < bb → own' c = own c) : vN Γ' own' lo bb' cs fs := by
 refine ⟨h.1,fun i f hf => ?_⟩
 obtain ⟨lv,sv,a1,a2,a3,a4,a5⟩ := h.2 i f hf
 exact ⟨lv,sv,a1,a2.mono hb (Nat.le_refl _) hs,a3.mono hb (Nat.le_refl _) hs,by rw [ho _ a2.blk.2]; exact a4,by rw [ho _ a3.blk.2]; exact a5⟩
theorem vN.snoc {Γ : GH} {own : Nat → Nat} {lo bb : Nat} {cs : List AVal} {fs : List Fm} {f : Fm} {lv sv : AVal} (h : vN Γ own lo bb cs fs) (h1 : RowB Γ lo bb lv f.ls) (h2 : RowB Γ lo bb sv f.st) (h3 : own (z3 lv) = 2 * fs.length) (h4 : own (z3 sv) = 2 * fs.length + 1) :
  vN Γ own lo bb (cs ++ [iv f.f,iv f.pc,lv,sv]) (fs ++ [f]) := by
 refine ⟨by rw [List.length_append,List.length_append,h.1]; simp; omega,fun i g hg => ?_⟩
 rcases Nat.lt_or_ge i fs.length with hlt | hge
 ·rw [List.getElem?_append_left hlt] at hg
  obtain ⟨a,b,a1,a2,a3,a4,a5⟩ := h.2 i g hg
  refine ⟨a,b,?_,a2,a3,a4,a5⟩
  have hl : ((cs.drop (i * 4)).take 4).length = 4 := by rw [a1]; rfl
  rw [List.length_take,List.length_drop] at hl
  rw [List.drop_append_of_le_length (by omega),List.take_append_of_le_length (by rw [List.length_drop]; omega),a1]
 ·rw [List.getElem?_append_right hge] at hg
  have hi : i = fs.length := by
   rcases Nat.lt_or_ge (i - fs.length) 1 with h | h
   ·omega
   ·rw [List.getElem?_eq_none (by simpa using h)] at hg; cases hg
  subst hi
  simp at hg; subst hg
  exact ⟨lv,sv,by rw [← h.1,List.drop_left]; rfl,h1,h2,h3,h4⟩
theorem vS (l : List Int) : qo (uvs l) = true := kV (f := uv) (fun _ => rfl) _
theorem ZT {Γ : GH} {H : Heap} {nx b : Nat} {l : List Int} (hk : HOK Γ H nx) (hb : Γ b = some []) (hl : l.length < 1000000) :
  ∃ v H' nx' Γ',appC H nx 1 8 (.slice b 0 0 1 true) l.length (uvs l) = some (v,H',nx') ∧ nx ≤ nx' ∧ HOK Γ' H' nx' ∧ Sub Γ Γ' ∧ RowB Γ' b nx' v l ∧ (z3 v = b ∨ nx ≤ z3 v) := by
 by_cases hz : l = []
 ·subst hz
  exact ⟨_,H,nx,Γ,rfl,Nat.le_refl _,hk,.refl _,⟨b,true,[],rfl,Nat.le_refl _,hk.lt hb,hb,rfl⟩,.inl rfl⟩
 ·have hz' : l.length ≠ 0 := fun e => hz (List.length_eq_zero_iff.1 e)
  have hu : (uvs l).length = l.length := by simp [uvs]
  have hbn := hk.lt hb
  obtain ⟨H',q1,q2⟩ := hk.appFull (b := b) (off := 0) (len := 0) (esz := 1) (ebytes := 8) (k := l.length) (new := uvs l) hb (by simp) (by omega) (by omega) (by omega) (by omega)
  refine ⟨_,H',_,_,q1,by omega,q2,.new hk (Nat.le_refl _),⟨nx,false,_,by rw [Nat.zero_add],by omega,by omega,qc _ _ _,?_⟩,.inr (Nat.le_refl _)⟩
  simp only [List.drop_zero,Nat.zero_mul,List.take_zero,List.nil_append]
  exact List.take_of_length_le (by omega)
def Laid (base : GH) (N : Nat) (Γ : GH) (o : AVal) (fs : List Fm) : Prop :=
 Sub base Γ ∧ ((o = .nilSlice ∧ fs = []) ∨ ∃ bb,o = .slice bb 0 fs.length 4 false ∧ FrC Γ N bb fs ∧ base bb = none ∧ N ≤ bb)
theorem Laid.add {base Γ Γ2 : GH} {H : Heap} {nx n0 N : Nat} {o : AVal} {fs : List Fm} {f : Fm} {lv sv : AVal} (ho : Laid base N Γ o fs) (hlow : ∀ c ds,Γ c = some ds → c < n0 ∧ Γ2 c = some ds) (hN : N ≤ n0) (hN2 : n0 ≤ nx) (hbn : base nx = none) (hk : HOK Γ2 H nx) (hl : fs.length < 1000)
  (h1 : RowB Γ2 n0 nx lv f.ls) (h2 : RowB Γ2 n0 nx sv f.st) (hne : z3 lv ≠ z3 sv) :
  ∃ o' H' Γ',appC H nx 4 64 o 1 [iv f.f,iv f.pc,lv,sv] = some (o',H',nx + 1) ∧ HOK Γ' H' (nx + 1) ∧ Laid base N Γ' o' (fs ++ [f]) := by
 obtain ⟨hsub,ho⟩ := ho
 have b1 := h1.blk
 have b2 := h2.blk
 rcases ho with ⟨rfl,rfl⟩ | ⟨bb,rfl,⟨cs,own,e1,e2⟩,hbb,hNb⟩
 ·obtain ⟨H',q1,q2⟩ := hk.appNil (esz := 4) (ebytes := 64) (k := 1) (new := [iv f.f,iv f.pc,lv,sv]) rfl (by omega) (by omega) (by omega)
  have hs : ∀ c ds,n0 ≤ c → c < nx → Γ2 c = some ds → gup nx (some [iv f.f,iv f.pc,lv,sv]) Γ2 c = some ds := fun c ds _ hc e => by rw [qe (by omega)]; exact e
  refine ⟨_,H',_,q1,q2,fun c ds e => ?_,.inr ⟨nx,rfl,⟨_,fun c => if c = z3 lv then 0 else 1,qc _ _ _,?_⟩,hbn,by omega⟩⟩
  ·have h3 := hlow _ _ (hsub _ _ e)
   have := hk.lt h3.2
   rw [qe (by omega)]; exact h3.2
  ·have := vN.snoc (Γ := gup nx (some [iv f.f,iv f.pc,lv,sv]) Γ2) (own := fun c => if c = z3 lv then 0 else 1) (lo := N) (bb := nx) (cs := []) (fs := []) (f := f) ⟨rfl,fun i f hf => by simp at hf⟩ (h1.mono (Nat.le_refl _) hN hs) (h2.mono (Nat.le_refl _) hN hs)
    (by simp) (by show (if z3 sv = z3 lv then 0 else 1) = _; rw [if_neg (Ne.symm hne)]; rfl)
   simpa using this
 ·have hlc := e2.1
  obtain ⟨hb0,e1'⟩ := hlow _ _ e1
  obtain ⟨H',q1,q2⟩ := hk.app (len := fs.length) (esz := 4) (ebytes := 64) (k := 1) (new := [iv f.f,iv f.pc,lv,sv]) e1' (by omega) rfl (by omega) (by omega) (by omega)
  have hbn' := hk.lt e1'
  rw [show cs.take (fs.length * 4) = cs from List.take_of_length_le (by omega)] at q2
  have hs : ∀ c ds,N ≤ c → c < bb → Γ c = some ds → gup nx (some (cs ++ [iv f.f,iv f.pc,lv,sv])) (gup bb none Γ2) c = some ds := fun c ds _ hc e => by rw [qe (by omega),qe (by omega)]; exact (hlow _ _ e).2
  have hs2 : ∀ c ds,n0 ≤ c → c < nx → Γ2 c = some ds → gup nx (some (cs ++ [iv f.f,iv f.pc,lv,sv])) (gup bb none Γ2) c = some ds := fun c ds h0 hc e => by rw [qe (by omega),qe (by omega)]; exact e
  refine ⟨_,H',_,q1,q2,fun c ds e => ?_,.inr ⟨nx,by simp,⟨_,fun c => if c = z3 lv then 2 * fs.length else if c = z3 sv then 2 * fs.length + 1 else own c,qc _ _ _,?_⟩,hbn,by omega⟩⟩
  ·have h3 := hlow _ _ (hsub _ _ e)
   have := hk.lt h3.2
   have : c ≠ bb := fun hx => by rw [hx,hbb] at e; cases e
   rw [qe (by omega),qe this]; exact h3.2
  ·refine (e2.mono (by omega) hs fun c hc => ?_).snoc (h1.mono (Nat.le_refl _) hN hs2) (h2.mono (Nat.le_refl _) hN hs2) ?_ ?_
   ·show (if c = z3 lv then _ else if c = z3 sv then _ else own c) = own c
    rw [if_neg (by omega),if_neg (by omega)]
   ·show (if z3 lv = z3 lv then _ else _) = _
    rw [if_pos rfl]
   ·show (if z3 sv = z3 lv then _ else if z3 sv = z3 sv then _ else _) = _
    rw [if_neg (Ne.symm hne),if_pos rfl]
theorem YE {Γ : GH} {H : Heap} {nx i : Nat} {v : AVal} {fs : List Fm} (hk : HOK Γ H nx) (hv : FrIn Γ v fs) (hi : i < fs.length) :
  ∃ p lv sv,idxS v i 4 = some p ∧ ldN H 4 p = some (.agg [iv fs[i].f,iv fs[i].pc,lv,sv]) ∧ SrcV Γ lv 1 fs[i].ls.length (uvs fs[i].ls) ∧ SrcV Γ sv 1 fs[i].st.length (uvs fs[i].st) ∧ qx lv = true ∧ qx sv = true := by
 obtain ⟨b,full,cs,rfl,h2,h3,h4⟩ := hv
 obtain ⟨lv,sv,a1,a2,a3⟩ := h4 i _ (List.getElem?_eq_getElem hi)
 have hc : ∀ {x : AVal} {n : Nat} {l : List AVal},SrcV Γ x 1 n l → qx x = true := fun h => by
  rcases h with ⟨rfl,_⟩ | ⟨_,_,_,_,rfl,_⟩ <;> rfl
 refine ⟨_,lv,sv,qW hi,?_,a2,a3,hc a2,hc a3⟩
 rw [Nat.zero_add,hk.ldN h2 (by omega),a1]
theorem YO {Γ : GH} {H : Heap} {nx : Nat} {v : AVal} {fs : List Fm} {K : EndP} (hk : HOK Γ H nx) (hv : FrIn Γ v fs) (hl : fs.length < 1000) (h0 : fs ≠ []) (hs : ∀ f,f ∈ fs → f.ls.length < 1000000 ∧ f.st.length < 1000000)
  (hK : ∀ H' Γ' nx' bb,nx ≤ nx' → nx ≤ bb → HOK Γ' H' nx' → Sub Γ Γ' → FrC Γ' nx bb fs → K (.ret (.slice bb 0 fs.length 4 false)) H' nx') : TriP Tryz.prog 35 [v] H nx K := by
 refine TriP.of_body qw ?_
 rw [XO]
 unfold qbe
 have hlen : lenS v = some fs.length := by obtain ⟨b,full,cs,rfl,_⟩ := hv; rfl
 refine ⟨_,hlen,?_⟩
 refine KS (P := Tryz.prog) (X := Nat × AVal) (Y := AVal) (fun p => envL .und [(8,iv p.1),(7,iv fs.length),(6,v),(3,p.2)]) (fun o => envL .und [(3,o)])
  (fun m p H1 nx1 => m = fs.length - p.1 ∧ p.1 ≤ fs.length ∧ nx ≤ nx1 ∧ ∃ Γ1,HOK Γ1 H1 nx1 ∧ Laid Γ nx Γ1 p.2 (fs.take p.1))
  (fun id o H1 nx1 => id = 0 ∧ nx ≤ nx1 ∧ ∃ Γ1,HOK Γ1 H1 nx1 ∧ Laid Γ nx Γ1 o fs) fs.length (0,.nilSlice) (qI.of_list (by exact ⟨rfl,rfl,rfl,rfl,trivial⟩))
  ⟨rfl,Nat.zero_le _,Nat.le_refl _,Γ,hk,.refl _,.inl ⟨rfl,rfl⟩⟩ ?_ ?_
 ·rintro m ⟨i,o⟩ H1 nx1 ⟨rfl,hi,h1,Γ1,hk1,hsub,ho⟩
  dsimp only at hi ho ⊢
  refine WpP.trim (ts := [8,7,6,3]) (WpP.weaken (e := envL .und [(8,iv i),(7,iv fs.length),(6,v),(3,o)]) (qI.refl _) (WpP.of_vK qw ?_))
  rw [qfo]
  unfold FCl
  rw [qS]; simp only [decide_eq_true_eq,decide_eq_false_iff_not,Int.ofNat_eq_natCast]
  refine ⟨fun hlt => ?_,fun hge => ?_⟩
  ·have hlt' : i < fs.length := by omega
   obtain ⟨p,lv,sv,p1,p2,p3,p4,p5,p6⟩ := YE hk1 (hv.mono hsub) hlt'
   have hf : fs[i] ∈ fs := List.getElem_mem hlt'
   obtain ⟨hls,hst⟩ := hs _ hf
   have n1 : Sub Γ1 (gup nx1 (some [iv 0,iv 0,.nilSlice,.nilSlice]) Γ1) := .new hk1 (Nat.le_refl _)
   have k5 := hk1.new (b := nx1) (nx' := nx1 + 1) (Nat.le_refl _) (by omega) [iv 0,iv 0,.nilSlice,.nilSlice]
   obtain ⟨H6,s6,k6⟩ := k5.st (off := 0) (vs := [iv fs[i].f,iv fs[i].pc,lv,sv]) (qc _ _ _) (by simp) (by simp [qo,p5,p6]; rfl)
   rw [show qC [iv 0,iv 0,AVal.nilSlice,.nilSlice] 0 [iv fs[i].f,iv fs[i].pc,lv,sv] = [iv fs[i].f,iv fs[i].pc,lv,sv] from rfl,vh] at k6
   have n6 : Sub Γ1 (gup nx1 (some [iv fs[i].f,iv fs[i].pc,lv,sv]) Γ1) := .new hk1 (Nat.le_refl _)
   have k7 := k6.new (b := nx1 + 1 + 0) (nx' := nx1 + 2) (by omega) (by omega) []
   have n7 : Sub _ (gup (nx1 + 1 + 0) (some []) (gup nx1 (some [iv fs[i].f,iv fs[i].pc,lv,sv]) Γ1)) := .new k6 (by omega)
   have k10 := k7.new (b := nx1 + 1 + 4) (nx' := nx1 + 1 + 12) (by omega) (by omega) []
   have n10 : Sub _ (gup (nx1 + 1 + 4) (some []) (gup (nx1 + 1 + 0) (some []) (gup nx1 (some [iv fs[i].f,iv fs[i].pc,lv,sv]) Γ1))) := .new k7 (by omega)
   have f7 : gup (nx1 + 1 + 0) (some []) (gup nx1 (some [iv fs[i].f,iv fs[i].pc,lv,sv]) Γ1) nx1 = some [iv fs[i].f,iv fs[i].pc,lv,sv] := n7 _ _ (qc _ _ _)
   have f10 := n10 _ _ f7
   have g1 : ld1 (newB (nx1 + 1 + 0) [] H6) (.ptr nx1 2) = some lv := by rw [k7.ld1 f7]; rfl
   have g2 : ld1 (newB (nx1 + 1 + 4) [] (newB (nx1 + 1 + 0) [] H6)) (.ptr nx1 3) = some sv := by rw [k10.ld1 f10]; rfl
   have g3 : ld1 (newB (nx1 + 1 + 4) [] (newB (nx1 + 1 + 0) [] H6)) (.ptr nx1 2) = some lv := by rw [k10.ld1 f10]; rfl
   have t10 : Sub Γ1 _ := (n6.trans n7).trans n10
   obtain ⟨v17,H18,i19,Γ18,q1,q2,k18,n18,r1,z1⟩ := ZT (b := nx1 + 1 + 0) (l := fs[i].ls) k10 (by rw [qe (by omega),qc]) hls
   have f18 := n18 _ _ f10
   have g4 : ld1 H18 (.ptr nx1 3) = some sv := by rw [k18.ld1 f18]; rfl
   obtain ⟨v24,H25,i26,Γ25,q3,q4,k25,n25,r2,z2⟩ := ZT (b := nx1 + 1 + 4) (l := fs[i].st) k18 (n18 _ _ (qc _ _ _)) hst
   have f25 := n25 _ _ f18
   obtain ⟨H27,s27,k27⟩ := k25.st (off := 2) (vs := [v17]) f25 (by simp) (by simp [qo,r1.cell])
   obtain ⟨H29,s29,k29⟩ := k27.st (off := 3) (vs := [v24]) (qc _ _ _) (by simp [qC]) (by simp [qo,r2.cell])
   rw [vh] at k29
   have e29 : qC (qC [iv fs[i].f,iv fs[i].pc,lv,sv] 2 [v17]) 3 [v24] = [iv fs[i].f,iv fs[i].pc,v17,v24] := rfl
   rw [e29] at k29
   have g5 : ldN H29 4 (.ptr nx1 0) = some (.agg [iv fs[i].f,iv fs[i].pc,v17,v24]) := by rw [k29.ldN (qc _ _ _) (by simp)]; rfl
   have k34 := k29.new (b := i26) (nx' := i26 + 1) (Nat.le_refl _) (by omega) [iv fs[i].f,iv fs[i].pc,v17,v24]
   have g6 : aSrc 4 (newB i26 [iv fs[i].f,iv fs[i].pc,v17,v24] H29) (.slice i26 0 1 4 true) = some (1,[iv fs[i].f,iv fs[i].pc,v17,v24]) := by rw [k34.src (qc _ _ _) (by simp)]; rfl
   have hkeep : ∀ c ds,c ≠ nx1 → Γ25 c = some ds → gup i26 (some [iv fs[i].f,iv fs[i].pc,v17,v24]) (gup nx1 (some [iv fs[i].f,iv fs[i].pc,v17,v24]) Γ25) c = some ds := fun c ds hc e => by
    have := k25.lt e
    rw [qe (by omega),qe hc]; exact e
   have low : ∀ c ds,Γ1 c = some ds → c < nx1 + 1 ∧ gup i26 (some [iv fs[i].f,iv fs[i].pc,v17,v24]) (gup nx1 (some [iv fs[i].f,iv fs[i].pc,v17,v24]) Γ25) c = some ds := fun c ds e => by
    have := hk1.lt e
    exact ⟨by omega,hkeep c ds (by omega) (n25 _ _ (n18 _ _ (t10 _ _ e)))⟩
   have w1 := r1.mono (Γ' := gup i26 (some [iv fs[i].f,iv fs[i].pc,v17,v24]) (gup nx1 (some [iv fs[i].f,iv fs[i].pc,v17,v24]) Γ25)) (lo' := nx1 + 1) (hi' := i26 + 1) (by omega) (by omega) fun c ds h1 h2 e => hkeep c ds (by omega) (n25 _ _ e)
   have w2 := r2.mono (Γ' := gup i26 (some [iv fs[i].f,iv fs[i].pc,v17,v24]) (gup nx1 (some [iv fs[i].f,iv fs[i].pc,v17,v24]) Γ25)) (lo' := nx1 + 1) (hi' := i26 + 1) (by omega) (by omega) fun c ds h1 h2 e => hkeep c ds (by omega) e
   obtain ⟨o',H38,Γ38,q5,q6,q7⟩ := Laid.add (f := fs[i]) ⟨hsub,ho⟩ low (by omega) (by omega) (hk.non (by omega)) k34 (by rw [List.length_take]; omega) w1 w2 (by have := r1.blk; omega)
   have ew : IntKind.i64.wrap ((i : Int) + 1) = ((i + 1 : Nat) : Int) := by rw [qP (by omega) (by omega)]; omega
   have et : fs.take (i + 1) = fs.take i ++ [fs[i]] := by rw [List.take_add_one,List.getElem?_eq_getElem hlt']; rfl
   refine ⟨by omega,p,by rw [Int.toNat_natCast]; exact p1,_,_,_,_,p2,_,rfl,H6,s6,_,rfl,_,rfl,_,g1,_,rfl,_,rfl,_,g2,⟨⟨_,g3,rfl⟩,⟨_,g2,rfl⟩,trivial⟩,_,_,(p3.mono t10).src k10,vS _,_,_,_,q1,_,rfl,⟨⟨_,g4,rfl⟩,trivial⟩,
    _,_,(p4.mono (t10.trans n18)).src k18,vS _,_,_,_,q3,trivial,r1.cell,_,s27,_,rfl,trivial,r2.cell,_,s29,trivial,_,_,_,_,g5,_,rfl,_,_,g6,by simp [qo,r1.cell,r2.cell]; rfl,_,_,_,q5,?_⟩
   refine ⟨trivial,fs.length - (i + 1),(i + 1,o'),by omega,qI.of_list ⟨?_,rfl,rfl,rfl,trivial⟩,rfl,by show i + 1 ≤ _; omega,by omega,Γ38,q6,by rw [et]; exact q7⟩
   show AVal.int .i64 _ = _
   rw [ew]
  ·have : i = fs.length := by omega
   subst this
   rw [List.take_of_length_le (Nat.le_refl _)] at ho
   exact ⟨trivial,o,qI.of_list (by exact ⟨rfl,trivial⟩),trivial,h1,Γ1,hk1,hsub,ho⟩
 ·rintro id o H1 nx1 ⟨rfl,h1,Γ1,hk1,hsub,ho⟩
  rw [qg4]
  rcases ho with ⟨_,hx⟩ | ⟨bb,rfl,h2,h3,h4⟩
  ·exact absurd hx h0
  ·exact hK _ _ _ _ h1 h4 hk1 hsub h2
theorem qac {Γ : GH} {H : Heap} {nx : Nat} {v : AVal} {fs : List Fm} {K : EndP} (hk : HOK Γ H nx) (hv : FrIn Γ v fs) (hl : fs.length < 1000) (h0 : fs ≠ []) (hs : ∀ f,f ∈ fs → f.ls.length < 1000000 ∧ f.st.length < 1000000)
  (hK : ∀ H' Γ' nx' bb,nx ≤ nx' → nx ≤ bb → HOK Γ' H' nx' → Sub Γ Γ' → FrC Γ' nx bb fs → K (.ret (.slice bb 0 fs.length 4 false)) H' nx') : TriP Tryz.prog 23 [v] H nx K := by
 refine TriP.of_body qw ?_
 rw [XD]
 unfold qar
 have hlen : lenS v = some fs.length := by obtain ⟨b,full,cs,rfl,_⟩ := hv; rfl
 refine KS (P := Tryz.prog) (X := Nat × AVal) (Y := AVal) (fun p => envL .und [(4,iv p.1),(3,p.2),(2,.nilSlice),(0,v)]) (fun o => envL .und [(3,o)])
  (fun m p H1 nx1 => m = fs.length - p.1 ∧ p.1 ≤ fs.length ∧ nx ≤ nx1 ∧ ∃ Γ1,HOK Γ1 H1 nx1 ∧ Laid Γ nx Γ1 p.2 (fs.take p.1))
  (fun id o H1 nx1 => id = 0 ∧ nx ≤ nx1 ∧ ∃ Γ1,HOK Γ1 H1 nx1 ∧ Laid Γ nx Γ1 o fs) fs.length (0,.nilSlice) (qI.of_list (by exact ⟨rfl,rfl,rfl,rfl,trivial⟩))
  ⟨rfl,Nat.zero_le _,Nat.le_refl _,Γ,hk,.refl _,.inl ⟨rfl,rfl⟩⟩ ?_ ?_
 ·rintro m ⟨i,o⟩ H1 nx1 ⟨rfl,hi,h1,Γ1,hk1,hsub,ho⟩
  dsimp only at hi ho ⊢
  refine WpP.trim (ts := [4,3,2,0]) (WpP.weaken (e := envL .und [(4,iv i),(3,o),(2,.nilSlice),(0,v)]) (qI.refl _) (WpP.of_vK qw ?_))
  rw [qga]
  unfold RCl
  refine ⟨_,hlen,?_⟩
  rw [qS]; simp only [decide_eq_true_eq,decide_eq_false_iff_not,Int.ofNat_eq_natCast]
  refine ⟨fun hlt => ?_,fun hge => ?_⟩
  ·have hlt' : i < fs.length := by omega
   obtain ⟨p,lv,sv,p1,p2,p3,p4,p5,p6⟩ := YE hk1 (hv.mono hsub) hlt'
   have hf : fs[i] ∈ fs := List.getElem_mem hlt'
   obtain ⟨hls,hst⟩ := hs _ hf
   have k5 := hk1.new (b := nx1) (nx' := nx1 + 1) (Nat.le_refl _) (by omega) [iv 0,iv 0,.nilSlice,.nilSlice]
   obtain ⟨H6,s6,k6⟩ := k5.st (off := 0) (vs := [iv fs[i].f,iv fs[i].pc,lv,sv]) (qc _ _ _) (by simp) (by simp [qo,p5,p6]; rfl)
   rw [show qC [iv 0,iv 0,AVal.nilSlice,.nilSlice] 0 [iv fs[i].f,iv fs[i].pc,lv,sv] = [iv fs[i].f,iv fs[i].pc,lv,sv] from rfl,vh] at k6
   have n6 : Sub Γ1 (gup nx1 (some [iv fs[i].f,iv fs[i].pc,lv,sv]) Γ1) := .new hk1 (Nat.le_refl _)
   have k7 := k6.new (b := nx1 + 1) (nx' := nx1 + 1 + 1) (by omega) (by omega) []
   have n7 : Sub _ (gup (nx1 + 1) (some []) (gup nx1 (some [iv fs[i].f,iv fs[i].pc,lv,sv]) Γ1)) := .new k6 (by omega)
   have f7 : gup (nx1 + 1) (some []) (gup nx1 (some [iv fs[i].f,iv fs[i].pc,lv,sv]) Γ1) nx1 = some [iv fs[i].f,iv fs[i].pc,lv,sv] := n7 _ _ (qc _ _ _)
   have g1 : ld1 (newB (nx1 + 1) [] H6) (.ptr nx1 2) = some lv := by rw [k7.ld1 f7]; rfl
   have t7 : Sub Γ1 _ := n6.trans n7
   obtain ⟨v13,H14,i15,Γ14,q1,q2,k14,n14,r1,z1⟩ := ZT (b := nx1 + 1) (l := fs[i].ls) k7 (qc _ _ _) hls
   have f14 := n14 _ _ f7
   obtain ⟨H17,s17,k17⟩ := k14.st (off := 2) (vs := [v13]) f14 (by simp) (by simp [qo,r1.cell])
   rw [show qC [iv fs[i].f,iv fs[i].pc,lv,sv] 2 [v13] = [iv fs[i].f,iv fs[i].pc,v13,sv] from rfl] at k17
   have k18 := k17.new (b := i15) (nx' := i15 + 1) (Nat.le_refl _) (by omega) []
   have hk17 : ∀ c ds,c ≠ nx1 → Γ14 c = some ds → gup i15 (some []) (gup nx1 (some [iv fs[i].f,iv fs[i].pc,v13,sv]) Γ14) c = some ds := fun c ds hc e => by
    have := k14.lt e
    rw [qe (by omega),qe hc]; exact e
   have f18 : gup i15 (some []) (gup nx1 (some [iv fs[i].f,iv fs[i].pc,v13,sv]) Γ14) nx1 = some [iv fs[i].f,iv fs[i].pc,v13,sv] := by rw [qe (by omega),qc]
   have g2 : ld1 (newB i15 [] H17) (.ptr nx1 3) = some sv := by rw [k18.ld1 f18]; rfl
   have p4' : SrcV (gup i15 (some []) (gup nx1 (some [iv fs[i].f,iv fs[i].pc,v13,sv]) Γ14)) sv 1 fs[i].st.length (uvs fs[i].st) := p4.mono fun c ds e => hk17 c ds (by have := hk1.lt e; omega) (n14 _ _ (t7 _ _ e))
   obtain ⟨v23,H24,i25,Γ24,q3,q4,k24,n24,r2,z2⟩ := ZT (b := i15) (l := fs[i].st) k18 (qc _ _ _) hst
   have f24 := n24 _ _ f18
   obtain ⟨H27,s27,k27⟩ := k24.st (off := 3) (vs := [v23]) f24 (by simp) (by simp [qo,r2.cell])
   rw [show qC [iv fs[i].f,iv fs[i].pc,v13,sv] 3 [v23] = [iv fs[i].f,iv fs[i].pc,v13,v23] from rfl] at k27
   have g5 : ldN H27 4 (.ptr nx1 0) = some (.agg [iv fs[i].f,iv fs[i].pc,v13,v23]) := by rw [k27.ldN (qc _ _ _) (by simp)]; rfl
   have k32 := k27.new (b := i25) (nx' := i25 + 1) (Nat.le_refl _) (by omega) [iv fs[i].f,iv fs[i].pc,v13,v23]
   have g6 : aSrc 4 (newB i25 [iv fs[i].f,iv fs[i].pc,v13,v23] H27) (.slice i25 0 1 4 true) = some (1,[iv fs[i].f,iv fs[i].pc,v13,v23]) := by rw [k32.src (qc _ _ _) (by simp)]; rfl
   have hkeep : ∀ c ds,c ≠ nx1 → Γ24 c = some ds → gup i25 (some [iv fs[i].f,iv fs[i].pc,v13,v23]) (gup nx1 (some [iv fs[i].f,iv fs[i].pc,v13,v23]) Γ24) c = some ds := fun c ds hc e => by
    have := k24.lt e
    rw [qe (by omega),qe hc]; exact e
   have low : ∀ c ds,Γ1 c = some ds → c < nx1 + 1 ∧ gup i25 (some [iv fs[i].f,iv fs[i].pc,v13,v23]) (gup nx1 (some [iv fs[i].f,iv fs[i].pc,v13,v23]) Γ24) c = some ds := fun c ds e => by
    have := hk1.lt e
    exact ⟨by omega,hkeep c ds (by omega) (n24 _ _ (hk17 c ds (by omega) (n14 _ _ (t7 _ _ e))))⟩
   have w1 := r1.mono (Γ' := gup i25 (some [iv fs[i].f,iv fs[i].pc,v13,v23]) (gup nx1 (some [iv fs[i].f,iv fs[i].pc,v13,v23]) Γ24)) (lo' := nx1 + 1) (hi' := i25 + 1) (by omega) (by omega) fun c ds h1 h2 e => hkeep c ds (by omega) (n24 _ _ (hk17 c ds (by omega) e))
   have w2 := r2.mono (Γ' := gup i25 (some [iv fs[i].f,iv fs[i].pc,v13,v23]) (gup nx1 (some [iv fs[i].f,iv fs[i].pc,v13,v23]) Γ24)) (lo' := nx1 + 1) (hi' := i25 + 1) (by omega) (by omega) fun c ds h1 h2 e => hkeep c ds (by omega) e
   obtain ⟨o',H38,Γ38,q5,q6,q7⟩ := Laid.add (f := fs[i]) ⟨hsub,ho⟩ low (by omega) (by omega) (hk.non (by omega)) k32 (by rw [List.length_take]; omega) w1 w2 (by have := r1.blk; omega)
   have ew : IntKind.i64.wrap ((i : Int) + 1) = ((i + 1 : Nat) : Int) := by rw [qP (by omega) (by omega)]; omega
   have et : fs.take (i + 1) = fs.take i ++ [fs[i]] := by rw [List.take_add_one,List.getElem?_eq_getElem hlt']; rfl
   refine ⟨by omega,p,by rw [Int.toNat_natCast]; exact p1,_,_,_,_,p2,_,rfl,H6,s6,_,rfl,_,rfl,_,g1,_,_,(p3.mono t7).src k7,vS _,_,_,_,q1,_,rfl,r1.cell,_,s17,_,rfl,_,rfl,_,g2,_,_,p4'.src k18,vS _,_,_,_,q3,_,rfl,r2.cell,_,s27,
    _,_,_,_,g5,_,rfl,_,_,g6,by simp [qo,r1.cell,r2.cell]; rfl,_,_,_,q5,?_⟩
   refine ⟨trivial,fs.length - (i + 1),(i + 1,o'),by omega,qI.of_list ⟨?_,rfl,rfl,rfl,trivial⟩,rfl,by show i + 1 ≤ _; omega,by omega,Γ38,q6,by rw [et]; exact q7⟩
   show AVal.int .i64 _ = _
   rw [ew]
  ·have : i = fs.length := by omega
   subst this
   rw [List.take_of_length_le (Nat.le_refl _)] at ho
   exact ⟨trivial,o,qI.of_list (by exact ⟨rfl,trivial⟩),trivial,h1,Γ1,hk1,hsub,ho⟩
 ·rintro id o H1 nx1 ⟨rfl,h1,Γ1,hk1,hsub,ho⟩
  rw [qgw]
  rcases ho with ⟨_,hx⟩ | ⟨bb,rfl,h2,h3,h4⟩
  ·exact absurd hx h0
  ·exact hK _ _ _ _ h1 h4 hk1 hsub h2
end Go.Vs
end
