/-
  Own work. A program of several functions: the same as MSrc, and each function's locals and heights.
-/
import Derived.Test.YtnkeadjkckpknaaGreatDoorDps6
import Derived.Test.YtnkeadjkckpknaaGreatDoorDps4
set_option linter.unusedSectionVars false
set_option linter.unusedVariables false
set_option linter.unusedSimpArgs false
set_option maxRecDepth 1000000
namespace Go.Vs
open Go Go.Proofs Go.Bridge Go.Proofs.YtnkeadjkckpknaaGreatDoor
def locB : List Ev.AVal → List Nat → Bool
 | _, [] => true
 | _ :: _ :: _ :: lv :: _ :: r, n :: ls => SrcB.lenB lv n && locB r ls
 | _, _ => false
theorem lenB_ok [Ev.GTab] [GTab] {ψ : Nat → Nat} {v : Ev.AVal} {n : Nat} (h : SrcB.lenB v n = true) : lenS (tr2 ψ v) = some n := by
 unfold SrcB.lenB at h
 split at h
 ·rw [Nat.eq_of_beq_eq_true h]; rfl
 ·rw [← Nat.eq_of_beq_eq_true h]; rfl
 ·cases h
theorem locB_ok [Ev.GTab] [GTab] {ψ : Nat → Nat} : ∀ {r : List Ev.AVal} {ls : List Nat}, locB r ls = true → ∀ i n, ls[i]? = some n → ∃ lv, (r.map (tr2 ψ))[i * 5 + 3]? = some lv ∧ lenS lv = some n
 | r, [], _, i, n, hn => by simp at hn
 | r, m :: ls, h, i, n, hn => by
  unfold locB at h
  split at h <;> try (cases h; done)
  ·rename_i e; cases e
  rename_i lv f r' m' ls' e
  cases e
  rw [Bool.and_eq_true] at h
  cases i with
  | zero =>
   simp at hn; subst hn
   exact ⟨_, rfl, lenB_ok h.1⟩
  | succ i =>
   obtain ⟨lv', a1, a2⟩ := locB_ok (ψ := ψ) h.2 i n (by simpa using hn)
   refine ⟨lv', ?_, a2⟩
   rw [show (i + 1) * 5 + 3 = i * 5 + 3 + 1 + 1 + 1 + 1 + 1 by omega]
   exact a1
structure FnsV [GTab] (Γ : GH) (v : AVal) (l : List (List Ins)) (ls : List Nat) : Prop where
 funcs : ∃ b e full cs, v = .slice b 0 l.length e full ∧ Γ b = some cs ∧ (∀ i c, l[i]? = some c → ∃ cb ce cf, cs[i * 5 + 4]? = some (.slice cb 0 c.length ce cf) ∧ Γ cb = some (wg c)) ∧
  ∀ i n, ls[i]? = some n → i < l.length ∧ ∃ lv, cs[i * 5 + 3]? = some lv ∧ lenS lv = some n
structure CodeIn [GTab] (Γ : GH) (v : AVal) (code : j0) : Prop where
 instr : ∀ f pc x, x.1 ≠ 37 → code f pc = some x → j7 Γ v f pc = some x
 locals : ∀ f x, code f (-1) = some x → jv Γ v f = some x.2.1.toNat
theorem FnsV.ok [GTab] {Γ : GH} {v : AVal} {l : List (List Ins)} {ls : List Nat} (h : FnsV Γ v l ls) : CodeIn Γ v (Deep.codeD l ls) := by
 refine ⟨fun f pc x h37 hx => ?_, fun f x hx => ?_⟩
 ·unfold Deep.codeD at hx
  split at hx
  ·split at hx <;> try (cases hx; done)
   split at hx <;> cases hx
   exact absurd rfl h37
  ·obtain ⟨b, e, full, cs, h1, h2, h3, _⟩ := h.funcs
   unfold qe2 at hx
   split at hx
   ·rename_i h0
    split at hx
    ·rename_i c hc
     obtain ⟨cb, ce, cf, h4, h5⟩ := h3 _ _ hc
     have hf : f.toNat < l.length := (List.getElem?_eq_some_iff.1 hc).1
     have hp : pc.toNat < c.length := (List.getElem?_eq_some_iff.1 hx).1
     have h6 := QC hx
     unfold j7
     rw [h1]
     dsimp only
     rw [if_pos ⟨h0.1, by omega⟩, h2]
     dsimp only
     rw [Nat.zero_add, h4]
     dsimp only
     rw [if_pos ⟨h0.2, by omega⟩, h5]
     dsimp only
     rw [Nat.zero_add, h6]
    ·cases hx
   ·cases hx
 ·unfold Deep.codeD at hx
  rw [if_pos rfl] at hx
  split at hx <;> try (cases hx; done)
  rename_i h0
  split at hx <;> cases hx
  rename_i n hn
  obtain ⟨b, e, full, cs, h1, h2, _, h4⟩ := h.funcs
  obtain ⟨h5, lv, h6, h7⟩ := h4 _ _ hn
  unfold jv
  rw [h1]
  dsimp only
  rw [if_pos ⟨h0, by omega⟩, h2]
  dsimp only
  rw [Nat.zero_add, h6]
  dsimp only
  rw [h7]; simp
theorem numsV_ok [GTab] {Γ0 : GH} {v : AVal} {ns : List Int} (h : ∃ b e full, v = .slice b 0 ns.length e full ∧ Γ0 b = some (ns.map iv)) (k n : Int) (hk : Kf ns k = some n) : kq Γ0 v k = some n := by
 unfold Kf at hk
 split at hk
 ·obtain ⟨b, e, full, h1, h2⟩ := h
  have hf : k.toNat < ns.length := (List.getElem?_eq_some_iff.1 hk).1
  unfold kq
  rw [h1]
  dsimp only
  rw [if_pos ⟨by assumption, by omega⟩, h2]
  dsimp only
  rw [Nat.zero_add, List.getElem?_map, hk]
  rfl
 ·cases hk
def HtsOK [GTab] (Γ : GH) (p : AVal) (hs : List (List Int)) : Prop :=
 ∀ (f : Nat) (h : List Int), hs[f]? = some h → ∀ Γ1 H nx K, Sub Γ Γ1 → HOK Γ1 H nx → (∀ H' Γ' nx' b fl, nx ≤ nx' → HOK Γ' H' nx' → Sub Γ1 Γ' → Γ' b = some (h.map iv) → K (.ret (.tuple [.slice b 0 h.length 1 fl, .bool true])) H' nx') →
  TriP Tryz.prog 36 [p, iv f] H nx K
theorem HtsOK.mono [GTab] {Γ Γ' : GH} {p : AVal} {hs : List (List Int)} (h : HtsOK Γ p hs) (hs' : Sub Γ Γ') : HtsOK Γ' p hs := fun f x hf Γ1 H nx K s hk hK => h f x hf Γ1 H nx K (hs'.trans s) hk hK
theorem codeOK_D [GTab] {Γ : GH} {pg : Pg} {l : List (List Ins)} {ls : List Nat} {ns : List Int} (h : FnsV Γ pg.funcs l ls) (hn : ∃ b e full, pg.nums = .slice b 0 ns.length e full ∧ Γ b = some (ns.map iv)) : CodeOK (Deep.codeD l ls) (Kf ns) Γ pg :=
 ⟨h.ok.instr, numsV_ok hn, h.ok.locals⟩
def SrcOKD [GTab] (s : List UInt8) (code : List (List Ins)) (ls : List Nat) (hs : List (List Int)) (nums : Int → Option Int) (nl : Nat) (main : Int) : Prop :=
 ∀ Γ H nx K, HOK Γ H nx → (∀ H' Γ' nx' p0 p1 p4, nx ≤ nx' → HOK Γ' H' nx' → (∀ c ds, Γ c = some ds → Γ' c = some ds) → Kh Γ' H' nx' p0 p1 p4 main (Deep.codeD code ls) nums nl → CodeIn Γ' p1 (Deep.codeD code ls) →
   HtsOK Γ' (.agg [p0, p1, iv main, .nilSlice, p4]) hs → K (.ret (.tuple [.agg [p0, p1, iv main, .nilSlice, p4], .agg [iv 0, iv 0], iv 0])) H' nx') →
  TriP Tryz.prog 14 [.str s] H nx K
structure HtB where
 objs : List (List Ev.AVal)
 rn : List Nat
 b : Nat
 fl : Bool
 h : List Int
section
variable [Ev.GTab] [Ev.SymC Tryz.prog 202 25] [GTab]
noncomputable def HtB.okB (s : SrcB) (x : HtB) : Bool :=
 Nat.ble x.objs.length 1000 && Ev.vz (List.range s.objs.length ++ x.rn) && Nat.ble s.objs.length x.b && (match x.objs[x.b - s.objs.length]? with | some c => VK c x.h | none => false)
def HtB.v (x : HtB) : Ev.AVal := .tuple [.slice x.b 0 x.h.length 1 x.fl, .bool true]
noncomputable def okD (s : SrcB) (ls : List Nat) : Bool :=
 (match s.objs2[s.fb2 - s.objs.length]? with | some c => locB c ls | none => false) && (match s.objs[s.fb]? with | some c => locB c ls && fnsB s.objs 0 c s.code | none => false) && Nat.beq s.nf s.code.length && Nat.beq ls.length s.code.length
theorem src_okD (hg0 : ∀ q, Ev.GTab.tab q = none) (hg1 : ∀ q o', Ev.GTab.blk q = some o' → GTab.blk q = some o') (s : SrcB) (ls : List Nat) (hx : List HtB) {sl sn : Nat} {n1 n2 n3 n4 : Nat} (ok : s.okB = true) (okd : okD s ls = true) (hpb : (s.p.all (WW s.objs.length)) = true)
  (r1 : runJ Tryz.prog w0 14 n1 [.str sl sn] [] s.objs s.rn (.tuple [.agg s.p, .agg [.int .i64 0, .int .i64 0], .int .i64 0]) = true)
  (r2 : runJ Tryz.prog w0 28 n2 [.agg s.p] s.objs [] (List.range s.objs.length) (.tuple [.agg [.int .i64 0, .int .i64 0], .int .i64 0]) = true)
  (r3 : runJ Tryz.prog w0 29 n3 [.agg s.p] s.objs s.objs2 (List.range s.objs.length ++ s.rn2) (.agg s.q) = true)
  (r4 : ∀ (f : Nat) (x : HtB), hx[f]? = some x → x.okB s = true ∧ runJ Tryz.prog w0 36 n4 [.agg s.p, .int .i64 f] s.objs x.objs (List.range s.objs.length ++ x.rn) x.v = true) (hsn : sn < 256 ^ sl) :
  SrcOKD (Ev.digs sl sn) s.code ls (hx.map HtB.h) (Kf s.nums) s.nl s.main := by
 unfold SrcB.okB at ok
 simp only [Bool.and_eq_true] at ok
 obtain ⟨⟨⟨⟨⟨⟨⟨⟨⟨⟨⟨⟨⟨⟨⟨⟨⟨⟨o1, o2⟩, o3⟩, o4⟩, o5⟩, o6⟩, o7⟩, o8⟩, o9⟩, o10⟩, o11⟩, o12⟩, o13⟩, o14⟩, o15⟩, o16⟩, o17⟩, o18⟩, o19⟩ := ok
 have l19 := Nat.le_of_ble_eq_true o19
 unfold okD at okd
 simp only [Bool.and_eq_true] at okd
 obtain ⟨⟨⟨d1, d2⟩, d3⟩, d4⟩ := okd
 have e3 := Nat.eq_of_beq_eq_true d3
 have e4 := Nat.eq_of_beq_eq_true d4
 have l1 := Nat.le_of_ble_eq_true o1
 have l2 := Nat.le_of_ble_eq_true o2
 have l8 := Nat.le_of_ble_eq_true o8
 have l9 := Nat.le_of_ble_eq_true o9
 have l10 := Nat.le_of_ble_eq_true o10
 have l11 := Nat.le_of_ble_eq_true o11
 have l15 := Nat.le_of_ble_eq_true o15
 have l16 := Nat.le_of_ble_eq_true o16
 rw [List.all_eq_true] at hpb
 intro Γ H nx K hk hK
 refine Kg (objs0 := []) (objs1 := s.objs) (φ := fun b => b) qw VA (by simp) rfl (fun b hb => by simp at hb) (fun b c hb => by simp at hb) (fun i c h => by simp at h) (fun σ w h => QE hg0 hg1 h) ?_ rfl o4 r1 ?_
 ·intro σ args' h
  cases h with
  | cons h1 t1 => cases t1; cases h1; exact .cons (.str sl sn hsn) .nil
 let φ : Nat → Nat := fun i => nx + i
 have eφ : psi ([] : List (List Ev.AVal)).length nx (fun b => b) = φ := by funext b; simp [psi, φ]
 rw [eφ]
 have k1 := Xb (ψ := φ) (objs := s.objs) hk
 have sub1 : ∀ c ds, Γ c = some ds → addG Γ φ nx s.objs c = some ds := fun c ds ec => by rw [vg (hk.lt ec)]; exact ec
 have eU : trU φ (.tuple [.agg s.p, .agg [.int .i64 0, .int .i64 0], .int .i64 0]) = .tuple [.agg [.slice (φ s.tb) 0 s.nt 5 s.tf, .slice (φ s.fb) 0 s.nf 5 s.ff, iv s.main, .nilSlice, tr2 φ s.p4], .agg [iv 0, iv 0], iv 0] := rfl
 rw [eU]
 have eP : s.p.map (tr2 φ) = [.slice (φ s.tb) 0 s.nt 5 s.tf, .slice (φ s.fb) 0 s.nf 5 s.ff, iv s.main, .nilSlice, tr2 φ s.p4] := rfl
 have hat : ∀ i c, s.objs[i]? = some c → addG Γ φ nx s.objs (φ i) = some (c.map (tr2 φ)) := fun i c h => by show addG Γ φ nx s.objs (nx + i) = _; rw [QJ, h]; rfl
 have hargs : ∀ (σ : Sg) args', DenL σ [.agg [.slice (φ s.tb) 0 s.nt 5 s.tf, .slice (φ s.fb) 0 s.nf 5 s.ff, iv s.main, .nilSlice, tr2 φ s.p4]] args' → Ev.DenL (sg0 s.objs.length φ σ) [.agg s.p] args' := by
  intro σ args' h
  rw [← eP] at h
  cases h with
  | cons h1 t1 =>
   cases t1
   cases h1 with
   | agg h2 => exact .cons (.agg (Z1 (fun b p hb hs => by rw [Jb hb]; exact hs) (fun v hv => vA (hpb v hv)) h2)) .nil
 refine hK _ _ _ _ _ _ (by omega) k1 sub1 ⟨fun H' nx' => (∀ i c, s.objs[i]? = some c → H' (φ i) = some (.cells c.length (c.map (tr2 φ)) [] false)) ∧ nx + s.objs.length ≤ nx', φ s.fb, 0, s.nf, 5, s.nt, s.ff, rfl, ?_, ?_, ?_, ?_, ?_, by omega, by omega, by omega, ?_, rfl, JL o12⟩ ?_ ?_
 ·rintro H1 H2 n1 n2 ⟨h1, h2⟩ hs hn
  refine ⟨fun i c hc => ?_, by omega⟩
  have hi := (List.getElem?_eq_some_iff.1 hc).1
  rw [hs _ (by show nx + i < n1; omega)]; exact h1 i c hc
 ·rintro H1 n1 K1 ⟨h1, h2⟩ hK1
  refine Kg (objs0 := s.objs) (objs1 := []) (φ := φ) qw VA (by omega) o3 (fun b hb => by show nx + b < n1; omega) (fun b c hb hc e => by have e' : nx + b = nx + c := e; omega) h1 (fun σ w h => QE hg0 hg1 h) hargs
   (by rw [List.take_of_length_le (by simp)]) ?_ r2 ?_
  ·exact nodup_range _
  ·exact hK1 _ fun b hb => KH hb
 ·rintro H1 n1 Γ1 K1 ⟨h1, h2⟩ hk1 hK1
  refine Kg (objs0 := s.objs) (objs1 := s.objs2) (φ := φ) qw VA (by omega) o3 (fun b hb => by show nx + b < n1; omega) (fun b c hb hc e => by have e' : nx + b = nx + c := e; omega) h1 (fun σ w h => QE hg0 hg1 h) hargs
   (by rw [List.take_append_of_le_length (by simp), List.take_of_length_le (by simp)]) o5 r3 ?_
  have k2 := Xb (ψ := psi s.objs.length n1 φ) (objs := s.objs2) hk1
  have eV : trU (psi s.objs.length n1 φ) (.agg s.q) = .agg [tr2 (psi s.objs.length n1 φ) s.q0, .slice (psi s.objs.length n1 φ s.fb2) 0 s.code.length 5 s.ff2, iv s.main, tr2 (psi s.objs.length n1 φ) s.q3, .slice (psi s.objs.length n1 φ s.nb2) 0 s.nums.length 1 s.nf2] := rfl
  rw [eV]
  refine hK1 _ _ _ (fun c => if n1 ≤ c then (s.objs2[c - n1]?).map (fun c => c.map (tr2 (psi s.objs.length n1 φ))) else none) _ _ _ _ (by omega) k2 (fun c ds ec => by rw [vg (hk1.lt ec)]; exact ec) (fun c ds ec => ?_) ⟨fun c ds ec => ?_, fun p2 w fb => codeOK_D ⟨?_⟩ ?_, fun b off len e full e' => by cases e'; omega, JL o13, rfl, JL o14, rfl⟩
  ·have ec' : (if n1 ≤ c then (s.objs2[c - n1]?).map (fun c => c.map (tr2 (psi s.objs.length n1 φ))) else none) = some ds := ec
   split at ec'
   ·obtain ⟨i, rfl⟩ : ∃ i, c = n1 + i := ⟨c - n1, by omega⟩
    rw [QJ]
    rw [show n1 + i - n1 = i by omega] at ec'; exact ec'
   ·cases ec'
  ·have ec' : (if n1 ≤ c then (s.objs2[c - n1]?).map (fun c => c.map (tr2 (psi s.objs.length n1 φ))) else none) = some ds := ec
   split at ec'
   ·refine ⟨by assumption, ?_⟩
    cases hq : s.objs2[c - n1]? with
    | none => rw [hq] at ec'; cases ec'
    | some x => have := (List.getElem?_eq_some_iff.1 hq).1; omega
   ·cases ec'
  ·cases hq : s.objs2[s.fb2 - s.objs.length]? with
   | none => rw [hq] at o17; cases o17
   | some fc =>
    rw [hq] at o17
    refine ⟨psi s.objs.length n1 φ s.fb2, 5, s.ff2, fc.map (tr2 (psi s.objs.length n1 φ)), rfl, ?_, fun i c hc => ?_, fun i n hn => ⟨by have := (List.getElem?_eq_some_iff.1 hn).1; omega, locB_ok (by rw [hq] at d1; exact d1) i n hn⟩⟩
    ·rw [QW l15]
     simp only [show n1 ≤ n1 + (s.fb2 - s.objs.length) by omega, if_true, show n1 + (s.fb2 - s.objs.length) - n1 = s.fb2 - s.objs.length by omega, hq, Option.map_some]
    ·obtain ⟨cb, ce, cf, a1, a2, x, a3, a4⟩ := Kq (ψ := psi s.objs.length n1 φ) o17 i c hc
     refine ⟨psi s.objs.length n1 φ cb, ce, cf, a1, ?_⟩
     rw [QW a2]
     simp only [show n1 ≤ n1 + (cb - s.objs.length) by omega, if_true, show n1 + (cb - s.objs.length) - n1 = cb - s.objs.length by omega, a3, Option.map_some, a4]
  ·cases hq : s.objs2[s.nb2 - s.objs.length]? with
   | none => rw [hq] at o18; cases o18
   | some nc =>
    rw [hq] at o18
    refine ⟨psi s.objs.length n1 φ s.nb2, 1, s.nf2, rfl, ?_⟩
    rw [QW l16]
    simp only [show n1 ≤ n1 + (s.nb2 - s.objs.length) by omega, if_true, show n1 + (s.nb2 - s.objs.length) - n1 = s.nb2 - s.objs.length by omega, hq, Option.map_some, JI o18]
 ·refine ⟨fun i c hc => ?_, by simp⟩
  show layV φ nx s.objs H (nx + i) = _
  rw [ZR, hc]; rfl
 ·refine ⟨by omega, φ s.fb, 0, s.nf, 5, s.ff, ?_⟩
  cases hq : s.objs[s.fb]? with
  | none => rw [hq] at o7; cases o7
  | some fc =>
   rw [hq] at o7
   dsimp only at o7
   cases hv : fc[s.main * 5 + 3]? with
   | none => rw [hv] at o7; cases o7
   | some v =>
    rw [hv] at o7
    refine ⟨fc.map (tr2 φ), tr2 φ v, rfl, by omega, hat _ _ hq, ?_, ?_⟩
    ·rw [Int.toNat_natCast, Nat.zero_add, List.getElem?_map, hv]; rfl
    ·dsimp only at o7
     unfold SrcB.lenB at o7
     split at o7
     ·rw [Nat.eq_of_beq_eq_true o7]; rfl
     ·rw [← Nat.eq_of_beq_eq_true o7]; rfl
     ·cases o7
 ·cases hq : s.objs[s.tb]? with
  | none => rw [hq] at o6; cases o6
  | some tc =>
   rw [hq] at o6
   exact ⟨by omega, φ s.tb, s.tf, tc.map (tr2 φ), rfl, hat _ _ hq, W9 o6⟩
 ·cases hq : s.objs[s.fb]? with
  | none => rw [hq] at d2; cases d2
  | some fc =>
   rw [hq] at d2
   dsimp only at d2
   rw [Bool.and_eq_true] at d2
   refine FnsV.ok (l := s.code) (ls := ls) ⟨φ s.fb, 5, s.ff, fc.map (tr2 φ), by rw [e3], hat _ _ hq, fun i c hc => ?_, fun i n hn => ⟨by have := (List.getElem?_eq_some_iff.1 hn).1; omega, locB_ok d2.1 i n hn⟩⟩
   obtain ⟨cb, ce, cf, a1, _, x, a3, a4⟩ := Kq (ψ := φ) d2.2 i c hc
   exact ⟨φ cb, ce, cf, a1, by rw [hat _ _ (by simpa using a3), a4]⟩
 ·rintro f h hf Γ1 H1 n1 K1 hsub hk1 hK1
  rw [List.getElem?_map] at hf
  cases hxf : hx[f]? with
  | none => rw [hxf] at hf; cases hf
  | some x =>
   rw [hxf] at hf
   cases hf
   obtain ⟨k1, k2⟩ := r4 f x hxf
   unfold HtB.okB at k1
   simp only [Bool.and_eq_true] at k1
   obtain ⟨⟨⟨q1, q2⟩, q3⟩, q4⟩ := k1
   have q1' := Nat.le_of_ble_eq_true q1
   have q3' := Nat.le_of_ble_eq_true q3
   refine Vo (objs0 := s.objs) (objs1 := x.objs) (φ := φ) qw VA (by omega) o3 (fun b c hb hc e => by have e' : nx + b = nx + c := e; omega) hk1 (fun i c hc => hsub _ _ (hat i c hc)) (fun σ w h => QE hg0 hg1 h) ?_
    (by rw [List.take_append_of_le_length (by simp), List.take_of_length_le (by simp)]) q2 k2 ?_
   ·intro σ args' h
    cases h with
    | cons h1 t1 =>
     have hh := hargs σ _ (.cons h1 .nil)
     cases hh with
     | cons h2 t2 =>
      cases t1 with
      | cons h3 t3 => cases t3; cases h3; exact .cons h2 (.cons (.int _ _) .nil)
   ·intro H2 hk2
    have eV : trU (psi s.objs.length n1 φ) x.v = .tuple [.slice (psi s.objs.length n1 φ x.b) 0 x.h.length 1 x.fl, .bool true] := rfl
    rw [eV]
    refine hK1 _ _ _ _ _ (by omega) hk2 (fun c ds ec => by rw [vg (hk1.lt ec)]; exact ec) ?_
    rw [QW q3', QJ]
    cases hq : x.objs[x.b - s.objs.length]? with
    | none => rw [hq] at q4; cases q4
    | some c => rw [hq] at q4; rw [Option.map_some, JI q4]
end
end Go.Vs
