/-
  Own work. Texts of a proof, laid together; no condition.
-/
import Derived.Orders
import Derived.ChangeSame
import Derived.RowKit3
import Derived.Lib.Bytealg
import Derived.Lib.ItoaMem
import Derived.Test.YtnkeadjkckpknaaGreatDoorMem3
import Derived.Test.YtnkeadjkckpknaaGreatDoorMem2
set_option linter.unusedSectionVars false
set_option linter.unusedVariables false
set_option linter.unusedSimpArgs false
set_option maxRecDepth 1000000
section
namespace Go.Ev
variable [GTab] {P : Program} {H : Heap} {ops : Array Oper} {o : Oper} {env : Env}
noncomputable section
abbrev Fop := Env → St → FK → FX → Bool
inductive CF
 | no
 | yes (f : Fop)
inductive Fo | mk (f : Fop)
inductive Fl | mk (f : Nat → Env → St → FK → Bool)
inductive Ag | mk (f : Env → St → Bool)
inductive Co | mk (f : Env → St → FX → Bool)
inductive Sf | mk (f : Nat → Env → Env → St → FX → Bool)
def Fo.fn : Fo → Fop | .mk f => f
def Fl.fn : Fl → Nat → Env → St → FK → Bool | .mk f => f
def Ag.fn : Ag → Env → St → Bool | .mk f => f
def Co.fn : Co → Env → St → FX → Bool | .mk f => f
def Sf.fn : Sf → Nat → Env → Env → St → FX → Bool | .mk f => f
def plain : ARes → Bool
 | .val _ _ _ | .call _ _ | .pan _ => true
 | _ => false
def COK (P : Program) (o : Oper) (f : Fop) : Prop :=
 ∀ env st k K, f env st k K = true → ∃ r, aop P o (aev env) st.H st.nx = some r ∧ plain r = true ∧ takeK st.call o.dst r env st.H st.nx st.dfs st.rc (unc st.call k) (uncX st.call K) = true
def retK (d : AVal → Env → Env) (env : Env) (st : St) (k : FK) (K : FX) (e : AEnd) : Heap → Nat → Bool :=
 AEnd.rec (motive := fun _ => (AVal → Env → Env) → Env → St → FK → FX → Heap → Nat → Bool) (fun v d env st k _ H nx => k (d v env) (st.with2 H nx)) (fun l _ env st _ K H nx => K (.pan l) env (st.with2 H nx)) e d env st k K
theorem retK_eq {o : Option Nat} {d : AVal → Env → Env} (hd : ∀ v env, d v env = put o v env) (env : Env) (st : St) (k : FK) (K : FX) :
  retK d env st k K = fun e H' nx' => match e with
  | .ret v => unc st.call k (put o v env) H' nx' st.dfs st.rc
  | .pan l => uncX st.call K (.pan l) env H' nx' st.dfs st.rc := by
 funext e H nx
 cases e with
 | ret v => show k (d v env) (st.with2 H nx) = _; rw [hd, St.with2_eq]; rfl
 | pan l => show K (.pan l) env (st.with2 H nx) = _; rw [St.with2_eq]; rfl
def relay1 (v : AVal) (off n : Nat) (ct : CT) : CT := Bool.rec (CT.setF ct off v) (Bool.rec (CT.setF ct off v) (.c1 (CT.of1 [v])) (Nat.beq 1 n)) (Nat.beq off 0)
theorem relay1_eq (v : AVal) (off n : Nat) (ct : CT) : relay1 v off n ct = relay [v] 1 off n ct := by
 unfold relay1 relay
 rw [CT.setF_eq]
 cases h1 : Nat.beq off 0 with
 | false => rfl
 | true =>
  cases h2 : Nat.beq 1 n with
  | false => rfl
  | true =>
   have := Nat.eq_of_beq_eq_true h2
   subst this
   rfl
def hSt (o : Option AObj) : Nat → Nat → AVal → Heap → (Heap → Bool) → Bool :=
 Option.rec (motive := fun _ => Nat → Nat → AVal → Heap → (Heap → Bool) → Bool) (fun _ _ _ _ _ => false)
  (fun ob => AObj.rec (motive := fun _ => Nat → Nat → AVal → Heap → (Heap → Bool) → Bool)
   (fun n ct olds s b off v H k => Bool.rec (Bool.rec false (k (hset b (some (.cells n (relay1 v off n ct) [] false)) (dels olds H))) (Nat.ble (Nat.succ off) n)) false s) (fun _ _ _ _ _ _ _ => false) ob) o
theorem hSt_ok {o : Option AObj} {b off : Nat} {v : AVal} {k : Heap → Bool} (h : hSt o b off v H k = true) :
  ∃ n ct olds, o = some (.cells n ct olds false) ∧ Nat.ble (Nat.succ off) n = true ∧ k (set5 b (some (.cells n (relay [v] 1 off n ct) [] false)) (dels olds H)) = true := by
 cases o with
 | none => exact Bool.noConfusion h
 | some ob =>
  cases ob with
  | map es c => exact Bool.noConfusion h
  | cells n ct olds s =>
   cases s with
   | true => exact Bool.noConfusion h
   | false =>
    have h' : (Bool.rec false (k (hset b (some (.cells n (relay1 v off n ct) [] false)) (dels olds H))) (Nat.ble (Nat.succ off) n) : Bool) = true := h
    obtain ⟨h1, h2⟩ := brec_ok h'
    rw [relay1_eq, hset_eq] at h2
    exact ⟨n, ct, olds, rfl, h1, h2⟩
def genF (g : (Operand → AVal) → Heap → Nat → Option ARes) (d : Option Nat) : CF := .yes fun env st k K => match g (aev env) st.H st.nx with
 | some r => match plain r with
  | true => takeK st.call d r env st.H st.nx st.dfs st.rc (unc st.call k) (uncX st.call K)
  | false => false
 | none => false
theorem genF_ok {g : (Operand → AVal) → Heap → Nat → Option ARes} {f : Fop} (hg : aop P o = g) (h : genF g o.dst = .yes f) : COK P o f := by
 cases h
 intro env st k K h
 rw [hg]
 simp only at h
 split at h <;> first | (exact Bool.noConfusion h) | skip
 rename_i r hr
 split at h <;> first | (exact Bool.noConfusion h) | skip
 exact ⟨r, hr, ‹_›, h⟩
def oneCellT (P : Program) (t : TypeId) : Bool := match P.underlying t with
 | some d => bnot (aggD d)
 | none => false
def cCore (P : Program) (o : Oper) : CF :=
 match cVal P o.op, bd o.dst with
 | .yes f, .mk d => .yes fun env st k _ => f env st fun v => k (d v env) st
 | .no, .mk d => match o.op with
  | .store t a x => match P.info? t, bx a, bx x with
   | some i, .mk fa, .mk fx => match Nat.beq 1 i.size, oneCellT P t with
    | true, true => .yes fun env st k _ => vPtr (fa env) fun b off => vCell (fx env) fun v => hSt (hget b st.H) b off v st.H fun H => k (d .und env) (st.with2 H st.nx)
    | _, _ => genF (opStore P t a x) o.dst
   | _, _, _ => .no
  | .call c => match c.callee with
   | .value (.func g) => match hasBody P g, bas c.args.toList with
    | true, .mk as => .yes fun env st k K => st.call g (as env) st.H st.nx (retK d env st k K)
    | false, _ => .no
   | .value _ => genF (opCall P c) o.dst
   | .builtin .append => genF (opCall P c) o.dst
   | .builtin .copy => genF (opCall P c) o.dst
   | .invoke _ _ => genF (opCall P c) o.dst
   | _ => .no
  | .alloc t => match zeroL P t with
   | some z => match Nat.ble z.length 4096 with
    | true => forceN z.length fun n => .yes fun env st k _ => Bool.rec false (forceN st.nx fun b => k (d (.ptr b 0) env) (st.with2 (hset b (some (.cells n (CT.ofL n z) [] false)) st.H) (Nat.succ b))) (Nat.ble (Nat.succ st.nx) 1048576)
    | false => .no
   | none => .no
  | .box t x => genF (opMadeOf P (.box t x)) o.dst
  | .buildSlice t n ps => genF (opMadeOf P (.buildSlice t n ps)) o.dst
  | .makeSlice t l c => genF (opMadeOf P (.makeSlice t l c)) o.dst
  | .panic x => genF (opPanic x) o.dst
  | .makeMap _ r => genF (opMakeMap r) o.dst
  | .mapUpdate t m k x => genF (opMapUpdate P t m k x) o.dst
  | .insert t m k x => genF (opMapUpdate P t m k x) o.dst
  | _ => .no
theorem cCore_ok {f : Fop} (h : cCore P o = .yes f) : COK P o f := by
 have hd := bd_eq o.dst
 unfold cCore at h
 split at h
 ·rename_i f d hv hd0
  rw [hd0] at hd
  cases h
  intro env st k K hk
  obtain ⟨v, ha, hk⟩ := cVal_ok hv env st _ hk
  refine ⟨_, ha, rfl, ?_⟩
  have hd' : d v env = put o.dst v env := hd v env
  rw [hd'] at hk
  exact hk
 ·rename_i d hv hd0
  rw [hd0] at hd
  have hd' : ∀ v env, d v env = put o.dst v env := hd
  split at h
  ·rename_i t a x hop
   split at h <;> try (cases h; done)
   rename_i i fa fx hi ha0 hx0
   have ha := bx_eq a; rw [ha0] at ha
   have ha' : ∀ env, fa env = aev env a := ha
   have hx := bx_eq x; rw [hx0] at hx
   have hx' : ∀ env, fx env = aev env x := hx
   split at h
   ·rename_i hsz _
    cases h
    intro env st k K hk
    obtain ⟨b, off, e1, hk⟩ := vPtr_ok hk
    obtain ⟨c1, c2, hk⟩ := vCell_ok hk
    obtain ⟨n, ct, olds, e2, e3, hk⟩ := hSt_ok hk
    rw [hget_eq] at e2
    rw [ha'] at e1
    rw [hx'] at c1 c2 hk
    have hs := Nat.eq_of_beq_eq_true hsz
    refine ⟨.val .und (set5 b (some (.cells n (relay [aev env x] 1 off n ct) [] false)) (dels olds st.H)) st.nx, ?_, rfl, ?_⟩
    ·unfold aop; rw [hop]
     show opStore P t a x (aev env) st.H st.nx = _
     have e3' : Nat.ble (Nat.add off 1) n = true := e3
     have ac : allCell [aev env x] = true := by unfold allCell; rw [c2]; rfl
     have bl : Nat.beq ([aev env x] : List AVal).length 1 = true := rfl
     simp only [opStore, aStore, e1, c1, hi, e2, ← hs, e3', ac, bl]
    ·rw [hd', St.with2_eq] at hk
     exact hk
   ·exact genF_ok (by funext ρ H nx; unfold aop; rw [hop]) h
  ·rename_i c hop
   split at h
   ·rename_i g hcal
    split at h <;> try (cases h; done)
    rename_i as hb has
    have hA := bas_eq c.args.toList; rw [has] at hA
    have hA' : ∀ env, as env = c.args.toList.map (aev env) := hA
    cases h
    intro env st k K hk
    refine ⟨.call g (c.args.toList.map (aev env)), ?_, rfl, ?_⟩
    ·unfold aop; rw [hop]
     show opCall P c (aev env) st.H st.nx = _
     unfold opCall
     simp only [hcal, opCallV, callTo]
     have : aev env (.func g) = .func (.func g) [] [] := rfl
     rw [this]
     simp only [hb, List.nil_append, List.append_nil]
    ·have hk' : st.call g (as env) st.H st.nx (retK d env st k K) = true := hk
     rw [hA', retK_eq hd'] at hk'
     exact hk'
   ·exact genF_ok (by funext ρ H nx; unfold aop; rw [hop]) h
   ·exact genF_ok (by funext ρ H nx; unfold aop; rw [hop]) h
   ·exact genF_ok (by funext ρ H nx; unfold aop; rw [hop]) h
   ·exact genF_ok (by funext ρ H nx; unfold aop; rw [hop]) h
   ·cases h
  ·rename_i t hop
   split at h <;> try (cases h; done)
   rename_i z hz
   split at h <;> try (cases h; done)
   rename_i hle
   rw [forceN_eq] at h
   cases h
   intro env st k K hk
   obtain ⟨h1, hk⟩ := brec_ok hk
   rw [forceN_eq, hd', St.with2_eq, hset_eq] at hk
   refine ⟨.val (.ptr st.nx 0) (set5 st.nx (some (.cells z.length (CT.ofL z.length z) [] false)) st.H) (Nat.succ st.nx), ?_, rfl, hk⟩
   unfold aop; rw [hop]
   show opMadeOf P (.alloc t) (aev env) st.H st.nx = _
   simp only [opMadeOf, made, madeAlloc, hz, opMade, hle, h1, forceN_eq]
  ·rename_i hop; exact genF_ok (by funext ρ H nx; unfold aop; rw [hop]) h
  ·rename_i hop; exact genF_ok (by funext ρ H nx; unfold aop; rw [hop]) h
  ·rename_i hop; exact genF_ok (by funext ρ H nx; unfold aop; rw [hop]) h
  ·rename_i hop; exact genF_ok (by funext ρ H nx; unfold aop; rw [hop]) h
  ·rename_i hop; exact genF_ok (by funext ρ H nx; unfold aop; rw [hop]) h
  ·rename_i hop; exact genF_ok (by funext ρ H nx; unfold aop; rw [hop]) h
  ·rename_i hop; exact genF_ok (by funext ρ H nx; unfold aop; rw [hop]) h
  ·cases h
def cOp (P : Program) (nt : Nat) (ops : Array Oper) (o : Oper) : Fo :=
 match dstOK nt o.dst, cCore P o, o.guard with
 | true, .yes f, none => .mk f
 | true, .yes f, some g => match bg ops g, bd o.dst with
  | .mk w, .mk d => .mk fun env st k K => w env (f env st k K) (k (d (.tuple []) env) st)
 | _, _, _ => .mk fun env st k K => opK P st.call nt ops o env st.H st.nx st.dfs st.rc (unc st.call k) (uncX st.call K)
theorem cOp_ok {nt : Nat} {st : St} {k : FK} {K : FX} (h : (cOp P nt ops o).fn env st k K = true) :
  opK P st.call nt ops o env st.H st.nx st.dfs st.rc (unc st.call k) (uncX st.call K) = true := by
 unfold cOp at h
 split at h
 ·rename_i f hdst hf hg
  obtain ⟨r, ha, _, ht⟩ := cCore_ok hf env st k K h
  unfold opK
  have hw : wantedA ops o.guard env = some true := by rw [hg]; rfl
  simp only [hdst, hw, ha]
  exact ht
 ·rename_i f g hdst hf hg
  have hd := bd_eq o.dst
  cases ew : bg ops g with | mk w => cases ed : bd o.dst with | mk d =>
   rw [ew] at h; rw [ed] at h hd
   have h' : (bg ops g).fn env (f env st k K) (k (d (.tuple []) env) st) = true := by rw [ew]; exact h
   unfold opK
   rcases bg_ok h' with ⟨hw, hh⟩ | ⟨hw, hh⟩
   ·obtain ⟨r, ha, _, ht⟩ := cCore_ok hf env st k K hh
    rw [← hg] at hw
    simp only [hdst, hw, ha]
    exact ht
   ·rw [← hg] at hw
    simp only [hdst, hw]
    have : d (.tuple []) env = put o.dst (.tuple []) env := hd _ _
    rw [← this]
    exact hh
 ·exact h
def cOps (P : Program) (nt : Nat) (ops : Array Oper) : List Oper → Co
 | [] => .mk fun env st K => K .normal env st
 | o :: l => match cOp P nt ops o, cOps P nt ops l with
  | .mk f, .mk g => .mk fun env st K => f env st (fun env st => g env st K) K
def cAct (P : Program) (ops : Array Oper) (o : Oper) : Fo :=
 match cCore P o, o.guard with
 | .yes f, none => .mk f
 | .yes f, some g => match bg ops g, bd o.dst with
  | .mk w, .mk d => .mk fun env st k K => w env (f env st k K) (k (d (.tuple []) env) st)
 | _, _ => .mk fun env st k K => actK P st.call ops o env st.H st.nx st.dfs st.rc (fun env' H' nx' => k env' ⟨st.call, H', nx', st.dfs, st.rc⟩) (uncX st.call K) env
theorem cAct_ok {st : St} {k : FK} {K : FX} (h : (cAct P ops o).fn env st k K = true) :
  actK P st.call ops o env st.H st.nx st.dfs st.rc (fun env' H' nx' => k env' ⟨st.call, H', nx', st.dfs, st.rc⟩) (uncX st.call K) env = true := by
 have key : ∀ {f : Fop}, cCore P o = .yes f → wantedA ops o.guard env = some true → f env st k K = true → actK P st.call ops o env st.H st.nx st.dfs st.rc (fun env' H' nx' => k env' ⟨st.call, H', nx', st.dfs, st.rc⟩) (uncX st.call K) env = true := by
  intro f hf hw hh
  obtain ⟨r, ha, hp, ht⟩ := cCore_ok hf env st k K hh
  unfold actK
  simp only [hw, ha]
  cases r <;> first | exact Bool.noConfusion hp | exact ht
 unfold cAct at h
 split at h
 ·rename_i f hf hg
  exact key hf (by rw [hg]; rfl) h
 ·rename_i f g hf hg
  have hd := bd_eq o.dst
  cases ew : bg ops g with | mk w => cases ed : bd o.dst with | mk d =>
   rw [ew] at h; rw [ed] at h hd
   have h' : (bg ops g).fn env (f env st k K) (k (d (.tuple []) env) st) = true := by rw [ew]; exact h
   rcases bg_ok h' with ⟨hw, hh⟩ | ⟨hw, hh⟩
   ·exact key hf (by rw [hg]; exact hw) hh
   ·unfold actK
    rw [← hg] at hw
    simp only [hw]
    have : d (.tuple []) env = put o.dst (.tuple []) env := hd _ _
    rw [← this]
    exact hh
 ·exact h
theorem floatK_det {res : Nat} {i : Nat} {nx : Nat} {k : Env → Heap → Bool} (h : floatK P ops res o i env H nx k = true) :
  ∃ env' H', k env' H' = true ∧ ∀ k' : Env → Heap → Bool, k' env' H' = true → floatK P ops res o i env H nx k' = true := by
 unfold floatK at h
 split at h <;> first | (exact Bool.noConfusion h) | skip
 ·rename_i hw
  split at h
  ·rename_i hc
   split at h <;> first | (exact Bool.noConfusion h) | skip
   rename_i m hm
   split at h <;> first | (exact Bool.noConfusion h) | skip
   rename_i hle
   rw [forceN_eq] at h
   refine ⟨_, _, h, fun k' hk' => ?_⟩
   unfold floatK
   simp only [hw, hc, hm, hle, forceN_eq]
   exact hk'
  ·rename_i hc
   split at h <;> first | (exact Bool.noConfusion h) | skip
   rename_i v H1 nx1 ha
   refine ⟨_, _, h, fun k' hk' => ?_⟩
   unfold floatK
   simp only [hw, hc, ha]
   exact hk'
 ·rename_i hw
  refine ⟨_, _, h, fun k' hk' => ?_⟩
  unfold floatK
  simp only [hw]
  exact hk'
def cFloat1 (P : Program) (ops : Array Oper) (i : Nat) (o : Oper) : Fl :=
 match Nat.beq (cls o.op) 1, cVal P o.op, o.guard, bd o.dst with
 | false, .yes f, none, .mk d => .mk fun _ env st k => f env st fun v => k (d v env) st
 | false, .yes f, some g, .mk d => match bg ops g with
  | .mk w => .mk fun _ env st k => w env (f env st fun v => k (d v env) st) (k (d (.tuple []) env) st)
 | true, _, none, .mk d => match o.op with
  | .alloc t => match zeroL P t with
   | some z => match Nat.ble z.length 4096 with
    | true => forceN z.length fun n => .mk fun res env st k => forceN (Nat.add res i) fun b => k (d (.ptr b 0) env) (st.with2 (hset b (some (.cells n (CT.ofL n z) [] false)) st.H) st.nx)
    | false => .mk fun _ _ _ _ => false
   | none => .mk fun _ _ _ _ => false
  | _ => .mk fun res env st k => floatK P ops res o i env st.H st.nx fun env' H' => k env' (st.with2 H' st.nx)
 | _, _, _, _ => .mk fun res env st k => floatK P ops res o i env st.H st.nx fun env' H' => k env' (st.with2 H' st.nx)
theorem with2_self (st : St) : st.with2 st.H st.nx = st := by cases st; rfl
theorem cFloat1_ok {i : Nat} {res : Nat} {st : St} {k : FK} (h : (cFloat1 P ops i o).fn res env st k = true) :
  floatK P ops res o i env st.H st.nx (fun env' H' => k env' (st.with2 H' st.nx)) = true := by
 have hd := bd_eq o.dst
 unfold cFloat1 at h
 split at h
 ·rename_i f d hc hv hg hd0
  rw [hd0] at hd
  obtain ⟨v, ha, hk⟩ := cVal_ok hv env st _ h
  have hd' : d v env = put o.dst v env := hd _ _
  rw [hd'] at hk
  unfold floatK
  have hw : wantedA ops o.guard env = some true := by rw [hg]; rfl
  simp only [hw, hc, ha, with2_self]
  exact hk
 ·rename_i f g d hc hv hg hd0
  rw [hd0] at hd
  cases ew : bg ops g with | mk w =>
   rw [ew] at h
   have h' : (bg ops g).fn env (f env st fun v => k (d v env) st) (k (d (.tuple []) env) st) = true := by rw [ew]; exact h
   unfold floatK
   rcases bg_ok h' with ⟨hw, hh⟩ | ⟨hw, hh⟩
   ·obtain ⟨v, ha, hk⟩ := cVal_ok hv env st _ hh
    have hd' : d v env = put o.dst v env := hd _ _
    rw [hd'] at hk
    rw [← hg] at hw
    simp only [hw, hc, ha, with2_self]
    exact hk
   ·rw [← hg] at hw
    have hd' : d (.tuple []) env = put o.dst (.tuple []) env := hd _ _
    rw [hd'] at hh
    simp only [hw, with2_self]
    exact hh
 ·rename_i d hc hg hd0
  rw [hd0] at hd
  split at h
  ·rename_i t hop
   split at h <;> first | (exact Bool.noConfusion h) | skip
   rename_i z hz
   split at h <;> first | (exact Bool.noConfusion h) | skip
   rename_i hle
   rw [forceN_eq] at h
   have h' : (forceN (Nat.add res i) fun b => k (d (.ptr b 0) env) (st.with2 (hset b (some (.cells z.length (CT.ofL z.length z) [] false)) st.H) st.nx)) = true := h
   rw [forceN_eq, hset_eq] at h'
   unfold floatK
   have hw : wantedA ops o.guard env = some true := by rw [hg]; rfl
   have hm : made P o.op (aev env) = some ⟨z.length, z, fun b => .ptr b 0⟩ := by rw [hop]; simp only [made, madeAlloc, hz]
   have hd' : d (.ptr (Nat.add res i) 0) env = put o.dst (.ptr (Nat.add res i) 0) env := hd _ _
   rw [hd'] at h'
   simp only [hw, hc, hm, hle, forceN_eq]
   exact h'
  ·exact h
 ·exact h
def cFloats (P : Program) (ops : Array Oper) : List Nat → Fl
 | [] => .mk fun _ env st k => k env st
 | i :: l => match ops[i]? with
  | some o => match cFloat1 P ops i o, cFloats P ops l with
   | .mk f, .mk g => .mk fun res env st k => f res env st fun env st => g res env st k
  | none => .mk fun _ _ _ _ => false
theorem with2_with2 (st : St) (H H' : Heap) (nx nx' : Nat) : (st.with2 H nx).with2 H' nx' = st.with2 H' nx' := by cases st; rfl
theorem with2_H (st : St) (H : Heap) (nx : Nat) : (st.with2 H nx).H = H := by cases st; rfl
theorem with2_nx (st : St) (H : Heap) (nx : Nat) : (st.with2 H nx).nx = nx := by cases st; rfl
theorem cFloats_ok {res : Nat} {k : FK} : ∀ {l : List Nat} {env : Env} {st : St}, (cFloats P ops l).fn res env st k = true →
  floatsK P ops res st.nx (fun env' H' => k env' (st.with2 H' st.nx)) l env st.H = true
 | [], env, st, h => by
  have h' : k env st = true := h
  show k env (st.with2 st.H st.nx) = true
  rw [with2_self]; exact h'
 | i :: l, env, st, h => by
  unfold cFloats at h
  show (match ops[i]? with | some o => floatK P ops res o i env st.H st.nx (floatsK P ops res st.nx (fun env' H' => k env' (st.with2 H' st.nx)) l) | none => false) = true
  cases ho : ops[i]? with
  | none => rw [ho] at h; exact Bool.noConfusion h
  | some o =>
   rw [ho] at h
   simp only
   cases e1 : cFloat1 P ops i o with | mk f => cases e2 : cFloats P ops l with | mk g =>
    simp only [e1, e2] at h
    have h' : (cFloat1 P ops i o).fn res env st (fun env st => g res env st k) = true := by rw [e1]; exact h
    obtain ⟨env', H', hk, hall⟩ := floatK_det (cFloat1_ok h')
    refine hall _ ?_
    have hk' : (cFloats P ops l).fn res env' (st.with2 H' st.nx) k = true := by rw [e2]; exact hk
    have := cFloats_ok hk'
    rw [with2_H, with2_nx] at this
    simpa only [with2_with2] using this
def cAgain1 (P : Program) (ops : Array Oper) (o : Oper) : Ag :=
 match o.op, o.guard with
 | .move _, none | .assign _, none | .fieldAddr _ _ _, none | .field _ _ _, none | .nilCheck _, none | .extract _ _, none => .mk fun env st => again1 P ops env st.H st.nx o
 | _, _ => .mk fun env st => again1 P ops env st.H st.nx o
theorem cAgain1_ok {st : St} (h : (cAgain1 P ops o).fn env st = true) : again1 P ops env st.H st.nx o = true := by
 unfold cAgain1 at h
 split at h <;> exact h
def cAgains (P : Program) (ops : Array Oper) : List Nat → Ag
 | [] => .mk fun _ _ => true
 | i :: l => match ops[i]? with
  | some o => match cAgain1 P ops o, cAgains P ops l with
   | .mk f, .mk g => .mk fun env st => Bool.rec false (g env st) (f env st)
  | none => .mk fun _ _ => false
theorem cAgains_ok {st : St} : ∀ {l : List Nat}, (cAgains P ops l).fn env st = true → againK P ops env st.H st.nx l = true
 | [], _ => rfl
 | i :: l, h => by
  unfold cAgains at h
  show (Bool.rec false (againK P ops env st.H st.nx l) (match ops[i]? with | some o => again1 P ops env st.H st.nx o | none => false) : Bool) = true
  cases ho : ops[i]? with
  | none => rw [ho] at h; exact Bool.noConfusion h
  | some o =>
   rw [ho] at h
   cases e1 : cAgain1 P ops o with | mk f => cases e2 : cAgains P ops l with | mk g =>
    simp only [e1, e2] at h
    obtain ⟨h1, h2⟩ := brec_ok (show (Bool.rec false (g env st) (f env st) : Bool) = true from h)
    have h1' : again1 P ops env st.H st.nx o = true := cAgain1_ok (by rw [e1]; exact h1)
    have h2' : againK P ops env st.H st.nx l = true := cAgains_ok (by rw [e2]; exact h2)
    simp only [h1', h2']
def cStages (P : Program) (ops : Array Oper) : List (Nat × List Nat × List Nat) → Sf
 | [] => .mk fun _ _ env st K => K .normal env st
 | s :: rest => match ops[s.1]? with
  | some o => match cAct P ops o, cFloats P ops s.2.1, cAgains P ops s.2.2, cStages P ops rest with
   | .mk f, .mk g, .mk a, .mk r => .mk fun res env0 env st K => f env st (fun env st => g res env st fun env st => Bool.rec false (r res env0 env st K) (a env st)) (fun e _ st => K e env0 st)
  | none => .mk fun _ _ _ _ _ => false
inductive Bl | mk (f : Env → Env)
def Bl.fn : Bl → Env → Env | .mk f => f
def cBlank : List Oper → Bl
 | [] => .mk fun env => env
 | o :: l => match bd o.dst, cBlank l with | .mk d, .mk g => .mk fun env => g (d .und env)
theorem cBlank_eq : ∀ (l : List Oper) (env : Env), (cBlank l).fn env = blank l env
 | [], _ => rfl
 | o :: l, env => by
  have hd := bd_eq o.dst .und env
  have e : blank (o :: l) env = blank l (put o.dst .und env) := rfl
  rw [e]
  unfold cBlank
  cases e1 : bd o.dst with | mk d => cases e2 : cBlank l with | mk g =>
   rw [e1] at hd
   have hd' : d .und env = put o.dst .und env := hd
   have := cBlank_eq l (put o.dst .und env)
   rw [e2] at this
   show g (d .und env) = _
   rw [hd']; exact this
def cDrawn (P : Program) (nt : Nat) (ops : Array Oper) : Co :=
 match planOK nt ops, cFloats P ops (plan0 ops), cAgains P ops (planA ops), cStages P ops (planS ops), cBlank ops.toList with
 | true, .mk f, .mk a, .mk r, .mk bl => forceN ops.size fun n => .mk fun env st K => Bool.rec false (forceN (Nat.add st.nx n) fun nx' => f st.nx env (st.with2 st.H nx') fun env' st' => Bool.rec false (r st.nx (bl env) env' st' K) (a env' st')) (Nat.ble (Nat.add st.nx n) 1048576)
 | _, _, _, _, _ => .mk fun _ _ _ => false
end
end Go.Ev
end
section
namespace Go.Ev
variable [GTab] {P : Program} {H : Heap} {nx : Nat} {w : World} {ops : Array Oper} {o : Oper} {nt : Nat} {env : Env}
theorem allL_ok {α : Type} {p : α → Bool} : ∀ {l : List α}, allL p l = true → ∀ x, x ∈ l → p x = true
 | [], _, x, hx => by cases hx
 | y :: l, h, x, hx => by
  have h' : (Bool.rec false (allL p l) (p y) : Bool) = true := h
  cases e : p y <;> rw [e] at h'
  ·cases h'
  ·rcases List.mem_cons.1 hx with rfl | hx
   ·exact e
   ·exact allL_ok h' x hx
theorem memN_ok {i : Nat} : ∀ {l : List Nat}, memN i l = true → i ∈ l
 | [], h => by cases h
 | j :: l, h => by
  have h' : (Bool.rec (memN i l) true (Nat.beq j i) : Bool) = true := h
  cases e : Nat.beq j i <;> rw [e] at h'
  ·exact List.mem_cons_of_mem _ (memN_ok h')
  ·rw [Nat.eq_of_beq_eq_true e]; exact List.mem_cons_self ..
theorem bit_eq (m j : Nat) : bit m j = m.testBit j := by
 unfold bit
 have e : Nat.beq (Nat.mod (Nat.shiftRight m j) 2) 1 = decide (m >>> j % 2 = 1) := by
  by_cases h : m >>> j % 2 = 1
  ·rw [decide_eq_true h]; have h2 : Nat.mod (Nat.shiftRight m j) 2 = 1 := h
   rw [h2]; rfl
  ·rw [decide_eq_false h]
   cases q : Nat.beq (Nat.mod (Nat.shiftRight m j) 2) 1
   ·rfl
   ·exact (h (Nat.eq_of_beq_eq_true q)).elim
 rw [e, Nat.testBit, Nat.and_comm, Nat.and_one_is_mod]
 by_cases h : m >>> j % 2 = 1
 ·rw [decide_eq_true h, h]; rfl
 ·have : m >>> j % 2 = 0 := by omega
  rw [decide_eq_false h, this]; rfl
theorem maskOf_bit {as : List Nat} {j : Nat} : ∀ {es : List Edge}, bit (maskOf as es) j = true → ∃ e, e ∈ es ∧ Region.binds .any e = true ∧ (e.on = j ∨ bit (as.getD e.on 0) j = true)
 | [], h => by rw [bit_eq] at h; have : maskOf as [] = 0 := rfl; rw [this] at h; simp at h
 | e :: es, h => by
  have h' : bit (Bool.rec (maskOf as es) (Nat.lor (Nat.lor (Nat.shiftLeft 1 e.on) (as.getD e.on 0)) (maskOf as es)) (Region.binds .any e)) j = true := h
  cases q : Region.binds .any e <;> rw [q] at h'
  ·obtain ⟨e', m, b, c⟩ := maskOf_bit h'
   exact ⟨e', List.mem_cons_of_mem _ m, b, c⟩
  ·rw [bit_eq] at h'
   have h2 : ((1 <<< e.on ||| as.getD e.on 0) ||| maskOf as es).testBit j = true := h'
   rw [Nat.testBit_or, Nat.testBit_or, Bool.or_eq_true, Bool.or_eq_true] at h2
   rcases h2 with (h2 | h2) | h2
   ·refine ⟨e, List.mem_cons_self .., q, .inl ?_⟩
    rw [Nat.one_shiftLeft, Nat.testBit_two_pow] at h2
    exact of_decide_eq_true h2
   ·exact ⟨e, List.mem_cons_self .., q, .inr (by rw [bit_eq]; exact h2)⟩
   ·obtain ⟨e', m, b, c⟩ := maskOf_bit (by rw [bit_eq]; exact h2)
    exact ⟨e', List.mem_cons_of_mem _ m, b, c⟩
theorem owners_ok {t : Nat} : ∀ {l : List Oper} {i j : Nat} {o : Oper}, l[j]? = some o → o.dst = some t → i + j ∈ owners l t i
 | [], i, j, o, h, _ => by simp at h
 | q :: l, i, 0, o, h, hd => by
  simp at h
  subst h
  unfold owners
  simp only [hd]
  have : Nat.beq t t = true := Nat.beq_refl t
  rw [this]
  exact List.mem_cons_self ..
 | q :: l, i, j + 1, o, h, hd => by
  simp at h
  have ih := owners_ok (i := i + 1) h hd
  have e : i + (j + 1) = i + 1 + j := by omega
  rw [e]
  unfold owners
  split
  ·split
   ·exact List.mem_cons_of_mem _ ih
   ·exact ih
  ·exact ih
structure OpsFact (nt : Nat) (ops : Array Oper) (as : List Nat) : Prop where
 dst : ∀ (i : Nat) (o : Oper), ops[i]? = some o → dstOK nt o.dst = true
 edge : ∀ (i : Nat) (o : Oper), ops[i]? = some o → ∀ e, e ∈ o.after.toList → Region.binds .any e = true → e.on < i
 ahead : ∀ (i : Nat) (o : Oper), ops[i]? = some o → ∀ j, bit (as.getD i 0) j = true → ∃ e, e ∈ o.after.toList ∧ Region.binds .any e = true ∧ (e.on = j ∨ bit (as.getD e.on 0) j = true)
 look : ∀ (i : Nat) (o : Oper), ops[i]? = some o → ∀ t, t ∈ looks ops o → ∀ (j : Nat) (q : Oper), ops[j]? = some q → q.dst = some t → bit (as.getD i 0) j = true
 uniq : ∀ (i j : Nat) (o q : Oper) (t : Nat), ops[i]? = some o → ops[j]? = some q → o.dst = some t → q.dst = some t → i = j
 grd : ∀ (i : Nat) (o : Oper) (g : Nat) (b : Bool), ops[i]? = some o → o.guard = some (g, b) → ∃ t, (ops[g]?).bind (·.dst) = some t
theorem opsOK_get {l : List Oper} {as : List Nat} : ∀ {r : List Oper} {k i : Nat} {o : Oper}, opsOK nt ops l as r k = true → r[i]? = some o → opOK nt ops l as (k + i) o = true
 | [], _, _, _, _, h => by simp at h
 | q :: r, k, i, o, h, hi => by
  unfold opsOK at h
  split at h <;> try (cases h; done)
  rename_i hq
  cases i with
  | zero => simp at hi; subst hi; exact hq
  | succ i =>
   simp at hi
   have := opsOK_get h hi
   have e : k + (i + 1) = k + 1 + i := by omega
   rw [e]; exact this
theorem opsOK_fact {as : List Nat} (h : opsOK nt ops ops.toList as ops.toList 0 = true) : OpsFact nt ops as := by
 have key : ∀ i o, ops[i]? = some o → opOK nt ops ops.toList as i o = true := fun i o hi => by
  have := opsOK_get h (i := i) (o := o) (by simpa using hi)
  simpa using this
 have parts : ∀ i o, ops[i]? = some o → dstOK nt o.dst = true ∧ as.getD i 0 = maskOf as o.after.toList ∧ allL (fun e => Bool.rec true (Nat.ble (Nat.succ e.on) i) (Region.binds .any e)) o.after.toList = true ∧
   allL (fun t => allL (fun j => bit (as.getD i 0) j) (owners ops.toList t 0)) (looks ops o) = true ∧ (∀ t, o.dst = some t → allL (fun j => Nat.beq j i) (owners ops.toList t 0) = true) ∧
   (∀ g b, o.guard = some (g, b) → ∃ t, (ops[g]?).bind (·.dst) = some t) := by
  intro i o hi
  have h1 := key i o hi
  unfold opOK at h1
  split at h1 <;> try (cases h1; done)
  rename_i a1 a2
  split at h1 <;> try (cases h1; done)
  rename_i a3 a4
  split at h1 <;> try (cases h1; done)
  rename_i a5
  refine ⟨a1, Nat.eq_of_beq_eq_true a2, a3, a4, fun t ht => ?_, fun g b hg => ?_⟩
  ·rw [ht] at a5; exact a5
  ·rw [hg] at h1
   simp only [] at h1
   split at h1 <;> try (cases h1; done)
   rename_i t ht
   exact ⟨_, ht⟩
 have own : ∀ j q t, ops[j]? = some q → q.dst = some t → j ∈ owners ops.toList t 0 := fun j q t hj hd => by
  have := owners_ok (t := t) (l := ops.toList) (i := 0) (j := j) (o := q) (by simpa using hj) hd
  simpa using this
 refine ⟨fun i o hi => (parts i o hi).1, ?_, ?_, ?_, ?_, fun i o g b hi hg => (parts i o hi).2.2.2.2.2 g b hg⟩
 ·intro i o hi e he hb
  have := allL_ok (parts i o hi).2.2.1 e he
  rw [hb] at this
  exact Nat.le_of_ble_eq_true this
 ·intro i o hi j hj
  rw [(parts i o hi).2.1] at hj
  exact maskOf_bit hj
 ·intro i o hi t ht j q hj hq
  exact allL_ok (allL_ok (parts i o hi).2.2.2.1 t ht) j (own j q t hj hq)
 ·intro i j o q t hi hj ho hq
  exact (Nat.eq_of_beq_eq_true (allL_ok ((parts i o hi).2.2.2.2.1 t ho) j (own j q t hj hq))).symm
theorem freshOf_ok {past : List Nat} {i : Nat} (h : freshOf ops past i o = true) : ∀ p, p ∈ past → p ≠ i ∧ ∃ q, ops[p]? = some q ∧ ∀ d, o.dst = some d → d ∉ looks ops q := by
 intro p hp
 have h1 := allL_ok h p hp
 split at h1 <;> try (cases h1; done)
 rename_i hne
 have ne : p ≠ i := fun e => by subst e; rw [Nat.beq_refl] at hne; cases hne
 split at h1 <;> try (cases h1; done)
 ·rename_i d q hd hq
  refine ⟨ne, q, hq, fun d' hd' hm => ?_⟩
  rw [hd] at hd'
  cases hd'
  have := allL_ok h1 d hm
  simp only [Nat.beq_refl] at this
  cases this
 ·rename_i q hd hq
  exact ⟨ne, q, hq, fun d' hd' => by rw [hd] at hd'; cases hd'⟩
theorem chkF_past : ∀ {l past past' : List Nat}, chkF ops l past = some past' → ∀ i, i ∈ past' ↔ (i ∈ past ∨ i ∈ l)
 | [], past, past', h, i => by cases h; simp
 | j :: l, past, past', h, i => by
  unfold chkF at h
  split at h <;> try (cases h; done)
  split at h <;> try (cases h; done)
  have := chkF_past h i
  rw [this]
  simp [or_assoc, or_comm, or_left_comm]
theorem chkF_fresh : ∀ {l past past' : List Nat}, chkF ops l past = some past' → ∀ p, p ∈ past → ∀ j, j ∈ l → p ≠ j ∧ ∃ q o, ops[p]? = some q ∧ ops[j]? = some o ∧ ∀ d, o.dst = some d → d ∉ looks ops q
 | [], _, _, _, _, _, j, hj => by cases hj
 | i :: l, past, past', h, p, hp, j, hj => by
  unfold chkF at h
  split at h <;> try (cases h; done)
  rename_i o ho
  split at h <;> try (cases h; done)
  rename_i hc hf
  rcases List.mem_cons.1 hj with rfl | hj
  ·obtain ⟨h1, q, h2, h3⟩ := freshOf_ok hf p hp
   exact ⟨h1, q, o, h2, ho, h3⟩
  ·exact chkF_fresh h p (List.mem_cons_of_mem _ hp) j hj
theorem chkF_cls : ∀ {l past past' : List Nat}, chkF ops l past = some past' → ∀ j, j ∈ l → ∃ o, ops[j]? = some o ∧ cls o.op ≠ 2
 | [], _, _, _, j, hj => by cases hj
 | i :: l, past, past', h, j, hj => by
  unfold chkF at h
  split at h <;> try (cases h; done)
  rename_i o ho
  split at h <;> try (cases h; done)
  rename_i hc hf
  rcases List.mem_cons.1 hj with rfl | hj
  ·exact ⟨o, ho, fun e => by rw [e] at hc; cases hc⟩
  ·exact chkF_cls h j hj
theorem OpsFact.lt {as : List Nat} (F : OpsFact nt ops as) : ∀ (i : Nat) (o : Oper), ops[i]? = some o → ∀ j, bit (as.getD i 0) j = true → j < i := by
 intro i
 induction i using Nat.strongRecOn with
 | _ i ih =>
  intro o hi j hj
  obtain ⟨e, he, hb, hc⟩ := F.ahead i o hi j hj
  have hlt := F.edge i o hi e he hb
  rcases hc with hc | hc
  ·omega
  ·have hsz : i < ops.size := (Array.getElem?_eq_some_iff.1 hi).1
   have := ih e.on hlt ops[e.on] (Array.getElem?_eq_getElem (by omega)) j hc
   omega
theorem OpsFact.own {as : List Nat} (F : OpsFact nt ops as) {i : Nat} (hi : ops[i]? = some o) {d : Nat} (hd : o.dst = some d) : d ∉ looks ops o := by
 intro hm
 have := F.lt i o hi i (F.look i o hi d hm i o hi hd)
 omega
theorem aev_congr {env env' : Env} {x : Operand} (h : ∀ t, x = .tmp t → t < 256 → get2 t env' = get2 t env) : aev env' x = aev env x := by
 cases x with
 | tmp t =>
  show (Bool.rec .und (get2 t env') (Nat.ble t 255) : AVal) = Bool.rec .und (get2 t env) (Nat.ble t 255)
  cases hb : Nat.ble t 255 with
  | false => rfl
  | true => exact h t rfl (Nat.lt_of_le_of_lt (Nat.le_of_ble_eq_true hb) (by decide))
 | const v => rfl
 | global g => rfl
 | func f => rfl
theorem look_congr {env env' : Env} (h : ∀ t, t ∈ looks ops o → t < 256 → get2 t env' = get2 t env) :
  wantedA ops o.guard env' = wantedA ops o.guard env ∧ ∀ x ∈ o.op.operands, aev env' x = aev env x := by
 constructor
 ·unfold wantedA
  cases hg : o.guard with
  | none => rfl
  | some p =>
   obtain ⟨g, b⟩ := p
   simp only []
   cases ht : (ops[g]?).bind (·.dst) with
   | none => rfl
   | some t =>
    simp only []
    cases hb : Nat.ble t 255 with
    | false => rfl
    | true =>
     simp only []
     rw [h t (by unfold looks; rw [hg]; simp only [ht]; simp) (Nat.lt_of_le_of_lt (Nat.le_of_ble_eq_true hb) (by decide))]
 ·intro x hx
  refine aev_congr fun t e ht => h t ?_ ht
  subst e
  unfold looks
  exact List.mem_append_left _ (List.mem_filterMap.2 ⟨.tmp t, by simpa using hx, rfl⟩)
end Go.Ev
namespace Go.Ev
variable [GTab] {P : Program} {H : Heap} {nx : Nat} {w : World} {ops : Array Oper} {o : Oper} {nt : Nat} {env : Env}
def Fl1 (P : Program) (ops : Array Oper) (res : Nat) (env : Env) (H : Heap) (i : Nat) (o : Oper) : Prop :=
 (wantedA ops o.guard env = some false ∧ ∀ d, o.dst = some d → get2 d env = .tuple []) ∨
 (wantedA ops o.guard env = some true ∧ ∃ m, made P o.op (aev env) = some m ∧ m.n ≤ 4096 ∧ get5 (res + i) H = some (.cells m.n (CT.ofL m.n m.l) [] false) ∧ ∀ d, o.dst = some d → get2 d env = m.v (res + i))
theorem Fl1.keep {res : Nat} {env env' : Env} {H H' : Heap} {i : Nat} (h : Fl1 P ops res env H i o) (hl : ∀ t, t ∈ looks ops o → t < 256 → get2 t env' = get2 t env)
  (hd : ∀ d, o.dst = some d → get2 d env' = get2 d env) (hH : get5 (res + i) H' = get5 (res + i) H) : Fl1 P ops res env' H' i o := by
 obtain ⟨e1, e2⟩ := look_congr hl
 rcases h with ⟨h1, h2⟩ | ⟨h1, m, h2, h3, h4, h5⟩
 ·exact .inl ⟨e1.trans h1, fun d hd' => (hd d hd').trans (h2 d hd')⟩
 ·exact .inr ⟨e1.trans h1, m, (made_congr e2).trans h2, h3, hH.trans h4, fun d hd' => (hd d hd').trans (h5 d hd')⟩
def Fl0 (P : Program) (ops : Array Oper) (env : Env) (H : Heap) (nx : Nat) (o : Oper) : Prop :=
 (wantedA ops o.guard env = some false ∧ ∀ d, o.dst = some d → get2 d env = .tuple []) ∨
 (wantedA ops o.guard env = some true ∧ ∃ v, aop P o (aev env) H nx = some (.val v H nx) ∧ ∀ d, o.dst = some d → get2 d env = v)
theorem again1_fl0 (hc : cls o.op = 0) (h : again1 P ops env H nx o = true) : Fl0 P ops env H nx o := by
 unfold again1 at h
 split at h <;> try (cases h; done)
 ·rename_i hw
  split at h <;> try (cases h; done)
  rename_i v H1 nx1 hop
  obtain ⟨rfl, rfl⟩ := cls0_heap hc hop
  refine .inr ⟨hw, v, hop, fun d hd => ?_⟩
  rw [hd] at h
  exact (beqA_ok _ _ _ h).symm
 ·rename_i hw
  refine .inl ⟨hw, fun d hd => ?_⟩
  rw [hd] at h
  simp only [] at h
  split at h <;> first | (cases h; done) | assumption
theorem pure_heap {ρ : Operand → AVal} {H H' : Heap} {nx nx' : Nat} {v : AVal} (hc : cls o.op = 0) (hp : impure o.op = false) (h : aop P o ρ H nx = some (.val v H nx)) : aop P o ρ H' nx' = some (.val v H' nx') := by
 unfold aop at h ⊢
 cases hop : o.op <;> rw [hop] at h hc hp <;> simp only [] at h ⊢ <;> first | (cases hc; done) | (cases hp; done) | skip
 case move => unfold opMove at h ⊢; cases h; rfl
 case assign => unfold opMove at h ⊢; cases h; rfl
 case call c =>
  simp only [cls] at hc
  unfold opCall at h ⊢
  cases hce : c.callee with
  | value f => rw [hce] at hc; cases hc
  | invoke r m => rw [hce] at hc; cases hc
  | builtin b =>
   rw [hce] at hc h
   cases b <;> simp only [] at hc h ⊢ <;> try (cases hc; done)
   all_goals
    unfold opBuiltin0 at h ⊢
    try simp only [forceI_eq] at h ⊢
    split at h <;> try (cases h; done)
    all_goals (repeat' (split at h)) <;> first | (cases h; done) | (cases h; simp only [*]; done) | (cases h; simp [*]; done)
 all_goals first
  | (have h' : opFail ρ H nx = some (.val v H nx) := h; cases h'; done)
  | (unfold opPick at h ⊢) | (unfold opNilCheck at h ⊢) | (unfold opUn at h ⊢) | (unfold opConv at h ⊢) | (unfold opMakeInterface at h ⊢) | (unfold opMakeFunc at h ⊢; cases h; rfl; done)
  | (unfold opFieldAddr at h ⊢) | (unfold opField at h ⊢) | (unfold opIndexAddr at h ⊢) | (unfold opIndex at h ⊢) | (unfold opAssert at h ⊢) | (unfold opExtract at h ⊢) | (unfold opBuild at h ⊢) | (unfold opBin at h ⊢)
 all_goals try simp only [forceI_eq, forceN_eq] at h ⊢
 all_goals (repeat' (split at h)) <;> first | (cases h; done) | (cases h; simp only [*]; done) | (cases h; simp [*]; done) | skip
theorem Fl0.keep {env env' : Env} {H H' : Heap} {nx nx' : Nat} (hc : cls o.op = 0) (hp : impure o.op = false) (h : Fl0 P ops env H nx o) (hl : ∀ t, t ∈ looks ops o → t < 256 → get2 t env' = get2 t env)
  (hd : ∀ d, o.dst = some d → get2 d env' = get2 d env) : Fl0 P ops env' H' nx' o := by
 obtain ⟨e1, e2⟩ := look_congr hl
 rcases h with ⟨h1, h2⟩ | ⟨h1, v, h2, h3⟩
 ·exact .inl ⟨e1.trans h1, fun d hd' => (hd d hd').trans (h2 d hd')⟩
 ·exact .inr ⟨e1.trans h1, v, (aop_congr e2).trans (pure_heap hc hp h2), fun d hd' => (hd d hd').trans (h3 d hd')⟩
theorem get2_put' {d : Option Nat} {v : AVal} {nt t : Nat} (hd : dstOK nt d = true) (hn : nt ≤ 256) (ht : t < 256) (hne : d ≠ some t) : get2 t (put d v env) = get2 t env := by
 cases d with
 | none => rfl
 | some d =>
  have h1 : d < nt := Nat.le_of_ble_eq_true hd
  show get2 t (set2 d v env) = _
  rw [get2_put (by omega) ht, if_neg (fun e => hne (by rw [e]))]
theorem get2_put_same {d : Nat} {v : AVal} : get2 d (put (some d) v env) = v := by
 show get2 d (set2 d v env) = v
 rw [get2_set2_same]
theorem floatK_ok {as : List Nat} {res nx : Nat} {k : Env → Heap → Bool} {i : Nat} (F : OpsFact nt ops as) (hn : nt ≤ 256) (hlim : res + ops.size ≤ 1048576)
  (hi : ops[i]? = some o) (h : floatK P ops res o i env H nx k = true) :
  ∃ env' H', k env' H' = true ∧ (∀ t, t < 256 → o.dst ≠ some t → get2 t env' = get2 t env) ∧ (∀ b, b < 1048576 → b ≠ res + i → get5 b H' = get5 b H) ∧
   (∀ σ w, Rel σ H nx w → σ (res + i) = none → Rel σ H' nx w) ∧ (cls o.op = 1 → Fl1 P ops res env' H' i o) ∧ (cls o.op = 0 → impure o.op = false → Fl0 P ops env' H' nx o) := by
 have hd := F.dst i o hi
 have hsz : i < ops.size := (Array.getElem?_eq_some_iff.1 hi).1
 have looks_same : ∀ v t, t ∈ looks ops o → t < 256 → get2 t (put o.dst v env) = get2 t env := fun v t ht hlt => get2_put' hd hn hlt (fun e => F.own hi e ht)
 unfold floatK at h
 split at h <;> try (cases h; done)
 ·rename_i hw
  split at h
  ·rename_i hc
   split at h <;> try (cases h; done)
   rename_i m hm
   split at h <;> try (cases h; done)
   rename_i h4
   rw [forceN_eq] at h
   refine ⟨_, _, h, fun t ht hne => get2_put' hd hn ht hne, ?_, ?_, fun _ => ?_, fun e => by rw [e] at hc; cases hc⟩
   ·intro b hb hne
    exact get5_ne (fun e => hne e.symm) (show res + i < 1048576 by omega) hb
   ·intro σ w hr hp
    exact hr.pend hp (Nat.le_refl _) hr.lim (by show res + i < 1048576; omega)
   ·obtain ⟨e1, e2⟩ := look_congr (looks_same (m.v (Nat.add res i)))
    refine .inr ⟨e1.trans hw, m, (made_congr e2).trans hm, Nat.le_of_ble_eq_true h4, get5_set5_same .., fun d hd' => ?_⟩
    rw [hd']; exact get2_put_same
  ·rename_i hc
   split at h <;> try (cases h; done)
   rename_i v H1 nx1 hop
   refine ⟨_, _, h, fun t ht hne => get2_put' hd hn ht hne, fun _ _ _ => rfl, fun _ _ hr _ => hr, fun e => ?_, fun hc0 hp => ?_⟩
   ·rw [e] at hc; cases hc
   ·obtain ⟨rfl, rfl⟩ := cls0_heap hc0 hop
    obtain ⟨e1, e2⟩ := look_congr (looks_same v)
    refine .inr ⟨e1.trans hw, v, (aop_congr e2).trans hop, fun d hd' => ?_⟩
    rw [hd']; exact get2_put_same
 ·rename_i hw
  obtain ⟨e1, e2⟩ := look_congr (looks_same (.tuple []))
  refine ⟨_, _, h, fun t ht hne => get2_put' hd hn ht hne, fun _ _ _ => rfl, fun _ _ hr _ => hr, fun _ => ?_, fun _ _ => ?_⟩
  ·refine .inl ⟨e1.trans hw, fun d hd' => ?_⟩
   rw [hd']; exact get2_put_same
  ·refine .inl ⟨e1.trans hw, fun d hd' => ?_⟩
   rw [hd']; exact get2_put_same
theorem floatsK_ok {as : List Nat} {res nx : Nat} {k : Env → Heap → Bool} (F : OpsFact nt ops as) (hn : nt ≤ 256) (hlim : res + ops.size ≤ 1048576) :
  ∀ (l past past' : List Nat) (env : Env) (H : Heap), chkF ops l past = some past' → floatsK P ops res nx k l env H = true →
   ∃ env' H', k env' H' = true ∧ (∀ t, t < 256 → (∀ (j : Nat) (q : Oper), j ∈ l → ops[j]? = some q → q.dst ≠ some t) → get2 t env' = get2 t env) ∧ (∀ b, b < 1048576 → (∀ j, j ∈ l → b ≠ res + j) → get5 b H' = get5 b H) ∧
    (∀ σ w, Rel σ H nx w → (∀ j, j ∈ l → σ (res + j) = none) → Rel σ H' nx w) ∧ (∀ (i : Nat) (q : Oper), i ∈ l → ops[i]? = some q → cls q.op = 1 → Fl1 P ops res env' H' i q) ∧
    (∀ (i : Nat) (q : Oper), i ∈ l → ops[i]? = some q → cls q.op = 0 → impure q.op = false → Fl0 P ops env' H' nx q)
 | [], _, _, env, H, _, h => ⟨env, H, h, fun _ _ _ => rfl, fun _ _ _ => rfl, fun _ _ hr _ => hr, (fun i q hi => by cases hi), fun i q hi => by cases hi⟩
 | i :: l, past, past', env, H, hc, h => by
  have h' : (match ops[i]? with | some o => floatK P ops res o i env H nx (floatsK P ops res nx k l) | none => false) = true := h
  unfold chkF at hc
  split at hc <;> try (cases hc; done)
  rename_i o ho
  split at hc <;> try (cases hc; done)
  rw [ho] at h'
  simp only [] at h'
  obtain ⟨env1, H1, hk, a1, a2, a3, a4, a5⟩ := floatK_ok F hn hlim ho h'
  obtain ⟨env2, H2, hk2, b1, b2, b3, b4, b5⟩ := floatsK_ok F hn hlim l _ past' env1 H1 hc hk
  have hsz : i < ops.size := (Array.getElem?_eq_some_iff.1 ho).1
  have fr := chkF_fresh hc i (List.mem_cons_self ..)
  refine ⟨env2, H2, hk2, ?_, ?_, ?_, ?_, ?_⟩
  ·intro t ht hne
   rw [b1 t ht (fun j q hj hq => hne j q (List.mem_cons_of_mem _ hj) hq), a1 t ht (hne i o (List.mem_cons_self ..) ho)]
  ·intro b hb hne
   rw [b2 b hb (fun j hj => hne j (List.mem_cons_of_mem _ hj)), a2 b hb (hne i (List.mem_cons_self ..))]
  ·intro σ w hr hp
   exact b3 σ w (a3 σ w hr (hp i (List.mem_cons_self ..))) fun j hj => hp j (List.mem_cons_of_mem _ hj)
  ·intro j q hj hq hcl
   rcases List.mem_cons.1 hj with rfl | hj
   ·rw [ho] at hq
    cases hq
    refine (a4 hcl).keep ?_ ?_ ?_
    ·intro t ht hlt
     refine b1 t hlt fun j' q' hj' hq' e => ?_
     obtain ⟨_, q0, o0, e1, e2, e3⟩ := fr j' hj'
     rw [ho] at e1; cases e1
     rw [hq'] at e2; cases e2
     exact e3 t e ht
    ·intro d hd
     have hdl : d < nt := by have := F.dst j o ho; rw [hd] at this; exact Nat.le_of_ble_eq_true this
     refine b1 d (Nat.lt_of_lt_of_le hdl hn) fun j' q' hj' hq' e => ?_
     exact (fr j' hj').1 (F.uniq j j' o q' d ho hq' hd e)
    ·exact b2 _ (by omega) fun j' hj' e => (fr j' hj').1 (by omega)
   ·exact b4 j q hj hq hcl
  ·intro j q hj hq hcl hp
   rcases List.mem_cons.1 hj with rfl | hj
   ·rw [ho] at hq
    cases hq
    refine (a5 hcl hp).keep hcl hp ?_ ?_
    ·intro t ht hlt
     refine b1 t hlt fun j' q' hj' hq' e => ?_
     obtain ⟨_, q0, o0, e1, e2, e3⟩ := fr j' hj'
     rw [ho] at e1; cases e1
     rw [hq'] at e2; cases e2
     exact e3 t e ht
    ·intro d hd
     have hdl : d < nt := by have := F.dst j o ho; rw [hd] at this; exact Nat.le_of_ble_eq_true this
     refine b1 d (Nat.lt_of_lt_of_le hdl hn) fun j' q' hj' hq' e => ?_
     exact (fr j' hj').1 (F.uniq j j' o q' d ho hq' hd e)
   ·exact b5 j q hj hq hcl hp
end Go.Ev
namespace Go.Ev
variable [GTab] {P : Program} {H : Heap} {nx : Nat} {w : World} {ops : Array Oper} {o : Oper} {nt : Nat} {env : Env}
abbrev Stage := Nat × List Nat × List Nat
def isL (listed : Array Bool) (i : Nat) : Prop := listed.getD i false = true
structure Inv (P : Program) (nt : Nat) (ops : Array Oper) (as : List Nat) (res : Nat) (σ0 : Sg) (H0 : Heap) (w0 : World) (dfs : Dfs) (past : List Nat) (rest : List Stage) (env : Env) (H : Heap) (nx : Nat) (listed : Array Bool) (σ : Sg) (w : World) (a : Act) : Prop where
 size : listed.size = ops.size
 tsize : a.tmps.size = nt
 closed : ∀ i j, isL listed i → bit (as.getD i 0) j = true → isL listed j
 todo : ∀ i, i ∈ named rest → ¬ isL listed i
 all : ∀ i, i < ops.size → i ∈ past ∨ i ∈ named rest ∨ isL listed i
 den : ∀ t, t < 256 → (∀ (j : Nat) (q : Oper), ops[j]? = some q → q.dst = some t → isL listed j) → Den σ (get2 t env) (a.tmps.getD t undef)
 fl0 : ∀ (i : Nat) (q : Oper), i ∈ past → ops[i]? = some q → ¬ isL listed i → cls q.op = 0 → Fl0 P ops env H nx q
 fl1 : ∀ (i : Nat) (q : Oper), i ∈ past → ops[i]? = some q → ¬ isL listed i → cls q.op = 1 → Fl1 P ops res env H i q
 pend : ∀ i, i < ops.size → ¬ isL listed i → σ (res + i) = none
 lim : res + ops.size ≤ nx
 rel : Rel σ H nx w
 ext : Ext σ0 σ H0 H res nx w0 w
 dfs : DfsRel σ dfs a.defers
theorem mask_env (p : Nat → Prop) (env : Env) : ∃ env', ∀ t, t < 256 → (p t → get2 t env' = get2 t env) ∧ (¬ p t → get2 t env' = .und) := by
 have key : ∀ n, n ≤ 256 → ∃ env', ∀ t, t < 256 → ((p t ∨ n ≤ t) → get2 t env' = get2 t env) ∧ ((¬ p t ∧ t < n) → get2 t env' = .und) := by
  intro n
  induction n with
  | zero => exact fun _ => ⟨env, fun t _ => ⟨fun _ => rfl, fun h => by omega⟩⟩
  | succ n ih =>
   intro hn
   obtain ⟨e, he⟩ := ih (by omega)
   by_cases hp : p n
   ·refine ⟨e, fun t ht => ⟨fun h => (he t ht).1 ?_, fun h => (he t ht).2 ⟨h.1, ?_⟩⟩⟩
    ·rcases h with h | h
     ·exact .inl h
     ·exact .inr (by omega)
    ·have : t ≠ n := fun q => h.1 (q ▸ hp)
     omega
   ·refine ⟨set2 n .und e, fun t ht => ⟨fun h => ?_, fun h => ?_⟩⟩
    ·have hne : n ≠ t := fun q => by
      rcases h with h | h
      ·exact hp (q ▸ h)
      ·omega
     rw [get2_put (by omega) ht, if_neg hne]
     refine (he t ht).1 ?_
     rcases h with h | h
     ·exact .inl h
     ·exact .inr (by omega)
    ·rw [get2_put (by omega) ht]
     by_cases q : n = t
     ·rw [if_pos q]
     ·rw [if_neg q]; exact (he t ht).2 ⟨h.1, by omega⟩
 obtain ⟨e, he⟩ := key 256 (Nat.le_refl _)
 exact ⟨e, fun t ht => ⟨fun h => (he t ht).1 (.inl h), fun h => (he t ht).2 ⟨h, ht⟩⟩⟩
theorem isL_set {listed : Array Bool} {i j : Nat} (hi : i < listed.size) : isL (listed.setIfInBounds i true) j ↔ (j = i ∨ isL listed j) := by
 unfold isL
 by_cases e : i = j
 ·subst e; simp [hi]
 ·simp only [Array.getD_eq_getD_getElem?, Array.getElem?_setIfInBounds_ne e]
  constructor
  ·exact fun h => .inr h
  ·rintro (h | h)
   ·exact (e h.symm).elim
   ·exact h
theorem Inv.view {as : List Nat} {res : Nat} {σ0 : Sg} {H0 : Heap} {w0 : World} {dfs : Dfs} {past : List Nat} {rest : List Stage} {listed : Array Bool} {σ : Sg} {a : Act}
  (F : OpsFact nt ops as) (hn : nt ≤ 256) (I : Inv P nt ops as res σ0 H0 w0 dfs past rest env H nx listed σ w a) {i : Nat} {o : Oper} (hi : ops[i]? = some o) (hr : ∀ j, bit (as.getD i 0) j = true → isL listed j) :
  ∃ envm, EnvRel σ nt envm a.tmps ∧ wantedA ops o.guard envm = wantedA ops o.guard env ∧ ∀ x ∈ o.op.operands, aev envm x = aev env x := by
 obtain ⟨envm, hm⟩ := mask_env (fun t => ∀ (j : Nat) (q : Oper), ops[j]? = some q → q.dst = some t → isL listed j) env
 refine ⟨envm, ⟨I.tsize, hn, fun t ht => ?_⟩, look_congr fun t ht hlt => (hm t hlt).1 fun j q hj hq => hr j (F.look i o hi t ht j q hj hq)⟩
 by_cases hp : ∀ (j : Nat) (q : Oper), ops[j]? = some q → q.dst = some t → isL listed j
 ·rw [(hm t ht).1 hp]; exact I.den t ht hp
 ·rw [(hm t ht).2 hp]; exact .und _
theorem Inv.next {as : List Nat} {res : Nat} {σ0 : Sg} {H0 : Heap} {w0 : World} {dfs : Dfs} {past : List Nat} {rest : List Stage} {listed : Array Bool} {σ : Sg} {a : Act}
  (F : OpsFact nt ops as) (I : Inv P nt ops as res σ0 H0 w0 dfs past rest env H nx listed σ w a) {i : Nat} {o : Oper} (hi : ops[i]? = some o) (hr : ∀ j, bit (as.getD i 0) j = true → isL listed j) (hrest : i ∉ named rest)
  {σ1 : Sg} {w1 : World} {v' : Value} (sub : ∀ b p, σ b = some p → σ1 b = some p) (R : Rel σ1 H nx w1) (E : Ext σ0 σ1 H0 H res nx w0 w1) (hp : ∀ j, j < ops.size → j ≠ i → σ (res + j) = none → σ1 (res + j) = none)
  (hv : ∀ d, o.dst = some d → Den σ1 (get2 d env) v') : Inv P nt ops as res σ0 H0 w0 dfs past rest env H nx (listed.setIfInBounds i true) σ1 w1 (a.put o.dst v') := by
 have hlt : i < ops.size := (Array.getElem?_eq_some_iff.1 hi).1
 have S : ∀ j, isL (listed.setIfInBounds i true) j ↔ (j = i ∨ isL listed j) := fun j => isL_set (by rw [I.size]; exact hlt)
 have hd := F.dst i o hi
 refine ⟨by rw [Array.size_setIfInBounds]; exact I.size, ?_, ?_, ?_, ?_, ?_, ?_, ?_, ?_, I.lim, R, E, ?_⟩
 ·cases hdst : o.dst with
  | none => exact I.tsize
  | some d => show (a.tmps.setIfInBounds d v').size = nt; rw [Array.size_setIfInBounds]; exact I.tsize
 ·intro j k hj hb
  rw [S] at hj ⊢
  rcases hj with rfl | hj
  ·exact .inr (hr k hb)
  ·exact .inr (I.closed j k hj hb)
 ·intro j hj hl
  rw [S] at hl
  rcases hl with rfl | hl
  ·exact hrest hj
  ·exact I.todo j hj hl
 ·intro j hj
  rw [S]
  rcases I.all j hj with h | h | h
  ·exact .inl h
  ·exact .inr (.inl h)
  ·exact .inr (.inr (.inr h))
 ·intro t ht hown
  by_cases e : o.dst = some t
  ·rw [e]
   show Den σ1 (get2 t env) ((a.tmps.setIfInBounds t v').getD t undef)
   have : t < a.tmps.size := by rw [I.tsize]; rw [e] at hd; exact Nat.le_of_ble_eq_true hd
   rw [getD_put _ _ _ _ this, if_pos rfl]
   exact hv t e
  ·have h1 : (a.put o.dst v').tmps.getD t undef = a.tmps.getD t undef := by
    cases hdst : o.dst with
    | none => rfl
    | some d =>
     show (a.tmps.setIfInBounds d v').getD t undef = _
     have : d < a.tmps.size := by rw [I.tsize]; rw [hdst] at hd; exact Nat.le_of_ble_eq_true hd
     rw [getD_put _ _ _ _ this, if_neg (fun q => e (by rw [hdst, q]))]
   rw [h1]
   refine (I.den t ht fun j q hj hq => ?_).mono sub
   have := hown j q hj hq
   rw [S] at this
   rcases this with rfl | h
   ·rw [hi] at hj; cases hj; exact (e hq).elim
   ·exact h
 ·intro j q hj hq hl
  exact I.fl0 j q hj hq (fun h => hl ((S j).2 (.inr h)))
 ·intro j q hj hq hl
  exact I.fl1 j q hj hq (fun h => hl ((S j).2 (.inr h)))
 ·intro j hj hl
  exact hp j hj (fun e => hl ((S j).2 (.inl e))) (I.pend j hj (fun h => hl ((S j).2 (.inr h))))
 ·have : (a.put o.dst v').defers = a.defers := by cases o.dst <;> rfl
  rw [this]; exact I.dfs.mono sub
theorem Inv.float {as : List Nat} {res : Nat} {σ0 : Sg} {H0 : Heap} {w0 : World} {dfs : Dfs} {past : List Nat} {rest : List Stage} {listed : Array Bool} {σ : Sg} {a : Act}
  (F : OpsFact nt ops as) (hn : nt ≤ 256) (I : Inv P nt ops as res σ0 H0 w0 dfs past rest env H nx listed σ w a) {i : Nat} {o : Oper} (hi : ops[i]? = some o) (hpast : i ∈ past) (hnl : ¬ isL listed i) (hcls : cls o.op = 0 ∨ cls o.op = 1)
  (hr : ∀ j, bit (as.getD i 0) j = true → isL listed j) (hrest : i ∉ named rest) {Q : Exit → Act → World → Prop} {K : Act → World → Prop}
  (hK : ∀ σ1 w1 a1, Inv P nt ops as res σ0 H0 w0 dfs past rest env H nx (listed.setIfInBounds i true) σ1 w1 a1 → K a1 w1) : wpOp P ops Q i K a w := by
 have hlt : i < ops.size := (Array.getElem?_eq_some_iff.1 hi).1
 obtain ⟨envm, M, hw, hx⟩ := I.view F hn hi hr
 unfold wpOp
 rw [hi]
 simp only []
 have unw : wantedA ops o.guard env = some false → (∀ d, o.dst = some d → get2 d env = .tuple []) → (if Region.wanted o (yielded ops a.tmps) = true then o.wp P a w K Q ∨ (o.asks P a w ∧ LetsOut Q) else K (a.put o.dst undef) w) := by
  intro h1 h2
  rw [if_neg (by rw [wanted_ok (hw.trans h1) M]; simp)]
  exact hK σ w _ (I.next F hi hr hrest (fun _ _ h => h) I.rel I.ext (fun _ _ _ h => h) fun d hd => by rw [h2 d hd]; exact .tuple .nil)
 rcases hcls with hc | hc
 ·rcases I.fl0 i o hpast hi hnl hc with ⟨h1, h2⟩ | ⟨hwt, v, hop, hdv⟩
  ·exact unw h1 h2
  ·rw [if_pos (wanted_ok (hw.trans hwt) M)]
   have hop' : aop P o (aev envm) H nx = some (.val v H nx) := (aop_congr hx).trans hop
   obtain ⟨σ', w', v', R, E, D, hrun⟩ := aop_ok hop' σ w a.eval I.rel M.aev
   have fin : K (a.put o.dst v') w' := by
    refine hK σ' w' _ (I.next F hi hr hrest E.sub R (I.ext.trans E) (fun j hj _ h => (E.pend (res + j) (by have := I.lim; omega) h).1) fun d hd => ?_)
    rw [hdv d hd]
    exact D
   refine .inl ?_
   unfold Oper.wp
   rcases hrun with hrun | ⟨hrun, rfl⟩
   ·rw [hrun]; exact fin
   ·rw [hrun]; exact fin
 ·rcases I.fl1 i o hpast hi hnl hc with ⟨h1, h2⟩ | ⟨h1, m, h2, h3, h4, h5⟩
  ·exact unw h1 h2
  ·rw [if_pos (wanted_ok (hw.trans h1) M)]
   have hm : made P o.op (aev envm) = some m := (made_congr hx).trans h2
   obtain ⟨l', t, v', hl, hln, hv, hrun⟩ := made_ok hm σ w a.eval M.aev
   obtain ⟨c1, c2, c3⟩ := made_cells hl hln h3
   have hb : σ (res + i) = none := I.pend i hlt hnl
   have hbx : res + i < nx := by have := I.lim; omega
   have R := I.rel.alloc_at (t := t) (fz := (0, 0)) hb hbx h4 c1 c2 (Nat.le_refl _) (fun i _ h => by omega) c3
   obtain ⟨e1, e2, e3, e4⟩ := Ext.alloc_at (sz := m.n) (.cells ⟨l'⟩ t) I.rel hb
   have E := I.ext
   refine .inl ?_
   unfold Oper.wp
   rw [hrun]
   refine hK _ _ _ (I.next F hi hr hrest e2 R ⟨fun b p h => e2 b p (E.sub b p h), ?_, ?_, E.le, E.os, E.tape, E.output, ?_, ?_⟩ ?_ ?_)
   ·intro b cb sz h hcb
    obtain ⟨b', sz', h'⟩ := e3 b cb sz h (Nat.lt_of_lt_of_le hcb E.size)
    exact E.rng b' cb sz' h' hcb
   ·intro b hbr h
    obtain ⟨p1, p2⟩ := E.pend b hbr h
    exact ⟨e1 b (by omega) (by have := E.le; omega) p1, p2⟩
   ·have := E.size
    have : (w.alloc (.cells ⟨l'⟩ t)).heap.size = w.heap.size + 1 := by simp
    omega
   ·intro k hk h
    rw [e4 k (Nat.lt_of_lt_of_le hk E.size)]
    exact E.frame k hk h
   ·intro j hj hne h
    exact e1 _ (by omega) (by have := I.lim; omega) h
   ·intro d hd
    rw [h5 d hd]
    exact hv _ _ (by simp [upd])
end Go.Ev
end
section
namespace Go.Ev
variable [GTab] {P : Program} {H : Heap} {nx : Nat} {w : World} {nt : Nat} {env : Env}
theorem wpS_block {Q : Exit → Act → List Frame → World → Prop} {a : Act} {cs : List Frame} {id : Nat} {c : Code}
  (h : c.wpS P (fun e a' cs' w' => match e with | .exit j => if j = id then Q .normal a' cs' w' else Q (.exit j) a' cs' w' | e => Q e a' cs' w') a cs w) : (Code.block id c).wpS P Q a cs w := by
 intro b k hb hro
 obtain ⟨e, a₁, cs₁, w₁, hq, harr⟩ := h b (.inBlock id :: k) hb hro
 cases e with
 | normal => exact ⟨.normal, a₁, cs₁, w₁, hq, .head step_block (Steps.trans harr (.one step_inBlock))⟩
 | exit id' =>
  by_cases hid : id' = id
  ·simp only [hid, if_true] at hq
   exact ⟨.normal, a₁, cs₁, w₁, hq, .head step_block (harr k (by simp [exitTo, hid]))⟩
  ·simp only [hid, if_false] at hq
   refine ⟨.exit id', a₁, cs₁, w₁, hq, fun k' hk => .head step_block (harr k' ?_)⟩
   have : (id == id') = false := by simp; exact fun h => hid h.symm
   simp [exitTo, this, hk]
 | goto l => exact ⟨_, a₁, cs₁, w₁, hq, fun k' hk => .head step_block (harr k' (by simp [gotoIn, hk]))⟩
 | ret => exact ⟨_, a₁, cs₁, w₁, hq, .of_steps (.one step_block) harr⟩
 | panic ch => exact ⟨_, a₁, cs₁, w₁, hq, .of_steps (.one step_block) harr⟩
 | outgrown => exact ⟨_, a₁, cs₁, w₁, hq, .of_steps (b := b) (k := k) (cs := cs₁) (e := .outgrown) (.one step_block) harr⟩
theorem eval_bool {σ : Sg} {dfs : Dfs} {a : Act} {c : Operand} {b : Bool} (ha : ARel σ nt env dfs a) (h : aev env c = .bool b) : a.eval c = .bool b := by
 have := ha.env.aev c
 rw [h] at this
 cases hq : a.eval c <;> rw [hq] at this <;> cases this
 rfl
theorem enterEnv_get : ∀ (args : List AVal) (i : Nat) (env : Env) (t : Nat), i + args.length ≤ 256 → t < 256 →
  get2 t (enterEnv args i env) = if i ≤ t ∧ t < i + args.length then args.getD (t - i) .und else get2 t env
 | [], i, env, t, _, _ => by
  have : ¬ (i ≤ t ∧ t < i + ([] : List AVal).length) := by simp
  rw [if_neg this]; rfl
 | v :: args, i, env, t, h, ht => by
  show get2 t (enterEnv args (i + 1) (set2 i v env)) = _
  simp only [List.length_cons] at h
  rw [enterEnv_get args (i + 1) _ t (by omega) ht, get2_put (by omega) ht]
  by_cases h1 : i = t
  ·subst h1
   rw [if_neg (by omega), if_pos rfl, if_pos (by simp)]
   simp
  ·rw [if_neg h1]
   by_cases h2 : i + 1 ≤ t ∧ t < i + 1 + args.length
   ·rw [if_pos h2, if_pos (by simp; omega)]
    have e : t - i = (t - (i + 1)) + 1 := by omega
    rw [e]; simp
   ·rw [if_neg h2, if_neg (by simp; omega)]
theorem enter_rel {σ : Sg} {args : List AVal} {args' : List Value} (hn : nt ≤ 256) (hl : args.length ≤ nt) (hd : DenL σ args args') :
  EnvRel σ nt (enterEnv args 0 (all2 (.tuple []))) ((⟨args'⟩ : Array Value) ++ Array.replicate (nt - (⟨args'⟩ : Array Value).size) undef) := by
 have hlen := hd.length
 have hs : (⟨args'⟩ : Array Value).size = args'.length := rfl
 refine ⟨by simp; omega, hn, fun t ht => ?_⟩
 rw [enterEnv_get args 0 _ t (by omega) ht]
 by_cases h : t < args.length
 ·rw [if_pos (by omega)]
  obtain ⟨v', e, d⟩ := hd.get t args[t] (by simp [List.getElem?_eq_getElem h])
  have e1 : ((⟨args'⟩ : Array Value) ++ Array.replicate (nt - (⟨args'⟩ : Array Value).size) undef).getD t undef = v' := by
   have : ((⟨args'⟩ : Array Value) ++ Array.replicate (nt - (⟨args'⟩ : Array Value).size) undef)[t]? = some v' := by
    rw [Array.getElem?_append_left (by rw [hs]; omega)]
    simpa using e
   rw [Array.getD_eq_getD_getElem?, this]
   rfl
  rw [e1]
  simpa [List.getD, List.getElem?_eq_getElem h] using d
 ·rw [if_neg (by omega), get2_all]
  have e1 : ((⟨args'⟩ : Array Value) ++ Array.replicate (nt - (⟨args'⟩ : Array Value).size) undef).getD t undef = undef := by
   by_cases h2 : t < nt
   ·have : ((⟨args'⟩ : Array Value) ++ Array.replicate (nt - (⟨args'⟩ : Array Value).size) undef)[t]? = some undef := by
     rw [Array.getElem?_append_right (by rw [hs]; omega), Array.getElem?_replicate, if_pos (by rw [hs]; omega)]
    rw [Array.getD_eq_getD_getElem?, this]
    rfl
   ·have : ((⟨args'⟩ : Array Value) ++ Array.replicate (nt - (⟨args'⟩ : Array Value).size) undef)[t]? = none := by
     apply Array.getElem?_eq_none
     rw [Array.size_append, Array.size_replicate, hs]
     omega
    rw [Array.getD_eq_getD_getElem?, this]
    rfl
  rw [e1]
  exact .tuple .nil
theorem resultsA_ok {σ : Sg} {tmps : Array Value} (hr : Rel σ H nx w) (he : EnvRel σ nt env tmps) :
  ∀ (rs : List ResultVar) (vs : List AVal), resultsA P env H rs = some vs →
   ∃ vs', DenL σ vs vs' ∧ (rs.mapM (fun | .tmp t => pure (tmps.getD t undef) | .cell a t => do loadVar t (← asAddr (tmps.getD a undef))) : Sem (List Value)).run P w = .ok vs' w
 | [], vs, h => by cases h; exact ⟨[], .nil, rfl⟩
 | .tmp t :: l, vs, h => by
  unfold resultsA at h
  split at h <;> try (cases h; done)
  rename_i vs1 hle h1
  cases h
  obtain ⟨vs', hd, hrun⟩ := resultsA_ok hr he l vs1 h1
  refine ⟨tmps.getD t undef :: vs', .cons (he.den t (Nat.lt_of_le_of_lt (Nat.le_of_ble_eq_true hle) (by decide))) hd, ?_⟩
  simp only [List.mapM_cons, Sem.run_bind, Sem.run_pure, Result.andThen_ok, hrun]
 | .cell a t :: l, vs, h => by
  unfold resultsA at h
  split at h <;> try (cases h; done)
  rename_i vs1 hle h1
  split at h <;> try (cases h; done)
  rename_i v hv
  cases h
  obtain ⟨vs', hd, hrun⟩ := resultsA_ok hr he l vs1 h1
  have hda := he.den a (Nat.lt_of_le_of_lt (Nat.le_of_ble_eq_true hle) (by decide))
  obtain ⟨x', dx, hx⟩ := aLoad_ok (P := P) hr hda hv
  refine ⟨x' :: vs', .cons dx hd, ?_⟩
  have isptr : ∃ ad, tmps.getD a undef = .pointer (some ad) := by
   unfold aLoad at hv
   split at hv <;> try (cases hv; done)
   all_goals
    rename_i heq
    rw [heq] at hda
    cases hq : tmps.getD a undef <;> rw [hq] at hda <;> cases hda
    exact ⟨_, rfl⟩
  obtain ⟨ad, had⟩ := isptr
  rw [had] at hx
  have hx' : (loadVar t ad).run P w = .ok x' w := by simpa [Instr.loadAt, Instr.sureAddr] using hx
  have hasa : (asAddr (tmps.getD a undef)).run P w = .ok ad w := by rw [had]; rfl
  simp only [List.mapM_cons, Sem.run_bind, hasa, Result.andThen_ok, hx', hrun, Sem.run_pure]
theorem results_ok {σ : Sg} {tmps : Array Value} {fn : Func} {vs : List AVal} (hr : Rel σ H nx w) (he : EnvRel σ nt env tmps)
  (h : resultsA P env H fn.results.toList = some vs) : ∃ v', Den σ (oneOf vs) v' ∧ (results fn tmps).run P w = .ok v' w := by
 obtain ⟨vs', hd, hrun⟩ := resultsA_ok hr he _ vs h
 have hm : (fn.results.mapM (fun | .tmp t => pure (tmps.getD t undef) | .cell a t => do loadVar t (← asAddr (tmps.getD a undef))) : Sem (Array Value)).run P w = .ok ⟨vs'⟩ w := by
  rw [Array.mapM_eq_mapM_toList]
  simp only [Sem.run_map]
  rw [hrun]
  rfl
 refine ⟨if h : (⟨vs'⟩ : Array Value).size = 1 then (⟨vs'⟩ : Array Value)[0] else .tuple ⟨vs'⟩, ?_, ?_⟩
 ·cases hd with
  | nil => exact .tuple .nil
  | cons h1 t1 => cases t1 with
   | nil => exact h1
   | cons h2 t2 => exact .tuple (.cons h1 (.cons h2 t2))
 ·unfold results
  rw [Sem.run_bind]
  exact (congrArg (fun r : Result (Array Value) => r.andThen fun vs w' => Sem.run P (pure (if h : vs.size = 1 then vs[0] else .tuple vs)) w') hm).trans rfl
theorem settle_ok {σ : Sg} {m : AMode} {u : FrameMode} (h : MRel σ m u) : MRel σ (settleA m) (settle u) := by
 cases m with
 | returning => cases u <;> first | exact h.elim | trivial
 | panicking l =>
  cases u with
  | run => exact h.elim
  | returning => exact h.elim
  | panicking c =>
   have hc : Chain σ l c := h
   cases hc with
   | nil => exact Chain.nil
   | @cons v r p l c hv hr hg t =>
    obtain ⟨pv, pr, pg⟩ := p
    simp only at hr hg hv
    subst hr
    subst hg
    cases pr with
    | false => exact Chain.cons hv rfl rfl t
    | true =>
     have all : ∀ {l : List (AVal × Bool)} {c : List PanicEntry}, Chain σ l c → c.dropWhile (!·.goexit) = [] := by
      intro l c hch
      induction hch with
      | nil => rfl
      | cons hv hr hg t ih => simp [hg, ih]
     show MRel σ .returning (settle (.panicking ({ v := pv, recovered := true, goexit := false } :: c)))
     simp only [settle, all t]
     trivial
theorem raised_ok {σ : Sg} {m : AMode} {u : FrameMode} {l : List (AVal × Bool)} {c : List PanicEntry} (h : MRel σ m u) (hc : Chain σ l c) : MRel σ (raisedA m l) (raised u c) := by
 cases m with
 | returning => cases u <;> first | exact h.elim | exact hc
 | panicking l0 => cases u <;> first | exact h.elim | exact hc.append h
theorem mode_ne {σ : Sg} {m : AMode} {u : FrameMode} (h : MRel σ m u) : u ≠ .run := by
 rintro rfl
 cases m <;> exact h.elim
end Go.Ev
end
section
namespace Go.Ev
variable [GTab] {w : World} {ops : Array Oper} {nt : Nat}
def Took (P : Program) (ops : Array Oper) (o : Oper) (a : Act) (w : World) (next : Act → World → Prop) (Q : Exit → Act → World → Prop) : Prop :=
 if Region.wanted o (yielded ops a.tmps) = true then o.wp P a w next Q ∨ (o.asks P a w ∧ LetsOut Q) else next (a.put o.dst undef) w
noncomputable def left (ops : Array Oper) (listed : Array Bool) : Nat := (List.range ops.size).countP fun i => !listed.getD i false
theorem countP_lt {α : Type} {p q : α → Bool} : ∀ {l : List α}, (∀ x, x ∈ l → p x = true → q x = true) → (∃ x, x ∈ l ∧ p x = false ∧ q x = true) → l.countP p < l.countP q
 | [], _, ⟨x, hx, _⟩ => by cases hx
 | y :: l, h, ⟨x, hx, hp, hq⟩ => by
  rw [List.countP_cons, List.countP_cons]
  have mono : l.countP p ≤ l.countP q := List.countP_mono_left fun z hz => h z (List.mem_cons_of_mem _ hz)
  have hy := h y (List.mem_cons_self ..)
  rcases List.mem_cons.1 hx with rfl | hx
  ·rw [hp, hq]; simp; omega
  ·have ih := countP_lt (fun z hz => h z (List.mem_cons_of_mem _ hz)) ⟨x, hx, hp, hq⟩
   cases e1 : p y with
   | false => simp; omega
   | true => rw [hy e1]; simp; omega
theorem left_set {listed : Array Bool} {i : Nat} (hs : listed.size = ops.size) (hi : i < ops.size) (hn : ¬ isL listed i) : left ops (listed.setIfInBounds i true) < left ops listed := by
 refine countP_lt (fun x _ hx => ?_) ⟨i, List.mem_range.2 hi, ?_, ?_⟩
 ·cases e : listed.getD x false with
  | false => rfl
  | true => have := (isL_set (listed := listed) (i := i) (j := x) (by omega)).2 (.inr e); unfold isL at this; rw [this] at hx; cases hx
 ·have := (isL_set (listed := listed) (i := i) (j := i) (by omega)).2 (.inl rfl); unfold isL at this; rw [this]; rfl
 ·cases e : listed.getD i false with
  | false => rfl
  | true => exact (hn e).elim
theorem left_zero {listed : Array Bool} (h : left ops listed = 0) : ∀ i, i < ops.size → isL listed i := by
 intro i hi
 unfold left at h
 rw [List.countP_eq_zero] at h
 have := h i (List.mem_range.2 hi)
 unfold isL
 cases e : listed.getD i false with
 | true => rfl
 | false => rw [e] at this; simp at this
theorem mem_ready {listed : Array Bool} {i : Nat} (hs : listed.size = ops.size) : i ∈ Region.ready .any ops listed ↔ ∃ o, ops[i]? = some o ∧ ¬ isL listed i ∧ ∀ e, e ∈ o.after.toList → Region.binds .any e = true → isL listed e.on := by
 unfold Region.ready
 rw [List.mem_filter, List.mem_range]
 constructor
 ·rintro ⟨h1, h2⟩
  have hi : ops[i]? = some ops[i] := Array.getElem?_eq_getElem h1
  rw [hi, Bool.and_eq_true] at h2
  obtain ⟨h2, h3⟩ := h2
  refine ⟨_, hi, ?_, ?_⟩
  ·intro h
   unfold isL at h
   have : listed.getD i true = true := by
    rw [Array.getD_eq_getD_getElem?] at h ⊢
    rw [Array.getElem?_eq_getElem (by omega)] at h ⊢
    exact h
   rw [this] at h2
   cases h2
  ·intro e he hb
   simp only [Option.map_some, Option.getD_some, Array.all_eq_true'] at h3
   have := h3 e (by simpa using he)
   rw [hb] at this
   simpa [isL] using this
 ·rintro ⟨o, ho, h1, h2⟩
  have hlt : i < ops.size := (Array.getElem?_eq_some_iff.1 ho).1
  refine ⟨hlt, ?_⟩
  rw [ho, Bool.and_eq_true]
  constructor
  ·unfold isL at h1
   rw [Array.getD_eq_getD_getElem?] at h1 ⊢
   rw [Array.getElem?_eq_getElem (by omega)] at h1 ⊢
   simpa using h1
  ·simp only [Option.map_some, Option.getD_some, Array.all_eq_true']
   intro e he
   have := h2 e (by simpa using he)
   cases hb : Region.binds .any e with
   | false => rfl
   | true => simpa [isL] using this hb
theorem ready_nil {as : List Nat} (F : OpsFact nt ops as) {listed : Array Bool} (hs : listed.size = ops.size) (h : Region.ready .any ops listed = []) : ∀ i, i < ops.size → isL listed i := by
 intro i
 induction i using Nat.strongRecOn with
 | _ i ih =>
  intro hi
  refine Classical.byContradiction fun hn => ?_
  have ho : ops[i]? = some ops[i] := Array.getElem?_eq_getElem hi
  have : i ∈ Region.ready .any ops listed := (mem_ready hs).2 ⟨_, ho, hn, fun e he hb => by
   have := F.edge i _ ho e he hb
   exact ih e.on this (by omega)⟩
  rw [h] at this
  cases this
theorem chkS_pred {as : List Nat} : ∀ {rest : List Stage} {p : Nat} {past : List Nat}, chkS ops as rest (some p) past = true → ∀ i, i ∈ named rest → ∃ j, (j = p ∨ j ∈ named rest) ∧ bit (as.getD i 0) j = true
 | [], _, _, _, i, hi => by cases hi
 | (e, L, A) :: rest, p, past, h, i, hi => by
  unfold chkS at h
  split at h <;> try (cases h; done)
  rename_i o ho hp
  split at h <;> try (cases h; done)
  rename_i hf hL
  split at h <;> try (cases h; done)
  split at h <;> try (cases h; done)
  unfold named at hi
  rcases List.mem_cons.1 hi with rfl | hi
  ·exact ⟨p, .inl rfl, hp⟩
  ·rcases List.mem_append.1 hi with hi | hi
   ·exact ⟨e, .inr (by unfold named; exact List.mem_cons_self ..), allL_ok hL i hi⟩
   ·obtain ⟨j, hj, hb⟩ := chkS_pred h i hi
    refine ⟨j, .inr ?_, hb⟩
    unfold named
    rcases hj with rfl | hj
    ·exact List.mem_cons_self ..
    ·exact List.mem_cons_of_mem _ (List.mem_append_right _ hj)
theorem blank_get (hn : nt ≤ 256) : ∀ (l : List Oper) (env : Env) (t : Nat), t < 256 → (∀ o, o ∈ l → dstOK nt o.dst = true) → get2 t (blank l env) = .und ∨ ((∀ o, o ∈ l → o.dst ≠ some t) ∧ get2 t (blank l env) = get2 t env)
 | [], env, t, _, _ => .inr ⟨fun o ho => (by cases ho), rfl⟩
 | o :: l, env, t, ht, hd => by
  have e : blank (o :: l) env = blank l (put o.dst .und env) := rfl
  rw [e]
  rcases blank_get hn l (put o.dst .und env) t ht (fun q hq => hd q (List.mem_cons_of_mem _ hq)) with h | ⟨h1, h2⟩
  ·exact .inl h
  ·by_cases ed : o.dst = some t
   ·refine .inl ?_
    rw [h2, ed]; exact get2_put_same
   ·refine .inr ⟨fun q hq => ?_, ?_⟩
    ·rcases List.mem_cons.1 hq with rfl | hq
     ·exact ed
     ·exact h1 q hq
    ·rw [h2, get2_put' (hd o (List.mem_cons_self ..)) hn ht ed]
theorem isL_none {n i : Nat} : ¬ isL (Array.replicate n false) i := by
 unfold isL
 rw [Array.getD_eq_getD_getElem?, Array.getElem?_replicate]
 split <;> simp
theorem Rel.more {σ : Sg} {H : Heap} {nx nx' : Nat} (h : Rel σ H nx w) (hn : nx ≤ nx') (hl : nx' ≤ 1048576) : Rel σ H nx' w :=
 ⟨hl, fun b cb sz e => ⟨Nat.lt_of_lt_of_le (h.dom b cb sz e).1 hn, (h.dom b cb sz e).2⟩, h.obj, h.sep, h.sup, h.old, h.glob⟩
theorem Rel.nothing (hg : Glob (fun _ => none) w) : Rel (fun _ => none) (all5 none) 0 w :=
 ⟨(by omega), (fun _ _ _ h => by cases h), (fun _ _ _ _ _ h => by cases h), (fun _ _ _ _ _ _ _ _ _ h => by cases h), (fun _ _ _ _ _ _ _ h => by cases h), (fun _ _ _ _ h => by cases h), hg⟩
end Go.Ev
end
section
namespace Go.Ev
variable [GTab] {P : Program} {H : Heap} {nx : Nat} {w : World} {ops : Array Oper} {o : Oper} {nt : Nat} {env : Env}
def TriC (P : Program) (f : FuncId) (args : List AVal) (H : Heap) (nx : Nat) (K : KEnd) : Prop :=
 ∀ (σ : Sg) (w : World) (args' : List Value) (R : Ending → World → Prop), Rel σ H nx w → DenL σ args args' →
  (∀ e H' nx' σ' w' en, K e H' nx' = true → Rel σ' H' nx' w' → Ext σ σ' H H' nx nx' w w' → EndRel σ' e en → R en w') → Calls P f ⟨args'⟩ w R
def CallS (P : Program) (call : CallK) : Prop := ∀ f args H nx K, call f args H nx K = true → TriC P f args H nx K
theorem upon_stepK {call : CallK} {dfs : Dfs} {rc : Option AMode} {r : ARes} {k : Env → Heap → Nat → Dfs → Option AMode → Bool} {K : Kont}
  (hc : CallS P call) (hok : OpOK P o (aev env) H nx r) (hdst : dstOK nt o.dst = true) (hnr : r ≠ .rcv) (ht : takeK call o.dst r env H nx dfs rc k K = true)
  {σ : Sg} {w : World} {a : Act} {next : Act → World → Prop} {Q : Exit → Act → World → Prop} (hr : Rel σ H nx w) (ha : ARel σ nt env dfs a)
  (hn : ∀ env1 H1 nx1 dfs1 σ1 w1 a1, k env1 H1 nx1 dfs1 rc = true → Rel σ1 H1 nx1 w1 → Ext σ σ1 H H1 nx nx1 w w1 → ARel σ1 nt env1 dfs1 a1 → next a1 w1)
  (hp : ∀ l H1 nx1 σ1 w1 c, K (.pan l) env H1 nx1 dfs rc = true → Rel σ1 H1 nx1 w1 → Ext σ σ1 H H1 nx nx1 w w1 → Chain σ1 l c → Q (.panic c) a w1) :
  NotRec P o a w ∧ o.wp P a w next Q := by
 cases r with
 | val v H' nx' =>
  obtain ⟨σ', w', v', R, E, D, hrun⟩ := hok σ w a.eval hr ha.env.aev
  rcases hrun with hrun | ⟨hrun, rfl⟩
  ·exact ⟨(fun w2 e => by rw [hrun] at e; cases e), by unfold Oper.wp; rw [hrun]; exact hn _ _ _ _ σ' w' _ ht R E ((ha.mono E.sub).put hdst D)⟩
  ·exact ⟨(fun w2 e => by rw [hrun] at e; cases e), by unfold Oper.wp; rw [hrun]; exact hn _ _ _ _ σ' w' _ ht R E ((ha.mono E.sub).put hdst D)⟩
 | call f args =>
  have tri := hc f args H nx _ ht
  obtain ⟨args', hl, hrun⟩ := hok σ w a.eval hr ha.env.aev
  refine ⟨(fun w2 e => by rw [hrun] at e; cases e), ?_⟩
  unfold Oper.wp
  rw [hrun]
  show Calls P f ⟨args'⟩ w _
  refine tri σ w args' _ hr hl fun e H' nx' σ' w' en hk R E he => ?_
  cases e with
  | ret v =>
   cases en with
   | returned v' => exact hn _ _ _ _ σ' w' _ hk R E ((ha.mono E.sub).put hdst he)
   | panicked c => exact he.elim
   | outgrown => exact he.elim
  | pan l =>
   cases en with
   | returned v' => exact he.elim
   | panicked c => exact hp l H' nx' σ' w' c hk R E he
   | outgrown => exact he.elim
 | dfr f args =>
  obtain ⟨d, hd, hrun⟩ := hok σ w a.eval hr ha.env.aev
  refine ⟨(fun w2 e => by rw [hrun] at e; cases e), ?_⟩
  unfold Oper.wp
  rw [hrun]
  refine hn _ _ _ _ σ w _ ht hr (Ext.refl _ _ _ _) ⟨?_, ?_⟩
  ·have h1 : EnvRel σ nt (put o.dst (.tuple []) env) (a.put o.dst undef).tmps := ha.env.put hdst (.tuple .nil)
   have e : (({ a with defers := d :: a.defers } : Act).put o.dst undef).tmps = (a.put o.dst undef).tmps := by cases o.dst <;> rfl
   rw [e]; exact h1
  ·have e : (({ a with defers := d :: a.defers } : Act).put o.dst undef).defers = d :: a.defers := by cases o.dst <;> rfl
   rw [e]; exact .cons hd ha.dfs
 | pan v =>
  obtain ⟨v', dv, hrun⟩ := hok σ w a.eval hr ha.env.aev
  refine ⟨(fun w2 e => by rw [hrun] at e; cases e), ?_⟩
  unfold Oper.wp
  rw [hrun]
  exact hp [(v, false)] H nx σ w [{ v := v', recovered := false }] ht hr (Ext.refl _ _ _ _) (.cons dv rfl rfl .nil)
 | rcv => exact (hnr rfl).elim
def PostN (nt : Nat) (call : CallK) (K : FX) (σ : Sg) (H : Heap) (nx : Nat) (w : World) (Q : Exit → Act → World → Prop) : Prop :=
 ∀ ex env' st' σ' w' a' e, K ex env' st' = true → st'.call = call → st'.rc = none → Rel σ' st'.H st'.nx w' → Ext σ σ' H st'.H nx st'.nx w w' → ARel σ' nt env' st'.dfs a' → ExRel σ' ex e → Q e a' w'
def PostS (nt : Nat) (call : CallK) (K : FX) (σ : Sg) (H : Heap) (nx : Nat) (w : World) (c₀ : Frame) (cs : List Frame) (Q : Exit → Act → List Frame → World → Prop) : Prop :=
 ∀ ex env' st' m' σ' w' a' e u', K ex env' st' = true → st'.call = call → st'.rc = some m' → Rel σ' st'.H st'.nx w' → Ext σ σ' H st'.H nx st'.nx w w' → ARel σ' nt env' st'.dfs a' → ExRel σ' ex e → MRel σ' m' u' →
  Q e a' ({ c₀ with mode := u' } :: cs) w'
theorem PostN.from {call : CallK} {K : FX} {σ σ1 : Sg} {H H1 : Heap} {nx nx1 : Nat} {w w1 : World} {Q : Exit → Act → World → Prop} (h : PostN nt call K σ H nx w Q) (E : Ext σ σ1 H H1 nx nx1 w w1) :
  PostN nt call K σ1 H1 nx1 w1 Q := fun ex env' st' σ' w' a' e hk hc hr R E2 A X => h ex env' st' σ' w' a' e hk hc hr R (E.trans E2) A X
theorem PostS.from {call : CallK} {K : FX} {σ σ1 : Sg} {H H1 : Heap} {nx nx1 : Nat} {w w1 : World} {c₀ : Frame} {cs : List Frame} {Q : Exit → Act → List Frame → World → Prop} (h : PostS nt call K σ H nx w c₀ cs Q) (E : Ext σ σ1 H H1 nx nx1 w w1) :
  PostS nt call K σ1 H1 nx1 w1 c₀ cs Q := fun ex env' st' m' σ' w' a' e u' hk hc hr R E2 A X M => h ex env' st' m' σ' w' a' e u' hk hc hr R (E.trans E2) A X M
def CodeN (P : Program) (nt : Nat) (c : Code) (f : Env → St → FX → Bool) : Prop :=
 ∀ env st K, CallS P st.call → st.rc = none → f env st K = true → ∀ σ w a Q, Rel σ st.H st.nx w → ARel σ nt env st.dfs a → PostN nt st.call K σ st.H st.nx w Q → c.wp P Q a w
def CodeS (P : Program) (nt : Nat) (c : Code) (f : Env → St → FX → Bool) : Prop :=
 ∀ env st K m, CallS P st.call → st.rc = some m → f env st K = true → ∀ σ w a u (c₀ : Frame) cs Q, Rel σ st.H st.nx w → ARel σ nt env st.dfs a → MRel σ m u →
  PostS nt st.call K σ st.H st.nx w c₀ cs Q → c.wpS P Q a ({ c₀ with mode := u } :: cs) w
theorem cOps_none : ∀ (l : List Oper) (env : Env) (st : St) (K : FX), CallS P st.call → st.rc = none → (cOps P nt ops l).fn env st K = true →
  ∀ σ w a Q, Rel σ st.H st.nx w → ARel σ nt env st.dfs a → PostN nt st.call K σ st.H st.nx w Q → wpList P ops Q l a w
 | [], env, st, K, _, hrc, h, σ, w, a, Q, hr, ha, hQ => hQ .normal env st σ w a .normal h rfl hrc hr (Ext.refl _ _ _ _) ha trivial
 | o :: l, env, st, K, hc, hrc, h, σ, w, a, Q, hr, ha, hQ => by
  unfold cOps at h
  cases e1 : cOp P nt ops o with | mk f => cases e2 : cOps P nt ops l with | mk g =>
   rw [e1, e2] at h
   have h1 : (cOp P nt ops o).fn env st (fun env st => g env st K) K = true := by rw [e1]; exact h
   have h' := cOp_ok h1
   have next : ∀ env1 H1 nx1 dfs1 σ1 w1 a1, unc st.call (fun env st => g env st K) env1 H1 nx1 dfs1 st.rc = true → Rel σ1 H1 nx1 w1 → Ext σ σ1 st.H H1 st.nx nx1 w w1 → ARel σ1 nt env1 dfs1 a1 → wpList P ops Q l a1 w1 :=
    fun env1 H1 nx1 dfs1 σ1 w1 a1 hk R1 E1 A1 =>
     cOps_none l env1 ⟨st.call, H1, nx1, dfs1, st.rc⟩ K hc hrc (by rw [e2]; exact hk) σ1 w1 a1 Q R1 A1 (hQ.from E1)
   unfold opK at h'
   split at h' <;> first | (exact Bool.noConfusion h') | skip
   ·rename_i hdst hw
    split at h' <;> first | (exact Bool.noConfusion h') | skip
    rename_i r hop
    have hnr : r ≠ .rcv := by
     rintro rfl
     rw [hrc] at h'
     exact Bool.noConfusion h'
    unfold wpList
    rw [if_pos (wanted_ok hw ha.env)]
    refine .inl (upon_stepK hc (aop_ok hop) hdst hnr h' hr ha next fun lp H1 nx1 σ1 w1 c hk R1 E1 C1 => ?_).2
    exact hQ (.pan lp) env ⟨st.call, H1, nx1, st.dfs, st.rc⟩ σ1 w1 a (.panic c) hk rfl hrc R1 E1 (ha.mono E1.sub) C1
   ·rename_i hdst hw
    exact opK_skip (wanted_ok hw ha.env) (next _ _ _ _ σ w _ h' hr (Ext.refl _ _ _ _) (ha.put hdst (.tuple .nil)))
theorem cOps_some : ∀ (l : List Oper) (n : Nat) (env : Env) (st : St) (K : FX) (m : AMode), (∀ j, l[j]? = ops[n + j]?) → CallS P st.call → st.rc = some m → (cOps P nt ops l).fn env st K = true →
  ∀ σ w a u (c₀ : Frame) cs Q, Rel σ st.H st.nx w → ARel σ nt env st.dfs a → MRel σ m u → PostS nt st.call K σ st.H st.nx w c₀ cs Q → wpOpsS P ops Q (List.range' n l.length) a ({ c₀ with mode := u } :: cs) w
 | [], n, env, st, K, m, _, _, hrc, h, σ, w, a, u, c₀, cs, Q, hr, ha, hm, hQ => hQ .normal env st m σ w a .normal u h rfl hrc hr (Ext.refl _ _ _ _) ha trivial hm
 | o :: l, n, env, st, K, m, hl, hc, hrc, h, σ, w, a, u, c₀, cs, Q, hr, ha, hm, hQ => by
  have ho : ops[n]? = some o := by simpa using (hl 0).symm
  have hl' : ∀ j, l[j]? = ops[n + 1 + j]? := fun j => by have := hl (j + 1); simpa [Nat.add_assoc, Nat.add_comm 1 j] using this
  unfold cOps at h
  cases e1 : cOp P nt ops o with | mk f => cases e2 : cOps P nt ops l with | mk g =>
   rw [e1, e2] at h
   have h1 : (cOp P nt ops o).fn env st (fun env st => g env st K) K = true := by rw [e1]; exact h
   have h' := cOp_ok h1
   have next : ∀ env1 H1 nx1 dfs1 rc1 m1 σ1 w1 a1 u1, rc1 = some m1 → unc st.call (fun env st => g env st K) env1 H1 nx1 dfs1 rc1 = true → Rel σ1 H1 nx1 w1 → Ext σ σ1 st.H H1 st.nx nx1 w w1 → ARel σ1 nt env1 dfs1 a1 → MRel σ1 m1 u1 →
     wpOpsS P ops Q (List.range' (n + 1) l.length) a1 ({ c₀ with mode := u1 } :: cs) w1 :=
    fun env1 H1 nx1 dfs1 rc1 m1 σ1 w1 a1 u1 hrc1 hk R1 E1 A1 M1 =>
     cOps_some l (n + 1) env1 ⟨st.call, H1, nx1, dfs1, rc1⟩ K m1 hl' hc hrc1 (by rw [e2]; exact hk) σ1 w1 a1 u1 c₀ cs Q R1 A1 M1 (hQ.from E1)
   rw [List.length_cons, List.range'_succ]
   simp only [wpOpsS, ho]
   unfold opK at h'
   split at h' <;> first | (exact Bool.noConfusion h') | skip
   ·rename_i hdst hw
    split at h' <;> first | (exact Bool.noConfusion h') | skip
    rename_i r hop
    rw [if_pos (wanted_ok hw ha.env)]
    by_cases hrcv : r = .rcv
    ·subst hrcv
     have hok := aop_ok hop
     have hrun := hok σ w a.eval hr ha.env.aev
     simp only [hrun]
     unfold takeK at h'
     split at h' <;> first | (rename_i q; cases q; done) | skip
     rw [hrc] at h'
     split at h' <;> first | (exact Bool.noConfusion h') | skip
     ·rename_i v older hm0
      cases hm0
      cases u with
      | run => exact hm.elim
      | returning => exact hm.elim
      | panicking ch =>
       cases hm with
       | @cons _ _ p _ l' hv hrr hg t =>
        obtain ⟨pv, pr, pg⟩ := p
        simp only at hv hrr hg
        subst hrr
        subst hg
        simp only [recoverD]
        exact next _ _ _ _ _ _ σ w _ (.panicking ({ v := pv, recovered := true } :: l')) rfl h' hr (Ext.refl _ _ _ _) (ha.put hdst hv) (.cons hv rfl rfl t)
     ·rename_i hm0
      cases hm0
      cases u with
      | run => exact hm.elim
      | panicking ch => exact hm.elim
      | returning =>
       simp only [recoverD]
       exact next _ _ _ _ _ _ σ w _ .returning rfl h' hr (Ext.refl _ _ _ _) (ha.put hdst .nilIface) trivial
    ·obtain ⟨hnr, hwp⟩ := upon_stepK (next := fun a' w' => wpOpsS P ops Q (List.range' (n + 1) l.length) a' ({ c₀ with mode := u } :: cs) w') (Q := fun e a' w' => Q e a' ({ c₀ with mode := u } :: cs) w')
      hc (aop_ok hop) hdst hrcv h' hr ha
      (fun env1 H1 nx1 dfs1 σ1 w1 a1 hk R1 E1 A1 => next env1 H1 nx1 dfs1 st.rc m σ1 w1 a1 u hrc hk R1 E1 A1 (hm.mono E1.sub))
      (fun lp H1 nx1 σ1 w1 c hk R1 E1 C1 => hQ (.pan lp) env ⟨st.call, H1, nx1, st.dfs, st.rc⟩ m σ1 w1 a (.panic c) u hk rfl hrc R1 E1 (ha.mono E1.sub) C1 (hm.mono E1.sub))
     unfold Oper.wp at hwp
     split
     ·rename_i w2 e2; exact (hnr w2 e2).elim
     ·exact hwp
   ·rename_i hdst hw
    rw [if_neg (by rw [wanted_ok hw ha.env]; simp)]
    exact next _ _ _ _ st.rc m σ w _ u hrc h' hr (Ext.refl _ _ _ _) (ha.put hdst (.tuple .nil)) hm
end Go.Ev
namespace Go.Ev
variable [GTab] {P : Program} {H : Heap} {nx : Nat} {w : World} {ops : Array Oper} {o : Oper} {nt : Nat} {env : Env}
theorem actK_okK {call : CallK} {dfs : Dfs} {rc : Option AMode} {k : Env → Heap → Nat → Bool} {K : Kont} {env0 : Env}
  (hc : CallS P call) (h : actK P call ops o env H nx dfs rc k K env0 = true) {envm : Env} {σ : Sg} {w : World} {a : Act} {next : Act → World → Prop} {Q : Exit → Act → World → Prop}
  (hr : Rel σ H nx w) (M : EnvRel σ nt envm a.tmps) (e1 : wantedA ops o.guard envm = wantedA ops o.guard env) (e2 : ∀ x ∈ o.op.operands, aev envm x = aev env x)
  (hn : ∀ v H1 nx1 σ1 w1 v', k (put o.dst v env) H1 nx1 = true → Rel σ1 H1 nx1 w1 → Ext σ σ1 H H1 nx nx1 w w1 → Den σ1 v v' → next (a.put o.dst v') w1)
  (hp : ∀ l H1 nx1 σ1 w1 c, K (.pan l) env0 H1 nx1 dfs rc = true → Rel σ1 H1 nx1 w1 → Ext σ σ1 H H1 nx nx1 w w1 → Chain σ1 l c → Q (.panic c) a w1) : Took P ops o a w next Q := by
 unfold actK at h
 split at h <;> try (cases h; done)
 ·rename_i hw
  unfold Took
  rw [if_pos (wanted_ok (e1.trans hw) M)]
  split at h <;> try (cases h; done)
  ·rename_i v H1 nx1 hop
   obtain ⟨σ', w', v', R, E, D, hrun⟩ := aop_ok ((aop_congr e2).trans hop) σ w a.eval hr M.aev
   refine .inl ?_
   unfold Oper.wp
   rcases hrun with hrun | ⟨hrun, rfl⟩
   ·rw [hrun]; exact hn v H1 nx1 σ' w' _ h R E D
   ·rw [hrun]; exact hn v H1 nx1 σ' w' _ h R E D
  ·rename_i f args hop
   have tri := hc f args H nx _ h
   obtain ⟨args', hl, hrun⟩ := aop_ok ((aop_congr e2).trans hop) σ w a.eval hr M.aev
   refine .inl ?_
   unfold Oper.wp
   rw [hrun]
   show Calls P f ⟨args'⟩ w _
   refine tri σ w args' _ hr hl fun e H' nx' σ' w' en hk R E he => ?_
   cases e with
   | ret v =>
    cases en with
    | returned v' => exact hn v H' nx' σ' w' _ hk R E he
    | panicked c => exact he.elim
    | outgrown => exact he.elim
   | pan l =>
    cases en with
    | returned v' => exact he.elim
    | panicked c => exact hp l H' nx' σ' w' c hk R E he
    | outgrown => exact he.elim
  ·rename_i v hop
   obtain ⟨v', dv, hrun⟩ := aop_ok ((aop_congr e2).trans hop) σ w a.eval hr M.aev
   refine .inl ?_
   unfold Oper.wp
   rw [hrun]
   exact hp [(v, false)] H nx σ w [{ v := v', recovered := false }] h hr (Ext.refl _ _ _ _) (.cons dv rfl rfl .nil)
 ·rename_i hw
  unfold Took
  rw [if_neg (by rw [wanted_ok (e1.trans hw) M]; simp)]
  exact hn (.tuple []) H nx σ w undef h hr (Ext.refl _ _ _ _) (.tuple .nil)
theorem named_append : ∀ (a b : List Stage), named (a ++ b) = named a ++ named b
 | [], b => rfl
 | (e, L, A) :: a, b => by
  rw [List.cons_append]
  simp only [named, List.cons_append, List.append_assoc, named_append a b]
theorem Inv.act {call : CallK} {as : List Nat} {res : Nat} {σ0 : Sg} {H0 : Heap} {w0 : World} {dfs : Dfs} {rc : Option AMode} {past past' : List Nat} {e : Nat} {L A : List Nat} {R : List Stage} {oe : Oper} {listed : Array Bool} {σ : Sg} {a : Act} {k : Env → Heap → Nat → Bool} {K : Kont}
  (hc : CallS P call) (F : OpsFact nt ops as) (hn : nt ≤ 256) (hlim : res + ops.size ≤ 1048576) (I : Inv P nt ops as res σ0 H0 w0 dfs past ((e, L, A) :: R) env H nx listed σ w a) (hoe : ops[e]? = some oe) (he : e ∉ named R) (hr : ∀ j, bit (as.getD e 0) j = true → isL listed j)
  (hfresh : freshOf ops past e oe = true) (hL : allL (fun i => bit (as.getD i 0) e) L = true) (hF : chkF ops L past = some past') (hA : chkA ops (as.getD e 0) A past' = true) (h' : actK P call ops oe env H nx dfs rc k K env = true) {RN : Env → Heap → Nat → Prop}
  (hnext : ∀ env1 H1 nx1, k env1 H1 nx1 = true → ∃ kf : Env → Heap → Bool, floatsK P ops res nx1 kf L env1 H1 = true ∧ ∀ env2 H2, kf env2 H2 = true → againK P ops env2 H2 nx1 A = true ∧ RN env2 H2 nx1)
  {Q : Exit → Act → World → Prop} {next : Act → World → Prop}
  (hK : ∀ env2 H2 nx2 σ1 w1 a1, RN env2 H2 nx2 → Inv P nt ops as res σ0 H0 w0 dfs past' R env2 H2 nx2 (listed.setIfInBounds e true) σ1 w1 a1 → (∀ t, t < 256 → (∀ (j : Nat) (q : Oper), ops[j]? = some q → q.dst ≠ some t) → get2 t env2 = get2 t env) → next a1 w1)
  (hP : ∀ l H1 nx1 σ1 w1 c, K (.pan l) env H1 nx1 dfs rc = true → Rel σ1 H1 nx1 w1 → Ext σ0 σ1 H0 H1 res nx1 w0 w1 → (∀ t, t < 256 → (∀ (j : Nat) (q : Oper), ops[j]? = some q → q.dst ≠ some t) → Den σ1 (get2 t env) (a.tmps.getD t undef)) → DfsRel σ1 dfs a.defers → a.tmps.size = nt → Chain σ1 l c → Q (.panic c) a w1) :
  wpOp P ops Q e next a w := by
 have hde := F.dst e oe hoe
 have helt : e < ops.size := (Array.getElem?_eq_some_iff.1 hoe).1
 have pastiff := chkF_past hF
 have eun : ¬ isL listed e := I.todo e (by unfold named; exact List.mem_cons_self ..)
 have Lun : ∀ j, j ∈ L → ¬ isL listed j := fun j hj => I.todo j (by unfold named; exact List.mem_cons_of_mem _ (List.mem_append_left _ hj))
 have Lne : ∀ j, j ∈ L → j ≠ e := fun j hj q => by
  subst q
  have := F.lt j oe hoe j (allL_ok hL j hj)
  omega
 have Llt : ∀ j, j ∈ L → j < ops.size := fun j hj => by
  obtain ⟨o, ho, _⟩ := chkF_cls hF j hj
  exact (Array.getElem?_eq_some_iff.1 ho).1
 have S : ∀ j, isL (listed.setIfInBounds e true) j ↔ (j = e ∨ isL listed j) := fun j => isL_set (by rw [I.size]; exact helt)
 obtain ⟨envm, M, hw, hx⟩ := I.view F hn hoe hr
 unfold wpOp
 rw [hoe]
 refine actK_okK hc h' I.rel M hw hx (fun v H1 nx1 σ1 w1 v' hk R' E D => ?_) (fun l H1 nx1 σ1 w1 c hk R' E C => ?_)
 ·obtain ⟨kf, hk1, hk4⟩ := hnext _ H1 nx1 hk
  obtain ⟨env2, H2, hk2, b1, b2, b3, b4, b5⟩ := floatsK_ok F hn hlim L past past' _ H1 hF hk1
  obtain ⟨hag, hk3⟩ := hk4 env2 H2 hk2
  have hnx := E.le
  have hpl := I.lim
  have pend1 : ∀ j, j < ops.size → ¬ isL listed j → σ1 (res + j) = none ∧ get5 (res + j) H1 = get5 (res + j) H := fun j hj hnl => E.pend (res + j) (by omega) (I.pend j hj hnl)
  refine hK env2 H2 nx1 σ1 w1 _ hk3 ⟨?_, ?_, ?_, ?_, ?_, ?_, ?_, ?_, ?_, ?_, ?_, ?_, ?_⟩ fun t ht hno => by rw [b1 t ht fun j q _ hq => hno j q hq, get2_put' hde hn ht (hno e oe hoe)]
  ·rw [Array.size_setIfInBounds]; exact I.size
  ·cases hdst : oe.dst with
   | none => exact I.tsize
   | some d => show (a.tmps.setIfInBounds d v').size = nt; rw [Array.size_setIfInBounds]; exact I.tsize
  ·intro j k hj hb
   rw [S] at hj ⊢
   rcases hj with rfl | hj
   ·exact .inr (hr k hb)
   ·exact .inr (I.closed j k hj hb)
  ·intro j hj hlj
   rw [S] at hlj
   have hj' : j ∈ named ((e, L, A) :: R) := by unfold named; exact List.mem_cons_of_mem _ (List.mem_append_right _ hj)
   rcases hlj with rfl | hlj
   ·exact he hj
   ·exact I.todo j hj' hlj
  ·intro j hj
   rw [S]
   rcases I.all j hj with h | h | h
   ·exact .inl ((pastiff j).2 (.inl h))
   ·unfold named at h
    rcases List.mem_cons.1 h with rfl | h
    ·exact .inr (.inr (.inl rfl))
    ·rcases List.mem_append.1 h with h | h
     ·exact .inl ((pastiff j).2 (.inr h))
     ·exact .inr (.inl h)
   ·exact .inr (.inr (.inr h))
  ·intro t ht hown
   have hnotL : ∀ (j : Nat) (q : Oper), j ∈ L → ops[j]? = some q → q.dst ≠ some t := by
    intro j q hj hq hd
    have := hown j q hq hd
    rw [S] at this
    rcases this with h | h
    ·exact Lne j hj h
    ·exact Lun j hj h
   rw [b1 t ht hnotL]
   by_cases ed : oe.dst = some t
   ·rw [ed]
    show Den σ1 (get2 t (put (some t) v env)) ((a.tmps.setIfInBounds t v').getD t undef)
    have : t < a.tmps.size := by rw [I.tsize]; rw [ed] at hde; exact Nat.le_of_ble_eq_true hde
    rw [getD_put _ _ _ _ this, if_pos rfl, get2_put_same]
    exact D
   ·rw [get2_put' hde hn ht ed]
    have h1 : (a.put oe.dst v').tmps.getD t undef = a.tmps.getD t undef := by
     cases hdst : oe.dst with
     | none => rfl
     | some d =>
      show (a.tmps.setIfInBounds d v').getD t undef = _
      have : d < a.tmps.size := by rw [I.tsize]; rw [hdst] at hde; exact Nat.le_of_ble_eq_true hde
      rw [getD_put _ _ _ _ this, if_neg (fun q => ed (by rw [hdst, q]))]
    rw [h1]
    refine (I.den t ht fun j q hj hq => ?_).mono E.sub
    have := hown j q hj hq
    rw [S] at this
    rcases this with rfl | h
    ·rw [hoe] at hj; cases hj; exact (ed hq).elim
    ·exact h
  ·intro j q hj hq hlj hcl
   have hnl : ¬ isL listed j := fun h => hlj ((S j).2 (.inr h))
   have hjne : j ≠ e := fun h => hlj ((S j).2 (.inl h))
   cases hip : impure q.op with
   | true =>
    have h1 := allL_ok hA j hj
    rw [hq] at h1
    simp only [hip] at h1
    have hmem : j ∈ A := by
     split at h1
     ·exact memN_ok ‹_›
     ·exact (hlj ((S j).2 (.inr (hr j h1)))).elim
    have h3 := allL_ok hag j hmem
    rw [hq] at h3
    exact again1_fl0 hcl h3
   | false =>
    rcases (pastiff j).1 hj with hj | hj
    ·obtain ⟨_, q0, hq0, hfr⟩ := freshOf_ok hfresh j hj
     rw [hq] at hq0
     cases hq0
     refine (I.fl0 j q hj hq hnl hcl).keep hcl hip ?_ ?_
     ·intro t ht hlt
      rw [b1 t hlt fun j' q' hj' hq' ed => ?_]
      ·exact get2_put' hde hn hlt fun ed => hfr t ed ht
      ·obtain ⟨_, q1, o1, e1, e2, e3⟩ := chkF_fresh hF j hj j' hj'
       rw [hq] at e1; cases e1
       rw [hq'] at e2; cases e2
       exact e3 t ed ht
     ·intro d hd
      have hdl : d < 256 := Nat.lt_of_lt_of_le (by have := F.dst j q hq; rw [hd] at this; exact Nat.le_of_ble_eq_true this) hn
      rw [b1 d hdl fun j' q' hj' hq' ed => (chkF_fresh hF j hj j' hj').1 (F.uniq j j' q q' d hq hq' hd ed)]
      exact get2_put' hde hn hdl fun ed => hjne (F.uniq j e q oe d hq hoe hd ed)
    ·exact b5 j q hj hq hcl hip
  ·intro j q hj hq hlj hcl
   have hnl : ¬ isL listed j := fun h => hlj ((S j).2 (.inr h))
   have hjne : j ≠ e := fun h => hlj ((S j).2 (.inl h))
   have hjlt : j < ops.size := (Array.getElem?_eq_some_iff.1 hq).1
   rcases (pastiff j).1 hj with hj | hj
   ·obtain ⟨_, q0, hq0, hfr⟩ := freshOf_ok hfresh j hj
    rw [hq] at hq0
    cases hq0
    refine (I.fl1 j q hj hq hnl hcl).keep ?_ ?_ ?_
    ·intro t ht hlt
     rw [b1 t hlt fun j' q' hj' hq' ed => ?_]
     ·exact get2_put' hde hn hlt fun ed => hfr t ed ht
     ·obtain ⟨_, q1, o1, e1, e2, e3⟩ := chkF_fresh hF j hj j' hj'
      rw [hq] at e1; cases e1
      rw [hq'] at e2; cases e2
      exact e3 t ed ht
    ·intro d hd
     have hdl : d < 256 := Nat.lt_of_lt_of_le (by have := F.dst j q hq; rw [hd] at this; exact Nat.le_of_ble_eq_true this) hn
     rw [b1 d hdl fun j' q' hj' hq' ed => (chkF_fresh hF j hj j' hj').1 (F.uniq j j' q q' d hq hq' hd ed)]
     exact get2_put' hde hn hdl fun ed => hjne (F.uniq j e q oe d hq hoe hd ed)
    ·rw [b2 _ (by omega) fun j' hj' ed => (chkF_fresh hF j hj j' hj').1 (by omega)]
     exact (pend1 j hjlt hnl).2
   ·exact b4 j q hj hq hcl
  ·intro j hj hlj
   exact (pend1 j hj fun h => hlj ((S j).2 (.inr h))).1
  ·omega
  ·exact b3 σ1 w1 R' fun j hj => (pend1 j (Llt j hj) (Lun j hj)).1
  ·have E2 := I.ext.trans E
   refine ⟨E2.sub, E2.rng, ?_, E2.le, E2.os, E2.tape, E2.output, E2.size, E2.frame⟩
   intro b hb h0
   obtain ⟨p1, p2⟩ := E2.pend b hb h0
   exact ⟨p1, (b2 b (by omega) fun j _ => by omega).trans p2⟩
  ·have : (a.put oe.dst v').defers = a.defers := by cases oe.dst <;> rfl
   rw [this]; exact I.dfs.mono E.sub
 ·exact hP l H1 nx1 σ1 w1 c hk R' (I.ext.trans E) (fun t ht hno => (I.den t ht fun j q hj hq => (hno j q hj hq).elim).mono E.sub) (I.dfs.mono E.sub) I.tsize C
def RunP (P : Program) (call : CallK) (ops : Array Oper) (res : Nat) (dfs : Dfs) (rc : Option AMode) (Kp : List (AVal × Bool) → Heap → Nat → Prop) (Kn : Env → Heap → Nat → Prop) : List Stage → Env → Heap → Nat → Prop
 | [], env, H, nx => Kn env H nx
 | (e, L, A) :: rest, env, H, nx => ∀ oe, ops[e]? = some oe → ∃ (k : Env → Heap → Nat → Bool) (K : Kont), actK P call ops oe env H nx dfs rc k K env = true ∧
   (∀ l H1 nx1, K (.pan l) env H1 nx1 dfs rc = true → Kp l H1 nx1) ∧
   ∀ env1 H1 nx1, k env1 H1 nx1 = true → ∃ kf : Env → Heap → Bool, floatsK P ops res nx1 kf L env1 H1 = true ∧
    ∀ env2 H2, kf env2 H2 = true → againK P ops env2 H2 nx1 A = true ∧ RunP P call ops res dfs rc Kp Kn rest env2 H2 nx1
noncomputable def endPast (ops : Array Oper) : List Stage → List Nat → List Nat
 | [], past => past
 | (_, L, _) :: rest, past => endPast ops rest (match chkF ops L past with | some p => p | none => past)
theorem stages_sem {call : CallK} {as : List Nat} {res : Nat} {dfs : Dfs} {rc : Option AMode} {env0 : Env} {Kp : List (AVal × Bool) → Heap → Nat → Prop} {Kn : Env → Heap → Nat → Prop} (tail : List Stage)
  (hc : CallS P call) (F : OpsFact nt ops as) (hn : nt ≤ 256) (hlim : res + ops.size ≤ 1048576) :
  ∀ (rest : List Stage) (prev : Option Nat) (past : List Nat) (env : Env) (H : Heap) (nx : Nat), chkS ops as rest prev past = true → (∀ s, s ∈ rest → ∀ i, i ∈ named tail → bit (as.getD i 0) s.1 = true) →
   (∀ i, i ∈ past → ∃ o, ops[i]? = some o ∧ (cls o.op = 0 ∨ cls o.op = 1)) →
   (∀ t, t < 256 → get2 t env0 = .und ∨ ((∀ (j : Nat) (q : Oper), ops[j]? = some q → q.dst ≠ some t) ∧ get2 t env0 = get2 t env)) → RunP P call ops res dfs rc Kp Kn rest env H nx →
   ∀ σ0 H0 w0 Q, (∀ l H' nx' σ' w' a' c, Kp l H' nx' → Rel σ' H' nx' w' → Ext σ0 σ' H0 H' res nx' w0 w' → ARel σ' nt env0 dfs a' → Chain σ' l c → Q (.panic c) a' w') →
    (∀ env' H' nx', Kn env' H' nx' → (∀ i, i ∈ endPast ops rest past → ∃ o, ops[i]? = some o ∧ (cls o.op = 0 ∨ cls o.op = 1)) →
     ∀ fuel listed σ w a, Inv P nt ops as res σ0 H0 w0 dfs (endPast ops rest past) tail env' H' nx' listed σ w a → left ops listed ≤ fuel → wpAny P .any ops Q fuel listed a w) →
    ∀ fuel listed σ w a, Inv P nt ops as res σ0 H0 w0 dfs past (rest ++ tail) env H nx listed σ w a → left ops listed ≤ fuel → wpAny P .any ops Q fuel listed a w
 | [], prev, past, env, H, nx, _, _, hpast, _, h => fun σ0 H0 w0 Q hQ hT => hT env H nx h hpast
 | (e, L, A) :: rest, prev, past, env, H, nx, hchk, htl, hpast, hblank, h => by
  intro σ0 H0 w0 Q hQ hT
  unfold chkS at hchk
  split at hchk <;> try (cases hchk; done)
  rename_i oe hoe hprev
  split at hchk <;> try (cases hchk; done)
  rename_i hfresh hL
  split at hchk <;> try (cases hchk; done)
  rename_i past' hF
  split at hchk <;> try (cases hchk; done)
  rename_i hA
  obtain ⟨k, K, h', hpan, hnext⟩ := h oe hoe
  have hT : ∀ env' H' nx', Kn env' H' nx' → (∀ i, i ∈ endPast ops rest past' → ∃ o, ops[i]? = some o ∧ (cls o.op = 0 ∨ cls o.op = 1)) →
     ∀ fuel listed σ w a, Inv P nt ops as res σ0 H0 w0 dfs (endPast ops rest past') tail env' H' nx' listed σ w a → left ops listed ≤ fuel → wpAny P .any ops Q fuel listed a w := by
   have e0 : endPast ops ((e, L, A) :: rest) past = endPast ops rest past' := by
    show endPast ops rest (match chkF ops L past with | some p => p | none => past) = _
    rw [hF]
   rw [e0] at hT
   exact hT
  have hde := F.dst e oe hoe
  have helt : e < ops.size := (Array.getElem?_eq_some_iff.1 hoe).1
  have pastiff := chkF_past hF
  have who : ∀ {σ0 H0 w0 listed σ w a}, Inv P nt ops as res σ0 H0 w0 dfs past ((e, L, A) :: rest ++ tail) env H nx listed σ w a → ∀ i o, ops[i]? = some o → (∀ j, bit (as.getD i 0) j = true → isL listed j) → i ∈ named ((e, L, A) :: rest ++ tail) → i = e := by
   intro σ0 H0 w0 listed σ w a I i o ho hr hi
   have ebad : ¬ isL listed e := I.todo e (by rw [List.cons_append]; unfold named; exact List.mem_cons_self ..)
   rw [List.cons_append] at hi
   unfold named at hi
   rcases List.mem_cons.1 hi with rfl | hi
   ·rfl
   ·rcases List.mem_append.1 hi with hi | hi
    ·exact (ebad (hr e (allL_ok hL i hi))).elim
    ·rw [named_append] at hi
     rcases List.mem_append.1 hi with hi | hi
     ·obtain ⟨j, hj, hb⟩ := chkS_pred hchk i hi
      rcases hj with rfl | hj
      ·exact (ebad (hr j hb)).elim
      ·exact (I.todo j (by rw [List.cons_append]; unfold named; rw [named_append]; exact List.mem_cons_of_mem _ (List.mem_append_right _ (List.mem_append_left _ hj))) (hr j hb)).elim
     ·exact (ebad (hr e (htl (e, L, A) (List.mem_cons_self ..) i hi))).elim
  have loop : ∀ {Q : Exit → Act → World → Prop}, (∀ fuel listed σ w a, Inv P nt ops as res σ0 H0 w0 dfs past ((e, L, A) :: rest ++ tail) env H nx listed σ w a → left ops listed ≤ fuel + 1 → (∀ j, bit (as.getD e 0) j = true → isL listed j) →
    wpOp P ops Q e (wpAny P .any ops Q fuel (listed.setIfInBounds e true)) a w) →
    ∀ fuel listed σ w a, Inv P nt ops as res σ0 H0 w0 dfs past ((e, L, A) :: rest ++ tail) env H nx listed σ w a → left ops listed ≤ fuel → wpAny P .any ops Q fuel listed a w := by
   intro Q hact fuel
   have eun : ∀ {listed σ w a}, Inv P nt ops as res σ0 H0 w0 dfs past ((e, L, A) :: rest ++ tail) env H nx listed σ w a → ¬ isL listed e := fun I => I.todo e (by rw [List.cons_append]; unfold named; exact List.mem_cons_self ..)
   induction fuel with
   | zero =>
    intro listed σ w a I hl
    exact (eun I (left_zero (by omega : left ops listed = 0) e helt)).elim
   | succ fuel ih =>
    intro listed σ w a I hl
    refine ⟨fun hnil => (eun I (ready_nil F I.size hnil e helt)).elim, fun i hi => ?_⟩
    obtain ⟨o, ho, hnl, hed⟩ := (mem_ready I.size).1 hi
    have hlt : i < ops.size := (Array.getElem?_eq_some_iff.1 ho).1
    have hr : ∀ j, bit (as.getD i 0) j = true → isL listed j := fun j hj => by
     obtain ⟨g, hg, hb, hc'⟩ := F.ahead i o ho j hj
     rcases hc' with rfl | hc'
     ·exact hed g hg hb
     ·exact I.closed _ j (hed g hg hb) hc'
    by_cases hin : i ∈ named ((e, L, A) :: rest ++ tail)
    ·have := who I i o ho hr hin
     subst this
     exact hact fuel listed σ w a I hl hr
    ·have hp : i ∈ past := by
      rcases I.all i hlt with h | h | h
      ·exact h
      ·exact (hin h).elim
      ·exact (hnl h).elim
     obtain ⟨o', ho', hcl⟩ := hpast i hp
     rw [ho] at ho'
     cases ho'
     refine I.float F hn ho hp hnl hcl hr hin fun σ1 w1 a1 I1 => ih _ σ1 w1 a1 I1 ?_
     have := left_set I.size hlt hnl
     omega
  refine loop fun fuel listed σ w a I hl hr => ?_
  have eun : ¬ isL listed e := I.todo e (by rw [List.cons_append]; unfold named; exact List.mem_cons_self ..)
  have he : e ∉ named (rest ++ tail) := by
   intro hj
   rw [named_append] at hj
   rcases List.mem_append.1 hj with hj | hj
   ·obtain ⟨g, hg, hb⟩ := chkS_pred hchk e hj
    rcases hg with rfl | hg
    ·exact eun (hr g hb)
    ·exact I.todo g (by rw [List.cons_append]; unfold named; rw [named_append]; exact List.mem_cons_of_mem _ (List.mem_append_right _ (List.mem_append_left _ hg))) (hr g hb)
   ·have := F.lt e oe hoe e (htl (e, L, A) (List.mem_cons_self ..) e hj)
    omega
  refine Inv.act hc F hn hlim I hoe he hr hfresh hL hF hA h' hnext (fun env2 H2 nx2 σ1 w1 a1 hk3 I1 hfix => ?_) (fun l H1 nx1 σ1 w1 c hk R E hden hdf hsz C => ?_)
  ·have hnl := left_set I.size helt eun
   have hpast' : ∀ i, i ∈ past' → ∃ o, ops[i]? = some o ∧ (cls o.op = 0 ∨ cls o.op = 1) := by
    intro i hi
    rcases (pastiff i).1 hi with hi | hi
    ·exact hpast i hi
    ·obtain ⟨o, ho, hne⟩ := chkF_cls hF i hi
     refine ⟨o, ho, ?_⟩
     have : cls o.op = 0 ∨ cls o.op = 1 ∨ cls o.op = 2 := by
      unfold cls
      split <;> first | exact .inl rfl | exact .inr (.inl rfl) | exact .inr (.inr rfl) | skip
      split <;> first | exact .inl rfl | exact .inr (.inr rfl)
     rcases this with h | h | h
     ·exact .inl h
     ·exact .inr h
     ·exact (hne h).elim
   have hblank' : ∀ t, t < 256 → get2 t env0 = .und ∨ ((∀ (j : Nat) (q : Oper), ops[j]? = some q → q.dst ≠ some t) ∧ get2 t env0 = get2 t env2) := by
    intro t ht
    rcases hblank t ht with h | ⟨h1, h2⟩
    ·exact .inl h
    ·exact .inr ⟨h1, by rw [hfix t ht h1, h2]⟩
   exact stages_sem tail hc F hn hlim rest (some e) past' env2 H2 nx2 hchk (fun s hs => htl s (List.mem_cons_of_mem _ hs)) hpast' hblank' hk3 σ0 H0 w0 Q hQ hT fuel _ σ1 w1 a1 I1 (by omega)
  ·refine hQ l H1 nx1 σ1 w1 a c (hpan l H1 nx1 hk) R E ⟨⟨hsz, hn, fun t ht => ?_⟩, hdf⟩ C
   rcases hblank t ht with h | ⟨h1, h2⟩
   ·rw [h]; exact .und _
   ·rw [h2]; exact hden t ht h1
theorem tail_nil {as : List Nat} {res : Nat} {σ0 : Sg} {H0 : Heap} {w0 : World} {dfs : Dfs} {past : List Nat} (F : OpsFact nt ops as) (hn : nt ≤ 256) {Q : Exit → Act → World → Prop}
  (hpast : ∀ i, i ∈ past → ∃ o, ops[i]? = some o ∧ (cls o.op = 0 ∨ cls o.op = 1))
  (hQ : ∀ σ' w' a', Rel σ' H nx w' → Ext σ0 σ' H0 H res nx w0 w' → ARel σ' nt env dfs a' → Q .normal a' w') :
  ∀ fuel listed σ w a, Inv P nt ops as res σ0 H0 w0 dfs past [] env H nx listed σ w a → left ops listed ≤ fuel → wpAny P .any ops Q fuel listed a w := by
 have done : ∀ listed σ w a, Inv P nt ops as res σ0 H0 w0 dfs past [] env H nx listed σ w a → (∀ i, i < ops.size → isL listed i) → Q .normal a w := fun listed σ w a I hall =>
  hQ σ w a I.rel I.ext ⟨⟨I.tsize, hn, fun t ht => I.den t ht fun j q hj _ => hall j (Array.getElem?_eq_some_iff.1 hj).1⟩, I.dfs⟩
 intro fuel
 induction fuel with
 | zero =>
  intro listed σ w a I hl
  have hall := left_zero (by omega : left ops listed = 0)
  refine ⟨?_, done listed σ w a I hall⟩
  refine List.eq_nil_iff_forall_not_mem.2 fun i hi => ?_
  obtain ⟨o, ho, hnl, _⟩ := (mem_ready I.size).1 hi
  exact hnl (hall i (Array.getElem?_eq_some_iff.1 ho).1)
 | succ fuel ih =>
  intro listed σ w a I hl
  refine ⟨fun hnil => done listed σ w a I (ready_nil F I.size hnil), fun i hi => ?_⟩
  obtain ⟨o, ho, hnl, hed⟩ := (mem_ready I.size).1 hi
  have hlt : i < ops.size := (Array.getElem?_eq_some_iff.1 ho).1
  have hr : ∀ j, bit (as.getD i 0) j = true → isL listed j := fun j hj => by
   obtain ⟨e, he, hb, hc'⟩ := F.ahead i o ho j hj
   rcases hc' with rfl | hc'
   ·exact hed e he hb
   ·exact I.closed _ j (hed e he hb) hc'
  have hp : i ∈ past := by
   rcases I.all i hlt with h | h | h
   ·exact h
   ·cases h
   ·exact (hnl h).elim
  obtain ⟨o', ho', hcl⟩ := hpast i hp
  rw [ho] at ho'
  cases ho'
  refine I.float F hn ho hp hnl hcl hr (by intro h; cases h) fun σ1 w1 a1 I1 => ih _ σ1 w1 a1 I1 ?_
  have := left_set I.size hlt hnl
  omega
theorem cStages_run {res : Nat} {env0 : Env} {K : FX} {call : CallK} {dfs : Dfs} {rc : Option AMode} : ∀ (rest : List Stage) (env : Env) (H : Heap) (nx : Nat), (cStages P ops rest).fn res env0 env ⟨call, H, nx, dfs, rc⟩ K = true →
  RunP P call ops res dfs rc (fun l H nx => K (.pan l) env0 ⟨call, H, nx, dfs, rc⟩ = true) (fun env H nx => K .normal env ⟨call, H, nx, dfs, rc⟩ = true) rest env H nx
 | [], env, H, nx, h => h
 | (e, L, A) :: rest, env, H, nx, h => by
  intro oe hoe
  unfold cStages at h
  simp only [hoe] at h
  cases ea : cAct P ops oe with | mk f => cases eg : cFloats P ops L with | mk g => cases eA : cAgains P ops A with | mk ag => cases er : cStages P ops rest with | mk r =>
  simp only [ea, eg, eA, er] at h
  refine ⟨_, _, cAct_ok (k := fun env st => g res env st fun env st => Bool.rec false (r res env0 env st K) (ag env st)) (K := fun e _ st => K e env0 st) (st := ⟨call, H, nx, dfs, rc⟩) (by rw [ea]; exact h), fun l H1 nx1 hk => hk, fun env1 H1 nx1 hk => ?_⟩
  refine ⟨_, cFloats_ok (l := L) (st := ⟨call, H1, nx1, dfs, rc⟩) (k := fun env st => Bool.rec false (r res env0 env st K) (ag env st)) (by rw [eg]; exact hk), fun env2 H2 hk2 => ?_⟩
  obtain ⟨hag0, hk3⟩ := brec_ok hk2
  exact ⟨cAgains_ok (st := St.with2 ⟨call, H1, nx1, dfs, rc⟩ H2 nx1) (by rw [eA]; exact hag0), cStages_run rest env2 H2 nx1 (by rw [er]; exact hk3)⟩
theorem cStages_sem {call : CallK} {as : List Nat} {res : Nat} {dfs : Dfs} {rc : Option AMode} {K : FX} {env0 : Env}
  (hc : CallS P call) (F : OpsFact nt ops as) (hn : nt ≤ 256) (hlim : res + ops.size ≤ 1048576)
  (rest : List Stage) (past : List Nat) (env : Env) (H : Heap) (nx : Nat) (hchk : chkS ops as rest none past = true) (hpast : ∀ i, i ∈ past → ∃ o, ops[i]? = some o ∧ (cls o.op = 0 ∨ cls o.op = 1))
  (hblank : ∀ t, t < 256 → get2 t env0 = .und ∨ ((∀ (j : Nat) (q : Oper), ops[j]? = some q → q.dst ≠ some t) ∧ get2 t env0 = get2 t env)) (h : (cStages P ops rest).fn res env0 env ⟨call, H, nx, dfs, rc⟩ K = true)
  (σ0 : Sg) (H0 : Heap) (w0 : World) (Q : Exit → Act → World → Prop)
  (hQ : ∀ ex env' st' σ' w' a' e, K ex env' st' = true → st'.call = call → st'.dfs = dfs → st'.rc = rc → Rel σ' st'.H st'.nx w' → Ext σ0 σ' H0 st'.H res st'.nx w0 w' → ARel σ' nt env' dfs a' → ExRel σ' ex e → Q e a' w') :
  ∀ fuel listed σ w a, Inv P nt ops as res σ0 H0 w0 dfs past rest env H nx listed σ w a → left ops listed ≤ fuel → wpAny P .any ops Q fuel listed a w := by
 have := stages_sem [] hc F hn hlim rest none past env H nx hchk (fun s _ i hi => by cases hi) hpast hblank (cStages_run rest env H nx h) σ0 H0 w0 Q
  (fun l H' nx' σ' w' a' c hk R E A C => hQ (.pan l) env0 ⟨call, H', nx', dfs, rc⟩ σ' w' a' (.panic c) hk rfl rfl rfl R E A C)
  (fun env' H' nx' hk hp => tail_nil F hn hp fun σ' w' a' R E A => hQ .normal env' ⟨call, H', nx', dfs, rc⟩ σ' w' a' .normal hk rfl rfl rfl R E A trivial)
 rwa [List.append_nil] at this
end Go.Ev
end
section
namespace Go.Ev
variable [GTab]
noncomputable section
def split2 : List Nat → Option (List Nat × Nat × Nat)
 | [] => none
 | x :: l => match l with
  | [y] => some ([], x, y)
  | l => match split2 l with
   | some (i, a, b) => some (x :: i, a, b)
   | none => none
def pl0 (ops : Array Oper) (ini : List Nat) : List Nat := floats ops.toList (ahead ops) ini 0 0
def plA (ops : Array Oper) (ini : List Nat) : List Nat := again ops.toList (ahead ops) ini 0 0 0
def plS (ops : Array Oper) (ini : List Nat) : List (Nat × List Nat × List Nat) := stages ops.toList (ahead ops) ini ini 1
def plB (ops : Array Oper) (ini : List Nat) (e : Nat) : List Nat := again ops.toList (ahead ops) ini 1000000 ((ahead ops).getD e 0) 0
def storeOf (o : Oper) : Option (TypeId × Operand × Operand) :=
 match o.op, o.guard, o.dst with
 | .store t a x, none, none => some (t, a, x)
 | _, _, _ => none
def pairOK (nt : Nat) (ops : Array Oper) (ini : List Nat) (e1 e2 : Nat) : Bool :=
 match Nat.ble nt 256, opsOK nt ops ops.toList (ahead ops) ops.toList 0, chkF ops (pl0 ops ini) [], Nat.beq e1 e2 with
 | true, true, some past, false => match chkA ops 0 (plA ops ini) past, chkS ops (ahead ops) (plS ops ini) none past, allL (fun i => memN i (pl0 ops ini ++ named (plS ops ini) ++ [e1, e2])) (List.range ops.size) with
  | true, true, true => match allL (fun s : Stage => bit ((ahead ops).getD e1 0) s.1) (plS ops ini), allL (fun s : Stage => bit ((ahead ops).getD e2 0) s.1) (plS ops ini), chkS ops (ahead ops) [(e1, [], plB ops ini e1)] none (endPast ops (plS ops ini) past), chkS ops (ahead ops) [(e2, [], plB ops ini e2)] none (endPast ops (plS ops ini) past) with
   | true, true, true, true => true
   | _, _, _, _ => false
  | _, _, _ => false
 | _, _, _, _ => false
def oH (o : Option Heap) : (Heap → Bool) → Bool := Option.rec (motive := fun _ => (Heap → Bool) → Bool) (fun _ => false) (fun H k => k H) o
theorem oH_ok {o : Option Heap} {k : Heap → Bool} (h : oH o k = true) : ∃ H, o = some H ∧ k H = true := by
 cases o with
 | none => exact Bool.noConfusion h
 | some H => exact ⟨H, rfl, h⟩
def olds0 (o : Option AObj) : List Nat := match o with
 | some o => o.olds
 | none => []
def apart2 (H : Heap) (a1 a2 : AVal) : Bool :=
 match a1, a2 with
 | .ptr b1 _, .ptr b2 _ => match Nat.beq b1 b2, memN b2 (olds0 (get5 b1 H)), memN b1 (olds0 (get5 b2 H)) with
  | false, false, false => match allL (fun b => Nat.ble (Nat.succ b) 1048576) (b1 :: b2 :: (olds0 (get5 b1 H) ++ olds0 (get5 b2 H))) with
   | true => true
   | false => false
  | _, _, _ => false
 | _, _ => false
def pairX (P : Program) (ops : Array Oper) (s1 s2 : TypeId × Operand × Operand) (A1 A2 : List Nat) (env : Env) (st : St) (K : FX) : Bool :=
 match apart2 st.H (aev env s1.2.1) (aev env s2.2.1) with
 | true => oH (aStore P s1.1 st.H (aev env s1.2.1) (aev env s1.2.2)) fun H1 => oH (aStore P s2.1 H1 (aev env s2.2.1) (aev env s2.2.2)) fun H12 => oH (aStore P s2.1 st.H (aev env s2.2.1) (aev env s2.2.2)) fun H2 => oH (aStore P s1.1 H2 (aev env s1.2.1) (aev env s1.2.2)) fun H21 =>
   Bool.rec false (Bool.rec false (Bool.rec false (Bool.rec false (K .normal env (st.with2 H12 st.nx)) (againK P ops env H21 st.nx A1)) (againK P ops env H2 st.nx A2)) (againK P ops env H12 st.nx A2)) (againK P ops env H1 st.nx A1)
 | false => false
def cPair (P : Program) (nt : Nat) (ops : Array Oper) : Co :=
 match split2 (acts ops.toList 0) with
 | some (ini, e1, e2) => match pairOK nt ops ini e1 e2, (ops[e1]?).bind storeOf, (ops[e2]?).bind storeOf with
  | true, some s1, some s2 => match cFloats P ops (pl0 ops ini), cAgains P ops (plA ops ini), cStages P ops (plS ops ini), cBlank ops.toList with
   | .mk f, .mk a, .mk r, .mk bl => forceN ops.size fun n => .mk fun env st K => Bool.rec false (forceN (Nat.add st.nx n) fun nx' => f st.nx env (st.with2 st.H nx') fun env' st' => Bool.rec false (r st.nx (bl env) env' st' fun e env st => match e with
     | .normal => pairX P ops s1 s2 (plB ops ini e1) (plB ops ini e2) env st K
     | e => K e env st) (a env' st')) (Nat.ble (Nat.add st.nx n) 1048576)
  | _, _, _ => .mk fun _ _ _ => false
 | none => .mk fun _ _ _ => false
end
theorem Rel.congr {σ : Sg} {H H' : Heap} {nx : Nat} {w : World} (h : Rel σ H nx w) (he : ∀ c, c < 1048576 → get5 c H' = get5 c H) : Rel σ H' nx w := by
 have lt : ∀ {c p}, σ c = some p → c < 1048576 := fun {c p} hc => by obtain ⟨cb, sz⟩ := p; have := (h.dom c cb sz hc).1; have := h.lim; omega
 refine ⟨h.lim, h.dom, ?_, ?_, ?_, ?_, h.glob⟩
 ·intro b o cb sz e1 e2; rw [he b (lt e2)] at e1; exact h.obj b o cb sz e1 e2
 ·intro b b' o o' cb sz sz' e1 e2 e3 e4; rw [he b (lt e3)] at e1; rw [he b' (lt e4)] at e2; exact h.sep b b' o o' cb sz sz' e1 e2 e3 e4
 ·intro b b' o o' p e1 e2 e3 e4
  rw [he b' (lt e3)] at e2
  obtain ⟨p', hp'⟩ := h.old b' o' p e2 e3 b e4
  rw [he b (lt hp')] at e1
  exact h.sup b b' o o' p e1 e2 e3 e4
 ·intro b o p e1 e2 b' e3; rw [he b (lt e2)] at e1; exact h.old b o p e1 e2 b' e3
theorem Ext.congr {σ σ' : Sg} {H H' H'' : Heap} {nx nx' : Nat} {w w' : World} (h : Ext σ σ' H H' nx nx' w w') (hl : nx ≤ 1048576) (he : ∀ c, c < 1048576 → get5 c H'' = get5 c H') : Ext σ σ' H H'' nx nx' w w' :=
 { h with pend := fun b hb hn => ⟨(h.pend b hb hn).1, by rw [he b (by omega)]; exact (h.pend b hb hn).2⟩ }
theorem aStore_inv {P : Program} {t : TypeId} {H H' : Heap} {a x : AVal} (h : aStore P t H a x = some H') : ∃ b off n ct olds X, a = .ptr b off ∧ get5 b H = some (.cells n ct olds false) ∧ H' = set5 b (some X) (dels olds H) ∧
  ∀ G, get5 b G = get5 b H → aStore P t G a x = some (set5 b (some X) (dels olds G)) := by
 unfold aStore at h
 split at h <;> try (cases h; done)
 rename_i b off cs i hcs hi
 split at h <;> try (cases h; done)
 rename_i n ct olds ho
 split at h <;> try (cases h; done)
 rename_i h1 h2 h3
 cases h
 refine ⟨b, off, n, ct, olds, _, rfl, ho, rfl, fun G hG => ?_⟩
 unfold aStore
 simp only [hcs, hi, hG, ho, h1, h2, h3]
theorem memN_not {i : Nat} : ∀ {l : List Nat}, memN i l = false → i ∉ l
 | [], _, h => by cases h
 | j :: l, h, hm => by
  have h' : (Bool.rec (memN i l) true (Nat.beq j i) : Bool) = false := h
  cases hb : Nat.beq j i with
  | true => rw [hb] at h'; exact Bool.noConfusion h'
  | false =>
   rw [hb] at h'
   rcases List.mem_cons.1 hm with rfl | hm
   ·simp at hb
   ·exact memN_not h' hm
theorem stores_commute {P : Program} {t1 t2 : TypeId} {H H1 H2 H12 H21 : Heap} {a1 x1 a2 x2 : AVal} (hap : apart2 H a1 a2 = true) (h1 : aStore P t1 H a1 x1 = some H1) (h12 : aStore P t2 H1 a2 x2 = some H12) (h2 : aStore P t2 H a2 x2 = some H2) (h21 : aStore P t1 H2 a1 x1 = some H21) :
  ∀ c, c < 1048576 → get5 c H12 = get5 c H21 := by
 obtain ⟨b1, o1, n1, ct1, olds1, X1, rfl, g1, e1, f1⟩ := aStore_inv h1
 obtain ⟨b2, o2, n2, ct2, olds2, X2, rfl, g2, e2, f2⟩ := aStore_inv h2
 unfold apart2 at hap
 simp only [g1, g2, olds0, AObj.olds] at hap
 split at hap <;> try (cases hap; done)
 rename_i hne hm1 hm2
 split at hap <;> try (cases hap; done)
 rename_i hlt
 have hlt' : ∀ b, b ∈ b1 :: b2 :: (olds1 ++ olds2) → b < 1048576 := fun b hb => Nat.le_of_ble_eq_true (allL_ok hlt b hb)
 have lb1 := hlt' b1 (by simp)
 have lb2 := hlt' b2 (by simp)
 have l1 : ∀ b, b ∈ olds1 → b < 1048576 := fun b hb => hlt' b (by simp [hb])
 have l2 : ∀ b, b ∈ olds2 → b < 1048576 := fun b hb => hlt' b (by simp [hb])
 have n12 : b1 ≠ b2 := fun e => by subst e; simp at hne
 have nm1 : b2 ∉ olds1 := memN_not hm1
 have nm2 : b1 ∉ olds2 := memN_not hm2
 have k2 : get5 b2 H1 = get5 b2 H := by
  rw [e1, get5_ne n12 lb1 lb2, get5_dels olds1 H b2 l1 lb2, if_neg nm1]
 have k1 : get5 b1 H2 = get5 b1 H := by
  rw [e2, get5_ne (Ne.symm n12) lb2 lb1, get5_dels olds2 H b1 l2 lb1, if_neg nm2]
 have q12 := f2 H1 k2
 rw [h12] at q12
 have q21 := f1 H2 k1
 rw [h21] at q21
 cases q12
 cases q21
 intro c hc
 by_cases c1 : b1 = c
 ·subst c1
  rw [get5_ne (Ne.symm n12) lb2 hc, get5_dels olds2 H1 b1 l2 hc, if_neg nm2, e1, get5_set5_same, get5_set5_same]
 ·by_cases c2 : b2 = c
  ·subst c2
   rw [get5_set5_same, get5_ne n12 lb1 hc, get5_dels olds1 H2 b2 l1 hc, if_neg nm1, e2, get5_set5_same]
  ·rw [get5_ne c2 lb2 hc, get5_dels olds2 H1 c l2 hc, get5_ne c1 lb1 hc, get5_dels olds1 H2 c l1 hc, e1, e2, get5_ne c1 lb1 hc, get5_ne c2 lb2 hc, get5_dels olds1 H c l1 hc, get5_dels olds2 H c l2 hc]
   by_cases m1 : c ∈ olds1 <;> by_cases m2 : c ∈ olds2 <;> simp [m1, m2]
open Classical in
theorem act_store {P : Program} {call : CallK} {ops : Array Oper} {o : Oper} {t : TypeId} {a x : Operand} {env : Env} {H H' : Heap} {nx : Nat} {dfs : Dfs} {rc : Option AMode} (hs : storeOf o = some (t, a, x)) (h : aStore P t H (aev env a) (aev env x) = some H') :
  actK P call ops o env H nx dfs rc (fun env1 H1 nx1 => decide (env1 = env ∧ H1 = H' ∧ nx1 = nx)) (fun _ _ _ _ _ _ => false) env = true := by
 unfold storeOf at hs
 split at hs <;> try (cases hs; done)
 rename_i hop hg hd
 cases hs
 unfold actK
 have hw : wantedA ops o.guard env = some true := by rw [hg]; rfl
 have ha : aop P o (aev env) H nx = some (.val .und H' nx) := by
  unfold aop
  rw [hop]
  show opStore P t a x (aev env) H nx = _
  simp only [opStore, h]
 simp only [hw, ha, hd]
 exact decide_eq_true (by simp [put])
theorem isStore_cls {o : Oper} {s : TypeId × Operand × Operand} (h : storeOf o = some s) : o.dst = none := by
 unfold storeOf at h
 split at h <;> first | (cases h; done) | assumption
open Classical in
theorem run_one {P : Program} {call : CallK} {ops : Array Oper} {res : Nat} {dfs : Dfs} {rc : Option AMode} {e : Nat} {A : List Nat} {o : Oper} {t : TypeId} {a x : Operand} {env : Env} {H H' : Heap} {nx : Nat} (ho : ops[e]? = some o) (hs : storeOf o = some (t, a, x))
  (h : aStore P t H (aev env a) (aev env x) = some H') (hA : againK P ops env H' nx A = true) : RunP P call ops res dfs rc (fun _ _ _ => False) (fun env2 H2 nx2 => env2 = env ∧ H2 = H' ∧ nx2 = nx) [(e, [], A)] env H nx := by
 intro oe hoe
 rw [ho] at hoe
 cases hoe
 refine ⟨_, _, act_store hs h, (fun _ _ _ hk => Bool.noConfusion hk), fun env1 H1 nx1 hk => ?_⟩
 obtain ⟨rfl, rfl, rfl⟩ := of_decide_eq_true hk
 refine ⟨fun env2 H2 => decide (env2 = env1 ∧ H2 = H1), decide_eq_true ⟨rfl, rfl⟩, fun env2 H2 hk2 => ?_⟩
 obtain ⟨rfl, rfl⟩ := of_decide_eq_true hk2
 exact ⟨hA, rfl, rfl, rfl⟩
theorem Inv.swap {P : Program} {nt : Nat} {ops : Array Oper} {as : List Nat} {res : Nat} {σ0 : Sg} {H0 : Heap} {w0 : World} {dfs : Dfs} {past : List Nat} {s1 s2 : Stage} {env : Env} {H : Heap} {nx : Nat} {listed : Array Bool} {σ : Sg} {w : World} {a : Act}
  (I : Inv P nt ops as res σ0 H0 w0 dfs past [s1, s2] env H nx listed σ w a) : Inv P nt ops as res σ0 H0 w0 dfs past [s2, s1] env H nx listed σ w a := by
 have hiff : ∀ i, i ∈ named [s2, s1] ↔ i ∈ named [s1, s2] := by
  intro i
  obtain ⟨e1, L1, A1⟩ := s1
  obtain ⟨e2, L2, A2⟩ := s2
  simp only [named, List.append_nil, List.mem_cons, List.mem_append]
  constructor
  ·rintro (h | h | h | h)
   ·exact .inr (.inr (.inl h))
   ·exact .inr (.inr (.inr h))
   ·exact .inl h
   ·exact .inr (.inl h)
  ·rintro (h | h | h | h)
   ·exact .inr (.inr (.inl h))
   ·exact .inr (.inr (.inr h))
   ·exact .inl h
   ·exact .inr (.inl h)
 exact { I with todo := fun i hi => I.todo i ((hiff i).1 hi), all := fun i hi => by rcases I.all i hi with h | h | h; exact .inl h; exact .inr (.inl ((hiff i).2 h)); exact .inr (.inr h) }
theorem chkS_one {ops : Array Oper} {as : List Nat} {e : Nat} {A past : List Nat} (h : chkS ops as [(e, [], A)] none past = true) : ∃ o, ops[e]? = some o ∧ freshOf ops past e o = true ∧ chkA ops (as.getD e 0) A past = true := by
 unfold chkS at h
 split at h <;> try (cases h; done)
 rename_i o ho _
 split at h <;> try (cases h; done)
 rename_i hf _
 split at h <;> try (cases h; done)
 rename_i past' hF
 cases hF
 split at h <;> try (cases h; done)
 exact ⟨o, ho, hf, ‹_›⟩
theorem pair_sem {P : Program} {call : CallK} {nt : Nat} {ops : Array Oper} {as : List Nat} {res : Nat} {dfs : Dfs} {e1 e2 : Nat} {A1 A2 past : List Nat} {o1 o2 : Oper} {s1 s2 : TypeId × Operand × Operand} {env : Env} {H H1 H2 H12 H21 : Heap} {nx : Nat}
  (hc : CallS P call) (F : OpsFact nt ops as) (hn : nt ≤ 256) (hlim : res + ops.size ≤ 1048576) (hne : e1 ≠ e2) (ho1 : ops[e1]? = some o1) (ho2 : ops[e2]? = some o2) (hs1 : storeOf o1 = some s1) (hs2 : storeOf o2 = some s2)
  (c1 : chkS ops as [(e1, [], A1)] none past = true) (c2 : chkS ops as [(e2, [], A2)] none past = true) (hpast : ∀ i, i ∈ past → ∃ o, ops[i]? = some o ∧ (cls o.op = 0 ∨ cls o.op = 1))
  (h1 : aStore P s1.1 H (aev env s1.2.1) (aev env s1.2.2) = some H1) (h12 : aStore P s2.1 H1 (aev env s2.2.1) (aev env s2.2.2) = some H12) (h2 : aStore P s2.1 H (aev env s2.2.1) (aev env s2.2.2) = some H2) (h21 : aStore P s1.1 H2 (aev env s1.2.1) (aev env s1.2.2) = some H21)
  (g1 : againK P ops env H1 nx A1 = true) (g12 : againK P ops env H12 nx A2 = true) (g2 : againK P ops env H2 nx A2 = true) (g21 : againK P ops env H21 nx A1 = true) (heq : ∀ c, c < 1048576 → get5 c H12 = get5 c H21)
  {σ0 : Sg} {H0 : Heap} {w0 : World} {Q : Exit → Act → World → Prop} (hQ : ∀ σ' w' a', Rel σ' H12 nx w' → Ext σ0 σ' H0 H12 res nx w0 w' → ARel σ' nt env dfs a' → Q .normal a' w') :
  ∀ fuel listed σ w a, Inv P nt ops as res σ0 H0 w0 dfs past [(e1, [], A1), (e2, [], A2)] env H nx listed σ w a → left ops listed ≤ fuel → wpAny P .any ops Q fuel listed a w := by
 have lt1 : e1 < ops.size := (Array.getElem?_eq_some_iff.1 ho1).1
 have lt2 : e2 < ops.size := (Array.getElem?_eq_some_iff.1 ho2).1
 obtain ⟨t1, a1, x1⟩ := s1
 obtain ⟨t2, a2, x2⟩ := s2
 have hQ2 : ∀ σ' w' a', Rel σ' H21 nx w' → Ext σ0 σ' H0 H21 res nx w0 w' → ARel σ' nt env dfs a' → Q .normal a' w' := fun σ' w' a' R E A => hQ σ' w' a' (R.congr heq) (E.congr (by omega) heq) A
 have last : ∀ {e : Nat} {A : List Nat} {o : Oper} {t : TypeId} {a x : Operand} {G G' : Heap}, ops[e]? = some o → storeOf o = some (t, a, x) → aStore P t G (aev env a) (aev env x) = some G' → againK P ops env G' nx A = true → chkS ops as [(e, [], A)] none past = true →
   (∀ σ' w' a', Rel σ' G' nx w' → Ext σ0 σ' H0 G' res nx w0 w' → ARel σ' nt env dfs a' → Q .normal a' w') → ∀ fuel listed σ w a, Inv P nt ops as res σ0 H0 w0 dfs past [(e, [], A)] env G nx listed σ w a → left ops listed ≤ fuel → wpAny P .any ops Q fuel listed a w := by
  intro e A o t a x G G' ho hs hst hag hchk hq
  have hd := isStore_cls hs
  have := stages_sem (rc := none) (env0 := blank ops.toList env) [] hc F hn hlim [(e, [], A)] none past env G nx hchk (fun s _ i hi => by cases hi) hpast
   (fun t ht => by
    have hdd : ∀ o, o ∈ ops.toList → dstOK nt o.dst = true := fun o ho => by
     obtain ⟨i, hi⟩ := List.mem_iff_getElem?.1 ho
     exact F.dst i o (by simpa using hi)
    rcases blank_get hn ops.toList env t ht hdd with h | ⟨h1, h2⟩
    ·exact .inl h
    ·exact .inr ⟨fun j q hq => h1 q (by simpa using Array.mem_of_getElem? hq), h2⟩)
   (run_one ho hs hst hag) σ0 H0 w0 Q (fun _ _ _ _ _ _ _ hk => hk.elim) (fun env' H' nx' hk hp => by
    obtain ⟨rfl, rfl, rfl⟩ := hk
    exact tail_nil F hn hp hq)
  rwa [List.append_nil] at this
 intro fuel
 induction fuel with
 | zero =>
  intro listed σ w a I hl
  exact (I.todo e1 (by simp [named]) (left_zero (by omega : left ops listed = 0) e1 lt1)).elim
 | succ fuel ih =>
  intro listed σ w a I hl
  refine ⟨fun hnil => (I.todo e1 (by simp [named]) (ready_nil F I.size hnil e1 lt1)).elim, fun i hi => ?_⟩
  obtain ⟨o, ho, hnl, hed⟩ := (mem_ready I.size).1 hi
  have hlt : i < ops.size := (Array.getElem?_eq_some_iff.1 ho).1
  have hr : ∀ j, bit (as.getD i 0) j = true → isL listed j := fun j hj => by
   obtain ⟨g, hg, hb, hc'⟩ := F.ahead i o ho j hj
   rcases hc' with rfl | hc'
   ·exact hed g hg hb
   ·exact I.closed _ j (hed g hg hb) hc'
  have hleft := left_set I.size hlt hnl
  by_cases i1 : i = e1
  ·subst i1
   obtain ⟨o', ho', hf, hA⟩ := chkS_one c1
   rw [ho1] at ho'
   cases ho'
   refine Inv.act (rc := none) (L := []) (past' := past) hc F hn hlim I ho1 (by simp [named]; exact hne) hr hf rfl rfl hA (act_store hs1 h1) (RN := fun env2 H2' nx2 => env2 = env ∧ H2' = H1 ∧ nx2 = nx) (fun env1 H1' nx1 hk => ?_) (fun env2 H2' nx2 σ1 w1 b1 hk I1 _ => ?_) (fun l H1 nx1 σ1 w1 c hk => Bool.noConfusion hk)
   ·obtain ⟨r, ⟨k, hk2, hk3⟩⟩ : ∃ r : Unit, ∃ kf : Env → Heap → Bool, floatsK P ops res nx1 kf [] env1 H1' = true ∧ ∀ env2 H2, kf env2 H2 = true → env2 = env1 ∧ H2 = H1' := by
     classical
     exact ⟨(), fun env2 H2 => decide (env2 = env1 ∧ H2 = H1'), decide_eq_true ⟨rfl, rfl⟩, fun env2 H2 h => of_decide_eq_true h⟩
    simp only [decide_eq_true_eq] at hk
    obtain ⟨rfl, rfl, rfl⟩ := hk
    refine ⟨k, hk2, fun env2 H2 hk4 => ?_⟩
    obtain ⟨rfl, rfl⟩ := hk3 env2 H2 hk4
    exact ⟨g1, rfl, rfl, rfl⟩
   ·obtain ⟨rfl, rfl, rfl⟩ := hk
    exact last ho2 hs2 h12 g12 c2 hQ fuel _ σ1 w1 b1 I1 (by omega)
  ·by_cases i2 : i = e2
   ·subst i2
    obtain ⟨o', ho', hf, hA⟩ := chkS_one c2
    rw [ho2] at ho'
    cases ho'
    refine Inv.act (rc := none) (L := []) (past' := past) hc F hn hlim I.swap ho2 (by simp [named]; exact Ne.symm hne) hr hf rfl rfl hA (act_store hs2 h2) (RN := fun env2 H2' nx2 => env2 = env ∧ H2' = H2 ∧ nx2 = nx) (fun env1 H1' nx1 hk => ?_) (fun env2 H2' nx2 σ1 w1 b1 hk I1 _ => ?_) (fun l H1 nx1 σ1 w1 c hk => Bool.noConfusion hk)
    ·obtain ⟨r, ⟨k, hk2, hk3⟩⟩ : ∃ r : Unit, ∃ kf : Env → Heap → Bool, floatsK P ops res nx1 kf [] env1 H1' = true ∧ ∀ env2 H2, kf env2 H2 = true → env2 = env1 ∧ H2 = H1' := by
      classical
      exact ⟨(), fun env2 H2 => decide (env2 = env1 ∧ H2 = H1'), decide_eq_true ⟨rfl, rfl⟩, fun env2 H2 h => of_decide_eq_true h⟩
     simp only [decide_eq_true_eq] at hk
     obtain ⟨rfl, rfl, rfl⟩ := hk
     refine ⟨k, hk2, fun env2 H2 hk4 => ?_⟩
     obtain ⟨rfl, rfl⟩ := hk3 env2 H2 hk4
     exact ⟨g2, rfl, rfl, rfl⟩
    ·obtain ⟨rfl, rfl, rfl⟩ := hk
     exact last ho1 hs1 h21 g21 c1 hQ2 fuel _ σ1 w1 b1 I1 (by omega)
   ·have hin : i ∉ named [(e1, [], A1), (e2, [], A2)] := by
     intro h
     simp only [named, List.nil_append, List.mem_cons, List.not_mem_nil, or_false] at h
     rcases h with h | h
     ·exact i1 h
     ·exact i2 h
    have hp : i ∈ past := by
     rcases I.all i hlt with h | h | h
     ·exact h
     ·exact (hin h).elim
     ·exact (hnl h).elim
    obtain ⟨o', ho', hcl⟩ := hpast i hp
    rw [ho] at ho'
    cases ho'
    exact I.float F hn ho hp hnl hcl hr hin fun σ1 w1 a1 I1 => ih _ σ1 w1 a1 I1 (by omega)
end Go.Ev
end
section
namespace Go.Ev
variable [GTab] {P : Program} {H : Heap} {nx : Nat} {w : World} {ops : Array Oper} {nt : Nat} {env : Env}
theorem cDrawn_wp {st : St} {K : FX} (hm : P.follows .mixedOrders = true) (hc : CallS P st.call) (h : (cDrawn P nt ops).fn env st K = true) (id : Nat)
  (σ : Sg) (w : World) (a : Act) (Q : Exit → Act → World → Prop) (hr : Rel σ st.H st.nx w) (ha : ARel σ nt env st.dfs a)
  (hQ : ∀ ex env' st' σ' w' a' e, K ex env' st' = true → st'.call = st.call → st'.dfs = st.dfs → st'.rc = st.rc → Rel σ' st'.H st'.nx w' → Ext σ σ' st.H st'.H st.nx st'.nx w w' → ARel σ' nt env' st.dfs a' → ExRel σ' ex e → Q e a' w') :
  (Code.region id ops true).wp P Q a w := by
 unfold cDrawn at h
 split at h <;> first | (exact Bool.noConfusion h) | skip
 rename_i f ag r bl hplan hf hag0 hr0 hbl0
 rw [forceN_eq] at h
 have h' : (Bool.rec false (forceN (Nat.add st.nx ops.size) fun nx' => f st.nx env (st.with2 st.H nx') fun env' st' => Bool.rec false (r st.nx (bl env) env' st' K) (ag env' st')) (Nat.ble (Nat.add st.nx ops.size) 1048576) : Bool) = true := h
 obtain ⟨hle, h2⟩ := brec_ok h'
 rw [forceN_eq] at h2
 have hlim : st.nx + ops.size ≤ 1048576 := Nat.le_of_ble_eq_true hle
 unfold planOK at hplan
 split at hplan <;> try (cases hplan; done)
 rename_i past hnt hops hF
 split at hplan <;> try (cases hplan; done)
 rename_i hA hS hcov
 have hn : nt ≤ 256 := Nat.le_of_ble_eq_true hnt
 have F := opsOK_fact hops
 have h3 := cFloats_ok (P := P) (ops := ops) (res := st.nx) (l := plan0 ops) (env := env) (st := st.with2 st.H (Nat.add st.nx ops.size)) (k := fun env' st' => Bool.rec false (r st.nx (bl env) env' st' K) (ag env' st')) (by rw [hf]; exact h2)
 rw [with2_H, with2_nx] at h3
 obtain ⟨env1, H1, hk, b1, b2, b3, b4, b5⟩ := floatsK_ok F hn hlim (plan0 ops) [] past env st.H hF h3
 obtain ⟨hag1, hk⟩ := brec_ok hk
 rw [with2_with2] at hag1 hk
 have hag : againK P ops env1 H1 (Nat.add st.nx ops.size) (planA ops) = true := by
  have := cAgains_ok (P := P) (ops := ops) (l := planA ops) (env := env1) (st := st.with2 H1 (Nat.add st.nx ops.size)) (by rw [hag0]; exact hag1)
  rwa [with2_H, with2_nx] at this
 have hpast : ∀ i, i ∈ past → ∃ o, ops[i]? = some o ∧ (cls o.op = 0 ∨ cls o.op = 1) := by
  intro i hi
  rcases (chkF_past hF i).1 hi with hi | hi
  ·cases hi
  ·obtain ⟨o, ho, hne⟩ := chkF_cls hF i hi
   refine ⟨o, ho, ?_⟩
   have : cls o.op = 0 ∨ cls o.op = 1 ∨ cls o.op = 2 := by
    unfold cls
    split <;> first | exact .inl rfl | exact .inr (.inl rfl) | exact .inr (.inr rfl) | skip
    split <;> first | exact .inl rfl | exact .inr (.inr rfl)
   rcases this with h | h | h
   ·exact .inl h
   ·exact .inr h
   ·exact (hne h).elim
 have hbl : bl env = blank ops.toList env := by
  have := cBlank_eq ops.toList env
  rw [hbl0] at this
  exact this
 have hblank : ∀ t, t < 256 → get2 t (blank ops.toList env) = .und ∨ ((∀ (j : Nat) (q : Oper), ops[j]? = some q → q.dst ≠ some t) ∧ get2 t (blank ops.toList env) = get2 t env1) := by
  intro t ht
  have hd : ∀ o, o ∈ ops.toList → dstOK nt o.dst = true := fun o ho => by
   obtain ⟨i, hi⟩ := List.mem_iff_getElem?.1 ho
   exact F.dst i o (by simpa using hi)
  rcases blank_get hn ops.toList env t ht hd with h | ⟨h1, h2⟩
  ·exact .inl h
  ·have h3 : ∀ (j : Nat) (q : Oper), ops[j]? = some q → q.dst ≠ some t := fun j q hq => h1 q (by simpa using Array.mem_of_getElem? hq)
   exact .inr ⟨h3, by rw [h2, b1 t ht fun j q _ hq => h3 j q hq]⟩
 have hk' : (cStages P ops (planS ops)).fn st.nx (blank ops.toList env) env1 (⟨st.call, H1, Nat.add st.nx ops.size, st.dfs, st.rc⟩ : St) K = true := by
  rw [hr0, ← hbl]
  rw [St.with2_eq] at hk
  exact hk
 refine wp_region_any hm ?_
 have none' : ∀ b, st.nx ≤ b → σ b = none := fun b hb => by
  cases e : σ b with
  | none => rfl
  | some p => obtain ⟨cb, sz⟩ := p; have := (hr.dom b cb sz e).1; omega
 refine cStages_sem hc F hn hlim (planS ops) past env1 H1 (Nat.add st.nx ops.size) hS hpast hblank hk' σ st.H w Q hQ ops.size _ σ _ a ⟨by simp, ha.env.size, ?_, ?_, ?_, ?_, ?_, ?_, ?_, Nat.le_refl _, ?_, ?_, ha.dfs⟩ ?_
 ·exact fun i j h => (isL_none h).elim
 ·exact fun i _ h => isL_none h
 ·intro i hi
  have := memN_ok (allL_ok hcov i (List.mem_range.2 hi))
  rcases List.mem_append.1 this with h | h
  ·exact .inl ((chkF_past hF i).2 (.inr h))
  ·exact .inr (.inl h)
 ·intro t ht hown
  rw [b1 t ht fun j q _ hq hd => isL_none (hown j q hq hd)]
  exact ha.env.den t ht
 ·intro j q hj hq _ hcl
  cases hip : impure q.op with
  | true =>
   have h1 := allL_ok hA j hj
   rw [hq] at h1
   simp only [hip] at h1
   have hmem : j ∈ planA ops := by
    split at h1
    ·exact memN_ok ‹_›
    ·rw [bit_eq] at h1; simp at h1
   have h3 := allL_ok hag j hmem
   rw [hq] at h3
   exact again1_fl0 hcl h3
  | false =>
   rcases (chkF_past hF j).1 hj with hj | hj
   ·cases hj
   ·exact b5 j q hj hq hcl hip
 ·intro j q hj hq _ hcl
  rcases (chkF_past hF j).1 hj with hj | hj
  ·cases hj
  ·exact b4 j q hj hq hcl
 ·exact fun i _ _ => none' _ (by omega)
 ·exact (b3 σ w (hr.more (Nat.le_add_right _ _) hlim) fun j _ => none' _ (by omega)).drew
 ·have E := Ext.drew σ st.H st.nx w
  refine ⟨E.sub, E.rng, ?_, Nat.le_add_right _ _, rfl, rfl, rfl, Nat.le_refl _, fun _ _ _ => rfl⟩
  intro b hb h0
  exact ⟨h0, b2 b (by omega) fun j _ => by omega⟩
 ·unfold left
  have := List.countP_le_length (p := fun i => !(Array.replicate ops.size false).getD i false) (l := List.range ops.size)
  simpa using this
theorem cPair_wp {st : St} {K : FX} (hm : P.follows .mixedOrders = true) (hc : CallS P st.call) (h : (cPair P nt ops).fn env st K = true) (id : Nat)
  (σ : Sg) (w : World) (a : Act) (Q : Exit → Act → World → Prop) (hr : Rel σ st.H st.nx w) (ha : ARel σ nt env st.dfs a)
  (hQ : ∀ ex env' st' σ' w' a' e, K ex env' st' = true → st'.call = st.call → st'.dfs = st.dfs → st'.rc = st.rc → Rel σ' st'.H st'.nx w' → Ext σ σ' st.H st'.H st.nx st'.nx w w' → ARel σ' nt env' st.dfs a' → ExRel σ' ex e → Q e a' w') :
  (Code.region id ops true).wp P Q a w := by
 unfold cPair at h
 split at h <;> first | (exact Bool.noConfusion h) | skip
 rename_i ini e1 e2 hsplit
 split at h <;> first | (exact Bool.noConfusion h) | skip
 rename_i s1 s2 hplan hs1 hs2
 split at h
 rename_i f ag r bl hf hag0 hr0 hbl0
 rw [forceN_eq] at h
 let K' : FX := fun e env st => match e with
  | .normal => pairX P ops s1 s2 (plB ops ini e1) (plB ops ini e2) env st K
  | e => K e env st
 have h' : (Bool.rec false (forceN (Nat.add st.nx ops.size) fun nx' => f st.nx env (st.with2 st.H nx') fun env' st' => Bool.rec false (r st.nx (bl env) env' st' K') (ag env' st')) (Nat.ble (Nat.add st.nx ops.size) 1048576) : Bool) = true := h
 obtain ⟨hle, h2⟩ := brec_ok h'
 rw [forceN_eq] at h2
 have hlim : st.nx + ops.size ≤ 1048576 := Nat.le_of_ble_eq_true hle
 unfold pairOK at hplan
 split at hplan <;> try (cases hplan; done)
 rename_i past hnt hops hF hne
 split at hplan <;> try (cases hplan; done)
 rename_i hA hS hcov
 split at hplan <;> try (cases hplan; done)
 rename_i ht1 ht2 hc1 hc2
 have hn : nt ≤ 256 := Nat.le_of_ble_eq_true hnt
 have F := opsOK_fact hops
 have h3 := cFloats_ok (P := P) (ops := ops) (res := st.nx) (l := pl0 ops ini) (env := env) (st := st.with2 st.H (Nat.add st.nx ops.size)) (k := fun env' st' => Bool.rec false (r st.nx (bl env) env' st' K') (ag env' st')) (by rw [hf]; exact h2)
 rw [with2_H, with2_nx] at h3
 obtain ⟨env1, H1, hk, b1, b2, b3, b4, b5⟩ := floatsK_ok F hn hlim (pl0 ops ini) [] past env st.H hF h3
 obtain ⟨hag1, hk⟩ := brec_ok hk
 rw [with2_with2] at hag1 hk
 have hag : againK P ops env1 H1 (Nat.add st.nx ops.size) (plA ops ini) = true := by
  have := cAgains_ok (P := P) (ops := ops) (l := plA ops ini) (env := env1) (st := st.with2 H1 (Nat.add st.nx ops.size)) (by rw [hag0]; exact hag1)
  rwa [with2_H, with2_nx] at this
 have hpast : ∀ i, i ∈ past → ∃ o, ops[i]? = some o ∧ (cls o.op = 0 ∨ cls o.op = 1) := by
  intro i hi
  rcases (chkF_past hF i).1 hi with hi | hi
  ·cases hi
  ·obtain ⟨o, ho, hne⟩ := chkF_cls hF i hi
   refine ⟨o, ho, ?_⟩
   have : cls o.op = 0 ∨ cls o.op = 1 ∨ cls o.op = 2 := by
    unfold cls
    split <;> first | exact .inl rfl | exact .inr (.inl rfl) | exact .inr (.inr rfl) | skip
    split <;> first | exact .inl rfl | exact .inr (.inr rfl)
   rcases this with h | h | h
   ·exact .inl h
   ·exact .inr h
   ·exact (hne h).elim
 have hbl : bl env = blank ops.toList env := by
  have := cBlank_eq ops.toList env
  rw [hbl0] at this
  exact this
 have hblank : ∀ t, t < 256 → get2 t (blank ops.toList env) = .und ∨ ((∀ (j : Nat) (q : Oper), ops[j]? = some q → q.dst ≠ some t) ∧ get2 t (blank ops.toList env) = get2 t env1) := by
  intro t ht
  have hd : ∀ o, o ∈ ops.toList → dstOK nt o.dst = true := fun o ho => by
   obtain ⟨i, hi⟩ := List.mem_iff_getElem?.1 ho
   exact F.dst i o (by simpa using hi)
  rcases blank_get hn ops.toList env t ht hd with h | ⟨h1, h2⟩
  ·exact .inl h
  ·have h3 : ∀ (j : Nat) (q : Oper), ops[j]? = some q → q.dst ≠ some t := fun j q hq => h1 q (by simpa using Array.mem_of_getElem? hq)
   exact .inr ⟨h3, by rw [h2, b1 t ht fun j q _ hq => h3 j q hq]⟩
 have hk' : (cStages P ops (plS ops ini)).fn st.nx (blank ops.toList env) env1 (⟨st.call, H1, Nat.add st.nx ops.size, st.dfs, st.rc⟩ : St) K' = true := by
  rw [hr0, ← hbl]
  rw [St.with2_eq] at hk
  exact hk
 obtain ⟨o1, ho1, hs1⟩ := Option.bind_eq_some_iff.1 hs1
 obtain ⟨o2, ho2, hs2⟩ := Option.bind_eq_some_iff.1 hs2
 have hne' : e1 ≠ e2 := fun e => by subst e; simp at hne
 refine wp_region_any hm ?_
 have none' : ∀ b, st.nx ≤ b → σ b = none := fun b hb => by
  cases e : σ b with
  | none => rfl
  | some p => obtain ⟨cb, sz⟩ := p; have := (hr.dom b cb sz e).1; omega
 refine stages_sem [(e1, [], plB ops ini e1), (e2, [], plB ops ini e2)] hc F hn hlim (plS ops ini) none past env1 H1 (Nat.add st.nx ops.size) hS ?_ hpast hblank (cStages_run (K := K') _ _ _ _ hk') σ st.H w Q
  (fun l H' nx' σ' w' a' c hk R E A C => hQ (.pan l) _ ⟨st.call, H', nx', st.dfs, st.rc⟩ σ' w' a' (.panic c) hk rfl rfl rfl R E A C) ?_ ops.size _ σ _ a ⟨by simp, ha.env.size, ?_, ?_, ?_, ?_, ?_, ?_, ?_, Nat.le_refl _, ?_, ?_, ha.dfs⟩ ?_
 ·intro s hs i hi
  simp only [named, List.nil_append, List.mem_cons, List.not_mem_nil, or_false] at hi
  rcases hi with rfl | rfl
  ·exact allL_ok ht1 s hs
  ·exact allL_ok ht2 s hs
 ·intro env' H' nx' hk hp
  have hk2 : pairX P ops s1 s2 (plB ops ini e1) (plB ops ini e2) env' ⟨st.call, H', nx', st.dfs, st.rc⟩ K = true := hk
  unfold pairX at hk2
  split at hk2 <;> first | (exact Bool.noConfusion hk2) | skip
  rename_i hap
  obtain ⟨G1, q1, hk2⟩ := oH_ok hk2
  obtain ⟨G12, q12, hk2⟩ := oH_ok hk2
  obtain ⟨G2, q2, hk2⟩ := oH_ok hk2
  obtain ⟨G21, q21, hk2⟩ := oH_ok hk2
  obtain ⟨r1, hk2⟩ := brec_ok hk2
  obtain ⟨r2, hk2⟩ := brec_ok hk2
  obtain ⟨r3, hk2⟩ := brec_ok hk2
  obtain ⟨r4, hk2⟩ := brec_ok hk2
  exact pair_sem hc F hn hlim hne' ho1 ho2 hs1 hs2 hc1 hc2 hp q1 q12 q2 q21 r1 r2 r3 r4 (stores_commute hap q1 q12 q2 q21)
   fun σ' w' a' R E A => hQ .normal env' ⟨st.call, G12, nx', st.dfs, st.rc⟩ σ' w' a' .normal hk2 rfl rfl rfl R E A trivial
 ·exact fun i j h => (isL_none h).elim
 ·exact fun i _ h => isL_none h
 ·intro i hi
  have := memN_ok (allL_ok hcov i (List.mem_range.2 hi))
  rcases List.mem_append.1 this with h | h
  ·rcases List.mem_append.1 h with h | h
   ·exact .inl ((chkF_past hF i).2 (.inr h))
   ·exact .inr (.inl (by rw [named_append]; exact List.mem_append_left _ h))
  ·exact .inr (.inl (by rw [named_append]; exact List.mem_append_right _ h))
 ·intro t ht hown
  rw [b1 t ht fun j q _ hq hd => isL_none (hown j q hq hd)]
  exact ha.env.den t ht
 ·intro j q hj hq _ hcl
  cases hip : impure q.op with
  | true =>
   have h1 := allL_ok hA j hj
   rw [hq] at h1
   simp only [hip] at h1
   have hmem : j ∈ plA ops ini := by
    split at h1
    ·exact memN_ok ‹_›
    ·rw [bit_eq] at h1; simp at h1
   have h3 := allL_ok hag j hmem
   rw [hq] at h3
   exact again1_fl0 hcl h3
  | false =>
   rcases (chkF_past hF j).1 hj with hj | hj
   ·cases hj
   ·exact b5 j q hj hq hcl hip
 ·intro j q hj hq _ hcl
  rcases (chkF_past hF j).1 hj with hj | hj
  ·cases hj
  ·exact b4 j q hj hq hcl
 ·exact fun i _ _ => none' _ (by omega)
 ·exact (b3 σ w (hr.more (Nat.le_add_right _ _) hlim) fun j _ => none' _ (by omega)).drew
 ·have E := Ext.drew σ st.H st.nx w
  refine ⟨E.sub, E.rng, ?_, Nat.le_add_right _ _, rfl, rfl, rfl, Nat.le_refl _, fun _ _ _ => rfl⟩
  intro b hb h0
  exact ⟨h0, b2 b (by omega) fun j _ => by omega⟩
 ·unfold left
  have := List.countP_le_length (p := fun i => !(Array.replicate ops.size false).getD i false) (l := List.range ops.size)
  simpa using this
noncomputable section
def seqX (g : Env → St → FX → Bool) (K : FX) (e : AExit) : Env → St → Bool :=
 AExit.rec (motive := fun _ => (Env → St → FX → Bool) → FX → Env → St → Bool) (fun g K env st => g env st K) (fun i _ K env st => K (.exit i) env st) (fun _ K env st => K .ret env st) (fun l _ K env st => K (.pan l) env st) e g K
def blockX (id : Nat) (K : FX) (e : AExit) : Env → St → Bool :=
 AExit.rec (motive := fun _ => Nat → FX → Env → St → Bool) (fun _ K env st => K .normal env st) (fun j id K env st => Bool.rec (K (.exit j) env st) (K .normal env st) (Nat.beq j id)) (fun _ K env st => K .ret env st) (fun l _ K env st => K (.pan l) env st) e id K
def loopF (f : Env → St → FX → Bool) (fuel : Nat) : Env → St → FX → Bool :=
 Nat.rec (motive := fun _ => Env → St → FX → Bool) (fun _ _ _ => false) (fun _ ih env st K => f env st (seqX ih K)) fuel
def noneR (r : Option AMode) (b : Bool) : Bool := Option.rec b (fun _ => false) r
def cOpen (P : Program) (nt : Nat) (ops : Array Oper) : Co := match planOK nt ops with
 | true => cDrawn P nt ops
 | false => cPair P nt ops
theorem cOpen_wp {st : St} {K : FX} (hm : P.follows .mixedOrders = true) (hc : CallS P st.call) (h : (cOpen P nt ops).fn env st K = true) (id : Nat)
  (σ : Sg) (w : World) (a : Act) (Q : Exit → Act → World → Prop) (hr : Rel σ st.H st.nx w) (ha : ARel σ nt env st.dfs a)
  (hQ : ∀ ex env' st' σ' w' a' e, K ex env' st' = true → st'.call = st.call → st'.dfs = st.dfs → st'.rc = st.rc → Rel σ' st'.H st'.nx w' → Ext σ σ' st.H st'.H st.nx st'.nx w w' → ARel σ' nt env' st.dfs a' → ExRel σ' ex e → Q e a' w') :
  (Code.region id ops true).wp P Q a w := by
 unfold cOpen at h
 split at h
 ·exact cDrawn_wp hm hc h id σ w a Q hr ha hQ
 ·exact cPair_wp hm hc h id σ w a Q hr ha hQ
def cCode (P : Program) (nt : Nat) (c : Code) : Co :=
 Code.rec (motive := fun _ => Co)
  (.mk fun env st K => K .normal env st)
  (fun _ ops draw => match draw with | false => cOps P nt ops ops.toList | true => cOpen P nt ops)
  (fun _ _ a b => match a, b with | .mk f, .mk g => .mk fun env st K => f env st (seqX g K))
  (fun c _ _ a b => match bx c, a, b with | .mk c, .mk f, .mk g => .mk fun env st K => vFork (c env) (f env st K) (g env st K))
  (fun id _ a => match a with | .mk f => .mk fun env st K => f env st (blockX id K))
  (fun _ a => match a with | .mk f => .mk fun env st K => noneR st.rc (loopF f loopFuel env st K))
  (fun _ _ _ _ _ _ => .mk fun _ _ _ => false)
  (fun id => .mk fun env st K => K (.exit id) env st)
  (fun _ _ => .mk fun _ _ _ => false)
  (fun _ => .mk fun _ _ _ => false)
  (fun _ => .mk fun _ _ _ => false)
  (.mk fun env st K => K .ret env st)
  (fun _ => .mk fun _ _ _ => false)
  c
theorem noneR_ok {r : Option AMode} {b : Bool} (h : noneR r b = true) : r = none ∧ b = true := by
 cases r with
 | none => exact ⟨rfl, h⟩
 | some m => exact Bool.noConfusion h
theorem eval_any {σ : Sg} {dfs : Dfs} {a : Act} {c : Operand} (ha : ARel σ nt env dfs a) (h : aev env c = .anyBool) : ∃ b, a.eval c = .bool b := by
 have := ha.env.aev c
 rw [h] at this
 cases hq : a.eval c <;> rw [hq] at this <;> cases this
 exact ⟨_, rfl⟩
theorem seqPostN {c : Code} {g : Env → St → FX → Bool} {call : CallK} {K : FX} {σ : Sg} {Q : Exit → Act → World → Prop} (hc : CallS P call) (hg : CodeN P nt c g)
  (hQ : PostN nt call K σ H nx w Q) : PostN nt call (seqX g K) σ H nx w (Exit.then (c.wp P Q) Q) := by
 intro ex env' st' σ' w' a' e hk hcl hrc R E A X
 cases ex with
 | normal =>
  cases e <;> try exact X.elim
  have hk' : g env' st' K = true := hk
  refine hg env' st' K (by rw [hcl]; exact hc) hrc hk' σ' w' a' Q R A ?_
  rw [hcl]; exact hQ.from E
 | exit i => cases e <;> first | exact X.elim | exact hQ _ env' st' σ' w' a' _ hk hcl hrc R E A X
 | ret => cases e <;> first | exact X.elim | exact hQ _ env' st' σ' w' a' _ hk hcl hrc R E A X
 | pan l => cases e <;> first | exact X.elim | exact hQ _ env' st' σ' w' a' _ hk hcl hrc R E A X
theorem blockPostN {id : Nat} {call : CallK} {K : FX} {σ : Sg} {Q : Exit → Act → World → Prop} (hQ : PostN nt call K σ H nx w Q) :
  PostN nt call (blockX id K) σ H nx w (Exit.inBlock id Q) := by
 intro ex env' st' σ' w' a' e hk hcl hrc R E A X
 cases ex with
 | normal => cases e <;> first | exact X.elim | exact hQ _ env' st' σ' w' a' _ hk hcl hrc R E A X
 | exit i =>
  cases e <;> try exact X.elim
  have X' : i = _ := X
  subst X'
  have hk' : (Bool.rec (K (.exit i) env' st') (K .normal env' st') (Nat.beq i id) : Bool) = true := hk
  cases hb : Nat.beq i id with
  | true =>
   rw [hb] at hk'
   have hid := Nat.eq_of_beq_eq_true hb
   simp only [Exit.inBlock, hid, if_true]
   exact hQ .normal env' st' σ' w' a' .normal hk' hcl hrc R E A trivial
  | false =>
   rw [hb] at hk'
   have hid : i ≠ id := fun e => by subst e; simp at hb
   simp only [Exit.inBlock, hid, if_false]
   exact hQ (.exit i) env' st' σ' w' a' _ hk' hcl hrc R E A rfl
 | ret => cases e <;> first | exact X.elim | exact hQ _ env' st' σ' w' a' _ hk hcl hrc R E A X
 | pan l => cases e <;> first | exact X.elim | exact hQ _ env' st' σ' w' a' _ hk hcl hrc R E A X
theorem loopF_ok {c : Code} {f : Env → St → FX → Bool} (hf : CodeN P nt c f) : ∀ (n : Nat) (env : Env) (st : St) (K : FX), CallS P st.call → st.rc = none → loopF f n env st K = true →
  ∀ σ w a Q, Rel σ st.H st.nx w → ARel σ nt env st.dfs a → PostN nt st.call K σ st.H st.nx w Q → Code.rounds P c Q n a w
 | 0, env, st, K, _, _, h => Bool.noConfusion h
 | n + 1, env, st, K, hc, hrc, h => by
  intro σ w a Q hr ha hQ
  rw [rounds_succ]
  have h' : f env st (seqX (loopF f n) K) = true := h
  refine hf env st _ hc hrc h' σ w a _ hr ha ?_
  intro ex env' st' σ' w' a' e hk hcl hrc' R E A X
  cases ex with
  | normal =>
   cases e <;> try exact X.elim
   have hk' : loopF f n env' st' K = true := hk
   refine loopF_ok hf n env' st' K (by rw [hcl]; exact hc) hrc' hk' σ' w' a' Q R A ?_
   rw [hcl]; exact hQ.from E
  | exit i => cases e <;> first | exact X.elim | exact hQ _ env' st' σ' w' a' _ hk hcl hrc' R E A X
  | ret => cases e <;> first | exact X.elim | exact hQ _ env' st' σ' w' a' _ hk hcl hrc' R E A X
  | pan l => cases e <;> first | exact X.elim | exact hQ _ env' st' σ' w' a' _ hk hcl hrc' R E A X
theorem cCode_none (hm : P.follows .mixedOrders = true) (c : Code) : CodeN P nt c (cCode P nt c).fn := by
 induction c with
 | skip => exact fun env st K hc hrc h σ w a Q hr ha hQ => wp_skip (hQ .normal env st σ w a .normal h rfl hrc hr (Ext.refl _ _ _ _) ha trivial)
 | region id ops draw =>
  cases draw with
  | false => exact fun env st K hc hrc h σ w a Q hr ha hQ => wp_region_list (cOps_none ops.toList env st K hc hrc h σ w a Q hr ha hQ)
  | true =>
   exact fun env st K hc hrc h σ w a Q hr ha hQ => cOpen_wp hm hc h id σ w a Q hr ha fun ex env' st' σ' w' a' e hk h1 h2 h3 R E A X => hQ ex env' st' σ' w' a' e hk h1 (h3.trans hrc) R E (by rw [h2]; exact A) X
 | seq x y ihx ihy =>
  intro env st K hc hrc h σ w a Q hr ha hQ
  have h' : (match cCode P nt x, cCode P nt y with | .mk f, .mk g => Co.mk fun env st K => f env st (seqX g K)).fn env st K = true := h
  cases ex : cCode P nt x with | mk f => cases ey : cCode P nt y with | mk g =>
   rw [ex, ey] at h'
   rw [ex] at ihx; rw [ey] at ihy
   have h2 : f env st (seqX g K) = true := h'
   exact wp_seq (ihx env st _ hc hrc h2 σ w a _ hr ha (seqPostN hc ihy hQ))
 | cond c x y ihx ihy =>
  intro env st K hc hrc h σ w a Q hr ha hQ
  have h' : (match bx c, cCode P nt x, cCode P nt y with | .mk c, .mk f, .mk g => Co.mk fun env st K => vFork (c env) (f env st K) (g env st K)).fn env st K = true := h
  have hx := bx_eq c env
  cases eb : bx c with | mk fc => cases ex : cCode P nt x with | mk f => cases ey : cCode P nt y with | mk g =>
   rw [eb, ex, ey] at h'
   rw [eb] at hx
   have hx' : fc env = aev env c := hx
   rw [ex] at ihx; rw [ey] at ihy
   have h2 : vFork (fc env) (f env st K) (g env st K) = true := h'
   rw [hx'] at h2
   rcases vFork_ok h2 with ⟨hv, h3⟩ | ⟨hv, h3⟩ | ⟨hv, h3, h4⟩
   ·exact wp_cond (t := true) (eval_bool ha hv) (ihx env st K hc hrc h3 σ w a Q hr ha hQ)
   ·exact wp_cond (t := false) (eval_bool ha hv) (ihy env st K hc hrc h3 σ w a Q hr ha hQ)
   ·obtain ⟨b, hb⟩ := eval_any ha hv
    cases b with
    | true => exact wp_cond (t := true) hb (ihx env st K hc hrc h3 σ w a Q hr ha hQ)
    | false => exact wp_cond (t := false) hb (ihy env st K hc hrc h4 σ w a Q hr ha hQ)
 | block id x ih =>
  intro env st K hc hrc h σ w a Q hr ha hQ
  have h' : (match cCode P nt x with | .mk f => Co.mk fun env st K => f env st (blockX id K)).fn env st K = true := h
  cases ex : cCode P nt x with | mk f =>
   rw [ex] at h' ih
   have h2 : f env st (blockX id K) = true := h'
   exact wp_block (ih env st _ hc hrc h2 σ w a _ hr ha (blockPostN hQ))
 | loop x ih =>
  intro env st K hc hrc h σ w a Q hr ha hQ
  have h' : (match cCode P nt x with | .mk f => Co.mk fun env st K => noneR st.rc (loopF f loopFuel env st K)).fn env st K = true := h
  cases ex : cCode P nt x with | mk f =>
   rw [ex] at h' ih
   have h2 : noneR st.rc (loopF f loopFuel env st K) = true := h'
   exact wp_loop_rounds loopFuel (loopF_ok ih loopFuel env st K hc hrc (noneR_ok h2).2 σ w a Q hr ha hQ)
 | exit id => exact fun env st K hc hrc h σ w a Q hr ha hQ => wp_exit (hQ (.exit id) env st σ w a (.exit id) h rfl hrc hr (Ext.refl _ _ _ _) ha rfl)
 | ret => exact fun env st K hc hrc h σ w a Q hr ha hQ => wp_ret (hQ .ret env st σ w a .ret h rfl hrc hr (Ext.refl _ _ _ _) ha trivial)
 | rangeFunc f p x y _ _ => exact fun env st K hc hrc h => Bool.noConfusion h
 | scope x _ => exact fun env st K hc hrc h => Bool.noConfusion h
 | label l => exact fun env st K hc hrc h => Bool.noConfusion h
 | goto l => exact fun env st K hc hrc h => Bool.noConfusion h
 | refuse s => exact fun env st K hc hrc h => Bool.noConfusion h
theorem cCode_some (hm : P.follows .mixedOrders = true) (c : Code) : CodeS P nt c (cCode P nt c).fn := by
 induction c with
 | skip => exact fun env st K m hc hrc h σ w a u c₀ cs Q hr ha hmr hQ => wpS_of_wp (wp_skip (hQ .normal env st m σ w a .normal u h rfl hrc hr (Ext.refl _ _ _ _) ha trivial hmr))
 | region id ops draw =>
  cases draw with
  | false =>
   intro env st K m hc hrc h σ w a u c₀ cs Q hr ha hmr hQ
   refine wpS_region ?_
   have := cOps_some ops.toList 0 env st K m (by simp) hc hrc h σ w a u c₀ cs Q hr ha hmr hQ
   rw [List.range_eq_range', ← Array.length_toList]
   exact this
  | true =>
   exact fun env st K m hc hrc h σ w a u c₀ cs Q hr ha hmr hQ => wpS_of_wp (cOpen_wp hm hc h id σ w a _ hr ha fun ex env' st' σ' w' a' e hk h1 h2 h3 R E A X =>
    hQ ex env' st' m σ' w' a' e u hk h1 (h3.trans hrc) R E (by rw [h2]; exact A) X (hmr.mono E.sub))
 | seq x y ihx ihy =>
  intro env st K m hc hrc h σ w a u c₀ cs Q hr ha hmr hQ
  have h' : (match cCode P nt x, cCode P nt y with | .mk f, .mk g => Co.mk fun env st K => f env st (seqX g K)).fn env st K = true := h
  cases ex : cCode P nt x with | mk f => cases ey : cCode P nt y with | mk g =>
   rw [ex, ey] at h'
   rw [ex] at ihx; rw [ey] at ihy
   have h2 : f env st (seqX g K) = true := h'
   refine wpS_seq (ihx env st _ m hc hrc h2 σ w a u c₀ cs _ hr ha hmr ?_)
   intro ex env' st' m' σ' w' a' e u' hk hcl hrc' R E A X M
   cases ex with
   | normal =>
    cases e <;> try exact X.elim
    have hk' : g env' st' K = true := hk
    refine ihy env' st' K m' (by rw [hcl]; exact hc) hrc' hk' σ' w' a' u' c₀ cs Q R A M ?_
    rw [hcl]; exact hQ.from E
   | exit i => cases e <;> first | exact X.elim | exact hQ _ env' st' m' σ' w' a' _ u' hk hcl hrc' R E A X M
   | ret => cases e <;> first | exact X.elim | exact hQ _ env' st' m' σ' w' a' _ u' hk hcl hrc' R E A X M
   | pan l => cases e <;> first | exact X.elim | exact hQ _ env' st' m' σ' w' a' _ u' hk hcl hrc' R E A X M
 | cond c x y ihx ihy =>
  intro env st K m hc hrc h σ w a u c₀ cs Q hr ha hmr hQ
  have h' : (match bx c, cCode P nt x, cCode P nt y with | .mk c, .mk f, .mk g => Co.mk fun env st K => vFork (c env) (f env st K) (g env st K)).fn env st K = true := h
  have hx := bx_eq c env
  cases eb : bx c with | mk fc => cases ex : cCode P nt x with | mk f => cases ey : cCode P nt y with | mk g =>
   rw [eb, ex, ey] at h'
   rw [eb] at hx
   have hx' : fc env = aev env c := hx
   rw [ex] at ihx; rw [ey] at ihy
   have h2 : vFork (fc env) (f env st K) (g env st K) = true := h'
   rw [hx'] at h2
   rcases vFork_ok h2 with ⟨hv, h3⟩ | ⟨hv, h3⟩ | ⟨hv, h3, h4⟩
   ·exact wpS_cond (t := true) (eval_bool ha hv) (ihx env st K m hc hrc h3 σ w a u c₀ cs Q hr ha hmr hQ)
   ·exact wpS_cond (t := false) (eval_bool ha hv) (ihy env st K m hc hrc h3 σ w a u c₀ cs Q hr ha hmr hQ)
   ·obtain ⟨b, hb⟩ := eval_any ha hv
    cases b with
    | true => exact wpS_cond (t := true) hb (ihx env st K m hc hrc h3 σ w a u c₀ cs Q hr ha hmr hQ)
    | false => exact wpS_cond (t := false) hb (ihy env st K m hc hrc h4 σ w a u c₀ cs Q hr ha hmr hQ)
 | block id x ih =>
  intro env st K m hc hrc h σ w a u c₀ cs Q hr ha hmr hQ
  have h' : (match cCode P nt x with | .mk f => Co.mk fun env st K => f env st (blockX id K)).fn env st K = true := h
  cases ex : cCode P nt x with | mk f =>
   rw [ex] at h' ih
   have h2 : f env st (blockX id K) = true := h'
   refine wpS_block (ih env st _ m hc hrc h2 σ w a u c₀ cs _ hr ha hmr ?_)
   intro ex env' st' m' σ' w' a' e u' hk hcl hrc' R E A X M
   cases ex with
   | normal => cases e <;> first | exact X.elim | exact hQ _ env' st' m' σ' w' a' _ u' hk hcl hrc' R E A X M
   | exit i =>
    cases e <;> try exact X.elim
    have X' : i = _ := X
    subst X'
    have hk' : (Bool.rec (K (.exit i) env' st') (K .normal env' st') (Nat.beq i id) : Bool) = true := hk
    cases hb : Nat.beq i id with
    | true =>
     rw [hb] at hk'
     have hid := Nat.eq_of_beq_eq_true hb
     simp only [hid, if_true]
     exact hQ .normal env' st' m' σ' w' a' .normal u' hk' hcl hrc' R E A trivial M
    | false =>
     rw [hb] at hk'
     have hid : i ≠ id := fun e => by subst e; simp at hb
     simp only [hid, if_false]
     exact hQ (.exit i) env' st' m' σ' w' a' _ u' hk' hcl hrc' R E A rfl M
   | ret => cases e <;> first | exact X.elim | exact hQ _ env' st' m' σ' w' a' _ u' hk hcl hrc' R E A X M
   | pan l => cases e <;> first | exact X.elim | exact hQ _ env' st' m' σ' w' a' _ u' hk hcl hrc' R E A X M
 | loop x ih =>
  intro env st K m hc hrc h
  have h' : (match cCode P nt x with | .mk f => Co.mk fun env st K => noneR st.rc (loopF f loopFuel env st K)).fn env st K = true := h
  cases ex : cCode P nt x with | mk f =>
   rw [ex] at h'
   have h2 : noneR st.rc (loopF f loopFuel env st K) = true := h'
   have := (noneR_ok h2).1
   rw [hrc] at this
   cases this
 | exit id => exact fun env st K m hc hrc h σ w a u c₀ cs Q hr ha hmr hQ => wpS_of_wp (wp_exit (hQ (.exit id) env st m σ w a (.exit id) u h rfl hrc hr (Ext.refl _ _ _ _) ha rfl hmr))
 | ret => exact fun env st K m hc hrc h σ w a u c₀ cs Q hr ha hmr hQ => wpS_of_wp (wp_ret (hQ .ret env st m σ w a .ret u h rfl hrc hr (Ext.refl _ _ _ _) ha trivial hmr))
 | rangeFunc f p x y _ _ => exact fun env st K m hc hrc h => Bool.noConfusion h
 | scope x _ => exact fun env st K m hc hrc h => Bool.noConfusion h
 | label l => exact fun env st K m hc hrc h => Bool.noConfusion h
 | goto l => exact fun env st K m hc hrc h => Bool.noConfusion h
 | refuse s => exact fun env st K m hc hrc h => Bool.noConfusion h
end
end Go.Ev
end
section
namespace Go.Ev
variable [GTab]
open Go.ChangeShapes Go.WideShapes
def Kept (W w' : World) : Prop := w'.os = W.os ∧ w'.output = W.output ∧ W.heap.size ≤ w'.heap.size ∧ ∀ i, i < W.heap.size → w'.heap[i]? = W.heap[i]?
theorem Kept.refl (W : World) : Kept W W := ⟨rfl, rfl, Nat.le_refl _, fun _ _ => rfl⟩
theorem Kept.keptBut {W w' : World} (h : Kept W w') (may : MemPlace → Prop) : W.keptBut w' may := by
 refine ⟨h.1, h.2.1, fun i hi => ?_⟩
 rw [h.2.2.2 i hi]
 cases e : W.heap[i]? with
 | none => rfl
 | some o => cases o <;> simp
theorem Kept.frozen {W w' : World} (h : Kept W w') (a : Addr) (ha : a.block < W.heap.size) : w'.frozen? a = W.frozen? a := by
 simp only [World.frozen?, h.2.2.2 a.block ha]
section
variable {H : Type} {enc : TypeId × Value → H} {P : Program}
theorem post_of_kept {f : Func} {s : ChangeSpec} {apart fresh handsOn again : Bool} {W W' : World} {args : Array Value} {v : Value} {ds gs : List (DataW H)} {before pa pv : List MemPlace}
  (hW : DataW.Whole enc P f.params.toList s.vars apart W args.toList ds gs before)
  (hres : ∀ (b : Nat) (sp : Nat → Bool) (hd : Bool), DataW.TrodAll enc P W' b sp hd f.resultTypes.toList (v.resultList f.resultTypes.size) (s.fn H (ds ++ gs)).results [])
  (hargs : ∀ sp : Nat → Bool, (∀ p ∈ before, sp p.block = true) → DataW.TrodAll enc P W' 0 sp true f.params.toList args.toList (s.fn H (ds ++ gs)).args pa)
  (hvars : ∀ sp : Nat → Bool, (∀ p ∈ before, sp p.block = true) → DataW.TrodVars enc P W' sp s.vars (s.fn H (ds ++ gs)).vars pv)
  (hps : before = pa ++ pv) (hk : Kept W W')
  (hok : ∀ (j : Nat) (t : TypeId) (r : Value), f.resultTypes[j]? = some t → (v.resultList f.resultTypes.size)[j]? = some r → Value.okWide P W' .any 0 t r) :
  s.post enc P f apart fresh handsOn again W args v W' := by
 have hlt : ∀ p ∈ before, p.block < W.heap.size := fun p hp => hW.lt p hp
 have hold : ∀ p ∈ before, (fun b => decide (b < W.heap.size)) p.block = true := fun p hp => by simpa using hlt p hp
 refine ⟨ds, gs, before, [], pa, pv, hW, hres _ _ _, hargs _ hold, hvars _ hold, hk.keptBut _, fun _ => ?_⟩
 obtain ⟨_, _, _, _, _, hz, hn⟩ := hW
 refine ⟨hok, _, _, ([] ++ pa) ++ pv, ⟨[] ++ pa, pv, trodAll_append (hargs _ (fun _ _ => rfl)) (hres _ _ _), hvars _ (fun _ _ => rfl), rfl, ?_, ?_⟩, ?_⟩
 ·intro b off hp
  have hb : MemPlace.cell b off ∈ before := by rw [hps]; simpa using hp
  rw [hk.frozen _ (hlt _ hb)]
  exact hz b off hb
 ·intro ha
  have := hn ha
  rw [hps] at this
  simpa using this
 ·intro p hp _
  rw [hps]
  simpa using hp
end
end Go.Ev
end
section
namespace Go.Ev
variable [GTab] {P : Program} {H : Heap} {nt : Nat} {env : Env}
noncomputable section
def lenF (l : List AVal) : Nat := List.rec (motive := fun _ => Nat) 0 (fun _ _ n => Nat.succ n) l
theorem lenF_eq : ∀ l : List AVal, lenF l = l.length
 | [] => rfl
 | _ :: l => by show Nat.succ (lenF l) = _; rw [lenF_eq l]; rfl
def nthT (l : List AVal) (i : Nat) : AVal := List.rec (motive := fun _ => Nat → AVal) (fun _ => .tuple []) (fun v _ ih i => Nat.rec (motive := fun _ => AVal) v (fun j _ => ih j) i) l i
def rowT : N16 AVal := .all (.tuple [])
def enter8 (l : List AVal) : Env :=
 .mk (.mk (nthT l 0) (nthT l 1) (nthT l 2) (nthT l 3) (nthT l 4) (nthT l 5) (nthT l 6) (nthT l 7) (.tuple []) (.tuple []) (.tuple []) (.tuple []) (.tuple []) (.tuple []) (.tuple []) (.tuple [])) rowT rowT rowT rowT rowT rowT rowT rowT rowT rowT rowT rowT rowT rowT rowT
def enterF (l : List AVal) : Env := Bool.rec (enterEnv l 0 (all2 (.tuple []))) (enter8 l) (Nat.ble (lenF l) 8)
theorem enterF_eq (l : List AVal) : enterF l = enterEnv l 0 (all2 (.tuple [])) := by
 unfold enterF
 cases h : Nat.ble (lenF l) 8 with
 | false => rfl
 | true =>
  have hl : l.length ≤ 8 := by have := Nat.le_of_ble_eq_true h; rwa [lenF_eq] at this
  show enter8 l = _
  match l, hl with
  | [], _ => rfl
  | [_], _ => rfl
  | [_, _], _ => rfl
  | [_, _, _], _ => rfl
  | [_, _, _, _], _ => rfl
  | [_, _, _, _, _], _ => rfl
  | [_, _, _, _, _, _], _ => rfl
  | [_, _, _, _, _, _, _], _ => rfl
  | [_, _, _, _, _, _, _, _], _ => rfl
  | _ :: _ :: _ :: _ :: _ :: _ :: _ :: _ :: _ :: _, h => simp at h
inductive Rs | mk (f : Env → Heap → (List AVal → Bool) → Bool)
def Rs.fn : Rs → Env → Heap → (List AVal → Bool) → Bool | .mk f => f
def optV (o : Option AVal) : (AVal → Bool) → Bool := Option.rec (motive := fun _ => (AVal → Bool) → Bool) (fun _ => false) (fun v k => k v) o
theorem optV_ok {o : Option AVal} {k : AVal → Bool} (h : optV o k = true) : ∃ v, o = some v ∧ k v = true := by
 cases o with
 | none => exact Bool.noConfusion h
 | some v => exact ⟨v, rfl, h⟩
def cRes (P : Program) : List ResultVar → Rs
 | [] => .mk fun _ _ k => k []
 | .tmp t :: l => match Nat.ble t 255, accOf t, cRes P l with
  | true, .mk a, .mk g => .mk fun env H k => g env H fun vs => k (a env :: vs)
  | false, _, _ => .mk fun _ _ _ => false
 | .cell b t :: l => match Nat.ble b 255, accOf b, cRes P l with
  | true, .mk a, .mk g => .mk fun env H k => g env H fun vs => optV (aLoad P t H (a env)) fun v => k (v :: vs)
  | false, _, _ => .mk fun _ _ _ => false
theorem cRes_ok {P : Program} : ∀ {l : List ResultVar} {env : Env} {H : Heap} {k : List AVal → Bool}, (cRes P l).fn env H k = true → ∃ vs, resultsA P env H l = some vs ∧ k vs = true
 | [], env, H, k, h => ⟨[], rfl, h⟩
 | .tmp t :: l, env, H, k, h => by
  unfold cRes at h
  have ha := accOf_eq t
  cases hb : Nat.ble t 255 with
  | false => simp only [hb] at h; exact Bool.noConfusion h
  | true =>
   cases ea : accOf t with | mk a => cases eg : cRes P l with | mk g =>
    rw [ea] at ha
    have ha' : a = get2 t := ha
    subst ha'
    simp only [hb, ea, eg] at h
    obtain ⟨vs, hv, hk⟩ := cRes_ok (l := l) (env := env) (H := H) (k := fun vs => k (get2 t env :: vs)) (by rw [eg]; exact h)
    exact ⟨_, by unfold resultsA; simp only [hb, hv], hk⟩
 | .cell b t :: l, env, H, k, h => by
  unfold cRes at h
  have ha := accOf_eq b
  cases hb : Nat.ble b 255 with
  | false => simp only [hb] at h; exact Bool.noConfusion h
  | true =>
   cases ea : accOf b with | mk a => cases eg : cRes P l with | mk g =>
    rw [ea] at ha
    have ha' : a = get2 b := ha
    subst ha'
    simp only [hb, ea, eg] at h
    obtain ⟨vs, hv, hk⟩ := cRes_ok (l := l) (env := env) (H := H) (k := fun vs => optV (aLoad P t H (get2 b env)) fun v => k (v :: vs)) (by rw [eg]; exact h)
    obtain ⟨v, e, hk⟩ := optV_ok hk
    exact ⟨_, by unfold resultsA; simp only [hb, hv, e], hk⟩
inductive CFn
 | no
 | yes (nt : Nat) (code : Env → St → FX → Bool) (rs : List ResultVar) (res : Env → Heap → (List AVal → Bool) → Bool)
def cFun (P : Program) (f : FuncId) : CFn :=
 match P.funcs[f]? with
 | some fn => match fn.body, Nat.ble fn.ntmps 256 with
  | some c, true => match cCode P fn.ntmps c, cRes P fn.results.toList with
   | .mk g, .mk r => forceN fn.ntmps fun n => .yes n g fn.results.toList r
  | _, _ => .no
 | none => .no
theorem cFun_ok {f : FuncId} {code : Env → St → FX → Bool} {rs : List ResultVar} {res : Env → Heap → (List AVal → Bool) → Bool} (h : cFun P f = .yes nt code rs res) :
  ∃ fn c, P.funcs[f]? = some fn ∧ fn.body = some c ∧ fn.ntmps = nt ∧ nt ≤ 256 ∧ (cCode P nt c).fn = code ∧ rs = fn.results.toList ∧ (cRes P rs).fn = res := by
 unfold cFun at h
 split at h <;> try (cases h; done)
 rename_i fn hf
 split at h <;> try (cases h; done)
 rename_i c hb hn
 cases ec : cCode P fn.ntmps c with | mk g => cases er : cRes P fn.results.toList with | mk r =>
  rw [ec, er] at h
  simp only [forceN_eq] at h
  cases h
  exact ⟨fn, c, hf, hb, rfl, Nat.le_of_ble_eq_true hn, by rw [ec]; rfl, rfl, by rw [er]; rfl⟩
abbrev CallD := FuncId → List AVal → AMode → Heap → Nat → (AEnd → AMode → Heap → Nat → Bool) → Bool
def endX (P : Program) (calld : CallD) (rs : List ResultVar) (res : Env → Heap → (List AVal → Bool) → Bool) (K : KEnd) (env : Env) (st : St) : Bool :=
 List.rec (motive := fun _ => Bool) (res env st.H fun vs => K (.ret (oneOf vs)) st.H st.nx) (fun _ _ _ => leaveK P calld rs env st.dfs .returning st.H st.nx K) st.dfs
def bodyX (P : Program) (calld : CallD) (rs : List ResultVar) (res : Env → Heap → (List AVal → Bool) → Bool) (K : KEnd) (e : AExit) (env : Env) (st : St) : Bool :=
 AExit.rec (motive := fun _ => Bool) (endX P calld rs res K env st) (fun _ => false) (endX P calld rs res K env st) (fun l => leaveK P calld rs env st.dfs (.panicking l) st.H st.nx K) e
def bodyD (res : Env → Heap → (List AVal → Bool) → Bool) (K : AEnd → AMode → Heap → Nat → Bool) (e : AExit) (env : Env) (st : St) : Bool :=
 match e, st.dfs, st.rc with
 | .normal, [], some m' => res env st.H fun vs => K (.ret (oneOf vs)) m' st.H st.nx
 | .ret, [], some m' => res env st.H fun vs => K (.ret (oneOf vs)) m' st.H st.nx
 | .pan l, [], some m' => K (.pan l) m' st.H st.nx
 | _, _, _ => false
abbrev Orc := FuncId → List AVal → Option (List AVal)
def allV (l : List AVal) (k : AVal → Bool) : Bool := List.rec (motive := fun _ => Bool) true (fun v _ ih => Bool.rec false ih (k v)) l
theorem allV_ok {k : AVal → Bool} : ∀ {l : List AVal}, allV l k = true → ∀ v, v ∈ l → k v = true
 | [], _, v, hv => by cases hv
 | x :: l, h, v, hv => by
  obtain ⟨h1, h2⟩ := brec_ok (show (Bool.rec false (allV l k) (k x) : Bool) = true from h)
  rcases List.mem_cons.1 hv with rfl | hv
  ·exact h1
  ·exact allV_ok h2 v hv
theorem Glob.none {σ : Sg} {w : World} (h : Glob σ w) : Glob (fun _ => Option.none) w :=
 ⟨fun g l hg => ⟨(h.var g l hg).1, (fun _ _ e => by cases e), (h.var g l hg).2.2⟩, fun g l hg => ⟨(h.blk g l hg).1, (fun _ _ e => by cases e), (h.blk g l hg).2.2⟩⟩
def OrcOK (P : Program) (orc : Orc) : Prop :=
 ∀ f args l, orc f args = some l → ∀ (σ : Sg) (w : World) (args' : List Value), Glob (fun _ => none) w → DenL σ args args' →
  Calls P f ⟨args'⟩ w fun e w' => (∃ v v', v ∈ l ∧ Den σ v v' ∧ e = .returned v') ∧ w'.tape = w.tape ∧ Kept w w'
def runF (call : CallK) (calld : CallD) (P : Program) (c : CFn) (args : List AVal) (H : Heap) (nx : Nat) (K : KEnd) : Bool :=
 CFn.rec (motive := fun _ => CallK → CallD → List AVal → Heap → Nat → KEnd → Bool) (fun _ _ _ _ _ _ => false)
  (fun nt code rs res call calld args H nx K => Bool.rec false (code (enterF args) ⟨call, H, nx, [], none⟩ (bodyX P calld rs res K)) (Nat.ble (lenF args) nt)) c call calld args H nx K
def orcF (o : Option (List AVal)) (H : Heap) (nx : Nat) (K : KEnd) (rest : Bool) : Bool :=
 Option.rec (motive := fun _ => Heap → Nat → KEnd → Bool → Bool) (fun _ _ _ rest => rest) (fun l H nx K _ => allV l fun v => K (.ret v) H nx) o H nx K rest
abbrev Wr := CallK → CallK
def fCallsW (P : Program) (W : Wr) (n : Nat) : CallK × CallD :=
 Nat.rec (motive := fun _ => CallK × CallD) (fun _ _ _ _ _ => false, fun _ _ _ _ _ _ => false)
  (fun _ ih => (
   W fun f args H nx K => runF ih.1 ih.2 P (cFun P f) args H nx K,
   fun f args m H nx K => match cFun P f, hasBody P f with
    | .yes nt code _ res, true => match Nat.ble (lenF args) nt with
     | true => code (enterF args) ⟨ih.1, H, nx, [], some m⟩ (bodyD res K)
     | false => false
    | _, _ => false)) n
def orcW (orc : Orc) : Wr := fun c f args H nx K => orcF (orc f args) H nx K (c f args H nx K)
def fCalls (P : Program) (orc : Orc) (n : Nat) : CallK × CallD := fCallsW P (orcW orc) n
end
def TriCD (P : Program) (f : FuncId) (args : List AVal) (m : AMode) (H : Heap) (nx : Nat) (K : AEnd → AMode → Heap → Nat → Bool) : Prop :=
 ∀ (σ : Sg) (w : World) (args' : List Value) (u : FrameMode) (R : Ending → FrameMode → World → Prop), Rel σ H nx w → DenL σ args args' → MRel σ m u →
  (∀ e m' H' nx' σ' w' en u', K e m' H' nx' = true → Rel σ' H' nx' w' → Ext σ σ' H H' nx nx' w w' → EndRel σ' e en → MRel σ' m' u' → R en u' w') → CallsD P f ⟨args'⟩ u w R
def CallDS (P : Program) (calld : CallD) : Prop := ∀ f args m H nx K, calld f args m H nx K = true → hasBody P f = true ∧ TriCD P f args m H nx K
theorem leaveK_okK {calld : CallD} (hcd : CallDS P calld) {fn : Func} :
  ∀ (dfs : Dfs) (m : AMode) (H : Heap) (nx : Nat) (K : KEnd), leaveK P calld fn.results.toList env dfs m H nx K = true →
   ∀ σ w u ds tmps R, Rel σ H nx w → EnvRel σ nt env tmps → DfsRel σ dfs ds → MRel σ m u →
    (∀ e H' nx' σ' w' en, K e H' nx' = true → Rel σ' H' nx' w' → Ext σ σ' H H' nx nx' w w' → EndRel σ' e en → R en w') → Leaves P fn tmps R ds u w
 | [], m, H, nx, K, h => by
  intro σ w u ds tmps R hr he hdf hm hR
  cases m with
  | returning =>
   have h' : (match resultsA P env H fn.results.toList with | some vs => K (.ret (oneOf vs)) H nx | none => false) = true := h
   split at h' <;> first | (cases h'; done) | skip
   rename_i vs hvs
   cases hdf
   cases u <;> try exact hm.elim
   obtain ⟨v', dv, hrun⟩ := results_ok hr he hvs
   exact ⟨v', hrun, hR _ _ _ σ w _ h' hr (Ext.refl _ _ _ _) dv⟩
  | panicking l =>
   cases hdf
   cases u <;> try exact hm.elim
   exact hR (.pan l) H nx σ w _ h hr (Ext.refl _ _ _ _) hm
 | (f, args) :: dfs, m, H, nx, K, h => by
  obtain ⟨hbody, tri⟩ := hcd f args m H nx _ h
  intro σ w u ds tmps R hr he hdf hm hR
  cases hdf with
  | @cons _ _ d _ l' hd ht =>
   obtain ⟨cap, htar, hargs⟩ := hd
   refine ⟨mode_ne hm, .func f, cap, f, d.args ++ cap, htar, ?_, ?_⟩
   ·rw [htar]
    simp only [invoke]
    exact run_callFunc hbody _ w
   ·have hl : (⟨(d.args ++ cap).toList⟩ : Array Value) = d.args ++ cap := rfl
    rw [← hl]
    refine tri σ w _ u _ hr hargs hm fun e m' H1 nx1 σ1 w1 en u1 hk R1 E1 X1 M1 => ?_
    cases e with
    | ret v =>
     cases en with
     | returned v' => exact leaveK_okK hcd dfs _ H1 nx1 K hk σ1 w1 (settle u1) l' tmps R R1 (he.mono E1.sub) (ht.mono E1.sub) (settle_ok M1) fun e2 H2 nx2 σ2 w2 en2 hk2 R2 E2 X2 => hR e2 H2 nx2 σ2 w2 en2 hk2 R2 (E1.trans E2) X2
     | panicked c => exact X1.elim
     | outgrown => exact X1.elim
    | pan l =>
     cases en with
     | returned v' => exact X1.elim
     | panicked c => exact leaveK_okK hcd dfs _ H1 nx1 K hk σ1 w1 (raised u1 c) l' tmps R R1 (he.mono E1.sub) (ht.mono E1.sub) (raised_ok M1 X1) fun e2 H2 nx2 σ2 w2 en2 hk2 R2 E2 X2 => hR e2 H2 nx2 σ2 w2 en2 hk2 R2 (E1.trans E2) X2
     | outgrown => exact X1.elim
theorem Rel.kept {σ : Sg} {nx : Nat} {w w' : World} (h : Rel σ H nx w) (k : Kept w w') : Rel σ H nx w' := by
 have hb : ∀ b cb sz, σ b = some (cb, sz) → w'.heap[cb]? = w.heap[cb]? := fun b cb sz e => k.2.2.2 cb (h.dom b cb sz e).2
 exact ⟨h.lim, fun b cb sz e => ⟨(h.dom b cb sz e).1, Nat.lt_of_lt_of_le (h.dom b cb sz e).2 k.2.2.1⟩, fun b o cb sz e1 e2 => (h.obj b o cb sz e1 e2).of_block (hb b cb sz e2), h.sep, h.sup, h.old, h.glob.of k.2.2.1 (fun i hi _ => k.2.2.2 i hi) fun b _ sz e _ => ⟨b, sz, e⟩⟩
theorem Ext.kept (σ : Sg) (H : Heap) (nx : Nat) {w w' : World} (k : Kept w w') (ht : w'.tape = w.tape) : Ext σ σ H H nx nx w w' :=
 ⟨fun _ _ h => h, fun b _ sz h _ => ⟨b, sz, h⟩, fun _ _ h => ⟨h, rfl⟩, Nat.le_refl _, k.1, ht, k.2.1, k.2.2.1, fun i hi _ => k.2.2.2 i hi⟩
def WrOK (P : Program) (W : Wr) : Prop := ∀ c, CallS P c → CallS P (W c)
theorem orcW_ok {orc : Orc} (ho : OrcOK P orc) : WrOK P (orcW orc) := by
 intro c hc f args H nx K h
 have h' : orcF (orc f args) H nx K (c f args H nx K) = true := h
 cases eo : orc f args with
 | some l =>
  rw [eo] at h'
  have h2 : allV l (fun v => K (.ret v) H nx) = true := h'
  intro σ w args' R hr hda hR
  refine (ho f args l eo σ w args' hr.glob.none hda).mono fun e w' ⟨⟨v, v', hv, dv, he⟩, ht, hk⟩ => ?_
  subst he
  exact hR (.ret v) H nx σ w' _ (allV_ok h2 v hv) (hr.kept hk) (Ext.kept σ H nx hk ht) dv
 | none =>
  rw [eo] at h'
  exact hc f args H nx K h'
theorem fCallsW_ok {W : Wr} (hm : P.follows .mixedOrders = true) (ho : WrOK P W) : ∀ n, CallS P (fCallsW P W n).1 ∧ CallDS P (fCallsW P W n).2 := by
 intro n
 induction n with
 | zero => exact ⟨(fun f args H nx K h => Bool.noConfusion h), (fun f args m H nx K h => Bool.noConfusion h)⟩
 | succ n ih =>
  obtain ⟨ih1, ih2⟩ := ih
  refine ⟨ho _ ?_, ?_⟩
  ·intro f args H nx K h
   have h2 : runF (fCallsW P W n).1 (fCallsW P W n).2 P (cFun P f) args H nx K = true := h
   cases ec : cFun P f with
   | no => rw [ec] at h2; exact Bool.noConfusion h2
   | yes nt code rs res =>
    rw [ec] at h2
    obtain ⟨fn, c, hf, hb, hnt, hn', hcode, hrs, hres⟩ := cFun_ok ec
    obtain ⟨hl, h3⟩ := brec_ok (show (Bool.rec false (code (enterF args) ⟨(fCallsW P W n).1, H, nx, [], none⟩ (bodyX P (fCallsW P W n).2 rs res K)) (Nat.ble (lenF args) nt) : Bool) = true from h2)
    have hl' : args.length ≤ nt := by have := Nat.le_of_ble_eq_true hl; rwa [lenF_eq] at this
    intro σ w args' R hr hda hR
    refine calls_of_wp_defers hf hb ?_
    rw [← hcode] at h3
    have hEnv := enter_rel hn' hl' hda
    rw [← enterF_eq] at hEnv
    subst hnt
    refine cCode_none hm c (enterF args) ⟨(fCallsW P W n).1, H, nx, [], none⟩ _ ih1 rfl h3 σ w _ _ hr ⟨hEnv, .nil⟩ ?_
    intro ex env' st' σ' w' a' e hk hcl hrc R1 E1 A1 X1
    have fin : ∀ m u, MRel σ' m u → leaveK P (fCallsW P W n).2 fn.results.toList env' st'.dfs m st'.H st'.nx K = true → Leaves P fn a'.tmps R a'.defers u w' := by
     intro m u hmu hlv
     exact leaveK_okK (fn := fn) (nt := fn.ntmps) ih2 st'.dfs m st'.H st'.nx K hlv σ' w' u a'.defers a'.tmps R R1 A1.env A1.dfs hmu
      fun e2 H2 nx2 σ2 w2 en2 hk2 R2 E2 X2 => hR e2 H2 nx2 σ2 w2 en2 hk2 R2 (E1.trans E2) X2
    have fin2 : endX P (fCallsW P W n).2 rs res K env' st' = true → Leaves P fn a'.tmps R a'.defers .returning w' := by
     intro he
     unfold endX at he
     cases hdf : st'.dfs with
     | nil =>
      rw [hdf] at he
      have he' : res env' st'.H (fun vs => K (.ret (oneOf vs)) st'.H st'.nx) = true := he
      rw [← hres] at he'
      obtain ⟨vs, hvs, hk2⟩ := cRes_ok he'
      have hA := A1.dfs
      rw [hdf] at hA
      have hdn : a'.defers = [] := by cases hq : a'.defers with | nil => rfl | cons x y => rw [hq] at hA; cases hA
      rw [hdn]
      rw [hrs] at hvs
      obtain ⟨v', dv, hrun⟩ := results_ok (fn := fn) R1 A1.env hvs
      exact ⟨v', hrun, hR _ _ _ σ' w' _ hk2 R1 E1 dv⟩
     | cons d ds =>
      rw [hdf] at he
      have he' : leaveK P (fCallsW P W n).2 rs env' (d :: ds) .returning st'.H st'.nx K = true := he
      rw [← hdf, hrs] at he'
      exact fin .returning .returning trivial he'
    cases ex with
    | normal => cases e <;> first | exact X1.elim | exact fin2 hk
    | ret => cases e <;> first | exact X1.elim | exact fin2 hk
    | pan l =>
     cases e <;> try exact X1.elim
     have hk' : leaveK P (fCallsW P W n).2 rs env' st'.dfs (.panicking l) st'.H st'.nx K = true := hk
     rw [hrs] at hk'
     exact fin (.panicking l) (.panicking _) X1 hk'
    | exit i => exact Bool.noConfusion hk
  ·intro f args m H nx K h
   have h' : (match cFun P f, hasBody P f with
    | .yes nt code _ res, true => match Nat.ble (lenF args) nt with
     | true => code (enterF args) ⟨(fCallsW P W n).1, H, nx, [], some m⟩ (bodyD res K)
     | false => false
    | _, _ => false) = true := h
   split at h' <;> first | (exact Bool.noConfusion h') | skip
   rename_i nt code rs res ec hbody
   split at h' <;> first | (exact Bool.noConfusion h') | skip
   rename_i hl
   obtain ⟨fn, c, hf, hb, hnt, hn', hcode, hrs, hres⟩ := cFun_ok ec
   have hl' : args.length ≤ nt := by have := Nat.le_of_ble_eq_true hl; rwa [lenF_eq] at this
   refine ⟨hbody, fun σ w args' u R hr hda hmr hR => ?_⟩
   refine callsD_of_wpS hf hb fun c₀ cs hu => ?_
   have hc0 : ({ c₀ with mode := u } : Frame) = c₀ := by subst hu; rfl
   rw [← hcode] at h'
   have hEnv := enter_rel hn' hl' hda
   rw [← enterF_eq] at hEnv
   subst hnt
   have := cCode_some hm c (enterF args) ⟨(fCallsW P W n).1, H, nx, [], some m⟩ _ m ih1 rfl h' σ w { tmps := (⟨args'⟩ : Array Value) ++ Array.replicate (fn.ntmps - (⟨args'⟩ : Array Value).size) undef, defers := [] } u c₀ cs (bodyPostS P fn c₀ cs R) hr ⟨hEnv, .nil⟩ hmr ?_
   ·rw [hc0] at this; exact this
   ·intro ex env' st' m' σ' w' a' e u' hk hcl hrc R1 E1 A1 X1 M1
    unfold bodyD at hk
    have hdn : st'.dfs = [] → a'.defers = [] := fun hdf => by
     have hA := A1.dfs
     rw [hdf] at hA
     cases hq : a'.defers with
     | nil => rfl
     | cons x y => rw [hq] at hA; cases hA
    split at hk <;> first | (exact Bool.noConfusion hk) | skip
    ·rename_i m2 hdf hrc2
     rw [hrc] at hrc2
     cases hrc2
     cases e <;> try exact X1.elim
     rw [← hres] at hk
     obtain ⟨vs, hvs, hk2⟩ := cRes_ok hk
     rw [hrs] at hvs
     obtain ⟨v', dv, hrun⟩ := results_ok (fn := fn) R1 A1.env hvs
     exact ⟨hdn hdf, u', rfl, v', hrun, hR _ _ _ _ σ' w' _ u' hk2 R1 E1 dv M1⟩
    ·rename_i m2 hdf hrc2
     rw [hrc] at hrc2
     cases hrc2
     cases e <;> try exact X1.elim
     rw [← hres] at hk
     obtain ⟨vs, hvs, hk2⟩ := cRes_ok hk
     rw [hrs] at hvs
     obtain ⟨v', dv, hrun⟩ := results_ok (fn := fn) R1 A1.env hvs
     exact ⟨hdn hdf, u', rfl, v', hrun, hR _ _ _ _ σ' w' _ u' hk2 R1 E1 dv M1⟩
    ·rename_i l m2 hdf hrc2
     rw [hrc] at hrc2
     cases hrc2
     cases e <;> try exact X1.elim
     exact ⟨hdn hdf, u', rfl, hR _ _ _ _ σ' w' _ u' hk R1 E1 X1 M1⟩
theorem fCalls_ok {orc : Orc} (hm : P.follows .mixedOrders = true) (ho : OrcOK P orc) (n : Nat) : CallS P (fCalls P orc n).1 ∧ CallDS P (fCalls P orc n).2 := fCallsW_ok hm (orcW_ok ho) n
noncomputable def isT (e : AEnd) : Bool := AEnd.rec (motive := fun _ => Bool) (fun v => vBool v true false) (fun _ => false) e
def noOrc : Orc := fun _ _ => none
theorem noOrc_ok (P : Program) : OrcOK P noOrc := fun _ _ _ h => by cases h
omit [GTab] in
theorem glob_none (h : GTab) (hn : ∀ g, h.tab g = none) (hb : ∀ g, h.blk g = none) (σ : Sg) (w : World) : @Glob h σ w := ⟨fun g l hg => (by rw [hn g] at hg; cases hg), fun g l hg => (by rw [hb g] at hg; cases hg)⟩
end Go.Ev
end
section
namespace Go.Ev
variable [GTab]
noncomputable def intsL (m : Nat) : List AVal := (List.range m).map fun i => .int .i64 (.ofNat i)
noncomputable def pickL (args : List AVal) (rest : Option (List AVal)) : Option (List AVal) :=
 match args with
 | [.anyInt .i64 m i, .int .i64 (.ofNat (Nat.succ j))] => match Nat.ble (Nat.succ j) 4096 with
  | true => match Nat.beq m (Nat.succ j) with
   | true => some [.int .i64 (.ofNat i)]
   | false => some (intsL (Nat.succ j))
  | false => rest
 | _ => rest
end Go.Ev
namespace Go.Ev
variable [GTab]
def noBlk : AVal → Bool
 | .und | .bool _ | .int _ _ | .str _ _ | .nilPtr | .nilSlice | .nilMap | .nilFunc | .nilIface | .anyInt _ _ _ | .anyBool | .gptr _ _ | .anyStr _ => true
 | _ => false
theorem Den.noBlk {σ σ2 : Sg} {a : AVal} {v : Value} (h : Ev.noBlk a = true) (hd : Den σ a v) : Den σ2 a v := by
 cases hd <;> first | (cases h; done) | (constructor; done) | (constructor; assumption)
noncomputable def noBlkL (l : List AVal) : Bool := allL noBlk l
theorem DenL.noBlk {σ σ2 : Sg} : ∀ {l : List AVal} {l' : List Value}, (∀ a, a ∈ l → Ev.noBlk a = true) → DenL σ l l' → DenL σ2 l l'
 | _, _, _, .nil => .nil
 | _, _, h, .cons hd t => .cons (hd.noBlk (h _ (List.mem_cons_self ..))) (DenL.noBlk (fun a ha => h a (List.mem_cons_of_mem _ ha)) t)
noncomputable def keep1 (p a : AVal) : Bool := match p with
 | .und => true
 | p => match noBlk p with
  | true => beqA 9 p a
  | false => false
noncomputable def keepL : List AVal → List AVal → Bool
 | [], [] => true
 | p :: ps, a :: as => match keep1 p a with
  | true => keepL ps as
  | false => false
 | _, _ => false
noncomputable def keepV (p a : AVal) : Bool := match p, a with
 | .tuple ps, .tuple as => keepL ps as
 | p, a => keep1 p a
theorem keep1_ok {σ σ2 : Sg} {p a : AVal} {v : Value} (h : keep1 p a = true) (hd : Den σ a v) : Den σ2 p v := by
 unfold keep1 at h
 split at h
 ·exact .und _
 ·split at h <;> try (cases h; done)
  rename_i hn
  have := beqA_ok _ _ _ h
  subst this
  exact hd.noBlk hn
theorem keepL_ok {σ σ2 : Sg} : ∀ {ps as : List AVal} {vs : List Value}, keepL ps as = true → DenL σ as vs → DenL σ2 ps vs
 | [], [], _, _, .nil => .nil
 | p :: ps, a :: as, _, h, .cons hd t => by
  unfold keepL at h
  split at h <;> try (cases h; done)
  exact .cons (keep1_ok ‹_› hd) (keepL_ok h t)
 | [], _ :: _, _, h, _ => by cases h
 | _ :: _, [], _, h, _ => by cases h
theorem keepV_ok {σ σ2 : Sg} {p a : AVal} {v : Value} (h : keepV p a = true) (hd : Den σ a v) : Den σ2 p v := by
 unfold keepV at h
 split at h
 ·cases hd with
  | tuple hl => exact .tuple (keepL_ok h hl)
 ·exact keep1_ok h hd
noncomputable def isV (p : AVal) (e : AEnd) : Bool := match e with
 | .ret a => keepV p a
 | .pan _ => false
noncomputable def runV (P : Program) (orc : Orc) (f : FuncId) (n : Nat) (args : List AVal) (p : AVal) : Bool := (fCalls P orc n).1 f args (all5 none) 0 fun e _ _ => isV p e
theorem runV_ok {P : Program} {orc : Orc} {f : FuncId} {n : Nat} {args : List AVal} {p : AVal} (hm : P.follows .mixedOrders = true) (ho : OrcOK P orc) (h : runV P orc f n args p = true) {w : World} (hg : Glob (fun _ => none) w) (args' : List Value) (hd : DenL (fun _ => none) args args') :
  Calls P f ⟨args'⟩ w fun e w' => (∃ v', Den (fun _ => none) p v' ∧ e = .returned v') ∧ w'.tape = w.tape ∧ Kept w w' := by
 refine (fCalls_ok hm ho n).1 f args (all5 none) 0 _ h (fun _ => none) w args' _ (Rel.nothing hg) hd fun e H' nx' σ' w' en hk R E he => ?_
 unfold isV at hk
 cases e with
 | pan l => exact Bool.noConfusion hk
 | ret a =>
  cases en with
  | returned v' => exact ⟨⟨v', keepV_ok hk he, rfl⟩, E.tape, E.os, E.output, E.size, fun i hi => E.frame i hi fun b sz h => by cases h⟩
  | panicked c => exact he.elim
  | outgrown => exact he.elim
end Go.Ev
end
section
namespace Go.Ev
variable [GTab] {P : Program}
noncomputable def mapB (f : Nat → Nat) (v : AVal) : AVal :=
 AVal.rec (motive_1 := fun _ => AVal) (motive_2 := fun _ => List AVal) .und (fun b => .bool b) (fun k n => .int k n) (fun n x => .str n x) (fun b off => .ptr (f b) off) .nilPtr
  (fun b off len esz full => .slice (f b) off len esz full) .nilSlice (fun b => .map (f b)) .nilMap (fun fn _ _ a b => .func fn a b) .nilFunc (fun t _ v => .iface t v) .nilIface (fun _ l => .agg l) (fun _ l => .tuple l)
  (fun k m i => .anyInt k m i) .anyBool (fun g off => .gptr g off) (fun i => .anyStr i) [] (fun _ _ v l => v :: l) v
noncomputable def mapBL (f : Nat → Nat) (l : List AVal) : List AVal := List.rec (motive := fun _ => List AVal) [] (fun v _ ih => mapB f v :: ih) l
theorem mapB_func (f : Nat → Nat) (fn : Fn) (a b : List AVal) : mapB f (.func fn a b) = .func fn (mapBL f a) (mapBL f b) := by
 have h : ∀ l : List AVal, AVal.rec_1 (motive_1 := fun _ => AVal) (motive_2 := fun _ => List AVal) .und (fun b => .bool b) (fun k n => .int k n) (fun n x => .str n x) (fun b off => .ptr (f b) off) .nilPtr
  (fun b off len esz full => .slice (f b) off len esz full) .nilSlice (fun b => .map (f b)) .nilMap (fun fn _ _ a b => .func fn a b) .nilFunc (fun t _ v => .iface t v) .nilIface (fun _ l => .agg l) (fun _ l => .tuple l)
  (fun k m i => .anyInt k m i) .anyBool (fun g off => .gptr g off) (fun i => .anyStr i) [] (fun _ _ v l => v :: l) l = mapBL f l := by
  intro l
  induction l with
  | nil => rfl
  | cons v l ih => show mapB f v :: _ = mapB f v :: mapBL f l; rw [ih]
 show AVal.func fn _ _ = _
 rw [h, h]
theorem mapB_agg (f : Nat → Nat) (a : List AVal) : mapB f (.agg a) = .agg (mapBL f a) := by
 have h : ∀ l : List AVal, AVal.rec_1 (motive_1 := fun _ => AVal) (motive_2 := fun _ => List AVal) .und (fun b => .bool b) (fun k n => .int k n) (fun n x => .str n x) (fun b off => .ptr (f b) off) .nilPtr
  (fun b off len esz full => .slice (f b) off len esz full) .nilSlice (fun b => .map (f b)) .nilMap (fun fn _ _ a b => .func fn a b) .nilFunc (fun t _ v => .iface t v) .nilIface (fun _ l => .agg l) (fun _ l => .tuple l)
  (fun k m i => .anyInt k m i) .anyBool (fun g off => .gptr g off) (fun i => .anyStr i) [] (fun _ _ v l => v :: l) l = mapBL f l := by
  intro l
  induction l with
  | nil => rfl
  | cons v l ih => show mapB f v :: _ = mapB f v :: mapBL f l; rw [ih]
 show AVal.agg _ = _
 rw [h]
theorem mapB_tuple (f : Nat → Nat) (a : List AVal) : mapB f (.tuple a) = .tuple (mapBL f a) := by
 have h : ∀ l : List AVal, AVal.rec_1 (motive_1 := fun _ => AVal) (motive_2 := fun _ => List AVal) .und (fun b => .bool b) (fun k n => .int k n) (fun n x => .str n x) (fun b off => .ptr (f b) off) .nilPtr
  (fun b off len esz full => .slice (f b) off len esz full) .nilSlice (fun b => .map (f b)) .nilMap (fun fn _ _ a b => .func fn a b) .nilFunc (fun t _ v => .iface t v) .nilIface (fun _ l => .agg l) (fun _ l => .tuple l)
  (fun k m i => .anyInt k m i) .anyBool (fun g off => .gptr g off) (fun i => .anyStr i) [] (fun _ _ v l => v :: l) l = mapBL f l := by
  intro l
  induction l with
  | nil => rfl
  | cons v l ih => show mapB f v :: _ = mapB f v :: mapBL f l; rw [ih]
 show AVal.tuple _ = _
 rw [h]
section
variable {σ1 σ2 : Sg} {f g : Nat → Nat} (hs : ∀ b p, σ1 (f b) = some p → σ2 (g b) = some p)
include hs
mutual
theorem Den.mapB : ∀ (c : AVal) (v : Value), Den σ1 (Ev.mapB f c) v → Den σ2 (Ev.mapB g c) v
 | .und, _, _ => .und _
 | .bool b, _, h => by cases h with | bool => exact .bool b
 | .int k n, _, h => by cases h with | int => exact .int k n
 | .str n x, _, h => by cases h with | str _ _ hx => exact .str n x hx
 | .ptr b off, _, h => by cases h with | ptr hp => exact .ptr (hs _ _ hp)
 | .nilPtr, _, h => by cases h with | nilPtr => exact .nilPtr
 | .slice b off len esz full, _, h => by
  cases h with
  | slice hp h1 h2 h3 => exact .slice (hs _ _ hp) h1 h2 h3
  | slice0 hp => exact .slice0 (hs _ _ hp)
 | .nilSlice, _, h => by cases h with | nilSlice => exact .nilSlice
 | .map b, _, h => by cases h with | map hp => exact .map (hs _ _ hp)
 | .nilMap, _, h => by cases h with | nilMap => exact .nilMap
 | .func fn a b, _, h => by
  rw [mapB_func] at h ⊢
  cases h with
  | func h1 h2 => exact .func (DenL.mapB a _ h1) (DenL.mapB b _ h2)
 | .nilFunc, _, h => by cases h with | nilFunc => exact .nilFunc
 | .iface t v, _, h => by
  have h' : Den σ1 (.iface t (Ev.mapB f v)) _ := h
  show Den σ2 (.iface t (Ev.mapB g v)) _
  cases h' with
  | iface hv => exact .iface (Den.mapB v _ hv)
 | .nilIface, _, h => by cases h with | nilIface => exact .nilIface
 | .agg a, _, h => by
  rw [mapB_agg] at h ⊢
  cases h with
  | agg h1 => exact .agg (DenL.mapB a _ h1)
 | .tuple a, _, h => by
  rw [mapB_tuple] at h ⊢
  cases h with
  | tuple h1 => exact .tuple (DenL.mapB a _ h1)
 | .anyInt k m i, _, h => by cases h with | anyInt _ _ _ n hn => exact .anyInt k m i n hn
 | .anyBool, _, h => by cases h with | anyBool b => exact .anyBool b
 | .gptr q off, _, h => by cases h with | gptr => exact .gptr q off
 | .anyStr i, _, h => by cases h with | anyStr => exact .anyStr i
theorem DenL.mapB : ∀ (c : List AVal) (v : List Value), DenL σ1 (mapBL f c) v → DenL σ2 (mapBL g c) v
 | [], _, h => by cases h with | nil => exact .nil
 | c :: l, _, h => by
  have h' : DenL σ1 (Ev.mapB f c :: mapBL f l) _ := h
  show DenL σ2 (Ev.mapB g c :: mapBL g l) _
  cases h' with
  | cons h1 h2 => exact .cons (Den.mapB c _ h1) (DenL.mapB l _ h2)
end
end
theorem mapBL_get (f : Nat → Nat) : ∀ (l : List AVal) (i : Nat), (mapBL f l)[i]? = (l[i]?).map (Ev.mapB f)
 | [], i => by simp [mapBL]
 | v :: l, 0 => by show (Ev.mapB f v :: mapBL f l)[0]? = _; simp
 | v :: l, i + 1 => by show (Ev.mapB f v :: mapBL f l)[i + 1]? = _; simp [mapBL_get f l i]
noncomputable def layO (nx : Nat) (objs : List (List AVal)) : Nat → Heap → Heap :=
 List.rec (motive := fun _ => Nat → Heap → Heap) (fun _ H => H) (fun c _ ih b H => forceN b fun b => ih (Nat.succ b) (hset b (some (.cells c.length (CT.ofL c.length (mapBL (Nat.add nx) c)) [] false)) H)) objs
theorem layO_cons (nx : Nat) (c : List AVal) (objs : List (List AVal)) (b : Nat) (H : Heap) :
  layO nx (c :: objs) b H = layO nx objs (b + 1) (set5 b (some (.cells c.length (CT.ofL c.length (mapBL (Nat.add nx) c)) [] false)) H) := by
 have e : layO nx (c :: objs) b H = forceN b fun b => layO nx objs (Nat.succ b) (hset b (some (.cells c.length (CT.ofL c.length (mapBL (Nat.add nx) c)) [] false)) H) := rfl
 rw [e, forceN_eq, hset_eq]
theorem layO_get (nx : Nat) : ∀ (objs : List (List AVal)) (b : Nat) (H : Heap) (x : Nat), b + objs.length ≤ 1048576 → x < 1048576 →
  get5 x (layO nx objs b H) = if b ≤ x ∧ x < b + objs.length then (objs[x - b]?).map (fun c => .cells c.length (CT.ofL c.length (mapBL (Nat.add nx) c)) [] false) else get5 x H
 | [], b, H, x, _, _ => by
  rw [if_neg (by simp)]; rfl
 | c :: objs, b, H, x, hb, hx => by
  simp only [List.length_cons] at hb
  rw [layO_cons, layO_get nx objs (b + 1) _ x (by omega) hx]
  by_cases h1 : b = x
  ·subst h1
   rw [if_neg (by omega), get5_set5_same, if_pos (by simp)]
   simp
  ·by_cases h2 : b + 1 ≤ x ∧ x < b + 1 + objs.length
   ·rw [if_pos h2, if_pos (by simp; omega)]
    have e : x - b = (x - (b + 1)) + 1 := by omega
    rw [e]; simp
   ·rw [if_neg h2, get5_ne h1 (by omega) hx, if_neg (by simp; omega)]
noncomputable def rnF (rn : List Nat) (b : Nat) : Nat := List.rec (motive := fun _ => Nat → Nat) (fun _ => 1048576) (fun r _ ih b => Nat.rec (motive := fun _ => Nat) r (fun b _ => ih b) b) rn b
theorem rnF_eq : ∀ (rn : List Nat) (b : Nat), rnF rn b = rn.getD b 1048576
 | [], b => by simp [rnF]
 | r :: rn, 0 => rfl
 | r :: rn, b + 1 => by show rnF rn b = _; rw [rnF_eq rn b]; simp
noncomputable def sameCells (rn : List Nat) (o : Option AObj) (c : List AVal) : Bool :=
 match o with
 | some (.cells n ct olds _) => match Nat.beq n c.length, allL (fun b => bnot (memN b rn)) olds with
  | true, true => beqL 9 (mapBL (rnF rn) c) (CT.slab ct n 0)
  | _, _ => false
 | _ => false
noncomputable def sameObjs (rn : List Nat) (H : Heap) : List Nat → List (List AVal) → Bool
 | [], [] => true
 | r :: rs, c :: cs => match sameCells rn (hget r H) c with
  | true => sameObjs rn H rs cs
  | false => false
 | _, _ => false
noncomputable def nodupN : List Nat → Bool
 | [] => true
 | r :: rs => match memN r rs with
  | true => false
  | false => nodupN rs
noncomputable def allShort (objs : List (List AVal)) : Bool := allL (fun c => Nat.ble c.length 4096) objs
noncomputable def isI (rn : List Nat) (p : AVal) (objs : List (List AVal)) (e : AEnd) (H : Heap) : Bool :=
 match e with
 | .ret v => match beqA 9 (Ev.mapB (rnF rn) p) v with
  | true => sameObjs rn H rn objs
  | false => false
 | .pan _ => false
noncomputable def runI (P : Program) (W : Wr) (g : FuncId) (n : Nat) (args : List AVal) (rn : List Nat) (p : AVal) (objs : List (List AVal)) : Bool :=
 (fCallsW P W n).1 g args (all5 none) 0 fun e H _ => isI rn p objs e H
noncomputable def impK (p : AVal) (objs : List (List AVal)) (H : Heap) (nx : Nat) (K : KEnd) : Bool :=
 forceN nx fun nx => Bool.rec false (K (.ret (Ev.mapB (Nat.add nx) p)) (layO nx objs nx H) (Nat.add nx objs.length)) (Nat.ble (Nat.add nx objs.length) 1048576)
noncomputable def impW (g : FuncId) (args0 : List AVal) (p : AVal) (objs : List (List AVal)) (W : Wr) : Wr := fun c f args H nx K =>
 Bool.rec (W c f args H nx K) (Bool.rec (W c f args H nx K) (impK p objs H nx K) (beqL 9 args0 args)) (Nat.beq f g)
theorem memN_iff (i : Nat) : ∀ l : List Nat, memN i l = true ↔ i ∈ l
 | [] => by simp [memN]
 | j :: l => by
  have e : memN i (j :: l) = (Bool.rec (memN i l) true (Nat.beq j i) : Bool) := rfl
  rw [e]
  cases h : Nat.beq j i with
  | true => have := Nat.eq_of_beq_eq_true h; simp [this]
  | false =>
   have hne : i ≠ j := fun he => by subst he; rw [Nat.beq_refl] at h; cases h
   show memN i l = true ↔ _
   rw [memN_iff i l]; simp [hne]
theorem nodupN_ok : ∀ {l : List Nat}, nodupN l = true → ∀ (i j a : Nat), l[i]? = some a → l[j]? = some a → i = j
 | [], _, i, j, a, h, _ => by simp at h
 | r :: rs, h, i, j, a, hi, hj => by
  unfold nodupN at h
  split at h <;> try (cases h; done)
  rename_i hm
  have hnm : r ∉ rs := fun hh => by rw [(memN_iff r rs).2 hh] at hm; cases hm
  cases i with
  | zero =>
   cases j with
   | zero => rfl
   | succ j => simp at hi hj; subst hi; exact (hnm (List.mem_of_getElem? hj)).elim
  | succ i =>
   cases j with
   | zero => simp at hi hj; subst hj; exact (hnm (List.mem_of_getElem? hi)).elim
   | succ j => simp at hi hj; rw [nodupN_ok h i j a hi hj]
theorem sameObjs_ok {rn : List Nat} {H : Heap} : ∀ {rs : List Nat} {cs : List (List AVal)}, sameObjs rn H rs cs = true → rs.length = cs.length ∧ ∀ (i r : Nat) (c : List AVal), rs[i]? = some r → cs[i]? = some c → sameCells rn (get5 r H) c = true
 | [], [], _ => ⟨rfl, fun i r c h _ => by simp at h⟩
 | [], _ :: _, h => by cases h
 | _ :: _, [], h => by cases h
 | r :: rs, c :: cs, h => by
  unfold sameObjs at h
  split at h <;> try (cases h; done)
  rename_i hc
  rw [hget_eq] at hc
  obtain ⟨h1, h2⟩ := sameObjs_ok h
  refine ⟨by simp [h1], fun i r' c' e1 e2 => ?_⟩
  cases i with
  | zero => simp at e1 e2; subst e1; subst e2; exact hc
  | succ i => simp at e1 e2; exact h2 i r' c' e1 e2
theorem impW_ok {W : Wr} {g : FuncId} {n : Nat} {args0 : List AVal} {rn : List Nat} {p : AVal} {objs : List (List AVal)} (hm : P.follows .mixedOrders = true) (hW : WrOK P W) (hb : noBlkL args0 = true)
  (hnd : nodupN rn = true) (hsh : allShort objs = true) (h : runI P W g n args0 rn p objs = true) : WrOK P (impW g args0 p objs W) := by
 intro c hc f args H nx K hk
 unfold impW at hk
 cases hf : Nat.beq f g with
 | false => rw [hf] at hk; exact hW c hc f args H nx K hk
 | true =>
  rw [hf] at hk
  cases he : beqL 9 args0 args with
  | false => rw [he] at hk; exact hW c hc f args H nx K hk
  | true =>
   rw [he] at hk
   have hk' : impK p objs H nx K = true := hk
   have e1 := Nat.eq_of_beq_eq_true hf
   have e2 := beqL_ok (beqA_ok 9) _ _ he
   subst e1
   subst e2
   unfold impK at hk'
   rw [forceN_eq] at hk'
   obtain ⟨hlim0, hK⟩ := brec_ok hk'
   have hlim : nx + objs.length ≤ 1048576 := Nat.le_of_ble_eq_true hlim0
   intro σ w args' R hr hda hR
   have hda0 : DenL (fun _ => none) args0 args' := DenL.noBlk (fun a ha => allL_ok hb a ha) hda
   refine (fCallsW_ok hm hW n).1 f args0 (all5 none) 0 _ h (fun _ => none) w args' _ (Rel.nothing hr.glob.none) hda0 fun e H1 nx1 σ1 w1 en hi R1 E1 X1 => ?_
   cases e with
   | pan l => exact Bool.noConfusion hi
   | ret v =>
    have hi' : (match beqA 9 (Ev.mapB (rnF rn) p) v with | true => sameObjs rn H1 rn objs | false => false) = true := hi
    clear hi
    split at hi' <;> first | (exact Bool.noConfusion hi') | skip
    rename_i hv
    have hi := hi'
    have hv := beqA_ok _ _ _ hv
    obtain ⟨hlen, hobj⟩ := sameObjs_ok hi
    have kept : Kept w w1 := ⟨E1.os, E1.output, E1.size, fun i hi => E1.frame i hi fun b sz h => by cases h⟩
    have fresh : ∀ b cb sz, σ1 b = some (cb, sz) → w.heap.size ≤ cb := by
     intro b cb sz hs
     rcases Nat.lt_or_ge cb w.heap.size with hlt | hge
     ·obtain ⟨b', sz', h'⟩ := E1.rng b cb sz hs hlt; cases h'
     ·exact hge
    let σ2 : Sg := fun b => if b < nx then σ b else if b < nx + objs.length then σ1 (rnF rn (b - nx)) else none
    have s_lo : ∀ b, b < nx → σ2 b = σ b := fun b hb => by show (if _ then _ else _) = _; rw [if_pos hb]
    have s_hi : ∀ i, i < objs.length → σ2 (nx + i) = σ1 (rnF rn i) := fun i hi => by
     show (if _ then _ else _) = _
     rw [if_neg (by omega), if_pos (by omega)]
     congr 2
     omega
    have σdom : ∀ b p, σ b = some p → b < nx := fun b p hp => by obtain ⟨cb, sz⟩ := p; exact (hr.dom b cb sz hp).1
    have sub : ∀ b p, σ b = some p → σ2 b = some p := fun b p hp => by rw [s_lo b (σdom b p hp)]; exact hp
    have inv : ∀ b p, σ2 b = some p → (b < nx ∧ σ b = some p) ∨ (∃ i, i < objs.length ∧ b = nx + i ∧ σ1 (rnF rn i) = some p) := by
     intro b p hp
     by_cases h1 : b < nx
     ·rw [s_lo b h1] at hp; exact .inl ⟨h1, hp⟩
     ·have hp' : (if b < nx then σ b else if b < nx + objs.length then σ1 (rnF rn (b - nx)) else none) = some p := hp
      rw [if_neg h1] at hp'
      by_cases h2 : b < nx + objs.length
      ·rw [if_pos h2] at hp'
       exact .inr ⟨b - nx, by omega, by omega, hp'⟩
      ·rw [if_neg h2] at hp'; cases hp'
    have trans : ∀ b p, σ1 (rnF rn b) = some p → σ2 (Nat.add nx b) = some p := by
     intro b p hp
     have hb : b < objs.length := by
      rcases Nat.lt_or_ge b objs.length with hlt | hge
      ·exact hlt
      ·rw [rnF_eq] at hp
       have : rn.getD b 1048576 = 1048576 := by simp [List.getD, List.getElem?_eq_none (by omega : rn.length ≤ b)]
       rw [this] at hp
       obtain ⟨cb, sz⟩ := p
       have := (R1.dom _ cb sz hp).1
       have := R1.lim
       omega
     show σ2 (nx + b) = some p
     rw [s_hi b hb]; exact hp
    have rnget : ∀ i, i < objs.length → rn[i]? = some (rnF rn i) := fun i hi => by
     rw [rnF_eq]
     simp [List.getD, List.getElem?_eq_getElem (show i < rn.length by omega)]
    have lowget : ∀ b p, σ b = some p → get5 b (layO nx objs nx H) = get5 b H := fun b p hp => by
     have := σdom b p hp
     rw [layO_get nx objs nx H b hlim (by have := hr.lim; omega), if_neg (by omega)]
    have higet : ∀ i (hi : i < objs.length), get5 (nx + i) (layO nx objs nx H) = some (.cells (objs[i]).length (CT.ofL (objs[i]).length (mapBL (Nat.add nx) (objs[i]))) [] false) := fun i hi => by
     rw [layO_get nx objs nx H _ hlim (by omega), if_pos (by omega)]
     have : nx + i - nx = i := by omega
     rw [this, List.getElem?_eq_getElem hi]
     rfl
    have hcell : ∀ i (hi : i < objs.length), ∃ ct olds s, get5 (rnF rn i) H1 = some (.cells (objs[i]).length ct olds s) ∧ (∀ b, b ∈ olds → b ∉ rn) ∧ mapBL (rnF rn) (objs[i]) = CT.slab ct (objs[i]).length 0 := by
     intro i hi
     have hsc := hobj i _ _ (rnget i hi) (List.getElem?_eq_getElem hi)
     unfold sameCells at hsc
     split at hsc <;> first | (exact Bool.noConfusion hsc) | skip
     rename_i n' ct olds s hg
     split at hsc <;> first | (exact Bool.noConfusion hsc) | skip
     rename_i hn' hol
     have hn2 := Nat.eq_of_beq_eq_true hn'
     subst hn2
     refine ⟨ct, olds, s, hg, ?_, beqL_ok (beqA_ok 9) _ _ hsc⟩
     intro b hb hbr
     have := allL_ok hol b hb
     rw [(memN_iff b rn).2 hbr] at this
     cases this
    have R0 := hr.kept kept
    have glob2 : Glob σ2 w1 := by
     refine ⟨fun q l hq => ?_, fun q l hq => ?_⟩
     ·obtain ⟨g1, g2, g3⟩ := R0.glob.var q l hq
      obtain ⟨_, k2, _⟩ := R1.glob.var q l hq
      refine ⟨g1, ?_, g3⟩
      intro b sz hb
      rcases inv b _ hb with ⟨_, h'⟩ | ⟨i, _, _, h'⟩
      ·exact g2 b sz h'
      ·exact k2 _ sz h'
     ·obtain ⟨g1, g2, g3⟩ := R0.glob.blk q l hq
      obtain ⟨_, k2, _⟩ := R1.glob.blk q l hq
      refine ⟨g1, ?_, g3⟩
      intro b sz hb
      rcases inv b _ hb with ⟨_, h'⟩ | ⟨i, _, _, h'⟩
      ·exact g2 b sz h'
      ·exact k2 _ sz h'
    have rel2 : Rel σ2 (layO nx objs nx H) (nx + objs.length) w1 := by
     refine ⟨hlim, ?_, ?_, ?_, ?_, ?_, glob2⟩
     ·intro b cb sz hb
      rcases inv b _ hb with ⟨h1, h'⟩ | ⟨i, h1, h2, h'⟩
      ·exact ⟨by omega, (R0.dom b cb sz h').2⟩
      ·exact ⟨by omega, (R1.dom _ cb sz h').2⟩
     ·intro b o cb sz e3 hb
      rcases inv b _ hb with ⟨h1, h'⟩ | ⟨i, h1, h2, h'⟩
      ·rw [lowget b _ h'] at e3
       exact (R0.obj b o cb sz e3 h').mono sub
      ·subst h2
       rw [higet i h1] at e3
       cases e3
       obtain ⟨ct, olds, s, hg, _, hsl⟩ := hcell i h1
       obtain ⟨o1, o2, o3, o4⟩ := R1.obj _ _ cb sz hg h'
       have hle : (objs[i]).length ≤ 4096 := Nat.le_of_ble_eq_true (allL_ok hsh _ (List.getElem_mem h1))
       refine ⟨o1, CT.ofL_cap _ _ hle, o3, ?_⟩
       intro k hk2
       obtain ⟨v', hv', dv⟩ := o4 k hk2
       refine ⟨v', hv', ?_⟩
       rw [CT.get_ofL _ _ k hle hk2]
       have e5 : (mapBL (Nat.add nx) (objs[i])).getD k .und = Ev.mapB (Nat.add nx) ((objs[i])[k]) := by
        simp [List.getD, mapBL_get, List.getElem?_eq_getElem hk2]
       have e6 : CT.get k ct = Ev.mapB (rnF rn) ((objs[i])[k]) := by
        have q1 := CT.slab_get ct (objs[i]).length 0 k hk2
        rw [← hsl, mapBL_get, List.getElem?_eq_getElem hk2] at q1
        simp at q1
        exact q1.symm
       rw [e5]
       rw [e6] at dv
       exact Den.mapB trans _ _ dv
     ·intro b b' o o' cb sz sz' e3 e4 hb hb'
      rcases inv b _ hb with ⟨h1, h'⟩ | ⟨i, h1, h2, h'⟩
      ·rcases inv b' _ hb' with ⟨h3, h''⟩ | ⟨j, h3, h4, h''⟩
       ·rw [lowget b _ h'] at e3; rw [lowget b' _ h''] at e4
        exact R0.sep b b' o o' cb sz sz' e3 e4 h' h''
       ·have q1 := (hr.dom b cb sz h').2
        have q2 := fresh _ cb sz' h''
        omega
      ·rcases inv b' _ hb' with ⟨h3, h''⟩ | ⟨j, h3, h4, h''⟩
       ·have q1 := (hr.dom b' cb sz' h'').2
        have q2 := fresh _ cb sz h'
        omega
       ·subst h2; subst h4
        obtain ⟨ct, olds, s, hg, hno, _⟩ := hcell i h1
        obtain ⟨ct', olds', s', hg', hno', _⟩ := hcell j h3
        rcases R1.sep _ _ _ _ cb sz sz' hg hg' h' h'' with q | q | q
        ·left
         have := nodupN_ok hnd i j (rnF rn i) (rnget i h1) (by rw [q]; exact rnget j h3)
         omega
        ·exact (hno' _ q (List.mem_of_getElem? (rnget i h1))).elim
        ·exact (hno _ q (List.mem_of_getElem? (rnget j h3))).elim
     ·intro b b' o o' q e3 e4 hb' hm'
      rcases inv b' _ hb' with ⟨h3, h''⟩ | ⟨j, h3, h4, h''⟩
      ·rw [lowget b' _ h''] at e4
       obtain ⟨q', hq'⟩ := R0.old b' o' q e4 h'' b hm'
       rw [lowget b _ hq'] at e3
       exact R0.sup b b' o o' q e3 e4 h'' hm'
      ·subst h4
       rw [higet j h3] at e4
       cases e4
       simp [AObj.olds] at hm'
     ·intro b o q e3 hb b' hm'
      rcases inv b _ hb with ⟨h1, h'⟩ | ⟨i, h1, h2, h'⟩
      ·rw [lowget b _ h'] at e3
       obtain ⟨q', hq'⟩ := R0.old b o q e3 h' b' hm'
       exact ⟨q', sub _ _ hq'⟩
      ·subst h2
       rw [higet i h1] at e3
       cases e3
       simp [AObj.olds] at hm'
    have ext2 : Ext σ σ2 H (layO nx objs nx H) nx (nx + objs.length) w w1 := by
     refine ⟨sub, ?_, ?_, by omega, E1.os, E1.tape, E1.output, E1.size, fun i hi _ => kept.2.2.2 i hi⟩
     ·intro b cb sz hb hlt
      rcases inv b _ hb with ⟨h1, h'⟩ | ⟨i, h1, h2, h'⟩
      ·exact ⟨b, sz, h'⟩
      ·have := fresh _ cb sz h'; omega
     ·intro b hb hn
      refine ⟨by rw [s_lo b hb]; exact hn, ?_⟩
      rw [layO_get nx objs nx H b hlim (by have := hr.lim; omega), if_neg (by omega)]
    cases en with
    | returned v' =>
     have X1' : Den σ1 v v' := X1
     rw [← hv] at X1'
     exact hR (.ret (Ev.mapB (Nat.add nx) p)) _ _ σ2 w1 _ hK rel2 ext2 (Den.mapB trans _ _ X1')
    | panicked c => exact X1.elim
    | outgrown => exact X1.elim
noncomputable def runTW (P : Program) (W : Wr) (f : FuncId) (n : Nat) (args : List AVal) : Bool := (fCallsW P W n).1 f args (all5 none) 0 fun e _ _ => isT e
theorem runTW_ok {W : Wr} {f : FuncId} {n : Nat} {args : List AVal} (hm : P.follows .mixedOrders = true) (hW : WrOK P W) (h : runTW P W f n args = true) {w : World} (hg : Glob (fun _ => none) w) (args' : List Value) (hd : DenL (fun _ => none) args args') :
  Calls P f ⟨args'⟩ w fun e w' => e = .returned (.bool true) ∧ w'.tape = w.tape ∧ Kept w w' := by
 refine (fCallsW_ok hm hW n).1 f args (all5 none) 0 _ h (fun _ => none) w args' _ (Rel.nothing hg) hd fun e H' nx' σ' w' en hk R E he => ?_
 cases e with
 | pan l => exact Bool.noConfusion hk
 | ret v =>
  have hk' : vBool v true false = true := hk
  rcases vBool_ok hk' with ⟨rfl, _⟩ | ⟨_, hf⟩
  ·cases en with
   | returned v' =>
    have he' : Den σ' (.bool true) v' := he
    cases he'
    exact ⟨rfl, E.tape, E.os, E.output, E.size, fun i hi => E.frame i hi fun b sz h => by cases h⟩
   | panicked c => exact he.elim
   | outgrown => exact he.elim
  ·exact Bool.noConfusion hf
end Go.Ev
end
section
namespace Go.Ev
variable [GTab] {P : Program}
noncomputable def cntN (x c n : Nat) : Nat := Nat.rec (motive := fun _ => Nat) 0 (fun n ih => Bool.rec ih (Nat.succ ih) (Nat.beq (Nat.mod (Nat.div x (Nat.pow 256 n)) 256) c)) n
noncomputable def idxN (x c n : Nat) : Nat → Option Nat := Nat.rec (motive := fun _ => Nat → Option Nat) (fun _ => none) (fun n ih i => Bool.rec (ih (Nat.succ i)) (some i) (Nat.beq (Nat.mod (Nat.div x (Nat.pow 256 n)) 256) c)) n
theorem beq_byte {y c : Nat} (hc : c < 256) : (UInt8.ofNat y == UInt8.ofNat c) = Nat.beq (Nat.mod y 256) c := by
 have h1 : Nat.beq (Nat.mod y 256) c = true ↔ y % 256 = c := by
  constructor
  ·exact fun h => Nat.eq_of_beq_eq_true h
  ·intro h; show Nat.beq (y % 256) c = true; rw [h]; exact Nat.beq_refl c
 cases hb : Nat.beq (Nat.mod y 256) c with
 | true =>
  have := h1.1 hb
  rw [beq_iff_eq]
  exact ofNat_congr (by omega)
 | false =>
  rw [beq_eq_false_iff_ne]
  intro h
  have h2 := ofNat_inj h
  have : y % 256 = c := by omega
  rw [h1.2 this] at hb
  cases hb
theorem cntN_ok (x c : Nat) (hc : c < 256) : ∀ n, Lib.countByte (digs n x) (UInt8.ofNat c) = cntN x c n := by
 intro n
 induction n with
 | zero => rfl
 | succ n ih =>
  have e : cntN x c (n + 1) = Bool.rec (cntN x c n) (Nat.succ (cntN x c n)) (Nat.beq (Nat.mod (x / 256 ^ n) 256) c) := rfl
  rw [e, ← beq_byte hc]
  unfold Lib.countByte at ih ⊢
  simp only [digs, List.count_cons, ih]
  cases (UInt8.ofNat (x / 256 ^ n) == UInt8.ofNat c) <;> rfl
theorem idxN_ok (x c : Nat) (hc : c < 256) : ∀ n i, (idxN x c n i = none ∧ Lib.indexByte (digs n x) (UInt8.ofNat c) = -1) ∨ ∃ k : Nat, idxN x c n i = some (i + k) ∧ Lib.indexByte (digs n x) (UInt8.ofNat c) = (k : Int) := by
 intro n
 induction n with
 | zero => intro i; exact .inl ⟨rfl, rfl⟩
 | succ n ih =>
  intro i
  have e : idxN x c (n + 1) i = Bool.rec (idxN x c n (Nat.succ i)) (some i) (Nat.beq (Nat.mod (x / 256 ^ n) 256) c) := rfl
  rw [e, ← beq_byte hc]
  simp only [digs, Lib.indexByte]
  cases hb : (UInt8.ofNat (x / 256 ^ n) == UInt8.ofNat c) with
  | true => exact .inr ⟨0, rfl, rfl⟩
  | false =>
   rcases ih (i + 1) with ⟨h1, h2⟩ | ⟨k, h1, h2⟩
   ·exact .inl ⟨h1, by simp [h2]⟩
   ·refine .inr ⟨k + 1, ?_, ?_⟩
    ·show idxN x c n (i + 1) = _
     rw [h1]; congr 1; omega
    ·rw [h2]
     have : ((k : Int) == -1) = false := beq_eq_false_iff_ne.2 (by omega)
     simp [this]
noncomputable def cntR (args : List AVal) (rest : Option (List AVal)) : Option (List AVal) :=
 match args with
 | [.str n x, .str m c] => match Nat.beq m 1 with
  | true => forceN (cntN x c n) fun r => some [.int .i64 (.ofNat r)]
  | false => rest
 | _ => rest
noncomputable def idxR (args : List AVal) (rest : Option (List AVal)) : Option (List AVal) :=
 match args with
 | [.str n x, .int .u8 (.ofNat c)] => match Nat.ble c 255 with
  | true => match idxN x c n 0 with
   | some r => forceN r fun r => some [.int .i64 (.ofNat r)]
   | none => some [.int .i64 (.negSucc 0)]
  | false => rest
 | _ => rest
structure TextOK (P : Program) (fc fi : FuncId) : Prop where
 cnt : ∀ (s : ByteArray) (c : UInt8) (w : World), Calls P fc #[.string s, .string ⟨#[c]⟩] w fun e w' => e = .returned (.int .i64 (Lib.countByte s.data.toList c)) ∧ w' = w
 idx : ∀ (s : ByteArray) (c : Int) (w : World), Calls P fi #[.string s, .int .u8 c] w fun e w' => e = .returned (.int .i64 (Lib.indexByte s.data.toList c.toNat.toUInt8)) ∧ w' = w
noncomputable def textOrc (fc fi : FuncId) (orc : Orc) : Orc := fun f args => Bool.rec (Bool.rec (orc f args) (idxR args (orc f args)) (Nat.beq f fi)) (cntR args (orc f args)) (Nat.beq f fc)
theorem textOrc_ok {fc fi : FuncId} {orc : Orc} (ho : OrcOK P orc) (ht : TextOK P fc fi) : OrcOK P (textOrc fc fi orc) := by
 intro f args l hl σ w args' hg hd
 unfold textOrc at hl
 cases hf : Nat.beq f fc with
 | true =>
  rw [hf] at hl
  have e := Nat.eq_of_beq_eq_true hf
  subst e
  have hl' : cntR args (orc f args) = some l := hl
  unfold cntR at hl'
  split at hl'
  ·rename_i n x m c
   split at hl'
   ·rename_i hm
    have hm' := Nat.eq_of_beq_eq_true hm
    subst hm'
    rw [forceN_eq] at hl'
    cases hl'
    cases hd with
    | cons h1 t1 =>
     cases t1 with
     | cons h2 t2 =>
      cases t2
      cases h1 with
      | str _ _ hx =>
       cases h2 with
       | str _ _ hc =>
        have hc' : c < 256 := by simpa using hc
        have e2 : dec 1 c = ⟨#[UInt8.ofNat c]⟩ := by simp [dec, digs]
        rw [e2]
        refine (ht.cnt (dec n x) (UInt8.ofNat c) w).mono fun e w' ⟨he, hw⟩ => ?_
        subst hw
        refine ⟨⟨_, _, List.mem_singleton.2 rfl, .int _ _, ?_⟩, rfl, Kept.refl _⟩
        rw [he, dec_data, cntN_ok x c hc']
        rfl
   ·exact ho f _ l hl' σ w args' hg hd
  ·exact ho f _ l hl' σ w args' hg hd
 | false =>
  rw [hf] at hl
  cases hf2 : Nat.beq f fi with
  | false => rw [hf2] at hl; exact ho f args l hl σ w args' hg hd
  | true =>
   rw [hf2] at hl
   have e := Nat.eq_of_beq_eq_true hf2
   subst e
   have hl' : idxR args (orc f args) = some l := hl
   unfold idxR at hl'
   split at hl'
   ·rename_i n x c
    split at hl'
    ·rename_i hm
     have hm' : c ≤ 255 := Nat.le_of_ble_eq_true hm
     cases hd with
     | cons h1 t1 =>
      cases t1 with
      | cons h2 t2 =>
       cases t2
       cases h1 with
       | str _ _ hx =>
        cases h2
        refine (ht.idx (dec n x) (Int.ofNat c) w).mono fun e w' ⟨he, hw⟩ => ?_
        subst hw
        have e3 : (Int.ofNat c).toNat.toUInt8 = UInt8.ofNat c := rfl
        rw [e3, dec_data] at he
        rcases idxN_ok x c (by omega) n 0 with ⟨g1, g2⟩ | ⟨k, g1, g2⟩
        ·rw [g1] at hl'
         cases hl'
         exact ⟨⟨_, _, List.mem_singleton.2 rfl, .int _ _, by rw [he, g2]; rfl⟩, rfl, Kept.refl _⟩
        ·rw [g1] at hl'
         simp only [forceN_eq, Nat.zero_add] at hl'
         cases hl'
         exact ⟨⟨_, _, List.mem_singleton.2 rfl, .int _ _, by rw [he, g2]; rfl⟩, rfl, Kept.refl _⟩
    ·exact ho f _ l hl' σ w args' hg hd
   ·exact ho f _ l hl' σ w args' hg hd
end Go.Ev
namespace Go.Ev
variable [GTab] {P : Program}
noncomputable def decN (fuel : Nat) : Nat → Nat × Nat :=
 Nat.rec (motive := fun _ => Nat → Nat × Nat) (fun u => (1, Nat.add 48 u)) (fun _ ih u => Bool.rec (Nat.succ (ih (Nat.div u 10)).1, Nat.add (Nat.mul (ih (Nat.div u 10)).2 256) (Nat.add 48 (Nat.mod u 10))) (1, Nat.add 48 u) (Nat.ble u 9)) fuel
theorem digs_one (x : Nat) : digs 1 x = [UInt8.ofNat x] := by simp [digs]
theorem decN_ok : ∀ (fuel u : Nat), u < 10 ^ (fuel + 1) → digs (decN fuel u).1 (decN fuel u).2 = Lib.decDigits u ∧ (decN fuel u).2 < 256 ^ (decN fuel u).1
 | 0, u, h => by
  have h' : u < 10 := by simpa using h
  have e : decN 0 u = (1, 48 + u) := rfl
  rw [e, Lib.decDigits, dif_pos h']
  exact ⟨digs_one _, by show 48 + u < 256 ^ 1; omega⟩
 | fuel + 1, u, h => by
  have e : decN (fuel + 1) u = Bool.rec (Nat.succ (decN fuel (u / 10)).1, Nat.add (Nat.mul (decN fuel (u / 10)).2 256) (Nat.add 48 (u % 10))) (1, Nat.add 48 u) (Nat.ble u 9) := rfl
  rw [e]
  cases hb : Nat.ble u 9 with
  | true =>
   have h' : u ≤ 9 := Nat.le_of_ble_eq_true hb
   rw [Lib.decDigits, dif_pos (by omega)]
   exact ⟨digs_one _, by show 48 + u < 256 ^ 1; omega⟩
  | false =>
   have h' : ¬ u < 10 := fun hlt => by
    have : Nat.ble u 9 = true := by rw [Nat.ble_eq]; omega
    rw [hb] at this; cases this
   have hp : 10 ^ (fuel + 1 + 1) = 10 ^ (fuel + 1) * 10 := Nat.pow_succ ..
   obtain ⟨i1, i2⟩ := decN_ok fuel (u / 10) (by omega)
   rw [Lib.decDigits, dif_neg h', ← i1]
   have hd : 48 + u % 10 < 256 ^ 1 := by omega
   refine ⟨?_, ?_⟩
   ·show digs ((decN fuel (u / 10)).1 + 1) ((decN fuel (u / 10)).2 * 256 + (48 + u % 10)) = _
    have := digs_append (decN fuel (u / 10)).1 1 (decN fuel (u / 10)).2 (48 + u % 10) hd
    rw [digs_one] at this
    simpa using this
   ·show (decN fuel (u / 10)).2 * 256 + (48 + u % 10) < 256 ^ ((decN fuel (u / 10)).1 + 1)
    rw [Nat.pow_succ]
    omega
noncomputable def itoaA (n : Int) : AVal :=
 Int.rec (motive := fun _ => AVal) (fun u => forceN (decN 20 u).1 fun l => forceN (decN 20 u).2 fun x => .str l x)
  (fun u => forceN (decN 20 (Nat.succ u)).1 fun l => forceN (Nat.add (Nat.mul 45 (Nat.pow 256 l)) (decN 20 (Nat.succ u)).2) fun x => .str (Nat.succ l) x) n
theorem itoaA_ok {σ : Sg} {n : Int} (h0 : -9223372036854775808 ≤ n) (h1 : n ≤ 9223372036854775807) : Den σ (itoaA n) (.string ⟨(Lib.itoa n).toArray⟩) := by
 have big : (10 : Nat) ^ (20 + 1) = 1000000000000000000000 := by decide
 cases n with
 | ofNat u =>
  have hu : (u : Int) ≤ 9223372036854775807 := h1
  obtain ⟨i1, i2⟩ := decN_ok 20 u (by rw [big]; omega)
  have e : itoaA (.ofNat u) = .str (decN 20 u).1 (decN 20 u).2 := by
   show (forceN (decN 20 u).1 fun l => forceN (decN 20 u).2 fun x => AVal.str l x) = _
   rw [forceN_eq, forceN_eq]
  rw [e]
  have e2 : Lib.itoa (.ofNat u) = Lib.decDigits u := Lib.itoa_nonneg u
  rw [e2, ← i1]
  exact .str _ _ i2
 | negSucc u =>
  have hu : -9223372036854775808 ≤ Int.negSucc u := h0
  obtain ⟨i1, i2⟩ := decN_ok 20 (u + 1) (by rw [big]; omega)
  have e : itoaA (.negSucc u) = .str ((decN 20 (u + 1)).1 + 1) (45 * 256 ^ (decN 20 (u + 1)).1 + (decN 20 (u + 1)).2) := by
   show (forceN (decN 20 (Nat.succ u)).1 fun l => forceN (Nat.add (Nat.mul 45 (Nat.pow 256 l)) (decN 20 (Nat.succ u)).2) fun x => AVal.str (Nat.succ l) x) = _
   rw [forceN_eq, forceN_eq]; rfl
  rw [e]
  have e2 : Lib.itoa (.negSucc u) = 45 :: Lib.decDigits (u + 1) := Lib.itoa_neg (u + 1) (by omega)
  have e3 : digs ((decN 20 (u + 1)).1 + 1) (45 * 256 ^ (decN 20 (u + 1)).1 + (decN 20 (u + 1)).2) = 45 :: Lib.decDigits (u + 1) := by
   have := digs_append 1 (decN 20 (u + 1)).1 45 (decN 20 (u + 1)).2 i2
   rw [digs_one, i1] at this
   rw [Nat.add_comm]
   exact this
  rw [e2, ← e3]
  refine .str _ _ ?_
  rw [Nat.pow_succ]
  omega
noncomputable def fmtR (args : List AVal) (rest : Option (List AVal)) : Option (List AVal) :=
 match args with
 | [.anyInt .i64 m i, .int .i64 (.ofNat b)] => match Nat.beq m 65536, Nat.beq b 10 with
  | true, true => some [.anyStr i]
  | _, _ => rest
 | [.int .i64 n, .int .i64 (.ofNat b)] => match fits .i64 n, Nat.beq b 10 with
  | true, true => some [itoaA n]
  | _, _ => rest
 | _ => rest
noncomputable def digR (args : List AVal) (rest : Option (List AVal)) : Option (List AVal) :=
 match args with
 | [.anyInt .i64 m i] => match Nat.beq m 65536 with
  | true => some [.anyStr i]
  | false => rest
 | [.int .i64 n] => match fits .i64 n with
  | true => some [itoaA n]
  | false => rest
 | _ => rest
structure SymOK (P : Program) (fF fD : FuncId) : Prop where
 fmt : ∀ (n : Int) (w : World), -9223372036854775808 ≤ n → n ≤ 9223372036854775807 → Glob (fun _ => none) w → Calls P fF #[.int .i64 n, .int .i64 10] w fun e w' => e = .returned (.string ⟨(Lib.itoa n).toArray⟩) ∧ w'.tape = w.tape ∧ Kept w w'
 dig : ∀ (n : Int) (w : World), -9223372036854775808 ≤ n → n ≤ 9223372036854775807 → Calls P fD #[.int .i64 n] w fun e w' => e = .returned (.string ⟨(Lib.itoa n).toArray⟩) ∧ w'.tape = w.tape ∧ Kept w w'
 txt : ∀ i, GTab.txt i = ⟨(Lib.itoa (IntKind.i64.wrap (GTab.val i))).toArray⟩
class SymC (P : Program) (fF fD : FuncId) : Prop where
 ok : SymOK P fF fD
noncomputable def symOrc (fF fD : FuncId) (orc : Orc) : Orc := fun f args => Bool.rec (Bool.rec (orc f args) (digR args (orc f args)) (Nat.beq f fD)) (fmtR args (orc f args)) (Nat.beq f fF)
theorem fits_i64 {n : Int} (h : fits .i64 n = true) : -9223372036854775808 ≤ n ∧ n ≤ 9223372036854775807 := by
 have := fits_ok h
 rw [wrap_i64] at this
 split at this <;> omega
theorem wrap_range (n : Int) : -9223372036854775808 ≤ IntKind.i64.wrap n ∧ IntKind.i64.wrap n ≤ 9223372036854775807 := by
 rw [wrap_i64]
 split <;> omega
theorem symOrc_ok {fF fD : FuncId} {orc : Orc} (ho : OrcOK P orc) (hs : SymOK P fF fD) : OrcOK P (symOrc fF fD orc) := by
 intro f args l hl σ w args' hg hd
 unfold symOrc at hl
 cases hf : Nat.beq f fF with
 | true =>
  rw [hf] at hl
  have e := Nat.eq_of_beq_eq_true hf
  subst e
  have hl' : fmtR args (orc f args) = some l := hl
  unfold fmtR at hl'
  split at hl'
  ·rename_i m i b
   split at hl'
   ·rename_i hm hb
    have hm' := Nat.eq_of_beq_eq_true hm
    have hb' := Nat.eq_of_beq_eq_true hb
    subst hm' hb'
    cases hl'
    cases hd with
    | cons h1 t1 =>
     cases t1 with
     | cons h2 t2 =>
      cases t2
      cases h2
      cases h1 with
      | anyInt _ _ _ n hn =>
       have hn' : n = IntKind.i64.wrap (GTab.val i) := by unfold AnyOK at hn; rwa [if_pos rfl] at hn
       subst hn'
       obtain ⟨r1, r2⟩ := wrap_range (GTab.val i)
       refine (hs.fmt _ w r1 r2 hg).mono fun e w' ⟨he, ht, hk⟩ => ⟨⟨_, _, List.mem_singleton.2 rfl, .anyStr i, ?_⟩, ht, hk⟩
       rw [he, hs.txt]
   ·exact ho f _ l hl' σ w args' hg hd
  ·rename_i n b
   split at hl'
   ·rename_i hm hb
    have hb' := Nat.eq_of_beq_eq_true hb
    subst hb'
    cases hl'
    cases hd with
    | cons h1 t1 =>
     cases t1 with
     | cons h2 t2 =>
      cases t2
      cases h2
      cases h1
      obtain ⟨r1, r2⟩ := fits_i64 hm
      exact (hs.fmt _ w r1 r2 hg).mono fun e w' ⟨he, ht, hk⟩ => ⟨⟨_, _, List.mem_singleton.2 rfl, itoaA_ok r1 r2, he⟩, ht, hk⟩
   ·exact ho f _ l hl' σ w args' hg hd
  ·exact ho f _ l hl' σ w args' hg hd
 | false =>
  rw [hf] at hl
  cases hf2 : Nat.beq f fD with
  | false => rw [hf2] at hl; exact ho f args l hl σ w args' hg hd
  | true =>
   rw [hf2] at hl
   have e := Nat.eq_of_beq_eq_true hf2
   subst e
   have hl' : digR args (orc f args) = some l := hl
   unfold digR at hl'
   split at hl'
   ·rename_i m i
    split at hl'
    ·rename_i hm
     have hm' := Nat.eq_of_beq_eq_true hm
     subst hm'
     cases hl'
     cases hd with
     | cons h1 t1 =>
      cases t1
      cases h1 with
      | anyInt _ _ _ n hn =>
       have hn' : n = IntKind.i64.wrap (GTab.val i) := by unfold AnyOK at hn; rwa [if_pos rfl] at hn
       subst hn'
       obtain ⟨r1, r2⟩ := wrap_range (GTab.val i)
       refine (hs.dig _ w r1 r2).mono fun e w' ⟨he, ht, hk⟩ => ⟨⟨_, _, List.mem_singleton.2 rfl, .anyStr i, ?_⟩, ht, hk⟩
       rw [he, hs.txt]
    ·exact ho f _ l hl' σ w args' hg hd
   ·rename_i n
    split at hl'
    ·rename_i hm
     cases hl'
     cases hd with
     | cons h1 t1 =>
      cases t1
      cases h1
      obtain ⟨r1, r2⟩ := fits_i64 hm
      exact (hs.dig _ w r1 r2).mono fun e w' ⟨he, ht, hk⟩ => ⟨⟨_, _, List.mem_singleton.2 rfl, itoaA_ok r1 r2, he⟩, ht, hk⟩
    ·exact ho f _ l hl' σ w args' hg hd
   ·exact ho f _ l hl' σ w args' hg hd
end Go.Ev
end
section
namespace Go.Ev
theorem Same64.self (a : Int) : Same64 a a := ⟨0, by omega⟩
theorem wrapI (n : Int) : IntKind.i64.wrap n = if n % 18446744073709551616 ≥ 9223372036854775808 then n % 18446744073709551616 - 18446744073709551616 else n % 18446744073709551616 := by
 simp [IntKind.wrap, IntKind.bits, IntKind.signed]
noncomputable def look2 {α : Type} (l : List (Nat × Nat × α)) (i j : Nat) : Option α :=
 List.rec (motive := fun _ => Option α) none (fun t _ ih => Bool.rec ih (Bool.rec ih (some t.2.2) (Nat.beq t.2.1 j)) (Nat.beq t.1 i)) l
theorem look2_ok {α : Type} : ∀ {l : List (Nat × Nat × α)} {i j : Nat} {r : α}, look2 l i j = some r → (i, j, r) ∈ l
 | [], i, j, r, h => by cases h
 | (a, b, c) :: l, i, j, r, h => by
  have h' : (Bool.rec (look2 l i j) (Bool.rec (look2 l i j) (some c) (Nat.beq b j)) (Nat.beq a i) : Option α) = some r := h
  cases h1 : Nat.beq a i with
  | false => rw [h1] at h'; exact List.mem_cons_of_mem _ (look2_ok h')
  | true =>
   rw [h1] at h'
   cases h2 : Nat.beq b j with
   | false => rw [h2] at h'; exact List.mem_cons_of_mem _ (look2_ok h')
   | true =>
    rw [h2] at h'
    cases h'
    have e1 := Nat.eq_of_beq_eq_true h1
    have e2 := Nat.eq_of_beq_eq_true h2
    subst e1 e2
    exact List.mem_cons_self ..
theorem ieq_eq0 (a b : Int) : ieq a b = (a == b) := by
 rw [Bool.eq_iff_iff, beq_iff_eq]
 cases a with
 | ofNat x => cases b with
  | ofNat y => show Nat.beq x y = true ↔ _; rw [Nat.beq_eq]; simp; omega
  | negSucc y => show false = true ↔ _; simp
 | negSucc x => cases b with
  | ofNat y => show false = true ↔ _; simp
  | negSucc y => show Nat.beq x y = true ↔ _; rw [Nat.beq_eq]; simp
noncomputable def lookI {α : Type} (l : List (Int × α)) (n : Int) : Option α :=
 List.rec (motive := fun _ => Option α) none (fun t _ ih => Bool.rec ih (some t.2) (ieq t.1 n)) l
theorem lookI_ok {α : Type} : ∀ {l : List (Int × α)} {n : Int} {r : α}, lookI l n = some r → (n, r) ∈ l
 | [], n, r, h => by cases h
 | (a, c) :: l, n, r, h => by
  have h' : (Bool.rec (lookI l n) (some c) (ieq a n) : Option α) = some r := h
  cases h1 : ieq a n with
  | false => rw [h1] at h'; exact List.mem_cons_of_mem _ (lookI_ok h')
  | true =>
   rw [h1] at h'
   cases h'
   have e1 : a = n := by rw [ieq_eq0] at h1; simpa using h1
   subst e1
   exact List.mem_cons_self ..
noncomputable def lookN {α : Type} (l : List (Nat × α)) (n : Nat) : Option α :=
 List.rec (motive := fun _ => Option α) none (fun t _ ih => Bool.rec ih (some t.2) (Nat.beq t.1 n)) l
theorem lookN_ok {α : Type} : ∀ {l : List (Nat × α)} {n : Nat} {r : α}, lookN l n = some r → (n, r) ∈ l
 | [], n, r, h => by cases h
 | (a, c) :: l, n, r, h => by
  have h' : (Bool.rec (lookN l n) (some c) (Nat.beq a n) : Option α) = some r := h
  cases h1 : Nat.beq a n with
  | false => rw [h1] at h'; exact List.mem_cons_of_mem _ (lookN_ok h')
  | true =>
   rw [h1] at h'
   cases h'
   have e1 := Nat.eq_of_beq_eq_true h1
   subst e1
   exact List.mem_cons_self ..
structure Syms where
 vals : List Int
 con : List (Int × Nat) := []
 lit : List (Nat × Int) := []
 add : List (Nat × Nat × Nat) := []
 sub : List (Nat × Nat × Nat) := []
 mul : List (Nat × Nat × Nat) := []
 quo : List (Nat × Nat × Nat) := []
 rem : List (Nat × Nat × Nat) := []
 eq : List (Nat × Nat × Bool) := []
 lt : List (Nat × Nat × Bool) := []
structure Syms.OK (s : Syms) : Prop where
 con : ∀ t ∈ s.con, Same64 t.1 (s.vals.getD t.2 0)
 lit : ∀ t ∈ s.lit, Same64 t.2 (s.vals.getD t.1 0)
 add : ∀ t ∈ s.add, Same64 (s.vals.getD t.1 0 + s.vals.getD t.2.1 0) (s.vals.getD t.2.2 0)
 sub : ∀ t ∈ s.sub, Same64 (s.vals.getD t.1 0 - s.vals.getD t.2.1 0) (s.vals.getD t.2.2 0)
 mul : ∀ t ∈ s.mul, Same64 (s.vals.getD t.1 0 * s.vals.getD t.2.1 0) (s.vals.getD t.2.2 0)
 quo : ∀ t ∈ s.quo, IntKind.i64.wrap (s.vals.getD t.2.1 0) ≠ 0 ∧ Same64 ((IntKind.i64.wrap (s.vals.getD t.1 0)).tdiv (IntKind.i64.wrap (s.vals.getD t.2.1 0))) (s.vals.getD t.2.2 0)
 rem : ∀ t ∈ s.rem, IntKind.i64.wrap (s.vals.getD t.2.1 0) ≠ 0 ∧ Same64 ((IntKind.i64.wrap (s.vals.getD t.1 0)).tmod (IntKind.i64.wrap (s.vals.getD t.2.1 0))) (s.vals.getD t.2.2 0)
 eq : ∀ t ∈ s.eq, (t.2.2 = true ↔ Same64 (s.vals.getD t.1 0) (s.vals.getD t.2.1 0))
 lt : ∀ t ∈ s.lt, t.2.2 = decide (IntKind.i64.wrap (s.vals.getD t.1 0) < IntKind.i64.wrap (s.vals.getD t.2.1 0))
noncomputable abbrev Syms.tab (s : Syms) (h : s.OK) (g : Nat) (o : Obj) : GTab where
 tab := fun _ => none
 val := fun i => s.vals.getD i 0
 blk := fun b => Bool.rec none (some o) (Nat.beq b g)
 txt := fun i => ⟨(Lib.itoa (IntKind.i64.wrap (s.vals.getD i 0))).toArray⟩
 con := lookI s.con
 lit := lookN s.lit
 add := look2 s.add
 sub := look2 s.sub
 mul := look2 s.mul
 quo := look2 s.quo
 rem := look2 s.rem
 eq := look2 s.eq
 lt := look2 s.lt
 conOK := fun _ _ e => h.con _ (lookI_ok e)
 litOK := fun _ _ e => h.lit _ (lookN_ok e)
 addOK := fun _ _ _ e => h.add _ (look2_ok e)
 subOK := fun _ _ _ e => h.sub _ (look2_ok e)
 mulOK := fun _ _ _ e => h.mul _ (look2_ok e)
 quoOK := fun _ _ _ e => h.quo _ (look2_ok e)
 remOK := fun _ _ _ e => h.rem _ (look2_ok e)
 eqOK := fun _ _ _ e => h.eq _ (look2_ok e)
 ltOK := fun _ _ _ e => h.lt _ (look2_ok e)
theorem Syms.blk {s : Syms} {h : s.OK} {g : Nat} {o : Obj} : (s.tab h g o).blk g = some o := by
 show (Bool.rec none (some o) (Nat.beq g g) : Option Obj) = some o
 rw [Nat.beq_refl]
end Go.Ev
namespace Go.Ev
variable [GTab]
end Go.Ev
end
section
namespace Go.Bridge
open Go
variable [Ev.GTab] [Vs.GTab]
noncomputable section
def tr (nx : Nat) : Ev.AVal → Vs.AVal
 | .bool b => .bool b
 | .int k n => .int k n
 | .str n x => .str (Ev.digs n x)
 | .ptr b off => .ptr (nx + b) off
 | .nilPtr => .nilPtr
 | .slice b off len esz full => .slice (nx + b) off len esz full
 | .nilSlice => .nilSlice
 | .nilMap => .nilMap
 | .nilFunc => .nilFunc
 | .nilIface => .nilIface
 | .gptr g off => .gptr g off
 | .anyInt k 65536 i => .int k (k.wrap (Ev.GTab.val i))
 | .anyStr i => .str (Ev.GTab.txt i).data.toList
 | _ => .und
end
end Go.Bridge
end
section
namespace Go.Bridge
open Go
variable [Ev.GTab] [Vs.GTab]
noncomputable section
def tr2 (ψ : Nat → Nat) : Ev.AVal → Vs.AVal
 | .bool b => .bool b
 | .int k n => .int k n
 | .str n x => .str (Ev.digs n x)
 | .ptr b off => .ptr (ψ b) off
 | .nilPtr => .nilPtr
 | .slice b off len esz full => .slice (ψ b) off len esz full
 | .nilSlice => .nilSlice
 | .nilMap => .nilMap
 | .nilFunc => .nilFunc
 | .nilIface => .nilIface
 | .gptr g off => .gptr g off
 | .anyInt k 65536 i => .int k (k.wrap (Ev.GTab.val i))
 | .anyStr i => .str (Ev.GTab.txt i).data.toList
 | _ => .und
section
variable {ψ : Nat → Nat} {σ : Vs.Sg} {σ1 : Ev.Sg}
theorem tr2_den (hs : ∀ b p, σ1 b = some p → σ (ψ b) = some p) {v : Ev.AVal} {v' : Value} (h : Ev.Den σ1 v v') : Vs.Den σ (tr2 ψ v) v' := by
 cases h with
 | und => exact .und _
 | bool b => exact .bool b
 | int k n => exact .int k n
 | str n x h => exact .str _
 | ptr h => exact .ptr (hs _ _ h)
 | nilPtr => exact .nilPtr
 | slice h h1 h2 h3 => exact .slice (hs _ _ h) h1 h2 h3
 | slice0 h => exact .slice0 (hs _ _ h)
 | nilSlice => exact .nilSlice
 | map h => exact .und _
 | nilMap => exact .nilMap
 | func h1 h2 => exact .und _
 | nilFunc => exact .nilFunc
 | iface h => exact .und _
 | nilIface => exact .nilIface
 | agg h => exact .und _
 | tuple h => exact .und _
 | anyInt k m i n h =>
  by_cases hm : m = 65536
  ·subst hm
   unfold Ev.AnyOK at h
   rw [if_pos rfl] at h
   subst h
   exact .int _ _
  ·have : tr2 ψ (.anyInt k m i) = .und := by unfold tr2; split <;> simp_all
   rw [this]; exact .und _
 | anyBool b => exact .und _
 | gptr g off => exact .gptr g off
 | anyStr i =>
  have := Vs.txt_of (Ev.GTab.txt i)
  show Vs.Den _ (.str (Ev.GTab.txt i).data.toList) _
  conv => arg 3; rw [← this]
  exact .str _
def backOK (n0 : Nat) : Ev.AVal → Prop
 | .und => True
 | .bool _ => True
 | .int _ _ => True
 | .str n x => x < 256 ^ n
 | .ptr b _ => b < n0
 | .nilPtr => True
 | .slice b _ _ _ _ => b < n0
 | .nilSlice => True
 | .anyInt _ m _ => m = 65536
 | .anyStr _ => True
 | .gptr _ _ => True
 | _ => False
theorem back_den {n0 : Nat} (hs : ∀ b p, b < n0 → σ (ψ b) = some p → σ1 b = some p) {v : Ev.AVal} {v' : Value} (hb : backOK n0 v) (h : Vs.Den σ (tr2 ψ v) v') : Ev.Den σ1 v v' := by
 cases v with
 | und => exact .und _
 | bool b => cases h; exact .bool _
 | int k n => cases h; exact .int _ _
 | str n x => cases h; exact .str n x hb
 | ptr b off => cases h with | ptr h => exact .ptr (hs _ _ hb h)
 | nilPtr => cases h; exact .nilPtr
 | slice b off len esz full => cases h with
  | slice h h1 h2 h3 => exact .slice (hs _ _ hb h) h1 h2 h3
  | slice0 h => exact .slice0 (hs _ _ hb h)
 | nilSlice => cases h; exact .nilSlice
 | anyInt k m i =>
  have hm : m = 65536 := hb
  subst hm
  have h' : Vs.Den σ (.int k (k.wrap (Ev.GTab.val i))) v' := h
  cases h'
  exact .anyInt _ _ _ _ (by unfold Ev.AnyOK; rw [if_pos rfl])
 | anyStr i =>
  have h' : Vs.Den σ (.str (Ev.GTab.txt i).data.toList) v' := h
  cases h'
  rw [Vs.txt_of]
  exact .anyStr i
 | gptr g off => cases h; exact .gptr _ _
 | _ => exact hb.elim
end
def sg0 (n0 : Nat) (φ : Nat → Nat) (σ : Vs.Sg) : Ev.Sg := fun b => if b < n0 then σ (φ b) else none
theorem sg0_lt {n0 b : Nat} {φ : Nat → Nat} {σ : Vs.Sg} (h : b < n0) : sg0 n0 φ σ b = σ (φ b) := by simp [sg0, h]
theorem sg0_some {n0 b : Nat} {φ : Nat → Nat} {σ : Vs.Sg} {p : Nat × Nat} (h : sg0 n0 φ σ b = some p) : b < n0 ∧ σ (φ b) = some p := by
 unfold sg0 at h
 split at h
 ·exact ⟨‹_›, h⟩
 ·cases h
def psi (n0 nx : Nat) (φ : Nat → Nat) : Nat → Nat := fun b => if b < n0 then φ b else nx + (b - n0)
theorem psi_lt {n0 nx b : Nat} {φ : Nat → Nat} (h : b < n0) : psi n0 nx φ b = φ b := by simp [psi, h]
theorem psi_ge {n0 nx b : Nat} {φ : Nat → Nat} (h : n0 ≤ b) : psi n0 nx φ b = nx + (b - n0) := by simp [psi]; omega
theorem tr2_congr {n0 nx : Nat} {φ : Nat → Nat} {v : Ev.AVal} (h : backOK n0 v) : tr2 (psi n0 nx φ) v = tr2 φ v := by
 cases v with
 | ptr b off => show Vs.AVal.ptr (psi n0 nx φ b) off = .ptr (φ b) off; rw [psi_lt h]
 | slice b off len esz full => show Vs.AVal.slice (psi n0 nx φ b) off len esz full = .slice (φ b) off len esz full; rw [psi_lt h]
 | anyInt k m i =>
  have hm : m = 65536 := h
  subst hm; rfl
 | _ => first | rfl | exact h.elim
end
end Go.Bridge
end
section
namespace Go.Bridge
open Go
variable [Ev.GTab] [Vs.GTab]
noncomputable section
def trA (ψ : Nat → Nat) : Ev.AVal → Vs.AVal
 | .agg vs => .agg (vs.map (tr2 ψ))
 | v => tr2 ψ v
def trU (ψ : Nat → Nat) : Ev.AVal → Vs.AVal
 | .tuple vs => .tuple (vs.map (trA ψ))
 | v => trA ψ v
section
variable {ψ f : Nat → Nat} {σ : Vs.Sg} {σ1 : Ev.Sg}
theorem trB_den (hs : ∀ b p, σ1 (f b) = some p → σ (ψ b) = some p) : ∀ (c : Ev.AVal) (v : Value), Ev.Den σ1 (Ev.mapB f c) v → Vs.Den σ (tr2 ψ c) v
 | .und, _, _ => .und _
 | .bool b, _, h => by cases h with | bool => exact .bool b
 | .int k n, _, h => by cases h with | int => exact .int k n
 | .str n x, _, h => by cases h with | str _ _ hx => exact .str _
 | .ptr b off, _, h => by cases h with | ptr hp => exact .ptr (hs _ _ hp)
 | .nilPtr, _, h => by cases h with | nilPtr => exact .nilPtr
 | .slice b off len esz full, _, h => by
  cases h with
  | slice hp h1 h2 h3 => exact .slice (hs _ _ hp) h1 h2 h3
  | slice0 hp => exact .slice0 (hs _ _ hp)
 | .nilSlice, _, h => by cases h with | nilSlice => exact .nilSlice
 | .map b, _, h => .und _
 | .nilMap, _, h => by cases h with | nilMap => exact .nilMap
 | .func fn a b, _, h => .und _
 | .nilFunc, _, h => by cases h with | nilFunc => exact .nilFunc
 | .iface t v, _, h => .und _
 | .nilIface, _, h => by cases h with | nilIface => exact .nilIface
 | .agg a, _, h => .und _
 | .tuple a, _, h => .und _
 | .anyInt k m i, _, h => tr2_den (σ1 := fun _ => none) (fun _ _ h => by cases h) (Ev.Den.noBlk (a := .anyInt k m i) rfl (σ := σ1) h)
 | .anyBool, _, h => .und _
 | .gptr q off, _, h => by cases h with | gptr => exact .gptr q off
 | .anyStr i, _, h => tr2_den (σ1 := fun _ => none) (fun _ _ h => by cases h) (Ev.Den.noBlk (a := .anyStr i) rfl (σ := σ1) h)
theorem trBL_den (hs : ∀ b p, σ1 (f b) = some p → σ (ψ b) = some p) : ∀ (l : List Ev.AVal) (v : List Value), Ev.DenL σ1 (Ev.mapBL f l) v → Vs.DenL σ (l.map (tr2 ψ)) v
 | [], _, h => by cases h; exact .nil
 | c :: l, _, h => by
  have h' : Ev.DenL σ1 (Ev.mapB f c :: Ev.mapBL f l) _ := h
  cases h' with
  | cons h1 h2 => exact .cons (trB_den hs c _ h1) (trBL_den hs l _ h2)
theorem trA_den (hs : ∀ b p, σ1 (f b) = some p → σ (ψ b) = some p) (c : Ev.AVal) (v : Value) (h : Ev.Den σ1 (Ev.mapB f c) v) : Vs.Den σ (trA ψ c) v := by
 unfold trA
 split
 ·rw [Ev.mapB_agg] at h
  cases h with | agg h => exact .agg (trBL_den hs _ _ h)
 ·exact trB_den hs c v h
theorem trAL_den (hs : ∀ b p, σ1 (f b) = some p → σ (ψ b) = some p) : ∀ (l : List Ev.AVal) (v : List Value), Ev.DenL σ1 (Ev.mapBL f l) v → Vs.DenL σ (l.map (trA ψ)) v
 | [], _, h => by cases h; exact .nil
 | c :: l, _, h => by
  have h' : Ev.DenL σ1 (Ev.mapB f c :: Ev.mapBL f l) _ := h
  cases h' with
  | cons h1 h2 => exact .cons (trA_den hs c _ h1) (trAL_den hs l _ h2)
theorem trBT_den (hs : ∀ b p, σ1 (f b) = some p → σ (ψ b) = some p) (c : Ev.AVal) (v : Value) (h : Ev.Den σ1 (Ev.mapB f c) v) : Vs.Den σ (trU ψ c) v := by
 unfold trU
 split
 ·rw [Ev.mapB_tuple] at h
  cases h with | tuple h => exact .tuple (trAL_den hs _ _ h)
 ·exact trA_den hs c v h
end
def evH (objs : List (List Ev.AVal)) : Ev.Heap := Ev.layO 0 objs 0 (Ev.all5 none)
def layV (ψ : Nat → Nat) (nx : Nat) (objs : List (List Ev.AVal)) (H : Vs.Heap) : Vs.Heap := fun b => if b < nx then H b else (objs[b - nx]?).map fun c => .cells c.length (c.map (tr2 ψ)) [] false
theorem layV_lt {ψ : Nat → Nat} {nx b : Nat} {objs : List (List Ev.AVal)} {H : Vs.Heap} (h : b < nx) : layV ψ nx objs H b = H b := by simp [layV, h]
theorem layV_ge {ψ : Nat → Nat} {nx b : Nat} {objs : List (List Ev.AVal)} {H : Vs.Heap} : layV ψ nx objs H (nx + b) = (objs[b]?).map fun c => .cells c.length (c.map (tr2 ψ)) [] false := by simp [layV]; intro h; omega
def runJ (P : Program) (W : Ev.Wr) (g : FuncId) (n : Nat) (args : List Ev.AVal) (objs0 objs1 : List (List Ev.AVal)) (rn : List Nat) (p : Ev.AVal) : Bool :=
 (Ev.fCallsW P W n).1 g args (evH objs0) objs0.length fun e H _ => Ev.isI rn p (objs0 ++ objs1) e H
def backB (n0 : Nat) : Ev.AVal → Bool
 | .und => true
 | .bool _ => true
 | .int _ _ => true
 | .str n x => Nat.ble (Nat.succ x) (256 ^ n)
 | .ptr b _ => Nat.ble (Nat.succ b) n0
 | .nilPtr => true
 | .slice b _ _ _ _ => Nat.ble (Nat.succ b) n0
 | .nilSlice => true
 | .anyInt _ m _ => Nat.beq m 65536
 | .anyStr _ => true
 | .gptr _ _ => true
 | _ => false
theorem backB_ok {n0 : Nat} {v : Ev.AVal} (h : backB n0 v = true) : backOK n0 v := by
 cases v <;> first | trivial | (cases h; done) | exact Nat.le_of_ble_eq_true h | exact Nat.eq_of_beq_eq_true h
def graphB (objs : List (List Ev.AVal)) : Bool := objs.all fun c => Nat.ble c.length 4096 && c.all (backB objs.length)
theorem mapB_zero {n0 : Nat} {v : Ev.AVal} (h : backOK n0 v) : Ev.mapB (Nat.add 0) v = v := by
 cases v <;> first | rfl | (exact h.elim) | skip
 ·rename_i b off; show Ev.AVal.ptr (Nat.add 0 b) off = _; rw [show Nat.add 0 b = b from Nat.zero_add b]
 ·rename_i b off l e f; show Ev.AVal.slice (Nat.add 0 b) off l e f = _; rw [show Nat.add 0 b = b from Nat.zero_add b]
structure Lies (n0 nx : Nat) (φ : Nat → Nat) (H0 : Ev.Heap) (H : Vs.Heap) : Prop where
 lim : n0 ≤ 1048576
 lt : ∀ b, b < n0 → φ b < nx
 inj : ∀ b c, b < n0 → c < n0 → φ b = φ c → b = c
 obj : ∀ b, b < n0 → ∃ n ct, Ev.get5 b H0 = some (.cells n ct [] false) ∧ n ≤ ct.cap ∧ (∀ i, i < n → backOK n0 (ct.get i)) ∧ H (φ b) = some (.cells n ((List.range n).map fun i => tr2 φ (ct.get i)) [] false)
theorem Lies.rel {n0 nx : Nat} {φ : Nat → Nat} {H0 : Ev.Heap} {H : Vs.Heap} (t : Lies n0 nx φ H0 H) {σ : Vs.Sg} {w : World} (hr : Vs.Rel σ H nx w) (hg : Ev.Glob (sg0 n0 φ σ) w) : Ev.Rel (sg0 n0 φ σ) H0 n0 w := by
 refine ⟨t.lim, fun b cb sz e => ?_, fun b o cb sz ho e => ?_, fun b b' o o' cb sz sz' ho ho' e e' => ?_, fun b b' o o' p ho ho' e hm => ?_, fun b o p ho e b' hm => ?_, hg⟩
 ·obtain ⟨h1, h2⟩ := sg0_some e
  exact ⟨h1, (hr.dom _ _ _ h2).2⟩
 ·obtain ⟨h1, h2⟩ := sg0_some e
  obtain ⟨n, ct, a1, a2, a3, a4⟩ := t.obj b h1
  rw [a1] at ho; cases ho
  obtain ⟨b1, b2, b3, b4⟩ := hr.obj (φ b) _ cb sz a4 h2
  refine ⟨b1, a2, b3, fun i hi => ?_⟩
  obtain ⟨v', c1, c2⟩ := b4 i hi
  refine ⟨v', c1, back_den (fun b p hb hs => by rw [sg0_lt hb]; exact hs) (a3 i hi) ?_⟩
  have : Vs.CT.get i ((List.range n).map fun i => tr2 φ (ct.get i)) = tr2 φ (ct.get i) := by simp [Vs.CT.get, List.getD, hi]
  rw [this] at c2; exact c2
 ·obtain ⟨h1, h2⟩ := sg0_some e
  obtain ⟨h3, h4⟩ := sg0_some e'
  obtain ⟨n, ct, _, _, _, a4⟩ := t.obj b h1
  obtain ⟨n', ct', _, _, _, a5⟩ := t.obj b' h3
  rcases hr.sep _ _ _ _ cb sz sz' a4 a5 h2 h4 with q | q | q
  ·exact .inl (t.inj b b' h1 h3 q)
  ·cases q
  ·cases q
 ·have hb' := (sg0_some e).1
  obtain ⟨n', ct', a1, _⟩ := t.obj b' hb'
  rw [a1] at ho'; cases ho'
  cases hm
 ·have hb' := (sg0_some e).1
  obtain ⟨n', ct', a1, _⟩ := t.obj b hb'
  rw [a1] at ho; cases ho
  cases hm
theorem Lies.of_graph {φ : Nat → Nat} {nx : Nat} {objs : List (List Ev.AVal)} {H : Vs.Heap} (hlim : objs.length ≤ 1048576) (hgr : graphB objs = true) (hlt : ∀ b, b < objs.length → φ b < nx)
  (hinj : ∀ b c, b < objs.length → c < objs.length → φ b = φ c → b = c) (hH : ∀ i c, objs[i]? = some c → H (φ i) = some (.cells c.length (c.map (tr2 φ)) [] false)) : Lies objs.length nx φ (evH objs) H := by
 unfold graphB at hgr
 rw [List.all_eq_true] at hgr
 refine ⟨hlim, hlt, hinj, fun b hb => ?_⟩
 ·have hx := hgr _ (List.getElem_mem hb)
  rw [Bool.and_eq_true, List.all_eq_true] at hx
  have hle : (objs[b]).length ≤ 4096 := Nat.le_of_ble_eq_true hx.1
  have hg : Ev.get5 b (evH objs) = some (.cells (objs[b]).length (Ev.CT.ofL (objs[b]).length (Ev.mapBL (Nat.add 0) (objs[b]))) [] false) := by
   unfold evH
   rw [Ev.layO_get 0 objs 0 _ b (by omega) (by omega), if_pos ⟨by omega, by omega⟩, Nat.sub_zero, List.getElem?_eq_getElem hb]
   rfl
  have hget : ∀ i (hi : i < (objs[b]).length), (Ev.CT.ofL (objs[b]).length (Ev.mapBL (Nat.add 0) (objs[b]))).get i = (objs[b])[i] := fun i hi => by
   rw [Ev.CT.get_ofL _ _ i hle hi]
   simp only [List.getD, Ev.mapBL_get, List.getElem?_eq_getElem hi, Option.map_some, Option.getD_some]
   exact mapB_zero (backB_ok (hx.2 _ (List.getElem_mem hi)))
  refine ⟨_, _, hg, Ev.CT.ofL_cap _ _ hle, fun i hi => ?_, ?_⟩
  ·rw [hget i hi]; exact backB_ok (hx.2 _ (List.getElem_mem hi))
  ·rw [hH b _ (List.getElem?_eq_getElem hb)]
   congr 2
   apply List.ext_getElem
   ·simp
   ·intro i h1 h2
    simp at h1
    simp only [List.getElem_map, List.getElem_range]
    rw [hget i h1]
theorem imp2_ok {P : Program} {W : Ev.Wr} {g : FuncId} {n : Nat} {args0 : List Ev.AVal} {argsV : List Vs.AVal} {objs0 objs1 : List (List Ev.AVal)} {rn : List Nat} {p : Ev.AVal} {φ : Nat → Nat} {nx : Nat} {H : Vs.Heap} {K : Vs.EndP}
  (hm : P.follows .mixedOrders = true) (hW : Ev.WrOK P W) (hlim : objs0.length ≤ 1048576) (hgr : graphB objs0 = true) (hlt : ∀ b, b < objs0.length → φ b < nx)
  (hinj : ∀ b c, b < objs0.length → c < objs0.length → φ b = φ c → b = c) (hH : ∀ i c, objs0[i]? = some c → H (φ i) = some (.cells c.length (c.map (tr2 φ)) [] false))
  (hg : ∀ σ w, Vs.Glob σ w → Ev.Glob (sg0 objs0.length φ σ) w) (ha : ∀ (σ : Vs.Sg) args', Vs.DenL σ argsV args' → Ev.DenL (sg0 objs0.length φ σ) args0 args')
  (hrn : rn.take objs0.length = List.range objs0.length) (hnd : Ev.nodupN rn = true) (hrun : runJ P W g n args0 objs0 objs1 rn p = true)
  (hK : K (.ret (trU (psi objs0.length nx φ) p)) (layV (psi objs0.length nx φ) nx objs1 H) (nx + objs1.length)) : Vs.TriP P g argsV H nx K := by
 have t := Lies.of_graph hlim hgr hlt hinj hH
 intro σ w args' R hr hd hR
 refine (Ev.fCallsW_ok hm hW n).1 g args0 (evH objs0) objs0.length _ hrun (sg0 objs0.length φ σ) w args' R (t.rel hr (hg σ w hr.glob)) (ha σ args' hd) fun e H1 nx1 σ1 w1 en hi R1 E1 X1 => ?_
 cases e with
 | pan l => exact Bool.noConfusion hi
 | ret v =>
  have hi' : (match Ev.beqA 9 (Ev.mapB (Ev.rnF rn) p) v with | true => Ev.sameObjs rn H1 rn (objs0 ++ objs1) | false => false) = true := hi
  clear hi
  split at hi' <;> first | (exact Bool.noConfusion hi') | skip
  rename_i hv
  have hv := Ev.beqA_ok _ _ _ hv
  obtain ⟨hlen, hobj⟩ := Ev.sameObjs_ok hi'
  have hlen' : rn.length = objs0.length + objs1.length := by rw [hlen, List.length_append]
  have rnget : ∀ i, i < objs0.length + objs1.length → rn[i]? = some (Ev.rnF rn i) := fun i hi => by
   rw [Ev.rnF_eq]
   simp [List.getD, List.getElem?_eq_getElem (show i < rn.length by omega)]
  have rnold : ∀ i, i < objs0.length → Ev.rnF rn i = i := fun i hi => by
   have h1 := rnget i (by omega)
   have h2 : (rn.take objs0.length)[i]? = rn[i]? := List.getElem?_take_of_lt hi
   rw [hrn, h1, List.getElem?_range hi] at h2
   exact (Option.some.inj h2).symm
  have old1 : ∀ b q, b < objs0.length → σ1 b = some q → σ (φ b) = some q := fun b q hb e => by
   cases h0 : sg0 objs0.length φ σ b with
   | none =>
    have := (E1.pend b hb h0).1
    rw [e] at this; cases this
   | some q' =>
    have h2 := E1.sub b q' h0
    rw [e] at h2; cases h2
    exact (sg0_some h0).2
  let σ2 : Vs.Sg := fun b => if b < nx then σ b else if b < nx + objs1.length then σ1 (Ev.rnF rn (objs0.length + (b - nx))) else none
  have s_lo : ∀ b, b < nx → σ2 b = σ b := fun b hb => by show (if _ then _ else _) = _; rw [if_pos hb]
  have s_hi : ∀ i, i < objs1.length → σ2 (nx + i) = σ1 (Ev.rnF rn (objs0.length + i)) := fun i hi => by
   show (if _ then _ else _) = _
   rw [if_neg (by omega), if_pos (by omega)]
   congr 3
   omega
  have σdom : ∀ b q, σ b = some q → b < nx := fun b q hp => by obtain ⟨cb, sz⟩ := q; exact (hr.dom b cb sz hp).1
  have sub : ∀ b q, σ b = some q → σ2 b = some q := fun b q hp => by rw [s_lo b (σdom b q hp)]; exact hp
  have inv : ∀ b q, σ2 b = some q → (b < nx ∧ σ b = some q) ∨ (∃ i, i < objs1.length ∧ b = nx + i ∧ σ1 (Ev.rnF rn (objs0.length + i)) = some q) := by
   intro b q hp
   by_cases h1 : b < nx
   ·rw [s_lo b h1] at hp; exact .inl ⟨h1, hp⟩
   ·have hp' : (if b < nx then σ b else if b < nx + objs1.length then σ1 (Ev.rnF rn (objs0.length + (b - nx))) else none) = some q := hp
    rw [if_neg h1] at hp'
    by_cases h2 : b < nx + objs1.length
    ·rw [if_pos h2] at hp'
     exact .inr ⟨b - nx, by omega, by omega, hp'⟩
    ·rw [if_neg h2] at hp'; cases hp'
  have trans : ∀ b q, σ1 (Ev.rnF rn b) = some q → σ2 (psi objs0.length nx φ b) = some q := by
   intro b q hp
   by_cases h0 : b < objs0.length
   ·rw [psi_lt h0, s_lo _ (hlt b h0)]
    rw [rnold b h0] at hp
    exact old1 b q h0 hp
   ·have hb : b < objs0.length + objs1.length := by
     rcases Nat.lt_or_ge b (objs0.length + objs1.length) with hlt | hge
     ·exact hlt
     ·rw [Ev.rnF_eq] at hp
      have : rn.getD b 1048576 = 1048576 := by simp [List.getD, List.getElem?_eq_none (by omega : rn.length ≤ b)]
      rw [this] at hp
      obtain ⟨cb, sz⟩ := q
      have := (R1.dom _ cb sz hp).1
      have := R1.lim
      omega
    rw [psi_ge (by omega), s_hi _ (by omega)]
    have : objs0.length + (b - objs0.length) = b := by omega
    rw [this]; exact hp
  have hcell : ∀ i (hi : i < objs0.length + objs1.length) c, (objs0 ++ objs1)[i]? = some c → ∃ ct olds s, Ev.get5 (Ev.rnF rn i) H1 = some (.cells c.length ct olds s) ∧ (∀ b, b ∈ olds → b ∉ rn) ∧ Ev.mapBL (Ev.rnF rn) c = Ev.CT.slab ct c.length 0 := by
   intro i hi c hc
   have hsc := hobj i _ _ (rnget i hi) hc
   unfold Ev.sameCells at hsc
   split at hsc <;> first | (exact Bool.noConfusion hsc) | skip
   rename_i n' ct olds s hg
   split at hsc <;> first | (exact Bool.noConfusion hsc) | skip
   rename_i hn' hol
   have hn2 := Nat.eq_of_beq_eq_true hn'
   subst hn2
   refine ⟨ct, olds, s, hg, ?_, Ev.beqL_ok (Ev.beqA_ok 9) _ _ hsc⟩
   intro b hb hbr
   have := Ev.allL_ok hol b hb
   rw [(Ev.memN_iff b rn).2 hbr] at this
   cases this
  have orel : ∀ i (hi : i < objs0.length + objs1.length) c cb sz, (objs0 ++ objs1)[i]? = some c → σ1 (Ev.rnF rn i) = some (cb, sz) → Vs.ORel σ2 (.cells c.length (c.map (tr2 (psi objs0.length nx φ))) [] false) cb sz w1 := by
   intro i hi c cb sz hc hs
   obtain ⟨ct, olds, s, hg1, _, hsl⟩ := hcell i hi c hc
   obtain ⟨o1, o2, o3, o4⟩ := R1.obj _ _ cb sz hg1 hs
   refine ⟨o1, ?_, o3, ?_⟩
   ·simp [Vs.CT.cap]
   ·intro k hk2
    obtain ⟨v', hv', dv⟩ := o4 k hk2
    refine ⟨v', hv', ?_⟩
    have e5 : Vs.CT.get k (c.map (tr2 (psi objs0.length nx φ))) = tr2 (psi objs0.length nx φ) c[k] := by simp [Vs.CT.get, List.getD, hk2]
    have e6 : Ev.CT.get k ct = Ev.mapB (Ev.rnF rn) c[k] := by
     have q1 := Ev.CT.slab_get ct c.length 0 k hk2
     rw [← hsl, Ev.mapBL_get, List.getElem?_eq_getElem hk2] at q1
     simp at q1
     exact q1.symm
    rw [e5]
    rw [e6] at dv
    exact trB_den trans _ _ dv
  have objsOld : ∀ i c, objs0[i]? = some c → (objs0 ++ objs1)[i]? = some c := fun i c h => by
   have hi : i < objs0.length := by
    rcases Nat.lt_or_ge i objs0.length with h' | h'
    ·exact h'
    ·rw [List.getElem?_eq_none h'] at h; cases h
   rw [List.getElem?_append_left hi]; exact h
  have objsNew : ∀ i, (objs0 ++ objs1)[objs0.length + i]? = objs1[i]? := fun i => by
   rw [List.getElem?_append_right (by omega)]; congr 1; omega
  have R1dom : ∀ b cb sz, σ b = some (cb, sz) → cb < w.heap.size := fun b cb sz h => (hr.dom b cb sz h).2
  have freshG : ∀ i cb sz, σ1 (Ev.rnF rn (objs0.length + i)) = some (cb, sz) → i < objs1.length → cb < w.heap.size → False := by
   intro i cb sz hs hi hcb
   obtain ⟨b', sz', h'⟩ := E1.rng _ cb sz hs hcb
   obtain ⟨hb', hsb'⟩ := sg0_some h'
   have h1' := E1.sub _ _ h'
   obtain ⟨ct, olds, s, hg1, hno, _⟩ := hcell (objs0.length + i) (by omega) _ (by rw [objsNew, List.getElem?_eq_getElem hi])
   obtain ⟨ct', olds', s', hg2, hno', _⟩ := hcell b' (by omega) _ (by rw [List.getElem?_append_left hb', List.getElem?_eq_getElem hb'])
   rw [rnold b' hb'] at hg2
   rcases R1.sep _ _ _ _ cb sz sz' hg1 hg2 hs h1' with q | q | q
   ·have := Ev.nodupN_ok hnd (objs0.length + i) b' b' (by rw [rnget _ (by omega), q]) (by rw [rnget _ (by omega), rnold b' hb'])
    omega
   ·exact (hno' _ q (List.mem_of_getElem? (rnget (objs0.length + i) (by omega)))).elim
   ·exact (hno _ q (by have := List.mem_of_getElem? (rnget b' (by omega)); rw [rnold b' hb'] at this; exact this)).elim
  have lowH : ∀ b, b < nx → layV (psi objs0.length nx φ) nx objs1 H b = H b := fun b hb => layV_lt hb
  have hiH : ∀ i, layV (psi objs0.length nx φ) nx objs1 H (nx + i) = (objs1[i]?).map fun c => .cells c.length (c.map (tr2 (psi objs0.length nx φ))) [] false := fun i => layV_ge
  have frame : ∀ i, i < w.heap.size → (∀ b sz, σ b ≠ some (i, sz)) → w1.heap[i]? = w.heap[i]? := fun i hi hn => E1.frame i hi fun b sz e => hn _ sz (sg0_some e).2
  have rng : ∀ b cb sz, σ2 b = some (cb, sz) → cb < w.heap.size → ∃ b' sz', σ b' = some (cb, sz') := by
   intro b cb sz hb hcb
   rcases inv b _ hb with ⟨_, h'⟩ | ⟨i, hi, _, h'⟩
   ·exact ⟨b, sz, h'⟩
   ·exact (freshG i cb sz h' hi hcb).elim
  have glob2 : Vs.Glob σ2 w1 := hr.glob.of E1.size frame rng
  have oldobj : ∀ b o cb sz, H b = some o → σ b = some (cb, sz) → Vs.ORel σ2 o cb sz w1 := by
   intro b o cb sz ho hb
   by_cases hex : ∃ i, i < objs0.length ∧ φ i = b
   ·obtain ⟨i, hi, rfl⟩ := hex
    rw [hH i _ (List.getElem?_eq_getElem hi)] at ho
    cases ho
    have hs1 : σ1 (Ev.rnF rn i) = some (cb, sz) := by rw [rnold i hi]; exact E1.sub _ _ (by rw [sg0_lt hi]; exact hb)
    have := orel i (by omega) (objs0[i]) cb sz (objsOld i _ (List.getElem?_eq_getElem hi)) hs1
    have e : (objs0[i]).map (tr2 (psi objs0.length nx φ)) = (objs0[i]).map (tr2 φ) := by
     apply List.map_congr_left
     intro v hv
     unfold graphB at hgr
     rw [List.all_eq_true] at hgr
     have hx := hgr _ (List.getElem_mem hi)
     rw [Bool.and_eq_true, List.all_eq_true] at hx
     exact tr2_congr (backB_ok (hx.2 v hv))
    rw [e] at this; exact this
   ·have hne : ∀ b' sz', sg0 objs0.length φ σ b' ≠ some (cb, sz') := by
     intro b' sz' e
     obtain ⟨h1, h2⟩ := sg0_some e
     rcases hr.sep _ _ _ _ cb sz sz' ho (hH b' _ (List.getElem?_eq_getElem h1)) hb h2 with q | q | q
     ·exact hex ⟨b', h1, q.symm⟩
     ·cases q
     ·have := hr.sup _ _ _ _ _ (hH b' _ (List.getElem?_eq_getElem h1)) ho hb q
      cases this
    exact ((hr.obj b o cb sz ho hb).of_block (E1.frame cb (R1dom _ _ _ hb) hne)).mono sub
  have rel2 : Vs.Rel σ2 (layV (psi objs0.length nx φ) nx objs1 H) (nx + objs1.length) w1 := by
   refine ⟨Nat.le_refl _, ?_, ?_, ?_, ?_, ?_, glob2⟩
   ·intro b cb sz hb
    rcases inv b _ hb with ⟨h1, h'⟩ | ⟨i, h1, h2, h'⟩
    ·exact ⟨by omega, Nat.lt_of_lt_of_le (R1dom _ _ _ h') E1.size⟩
    ·exact ⟨by omega, (R1.dom _ cb sz h').2⟩
   ·intro b o cb sz e3 hb
    have e3' : layV (psi objs0.length nx φ) nx objs1 H b = some o := e3
    rcases inv b _ hb with ⟨h1, h'⟩ | ⟨i, h1, h2, h'⟩
    ·rw [lowH b h1] at e3'
     exact oldobj b o cb sz e3' h'
    ·subst h2
     rw [hiH, List.getElem?_eq_getElem h1] at e3'
     cases e3'
     exact orel (objs0.length + i) (by omega) _ cb sz (by rw [objsNew, List.getElem?_eq_getElem h1]) h'
   ·intro b b' o o' cb sz sz' e3 e4 hb hb'
    have e3' : layV (psi objs0.length nx φ) nx objs1 H b = some o := e3
    have e4' : layV (psi objs0.length nx φ) nx objs1 H b' = some o' := e4
    rcases inv b _ hb with ⟨h1, h'⟩ | ⟨i, h1, h2, h'⟩
    ·rcases inv b' _ hb' with ⟨h3, h''⟩ | ⟨j, h3, h4, h''⟩
     ·rw [lowH b h1] at e3'; rw [lowH b' h3] at e4'
      exact hr.sep b b' o o' cb sz sz' e3' e4' h' h''
     ·exact (freshG j cb sz' h'' h3 (R1dom _ _ _ h')).elim
    ·rcases inv b' _ hb' with ⟨h3, h''⟩ | ⟨j, h3, h4, h''⟩
     ·exact (freshG i cb sz h' h1 (R1dom _ _ _ h'')).elim
     ·subst h2; subst h4
      obtain ⟨ct, olds, s, hg1, hno, _⟩ := hcell (objs0.length + i) (by omega) _ (by rw [objsNew, List.getElem?_eq_getElem h1])
      obtain ⟨ct', olds', s', hg2, hno', _⟩ := hcell (objs0.length + j) (by omega) _ (by rw [objsNew, List.getElem?_eq_getElem h3])
      rcases R1.sep _ _ _ _ cb sz sz' hg1 hg2 h' h'' with q | q | q
      ·left
       have := Ev.nodupN_ok hnd (objs0.length + i) (objs0.length + j) (Ev.rnF rn (objs0.length + i)) (rnget _ (by omega)) (by rw [q]; exact rnget _ (by omega))
       omega
      ·exact (hno' _ q (List.mem_of_getElem? (rnget _ (by omega)))).elim
      ·exact (hno _ q (List.mem_of_getElem? (rnget _ (by omega)))).elim
   ·intro b b' o o' q e3 e4 hb' hm'
    have e3' : layV (psi objs0.length nx φ) nx objs1 H b = some o := e3
    have e4' : layV (psi objs0.length nx φ) nx objs1 H b' = some o' := e4
    rcases inv b' _ hb' with ⟨h3, h''⟩ | ⟨j, h3, h4, h''⟩
    ·rw [lowH b' h3] at e4'
     obtain ⟨q', hq'⟩ := hr.old b' o' q e4' h'' b hm'
     rw [lowH b (σdom b q' hq')] at e3'
     exact hr.sup b b' o o' q e3' e4' h'' hm'
    ·subst h4
     rw [hiH, List.getElem?_eq_getElem h3] at e4'
     cases e4'
     simp [Vs.AObj.olds] at hm'
   ·intro b o q e3 hb b' hm'
    have e3' : layV (psi objs0.length nx φ) nx objs1 H b = some o := e3
    rcases inv b _ hb with ⟨h1, h'⟩ | ⟨i, h1, h2, h'⟩
    ·rw [lowH b h1] at e3'
     obtain ⟨q', hq'⟩ := hr.old b o q e3' h' b' hm'
     exact ⟨q', sub _ _ hq'⟩
    ·subst h2
     rw [hiH, List.getElem?_eq_getElem h1] at e3'
     cases e3'
     simp [Vs.AObj.olds] at hm'
  have ext2 : Vs.Ext σ σ2 H (layV (psi objs0.length nx φ) nx objs1 H) nx (nx + objs1.length) w w1 :=
   ⟨sub, rng, fun b hb hn => ⟨by rw [s_lo b hb]; exact hn, lowH b hb⟩, by omega, E1.os, E1.tape, E1.output, E1.size, frame⟩
  cases en with
  | returned v' =>
   have X1' : Ev.Den σ1 v v' := X1
   rw [← hv] at X1'
   exact hR (.ret (trU (psi objs0.length nx φ) p)) _ _ σ2 w1 _ hK rel2 ext2 (trBT_den trans _ _ X1')
  | panicked c => exact X1.elim
  | outgrown => exact X1.elim
def addG (Γ : Vs.GH) (ψ : Nat → Nat) (nx : Nat) (objs : List (List Ev.AVal)) : Vs.GH := fun b => if b < nx then Γ b else (objs[b - nx]?).map fun c => c.map (tr2 ψ)
theorem addG_lt {Γ : Vs.GH} {ψ : Nat → Nat} {nx b : Nat} {objs : List (List Ev.AVal)} (h : b < nx) : addG Γ ψ nx objs b = Γ b := by simp [addG, h]
theorem addG_ge {Γ : Vs.GH} {ψ : Nat → Nat} {nx b : Nat} {objs : List (List Ev.AVal)} : addG Γ ψ nx objs (nx + b) = (objs[b]?).map fun c => c.map (tr2 ψ) := by simp [addG]; intro h; omega
theorem hok_lay {Γ : Vs.GH} {ψ : Nat → Nat} {nx : Nat} {objs : List (List Ev.AVal)} {H : Vs.Heap} (h : Vs.HOK Γ H nx) : Vs.HOK (addG Γ ψ nx objs) (layV ψ nx objs H) (nx + objs.length) := by
 intro b cs e
 by_cases hb : b < nx
 ·rw [addG_lt hb] at e
  obtain ⟨h1, olds, ⟨ct, h2, h2'⟩, h3⟩ := h b cs e
  exact ⟨by omega, olds, ⟨ct, by rw [layV_lt hb]; exact h2, h2'⟩, fun o ho => ⟨by have := (h3 o ho).1; omega, by rw [addG_lt (h3 o ho).1]; exact (h3 o ho).2⟩⟩
 ·obtain ⟨i, rfl⟩ : ∃ i, b = nx + i := ⟨b - nx, by omega⟩
  rw [addG_ge] at e
  cases hc : objs[i]? with
  | none => rw [hc] at e; cases e
  | some c =>
   rw [hc] at e
   cases e
   have hi := (List.getElem?_eq_some_iff.1 hc).1
   refine ⟨by omega, [], ⟨c.map (tr2 ψ), ?_, List.take_length⟩, by simp⟩
   rw [layV_ge, hc]
   simp
theorem glob_ok (h0 : ∀ q, Ev.GTab.tab q = none) (h1 : ∀ q o', Ev.GTab.blk q = some o' → Vs.GTab.blk q = some o') {n0 : Nat} {φ : Nat → Nat} {σ : Vs.Sg} {w : World} (h : Vs.Glob σ w) : Ev.Glob (sg0 n0 φ σ) w := by
 refine ⟨fun q l e => (by rw [h0 q] at e; cases e), fun q o' e => ?_⟩
 obtain ⟨a1, a2, a3⟩ := h.blk q o' (h1 q o' e)
 exact ⟨a1, fun b sz e2 => a2 _ sz (sg0_some e2).2, a3⟩
theorem trueTW_ok {P : Program} {W : Ev.Wr} {f : FuncId} {n : Nat} (hm : P.follows .mixedOrders = true) (hW : Ev.WrOK P W) (h : Ev.runTW P W f n [] = true) (hg : ∀ w, Vs.Glob (fun _ => none) w → Ev.Glob (fun _ => none) w)
  {H : Vs.Heap} {nx : Nat} {K : Vs.EndP} (hK : K (.ret (.bool true)) H nx) : Vs.TriP P f [] H nx K := by
 refine Vs.TriP.of_kept (v := .bool true) (fun σ w args' hg' hd => ?_) hK
 cases hd
 refine (Ev.runTW_ok hm hW h (hg w hg') [] .nil).mono fun e w' ⟨he, ht, hk⟩ => ?_
 exact ⟨⟨_, he, .bool _⟩, hk.1, ht, hk.2.1, hk.2.2.1, hk.2.2.2⟩
end
end Go.Bridge
end
section
namespace Go.Vs
open Go
variable [GTab] {w : World}
theorem rel_none (hg : Glob (fun _ => none) w) : Rel (fun _ => none) (all5 none) 0 w := by
 refine ⟨Nat.le_refl _, ?_, ?_, ?_, ?_, ?_, hg⟩
 ·intro b cb sz e; cases e
 ·intro b o cb sz _ e; cases e
 ·intro b b' o o' cb sz sz' _ _ e; cases e
 ·intro b b' o o' p _ _ e; cases e
 ·intro b o p _ e; cases e
theorem close {P : Program} {f : FuncId} {argsV : List AVal} {args' : List Value} (h : TriP P f argsV (all5 none) 0 (fun e _ _ => e = .ret (.bool true)))
  (hg : Glob (fun _ => none) w) (hd : DenL (fun _ => none) argsV args') : Calls P f ⟨args'⟩ w fun e w' => e = .returned (.bool true) ∧ Ev.Kept w w' := by
 refine h (fun _ => none) w args' _ (rel_none hg) hd ?_
 intro e H' nx' σ' w' en k R1 E1 X1
 subst k
 cases en <;> try exact X1.elim
 rename_i v
 have hv : Den σ' (.bool true) v := X1
 cases hv
 exact ⟨rfl, E1.os, E1.output, E1.size, fun i hi => E1.frame i hi fun _ _ e => by cases e⟩
end Go.Vs
end
