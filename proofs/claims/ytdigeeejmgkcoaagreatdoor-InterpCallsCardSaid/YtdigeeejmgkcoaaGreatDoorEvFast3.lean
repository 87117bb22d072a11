/-
  Own work. The evaluator once more. Part 3: all operations; regions.
-/
import Derived.Test.YtdigeeejmgkcoaaGreatDoorEvFast2
namespace Go.Ev
variable [GTab]
set_option linter.unusedSectionVars false
noncomputable section

abbrev Fop := Env → St → FK → FX → Bool
inductive CF
  | no
  | yes (f : Fop)
inductive Fo | mk (f : Fop)
inductive Fl | mk (f : Nat → Env → St → FK → Bool)
inductive Ag | mk (f : Env → St → Bool)
inductive Co | mk (f : Env → St → FX → Bool)
inductive Sf | mk (f : Nat → Env → Env → St → FX → Bool)
def Fo.fn : Fo → Fop | .mk f => f
def Fl.fn : Fl → Nat → Env → St → FK → Bool | .mk f => f
def Ag.fn : Ag → Env → St → Bool | .mk f => f
def Co.fn : Co → Env → St → FX → Bool | .mk f => f
def Sf.fn : Sf → Nat → Env → Env → St → FX → Bool | .mk f => f

/-- It goes on, enters or panics. -/
def plain : ARes → Bool
  | .val _ _ _ | .call _ _ | .pan _ => true
  | _ => false

def COK (P : Program) (o : Oper) (f : Fop) : Prop :=
  ∀ env st k K, f env st k K = true → ∃ r, aop P o (aev env) st.H st.nx = some r ∧ plain r = true ∧ takeK st.call o.dst r env st.H st.nx st.dfs st.rc (unc st.call k) (uncX st.call K) = true

/-! ### Calls -/
def retK (d : AVal → Env → Env) (env : Env) (st : St) (k : FK) (K : FX) (e : AEnd) : Heap → Nat → Bool :=
  AEnd.rec (motive := fun _ => (AVal → Env → Env) → Env → St → FK → FX → Heap → Nat → Bool) (fun v d env st k _ H nx => k (d v env) (st.with2 H nx)) (fun l _ env st _ K H nx => K (.pan l) env (st.with2 H nx)) e d env st k K

theorem retK_eq {o : Option Nat} {d : AVal → Env → Env} (hd : ∀ v env, d v env = put o v env) (env : Env) (st : St) (k : FK) (K : FX) :
    retK d env st k K = fun e H' nx' => match e with
    | .ret v => unc st.call k (put o v env) H' nx' st.dfs st.rc
    | .pan l => uncX st.call K (.pan l) env H' nx' st.dfs st.rc := by
  funext e H nx
  cases e with
  | ret v => show k (d v env) (st.with2 H nx) = _; rw [hd, St.with2_eq]; rfl
  | pan l => show K (.pan l) env (st.with2 H nx) = _; rw [St.with2_eq]; rfl

/-! ### Stores -/
def relay1 (v : AVal) (off n : Nat) (ct : CT) : CT := Bool.rec (CT.setF ct off v) (Bool.rec (CT.setF ct off v) (.c1 (CT.of1 [v])) (Nat.beq 1 n)) (Nat.beq off 0)
theorem relay1_eq (v : AVal) (off n : Nat) (ct : CT) : relay1 v off n ct = relay [v] 1 off n ct := by
  unfold relay1 relay
  rw [CT.setF_eq]
  cases h1 : Nat.beq off 0 with
  | false => rfl
  | true =>
    cases h2 : Nat.beq 1 n with
    | false => rfl
    | true =>
      have := Nat.eq_of_beq_eq_true h2
      subst this
      rfl

def hSt (o : Option AObj) : Nat → Nat → AVal → Heap → (Heap → Bool) → Bool :=
  Option.rec (motive := fun _ => Nat → Nat → AVal → Heap → (Heap → Bool) → Bool) (fun _ _ _ _ _ => false)
    (fun ob => AObj.rec (motive := fun _ => Nat → Nat → AVal → Heap → (Heap → Bool) → Bool)
      (fun n ct olds s b off v H k => Bool.rec (Bool.rec false (k (hset b (some (.cells n (relay1 v off n ct) [] false)) (dels olds H))) (Nat.ble (Nat.succ off) n)) false s) (fun _ _ _ _ _ _ _ => false) ob) o

theorem hSt_ok {o : Option AObj} {b off : Nat} {v : AVal} {H : Heap} {k : Heap → Bool} (h : hSt o b off v H k = true) :
    ∃ n ct olds, o = some (.cells n ct olds false) ∧ Nat.ble (Nat.succ off) n = true ∧ k (set5 b (some (.cells n (relay [v] 1 off n ct) [] false)) (dels olds H)) = true := by
  cases o with
  | none => exact Bool.noConfusion h
  | some ob =>
    cases ob with
    | map es c => exact Bool.noConfusion h
    | cells n ct olds s =>
      cases s with
      | true => exact Bool.noConfusion h
      | false =>
        have h' : (Bool.rec false (k (hset b (some (.cells n (relay1 v off n ct) [] false)) (dels olds H))) (Nat.ble (Nat.succ off) n) : Bool) = true := h
        obtain ⟨h1, h2⟩ := brec_ok h'
        rw [relay1_eq, hset_eq] at h2
        exact ⟨n, ct, olds, rfl, h1, h2⟩

/-- What an operation came to, as the other evaluator takes it on. -/
def genF (g : (Operand → AVal) → Heap → Nat → Option ARes) (d : Option Nat) : CF := .yes fun env st k K => match g (aev env) st.H st.nx with
  | some r => match plain r with
    | true => takeK st.call d r env st.H st.nx st.dfs st.rc (unc st.call k) (uncX st.call K)
    | false => false
  | none => false

theorem genF_ok {P : Program} {o : Oper} {g : (Operand → AVal) → Heap → Nat → Option ARes} {f : Fop} (hg : aop P o = g) (h : genF g o.dst = .yes f) : COK P o f := by
  cases h
  intro env st k K h
  rw [hg]
  simp only at h
  split at h <;> first | (exact Bool.noConfusion h) | skip
  rename_i r hr
  split at h <;> first | (exact Bool.noConfusion h) | skip
  exact ⟨r, hr, ‹_›, h⟩

/-- No aggregate. -/
def oneCellT (P : Program) (t : TypeId) : Bool := match P.underlying t with
  | some d => bnot (aggD d)
  | none => false

def cCore (P : Program) (o : Oper) : CF :=
  match cVal P o.op, bd o.dst with
  | .yes f, .mk d => .yes fun env st k _ => f env st fun v => k (d v env) st
  | .no, .mk d => match o.op with
    | .store t a x => match P.info? t, bx a, bx x with
      | some i, .mk fa, .mk fx => match Nat.beq 1 i.size, oneCellT P t with
        | true, true => .yes fun env st k _ => vPtr (fa env) fun b off => vCell (fx env) fun v => hSt (hget b st.H) b off v st.H fun H => k (d .und env) (st.with2 H st.nx)
        | _, _ => genF (opStore P t a x) o.dst
      | _, _, _ => .no
    | .call c => match c.callee with
      | .value (.func g) => match hasBody P g, bas c.args.toList with
        | true, .mk as => .yes fun env st k K => st.call g (as env) st.H st.nx (retK d env st k K)
        | false, _ => .no
      | .value _ => genF (opCall P c) o.dst
      | .builtin .append => genF (opCall P c) o.dst
      | .builtin .copy => genF (opCall P c) o.dst
      | .invoke _ _ => genF (opCall P c) o.dst
      | _ => .no
    | .alloc t => match zeroL P t with
      | some z => match Nat.ble z.length 4096 with
        | true => forceN z.length fun n => .yes fun env st k _ => Bool.rec false (forceN st.nx fun b => k (d (.ptr b 0) env) (st.with2 (hset b (some (.cells n (CT.ofL n z) [] false)) st.H) (Nat.succ b))) (Nat.ble (Nat.succ st.nx) 1048576)
        | false => .no
      | none => .no
    | .box t x => genF (opMadeOf P (.box t x)) o.dst
    | .buildSlice t n ps => genF (opMadeOf P (.buildSlice t n ps)) o.dst
    | .makeSlice t l c => genF (opMadeOf P (.makeSlice t l c)) o.dst
    | .panic x => genF (opPanic x) o.dst
    | .makeMap _ r => genF (opMakeMap r) o.dst
    | .mapUpdate t m k x => genF (opMapUpdate P t m k x) o.dst
    | .insert t m k x => genF (opMapUpdate P t m k x) o.dst
    | _ => .no

theorem cCore_ok {P : Program} {o : Oper} {f : Fop} (h : cCore P o = .yes f) : COK P o f := by
  have hd := bd_eq o.dst
  unfold cCore at h
  split at h
  · rename_i f d hv hd0
    rw [hd0] at hd
    cases h
    intro env st k K hk
    obtain ⟨v, ha, hk⟩ := cVal_ok hv env st _ hk
    refine ⟨_, ha, rfl, ?_⟩
    have hd' : d v env = put o.dst v env := hd v env
    rw [hd'] at hk
    exact hk
  · rename_i d hv hd0
    rw [hd0] at hd
    have hd' : ∀ v env, d v env = put o.dst v env := hd
    split at h
    · rename_i t a x hop
      split at h <;> first | (cases h; done) | skip
      rename_i i fa fx hi ha0 hx0
      have ha := bx_eq a; rw [ha0] at ha
      have ha' : ∀ env, fa env = aev env a := ha
      have hx := bx_eq x; rw [hx0] at hx
      have hx' : ∀ env, fx env = aev env x := hx
      split at h
      · rename_i hsz _
        cases h
        intro env st k K hk
        obtain ⟨b, off, e1, hk⟩ := vPtr_ok hk
        obtain ⟨c1, c2, hk⟩ := vCell_ok hk
        obtain ⟨n, ct, olds, e2, e3, hk⟩ := hSt_ok hk
        rw [hget_eq] at e2
        rw [ha'] at e1
        rw [hx'] at c1 c2 hk
        have hs := Nat.eq_of_beq_eq_true hsz
        refine ⟨.val .und (set5 b (some (.cells n (relay [aev env x] 1 off n ct) [] false)) (dels olds st.H)) st.nx, ?_, rfl, ?_⟩
        · unfold aop; rw [hop]
          show opStore P t a x (aev env) st.H st.nx = _
          have e3' : Nat.ble (Nat.add off 1) n = true := e3
          have ac : allCell [aev env x] = true := by unfold allCell; rw [c2]; rfl
          have bl : Nat.beq ([aev env x] : List AVal).length 1 = true := rfl
          simp only [opStore, aStore, e1, c1, hi, e2, ← hs, e3', ac, bl]
        · rw [hd', St.with2_eq] at hk
          exact hk
      · exact genF_ok (by funext ρ H nx; unfold aop; rw [hop]) h
    · rename_i c hop
      split at h
      · rename_i g hcal
        split at h <;> first | (cases h; done) | skip
        rename_i as hb has
        have hA := bas_eq c.args.toList; rw [has] at hA
        have hA' : ∀ env, as env = c.args.toList.map (aev env) := hA
        cases h
        intro env st k K hk
        refine ⟨.call g (c.args.toList.map (aev env)), ?_, rfl, ?_⟩
        · unfold aop; rw [hop]
          show opCall P c (aev env) st.H st.nx = _
          unfold opCall
          simp only [hcal, opCallV, callTo]
          have : aev env (.func g) = .func (.func g) [] [] := rfl
          rw [this]
          simp only [hb, List.nil_append, List.append_nil]
        · have hk' : st.call g (as env) st.H st.nx (retK d env st k K) = true := hk
          rw [hA', retK_eq hd'] at hk'
          exact hk'
      · exact genF_ok (by funext ρ H nx; unfold aop; rw [hop]) h
      · exact genF_ok (by funext ρ H nx; unfold aop; rw [hop]) h
      · exact genF_ok (by funext ρ H nx; unfold aop; rw [hop]) h
      · exact genF_ok (by funext ρ H nx; unfold aop; rw [hop]) h
      · cases h
    · rename_i t hop
      split at h <;> first | (cases h; done) | skip
      rename_i z hz
      split at h <;> first | (cases h; done) | skip
      rename_i hle
      rw [forceN_eq] at h
      cases h
      intro env st k K hk
      obtain ⟨h1, hk⟩ := brec_ok hk
      rw [forceN_eq, hd', St.with2_eq, hset_eq] at hk
      refine ⟨.val (.ptr st.nx 0) (set5 st.nx (some (.cells z.length (CT.ofL z.length z) [] false)) st.H) (Nat.succ st.nx), ?_, rfl, hk⟩
      unfold aop; rw [hop]
      show opMadeOf P (.alloc t) (aev env) st.H st.nx = _
      simp only [opMadeOf, made, madeAlloc, hz, opMade, hle, h1, forceN_eq]
    · rename_i hop; exact genF_ok (by funext ρ H nx; unfold aop; rw [hop]) h
    · rename_i hop; exact genF_ok (by funext ρ H nx; unfold aop; rw [hop]) h
    · rename_i hop; exact genF_ok (by funext ρ H nx; unfold aop; rw [hop]) h
    · rename_i hop; exact genF_ok (by funext ρ H nx; unfold aop; rw [hop]) h
    · rename_i hop; exact genF_ok (by funext ρ H nx; unfold aop; rw [hop]) h
    · rename_i hop; exact genF_ok (by funext ρ H nx; unfold aop; rw [hop]) h
    · rename_i hop; exact genF_ok (by funext ρ H nx; unfold aop; rw [hop]) h
    · cases h

/-! ### One operation, in the order of the text -/
def cOp (P : Program) (nt : Nat) (ops : Array Oper) (o : Oper) : Fo :=
  match dstOK nt o.dst, cCore P o, o.guard with
  | true, .yes f, none => .mk f
  | true, .yes f, some g => match bg ops g, bd o.dst with
    | .mk w, .mk d => .mk fun env st k K => w env (f env st k K) (k (d (.tuple []) env) st)
  | _, _, _ => .mk fun env st k K => opK P st.call nt ops o env st.H st.nx st.dfs st.rc (unc st.call k) (uncX st.call K)

theorem cOp_ok {P : Program} {nt : Nat} {ops : Array Oper} {o : Oper} {env : Env} {st : St} {k : FK} {K : FX} (h : (cOp P nt ops o).fn env st k K = true) :
    opK P st.call nt ops o env st.H st.nx st.dfs st.rc (unc st.call k) (uncX st.call K) = true := by
  unfold cOp at h
  split at h
  · rename_i f hdst hf hg
    obtain ⟨r, ha, _, ht⟩ := cCore_ok hf env st k K h
    unfold opK
    have hw : wantedA ops o.guard env = some true := by rw [hg]; rfl
    simp only [hdst, hw, ha]
    exact ht
  · rename_i f g hdst hf hg
    have hd := bd_eq o.dst
    cases ew : bg ops g with | mk w => cases ed : bd o.dst with | mk d =>
      rw [ew] at h; rw [ed] at h hd
      have h' : (bg ops g).fn env (f env st k K) (k (d (.tuple []) env) st) = true := by rw [ew]; exact h
      unfold opK
      rcases bg_ok h' with ⟨hw, hh⟩ | ⟨hw, hh⟩
      · obtain ⟨r, ha, _, ht⟩ := cCore_ok hf env st k K hh
        rw [← hg] at hw
        simp only [hdst, hw, ha]
        exact ht
      · rw [← hg] at hw
        simp only [hdst, hw]
        have : d (.tuple []) env = put o.dst (.tuple []) env := hd _ _
        rw [← this]
        exact hh
  · exact h

def cOps (P : Program) (nt : Nat) (ops : Array Oper) : List Oper → Co
  | [] => .mk fun env st K => K .normal env st
  | o :: l => match cOp P nt ops o, cOps P nt ops l with
    | .mk f, .mk g => .mk fun env st K => f env st (fun env st => g env st K) K

/-! ### Regions whose order is open -/
def cAct (P : Program) (ops : Array Oper) (o : Oper) : Fo :=
  match cCore P o, o.guard with
  | .yes f, none => .mk f
  | .yes f, some g => match bg ops g, bd o.dst with
    | .mk w, .mk d => .mk fun env st k K => w env (f env st k K) (k (d (.tuple []) env) st)
  | _, _ => .mk fun env st k K => actK P st.call ops o env st.H st.nx st.dfs st.rc (fun env' H' nx' => k env' ⟨st.call, H', nx', st.dfs, st.rc⟩) (uncX st.call K) env

theorem cAct_ok {P : Program} {ops : Array Oper} {o : Oper} {env : Env} {st : St} {k : FK} {K : FX} (h : (cAct P ops o).fn env st k K = true) :
    actK P st.call ops o env st.H st.nx st.dfs st.rc (fun env' H' nx' => k env' ⟨st.call, H', nx', st.dfs, st.rc⟩) (uncX st.call K) env = true := by
  have key : ∀ {f : Fop}, cCore P o = .yes f → wantedA ops o.guard env = some true → f env st k K = true → actK P st.call ops o env st.H st.nx st.dfs st.rc (fun env' H' nx' => k env' ⟨st.call, H', nx', st.dfs, st.rc⟩) (uncX st.call K) env = true := by
    intro f hf hw hh
    obtain ⟨r, ha, hp, ht⟩ := cCore_ok hf env st k K hh
    unfold actK
    simp only [hw, ha]
    cases r <;> first | exact Bool.noConfusion hp | exact ht
  unfold cAct at h
  split at h
  · rename_i f hf hg
    exact key hf (by rw [hg]; rfl) h
  · rename_i f g hf hg
    have hd := bd_eq o.dst
    cases ew : bg ops g with | mk w => cases ed : bd o.dst with | mk d =>
      rw [ew] at h; rw [ed] at h hd
      have h' : (bg ops g).fn env (f env st k K) (k (d (.tuple []) env) st) = true := by rw [ew]; exact h
      rcases bg_ok h' with ⟨hw, hh⟩ | ⟨hw, hh⟩
      · exact key hf (by rw [hg]; exact hw) hh
      · unfold actK
        rw [← hg] at hw
        simp only [hw]
        have : d (.tuple []) env = put o.dst (.tuple []) env := hd _ _
        rw [← this]
        exact hh
  · exact h

theorem floatK_det {P : Program} {ops : Array Oper} {res : Nat} {o : Oper} {i : Nat} {env : Env} {H : Heap} {nx : Nat} {k : Env → Heap → Bool} (h : floatK P ops res o i env H nx k = true) :
    ∃ env' H', k env' H' = true ∧ ∀ k' : Env → Heap → Bool, k' env' H' = true → floatK P ops res o i env H nx k' = true := by
  unfold floatK at h
  split at h <;> first | (exact Bool.noConfusion h) | skip
  · rename_i hw
    split at h
    · rename_i hc
      split at h <;> first | (exact Bool.noConfusion h) | skip
      rename_i m hm
      split at h <;> first | (exact Bool.noConfusion h) | skip
      rename_i hle
      rw [forceN_eq] at h
      refine ⟨_, _, h, fun k' hk' => ?_⟩
      unfold floatK
      simp only [hw, hc, hm, hle, forceN_eq]
      exact hk'
    · rename_i hc
      split at h <;> first | (exact Bool.noConfusion h) | skip
      rename_i v H1 nx1 ha
      refine ⟨_, _, h, fun k' hk' => ?_⟩
      unfold floatK
      simp only [hw, hc, ha]
      exact hk'
  · rename_i hw
    refine ⟨_, _, h, fun k' hk' => ?_⟩
    unfold floatK
    simp only [hw]
    exact hk'

def cFloat1 (P : Program) (ops : Array Oper) (i : Nat) (o : Oper) : Fl :=
  match Nat.beq (cls o.op) 1, cVal P o.op, o.guard, bd o.dst with
  | false, .yes f, none, .mk d => .mk fun _ env st k => f env st fun v => k (d v env) st
  | false, .yes f, some g, .mk d => match bg ops g with
    | .mk w => .mk fun _ env st k => w env (f env st fun v => k (d v env) st) (k (d (.tuple []) env) st)
  | true, _, none, .mk d => match o.op with
    | .alloc t => match zeroL P t with
      | some z => match Nat.ble z.length 4096 with
        | true => forceN z.length fun n => .mk fun res env st k => forceN (Nat.add res i) fun b => k (d (.ptr b 0) env) (st.with2 (hset b (some (.cells n (CT.ofL n z) [] false)) st.H) st.nx)
        | false => .mk fun _ _ _ _ => false
      | none => .mk fun _ _ _ _ => false
    | _ => .mk fun res env st k => floatK P ops res o i env st.H st.nx fun env' H' => k env' (st.with2 H' st.nx)
  | _, _, _, _ => .mk fun res env st k => floatK P ops res o i env st.H st.nx fun env' H' => k env' (st.with2 H' st.nx)

theorem with2_self (st : St) : st.with2 st.H st.nx = st := by cases st; rfl

theorem cFloat1_ok {P : Program} {ops : Array Oper} {i : Nat} {o : Oper} {res : Nat} {env : Env} {st : St} {k : FK} (h : (cFloat1 P ops i o).fn res env st k = true) :
    floatK P ops res o i env st.H st.nx (fun env' H' => k env' (st.with2 H' st.nx)) = true := by
  have hd := bd_eq o.dst
  unfold cFloat1 at h
  split at h
  · rename_i f d hc hv hg hd0
    rw [hd0] at hd
    obtain ⟨v, ha, hk⟩ := cVal_ok hv env st _ h
    have hd' : d v env = put o.dst v env := hd _ _
    rw [hd'] at hk
    unfold floatK
    have hw : wantedA ops o.guard env = some true := by rw [hg]; rfl
    simp only [hw, hc, ha, with2_self]
    exact hk
  · rename_i f g d hc hv hg hd0
    rw [hd0] at hd
    cases ew : bg ops g with | mk w =>
      rw [ew] at h
      have h' : (bg ops g).fn env (f env st fun v => k (d v env) st) (k (d (.tuple []) env) st) = true := by rw [ew]; exact h
      unfold floatK
      rcases bg_ok h' with ⟨hw, hh⟩ | ⟨hw, hh⟩
      · obtain ⟨v, ha, hk⟩ := cVal_ok hv env st _ hh
        have hd' : d v env = put o.dst v env := hd _ _
        rw [hd'] at hk
        rw [← hg] at hw
        simp only [hw, hc, ha, with2_self]
        exact hk
      · rw [← hg] at hw
        have hd' : d (.tuple []) env = put o.dst (.tuple []) env := hd _ _
        rw [hd'] at hh
        simp only [hw, with2_self]
        exact hh
  · rename_i d hc hg hd0
    rw [hd0] at hd
    split at h
    · rename_i t hop
      split at h <;> first | (exact Bool.noConfusion h) | skip
      rename_i z hz
      split at h <;> first | (exact Bool.noConfusion h) | skip
      rename_i hle
      rw [forceN_eq] at h
      have h' : (forceN (Nat.add res i) fun b => k (d (.ptr b 0) env) (st.with2 (hset b (some (.cells z.length (CT.ofL z.length z) [] false)) st.H) st.nx)) = true := h
      rw [forceN_eq, hset_eq] at h'
      unfold floatK
      have hw : wantedA ops o.guard env = some true := by rw [hg]; rfl
      have hm : made P o.op (aev env) = some ⟨z.length, z, fun b => .ptr b 0⟩ := by rw [hop]; simp only [made, madeAlloc, hz]
      have hd' : d (.ptr (Nat.add res i) 0) env = put o.dst (.ptr (Nat.add res i) 0) env := hd _ _
      rw [hd'] at h'
      simp only [hw, hc, hm, hle, forceN_eq]
      exact h'
    · exact h
  · exact h

def cFloats (P : Program) (ops : Array Oper) : List Nat → Fl
  | [] => .mk fun _ env st k => k env st
  | i :: l => match ops[i]? with
    | some o => match cFloat1 P ops i o, cFloats P ops l with
      | .mk f, .mk g => .mk fun res env st k => f res env st fun env st => g res env st k
    | none => .mk fun _ _ _ _ => false

theorem with2_with2 (st : St) (H H' : Heap) (nx nx' : Nat) : (st.with2 H nx).with2 H' nx' = st.with2 H' nx' := by cases st; rfl
theorem with2_H (st : St) (H : Heap) (nx : Nat) : (st.with2 H nx).H = H := by cases st; rfl
theorem with2_nx (st : St) (H : Heap) (nx : Nat) : (st.with2 H nx).nx = nx := by cases st; rfl

theorem cFloats_ok {P : Program} {ops : Array Oper} {res : Nat} {k : FK} : ∀ {l : List Nat} {env : Env} {st : St}, (cFloats P ops l).fn res env st k = true →
    floatsK P ops res st.nx (fun env' H' => k env' (st.with2 H' st.nx)) l env st.H = true
  | [], env, st, h => by
    have h' : k env st = true := h
    show k env (st.with2 st.H st.nx) = true
    rw [with2_self]; exact h'
  | i :: l, env, st, h => by
    unfold cFloats at h
    show (match ops[i]? with | some o => floatK P ops res o i env st.H st.nx (floatsK P ops res st.nx (fun env' H' => k env' (st.with2 H' st.nx)) l) | none => false) = true
    cases ho : ops[i]? with
    | none => rw [ho] at h; exact Bool.noConfusion h
    | some o =>
      rw [ho] at h
      simp only
      cases e1 : cFloat1 P ops i o with | mk f => cases e2 : cFloats P ops l with | mk g =>
        simp only [e1, e2] at h
        have h' : (cFloat1 P ops i o).fn res env st (fun env st => g res env st k) = true := by rw [e1]; exact h
        obtain ⟨env', H', hk, hall⟩ := floatK_det (cFloat1_ok h')
        refine hall _ ?_
        have hk' : (cFloats P ops l).fn res env' (st.with2 H' st.nx) k = true := by rw [e2]; exact hk
        have := cFloats_ok hk'
        rw [with2_H, with2_nx] at this
        simpa only [with2_with2] using this

/-- What was read is read again. -/
def cAgain1 (P : Program) (ops : Array Oper) (o : Oper) : Ag :=
  match o.op, o.guard with
  | .move _, none | .assign _, none | .fieldAddr _ _ _, none | .field _ _ _, none | .nilCheck _, none | .extract _ _, none => .mk fun env st => again1 P ops env st.H st.nx o
  | _, _ => .mk fun env st => again1 P ops env st.H st.nx o

theorem cAgain1_ok {P : Program} {ops : Array Oper} {o : Oper} {env : Env} {st : St} (h : (cAgain1 P ops o).fn env st = true) : again1 P ops env st.H st.nx o = true := by
  unfold cAgain1 at h
  split at h <;> exact h

def cAgains (P : Program) (ops : Array Oper) : List Nat → Ag
  | [] => .mk fun _ _ => true
  | i :: l => match ops[i]? with
    | some o => match cAgain1 P ops o, cAgains P ops l with
      | .mk f, .mk g => .mk fun env st => Bool.rec false (g env st) (f env st)
    | none => .mk fun _ _ => false

theorem cAgains_ok {P : Program} {ops : Array Oper} {env : Env} {st : St} : ∀ {l : List Nat}, (cAgains P ops l).fn env st = true → againK P ops env st.H st.nx l = true
  | [], _ => rfl
  | i :: l, h => by
    unfold cAgains at h
    show (Bool.rec false (againK P ops env st.H st.nx l) (match ops[i]? with | some o => again1 P ops env st.H st.nx o | none => false) : Bool) = true
    cases ho : ops[i]? with
    | none => rw [ho] at h; exact Bool.noConfusion h
    | some o =>
      rw [ho] at h
      cases e1 : cAgain1 P ops o with | mk f => cases e2 : cAgains P ops l with | mk g =>
        simp only [e1, e2] at h
        obtain ⟨h1, h2⟩ := brec_ok (show (Bool.rec false (g env st) (f env st) : Bool) = true from h)
        have h1' : again1 P ops env st.H st.nx o = true := cAgain1_ok (by rw [e1]; exact h1)
        have h2' : againK P ops env st.H st.nx l = true := cAgains_ok (by rw [e2]; exact h2)
        simp only [h1', h2']

def cStages (P : Program) (ops : Array Oper) : List (Nat × List Nat × List Nat) → Sf
  | [] => .mk fun _ _ env st K => K .normal env st
  | s :: rest => match ops[s.1]? with
    | some o => match cAct P ops o, cFloats P ops s.2.1, cAgains P ops s.2.2, cStages P ops rest with
      | .mk f, .mk g, .mk a, .mk r => .mk fun res env0 env st K => f env st (fun env st => g res env st fun env st => Bool.rec false (r res env0 env st K) (a env st)) (fun e _ st => K e env0 st)
    | none => .mk fun _ _ _ _ _ => false

/-- All results of the region are not known. -/
inductive Bl | mk (f : Env → Env)
def Bl.fn : Bl → Env → Env | .mk f => f
def cBlank : List Oper → Bl
  | [] => .mk fun env => env
  | o :: l => match bd o.dst, cBlank l with | .mk d, .mk g => .mk fun env => g (d .und env)
theorem cBlank_eq : ∀ (l : List Oper) (env : Env), (cBlank l).fn env = blank l env
  | [], _ => rfl
  | o :: l, env => by
    have hd := bd_eq o.dst .und env
    have e : blank (o :: l) env = blank l (put o.dst .und env) := rfl
    rw [e]
    unfold cBlank
    cases e1 : bd o.dst with | mk d => cases e2 : cBlank l with | mk g =>
      rw [e1] at hd
      have hd' : d .und env = put o.dst .und env := hd
      have := cBlank_eq l (put o.dst .und env)
      rw [e2] at this
      show g (d .und env) = _
      rw [hd']; exact this

def cDrawn (P : Program) (nt : Nat) (ops : Array Oper) : Co :=
  match planOK nt ops, cFloats P ops (plan0 ops), cAgains P ops (planA ops), cStages P ops (planS ops), cBlank ops.toList with
  | true, .mk f, .mk a, .mk r, .mk bl => forceN ops.size fun n => .mk fun env st K => Bool.rec false (forceN (Nat.add st.nx n) fun nx' => f st.nx env (st.with2 st.H nx') fun env' st' => Bool.rec false (r st.nx (bl env) env' st' K) (a env' st')) (Nat.ble (Nat.add st.nx n) 1048576)
  | _, _, _, _, _ => .mk fun _ _ _ => false

end
end Go.Ev
