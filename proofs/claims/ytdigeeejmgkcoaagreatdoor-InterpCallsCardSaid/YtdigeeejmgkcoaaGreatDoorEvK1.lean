/-
  Own work. That the second evaluator is right. Part 1: operations, regions in the order of the text.
-/
import Derived.Test.YtdigeeejmgkcoaaGreatDoorEvFast3
import Derived.Test.YtdigeeejmgkcoaaGreatDoorEvDrawn5
namespace Go.Ev
variable [GTab]
set_option linter.unusedSectionVars false

/-- A call comes to what the rest was asked of. -/
def TriC (P : Program) (f : FuncId) (args : List AVal) (H : Heap) (nx : Nat) (K : KEnd) : Prop :=
  ∀ (σ : Sg) (w : World) (args' : List Value) (R : Ending → World → Prop), Rel σ H nx w → DenL σ args args' →
    (∀ e H' nx' σ' w' en, K e H' nx' = true → Rel σ' H' nx' w' → Ext σ σ' H H' nx nx' w w' → EndRel σ' e en → R en w') → Calls P f ⟨args'⟩ w R

def CallS (P : Program) (call : CallK) : Prop := ∀ f args H nx K, call f args H nx K = true → TriC P f args H nx K

theorem upon_stepK {P : Program} {call : CallK} {nt : Nat} {o : Oper} {env : Env} {H : Heap} {nx : Nat} {dfs : Dfs} {rc : Option AMode} {r : ARes} {k : Env → Heap → Nat → Dfs → Option AMode → Bool} {K : Kont}
    (hc : CallS P call) (hok : OpOK P o (aev env) H nx r) (hdst : dstOK nt o.dst = true) (hnr : r ≠ .rcv) (ht : takeK call o.dst r env H nx dfs rc k K = true)
    {σ : Sg} {w : World} {a : Act} {next : Act → World → Prop} {Q : Exit → Act → World → Prop} (hr : Rel σ H nx w) (ha : ARel σ nt env dfs a)
    (hn : ∀ env1 H1 nx1 dfs1 σ1 w1 a1, k env1 H1 nx1 dfs1 rc = true → Rel σ1 H1 nx1 w1 → Ext σ σ1 H H1 nx nx1 w w1 → ARel σ1 nt env1 dfs1 a1 → next a1 w1)
    (hp : ∀ l H1 nx1 σ1 w1 c, K (.pan l) env H1 nx1 dfs rc = true → Rel σ1 H1 nx1 w1 → Ext σ σ1 H H1 nx nx1 w w1 → Chain σ1 l c → Q (.panic c) a w1) :
    NotRec P o a w ∧ o.wp P a w next Q := by
  cases r with
  | val v H' nx' =>
    obtain ⟨σ', w', v', R, E, D, hrun⟩ := hok σ w a.eval hr ha.env.aev
    rcases hrun with hrun | ⟨hrun, rfl⟩
    · exact ⟨(fun w2 e => by rw [hrun] at e; cases e), by unfold Oper.wp; rw [hrun]; exact hn _ _ _ _ σ' w' _ ht R E ((ha.mono E.sub).put hdst D)⟩
    · exact ⟨(fun w2 e => by rw [hrun] at e; cases e), by unfold Oper.wp; rw [hrun]; exact hn _ _ _ _ σ' w' _ ht R E ((ha.mono E.sub).put hdst D)⟩
  | call f args =>
    have tri := hc f args H nx _ ht
    obtain ⟨args', hl, hrun⟩ := hok σ w a.eval hr ha.env.aev
    refine ⟨(fun w2 e => by rw [hrun] at e; cases e), ?_⟩
    unfold Oper.wp
    rw [hrun]
    show Calls P f ⟨args'⟩ w _
    refine tri σ w args' _ hr hl fun e H' nx' σ' w' en hk R E he => ?_
    cases e with
    | ret v =>
      cases en with
      | returned v' => exact hn _ _ _ _ σ' w' _ hk R E ((ha.mono E.sub).put hdst he)
      | panicked c => exact he.elim
      | outgrown => exact he.elim
    | pan l =>
      cases en with
      | returned v' => exact he.elim
      | panicked c => exact hp l H' nx' σ' w' c hk R E he
      | outgrown => exact he.elim
  | dfr f args =>
    obtain ⟨d, hd, hrun⟩ := hok σ w a.eval hr ha.env.aev
    refine ⟨(fun w2 e => by rw [hrun] at e; cases e), ?_⟩
    unfold Oper.wp
    rw [hrun]
    refine hn _ _ _ _ σ w _ ht hr (Ext.refl _ _ _ _) ⟨?_, ?_⟩
    · have h1 : EnvRel σ nt (put o.dst (.tuple []) env) (a.put o.dst undef).tmps := ha.env.put hdst (.tuple .nil)
      have e : (({ a with defers := d :: a.defers } : Act).put o.dst undef).tmps = (a.put o.dst undef).tmps := by cases o.dst <;> rfl
      rw [e]; exact h1
    · have e : (({ a with defers := d :: a.defers } : Act).put o.dst undef).defers = d :: a.defers := by cases o.dst <;> rfl
      rw [e]; exact .cons hd ha.dfs
  | pan v =>
    obtain ⟨v', dv, hrun⟩ := hok σ w a.eval hr ha.env.aev
    refine ⟨(fun w2 e => by rw [hrun] at e; cases e), ?_⟩
    unfold Oper.wp
    rw [hrun]
    exact hp [(v, false)] H nx σ w [{ v := v', recovered := false }] ht hr (Ext.refl _ _ _ _) (.cons dv rfl rfl .nil)
  | rcv => exact (hnr rfl).elim

/-! ### What is owed behind code -/
def PostN (nt : Nat) (call : CallK) (K : FX) (σ : Sg) (H : Heap) (nx : Nat) (w : World) (Q : Exit → Act → World → Prop) : Prop :=
  ∀ ex env' st' σ' w' a' e, K ex env' st' = true → st'.call = call → st'.rc = none → Rel σ' st'.H st'.nx w' → Ext σ σ' H st'.H nx st'.nx w w' → ARel σ' nt env' st'.dfs a' → ExRel σ' ex e → Q e a' w'

def PostS (nt : Nat) (call : CallK) (K : FX) (σ : Sg) (H : Heap) (nx : Nat) (w : World) (c₀ : Frame) (cs : List Frame) (Q : Exit → Act → List Frame → World → Prop) : Prop :=
  ∀ ex env' st' m' σ' w' a' e u', K ex env' st' = true → st'.call = call → st'.rc = some m' → Rel σ' st'.H st'.nx w' → Ext σ σ' H st'.H nx st'.nx w w' → ARel σ' nt env' st'.dfs a' → ExRel σ' ex e → MRel σ' m' u' →
    Q e a' ({ c₀ with mode := u' } :: cs) w'

theorem PostN.from {nt : Nat} {call : CallK} {K : FX} {σ σ1 : Sg} {H H1 : Heap} {nx nx1 : Nat} {w w1 : World} {Q : Exit → Act → World → Prop} (h : PostN nt call K σ H nx w Q) (E : Ext σ σ1 H H1 nx nx1 w w1) :
    PostN nt call K σ1 H1 nx1 w1 Q := fun ex env' st' σ' w' a' e hk hc hr R E2 A X => h ex env' st' σ' w' a' e hk hc hr R (E.trans E2) A X

theorem PostS.from {nt : Nat} {call : CallK} {K : FX} {σ σ1 : Sg} {H H1 : Heap} {nx nx1 : Nat} {w w1 : World} {c₀ : Frame} {cs : List Frame} {Q : Exit → Act → List Frame → World → Prop} (h : PostS nt call K σ H nx w c₀ cs Q) (E : Ext σ σ1 H H1 nx nx1 w w1) :
    PostS nt call K σ1 H1 nx1 w1 c₀ cs Q := fun ex env' st' m' σ' w' a' e u' hk hc hr R E2 A X M => h ex env' st' m' σ' w' a' e u' hk hc hr R (E.trans E2) A X M

def CodeN (P : Program) (nt : Nat) (c : Code) (f : Env → St → FX → Bool) : Prop :=
  ∀ env st K, CallS P st.call → st.rc = none → f env st K = true → ∀ σ w a Q, Rel σ st.H st.nx w → ARel σ nt env st.dfs a → PostN nt st.call K σ st.H st.nx w Q → c.wp P Q a w

def CodeS (P : Program) (nt : Nat) (c : Code) (f : Env → St → FX → Bool) : Prop :=
  ∀ env st K m, CallS P st.call → st.rc = some m → f env st K = true → ∀ σ w a u (c₀ : Frame) cs Q, Rel σ st.H st.nx w → ARel σ nt env st.dfs a → MRel σ m u →
    PostS nt st.call K σ st.H st.nx w c₀ cs Q → c.wpS P Q a ({ c₀ with mode := u } :: cs) w

/-! ### Regions in the order of the text -/
theorem cOps_none {P : Program} {nt : Nat} {ops : Array Oper} : ∀ (l : List Oper) (env : Env) (st : St) (K : FX), CallS P st.call → st.rc = none → (cOps P nt ops l).fn env st K = true →
    ∀ σ w a Q, Rel σ st.H st.nx w → ARel σ nt env st.dfs a → PostN nt st.call K σ st.H st.nx w Q → wpList P ops Q l a w
  | [], env, st, K, _, hrc, h, σ, w, a, Q, hr, ha, hQ => hQ .normal env st σ w a .normal h rfl hrc hr (Ext.refl _ _ _ _) ha trivial
  | o :: l, env, st, K, hc, hrc, h, σ, w, a, Q, hr, ha, hQ => by
    unfold cOps at h
    cases e1 : cOp P nt ops o with | mk f => cases e2 : cOps P nt ops l with | mk g =>
      rw [e1, e2] at h
      have h1 : (cOp P nt ops o).fn env st (fun env st => g env st K) K = true := by rw [e1]; exact h
      have h' := cOp_ok h1
      have next : ∀ env1 H1 nx1 dfs1 σ1 w1 a1, unc st.call (fun env st => g env st K) env1 H1 nx1 dfs1 st.rc = true → Rel σ1 H1 nx1 w1 → Ext σ σ1 st.H H1 st.nx nx1 w w1 → ARel σ1 nt env1 dfs1 a1 → wpList P ops Q l a1 w1 :=
        fun env1 H1 nx1 dfs1 σ1 w1 a1 hk R1 E1 A1 =>
          cOps_none l env1 ⟨st.call, H1, nx1, dfs1, st.rc⟩ K hc hrc (by rw [e2]; exact hk) σ1 w1 a1 Q R1 A1 (hQ.from E1)
      unfold opK at h'
      split at h' <;> first | (exact Bool.noConfusion h') | skip
      · rename_i hdst hw
        split at h' <;> first | (exact Bool.noConfusion h') | skip
        rename_i r hop
        have hnr : r ≠ .rcv := by
          rintro rfl
          rw [hrc] at h'
          exact Bool.noConfusion h'
        unfold wpList
        rw [if_pos (wanted_ok hw ha.env)]
        refine .inl (upon_stepK hc (aop_ok hop) hdst hnr h' hr ha next fun lp H1 nx1 σ1 w1 c hk R1 E1 C1 => ?_).2
        exact hQ (.pan lp) env ⟨st.call, H1, nx1, st.dfs, st.rc⟩ σ1 w1 a (.panic c) hk rfl hrc R1 E1 (ha.mono E1.sub) C1
      · rename_i hdst hw
        exact opK_skip (wanted_ok hw ha.env) (next _ _ _ _ σ w _ h' hr (Ext.refl _ _ _ _) (ha.put hdst (.tuple .nil)))

theorem cOps_some {P : Program} {nt : Nat} {ops : Array Oper} : ∀ (l : List Oper) (n : Nat) (env : Env) (st : St) (K : FX) (m : AMode), (∀ j, l[j]? = ops[n + j]?) → CallS P st.call → st.rc = some m → (cOps P nt ops l).fn env st K = true →
    ∀ σ w a u (c₀ : Frame) cs Q, Rel σ st.H st.nx w → ARel σ nt env st.dfs a → MRel σ m u → PostS nt st.call K σ st.H st.nx w c₀ cs Q → wpOpsS P ops Q (List.range' n l.length) a ({ c₀ with mode := u } :: cs) w
  | [], n, env, st, K, m, _, _, hrc, h, σ, w, a, u, c₀, cs, Q, hr, ha, hm, hQ => hQ .normal env st m σ w a .normal u h rfl hrc hr (Ext.refl _ _ _ _) ha trivial hm
  | o :: l, n, env, st, K, m, hl, hc, hrc, h, σ, w, a, u, c₀, cs, Q, hr, ha, hm, hQ => by
    have ho : ops[n]? = some o := by simpa using (hl 0).symm
    have hl' : ∀ j, l[j]? = ops[n + 1 + j]? := fun j => by have := hl (j + 1); simpa [Nat.add_assoc, Nat.add_comm 1 j] using this
    unfold cOps at h
    cases e1 : cOp P nt ops o with | mk f => cases e2 : cOps P nt ops l with | mk g =>
      rw [e1, e2] at h
      have h1 : (cOp P nt ops o).fn env st (fun env st => g env st K) K = true := by rw [e1]; exact h
      have h' := cOp_ok h1
      have next : ∀ env1 H1 nx1 dfs1 rc1 m1 σ1 w1 a1 u1, rc1 = some m1 → unc st.call (fun env st => g env st K) env1 H1 nx1 dfs1 rc1 = true → Rel σ1 H1 nx1 w1 → Ext σ σ1 st.H H1 st.nx nx1 w w1 → ARel σ1 nt env1 dfs1 a1 → MRel σ1 m1 u1 →
          wpOpsS P ops Q (List.range' (n + 1) l.length) a1 ({ c₀ with mode := u1 } :: cs) w1 :=
        fun env1 H1 nx1 dfs1 rc1 m1 σ1 w1 a1 u1 hrc1 hk R1 E1 A1 M1 =>
          cOps_some l (n + 1) env1 ⟨st.call, H1, nx1, dfs1, rc1⟩ K m1 hl' hc hrc1 (by rw [e2]; exact hk) σ1 w1 a1 u1 c₀ cs Q R1 A1 M1 (hQ.from E1)
      rw [List.length_cons, List.range'_succ]
      simp only [wpOpsS, ho]
      unfold opK at h'
      split at h' <;> first | (exact Bool.noConfusion h') | skip
      · rename_i hdst hw
        split at h' <;> first | (exact Bool.noConfusion h') | skip
        rename_i r hop
        rw [if_pos (wanted_ok hw ha.env)]
        by_cases hrcv : r = .rcv
        · subst hrcv
          have hok := aop_ok hop
          have hrun := hok σ w a.eval hr ha.env.aev
          simp only [hrun]
          unfold takeK at h'
          split at h' <;> first | (rename_i q; cases q; done) | skip
          rw [hrc] at h'
          split at h' <;> first | (exact Bool.noConfusion h') | skip
          · rename_i v older hm0
            cases hm0
            cases u with
            | run => exact hm.elim
            | returning => exact hm.elim
            | panicking ch =>
              cases hm with
              | @cons _ _ p _ l' hv hrr hg t =>
                obtain ⟨pv, pr, pg⟩ := p
                simp only at hv hrr hg
                subst hrr
                subst hg
                simp only [recoverD]
                exact next _ _ _ _ _ _ σ w _ (.panicking ({ v := pv, recovered := true } :: l')) rfl h' hr (Ext.refl _ _ _ _) (ha.put hdst hv) (.cons hv rfl rfl t)
          · rename_i hm0
            cases hm0
            cases u with
            | run => exact hm.elim
            | panicking ch => exact hm.elim
            | returning =>
              simp only [recoverD]
              exact next _ _ _ _ _ _ σ w _ .returning rfl h' hr (Ext.refl _ _ _ _) (ha.put hdst .nilIface) trivial
        · obtain ⟨hnr, hwp⟩ := upon_stepK (next := fun a' w' => wpOpsS P ops Q (List.range' (n + 1) l.length) a' ({ c₀ with mode := u } :: cs) w') (Q := fun e a' w' => Q e a' ({ c₀ with mode := u } :: cs) w')
            hc (aop_ok hop) hdst hrcv h' hr ha
            (fun env1 H1 nx1 dfs1 σ1 w1 a1 hk R1 E1 A1 => next env1 H1 nx1 dfs1 st.rc m σ1 w1 a1 u hrc hk R1 E1 A1 (hm.mono E1.sub))
            (fun lp H1 nx1 σ1 w1 c hk R1 E1 C1 => hQ (.pan lp) env ⟨st.call, H1, nx1, st.dfs, st.rc⟩ m σ1 w1 a (.panic c) u hk rfl hrc R1 E1 (ha.mono E1.sub) C1 (hm.mono E1.sub))
          unfold Oper.wp at hwp
          split
          · rename_i w2 e2; exact (hnr w2 e2).elim
          · exact hwp
      · rename_i hdst hw
        rw [if_neg (by rw [wanted_ok hw ha.env]; simp)]
        exact next _ _ _ _ st.rc m σ w _ u hrc h' hr (Ext.refl _ _ _ _) (ha.put hdst (.tuple .nil)) hm

end Go.Ev

namespace Go.Ev
variable [GTab]
set_option linter.unusedSectionVars false

theorem actK_okK {P : Program} {call : CallK} {nt : Nat} {ops : Array Oper} {o : Oper} {env : Env} {H : Heap} {nx : Nat} {dfs : Dfs} {rc : Option AMode} {k : Env → Heap → Nat → Bool} {K : Kont} {env0 : Env}
    (hc : CallS P call) (h : actK P call ops o env H nx dfs rc k K env0 = true) {envm : Env} {σ : Sg} {w : World} {a : Act} {next : Act → World → Prop} {Q : Exit → Act → World → Prop}
    (hr : Rel σ H nx w) (M : EnvRel σ nt envm a.tmps) (e1 : wantedA ops o.guard envm = wantedA ops o.guard env) (e2 : ∀ x ∈ o.op.operands, aev envm x = aev env x)
    (hn : ∀ v H1 nx1 σ1 w1 v', k (put o.dst v env) H1 nx1 = true → Rel σ1 H1 nx1 w1 → Ext σ σ1 H H1 nx nx1 w w1 → Den σ1 v v' → next (a.put o.dst v') w1)
    (hp : ∀ l H1 nx1 σ1 w1 c, K (.pan l) env0 H1 nx1 dfs rc = true → Rel σ1 H1 nx1 w1 → Ext σ σ1 H H1 nx nx1 w w1 → Chain σ1 l c → Q (.panic c) a w1) : Took P ops o a w next Q := by
  unfold actK at h
  split at h <;> first | (cases h; done) | skip
  · rename_i hw
    unfold Took
    rw [if_pos (wanted_ok (e1.trans hw) M)]
    split at h <;> first | (cases h; done) | skip
    · rename_i v H1 nx1 hop
      obtain ⟨σ', w', v', R, E, D, hrun⟩ := aop_ok ((aop_congr e2).trans hop) σ w a.eval hr M.aev
      refine .inl ?_
      unfold Oper.wp
      rcases hrun with hrun | ⟨hrun, rfl⟩
      · rw [hrun]; exact hn v H1 nx1 σ' w' _ h R E D
      · rw [hrun]; exact hn v H1 nx1 σ' w' _ h R E D
    · rename_i f args hop
      have tri := hc f args H nx _ h
      obtain ⟨args', hl, hrun⟩ := aop_ok ((aop_congr e2).trans hop) σ w a.eval hr M.aev
      refine .inl ?_
      unfold Oper.wp
      rw [hrun]
      show Calls P f ⟨args'⟩ w _
      refine tri σ w args' _ hr hl fun e H' nx' σ' w' en hk R E he => ?_
      cases e with
      | ret v =>
        cases en with
        | returned v' => exact hn v H' nx' σ' w' _ hk R E he
        | panicked c => exact he.elim
        | outgrown => exact he.elim
      | pan l =>
        cases en with
        | returned v' => exact he.elim
        | panicked c => exact hp l H' nx' σ' w' c hk R E he
        | outgrown => exact he.elim
    · rename_i v hop
      obtain ⟨v', dv, hrun⟩ := aop_ok ((aop_congr e2).trans hop) σ w a.eval hr M.aev
      refine .inl ?_
      unfold Oper.wp
      rw [hrun]
      exact hp [(v, false)] H nx σ w [{ v := v', recovered := false }] h hr (Ext.refl _ _ _ _) (.cons dv rfl rfl .nil)
  · rename_i hw
    unfold Took
    rw [if_neg (by rw [wanted_ok (e1.trans hw) M]; simp)]
    exact hn (.tuple []) H nx σ w undef h hr (Ext.refl _ _ _ _) (.tuple .nil)

theorem named_append : ∀ (a b : List Stage), named (a ++ b) = named a ++ named b
  | [], b => rfl
  | (e, L, A) :: a, b => by
    rw [List.cons_append]
    simp only [named, List.cons_append, List.append_assoc, named_append a b]

/-- An acting operation is taken. -/
theorem Inv.act {P : Program} {call : CallK} {nt : Nat} {ops : Array Oper} {as : List Nat} {res : Nat} {σ0 : Sg} {H0 : Heap} {w0 : World} {dfs : Dfs} {rc : Option AMode} {past past' : List Nat} {e : Nat} {L A : List Nat} {R : List Stage} {oe : Oper} {env : Env} {H : Heap} {nx : Nat} {listed : Array Bool} {σ : Sg} {w : World} {a : Act} {k : Env → Heap → Nat → Bool} {K : Kont}
    (hc : CallS P call) (F : OpsFact nt ops as) (hn : nt ≤ 256) (hlim : res + ops.size ≤ 1048576) (I : Inv P nt ops as res σ0 H0 w0 dfs past ((e, L, A) :: R) env H nx listed σ w a) (hoe : ops[e]? = some oe) (he : e ∉ named R) (hr : ∀ j, bit (as.getD e 0) j = true → isL listed j)
    (hfresh : freshOf ops past e oe = true) (hL : allL (fun i => bit (as.getD i 0) e) L = true) (hF : chkF ops L past = some past') (hA : chkA ops (as.getD e 0) A past' = true) (h' : actK P call ops oe env H nx dfs rc k K env = true) {RN : Env → Heap → Nat → Prop}
    (hnext : ∀ env1 H1 nx1, k env1 H1 nx1 = true → ∃ kf : Env → Heap → Bool, floatsK P ops res nx1 kf L env1 H1 = true ∧ ∀ env2 H2, kf env2 H2 = true → againK P ops env2 H2 nx1 A = true ∧ RN env2 H2 nx1)
    {Q : Exit → Act → World → Prop} {next : Act → World → Prop}
    (hK : ∀ env2 H2 nx2 σ1 w1 a1, RN env2 H2 nx2 → Inv P nt ops as res σ0 H0 w0 dfs past' R env2 H2 nx2 (listed.setIfInBounds e true) σ1 w1 a1 → (∀ t, t < 256 → (∀ (j : Nat) (q : Oper), ops[j]? = some q → q.dst ≠ some t) → get2 t env2 = get2 t env) → next a1 w1)
    (hP : ∀ l H1 nx1 σ1 w1 c, K (.pan l) env H1 nx1 dfs rc = true → Rel σ1 H1 nx1 w1 → Ext σ0 σ1 H0 H1 res nx1 w0 w1 → (∀ t, t < 256 → (∀ (j : Nat) (q : Oper), ops[j]? = some q → q.dst ≠ some t) → Den σ1 (get2 t env) (a.tmps.getD t undef)) → DfsRel σ1 dfs a.defers → a.tmps.size = nt → Chain σ1 l c → Q (.panic c) a w1) :
    wpOp P ops Q e next a w := by
  have hde := F.dst e oe hoe
  have helt : e < ops.size := (Array.getElem?_eq_some_iff.1 hoe).1
  have pastiff := chkF_past hF
  have eun : ¬ isL listed e := I.todo e (by unfold named; exact List.mem_cons_self ..)
  have Lun : ∀ j, j ∈ L → ¬ isL listed j := fun j hj => I.todo j (by unfold named; exact List.mem_cons_of_mem _ (List.mem_append_left _ hj))
  have Lne : ∀ j, j ∈ L → j ≠ e := fun j hj q => by
    subst q
    have := F.lt j oe hoe j (allL_ok hL j hj)
    omega
  have Llt : ∀ j, j ∈ L → j < ops.size := fun j hj => by
    obtain ⟨o, ho, _⟩ := chkF_cls hF j hj
    exact (Array.getElem?_eq_some_iff.1 ho).1
  have S : ∀ j, isL (listed.setIfInBounds e true) j ↔ (j = e ∨ isL listed j) := fun j => isL_set (by rw [I.size]; exact helt)
  obtain ⟨envm, M, hw, hx⟩ := I.view F hn hoe hr
  unfold wpOp
  rw [hoe]
  refine actK_okK hc h' I.rel M hw hx (fun v H1 nx1 σ1 w1 v' hk R' E D => ?_) (fun l H1 nx1 σ1 w1 c hk R' E C => ?_)
  · obtain ⟨kf, hk1, hk4⟩ := hnext _ H1 nx1 hk
    obtain ⟨env2, H2, hk2, b1, b2, b3, b4, b5⟩ := floatsK_ok F hn hlim L past past' _ H1 hF hk1
    obtain ⟨hag, hk3⟩ := hk4 env2 H2 hk2
    have hnx := E.le
    have hpl := I.lim
    have pend1 : ∀ j, j < ops.size → ¬ isL listed j → σ1 (res + j) = none ∧ get5 (res + j) H1 = get5 (res + j) H := fun j hj hnl => E.pend (res + j) (by omega) (I.pend j hj hnl)
    refine hK env2 H2 nx1 σ1 w1 _ hk3 ⟨?_, ?_, ?_, ?_, ?_, ?_, ?_, ?_, ?_, ?_, ?_, ?_, ?_⟩ fun t ht hno => by rw [b1 t ht fun j q _ hq => hno j q hq, get2_put' hde hn ht (hno e oe hoe)]
    · rw [Array.size_setIfInBounds]; exact I.size
    · cases hdst : oe.dst with
      | none => exact I.tsize
      | some d => show (a.tmps.setIfInBounds d v').size = nt; rw [Array.size_setIfInBounds]; exact I.tsize
    · intro j k hj hb
      rw [S] at hj ⊢
      rcases hj with rfl | hj
      · exact .inr (hr k hb)
      · exact .inr (I.closed j k hj hb)
    · intro j hj hlj
      rw [S] at hlj
      have hj' : j ∈ named ((e, L, A) :: R) := by unfold named; exact List.mem_cons_of_mem _ (List.mem_append_right _ hj)
      rcases hlj with rfl | hlj
      · exact he hj
      · exact I.todo j hj' hlj
    · intro j hj
      rw [S]
      rcases I.all j hj with h | h | h
      · exact .inl ((pastiff j).2 (.inl h))
      · unfold named at h
        rcases List.mem_cons.1 h with rfl | h
        · exact .inr (.inr (.inl rfl))
        · rcases List.mem_append.1 h with h | h
          · exact .inl ((pastiff j).2 (.inr h))
          · exact .inr (.inl h)
      · exact .inr (.inr (.inr h))
    · intro t ht hown
      have hnotL : ∀ (j : Nat) (q : Oper), j ∈ L → ops[j]? = some q → q.dst ≠ some t := by
        intro j q hj hq hd
        have := hown j q hq hd
        rw [S] at this
        rcases this with h | h
        · exact Lne j hj h
        · exact Lun j hj h
      rw [b1 t ht hnotL]
      by_cases ed : oe.dst = some t
      · rw [ed]
        show Den σ1 (get2 t (put (some t) v env)) ((a.tmps.setIfInBounds t v').getD t undef)
        have : t < a.tmps.size := by rw [I.tsize]; rw [ed] at hde; exact Nat.le_of_ble_eq_true hde
        rw [getD_put _ _ _ _ this, if_pos rfl, get2_put_same]
        exact D
      · rw [get2_put' hde hn ht ed]
        have h1 : (a.put oe.dst v').tmps.getD t undef = a.tmps.getD t undef := by
          cases hdst : oe.dst with
          | none => rfl
          | some d =>
            show (a.tmps.setIfInBounds d v').getD t undef = _
            have : d < a.tmps.size := by rw [I.tsize]; rw [hdst] at hde; exact Nat.le_of_ble_eq_true hde
            rw [getD_put _ _ _ _ this, if_neg (fun q => ed (by rw [hdst, q]))]
        rw [h1]
        refine (I.den t ht fun j q hj hq => ?_).mono E.sub
        have := hown j q hj hq
        rw [S] at this
        rcases this with rfl | h
        · rw [hoe] at hj; cases hj; exact (ed hq).elim
        · exact h
    · intro j q hj hq hlj hcl
      have hnl : ¬ isL listed j := fun h => hlj ((S j).2 (.inr h))
      have hjne : j ≠ e := fun h => hlj ((S j).2 (.inl h))
      cases hip : impure q.op with
      | true =>
        have h1 := allL_ok hA j hj
        rw [hq] at h1
        simp only [hip] at h1
        have hmem : j ∈ A := by
          split at h1
          · exact memN_ok ‹_›
          · exact (hlj ((S j).2 (.inr (hr j h1)))).elim
        have h3 := allL_ok hag j hmem
        rw [hq] at h3
        exact again1_fl0 hcl h3
      | false =>
        rcases (pastiff j).1 hj with hj | hj
        · obtain ⟨_, q0, hq0, hfr⟩ := freshOf_ok hfresh j hj
          rw [hq] at hq0
          cases hq0
          refine (I.fl0 j q hj hq hnl hcl).keep hcl hip ?_ ?_
          · intro t ht hlt
            rw [b1 t hlt fun j' q' hj' hq' ed => ?_]
            · exact get2_put' hde hn hlt fun ed => hfr t ed ht
            · obtain ⟨_, q1, o1, e1, e2, e3⟩ := chkF_fresh hF j hj j' hj'
              rw [hq] at e1; cases e1
              rw [hq'] at e2; cases e2
              exact e3 t ed ht
          · intro d hd
            have hdl : d < 256 := Nat.lt_of_lt_of_le (by have := F.dst j q hq; rw [hd] at this; exact Nat.le_of_ble_eq_true this) hn
            rw [b1 d hdl fun j' q' hj' hq' ed => (chkF_fresh hF j hj j' hj').1 (F.uniq j j' q q' d hq hq' hd ed)]
            exact get2_put' hde hn hdl fun ed => hjne (F.uniq j e q oe d hq hoe hd ed)
        · exact b5 j q hj hq hcl hip
    · intro j q hj hq hlj hcl
      have hnl : ¬ isL listed j := fun h => hlj ((S j).2 (.inr h))
      have hjne : j ≠ e := fun h => hlj ((S j).2 (.inl h))
      have hjlt : j < ops.size := (Array.getElem?_eq_some_iff.1 hq).1
      rcases (pastiff j).1 hj with hj | hj
      · obtain ⟨_, q0, hq0, hfr⟩ := freshOf_ok hfresh j hj
        rw [hq] at hq0
        cases hq0
        refine (I.fl1 j q hj hq hnl hcl).keep ?_ ?_ ?_
        · intro t ht hlt
          rw [b1 t hlt fun j' q' hj' hq' ed => ?_]
          · exact get2_put' hde hn hlt fun ed => hfr t ed ht
          · obtain ⟨_, q1, o1, e1, e2, e3⟩ := chkF_fresh hF j hj j' hj'
            rw [hq] at e1; cases e1
            rw [hq'] at e2; cases e2
            exact e3 t ed ht
        · intro d hd
          have hdl : d < 256 := Nat.lt_of_lt_of_le (by have := F.dst j q hq; rw [hd] at this; exact Nat.le_of_ble_eq_true this) hn
          rw [b1 d hdl fun j' q' hj' hq' ed => (chkF_fresh hF j hj j' hj').1 (F.uniq j j' q q' d hq hq' hd ed)]
          exact get2_put' hde hn hdl fun ed => hjne (F.uniq j e q oe d hq hoe hd ed)
        · rw [b2 _ (by omega) fun j' hj' ed => (chkF_fresh hF j hj j' hj').1 (by omega)]
          exact (pend1 j hjlt hnl).2
      · exact b4 j q hj hq hcl
    · intro j hj hlj
      exact (pend1 j hj fun h => hlj ((S j).2 (.inr h))).1
    · omega
    · exact b3 σ1 w1 R' fun j hj => (pend1 j (Llt j hj) (Lun j hj)).1
    · have E2 := I.ext.trans E
      refine ⟨E2.sub, E2.rng, ?_, E2.le, E2.os, E2.tape, E2.output, E2.size, E2.frame⟩
      intro b hb h0
      obtain ⟨p1, p2⟩ := E2.pend b hb h0
      exact ⟨p1, (b2 b (by omega) fun j _ => by omega).trans p2⟩
    · have : (a.put oe.dst v').defers = a.defers := by cases oe.dst <;> rfl
      rw [this]; exact I.dfs.mono E.sub
  · exact hP l H1 nx1 σ1 w1 c hk R' (I.ext.trans E) (fun t ht hno => (I.den t ht fun j q hj hq => (hno j q hj hq).elim).mono E.sub) (I.dfs.mono E.sub) I.tsize C

/-- A run of the stages: what it comes to is asked of the end. -/
def RunP (P : Program) (call : CallK) (ops : Array Oper) (res : Nat) (dfs : Dfs) (rc : Option AMode) (Kp : List (AVal × Bool) → Heap → Nat → Prop) (Kn : Env → Heap → Nat → Prop) : List Stage → Env → Heap → Nat → Prop
  | [], env, H, nx => Kn env H nx
  | (e, L, A) :: rest, env, H, nx => ∀ oe, ops[e]? = some oe → ∃ (k : Env → Heap → Nat → Bool) (K : Kont), actK P call ops oe env H nx dfs rc k K env = true ∧
      (∀ l H1 nx1, K (.pan l) env H1 nx1 dfs rc = true → Kp l H1 nx1) ∧
      ∀ env1 H1 nx1, k env1 H1 nx1 = true → ∃ kf : Env → Heap → Bool, floatsK P ops res nx1 kf L env1 H1 = true ∧
        ∀ env2 H2, kf env2 H2 = true → againK P ops env2 H2 nx1 A = true ∧ RunP P call ops res dfs rc Kp Kn rest env2 H2 nx1

/-- What stands behind the stages. -/
noncomputable def endPast (ops : Array Oper) : List Stage → List Nat → List Nat
  | [], past => past
  | (_, L, _) :: rest, past => endPast ops rest (match chkF ops L past with | some p => p | none => past)

theorem stages_sem {P : Program} {call : CallK} {nt : Nat} {ops : Array Oper} {as : List Nat} {res : Nat} {dfs : Dfs} {rc : Option AMode} {env0 : Env} {Kp : List (AVal × Bool) → Heap → Nat → Prop} {Kn : Env → Heap → Nat → Prop} (tail : List Stage)
    (hc : CallS P call) (F : OpsFact nt ops as) (hn : nt ≤ 256) (hlim : res + ops.size ≤ 1048576) :
    ∀ (rest : List Stage) (prev : Option Nat) (past : List Nat) (env : Env) (H : Heap) (nx : Nat), chkS ops as rest prev past = true → (∀ s, s ∈ rest → ∀ i, i ∈ named tail → bit (as.getD i 0) s.1 = true) →
      (∀ i, i ∈ past → ∃ o, ops[i]? = some o ∧ (cls o.op = 0 ∨ cls o.op = 1)) →
      (∀ t, t < 256 → get2 t env0 = .und ∨ ((∀ (j : Nat) (q : Oper), ops[j]? = some q → q.dst ≠ some t) ∧ get2 t env0 = get2 t env)) → RunP P call ops res dfs rc Kp Kn rest env H nx →
      ∀ σ0 H0 w0 Q, (∀ l H' nx' σ' w' a' c, Kp l H' nx' → Rel σ' H' nx' w' → Ext σ0 σ' H0 H' res nx' w0 w' → ARel σ' nt env0 dfs a' → Chain σ' l c → Q (.panic c) a' w') →
        (∀ env' H' nx', Kn env' H' nx' → (∀ i, i ∈ endPast ops rest past → ∃ o, ops[i]? = some o ∧ (cls o.op = 0 ∨ cls o.op = 1)) →
          ∀ fuel listed σ w a, Inv P nt ops as res σ0 H0 w0 dfs (endPast ops rest past) tail env' H' nx' listed σ w a → left ops listed ≤ fuel → wpAny P .any ops Q fuel listed a w) →
        ∀ fuel listed σ w a, Inv P nt ops as res σ0 H0 w0 dfs past (rest ++ tail) env H nx listed σ w a → left ops listed ≤ fuel → wpAny P .any ops Q fuel listed a w
  | [], prev, past, env, H, nx, _, _, hpast, _, h => fun σ0 H0 w0 Q hQ hT => hT env H nx h hpast
  | (e, L, A) :: rest, prev, past, env, H, nx, hchk, htl, hpast, hblank, h => by
    intro σ0 H0 w0 Q hQ hT
    unfold chkS at hchk
    split at hchk <;> first | (cases hchk; done) | skip
    rename_i oe hoe hprev
    split at hchk <;> first | (cases hchk; done) | skip
    rename_i hfresh hL
    split at hchk <;> first | (cases hchk; done) | skip
    rename_i past' hF
    split at hchk <;> first | (cases hchk; done) | skip
    rename_i hA
    obtain ⟨k, K, h', hpan, hnext⟩ := h oe hoe
    have hT : ∀ env' H' nx', Kn env' H' nx' → (∀ i, i ∈ endPast ops rest past' → ∃ o, ops[i]? = some o ∧ (cls o.op = 0 ∨ cls o.op = 1)) →
          ∀ fuel listed σ w a, Inv P nt ops as res σ0 H0 w0 dfs (endPast ops rest past') tail env' H' nx' listed σ w a → left ops listed ≤ fuel → wpAny P .any ops Q fuel listed a w := by
      have e0 : endPast ops ((e, L, A) :: rest) past = endPast ops rest past' := by
        show endPast ops rest (match chkF ops L past with | some p => p | none => past) = _
        rw [hF]
      rw [e0] at hT
      exact hT
    have hde := F.dst e oe hoe
    have helt : e < ops.size := (Array.getElem?_eq_some_iff.1 hoe).1
    have pastiff := chkF_past hF
    -- who may come up
    have who : ∀ {σ0 H0 w0 listed σ w a}, Inv P nt ops as res σ0 H0 w0 dfs past ((e, L, A) :: rest ++ tail) env H nx listed σ w a → ∀ i o, ops[i]? = some o → (∀ j, bit (as.getD i 0) j = true → isL listed j) → i ∈ named ((e, L, A) :: rest ++ tail) → i = e := by
      intro σ0 H0 w0 listed σ w a I i o ho hr hi
      have ebad : ¬ isL listed e := I.todo e (by rw [List.cons_append]; unfold named; exact List.mem_cons_self ..)
      rw [List.cons_append] at hi
      unfold named at hi
      rcases List.mem_cons.1 hi with rfl | hi
      · rfl
      · rcases List.mem_append.1 hi with hi | hi
        · exact (ebad (hr e (allL_ok hL i hi))).elim
        · rw [named_append] at hi
          rcases List.mem_append.1 hi with hi | hi
          · obtain ⟨j, hj, hb⟩ := chkS_pred hchk i hi
            rcases hj with rfl | hj
            · exact (ebad (hr j hb)).elim
            · exact (I.todo j (by rw [List.cons_append]; unfold named; rw [named_append]; exact List.mem_cons_of_mem _ (List.mem_append_right _ (List.mem_append_left _ hj))) (hr j hb)).elim
          · exact (ebad (hr e (htl (e, L, A) (List.mem_cons_self ..) i hi))).elim
    -- the loop over those that do not act, and the acting one
    have loop : ∀ {Q : Exit → Act → World → Prop}, (∀ fuel listed σ w a, Inv P nt ops as res σ0 H0 w0 dfs past ((e, L, A) :: rest ++ tail) env H nx listed σ w a → left ops listed ≤ fuel + 1 → (∀ j, bit (as.getD e 0) j = true → isL listed j) →
        wpOp P ops Q e (wpAny P .any ops Q fuel (listed.setIfInBounds e true)) a w) →
        ∀ fuel listed σ w a, Inv P nt ops as res σ0 H0 w0 dfs past ((e, L, A) :: rest ++ tail) env H nx listed σ w a → left ops listed ≤ fuel → wpAny P .any ops Q fuel listed a w := by
      intro Q hact fuel
      have eun : ∀ {listed σ w a}, Inv P nt ops as res σ0 H0 w0 dfs past ((e, L, A) :: rest ++ tail) env H nx listed σ w a → ¬ isL listed e := fun I => I.todo e (by rw [List.cons_append]; unfold named; exact List.mem_cons_self ..)
      induction fuel with
      | zero =>
        intro listed σ w a I hl
        exact (eun I (left_zero (by omega : left ops listed = 0) e helt)).elim
      | succ fuel ih =>
        intro listed σ w a I hl
        refine ⟨fun hnil => (eun I (ready_nil F I.size hnil e helt)).elim, fun i hi => ?_⟩
        obtain ⟨o, ho, hnl, hed⟩ := (mem_ready I.size).1 hi
        have hlt : i < ops.size := (Array.getElem?_eq_some_iff.1 ho).1
        have hr : ∀ j, bit (as.getD i 0) j = true → isL listed j := fun j hj => by
          obtain ⟨g, hg, hb, hc'⟩ := F.ahead i o ho j hj
          rcases hc' with rfl | hc'
          · exact hed g hg hb
          · exact I.closed _ j (hed g hg hb) hc'
        by_cases hin : i ∈ named ((e, L, A) :: rest ++ tail)
        · have := who I i o ho hr hin
          subst this
          exact hact fuel listed σ w a I hl hr
        · have hp : i ∈ past := by
            rcases I.all i hlt with h | h | h
            · exact h
            · exact (hin h).elim
            · exact (hnl h).elim
          obtain ⟨o', ho', hcl⟩ := hpast i hp
          rw [ho] at ho'
          cases ho'
          refine I.float F hn ho hp hnl hcl hr hin fun σ1 w1 a1 I1 => ih _ σ1 w1 a1 I1 ?_
          have := left_set I.size hlt hnl
          omega
    refine loop fun fuel listed σ w a I hl hr => ?_
    have eun : ¬ isL listed e := I.todo e (by rw [List.cons_append]; unfold named; exact List.mem_cons_self ..)
    have he : e ∉ named (rest ++ tail) := by
      intro hj
      rw [named_append] at hj
      rcases List.mem_append.1 hj with hj | hj
      · obtain ⟨g, hg, hb⟩ := chkS_pred hchk e hj
        rcases hg with rfl | hg
        · exact eun (hr g hb)
        · exact I.todo g (by rw [List.cons_append]; unfold named; rw [named_append]; exact List.mem_cons_of_mem _ (List.mem_append_right _ (List.mem_append_left _ hg))) (hr g hb)
      · have := F.lt e oe hoe e (htl (e, L, A) (List.mem_cons_self ..) e hj)
        omega
    refine Inv.act hc F hn hlim I hoe he hr hfresh hL hF hA h' hnext (fun env2 H2 nx2 σ1 w1 a1 hk3 I1 hfix => ?_) (fun l H1 nx1 σ1 w1 c hk R E hden hdf hsz C => ?_)
    · have hnl := left_set I.size helt eun
      have hpast' : ∀ i, i ∈ past' → ∃ o, ops[i]? = some o ∧ (cls o.op = 0 ∨ cls o.op = 1) := by
        intro i hi
        rcases (pastiff i).1 hi with hi | hi
        · exact hpast i hi
        · obtain ⟨o, ho, hne⟩ := chkF_cls hF i hi
          refine ⟨o, ho, ?_⟩
          have : cls o.op = 0 ∨ cls o.op = 1 ∨ cls o.op = 2 := by
            unfold cls
            split <;> first | exact .inl rfl | exact .inr (.inl rfl) | exact .inr (.inr rfl) | skip
            split <;> first | exact .inl rfl | exact .inr (.inr rfl)
          rcases this with h | h | h
          · exact .inl h
          · exact .inr h
          · exact (hne h).elim
      have hblank' : ∀ t, t < 256 → get2 t env0 = .und ∨ ((∀ (j : Nat) (q : Oper), ops[j]? = some q → q.dst ≠ some t) ∧ get2 t env0 = get2 t env2) := by
        intro t ht
        rcases hblank t ht with h | ⟨h1, h2⟩
        · exact .inl h
        · exact .inr ⟨h1, by rw [hfix t ht h1, h2]⟩
      exact stages_sem tail hc F hn hlim rest (some e) past' env2 H2 nx2 hchk (fun s hs => htl s (List.mem_cons_of_mem _ hs)) hpast' hblank' hk3 σ0 H0 w0 Q hQ hT fuel _ σ1 w1 a1 I1 (by omega)
    · refine hQ l H1 nx1 σ1 w1 a c (hpan l H1 nx1 hk) R E ⟨⟨hsz, hn, fun t ht => ?_⟩, hdf⟩ C
      rcases hblank t ht with h | ⟨h1, h2⟩
      · rw [h]; exact .und _
      · rw [h2]; exact hden t ht h1

/-- All has come up. -/
theorem tail_nil {P : Program} {nt : Nat} {ops : Array Oper} {as : List Nat} {res : Nat} {σ0 : Sg} {H0 : Heap} {w0 : World} {dfs : Dfs} {past : List Nat} {env : Env} {H : Heap} {nx : Nat} (F : OpsFact nt ops as) (hn : nt ≤ 256) {Q : Exit → Act → World → Prop}
    (hpast : ∀ i, i ∈ past → ∃ o, ops[i]? = some o ∧ (cls o.op = 0 ∨ cls o.op = 1))
    (hQ : ∀ σ' w' a', Rel σ' H nx w' → Ext σ0 σ' H0 H res nx w0 w' → ARel σ' nt env dfs a' → Q .normal a' w') :
    ∀ fuel listed σ w a, Inv P nt ops as res σ0 H0 w0 dfs past [] env H nx listed σ w a → left ops listed ≤ fuel → wpAny P .any ops Q fuel listed a w := by
  have done : ∀ listed σ w a, Inv P nt ops as res σ0 H0 w0 dfs past [] env H nx listed σ w a → (∀ i, i < ops.size → isL listed i) → Q .normal a w := fun listed σ w a I hall =>
    hQ σ w a I.rel I.ext ⟨⟨I.tsize, hn, fun t ht => I.den t ht fun j q hj _ => hall j (Array.getElem?_eq_some_iff.1 hj).1⟩, I.dfs⟩
  intro fuel
  induction fuel with
  | zero =>
    intro listed σ w a I hl
    have hall := left_zero (by omega : left ops listed = 0)
    refine ⟨?_, done listed σ w a I hall⟩
    refine List.eq_nil_iff_forall_not_mem.2 fun i hi => ?_
    obtain ⟨o, ho, hnl, _⟩ := (mem_ready I.size).1 hi
    exact hnl (hall i (Array.getElem?_eq_some_iff.1 ho).1)
  | succ fuel ih =>
    intro listed σ w a I hl
    refine ⟨fun hnil => done listed σ w a I (ready_nil F I.size hnil), fun i hi => ?_⟩
    obtain ⟨o, ho, hnl, hed⟩ := (mem_ready I.size).1 hi
    have hlt : i < ops.size := (Array.getElem?_eq_some_iff.1 ho).1
    have hr : ∀ j, bit (as.getD i 0) j = true → isL listed j := fun j hj => by
      obtain ⟨e, he, hb, hc'⟩ := F.ahead i o ho j hj
      rcases hc' with rfl | hc'
      · exact hed e he hb
      · exact I.closed _ j (hed e he hb) hc'
    have hp : i ∈ past := by
      rcases I.all i hlt with h | h | h
      · exact h
      · cases h
      · exact (hnl h).elim
    obtain ⟨o', ho', hcl⟩ := hpast i hp
    rw [ho] at ho'
    cases ho'
    refine I.float F hn ho hp hnl hcl hr (by intro h; cases h) fun σ1 w1 a1 I1 => ih _ σ1 w1 a1 I1 ?_
    have := left_set I.size hlt hnl
    omega

/-- The stages, compiled. -/
theorem cStages_run {P : Program} {ops : Array Oper} {res : Nat} {env0 : Env} {K : FX} {call : CallK} {dfs : Dfs} {rc : Option AMode} : ∀ (rest : List Stage) (env : Env) (H : Heap) (nx : Nat), (cStages P ops rest).fn res env0 env ⟨call, H, nx, dfs, rc⟩ K = true →
    RunP P call ops res dfs rc (fun l H nx => K (.pan l) env0 ⟨call, H, nx, dfs, rc⟩ = true) (fun env H nx => K .normal env ⟨call, H, nx, dfs, rc⟩ = true) rest env H nx
  | [], env, H, nx, h => h
  | (e, L, A) :: rest, env, H, nx, h => by
    intro oe hoe
    unfold cStages at h
    simp only [hoe] at h
    cases ea : cAct P ops oe with | mk f => cases eg : cFloats P ops L with | mk g => cases eA : cAgains P ops A with | mk ag => cases er : cStages P ops rest with | mk r =>
    simp only [ea, eg, eA, er] at h
    refine ⟨_, _, cAct_ok (k := fun env st => g res env st fun env st => Bool.rec false (r res env0 env st K) (ag env st)) (K := fun e _ st => K e env0 st) (st := ⟨call, H, nx, dfs, rc⟩) (by rw [ea]; exact h), fun l H1 nx1 hk => hk, fun env1 H1 nx1 hk => ?_⟩
    refine ⟨_, cFloats_ok (l := L) (st := ⟨call, H1, nx1, dfs, rc⟩) (k := fun env st => Bool.rec false (r res env0 env st K) (ag env st)) (by rw [eg]; exact hk), fun env2 H2 hk2 => ?_⟩
    obtain ⟨hag0, hk3⟩ := brec_ok hk2
    exact ⟨cAgains_ok (st := St.with2 ⟨call, H1, nx1, dfs, rc⟩ H2 nx1) (by rw [eA]; exact hag0), cStages_run rest env2 H2 nx1 (by rw [er]; exact hk3)⟩

theorem cStages_sem {P : Program} {call : CallK} {nt : Nat} {ops : Array Oper} {as : List Nat} {res : Nat} {dfs : Dfs} {rc : Option AMode} {K : FX} {env0 : Env}
    (hc : CallS P call) (F : OpsFact nt ops as) (hn : nt ≤ 256) (hlim : res + ops.size ≤ 1048576)
    (rest : List Stage) (past : List Nat) (env : Env) (H : Heap) (nx : Nat) (hchk : chkS ops as rest none past = true) (hpast : ∀ i, i ∈ past → ∃ o, ops[i]? = some o ∧ (cls o.op = 0 ∨ cls o.op = 1))
    (hblank : ∀ t, t < 256 → get2 t env0 = .und ∨ ((∀ (j : Nat) (q : Oper), ops[j]? = some q → q.dst ≠ some t) ∧ get2 t env0 = get2 t env)) (h : (cStages P ops rest).fn res env0 env ⟨call, H, nx, dfs, rc⟩ K = true)
    (σ0 : Sg) (H0 : Heap) (w0 : World) (Q : Exit → Act → World → Prop)
    (hQ : ∀ ex env' st' σ' w' a' e, K ex env' st' = true → st'.call = call → st'.dfs = dfs → st'.rc = rc → Rel σ' st'.H st'.nx w' → Ext σ0 σ' H0 st'.H res st'.nx w0 w' → ARel σ' nt env' dfs a' → ExRel σ' ex e → Q e a' w') :
    ∀ fuel listed σ w a, Inv P nt ops as res σ0 H0 w0 dfs past rest env H nx listed σ w a → left ops listed ≤ fuel → wpAny P .any ops Q fuel listed a w := by
  have := stages_sem [] hc F hn hlim rest none past env H nx hchk (fun s _ i hi => by cases hi) hpast hblank (cStages_run rest env H nx h) σ0 H0 w0 Q
    (fun l H' nx' σ' w' a' c hk R E A C => hQ (.pan l) env0 ⟨call, H', nx', dfs, rc⟩ σ' w' a' (.panic c) hk rfl rfl rfl R E A C)
    (fun env' H' nx' hk hp => tail_nil F hn hp fun σ' w' a' R E A => hQ .normal env' ⟨call, H', nx', dfs, rc⟩ σ' w' a' .normal hk rfl rfl rfl R E A trivial)
  rwa [List.append_nil] at this

end Go.Ev
