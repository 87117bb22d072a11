/-
  Own work. That the second evaluator is right. Part 1: operations, regions in the order of the text.
-/
import Derived.Test.YtbnphbijdnhbkaaGreatDoorEvFast3
import Derived.Test.YtbnphbijdnhbkaaGreatDoorEvDrawn5
namespace Go.Ev
variable [GTab]
set_option linter.unusedSectionVars false

/-- A call comes to what the rest was asked of. -/
def TriC (P : Program) (f : FuncId) (args : List AVal) (H : Heap) (nx : Nat) (K : KEnd) : Prop :=
  ∀ (σ : Sg) (w : World) (args' : List Value) (R : Ending → World → Prop), Rel σ H nx w → DenL σ args args' →
    (∀ e H' nx' σ' w' en, K e H' nx' = true → Rel σ' H' nx' w' → Ext σ σ' H H' nx nx' w w' → EndRel σ' e en → R en w') → Calls P f ⟨args'⟩ w R

def CallS (P : Program) (call : CallK) : Prop := ∀ f args H nx K, call f args H nx K = true → TriC P f args H nx K

theorem upon_stepK {P : Program} {call : CallK} {nt : Nat} {o : Oper} {env : Env} {H : Heap} {nx : Nat} {dfs : Dfs} {rc : Option AMode} {r : ARes} {k : Env → Heap → Nat → Dfs → Option AMode → Bool} {K : Kont}
    (hc : CallS P call) (hok : OpOK P o (aev env) H nx r) (hdst : dstOK nt o.dst = true) (hnr : r ≠ .rcv) (ht : takeK call o.dst r env H nx dfs rc k K = true)
    {σ : Sg} {w : World} {a : Act} {next : Act → World → Prop} {Q : Exit → Act → World → Prop} (hr : Rel σ H nx w) (ha : ARel σ nt env dfs a)
    (hn : ∀ env1 H1 nx1 dfs1 σ1 w1 a1, k env1 H1 nx1 dfs1 rc = true → Rel σ1 H1 nx1 w1 → Ext σ σ1 H H1 nx nx1 w w1 → ARel σ1 nt env1 dfs1 a1 → next a1 w1)
    (hp : ∀ l H1 nx1 σ1 w1 c, K (.pan l) env H1 nx1 dfs rc = true → Rel σ1 H1 nx1 w1 → Ext σ σ1 H H1 nx nx1 w w1 → Chain σ1 l c → Q (.panic c) a w1) :
    NotRec P o a w ∧ o.wp P a w next Q := by
  cases r with
  | val v H' nx' =>
    obtain ⟨σ', w', v', R, E, D, hrun⟩ := hok σ w a.eval hr ha.env.aev
    rcases hrun with hrun | ⟨hrun, rfl⟩
    · exact ⟨(fun w2 e => by rw [hrun] at e; cases e), by unfold Oper.wp; rw [hrun]; exact hn _ _ _ _ σ' w' _ ht R E ((ha.mono E.sub).put hdst D)⟩
    · exact ⟨(fun w2 e => by rw [hrun] at e; cases e), by unfold Oper.wp; rw [hrun]; exact hn _ _ _ _ σ' w' _ ht R E ((ha.mono E.sub).put hdst D)⟩
  | call f args =>
    have tri := hc f args H nx _ ht
    obtain ⟨args', hl, hrun⟩ := hok σ w a.eval hr ha.env.aev
    refine ⟨(fun w2 e => by rw [hrun] at e; cases e), ?_⟩
    unfold Oper.wp
    rw [hrun]
    show Calls P f ⟨args'⟩ w _
    refine tri σ w args' _ hr hl fun e H' nx' σ' w' en hk R E he => ?_
    cases e with
    | ret v =>
      cases en with
      | returned v' => exact hn _ _ _ _ σ' w' _ hk R E ((ha.mono E.sub).put hdst he)
      | panicked c => exact he.elim
      | outgrown => exact he.elim
    | pan l =>
      cases en with
      | returned v' => exact he.elim
      | panicked c => exact hp l H' nx' σ' w' c hk R E he
      | outgrown => exact he.elim
  | dfr f args =>
    obtain ⟨d, hd, hrun⟩ := hok σ w a.eval hr ha.env.aev
    refine ⟨(fun w2 e => by rw [hrun] at e; cases e), ?_⟩
    unfold Oper.wp
    rw [hrun]
    refine hn _ _ _ _ σ w _ ht hr (Ext.refl _ _ _ _) ⟨?_, ?_⟩
    · have h1 : EnvRel σ nt (put o.dst (.tuple []) env) (a.put o.dst undef).tmps := ha.env.put hdst (.tuple .nil)
      have e : (({ a with defers := d :: a.defers } : Act).put o.dst undef).tmps = (a.put o.dst undef).tmps := by cases o.dst <;> rfl
      rw [e]; exact h1
    · have e : (({ a with defers := d :: a.defers } : Act).put o.dst undef).defers = d :: a.defers := by cases o.dst <;> rfl
      rw [e]; exact .cons hd ha.dfs
  | pan v =>
    obtain ⟨v', dv, hrun⟩ := hok σ w a.eval hr ha.env.aev
    refine ⟨(fun w2 e => by rw [hrun] at e; cases e), ?_⟩
    unfold Oper.wp
    rw [hrun]
    exact hp [(v, false)] H nx σ w [{ v := v', recovered := false }] ht hr (Ext.refl _ _ _ _) (.cons dv rfl rfl .nil)
  | rcv => exact (hnr rfl).elim

/-! ### What is owed behind code -/
def PostN (nt : Nat) (call : CallK) (K : FX) (σ : Sg) (H : Heap) (nx : Nat) (w : World) (Q : Exit → Act → World → Prop) : Prop :=
  ∀ ex env' st' σ' w' a' e, K ex env' st' = true → st'.call = call → st'.rc = none → Rel σ' st'.H st'.nx w' → Ext σ σ' H st'.H nx st'.nx w w' → ARel σ' nt env' st'.dfs a' → ExRel σ' ex e → Q e a' w'

def PostS (nt : Nat) (call : CallK) (K : FX) (σ : Sg) (H : Heap) (nx : Nat) (w : World) (c₀ : Frame) (cs : List Frame) (Q : Exit → Act → List Frame → World → Prop) : Prop :=
  ∀ ex env' st' m' σ' w' a' e u', K ex env' st' = true → st'.call = call → st'.rc = some m' → Rel σ' st'.H st'.nx w' → Ext σ σ' H st'.H nx st'.nx w w' → ARel σ' nt env' st'.dfs a' → ExRel σ' ex e → MRel σ' m' u' →
    Q e a' ({ c₀ with mode := u' } :: cs) w'

theorem PostN.from {nt : Nat} {call : CallK} {K : FX} {σ σ1 : Sg} {H H1 : Heap} {nx nx1 : Nat} {w w1 : World} {Q : Exit → Act → World → Prop} (h : PostN nt call K σ H nx w Q) (E : Ext σ σ1 H H1 nx nx1 w w1) :
    PostN nt call K σ1 H1 nx1 w1 Q := fun ex env' st' σ' w' a' e hk hc hr R E2 A X => h ex env' st' σ' w' a' e hk hc hr R (E.trans E2) A X

theorem PostS.from {nt : Nat} {call : CallK} {K : FX} {σ σ1 : Sg} {H H1 : Heap} {nx nx1 : Nat} {w w1 : World} {c₀ : Frame} {cs : List Frame} {Q : Exit → Act → List Frame → World → Prop} (h : PostS nt call K σ H nx w c₀ cs Q) (E : Ext σ σ1 H H1 nx nx1 w w1) :
    PostS nt call K σ1 H1 nx1 w1 c₀ cs Q := fun ex env' st' m' σ' w' a' e u' hk hc hr R E2 A X M => h ex env' st' m' σ' w' a' e u' hk hc hr R (E.trans E2) A X M

def CodeN (P : Program) (nt : Nat) (c : Code) (f : Env → St → FX → Bool) : Prop :=
  ∀ env st K, CallS P st.call → st.rc = none → f env st K = true → ∀ σ w a Q, Rel σ st.H st.nx w → ARel σ nt env st.dfs a → PostN nt st.call K σ st.H st.nx w Q → c.wp P Q a w

def CodeS (P : Program) (nt : Nat) (c : Code) (f : Env → St → FX → Bool) : Prop :=
  ∀ env st K m, CallS P st.call → st.rc = some m → f env st K = true → ∀ σ w a u (c₀ : Frame) cs Q, Rel σ st.H st.nx w → ARel σ nt env st.dfs a → MRel σ m u →
    PostS nt st.call K σ st.H st.nx w c₀ cs Q → c.wpS P Q a ({ c₀ with mode := u } :: cs) w

/-! ### Regions in the order of the text -/
theorem cOps_none {P : Program} {nt : Nat} {ops : Array Oper} : ∀ (l : List Oper) (env : Env) (st : St) (K : FX), CallS P st.call → st.rc = none → (cOps P nt ops l).fn env st K = true →
    ∀ σ w a Q, Rel σ st.H st.nx w → ARel σ nt env st.dfs a → PostN nt st.call K σ st.H st.nx w Q → wpList P ops Q l a w
  | [], env, st, K, _, hrc, h, σ, w, a, Q, hr, ha, hQ => hQ .normal env st σ w a .normal h rfl hrc hr (Ext.refl _ _ _ _) ha trivial
  | o :: l, env, st, K, hc, hrc, h, σ, w, a, Q, hr, ha, hQ => by
    unfold cOps at h
    cases e1 : cOp P nt ops o with | mk f => cases e2 : cOps P nt ops l with | mk g =>
      rw [e1, e2] at h
      have h1 : (cOp P nt ops o).fn env st (fun env st => g env st K) K = true := by rw [e1]; exact h
      have h' := cOp_ok h1
      have next : ∀ env1 H1 nx1 dfs1 σ1 w1 a1, unc st.call (fun env st => g env st K) env1 H1 nx1 dfs1 st.rc = true → Rel σ1 H1 nx1 w1 → Ext σ σ1 st.H H1 st.nx nx1 w w1 → ARel σ1 nt env1 dfs1 a1 → wpList P ops Q l a1 w1 :=
        fun env1 H1 nx1 dfs1 σ1 w1 a1 hk R1 E1 A1 =>
          cOps_none l env1 ⟨st.call, H1, nx1, dfs1, st.rc⟩ K hc hrc (by rw [e2]; exact hk) σ1 w1 a1 Q R1 A1 (hQ.from E1)
      unfold opK at h'
      split at h' <;> first | (exact Bool.noConfusion h') | skip
      · rename_i hdst hw
        split at h' <;> first | (exact Bool.noConfusion h') | skip
        rename_i r hop
        have hnr : r ≠ .rcv := by
          rintro rfl
          rw [hrc] at h'
          exact Bool.noConfusion h'
        unfold wpList
        rw [if_pos (wanted_ok hw ha.env)]
        refine .inl (upon_stepK hc (aop_ok hop) hdst hnr h' hr ha next fun lp H1 nx1 σ1 w1 c hk R1 E1 C1 => ?_).2
        exact hQ (.pan lp) env ⟨st.call, H1, nx1, st.dfs, st.rc⟩ σ1 w1 a (.panic c) hk rfl hrc R1 E1 (ha.mono E1.sub) C1
      · rename_i hdst hw
        exact opK_skip (wanted_ok hw ha.env) (next _ _ _ _ σ w _ h' hr (Ext.refl _ _ _ _) (ha.put hdst (.tuple .nil)))

theorem cOps_some {P : Program} {nt : Nat} {ops : Array Oper} : ∀ (l : List Oper) (n : Nat) (env : Env) (st : St) (K : FX) (m : AMode), (∀ j, l[j]? = ops[n + j]?) → CallS P st.call → st.rc = some m → (cOps P nt ops l).fn env st K = true →
    ∀ σ w a u (c₀ : Frame) cs Q, Rel σ st.H st.nx w → ARel σ nt env st.dfs a → MRel σ m u → PostS nt st.call K σ st.H st.nx w c₀ cs Q → wpOpsS P ops Q (List.range' n l.length) a ({ c₀ with mode := u } :: cs) w
  | [], n, env, st, K, m, _, _, hrc, h, σ, w, a, u, c₀, cs, Q, hr, ha, hm, hQ => hQ .normal env st m σ w a .normal u h rfl hrc hr (Ext.refl _ _ _ _) ha trivial hm
  | o :: l, n, env, st, K, m, hl, hc, hrc, h, σ, w, a, u, c₀, cs, Q, hr, ha, hm, hQ => by
    have ho : ops[n]? = some o := by simpa using (hl 0).symm
    have hl' : ∀ j, l[j]? = ops[n + 1 + j]? := fun j => by have := hl (j + 1); simpa [Nat.add_assoc, Nat.add_comm 1 j] using this
    unfold cOps at h
    cases e1 : cOp P nt ops o with | mk f => cases e2 : cOps P nt ops l with | mk g =>
      rw [e1, e2] at h
      have h1 : (cOp P nt ops o).fn env st (fun env st => g env st K) K = true := by rw [e1]; exact h
      have h' := cOp_ok h1
      have next : ∀ env1 H1 nx1 dfs1 rc1 m1 σ1 w1 a1 u1, rc1 = some m1 → unc st.call (fun env st => g env st K) env1 H1 nx1 dfs1 rc1 = true → Rel σ1 H1 nx1 w1 → Ext σ σ1 st.H H1 st.nx nx1 w w1 → ARel σ1 nt env1 dfs1 a1 → MRel σ1 m1 u1 →
          wpOpsS P ops Q (List.range' (n + 1) l.length) a1 ({ c₀ with mode := u1 } :: cs) w1 :=
        fun env1 H1 nx1 dfs1 rc1 m1 σ1 w1 a1 u1 hrc1 hk R1 E1 A1 M1 =>
          cOps_some l (n + 1) env1 ⟨st.call, H1, nx1, dfs1, rc1⟩ K m1 hl' hc hrc1 (by rw [e2]; exact hk) σ1 w1 a1 u1 c₀ cs Q R1 A1 M1 (hQ.from E1)
      rw [List.length_cons, List.range'_succ]
      simp only [wpOpsS, ho]
      unfold opK at h'
      split at h' <;> first | (exact Bool.noConfusion h') | skip
      · rename_i hdst hw
        split at h' <;> first | (exact Bool.noConfusion h') | skip
        rename_i r hop
        rw [if_pos (wanted_ok hw ha.env)]
        by_cases hrcv : r = .rcv
        · subst hrcv
          have hok := aop_ok hop
          have hrun := hok σ w a.eval hr ha.env.aev
          simp only [hrun]
          unfold takeK at h'
          split at h' <;> first | (rename_i q; cases q; done) | skip
          rw [hrc] at h'
          split at h' <;> first | (exact Bool.noConfusion h') | skip
          · rename_i v older hm0
            cases hm0
            cases u with
            | run => exact hm.elim
            | returning => exact hm.elim
            | panicking ch =>
              cases hm with
              | @cons _ _ p _ l' hv hrr hg t =>
                obtain ⟨pv, pr, pg⟩ := p
                simp only at hv hrr hg
                subst hrr
                subst hg
                simp only [recoverD]
                exact next _ _ _ _ _ _ σ w _ (.panicking ({ v := pv, recovered := true } :: l')) rfl h' hr (Ext.refl _ _ _ _) (ha.put hdst hv) (.cons hv rfl rfl t)
          · rename_i hm0
            cases hm0
            cases u with
            | run => exact hm.elim
            | panicking ch => exact hm.elim
            | returning =>
              simp only [recoverD]
              exact next _ _ _ _ _ _ σ w _ .returning rfl h' hr (Ext.refl _ _ _ _) (ha.put hdst .nilIface) trivial
        · obtain ⟨hnr, hwp⟩ := upon_stepK (next := fun a' w' => wpOpsS P ops Q (List.range' (n + 1) l.length) a' ({ c₀ with mode := u } :: cs) w') (Q := fun e a' w' => Q e a' ({ c₀ with mode := u } :: cs) w')
            hc (aop_ok hop) hdst hrcv h' hr ha
            (fun env1 H1 nx1 dfs1 σ1 w1 a1 hk R1 E1 A1 => next env1 H1 nx1 dfs1 st.rc m σ1 w1 a1 u hrc hk R1 E1 A1 (hm.mono E1.sub))
            (fun lp H1 nx1 σ1 w1 c hk R1 E1 C1 => hQ (.pan lp) env ⟨st.call, H1, nx1, st.dfs, st.rc⟩ m σ1 w1 a (.panic c) u hk rfl hrc R1 E1 (ha.mono E1.sub) C1 (hm.mono E1.sub))
          unfold Oper.wp at hwp
          split
          · rename_i w2 e2; exact (hnr w2 e2).elim
          · exact hwp
      · rename_i hdst hw
        rw [if_neg (by rw [wanted_ok hw ha.env]; simp)]
        exact next _ _ _ _ st.rc m σ w _ u hrc h' hr (Ext.refl _ _ _ _) (ha.put hdst (.tuple .nil)) hm

end Go.Ev
