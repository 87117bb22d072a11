/-
  Own work. That the evaluator is right. Part 3: code, calls.
-/
import Derived.Test.YtdigeeejmgkcoaaGreatDoorEvSound1
namespace Go.Ev
variable [GTab]
set_option linter.unusedSectionVars false

/-! ### Deferred calls: operations in the order of the text -/
theorem opsK_some {P : Program} {call : CallK} {nt : Nat} {ops : Array Oper} {K : Kont} (hc : CallSound P call) :
    ∀ (l : List Oper) (k : Nat) (env : Env) (H : Heap) (nx : Nat) (dfs : Dfs) (m : AMode), (∀ j, l[j]? = ops[k + j]?) → opsK P call nt ops K l env H nx dfs (some m) = true →
      ∃ ex env' H' nx' dfs' m', K ex env' H' nx' dfs' (some m') = true ∧ ∀ σ w a u (c₀ : Frame) cs Q, Rel σ H nx w → ARel σ nt env dfs a → MRel σ m u →
        (∀ σ' w' a' e u', Rel σ' H' nx' w' → Ext σ σ' H H' nx nx' w w' → ARel σ' nt env' dfs' a' → ExRel σ' ex e → MRel σ' m' u' → Q e a' ({ c₀ with mode := u' } :: cs) w') →
        wpOpsS P ops Q (List.range' k l.length) a ({ c₀ with mode := u } :: cs) w
  | [], k, env, H, nx, dfs, m, _, h => ⟨.normal, env, H, nx, dfs, m, h, fun σ w a u c₀ cs Q hr ha hm hq => hq σ w a .normal u hr (Ext.refl _ _ _ _) ha trivial hm⟩
  | o :: l, k, env, H, nx, dfs, m, hl, h => by
    have ho : ops[k]? = some o := by simpa using (hl 0).symm
    have hl' : ∀ j, l[j]? = ops[k + 1 + j]? := fun j => by have := hl (j + 1); simpa [Nat.add_assoc, Nat.add_comm 1 j] using this
    have h' : opK P call nt ops o env H nx dfs (some m) (opsK P call nt ops K l) K = true := h
    unfold opK at h'
    split at h' <;> first | (cases h'; done) | skip
    · rename_i hdst hw
      split at h' <;> first | (cases h'; done) | skip
      rename_i r hr
      by_cases hrc : r = .rcv
      · subst hrc
        have hok := aop_ok hr
        unfold takeK at h'
        split at h' <;> first | (rename_i q; cases q; done) | skip
        split at h' <;> first | (cases h'; done) | skip
        · rename_i v older hm0
          cases hm0
          obtain ⟨ex, env', H', nx', dfs', m', hK, rest⟩ := opsK_some hc l (k + 1) _ H nx dfs _ hl' h'
          refine ⟨ex, env', H', nx', dfs', m', hK, fun σ w a u c₀ cs Q hrel ha hm hq => ?_⟩
          have hrun := hok σ w a.eval hrel ha.env.aev
          rw [List.length_cons, List.range'_succ]
          simp only [wpOpsS, ho]
          rw [if_pos (wanted_ok hw ha.env)]
          simp only [hrun]
          cases u with
          | run => exact hm.elim
          | returning => exact hm.elim
          | panicking ch =>
            cases hm with
            | @cons _ _ p _ l' hv hrr hg t =>
              obtain ⟨pv, pr, pg⟩ := p
              simp only at hv hrr hg
              subst hrr
              subst hg
              simp only [recoverD]
              exact rest σ w _ (.panicking ({ v := pv, recovered := true } :: l')) c₀ cs Q hrel (ha.put hdst hv) (.cons hv rfl rfl t) hq
        · rename_i hm0
          cases hm0
          obtain ⟨ex, env', H', nx', dfs', m', hK, rest⟩ := opsK_some hc l (k + 1) _ H nx dfs _ hl' h'
          refine ⟨ex, env', H', nx', dfs', m', hK, fun σ w a u c₀ cs Q hrel ha hm hq => ?_⟩
          have hrun := hok σ w a.eval hrel ha.env.aev
          rw [List.length_cons, List.range'_succ]
          simp only [wpOpsS, ho]
          rw [if_pos (wanted_ok hw ha.env)]
          simp only [hrun]
          cases u with
          | run => exact hm.elim
          | panicking ch => exact hm.elim
          | returning =>
            simp only [recoverD]
            exact rest σ w _ .returning c₀ cs Q hrel (ha.put hdst .nilIface) trivial hq
      · rcases upon_step hc (aop_ok hr) hdst hrc h' with ⟨env1, H1, nx1, dfs1, hk, step⟩ | ⟨c, H1, nx1, hk, step⟩
        · obtain ⟨ex, env', H', nx', dfs', m', hK, rest⟩ := opsK_some hc l (k + 1) env1 H1 nx1 dfs1 m hl' hk
          refine ⟨ex, env', H', nx', dfs', m', hK, fun σ w a u c₀ cs Q hrel ha hm hq => ?_⟩
          rw [List.length_cons, List.range'_succ]
          simp only [wpOpsS, ho]
          rw [if_pos (wanted_ok hw ha.env)]
          obtain ⟨hnr, hwp⟩ := step σ w a (fun a' w' => wpOpsS P ops Q (List.range' (k + 1) l.length) a' ({ c₀ with mode := u } :: cs) w') (fun e a' w' => Q e a' ({ c₀ with mode := u } :: cs) w') hrel ha
            (fun σ1 w1 a1 R1 E1 A1 => rest σ1 w1 a1 u c₀ cs Q R1 A1 (hm.mono E1.sub) fun σ' w' a' e u' R E A X M => hq σ' w' a' e u' R (E1.trans E) A X M)
          unfold Oper.wp at hwp
          split
          · rename_i w2 e2; exact (hnr w2 e2).elim
          · exact hwp
        · refine ⟨.pan c, env, H1, nx1, dfs, m, hk, fun σ w a u c₀ cs Q hrel ha hm hq => ?_⟩
          rw [List.length_cons, List.range'_succ]
          simp only [wpOpsS, ho]
          rw [if_pos (wanted_ok hw ha.env)]
          obtain ⟨hnr, hwp⟩ := step σ w a (fun a' w' => wpOpsS P ops Q (List.range' (k + 1) l.length) a' ({ c₀ with mode := u } :: cs) w') (fun e a' w' => Q e a' ({ c₀ with mode := u } :: cs) w') hrel ha
            (fun σ1 w1 ch R1 E1 C1 => hq σ1 w1 a (.panic ch) u R1 E1 (ha.mono E1.sub) C1 (hm.mono E1.sub))
          unfold Oper.wp at hwp
          split
          · rename_i w2 e2; exact (hnr w2 e2).elim
          · exact hwp
    · rename_i hdst hw
      obtain ⟨ex, env', H', nx', dfs', m', hK, rest⟩ := opsK_some hc l (k + 1) _ H nx dfs m hl' h'
      refine ⟨ex, env', H', nx', dfs', m', hK, fun σ w a u c₀ cs Q hrel ha hm hq => ?_⟩
      rw [List.length_cons, List.range'_succ]
      simp only [wpOpsS, ho]
      rw [if_neg (by rw [wanted_ok hw ha.env]; simp)]
      exact rest σ w _ u c₀ cs Q hrel (ha.put hdst (.tuple .nil)) hm hq

/-! ### Code -/
def TriN (P : Program) (nt : Nat) (c : Code) (env : Env) (H : Heap) (nx : Nat) (dfs : Dfs) (ex : AExit) (env' : Env) (H' : Heap) (nx' : Nat) (dfs' : Dfs) : Prop :=
  ∀ σ w a Q, Rel σ H nx w → ARel σ nt env dfs a → (∀ σ' w' a' e, Rel σ' H' nx' w' → Ext σ σ' H H' nx nx' w w' → ARel σ' nt env' dfs' a' → ExRel σ' ex e → Q e a' w') → c.wp P Q a w

def TriS (P : Program) (nt : Nat) (c : Code) (env : Env) (H : Heap) (nx : Nat) (dfs : Dfs) (m : AMode) (ex : AExit) (env' : Env) (H' : Heap) (nx' : Nat) (dfs' : Dfs) (m' : AMode) : Prop :=
  ∀ σ w a u (c₀ : Frame) cs Q, Rel σ H nx w → ARel σ nt env dfs a → MRel σ m u →
    (∀ σ' w' a' e u', Rel σ' H' nx' w' → Ext σ σ' H H' nx nx' w w' → ARel σ' nt env' dfs' a' → ExRel σ' ex e → MRel σ' m' u' → Q e a' ({ c₀ with mode := u' } :: cs) w') →
    c.wpS P Q a ({ c₀ with mode := u } :: cs) w

theorem TriN.toS {P : Program} {nt : Nat} {c : Code} {env : Env} {H : Heap} {nx : Nat} {dfs : Dfs} {ex : AExit} {env' : Env} {H' : Heap} {nx' : Nat} {dfs' : Dfs} (h : TriN P nt c env H nx dfs ex env' H' nx' dfs') (m : AMode) :
    TriS P nt c env H nx dfs m ex env' H' nx' dfs' m := by
  intro σ w a u c₀ cs Q hr ha hm hq
  exact wpS_of_wp (h σ w a _ hr ha fun σ' w' a' e R E A X => hq σ' w' a' e u R E A X (hm.mono E.sub))

/-- What is owed of regions whose order is open. -/
def DrawnSound (P : Program) (call : CallK) : Prop :=
  ∀ nt ops env H nx dfs rc K, drawnK P call nt ops env H nx dfs rc K = true →
    ∃ ex env' H' nx', K ex env' H' nx' dfs rc = true ∧ ∀ id, TriN P nt (.region id ops true) env H nx dfs ex env' H' nx' dfs

theorem wpS_block {P : Program} {Q : Exit → Act → List Frame → World → Prop} {a : Act} {cs : List Frame} {w : World} {id : Nat} {c : Code}
    (h : c.wpS P (fun e a' cs' w' => match e with | .exit j => if j = id then Q .normal a' cs' w' else Q (.exit j) a' cs' w' | e => Q e a' cs' w') a cs w) : (Code.block id c).wpS P Q a cs w := by
  intro b k hb hro
  obtain ⟨e, a₁, cs₁, w₁, hq, harr⟩ := h b (.inBlock id :: k) hb hro
  cases e with
  | normal => exact ⟨.normal, a₁, cs₁, w₁, hq, .head step_block (Steps.trans harr (.one step_inBlock))⟩
  | exit id' =>
    by_cases hid : id' = id
    · simp only [hid, if_true] at hq
      exact ⟨.normal, a₁, cs₁, w₁, hq, .head step_block (harr k (by simp [exitTo, hid]))⟩
    · simp only [hid, if_false] at hq
      refine ⟨.exit id', a₁, cs₁, w₁, hq, fun k' hk => .head step_block (harr k' ?_)⟩
      have : (id == id') = false := by simp; exact fun h => hid h.symm
      simp [exitTo, this, hk]
  | goto l => exact ⟨_, a₁, cs₁, w₁, hq, fun k' hk => .head step_block (harr k' (by simp [gotoIn, hk]))⟩
  | ret => exact ⟨_, a₁, cs₁, w₁, hq, .of_steps (.one step_block) harr⟩
  | panic ch => exact ⟨_, a₁, cs₁, w₁, hq, .of_steps (.one step_block) harr⟩
  | outgrown => exact ⟨_, a₁, cs₁, w₁, hq, .of_steps (b := b) (k := k) (cs := cs₁) (e := .outgrown) (.one step_block) harr⟩

theorem condK_ok {v : AVal} {y n : Bool} (h : condK v y n = true) : (v = .bool true ∧ y = true) ∨ (v = .bool false ∧ n = true) := by
  unfold condK at h
  split at h
  · exact .inl ⟨rfl, h⟩
  · exact .inr ⟨rfl, h⟩
  · cases h

theorem eval_bool {σ : Sg} {nt : Nat} {env : Env} {dfs : Dfs} {a : Act} {c : Operand} {b : Bool} (ha : ARel σ nt env dfs a) (h : aev env c = .bool b) : a.eval c = .bool b := by
  have := ha.env.aev c
  rw [h] at this
  cases hq : a.eval c <;> rw [hq] at this <;> cases this
  rfl

/-- The evaluator on code, in a frame that is no deferred call. -/
theorem evK_none {P : Program} {call : CallK} {nt : Nat} (hc : CallSound P call) (hd : DrawnSound P call) :
    ∀ (m : Nat) (c : Code) (env : Env) (H : Heap) (nx : Nat) (dfs : Dfs) (K : Kont), evK P call nt m c env H nx dfs none K = true →
      (∃ ex env' H' nx' dfs', K ex env' H' nx' dfs' none = true ∧ TriN P nt c env H nx dfs ex env' H' nx' dfs') ∧
      (∀ b, c = .loop b → ∃ ex env' H' nx' dfs', K ex env' H' nx' dfs' none = true ∧ ∃ n, ∀ σ w a Q, Rel σ H nx w → ARel σ nt env dfs a →
        (∀ σ' w' a' e, Rel σ' H' nx' w' → Ext σ σ' H H' nx nx' w w' → ARel σ' nt env' dfs' a' → ExRel σ' ex e → Q e a' w') → Code.rounds P b Q n a w) := by
  intro m
  induction m with
  | zero => intro c env H nx dfs K h; cases h
  | succ m ih =>
    intro c env H nx dfs K h
    cases c with
    | skip => exact ⟨⟨_, _, _, _, _, h, fun σ w a Q hr ha hq => wp_skip (hq σ w a .normal hr (Ext.refl _ _ _ _) ha trivial)⟩, fun b e => by cases e⟩
    | region id ops draw =>
      refine ⟨?_, fun b e => by cases e⟩
      cases draw with
      | false =>
        obtain ⟨ex, env', H', nx', dfs', hK, tri⟩ := opsK_none hc ops.toList env H nx dfs h
        exact ⟨ex, env', H', nx', dfs', hK, fun σ w a Q hr ha hq => wp_region_list (tri σ w a Q hr ha hq)⟩
      | true =>
        obtain ⟨ex, env', H', nx', hK, tri⟩ := hd nt ops env H nx dfs none K h
        exact ⟨ex, env', H', nx', dfs, hK, tri id⟩
    | seq x y =>
      refine ⟨?_, fun b e => by cases e⟩
      obtain ⟨⟨ex, env1, H1, nx1, dfs1, hK, tri⟩, _⟩ := ih x env H nx dfs _ h
      cases ex with
      | normal =>
        obtain ⟨⟨ex, env2, H2, nx2, dfs2, hK2, tri2⟩, _⟩ := ih y env1 H1 nx1 dfs1 _ hK
        refine ⟨ex, env2, H2, nx2, dfs2, hK2, fun σ w a Q hr ha hq => wp_seq (tri σ w a _ hr ha fun σ' w' a' e R E A X => ?_)⟩
        cases e <;> first | exact X.elim | skip
        exact tri2 σ' w' a' Q R A fun σ2 w2 a2 e2 R2 E2 A2 X2 => hq σ2 w2 a2 e2 R2 (E.trans E2) A2 X2
      | exit i =>
        refine ⟨_, env1, H1, nx1, dfs1, hK, fun σ w a Q hr ha hq => wp_seq (tri σ w a _ hr ha fun σ' w' a' e R E A X => ?_)⟩
        cases e <;> first | exact X.elim | exact hq σ' w' a' _ R E A X
      | ret =>
        refine ⟨_, env1, H1, nx1, dfs1, hK, fun σ w a Q hr ha hq => wp_seq (tri σ w a _ hr ha fun σ' w' a' e R E A X => ?_)⟩
        cases e <;> first | exact X.elim | exact hq σ' w' a' _ R E A X
      | pan l =>
        refine ⟨_, env1, H1, nx1, dfs1, hK, fun σ w a Q hr ha hq => wp_seq (tri σ w a _ hr ha fun σ' w' a' e R E A X => ?_)⟩
        cases e <;> first | exact X.elim | exact hq σ' w' a' _ R E A X
    | cond c x y =>
      refine ⟨?_, fun b e => by cases e⟩
      rcases condK_ok h with ⟨hv, h'⟩ | ⟨hv, h'⟩
      · obtain ⟨⟨ex, env1, H1, nx1, dfs1, hK, tri⟩, _⟩ := ih x env H nx dfs _ h'
        exact ⟨ex, env1, H1, nx1, dfs1, hK, fun σ w a Q hr ha hq => wp_cond (t := true) (eval_bool ha hv) (tri σ w a Q hr ha hq)⟩
      · obtain ⟨⟨ex, env1, H1, nx1, dfs1, hK, tri⟩, _⟩ := ih y env H nx dfs _ h'
        exact ⟨ex, env1, H1, nx1, dfs1, hK, fun σ w a Q hr ha hq => wp_cond (t := false) (eval_bool ha hv) (tri σ w a Q hr ha hq)⟩
    | block id x =>
      refine ⟨?_, fun b e => by cases e⟩
      obtain ⟨⟨ex, env1, H1, nx1, dfs1, hK, tri⟩, _⟩ := ih x env H nx dfs _ h
      cases ex with
      | normal =>
        refine ⟨_, env1, H1, nx1, dfs1, hK, fun σ w a Q hr ha hq => wp_block (tri σ w a _ hr ha fun σ' w' a' e R E A X => ?_)⟩
        cases e <;> first | exact X.elim | exact hq σ' w' a' _ R E A X
      | exit i =>
        cases hb : Nat.beq i id with
        | true =>
          have hid := Nat.eq_of_beq_eq_true hb
          simp only [hb] at hK
          refine ⟨.normal, env1, H1, nx1, dfs1, hK, fun σ w a Q hr ha hq => wp_block (tri σ w a _ hr ha fun σ' w' a' e R E A X => ?_)⟩
          cases e <;> first | exact X.elim | skip
          have X' : i = _ := X
          subst X'
          simp only [Exit.inBlock, hid, if_true]
          exact hq σ' w' a' .normal R E A trivial
        | false =>
          have hid : i ≠ id := fun e => by subst e; simp at hb
          simp only [hb] at hK
          refine ⟨.exit i, env1, H1, nx1, dfs1, hK, fun σ w a Q hr ha hq => wp_block (tri σ w a _ hr ha fun σ' w' a' e R E A X => ?_)⟩
          cases e <;> first | exact X.elim | skip
          have X' : i = _ := X
          subst X'
          simp only [Exit.inBlock, hid, if_false]
          exact hq σ' w' a' _ R E A rfl
      | ret =>
        refine ⟨_, env1, H1, nx1, dfs1, hK, fun σ w a Q hr ha hq => wp_block (tri σ w a _ hr ha fun σ' w' a' e R E A X => ?_)⟩
        cases e <;> first | exact X.elim | exact hq σ' w' a' _ R E A X
      | pan l =>
        refine ⟨_, env1, H1, nx1, dfs1, hK, fun σ w a Q hr ha hq => wp_block (tri σ w a _ hr ha fun σ' w' a' e R E A X => ?_)⟩
        cases e <;> first | exact X.elim | exact hq σ' w' a' _ R E A X
    | loop x =>
      have key : ∃ ex env' H' nx' dfs', K ex env' H' nx' dfs' none = true ∧ ∃ n, ∀ σ w a Q, Rel σ H nx w → ARel σ nt env dfs a →
          (∀ σ' w' a' e, Rel σ' H' nx' w' → Ext σ σ' H H' nx nx' w w' → ARel σ' nt env' dfs' a' → ExRel σ' ex e → Q e a' w') → Code.rounds P x Q n a w := by
        obtain ⟨⟨ex, env1, H1, nx1, dfs1, hK, tri⟩, _⟩ := ih x env H nx dfs _ h
        cases ex with
        | normal =>
          obtain ⟨_, hl⟩ := ih (.loop x) env1 H1 nx1 dfs1 K hK
          obtain ⟨ex, env2, H2, nx2, dfs2, hK2, n, tri2⟩ := hl x rfl
          refine ⟨ex, env2, H2, nx2, dfs2, hK2, n + 1, fun σ w a Q hr ha hq => ?_⟩
          rw [rounds_succ]
          refine tri σ w a _ hr ha fun σ' w' a' e R E A X => ?_
          cases e <;> first | exact X.elim | skip
          exact tri2 σ' w' a' Q R A fun σ2 w2 a2 e2 R2 E2 A2 X2 => hq σ2 w2 a2 e2 R2 (E.trans E2) A2 X2
        | exit i =>
          refine ⟨_, env1, H1, nx1, dfs1, hK, 1, fun σ w a Q hr ha hq => ?_⟩
          rw [rounds_succ]
          refine tri σ w a _ hr ha fun σ' w' a' e R E A X => ?_
          cases e <;> first | exact X.elim | exact hq σ' w' a' _ R E A X
        | ret =>
          refine ⟨_, env1, H1, nx1, dfs1, hK, 1, fun σ w a Q hr ha hq => ?_⟩
          rw [rounds_succ]
          refine tri σ w a _ hr ha fun σ' w' a' e R E A X => ?_
          cases e <;> first | exact X.elim | exact hq σ' w' a' _ R E A X
        | pan l =>
          refine ⟨_, env1, H1, nx1, dfs1, hK, 1, fun σ w a Q hr ha hq => ?_⟩
          rw [rounds_succ]
          refine tri σ w a _ hr ha fun σ' w' a' e R E A X => ?_
          cases e <;> first | exact X.elim | exact hq σ' w' a' _ R E A X
      refine ⟨?_, fun b e => by cases e; exact key⟩
      obtain ⟨ex, env', H', nx', dfs', hK, n, tri⟩ := key
      exact ⟨ex, env', H', nx', dfs', hK, fun σ w a Q hr ha hq => wp_loop_rounds n (tri σ w a Q hr ha hq)⟩
    | exit id => exact ⟨⟨_, _, _, _, _, h, fun σ w a Q hr ha hq => wp_exit (hq σ w a (.exit id) hr (Ext.refl _ _ _ _) ha rfl)⟩, fun b e => by cases e⟩
    | ret => exact ⟨⟨_, _, _, _, _, h, fun σ w a Q hr ha hq => wp_ret (hq σ w a .ret hr (Ext.refl _ _ _ _) ha trivial)⟩, fun b e => by cases e⟩
    | rangeFunc f p x y => cases h
    | scope x => cases h
    | label l => cases h
    | goto l => cases h
    | refuse s => cases h

/-- The evaluator on code of a deferred call. -/
theorem evK_some {P : Program} {call : CallK} {nt : Nat} (hc : CallSound P call) (hd : DrawnSound P call) :
    ∀ (n : Nat) (c : Code) (env : Env) (H : Heap) (nx : Nat) (dfs : Dfs) (m : AMode) (K : Kont), evK P call nt n c env H nx dfs (some m) K = true →
      ∃ ex env' H' nx' dfs' m', K ex env' H' nx' dfs' (some m') = true ∧ TriS P nt c env H nx dfs m ex env' H' nx' dfs' m' := by
  intro n
  induction n with
  | zero => intro c env H nx dfs m K h; cases h
  | succ n ih =>
    intro c env H nx dfs m K h
    cases c with
    | skip => exact ⟨.normal, env, H, nx, dfs, m, h, TriN.toS (c := .skip) (ex := .normal) (fun σ w a Q hr ha hq => wp_skip (hq σ w a .normal hr (Ext.refl _ _ _ _) ha trivial)) m⟩
    | region id ops draw =>
      cases draw with
      | false =>
        obtain ⟨ex, env', H', nx', dfs', m', hK, tri⟩ := opsK_some hc ops.toList 0 env H nx dfs m (by simp) h
        refine ⟨ex, env', H', nx', dfs', m', hK, fun σ w a u c₀ cs Q hr ha hm hq => wpS_region ?_⟩
        have := tri σ w a u c₀ cs Q hr ha hm hq
        rw [List.range_eq_range', ← Array.length_toList]
        exact this
      | true =>
        obtain ⟨ex, env', H', nx', hK, tri⟩ := hd nt ops env H nx dfs (some m) K h
        exact ⟨ex, env', H', nx', dfs, m, hK, (tri id).toS m⟩
    | seq x y =>
      obtain ⟨ex, env1, H1, nx1, dfs1, m1, hK, tri⟩ := ih x env H nx dfs m _ h
      cases ex with
      | normal =>
        obtain ⟨ex, env2, H2, nx2, dfs2, m2, hK2, tri2⟩ := ih y env1 H1 nx1 dfs1 m1 _ hK
        refine ⟨ex, env2, H2, nx2, dfs2, m2, hK2, fun σ w a u c₀ cs Q hr ha hm hq => wpS_seq (tri σ w a u c₀ cs _ hr ha hm fun σ' w' a' e u' R E A X M => ?_)⟩
        cases e <;> first | exact X.elim | skip
        exact tri2 σ' w' a' u' c₀ cs Q R A M fun σ2 w2 a2 e2 u2 R2 E2 A2 X2 M2 => hq σ2 w2 a2 e2 u2 R2 (E.trans E2) A2 X2 M2
      | exit i =>
        refine ⟨_, env1, H1, nx1, dfs1, m1, hK, fun σ w a u c₀ cs Q hr ha hm hq => wpS_seq (tri σ w a u c₀ cs _ hr ha hm fun σ' w' a' e u' R E A X M => ?_)⟩
        cases e <;> first | exact X.elim | exact hq σ' w' a' _ u' R E A X M
      | ret =>
        refine ⟨_, env1, H1, nx1, dfs1, m1, hK, fun σ w a u c₀ cs Q hr ha hm hq => wpS_seq (tri σ w a u c₀ cs _ hr ha hm fun σ' w' a' e u' R E A X M => ?_)⟩
        cases e <;> first | exact X.elim | exact hq σ' w' a' _ u' R E A X M
      | pan l =>
        refine ⟨_, env1, H1, nx1, dfs1, m1, hK, fun σ w a u c₀ cs Q hr ha hm hq => wpS_seq (tri σ w a u c₀ cs _ hr ha hm fun σ' w' a' e u' R E A X M => ?_)⟩
        cases e <;> first | exact X.elim | exact hq σ' w' a' _ u' R E A X M
    | cond c x y =>
      rcases condK_ok h with ⟨hv, h'⟩ | ⟨hv, h'⟩
      · obtain ⟨ex, env1, H1, nx1, dfs1, m1, hK, tri⟩ := ih x env H nx dfs m _ h'
        exact ⟨ex, env1, H1, nx1, dfs1, m1, hK, fun σ w a u c₀ cs Q hr ha hm hq => wpS_cond (t := true) (eval_bool ha hv) (tri σ w a u c₀ cs Q hr ha hm hq)⟩
      · obtain ⟨ex, env1, H1, nx1, dfs1, m1, hK, tri⟩ := ih y env H nx dfs m _ h'
        exact ⟨ex, env1, H1, nx1, dfs1, m1, hK, fun σ w a u c₀ cs Q hr ha hm hq => wpS_cond (t := false) (eval_bool ha hv) (tri σ w a u c₀ cs Q hr ha hm hq)⟩
    | block id x =>
      obtain ⟨ex, env1, H1, nx1, dfs1, m1, hK, tri⟩ := ih x env H nx dfs m _ h
      cases ex with
      | normal =>
        refine ⟨_, env1, H1, nx1, dfs1, m1, hK, fun σ w a u c₀ cs Q hr ha hm hq => wpS_block (tri σ w a u c₀ cs _ hr ha hm fun σ' w' a' e u' R E A X M => ?_)⟩
        cases e <;> first | exact X.elim | exact hq σ' w' a' _ u' R E A X M
      | exit i =>
        cases hb : Nat.beq i id with
        | true =>
          have hid := Nat.eq_of_beq_eq_true hb
          simp only [hb] at hK
          refine ⟨.normal, env1, H1, nx1, dfs1, m1, hK, fun σ w a u c₀ cs Q hr ha hm hq => wpS_block (tri σ w a u c₀ cs _ hr ha hm fun σ' w' a' e u' R E A X M => ?_)⟩
          cases e <;> first | exact X.elim | skip
          have X' : i = _ := X
          subst X'
          simp only [hid, if_true]
          exact hq σ' w' a' .normal u' R E A trivial M
        | false =>
          have hid : i ≠ id := fun e => by subst e; simp at hb
          simp only [hb] at hK
          refine ⟨.exit i, env1, H1, nx1, dfs1, m1, hK, fun σ w a u c₀ cs Q hr ha hm hq => wpS_block (tri σ w a u c₀ cs _ hr ha hm fun σ' w' a' e u' R E A X M => ?_)⟩
          cases e <;> first | exact X.elim | skip
          have X' : i = _ := X
          subst X'
          simp only [hid, if_false]
          exact hq σ' w' a' _ u' R E A rfl M
      | ret =>
        refine ⟨_, env1, H1, nx1, dfs1, m1, hK, fun σ w a u c₀ cs Q hr ha hm hq => wpS_block (tri σ w a u c₀ cs _ hr ha hm fun σ' w' a' e u' R E A X M => ?_)⟩
        cases e <;> first | exact X.elim | exact hq σ' w' a' _ u' R E A X M
      | pan l =>
        refine ⟨_, env1, H1, nx1, dfs1, m1, hK, fun σ w a u c₀ cs Q hr ha hm hq => wpS_block (tri σ w a u c₀ cs _ hr ha hm fun σ' w' a' e u' R E A X M => ?_)⟩
        cases e <;> first | exact X.elim | exact hq σ' w' a' _ u' R E A X M
    | exit id => exact ⟨.exit id, env, H, nx, dfs, m, h, TriN.toS (c := .exit id) (ex := .exit id) (fun σ w a Q hr ha hq => wp_exit (hq σ w a (.exit id) hr (Ext.refl _ _ _ _) ha rfl)) m⟩
    | ret => exact ⟨.ret, env, H, nx, dfs, m, h, TriN.toS (c := .ret) (ex := .ret) (fun σ w a Q hr ha hq => wp_ret (hq σ w a .ret hr (Ext.refl _ _ _ _) ha trivial)) m⟩
    | loop x => cases h
    | rangeFunc f p x y => cases h
    | scope x => cases h
    | label l => cases h
    | goto l => cases h
    | refuse s => cases h

/-! ### Calls -/
theorem enterEnv_get : ∀ (args : List AVal) (i : Nat) (env : Env) (t : Nat), i + args.length ≤ 256 → t < 256 →
    get2 t (enterEnv args i env) = if i ≤ t ∧ t < i + args.length then args.getD (t - i) .und else get2 t env
  | [], i, env, t, _, _ => by
    have : ¬ (i ≤ t ∧ t < i + ([] : List AVal).length) := by simp
    rw [if_neg this]; rfl
  | v :: args, i, env, t, h, ht => by
    show get2 t (enterEnv args (i + 1) (set2 i v env)) = _
    simp only [List.length_cons] at h
    rw [enterEnv_get args (i + 1) _ t (by omega) ht, get2_put (by omega) ht]
    by_cases h1 : i = t
    · subst h1
      rw [if_neg (by omega), if_pos rfl, if_pos (by simp)]
      simp
    · rw [if_neg h1]
      by_cases h2 : i + 1 ≤ t ∧ t < i + 1 + args.length
      · rw [if_pos h2, if_pos (by simp; omega)]
        have e : t - i = (t - (i + 1)) + 1 := by omega
        rw [e]; simp
      · rw [if_neg h2, if_neg (by simp; omega)]

theorem enter_rel {σ : Sg} {nt : Nat} {args : List AVal} {args' : List Value} (hn : nt ≤ 256) (hl : args.length ≤ nt) (hd : DenL σ args args') :
    EnvRel σ nt (enterEnv args 0 (all2 (.tuple []))) ((⟨args'⟩ : Array Value) ++ Array.replicate (nt - (⟨args'⟩ : Array Value).size) undef) := by
  have hlen := hd.length
  have hs : (⟨args'⟩ : Array Value).size = args'.length := rfl
  refine ⟨by simp; omega, hn, fun t ht => ?_⟩
  rw [enterEnv_get args 0 _ t (by omega) ht]
  by_cases h : t < args.length
  · rw [if_pos (by omega)]
    obtain ⟨v', e, d⟩ := hd.get t args[t] (by simp [List.getElem?_eq_getElem h])
    have e1 : ((⟨args'⟩ : Array Value) ++ Array.replicate (nt - (⟨args'⟩ : Array Value).size) undef).getD t undef = v' := by
      have : ((⟨args'⟩ : Array Value) ++ Array.replicate (nt - (⟨args'⟩ : Array Value).size) undef)[t]? = some v' := by
        rw [Array.getElem?_append_left (by rw [hs]; omega)]
        simpa using e
      rw [Array.getD_eq_getD_getElem?, this]
      rfl
    rw [e1]
    simpa [List.getD, List.getElem?_eq_getElem h] using d
  · rw [if_neg (by omega), get2_all]
    have e1 : ((⟨args'⟩ : Array Value) ++ Array.replicate (nt - (⟨args'⟩ : Array Value).size) undef).getD t undef = undef := by
      by_cases h2 : t < nt
      · have : ((⟨args'⟩ : Array Value) ++ Array.replicate (nt - (⟨args'⟩ : Array Value).size) undef)[t]? = some undef := by
          rw [Array.getElem?_append_right (by rw [hs]; omega), Array.getElem?_replicate, if_pos (by rw [hs]; omega)]
        rw [Array.getD_eq_getD_getElem?, this]
        rfl
      · have : ((⟨args'⟩ : Array Value) ++ Array.replicate (nt - (⟨args'⟩ : Array Value).size) undef)[t]? = none := by
          apply Array.getElem?_eq_none
          rw [Array.size_append, Array.size_replicate, hs]
          omega
        rw [Array.getD_eq_getD_getElem?, this]
        rfl
    rw [e1]
    exact .tuple .nil

theorem resultsA_ok {P : Program} {σ : Sg} {nt : Nat} {env : Env} {H : Heap} {nx : Nat} {w : World} {tmps : Array Value} (hr : Rel σ H nx w) (he : EnvRel σ nt env tmps) :
    ∀ (rs : List ResultVar) (vs : List AVal), resultsA P env H rs = some vs →
      ∃ vs', DenL σ vs vs' ∧ (rs.mapM (fun | .tmp t => pure (tmps.getD t undef) | .cell a t => do loadVar t (← asAddr (tmps.getD a undef))) : Sem (List Value)).run P w = .ok vs' w
  | [], vs, h => by cases h; exact ⟨[], .nil, rfl⟩
  | .tmp t :: l, vs, h => by
    unfold resultsA at h
    split at h <;> first | (cases h; done) | skip
    rename_i vs1 hle h1
    cases h
    obtain ⟨vs', hd, hrun⟩ := resultsA_ok hr he l vs1 h1
    refine ⟨tmps.getD t undef :: vs', .cons (he.den t (Nat.lt_of_le_of_lt (Nat.le_of_ble_eq_true hle) (by decide))) hd, ?_⟩
    simp only [List.mapM_cons, Sem.run_bind, Sem.run_pure, Result.andThen_ok, hrun]
  | .cell a t :: l, vs, h => by
    unfold resultsA at h
    split at h <;> first | (cases h; done) | skip
    rename_i vs1 hle h1
    split at h <;> first | (cases h; done) | skip
    rename_i v hv
    cases h
    obtain ⟨vs', hd, hrun⟩ := resultsA_ok hr he l vs1 h1
    have hda := he.den a (Nat.lt_of_le_of_lt (Nat.le_of_ble_eq_true hle) (by decide))
    obtain ⟨x', dx, hx⟩ := aLoad_ok (P := P) hr hda hv
    refine ⟨x' :: vs', .cons dx hd, ?_⟩
    have isptr : ∃ ad, tmps.getD a undef = .pointer (some ad) := by
      unfold aLoad at hv
      split at hv <;> first | (cases hv; done) | skip
      all_goals
        rename_i heq
        rw [heq] at hda
        cases hq : tmps.getD a undef <;> rw [hq] at hda <;> cases hda
        exact ⟨_, rfl⟩
    obtain ⟨ad, had⟩ := isptr
    rw [had] at hx
    have hx' : (loadVar t ad).run P w = .ok x' w := by simpa [Instr.loadAt, Instr.sureAddr] using hx
    have hasa : (asAddr (tmps.getD a undef)).run P w = .ok ad w := by rw [had]; rfl
    simp only [List.mapM_cons, Sem.run_bind, hasa, Result.andThen_ok, hx', hrun, Sem.run_pure]

theorem results_ok {P : Program} {σ : Sg} {nt : Nat} {env : Env} {H : Heap} {nx : Nat} {w : World} {tmps : Array Value} {fn : Func} {vs : List AVal} (hr : Rel σ H nx w) (he : EnvRel σ nt env tmps)
    (h : resultsA P env H fn.results.toList = some vs) : ∃ v', Den σ (oneOf vs) v' ∧ (results fn tmps).run P w = .ok v' w := by
  obtain ⟨vs', hd, hrun⟩ := resultsA_ok hr he _ vs h
  have hm : (fn.results.mapM (fun | .tmp t => pure (tmps.getD t undef) | .cell a t => do loadVar t (← asAddr (tmps.getD a undef))) : Sem (Array Value)).run P w = .ok ⟨vs'⟩ w := by
    rw [Array.mapM_eq_mapM_toList]
    simp only [Sem.run_map]
    rw [hrun]
    rfl
  refine ⟨if h : (⟨vs'⟩ : Array Value).size = 1 then (⟨vs'⟩ : Array Value)[0] else .tuple ⟨vs'⟩, ?_, ?_⟩
  · cases hd with
    | nil => exact .tuple .nil
    | cons h1 t1 => cases t1 with
      | nil => exact h1
      | cons h2 t2 => exact .tuple (.cons h1 (.cons h2 t2))
  · unfold results
    rw [Sem.run_bind]
    exact (congrArg (fun r : Result (Array Value) => r.andThen fun vs w' => Sem.run P (pure (if h : vs.size = 1 then vs[0] else .tuple vs)) w') hm).trans rfl

/-- A deferred call comes to this. -/
def TriD (P : Program) (f : FuncId) (args : List AVal) (m : AMode) (H : Heap) (nx : Nat) (e : AEnd) (m' : AMode) (H' : Heap) (nx' : Nat) : Prop :=
  ∀ (σ : Sg) (w : World) (args' : List Value) (u : FrameMode) (R : Ending → FrameMode → World → Prop), Rel σ H nx w → DenL σ args args' → MRel σ m u →
    (∀ σ' w' en u', Rel σ' H' nx' w' → Ext σ σ' H H' nx nx' w w' → EndRel σ' e en → MRel σ' m' u' → R en u' w') → CallsD P f ⟨args'⟩ u w R

def CallDSound (P : Program) (calld : FuncId → List AVal → AMode → Heap → Nat → (AEnd → AMode → Heap → Nat → Bool) → Bool) : Prop :=
  ∀ f args m H nx K, calld f args m H nx K = true → ∃ e m' H' nx', TriD P f args m H nx e m' H' nx' ∧ K e m' H' nx' = true ∧ hasBody P f = true

theorem settle_ok {σ : Sg} {m : AMode} {u : FrameMode} (h : MRel σ m u) : MRel σ (settleA m) (settle u) := by
  cases m with
  | returning => cases u <;> first | exact h.elim | trivial
  | panicking l =>
    cases u with
    | run => exact h.elim
    | returning => exact h.elim
    | panicking c =>
      have hc : Chain σ l c := h
      cases hc with
      | nil => exact Chain.nil
      | @cons v r p l c hv hr hg t =>
        obtain ⟨pv, pr, pg⟩ := p
        simp only at hr hg hv
        subst hr
        subst hg
        cases pr with
        | false => exact Chain.cons hv rfl rfl t
        | true =>
          have all : ∀ {l : List (AVal × Bool)} {c : List PanicEntry}, Chain σ l c → c.dropWhile (!·.goexit) = [] := by
            intro l c hch
            induction hch with
            | nil => rfl
            | cons hv hr hg t ih => simp [hg, ih]
          show MRel σ .returning (settle (.panicking ({ v := pv, recovered := true, goexit := false } :: c)))
          simp only [settle, all t]
          trivial

theorem raised_ok {σ : Sg} {m : AMode} {u : FrameMode} {l : List (AVal × Bool)} {c : List PanicEntry} (h : MRel σ m u) (hc : Chain σ l c) : MRel σ (raisedA m l) (raised u c) := by
  cases m with
  | returning => cases u <;> first | exact h.elim | exact hc
  | panicking l0 => cases u <;> first | exact h.elim | exact hc.append h

theorem mode_ne {σ : Sg} {m : AMode} {u : FrameMode} (h : MRel σ m u) : u ≠ .run := by
  rintro rfl
  cases m <;> exact h.elim

theorem leaveK_ok {P : Program} {calld : FuncId → List AVal → AMode → Heap → Nat → (AEnd → AMode → Heap → Nat → Bool) → Bool} (hcd : CallDSound P calld) {fn : Func} {nt : Nat} {env : Env} :
    ∀ (dfs : Dfs) (m : AMode) (H : Heap) (nx : Nat) (K : KEnd), leaveK P calld fn.results.toList env dfs m H nx K = true →
      ∃ e H' nx', K e H' nx' = true ∧ ∀ σ w u ds tmps R, Rel σ H nx w → EnvRel σ nt env tmps → DfsRel σ dfs ds → MRel σ m u →
        (∀ σ' w' en, Rel σ' H' nx' w' → Ext σ σ' H H' nx nx' w w' → EndRel σ' e en → R en w') → Leaves P fn tmps R ds u w
  | [], m, H, nx, K, h => by
    cases m with
    | returning =>
      have h' : (match resultsA P env H fn.results.toList with | some vs => K (.ret (oneOf vs)) H nx | none => false) = true := h
      split at h' <;> first | (cases h'; done) | skip
      rename_i vs hvs
      refine ⟨.ret (oneOf vs), H, nx, h', fun σ w u ds tmps R hr he hdf hm hR => ?_⟩
      cases hdf
      cases u <;> first | exact hm.elim | skip
      obtain ⟨v', dv, hrun⟩ := results_ok hr he hvs
      exact ⟨v', hrun, hR σ w _ hr (Ext.refl _ _ _ _) dv⟩
    | panicking l =>
      refine ⟨.pan l, H, nx, h, fun σ w u ds tmps R hr he hdf hm hR => ?_⟩
      cases hdf
      cases u <;> first | exact hm.elim | skip
      exact hR σ w _ hr (Ext.refl _ _ _ _) hm
  | (f, args) :: dfs, m, H, nx, K, h => by
    obtain ⟨e, m', H1, nx1, tri, hk, hbody⟩ := hcd f args m H nx _ h
    have next : ∃ e' H' nx', K e' H' nx' = true ∧ ∀ σ w u ds tmps R, Rel σ H1 nx1 w → EnvRel σ nt env tmps → DfsRel σ dfs ds → MRel σ (match e with | .ret _ => settleA m' | .pan l => raisedA m' l) u →
        (∀ σ' w' en, Rel σ' H' nx' w' → Ext σ σ' H1 H' nx1 nx' w w' → EndRel σ' e' en → R en w') → Leaves P fn tmps R ds u w := by
      cases e with
      | ret v => exact leaveK_ok hcd dfs _ H1 nx1 K hk
      | pan l => exact leaveK_ok hcd dfs _ H1 nx1 K hk
    obtain ⟨e', H', nx', hK, rest⟩ := next
    refine ⟨e', H', nx', hK, fun σ w u ds tmps R hr he hdf hm hR => ?_⟩
    cases hdf with
    | @cons _ _ d _ l' hd ht =>
      obtain ⟨cap, htar, hargs⟩ := hd
      refine ⟨mode_ne hm, .func f, cap, f, d.args ++ cap, htar, ?_, ?_⟩
      · rw [htar]
        simp only [invoke]
        exact run_callFunc hbody _ w
      · have hl : (⟨(d.args ++ cap).toList⟩ : Array Value) = d.args ++ cap := rfl
        rw [← hl]
        refine tri σ w _ u _ hr hargs hm fun σ1 w1 en u1 R1 E1 X1 M1 => ?_
        cases e with
        | ret v =>
          cases en with
          | returned v' => exact rest σ1 w1 (settle u1) l' tmps R R1 (he.mono E1.sub) (ht.mono E1.sub) (settle_ok M1) fun σ2 w2 en2 R2 E2 X2 => hR σ2 w2 en2 R2 (E1.trans E2) X2
          | panicked c => exact X1.elim
          | outgrown => exact X1.elim
        | pan l =>
          cases en with
          | returned v' => exact X1.elim
          | panicked c => exact rest σ1 w1 (raised u1 c) l' tmps R R1 (he.mono E1.sub) (ht.mono E1.sub) (raised_ok M1 X1) fun σ2 w2 en2 R2 E2 X2 => hR σ2 w2 en2 R2 (E1.trans E2) X2
          | outgrown => exact X1.elim

theorem hasBody_of {P : Program} {f : FuncId} {fn : Func} {c : Code} (hf : P.funcs[f]? = some fn) (hb : fn.body = some c) (hn : (fn.name == "runtime.NumGoroutine") = false) : hasBody P f = true := by
  simp [hasBody, hf, hb, hn]

theorem callsK_ok {P : Program} (hd : ∀ call, CallSound P call → DrawnSound P call) : ∀ n, CallSound P (callsK P n).1 ∧ CallDSound P (callsK P n).2 := by
  intro n
  induction n with
  | zero => exact ⟨(fun f args H nx K h => by cases h), (fun f args m H nx K h => by cases h)⟩
  | succ n ih =>
    obtain ⟨ih1, ih2⟩ := ih
    have hdr := hd _ ih1
    refine ⟨?_, ?_⟩
    · intro f args H nx K h
      have h' : (match P.funcs[f]? with
        | some fn => match fn.body, Nat.ble fn.ntmps 256, Nat.ble args.length fn.ntmps with
          | some c, true, true => evK P (callsK P n).1 fn.ntmps loopFuel c (enterEnv args 0 (all2 (.tuple []))) H nx [] none (bodyK P (callsK P n).2 fn.results.toList K)
          | _, _, _ => false
        | none => false) = true := h
      split at h' <;> first | (cases h'; done) | skip
      rename_i fn hf
      split at h' <;> first | (cases h'; done) | skip
      rename_i c hb hn hl
      have hn' := Nat.le_of_ble_eq_true hn
      have hl' := Nat.le_of_ble_eq_true hl
      obtain ⟨⟨ex, env1, H1, nx1, dfs1, hK, tri⟩, _⟩ := evK_none ih1 hdr _ c _ H nx [] _ h'
      have key : ∃ e H' nx', K e H' nx' = true ∧ ∀ σ w a R ce, Rel σ H1 nx1 w → ARel σ fn.ntmps env1 dfs1 a → ExRel σ ex ce →
          (∀ σ' w' en, Rel σ' H' nx' w' → Ext σ σ' H1 H' nx1 nx' w w' → EndRel σ' e en → R en w') → bodyPostD P fn R ce a w := by
        cases ex with
        | normal =>
          obtain ⟨e, H', nx', hk, lv⟩ := leaveK_ok (fn := fn) (nt := fn.ntmps) ih2 dfs1 .returning H1 nx1 K hK
          refine ⟨e, H', nx', hk, fun σ w a R ce hr ha hx hR => ?_⟩
          cases ce <;> first | exact hx.elim | skip
          exact lv σ w .returning _ _ R hr ha.env ha.dfs trivial hR
        | ret =>
          obtain ⟨e, H', nx', hk, lv⟩ := leaveK_ok (fn := fn) (nt := fn.ntmps) ih2 dfs1 .returning H1 nx1 K hK
          refine ⟨e, H', nx', hk, fun σ w a R ce hr ha hx hR => ?_⟩
          cases ce <;> first | exact hx.elim | skip
          exact lv σ w .returning _ _ R hr ha.env ha.dfs trivial hR
        | pan l =>
          obtain ⟨e, H', nx', hk, lv⟩ := leaveK_ok (fn := fn) (nt := fn.ntmps) ih2 dfs1 (.panicking l) H1 nx1 K hK
          refine ⟨e, H', nx', hk, fun σ w a R ce hr ha hx hR => ?_⟩
          cases ce <;> first | exact hx.elim | skip
          exact lv σ w (.panicking _) _ _ R hr ha.env ha.dfs hx hR
        | exit i => cases hK
      obtain ⟨e, H', nx', hk, lv⟩ := key
      refine ⟨e, H', nx', fun σ w args' R hr hda hR => ?_, hk⟩
      refine calls_of_wp_defers hf hb ?_
      refine tri σ w _ _ hr ⟨enter_rel hn' hl' hda, .nil⟩ fun σ1 w1 a1 e1 R1 E1 A1 X1 => ?_
      exact lv σ1 w1 a1 R e1 R1 A1 X1 fun σ2 w2 en R2 E2 X2 => hR σ2 w2 en R2 (E1.trans E2) X2
    · intro f args m H nx K h
      have h' : (match P.funcs[f]? with
        | some fn => match fn.body, Nat.ble fn.ntmps 256, Nat.ble args.length fn.ntmps, hasBody P f with
          | some c, true, true, true => evK P (callsK P n).1 fn.ntmps loopFuel c (enterEnv args 0 (all2 (.tuple []))) H nx [] (some m) fun e env H nx dfs rc => match e, dfs, rc with
            | .normal, [], some m' => match resultsA P env H fn.results.toList with
              | some vs => K (.ret (oneOf vs)) m' H nx
              | none => false
            | .ret, [], some m' => match resultsA P env H fn.results.toList with
              | some vs => K (.ret (oneOf vs)) m' H nx
              | none => false
            | .pan l, [], some m' => K (.pan l) m' H nx
            | _, _, _ => false
          | _, _, _, _ => false
        | none => false) = true := h
      split at h' <;> first | (cases h'; done) | skip
      rename_i fn hf
      split at h' <;> first | (cases h'; done) | skip
      rename_i c hb hn hl hbody
      have hn' := Nat.le_of_ble_eq_true hn
      have hl' := Nat.le_of_ble_eq_true hl
      obtain ⟨ex, env1, H1, nx1, dfs1, m1, hK, tri⟩ := evK_some ih1 hdr _ c _ H nx [] m _ h'
      have key : ∃ e, K e m1 H1 nx1 = true ∧ ∀ σ w a R ce u' (c₀ : Frame) cs, Rel σ H1 nx1 w → ARel σ fn.ntmps env1 dfs1 a → ExRel σ ex ce →
          (∀ en, EndRel σ e en → R en u' w) → bodyPostS P fn c₀ cs R ce a ({ c₀ with mode := u' } :: cs) w := by
        cases ex with
        | normal =>
          cases dfs1 with
          | cons d ds => cases hK
          | nil =>
            have hK' : (match resultsA P env1 H1 fn.results.toList with | some vs => K (.ret (oneOf vs)) m1 H1 nx1 | none => false) = true := hK
            split at hK' <;> first | (cases hK'; done) | skip
            rename_i vs hvs
            refine ⟨_, hK', fun σ w a R ce u' c₀ cs hr ha hx hR => ?_⟩
            cases ce <;> first | exact hx.elim | skip
            obtain ⟨v', dv, hrun⟩ := results_ok (fn := fn) hr ha.env hvs
            have hdf : a.defers = [] := by cases hq : a.defers with | nil => rfl | cons x y => have := ha.dfs; rw [hq] at this; cases this
            exact ⟨hdf, u', rfl, v', hrun, hR _ dv⟩
        | ret =>
          cases dfs1 with
          | cons d ds => cases hK
          | nil =>
            have hK' : (match resultsA P env1 H1 fn.results.toList with | some vs => K (.ret (oneOf vs)) m1 H1 nx1 | none => false) = true := hK
            split at hK' <;> first | (cases hK'; done) | skip
            rename_i vs hvs
            refine ⟨_, hK', fun σ w a R ce u' c₀ cs hr ha hx hR => ?_⟩
            cases ce <;> first | exact hx.elim | skip
            obtain ⟨v', dv, hrun⟩ := results_ok (fn := fn) hr ha.env hvs
            have hdf : a.defers = [] := by cases hq : a.defers with | nil => rfl | cons x y => have := ha.dfs; rw [hq] at this; cases this
            exact ⟨hdf, u', rfl, v', hrun, hR _ dv⟩
        | pan l =>
          cases dfs1 with
          | cons d ds => cases hK
          | nil =>
            refine ⟨.pan l, hK, fun σ w a R ce u' c₀ cs hr ha hx hR => ?_⟩
            cases ce <;> first | exact hx.elim | skip
            have hdf : a.defers = [] := by cases hq : a.defers with | nil => rfl | cons x y => have := ha.dfs; rw [hq] at this; cases this
            exact ⟨hdf, u', rfl, hR _ hx⟩
        | exit i => cases dfs1 <;> cases hK
      obtain ⟨e, hk, lv⟩ := key
      refine ⟨e, m1, H1, nx1, fun σ w args' u R hr hda hm hR => ?_, hk, hbody⟩
      refine callsD_of_wpS hf hb fun c₀ cs hu => ?_
      have hc0 : ({ c₀ with mode := u } : Frame) = c₀ := by subst hu; rfl
      have := tri σ w { tmps := (⟨args'⟩ : Array Value) ++ Array.replicate (fn.ntmps - (⟨args'⟩ : Array Value).size) undef, defers := [] } u c₀ cs (bodyPostS P fn c₀ cs R) hr ⟨enter_rel hn' hl' hda, .nil⟩ hm
        (fun σ1 w1 a1 e1 u1 R1 E1 A1 X1 M1 => lv σ1 w1 a1 R e1 u1 c₀ cs R1 A1 X1 fun en X => hR σ1 w1 en u1 R1 E1 X M1)
      rw [hc0] at this
      exact this

end Go.Ev
