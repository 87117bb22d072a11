/-
  Own work. Texts of a proof, laid together; no condition.
-/
import Derived.LoopN
import Derived.ChangeSame
import Derived.RowKit3
import Derived.OpenShut
import Derived.ChangeReads
import Derived.Test.YtjjhihcgiogjjaaPls1
set_option linter.unusedSectionVars false
set_option linter.unusedVariables false
set_option linter.unusedSimpArgs false
set_option maxRecDepth 1000000
section
namespace Go.Vs
variable [GTab]
def TriC (P : Program) (f : FuncId) (args : List AVal) (H : Heap) (nx : Nat) (K : KEnd) : Prop :=
 ∀ (σ : Sg) (w : World) (args' : List Value) (R : Ending → World → Prop), Rel σ H nx w → DenL σ args args' →
  (∀ e H' nx' σ' w' en, K e H' nx' = true → Rel σ' H' nx' w' → Ext σ σ' H H' nx nx' w w' → EndRel σ' e en → R en w') → Calls P f ⟨args'⟩ w R
def CallS (P : Program) (call : CallK) : Prop := ∀ f args H nx K, call f args H nx K = true → TriC P f args H nx K
theorem actK_okK {P : Program} {call : CallK} {nt : Nat} {ops : Array Oper} {o : Oper} {env : Env} {H : Heap} {nx : Nat} {dfs : Dfs} {rc : Option AMode} {k : Env → Heap → Nat → Bool} {K : Kont} {env0 : Env}
  (hc : CallS P call) (h : actK P call ops o env H nx dfs rc k K env0 = true) {envm : Env} {σ : Sg} {w : World} {a : Act} {next : Act → World → Prop} {Q : Exit → Act → World → Prop}
  (hr : Rel σ H nx w) (M : EnvRel σ nt envm a.tmps) (e1 : wantedA ops o.guard envm = wantedA ops o.guard env) (e2 : ∀ x ∈ o.op.operands, aev envm x = aev env x)
  (hn : ∀ v H1 nx1 σ1 w1 v', k (put o.dst v env) H1 nx1 = true → Rel σ1 H1 nx1 w1 → Ext σ σ1 H H1 nx nx1 w w1 → Den σ1 v v' → next (a.put o.dst v') w1)
  (hp : ∀ l H1 nx1 σ1 w1 c, K (.pan l) env0 H1 nx1 dfs rc = true → Rel σ1 H1 nx1 w1 → Ext σ σ1 H H1 nx nx1 w w1 → Chain σ1 l c → Q (.panic c) a w1) : Took P ops o a w next Q := by
 unfold actK at h
 split at h <;> try (cases h; done)
 ·rename_i hw
  unfold Took
  rw [if_pos (wanted_ok (e1.trans hw) M)]
  split at h <;> try (cases h; done)
  ·rename_i v H1 nx1 hop
   obtain ⟨σ', w', v', R, E, D, hrun⟩ := aop_ok ((aop_congr e2).trans hop) σ w a.eval hr M.aev
   refine .inl ?_
   unfold Oper.wp
   rcases hrun with hrun | ⟨hrun, rfl⟩
   ·rw [hrun]; exact hn v H1 nx1 σ' w' _ h R E D
   ·rw [hrun]; exact hn v H1 nx1 σ' w' _ h R E D
  ·rename_i f args hop
   have tri := hc f args H nx _ h
   obtain ⟨args', hl, hrun⟩ := aop_ok ((aop_congr e2).trans hop) σ w a.eval hr M.aev
   refine .inl ?_
   unfold Oper.wp
   rw [hrun]
   show Calls P f ⟨args'⟩ w _
   refine tri σ w args' _ hr hl fun e H' nx' σ' w' en hk R E he => ?_
   cases e with
   | ret v =>
    cases en with
    | returned v' => exact hn v H' nx' σ' w' _ hk R E he
    | panicked c => exact he.elim
    | outgrown => exact he.elim
   | pan l =>
    cases en with
    | returned v' => exact he.elim
    | panicked c => exact hp l H' nx' σ' w' c hk R E he
    | outgrown => exact he.elim
  ·rename_i v hop
   obtain ⟨v', dv, hrun⟩ := aop_ok ((aop_congr e2).trans hop) σ w a.eval hr M.aev
   refine .inl ?_
   unfold Oper.wp
   rw [hrun]
   exact hp [(v, false)] H nx σ w [{ v := v', recovered := false }] h hr (Ext.refl _ _ _ _) (.cons dv rfl rfl .nil)
 ·rename_i hw
  unfold Took
  rw [if_neg (by rw [wanted_ok (e1.trans hw) M]; simp)]
  exact hn (.tuple []) H nx σ w undef h hr (Ext.refl _ _ _ _) (.tuple .nil)
theorem named_append : ∀ (a b : List Stage), named (a ++ b) = named a ++ named b
 | [], b => rfl
 | (e, L, A) :: a, b => by
  rw [List.cons_append]
  simp only [named, List.cons_append, List.append_assoc, named_append a b]
theorem Inv.act {P : Program} {call : CallK} {nt : Nat} {ops : Array Oper} {as : List Nat} {res : Nat} {σ0 : Sg} {H0 : Heap} {w0 : World} {dfs : Dfs} {rc : Option AMode} {past past' : List Nat} {e : Nat} {L A : List Nat} {R : List Stage} {oe : Oper} {env : Env} {H : Heap} {nx : Nat} {listed : Array Bool} {σ : Sg} {w : World} {a : Act} {k : Env → Heap → Nat → Bool} {K : Kont}
  (hc : CallS P call) (F : OpsFact nt ops as) (hn : nt ≤ 256) (hlim : res + ops.size ≤ res + ops.size) (I : Inv P nt ops as res σ0 H0 w0 dfs past ((e, L, A) :: R) env H nx listed σ w a) (hoe : ops[e]? = some oe) (he : e ∉ named R) (hr : ∀ j, bit (as.getD e 0) j = true → isL listed j)
  (hfresh : freshOf ops past e oe = true) (hL : allL (fun i => bit (as.getD i 0) e) L = true) (hF : chkF ops L past = some past') (hA : chkA ops (as.getD e 0) A past' = true) (h' : actK P call ops oe env H nx dfs rc k K env = true) {RN : Env → Heap → Nat → Prop}
  (hnext : ∀ env1 H1 nx1, k env1 H1 nx1 = true → ∃ kf : Env → Heap → Bool, floatsK P ops res nx1 kf L env1 H1 = true ∧ ∀ env2 H2, kf env2 H2 = true → againK P ops env2 H2 nx1 A = true ∧ RN env2 H2 nx1)
  {Q : Exit → Act → World → Prop} {next : Act → World → Prop}
  (hK : ∀ env2 H2 nx2 σ1 w1 a1, RN env2 H2 nx2 → Inv P nt ops as res σ0 H0 w0 dfs past' R env2 H2 nx2 (listed.setIfInBounds e true) σ1 w1 a1 → (∀ t, t < 256 → (∀ (j : Nat) (q : Oper), ops[j]? = some q → q.dst ≠ some t) → get2 t env2 = get2 t env) → next a1 w1)
  (hP : ∀ l H1 nx1 σ1 w1 c, K (.pan l) env H1 nx1 dfs rc = true → Rel σ1 H1 nx1 w1 → Ext σ0 σ1 H0 H1 res nx1 w0 w1 → (∀ t, t < 256 → (∀ (j : Nat) (q : Oper), ops[j]? = some q → q.dst ≠ some t) → Den σ1 (get2 t env) (a.tmps.getD t undef)) → DfsRel σ1 dfs a.defers → a.tmps.size = nt → Chain σ1 l c → Q (.panic c) a w1) :
  wpOp P ops Q e next a w := by
 have hde := F.dst e oe hoe
 have helt : e < ops.size := (Array.getElem?_eq_some_iff.1 hoe).1
 have pastiff := chkF_past hF
 have eun : ¬ isL listed e := I.todo e (by unfold named; exact List.mem_cons_self ..)
 have Lun : ∀ j, j ∈ L → ¬ isL listed j := fun j hj => I.todo j (by unfold named; exact List.mem_cons_of_mem _ (List.mem_append_left _ hj))
 have Lne : ∀ j, j ∈ L → j ≠ e := fun j hj q => by
  subst q
  have := F.lt j oe hoe j (allL_ok hL j hj)
  omega
 have Llt : ∀ j, j ∈ L → j < ops.size := fun j hj => by
  obtain ⟨o, ho, _⟩ := chkF_cls hF j hj
  exact (Array.getElem?_eq_some_iff.1 ho).1
 have S : ∀ j, isL (listed.setIfInBounds e true) j ↔ (j = e ∨ isL listed j) := fun j => isL_set (by rw [I.size]; exact helt)
 obtain ⟨envm, M, hw, hx⟩ := I.view F hn hoe hr
 unfold wpOp
 rw [hoe]
 refine actK_okK hc h' I.rel M hw hx (fun v H1 nx1 σ1 w1 v' hk R' E D => ?_) (fun l H1 nx1 σ1 w1 c hk R' E C => ?_)
 ·obtain ⟨kf, hk1, hk4⟩ := hnext _ H1 nx1 hk
  obtain ⟨env2, H2, hk2, b1, b2, b3, b4, b5⟩ := floatsK_ok F hn hlim L past past' _ H1 hF hk1
  obtain ⟨hag, hk3⟩ := hk4 env2 H2 hk2
  have hnx := E.le
  have hpl := I.lim
  have pend1 : ∀ j, j < ops.size → ¬ isL listed j → σ1 (res + j) = none ∧ get5 (res + j) H1 = get5 (res + j) H := fun j hj hnl => E.pend (res + j) (by omega) (I.pend j hj hnl)
  refine hK env2 H2 nx1 σ1 w1 _ hk3 ⟨?_, ?_, ?_, ?_, ?_, ?_, ?_, ?_, ?_, ?_, ?_, ?_, ?_⟩ fun t ht hno => by rw [b1 t ht fun j q _ hq => hno j q hq, get2_put' hde hn ht (hno e oe hoe)]
  ·rw [Array.size_setIfInBounds]; exact I.size
  ·cases hdst : oe.dst with
   | none => exact I.tsize
   | some d => show (a.tmps.setIfInBounds d v').size = nt; rw [Array.size_setIfInBounds]; exact I.tsize
  ·intro j k hj hb
   rw [S] at hj ⊢
   rcases hj with rfl | hj
   ·exact .inr (hr k hb)
   ·exact .inr (I.closed j k hj hb)
  ·intro j hj hlj
   rw [S] at hlj
   have hj' : j ∈ named ((e, L, A) :: R) := by unfold named; exact List.mem_cons_of_mem _ (List.mem_append_right _ hj)
   rcases hlj with rfl | hlj
   ·exact he hj
   ·exact I.todo j hj' hlj
  ·intro j hj
   rw [S]
   rcases I.all j hj with h | h | h
   ·exact .inl ((pastiff j).2 (.inl h))
   ·unfold named at h
    rcases List.mem_cons.1 h with rfl | h
    ·exact .inr (.inr (.inl rfl))
    ·rcases List.mem_append.1 h with h | h
     ·exact .inl ((pastiff j).2 (.inr h))
     ·exact .inr (.inl h)
   ·exact .inr (.inr (.inr h))
  ·intro t ht hown
   have hnotL : ∀ (j : Nat) (q : Oper), j ∈ L → ops[j]? = some q → q.dst ≠ some t := by
    intro j q hj hq hd
    have := hown j q hq hd
    rw [S] at this
    rcases this with h | h
    ·exact Lne j hj h
    ·exact Lun j hj h
   rw [b1 t ht hnotL]
   by_cases ed : oe.dst = some t
   ·rw [ed]
    show Den σ1 (get2 t (put (some t) v env)) ((a.tmps.setIfInBounds t v').getD t undef)
    have : t < a.tmps.size := by rw [I.tsize]; rw [ed] at hde; exact Nat.le_of_ble_eq_true hde
    rw [getD_put _ _ _ _ this, if_pos rfl, get2_put_same]
    exact D
   ·rw [get2_put' hde hn ht ed]
    have h1 : (a.put oe.dst v').tmps.getD t undef = a.tmps.getD t undef := by
     cases hdst : oe.dst with
     | none => rfl
     | some d =>
      show (a.tmps.setIfInBounds d v').getD t undef = _
      have : d < a.tmps.size := by rw [I.tsize]; rw [hdst] at hde; exact Nat.le_of_ble_eq_true hde
      rw [getD_put _ _ _ _ this, if_neg (fun q => ed (by rw [hdst, q]))]
    rw [h1]
    refine (I.den t ht fun j q hj hq => ?_).mono E.sub
    have := hown j q hj hq
    rw [S] at this
    rcases this with rfl | h
    ·rw [hoe] at hj; cases hj; exact (ed hq).elim
    ·exact h
  ·intro j q hj hq hlj hcl
   have hnl : ¬ isL listed j := fun h => hlj ((S j).2 (.inr h))
   have hjne : j ≠ e := fun h => hlj ((S j).2 (.inl h))
   cases hip : impure q.op with
   | true =>
    have h1 := allL_ok hA j hj
    rw [hq] at h1
    simp only [hip] at h1
    have hmem : j ∈ A := by
     split at h1
     ·exact memN_ok ‹_›
     ·exact (hlj ((S j).2 (.inr (hr j h1)))).elim
    have h3 := allL_ok hag j hmem
    rw [hq] at h3
    exact again1_fl0 hcl h3
   | false =>
    rcases (pastiff j).1 hj with hj | hj
    ·obtain ⟨_, q0, hq0, hfr⟩ := freshOf_ok hfresh j hj
     rw [hq] at hq0
     cases hq0
     refine (I.fl0 j q hj hq hnl hcl).keep hcl hip ?_ ?_
     ·intro t ht hlt
      rw [b1 t hlt fun j' q' hj' hq' ed => ?_]
      ·exact get2_put' hde hn hlt fun ed => hfr t ed ht
      ·obtain ⟨_, q1, o1, e1, e2, e3⟩ := chkF_fresh hF j hj j' hj'
       rw [hq] at e1; cases e1
       rw [hq'] at e2; cases e2
       exact e3 t ed ht
     ·intro d hd
      have hdl : d < 256 := Nat.lt_of_lt_of_le (by have := F.dst j q hq; rw [hd] at this; exact Nat.le_of_ble_eq_true this) hn
      rw [b1 d hdl fun j' q' hj' hq' ed => (chkF_fresh hF j hj j' hj').1 (F.uniq j j' q q' d hq hq' hd ed)]
      exact get2_put' hde hn hdl fun ed => hjne (F.uniq j e q oe d hq hoe hd ed)
    ·exact b5 j q hj hq hcl hip
  ·intro j q hj hq hlj hcl
   have hnl : ¬ isL listed j := fun h => hlj ((S j).2 (.inr h))
   have hjne : j ≠ e := fun h => hlj ((S j).2 (.inl h))
   have hjlt : j < ops.size := (Array.getElem?_eq_some_iff.1 hq).1
   rcases (pastiff j).1 hj with hj | hj
   ·obtain ⟨_, q0, hq0, hfr⟩ := freshOf_ok hfresh j hj
    rw [hq] at hq0
    cases hq0
    refine (I.fl1 j q hj hq hnl hcl).keep ?_ ?_ ?_
    ·intro t ht hlt
     rw [b1 t hlt fun j' q' hj' hq' ed => ?_]
     ·exact get2_put' hde hn hlt fun ed => hfr t ed ht
     ·obtain ⟨_, q1, o1, e1, e2, e3⟩ := chkF_fresh hF j hj j' hj'
      rw [hq] at e1; cases e1
      rw [hq'] at e2; cases e2
      exact e3 t ed ht
    ·intro d hd
     have hdl : d < 256 := Nat.lt_of_lt_of_le (by have := F.dst j q hq; rw [hd] at this; exact Nat.le_of_ble_eq_true this) hn
     rw [b1 d hdl fun j' q' hj' hq' ed => (chkF_fresh hF j hj j' hj').1 (F.uniq j j' q q' d hq hq' hd ed)]
     exact get2_put' hde hn hdl fun ed => hjne (F.uniq j e q oe d hq hoe hd ed)
    ·rw [b2 _ (by omega) fun j' hj' ed => (chkF_fresh hF j hj j' hj').1 (by omega)]
     exact (pend1 j hjlt hnl).2
   ·exact b4 j q hj hq hcl
  ·intro j hj hlj
   exact (pend1 j hj fun h => hlj ((S j).2 (.inr h))).1
  ·omega
  ·exact b3 σ1 w1 R' fun j hj => (pend1 j (Llt j hj) (Lun j hj)).1
  ·have E2 := I.ext.trans E
   refine ⟨E2.sub, E2.rng, ?_, E2.le, E2.os, E2.tape, E2.output, E2.size, E2.frame⟩
   intro b hb h0
   obtain ⟨p1, p2⟩ := E2.pend b hb h0
   exact ⟨p1, (b2 b (by omega) fun j _ => by omega).trans p2⟩
  ·have : (a.put oe.dst v').defers = a.defers := by cases oe.dst <;> rfl
   rw [this]; exact I.dfs.mono E.sub
 ·exact hP l H1 nx1 σ1 w1 c hk R' (I.ext.trans E) (fun t ht hno => (I.den t ht fun j q hj hq => (hno j q hj hq).elim).mono E.sub) (I.dfs.mono E.sub) I.tsize C
def RunP (P : Program) (call : CallK) (ops : Array Oper) (res : Nat) (dfs : Dfs) (rc : Option AMode) (Kp : List (AVal × Bool) → Heap → Nat → Prop) (Kn : Env → Heap → Nat → Prop) : List Stage → Env → Heap → Nat → Prop
 | [], env, H, nx => Kn env H nx
 | (e, L, A) :: rest, env, H, nx => ∀ oe, ops[e]? = some oe → ∃ (k : Env → Heap → Nat → Bool) (K : Kont), actK P call ops oe env H nx dfs rc k K env = true ∧
   (∀ l H1 nx1, K (.pan l) env H1 nx1 dfs rc = true → Kp l H1 nx1) ∧
   ∀ env1 H1 nx1, k env1 H1 nx1 = true → ∃ kf : Env → Heap → Bool, floatsK P ops res nx1 kf L env1 H1 = true ∧
    ∀ env2 H2, kf env2 H2 = true → againK P ops env2 H2 nx1 A = true ∧ RunP P call ops res dfs rc Kp Kn rest env2 H2 nx1
noncomputable def endPast (ops : Array Oper) : List Stage → List Nat → List Nat
 | [], past => past
 | (_, L, _) :: rest, past => endPast ops rest (match chkF ops L past with | some p => p | none => past)
theorem stages_sem {P : Program} {call : CallK} {nt : Nat} {ops : Array Oper} {as : List Nat} {res : Nat} {dfs : Dfs} {rc : Option AMode} {env0 : Env} {Kp : List (AVal × Bool) → Heap → Nat → Prop} {Kn : Env → Heap → Nat → Prop} (tail : List Stage)
  (hc : CallS P call) (F : OpsFact nt ops as) (hn : nt ≤ 256) (hlim : res + ops.size ≤ res + ops.size) :
  ∀ (rest : List Stage) (prev : Option Nat) (past : List Nat) (env : Env) (H : Heap) (nx : Nat), chkS ops as rest prev past = true → (∀ s, s ∈ rest → ∀ i, i ∈ named tail → bit (as.getD i 0) s.1 = true) →
   (∀ i, i ∈ past → ∃ o, ops[i]? = some o ∧ (cls o.op = 0 ∨ cls o.op = 1)) →
   (∀ t, t < 256 → get2 t env0 = .und ∨ ((∀ (j : Nat) (q : Oper), ops[j]? = some q → q.dst ≠ some t) ∧ get2 t env0 = get2 t env)) → RunP P call ops res dfs rc Kp Kn rest env H nx →
   ∀ σ0 H0 w0 Q, (∀ l H' nx' σ' w' a' c, Kp l H' nx' → Rel σ' H' nx' w' → Ext σ0 σ' H0 H' res nx' w0 w' → ARel σ' nt env0 dfs a' → Chain σ' l c → Q (.panic c) a' w') →
    (∀ env' H' nx', Kn env' H' nx' → (∀ i, i ∈ endPast ops rest past → ∃ o, ops[i]? = some o ∧ (cls o.op = 0 ∨ cls o.op = 1)) →
     ∀ fuel listed σ w a, Inv P nt ops as res σ0 H0 w0 dfs (endPast ops rest past) tail env' H' nx' listed σ w a → left ops listed ≤ fuel → wpAny P .any ops Q fuel listed a w) →
    ∀ fuel listed σ w a, Inv P nt ops as res σ0 H0 w0 dfs past (rest ++ tail) env H nx listed σ w a → left ops listed ≤ fuel → wpAny P .any ops Q fuel listed a w
 | [], prev, past, env, H, nx, _, _, hpast, _, h => fun σ0 H0 w0 Q hQ hT => hT env H nx h hpast
 | (e, L, A) :: rest, prev, past, env, H, nx, hchk, htl, hpast, hblank, h => by
  intro σ0 H0 w0 Q hQ hT
  unfold chkS at hchk
  split at hchk <;> try (cases hchk; done)
  rename_i oe hoe hprev
  split at hchk <;> try (cases hchk; done)
  rename_i hfresh hL
  split at hchk <;> try (cases hchk; done)
  rename_i past' hF
  split at hchk <;> try (cases hchk; done)
  rename_i hA
  obtain ⟨k, K, h', hpan, hnext⟩ := h oe hoe
  have hT : ∀ env' H' nx', Kn env' H' nx' → (∀ i, i ∈ endPast ops rest past' → ∃ o, ops[i]? = some o ∧ (cls o.op = 0 ∨ cls o.op = 1)) →
     ∀ fuel listed σ w a, Inv P nt ops as res σ0 H0 w0 dfs (endPast ops rest past') tail env' H' nx' listed σ w a → left ops listed ≤ fuel → wpAny P .any ops Q fuel listed a w := by
   have e0 : endPast ops ((e, L, A) :: rest) past = endPast ops rest past' := by
    show endPast ops rest (match chkF ops L past with | some p => p | none => past) = _
    rw [hF]
   rw [e0] at hT
   exact hT
  have hde := F.dst e oe hoe
  have helt : e < ops.size := (Array.getElem?_eq_some_iff.1 hoe).1
  have pastiff := chkF_past hF
  have who : ∀ {σ0 H0 w0 listed σ w a}, Inv P nt ops as res σ0 H0 w0 dfs past ((e, L, A) :: rest ++ tail) env H nx listed σ w a → ∀ i o, ops[i]? = some o → (∀ j, bit (as.getD i 0) j = true → isL listed j) → i ∈ named ((e, L, A) :: rest ++ tail) → i = e := by
   intro σ0 H0 w0 listed σ w a I i o ho hr hi
   have ebad : ¬ isL listed e := I.todo e (by rw [List.cons_append]; unfold named; exact List.mem_cons_self ..)
   rw [List.cons_append] at hi
   unfold named at hi
   rcases List.mem_cons.1 hi with rfl | hi
   ·rfl
   ·rcases List.mem_append.1 hi with hi | hi
    ·exact (ebad (hr e (allL_ok hL i hi))).elim
    ·rw [named_append] at hi
     rcases List.mem_append.1 hi with hi | hi
     ·obtain ⟨j, hj, hb⟩ := chkS_pred hchk i hi
      rcases hj with rfl | hj
      ·exact (ebad (hr j hb)).elim
      ·exact (I.todo j (by rw [List.cons_append]; unfold named; rw [named_append]; exact List.mem_cons_of_mem _ (List.mem_append_right _ (List.mem_append_left _ hj))) (hr j hb)).elim
     ·exact (ebad (hr e (htl (e, L, A) (List.mem_cons_self ..) i hi))).elim
  have loop : ∀ {Q : Exit → Act → World → Prop}, (∀ fuel listed σ w a, Inv P nt ops as res σ0 H0 w0 dfs past ((e, L, A) :: rest ++ tail) env H nx listed σ w a → left ops listed ≤ fuel + 1 → (∀ j, bit (as.getD e 0) j = true → isL listed j) →
    wpOp P ops Q e (wpAny P .any ops Q fuel (listed.setIfInBounds e true)) a w) →
    ∀ fuel listed σ w a, Inv P nt ops as res σ0 H0 w0 dfs past ((e, L, A) :: rest ++ tail) env H nx listed σ w a → left ops listed ≤ fuel → wpAny P .any ops Q fuel listed a w := by
   intro Q hact fuel
   have eun : ∀ {listed σ w a}, Inv P nt ops as res σ0 H0 w0 dfs past ((e, L, A) :: rest ++ tail) env H nx listed σ w a → ¬ isL listed e := fun I => I.todo e (by rw [List.cons_append]; unfold named; exact List.mem_cons_self ..)
   induction fuel with
   | zero =>
    intro listed σ w a I hl
    exact (eun I (left_zero (by omega : left ops listed = 0) e helt)).elim
   | succ fuel ih =>
    intro listed σ w a I hl
    refine ⟨fun hnil => (eun I (ready_nil F I.size hnil e helt)).elim, fun i hi => ?_⟩
    obtain ⟨o, ho, hnl, hed⟩ := (mem_ready I.size).1 hi
    have hlt : i < ops.size := (Array.getElem?_eq_some_iff.1 ho).1
    have hr : ∀ j, bit (as.getD i 0) j = true → isL listed j := fun j hj => by
     obtain ⟨g, hg, hb, hc'⟩ := F.ahead i o ho j hj
     rcases hc' with rfl | hc'
     ·exact hed g hg hb
     ·exact I.closed _ j (hed g hg hb) hc'
    by_cases hin : i ∈ named ((e, L, A) :: rest ++ tail)
    ·have := who I i o ho hr hin
     subst this
     exact hact fuel listed σ w a I hl hr
    ·have hp : i ∈ past := by
      rcases I.all i hlt with h | h | h
      ·exact h
      ·exact (hin h).elim
      ·exact (hnl h).elim
     obtain ⟨o', ho', hcl⟩ := hpast i hp
     rw [ho] at ho'
     cases ho'
     refine I.float F hn ho hp hnl hcl hr hin fun σ1 w1 a1 I1 => ih _ σ1 w1 a1 I1 ?_
     have := left_set I.size hlt hnl
     omega
  refine loop fun fuel listed σ w a I hl hr => ?_
  have eun : ¬ isL listed e := I.todo e (by rw [List.cons_append]; unfold named; exact List.mem_cons_self ..)
  have he : e ∉ named (rest ++ tail) := by
   intro hj
   rw [named_append] at hj
   rcases List.mem_append.1 hj with hj | hj
   ·obtain ⟨g, hg, hb⟩ := chkS_pred hchk e hj
    rcases hg with rfl | hg
    ·exact eun (hr g hb)
    ·exact I.todo g (by rw [List.cons_append]; unfold named; rw [named_append]; exact List.mem_cons_of_mem _ (List.mem_append_right _ (List.mem_append_left _ hg))) (hr g hb)
   ·have := F.lt e oe hoe e (htl (e, L, A) (List.mem_cons_self ..) e hj)
    omega
  refine Inv.act hc F hn hlim I hoe he hr hfresh hL hF hA h' hnext (fun env2 H2 nx2 σ1 w1 a1 hk3 I1 hfix => ?_) (fun l H1 nx1 σ1 w1 c hk R E hden hdf hsz C => ?_)
  ·have hnl := left_set I.size helt eun
   have hpast' : ∀ i, i ∈ past' → ∃ o, ops[i]? = some o ∧ (cls o.op = 0 ∨ cls o.op = 1) := by
    intro i hi
    rcases (pastiff i).1 hi with hi | hi
    ·exact hpast i hi
    ·obtain ⟨o, ho, hne⟩ := chkF_cls hF i hi
     refine ⟨o, ho, ?_⟩
     have : cls o.op = 0 ∨ cls o.op = 1 ∨ cls o.op = 2 := by
      unfold cls
      split <;> first | exact .inl rfl | exact .inr (.inl rfl) | exact .inr (.inr rfl) | skip
      split <;> first | exact .inl rfl | exact .inr (.inr rfl)
     rcases this with h | h | h
     ·exact .inl h
     ·exact .inr h
     ·exact (hne h).elim
   have hblank' : ∀ t, t < 256 → get2 t env0 = .und ∨ ((∀ (j : Nat) (q : Oper), ops[j]? = some q → q.dst ≠ some t) ∧ get2 t env0 = get2 t env2) := by
    intro t ht
    rcases hblank t ht with h | ⟨h1, h2⟩
    ·exact .inl h
    ·exact .inr ⟨h1, by rw [hfix t ht h1, h2]⟩
   exact stages_sem tail hc F hn hlim rest (some e) past' env2 H2 nx2 hchk (fun s hs => htl s (List.mem_cons_of_mem _ hs)) hpast' hblank' hk3 σ0 H0 w0 Q hQ hT fuel _ σ1 w1 a1 I1 (by omega)
  ·refine hQ l H1 nx1 σ1 w1 a c (hpan l H1 nx1 hk) R E ⟨⟨hsz, hn, fun t ht => ?_⟩, hdf⟩ C
   rcases hblank t ht with h | ⟨h1, h2⟩
   ·rw [h]; exact .und _
   ·rw [h2]; exact hden t ht h1
theorem tail_nil {P : Program} {nt : Nat} {ops : Array Oper} {as : List Nat} {res : Nat} {σ0 : Sg} {H0 : Heap} {w0 : World} {dfs : Dfs} {past : List Nat} {env : Env} {H : Heap} {nx : Nat} (F : OpsFact nt ops as) (hn : nt ≤ 256) {Q : Exit → Act → World → Prop}
  (hpast : ∀ i, i ∈ past → ∃ o, ops[i]? = some o ∧ (cls o.op = 0 ∨ cls o.op = 1))
  (hQ : ∀ σ' w' a', Rel σ' H nx w' → Ext σ0 σ' H0 H res nx w0 w' → ARel σ' nt env dfs a' → Q .normal a' w') :
  ∀ fuel listed σ w a, Inv P nt ops as res σ0 H0 w0 dfs past [] env H nx listed σ w a → left ops listed ≤ fuel → wpAny P .any ops Q fuel listed a w := by
 have done : ∀ listed σ w a, Inv P nt ops as res σ0 H0 w0 dfs past [] env H nx listed σ w a → (∀ i, i < ops.size → isL listed i) → Q .normal a w := fun listed σ w a I hall =>
  hQ σ w a I.rel I.ext ⟨⟨I.tsize, hn, fun t ht => I.den t ht fun j q hj _ => hall j (Array.getElem?_eq_some_iff.1 hj).1⟩, I.dfs⟩
 intro fuel
 induction fuel with
 | zero =>
  intro listed σ w a I hl
  have hall := left_zero (by omega : left ops listed = 0)
  refine ⟨?_, done listed σ w a I hall⟩
  refine List.eq_nil_iff_forall_not_mem.2 fun i hi => ?_
  obtain ⟨o, ho, hnl, _⟩ := (mem_ready I.size).1 hi
  exact hnl (hall i (Array.getElem?_eq_some_iff.1 ho).1)
 | succ fuel ih =>
  intro listed σ w a I hl
  refine ⟨fun hnil => done listed σ w a I (ready_nil F I.size hnil), fun i hi => ?_⟩
  obtain ⟨o, ho, hnl, hed⟩ := (mem_ready I.size).1 hi
  have hlt : i < ops.size := (Array.getElem?_eq_some_iff.1 ho).1
  have hr : ∀ j, bit (as.getD i 0) j = true → isL listed j := fun j hj => by
   obtain ⟨e, he, hb, hc'⟩ := F.ahead i o ho j hj
   rcases hc' with rfl | hc'
   ·exact hed e he hb
   ·exact I.closed _ j (hed e he hb) hc'
  have hp : i ∈ past := by
   rcases I.all i hlt with h | h | h
   ·exact h
   ·cases h
   ·exact (hnl h).elim
  obtain ⟨o', ho', hcl⟩ := hpast i hp
  rw [ho] at ho'
  cases ho'
  refine I.float F hn ho hp hnl hcl hr (by intro h; cases h) fun σ1 w1 a1 I1 => ih _ σ1 w1 a1 I1 ?_
  have := left_set I.size hlt hnl
  omega
end Go.Vs
end
section
namespace Go.Vs
variable [GTab]
noncomputable section
inductive Sh where
 | bool
 | int (k : IntKind)
 | str
 | any
def shOf : TypeDesc → Sh
 | .bool => .bool
 | .int k => .int k
 | .string => .str
 | _ => .any
def shs (P : Program) : Nat → TypeId → Option (List Sh)
 | 0, _ => none
 | n + 1, t => match P.underlying t with
  | some (.struct fs) => fs.toList.foldr (fun f acc => match shs P n f.type, acc with
   | some a, some b => some (a ++ b)
   | _, _ => none) (some [])
  | some (.array len e) => match Nat.ble len 64, shs P n e with
   | true, some l => some (List.replicate len l).flatten
   | _, _ => none
  | some d => some [shOf d]
  | none => none
def exSh (s : Sh) (k : AVal → Prop) : Prop := match s with
 | .bool => ∃ b, k (.bool b)
 | .int kd => ∃ n, k (.int kd n)
 | .str => ∃ s, k (.str s)
 | .any => ∃ v, k v
def exShs : List Sh → (List AVal → Prop) → Prop
 | [], k => k []
 | s :: l, k => exSh s fun v => exShs l fun vs => k (v :: vs)
theorem exSh_ok {s : Sh} {k : AVal → Prop} (h : exSh s k) : ∃ v, k v := by
 cases s <;> (obtain ⟨x, h⟩ := h; exact ⟨_, h⟩)
theorem exShs_ok : ∀ {l : List Sh} {k : List AVal → Prop}, exShs l k → ∃ vs, k vs
 | [], _, h => ⟨_, h⟩
 | _ :: _, _, h => let ⟨_, h⟩ := exSh_ok h; let ⟨_, h⟩ := exShs_ok h; ⟨_, h⟩
def genV1 (P : Program) (t : TypeId) (k : AVal → Prop) : Prop :=
 match P.underlying t with
 | some d => match aggD d with
  | true => match shs P 9 t with
   | some l => exShs l fun cs => k (.agg cs)
   | none => ∃ v, k v
  | false => exSh (shOf d) k
 | none => ∃ v, k v
theorem genV1_ok {P : Program} {t : TypeId} {k : AVal → Prop} (h : genV1 P t k) : ∃ v, k v := by
 unfold genV1 at h
 split at h
 ·split at h
  ·split at h
   ·exact let ⟨_, h⟩ := exShs_ok h; ⟨_, h⟩
   ·exact h
  ·exact exSh_ok h
 ·exact h
def genVs (P : Program) : List TypeId → (List AVal → Prop) → Prop
 | [], k => k []
 | t :: l, k => genV1 P t fun v => genVs P l fun vs => k (v :: vs)
theorem genVs_ok {P : Program} : ∀ {l : List TypeId} {k : List AVal → Prop}, genVs P l k → ∃ vs, k vs
 | [], _, h => ⟨_, h⟩
 | _ :: _, _, h => let ⟨_, h⟩ := genV1_ok h; let ⟨_, h⟩ := genVs_ok h; ⟨_, h⟩
def typedV (P : Program) (t : TypeId) (v : AVal) (k : AVal → Prop) : Prop :=
 match P.underlying t with
 | some (.tuple ts) => match ts.toList with
  | [] => k v
  | ts => genVs P ts fun vs => v = .tuple vs ∧ k (.tuple vs)
 | some d => match aggD d, shOf d with
  | false, .any => k v
  | _, _ => genV1 P t fun v' => v = v' ∧ k v'
 | none => k v
theorem typedV_ok {P : Program} {t : TypeId} {v : AVal} {k : AVal → Prop} (h : typedV P t v k) : k v := by
 unfold typedV at h
 split at h
 ·split at h
  ·exact h
  ·obtain ⟨vs, e, h2⟩ := genVs_ok h; rw [e]; exact h2
 ·split at h
  ·exact h
  ·obtain ⟨v', e, h2⟩ := genV1_ok h; rw [e]; exact h2
 ·exact h
def ld1 (H : Heap) (a : AVal) : Option AVal :=
 match a with
 | .ptr b off => match get5 b H with
  | some (.cells n ct _ _) => match Nat.ble (Nat.succ off) n with
   | true => some (CT.get off ct)
   | false => none
  | _ => none
 | .gptr g off => match GTab.tab g with
  | some l => l[off]?
  | none => none
 | _ => none
def ldN (H : Heap) (sz : Nat) (a : AVal) : Option AVal :=
 match a with
 | .ptr b off => match get5 b H with
  | some (.cells n ct _ _) => match Nat.ble (Nat.add off sz) n with
   | true => some (.agg (CT.slab ct sz off))
   | false => none
  | _ => none
 | .gptr g off => match GTab.tab g with
  | some l => match Nat.ble (Nat.add off sz) l.length with
   | true => some (.agg ((l.drop off).take sz))
   | false => none
  | none => none
 | _ => none
def vLoad (P : Program) (t : TypeId) (H : Heap) (a : AVal) (k : AVal → Prop) : Prop :=
 match P.underlying t, P.info? t with
 | some d, some i => match aggD d with
  | true => genV1 P t fun v => ldN H i.size a = some v ∧ k v
  | false => genV1 P t fun v => ld1 H a = some v ∧ k v
 | _, _ => False
theorem vLoad_ok {P : Program} {t : TypeId} {H : Heap} {a : AVal} {k : AVal → Prop} (h : vLoad P t H a k) : ∃ v, aLoad P t H a = some v ∧ k v := by
 unfold vLoad at h
 split at h <;> try exact h.elim
 rename_i d i hd hi
 split at h
 ·rename_i hag
  obtain ⟨v, e, h⟩ := genV1_ok h
  refine ⟨v, ?_, h⟩
  unfold ldN at e
  unfold aLoad
  cases a <;> first | exact e | skip
  ·rename_i b off
   simp only [] at e ⊢
   cases hb : get5 b H with
   | none => rw [hb] at e; cases e
   | some o =>
    rw [hb] at e
    cases o with
    | map _ _ => cases e
    | cells n ct o s => simp only [hd, hi, hag]; exact e
  ·rename_i g off
   simp only [] at e ⊢
   cases hb : GTab.tab g with
   | none => rw [hb] at e; cases e
   | some l => rw [hb] at e; simp only [hd, hi, hag]; exact e
 ·rename_i hag
  obtain ⟨v, e, h⟩ := genV1_ok h
  refine ⟨v, ?_, h⟩
  unfold ld1 at e
  unfold aLoad
  cases a <;> first | exact e | skip
  ·rename_i b off
   simp only [] at e ⊢
   cases hb : get5 b H with
   | none => rw [hb] at e; cases e
   | some o =>
    rw [hb] at e
    cases o with
    | map _ _ => cases e
    | cells n ct o s => simp only [hd, hi, hag]; exact e
  ·rename_i g off
   simp only [] at e ⊢
   cases hb : GTab.tab g with
   | none => rw [hb] at e; cases e
   | some l => rw [hb] at e; simp only [hd, hi, hag]; exact e
def cellsT (P : Program) (t : TypeId) (v : AVal) (k : List AVal → Prop) : Prop :=
 match P.underlying t with
 | some d => match aggD d with
  | true => match v with
   | .agg cs => k cs
   | _ => False
  | false => cellv v = true ∧ k [v]
 | none => False
theorem cellsT_ok {P : Program} {t : TypeId} {v : AVal} {k : List AVal → Prop} (h : cellsT P t v k) : ∃ cs, acells v = some cs ∧ k cs := by
 unfold cellsT at h
 split at h <;> try exact h.elim
 split at h
 ·split at h <;> first | exact h.elim | exact ⟨_, rfl, h⟩
 ·obtain ⟨h1, h2⟩ := h
  refine ⟨[v], ?_, h2⟩
  cases v <;> first | rfl | (simp [cellv] at h1)
def stC (H : Heap) (a : AVal) (cs : List AVal) : Option Heap :=
 match a with
 | .ptr b off => match get5 b H with
  | some (.cells n ct olds false) => match Nat.ble (Nat.add off cs.length) n, allCell cs with
   | true, true => some (set5 b (some (.cells n (relay cs cs.length off n ct) [] false)) (dels olds H))
   | _, _ => none
  | _ => none
 | _ => none
def vStore (P : Program) (t : TypeId) (H : Heap) (a x : AVal) (k : Heap → Prop) : Prop :=
 match P.info? t with
 | some i => cellsT P t x fun cs => match Nat.beq cs.length i.size with
  | true => ∃ H', stC H a cs = some H' ∧ k H'
  | false => False
 | none => False
theorem vStore_ok {P : Program} {t : TypeId} {H : Heap} {a x : AVal} {k : Heap → Prop} (h : vStore P t H a x k) : ∃ H', aStore P t H a x = some H' ∧ k H' := by
 unfold vStore at h
 split at h <;> try exact h.elim
 rename_i i hi
 obtain ⟨cs, hcs, h⟩ := cellsT_ok h
 split at h <;> try exact h.elim
 rename_i hl
 obtain ⟨H', e, h⟩ := h
 refine ⟨H', ?_, h⟩
 have hl' := Nat.eq_of_beq_eq_true hl
 unfold stC at e
 unfold aStore
 split at e <;> try (cases e; done)
 rename_i b off
 split at e <;> try (cases e; done)
 rename_i n ct olds ho
 split at e <;> try (cases e; done)
 rename_i h1 h2
 cases e
 rw [hl'] at h1
 have hb : Nat.beq i.size i.size = true := Nat.beq_refl _
 simp only [hcs, hi, ho, h1, h2, hl', hb]
def vInt (op : BinOp) (k : IntKind) (a b : Int) (K : AVal → Prop) : Prop :=
 match op with
 | .add => K (.int k (k.wrap (a + b)))
 | .sub => K (.int k (k.wrap (a - b)))
 | .mul => K (.int k (k.wrap (a * b)))
 | .quo => b ≠ 0 ∧ K (.int k (k.wrap (a.tdiv b)))
 | .rem => b ≠ 0 ∧ K (.int k (a.tmod b))
 | .and => K (.int k (k.wrap (BitVec.ofInt k.bits a &&& BitVec.ofInt k.bits b).toNat))
 | .or => K (.int k (k.wrap (BitVec.ofInt k.bits a ||| BitVec.ofInt k.bits b).toNat))
 | .xor => K (.int k (k.wrap (BitVec.ofInt k.bits a ^^^ BitVec.ofInt k.bits b).toNat))
 | .andNot => K (.int k (k.wrap (BitVec.ofInt k.bits a &&& ~~~BitVec.ofInt k.bits b).toNat))
 | .eql => K (.bool (decide (a = b)))
 | .neq => K (.bool (!decide (a = b)))
 | .lss => K (.bool (decide (a < b)))
 | .leq => K (.bool (decide (a ≤ b)))
 | .gtr => K (.bool (decide (b < a)))
 | .geq => K (.bool (decide (b ≤ a)))
 | _ => False
theorem not_lt_b (a b : Int) : (!decide (b < a)) = decide (a ≤ b) := by rw [Bool.eq_iff_iff]; simp
theorem beq_b (a b : Int) : (a == b) = decide (a = b) := by rw [Bool.eq_iff_iff]; simp
theorem vInt_ok {op : BinOp} {k : IntKind} {a b : Int} {K : AVal → Prop} (h : vInt op k a b K) : ∃ v, aInt op k a b = some v ∧ K v := by
 unfold vInt at h
 unfold aInt
 cases op <;> simp only [forceI_eq, awrap_eq, ieq_eq, ilt_eq, bnot_eq] at h ⊢
 case quo =>
  obtain ⟨h0, h⟩ := h; have : (b == 0) = false := by simpa using h0
  simp only [this]; exact ⟨_, rfl, h⟩
 case rem =>
  obtain ⟨h0, h⟩ := h; have : (b == 0) = false := by simpa using h0
  simp only [this]; exact ⟨_, rfl, h⟩
 case leq => rw [← not_lt_b] at h; exact ⟨_, rfl, h⟩
 case geq => rw [← not_lt_b] at h; exact ⟨_, rfl, h⟩
 case eql => rw [← beq_b] at h; exact ⟨_, rfl, h⟩
 case neq => rw [← beq_b] at h; exact ⟨_, rfl, h⟩
 all_goals first | exact h.elim | exact ⟨_, rfl, h⟩
def vText (op : BinOp) (s t : List UInt8) (K : AVal → Prop) : Prop :=
 match op with
 | .add => s.length + t.length ≤ 9223372036854775807 ∧ K (.str (s ++ t))
 | .eql => K (.bool (s == t))
 | .neq => K (.bool (!(s == t)))
 | .lss => K (.bool (Op.bytesLess s t))
 | .leq => K (.bool (Op.bytesLess s t || s == t))
 | .gtr => K (.bool !(Op.bytesLess s t || s == t))
 | .geq => K (.bool !(Op.bytesLess s t))
 | _ => False
theorem vText_ok {op : BinOp} {s t : List UInt8} {K : AVal → Prop} (h : vText op s t K) : ∃ v, aText op s t = some v ∧ K v := by
 unfold vText at h
 unfold aText
 cases op <;> simp only [] at h ⊢
 case add =>
  obtain ⟨h0, h⟩ := h; have hb : Nat.ble (s.length + t.length) 9223372036854775807 = true := (by rw [Nat.ble_eq]; exact h0)
  rw [hb]; exact ⟨_, rfl, h⟩
 all_goals first | exact h.elim | exact ⟨_, rfl, h⟩
inductive NK where
 | ptr | slice | map | func | iface
def nkOf : TypeDesc → Option NK
 | .pointer _ => some .ptr
 | .slice _ => some .slice
 | .map _ _ => some .map
 | .func _ _ _ => some .func
 | .interface _ => some .iface
 | _ => none
def nilK (k : NK) (v : AVal) : Option Bool :=
 match k, v with
 | .ptr, .ptr _ _ => some false
 | .ptr, .nilPtr => some true
 | .slice, .slice .. => some false
 | .slice, .nilSlice => some true
 | .slice, .gslice .. => some false
 | .map, .map _ => some false
 | .map, .nilMap => some true
 | .func, .func _ _ _ => some false
 | .func, .nilFunc => some true
 | .iface, .iface _ _ => some false
 | .iface, .nilIface => some true
 | _, _ => none
theorem nilK_ok {d : TypeDesc} {k : NK} {v : AVal} {p : Bool} (hk : nkOf d = some k) (h : nilK k v = some p) : nilness d v = some p := by
 cases d <;> simp only [nkOf, reduceCtorEq, Option.some.injEq] at hk
 all_goals (subst hk; cases v <;> simp only [nilK, reduceCtorEq] at h <;> exact h)
def vBin (P : Program) (op : BinOp) (t : TypeId) (x y : Operand) (a b : AVal) (K : AVal → Prop) : Prop :=
 match P.underlying t with
 | some (.int _) => match op with
  | .shl => match a, b with
   | .int k1 n, .int _ m => 0 ≤ m ∧ K (.int k1 (k1.wrap (n * 2 ^ (min m.toNat k1.bits))))
   | _, _ => False
  | .shr => match a, b with
   | .int k1 n, .int _ m => 0 ≤ m ∧ K (.int k1 (n.fdiv (2 ^ (min m.toNat k1.bits))))
   | _, _ => False
  | op => match a, b with
   | .int k1 n, .int k2 m => match decide (k1 = k2) with
    | true => vInt op k1 n m K
    | false => False
   | _, _ => False
 | some .string => match a, b with
  | .str s, .str u => vText op s u K
  | _, _ => False
 | some .bool => match op with
  | .eql => match a, b with
   | .bool p, .bool q => K (.bool (p == q))
   | _, _ => False
  | .neq => match a, b with
   | .bool p, .bool q => K (.bool (!(p == q)))
   | _, _ => False
  | _ => False
 | some d => match nkOf d, isConstO x, isConstO y with
  | some k, false, true => match nilK k b with
   | some true => match op with
    | .eql => ∃ p, nilK k a = some p ∧ K (.bool p)
    | .neq => ∃ p, nilK k a = some p ∧ K (.bool (!p))
    | _ => False
   | _ => False
  | some k, true, _ => match nilK k a with
   | some true => match op with
    | .eql => ∃ p, nilK k b = some p ∧ K (.bool p)
    | .neq => ∃ p, nilK k b = some p ∧ K (.bool (!p))
    | _ => False
   | _ => False
  | _, _, _ => False
 | none => False
theorem eqB (p q : Bool) : (Bool.rec (!q) q p : Bool) = (p == q) := by cases p <;> cases q <;> rfl
theorem vBin_ok {P : Program} {op : BinOp} {t : TypeId} {x y : Operand} {ρ : Operand → AVal} {H : Heap} {nx : Nat} {K : AVal → Prop} (h : vBin P op t x y (ρ x) (ρ y) K) :
  ∃ v, opBin P op t x y ρ H nx = some (.val v H nx) ∧ K v := by
 unfold vBin at h
 split at h <;> try exact h.elim
 ·rename_i kd hu
  split at h
  ·split at h <;> try exact h.elim
   rename_i k1 n k2 m hx hy
   obtain ⟨h0, h⟩ := h
   have : (ilt m 0) = false := by rw [ilt_eq]; simp; exact h0
   refine ⟨_, ?_, h⟩
   unfold opBin
   simp only [hx, hy, aShift, this, forceI_eq]
  ·split at h <;> try exact h.elim
   rename_i k1 n k2 m hx hy
   obtain ⟨h0, h⟩ := h
   have : (ilt m 0) = false := by rw [ilt_eq]; simp; exact h0
   refine ⟨_, ?_, h⟩
   unfold opBin
   simp only [hx, hy, aShift, this, forceI_eq]
  ·rename_i hn1 hn2
   split at h <;> try exact h.elim
   rename_i k1 n k2 m hx hy
   split at h <;> try exact h.elim
   rename_i hk
   obtain ⟨v, e, h⟩ := vInt_ok h
   refine ⟨v, ?_, h⟩
   cases op <;> first | exact (hn1 rfl).elim | exact (hn2 rfl).elim | (unfold opBin; simp only [hx, hy, hk, e])
 ·rename_i hu
  split at h <;> try exact h.elim
  rename_i s u hx hy
  obtain ⟨v, e, h⟩ := vText_ok h
  refine ⟨v, ?_, h⟩
  unfold opBin
  simp only [hx, hy, e]
 ·rename_i hu
  split at h <;> try exact h.elim
  all_goals
   split at h <;> try exact h.elim
   rename_i p q hx hy
   refine ⟨_, ?_, h⟩
   unfold opBin
   simp only [hx, hy, aEq, hu, bnot_eq]
   rw [eqB]
 ·rename_i d hnb hni hns hu
  have other : ∀ k q, nilK k (ρ x) = some q → (op = .eql ∨ op = .neq) → ∀ s, aEq P t x y (ρ x) (ρ y) = some s →
    opBin P op t x y ρ H nx = some (.val (.bool (match op with | .eql => s | _ => !s)) H nx) := by
   intro k q ha hop s hs
   unfold opBin
   split
   ·rename_i hx hy; rw [hx] at ha; cases k <;> cases ha
   ·rename_i hx hy; rw [hx] at ha; cases k <;> cases ha
   ·rcases hop with rfl | rfl <;> simp only [hs, bnot_eq]
  split at h <;> try exact h.elim
  ·rename_i k hk hcx hcy
   split at h <;> try exact h.elim
   rename_i hb
   have e : ∀ p, nilK k (ρ x) = some p → aEq P t x y (ρ x) (ρ y) = some p := by
    intro p hp
    unfold aEq
    rw [hu]
    simp only [nilK_ok hk hp, nilK_ok hk hb, hcx, hcy]
   split at h <;> try exact h.elim
   ·obtain ⟨p, hp, h⟩ := h
    exact ⟨_, other k p hp (.inl rfl) p (e p hp), h⟩
   ·obtain ⟨p, hp, h⟩ := h
    exact ⟨_, other k p hp (.inr rfl) p (e p hp), h⟩
  ·rename_i k hk hcx
   split at h <;> try exact h.elim
   rename_i hb
   have e : ∀ p, nilK k (ρ y) = some p → aEq P t x y (ρ x) (ρ y) = some p := by
    intro p hp
    unfold aEq
    rw [hu]
    simp only [nilK_ok hk hp, nilK_ok hk hb, hcx]
   split at h <;> try exact h.elim
   ·obtain ⟨p, hp, h⟩ := h
    exact ⟨_, other k true hb (.inl rfl) p (e p hp), h⟩
   ·obtain ⟨p, hp, h⟩ := h
    exact ⟨_, other k true hb (.inr rfl) p (e p hp), h⟩
def addOff (a : AVal) (c : Nat) : Option AVal :=
 match a with
 | .ptr b off => some (.ptr b (Nat.add off c))
 | .gptr g off => some (.gptr g (Nat.add off c))
 | _ => none
def idxS (v : AVal) (n esz : Nat) : Option AVal :=
 match v with
 | .slice b off len _ _ => match Nat.ble (Nat.succ n) len with
  | true => some (.ptr b (Nat.add off (Nat.mul n esz)))
  | false => none
 | .gslice g off len _ => match Nat.ble (Nat.succ n) len with
  | true => some (.gptr g (Nat.add off (Nat.mul n esz)))
  | false => none
 | _ => none
def lenS (v : AVal) : Option Nat :=
 match v with
 | .slice _ _ n _ _ => some n
 | .nilSlice => some 0
 | .gslice _ _ n _ => some n
 | _ => none
def slcS (v : AVal) (esz l : Nat) (h : Option Nat) : Option AVal :=
 match v with
 | .slice b off len e full => match h.getD len with
  | h => match Nat.ble h len, Nat.ble l h, Nat.beq esz e with
   | true, true, true => some (.slice b (Nat.add off (Nat.mul l e)) (Nat.sub h l) e (Bool.rec false full (Nat.beq h len)))
   | _, _, _ => none
 | .nilSlice => match l, h with
  | 0, none => some .nilSlice
  | 0, some 0 => some .nilSlice
  | _, _ => none
 | .gslice g off len e => match h.getD len with
  | h => match Nat.ble h len, Nat.ble l h, Nat.beq esz e with
   | true, true, true => some (.gslice g (Nat.add off (Nat.mul l e)) (Nat.sub h l) e)
   | _, _, _ => none
 | _ => none
def strOf (H : Heap) (v : AVal) : Option (List UInt8) :=
 match v with
 | .slice b off n _ _ => match get5 b H with
  | some (.cells cnt ct _ _) => match Nat.ble (Nat.add off n) cnt with
   | true => bytesOf (CT.slab ct n off)
   | false => none
  | _ => none
 | .nilSlice => some []
 | _ => none
def vFieldAddr (P : Program) (s : TypeId) (f : Nat) (a : AVal) (K : AVal → Prop) : Prop :=
 match P.underlying s with
 | some (.struct fields) => match fields[f]? with
  | some fd => match P.info? fd.type with
   | some i => match Nat.beq i.size 0 with
    | false => ∃ v, addOff a fd.offset = some v ∧ K v
    | true => False
   | none => False
  | none => False
 | _ => False
theorem vFieldAddr_ok {P : Program} {s : TypeId} {f : Nat} {x : Operand} {ρ : Operand → AVal} {H : Heap} {nx : Nat} {K : AVal → Prop} (h : vFieldAddr P s f (ρ x) K) :
  ∃ v, opFieldAddr P s x f ρ H nx = some (.val v H nx) ∧ K v := by
 unfold vFieldAddr at h
 split at h <;> try exact h.elim
 rename_i fields hu
 split at h <;> try exact h.elim
 rename_i fd hf
 split at h <;> try exact h.elim
 rename_i i hi
 split at h <;> try exact h.elim
 rename_i hz
 obtain ⟨v, e, h⟩ := h
 refine ⟨v, ?_, h⟩
 unfold addOff at e
 unfold opFieldAddr
 simp only [hu, hf, hi, hz]
 split at e <;> try (cases e; done)
 ·rename_i hx; cases e; rw [hx]
 ·rename_i hx; cases e; rw [hx]
theorem asNat_nn {i : Int} (h : 0 ≤ i) : asNat i = some i.toNat := by
 cases i with
 | ofNat n => rfl
 | negSucc n => omega
def vIndexAddr (P : Program) (t : TypeId) (a ix : AVal) (K : AVal → Prop) : Prop :=
 match ix with
 | .int _ i => match P.underlying t with
  | some (.array len elem) => match P.info? elem with
   | some e => 0 ≤ i ∧ i.toNat < len ∧ ∃ v, addOff a (Nat.mul i.toNat e.size) = some v ∧ K v
   | none => False
  | some (.slice elem) => match P.info? elem with
   | some e => 0 ≤ i ∧ ∃ v, idxS a i.toNat e.size = some v ∧ K v
   | none => False
  | _ => False
 | _ => False
theorem vIndexAddr_ok {P : Program} {t : TypeId} {x ix : Operand} {ρ : Operand → AVal} {H : Heap} {nx : Nat} {K : AVal → Prop} (h : vIndexAddr P t (ρ x) (ρ ix) K) :
  ∃ v, opIndexAddr P t x ix ρ H nx = some (.val v H nx) ∧ K v := by
 unfold vIndexAddr at h
 split at h <;> try exact h.elim
 rename_i k i hix
 split at h <;> try exact h.elim
 ·rename_i len elem hu
  split at h <;> try exact h.elim
  rename_i e he
  obtain ⟨h0, hlt, v, ev, h⟩ := h
  refine ⟨v, ?_, h⟩
  have hb : Nat.ble (Nat.succ i.toNat) len = true := by rw [Nat.ble_eq]; omega
  unfold opIndexAddr
  unfold addOff at ev
  simp only [hix, asNat_nn h0, hu]
  split at ev <;> try (cases ev; done)
  ·rename_i hx; cases ev; simp only [hx, hb, he]
  ·rename_i hx; cases ev; simp only [hx, hb, he]
 ·rename_i elem hu
  split at h <;> try exact h.elim
  rename_i e he
  obtain ⟨h0, v, ev, h⟩ := h
  refine ⟨v, ?_, h⟩
  unfold opIndexAddr
  unfold idxS at ev
  simp only [hix, asNat_nn h0, hu]
  split at ev <;> try (cases ev; done)
  ·rename_i hx
   split at ev <;> try (cases ev; done)
   rename_i hb
   cases ev
   simp only [hx, hb, he]
  ·rename_i hx
   split at ev <;> try (cases ev; done)
   rename_i hb
   cases ev
   simp only [hx, hb, he]
def vIndex (P : Program) (t : TypeId) (a ix : AVal) (K : AVal → Prop) : Prop :=
 match ix with
 | .int _ i => match P.underlying t with
  | some (.array len elem) => match a with
   | .agg cs => match P.info? elem with
    | some e => 0 ≤ i ∧ i.toNat < len ∧ genV1 P elem fun v => aPart P elem cs (Nat.mul i.toNat e.size) = some v ∧ K v
    | none => False
   | _ => False
  | some .string => match a with
   | .str s => 0 ≤ i ∧ ∃ c, s[i.toNat]? = some c ∧ K (.int .u8 (.ofNat c.toNat))
   | _ => False
  | _ => False
 | _ => False
theorem vIndex_ok {P : Program} {t : TypeId} {x ix : Operand} {ρ : Operand → AVal} {H : Heap} {nx : Nat} {K : AVal → Prop} (h : vIndex P t (ρ x) (ρ ix) K) :
  ∃ v, opIndex P t x ix ρ H nx = some (.val v H nx) ∧ K v := by
 unfold vIndex at h
 split at h <;> try exact h.elim
 rename_i k i hix
 split at h <;> try exact h.elim
 ·rename_i len elem hu
  split at h <;> try exact h.elim
  rename_i cs hx
  split at h <;> try exact h.elim
  rename_i e he
  obtain ⟨h0, hlt, h⟩ := h
  obtain ⟨v, ev, h⟩ := genV1_ok h
  refine ⟨v, ?_, h⟩
  have hb : Nat.ble (Nat.succ i.toNat) len = true := by rw [Nat.ble_eq]; omega
  unfold opIndex
  simp only [hix, asNat_nn h0, hu, hx, hb, he, ev]
 ·rename_i hu
  split at h <;> try exact h.elim
  rename_i s hx
  obtain ⟨h0, c, ec, h⟩ := h
  refine ⟨_, ?_, h⟩
  unfold opIndex
  simp only [hix, asNat_nn h0, hu, hx, ec]
def vBnd (x : Option AVal) (K : Option Nat → Prop) : Prop :=
 match x with
 | none => K none
 | some (.int _ i) => 0 ≤ i ∧ K (some i.toNat)
 | some _ => False
theorem vBnd_ok {x : Option Operand} {ρ : Operand → AVal} {K : Option Nat → Prop} (h : vBnd (x.map ρ) K) : ∃ n, K n ∧ ∀ d, bnd d x ρ = some (n.getD d) := by
 unfold vBnd at h
 cases x with
 | none => exact ⟨none, h, fun d => rfl⟩
 | some y =>
  simp only [Option.map_some] at h
  split at h <;> try exact h.elim
  ·rename_i e; cases e
  ·rename_i k i e
   obtain ⟨h0, h⟩ := h
   refine ⟨some i.toNat, h, fun d => ?_⟩
   have e' : ρ y = .int k i := Option.some.inj e
   simp only [bnd, e', asNat_nn h0, Option.getD_some]
def vSlice (P : Program) (t : TypeId) (a : AVal) (lo hi mx : Option AVal) (H : Heap) (K : AVal → Prop) : Prop :=
 match mx with
 | some _ => False
 | none => match P.underlying t with
  | some .string => match a with
   | .str s => vBnd lo fun l => vBnd hi fun h => h.getD s.length ≤ s.length ∧ l.getD 0 ≤ h.getD s.length ∧ K (.str ((s.drop (l.getD 0)).take (h.getD s.length - l.getD 0)))
   | _ => False
  | some (.slice elem) => match P.info? elem with
   | some e => vBnd lo fun l => vBnd hi fun h => ∃ v, slcS a e.size (l.getD 0) h = some v ∧ K v
   | none => False
  | _ => False
theorem vSlice_ok {P : Program} {t : TypeId} {x : Operand} {lo hi mx : Option Operand} {ρ : Operand → AVal} {H : Heap} {nx : Nat} {K : AVal → Prop} (h : vSlice P t (ρ x) (lo.map ρ) (hi.map ρ) (mx.map ρ) H K) :
  ∃ v, opSlice P t x lo hi mx ρ H nx = some (.val v H nx) ∧ K v := by
 unfold vSlice at h
 split at h <;> try exact h.elim
 rename_i hm
 have hm' : mx = none := by cases mx with
  | none => rfl
  | some y => cases hm
 subst hm'
 split at h <;> try exact h.elim
 ·rename_i hu
  split at h <;> try exact h.elim
  rename_i s hx
  obtain ⟨l, h, hl⟩ := vBnd_ok h
  obtain ⟨hh, h, hhi⟩ := vBnd_ok h
  obtain ⟨h1, h2, h⟩ := h
  refine ⟨_, ?_, h⟩
  unfold opSlice
  have b1 : Nat.ble (hh.getD s.length) s.length = true := by rw [Nat.ble_eq]; exact h1
  have b2 : Nat.ble (l.getD 0) (hh.getD s.length) = true := by rw [Nat.ble_eq]; exact h2
  simp only [hu, hx, hl, hhi, b1, b2]
 ·rename_i elem hu
  split at h <;> try exact h.elim
  rename_i e he
  obtain ⟨l, h, hl⟩ := vBnd_ok h
  obtain ⟨hh, h, hhi⟩ := vBnd_ok h
  obtain ⟨v, ev, h⟩ := h
  refine ⟨v, ?_, h⟩
  unfold opSlice
  unfold slcS at ev
  split at ev <;> try (cases ev; done)
  ·rename_i b off len es full hx
   simp only [] at ev
   split at ev <;> try (cases ev; done)
   rename_i b1 b2 b3
   cases ev
   simp only [hu, hx, hl, hhi, he, b1, b2, b3, forceN_eq]
  ·rename_i hx
   split at ev <;> try (cases ev; done)
   ·rename_i q1; cases ev; simp only [hu, hx, hl, hhi, he, Option.getD_none, q1]
   ·rename_i q1; cases ev; simp only [hu, hx, hl, hhi, he, Option.getD_some, q1]
  ·rename_i g off len es hx
   simp only [] at ev
   split at ev <;> try (cases ev; done)
   rename_i b1 b2 b3
   cases ev
   simp only [hu, hx, hl, hhi, he, b1, b2, b3]
def vConv (P : Program) (src dst : TypeId) (a : AVal) (H : Heap) (K : AVal → Prop) : Prop :=
 match P.underlying src, P.underlying dst with
 | some (.int _), some (.int k) => match a with
  | .int _ n => K (.int k (k.wrap n))
  | _ => False
 | some .string, some .string => match a with
  | .str s => K (.str s)
  | _ => False
 | some (.slice e), some .string => match P.underlying e with
  | some (.int .u8) => ∃ s, strOf H a = some s ∧ K (.str s)
  | _ => False
 | _, _ => False
theorem vConv_ok {P : Program} {src dst : TypeId} {x : Operand} {ρ : Operand → AVal} {H : Heap} {nx : Nat} {K : AVal → Prop} (h : vConv P src dst (ρ x) H K) :
  ∃ v, opConv P src dst x ρ H nx = some (.val v H nx) ∧ K v := by
 unfold vConv at h
 split at h <;> try exact h.elim
 ·rename_i k0 k hs hd
  split at h <;> try exact h.elim
  rename_i k1 n hx
  refine ⟨_, ?_, h⟩
  unfold opConv
  simp only [hs, hd, hx, forceI_eq, awrap_eq]
 ·rename_i hs hd
  split at h <;> try exact h.elim
  rename_i s hx
  refine ⟨_, ?_, h⟩
  unfold opConv
  simp only [hs, hd, hx]
 ·rename_i el hs hd
  split at h <;> try exact h.elim
  rename_i hel
  obtain ⟨s, es, h⟩ := h
  refine ⟨_, ?_, h⟩
  unfold opConv
  unfold strOf at es
  split at es <;> try (cases es; done)
  ·rename_i b off n esz full hx
   split at es <;> try (cases es; done)
   rename_i cnt ct o sp hb
   split at es <;> try (cases es; done)
   rename_i hle
   simp only [hs, hd, hx, hel, hb, hle, es]
  ·rename_i hx
   cases es
   simp only [hs, hd, hx, hel]
def vFill (P : Program) (place : Nat → Option (Nat × Nat × TypeId)) (ρ : Operand → AVal) (cells : List AVal) (l : List (Nat × Operand)) (K : List AVal → Prop) : Prop :=
 match l with
 | [] => K cells
 | (i, x) :: rest => match place i with
  | some (off, size, t) => cellsT P t (ρ x) fun cs => match Nat.beq cs.length size, Nat.ble (Nat.add off size) cells.length with
   | true, true => vFill P place ρ (seg off cs cells) rest K
   | _, _ => False
  | none => False
theorem vFill_ok {P : Program} {place : Nat → Option (Nat × Nat × TypeId)} {ρ : Operand → AVal} : ∀ {l : List (Nat × Operand)} {cells : List AVal} {K : List AVal → Prop}, vFill P place ρ cells l K →
  ∃ cs, aFill (fun i => (place i).map fun p => (p.1, p.2.1)) ρ cells l = some cs ∧ K cs
 | [], _, _, h => ⟨_, rfl, h⟩
 | (i, x) :: rest, cells, K, h => by
  unfold vFill at h
  split at h <;> try exact h.elim
  rename_i off size t hp
  obtain ⟨cs, hcs, h⟩ := cellsT_ok h
  split at h <;> try exact h.elim
  rename_i h1 h2
  obtain ⟨r, e, h⟩ := vFill_ok h
  refine ⟨r, ?_, h⟩
  unfold aFill
  simp only [hp, hcs, h1, h2, Option.map_some]
  exact e
def placesT (P : Program) : List Field → Option (List (Nat × Nat × TypeId))
 | [] => some []
 | f :: l => match P.info? f.type, placesT P l with
  | some i, some r => some ((f.offset, i.size, f.type) :: r)
  | _, _ => none
theorem placesT_ok {P : Program} : ∀ {l : List Field} {r : List (Nat × Nat × TypeId)}, placesT P l = some r → places P l = some (r.map fun p => (p.1, p.2.1))
 | [], _, h => by cases h; rfl
 | f :: l, r, h => by
  unfold placesT at h
  split at h <;> try (cases h; done)
  rename_i i r' hi hr
  cases h
  unfold places
  simp only [hi, placesT_ok hr, List.map_cons]
def vBuild (P : Program) (t : TypeId) (parts : List (Nat × Operand)) (ρ : Operand → AVal) (K : List AVal → Prop) : Prop :=
 match zeroL P t, P.underlying t with
 | some z, some (.struct fields) => match placesT P fields.toList with
  | some pl => vFill P (fun i => pl[i]?) ρ z parts K
  | none => False
 | some z, some (.array _ elem) => match P.info? elem with
  | some e => vFill P (fun i => some (Nat.mul i e.size, e.size, elem)) ρ z parts K
  | none => False
 | _, _ => False
theorem vBuild_ok {P : Program} {t : TypeId} {parts : Array (Nat × Operand)} {ρ : Operand → AVal} {K : List AVal → Prop} (h : vBuild P t parts.toList ρ K) : ∃ cs, aBuild P t parts ρ = some cs ∧ K cs := by
 unfold vBuild at h
 unfold aBuild
 split at h <;> try exact h.elim
 ·rename_i z fields hz hu
  split at h <;> try exact h.elim
  rename_i pl hpl
  obtain ⟨cs, e, h⟩ := vFill_ok h
  refine ⟨cs, ?_, h⟩
  simp only [hz, hu, placesT_ok hpl, List.getElem?_map]
  exact e
 ·rename_i z len elem hz hu
  split at h <;> try exact h.elim
  rename_i e he
  obtain ⟨cs, e', h⟩ := vFill_ok h
  refine ⟨cs, ?_, h⟩
  simp only [hz, hu, he]
  exact e'
def vMade (P : Program) (op : Op) (ρ : Operand → AVal) (K : Made → Prop) : Prop :=
 match op with
 | .alloc t => match zeroL P t with
  | some z => match Nat.ble z.length 4096 with
   | true => K ⟨z.length, z, fun b => .ptr b 0⟩
   | false => False
  | none => False
 | .box t x => cellsT P t (ρ x) fun cs => match Nat.ble cs.length 4096 with
  | true => K ⟨cs.length, cs, fun b => .ptr b 0⟩
  | false => False
 | .buildSlice t len parts => match P.underlying t with
  | some (.slice elem) => match zeroL P elem, P.info? elem with
   | some z, some e => match Nat.ble (Nat.mul len e.size) 4096, Nat.beq e.size 0 with
    | true, false => vFill P (fun i => some (Nat.mul i e.size, e.size, elem)) ρ (repL z len) parts.toList fun cs => K ⟨Nat.mul len e.size, cs, fun b => .slice b 0 len e.size true⟩
    | _, _ => False
   | _, _ => False
  | _ => False
 | .makeSlice t l c => match P.underlying t with
  | some (.slice elem) => match zeroL P elem, P.info? elem with
   | some z, some e => match Nat.beq e.size 0 with
    | false => match ρ l, ρ c with
     | .int _ n, .int _ m => n = m ∧ 0 ≤ n ∧ n.toNat * e.size ≤ 9223372036854775807 ∧ n.toNat * e.bytes ≤ 140737488355328 ∧ n.toNat ≤ 9223372036854775807 ∧
       K ⟨Nat.mul n.toNat e.size, repL z n.toNat, fun b => .slice b 0 n.toNat e.size true⟩
     | _, _ => False
    | true => False
   | _, _ => False
  | _ => False
 | _ => False
theorem ble_of {a b : Nat} (h : a ≤ b) : Nat.ble a b = true := by rw [Nat.ble_eq]; exact h
theorem vMade_ok {P : Program} {op : Op} {ρ : Operand → AVal} {K : Made → Prop} (h : vMade P op ρ K) : ∃ m, made P op ρ = some m ∧ Nat.ble m.n 9223372036854775807 = true ∧ K m := by
 unfold vMade at h
 split at h <;> try exact h.elim
 ·split at h <;> try exact h.elim
  rename_i z hz
  split at h <;> try exact h.elim
  rename_i hb
  refine ⟨_, ?_, ble_of (Nat.le_trans (Nat.le_of_ble_eq_true hb) (by decide)), h⟩
  simp only [made, madeAlloc, hz]
 ·obtain ⟨cs, hcs, h⟩ := cellsT_ok h
  split at h <;> try exact h.elim
  rename_i hb
  refine ⟨_, ?_, ble_of (Nat.le_trans (Nat.le_of_ble_eq_true hb) (by decide)), h⟩
  simp only [made, madeBox, hcs, forceN_eq]
 ·rename_i t len parts
  split at h <;> try exact h.elim
  rename_i elem hu
  split at h <;> try exact h.elim
  rename_i z e hz he
  split at h <;> try exact h.elim
  rename_i h1 h2
  obtain ⟨cs, e', h⟩ := vFill_ok h
  refine ⟨_, ?_, ble_of (Nat.le_trans (Nat.le_of_ble_eq_true h1) (by decide)), h⟩
  simp only [made, madeSliceLit, hu, hz, he, h1, h2]
  have e2 : aFill (fun i => some (Nat.mul i e.size, e.size)) ρ (repL z len) parts.toList = some cs := e'
  rw [e2]
 ·rename_i t l c
  split at h <;> try exact h.elim
  rename_i elem hu
  split at h <;> try exact h.elim
  rename_i z e hz he
  split at h <;> try exact h.elim
  rename_i h0
  split at h <;> try exact h.elim
  rename_i k1 n k2 m hl hc
  obtain ⟨rfl, hn, g1, g2, g3, h⟩ := h
  refine ⟨_, ?_, ble_of g1, h⟩
  have b0 : Nat.beq n.toNat n.toNat = true := Nat.beq_refl _
  have b1 : Nat.ble (Nat.mul n.toNat e.size) 9223372036854775807 = true := ble_of g1
  have b2 : Nat.ble (Nat.mul n.toNat e.bytes) 140737488355328 = true := ble_of g2
  simp only [made, madeMake, hu, hz, he, hl, hc, asNat_nn hn, b0, b1, b2, h0, ble_of g3, forceN_eq]
def blkN (m : Made) (nx : Nat) (H : Heap) : Heap := set5 nx (some (.cells m.n (CT.ofL m.n m.l) [] false)) H
def appC (H : Heap) (nx esz ebytes : Nat) (s : AVal) (n : Nat) (new : List AVal) : Option (AVal × Heap × Nat) :=
 match n with
 | 0 => match s with
  | .nilSlice => some (.nilSlice, H, nx)
  | .slice b off len e full => some (.slice b off len e full, H, nx)
  | _ => none
 | Nat.succ n' => match s with
  | .nilSlice => match Nat.ble (Nat.mul (Nat.succ n') esz) 9223372036854775807, Nat.ble (Nat.mul (Nat.succ n') ebytes) 140737488355328 with
   | true, true => some (.slice nx 0 (Nat.succ n') esz false, set5 nx (some (.cells (Nat.mul (Nat.succ n') esz) (CT.ofL (Nat.mul (Nat.succ n') esz) new) [] false)) H, Nat.succ nx)
   | _, _ => none
  | .slice b off len e full => match get5 b H, Nat.beq e esz, Nat.ble (Nat.mul (Nat.add len (Nat.succ n')) esz) 9223372036854775807, Nat.ble (Nat.mul (Nat.add len (Nat.succ n')) ebytes) 140737488355328 with
   | some (.cells cnt ct olds sup), true, true, true => match Nat.ble (Nat.add off (Nat.mul len esz)) cnt, full with
    | true, true => some (.slice nx 0 (Nat.add len (Nat.succ n')) esz false,
      set5 nx (some (.cells (Nat.mul (Nat.add len (Nat.succ n')) esz) (CT.ofL (Nat.mul (Nat.add len (Nat.succ n')) esz) (CT.slab ct (Nat.mul len esz) off ++ new)) [] false)) H, Nat.succ nx)
    | true, false => match off, sup with
     | 0, false => some (.slice nx 0 (Nat.add len (Nat.succ n')) esz false,
       grown b cnt ct olds (Nat.mul len esz) H nx (Nat.mul (Nat.add len (Nat.succ n')) esz) (CT.lay new (Nat.mul len esz) (CT.widen (Nat.mul (Nat.add len (Nat.succ n')) esz) ct)), Nat.succ nx)
     | _, _ => none
    | _, _ => none
   | _, _, _, _ => none
  | _ => none
theorem appC_ok {P : Program} {elem : TypeId} {H : Heap} {nx : Nat} {s : AVal} {src : Nat → Option (Nat × List AVal)} {z : List AVal} {e : TypeInfo} {n : Nat} {new : List AVal} {v : AVal} {H' : Heap} {nx' : Nat}
  (hz : zeroL P elem = some z) (he : P.info? elem = some e) (hs : src e.size = some (n, new)) (h0 : Nat.beq e.size 0 = false) (h : appC H nx e.size e.bytes s n new = some (v, H', nx')) :
  aAppend P elem H nx s src = some (.val v H' nx') := by
 have hn : Nat.ble (Nat.succ nx) (Nat.succ nx) = true := ble_of (Nat.le_refl _)
 unfold appC at h
 unfold aAppend
 simp only [hz, he, hs, h0, hn]
 cases n with
 | zero =>
  simp only [] at h ⊢
  split at h <;> first | (cases h; done) | (cases h; rfl)
 | succ n' =>
  simp only [] at h ⊢
  split at h <;> try (cases h; done)
  ·split at h <;> try (cases h; done)
   rename_i g1 g2
   cases h
   simp only [g1, g2, forceN_eq]
  ·split at h <;> try (cases h; done)
   rename_i g0 g1 g2 g3
   split at h <;> try (cases h; done)
   ·rename_i g4
    cases h
    simp only [g0, g1, g2, g3, g4, forceN_eq]
   ·rename_i g4
    split at h <;> try (cases h; done)
    cases h
    simp only [g0, g1, g2, g3, g4, forceN_eq]
def zerosC (z : List AVal) (size : Nat) (x : AVal) : Option (Nat × List AVal) :=
 match x with
 | .int .i64 (.ofNat n) => match Nat.ble (Nat.mul n size) 9223372036854775807, Nat.ble n 9223372036854775807 with
  | true, true => some (n, repL z n)
  | _, _ => none
 | _ => none
theorem zerosC_ok {P : Program} {elem : TypeId} {z : List AVal} {size : Nat} {x : AVal} {r : Nat × List AVal} (hz : zeroL P elem = some z) (h : zerosC z size x = some r) : aZeros P elem size x = some r := by
 unfold zerosC at h
 split at h <;> try (cases h; done)
 split at h <;> try (cases h; done)
 rename_i g1 g2
 cases h
 unfold aZeros
 simp only [hz, g1, g2]
def copC (H : Heap) (esz : Nat) (d s : AVal) : Option (Nat × Heap) :=
 match d, s with
 | .slice b off len _ _, .slice b2 off2 len2 _ _ => match get5 b H, get5 b2 H with
  | some (.cells cnt ct olds false), some (.cells cnt2 ct2 _ _) => match Nat.ble (Nat.add off (Nat.mul (minN len2 len) esz)) cnt, Nat.ble (Nat.add off2 (Nat.mul (minN len2 len) esz)) cnt2, allCell (CT.slab ct2 (Nat.mul (minN len2 len) esz) off2) with
   | true, true, true => some (minN len2 len, set5 b (some (.cells cnt (CT.lay (CT.slab ct2 (Nat.mul (minN len2 len) esz) off2) off ct) [] false)) (dels olds H))
   | _, _, _ => none
  | _, _ => none
 | .slice _ _ _ _ _, .nilSlice => some (0, H)
 | .nilSlice, .nilSlice => some (0, H)
 | .nilSlice, .slice _ _ _ _ _ => some (0, H)
 | _, _ => none
theorem copC_ok {P : Program} {types : Array TypeId} {args : Array Operand} {ρ : Operand → AVal} {H : Heap} {nx : Nat} {dT elem : TypeId} {l : List TypeId} {d s : Operand} {e : TypeInfo} {n : Nat} {H' : Heap}
  (ht : types.toList = dT :: l) (ha : args.toList = [d, s]) (hu : P.underlying dT = some (.slice elem)) (he : P.info? elem = some e) (h : copC H e.size (ρ d) (ρ s) = some (n, H')) :
  opCopy P types args ρ H nx = some (.val (.int .i64 (.ofNat n)) H' nx) := by
 unfold opCopy
 simp only [ht, ha, hu, he]
 unfold copC at h
 split at h
 ·rename_i hd hs
  simp only [hd, hs]
  split at h <;> try (cases h; done)
  rename_i g1 g2
  split at h <;> try (cases h; done)
  rename_i g3 g4 g5
  cases h
  simp only [g1, g2, forceN_eq, g3, g4, g5]
 ·rename_i hd hs; cases h; simp only [hd, hs]; rfl
 ·rename_i hd hs; cases h; simp only [hd, hs]; rfl
 ·rename_i hd hs; cases h; simp only [hd, hs]; rfl
 ·cases h
def callV (P : Program) (x : Operand) (a : AVal) (args : List AVal) (K : FuncId → List AVal → Prop) : Prop :=
 match x with
 | .tmp _ => ∃ f as, callTo P a args = some (f, as) ∧ K f as
 | _ => match callTo P a args with
  | some (f, as) => K f as
  | none => False
theorem callV_ok {P : Program} {x : Operand} {a : AVal} {args : List AVal} {K : FuncId → List AVal → Prop} (h : callV P x a args K) : ∃ f as, callTo P a args = some (f, as) ∧ K f as := by
 unfold callV at h
 split at h
 ·exact h
 ·split at h <;> first | exact h.elim | exact ⟨_, _, ‹_›, h⟩
def vCall (P : Program) (c : Call) (ρ : Operand → AVal) (H : Heap) (nx : Nat) (κ : ARes → Prop) : Prop :=
 match c.callee with
 | .value f => callV P f (ρ f) (c.args.toList.map ρ) fun g as => κ (.call g as)
 | .builtin .len => match c.argTypes.toList, c.args.toList with
  | [t], [x] => match P.underlying t with
   | some .string => match ρ x with
    | .str s => κ (.val (.int .i64 (.ofNat s.length)) H nx)
    | _ => False
   | some (.array n _) => κ (.val (.int .i64 (.ofNat n)) H nx)
   | some (.slice _) => ∃ n, lenS (ρ x) = some n ∧ κ (.val (.int .i64 (.ofNat n)) H nx)
   | _ => False
  | _, _ => False
 | .builtin .append => match c.argTypes.toList, c.args.toList with
  | [sT, xT], [s, x] => match P.underlying sT, P.underlying xT with
   | some (.slice elem), some d => match srcD d, P.info? elem, zeroL P elem with
    | true, some e, some _ => match Nat.beq e.size 0 with
     | false => ∃ n l, aSrc e.size H (ρ x) = some (n, l) ∧ allCell l = true ∧ ∃ v H' nx', appC H nx e.size e.bytes (ρ s) n l = some (v, H', nx') ∧ κ (.val v H' nx')
     | true => False
    | false, some e, some z => match isInt d, Nat.beq e.size 0 with
     | true, false => ∃ n l, zerosC z e.size (ρ x) = some (n, l) ∧ allCell l = true ∧ ∃ v H' nx', appC H nx e.size e.bytes (ρ s) n l = some (v, H', nx') ∧ κ (.val v H' nx')
     | _, _ => ∃ r, opCall P c ρ H nx = some r ∧ κ r
    | _, _, _ => ∃ r, opCall P c ρ H nx = some r ∧ κ r
   | _, _ => False
  | _, _ => False
 | .builtin .max => match c.args.toList with
  | x :: l => match ρ x with
   | .int k n => ∃ m, aMost true k n (l.map ρ) = some m ∧ κ (.val (.int k m) H nx)
   | _ => False
  | _ => False
 | .builtin .min => match c.args.toList with
  | x :: l => match ρ x with
   | .int k n => ∃ m, aMost false k n (l.map ρ) = some m ∧ κ (.val (.int k m) H nx)
   | _ => False
  | _ => False
 | .builtin .copy => match c.argTypes.toList, c.args.toList with
  | dT :: _, [d, s] => match P.underlying dT with
   | some (.slice elem) => match P.info? elem with
    | some e => ∃ n H', copC H e.size (ρ d) (ρ s) = some (n, H') ∧ κ (.val (.int .i64 (.ofNat n)) H' nx)
    | none => False
   | _ => False
  | _, _ => False
 | .builtin .recover => match c.args.toList with
  | [] => κ .rcv
  | _ => False
 | .invoke r name => ∃ t v f byPtr u, ρ r = .iface t v ∧ methodA P t name = some (f, byPtr) ∧ hasBody P f = true ∧ recvA P H t v byPtr = some u ∧ κ (.call f (u :: c.args.toList.map ρ))
 | _ => ∃ r, opCall P c ρ H nx = some r ∧ κ r
theorem vCall_ok {P : Program} {c : Call} {ρ : Operand → AVal} {H : Heap} {nx : Nat} {κ : ARes → Prop} (h : vCall P c ρ H nx κ) : ∃ r, opCall P c ρ H nx = some r ∧ κ r := by
 obtain ⟨callee, args, types⟩ := c
 unfold vCall at h
 simp only [] at h
 split at h
 ·obtain ⟨g, as, e, h⟩ := callV_ok h
  refine ⟨_, ?_, h⟩
  simp only [opCall, opCallV, e]
 ·split at h <;> try exact h.elim
  rename_i t x ht hx
  split at h <;> try exact h.elim
  ·rename_i hu
   split at h <;> try exact h.elim
   rename_i s hs
   refine ⟨_, ?_, h⟩
   simp only [opCall, opBuiltin0, ht, hx, lenOfA, hu, hs]
  ·rename_i n e hu
   refine ⟨_, ?_, h⟩
   simp only [opCall, opBuiltin0, ht, hx, lenOfA, hu]
  ·rename_i el hu
   obtain ⟨n, e, h⟩ := h
   refine ⟨_, ?_, h⟩
   unfold lenS at e
   split at e <;> try (cases e; done)
   ·rename_i hs; cases e; simp only [opCall, opBuiltin0, ht, hx, lenOfA, hu, hs]
   ·rename_i hs; cases e; simp only [opCall, opBuiltin0, ht, hx, lenOfA, hu, hs]
   ·rename_i hs; cases e; simp only [opCall, opBuiltin0, ht, hx, lenOfA, hu, hs]
 ·split at h <;> try exact h.elim
  rename_i sT xT s x ht hx
  split at h <;> try exact h.elim
  rename_i elem d hs hd
  split at h <;> first | exact h | skip
  ·rename_i e z hsrc he hz
   split at h <;> try exact h.elim
   rename_i h0
   obtain ⟨n, l, e1, e2, v, H', nx', e3, h⟩ := h
   refine ⟨_, ?_, h⟩
   simp only [opCall, ht, hx, hs, hd, hsrc, he, e1, e2]
   exact appC_ok hz he e1 h0 e3
  ·rename_i e z hsrc he hz
   split at h <;> first | exact h | skip
   rename_i hi h0
   obtain ⟨n, l, e1, e2, v, H', nx', e3, h⟩ := h
   refine ⟨_, ?_, h⟩
   have e1' := zerosC_ok (P := P) (elem := elem) hz e1
   simp only [opCall, ht, hx, hs, hd, hsrc, he, hi, e1', e2]
   exact appC_ok (src := fun size => aZeros P elem size (ρ x)) hz he e1' h0 e3
 ·split at h <;> try exact h.elim
  rename_i x l hx
  split at h <;> try exact h.elim
  rename_i k n hn
  obtain ⟨m, e, h⟩ := h
  refine ⟨_, ?_, h⟩
  simp only [opCall, opBuiltin0, hx, hn, e, forceI_eq]
 ·split at h <;> try exact h.elim
  rename_i x l hx
  split at h <;> try exact h.elim
  rename_i k n hn
  obtain ⟨m, e, h⟩ := h
  refine ⟨_, ?_, h⟩
  simp only [opCall, opBuiltin0, hx, hn, e, forceI_eq]
 ·split at h <;> try exact h.elim
  rename_i dT l d s ht ha
  split at h <;> try exact h.elim
  rename_i elem hu
  split at h <;> try exact h.elim
  rename_i e he
  obtain ⟨n, H', e1, h⟩ := h
  refine ⟨_, ?_, h⟩
  simp only [opCall]
  exact copC_ok ht ha hu he e1
 ·split at h <;> try exact h.elim
  rename_i ha
  refine ⟨_, ?_, h⟩
  simp only [opCall, opBuiltin0, ha]
 ·obtain ⟨t, v, f, byPtr, u, e1, e2, e3, e4, h⟩ := h
  refine ⟨_, ?_, h⟩
  simp only [opCall, opInvoke, e1, e2, e3, e4]
 ·exact h
def notNil : AVal → Bool
 | .ptr _ _ => true
 | .gptr _ _ => true
 | .iface _ _ => true
 | .func (.func _) _ _ => true
 | _ => false
def vres (P : Program) (o : Oper) (ρ : Operand → AVal) (H : Heap) (nx : Nat) (κ : ARes → Prop) : Prop :=
 match o.op with
 | .move x => κ (.val (ρ x) H nx)
 | .assign x => κ (.val (ρ x) H nx)
 | .pick c a b => match ρ c with
  | .bool p => Bool.rec (κ (.val (ρ b) H nx)) (κ (.val (ρ a) H nx)) p
  | _ => False
 | .load t a => vLoad P t H (ρ a) fun v => κ (.val v H nx)
 | .store t a x => vStore P t H (ρ a) (ρ x) fun H' => κ (.val .und H' nx)
 | .nilCheck x => notNil (ρ x) = true ∧ κ (.val (ρ x) H nx)
 | .binOp op t x y _ => vBin P op t x y (ρ x) (ρ y) fun v => κ (.val v H nx)
 | .unOp .neg _ x => match ρ x with
  | .int k n => κ (.val (.int k (k.wrap (0 - n))) H nx)
  | _ => False
 | .unOp .not _ x => match ρ x with
  | .bool b => κ (.val (.bool (!b)) H nx)
  | _ => False
 | .convert s d x => vConv P s d (ρ x) H fun v => κ (.val v H nx)
 | .makeInterface t x => match P.underlying t with
  | some d => match ifaceD d with
   | false => κ (.val (.iface t (ρ x)) H nx)
   | true => False
  | none => False
 | .makeFunc fn a b => κ (.val (.func fn (a.toList.map ρ) (b.toList.map ρ)) H nx)
 | .slice t x lo hi mx => vSlice P t (ρ x) (lo.map ρ) (hi.map ρ) (mx.map ρ) H fun v => κ (.val v H nx)
 | .fieldAddr s x f => vFieldAddr P s f (ρ x) fun v => κ (.val v H nx)
 | .field t x f => match opField P t x f ρ H nx with
  | some r => κ r
  | none => False
 | .indexAddr t x i => vIndexAddr P t (ρ x) (ρ i) fun v => κ (.val v H nx)
 | .index t x i => vIndex P t (ρ x) (ρ i) fun v => κ (.val v H nx)
 | .extract t i => match opExtract t i ρ H nx with
  | some r => κ r
  | none => False
 | .build t ps => vBuild P t ps.toList ρ fun cs => κ (.val (.agg cs) H nx)
 | .alloc t => vMade P (.alloc t) ρ fun m => ∃ H', H' = blkN m nx H ∧ κ (.val (m.v nx) H' (Nat.succ nx))
 | .box t x => vMade P (.box t x) ρ fun m => ∃ H', H' = blkN m nx H ∧ κ (.val (m.v nx) H' (Nat.succ nx))
 | .buildSlice t n ps => vMade P (.buildSlice t n ps) ρ fun m => ∃ H', H' = blkN m nx H ∧ κ (.val (m.v nx) H' (Nat.succ nx))
 | .makeSlice t l c => vMade P (.makeSlice t l c) ρ fun m => ∃ H', H' = blkN m nx H ∧ κ (.val (m.v nx) H' (Nat.succ nx))
 | .call c => vCall P c ρ H nx κ
 | .defer c => match c.callee with
  | .value f => callV P f (ρ f) (c.args.toList.map ρ) fun g as => κ (.dfr g as)
  | _ => False
 | .panic x => ∃ t v, ρ x = .iface t v ∧ κ (.pan (.iface t v))
 | .typeAssert x _ a ok => match ok with
  | true => match aAssert P (ρ x) a true with
   | some v => typedV P o.type v fun v => κ (.val v H nx)
   | none => False
  | false => ∃ v, aAssert P (ρ x) a false = some v ∧ typedV P o.type v fun v => κ (.val v H nx)
 | _ => ∃ r, aop P o ρ H nx = some r ∧ κ r
theorem made_op {P : Program} {op : Op} {ρ : Operand → AVal} {H : Heap} {nx : Nat} {κ : ARes → Prop} (h : vMade P op ρ fun m => ∃ H', H' = blkN m nx H ∧ κ (.val (m.v nx) H' (Nat.succ nx))) : ∃ r, opMadeOf P op ρ H nx = some r ∧ κ r := by
 obtain ⟨m, e, hb, _, rfl, h⟩ := vMade_ok h
 refine ⟨_, ?_, h⟩
 have hn : Nat.ble (Nat.succ nx) (Nat.succ nx) = true := ble_of (Nat.le_refl _)
 simp only [opMadeOf, e, opMade, hb, hn, forceN_eq]
 rfl
theorem vres_ok {P : Program} {o : Oper} {ρ : Operand → AVal} {H : Heap} {nx : Nat} {κ : ARes → Prop} (h : vres P o ρ H nx κ) : ∃ r, aop P o ρ H nx = some r ∧ κ r := by
 unfold vres at h
 unfold aop
 split at h
 ·rename_i e; rw [e]; exact ⟨_, rfl, h⟩
 ·rename_i e; rw [e]; exact ⟨_, rfl, h⟩
 ·rename_i e
  rw [e]
  split at h <;> try exact h.elim
  rename_i p hp
  cases p with
  | true => exact ⟨_, by simp only [opPick, hp], h⟩
  | false => exact ⟨_, by simp only [opPick, hp], h⟩
 ·rename_i e; rw [e]; obtain ⟨v, e1, h⟩ := vLoad_ok h; exact ⟨_, by simp only [opLoad, e1], h⟩
 ·rename_i e; rw [e]; obtain ⟨v, e1, h⟩ := vStore_ok h; exact ⟨_, by simp only [opStore, e1], h⟩
 ·rename_i x e
  rw [e]
  obtain ⟨h1, h⟩ := h
  refine ⟨_, ?_, h⟩
  show opNilCheck x ρ H nx = _
  unfold opNilCheck
  unfold notNil at h1
  split at h1 <;> first | (cases h1; done) | (rename_i q; simp only [q])
 ·rename_i e; rw [e]; obtain ⟨v, e1, h⟩ := vBin_ok h; exact ⟨_, e1, h⟩
 ·rename_i e
  rw [e]
  split at h <;> try exact h.elim
  rename_i k n hx
  exact ⟨_, by simp only [opUn, hx, forceI_eq, awrap_eq]; rfl, h⟩
 ·rename_i e
  rw [e]
  split at h <;> try exact h.elim
  rename_i b hx
  exact ⟨_, by simp only [opUn, hx, bnot_eq], h⟩
 ·rename_i e; rw [e]; obtain ⟨v, e1, h⟩ := vConv_ok h; exact ⟨_, e1, h⟩
 ·rename_i t x e
  rw [e]
  split at h <;> try exact h.elim
  rename_i d hu
  split at h <;> try exact h.elim
  rename_i hi
  exact ⟨_, by simp only [opMakeInterface, hu, hi], h⟩
 ·rename_i e; rw [e]; exact ⟨_, rfl, h⟩
 ·rename_i e; rw [e]; obtain ⟨v, e1, h⟩ := vSlice_ok h; exact ⟨_, e1, h⟩
 ·rename_i e; rw [e]; obtain ⟨v, e1, h⟩ := vFieldAddr_ok h; exact ⟨_, e1, h⟩
 ·rename_i e; rw [e]; split at h <;> first | exact h.elim | exact ⟨_, ‹_›, h⟩
 ·rename_i e; rw [e]; obtain ⟨v, e1, h⟩ := vIndexAddr_ok h; exact ⟨_, e1, h⟩
 ·rename_i e; rw [e]; obtain ⟨v, e1, h⟩ := vIndex_ok h; exact ⟨_, e1, h⟩
 ·rename_i e; rw [e]; split at h <;> first | exact h.elim | exact ⟨_, ‹_›, h⟩
 ·rename_i e; rw [e]; obtain ⟨v, e1, h⟩ := vBuild_ok h; exact ⟨_, by simp only [opBuild, e1], h⟩
 ·rename_i e; rw [e]; exact made_op h
 ·rename_i e; rw [e]; exact made_op h
 ·rename_i e; rw [e]; exact made_op h
 ·rename_i e; rw [e]; exact made_op h
 ·rename_i e; rw [e]; exact vCall_ok h
 ·rename_i c e
  rw [e]
  split at h <;> try exact h.elim
  rename_i f hf
  obtain ⟨g, as, e1, h⟩ := callV_ok h
  refine ⟨_, ?_, h⟩
  simp only [opDeferC, hf, opDefer, e1]
 ·rename_i e
  rw [e]
  obtain ⟨t, v, e1, h⟩ := h
  exact ⟨_, by simp only [opPanic, e1], h⟩
 ·rename_i x xt a ok e
  rw [e]
  split at h
  ·split at h <;> try exact h.elim
   rename_i v e1
   exact ⟨_, by simp only [opAssert, e1], typedV_ok h⟩
  ·obtain ⟨v, e1, h⟩ := h
   exact ⟨_, by simp only [opAssert, e1], typedV_ok h⟩
 ·exact h
end
end Go.Vs
end
section
namespace Go.Vs
variable [GTab]
noncomputable section
abbrev KC := Env → Heap → Nat → Dfs → Option AMode → Prop
abbrev KP := AExit → KC
abbrev EndP := AEnd → Heap → Nat → Prop
abbrev CallP := FuncId → List AVal → Heap → Nat → EndP → Prop
abbrev CallDP := FuncId → List AVal → AMode → Heap → Nat → (AEnd → AMode → Heap → Nat → Prop) → Prop
abbrev LoopP := Code → Env → Heap → Nat → Dfs → Option AMode → KP → Prop
def TriP (P : Program) : CallP := fun f args H nx K =>
 ∀ (σ : Sg) (w : World) (args' : List Value) (R : Ending → World → Prop), Rel σ H nx w → DenL σ args args' →
  (∀ e H' nx' σ' w' en, K e H' nx' → Rel σ' H' nx' w' → Ext σ σ' H H' nx nx' w w' → EndRel σ' e en → R en w') → Calls P f ⟨args'⟩ w R
def TriDP (P : Program) : CallDP := fun f args m H nx K => hasBody P f = true ∧
 ∀ (σ : Sg) (w : World) (args' : List Value) (u : FrameMode) (R : Ending → FrameMode → World → Prop), Rel σ H nx w → DenL σ args args' → MRel σ m u →
  (∀ e m' H' nx' σ' w' en u', K e m' H' nx' → Rel σ' H' nx' w' → Ext σ σ' H H' nx nx' w w' → EndRel σ' e en → MRel σ' m' u' → R en u' w') → CallsD P f ⟨args'⟩ u w R
def CallSP (P : Program) (call : CallP) : Prop := ∀ f args H nx K, call f args H nx K → TriP P f args H nx K
def CallDSP (P : Program) (calld : CallDP) : Prop := ∀ f args m H nx K, calld f args m H nx K → TriDP P f args m H nx K
theorem TriP.mono {P : Program} {f : FuncId} {args : List AVal} {H : Heap} {nx : Nat} {K K' : EndP} (h : TriP P f args H nx K) (hk : ∀ e H' nx', K e H' nx' → K' e H' nx') : TriP P f args H nx K' :=
 fun σ w args' R hr hd hR => h σ w args' R hr hd fun e H' nx' σ' w' en k => hR e H' nx' σ' w' en (hk _ _ _ k)
def onEnd (e : AEnd) (r : AVal → Prop) (p : List (AVal × Bool) → Prop) : Prop := (∀ v, e = .ret v → r v) ∧ (∀ l, e = .pan l → p l)
def takeV (P : Program) (call : CallP) (ty : TypeId) (d : Option Nat) (r : ARes) (env : Env) (H : Heap) (nx : Nat) (dfs : Dfs) (rc : Option AMode) (k : KC) (K : KP) : Prop :=
 match r with
 | .val v H' nx' => k (put d v env) H' nx' dfs rc
 | .call f args => call f args H nx fun e H' nx' => onEnd e (fun v => typedV P ty v fun v => k (put d v env) H' nx' dfs rc) (fun l => K (.pan l) env H' nx' dfs rc)
 | .dfr f args => k (put d (.tuple []) env) H nx ((f, args) :: dfs) rc
 | .pan v => K (.pan [(v, false)]) env H nx dfs rc
 | .rcv => match rc with
  | some (.panicking ((v, false) :: older)) => k (put d v env) H nx dfs (some (.panicking ((v, true) :: older)))
  | some .returning => k (put d .nilIface env) H nx dfs rc
  | _ => False
theorem set2_self {t : Nat} {env : Env} {v : AVal} (h : get2 t env = v) : set2 t v env = env := by
 funext s
 show (Bool.rec (env s) v (Nat.beq s t) : AVal) = env s
 cases e : Nat.beq s t with
 | false => rfl
 | true => have := Nat.eq_of_beq_eq_true e; subst this; exact h.symm
def ifB (b : Bool) (p q : Prop) : Prop := Bool.rec q p b
theorem ifB_iff {b : Bool} {p q : Prop} : ifB b p q ↔ (b = true → p) ∧ (b = false → q) := by cases b <;> simp [ifB]
def guardV (ops : Array Oper) (g : Option (Nat × Bool)) (env : Env) (run skip : Env → Prop) : Prop :=
 match g with
 | none => run env
 | some (j, want) => match (ops[j]?).bind (·.dst) with
  | some t => match Nat.ble t 255 with
   | true => match get2 t env with
    | .bool b => Bool.rec (Bool.rec (run (set2 t (.bool false) env)) (skip (set2 t (.bool false) env)) want) (Bool.rec (skip (set2 t (.bool true) env)) (run (set2 t (.bool true) env)) want) b
    | .tuple [] => skip env
    | _ => False
   | false => False
  | none => skip env
theorem guardV_ok {ops : Array Oper} {g : Option (Nat × Bool)} {env : Env} {run skip : Env → Prop} (h : guardV ops g env run skip) :
  (wantedA ops g env = some true ∧ run env) ∨ (wantedA ops g env = some false ∧ skip env) := by
 unfold guardV at h
 unfold wantedA
 split at h
 ·exact .inl ⟨rfl, h⟩
 ·rename_i j want
  simp only []
  split at h
  ·rename_i t ht
   split at h <;> try exact h.elim
   rename_i hb
   split at h <;> try exact h.elim
   ·rename_i b hv
    simp only [ht, hb, hv]
    cases b <;> cases want
    all_goals
     simp only [set2_self hv] at h
     first
     | exact .inl ⟨by first | rfl | trivial, h⟩
     | exact .inr ⟨by first | rfl | trivial, h⟩
   ·rename_i hv
    simp only [ht, hb, hv]
    exact .inr ⟨by first | rfl | trivial, h⟩
  ·rename_i ht
   simp only [ht]
   exact .inr ⟨by first | rfl | trivial, h⟩
def vOp (P : Program) (call : CallP) (nt : Nat) (ops : Array Oper) (o : Oper) (env : Env) (H : Heap) (nx : Nat) (dfs : Dfs) (rc : Option AMode) (k : KC) (K : KP) : Prop :=
 match dstOK nt o.dst with
 | true => guardV ops o.guard env (fun env => vres P o (aev env) H nx fun r => takeV P call o.type o.dst r env H nx dfs rc k K) (fun env => k (put o.dst (.tuple []) env) H nx dfs rc)
 | false => False
def vOps (P : Program) (call : CallP) (nt : Nat) (ops : Array Oper) (K : KP) : List Oper → KC
 | [] => fun env H nx dfs rc => K .normal env H nx dfs rc
 | o :: l => fun env H nx dfs rc => vOp P call nt ops o env H nx dfs rc (vOps P call nt ops K l) K
def PostP (nt : Nat) (K : KP) (σ : Sg) (H : Heap) (nx : Nat) (w : World) (Q : Exit → Act → World → Prop) : Prop :=
 ∀ ex env' H' nx' dfs' σ' w' a' e, K ex env' H' nx' dfs' none → Rel σ' H' nx' w' → Ext σ σ' H H' nx nx' w w' → ARel σ' nt env' dfs' a' → ExRel σ' ex e → Q e a' w'
def PostSP (nt : Nat) (K : KP) (σ : Sg) (H : Heap) (nx : Nat) (w : World) (c₀ : Frame) (cs : List Frame) (Q : Exit → Act → List Frame → World → Prop) : Prop :=
 ∀ ex env' H' nx' dfs' m' σ' w' a' e u', K ex env' H' nx' dfs' (some m') → Rel σ' H' nx' w' → Ext σ σ' H H' nx nx' w w' → ARel σ' nt env' dfs' a' → ExRel σ' ex e → MRel σ' m' u' →
  Q e a' ({ c₀ with mode := u' } :: cs) w'
theorem PostP.from {nt : Nat} {K : KP} {σ σ1 : Sg} {H H1 : Heap} {nx nx1 : Nat} {w w1 : World} {Q : Exit → Act → World → Prop} (h : PostP nt K σ H nx w Q) (E : Ext σ σ1 H H1 nx nx1 w w1) :
  PostP nt K σ1 H1 nx1 w1 Q := fun ex env' H' nx' dfs' σ' w' a' e hk R E2 A X => h ex env' H' nx' dfs' σ' w' a' e hk R (E.trans E2) A X
theorem PostSP.from {nt : Nat} {K : KP} {σ σ1 : Sg} {H H1 : Heap} {nx nx1 : Nat} {w w1 : World} {c₀ : Frame} {cs : List Frame} {Q : Exit → Act → List Frame → World → Prop} (h : PostSP nt K σ H nx w c₀ cs Q) (E : Ext σ σ1 H H1 nx nx1 w w1) :
  PostSP nt K σ1 H1 nx1 w1 c₀ cs Q := fun ex env' H' nx' dfs' m' σ' w' a' e u' hk R E2 A X M => h ex env' H' nx' dfs' m' σ' w' a' e u' hk R (E.trans E2) A X M
theorem upon_stepP {P : Program} {call : CallP} {nt : Nat} {o : Oper} {env : Env} {H : Heap} {nx : Nat} {dfs : Dfs} {rc : Option AMode} {r : ARes} {k : KC} {K : KP} {ty : TypeId}
  (hc : CallSP P call) (hok : OpOK P o (aev env) H nx r) (hdst : dstOK nt o.dst = true) (hnr : r ≠ .rcv) (ht : takeV P call ty o.dst r env H nx dfs rc k K)
  {σ : Sg} {w : World} {a : Act} {next : Act → World → Prop} {Q : Exit → Act → World → Prop} (hr : Rel σ H nx w) (ha : ARel σ nt env dfs a)
  (hn : ∀ env1 H1 nx1 dfs1 σ1 w1 a1, k env1 H1 nx1 dfs1 rc → Rel σ1 H1 nx1 w1 → Ext σ σ1 H H1 nx nx1 w w1 → ARel σ1 nt env1 dfs1 a1 → next a1 w1)
  (hp : ∀ l H1 nx1 σ1 w1 c, K (.pan l) env H1 nx1 dfs rc → Rel σ1 H1 nx1 w1 → Ext σ σ1 H H1 nx nx1 w w1 → Chain σ1 l c → Q (.panic c) a w1) :
  NotRec P o a w ∧ o.wp P a w next Q := by
 cases r with
 | val v H' nx' =>
  obtain ⟨σ', w', v', R, E, D, hrun⟩ := hok σ w a.eval hr ha.env.aev
  rcases hrun with hrun | ⟨hrun, rfl⟩
  ·exact ⟨(fun w2 e => by rw [hrun] at e; cases e), by unfold Oper.wp; rw [hrun]; exact hn _ _ _ _ σ' w' _ ht R E ((ha.mono E.sub).put hdst D)⟩
  ·exact ⟨(fun w2 e => by rw [hrun] at e; cases e), by unfold Oper.wp; rw [hrun]; exact hn _ _ _ _ σ' w' _ ht R E ((ha.mono E.sub).put hdst D)⟩
 | call f args =>
  have tri := hc f args H nx _ ht
  obtain ⟨args', hl, hrun⟩ := hok σ w a.eval hr ha.env.aev
  refine ⟨(fun w2 e => by rw [hrun] at e; cases e), ?_⟩
  unfold Oper.wp
  rw [hrun]
  show Calls P f ⟨args'⟩ w _
  refine tri σ w args' _ hr hl fun e H' nx' σ' w' en hk R E he => ?_
  cases e with
  | ret v =>
   cases en with
   | returned v' => exact hn _ _ _ _ σ' w' _ (typedV_ok (hk.1 v rfl)) R E ((ha.mono E.sub).put hdst he)
   | panicked c => exact he.elim
   | outgrown => exact he.elim
  | pan l =>
   cases en with
   | returned v' => exact he.elim
   | panicked c => exact hp l H' nx' σ' w' c (hk.2 l rfl) R E he
   | outgrown => exact he.elim
 | dfr f args =>
  obtain ⟨d, hd, hrun⟩ := hok σ w a.eval hr ha.env.aev
  refine ⟨(fun w2 e => by rw [hrun] at e; cases e), ?_⟩
  unfold Oper.wp
  rw [hrun]
  refine hn _ _ _ _ σ w _ ht hr (Ext.refl _ _ _ _) ⟨?_, ?_⟩
  ·have h1 : EnvRel σ nt (put o.dst (.tuple []) env) (a.put o.dst undef).tmps := ha.env.put hdst (.tuple .nil)
   have e : (({ a with defers := d :: a.defers } : Act).put o.dst undef).tmps = (a.put o.dst undef).tmps := by cases o.dst <;> rfl
   rw [e]; exact h1
  ·have e : (({ a with defers := d :: a.defers } : Act).put o.dst undef).defers = d :: a.defers := by cases o.dst <;> rfl
   rw [e]; exact .cons hd ha.dfs
 | pan v =>
  obtain ⟨v', dv, hrun⟩ := hok σ w a.eval hr ha.env.aev
  refine ⟨(fun w2 e => by rw [hrun] at e; cases e), ?_⟩
  unfold Oper.wp
  rw [hrun]
  exact hp [(v, false)] H nx σ w [{ v := v', recovered := false }] ht hr (Ext.refl _ _ _ _) (.cons dv rfl rfl .nil)
 | rcv => exact (hnr rfl).elim
theorem vOps_none {P : Program} {call : CallP} {nt : Nat} {ops : Array Oper} {K : KP} (hc : CallSP P call) : ∀ (l : List Oper) (env : Env) (H : Heap) (nx : Nat) (dfs : Dfs), vOps P call nt ops K l env H nx dfs none →
  ∀ σ w a Q, Rel σ H nx w → ARel σ nt env dfs a → PostP nt K σ H nx w Q → wpList P ops Q l a w
 | [], env, H, nx, dfs, h, σ, w, a, Q, hr, ha, hQ => hQ .normal env H nx dfs σ w a .normal h hr (Ext.refl _ _ _ _) ha trivial
 | o :: l, env, H, nx, dfs, h, σ, w, a, Q, hr, ha, hQ => by
  have h' : vOp P call nt ops o env H nx dfs none (vOps P call nt ops K l) K := h
  unfold vOp at h'
  split at h' <;> first | exact h'.elim | skip
  rename_i hdst
  rcases guardV_ok h' with ⟨hw, h'⟩ | ⟨hw, h'⟩
  ·obtain ⟨r, hop, h'⟩ := vres_ok h'
   have hnr : r ≠ .rcv := by
    rintro rfl
    exact h'.elim
   unfold wpList
   rw [if_pos (wanted_ok hw ha.env)]
   refine .inl (upon_stepP hc (aop_ok hop) hdst hnr h' hr ha (fun env1 H1 nx1 dfs1 σ1 w1 a1 hk R1 E1 A1 => vOps_none hc l env1 H1 nx1 dfs1 hk σ1 w1 a1 Q R1 A1 (hQ.from E1)) fun lp H1 nx1 σ1 w1 c hk R1 E1 C1 => ?_).2
   exact hQ (.pan lp) env H1 nx1 dfs σ1 w1 a (.panic c) hk R1 E1 (ha.mono E1.sub) C1
  ·exact opK_skip (wanted_ok hw ha.env) (vOps_none hc l _ H nx dfs h' σ w _ Q hr (ha.put hdst (.tuple .nil)) hQ)
theorem vOps_some {P : Program} {call : CallP} {nt : Nat} {ops : Array Oper} {K : KP} (hc : CallSP P call) : ∀ (l : List Oper) (n : Nat) (env : Env) (H : Heap) (nx : Nat) (dfs : Dfs) (m : AMode), (∀ j, l[j]? = ops[n + j]?) → vOps P call nt ops K l env H nx dfs (some m) →
  ∀ σ w a u (c₀ : Frame) cs Q, Rel σ H nx w → ARel σ nt env dfs a → MRel σ m u → PostSP nt K σ H nx w c₀ cs Q → wpOpsS P ops Q (List.range' n l.length) a ({ c₀ with mode := u } :: cs) w
 | [], n, env, H, nx, dfs, m, _, h, σ, w, a, u, c₀, cs, Q, hr, ha, hm, hQ => hQ .normal env H nx dfs m σ w a .normal u h hr (Ext.refl _ _ _ _) ha trivial hm
 | o :: l, n, env, H, nx, dfs, m, hl, h, σ, w, a, u, c₀, cs, Q, hr, ha, hm, hQ => by
  have ho : ops[n]? = some o := by simpa using (hl 0).symm
  have hl' : ∀ j, l[j]? = ops[n + 1 + j]? := fun j => by have := hl (j + 1); simpa [Nat.add_assoc, Nat.add_comm 1 j] using this
  have h' : vOp P call nt ops o env H nx dfs (some m) (vOps P call nt ops K l) K := h
  unfold vOp at h'
  split at h' <;> first | exact h'.elim | skip
  rename_i hdst
  have next : ∀ env1 H1 nx1 dfs1 m1 σ1 w1 a1 u1, vOps P call nt ops K l env1 H1 nx1 dfs1 (some m1) → Rel σ1 H1 nx1 w1 → Ext σ σ1 H H1 nx nx1 w w1 → ARel σ1 nt env1 dfs1 a1 → MRel σ1 m1 u1 →
    wpOpsS P ops Q (List.range' (n + 1) l.length) a1 ({ c₀ with mode := u1 } :: cs) w1 :=
   fun env1 H1 nx1 dfs1 m1 σ1 w1 a1 u1 hk R1 E1 A1 M1 => vOps_some hc l (n + 1) env1 H1 nx1 dfs1 m1 hl' hk σ1 w1 a1 u1 c₀ cs Q R1 A1 M1 (hQ.from E1)
  rw [List.length_cons, List.range'_succ]
  simp only [wpOpsS, ho]
  rcases guardV_ok h' with ⟨hw, h1⟩ | ⟨hw, h1⟩
  ·obtain ⟨r, hop, h2⟩ := vres_ok h1
   rw [if_pos (wanted_ok hw ha.env)]
   by_cases hrcv : r = .rcv
   ·subst hrcv
    have hok := aop_ok hop
    have hrun := hok σ w a.eval hr ha.env.aev
    simp only [hrun]
    have h3 : (match some m with
     | some (.panicking ((v, false) :: older)) => vOps P call nt ops K l (put o.dst v env) H nx dfs (some (.panicking ((v, true) :: older)))
     | some .returning => vOps P call nt ops K l (put o.dst .nilIface env) H nx dfs (some m)
     | _ => False) := h2
    split at h3 <;> try exact h3.elim
    ·rename_i v older hm0
     cases hm0
     cases u with
     | run => exact hm.elim
     | returning => exact hm.elim
     | panicking ch =>
      cases hm with
      | @cons _ _ p _ l' hv hrr hg t =>
       obtain ⟨pv, pr, pg⟩ := p
       simp only at hv hrr hg
       subst hrr
       subst hg
       simp only [recoverD]
       exact next _ _ _ _ _ σ w _ (.panicking ({ v := pv, recovered := true } :: l')) h3 hr (Ext.refl _ _ _ _) (ha.put hdst hv) (.cons hv rfl rfl t)
    ·rename_i hm0
     cases hm0
     cases u with
     | run => exact hm.elim
     | panicking ch => exact hm.elim
     | returning =>
      simp only [recoverD]
      exact next _ _ _ _ _ σ w _ .returning h3 hr (Ext.refl _ _ _ _) (ha.put hdst .nilIface) trivial
   ·obtain ⟨hnr, hwp⟩ := upon_stepP (next := fun a' w' => wpOpsS P ops Q (List.range' (n + 1) l.length) a' ({ c₀ with mode := u } :: cs) w') (Q := fun e a' w' => Q e a' ({ c₀ with mode := u } :: cs) w')
     hc (aop_ok hop) hdst hrcv h2 hr ha
     (fun env1 H1 nx1 dfs1 σ1 w1 a1 hk R1 E1 A1 => next env1 H1 nx1 dfs1 m σ1 w1 a1 u hk R1 E1 A1 (hm.mono E1.sub))
     (fun lp H1 nx1 σ1 w1 c hk R1 E1 C1 => hQ (.pan lp) env H1 nx1 dfs m σ1 w1 a (.panic c) u hk R1 E1 (ha.mono E1.sub) C1 (hm.mono E1.sub))
    unfold Oper.wp at hwp
    split
    ·rename_i w2 e2; exact (hnr w2 e2).elim
    ·exact hwp
  ·rw [if_neg (by rw [wanted_ok hw ha.env]; simp)]
   exact next _ _ _ _ m σ w _ u h1 hr (Ext.refl _ _ _ _) (ha.put hdst (.tuple .nil)) hm
def dec2 (k : Env → Heap → Prop) : Env → Heap → Bool := fun env H => @decide (k env H) (Classical.propDecidable _)
def dec3 (k : Env → Heap → Nat → Prop) : Env → Heap → Nat → Bool := fun env H nx => @decide (k env H nx) (Classical.propDecidable _)
def decC (call : CallP) : CallK := fun f args H nx K => @decide (call f args H nx fun e H nx => K e H nx = true) (Classical.propDecidable _)
def decK (K : KP) (env0 : Env) : Kont := fun e _ H nx dfs rc => @decide (K e env0 H nx dfs rc) (Classical.propDecidable _)
theorem dec_iff {p : Prop} : @decide p (Classical.propDecidable _) = true ↔ p := @decide_eq_true_iff p (Classical.propDecidable _)
theorem decC_ok {P : Program} {call : CallP} (hc : CallSP P call) : CallS P (decC call) := by
 intro f args H nx K h
 exact hc f args H nx _ (dec_iff.1 h)
def vFloat (P : Program) (ops : Array Oper) (res : Nat) (o : Oper) (i : Nat) (env : Env) (H : Heap) (nx : Nat) (k : Env → Heap → Prop) : Prop :=
 guardV ops o.guard env
  (fun env => match Nat.beq (cls o.op) 1 with
   | true => vMade P o.op (aev env) fun m => ∃ H', H' = blkN m (Nat.add res i) H ∧ k (put o.dst (m.v (Nat.add res i)) env) H'
   | false => vres P o (aev env) H nx fun r => match r with
    | .val v _ _ => k (put o.dst v env) H
    | _ => False)
  (fun env => k (put o.dst (.tuple []) env) H)
theorem vFloat_ok {P : Program} {ops : Array Oper} {res : Nat} {o : Oper} {i : Nat} {env : Env} {H : Heap} {nx : Nat} {k : Env → Heap → Prop} (h : vFloat P ops res o i env H nx k) : floatK P ops res o i env H nx (dec2 k) = true := by
 unfold vFloat at h
 unfold floatK
 rcases guardV_ok h with ⟨hw, h⟩ | ⟨hw, h⟩
 ·simp only [hw]
  split at h
  ·rename_i hc
   obtain ⟨m, e, hb, _, rfl, h⟩ := vMade_ok h
   simp only [hc, e, hb, forceN_eq]
   exact dec_iff.2 h
  ·rename_i hc
   obtain ⟨r, e, h⟩ := vres_ok h
   simp only [hc, e]
   split at h <;> first | exact h.elim | exact dec_iff.2 h
 ·simp only [hw]
  exact dec_iff.2 h
def vFloats (P : Program) (ops : Array Oper) (res : Nat) (nx : Nat) (k : Env → Heap → Prop) : List Nat → Env → Heap → Prop
 | [] => k
 | i :: l => fun env H => match ops[i]? with
  | some o => vFloat P ops res o i env H nx (vFloats P ops res nx k l)
  | none => False
theorem floatK_mono {P : Program} {ops : Array Oper} {res : Nat} {o : Oper} {i : Nat} {env : Env} {H : Heap} {nx : Nat} {k k' : Env → Heap → Bool} (h : floatK P ops res o i env H nx k = true) (hk : ∀ env H, k env H = true → k' env H = true) :
  floatK P ops res o i env H nx k' = true := by
 unfold floatK at h ⊢
 split at h <;> try (cases h; done)
 ·split at h
  ·split at h <;> try (cases h; done)
   split at h <;> try (cases h; done)
   rw [forceN_eq] at h ⊢
   exact hk _ _ h
  ·split at h <;> first | (cases h; done) | exact hk _ _ h
 ·exact hk _ _ h
theorem vFloats_ok {P : Program} {ops : Array Oper} {res nx : Nat} {k : Env → Heap → Prop} : ∀ {l : List Nat} {env : Env} {H : Heap}, vFloats P ops res nx k l env H → floatsK P ops res nx (dec2 k) l env H = true
 | [], _, _, h => dec_iff.2 h
 | i :: l, env, H, h => by
  have h' : (match ops[i]? with | some o => vFloat P ops res o i env H nx (vFloats P ops res nx k l) | none => False) := h
  show (match ops[i]? with | some o => floatK P ops res o i env H nx (floatsK P ops res nx (dec2 k) l) | none => false) = true
  split at h' <;> first | exact h'.elim | skip
  rename_i o ho
  try simp only [ho]
  exact floatK_mono (vFloat_ok h') fun env H hk => vFloats_ok (dec_iff.1 hk)
def vAgain (P : Program) (ops : Array Oper) (env : Env) (H : Heap) (nx : Nat) : List Nat → Prop
 | [] => True
 | i :: l => (match ops[i]? with
  | some o => guardV ops o.guard env (fun env => vres P o (aev env) H nx fun r => match r with
    | .val v _ _ => (match o.dst with
     | some d => v = get2 d env
     | none => True)
    | _ => False) (fun env => match o.dst with
     | some d => get2 d env = .tuple []
     | none => True)
  | none => False) ∧ vAgain P ops env H nx l
theorem vAgain_ok {P : Program} {ops : Array Oper} {env : Env} {H : Heap} {nx : Nat} : ∀ {l : List Nat}, vAgain P ops env H nx l → againK P ops env H nx l = true
 | [], _ => rfl
 | i :: l, h => by
  obtain ⟨h1, h2⟩ := h
  show (Bool.rec false (againK P ops env H nx l) (match ops[i]? with | some o => again1 P ops env H nx o | none => false) : Bool) = true
  have : (match ops[i]? with | some o => again1 P ops env H nx o | none => false) = true := by
   split at h1 <;> try exact h1.elim
   rename_i o ho
   try simp only [ho]
   unfold again1
   rcases guardV_ok h1 with ⟨hw, h1⟩ | ⟨hw, h1⟩
   ·simp only [hw]
    obtain ⟨r, e, h1⟩ := vres_ok h1
    simp only [e]
    split at h1 <;> try exact h1.elim
    simp only []
    split at h1
    ·rename_i d hd; simp only [hd]; exact dec_iff.2 h1
    ·rename_i hd; simp only [hd]
   ·simp only [hw]
    split at h1
    ·rename_i d hd; simp only [hd, h1]
    ·rename_i hd; simp only [hd]
  rw [this]
  exact vAgain_ok h2
def vAct (P : Program) (call : CallP) (ops : Array Oper) (o : Oper) (env : Env) (H : Heap) (nx : Nat) (dfs : Dfs) (rc : Option AMode) (k : Env → Heap → Nat → Prop) (K : KP) (env0 : Env) : Prop :=
 guardV ops o.guard env
  (fun env => vres P o (aev env) H nx fun r => match r with
   | .val v H' nx' => k (put o.dst v env) H' nx'
   | .call f args => call f args H nx fun e H' nx' => onEnd e (fun v => typedV P o.type v fun v => k (put o.dst v env) H' nx') (fun l => K (.pan l) env0 H' nx' dfs rc)
   | .pan v => K (.pan [(v, false)]) env0 H nx dfs rc
   | _ => False)
  (fun env => k (put o.dst (.tuple []) env) H nx)
theorem vAct_ok {P : Program} {call : CallP} {ops : Array Oper} {o : Oper} {env : Env} {H : Heap} {nx : Nat} {dfs : Dfs} {rc : Option AMode} {k : Env → Heap → Nat → Prop} {K : KP} {env0 : Env}
  (hm : ∀ f args H nx (K K' : EndP), call f args H nx K → (∀ e H' nx', K e H' nx' → K' e H' nx') → call f args H nx K')
  (h : vAct P call ops o env H nx dfs rc k K env0) : actK P (decC call) ops o env H nx dfs rc (dec3 k) (decK K env0) env = true := by
 unfold vAct at h
 unfold actK
 rcases guardV_ok h with ⟨hw, h⟩ | ⟨hw, h⟩
 ·simp only [hw]
  obtain ⟨r, e, h⟩ := vres_ok h
  simp only [e]
  split at h <;> try exact h.elim
  ·exact dec_iff.2 h
  ·refine dec_iff.2 (hm _ _ _ _ _ _ h fun e H' nx' he => ?_)
   cases e with
   | ret v => exact dec_iff.2 (typedV_ok (he.1 v rfl))
   | pan l => exact dec_iff.2 (he.2 l rfl)
  ·exact dec_iff.2 h
 ·simp only [hw]
  exact dec_iff.2 h
def vStages (P : Program) (call : CallP) (ops : Array Oper) (res : Nat) (dfs : Dfs) (rc : Option AMode) (K : KP) (env0 : Env) : List (Nat × List Nat × List Nat) → Env → Heap → Nat → Prop
 | [] => fun env H nx => K .normal env H nx dfs rc
 | (e, F, A) :: rest => fun env H nx => match ops[e]? with
  | some o => vAct P call ops o env H nx dfs rc (fun env' H' nx' => vFloats P ops res nx' (fun env'' H'' => vAgain P ops env'' H'' nx' A ∧ vStages P call ops res dfs rc K env0 rest env'' H'' nx') F env' H') K env0
  | none => False
theorem vStages_run {P : Program} {call : CallP} {ops : Array Oper} {res : Nat} {dfs : Dfs} {rc : Option AMode} {K : KP} {env0 : Env}
  (hm : ∀ f args H nx (K K' : EndP), call f args H nx K → (∀ e H' nx', K e H' nx' → K' e H' nx') → call f args H nx K') :
  ∀ (rest : List Stage) (env : Env) (H : Heap) (nx : Nat), vStages P call ops res dfs rc K env0 rest env H nx →
   RunP P (decC call) ops res dfs rc (fun l H nx => K (.pan l) env0 H nx dfs rc) (fun env H nx => K .normal env H nx dfs rc) rest env H nx
 | [], _, _, _, h => h
 | (e, L, A) :: rest, env, H, nx, h => by
  intro oe hoe
  have h' : (match ops[e]? with
   | some o => vAct P call ops o env H nx dfs rc (fun env' H' nx' => vFloats P ops res nx' (fun env'' H'' => vAgain P ops env'' H'' nx' A ∧ vStages P call ops res dfs rc K env0 rest env'' H'' nx') L env' H') K env0
   | none => False) := h
  rw [hoe] at h'
  refine ⟨_, decK K env0, vAct_ok hm h', fun l H1 nx1 hk => dec_iff.1 hk, fun env1 H1 nx1 hk => ?_⟩
  refine ⟨_, vFloats_ok (dec_iff.1 hk), fun env2 H2 hk2 => ?_⟩
  obtain ⟨h1, h2⟩ := dec_iff.1 hk2
  exact ⟨vAgain_ok h1, vStages_run hm rest env2 H2 nx1 h2⟩
def vDrawn (P : Program) (call : CallP) (nt : Nat) (ops : Array Oper) (K : KP) : KC := fun env H nx dfs rc =>
 match planOK nt ops with
 | true => vFloats P ops nx (Nat.add nx ops.size) (fun env' H' => vAgain P ops env' H' (Nat.add nx ops.size) (planA ops) ∧
   vStages P call ops nx dfs rc K (blank ops.toList env) (planS ops) env' H' (Nat.add nx ops.size)) (plan0 ops) env H
 | false => False
theorem vDrawn_wp {P : Program} {call : CallP} {nt : Nat} {ops : Array Oper} {env : Env} {H : Heap} {nx : Nat} {dfs : Dfs} {rc : Option AMode} {K : KP} (hm : P.follows .mixedOrders = true)
  (hcm : ∀ f args H nx (K K' : EndP), call f args H nx K → (∀ e H' nx', K e H' nx' → K' e H' nx') → call f args H nx K')
  (hc : CallSP P call) (h : vDrawn P call nt ops K env H nx dfs rc) (id : Nat)
  (σ : Sg) (w : World) (a : Act) (Q : Exit → Act → World → Prop) (hr : Rel σ H nx w) (ha : ARel σ nt env dfs a)
  (hQ : ∀ ex env' H' nx' σ' w' a' e, K ex env' H' nx' dfs rc → Rel σ' H' nx' w' → Ext σ σ' H H' nx nx' w w' → ARel σ' nt env' dfs a' → ExRel σ' ex e → Q e a' w') :
  (Code.region id ops true).wp P Q a w := by
 unfold vDrawn at h
 split at h <;> try exact h.elim
 rename_i hplan
 have hlim : nx + ops.size ≤ nx + ops.size := Nat.le_refl _
 unfold planOK at hplan
 split at hplan <;> try (cases hplan; done)
 rename_i past hnt hops hF
 split at hplan <;> try (cases hplan; done)
 rename_i hA hS hcov
 have hn : nt ≤ 256 := Nat.le_of_ble_eq_true hnt
 have F := opsOK_fact hops
 obtain ⟨env1, H1, hk, b1, b2, b3, b4, b5⟩ := floatsK_ok F hn hlim (plan0 ops) [] past env H hF (vFloats_ok h)
 obtain ⟨hag0, hk⟩ := dec_iff.1 hk
 have hag : againK P ops env1 H1 (Nat.add nx ops.size) (planA ops) = true := vAgain_ok hag0
 have hpast : ∀ i, i ∈ past → ∃ o, ops[i]? = some o ∧ (cls o.op = 0 ∨ cls o.op = 1) := by
  intro i hi
  rcases (chkF_past hF i).1 hi with hi | hi
  ·cases hi
  ·obtain ⟨o, ho, hne⟩ := chkF_cls hF i hi
   refine ⟨o, ho, ?_⟩
   have : cls o.op = 0 ∨ cls o.op = 1 ∨ cls o.op = 2 := by
    unfold cls
    split <;> first | exact .inl rfl | exact .inr (.inl rfl) | exact .inr (.inr rfl) | skip
    split <;> first | exact .inl rfl | exact .inr (.inr rfl)
   rcases this with h | h | h
   ·exact .inl h
   ·exact .inr h
   ·exact (hne h).elim
 have hblank : ∀ t, t < 256 → get2 t (blank ops.toList env) = .und ∨ ((∀ (j : Nat) (q : Oper), ops[j]? = some q → q.dst ≠ some t) ∧ get2 t (blank ops.toList env) = get2 t env1) := by
  intro t ht
  have hd : ∀ o, o ∈ ops.toList → dstOK nt o.dst = true := fun o ho => by
   obtain ⟨i, hi⟩ := List.mem_iff_getElem?.1 ho
   exact F.dst i o (by simpa using hi)
  rcases blank_get hn ops.toList env t ht hd with h | ⟨h1, h2⟩
  ·exact .inl h
  ·have h3 : ∀ (j : Nat) (q : Oper), ops[j]? = some q → q.dst ≠ some t := fun j q hq => h1 q (by simpa using Array.mem_of_getElem? hq)
   exact .inr ⟨h3, by rw [h2, b1 t ht fun j q _ hq => h3 j q hq]⟩
 have hrun := vStages_run hcm (planS ops) env1 H1 (Nat.add nx ops.size) hk
 refine wp_region_any hm ?_
 have none' : ∀ b, nx ≤ b → σ b = none := fun b hb => by
  cases e : σ b with
  | none => rfl
  | some p => obtain ⟨cb, sz⟩ := p; have := (hr.dom b cb sz e).1; omega
 have := stages_sem (call := decC call) [] (decC_ok hc) F hn hlim (planS ops) none past env1 H1 (Nat.add nx ops.size) hS (fun s _ i hi => by cases hi) hpast hblank hrun σ H w Q
  (fun l H' nx' σ' w' a' c hk R E A C => hQ (.pan l) _ H' nx' σ' w' a' (.panic c) hk R E A C)
  (fun env' H' nx' hk hp => tail_nil F hn hp fun σ' w' a' R E A => hQ .normal env' H' nx' σ' w' a' .normal hk R E A trivial)
 rw [List.append_nil] at this
 refine this ops.size _ σ _ a ⟨by simp, ha.env.size, ?_, ?_, ?_, ?_, ?_, ?_, ?_, Nat.le_refl _, ?_, ?_, ha.dfs⟩ ?_
 ·exact fun i j h => (isL_none h).elim
 ·exact fun i _ h => isL_none h
 ·intro i hi
  have := memN_ok (allL_ok hcov i (List.mem_range.2 hi))
  rcases List.mem_append.1 this with h | h
  ·exact .inl ((chkF_past hF i).2 (.inr h))
  ·exact .inr (.inl h)
 ·intro t ht hown
  rw [b1 t ht fun j q _ hq hd => isL_none (hown j q hq hd)]
  exact ha.env.den t ht
 ·intro j q hj hq _ hcl
  cases hip : impure q.op with
  | true =>
   have h1 := allL_ok hA j hj
   rw [hq] at h1
   simp only [hip] at h1
   have hmem : j ∈ planA ops := by
    split at h1
    ·exact memN_ok ‹_›
    ·rw [bit_eq] at h1; simp at h1
   have h3 := allL_ok hag j hmem
   rw [hq] at h3
   exact again1_fl0 hcl h3
  | false =>
   rcases (chkF_past hF j).1 hj with hj | hj
   ·cases hj
   ·exact b5 j q hj hq hcl hip
 ·intro j q hj hq _ hcl
  rcases (chkF_past hF j).1 hj with hj | hj
  ·cases hj
  ·exact b4 j q hj hq hcl
 ·exact fun i _ _ => none' _ (by omega)
 ·exact (b3 σ w (hr.more (Nat.le_add_right _ _) hlim) fun j _ => none' _ (by omega)).drew
 ·have E := Ext.drew σ H nx w
  refine ⟨E.sub, E.rng, ?_, Nat.le_add_right _ _, rfl, rfl, rfl, Nat.le_refl _, fun _ _ _ => rfl⟩
  intro b hb h0
  exact ⟨h0, b2 b (by omega) fun j _ => by omega⟩
 ·unfold left
  have := List.countP_le_length (p := fun i => !(Array.replicate ops.size false).getD i false) (l := List.range ops.size)
  simpa using this
def learn (c : Operand) (b : Bool) (env : Env) : Env := match c with
 | .tmp t => set2 t (.bool b) env
 | _ => env
theorem learn_eq {c : Operand} {b : Bool} {env : Env} (h : aev env c = .bool b) : learn c b env = env := by
 cases c with
 | tmp t =>
  have h' : (Bool.rec .und (get2 t env) (Nat.ble t 255) : AVal) = .bool b := h
  cases e : Nat.ble t 255 with
  | false => rw [e] at h'; cases h'
  | true => rw [e] at h'; exact set2_self h'
 | const v => rfl
 | global g => rfl
 | func f => rfl
def vK (P : Program) (call : CallP) (lp : LoopP) (nt : Nat) : Code → Env → Heap → Nat → Dfs → Option AMode → KP → Prop
 | .skip => fun env H nx dfs rc K => K .normal env H nx dfs rc
 | .region _ ops false => fun env H nx dfs rc K => vOps P call nt ops K ops.toList env H nx dfs rc
 | .region _ ops true => fun env H nx dfs rc K => vDrawn P call nt ops K env H nx dfs rc
 | .seq a b => fun env H nx dfs rc K => vK P call lp nt a env H nx dfs rc fun e env H nx dfs rc => match e with
  | .normal => vK P call lp nt b env H nx dfs rc K
  | .exit id => K (.exit id) env H nx dfs rc
  | .ret => K .ret env H nx dfs rc
  | .pan l => K (.pan l) env H nx dfs rc
 | .cond c a b => fun env H nx dfs rc K => match aev env c with
  | .bool p => Bool.rec (vK P call lp nt b (learn c false env) H nx dfs rc K) (vK P call lp nt a (learn c true env) H nx dfs rc K) p
  | _ => False
 | .block id a => fun env H nx dfs rc K => vK P call lp nt a env H nx dfs rc fun e env H nx dfs rc => match e with
  | .normal => K .normal env H nx dfs rc
  | .exit j => match Nat.beq j id with
   | true => K .normal env H nx dfs rc
   | false => K (.exit j) env H nx dfs rc
  | .ret => K .ret env H nx dfs rc
  | .pan l => K (.pan l) env H nx dfs rc
 | .loop a => fun env H nx dfs rc K => lp a env H nx dfs rc K
 | .exit id => fun env H nx dfs rc K => K (.exit id) env H nx dfs rc
 | .ret => fun env H nx dfs rc K => K .ret env H nx dfs rc
 | _ => fun _ _ _ _ _ _ => False
def LoopS (P : Program) (nt : Nat) (lp : LoopP) : Prop := ∀ a env H nx dfs K, lp a env H nx dfs none K →
 ∀ σ w act Q, Rel σ H nx w → ARel σ nt env dfs act → PostP nt K σ H nx w Q → (Code.loop a).wp P Q act w
theorem vK_none {P : Program} {call : CallP} {lp : LoopP} {nt : Nat} (hm : P.follows .mixedOrders = true)
  (hcm : ∀ f args H nx (K K' : EndP), call f args H nx K → (∀ e H' nx', K e H' nx' → K' e H' nx') → call f args H nx K') (hc : CallSP P call) (hl : LoopS P nt lp) :
  ∀ (c : Code) (env : Env) (H : Heap) (nx : Nat) (dfs : Dfs) (K : KP), vK P call lp nt c env H nx dfs none K →
   ∀ σ w a Q, Rel σ H nx w → ARel σ nt env dfs a → PostP nt K σ H nx w Q → c.wp P Q a w := by
 intro c
 induction c with
 | skip => exact fun env H nx dfs K h σ w a Q hr ha hQ => wp_skip (hQ .normal env H nx dfs σ w a .normal h hr (Ext.refl _ _ _ _) ha trivial)
 | region id ops draw =>
  intro env H nx dfs K h σ w a Q hr ha hQ
  cases draw with
  | false => exact wp_region_list (vOps_none hc ops.toList env H nx dfs h σ w a Q hr ha hQ)
  | true => exact vDrawn_wp hm hcm hc h id σ w a Q hr ha fun ex env' H' nx' σ' w' a' e hk R E A X => hQ ex env' H' nx' dfs σ' w' a' e hk R E A X
 | seq x y ihx ihy =>
  intro env H nx dfs K h σ w a Q hr ha hQ
  refine wp_seq (ihx env H nx dfs _ h σ w a _ hr ha ?_)
  intro ex env' H' nx' dfs' σ' w' a' e hk R E A X
  cases ex with
  | normal => cases e <;> first | exact X.elim | exact ihy env' H' nx' dfs' K hk σ' w' a' Q R A (hQ.from E)
  | exit id => cases e <;> first | exact X.elim | exact hQ _ _ _ _ _ σ' w' a' _ hk R E A X
  | ret => cases e <;> first | exact X.elim | exact hQ _ _ _ _ _ σ' w' a' _ hk R E A X
  | pan l => cases e <;> first | exact X.elim | exact hQ _ _ _ _ _ σ' w' a' _ hk R E A X
 | cond c x y ihx ihy =>
  intro env H nx dfs K h σ w a Q hr ha hQ
  have h' : (match aev env c with
   | .bool p => Bool.rec (vK P call lp nt y (learn c false env) H nx dfs none K) (vK P call lp nt x (learn c true env) H nx dfs none K) p
   | _ => False) := h
  split at h' <;> first | exact h'.elim | skip
  rename_i p hp
  cases p with
  | true =>
   have h2 : vK P call lp nt x (learn c true env) H nx dfs none K := h'
   rw [learn_eq hp] at h2
   exact wp_cond (t := true) (eval_bool ha hp) (ihx env H nx dfs K h2 σ w a Q hr ha hQ)
  | false =>
   have h2 : vK P call lp nt y (learn c false env) H nx dfs none K := h'
   rw [learn_eq hp] at h2
   exact wp_cond (t := false) (eval_bool ha hp) (ihy env H nx dfs K h2 σ w a Q hr ha hQ)
 | block id x ihx =>
  intro env H nx dfs K h σ w a Q hr ha hQ
  refine wp_block (ihx env H nx dfs _ h σ w a _ hr ha ?_)
  intro ex env' H' nx' dfs' σ' w' a' e hk R E A X
  cases ex with
  | normal => cases e <;> first | exact X.elim | exact hQ _ _ _ _ _ σ' w' a' _ hk R E A X
  | exit j =>
   cases e <;> try exact X.elim
   have X' : j = _ := X
   subst X'
   cases hb : Nat.beq j id with
   | true =>
    have hid := Nat.eq_of_beq_eq_true hb
    simp only [hb] at hk
    simp only [Exit.inBlock, hid, if_true]
    exact hQ _ _ _ _ _ σ' w' a' .normal hk R E A trivial
   | false =>
    have hid : j ≠ id := fun e => by subst e; simp at hb
    simp only [hb] at hk
    simp only [Exit.inBlock, hid, if_false]
    exact hQ _ _ _ _ _ σ' w' a' _ hk R E A rfl
  | ret => cases e <;> first | exact X.elim | exact hQ _ _ _ _ _ σ' w' a' _ hk R E A X
  | pan l => cases e <;> first | exact X.elim | exact hQ _ _ _ _ _ σ' w' a' _ hk R E A X
 | loop x _ =>
  intro env H nx dfs K h σ w a Q hr ha hQ
  exact hl x env H nx dfs _ h σ w a Q hr ha hQ
 | exit id => exact fun env H nx dfs K h σ w a Q hr ha hQ => wp_exit (hQ _ env H nx dfs σ w a (.exit id) h hr (Ext.refl _ _ _ _) ha rfl)
 | ret => exact fun env H nx dfs K h σ w a Q hr ha hQ => wp_ret (hQ _ env H nx dfs σ w a .ret h hr (Ext.refl _ _ _ _) ha trivial)
 | rangeFunc f p x y => exact fun env H nx dfs K h => h.elim
 | scope x => exact fun env H nx dfs K h => h.elim
 | label l => exact fun env H nx dfs K h => h.elim
 | goto l => exact fun env H nx dfs K h => h.elim
 | refuse s => exact fun env H nx dfs K h => h.elim
def EnvLe (e env : Env) : Prop := ∀ t, t < 256 → e t = .und ∨ e t = env t
theorem EnvLe.refl (e : Env) : EnvLe e e := fun _ _ => .inr rfl
theorem ARel.weaken {σ : Sg} {nt : Nat} {e env : Env} {dfs : Dfs} {a : Act} (h : ARel σ nt env dfs a) (hle : EnvLe e env) : ARel σ nt e dfs a := by
 refine ⟨⟨h.env.size, h.env.le, fun t ht => ?_⟩, h.dfs⟩
 rcases hle t ht with q | q
 ·show Den σ (e t) _
  rw [q]; exact .und _
 ·show Den σ (e t) _
  rw [q]; exact h.env.den t ht
end
end Go.Vs
end
section
namespace Go.Vs
variable [GTab]
noncomputable section
def vRes (P : Program) (env : Env) (H : Heap) : List ResultVar → (List AVal → Prop) → Prop
 | [], k => k []
 | .tmp t :: l, k => match Nat.ble t 255 with
  | true => vRes P env H l fun vs => k (get2 t env :: vs)
  | false => False
 | .cell a t :: l, k => match Nat.ble a 255 with
  | true => vLoad P t H (get2 a env) fun v => vRes P env H l fun vs => k (v :: vs)
  | false => False
theorem vRes_ok {P : Program} {env : Env} {H : Heap} : ∀ {l : List ResultVar} {k : List AVal → Prop}, vRes P env H l k → ∃ vs, resultsA P env H l = some vs ∧ k vs
 | [], _, h => ⟨[], rfl, h⟩
 | .tmp t :: l, k, h => by
  unfold vRes at h
  split at h <;> try exact h.elim
  rename_i hb
  obtain ⟨vs, e, h⟩ := vRes_ok h
  exact ⟨_, by unfold resultsA; simp only [hb, e], h⟩
 | .cell a t :: l, k, h => by
  unfold vRes at h
  split at h <;> try exact h.elim
  rename_i hb
  obtain ⟨v, e1, h⟩ := vLoad_ok h
  obtain ⟨vs, e, h⟩ := vRes_ok h
  exact ⟨_, by unfold resultsA; simp only [hb, e, e1], h⟩
def leaveV (P : Program) (calld : CallDP) (rs : List ResultVar) (env : Env) : Dfs → AMode → Heap → Nat → EndP → Prop
 | [], m, H, nx, K => match m with
  | .returning => ∃ vs, resultsA P env H rs = some vs ∧ K (.ret (oneOf vs)) H nx
  | .panicking l => K (.pan l) H nx
 | (g, args) :: dfs, m, H, nx, K => calld g args m H nx fun e m' H' nx' => onEnd e (fun _ => leaveV P calld rs env dfs (settleA m') H' nx' K) (fun l => leaveV P calld rs env dfs (raisedA m' l) H' nx' K)
theorem leaveV_ok {P : Program} {calld : CallDP} (hcd : CallDSP P calld) {fn : Func} {nt : Nat} {env : Env} :
  ∀ (dfs : Dfs) (m : AMode) (H : Heap) (nx : Nat) (K : EndP), leaveV P calld fn.results.toList env dfs m H nx K →
   ∀ σ w u ds tmps R, Rel σ H nx w → EnvRel σ nt env tmps → DfsRel σ dfs ds → MRel σ m u →
    (∀ e H' nx' σ' w' en, K e H' nx' → Rel σ' H' nx' w' → Ext σ σ' H H' nx nx' w w' → EndRel σ' e en → R en w') → Leaves P fn tmps R ds u w
 | [], m, H, nx, K, h => by
  intro σ w u ds tmps R hr he hdf hm hR
  cases m with
  | returning =>
   obtain ⟨vs, hvs, h'⟩ := h
   cases hdf
   cases u <;> try exact hm.elim
   obtain ⟨v', dv, hrun⟩ := results_ok hr he hvs
   exact ⟨v', hrun, hR _ _ _ σ w _ h' hr (Ext.refl _ _ _ _) dv⟩
  | panicking l =>
   cases hdf
   cases u <;> try exact hm.elim
   exact hR (.pan l) H nx σ w _ h hr (Ext.refl _ _ _ _) hm
 | (f, args) :: dfs, m, H, nx, K, h => by
  obtain ⟨hbody, tri⟩ := hcd f args m H nx _ h
  intro σ w u ds tmps R hr he hdf hm hR
  cases hdf with
  | @cons _ _ d _ l' hd ht =>
   obtain ⟨cap, htar, hargs⟩ := hd
   refine ⟨mode_ne hm, .func f, cap, f, d.args ++ cap, htar, ?_, ?_⟩
   ·rw [htar]
    simp only [invoke]
    exact run_callFunc hbody _ w
   ·have hl : (⟨(d.args ++ cap).toList⟩ : Array Value) = d.args ++ cap := rfl
    rw [← hl]
    refine tri σ w _ u _ hr hargs hm fun e m' H1 nx1 σ1 w1 en u1 hk R1 E1 X1 M1 => ?_
    cases e with
    | ret v =>
     cases en with
     | returned v' => exact leaveV_ok hcd dfs _ H1 nx1 K (hk.1 v rfl) σ1 w1 (settle u1) l' tmps R R1 (he.mono E1.sub) (ht.mono E1.sub) (settle_ok M1) fun e2 H2 nx2 σ2 w2 en2 hk2 R2 E2 X2 => hR e2 H2 nx2 σ2 w2 en2 hk2 R2 (E1.trans E2) X2
     | panicked c => exact X1.elim
     | outgrown => exact X1.elim
    | pan l =>
     cases en with
     | returned v' => exact X1.elim
     | panicked c => exact leaveV_ok hcd dfs _ H1 nx1 K (hk.2 l rfl) σ1 w1 (raised u1 c) l' tmps R R1 (he.mono E1.sub) (ht.mono E1.sub) (raised_ok M1 X1) fun e2 H2 nx2 σ2 w2 en2 hk2 R2 E2 X2 => hR e2 H2 nx2 σ2 w2 en2 hk2 R2 (E1.trans E2) X2
     | outgrown => exact X1.elim
def LpP (P : Program) (nt : Nat) : LoopP := fun a env H nx dfs _ K =>
 ∀ σ w act Q, Rel σ H nx w → ARel σ nt env dfs act → PostP nt K σ H nx w Q → (Code.loop a).wp P Q act w
theorem LpP_ok (P : Program) (nt : Nat) : LoopS P nt (LpP P nt) := fun _ _ _ _ _ _ h => h
def vBody (P : Program) (call : CallP) (lp : Nat → LoopP) (f : FuncId) (args : List AVal) (H : Heap) (nx : Nat) (K : List ResultVar → KP) : Prop :=
 match P.funcs[f]? with
 | some fn => match fn.body, Nat.ble fn.ntmps 256, Nat.ble args.length fn.ntmps with
  | some c, true, true => vK P call (lp fn.ntmps) fn.ntmps c (enterEnv args 0 (all2 (.tuple []))) H nx [] none (K fn.results.toList)
  | _, _, _ => False
 | none => False
def tmpsOf (env : Env) : List ResultVar → Option (List AVal)
 | [] => some []
 | .tmp t :: l => match Nat.ble t 255, tmpsOf env l with
  | true, some vs => some (get2 t env :: vs)
  | _, _ => none
 | .cell _ _ :: _ => none
theorem vRes_tmps {P : Program} {env : Env} {H : Heap} : ∀ {l : List ResultVar} {vs : List AVal} {k : List AVal → Prop}, tmpsOf env l = some vs → k vs → vRes P env H l k
 | [], _, _, e, h => by cases e; exact h
 | .tmp t :: l, vs, k, e, h => by
  unfold tmpsOf at e
  split at e <;> try (cases e; done)
  rename_i vs' hb hl
  cases e
  unfold vRes
  simp only [hb]
  exact vRes_tmps hl h
 | .cell _ _ :: _, _, _, e, _ => by cases e
abbrev LeaveP := List AVal → Dfs → AMode → Heap → Nat → EndP → Prop
inductive RVal where
 | val (v : AVal)
 | cell (p : AVal) (t : TypeId)
abbrev LeaveC := List RVal → Dfs → AMode → Heap → Nat → EndP → Prop
def rvOK : List ResultVar → Bool
 | [] => true
 | .tmp t :: l => match Nat.ble t 255 with
  | true => rvOK l
  | false => false
 | .cell a _ :: l => match Nat.ble a 255 with
  | true => rvOK l
  | false => false
def rvals (env : Env) : List ResultVar → List RVal
 | [] => []
 | .tmp t :: l => .val (get2 t env) :: rvals env l
 | .cell a t :: l => .cell (get2 a env) t :: rvals env l
def vResV (P : Program) (H : Heap) : List RVal → (List AVal → Prop) → Prop
 | [], k => k []
 | .val v :: l, k => vResV P H l fun vs => k (v :: vs)
 | .cell p t :: l, k => vLoad P t H p fun v => vResV P H l fun vs => k (v :: vs)
theorem vResV_ok {P : Program} {env : Env} {H : Heap} : ∀ {rs : List ResultVar} {k : List AVal → Prop}, rvOK rs = true → vResV P H (rvals env rs) k → ∃ vs, resultsA P env H rs = some vs ∧ k vs
 | [], _, _, h => ⟨[], rfl, h⟩
 | .tmp t :: l, k, e, h => by
  cases hb : Nat.ble t 255 with
  | false => unfold rvOK at e; rw [hb] at e; cases e
  | true =>
   unfold rvOK at e; rw [hb] at e
   obtain ⟨vs, e1, h⟩ := vResV_ok e h
   exact ⟨_, by unfold resultsA; simp only [hb, e1], h⟩
 | .cell a t :: l, k, e, h => by
  cases hb : Nat.ble a 255 with
  | false => unfold rvOK at e; rw [hb] at e; cases e
  | true =>
   unfold rvOK at e; rw [hb] at e
   obtain ⟨v, e1, h⟩ := vLoad_ok h
   obtain ⟨vs, e2, h⟩ := vResV_ok e h
   exact ⟨_, by unfold resultsA; simp only [hb, e1, e2], h⟩
def lvcSem (P : Program) (calld : CallDP) : LeaveC := fun rv dfs => match dfs with
 | [] => fun m H nx K => match m with
  | .returning => vResV P H rv fun vs => K (.ret (oneOf vs)) H nx
  | .panicking l => K (.pan l) H nx
 | (g, args) :: dfs => fun m H nx K => calld g args m H nx fun e m' H' nx' => onEnd e (fun _ => lvcSem P calld rv dfs (settleA m') H' nx' K) (fun l => lvcSem P calld rv dfs (raisedA m' l) H' nx' K)
def lvSem (calld : CallDP) : LeaveP := fun vs dfs => match dfs with
 | [] => fun m H nx K => match m with
  | .returning => K (.ret (oneOf vs)) H nx
  | .panicking l => K (.pan l) H nx
 | (g, args) :: dfs => fun m H nx K => calld g args m H nx fun e m' H' nx' => onEnd e (fun _ => lvSem calld vs dfs (settleA m') H' nx' K) (fun l => lvSem calld vs dfs (raisedA m' l) H' nx' K)
theorem TriDP_mono (P : Program) {f : FuncId} {args : List AVal} {m : AMode} {H : Heap} {nx : Nat} {K K' : AEnd → AMode → Heap → Nat → Prop} (h : TriDP P f args m H nx K) (hk : ∀ e m' H' nx', K e m' H' nx' → K' e m' H' nx') : TriDP P f args m H nx K' :=
 ⟨h.1, fun σ w args' u R hr hd hm hR => h.2 σ w args' u R hr hd hm fun e m' H' nx' σ' w' en u' k => hR e m' H' nx' σ' w' en u' (hk _ _ _ _ k)⟩
theorem lvSem_ok {P : Program} {rs : List ResultVar} {env : Env} {vs : List AVal} {K : EndP} (e : tmpsOf env rs = some vs) : ∀ {dfs : Dfs} {m : AMode} {H : Heap} {nx : Nat}, lvSem (TriDP P) vs dfs m H nx K → leaveV P (TriDP P) rs env dfs m H nx K
 | [], m, H, nx, h => by
  cases m with
  | returning => exact vRes_ok (vRes_tmps (P := P) (H := H) (k := fun vs => K (.ret (oneOf vs)) H nx) e h)
  | panicking l => exact h
 | (g, args) :: dfs, m, H, nx, h => by
  refine TriDP_mono P h fun e' m' H' nx' hk => ⟨fun v hv => ?_, fun l hl => ?_⟩
  ·exact lvSem_ok e (hk.1 v hv)
  ·exact lvSem_ok e (hk.2 l hl)
theorem lvcSem_ok {P : Program} {rs : List ResultVar} {env : Env} {K : EndP} (e : rvOK rs = true) : ∀ {dfs : Dfs} {m : AMode} {H : Heap} {nx : Nat}, lvcSem P (TriDP P) (rvals env rs) dfs m H nx K → leaveV P (TriDP P) rs env dfs m H nx K
 | [], m, H, nx, h => by
  cases m with
  | returning => exact vResV_ok e h
  | panicking l => exact h
 | (g, args) :: dfs, m, H, nx, h => by
  refine TriDP_mono P h fun e' m' H' nx' hk => ⟨fun v hv => ?_, fun l hl => ?_⟩
  ·exact lvcSem_ok e (hk.1 v hv)
  ·exact lvcSem_ok e (hk.2 l hl)
def endK (P : Program) (lv : LeaveP) (lvc : LeaveC) (K : EndP) (rs : List ResultVar) : KP := fun e env H nx dfs _ => match e with
 | .normal => match dfs with
  | [] => vRes P env H rs fun vs => K (.ret (oneOf vs)) H nx
  | d :: ds => match tmpsOf env rs with
   | some vs => lv vs (d :: ds) .returning H nx K
   | none => match rvOK rs with
    | true => lvc (rvals env rs) (d :: ds) .returning H nx K
    | false => False
 | .ret => match dfs with
  | [] => vRes P env H rs fun vs => K (.ret (oneOf vs)) H nx
  | d :: ds => match tmpsOf env rs with
   | some vs => lv vs (d :: ds) .returning H nx K
   | none => match rvOK rs with
    | true => lvc (rvals env rs) (d :: ds) .returning H nx K
    | false => False
 | .pan l => match dfs with
  | [] => K (.pan l) H nx
  | d :: ds => match tmpsOf env rs with
   | some vs => lv vs (d :: ds) (.panicking l) H nx K
   | none => match rvOK rs with
    | true => lvc (rvals env rs) (d :: ds) (.panicking l) H nx K
    | false => False
 | .exit _ => False
theorem endK_ok {P : Program} {K : EndP} {rs : List ResultVar} {env : Env} {H : Heap} {nx : Nat} {dfs : Dfs} {rc : Option AMode} {e : AExit} (h : endK P (lvSem (TriDP P)) (lvcSem P (TriDP P)) K rs e env H nx dfs rc) :
  match e with
  | .normal => leaveV P (TriDP P) rs env dfs .returning H nx K
  | .ret => leaveV P (TriDP P) rs env dfs .returning H nx K
  | .pan l => leaveV P (TriDP P) rs env dfs (.panicking l) H nx K
  | .exit _ => False := by
 cases e with
 | exit _ => exact h
 | normal =>
  cases dfs with
  | nil => exact vRes_ok (k := fun vs => K (.ret (oneOf vs)) H nx) h
  | cons d ds =>
   have h' : (match tmpsOf env rs with
    | some vs => lvSem (TriDP P) vs (d :: ds) .returning H nx K
    | none => match rvOK rs with
     | true => lvcSem P (TriDP P) (rvals env rs) (d :: ds) .returning H nx K
     | false => False) := h
   split at h'
   ·exact lvSem_ok ‹_› h'
   ·split at h' <;> first | exact h'.elim | exact lvcSem_ok ‹_› h'
 | ret =>
  cases dfs with
  | nil => exact vRes_ok (k := fun vs => K (.ret (oneOf vs)) H nx) h
  | cons d ds =>
   have h' : (match tmpsOf env rs with
    | some vs => lvSem (TriDP P) vs (d :: ds) .returning H nx K
    | none => match rvOK rs with
     | true => lvcSem P (TriDP P) (rvals env rs) (d :: ds) .returning H nx K
     | false => False) := h
   split at h'
   ·exact lvSem_ok ‹_› h'
   ·split at h' <;> first | exact h'.elim | exact lvcSem_ok ‹_› h'
 | pan l =>
  cases dfs with
  | nil => exact h
  | cons d ds =>
   have h' : (match tmpsOf env rs with
    | some vs => lvSem (TriDP P) vs (d :: ds) (.panicking l) H nx K
    | none => match rvOK rs with
     | true => lvcSem P (TriDP P) (rvals env rs) (d :: ds) (.panicking l) H nx K
     | false => False) := h
   split at h'
   ·exact lvSem_ok ‹_› h'
   ·split at h' <;> first | exact h'.elim | exact lvcSem_ok ‹_› h'
theorem TriP_mono (P : Program) : ∀ f args H nx (K K' : EndP), TriP P f args H nx K → (∀ e H' nx', K e H' nx' → K' e H' nx') → TriP P f args H nx K' := fun _ _ _ _ _ _ h hk => h.mono hk
theorem TriP.of_body {P : Program} (hm : P.follows .mixedOrders = true) {f : FuncId} {args : List AVal} {H : Heap} {nx : Nat} {K : EndP}
  (h : vBody P (TriP P) (LpP P) f args H nx (endK P (lvSem (TriDP P)) (lvcSem P (TriDP P)) K)) : TriP P f args H nx K := by
 unfold vBody at h
 split at h <;> try exact h.elim
 rename_i fn hf
 split at h <;> try exact h.elim
 rename_i c hb hn ha
 have hn' : fn.ntmps ≤ 256 := Nat.le_of_ble_eq_true hn
 have ha' : args.length ≤ fn.ntmps := Nat.le_of_ble_eq_true ha
 intro σ w args' R hr hda hR
 refine calls_of_wp_defers hf hb ?_
 have hEnv := enter_rel hn' ha' hda
 refine vK_none hm (TriP_mono P) (fun _ _ _ _ _ h => h) (LpP_ok P _) c _ H nx [] _ h σ w _ _ hr ⟨hEnv, .nil⟩ ?_
 intro ex env' H' nx' dfs' σ' w' a' e hk R1 E1 A1 X1
 have fin : ∀ m u, MRel σ' m u → leaveV P (TriDP P) fn.results.toList env' dfs' m H' nx' K → Leaves P fn a'.tmps R a'.defers u w' := by
  intro m u hmu hlv
  exact leaveV_ok (fn := fn) (nt := fn.ntmps) (fun _ _ _ _ _ _ h => h) dfs' m H' nx' K hlv σ' w' u a'.defers a'.tmps R R1 A1.env A1.dfs hmu
   fun e2 H2 nx2 σ2 w2 en2 hk2 R2 E2 X2 => hR e2 H2 nx2 σ2 w2 en2 hk2 R2 (E1.trans E2) X2
 have hk := endK_ok hk
 cases ex with
 | normal => cases e <;> first | exact X1.elim | exact fin .returning .returning trivial hk
 | ret => cases e <;> first | exact X1.elim | exact fin .returning .returning trivial hk
 | pan l =>
  cases e <;> try exact X1.elim
  exact fin (.panicking l) (.panicking _) X1 hk
 | exit i => exact hk.elim
end
end Go.Vs
end
section
namespace Go.Vs
variable [GTab]
noncomputable section
def noLp : Nat → LoopP := fun _ _ _ _ _ _ _ _ => False
theorem vK_some {P : Program} {call : CallP} {nt : Nat} (hm : P.follows .mixedOrders = true)
  (hcm : ∀ f args H nx (K K' : EndP), call f args H nx K → (∀ e H' nx', K e H' nx' → K' e H' nx') → call f args H nx K') (hc : CallSP P call) :
  ∀ (c : Code) (env : Env) (H : Heap) (nx : Nat) (dfs : Dfs) (m : AMode) (K : KP), vK P call (noLp nt) nt c env H nx dfs (some m) K →
   ∀ σ w a u (c₀ : Frame) cs Q, Rel σ H nx w → ARel σ nt env dfs a → MRel σ m u → PostSP nt K σ H nx w c₀ cs Q → c.wpS P Q a ({ c₀ with mode := u } :: cs) w := by
 intro c
 induction c with
 | skip => exact fun env H nx dfs m K h σ w a u c₀ cs Q hr ha hmr hQ => wpS_of_wp (wp_skip (hQ .normal env H nx dfs m σ w a .normal u h hr (Ext.refl _ _ _ _) ha trivial hmr))
 | region id ops draw =>
  intro env H nx dfs m K h σ w a u c₀ cs Q hr ha hmr hQ
  cases draw with
  | false =>
   refine wpS_region ?_
   have := vOps_some hc ops.toList 0 env H nx dfs m (by simp) h σ w a u c₀ cs Q hr ha hmr hQ
   rw [List.range_eq_range', ← Array.length_toList]
   exact this
  | true => exact wpS_of_wp (vDrawn_wp hm hcm hc h id σ w a _ hr ha fun ex env' H' nx' σ' w' a' e hk R E A X => hQ ex env' H' nx' dfs m σ' w' a' e u hk R E A X (hmr.mono E.sub))
 | seq x y ihx ihy =>
  intro env H nx dfs m K h σ w a u c₀ cs Q hr ha hmr hQ
  refine wpS_seq (ihx env H nx dfs m _ h σ w a u c₀ cs _ hr ha hmr ?_)
  intro ex env' H' nx' dfs' m' σ' w' a' e u' hk R E A X M
  cases ex with
  | normal => cases e <;> first | exact X.elim | exact ihy env' H' nx' dfs' m' K hk σ' w' a' u' c₀ cs Q R A M (hQ.from E)
  | exit id => cases e <;> first | exact X.elim | exact hQ _ _ _ _ _ m' σ' w' a' _ u' hk R E A X M
  | ret => cases e <;> first | exact X.elim | exact hQ _ _ _ _ _ m' σ' w' a' _ u' hk R E A X M
  | pan l => cases e <;> first | exact X.elim | exact hQ _ _ _ _ _ m' σ' w' a' _ u' hk R E A X M
 | cond c x y ihx ihy =>
  intro env H nx dfs m K h σ w a u c₀ cs Q hr ha hmr hQ
  have h' : (match aev env c with
   | .bool p => Bool.rec (vK P call (noLp nt) nt y (learn c false env) H nx dfs (some m) K) (vK P call (noLp nt) nt x (learn c true env) H nx dfs (some m) K) p
   | _ => False) := h
  split at h' <;> first | exact h'.elim | skip
  rename_i p hp
  cases p with
  | true =>
   have h2 : vK P call (noLp nt) nt x (learn c true env) H nx dfs (some m) K := h'
   rw [learn_eq hp] at h2
   exact wpS_cond (t := true) (eval_bool ha hp) (ihx env H nx dfs m K h2 σ w a u c₀ cs Q hr ha hmr hQ)
  | false =>
   have h2 : vK P call (noLp nt) nt y (learn c false env) H nx dfs (some m) K := h'
   rw [learn_eq hp] at h2
   exact wpS_cond (t := false) (eval_bool ha hp) (ihy env H nx dfs m K h2 σ w a u c₀ cs Q hr ha hmr hQ)
 | block id x ihx =>
  intro env H nx dfs m K h σ w a u c₀ cs Q hr ha hmr hQ
  refine wpS_block (ihx env H nx dfs m _ h σ w a u c₀ cs _ hr ha hmr ?_)
  intro ex env' H' nx' dfs' m' σ' w' a' e u' hk R E A X M
  cases ex with
  | normal => cases e <;> first | exact X.elim | exact hQ _ _ _ _ _ m' σ' w' a' _ u' hk R E A X M
  | exit j =>
   cases e <;> try exact X.elim
   have X' : j = _ := X
   subst X'
   cases hb : Nat.beq j id with
   | true =>
    have hid := Nat.eq_of_beq_eq_true hb
    simp only [hb] at hk
    simp only [hid, if_true]
    exact hQ _ _ _ _ _ m' σ' w' a' .normal u' hk R E A trivial M
   | false =>
    have hid : j ≠ id := fun e => by subst e; simp at hb
    simp only [hb] at hk
    simp only [hid, if_false]
    exact hQ _ _ _ _ _ m' σ' w' a' _ u' hk R E A rfl M
  | ret => cases e <;> first | exact X.elim | exact hQ _ _ _ _ _ m' σ' w' a' _ u' hk R E A X M
  | pan l => cases e <;> first | exact X.elim | exact hQ _ _ _ _ _ m' σ' w' a' _ u' hk R E A X M
 | loop x _ => exact fun env H nx dfs m K h => h.elim
 | exit id => exact fun env H nx dfs m K h σ w a u c₀ cs Q hr ha hmr hQ => wpS_of_wp (wp_exit (hQ _ env H nx dfs m σ w a (.exit id) u h hr (Ext.refl _ _ _ _) ha rfl hmr))
 | ret => exact fun env H nx dfs m K h σ w a u c₀ cs Q hr ha hmr hQ => wpS_of_wp (wp_ret (hQ _ env H nx dfs m σ w a .ret u h hr (Ext.refl _ _ _ _) ha trivial hmr))
 | rangeFunc f p x y => exact fun env H nx dfs m K h => h.elim
 | scope x => exact fun env H nx dfs m K h => h.elim
 | label l => exact fun env H nx dfs m K h => h.elim
 | goto l => exact fun env H nx dfs m K h => h.elim
 | refuse s => exact fun env H nx dfs m K h => h.elim
def vBodyS (P : Program) (call : CallP) (lp : Nat → LoopP) (f : FuncId) (args : List AVal) (m : AMode) (H : Heap) (nx : Nat) (K : List ResultVar → KP) : Prop :=
 match P.funcs[f]? with
 | some fn => match fn.body, Nat.ble fn.ntmps 256, Nat.ble args.length fn.ntmps with
  | some c, true, true => vK P call (lp fn.ntmps) fn.ntmps c (enterEnv args 0 (all2 (.tuple []))) H nx [] (some m) (K fn.results.toList)
  | _, _, _ => False
 | none => False
def endD (K : AEnd → AMode → Heap → Nat → Prop) (rs : List ResultVar) : KP := fun e env H nx dfs rc => match e, dfs, rc with
 | .normal, [], some m => match tmpsOf env rs with
  | some vs => K (.ret (oneOf vs)) m H nx
  | none => False
 | .ret, [], some m => match tmpsOf env rs with
  | some vs => K (.ret (oneOf vs)) m H nx
  | none => False
 | .pan l, [], some m => K (.pan l) m H nx
 | _, _, _ => False
theorem TriDP.of_bodyS {P : Program} (hm : P.follows .mixedOrders = true) {f : FuncId} {args : List AVal} {m : AMode} {H : Heap} {nx : Nat} {K : AEnd → AMode → Heap → Nat → Prop} (hbody : hasBody P f = true)
  (h : vBodyS P (TriP P) noLp f args m H nx (endD K)) : TriDP P f args m H nx K := by
 refine ⟨hbody, ?_⟩
 unfold vBodyS at h
 split at h <;> try exact h.elim
 rename_i fn hf
 split at h <;> try exact h.elim
 rename_i c hb hn ha
 have hn' : fn.ntmps ≤ 256 := Nat.le_of_ble_eq_true hn
 have ha' : args.length ≤ fn.ntmps := Nat.le_of_ble_eq_true ha
 intro σ w args' u R hr hda hmr hR
 refine callsD_of_wpS hf hb fun c₀ cs hu => ?_
 have hc0 : ({ c₀ with mode := u } : Frame) = c₀ := by subst hu; rfl
 have hEnv := enter_rel hn' ha' hda
 rw [← hc0]
 refine vK_some hm (TriP_mono P) (fun _ _ _ _ _ h => h) c _ H nx [] m _ h σ w _ u c₀ cs _ hr ⟨hEnv, .nil⟩ hmr ?_
 intro ex env' H' nx' dfs' m' σ' w' a' e u' hk R1 E1 A1 X1 M1
 have hdn : dfs' = [] → a'.defers = [] := fun hdf => by
  have hA := A1.dfs
  rw [hdf] at hA
  cases hq : a'.defers with
  | nil => rfl
  | cons x y => rw [hq] at hA; cases hA
 unfold endD at hk
 split at hk <;> try exact hk.elim
 ·rename_i hrc
  cases hrc
  cases e <;> try exact X1.elim
  split at hk <;> try exact hk.elim
  rename_i vs htm
  obtain ⟨vs', hvs, hk2⟩ := vRes_ok (P := P) (H := H') (vRes_tmps (k := fun vs' => vs' = vs) htm rfl)
  obtain ⟨v', dv, hrun⟩ := results_ok (fn := fn) R1 A1.env hvs
  subst hk2
  exact ⟨hdn rfl, u', rfl, v', hrun, hR _ _ _ _ σ' w' _ u' hk R1 E1 dv M1⟩
 ·rename_i hrc
  cases hrc
  cases e <;> try exact X1.elim
  split at hk <;> try exact hk.elim
  rename_i vs htm
  obtain ⟨vs', hvs, hk2⟩ := vRes_ok (P := P) (H := H') (vRes_tmps (k := fun vs' => vs' = vs) htm rfl)
  obtain ⟨v', dv, hrun⟩ := results_ok (fn := fn) R1 A1.env hvs
  subst hk2
  exact ⟨hdn rfl, u', rfl, v', hrun, hR _ _ _ _ σ' w' _ u' hk R1 E1 dv M1⟩
 ·rename_i hrc
  cases hrc
  cases e <;> try exact X1.elim
  exact ⟨hdn rfl, u', rfl, hR _ _ _ _ σ' w' _ u' hk R1 E1 X1 M1⟩
theorem TriDP.of_end {P : Program} (hm : P.follows .mixedOrders = true) {f : FuncId} {args : List AVal} {m : AMode} {H : Heap} {nx : Nat} {K : AEnd → AMode → Heap → Nat → Prop} (hbody : hasBody P f = true)
  (h : vBody P (TriP P) (LpP P) f args H nx (endK P (fun _ _ _ _ _ _ => False) (fun _ _ _ _ _ _ => False) fun e H' nx' => K e m H' nx')) : TriDP P f args m H nx K := by
 refine ⟨hbody, ?_⟩
 unfold vBody at h
 split at h <;> try exact h.elim
 rename_i fn hf
 split at h <;> try exact h.elim
 rename_i c hb hn ha
 have hn' : fn.ntmps ≤ 256 := Nat.le_of_ble_eq_true hn
 have ha' : args.length ≤ fn.ntmps := Nat.le_of_ble_eq_true ha
 intro σ w args' u R hr hda hmr hR
 refine callsD_of_wpS hf hb fun c₀ cs hu => ?_
 have hc0 : ({ c₀ with mode := u } : Frame) = c₀ := by subst hu; rfl
 have hEnv := enter_rel hn' ha' hda
 refine wpS_of_wp (vK_none hm (TriP_mono P) (fun _ _ _ _ _ h => h) (LpP_ok P _) c _ H nx [] _ h σ w _ _ hr ⟨hEnv, .nil⟩ ?_)
 intro ex env' H' nx' dfs' σ' w' a' e hk R1 E1 A1 X1
 have hdn : dfs' = [] → a'.defers = [] := fun hdf => by
  have hA := A1.dfs
  rw [hdf] at hA
  cases hq : a'.defers with
  | nil => rfl
  | cons x y => rw [hq] at hA; cases hA
 cases dfs' with
 | cons q qs =>
  exfalso
  cases ex <;> (unfold endK at hk; dsimp only at hk; repeat' split at hk) <;> first | exact hk | exact hk.elim
 | nil =>
  cases ex with
  | normal =>
   cases e <;> try exact X1.elim
   obtain ⟨vs, hvs, hk2⟩ := vRes_ok (k := fun vs => K (.ret (oneOf vs)) m H' nx') hk
   obtain ⟨v', dv, hrun⟩ := results_ok (fn := fn) R1 A1.env hvs
   exact ⟨hdn rfl, u, hc0.symm ▸ rfl, v', hrun, hR _ _ _ _ σ' w' _ u hk2 R1 E1 dv (hmr.mono E1.sub)⟩
  | ret =>
   cases e <;> try exact X1.elim
   obtain ⟨vs, hvs, hk2⟩ := vRes_ok (k := fun vs => K (.ret (oneOf vs)) m H' nx') hk
   obtain ⟨v', dv, hrun⟩ := results_ok (fn := fn) R1 A1.env hvs
   exact ⟨hdn rfl, u, hc0.symm ▸ rfl, v', hrun, hR _ _ _ _ σ' w' _ u hk2 R1 E1 dv (hmr.mono E1.sub)⟩
  | pan l =>
   cases e <;> try exact X1.elim
   exact ⟨hdn rfl, u, hc0.symm ▸ rfl, hR _ _ _ _ σ' w' _ u hk R1 E1 X1 (hmr.mono E1.sub)⟩
  | exit j => exact (hk : False).elim
end
end Go.Vs
end
section
namespace Go.Vs
variable [GTab]
noncomputable section
def subAt : Code → List Nat → Code
 | .seq a _, 0 :: p => subAt a p
 | .seq _ b, _ :: p => subAt b p
 | .cond _ a _, 0 :: p => subAt a p
 | .cond _ _ b, _ :: p => subAt b p
 | .block _ a, _ :: p => subAt a p
 | .loop a, _ :: p => subAt a p
 | c, _ => c
def contAt (P : Program) (call : CallP) (lp : LoopP) (nt : Nat) : Code → List Nat → KP → KP
 | .seq a b, 0 :: p, K => contAt P call lp nt a p fun e env H nx dfs rc => match e with
  | .normal => vK P call lp nt b env H nx dfs rc K
  | .exit id => K (.exit id) env H nx dfs rc
  | .ret => K .ret env H nx dfs rc
  | .pan l => K (.pan l) env H nx dfs rc
 | .seq _ b, _ :: p, K => contAt P call lp nt b p K
 | .cond _ a _, 0 :: p, K => contAt P call lp nt a p K
 | .cond _ _ b, _ :: p, K => contAt P call lp nt b p K
 | .block id a, _ :: p, K => contAt P call lp nt a p fun e env H nx dfs rc => match e with
  | .normal => K .normal env H nx dfs rc
  | .exit j => match Nat.beq j id with
   | true => K .normal env H nx dfs rc
   | false => K (.exit j) env H nx dfs rc
  | .ret => K .ret env H nx dfs rc
  | .pan l => K (.pan l) env H nx dfs rc
 | _, _, K => K
def envL (base : AVal) : List (Nat × AVal) → Env
 | [] => all2 base
 | (t, v) :: l => set2 t v (envL base l)
def EnvAll (env : Env) : List (Nat × AVal) → Prop
 | [] => True
 | (t, v) :: l => env t = v ∧ EnvAll env l
theorem EnvLe.of_list {env : Env} : ∀ {l : List (Nat × AVal)}, EnvAll env l → EnvLe (envL .und l) env
 | [], _ => fun _ _ => .inl rfl
 | (t, v) :: l, ⟨h, hl⟩ => fun s hs => by
  show (Bool.rec (envL .und l s) v (Nat.beq s t) : AVal) = .und ∨ (Bool.rec (envL .und l s) v (Nat.beq s t) : AVal) = env s
  cases e : Nat.beq s t with
  | true => have := Nat.eq_of_beq_eq_true e; subst this; exact .inr h.symm
  | false => exact EnvLe.of_list hl s hs
def codeOf (P : Program) (f : FuncId) : Code := match P.funcs[f]? with
 | some fn => match fn.body with
  | some c => c
  | none => .skip
 | none => .skip
def resOf (P : Program) (f : FuncId) : List ResultVar := match P.funcs[f]? with
 | some fn => fn.results.toList
 | none => []
def newB (b : Nat) (cs : List AVal) (H : Heap) : Heap := set5 b (some (.cells cs.length (CT.ofL cs.length cs) [] false)) H
def newBN (b n : Nat) (cs : List AVal) (H : Heap) : Heap := set5 b (some (.cells n (CT.ofL n cs) [] false)) H
def loopK (N : KC) (X : Nat → KC) (R : KC) (Pn : List (AVal × Bool) → KC) : KP := fun e env H nx dfs rc => match e with
 | .normal => N env H nx dfs rc
 | .exit id => X id env H nx dfs rc
 | .ret => R env H nx dfs rc
 | .pan l => Pn l env H nx dfs rc
end
end Go.Vs
end
section
namespace Go.Vs
variable [GTab]
noncomputable section
def splice (cs : List AVal) (off : Nat) (vs : List AVal) : List AVal := cs.take off ++ vs ++ cs.drop (off + vs.length)
theorem splice_length {cs vs : List AVal} {off : Nat} (h : off + vs.length ≤ cs.length) : (splice cs off vs).length = cs.length := by
 simp [splice]; omega
theorem onEnd_ret {v : AVal} {r : AVal → Prop} {p : List (AVal × Bool) → Prop} : onEnd (.ret v) r p ↔ r v := by simp [onEnd]
theorem onEnd_pan {l : List (AVal × Bool)} {r : AVal → Prop} {p : List (AVal × Bool) → Prop} : onEnd (.pan l) r p ↔ p l := by simp [onEnd]
theorem idxS_slice {b off len e n esz : Nat} {full : Bool} (h : n < len) : idxS (.slice b off len e full) n esz = some (.ptr b (off + n * esz)) := by
 have : Nat.ble (Nat.succ n) len = true := ble_of h
 simp only [idxS, this]
 rfl
theorem wrap64_id {n : Int} (h0 : -9223372036854775808 ≤ n) (h1 : n ≤ 9223372036854775807) : IntKind.i64.wrap n = n := IntWalk.i64_in _ (by omega)
end
end Go.Vs
end
section
namespace Go.Vs
variable [GTab]
noncomputable section
def WpP (P : Program) (nt : Nat) (c : Code) (env : Env) (H : Heap) (nx : Nat) (dfs : Dfs) (K : KP) : Prop :=
 ∀ σ w act Q, Rel σ H nx w → ARel σ nt env dfs act → PostP nt K σ H nx w Q → c.wp P Q act w
section
variable {P : Program} {nt : Nat} {c a b : Code} {env e : Env} {H : Heap} {nx : Nat} {dfs : Dfs} {K K' : KP}
theorem WpP.of_vK (hm : P.follows .mixedOrders = true) (h : vK P (TriP P) (LpP P nt) nt c env H nx dfs none K) : WpP P nt c env H nx dfs K :=
 vK_none hm (TriP_mono P) (fun _ _ _ _ _ h => h) (LpP_ok P nt) c env H nx dfs K h
theorem WpP.weaken (hle : EnvLe e env) (h : WpP P nt c e H nx dfs K) : WpP P nt c env H nx dfs K :=
 fun σ w act Q hr ha hQ => h σ w act Q hr (ha.weaken hle) hQ
theorem WpP.mono (h : WpP P nt c env H nx dfs K) (hk : ∀ ex env' H' nx' dfs', K ex env' H' nx' dfs' none → K' ex env' H' nx' dfs' none) : WpP P nt c env H nx dfs K' :=
 fun σ w act Q hr ha hQ => h σ w act Q hr ha fun ex env' H' nx' dfs' σ' w' a' e k R E A X => hQ ex env' H' nx' dfs' σ' w' a' e (hk _ _ _ _ _ k) R E A X
def trim (ts : List Nat) (env : Env) : Env := envL .und (ts.map fun t => (t, env t))
theorem trim_le (ts : List Nat) (env : Env) : EnvLe (trim ts env) env := by
 refine EnvLe.of_list ?_
 induction ts with
 | nil => trivial
 | cons t ts ih => exact ⟨rfl, ih⟩
def trimK (ts : List Nat) (K : KP) : KP := fun ex env H nx dfs rc => K ex (trim ts env) H nx dfs rc
theorem WpP.trim {ts : List Nat} (h : WpP P nt c env H nx dfs (trimK ts K)) : WpP P nt c env H nx dfs K :=
 fun σ w act Q hr ha hQ => h σ w act Q hr ha fun ex env' H' nx' dfs' σ' w' a' e k R E A X => hQ ex _ H' nx' dfs' σ' w' a' e k R E (A.weaken (trim_le ts env')) X
def thenK (b : Env → Heap → Nat → Dfs → Prop) (K : KP) : KP := fun ex env H nx dfs rc => match ex with
 | .normal => b env H nx dfs
 | .exit id => K (.exit id) env H nx dfs rc
 | .ret => K .ret env H nx dfs rc
 | .pan l => K (.pan l) env H nx dfs rc
theorem WpP.seq (h : WpP P nt a env H nx dfs (thenK (fun env H nx dfs => WpP P nt b env H nx dfs K) K)) : WpP P nt (.seq a b) env H nx dfs K := by
 intro σ w act Q hr ha hQ
 refine wp_seq (h σ w act _ hr ha ?_)
 intro ex env' H' nx' dfs' σ' w' a' e hk R E A X
 cases ex with
 | normal => cases e <;> first | exact X.elim | exact hk σ' w' a' Q R A (hQ.from E)
 | exit id => cases e <;> first | exact X.elim | exact hQ _ _ _ _ _ σ' w' a' _ hk R E A X
 | ret => cases e <;> first | exact X.elim | exact hQ _ _ _ _ _ σ' w' a' _ hk R E A X
 | pan l => cases e <;> first | exact X.elim | exact hQ _ _ _ _ _ σ' w' a' _ hk R E A X
theorem WpP.cond {x : Operand} {p : Bool} (hp : aev env x = .bool p) (h : WpP P nt (match p with | true => a | false => b) env H nx dfs K) : WpP P nt (.cond x a b) env H nx dfs K := by
 intro σ w act Q hr ha hQ
 cases p with
 | true => exact wp_cond (t := true) (eval_bool ha hp) (h σ w act Q hr ha hQ)
 | false => exact wp_cond (t := false) (eval_bool ha hp) (h σ w act Q hr ha hQ)
def blockK (i : Nat) (K : KP) : KP := fun ex env H nx dfs rc => match ex with
 | .exit j => if j = i then K .normal env H nx dfs rc else K (.exit j) env H nx dfs rc
 | .normal => K .normal env H nx dfs rc
 | .ret => K .ret env H nx dfs rc
 | .pan l => K (.pan l) env H nx dfs rc
theorem WpP.block {i : Nat} (h : WpP P nt a env H nx dfs (blockK i K)) : WpP P nt (.block i a) env H nx dfs K := by
 intro σ w act Q hr ha hQ
 refine wp_block (h σ w act _ hr ha ?_)
 intro ex env' H' nx' dfs' σ' w' a' e hk R E A X
 cases ex with
 | normal => cases e <;> first | exact X.elim | exact hQ _ _ _ _ _ σ' w' a' _ hk R E A X
 | exit j =>
  cases e <;> try exact X.elim
  rename_i j'
  have hj : j = j' := by first | exact X | exact X.symm
  subst hj
  have hk' : (if j = i then K .normal env' H' nx' dfs' none else K (.exit j) env' H' nx' dfs' none) := hk
  show (if j = i then Q .normal a' w' else Q (.exit j) a' w')
  by_cases hji : j = i
  ·rw [if_pos hji] at hk' ⊢
   exact hQ .normal _ _ _ _ σ' w' a' _ hk' R E A trivial
  ·rw [if_neg hji] at hk' ⊢
   exact hQ (.exit j) _ _ _ _ σ' w' a' _ hk' R E A (by first | exact rfl | exact X)
 | ret => cases e <;> first | exact X.elim | exact hQ _ _ _ _ _ σ' w' a' _ hk R E A X
 | pan l => cases e <;> first | exact X.elim | exact hQ _ _ _ _ _ σ' w' a' _ hk R E A X
theorem LpP.of_wp (h : WpP P nt (.loop a) env H nx dfs K) {rc : Option AMode} : LpP P nt a env H nx dfs rc K := fun σ w act Q hr ha hQ => h σ w act Q hr ha hQ
end
theorem loop_rule_w {P : Program} {nt : Nat} {a : Code} {K : KP} (Inv : Nat → Env → Heap → Nat → Dfs → Prop) (Kx : Nat → Dfs → KP)
  (hKx : ∀ m dfs ex env' H' nx' dfs', Kx m dfs ex env' H' nx' dfs' none → match ex with
   | .normal => ∃ m' env'', m' < m ∧ EnvLe env'' env' ∧ Inv m' env'' H' nx' dfs'
   | ex => ∃ env'', EnvLe env'' env' ∧ K ex env'' H' nx' dfs' none)
  (step : ∀ m env H nx dfs, Inv m env H nx dfs → WpP P nt a env H nx dfs (Kx m dfs))
  {m0 : Nat} {env : Env} {H : Heap} {nx : Nat} {dfs : Dfs} (h0 : Inv m0 env H nx dfs) : WpP P nt (.loop a) env H nx dfs K := by
 intro σ w act Q hr ha hQ
 let J : Nat → Act → World → Prop := fun m act w => ∃ env H nx dfs σ, Inv m env H nx dfs ∧ Rel σ H nx w ∧ ARel σ nt env dfs act ∧ PostP nt K σ H nx w Q
 have hJ : J m0 act w := ⟨env, H, nx, dfs, σ, h0, hr, ha, hQ⟩
 have round : ∀ m act w, J m act w → a.wp P (Exit.then (fun a' w' => ∃ m', m' < m ∧ J m' a' w') Q) act w := by
  rintro m act w ⟨env, H, nx, dfs, σ, hI, hr, ha, hQ⟩
  refine step m env H nx dfs hI σ w act _ hr ha ?_
  intro ex env' H' nx' dfs' σ' w' a' e hk R E A X
  have hk' := hKx m dfs ex env' H' nx' dfs' hk
  cases ex with
  | normal =>
   cases e <;> try exact X.elim
   obtain ⟨m', env'', hlt, hle, hI'⟩ := hk'
   exact ⟨m', hlt, env'', H', nx', dfs', σ', hI', R, A.weaken hle, hQ.from E⟩
  | exit id =>
   obtain ⟨env'', hle, hk2⟩ := hk'
   cases e <;> first | exact X.elim | exact hQ (.exit id) env'' _ _ _ σ' w' a' _ hk2 R E (A.weaken hle) X
  | ret =>
   obtain ⟨env'', hle, hk2⟩ := hk'
   cases e <;> first | exact X.elim | exact hQ .ret env'' _ _ _ σ' w' a' _ hk2 R E (A.weaken hle) X
  | pan l =>
   obtain ⟨env'', hle, hk2⟩ := hk'
   cases e <;> first | exact X.elim | exact hQ (.pan l) env'' _ _ _ σ' w' a' _ hk2 R E (A.weaken hle) X
 have least : ∀ act w, (∃ m, J m act w) → ∃ m, J m act w ∧ ∀ m', J m' act w → m ≤ m' := by
  rintro act w ⟨m, h⟩
  induction m using Nat.strongRecOn with
  | _ m ih =>
   by_cases hx : ∃ m', m' < m ∧ J m' act w
   ·obtain ⟨m', hlt, h'⟩ := hx
    exact ih m' hlt h'
   ·exact ⟨m, h, fun m' h' => Nat.le_of_not_lt fun hlt => hx ⟨m', hlt, h'⟩⟩
 let μ : Act → World → Nat := fun act w => @dite Nat (∃ m, J m act w) (Classical.propDecidable _) (fun h => Classical.choose (least act w h)) (fun _ => 0)
 have μs : ∀ act w, (∃ m, J m act w) → J (μ act w) act w ∧ ∀ m', J m' act w → μ act w ≤ m' := by
  intro act w h
  have : μ act w = Classical.choose (least act w h) := by simp only [μ, h, dite_true]
  rw [this]
  exact Classical.choose_spec (least act w h)
 refine wp_loop (fun act w => ∃ m, J m act w) μ ⟨m0, hJ⟩ ?_
 intro act w h
 obtain ⟨h1, _⟩ := μs act w h
 refine wp_mono (round _ act w h1) ?_
 intro e a' w' hq
 cases e with
 | normal =>
  obtain ⟨m', hlt, hj⟩ := hq
  exact ⟨⟨m', hj⟩, Nat.lt_of_le_of_lt ((μs a' w' ⟨m', hj⟩).2 m' hj) hlt⟩
 | exit id => exact hq
 | goto l => exact hq
 | ret => exact hq
 | panic c => exact hq
 | outgrown => exact hq
theorem loop_w {P : Program} {nt : Nat} {a : Code} {K : KP} {X Y : Type} (canon : X → Env) (canonY : Y → Env)
  (I : Nat → X → Heap → Nat → Prop) (J : Nat → Y → Heap → Nat → Prop) {env : Env} {H : Heap} {nx : Nat} {dfs : Dfs} {rc : Option AMode} (m0 : Nat) (x0 : X)
  (hle : EnvLe (canon x0) env) (h0 : I m0 x0 H nx)
  (step : ∀ m x H nx, I m x H nx → WpP P nt a (canon x) H nx dfs
   (loopK (fun env' H' nx' dfs' _ => dfs' = dfs ∧ ∃ m' x', m' < m ∧ EnvLe (canon x') env' ∧ I m' x' H' nx')
    (fun id env' H' nx' dfs' _ => dfs' = dfs ∧ ∃ y, EnvLe (canonY y) env' ∧ J id y H' nx')
    (fun env' H' nx' dfs' rc' => K .ret env' H' nx' dfs' rc') (fun l env' H' nx' dfs' rc' => K (.pan l) env' H' nx' dfs' rc')))
  (after : ∀ id y H nx, J id y H nx → K (.exit id) (canonY y) H nx dfs none) :
  LpP P nt a env H nx dfs rc K := by
 refine LpP.of_wp (WpP.weaken hle ?_)
 refine loop_rule_w (K := K)
  (fun m env' H' nx' dfs' => dfs' = dfs ∧ ∃ x, env' = canon x ∧ I m x H' nx')
  (fun m _ => loopK (fun env' H' nx' dfs' _ => dfs' = dfs ∧ ∃ m' x', m' < m ∧ EnvLe (canon x') env' ∧ I m' x' H' nx')
    (fun id env' H' nx' dfs' _ => dfs' = dfs ∧ ∃ y, EnvLe (canonY y) env' ∧ J id y H' nx')
    (fun env' H' nx' dfs' rc' => K .ret env' H' nx' dfs' rc') (fun l env' H' nx' dfs' rc' => K (.pan l) env' H' nx' dfs' rc')) ?_ ?_
  (m0 := m0) ⟨rfl, x0, rfl, h0⟩
 ·intro m dfs1 ex env' H' nx' dfs' h
  cases ex with
  | normal =>
   obtain ⟨h1, m', x', h2, h3, h4⟩ := h
   exact ⟨m', canon x', h2, h3, h1, x', rfl, h4⟩
  | exit id =>
   obtain ⟨rfl, y, h2, h3⟩ := h
   exact ⟨canonY y, h2, after id y H' nx' h3⟩
  | ret => exact ⟨env', EnvLe.refl _, h⟩
  | pan l => exact ⟨env', EnvLe.refl _, h⟩
 ·rintro m env' H' nx' dfs' ⟨rfl, x, rfl, hI⟩
  exact step m x H' nx' hI
end
end Go.Vs
end
section
namespace Go.Vs
variable [GTab]
noncomputable section
abbrev GH := Nat → Option (List AVal)
def gup (b : Nat) (x : Option (List AVal)) (Γ : GH) : GH := fun c => if c = b then x else Γ c
theorem gup_same (b : Nat) (x : Option (List AVal)) (Γ : GH) : gup b x Γ b = x := by simp [gup]
theorem gup_ne {b c : Nat} {x : Option (List AVal)} {Γ : GH} (h : c ≠ b) : gup b x Γ c = Γ c := by simp [gup, h]
theorem gup_gup (b : Nat) (x y : Option (List AVal)) (Γ : GH) : gup b x (gup b y Γ) = gup b x Γ := by
 funext c; by_cases h : c = b <;> simp [gup, h]
def Row (H : Heap) (b : Nat) (cs : List AVal) (olds : List Nat) : Prop := ∃ ct, H b = some (.cells cs.length ct olds false) ∧ ct.take cs.length = cs
theorem take_len {α : Type} {n : Nat} {l m : List α} (h : l.take n = m) (hm : m.length = n) : n ≤ l.length := by
 have := congrArg List.length h
 rw [List.length_take, hm] at this
 omega
theorem slab_take {cs ct : CT} {off sz : Nat} (hc : ct.take cs.length = cs) (ho : off + sz ≤ cs.length) : CT.slab ct sz off = (cs.drop off).take sz := by
 have hl := take_len hc rfl
 rw [CT.slab_eq (by omega)]
 conv => rhs; rw [← hc]
 rw [List.drop_take, List.take_take, Nat.min_eq_left (by omega)]
theorem dels_same : ∀ {l : List Nat} {H : Heap} {c : Nat}, c ∉ l → dels l H c = H c
 | [], _, _, _ => rfl
 | b :: l, H, c, h => by
  rw [dels_cons, dels_same (fun x => h (List.mem_cons_of_mem _ x))]
  show get5 c (set5 b _ H) = get5 c H
  exact get5_ne (fun e => h (by rw [e]; exact List.mem_cons_self)) (by omega) (by omega)
theorem set5_ne' {b c : Nat} {x : Option AObj} {H : Heap} (h : c ≠ b) : set5 b x H c = H c := get5_ne (H := H) (x := x) (fun e => h e.symm) (by omega) (by omega)
theorem set5_eq' (b : Nat) (x : Option AObj) (H : Heap) : set5 b x H b = x := get5_set5_same b x H
end
end Go.Vs
end
section
namespace Go.Vs
variable [GTab]
noncomputable section
def HZ (Z : Nat → Prop) (Γ : GH) (H : Heap) (nx : Nat) : Prop := (∀ b, Z b → b < nx) ∧ ∀ b cs, Γ b = some cs → (b < nx ∧ ¬ Z b) ∧ ∃ olds, Row H b cs olds ∧ ∀ o, o ∈ olds → (o < nx ∧ ¬ Z o) ∧ Γ o = none
theorem HZ.lt {Z : Nat → Prop} {Γ : GH} {H : Heap} {nx b : Nat} {cs : List AVal} (h : HZ Z Γ H nx) (e : Γ b = some cs) : b < nx := (h.2 b cs e).1.1
theorem HZ.nz {Z : Nat → Prop} {Γ : GH} {H : Heap} {nx b : Nat} {cs : List AVal} (h : HZ Z Γ H nx) (e : Γ b = some cs) : ¬ Z b := (h.2 b cs e).1.2
theorem HZ.non {Z : Nat → Prop} {Γ : GH} {H : Heap} {nx b : Nat} (h : HZ Z Γ H nx) (e : nx ≤ b) : Γ b = none := by
 cases hb : Γ b with
 | none => rfl
 | some cs => exact absurd (h.lt hb) (by omega)
theorem HZ.more {Z : Nat → Prop} {Γ : GH} {H : Heap} {nx nx' : Nat} (h : HZ Z Γ H nx) (e : nx ≤ nx') : HZ Z Γ H nx' := ⟨fun b hb => Nat.lt_of_lt_of_le (h.1 b hb) e, fun b cs hb =>
 let ⟨h1, olds, h2, h3⟩ := h.2 b cs hb
 ⟨⟨Nat.lt_of_lt_of_le h1.1 e, h1.2⟩, olds, h2, fun o ho => ⟨⟨Nat.lt_of_lt_of_le (h3 o ho).1.1 e, (h3 o ho).1.2⟩, (h3 o ho).2⟩⟩⟩
theorem HZ.ld1 {Z : Nat → Prop} {Γ : GH} {H : Heap} {nx b : Nat} {cs : List AVal} (h : HZ Z Γ H nx) (e : Γ b = some cs) (off : Nat) : ld1 H (.ptr b off) = cs[off]? := by
 obtain ⟨_, olds, ⟨ct, hb, hc⟩, _⟩ := h.2 b cs e
 unfold Vs.ld1
 simp only [get5]
 rw [hb]
 have hl := take_len hc rfl
 by_cases ho : off < cs.length
 ·have : Nat.ble (Nat.succ off) cs.length = true := ble_of ho
  simp only [this, CT.get]
  rw [← hc, List.getElem?_take_of_lt ho]
  simp [List.getD, show off < ct.length by omega]
 ·have : Nat.ble (Nat.succ off) cs.length = false := by
   cases e : Nat.ble (Nat.succ off) cs.length with
   | false => rfl
   | true => exact (ho (Nat.le_of_ble_eq_true e)).elim
  simp only [this]
  rw [List.getElem?_eq_none (by omega)]
theorem HZ.ldN {Z : Nat → Prop} {Γ : GH} {H : Heap} {nx b : Nat} {cs : List AVal} (h : HZ Z Γ H nx) (e : Γ b = some cs) {off sz : Nat} (ho : off + sz ≤ cs.length) :
  ldN H sz (.ptr b off) = some (.agg ((cs.drop off).take sz)) := by
 obtain ⟨_, olds, ⟨ct, hb, hc⟩, _⟩ := h.2 b cs e
 unfold Vs.ldN
 simp only [get5]
 rw [hb]
 have : Nat.ble (Nat.add off sz) cs.length = true := ble_of ho
 simp only [this, slab_take hc ho]
theorem HZ.newN {Z : Nat → Prop} {Γ : GH} {H : Heap} {nx nx' b : Nat} (h : HZ Z Γ H nx) (hb : nx ≤ b) (hn : b < nx') {cs : List AVal} {ct : CT} (hc : ct.take cs.length = cs) :
  HZ Z (gup b (some cs) Γ) (set5 b (some (.cells cs.length ct [] false)) H) nx' := by
 refine ⟨fun z hz => by have := h.1 z hz; omega, ?_⟩
 intro c ds e
 by_cases hc' : c = b
 ·subst hc'
  rw [gup_same] at e; cases e
  exact ⟨⟨hn, fun z => by have := h.1 _ z; omega⟩, [], ⟨ct, set5_eq' _ _ _, hc⟩, by simp⟩
 ·rw [gup_ne hc'] at e
  obtain ⟨h1, olds, ⟨ct', h2, h2'⟩, h3⟩ := h.2 c ds e
  exact ⟨⟨by omega, h1.2⟩, olds, ⟨ct', by rw [set5_ne' hc']; exact h2, h2'⟩, fun o ho => ⟨⟨by have := (h3 o ho).1.1; omega, (h3 o ho).1.2⟩, by rw [gup_ne (by have := (h3 o ho).1.1; omega)]; exact (h3 o ho).2⟩⟩
theorem HZ.new {Z : Nat → Prop} {Γ : GH} {H : Heap} {nx nx' b : Nat} (h : HZ Z Γ H nx) (hb : nx ≤ b) (hn : b < nx') (cs : List AVal) : HZ Z (gup b (some cs) Γ) (newB b cs H) nx' :=
 h.newN hb hn (by rw [CT.ofL_eq rfl]; exact List.take_length)
theorem HZ.st {Z : Nat → Prop} {Γ : GH} {H : Heap} {nx b off : Nat} {cs vs : List AVal} (h : HZ Z Γ H nx) (e : Γ b = some cs) (ho : off + vs.length ≤ cs.length) (hv : allCell vs = true) :
  ∃ H', stC H (.ptr b off) vs = some H' ∧ HZ Z (gup b (some (splice cs off vs)) Γ) H' nx := by
 obtain ⟨hb, olds, ⟨ct, h2, h2'⟩, h3⟩ := h.2 b cs e
 have hl := take_len h2' rfl
 refine ⟨set5 b (some (.cells cs.length (relay vs vs.length off cs.length ct) [] false)) (dels olds H), ?_, ?_⟩
 ·unfold stC
  simp only [get5]
  rw [h2]
  have : Nat.ble (Nat.add off vs.length) cs.length = true := ble_of ho
  simp only [this, hv]
 ·refine ⟨h.1, ?_⟩
  intro c ds ec
  by_cases hc : c = b
  ·subst hc
   rw [gup_same] at ec; cases ec
   refine ⟨hb, [], ⟨_, by rw [set5_eq', splice_length ho], ?_⟩, by simp⟩
   rw [splice_length ho]
   unfold relay splice
   split
   ·rename_i g1 g2 _
    have e1 := Nat.eq_of_beq_eq_true g1
    have e2 := Nat.eq_of_beq_eq_true g2
    subst e1
    rw [CT.ofL_eq e2, ← e2, List.take_length]
    simp only [List.take_zero, List.nil_append, Nat.zero_add]
    rw [List.drop_eq_nil_of_le (by omega)]
    simp
   ·rw [CT.lay_eq (by omega)]
    have ea : (ct.take off ++ vs).length = off + vs.length := by simp; omega
    rw [List.take_append, ea, List.take_of_length_le (by omega : (ct.take off ++ vs).length ≤ cs.length)]
    congr 1
    ·conv => rhs; rw [← h2']
     rw [List.take_take, Nat.min_eq_left (by omega)]
    ·conv => rhs; rw [← h2']
     rw [List.drop_take]
  ·rw [gup_ne hc] at ec
   obtain ⟨h4, olds', ⟨ct', h5, h5'⟩, h6⟩ := h.2 c ds ec
   refine ⟨h4, olds', ⟨ct', ?_, h5'⟩, fun o hoo => ⟨(h6 o hoo).1, ?_⟩⟩
   ·rw [set5_ne' hc, dels_same (fun hm => by have := (h3 c hm).2; rw [ec] at this; cases this)]
    exact h5
   ·rw [gup_ne (fun x => by have := (h6 o hoo).2; rw [x, e] at this; cases this)]
    exact (h6 o hoo).2
theorem HZ.src {Z : Nat → Prop} {Γ : GH} {H : Heap} {nx b off n sz e : Nat} {full : Bool} {cs : List AVal} (h : HZ Z Γ H nx) (eb : Γ b = some cs) (ho : off + n * sz ≤ cs.length) :
  aSrc sz H (.slice b off n e full) = some (n, (cs.drop off).take (n * sz)) := by
 obtain ⟨hb, olds, ⟨ct, h2, h2'⟩, h3⟩ := h.2 b cs eb
 unfold aSrc
 simp only [get5]
 rw [h2]
 have : Nat.ble (Nat.add off (Nat.mul n sz)) cs.length = true := ble_of ho
 simp only [this]
 rw [show Nat.mul n sz = n * sz from rfl, slab_take h2' ho]
theorem HZ.appNil {Z : Nat → Prop} {Γ : GH} {H : Heap} {nx esz ebytes k : Nat} {new : List AVal} (h : HZ Z Γ H nx) (hk : new.length = k * esz) (hk0 : 0 < k)
  (h1 : k * esz ≤ 9223372036854775807) (h2 : k * ebytes ≤ 140737488355328) :
  ∃ H', appC H nx esz ebytes .nilSlice k new = some (.slice nx 0 k esz false, H', nx + 1) ∧ HZ Z (gup nx (some new) Γ) H' (nx + 1) := by
 obtain ⟨k', rfl⟩ : ∃ k', k = Nat.succ k' := ⟨k - 1, by omega⟩
 have g2 : Nat.ble (Nat.mul (Nat.succ k') esz) 9223372036854775807 = true := ble_of h1
 have g3 : Nat.ble (Nat.mul (Nat.succ k') ebytes) 140737488355328 = true := ble_of h2
 refine ⟨set5 nx (some (.cells (Nat.mul (Nat.succ k') esz) (CT.ofL (Nat.mul (Nat.succ k') esz) new) [] false)) H, ?_, ?_⟩
 ·unfold appC
  simp only [g2, g3]
 ·have e : Nat.mul (Nat.succ k') esz = new.length := hk.symm
  rw [e]
  exact h.newN (Nat.le_refl _) (Nat.lt_succ_self _) (by rw [CT.ofL_eq rfl]; exact List.take_length)
theorem HZ.appFull {Z : Nat → Prop} {Γ : GH} {H : Heap} {nx b off len esz ebytes k : Nat} {cs new : List AVal} (h : HZ Z Γ H nx) (e : Γ b = some cs) (hl : off + len * esz ≤ cs.length) (hk : new.length = k * esz) (hk0 : 0 < k)
  (h1 : (len + k) * esz ≤ 9223372036854775807) (h2 : (len + k) * ebytes ≤ 140737488355328) :
  ∃ H', appC H nx esz ebytes (.slice b off len esz true) k new = some (.slice nx 0 (len + k) esz false, H', nx + 1) ∧ HZ Z (gup nx (some ((cs.drop off).take (len * esz) ++ new)) Γ) H' (nx + 1) := by
 obtain ⟨hb, olds, ⟨ct, h3, h3'⟩, h4⟩ := h.2 b cs e
 obtain ⟨k', rfl⟩ : ∃ k', k = Nat.succ k' := ⟨k - 1, by omega⟩
 have g1 : Nat.beq esz esz = true := Nat.beq_refl esz
 have g2 : Nat.ble (Nat.mul (Nat.add len (Nat.succ k')) esz) 9223372036854775807 = true := ble_of h1
 have g3 : Nat.ble (Nat.mul (Nat.add len (Nat.succ k')) ebytes) 140737488355328 = true := ble_of h2
 have g4 : Nat.ble (Nat.add off (Nat.mul len esz)) cs.length = true := ble_of hl
 have hm : ((cs.drop off).take (len * esz) ++ new).length = (len + Nat.succ k') * esz := by
  rw [List.length_append, List.length_take, List.length_drop, hk, Nat.add_mul, Nat.min_eq_left (by omega)]
 refine ⟨set5 nx (some (.cells ((len + Nat.succ k') * esz) (CT.ofL ((len + Nat.succ k') * esz) ((cs.drop off).take (len * esz) ++ new)) [] false)) H, ?_, ?_⟩
 ·unfold appC
  simp only [get5, h3, g1, g2, g3, g4]
  rw [show Nat.mul len esz = len * esz from rfl, slab_take h3' hl]; rfl
 ·rw [← hm]
  exact h.newN (Nat.le_refl _) (Nat.lt_succ_self _) (by rw [CT.ofL_eq rfl]; exact List.take_length)
theorem HZ.app {Z : Nat → Prop} {Γ : GH} {H : Heap} {nx b len esz ebytes k : Nat} {cs new : List AVal} (h : HZ Z Γ H nx) (e : Γ b = some cs) (hl : len * esz ≤ cs.length) (hk : new.length = k * esz) (hk0 : 0 < k)
  (h1 : (len + k) * esz ≤ 9223372036854775807) (h2 : (len + k) * ebytes ≤ 140737488355328) :
  ∃ H', appC H nx esz ebytes (.slice b 0 len esz false) k new = some (.slice nx 0 (len + k) esz false, H', nx + 1) ∧
   HZ Z (gup nx (some (cs.take (len * esz) ++ new)) (gup b none Γ)) H' (nx + 1) := by
 obtain ⟨hb, olds, ⟨ct, h3, h3'⟩, h4⟩ := h.2 b cs e
 have hlen := take_len h3' rfl
 obtain ⟨k', rfl⟩ : ∃ k', k = Nat.succ k' := ⟨k - 1, by omega⟩
 have g1 : Nat.beq esz esz = true := Nat.beq_refl esz
 have g2 : Nat.ble (Nat.mul (Nat.add len (Nat.succ k')) esz) 9223372036854775807 = true := ble_of h1
 have g3 : Nat.ble (Nat.mul (Nat.add len (Nat.succ k')) ebytes) 140737488355328 = true := ble_of h2
 have g4 : Nat.ble (Nat.add 0 (Nat.mul len esz)) cs.length = true := ble_of (by show 0 + len * esz ≤ _; omega)
 have hm : (cs.take (len * esz) ++ new).length = (len + Nat.succ k') * esz := by
  rw [List.length_append, List.length_take, hk, Nat.add_mul, Nat.min_eq_left (by omega)]
 have hct : (CT.lay new (len * esz) (CT.widen ((len + Nat.succ k') * esz) ct)).take (cs.take (len * esz) ++ new).length = cs.take (len * esz) ++ new := by
  have hw : (len + Nat.succ k') * esz ≤ (CT.widen ((len + Nat.succ k') * esz) ct).length := by simp [CT.widen]; omega
  have hn : len * esz + new.length = (len + Nat.succ k') * esz := by rw [hk, Nat.add_mul]
  rw [CT.lay_eq (by omega), hm]
  have ht : (CT.widen ((len + Nat.succ k') * esz) ct).take (len * esz) = cs.take (len * esz) := by
   unfold CT.widen
   rw [List.take_append_of_le_length (by omega)]
   conv => rhs; rw [← h3']
   rw [List.take_take, Nat.min_eq_left (by omega)]
  rw [ht]
  exact List.take_left' hm
 have hap : appC H nx esz ebytes (.slice b 0 len esz false) (Nat.succ k') new = some (.slice nx 0 (len + Nat.succ k') esz false,
   grown b cs.length ct olds (len * esz) H nx ((len + Nat.succ k') * esz) (CT.lay new (len * esz) (CT.widen ((len + Nat.succ k') * esz) ct)), nx + 1) := by
  unfold appC
  simp only [get5, h3, g1, g2, g3, g4]
  rfl
 refine ⟨_, hap, ?_⟩
 rw [← hm]
 have hrest : ∀ c ds, c ≠ nx → c ≠ b → Γ c = some ds → dels olds H c = H c := fun c ds _ _ ec => dels_same fun hx => by have := (h4 c hx).2; rw [ec] at this; cases this
 have key : ∀ (H2 : Heap) (ol : List Nat), (∀ o, o ∈ ol → o = b) → (∀ c, c ≠ nx → c ≠ b → H2 c = dels olds H c) →
   HZ Z (gup nx (some (cs.take (len * esz) ++ new)) (gup b none Γ)) (set5 nx (some (.cells (cs.take (len * esz) ++ new).length (CT.lay new (len * esz) (CT.widen (cs.take (len * esz) ++ new).length ct)) ol false)) H2) (nx + 1) := by
  intro H2 ol hol h2c
  refine ⟨fun z hz => by have := h.1 z hz; omega, ?_⟩
  intro c ds ec
  by_cases hc : c = nx
  ·subst hc
   rw [gup_same] at ec; cases ec
   refine ⟨⟨Nat.lt_succ_self _, fun z => by have := h.1 _ z; omega⟩, ol, ⟨_, set5_eq' _ _ _, by rw [hm]; rw [hm] at hct; exact hct⟩, fun o ho => ?_⟩
   rw [hol o ho]
   exact ⟨⟨by omega, hb.2⟩, by rw [gup_ne (by omega), gup_same]⟩
  ·rw [gup_ne hc] at ec
   have hcb : c ≠ b := fun x => by rw [x, gup_same] at ec; cases ec
   rw [gup_ne hcb] at ec
   obtain ⟨h5, olds', ⟨ct', h6, h6'⟩, h7⟩ := h.2 c ds ec
   refine ⟨⟨by omega, h5.2⟩, olds', ⟨ct', by rw [set5_ne' hc, h2c c hc hcb, hrest c ds hc hcb ec]; exact h6, h6'⟩, fun o ho => ?_⟩
   have ho' := h7 o ho
   refine ⟨⟨by omega, ho'.1.2⟩, ?_⟩
   rw [gup_ne (by omega)]
   by_cases hob : o = b
   ·rw [hob, gup_same]
   ·rw [gup_ne hob]; exact ho'.2
 unfold grown
 split
 ·exact key _ [b] (by simp) (fun c h1 h2 => by rw [set5_ne' h2])
 ·exact key _ [] (by simp) (fun c h1 h2 => by rw [set5_ne' h2, set5_ne' h2])
theorem HZ.res {Z Z' : Nat → Prop} {Γ : GH} {H : Heap} {nx nx' : Nat} (h : HZ Z Γ H nx) (hz : ∀ b, Z' b → Z b ∨ (nx ≤ b ∧ b < nx')) (hn : nx ≤ nx') : HZ Z' Γ H nx' :=
 ⟨fun b hb => (hz b hb).elim (fun g => Nat.lt_of_lt_of_le (h.1 b g) hn) fun g => g.2, fun b cs e =>
  let ⟨h1, olds, h2, h3⟩ := h.2 b cs e
  ⟨⟨Nat.lt_of_lt_of_le h1.1 hn, fun g => (hz b g).elim (fun g => h1.2 g) fun g => by omega⟩, olds, h2, fun o ho => ⟨⟨Nat.lt_of_lt_of_le (h3 o ho).1.1 hn, fun g => by
   rcases hz o g with g | g
   ·exact (h3 o ho).1.2 g
   ·have := (h3 o ho).1.1; omega⟩, (h3 o ho).2⟩⟩⟩
theorem HZ.take {Z Z' : Nat → Prop} {Γ : GH} {H : Heap} {nx i : Nat} (h : HZ Z Γ H nx) (hi : Z i) (hz : ∀ b, Z' b → Z b ∧ b ≠ i) (cs : List AVal) : HZ Z' (gup i (some cs) Γ) (newB i cs H) nx := by
 refine ⟨fun b hb => h.1 b (hz b hb).1, ?_⟩
 intro c ds e
 by_cases hc' : c = i
 ·subst hc'
  rw [gup_same] at e; cases e
  exact ⟨⟨h.1 _ hi, fun z => (hz _ z).2 rfl⟩, [], ⟨_, set5_eq' _ _ _, by rw [CT.ofL_eq rfl]; exact List.take_length⟩, by simp⟩
 ·rw [gup_ne hc'] at e
  obtain ⟨h1, olds, ⟨ct', h2, h2'⟩, h3⟩ := h.2 c ds e
  refine ⟨⟨h1.1, fun z => h1.2 (hz _ z).1⟩, olds, ⟨ct', by unfold newB; rw [set5_ne' hc']; exact h2, h2'⟩, fun o ho => ⟨⟨(h3 o ho).1.1, fun z => (h3 o ho).1.2 (hz _ z).1⟩, ?_⟩⟩
  rw [gup_ne fun x => (h3 o ho).1.2 (by rw [x]; exact hi)]; exact (h3 o ho).2
theorem HZ.free {Z : Nat → Prop} {Γ : GH} {H : Heap} {nx i : Nat} (h : HZ Z Γ H nx) (hi : Z i) : Γ i = none := by
 cases e : Γ i with
 | none => rfl
 | some cs => exact absurd hi (h.nz e)
theorem HZ.less {Z Z' : Nat → Prop} {Γ : GH} {H : Heap} {nx : Nat} (h : HZ Z Γ H nx) (hz : ∀ b, Z' b → Z b) : HZ Z' Γ H nx := h.res (fun b hb => .inl (hz b hb)) (Nat.le_refl _)
theorem HZ.sub {Z : Nat → Prop} {Γ Γ' : GH} {H : Heap} {nx : Nat} (h : HZ Z Γ' H nx) (hs : ∀ b cs, Γ b = some cs → Γ' b = some cs) : HZ Z Γ H nx := ⟨h.1, fun b cs e =>
 let ⟨h1, olds, h2, h3⟩ := h.2 b cs (hs b cs e)
 ⟨h1, olds, h2, fun o ho => ⟨(h3 o ho).1, by
  cases hq : Γ o with
  | none => rfl
  | some ds => have := (h3 o ho).2; rw [hs _ _ hq] at this; cases this⟩⟩⟩
end
end Go.Vs
end
section
namespace Go.Vs
structure Tok where
 kind : Int
 text : List UInt8
 n : Int
 line : Int
 col : Int
inductive Tree where
 | node (kind : Int) (name : List UInt8) (n line col : Int) (kids : List Tree)
structure Flt where
 line : Int
 col : Int
 e : Int
abbrev Rs (α : Type) := Option (Except Flt α)
def Rs.ok {α : Type} (x : α) : Rs α := some (.ok x)
def Rs.bad {α : Type} (f : Flt) : Rs α := some (.error f)
def Rs.bind {α β : Type} (x : Rs α) (k : α → Rs β) : Rs β := match x with
 | none => none
 | some (.error f) => some (.error f)
 | some (.ok a) => k a
namespace Ps
def wType : List UInt8 := [116, 121, 112, 101]
def wStruct : List UInt8 := [115, 116, 114, 117, 99, 116]
def wInterface : List UInt8 := [105, 110, 116, 101, 114, 102, 97, 99, 101]
def wFunc : List UInt8 := [102, 117, 110, 99]
def wVar : List UInt8 := [118, 97, 114]
def wIf : List UInt8 := [105, 102]
def wElse : List UInt8 := [101, 108, 115, 101]
def wFor : List UInt8 := [102, 111, 114]
def wBreak : List UInt8 := [98, 114, 101, 97, 107]
def wContinue : List UInt8 := [99, 111, 110, 116, 105, 110, 117, 101]
def wReturn : List UInt8 := [114, 101, 116, 117, 114, 110]
def wPrint : List UInt8 := [112, 114, 105, 110, 116]
def wLen : List UInt8 := [108, 101, 110]
def wMake : List UInt8 := [109, 97, 107, 101]
def wNew : List UInt8 := [110, 101, 119]
def wInput : List UInt8 := [105, 110, 112, 117, 116]
def wTrue : List UInt8 := [116, 114, 117, 101]
def wFalse : List UInt8 := [102, 97, 108, 115, 101]
def wNil : List UInt8 := [110, 105, 108]
def wInt : List UInt8 := [105, 110, 116]
def wBool : List UInt8 := [98, 111, 111, 108]
def wString : List UInt8 := [115, 116, 114, 105, 110, 103]
def tk (l : List Tok) (at_ : Nat) : Tok := l.getD at_ ⟨0, [], 0, 0, 0⟩
def flt (l : List Tok) (at_ : Nat) (e : Int) : Flt := ⟨(tk l at_).line, (tk l at_).col, e⟩
def is (l : List Tok) (at_ : Nat) (s : List UInt8) : Bool :=
 ((tk l at_).kind == 3 || (tk l at_).kind == 6 || (tk l at_).kind == 1) && (tk l at_).text == s
def need (l : List Tok) (at_ : Nat) (s : List UInt8) : Except Flt Nat := if is l at_ s then .ok (at_ + 1) else .error (flt l at_ 13)
def name (l : List Tok) (at_ : Nat) : Except Flt Nat := if (tk l at_).kind == 2 then .ok (at_ + 1) else .error (flt l at_ 13)
def gapsN (l : List Tok) : Nat → Nat → Nat
 | 0, a => a
 | n + 1, a => if is l a [59] then gapsN l n (a + 1) else a
def gaps (l : List Tok) (a : Nat) : Nat := gapsN l (l.length - a) a
def ends (l : List Tok) (a : Nat) : Except Flt Nat := if is l a [125] then .ok (gaps l a) else match need l a [59] with
 | .ok b => .ok (gaps l b)
 | .error f => .error f
def leaf (t : Tok) (kind : Int) (nm : List UInt8) : Tree := .node kind nm 0 t.line t.col []
def mk (t : Tok) (kind : Int) (nm : List UInt8) (kids : List Tree) : Tree := .node kind nm 0 t.line t.col kids
def none_ : Tree := .node 38 [] 0 0 0 []
def lift {α β : Type} (x : Except Flt α) (k : α → Rs β) : Rs β := match x with
 | .ok a => k a
 | .error f => some (.error f)
def rank (s : List UInt8) : Int :=
 if s = [124, 124] then 1
 else if s = [38, 38] then 2
 else if s = [61, 61] ∨ s = [33, 61] ∨ s = [60] ∨ s = [60, 61] ∨ s = [62] ∨ s = [62, 61] then 3
 else if s = [43] ∨ s = [45] then 4
 else if s = [42] ∨ s = [47] ∨ s = [37] then 5
 else 0
inductive Rule where
 | typ | field | method | param | stmt | ifs | block | expr | binary (k : Int) | binGo (k : Int) (x : Tree) | unary | post | postGo (x : Tree) | prime
def rowGo (l : List Tok) (one : Nat → Rs (Tree × Nat)) : Nat → Nat → Rs (List Tree × Nat)
 | 0, _ => none
 | n + 1, a => Rs.bind (one a) fun (x, b) => if is l b [44] then Rs.bind (rowGo l one n (b + 1)) fun (xs, c) => .ok (x :: xs, c)
  else lift (need l b [41]) fun c => .ok ([x], c)
def row (l : List Tok) (one : Nat → Rs (Tree × Nat)) (n a : Nat) : Rs (List Tree × Nat) :=
 lift (need l a [40]) fun b => if is l b [41] then .ok ([], b + 1) else rowGo l one n b
def listGo (l : List Tok) (one : Nat → Rs (Tree × Nat)) : Nat → Nat → Rs (List Tree × Nat)
 | 0, _ => none
 | n + 1, a => if is l a [125] then .ok ([], a + 1) else Rs.bind (one a) fun (x, b) => lift (ends l b) fun c => Rs.bind (listGo l one n c) fun (xs, d) => .ok (x :: xs, d)
def list (l : List Tok) (one : Nat → Rs (Tree × Nat)) (n a : Nat) : Rs (List Tree × Nat) :=
 lift (need l a [123]) fun b => listGo l one n (gaps l b)
def isTyp (l : List Tok) (a : Nat) : Bool := is l a wInt || is l a wBool || is l a wString
def run (l : List Tok) : Nat → Rule → Nat → Nat → Rs (Tree × Nat)
 | 0, _, _, _ => none
 | n + 1, rule, d, a =>
  let t := tk l a
  let go := run l n
  let result := fun b => if (tk l b).kind == 2 || isTyp l b || is l b [91] then go .typ d b else .ok (none_, b)
  match rule with
  | .typ => if 40 ≤ d then .bad (flt l a 14) else
   if is l a [91] then lift (need l (a + 1) [93]) fun b => Rs.bind (go .typ (d + 1) b) fun (x, c) => .ok (mk t 9 [] [x], c)
   else if isTyp l a then .ok (leaf t 8 t.text, a + 1)
   else lift (name l a) fun b => .ok (leaf t 8 t.text, b)
  | .field => lift (name l a) fun b => Rs.bind (go .typ d b) fun (x, c) => .ok (mk t 4 t.text [x], c)
  | .param => lift (name l a) fun b => Rs.bind (go .typ d b) fun (x, c) => .ok (mk t 7 t.text [x], c)
  | .method => lift (name l a) fun b => Rs.bind (row l (go .typ d) n b) fun (xs, c) => Rs.bind (result c) fun (y, e) => .ok (mk t 5 t.text (y :: xs), e)
  | .block => Rs.bind (list l (go .stmt d) n a) fun (xs, b) => .ok (mk t 10 [] xs, b)
  | .ifs => lift (need l a wIf) fun b => Rs.bind (go .expr d b) fun (e, b) => Rs.bind (go .block d b) fun (y, b) =>
   if is l b wElse then
    if is l (b + 1) wIf then Rs.bind (go .ifs d (b + 1)) fun (z, c) => .ok (mk t 14 [] [e, y, z], c)
    else if is l (b + 1) [123] then Rs.bind (go .block d (b + 1)) fun (z, c) => .ok (mk t 14 [] [e, y, z], c)
    else .bad (flt l (b + 1) 13)
   else .ok (mk t 14 [] [e, y, none_], b)
  | .stmt => if 40 ≤ d then .bad (flt l a 14) else
   let d := d + 1
   if is l a [123] then go .block d a
   else if is l a wVar then lift (name l (a + 1)) fun b => Rs.bind (go .typ d b) fun (ty, c) =>
    if is l c [61] then Rs.bind (go .expr d (c + 1)) fun (e, g) => .ok (mk t 11 (tk l (a + 1)).text [ty, e], g)
    else .ok (mk t 11 (tk l (a + 1)).text [ty, none_], c)
   else if is l a wIf then go .ifs d a
   else if is l a wFor then
    if is l (a + 1) [123] then Rs.bind (go .block d (a + 1)) fun (y, c) => .ok (mk t 15 [] [none_, y], c)
    else Rs.bind (go .expr d (a + 1)) fun (e, b) => Rs.bind (go .block d b) fun (y, c) => .ok (mk t 15 [] [e, y], c)
   else if is l a wBreak then .ok (leaf t 16 [], a + 1)
   else if is l a wContinue then .ok (leaf t 17 [], a + 1)
   else if is l a wReturn then
    if is l (a + 1) [59] || is l (a + 1) [125] then .ok (mk t 18 [] [none_], a + 1)
    else Rs.bind (go .expr d (a + 1)) fun (e, b) => .ok (mk t 18 [] [e], b)
   else if is l a wPrint then lift (need l (a + 1) [40]) fun b => Rs.bind (go .expr d b) fun (e, c) => lift (need l c [41]) fun g => .ok (mk t 20 [] [e], g)
   else Rs.bind (go .expr d a) fun (e, b) =>
    if is l b [58, 61] then Rs.bind (go .expr d (b + 1)) fun (y, c) => .ok (mk (tk l b) 12 [] [e, y], c)
    else if is l b [61] then Rs.bind (go .expr d (b + 1)) fun (y, c) => .ok (mk (tk l b) 13 [] [e, y], c)
    else .ok (mk t 19 [] [e], b)
  | .expr => if 40 ≤ d then .bad (flt l a 14) else go (.binary 1) (d + 1) a
  | .binary k => Rs.bind (go .unary d a) fun (x, b) => go (.binGo k x) d b
  | .binGo k x => if (t.kind == 6) && decide (k ≤ rank t.text) then Rs.bind (go (.binary (rank t.text + 1)) d (a + 1)) fun (y, b) => go (.binGo k (mk t 28 t.text [x, y])) d b
   else .ok (x, a)
  | .unary => if is l a [45] || is l a [33] then Rs.bind (go .unary d (a + 1)) fun (x, b) => .ok (mk t 27 t.text [x], b) else go .post d a
  | .post => Rs.bind (go .prime d a) fun (x, b) => go (.postGo x) d b
  | .postGo x =>
   if is l a [91] then Rs.bind (go .expr d (a + 1)) fun (i, b) => lift (need l b [93]) fun c => go (.postGo (mk t 32 [] [x, i])) d c
   else if is l a [46] then
    if is l (a + 1) [40] then Rs.bind (go .typ d (a + 2)) fun (ty, b) => lift (need l b [41]) fun c => go (.postGo (mk t 37 [] [x, ty])) d c
    else lift (name l (a + 1)) fun b =>
     if is l b [40] then Rs.bind (row l (go .expr d) n b) fun (xs, c) => go (.postGo (mk t 31 (tk l (a + 1)).text (x :: xs))) d c
     else go (.postGo (mk t 30 (tk l (a + 1)).text [x])) d b
   else .ok (x, a)
  | .prime =>
   if t.kind == 4 then .ok (.node 21 [] t.n t.line t.col [], a + 1)
   else if t.kind == 5 then .ok (leaf t 24 t.text, a + 1)
   else if t.kind == 2 then
    if is l (a + 1) [40] then Rs.bind (row l (go .expr d) n (a + 1)) fun (xs, b) => .ok (mk t 29 t.text xs, b)
    else .ok (leaf t 26 t.text, a + 1)
   else if is l a wTrue then .ok (leaf t 22 [], a + 1)
   else if is l a wFalse then .ok (leaf t 23 [], a + 1)
   else if is l a wNil then .ok (leaf t 25 [], a + 1)
   else if is l a [40] then Rs.bind (go .expr d (a + 1)) fun (x, b) => lift (need l b [41]) fun c => .ok (x, c)
   else if is l a wLen then lift (need l (a + 1) [40]) fun b => Rs.bind (go .expr d b) fun (x, c) => lift (need l c [41]) fun g => .ok (mk t 33 [] [x], g)
   else if is l a wNew then lift (need l (a + 1) [40]) fun b => Rs.bind (go .typ d b) fun (x, c) => lift (need l c [41]) fun g => .ok (mk t 35 [] [x], g)
   else if is l a wMake then lift (need l (a + 1) [40]) fun b => Rs.bind (go .typ d b) fun (x, c) => lift (need l c [44]) fun e => Rs.bind (go .expr d e) fun (y, g) => lift (need l g [41]) fun i => .ok (mk t 34 [] [x, y], i)
   else if is l a wInput then lift (need l (a + 1) [40]) fun b => lift (need l b [41]) fun c => .ok (leaf t 36 [], c)
   else .bad (flt l a 13)
def result (l : List Tok) (n : Nat) (b : Nat) : Rs (Tree × Nat) := if (tk l b).kind == 2 || isTyp l b || is l b [91] then run l n .typ 0 b else .ok (none_, b)
def typeDecl (l : List Tok) (n a : Nat) : Rs (Tree × Nat) :=
 lift (need l a wType) fun a1 => lift (name l a1) fun b =>
  if is l b wInterface then Rs.bind (list l (run l n .method 0) n (b + 1)) fun (xs, c) => .ok (mk (tk l a) 3 (tk l a1).text xs, c)
  else lift (need l b wStruct) fun b => Rs.bind (list l (run l n .field 0) n b) fun (xs, c) => .ok (mk (tk l a) 2 (tk l a1).text xs, c)
def recv (l : List Tok) (a : Nat) : Except Flt (Tree × Nat) :=
 if is l a [40] then do
  let b ← name l (a + 1)
  let c ← name l b
  let d ← need l c [41]
  .ok (mk (tk l (a + 1)) 7 (tk l (a + 1)).text [leaf (tk l b) 8 (tk l b).text], d)
 else .ok (none_, a)
def funcDecl (l : List Tok) (n a : Nat) : Rs (Tree × Nat) :=
 lift (need l a wFunc) fun a1 => lift (recv l a1) fun (rv, b) => lift (name l b) fun c =>
  Rs.bind (row l (run l n .param 0) n c) fun (ps, d) => Rs.bind (result l n d) fun (y, e) => Rs.bind (run l n .block 0 e) fun (body, f) =>
   .ok (mk (tk l a) 6 (tk l b).text (rv :: y :: body :: ps), f)
def declsGo (l : List Tok) (n : Nat) : Nat → Nat → Rs (List Tree)
 | 0, _ => none
 | k + 1, a => if (tk l a).kind == 0 then .ok [] else
  Rs.bind (if is l a wType then typeDecl l n a else if is l a wFunc then funcDecl l n a else .bad (flt l a 13)) fun (x, b) =>
   lift (need l b [59]) fun c => Rs.bind (declsGo l n k (gaps l c)) fun xs => .ok (x :: xs)
def file (l : List Tok) (n : Nat) : Rs Tree := Rs.bind (declsGo l n n (gaps l 0)) fun xs => .ok (mk (tk l 0) 1 [] xs)
end Ps
end Go.Vs
end
section
namespace Go.Vs
namespace Ps
theorem need_ok {l : List Tok} {a b : Nat} {s : List UInt8} (h : need l a s = .ok b) : is l a s = true ∧ b = a + 1 := by
 unfold need at h; split at h
 ·rename_i h1; cases h; exact ⟨h1, rfl⟩
 ·cases h
theorem name_ok {l : List Tok} {a b : Nat} (h : name l a = .ok b) : (tk l a).kind = 2 ∧ b = a + 1 := by
 unfold name at h; split at h
 ·rename_i h1; cases h; exact ⟨by simpa using h1, rfl⟩
 ·cases h
theorem gapsN_le (l : List Tok) : ∀ n a, a ≤ gapsN l n a
 | 0, a => Nat.le_refl _
 | n + 1, a => by
  unfold gapsN; split
  ·exact Nat.le_trans (Nat.le_succ a) (gapsN_le l n (a + 1))
  ·exact Nat.le_refl _
theorem gaps_le (l : List Tok) (a : Nat) : a ≤ gaps l a := gapsN_le _ _ _
theorem ends_ok {l : List Tok} {a b : Nat} (h : ends l a = .ok b) : a ≤ b := by
 unfold ends at h; split at h
 ·cases h; exact gaps_le _ _
 ·split at h
  ·rename_i b' h'; cases h; have := need_ok h'; have := gaps_le l b'; omega
  ·cases h
theorem bind_some {α β : Type} {x : Rs α} {k : α → Rs β} {r : Except Flt β} (h : Rs.bind x k = some r) : (∃ f, x = some (.error f) ∧ r = .error f) ∨ ∃ a, x = some (.ok a) ∧ k a = some r := by
 unfold Rs.bind at h
 split at h
 ·cases h
 ·cases h; exact .inl ⟨_, rfl, rfl⟩
 ·exact .inr ⟨_, rfl, h⟩
theorem lift_some {α β : Type} {x : Except Flt α} {k : α → Rs β} {r : Except Flt β} (h : lift x k = some r) : (∃ f, x = .error f ∧ r = .error f) ∨ ∃ a, x = .ok a ∧ k a = some r := by
 unfold lift at h
 split at h
 ·exact .inr ⟨_, rfl, h⟩
 ·cases h; exact .inl ⟨_, rfl, rfl⟩
theorem bind_ok {α β : Type} {x : Rs α} {k : α → Rs β} {r : β} (h : Rs.bind x k = some (.ok r)) : ∃ a, x = some (.ok a) ∧ k a = some (.ok r) := by
 rcases bind_some h with ⟨f, _, h⟩ | h
 ·cases h
 ·exact h
theorem lift_ok {α β : Type} {x : Except Flt α} {k : α → Rs β} {r : β} (h : lift x k = some (.ok r)) : ∃ a, x = .ok a ∧ k a = some (.ok r) := by
 rcases lift_some h with ⟨f, _, h⟩ | h
 ·cases h
 ·exact h
theorem ite_or {α : Type} {c : Prop} [Decidable c] {x y r : α} (h : (if c then x else y) = r) : (c ∧ x = r) ∨ (¬ c ∧ y = r) := by
 by_cases hc : c
 ·rw [if_pos hc] at h; exact .inl ⟨hc, h⟩
 ·rw [if_neg hc] at h; exact .inr ⟨hc, h⟩
theorem bad_no {α : Type} {f : Flt} {r : α} (h : Rs.bad f = some (.ok r)) : False := by cases h
theorem ite_el {α : Type} {c G : Prop} [Decidable c] {x y r : α} (h : (if c then x else y) = r) (h1 : c → x = r → G) (h2 : ¬ c → y = r → G) : G := by
 by_cases hc : c
 ·rw [if_pos hc] at h; exact h1 hc h
 ·rw [if_neg hc] at h; exact h2 hc h
theorem ok_el {α β : Type} {G : Prop} {x r : α} {y s : β} (h : Rs.ok (x, y) = some (.ok (r, s))) (k : x = r → y = s → G) : G := by cases h; exact k rfl rfl
theorem lift_el {α β : Type} {G : Prop} {x : Except Flt α} {k : α → Rs β} {r : β} (h : lift x k = some (.ok r)) (g : ∀ a, x = .ok a → k a = some (.ok r) → G) : G :=
 let ⟨a, h1, h2⟩ := lift_ok h; g a h1 h2
theorem bind_el {α β : Type} {G : Prop} {x : Rs (α × Nat)} {k : α × Nat → Rs β} {r : β} (h : Rs.bind x k = some (.ok r)) (g : ∀ a b, x = some (.ok (a, b)) → k (a, b) = some (.ok r) → G) : G :=
 let ⟨(a, b), h1, h2⟩ := bind_ok h; g a b h1 h2
def adv : Rule → Nat
 | .binGo _ _ => 0
 | .postGo _ => 0
 | _ => 1
def AdvOK (one : Nat → Rs (Tree × Nat)) : Prop := ∀ a t b, one a = some (.ok (t, b)) → a + 1 ≤ b
theorem rowGo_adv {l : List Tok} {one : Nat → Rs (Tree × Nat)} (ho : AdvOK one) : ∀ n a xs b, rowGo l one n a = some (.ok (xs, b)) → a + 1 ≤ b
 | 0, _, _, _, h => by simp [rowGo] at h
 | n + 1, a, xs, b, h => by
  unfold rowGo at h
  obtain ⟨⟨x, c⟩, h1, h⟩ := bind_ok h
  have h1 := ho _ _ _ h1
  dsimp only at h
  split at h
  ·obtain ⟨⟨ys, d⟩, h2, h⟩ := bind_ok h
   have := rowGo_adv ho n _ _ _ h2
   cases h; omega
  ·obtain ⟨d, h2, h⟩ := lift_ok h
   have := need_ok h2
   cases h; omega
theorem row_adv {l : List Tok} {one : Nat → Rs (Tree × Nat)} (ho : AdvOK one) {n a : Nat} {xs : List Tree} {b : Nat} (h : row l one n a = some (.ok (xs, b))) : a + 2 ≤ b := by
 unfold row at h
 obtain ⟨c, h1, h⟩ := lift_ok h
 have h1 := need_ok h1
 split at h
 ·cases h; omega
 ·have := rowGo_adv ho _ _ _ _ h; omega
theorem listGo_adv {l : List Tok} {one : Nat → Rs (Tree × Nat)} (ho : AdvOK one) : ∀ n a xs b, listGo l one n a = some (.ok (xs, b)) → a + 1 ≤ b
 | 0, _, _, _, h => by simp [listGo] at h
 | n + 1, a, xs, b, h => by
  unfold listGo at h
  split at h
  ·cases h; omega
  ·obtain ⟨⟨x, c⟩, h1, h⟩ := bind_ok h
   have h1 := ho _ _ _ h1
   obtain ⟨d, h2, h⟩ := lift_ok h
   have h2 := ends_ok h2
   obtain ⟨⟨ys, e⟩, h3, h⟩ := bind_ok h
   have := listGo_adv ho n _ _ _ h3
   cases h; omega
theorem list_adv {l : List Tok} {one : Nat → Rs (Tree × Nat)} (ho : AdvOK one) {n a : Nat} {xs : List Tree} {b : Nat} (h : list l one n a = some (.ok (xs, b))) : a + 2 ≤ b := by
 unfold list at h
 obtain ⟨c, h1, h⟩ := lift_ok h
 have h1 := need_ok h1
 have := listGo_adv ho _ _ _ _ h
 have := gaps_le l c
 omega
theorem run_adv (l : List Tok) : ∀ n rule d a t b, run l n rule d a = some (.ok (t, b)) → a + adv rule ≤ b := by
 intro n
 induction n with
 | zero => intro rule d a t b h; simp [run] at h
 | succ n ih =>
  intro rule d a t b h
  have go1 : ∀ rule d, adv rule = 1 → AdvOK (run l n rule d) := fun rule d e a t b h => by have := ih _ _ _ _ _ h; omega
  have res1 : ∀ {c d : Nat} {x : Tree × Nat} {p : Prop} [Decidable p], (if p then run l n .typ d c else Rs.ok (none_, c)) = some (.ok x) → c ≤ x.2 := fun h => by
   rcases ite_or h with ⟨_, h⟩ | ⟨_, h⟩
   ·have := ih .typ _ _ _ _ h; simp only [adv] at this; omega
   ·cases h; exact Nat.le_refl _
  cases rule <;> simp only [run] at h <;> simp only [adv]
  all_goals repeat' (with_reducible first
   | (refine ite_el h (fun hc h => ?_) (fun hc h => ?_))
   | exact (bad_no h).elim
   | (refine ok_el h fun h1 h2 => ?_; omega)
   | (refine lift_el h fun c h1 h => ?_; first | (replace h1 := need_ok h1) | (replace h1 := name_ok h1))
   | (refine bind_el h fun x c h1 h => ?_; first | (replace h1 := row_adv (go1 _ _ rfl) h1) | (replace h1 := list_adv (go1 _ _ rfl) h1) | (replace h1 := ih _ _ _ _ _ h1; simp only [adv] at h1) | (replace h1 := res1 h1; dsimp only at h1))
   | (replace h := ih _ _ _ _ _ h; simp only [adv] at h; omega))
end Ps
end Go.Vs
end
section
namespace Go.Vs
namespace Pt
def letter (c : UInt8) : Bool := (97 ≤ c && c ≤ 122) || (65 ≤ c && c ≤ 90) || c == 95
def digit (c : UInt8) : Bool := 48 ≤ c && c ≤ 57
def words : List (List UInt8) := [Ps.wType, Ps.wStruct, Ps.wInterface, Ps.wFunc, Ps.wVar, Ps.wIf, Ps.wElse, Ps.wFor, Ps.wBreak, Ps.wContinue, Ps.wReturn, Ps.wPrint, Ps.wLen, Ps.wMake, Ps.wNew, Ps.wInput, Ps.wTrue, Ps.wFalse, Ps.wNil, Ps.wInt, Ps.wBool, Ps.wString]
def isWord (s : List UInt8) : Bool := decide (s ∈ words)
def endWords : List (List UInt8) := [Ps.wTrue, Ps.wFalse, Ps.wNil, Ps.wBreak, Ps.wContinue, Ps.wReturn, Ps.wInt, Ps.wBool, Ps.wString]
def endsTok (t : Tok) : Bool :=
 if t.kind = 2 ∨ t.kind = 4 ∨ t.kind = 5 then true
 else if t.kind = 3 then decide (t.text ∈ endWords)
 else if t.kind = 6 then t.text = [41] || t.text = [93] || t.text = [125]
 else false
def ends (out : List Tok) : Bool := match out.getLast? with
 | some t => endsTok t
 | none => false
def numGo : Nat → List UInt8 → Option Nat
 | v, [] => some v
 | v, c :: s => if digit c then (if (9223372036854775807 - (c.toNat - 48)) / 10 < v then none else numGo (10 * v + (c.toNat - 48)) s) else some v
def textGo : Nat → List UInt8 → List UInt8 → Option (List UInt8 × Nat)
 | _, _, [] => none
 | n, out, c :: s =>
  if c = 34 ∧ out.length ≤ 2000 then some (out, n + 1)
  else if c = 92 then match s with
   | [] => none
   | e :: s' => if e = 110 then textGo (n + 2) (out ++ [10]) s' else if e = 116 then textGo (n + 2) (out ++ [9]) s' else if e = 34 ∨ e = 92 then textGo (n + 2) (out ++ [e]) s' else none
  else if c < 32 ∨ 126 < c ∨ c = 34 then none
  else textGo (n + 1) (out ++ [c]) s
def pairs : List (List UInt8) := [[58, 61], [61, 61], [33, 61], [60, 61], [62, 61], [38, 38], [124, 124]]
def signs : List UInt8 := [43, 45, 42, 47, 37, 60, 62, 61, 33, 40, 41, 91, 93, 123, 125, 44, 46]
def sign (c : UInt8) (s : List UInt8) : Except Int (Int × List UInt8 × Int × Nat) :=
 match s with
 | e :: _ => if [c, e] ∈ pairs then .ok (6, [c, e], 0, 2) else if c = 59 then .ok (1, [59], 0, 1) else if c ∈ signs then .ok (6, [c], 0, 1) else .error 10
 | [] => if c = 59 then .ok (1, [59], 0, 1) else if c ∈ signs then .ok (6, [c], 0, 1) else .error 10
def one (c : UInt8) (s : List UInt8) : Except Int (Int × List UInt8 × Int × Nat) :=
 if letter c then
  let w := c :: s.takeWhile fun c => letter c || digit c
  .ok (if isWord w then 3 else 2, w, 0, w.length)
 else if digit c then
  match numGo 0 (c :: s) with
  | some v => .ok (4, c :: s.takeWhile digit, v, 1 + (s.takeWhile digit).length)
  | none => .error 12
 else if c = 34 then
  match textGo 1 [] s with
  | some (w, n) => .ok (5, w, 0, n)
  | none => .error 11
 else sign c s
def put (out : List Tok) (t : Tok) : Except Flt (List Tok) := if 4000 ≤ out.length then .error ⟨t.line, t.col, 6⟩ else .ok (out ++ [t])
def semi (line col : Int) : Tok := ⟨1, [59], 0, line, col⟩
def putEnd (out : List Tok) (line col : Int) : Except Flt (List Tok) := if ends out then put out (semi line col) else .ok out
def scan : Nat → List UInt8 → Int → Int → List Tok → Except Flt (List Tok)
 | _, [], line, col, out => do
  let out ← putEnd out line col
  put out ⟨0, [], 0, line, col⟩
 | 0, _ :: _, _, _, _ => .error ⟨0, 0, 0⟩
 | n + 1, c :: s, line, col, out =>
  if c = 10 then do
   let out ← putEnd out line col
   scan n s (line + 1) 1 out
  else if c = 32 ∨ c = 9 ∨ c = 13 then scan n s line (col + 1) out
  else if c = 47 ∧ s.head? = some 47 then
   let w := s.takeWhile fun c => c != 10
   scan n (s.drop w.length) line (col + 1 + w.length) out
  else match one c s with
   | .error e => .error ⟨line, col, e⟩
   | .ok (kind, text, v, k) => do
    let out ← put out ⟨kind, text, v, line, col⟩
    scan n (s.drop (k - 1)) line (col + k) out
def toks (s : List UInt8) : Except Flt (List Tok) := if 16384 < s.length then .error ⟨1, 1, 6⟩ else scan s.length s 1 1 []
end Pt
end Go.Vs
end
section
namespace Go.Vs
namespace Pt
def key (t : Tok) : Int × List UInt8 × Int := (t.kind, t.text, t.n)
def Sc (txt : List UInt8) (line col : Int) (out : List Tok) (line' col' : Int) (out' : List Tok) : Prop :=
 ∀ rest f, txt.length + rest.length ≤ f → ∃ f', rest.length ≤ f' ∧ scan f (txt ++ rest) line col out = scan f' rest line' col' out'
theorem Sc.nil {line col : Int} {out : List Tok} : Sc [] line col out line col out := fun rest f h => ⟨f, by simpa using h, rfl⟩
theorem Sc.trans {a b : List UInt8} {l c l' c' l'' c'' : Int} {o o' o'' : List Tok} (h : Sc a l c o l' c' o') (h' : Sc b l' c' o' l'' c'' o'') : Sc (a ++ b) l c o l'' c'' o'' := by
 intro rest f hf
 obtain ⟨f1, h1, e1⟩ := h (b ++ rest) f (by simp at hf ⊢; omega)
 obtain ⟨f2, h2, e2⟩ := h' rest f1 (by simpa using h1)
 exact ⟨f2, h2, by rw [List.append_assoc, e1, e2]⟩
def Sk (txt : List UInt8) (e e' : Bool) (ks : List (Int × List UInt8 × Int)) : Prop :=
 ∀ line col out, ends out = e → out.length + ks.length ≤ 4000 → ∃ line' col' ts, ts.map key = ks ∧ ends (out ++ ts) = e' ∧ Sc txt line col out line' col' (out ++ ts)
theorem Sk.nil {e : Bool} : Sk [] e e [] := fun line col out he _ => ⟨line, col, [], rfl, by rw [List.append_nil]; exact he, by rw [List.append_nil]; exact .nil⟩
theorem Sk.trans {a b : List UInt8} {e e' e'' : Bool} {k k' : List (Int × List UInt8 × Int)} (h : Sk a e e' k) (h' : Sk b e' e'' k') : Sk (a ++ b) e e'' (k ++ k') := by
 intro line col out he hl
 simp at hl
 obtain ⟨l1, c1, t1, a1, a2, a3⟩ := h line col out he (by omega)
 have hlen : t1.length = k.length := by rw [← a1]; simp
 obtain ⟨l2, c2, t2, b1, b2, b3⟩ := h' l1 c1 (out ++ t1) a2 (by simp; omega)
 exact ⟨l2, c2, t1 ++ t2, by simp [a1, b1], by rw [← List.append_assoc]; exact b2, by rw [← List.append_assoc]; exact a3.trans b3⟩
theorem ends_app {out : List Tok} {t : Tok} : ends (out ++ [t]) = endsTok t := by unfold ends; simp
theorem scan_tok {f : Nat} {c : UInt8} {s : List UInt8} {line col : Int} {out : List Tok} {k : Int} {w : List UInt8} {v : Int} {n : Nat} (h : one c s = .ok (k, w, v, n)) (h1 : c ≠ 10) (h2 : ¬ (c = 32 ∨ c = 9 ∨ c = 13)) (h3 : ¬ (c = 47 ∧ s.head? = some 47)) (hl : out.length < 4000) :
  scan (f + 1) (c :: s) line col out = scan f (s.drop (n - 1)) line (col + n) (out ++ [⟨k, w, v, line, col⟩]) := by
 rw [scan]
 rw [if_neg h1, if_neg h2, if_neg h3, h]
 simp only [put]
 rw [if_neg (by omega)]
 rfl
theorem Sk.tok {c : UInt8} {w r : List UInt8} {e : Bool} {k : Int} {tx : List UInt8} {v : Int} (h : ∀ rest, one c (w ++ (r ++ rest)) = .ok (k, tx, v, w.length + 1)) (h1 : c ≠ 10) (h2 : ¬ (c = 32 ∨ c = 9 ∨ c = 13)) (h3 : c ≠ 47)
  {e' : Bool} {ks : List (Int × List UInt8 × Int)} (hr : Sk r (endsTok ⟨k, tx, v, 0, 0⟩) e' ks) : Sk (c :: w ++ r) e e' ((k, tx, v) :: ks) := by
 intro line col out he hl
 simp at hl
 obtain ⟨l1, c1, t1, a1, a2, a3⟩ := hr line (col + ((w.length + 1 : Nat) : Int)) (out ++ [⟨k, tx, v, line, col⟩]) (by rw [ends_app]; rfl) (by simp; omega)
 refine ⟨l1, c1, ⟨k, tx, v, line, col⟩ :: t1, by simp [a1, key], by simpa using a2, fun rest f hf => ?_⟩
 simp at hf
 obtain ⟨f', rfl⟩ : ∃ g, f = g + 1 := ⟨f - 1, by omega⟩
 obtain ⟨f2, b1, b2⟩ := a3 rest f' (by omega)
 refine ⟨f2, b1, ?_⟩
 have := scan_tok (f := f') (line := line) (col := col) (out := out) (h rest) h1 h2 (fun x => h3 x.1) (by omega)
 simp only [List.cons_append, List.append_assoc] at this ⊢
 rw [this]
 have hd : (w ++ (r ++ rest)).drop (w.length + 1 - 1) = r ++ rest := by simp
 rw [hd, b2]
 simp
theorem Sk.space {r : List UInt8} {e e' : Bool} {ks : List (Int × List UInt8 × Int)} (hr : Sk r e e' ks) : Sk (32 :: r) e e' ks := by
 intro line col out he hl
 obtain ⟨l1, c1, t1, a1, a2, a3⟩ := hr line (col + 1) out he hl
 refine ⟨l1, c1, t1, a1, a2, fun rest f hf => ?_⟩
 simp at hf
 obtain ⟨f', rfl⟩ : ∃ g, f = g + 1 := ⟨f - 1, by omega⟩
 obtain ⟨f2, b1, b2⟩ := a3 rest f' (by omega)
 refine ⟨f2, b1, ?_⟩
 rw [← b2]
 simp only [List.cons_append]
 rw [scan]
 simp
theorem Sk.line {r : List UInt8} {e' : Bool} {ks : List (Int × List UInt8 × Int)} (hr : Sk r false e' ks) : Sk (10 :: r) true e' ((1, [59], 0) :: ks) := by
 intro line col out he hl
 simp at hl
 obtain ⟨l1, c1, t1, a1, a2, a3⟩ := hr (line + 1) 1 (out ++ [semi line col]) (by rw [ends_app]; rfl) (by simp; omega)
 refine ⟨l1, c1, semi line col :: t1, by simp [a1, key, semi], by simpa using a2, fun rest f hf => ?_⟩
 simp at hf
 obtain ⟨f', rfl⟩ : ∃ g, f = g + 1 := ⟨f - 1, by omega⟩
 obtain ⟨f2, b1, b2⟩ := a3 rest f' (by omega)
 refine ⟨f2, b1, ?_⟩
 rw [show out ++ semi line col :: t1 = out ++ [semi line col] ++ t1 by simp, ← b2]
 simp only [List.cons_append]
 rw [scan]
 rw [if_pos rfl]
 unfold putEnd put
 rw [if_pos he, if_neg (by omega)]
 rfl
theorem Sk.line0 {r : List UInt8} {e' : Bool} {ks : List (Int × List UInt8 × Int)} (hr : Sk r false e' ks) : Sk (10 :: r) false e' ks := by
 intro line col out he hl
 obtain ⟨l1, c1, t1, a1, a2, a3⟩ := hr (line + 1) 1 out he hl
 refine ⟨l1, c1, t1, a1, a2, fun rest f hf => ?_⟩
 simp at hf
 obtain ⟨f', rfl⟩ : ∃ g, f = g + 1 := ⟨f - 1, by omega⟩
 obtain ⟨f2, b1, b2⟩ := a3 rest f' (by omega)
 refine ⟨f2, b1, ?_⟩
 rw [← b2]
 simp only [List.cons_append]
 rw [scan]
 rw [if_pos rfl]
 unfold putEnd
 rw [he]
 rfl
theorem Sk.all {txt : List UInt8} {ks : List (Int × List UInt8 × Int)} (h : Sk txt false false ks) (hl : ks.length < 4000) (ht : txt.length ≤ 16384) : ∃ l, toks txt = .ok l ∧ l.map key = ks ++ [(0, [], 0)] := by
 obtain ⟨l1, c1, t1, a1, a2, a3⟩ := h 1 1 [] rfl (by simp; omega)
 obtain ⟨f2, b1, b2⟩ := a3 [] txt.length (by simp)
 have hlen : t1.length = ks.length := by rw [← a1]; simp
 refine ⟨t1 ++ [⟨0, [], 0, l1, c1⟩], ?_, by simp [a1, key]⟩
 unfold toks
 rw [if_neg (by omega)]
 rw [List.append_nil] at b2
 rw [b2]
 simp only [List.nil_append] at a2 ⊢
 have : scan f2 [] l1 c1 t1 = (do let out ← putEnd t1 l1 c1; put out ⟨0, [], 0, l1, c1⟩) := by cases f2 <;> rfl
 rw [this]
 unfold putEnd put
 rw [a2]
 show (if 4000 ≤ t1.length then _ else _) = _
 rw [if_neg (by omega)]
theorem takeWhile_app {p : UInt8 → Bool} : ∀ {s rest : List UInt8}, (s.takeWhile p).length < s.length → (s ++ rest).takeWhile p = s.takeWhile p
 | [], _, h => by simp at h
 | c :: s, rest, h => by
  simp only [List.cons_append, List.takeWhile_cons] at h ⊢
  split at h
  ·rename_i hc; simp only [hc, if_true]
   rw [takeWhile_app (by simpa using h)]
  ·rename_i hc; simp [hc]
theorem numGo_app : ∀ {s rest : List UInt8} {v : Nat}, (s.takeWhile digit).length < s.length → numGo v (s ++ rest) = numGo v s
 | [], _, _, h => by simp at h
 | c :: s, rest, v, h => by
  simp only [List.cons_append, List.takeWhile_cons, numGo] at h ⊢
  split at h
  ·rename_i hc; simp only [hc, if_true]
   split
   ·rfl
   ·exact numGo_app (by simpa using h)
  ·rename_i hc; simp [hc]
theorem textGo_app (rest : List UInt8) : ∀ (m : Nat) (s : List UInt8) {n : Nat} {out w : List UInt8} {k : Nat}, s.length ≤ m → textGo n out s = some (w, k) → textGo n out (s ++ rest) = some (w, k)
 | _, [], _, _, _, _, _, h => by simp [textGo] at h
 | m + 1, c :: s, n, out, w, k, hm, h => by
  have hm' : s.length ≤ m := by simpa using hm
  rw [textGo.eq_def] at h
  rw [List.cons_append, textGo.eq_def]
  dsimp only at h ⊢
  split at h
  ·rename_i h1; rw [if_pos h1]; exact h
  ·rename_i h1; rw [if_neg h1]
   split at h
   ·rename_i h2; rw [if_pos h2]
    cases s with
    | nil => simp at h
    | cons e s =>
     simp at hm'
     simp only [List.cons_append] at h ⊢
     split at h
     ·rename_i h3; rw [if_pos h3]; exact textGo_app rest m s (by omega) h
     ·rename_i h3; rw [if_neg h3]
      split at h
      ·rename_i h4; rw [if_pos h4]; exact textGo_app rest m s (by omega) h
      ·rename_i h4; rw [if_neg h4]
       split at h
       ·rename_i h5; rw [if_pos h5]; exact textGo_app rest m s (by omega) h
       ·cases h
   ·rename_i h2; rw [if_neg h2]
    split at h
    ·cases h
    ·rename_i h3; rw [if_neg h3]; exact textGo_app rest m s hm' h
theorem one_app {c : UInt8} {s rest : List UInt8} {k : Int} {tx : List UInt8} {v : Int} {n : Nat} (h : one c s = .ok (k, tx, v, n)) (hn : n ≤ s.length) : one c (s ++ rest) = .ok (k, tx, v, n) := by
 unfold one at h ⊢
 dsimp only at h ⊢
 split at h
 ·rename_i h1
  rw [if_pos h1]
  have hl : (s.takeWhile fun c => letter c || digit c).length < s.length := by
   have : n = (c :: s.takeWhile fun c => letter c || digit c).length := by cases h; rfl
   simp at this; omega
  rw [takeWhile_app hl]; exact h
 ·rename_i h1; rw [if_neg h1]
  split at h
  ·rename_i h2; rw [if_pos h2]
   have hl : (s.takeWhile digit).length < s.length := by
    split at h
    ·have : n = 1 + (s.takeWhile digit).length := by cases h; rfl
     omega
    ·cases h
   rw [takeWhile_app hl, ← List.cons_append, numGo_app (s := c :: s) (by simp only [List.takeWhile_cons, h2, if_true]; simpa using hl)]
   exact h
  ·rename_i h2; rw [if_neg h2]
   split at h
   ·rename_i h3; rw [if_pos h3]
    split at h
    ·rename_i w m hg
     rw [textGo_app rest s.length s (Nat.le_refl _) hg]; exact h
    ·cases h
   ·rename_i h3; rw [if_neg h3]
    unfold sign at h ⊢
    cases s with
    | nil =>
     exfalso
     have hn0 : n ≤ 0 := by simpa using hn
     dsimp only at h
     split at h
     ·cases h; omega
     ·split at h
      ·cases h; omega
      ·cases h
    | cons e s => exact h
abbrev Key := Int × List UInt8 × Int
def chunk : Nat → List UInt8 → Bool → Option (List Key × Bool)
 | _, [], e => some ([], e)
 | 0, _ :: _, _ => none
 | n + 1, c :: s, e =>
  if c = 10 then match chunk n s false with
   | some (ks, e') => some (if e then (1, [59], 0) :: ks else ks, e')
   | none => none
  else if c = 32 then chunk n s e
  else if c = 59 then match chunk n s false with
   | some (ks, e') => some ((1, [59], 0) :: ks, e')
   | none => none
  else if c = 47 ∨ c = 9 ∨ c = 13 then none
  else match one c s with
   | .ok (k, tx, v, m) => if 1 ≤ m ∧ m ≤ s.length then (match chunk n (s.drop (m - 1)) (endsTok ⟨k, tx, v, 0, 0⟩) with
     | some (ks, e') => some ((k, tx, v) :: ks, e')
     | none => none) else none
   | .error _ => none
theorem one_semi (s : List UInt8) : one 59 s = .ok (1, [59], 0, 1) := by
 unfold one
 have h1 : letter 59 = false := by decide
 have h2 : digit 59 = false := by decide
 simp only [h1, h2]
 unfold sign
 cases s with
 | nil => simp
 | cons e s =>
  have : ¬ ([59, e] ∈ pairs) := by simp [pairs]
  simp [this]
theorem chunk_ok : ∀ (n : Nat) (s : List UInt8) (e : Bool) {ks : List Key} {e' : Bool}, chunk n s e = some (ks, e') → Sk s e e' ks
 | n, [], e, ks, e', h => by
  have h : some ([], e) = some (ks, e') := by cases n <;> exact h
  cases h; exact .nil
 | 0, c :: s, e, ks, e', h => by cases h
 | n + 1, c :: s, e, ks, e', h => by
  rw [chunk] at h
  split at h
  ·rename_i hc; subst hc
   split at h
   ·rename_i k1 e1 h1
    have := chunk_ok n s false h1
    cases h
    cases e with
    | true => exact .line this
    | false => exact .line0 this
   ·cases h
  ·rename_i hc
   split at h
   ·rename_i h32; subst h32; exact .space (chunk_ok n s e h)
   ·rename_i h32
    split at h
    ·rename_i h59; subst h59
     split at h
     ·rename_i k1 e1 h1
      have := chunk_ok n s false h1
      cases h
      exact Sk.tok (w := []) (r := s) (fun rest => one_semi _) (by decide) (by decide) (by decide) this
     ·cases h
    ·split at h
     ·cases h
     ·rename_i h47
      split at h
      ·rename_i k tx v m h1
       split at h
       ·rename_i hm
        split at h
        ·rename_i k1 e1 h2
         have := chunk_ok n _ _ h2
         cases h
         have hs : s = s.take (m - 1) ++ s.drop (m - 1) := (List.take_append_drop _ _).symm
         have hlen : (s.take (m - 1)).length + 1 = m := by rw [List.length_take]; omega
         conv => arg 1; rw [hs]
         refine Sk.tok (w := s.take (m - 1)) (r := s.drop (m - 1)) (fun rest => ?_) hc (by intro x; rcases x with x | x | x <;> simp_all) (by intro x; exact h47 (.inl x)) this
         rw [hlen, ← List.append_assoc, List.take_append_drop]
         exact one_app h1 hm.2
        ·cases h
       ·cases h
      ·cases h
end Pt
end Go.Vs
end
section
namespace Go.Vs
namespace Pl
open Pt (Key key)
def dig (i : Nat) : List UInt8 := if i < 10 then [UInt8.ofNat (48 + i)] else [UInt8.ofNat (48 + i / 10), UInt8.ofNat (48 + i % 10)]
def prm : Nat → List UInt8
 | 0 => []
 | i + 1 => prm i ++ ((if 0 < i then [44, 32] else []) ++ (112 :: (dig i ++ [32, 105, 110, 116])))
def head (m : Nat) : List UInt8 := [102, 117, 110, 99, 32, 102, 40] ++ (prm m ++ [41, 32, 123, 10])
def stmtT (i : Nat) (b : Bool) : List UInt8 := [112, 114, 105, 110, 116, 40] ++ (dig i ++ ([41, 10] ++ if b then [59, 59, 10, 59] else []))
def body (sem : Nat → Bool) : Nat → List UInt8
 | 0 => []
 | i + 1 => body sem i ++ stmtT i (sem i)
def foot : List UInt8 := [125, 10, 59, 59, 10]
def text (m n : Nat) (sem : Nat → Bool) : List UInt8 := head m ++ (body sem n ++ foot)
def semiK : Key := (1, [59], 0)
def prmK : Nat → List Key
 | 0 => []
 | i + 1 => prmK i ++ ((if 0 < i then [(6, [44], 0)] else []) ++ [(2, 112 :: dig i, 0), (3, Ps.wInt, 0)])
def headK (m : Nat) : List Key := [(3, Ps.wFunc, 0), (2, [102], 0), (6, [40], 0)] ++ (prmK m ++ [(6, [41], 0), (6, [123], 0)])
def stmtK (i : Nat) (b : Bool) : List Key := [(3, Ps.wPrint, 0), (6, [40], 0), (4, dig i, (i : Int)), (6, [41], 0), semiK] ++ if b then [semiK, semiK, semiK] else []
def bodyK (sem : Nat → Bool) : Nat → List Key
 | 0 => []
 | i + 1 => bodyK sem i ++ stmtK i (sem i)
def footK : List Key := [(6, [125], 0), semiK, semiK, semiK]
theorem all_range {n : Nat} {p : Nat → Bool} (h : (List.range n).all p = true) {i : Nat} (hi : i < n) : p i = true := by
 rw [List.all_eq_true] at h; exact h i (by simpa using hi)
theorem head_all : ((List.range 9).all fun m => decide (Pt.chunk 200 (head m) false = some (headK m, false))) = true := by decide +kernel
theorem head_chunk {m : Nat} (h : m < 9) : Pt.chunk 200 (head m) false = some (headK m, false) := of_decide_eq_true (all_range head_all h)
theorem stmt_all : ((List.range 30).all fun i => decide (Pt.chunk 100 (stmtT i true) false = some (stmtK i true, false)) && decide (Pt.chunk 100 (stmtT i false) false = some (stmtK i false, false))) = true := by decide +kernel
theorem stmt_chunk {i : Nat} (h : i < 30) (b : Bool) : Pt.chunk 100 (stmtT i b) false = some (stmtK i b, false) := by
 have := all_range stmt_all h
 rw [Bool.and_eq_true] at this
 cases b with
 | true => exact of_decide_eq_true this.1
 | false => exact of_decide_eq_true this.2
theorem foot_chunk : Pt.chunk 100 foot false = some (footK, false) := by decide +kernel
theorem body_sk (sem : Nat → Bool) : ∀ n, n ≤ 30 → Pt.Sk (body sem n) false false (bodyK sem n)
 | 0, _ => .nil
 | n + 1, h => (body_sk sem n (by omega)).trans (Pt.chunk_ok _ _ _ (stmt_chunk (by omega) (sem n)))
theorem dig_len (i : Nat) : (dig i).length ≤ 2 := by unfold dig; split <;> simp
theorem body_len (sem : Nat → Bool) : ∀ n, (body sem n).length ≤ n * 14
 | 0 => by simp [body]
 | n + 1 => by
  have := body_len sem n
  have := dig_len n
  simp only [body, stmtT, List.length_append]
  split <;> simp <;> omega
theorem bodyK_len (sem : Nat → Bool) : ∀ n, (bodyK sem n).length ≤ n * 8
 | 0 => by simp [bodyK]
 | n + 1 => by
  have := bodyK_len sem n
  simp only [bodyK, stmtK, List.length_append]
  split <;> simp <;> omega
theorem head_len : ∀ m, m < 9 → (head m).length ≤ 200 ∧ (headK m).length ≤ 100 := by decide +kernel
theorem text_toks {m n : Nat} (hm : m < 9) (hn : n < 30) (sem : Nat → Bool) : ∃ l, Pt.toks (text m n sem) = .ok l ∧ l.map key = headK m ++ (bodyK sem n ++ (footK ++ [(0, [], 0)])) := by
 have h1 := body_len sem n
 have h2 := bodyK_len sem n
 have h3 := head_len m hm
 have h := ((Pt.chunk_ok _ _ _ (head_chunk hm)).trans ((body_sk sem n (by omega)).trans (Pt.chunk_ok _ _ _ foot_chunk)))
 obtain ⟨l, e1, e2⟩ := h.all (by simp [footK]; omega) (by simp [foot]; omega)
 exact ⟨l, e1, by rw [e2]; simp⟩
def From (l : List Tok) (a : Nat) (ks : List Key) : Prop := (l.drop a).map key = ks
theorem From.next {l : List Tok} {a : Nat} {k : Key} {ks : List Key} (h : From l a (k :: ks)) : From l (a + 1) ks := by
 unfold From at h ⊢
 have := congrArg List.tail h
 rw [← List.map_tail, List.tail_drop] at this
 exact this
theorem From.tk {l : List Tok} {a : Nat} {k : Key} {ks : List Key} (h : From l a (k :: ks)) : key (Ps.tk l a) = k := by
 unfold From at h
 cases hd : l.drop a with
 | nil => rw [hd] at h; simp at h
 | cons t r =>
  rw [hd] at h
  simp at h
  have : l[a]? = some t := by have := congrArg List.head? hd; simpa using this
  unfold Ps.tk
  rw [List.getD, this]
  exact h.1
theorem From.is {l : List Tok} {a : Nat} {k : Key} {ks : List Key} (h : From l a (k :: ks)) (s : List UInt8) : Ps.is l a s = ((k.1 == 3 || k.1 == 6 || k.1 == 1) && k.2.1 == s) := by
 have := h.tk
 unfold Ps.is
 rw [← this]; rfl
theorem From.kind {l : List Tok} {a : Nat} {k : Key} {ks : List Key} (h : From l a (k :: ks)) : (Ps.tk l a).kind = k.1 := by rw [← h.tk]; rfl
theorem From.text {l : List Tok} {a : Nat} {k : Key} {ks : List Key} (h : From l a (k :: ks)) : (Ps.tk l a).text = k.2.1 := by rw [← h.tk]; rfl
theorem From.num {l : List Tok} {a : Nat} {k : Key} {ks : List Key} (h : From l a (k :: ks)) : (Ps.tk l a).n = k.2.2 := by rw [← h.tk]; rfl
theorem From.drop {l : List Tok} {a : Nat} : ∀ {k ks : List Key}, From l a (k ++ ks) → From l (a + k.length) ks
 | [], _, h => h
 | _ :: k, ks, h => by
  have := From.drop (k := k) h.next
  simpa [Nat.add_assoc, Nat.add_comm 1] using this
theorem stmt_run {l : List Tok} {a n : Nat} {w : List UInt8} {v : Int} {ks : List Key} (h : From l a ((3, Ps.wPrint, 0) :: (6, [40], 0) :: (4, w, v) :: (6, [41], 0) :: ks)) :
  Ps.run l (n + 12) .stmt 0 a = some (.ok (.node 20 [] 0 (Ps.tk l a).line (Ps.tk l a).col [.node 21 [] v (Ps.tk l (a + 2)).line (Ps.tk l (a + 2)).col []], a + 4)) := by
 have h1 := h.next
 have h2 := h1.next
 have h3 := h2.next
 have i0 := h.is; have i1 := h1.is; have i2 := h2.is; have i3 := h3.is
 have k2 := h2.kind; have k3 := h3.kind; have n2 := h2.num; have t3 := h3.text
 simp only [Nat.add_assoc] at i1 i2 i3 k2 k3 n2 t3
 simp [Ps.run, i0, i1, i2, i3, k2, k3, n2, t3, Ps.need, Ps.lift, Rs.bind, Ps.mk, Ps.rank, Rs.ok, Ps.wVar, Ps.wIf, Ps.wFor, Ps.wBreak, Ps.wContinue, Ps.wReturn, Ps.wPrint]
theorem param_run {l : List Tok} {a n : Nat} {w : List UInt8} {ks : List Key} (h : From l a ((2, w, 0) :: (3, Ps.wInt, 0) :: ks)) : ∃ t, Ps.run l (n + 3) .param 0 a = some (.ok (.node 7 w 0 (Ps.tk l a).line (Ps.tk l a).col [t], a + 2)) := by
 have h1 := h.next
 have i0 := h.is; have i1 := h1.is
 have k0 := h.kind; have t0 := h.text
 exact ⟨_, by simp [Ps.run, i0, i1, k0, t0, Ps.name, Ps.lift, Rs.bind, Ps.mk, Ps.isTyp, Rs.ok, Ps.wInt, Ps.wBool, Ps.wString]; rfl⟩
def Rows (P : Nat → Tree → Prop) : Nat → List Tree → Prop
 | _, [] => True
 | i, t :: ts => P i t ∧ Rows P (i + 1) ts
def IsParam (i : Nat) (t : Tree) : Prop := ∃ x l c, t = .node 7 (112 :: dig i) 0 l c [x]
def IsStmt (i : Nat) (t : Tree) : Prop := ∃ l c l' c', t = .node 20 [] 0 l c [.node 21 [] (i : Int) l' c' []]
def rowK (i : Nat) : Nat → List Key
 | 0 => []
 | j + 1 => (2, 112 :: dig i, 0) :: (3, Ps.wInt, 0) :: (match j with
  | 0 => [(6, [41], 0)]
  | _ + 1 => (6, [44], 0) :: rowK (i + 1) j)
theorem rowGo_run {l : List Tok} {N : Nat} : ∀ j i a n ks, From l a (rowK i (j + 1) ++ ks) → ∃ ts, Ps.rowGo l (Ps.run l (N + 3) .param 0) (n + (j + 1)) a = some (.ok (ts, a + 3 * (j + 1))) ∧ ts.length = j + 1 ∧ Rows IsParam i ts
 | 0, i, a, n, ks, h => by
  have h : From l a ((2, 112 :: dig i, 0) :: (3, Ps.wInt, 0) :: (6, [41], 0) :: ks) := h
  obtain ⟨x, e⟩ := param_run (n := N) h
  have h2 := h.next.next
  have i2 := h2.is
  simp only [Nat.add_assoc] at i2
  refine ⟨[.node 7 (112 :: dig i) 0 (Ps.tk l a).line (Ps.tk l a).col [x]], ?_, rfl, ⟨x, _, _, rfl⟩, trivial⟩
  show Ps.rowGo l _ (n + 1) a = _
  rw [Ps.rowGo, e]
  simp [Rs.bind, i2, Ps.need, Ps.lift, Rs.ok]
 | j + 1, i, a, n, ks, h => by
  have h : From l a ((2, 112 :: dig i, 0) :: (3, Ps.wInt, 0) :: (6, [44], 0) :: (rowK (i + 1) (j + 1) ++ ks)) := h
  obtain ⟨x, e⟩ := param_run (n := N) h
  have h2 := h.next.next
  have i2 := h2.is
  simp only [Nat.add_assoc] at i2
  have h3 := h2.next
  obtain ⟨ts, e1, e2, e3⟩ := rowGo_run (N := N) j (i + 1) (a + 2 + 1) n ks h3
  refine ⟨.node 7 (112 :: dig i) 0 (Ps.tk l a).line (Ps.tk l a).col [x] :: ts, ?_, by simp [e2], ⟨x, _, _, rfl⟩, e3⟩
  show Ps.rowGo l _ (n + (j + 1) + 1) a = _
  rw [Ps.rowGo, e]
  simp [Rs.bind, i2, e1, Rs.ok]
  omega
theorem gapsN_run {l : List Tok} : ∀ r N a k ks, From l a (List.replicate r semiK ++ k :: ks) → k.2.1 ≠ [59] → r < N → Ps.gapsN l N a = a + r
 | _, 0, _, _, _, _, _, h => by omega
 | 0, N + 1, a, k, ks, h, hk, _ => by
  have h : From l a (k :: ks) := h
  rw [Ps.gapsN, h.is]
  have : (k.2.1 == [59]) = false := by simpa using hk
  simp [this]
 | r + 1, N + 1, a, k, ks, h, hk, hN => by
  have h : From l a (semiK :: (List.replicate r semiK ++ k :: ks)) := h
  have e : Ps.is l a [59] = true := by rw [h.is]; rfl
  rw [Ps.gapsN, if_pos e, gapsN_run r N (a + 1) k ks h.next hk (by omega)]
  omega
theorem gaps_run {l : List Tok} {r a : Nat} {k : Key} {ks : List Key} (h : From l a (List.replicate r semiK ++ k :: ks)) (hk : k.2.1 ≠ [59]) : Ps.gaps l a = a + r := by
 refine gapsN_run r _ a k ks h hk ?_
 have := congrArg List.length h
 simp at this
 omega
def bodyC (sem : Nat → Bool) (i : Nat) : Nat → List Key
 | 0 => []
 | j + 1 => stmtK i (sem i) ++ bodyC sem (i + 1) j
theorem bodyC_snoc (sem : Nat → Bool) : ∀ j i, bodyC sem i (j + 1) = bodyC sem i j ++ stmtK (i + j) (sem (i + j))
 | 0, i => by simp [bodyC]
 | j + 1, i => by
  rw [bodyC, bodyC_snoc sem j (i + 1), bodyC, List.append_assoc, Nat.add_assoc i 1 j, Nat.add_comm 1 j]
theorem bodyK_eq (sem : Nat → Bool) : ∀ n, bodyK sem n = bodyC sem 0 n
 | 0 => rfl
 | n + 1 => by rw [bodyK, bodyK_eq sem n, bodyC_snoc]; simp
theorem body_first (sem : Nat → Bool) (i j : Nat) (ks : List Key) : ∃ k ks', bodyC sem i j ++ ((6, [125], 0) :: ks) = k :: ks' ∧ k.2.1 ≠ [59] := by
 cases j with
 | zero => exact ⟨_, _, rfl, by decide⟩
 | succ j => exact ⟨_, _, rfl, by show Ps.wPrint ≠ _; decide⟩
theorem listGo_run {l : List Tok} {N : Nat} (sem : Nat → Bool) : ∀ j i a n ks, From l a (bodyC sem i j ++ ((6, [125], 0) :: ks)) →
  ∃ ts b, Ps.listGo l (Ps.run l (N + 12) .stmt 0) (n + (j + 1)) a = some (.ok (ts, b)) ∧ ts.length = j ∧ Rows IsStmt i ts ∧ From l b ks
 | 0, i, a, n, ks, h => by
  have h : From l a ((6, [125], 0) :: ks) := h
  have i0 := h.is
  refine ⟨[], a + 1, ?_, rfl, trivial, h.next⟩
  rw [Nat.zero_add, Ps.listGo, i0]
  simp [Rs.ok]
 | j + 1, i, a, n, ks, h => by
  have h : From l a (stmtK i (sem i) ++ bodyC sem (i + 1) j ++ ((6, [125], 0) :: ks)) := h
  rw [List.append_assoc] at h
  have h0 : From l a ((3, Ps.wPrint, 0) :: (6, [40], 0) :: (4, dig i, (i : Int)) :: (6, [41], 0) :: semiK :: ((if sem i then [semiK, semiK, semiK] else []) ++ (bodyC sem (i + 1) j ++ ((6, [125], 0) :: ks)))) := by
   unfold stmtK at h; simpa using h
  have e := stmt_run (n := N) h0
  have i0 := h0.is
  have h4 := h0.next.next.next.next
  have i4 := h4.is
  have h5 := h4.next
  simp only [Nat.add_assoc] at i4
  obtain ⟨k, ks', ek, hk⟩ := body_first sem (i + 1) j ks
  have hg : Ps.gaps l (a + 5) = a + 5 + (if sem i then 3 else 0) ∧ From l (a + 5 + (if sem i then 3 else 0)) (bodyC sem (i + 1) j ++ ((6, [125], 0) :: ks)) := by
   have h5 : From l (a + 5) ((if sem i then [semiK, semiK, semiK] else []) ++ (bodyC sem (i + 1) j ++ ((6, [125], 0) :: ks))) := h5
   cases hs : sem i with
   | true =>
    rw [hs] at h5
    exact ⟨gaps_run (r := 3) (k := k) (ks := ks') (by rw [← ek]; exact h5) hk, h5.next.next.next⟩
   | false =>
    rw [hs] at h5
    exact ⟨gaps_run (r := 0) (k := k) (ks := ks') (by rw [← ek]; exact h5) hk, h5⟩
  obtain ⟨ts, b, e1, e2, e3, e4⟩ := listGo_run (N := N) sem j (i + 1) _ n ks hg.2
  refine ⟨.node 20 [] 0 (Ps.tk l a).line (Ps.tk l a).col [.node 21 [] (i : Int) (Ps.tk l (a + 2)).line (Ps.tk l (a + 2)).col []] :: ts, b, ?_, by simp [e2], ⟨⟨_, _, _, _, rfl⟩, e3⟩, e4⟩
  show Ps.listGo l _ (n + (j + 1) + 1) a = _
  rw [Ps.listGo, i0, e]
  have he : Ps.ends l (a + 4) = .ok (Ps.gaps l (a + 5)) := by
   unfold Ps.ends Ps.need
   rw [i4, i4]
   simp [semiK]
  simp only [Rs.bind, he, Ps.lift, hg.1, e1]
  simp [Ps.wPrint, Rs.ok]
def Shape (m n : Nat) (t : Tree) : Prop := ∃ l0 c0 l1 c1 rv y l2 c2 ss ps, t = .node 1 [] 0 l0 c0 [.node 6 [102] 0 l1 c1 (rv :: y :: .node 10 [] 0 l2 c2 ss :: ps)] ∧ ps.length = m ∧ Rows IsParam 0 ps ∧ ss.length = n ∧ Rows IsStmt 0 ss
theorem prmK_row : ∀ m, m < 9 → prmK (m + 1) ++ [(6, [41], 0), (6, [123], 0)] = rowK 0 (m + 1) ++ [(6, [123], 0)] := by decide +kernel
theorem row_run {l : List Tok} {m a : Nat} {ks : List Key} (hm : m < 9) (h : From l a ((6, [40], 0) :: (prmK m ++ ([(6, [41], 0), (6, [123], 0)] ++ ks)))) :
  ∃ ps b, Ps.row l (Ps.run l 100 .param 0) 100 a = some (.ok (ps, b)) ∧ ps.length = m ∧ Rows IsParam 0 ps ∧ From l b ((6, [123], 0) :: ks) := by
 have i0 := h.is
 have h1 := h.next
 unfold Ps.row Ps.need
 rw [i0]
 cases m with
 | zero =>
  have h1 : From l (a + 1) ((6, [41], 0) :: (6, [123], 0) :: ks) := h1
  have i1 := h1.is
  refine ⟨[], a + 2, ?_, rfl, trivial, h1.next⟩
  simp [Ps.lift, i1, Rs.ok]
 | succ m =>
  rw [← List.append_assoc, prmK_row m (by omega), List.append_assoc] at h1
  have hx : ∃ r, rowK 0 (m + 1) ++ ([(6, [123], 0)] ++ ks) = (2, 112 :: dig 0, 0) :: r := by exact ⟨_, rfl⟩
  obtain ⟨r, hr⟩ := hx
  have i1 : Ps.is l (a + 1) [41] = false := by rw [hr] at h1; rw [h1.is]; simp
  obtain ⟨ts, e1, e2, e3⟩ := rowGo_run (N := 97) m 0 (a + 1) (100 - (m + 1)) _ h1
  rw [show 100 - (m + 1) + (m + 1) = 100 by omega] at e1
  have h2 := h1.drop
  have hl : ∀ i j, (rowK i (j + 1)).length = 3 * (j + 1) := by
   intro i j
   induction j generalizing i with
   | zero => rfl
   | succ j ih => show ((2, 112 :: dig i, 0) :: (3, Ps.wInt, 0) :: (6, [44], 0) :: rowK (i + 1) (j + 1)).length = _; simp [ih]; omega
  rw [hl] at h2
  refine ⟨ts, a + 1 + 3 * (m + 1), ?_, e2, e3, h2⟩
  simp [Ps.lift, i1, e1]
theorem text_tree {m n : Nat} (hm : m < 9) (hn : n < 30) (sem : Nat → Bool) : ∃ l t, Pt.toks (text m n sem) = .ok l ∧ Ps.file l 100 = some (.ok t) ∧ Shape m n t := by
 obtain ⟨l, e1, e2⟩ := text_toks hm hn sem
 have h : From l 0 ((3, Ps.wFunc, 0) :: (2, [102], 0) :: (6, [40], 0) :: (prmK m ++ ([(6, [41], 0), (6, [123], 0)] ++ (bodyC sem 0 n ++ ((6, [125], 0) :: semiK :: semiK :: semiK :: (0, [], 0) :: []))))) := by
  unfold From
  rw [List.drop_zero, e2, bodyK_eq]
  simp [headK, footK]
 have i0 := h.is
 have k0 := h.kind
 have h1 := h.next
 have i1 := h1.is
 have k1 := h1.kind
 have t1 := h1.text
 obtain ⟨ps, b, r1, r2, r3, r4⟩ := row_run hm h1.next
 have ib := r4.is
 have kb := r4.kind
 have h3 := r4.next
 obtain ⟨k, ks', ek, hk⟩ := body_first sem 0 n [semiK, semiK, semiK, (0, [], 0)]
 have g3 : Ps.gaps l (b + 1) = b + 1 := gaps_run (r := 0) (k := k) (ks := ks') (by rw [← ek]; exact h3) hk
 obtain ⟨ss, c, s1, s2, s3, s4⟩ := listGo_run (N := 87) sem n 0 (b + 1) (99 - (n + 1)) _ h3
 rw [show 99 - (n + 1) + (n + 1) = 99 by omega] at s1
 have ic := s4.is
 have g4 : Ps.gaps l (c + 1) = c + 1 + 2 := gaps_run (r := 2) (k := (0, [], 0)) (ks := []) s4.next (by decide)
 have h5 := s4.next.next.next
 have k5 := h5.kind
 have g0 : Ps.gaps l 0 = 0 := gaps_run (r := 0) h (by decide)
 refine ⟨l, .node 1 [] 0 (Ps.tk l 0).line (Ps.tk l 0).col [.node 6 [102] 0 (Ps.tk l 0).line (Ps.tk l 0).col (Ps.none_ :: Ps.none_ :: .node 10 [] 0 (Ps.tk l b).line (Ps.tk l b).col ss :: ps)], e1, ?_, ⟨_, _, _, _, _, _, _, _, ss, ps, rfl, r2, r3, s2, s3⟩⟩
 have hb : Ps.run l 100 .block 0 b = some (.ok (.node 10 [] 0 (Ps.tk l b).line (Ps.tk l b).col ss, c)) := by
  rw [Ps.run]
  dsimp only
  unfold Ps.list Ps.need
  rw [ib]
  simp [Ps.lift, g3, s1, Rs.bind, Rs.ok, Ps.mk]
 have hf : Ps.funcDecl l 100 0 = some (.ok (.node 6 [102] 0 (Ps.tk l 0).line (Ps.tk l 0).col (Ps.none_ :: Ps.none_ :: .node 10 [] 0 (Ps.tk l b).line (Ps.tk l b).col ss :: ps), c)) := by
  unfold Ps.funcDecl Ps.recv Ps.need Ps.name Ps.result Ps.isTyp
  simp [i0, i1, k1, t1, kb, ib, r1, hb, Ps.lift, Rs.bind, Rs.ok, Ps.mk, Ps.wFunc, Ps.wInt, Ps.wBool, Ps.wString]
 unfold Ps.file
 rw [g0]
 have hd : Ps.declsGo l 100 100 0 = some (.ok [.node 6 [102] 0 (Ps.tk l 0).line (Ps.tk l 0).col (Ps.none_ :: Ps.none_ :: .node 10 [] 0 (Ps.tk l b).line (Ps.tk l b).col ss :: ps)]) := by
  rw [Ps.declsGo, k0]
  unfold Ps.need
  simp [i0, ic, hf, g4, k5, Rs.bind, Ps.lift, Rs.ok, Ps.wType, Ps.wFunc, semiK, Ps.declsGo]
 rw [hd]
 rfl
end Pl
end Go.Vs
end
section
namespace Go.Vs
variable [GTab]
structure ArgR (a : AVal) (us : List AVal) : Prop where
 len : lenS a = some us.length
 at_ : ∀ i (h : i < us.length), ∃ p, idxS a i 1 = some p ∧ ∀ H, ld1 H p = some us[i]
def ArgB (a : AVal) (l : List Bool) : Prop := lenS a = some l.length ∧ ∀ i, i < l.length → ∃ p, idxS a i 1 = some p ∧ ∀ H, ld1 H p = some (.bool (l.getD i false))
theorem ArgR.bools {a : AVal} {l : List Bool} (h : ArgR a (l.map .bool)) : ArgB a l := by
 refine ⟨by rw [h.len, List.length_map], fun i hi => ?_⟩
 obtain ⟨p, h1, h2⟩ := h.at_ i (by simpa using hi)
 exact ⟨p, h1, fun H => by rw [h2]; simp [List.getD, hi]⟩
end Go.Vs
end
section
namespace Go.Vs
open Go Go.ChangeShapes Go.WideShapes
def Kept (W w' : World) : Prop := w'.os = W.os ∧ w'.output = W.output ∧ W.heap.size ≤ w'.heap.size ∧ ∀ i, i < W.heap.size → w'.heap[i]? = W.heap[i]?
theorem Kept.keptBut {W w' : World} (h : Kept W w') (may : MemPlace → Prop) : W.keptBut w' may := by
 refine ⟨h.1, h.2.1, fun i hi => ?_⟩
 rw [h.2.2.2 i hi]
 cases e : W.heap[i]? with
 | none => rfl
 | some o => cases o <;> simp
theorem Kept.frozen {W w' : World} (h : Kept W w') (a : Addr) (ha : a.block < W.heap.size) : w'.frozen? a = W.frozen? a := by
 simp only [World.frozen?, h.2.2.2 a.block ha]
theorem Kept.cell {W w' : World} (h : Kept W w') (a : Addr) (ha : a.block < W.heap.size) : w'.cell? a = W.cell? a := by
 simp only [World.cell?, h.2.2.2 a.block ha]
theorem Kept.sameAt {W w' : World} (h : Kept W w') {p : MemPlace} (hp : p.block < W.heap.size) : W.sameAt w' p := by
 cases p with
 | cell b off => exact h.cell ⟨b, off, none⟩ hp
 | map b => exact h.2.2.2 b hp
section
variable {H : Type} {enc : TypeId × Value → H} {P : Program}
theorem post_of_kept {f : Func} {s : ChangeSpec} {apart fresh handsOn again : Bool} {W W' : World} {args : Array Value} {v : Value} {ds gs : List (DataW H)} {before pa pv : List MemPlace}
  (hW : DataW.Whole enc P f.params.toList s.vars apart W args.toList ds gs before)
  (hres : ∀ (b : Nat) (sp : Nat → Bool) (hd : Bool), DataW.TrodAll enc P W' b sp hd f.resultTypes.toList (v.resultList f.resultTypes.size) (s.fn H (ds ++ gs)).results [])
  (hargs : ∀ sp : Nat → Bool, (∀ p ∈ before, sp p.block = true) → DataW.TrodAll enc P W' 0 sp true f.params.toList args.toList (s.fn H (ds ++ gs)).args pa)
  (hvars : ∀ sp : Nat → Bool, (∀ p ∈ before, sp p.block = true) → DataW.TrodVars enc P W' sp s.vars (s.fn H (ds ++ gs)).vars pv)
  (hps : before = pa ++ pv) (hk : Kept W W')
  (hok : ∀ (j : Nat) (t : TypeId) (r : Value), f.resultTypes[j]? = some t → (v.resultList f.resultTypes.size)[j]? = some r → Value.okWide P W' .any 0 t r) :
  s.post enc P f apart fresh handsOn again W args v W' := by
 have hlt : ∀ p ∈ before, p.block < W.heap.size := fun p hp => hW.lt p hp
 have hold : ∀ p ∈ before, (fun b => decide (b < W.heap.size)) p.block = true := fun p hp => by simpa using hlt p hp
 refine ⟨ds, gs, before, [], pa, pv, hW, hres _ _ _, hargs _ hold, hvars _ hold, hk.keptBut _, fun _ => ?_⟩
 obtain ⟨_, _, _, _, _, hz, hn⟩ := hW
 refine ⟨hok, _, _, ([] ++ pa) ++ pv, ⟨[] ++ pa, pv, trodAll_append (hargs _ (fun _ _ => rfl)) (hres _ _ _), hvars _ (fun _ _ => rfl), rfl, ?_, ?_⟩, ?_⟩
 ·intro b off hp
  have hb : MemPlace.cell b off ∈ before := by rw [hps]; simpa using hp
  rw [hk.frozen _ (hlt _ hb)]
  exact hz b off hb
 ·intro ha
  have := hn ha
  rw [hps] at this
  simpa using this
 ·intro p hp _
  rw [hps]
  simpa using hp
def noEmpty (P : Program) : Bool := (List.range P.types.size).all fun t => match P.underlying t with
 | some (.slice e) => Nat.blt 0 (P.cellsOf e) && Nat.blt e P.types.size
 | some (.pointer e) => Nat.blt e P.types.size
 | some (.array _ e) => Nat.blt e P.types.size
 | some (.map _ e) => Nat.blt e P.types.size
 | some (.struct fs) => fs.toList.all fun f => Nat.blt f.type P.types.size
 | _ => true
theorem lt_of_blt {a b : Nat} (h : Nat.blt a b = true) : a < b := Nat.le_of_ble_eq_true h
theorem noEmpty_at (h : noEmpty P = true) {t : TypeId} (ht : t < P.types.size) : (match P.underlying t with
 | some (.slice e) => Nat.blt 0 (P.cellsOf e) && Nat.blt e P.types.size
 | some (.pointer e) => Nat.blt e P.types.size
 | some (.array _ e) => Nat.blt e P.types.size
 | some (.map _ e) => Nat.blt e P.types.size
 | some (.struct fs) => fs.toList.all fun f => Nat.blt f.type P.types.size
 | _ => true) = true := List.all_eq_true.1 h t (List.mem_range.2 ht)
theorem trodStep_spare {w : World} {base : Nat} {sp : Nat → Bool} (hz : noEmpty P = true) {r r' : TypeId → List Value → Option (DataW H × List MemPlace)}
  (hr : ∀ t cs x, t < P.types.size → r t cs = some x → (∀ p ∈ x.2, sp p.block = true) → r' t cs = some x) {t : TypeId} {cs : List Value} {x : DataW H × List MemPlace} (hT : t < P.types.size)
  (h : DataW.trodStep enc P w base (fun _ => true) true r t cs = some x) (hs : ∀ p ∈ x.2, sp p.block = true) : DataW.trodStep enc P w base sp true r' t cs = some x := by
 have hcl := noEmpty_at hz hT
 unfold DataW.trodStep at h ⊢
 split at h
 case h_1 => exact h
 case h_2 => exact h
 case h_3 => exact h
 case h_4 => exact h
 case h_5 => exact h
 case h_6 e a hu =>
  rw [hu] at hcl
  simp only [Option.map_eq_some_iff, Option.bind_eq_some_iff] at h ⊢
  obtain ⟨y, ⟨cs', hc, hy⟩, rfl⟩ := h
  exact ⟨y, ⟨cs', hc, hr _ _ _ (lt_of_blt hcl) hy (fun p hp => hs p (by simp [hp]))⟩, rfl⟩
 case h_7 => exact h
 case h_8 e a len cap hu =>
  rw [hu] at hcl
  dsimp only at hcl
  rw [Bool.and_eq_true] at hcl
  simp only at h ⊢
  split at h
  ·rename_i hc
   rw [if_pos hc]
   simp only [if_true, Option.map_eq_some_iff, Option.bind_eq_some_iff] at h ⊢
   obtain ⟨elems, he, rest, hrest, rfl⟩ := h
   have hlen : elems.length = len := by simpa using mapM_some_length he
   have hrl : rest.length = cap - len := by simpa using mapM_some_length hrest
   have one : ∀ (i : Nat) (y : DataW H × List MemPlace), y ∈ elems ++ rest →
     (w.cells? base (a.add (i * P.cellsOf e)) (P.cellsOf e)).bind (r e) = some y → (w.cells? base (a.add (i * P.cellsOf e)) (P.cellsOf e)).bind (r' e) = some y := by
    intro i y hy hv
    simp only [Option.bind_eq_some_iff] at hv ⊢
    obtain ⟨cs', hc', hy'⟩ := hv
    refine ⟨cs', hc', hr _ _ _ (lt_of_blt hcl.2) hy' (fun p hp => hs p ?_)⟩
    simp only [List.mem_append, List.mem_flatMap]
    right
    exact ⟨y, by simpa using hy, hp⟩
   refine ⟨elems, mapM_carry he (fun i y _ hy => one i y (by simp [hy])), rest, ?_, rfl⟩
   by_cases hcap : cap = 0
   ·have hr0 : rest = [] := List.length_eq_zero_iff.1 (by omega)
    have hcl : cap - len = 0 := by omega
    subst hr0
    split
    ·rw [hcl]; rfl
    ·rfl
   ·have hpos := lt_of_blt hcl.1
    have hin : MemPlace.cell a.block (a.off + 0) ∈ MemPlace.row a ((elems.length + rest.length) * P.cellsOf e) := MemPlace.mem_row.2 ⟨0, Nat.mul_pos (by omega) hpos, rfl⟩
    have hsp : sp a.block = true := hs (.cell a.block (a.off + 0)) (by simp only [List.mem_append]; exact .inl hin)
    rw [if_pos hsp]
    exact mapM_carry hrest (fun j y _ hy => one (len + j) y (by simp [hy]))
  ·cases h
 case h_9 fs cs hu =>
  rw [hu] at hcl
  split at h
  ·rename_i hc
   rw [if_pos hc]
   simp only [Option.map_eq_some_iff] at h ⊢
   obtain ⟨xs, hx, rfl⟩ := h
   exact ⟨xs, mapM_carry hx (fun f y hf hy hv => hr _ _ _ (lt_of_blt (List.all_eq_true.1 hcl f hf)) hv (fun p hp => hs p (List.mem_flatMap.2 ⟨y, hy, hp⟩))), rfl⟩
  ·cases h
 case h_10 n e cs hu =>
  rw [hu] at hcl
  split at h
  ·rename_i hc
   rw [if_pos hc]
   simp only [Option.map_eq_some_iff] at h ⊢
   obtain ⟨xs, hx, rfl⟩ := h
   exact ⟨xs, mapM_carry hx (fun f y _ hy hv => hr _ _ _ (lt_of_blt hcl) hv (fun p hp => hs p (List.mem_flatMap.2 ⟨y, hy, hp⟩))), rfl⟩
  ·cases h
 case h_11 => exact h
 case h_12 => exact h
 case h_13 => exact h
 case h_14 k e b hu =>
  rw [hu] at hcl
  split at h
  ·rename_i es clock hb
   split at h
   ·rename_i hc
    simp only [Option.bind_eq_some_iff] at h
    obtain ⟨entries, he, hd⟩ := h
    split at hd
    ·rename_i hris
     have hx := Option.some.inj hd
     subst hx
     simp only [if_pos hc, Option.bind_eq_some_iff]
     refine ⟨entries, mapM_carry he (fun x y _ hy hv => ?_), by simp [hris]⟩
     simp only [Option.bind_eq_some_iff] at hv ⊢
     obtain ⟨key, hk, hz⟩ := hv
     refine ⟨key, hk, ?_⟩
     split at hz
     ·rename_i hf
      rw [if_pos hf]
      simp only [Option.map_eq_some_iff] at hz ⊢
      obtain ⟨q, hq, rfl⟩ := hz
      exact ⟨q, hr _ _ _ (lt_of_blt hcl) hq (fun p hp => hs p (by simp only [List.mem_cons, List.mem_flatMap]; right; exact ⟨_, hy, hp⟩)), rfl⟩
     ·cases hz
    ·cases hd
   ·cases h
  ·cases h
 case h_15 => exact h
 case h_16 => exact h
 case h_17 => exact h
 case h_18 => exact h
 case h_19 => exact h
 case h_20 => exact h
 case h_21 => cases h
theorem trod_spare {w : World} {base : Nat} {sp : Nat → Bool} (hz : noEmpty P = true) : ∀ (n : Nat) (t : TypeId) (cs : List Value) (x : DataW H × List MemPlace), t < P.types.size →
  DataW.trod enc P w base (fun _ => true) true n t cs = some x → (∀ p ∈ x.2, sp p.block = true) → DataW.trod enc P w base sp true n t cs = some x := by
 intro n
 induction n with
 | zero => intro t cs x _ h; simp [DataW.trod] at h
 | succ n ih =>
  intro t cs x hT h hs
  rw [DataW.trod_step] at h ⊢
  exact trodStep_spare hz ih hT h hs
theorem trod_kept {W W' : World} {base : Nat} {sp : Nat → Bool} (hz : noEmpty P = true) (hk : Kept W W') {t : TypeId} (hT : t < P.types.size) {v : Value} {d : DataW H} {ps : List MemPlace}
  (h : DataW.Trod enc P W base (fun _ => true) true t v d ps) (hlt : ∀ p ∈ ps, p.block < W.heap.size) (hsp : ∀ p ∈ ps, sp p.block = true) : DataW.Trod enc P W' base sp true t v d ps := by
 obtain ⟨n, hn⟩ := h
 exact ⟨n, DataW.trod_carry n _ _ _ (trod_spare hz n _ _ _ hT hn hsp) fun p hp => hk.sameAt (hlt p hp)⟩
theorem trodAll_kept {W W' : World} {base : Nat} {sp : Nat → Bool} (hz : noEmpty P = true) (hk : Kept W W') : ∀ {ts : List TypeId} {vs : List Value} {ds : List (DataW H)} {ps : List MemPlace}, (ts.all fun t => Nat.blt t P.types.size) = true →
  DataW.TrodAll enc P W base (fun _ => true) true ts vs ds ps → (∀ p ∈ ps, p.block < W.heap.size) → (∀ p ∈ ps, sp p.block = true) → DataW.TrodAll enc P W' base sp true ts vs ds ps
 | [], [], [], _, _, h, _, _ => h
 | t :: ts, _ :: _, _ :: _, _, hT, ⟨p, q, h, hs, e⟩, hlt, hsp => by
  subst e
  rw [List.all_cons, Bool.and_eq_true] at hT
  exact ⟨p, q, trod_kept hz hk (lt_of_blt hT.1) h (fun x hx => hlt x (List.mem_append_left _ hx)) (fun x hx => hsp x (List.mem_append_left _ hx)), trodAll_kept hz hk hT.2 hs (fun x hx => hlt x (List.mem_append_right _ hx)) (fun x hx => hsp x (List.mem_append_right _ hx)), rfl⟩
theorem post_kept {f : Func} {s : ChangeSpec} {apart fresh handsOn again : Bool} {W W' : World} {args : Array Value} {v : Value} {ds : List (DataW H)} {before : List MemPlace} (hz : noEmpty P = true) (hT : (f.params.toList.all fun t => Nat.blt t P.types.size) = true)
  (hv : s.vars = []) (hW : DataW.Whole enc P f.params.toList s.vars apart W args.toList ds [] before)
  (hres : ∀ (b : Nat) (sp : Nat → Bool) (hd : Bool), DataW.TrodAll enc P W' b sp hd f.resultTypes.toList (v.resultList f.resultTypes.size) (s.fn H (ds ++ [])).results [])
  (hargs : (s.fn H (ds ++ [])).args = ds) (hvars : (s.fn H (ds ++ [])).vars = []) (hk : Kept W W')
  (hok : ∀ (j : Nat) (t : TypeId) (r : Value), f.resultTypes[j]? = some t → (v.resultList f.resultTypes.size)[j]? = some r → Value.okWide P W' .any 0 t r) :
  s.post enc P f apart fresh handsOn again W args v W' := by
 have hlt : ∀ p ∈ before, p.block < W.heap.size := fun p hp => hW.lt p hp
 have hW' := hW
 obtain ⟨p, q, hA, hV, rfl, _, _⟩ := hW
 have hq : q = [] := by
  rw [hv] at hV
  exact hV
 subst hq
 refine post_of_kept (pa := p) (pv := []) hW' hres (fun sp hsp => ?_) (fun sp hsp => ?_) (by simp) hk hok
 ·rw [hargs]
  exact trodAll_kept hz hk hT hA (fun x hx => hlt x (by simp [hx])) fun x hx => hsp x (by simp [hx])
 ·rw [hv, hvars]; rfl
end
def absV : Value → AVal
 | .int k n => .int k n
 | .bool b => .bool b
 | .string s => .str s.data.toList
 | _ => .und
def tabW (W : World) (g : Nat) : Option (List AVal) := match W.heap[g]? with
 | some (.cells c _ _) => some (c.toList.map absV)
 | _ => none
@[reducible] noncomputable def gtabW (W : World) : GTab := { tab := tabW W }
theorem absV_den (σ : Sg) (v : Value) : Den σ (absV v) v := by
 cases v <;> first | exact .int _ _ | exact .bool _ | exact .und _ | skip
 rename_i s
 exact .str _
theorem glob_tabW (W : World) : @Glob (gtabW W) (fun _ => none) W := by
 refine @Glob.mk (gtabW W) _ _ (fun g l hg => ?_) fun b o' hb => by cases hb
 have hg : tabW W g = some l := hg
 unfold tabW at hg
 split at hg
 ·rename_i c t fr hb
  cases hg
  have hlt : g < W.heap.size := by
   rcases Nat.lt_or_ge g W.heap.size with h | h
   ·exact h
   ·rw [Array.getElem?_eq_none h] at hb; cases hb
  refine ⟨hlt, (fun _ _ e => by cases e), fun i v hv => ?_⟩
  rw [List.getElem?_map, Array.getElem?_toList] at hv
  cases hi : c[i]? with
  | none => rw [hi] at hv; cases hv
  | some u =>
   rw [hi] at hv; cases hv
   exact ⟨u, by simp [World.cell?, hb, hi], fun τ => absV_den τ u⟩
 ·cases hg
theorem bools_of {us : List AVal} (h : ∀ x, x ∈ us → ∃ b, x = .bool b) : ∃ l : List Bool, us = l.map .bool := by
 induction us with
 | nil => exact ⟨[], rfl⟩
 | cons x us ih =>
  obtain ⟨b, rfl⟩ := h _ (List.mem_cons_self ..)
  obtain ⟨l, rfl⟩ := ih fun x hx => h x (List.mem_cons_of_mem _ hx)
  exact ⟨b :: l, rfl⟩
theorem elem_bools {H : Type} {enc : TypeId × Value → H} {P : Program} {W : World} {sp : Nat → Bool} {e : TypeId} {x : AVal} {n : Nat} {u : Value} {y : DataW H × List MemPlace} (he : P.underlying e = some .bool) (hx : x = absV u) (h : DataW.trod enc P W 0 sp true n e [u] = some y) : ∃ b, x = .bool b := by
 obtain ⟨b, hb, _⟩ := DataW.trod_bool he h
 cases hb; exact ⟨b, hx⟩
theorem open_row {H : Type} {enc : TypeId × Value → H} {P : Program} {W : World} {sp : Nat → Bool} {t e : TypeId} {v : Value} {d : DataW H} {ps : List MemPlace} (ht : P.underlying t = some (.slice e)) (hc : P.cellsOf e = 1)
  (hform : ∃ a len cap, v = .slice a len cap) (h : DataW.Trod enc P W 0 sp true t v d ps) :
  ∃ (a : AVal) (us : List AVal), (∀ σ, Den σ a v) ∧ @ArgR (gtabW W) a us ∧ ∀ x, x ∈ us → ∃ (n : Nat) (u : Value) (y : DataW H × List MemPlace), x = absV u ∧ DataW.trod enc P W 0 sp true n e [u] = some y := by
 obtain ⟨a0, len0, cap0, rfl⟩ := hform
 obtain ⟨fuel, hf⟩ := h
 rcases DataW.trod_slice ht hf with ⟨hcs, _⟩ | ⟨a, len, cap, elems, rest, n, rfl, hcs, hx, _, hle, hmax, hlen, hel, _, _⟩
 ·simp [Value.cells] at hcs
  obtain ⟨rfl, rfl, rfl⟩ := hcs
  exact ⟨.nilSlice, [], fun σ => Den.nilSlice, @ArgR.mk (gtabW W) _ _ rfl fun i h => by simp at h, fun x hx => by cases hx⟩
 ·simp [Value.cells] at hcs
  obtain ⟨rfl, rfl, rfl⟩ := hcs
  have hcell : ∀ i, i < len0 → ∃ u y, W.cell? (a.add i) = some u ∧ DataW.trod enc P W 0 sp true n e [u] = some y := by
   intro i hi
   have := hel i hi
   rw [hc, Nat.mul_one, List.getElem?_eq_getElem (show i < elems.length by omega), Option.bind_eq_some_iff] at this
   obtain ⟨cs, h1, h2⟩ := this
   have hl1 := (World.cells?_some h1).2.1
   obtain ⟨u, rfl⟩ : ∃ u, cs = [u] := by
    match cs, hl1 with
    | [u], _ => exact ⟨u, rfl⟩
    | [], h => simp at h
    | _ :: _ :: _, h => simp at h
   exact ⟨u, _, cell_of_cells?_one h1, h2⟩
  by_cases hz : len0 = 0
  ·subst hz
   exact ⟨.gslice a.block a.off 0 1, [], fun σ => Den.gslice0, @ArgR.mk (gtabW W) _ _ rfl fun i h => by simp at h, fun x hx => by cases hx⟩
  ·obtain ⟨b, off, spot⟩ := a
   have hspot : spot = none := by
    obtain ⟨u, y, h1, _⟩ := hcell 0 (by omega)
    simpa [Addr.add] using World.cell?_spot h1
   subst hspot
   have hat : ∀ i, i < len0 → ∃ u y, W.cell? ⟨b, off + i, none⟩ = some u ∧ DataW.trod enc P W 0 sp true n e [u] = some y := fun i hi => by
    have := hcell i hi
    rwa [Go.WideShapes.add_plain] at this
   obtain ⟨c, tt, fr, hb⟩ : ∃ c tt fr, W.heap[b]? = some (.cells c tt fr) := by
    obtain ⟨u, y, h1, _⟩ := hat 0 (by omega)
    unfold World.cell? at h1
    dsimp only at h1
    cases hq : W.heap[b]? with
    | none => rw [hq] at h1; cases h1
    | some o =>
     rw [hq] at h1
     cases o with
     | cells c t fr => exact ⟨c, t, fr, rfl⟩
     | _ => cases h1
   have hci : ∀ i, i < len0 → ∃ u y, c[off + i]? = some u ∧ DataW.trod enc P W 0 sp true n e [u] = some y := fun i hi => by
    obtain ⟨u, y, h1, h2⟩ := hat i hi
    refine ⟨u, y, ?_, h2⟩
    simpa [World.cell?, hb] using h1
   refine ⟨.gslice b off len0 1, ((c.toList.drop off).take len0).map absV, fun σ => Den.gslice hle, @ArgR.mk (gtabW W) _ _ ?_ fun i h => ?_, fun x hx => ?_⟩
   ·have : ((c.toList.drop off).take len0).length = len0 := by
     obtain ⟨u, y, h1, _⟩ := hci (len0 - 1) (by omega)
     have := (Array.getElem?_eq_some_iff.1 h1).1
     simp; omega
    show some len0 = _
    rw [List.length_map, this]
   ·simp only [List.length_map, List.length_take] at h
    have hi : i < len0 := by omega
    refine ⟨.gptr b (off + i * 1), ?_, fun H => ?_⟩
    ·have : Nat.ble (Nat.succ i) len0 = true := Nat.ble_eq_true_of_le hi
     simp only [idxS, this]; rfl
    ·show (match tabW W b with | some l => l[off + i * 1]? | none => none) = _
     have : tabW W b = some (c.toList.map absV) := by unfold tabW; rw [hb]
     rw [this]
     show (c.toList.map absV)[off + i * 1]? = _
     obtain ⟨u, y, h1, _⟩ := hci i hi
     have hlt := (Array.getElem?_eq_some_iff.1 h1).1
     rw [Nat.mul_one, List.getElem?_map, Array.getElem?_toList, h1]
     simp only [List.getElem_map, List.getElem_take, List.getElem_drop]
     have h3 := (Array.getElem?_eq_some_iff.1 h1).2
     simp [h3]
   ·obtain ⟨u, hu, rfl⟩ := List.mem_map.1 hx
    obtain ⟨i, hi⟩ := List.getElem?_of_mem hu
    rw [List.getElem?_take] at hi
    split at hi
    ·rename_i hil
     rw [List.getElem?_drop, Array.getElem?_toList] at hi
     obtain ⟨u', y, h1, h2⟩ := hci i hil
     rw [h1] at hi; cases hi
     exact ⟨n, _, y, rfl, h2⟩
    ·cases hi
section
variable [GTab]
theorem rel_none {w : World} (hg : Glob (fun _ => none) w) : Rel (fun _ => none) (all5 none) 0 w := by
 refine ⟨Nat.le_refl _, ?_, ?_, ?_, ?_, ?_, hg⟩
 ·intro b cb sz e; cases e
 ·intro b o cb sz _ e; cases e
 ·intro b b' o o' cb sz sz' _ _ e; cases e
 ·intro b b' o o' p _ _ e; cases e
 ·intro b o p _ e; cases e
theorem closeK {P : Program} {f : FuncId} {argsV : List AVal} {args' : List Value} {w : World} (h : TriP P f argsV (all5 none) 0 (fun e _ _ => e = .ret (.bool true)))
  (hg : Glob (fun _ => none) w) (hd : DenL (fun _ => none) argsV args') : Calls P f ⟨args'⟩ w fun e w' => e = .returned (.bool true) ∧ Kept w w' := by
 refine h (fun _ => none) w args' _ (rel_none hg) hd ?_
 intro e H' nx' σ' w' en k R1 E1 X1
 subst k
 cases en <;> try exact X1.elim
 rename_i v
 have hv : Den σ' (.bool true) v := X1
 cases hv
 exact ⟨rfl, E1.os, E1.output, E1.size, fun i hi => E1.frame i hi fun _ _ e => by cases e⟩
end
end Go.Vs
end
