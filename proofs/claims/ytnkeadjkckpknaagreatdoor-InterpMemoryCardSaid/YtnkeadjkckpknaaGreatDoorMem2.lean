/-
  Own work. Texts of a proof, laid together; no condition.
-/
import Derived.LoopN
import Derived.Laws.World
import Derived.Laws.Cells
import Derived.Orders
import Derived.Recover
import GoSem.Dispatch
import Derived.Laws.Strings
import Derived.Laws.Concat
import Derived.Lib.Strings
import Derived.IntWalk
import Derived.Test.YtnkeadjkckpknaaGreatDoorMem1
set_option linter.unusedSectionVars false
set_option linter.unusedVariables false
set_option linter.unusedSimpArgs false
set_option maxRecDepth 1000000
section
namespace Go.Vs
variable [GTab] {P : Program} {H : Heap} {nx : Nat} {w : World} {ops : Array Oper} {nt : Nat} {env : Env}
def TriC (P : Program) (f : FuncId) (args : List AVal) (H : Heap) (nx : Nat) (K : KEnd) : Prop :=
 ∀ (σ : Sg) (w : World) (args' : List Value) (R : Ending → World → Prop), Rel σ H nx w → DenL σ args args' →
  (∀ e H' nx' σ' w' en, K e H' nx' = true → Rel σ' H' nx' w' → Ext σ σ' H H' nx nx' w w' → EndRel σ' e en → R en w') → Calls P f ⟨args'⟩ w R
def CallS (P : Program) (call : CallK) : Prop := ∀ f args H nx K, call f args H nx K = true → TriC P f args H nx K
theorem actK_okK {call : CallK} {o : Oper} {dfs : Dfs} {rc : Option AMode} {k : Env → Heap → Nat → Bool} {K : Kont} {env0 : Env}
  (hc : CallS P call) (h : actK P call ops o env H nx dfs rc k K env0 = true) {envm : Env} {σ : Sg} {w : World} {a : Act} {next : Act → World → Prop} {Q : Exit → Act → World → Prop}
  (hr : Rel σ H nx w) (M : EnvRel σ nt envm a.tmps) (e1 : wantedA ops o.guard envm = wantedA ops o.guard env) (e2 : ∀ x ∈ o.op.operands, aev envm x = aev env x)
  (hn : ∀ v H1 nx1 σ1 w1 v', k (put o.dst v env) H1 nx1 = true → Rel σ1 H1 nx1 w1 → Ext σ σ1 H H1 nx nx1 w w1 → Den σ1 v v' → next (a.put o.dst v') w1)
  (hp : ∀ l H1 nx1 σ1 w1 c, K (.pan l) env0 H1 nx1 dfs rc = true → Rel σ1 H1 nx1 w1 → Ext σ σ1 H H1 nx nx1 w w1 → Chain σ1 l c → Q (.panic c) a w1) : Took P ops o a w next Q := by
 unfold actK at h
 split at h <;> try (cases h; done)
 ·rename_i hw
  unfold Took
  rw [if_pos (wanted_ok (e1.trans hw) M)]
  split at h <;> try (cases h; done)
  ·rename_i v H1 nx1 hop
   obtain ⟨σ', w', v', R, E, D, hrun⟩ := aop_ok ((aop_congr e2).trans hop) σ w a.eval hr M.aev
   refine .inl ?_
   unfold Oper.wp
   rcases hrun with hrun | ⟨hrun, rfl⟩
   ·rw [hrun]; exact hn v H1 nx1 σ' w' _ h R E D
   ·rw [hrun]; exact hn v H1 nx1 σ' w' _ h R E D
  ·rename_i f args hop
   have tri := hc f args H nx _ h
   obtain ⟨args', hl, hrun⟩ := aop_ok ((aop_congr e2).trans hop) σ w a.eval hr M.aev
   refine .inl ?_
   unfold Oper.wp
   rw [hrun]
   show Calls P f ⟨args'⟩ w _
   refine tri σ w args' _ hr hl fun e H' nx' σ' w' en hk R E he => ?_
   cases e with
   | ret v =>
    cases en with
    | returned v' => exact hn v H' nx' σ' w' _ hk R E he
    | panicked c => exact he.elim
    | outgrown => exact he.elim
   | pan l =>
    cases en with
    | returned v' => exact he.elim
    | panicked c => exact hp l H' nx' σ' w' c hk R E he
    | outgrown => exact he.elim
  ·rename_i v hop
   obtain ⟨v', dv, hrun⟩ := aop_ok ((aop_congr e2).trans hop) σ w a.eval hr M.aev
   refine .inl ?_
   unfold Oper.wp
   rw [hrun]
   exact hp [(v, false)] H nx σ w [{ v := v', recovered := false }] h hr (Ext.refl _ _ _ _) (.cons dv rfl rfl .nil)
 ·rename_i hw
  unfold Took
  rw [if_neg (by rw [wanted_ok (e1.trans hw) M]; simp)]
  exact hn (.tuple []) H nx σ w undef h hr (Ext.refl _ _ _ _) (.tuple .nil)
theorem named_append : ∀ (a b : List Stage), named (a ++ b) = named a ++ named b
 | [], b => rfl
 | (e, L, A) :: a, b => by
  rw [List.cons_append]
  simp only [named, List.cons_append, List.append_assoc, named_append a b]
theorem Inv.act {call : CallK} {as : List Nat} {res : Nat} {σ0 : Sg} {H0 : Heap} {w0 : World} {dfs : Dfs} {rc : Option AMode} {past past' : List Nat} {e : Nat} {L A : List Nat} {R : List Stage} {oe : Oper} {listed : Array Bool} {σ : Sg} {a : Act} {k : Env → Heap → Nat → Bool} {K : Kont}
  (hc : CallS P call) (F : OpsFact nt ops as) (hn : nt ≤ 256) (hlim : res + ops.size ≤ res + ops.size) (I : Inv P nt ops as res σ0 H0 w0 dfs past ((e, L, A) :: R) env H nx listed σ w a) (hoe : ops[e]? = some oe) (he : e ∉ named R) (hr : ∀ j, bit (as.getD e 0) j = true → isL listed j)
  (hfresh : freshOf ops past e oe = true) (hL : allL (fun i => bit (as.getD i 0) e) L = true) (hF : chkF ops L past = some past') (hA : chkA ops (as.getD e 0) A past' = true) (h' : actK P call ops oe env H nx dfs rc k K env = true) {RN : Env → Heap → Nat → Prop}
  (hnext : ∀ env1 H1 nx1, k env1 H1 nx1 = true → ∃ kf : Env → Heap → Bool, floatsK P ops res nx1 kf L env1 H1 = true ∧ ∀ env2 H2, kf env2 H2 = true → againK P ops env2 H2 nx1 A = true ∧ RN env2 H2 nx1)
  {Q : Exit → Act → World → Prop} {next : Act → World → Prop}
  (hK : ∀ env2 H2 nx2 σ1 w1 a1, RN env2 H2 nx2 → Inv P nt ops as res σ0 H0 w0 dfs past' R env2 H2 nx2 (listed.setIfInBounds e true) σ1 w1 a1 → (∀ t, t < 256 → (∀ (j : Nat) (q : Oper), ops[j]? = some q → q.dst ≠ some t) → get2 t env2 = get2 t env) → next a1 w1)
  (hP : ∀ l H1 nx1 σ1 w1 c, K (.pan l) env H1 nx1 dfs rc = true → Rel σ1 H1 nx1 w1 → Ext σ0 σ1 H0 H1 res nx1 w0 w1 → (∀ t, t < 256 → (∀ (j : Nat) (q : Oper), ops[j]? = some q → q.dst ≠ some t) → Den σ1 (get2 t env) (a.tmps.getD t undef)) → DfsRel σ1 dfs a.defers → a.tmps.size = nt → Chain σ1 l c → Q (.panic c) a w1) :
  wpOp P ops Q e next a w := by
 have hde := F.dst e oe hoe
 have helt : e < ops.size := (Array.getElem?_eq_some_iff.1 hoe).1
 have pastiff := chkF_past hF
 have eun : ¬ isL listed e := I.todo e (by unfold named; exact List.mem_cons_self ..)
 have Lun : ∀ j, j ∈ L → ¬ isL listed j := fun j hj => I.todo j (by unfold named; exact List.mem_cons_of_mem _ (List.mem_append_left _ hj))
 have Lne : ∀ j, j ∈ L → j ≠ e := fun j hj q => by
  subst q
  have := F.lt j oe hoe j (allL_ok hL j hj)
  omega
 have Llt : ∀ j, j ∈ L → j < ops.size := fun j hj => by
  obtain ⟨o, ho, _⟩ := chkF_cls hF j hj
  exact (Array.getElem?_eq_some_iff.1 ho).1
 have S : ∀ j, isL (listed.setIfInBounds e true) j ↔ (j = e ∨ isL listed j) := fun j => isL_set (by rw [I.size]; exact helt)
 obtain ⟨envm, M, hw, hx⟩ := I.view F hn hoe hr
 unfold wpOp
 rw [hoe]
 refine actK_okK hc h' I.rel M hw hx (fun v H1 nx1 σ1 w1 v' hk R' E D => ?_) (fun l H1 nx1 σ1 w1 c hk R' E C => ?_)
 ·obtain ⟨kf, hk1, hk4⟩ := hnext _ H1 nx1 hk
  obtain ⟨env2, H2, hk2, b1, b2, b3, b4, b5⟩ := floatsK_ok F hn hlim L past past' _ H1 hF hk1
  obtain ⟨hag, hk3⟩ := hk4 env2 H2 hk2
  have hnx := E.le
  have hpl := I.lim
  have pend1 : ∀ j, j < ops.size → ¬ isL listed j → σ1 (res + j) = none ∧ get5 (res + j) H1 = get5 (res + j) H := fun j hj hnl => E.pend (res + j) (by omega) (I.pend j hj hnl)
  refine hK env2 H2 nx1 σ1 w1 _ hk3 ⟨?_, ?_, ?_, ?_, ?_, ?_, ?_, ?_, ?_, ?_, ?_, ?_, ?_⟩ fun t ht hno => by rw [b1 t ht fun j q _ hq => hno j q hq, get2_put' hde hn ht (hno e oe hoe)]
  ·rw [Array.size_setIfInBounds]; exact I.size
  ·cases hdst : oe.dst with
   | none => exact I.tsize
   | some d => show (a.tmps.setIfInBounds d v').size = nt; rw [Array.size_setIfInBounds]; exact I.tsize
  ·intro j k hj hb
   rw [S] at hj ⊢
   rcases hj with rfl | hj
   ·exact .inr (hr k hb)
   ·exact .inr (I.closed j k hj hb)
  ·intro j hj hlj
   rw [S] at hlj
   have hj' : j ∈ named ((e, L, A) :: R) := by unfold named; exact List.mem_cons_of_mem _ (List.mem_append_right _ hj)
   rcases hlj with rfl | hlj
   ·exact he hj
   ·exact I.todo j hj' hlj
  ·intro j hj
   rw [S]
   rcases I.all j hj with h | h | h
   ·exact .inl ((pastiff j).2 (.inl h))
   ·unfold named at h
    rcases List.mem_cons.1 h with rfl | h
    ·exact .inr (.inr (.inl rfl))
    ·rcases List.mem_append.1 h with h | h
     ·exact .inl ((pastiff j).2 (.inr h))
     ·exact .inr (.inl h)
   ·exact .inr (.inr (.inr h))
  ·intro t ht hown
   have hnotL : ∀ (j : Nat) (q : Oper), j ∈ L → ops[j]? = some q → q.dst ≠ some t := by
    intro j q hj hq hd
    have := hown j q hq hd
    rw [S] at this
    rcases this with h | h
    ·exact Lne j hj h
    ·exact Lun j hj h
   rw [b1 t ht hnotL]
   by_cases ed : oe.dst = some t
   ·rw [ed]
    show Den σ1 (get2 t (put (some t) v env)) ((a.tmps.setIfInBounds t v').getD t undef)
    have : t < a.tmps.size := by rw [I.tsize]; rw [ed] at hde; exact Nat.le_of_ble_eq_true hde
    rw [getD_put _ _ _ _ this, if_pos rfl, get2_put_same]
    exact D
   ·rw [get2_put' hde hn ht ed]
    have h1 : (a.put oe.dst v').tmps.getD t undef = a.tmps.getD t undef := by
     cases hdst : oe.dst with
     | none => rfl
     | some d =>
      show (a.tmps.setIfInBounds d v').getD t undef = _
      have : d < a.tmps.size := by rw [I.tsize]; rw [hdst] at hde; exact Nat.le_of_ble_eq_true hde
      rw [getD_put _ _ _ _ this, if_neg (fun q => ed (by rw [hdst, q]))]
    rw [h1]
    refine (I.den t ht fun j q hj hq => ?_).mono E.sub
    have := hown j q hj hq
    rw [S] at this
    rcases this with rfl | h
    ·rw [hoe] at hj; cases hj; exact (ed hq).elim
    ·exact h
  ·intro j q hj hq hlj hcl
   have hnl : ¬ isL listed j := fun h => hlj ((S j).2 (.inr h))
   have hjne : j ≠ e := fun h => hlj ((S j).2 (.inl h))
   cases hip : impure q.op with
   | true =>
    have h1 := allL_ok hA j hj
    rw [hq] at h1
    simp only [hip] at h1
    have hmem : j ∈ A := by
     split at h1
     ·exact memN_ok ‹_›
     ·exact (hlj ((S j).2 (.inr (hr j h1)))).elim
    have h3 := allL_ok hag j hmem
    rw [hq] at h3
    exact again1_fl0 hcl h3
   | false =>
    rcases (pastiff j).1 hj with hj | hj
    ·obtain ⟨_, q0, hq0, hfr⟩ := freshOf_ok hfresh j hj
     rw [hq] at hq0
     cases hq0
     refine (I.fl0 j q hj hq hnl hcl).keep hcl hip ?_ ?_
     ·intro t ht hlt
      rw [b1 t hlt fun j' q' hj' hq' ed => ?_]
      ·exact get2_put' hde hn hlt fun ed => hfr t ed ht
      ·obtain ⟨_, q1, o1, e1, e2, e3⟩ := chkF_fresh hF j hj j' hj'
       rw [hq] at e1; cases e1
       rw [hq'] at e2; cases e2
       exact e3 t ed ht
     ·intro d hd
      have hdl : d < 256 := Nat.lt_of_lt_of_le (by have := F.dst j q hq; rw [hd] at this; exact Nat.le_of_ble_eq_true this) hn
      rw [b1 d hdl fun j' q' hj' hq' ed => (chkF_fresh hF j hj j' hj').1 (F.uniq j j' q q' d hq hq' hd ed)]
      exact get2_put' hde hn hdl fun ed => hjne (F.uniq j e q oe d hq hoe hd ed)
    ·exact b5 j q hj hq hcl hip
  ·intro j q hj hq hlj hcl
   have hnl : ¬ isL listed j := fun h => hlj ((S j).2 (.inr h))
   have hjne : j ≠ e := fun h => hlj ((S j).2 (.inl h))
   have hjlt : j < ops.size := (Array.getElem?_eq_some_iff.1 hq).1
   rcases (pastiff j).1 hj with hj | hj
   ·obtain ⟨_, q0, hq0, hfr⟩ := freshOf_ok hfresh j hj
    rw [hq] at hq0
    cases hq0
    refine (I.fl1 j q hj hq hnl hcl).keep ?_ ?_ ?_
    ·intro t ht hlt
     rw [b1 t hlt fun j' q' hj' hq' ed => ?_]
     ·exact get2_put' hde hn hlt fun ed => hfr t ed ht
     ·obtain ⟨_, q1, o1, e1, e2, e3⟩ := chkF_fresh hF j hj j' hj'
      rw [hq] at e1; cases e1
      rw [hq'] at e2; cases e2
      exact e3 t ed ht
    ·intro d hd
     have hdl : d < 256 := Nat.lt_of_lt_of_le (by have := F.dst j q hq; rw [hd] at this; exact Nat.le_of_ble_eq_true this) hn
     rw [b1 d hdl fun j' q' hj' hq' ed => (chkF_fresh hF j hj j' hj').1 (F.uniq j j' q q' d hq hq' hd ed)]
     exact get2_put' hde hn hdl fun ed => hjne (F.uniq j e q oe d hq hoe hd ed)
    ·rw [b2 _ (by omega) fun j' hj' ed => (chkF_fresh hF j hj j' hj').1 (by omega)]
     exact (pend1 j hjlt hnl).2
   ·exact b4 j q hj hq hcl
  ·intro j hj hlj
   exact (pend1 j hj fun h => hlj ((S j).2 (.inr h))).1
  ·omega
  ·exact b3 σ1 w1 R' fun j hj => (pend1 j (Llt j hj) (Lun j hj)).1
  ·have E2 := I.ext.trans E
   refine ⟨E2.sub, E2.rng, ?_, E2.le, E2.os, E2.tape, E2.output, E2.size, E2.frame⟩
   intro b hb h0
   obtain ⟨p1, p2⟩ := E2.pend b hb h0
   exact ⟨p1, (b2 b (by omega) fun j _ => by omega).trans p2⟩
  ·have : (a.put oe.dst v').defers = a.defers := by cases oe.dst <;> rfl
   rw [this]; exact I.dfs.mono E.sub
 ·exact hP l H1 nx1 σ1 w1 c hk R' (I.ext.trans E) (fun t ht hno => (I.den t ht fun j q hj hq => (hno j q hj hq).elim).mono E.sub) (I.dfs.mono E.sub) I.tsize C
def RunP (P : Program) (call : CallK) (ops : Array Oper) (res : Nat) (dfs : Dfs) (rc : Option AMode) (Kp : List (AVal × Bool) → Heap → Nat → Prop) (Kn : Env → Heap → Nat → Prop) : List Stage → Env → Heap → Nat → Prop
 | [], env, H, nx => Kn env H nx
 | (e, L, A) :: rest, env, H, nx => ∀ oe, ops[e]? = some oe → ∃ (k : Env → Heap → Nat → Bool) (K : Kont), actK P call ops oe env H nx dfs rc k K env = true ∧
   (∀ l H1 nx1, K (.pan l) env H1 nx1 dfs rc = true → Kp l H1 nx1) ∧
   ∀ env1 H1 nx1, k env1 H1 nx1 = true → ∃ kf : Env → Heap → Bool, floatsK P ops res nx1 kf L env1 H1 = true ∧
    ∀ env2 H2, kf env2 H2 = true → againK P ops env2 H2 nx1 A = true ∧ RunP P call ops res dfs rc Kp Kn rest env2 H2 nx1
noncomputable def endPast (ops : Array Oper) : List Stage → List Nat → List Nat
 | [], past => past
 | (_, L, _) :: rest, past => endPast ops rest (match chkF ops L past with | some p => p | none => past)
theorem stages_sem {call : CallK} {as : List Nat} {res : Nat} {dfs : Dfs} {rc : Option AMode} {env0 : Env} {Kp : List (AVal × Bool) → Heap → Nat → Prop} {Kn : Env → Heap → Nat → Prop} (tail : List Stage)
  (hc : CallS P call) (F : OpsFact nt ops as) (hn : nt ≤ 256) (hlim : res + ops.size ≤ res + ops.size) :
  ∀ (rest : List Stage) (prev : Option Nat) (past : List Nat) (env : Env) (H : Heap) (nx : Nat), chkS ops as rest prev past = true → (∀ s, s ∈ rest → ∀ i, i ∈ named tail → bit (as.getD i 0) s.1 = true) →
   (∀ i, i ∈ past → ∃ o, ops[i]? = some o ∧ (cls o.op = 0 ∨ cls o.op = 1)) →
   (∀ t, t < 256 → get2 t env0 = .und ∨ ((∀ (j : Nat) (q : Oper), ops[j]? = some q → q.dst ≠ some t) ∧ get2 t env0 = get2 t env)) → RunP P call ops res dfs rc Kp Kn rest env H nx →
   ∀ σ0 H0 w0 Q, (∀ l H' nx' σ' w' a' c, Kp l H' nx' → Rel σ' H' nx' w' → Ext σ0 σ' H0 H' res nx' w0 w' → ARel σ' nt env0 dfs a' → Chain σ' l c → Q (.panic c) a' w') →
    (∀ env' H' nx', Kn env' H' nx' → (∀ i, i ∈ endPast ops rest past → ∃ o, ops[i]? = some o ∧ (cls o.op = 0 ∨ cls o.op = 1)) →
     ∀ fuel listed σ w a, Inv P nt ops as res σ0 H0 w0 dfs (endPast ops rest past) tail env' H' nx' listed σ w a → left ops listed ≤ fuel → wpAny P .any ops Q fuel listed a w) →
    ∀ fuel listed σ w a, Inv P nt ops as res σ0 H0 w0 dfs past (rest ++ tail) env H nx listed σ w a → left ops listed ≤ fuel → wpAny P .any ops Q fuel listed a w
 | [], prev, past, env, H, nx, _, _, hpast, _, h => fun σ0 H0 w0 Q hQ hT => hT env H nx h hpast
 | (e, L, A) :: rest, prev, past, env, H, nx, hchk, htl, hpast, hblank, h => by
  intro σ0 H0 w0 Q hQ hT
  unfold chkS at hchk
  split at hchk <;> try (cases hchk; done)
  rename_i oe hoe hprev
  split at hchk <;> try (cases hchk; done)
  rename_i hfresh hL
  split at hchk <;> try (cases hchk; done)
  rename_i past' hF
  split at hchk <;> try (cases hchk; done)
  rename_i hA
  obtain ⟨k, K, h', hpan, hnext⟩ := h oe hoe
  have hT : ∀ env' H' nx', Kn env' H' nx' → (∀ i, i ∈ endPast ops rest past' → ∃ o, ops[i]? = some o ∧ (cls o.op = 0 ∨ cls o.op = 1)) →
     ∀ fuel listed σ w a, Inv P nt ops as res σ0 H0 w0 dfs (endPast ops rest past') tail env' H' nx' listed σ w a → left ops listed ≤ fuel → wpAny P .any ops Q fuel listed a w := by
   have e0 : endPast ops ((e, L, A) :: rest) past = endPast ops rest past' := by
    show endPast ops rest (match chkF ops L past with | some p => p | none => past) = _
    rw [hF]
   rw [e0] at hT
   exact hT
  have hde := F.dst e oe hoe
  have helt : e < ops.size := (Array.getElem?_eq_some_iff.1 hoe).1
  have pastiff := chkF_past hF
  have who : ∀ {σ0 H0 w0 listed σ w a}, Inv P nt ops as res σ0 H0 w0 dfs past ((e, L, A) :: rest ++ tail) env H nx listed σ w a → ∀ i o, ops[i]? = some o → (∀ j, bit (as.getD i 0) j = true → isL listed j) → i ∈ named ((e, L, A) :: rest ++ tail) → i = e := by
   intro σ0 H0 w0 listed σ w a I i o ho hr hi
   have ebad : ¬ isL listed e := I.todo e (by rw [List.cons_append]; unfold named; exact List.mem_cons_self ..)
   rw [List.cons_append] at hi
   unfold named at hi
   rcases List.mem_cons.1 hi with rfl | hi
   ·rfl
   ·rcases List.mem_append.1 hi with hi | hi
    ·exact (ebad (hr e (allL_ok hL i hi))).elim
    ·rw [named_append] at hi
     rcases List.mem_append.1 hi with hi | hi
     ·obtain ⟨j, hj, hb⟩ := chkS_pred hchk i hi
      rcases hj with rfl | hj
      ·exact (ebad (hr j hb)).elim
      ·exact (I.todo j (by rw [List.cons_append]; unfold named; rw [named_append]; exact List.mem_cons_of_mem _ (List.mem_append_right _ (List.mem_append_left _ hj))) (hr j hb)).elim
     ·exact (ebad (hr e (htl (e, L, A) (List.mem_cons_self ..) i hi))).elim
  have loop : ∀ {Q : Exit → Act → World → Prop}, (∀ fuel listed σ w a, Inv P nt ops as res σ0 H0 w0 dfs past ((e, L, A) :: rest ++ tail) env H nx listed σ w a → left ops listed ≤ fuel + 1 → (∀ j, bit (as.getD e 0) j = true → isL listed j) →
    wpOp P ops Q e (wpAny P .any ops Q fuel (listed.setIfInBounds e true)) a w) →
    ∀ fuel listed σ w a, Inv P nt ops as res σ0 H0 w0 dfs past ((e, L, A) :: rest ++ tail) env H nx listed σ w a → left ops listed ≤ fuel → wpAny P .any ops Q fuel listed a w := by
   intro Q hact fuel
   have eun : ∀ {listed σ w a}, Inv P nt ops as res σ0 H0 w0 dfs past ((e, L, A) :: rest ++ tail) env H nx listed σ w a → ¬ isL listed e := fun I => I.todo e (by rw [List.cons_append]; unfold named; exact List.mem_cons_self ..)
   induction fuel with
   | zero =>
    intro listed σ w a I hl
    exact (eun I (left_zero (by omega : left ops listed = 0) e helt)).elim
   | succ fuel ih =>
    intro listed σ w a I hl
    refine ⟨fun hnil => (eun I (ready_nil F I.size hnil e helt)).elim, fun i hi => ?_⟩
    obtain ⟨o, ho, hnl, hed⟩ := (mem_ready I.size).1 hi
    have hlt : i < ops.size := (Array.getElem?_eq_some_iff.1 ho).1
    have hr : ∀ j, bit (as.getD i 0) j = true → isL listed j := fun j hj => by
     obtain ⟨g, hg, hb, hc'⟩ := F.ahead i o ho j hj
     rcases hc' with rfl | hc'
     ·exact hed g hg hb
     ·exact I.closed _ j (hed g hg hb) hc'
    by_cases hin : i ∈ named ((e, L, A) :: rest ++ tail)
    ·have := who I i o ho hr hin
     subst this
     exact hact fuel listed σ w a I hl hr
    ·have hp : i ∈ past := by
      rcases I.all i hlt with h | h | h
      ·exact h
      ·exact (hin h).elim
      ·exact (hnl h).elim
     obtain ⟨o', ho', hcl⟩ := hpast i hp
     rw [ho] at ho'
     cases ho'
     refine I.float F hn ho hp hnl hcl hr hin fun σ1 w1 a1 I1 => ih _ σ1 w1 a1 I1 ?_
     have := left_set I.size hlt hnl
     omega
  refine loop fun fuel listed σ w a I hl hr => ?_
  have eun : ¬ isL listed e := I.todo e (by rw [List.cons_append]; unfold named; exact List.mem_cons_self ..)
  have he : e ∉ named (rest ++ tail) := by
   intro hj
   rw [named_append] at hj
   rcases List.mem_append.1 hj with hj | hj
   ·obtain ⟨g, hg, hb⟩ := chkS_pred hchk e hj
    rcases hg with rfl | hg
    ·exact eun (hr g hb)
    ·exact I.todo g (by rw [List.cons_append]; unfold named; rw [named_append]; exact List.mem_cons_of_mem _ (List.mem_append_right _ (List.mem_append_left _ hg))) (hr g hb)
   ·have := F.lt e oe hoe e (htl (e, L, A) (List.mem_cons_self ..) e hj)
    omega
  refine Inv.act hc F hn hlim I hoe he hr hfresh hL hF hA h' hnext (fun env2 H2 nx2 σ1 w1 a1 hk3 I1 hfix => ?_) (fun l H1 nx1 σ1 w1 c hk R E hden hdf hsz C => ?_)
  ·have hnl := left_set I.size helt eun
   have hpast' : ∀ i, i ∈ past' → ∃ o, ops[i]? = some o ∧ (cls o.op = 0 ∨ cls o.op = 1) := by
    intro i hi
    rcases (pastiff i).1 hi with hi | hi
    ·exact hpast i hi
    ·obtain ⟨o, ho, hne⟩ := chkF_cls hF i hi
     refine ⟨o, ho, ?_⟩
     have : cls o.op = 0 ∨ cls o.op = 1 ∨ cls o.op = 2 := by
      unfold cls
      split <;> first | exact .inl rfl | exact .inr (.inl rfl) | exact .inr (.inr rfl) | skip
      split <;> first | exact .inl rfl | exact .inr (.inr rfl)
     rcases this with h | h | h
     ·exact .inl h
     ·exact .inr h
     ·exact (hne h).elim
   have hblank' : ∀ t, t < 256 → get2 t env0 = .und ∨ ((∀ (j : Nat) (q : Oper), ops[j]? = some q → q.dst ≠ some t) ∧ get2 t env0 = get2 t env2) := by
    intro t ht
    rcases hblank t ht with h | ⟨h1, h2⟩
    ·exact .inl h
    ·exact .inr ⟨h1, by rw [hfix t ht h1, h2]⟩
   exact stages_sem tail hc F hn hlim rest (some e) past' env2 H2 nx2 hchk (fun s hs => htl s (List.mem_cons_of_mem _ hs)) hpast' hblank' hk3 σ0 H0 w0 Q hQ hT fuel _ σ1 w1 a1 I1 (by omega)
  ·refine hQ l H1 nx1 σ1 w1 a c (hpan l H1 nx1 hk) R E ⟨⟨hsz, hn, fun t ht => ?_⟩, hdf⟩ C
   rcases hblank t ht with h | ⟨h1, h2⟩
   ·rw [h]; exact .und _
   ·rw [h2]; exact hden t ht h1
theorem tail_nil {as : List Nat} {res : Nat} {σ0 : Sg} {H0 : Heap} {w0 : World} {dfs : Dfs} {past : List Nat} (F : OpsFact nt ops as) (hn : nt ≤ 256) {Q : Exit → Act → World → Prop}
  (hpast : ∀ i, i ∈ past → ∃ o, ops[i]? = some o ∧ (cls o.op = 0 ∨ cls o.op = 1))
  (hQ : ∀ σ' w' a', Rel σ' H nx w' → Ext σ0 σ' H0 H res nx w0 w' → ARel σ' nt env dfs a' → Q .normal a' w') :
  ∀ fuel listed σ w a, Inv P nt ops as res σ0 H0 w0 dfs past [] env H nx listed σ w a → left ops listed ≤ fuel → wpAny P .any ops Q fuel listed a w := by
 have done : ∀ listed σ w a, Inv P nt ops as res σ0 H0 w0 dfs past [] env H nx listed σ w a → (∀ i, i < ops.size → isL listed i) → Q .normal a w := fun listed σ w a I hall =>
  hQ σ w a I.rel I.ext ⟨⟨I.tsize, hn, fun t ht => I.den t ht fun j q hj _ => hall j (Array.getElem?_eq_some_iff.1 hj).1⟩, I.dfs⟩
 intro fuel
 induction fuel with
 | zero =>
  intro listed σ w a I hl
  have hall := left_zero (by omega : left ops listed = 0)
  refine ⟨?_, done listed σ w a I hall⟩
  refine List.eq_nil_iff_forall_not_mem.2 fun i hi => ?_
  obtain ⟨o, ho, hnl, _⟩ := (mem_ready I.size).1 hi
  exact hnl (hall i (Array.getElem?_eq_some_iff.1 ho).1)
 | succ fuel ih =>
  intro listed σ w a I hl
  refine ⟨fun hnil => done listed σ w a I (ready_nil F I.size hnil), fun i hi => ?_⟩
  obtain ⟨o, ho, hnl, hed⟩ := (mem_ready I.size).1 hi
  have hlt : i < ops.size := (Array.getElem?_eq_some_iff.1 ho).1
  have hr : ∀ j, bit (as.getD i 0) j = true → isL listed j := fun j hj => by
   obtain ⟨e, he, hb, hc'⟩ := F.ahead i o ho j hj
   rcases hc' with rfl | hc'
   ·exact hed e he hb
   ·exact I.closed _ j (hed e he hb) hc'
  have hp : i ∈ past := by
   rcases I.all i hlt with h | h | h
   ·exact h
   ·cases h
   ·exact (hnl h).elim
  obtain ⟨o', ho', hcl⟩ := hpast i hp
  rw [ho] at ho'
  cases ho'
  refine I.float F hn ho hp hnl hcl hr (by intro h; cases h) fun σ1 w1 a1 I1 => ih _ σ1 w1 a1 I1 ?_
  have := left_set I.size hlt hnl
  omega
end Go.Vs
end
section
namespace Go.Vs
variable [GTab] {P : Program} {H : Heap} {nx : Nat}
noncomputable section
inductive Sh where
 | bool
 | int (k : IntKind)
 | str
 | any
def shOf : TypeDesc → Sh
 | .bool => .bool
 | .int k => .int k
 | .string => .str
 | _ => .any
def shs (P : Program) : Nat → TypeId → Option (List Sh)
 | 0, _ => none
 | n + 1, t => match P.underlying t with
  | some (.struct fs) => fs.toList.foldr (fun f acc => match shs P n f.type, acc with
   | some a, some b => some (a ++ b)
   | _, _ => none) (some [])
  | some (.array len e) => match Nat.ble len 64, shs P n e with
   | true, some l => some (List.replicate len l).flatten
   | _, _ => none
  | some d => some [shOf d]
  | none => none
def exSh (s : Sh) (k : AVal → Prop) : Prop := match s with
 | .bool => ∃ b, k (.bool b)
 | .int kd => ∃ n, k (.int kd n)
 | .str => ∃ s, k (.str s)
 | .any => ∃ v, k v
def exShs : List Sh → (List AVal → Prop) → Prop
 | [], k => k []
 | s :: l, k => exSh s fun v => exShs l fun vs => k (v :: vs)
theorem exSh_ok {s : Sh} {k : AVal → Prop} (h : exSh s k) : ∃ v, k v := by
 cases s <;> (obtain ⟨x, h⟩ := h; exact ⟨_, h⟩)
theorem exShs_ok : ∀ {l : List Sh} {k : List AVal → Prop}, exShs l k → ∃ vs, k vs
 | [], _, h => ⟨_, h⟩
 | _ :: _, _, h => let ⟨_, h⟩ := exSh_ok h; let ⟨_, h⟩ := exShs_ok h; ⟨_, h⟩
def genV1 (P : Program) (t : TypeId) (k : AVal → Prop) : Prop :=
 match P.underlying t with
 | some d => match aggD d with
  | true => match shs P 9 t with
   | some l => exShs l fun cs => k (.agg cs)
   | none => ∃ v, k v
  | false => exSh (shOf d) k
 | none => ∃ v, k v
theorem genV1_ok {t : TypeId} {k : AVal → Prop} (h : genV1 P t k) : ∃ v, k v := by
 unfold genV1 at h
 split at h
 ·split at h
  ·split at h
   ·exact let ⟨_, h⟩ := exShs_ok h; ⟨_, h⟩
   ·exact h
  ·exact exSh_ok h
 ·exact h
def genVs (P : Program) : List TypeId → (List AVal → Prop) → Prop
 | [], k => k []
 | t :: l, k => genV1 P t fun v => genVs P l fun vs => k (v :: vs)
theorem genVs_ok : ∀ {l : List TypeId} {k : List AVal → Prop}, genVs P l k → ∃ vs, k vs
 | [], _, h => ⟨_, h⟩
 | _ :: _, _, h => let ⟨_, h⟩ := genV1_ok h; let ⟨_, h⟩ := genVs_ok h; ⟨_, h⟩
def typedV (P : Program) (t : TypeId) (v : AVal) (k : AVal → Prop) : Prop :=
 match P.underlying t with
 | some (.tuple ts) => match ts.toList with
  | [] => k v
  | ts => genVs P ts fun vs => v = .tuple vs ∧ k (.tuple vs)
 | some d => match aggD d, shOf d with
  | false, .any => k v
  | _, _ => genV1 P t fun v' => v = v' ∧ k v'
 | none => k v
theorem typedV_ok {t : TypeId} {v : AVal} {k : AVal → Prop} (h : typedV P t v k) : k v := by
 unfold typedV at h
 split at h
 ·split at h
  ·exact h
  ·obtain ⟨vs, e, h2⟩ := genVs_ok h; rw [e]; exact h2
 ·split at h
  ·exact h
  ·obtain ⟨v', e, h2⟩ := genV1_ok h; rw [e]; exact h2
 ·exact h
def ld1 (H : Heap) (a : AVal) : Option AVal :=
 match a with
 | .ptr b off => match get5 b H with
  | some (.cells n ct _ _) => match Nat.ble (Nat.succ off) n with
   | true => some (CT.get off ct)
   | false => none
  | _ => none
 | .gptr g off => match GTab.tab g with
  | some l => l[off]?
  | none => none
 | _ => none
def ldN (H : Heap) (sz : Nat) (a : AVal) : Option AVal :=
 match a with
 | .ptr b off => match get5 b H with
  | some (.cells n ct _ _) => match Nat.ble (Nat.add off sz) n with
   | true => some (.agg (CT.slab ct sz off))
   | false => none
  | _ => none
 | .gptr g off => match GTab.tab g with
  | some l => match Nat.ble (Nat.add off sz) l.length with
   | true => some (.agg ((l.drop off).take sz))
   | false => none
  | none => none
 | _ => none
def vLoad (P : Program) (t : TypeId) (H : Heap) (a : AVal) (k : AVal → Prop) : Prop :=
 match P.underlying t, P.info? t with
 | some d, some i => match aggD d with
  | true => genV1 P t fun v => ldN H i.size a = some v ∧ k v
  | false => genV1 P t fun v => ld1 H a = some v ∧ k v
 | _, _ => False
theorem vLoad_ok {t : TypeId} {a : AVal} {k : AVal → Prop} (h : vLoad P t H a k) : ∃ v, aLoad P t H a = some v ∧ k v := by
 unfold vLoad at h
 split at h <;> try exact h.elim
 rename_i d i hd hi
 split at h
 ·rename_i hag
  obtain ⟨v, e, h⟩ := genV1_ok h
  refine ⟨v, ?_, h⟩
  unfold ldN at e
  unfold aLoad
  cases a <;> first | exact e | skip
  ·rename_i b off
   simp only [] at e ⊢
   cases hb : get5 b H with
   | none => rw [hb] at e; cases e
   | some o =>
    rw [hb] at e
    cases o with
    | map _ _ => cases e
    | cells n ct o s => simp only [hd, hi, hag]; exact e
  ·rename_i g off
   simp only [] at e ⊢
   cases hb : GTab.tab g with
   | none => rw [hb] at e; cases e
   | some l => rw [hb] at e; simp only [hd, hi, hag]; exact e
 ·rename_i hag
  obtain ⟨v, e, h⟩ := genV1_ok h
  refine ⟨v, ?_, h⟩
  unfold ld1 at e
  unfold aLoad
  cases a <;> first | exact e | skip
  ·rename_i b off
   simp only [] at e ⊢
   cases hb : get5 b H with
   | none => rw [hb] at e; cases e
   | some o =>
    rw [hb] at e
    cases o with
    | map _ _ => cases e
    | cells n ct o s => simp only [hd, hi, hag]; exact e
  ·rename_i g off
   simp only [] at e ⊢
   cases hb : GTab.tab g with
   | none => rw [hb] at e; cases e
   | some l => rw [hb] at e; simp only [hd, hi, hag]; exact e
def cellsT (P : Program) (t : TypeId) (v : AVal) (k : List AVal → Prop) : Prop :=
 match P.underlying t with
 | some d => match aggD d with
  | true => match v with
   | .agg cs => k cs
   | _ => False
  | false => cellv v = true ∧ k [v]
 | none => False
theorem cellsT_ok {t : TypeId} {v : AVal} {k : List AVal → Prop} (h : cellsT P t v k) : ∃ cs, acells v = some cs ∧ k cs := by
 unfold cellsT at h
 split at h <;> try exact h.elim
 split at h
 ·split at h <;> first | exact h.elim | exact ⟨_, rfl, h⟩
 ·obtain ⟨h1, h2⟩ := h
  refine ⟨[v], ?_, h2⟩
  cases v <;> first | rfl | (simp [cellv] at h1)
def stC (H : Heap) (a : AVal) (cs : List AVal) : Option Heap :=
 match a with
 | .ptr b off => match get5 b H with
  | some (.cells n ct olds false) => match Nat.ble (Nat.add off cs.length) n, allCell cs with
   | true, true => some (set5 b (some (.cells n (relay cs cs.length off n ct) [] false)) (dels olds H))
   | _, _ => none
  | _ => none
 | _ => none
def vStore (P : Program) (t : TypeId) (H : Heap) (a x : AVal) (k : Heap → Prop) : Prop :=
 match P.info? t with
 | some i => cellsT P t x fun cs => match Nat.beq cs.length i.size with
  | true => ∃ H', stC H a cs = some H' ∧ k H'
  | false => False
 | none => False
theorem vStore_ok {t : TypeId} {a x : AVal} {k : Heap → Prop} (h : vStore P t H a x k) : ∃ H', aStore P t H a x = some H' ∧ k H' := by
 unfold vStore at h
 split at h <;> try exact h.elim
 rename_i i hi
 obtain ⟨cs, hcs, h⟩ := cellsT_ok h
 split at h <;> try exact h.elim
 rename_i hl
 obtain ⟨H', e, h⟩ := h
 refine ⟨H', ?_, h⟩
 have hl' := Nat.eq_of_beq_eq_true hl
 unfold stC at e
 unfold aStore
 split at e <;> try (cases e; done)
 rename_i b off
 split at e <;> try (cases e; done)
 rename_i n ct olds ho
 split at e <;> try (cases e; done)
 rename_i h1 h2
 cases e
 rw [hl'] at h1
 have hb : Nat.beq i.size i.size = true := Nat.beq_refl _
 simp only [hcs, hi, ho, h1, h2, hl', hb]
def vInt (op : BinOp) (k : IntKind) (a b : Int) (K : AVal → Prop) : Prop :=
 match op with
 | .add => K (.int k (k.wrap (a + b)))
 | .sub => K (.int k (k.wrap (a - b)))
 | .mul => K (.int k (k.wrap (a * b)))
 | .quo => b ≠ 0 ∧ K (.int k (k.wrap (a.tdiv b)))
 | .rem => b ≠ 0 ∧ K (.int k (a.tmod b))
 | .and => K (.int k (k.wrap (BitVec.ofInt k.bits a &&& BitVec.ofInt k.bits b).toNat))
 | .or => K (.int k (k.wrap (BitVec.ofInt k.bits a ||| BitVec.ofInt k.bits b).toNat))
 | .xor => K (.int k (k.wrap (BitVec.ofInt k.bits a ^^^ BitVec.ofInt k.bits b).toNat))
 | .andNot => K (.int k (k.wrap (BitVec.ofInt k.bits a &&& ~~~BitVec.ofInt k.bits b).toNat))
 | .eql => K (.bool (decide (a = b)))
 | .neq => K (.bool (!decide (a = b)))
 | .lss => K (.bool (decide (a < b)))
 | .leq => K (.bool (decide (a ≤ b)))
 | .gtr => K (.bool (decide (b < a)))
 | .geq => K (.bool (decide (b ≤ a)))
 | _ => False
theorem not_lt_b (a b : Int) : (!decide (b < a)) = decide (a ≤ b) := by rw [Bool.eq_iff_iff]; simp
theorem beq_b (a b : Int) : (a == b) = decide (a = b) := by rw [Bool.eq_iff_iff]; simp
theorem vInt_ok {op : BinOp} {k : IntKind} {a b : Int} {K : AVal → Prop} (h : vInt op k a b K) : ∃ v, aInt op k a b = some v ∧ K v := by
 unfold vInt at h
 unfold aInt
 cases op <;> simp only [forceI_eq, awrap_eq, ieq_eq, ilt_eq, bnot_eq] at h ⊢
 case quo =>
  obtain ⟨h0, h⟩ := h; have : (b == 0) = false := by simpa using h0
  simp only [this]; exact ⟨_, rfl, h⟩
 case rem =>
  obtain ⟨h0, h⟩ := h; have : (b == 0) = false := by simpa using h0
  simp only [this]; exact ⟨_, rfl, h⟩
 case leq => rw [← not_lt_b] at h; exact ⟨_, rfl, h⟩
 case geq => rw [← not_lt_b] at h; exact ⟨_, rfl, h⟩
 case eql => rw [← beq_b] at h; exact ⟨_, rfl, h⟩
 case neq => rw [← beq_b] at h; exact ⟨_, rfl, h⟩
 all_goals first | exact h.elim | exact ⟨_, rfl, h⟩
def vText (op : BinOp) (s t : List UInt8) (K : AVal → Prop) : Prop :=
 match op with
 | .add => s.length + t.length ≤ 9223372036854775807 ∧ K (.str (s ++ t))
 | .eql => K (.bool (s == t))
 | .neq => K (.bool (!(s == t)))
 | .lss => K (.bool (Op.bytesLess s t))
 | .leq => K (.bool (Op.bytesLess s t || s == t))
 | .gtr => K (.bool !(Op.bytesLess s t || s == t))
 | .geq => K (.bool !(Op.bytesLess s t))
 | _ => False
theorem vText_ok {op : BinOp} {s t : List UInt8} {K : AVal → Prop} (h : vText op s t K) : ∃ v, aText op s t = some v ∧ K v := by
 unfold vText at h
 unfold aText
 cases op <;> simp only [] at h ⊢
 case add =>
  obtain ⟨h0, h⟩ := h; have hb : Nat.ble (s.length + t.length) 9223372036854775807 = true := (by rw [Nat.ble_eq]; exact h0)
  rw [hb]; exact ⟨_, rfl, h⟩
 all_goals first | exact h.elim | exact ⟨_, rfl, h⟩
inductive NK where
 | ptr | slice | map | func | iface
def nkOf : TypeDesc → Option NK
 | .pointer _ => some .ptr
 | .slice _ => some .slice
 | .map _ _ => some .map
 | .func _ _ _ => some .func
 | .interface _ => some .iface
 | _ => none
def nilK (k : NK) (v : AVal) : Option Bool :=
 match k, v with
 | .ptr, .ptr _ _ => some false
 | .ptr, .nilPtr => some true
 | .slice, .slice .. => some false
 | .slice, .nilSlice => some true
 | .slice, .gslice .. => some false
 | .map, .map _ => some false
 | .map, .nilMap => some true
 | .func, .func _ _ _ => some false
 | .func, .nilFunc => some true
 | .iface, .iface _ _ => some false
 | .iface, .nilIface => some true
 | _, _ => none
theorem nilK_ok {d : TypeDesc} {k : NK} {v : AVal} {p : Bool} (hk : nkOf d = some k) (h : nilK k v = some p) : nilness d v = some p := by
 cases d <;> simp only [nkOf, reduceCtorEq, Option.some.injEq] at hk
 all_goals (subst hk; cases v <;> simp only [nilK, reduceCtorEq] at h <;> exact h)
def vBin (P : Program) (op : BinOp) (t : TypeId) (x y : Operand) (a b : AVal) (K : AVal → Prop) : Prop :=
 match P.underlying t with
 | some (.int _) => match op with
  | .shl => match a, b with
   | .int k1 n, .int _ m => 0 ≤ m ∧ K (.int k1 (k1.wrap (n * 2 ^ (min m.toNat k1.bits))))
   | _, _ => False
  | .shr => match a, b with
   | .int k1 n, .int _ m => 0 ≤ m ∧ K (.int k1 (n.fdiv (2 ^ (min m.toNat k1.bits))))
   | _, _ => False
  | op => match a, b with
   | .int k1 n, .int k2 m => match decide (k1 = k2) with
    | true => vInt op k1 n m K
    | false => False
   | _, _ => False
 | some .string => match a, b with
  | .str s, .str u => vText op s u K
  | _, _ => False
 | some .bool => match op with
  | .eql => match a, b with
   | .bool p, .bool q => K (.bool (p == q))
   | _, _ => False
  | .neq => match a, b with
   | .bool p, .bool q => K (.bool (!(p == q)))
   | _, _ => False
  | _ => False
 | some d => match nkOf d, isConstO x, isConstO y with
  | some k, false, true => match nilK k b with
   | some true => match op with
    | .eql => ∃ p, nilK k a = some p ∧ K (.bool p)
    | .neq => ∃ p, nilK k a = some p ∧ K (.bool (!p))
    | _ => False
   | _ => False
  | some k, true, _ => match nilK k a with
   | some true => match op with
    | .eql => ∃ p, nilK k b = some p ∧ K (.bool p)
    | .neq => ∃ p, nilK k b = some p ∧ K (.bool (!p))
    | _ => False
   | _ => False
  | _, _, _ => False
 | none => False
theorem eqB (p q : Bool) : (Bool.rec (!q) q p : Bool) = (p == q) := by cases p <;> cases q <;> rfl
theorem vBin_ok {op : BinOp} {t : TypeId} {x y : Operand} {ρ : Operand → AVal} {K : AVal → Prop} (h : vBin P op t x y (ρ x) (ρ y) K) :
  ∃ v, opBin P op t x y ρ H nx = some (.val v H nx) ∧ K v := by
 unfold vBin at h
 split at h <;> try exact h.elim
 ·rename_i kd hu
  split at h
  ·split at h <;> try exact h.elim
   rename_i k1 n k2 m hx hy
   obtain ⟨h0, h⟩ := h
   have : (ilt m 0) = false := by rw [ilt_eq]; simp; exact h0
   refine ⟨_, ?_, h⟩
   unfold opBin
   simp only [hx, hy, aShift, this, forceI_eq]
  ·split at h <;> try exact h.elim
   rename_i k1 n k2 m hx hy
   obtain ⟨h0, h⟩ := h
   have : (ilt m 0) = false := by rw [ilt_eq]; simp; exact h0
   refine ⟨_, ?_, h⟩
   unfold opBin
   simp only [hx, hy, aShift, this, forceI_eq]
  ·rename_i hn1 hn2
   split at h <;> try exact h.elim
   rename_i k1 n k2 m hx hy
   split at h <;> try exact h.elim
   rename_i hk
   obtain ⟨v, e, h⟩ := vInt_ok h
   refine ⟨v, ?_, h⟩
   cases op <;> first | exact (hn1 rfl).elim | exact (hn2 rfl).elim | (unfold opBin; simp only [hx, hy, hk, e])
 ·rename_i hu
  split at h <;> try exact h.elim
  rename_i s u hx hy
  obtain ⟨v, e, h⟩ := vText_ok h
  refine ⟨v, ?_, h⟩
  unfold opBin
  simp only [hx, hy, e]
 ·rename_i hu
  split at h <;> try exact h.elim
  all_goals
   split at h <;> try exact h.elim
   rename_i p q hx hy
   refine ⟨_, ?_, h⟩
   unfold opBin
   simp only [hx, hy, aEq, hu, bnot_eq]
   rw [eqB]
 ·rename_i d hnb hni hns hu
  have other : ∀ k q, nilK k (ρ x) = some q → (op = .eql ∨ op = .neq) → ∀ s, aEq P t x y (ρ x) (ρ y) = some s →
    opBin P op t x y ρ H nx = some (.val (.bool (match op with | .eql => s | _ => !s)) H nx) := by
   intro k q ha hop s hs
   unfold opBin
   split
   ·rename_i hx hy; rw [hx] at ha; cases k <;> cases ha
   ·rename_i hx hy; rw [hx] at ha; cases k <;> cases ha
   ·rcases hop with rfl | rfl <;> simp only [hs, bnot_eq]
  split at h <;> try exact h.elim
  ·rename_i k hk hcx hcy
   split at h <;> try exact h.elim
   rename_i hb
   have e : ∀ p, nilK k (ρ x) = some p → aEq P t x y (ρ x) (ρ y) = some p := by
    intro p hp
    unfold aEq
    rw [hu]
    simp only [nilK_ok hk hp, nilK_ok hk hb, hcx, hcy]
   split at h <;> try exact h.elim
   ·obtain ⟨p, hp, h⟩ := h
    exact ⟨_, other k p hp (.inl rfl) p (e p hp), h⟩
   ·obtain ⟨p, hp, h⟩ := h
    exact ⟨_, other k p hp (.inr rfl) p (e p hp), h⟩
  ·rename_i k hk hcx
   split at h <;> try exact h.elim
   rename_i hb
   have e : ∀ p, nilK k (ρ y) = some p → aEq P t x y (ρ x) (ρ y) = some p := by
    intro p hp
    unfold aEq
    rw [hu]
    simp only [nilK_ok hk hp, nilK_ok hk hb, hcx]
   split at h <;> try exact h.elim
   ·obtain ⟨p, hp, h⟩ := h
    exact ⟨_, other k true hb (.inl rfl) p (e p hp), h⟩
   ·obtain ⟨p, hp, h⟩ := h
    exact ⟨_, other k true hb (.inr rfl) p (e p hp), h⟩
def addOff (a : AVal) (c : Nat) : Option AVal :=
 match a with
 | .ptr b off => some (.ptr b (Nat.add off c))
 | .gptr g off => some (.gptr g (Nat.add off c))
 | _ => none
def idxS (v : AVal) (n esz : Nat) : Option AVal :=
 match v with
 | .slice b off len _ _ => match Nat.ble (Nat.succ n) len with
  | true => some (.ptr b (Nat.add off (Nat.mul n esz)))
  | false => none
 | .gslice g off len _ => match Nat.ble (Nat.succ n) len with
  | true => some (.gptr g (Nat.add off (Nat.mul n esz)))
  | false => none
 | _ => none
def lenS (v : AVal) : Option Nat :=
 match v with
 | .slice _ _ n _ _ => some n
 | .nilSlice => some 0
 | .gslice _ _ n _ => some n
 | _ => none
def slcS (v : AVal) (esz l : Nat) (h : Option Nat) : Option AVal :=
 match v with
 | .slice b off len e full => match h.getD len with
  | h => match Nat.ble h len, Nat.ble l h, Nat.beq esz e with
   | true, true, true => some (.slice b (Nat.add off (Nat.mul l e)) (Nat.sub h l) e (Bool.rec false full (Nat.beq h len)))
   | _, _, _ => none
 | .nilSlice => match l, h with
  | 0, none => some .nilSlice
  | 0, some 0 => some .nilSlice
  | _, _ => none
 | .gslice g off len e => match h.getD len with
  | h => match Nat.ble h len, Nat.ble l h, Nat.beq esz e with
   | true, true, true => some (.gslice g (Nat.add off (Nat.mul l e)) (Nat.sub h l) e)
   | _, _, _ => none
 | _ => none
def strOf (H : Heap) (v : AVal) : Option (List UInt8) :=
 match v with
 | .slice b off n _ _ => match get5 b H with
  | some (.cells cnt ct _ _) => match Nat.ble (Nat.add off n) cnt with
   | true => bytesOf (CT.slab ct n off)
   | false => none
  | _ => none
 | .nilSlice => some []
 | _ => none
def vFieldAddr (P : Program) (s : TypeId) (f : Nat) (a : AVal) (K : AVal → Prop) : Prop :=
 match P.underlying s with
 | some (.struct fields) => match fields[f]? with
  | some fd => match P.info? fd.type with
   | some i => match Nat.beq i.size 0 with
    | false => ∃ v, addOff a fd.offset = some v ∧ K v
    | true => False
   | none => False
  | none => False
 | _ => False
theorem vFieldAddr_ok {s : TypeId} {f : Nat} {x : Operand} {ρ : Operand → AVal} {K : AVal → Prop} (h : vFieldAddr P s f (ρ x) K) :
  ∃ v, opFieldAddr P s x f ρ H nx = some (.val v H nx) ∧ K v := by
 unfold vFieldAddr at h
 split at h <;> try exact h.elim
 rename_i fields hu
 split at h <;> try exact h.elim
 rename_i fd hf
 split at h <;> try exact h.elim
 rename_i i hi
 split at h <;> try exact h.elim
 rename_i hz
 obtain ⟨v, e, h⟩ := h
 refine ⟨v, ?_, h⟩
 unfold addOff at e
 unfold opFieldAddr
 simp only [hu, hf, hi, hz]
 split at e <;> try (cases e; done)
 ·rename_i hx; cases e; rw [hx]
 ·rename_i hx; cases e; rw [hx]
theorem asNat_nn {i : Int} (h : 0 ≤ i) : asNat i = some i.toNat := by
 cases i with
 | ofNat n => rfl
 | negSucc n => omega
def vIndexAddr (P : Program) (t : TypeId) (a ix : AVal) (K : AVal → Prop) : Prop :=
 match ix with
 | .int _ i => match P.underlying t with
  | some (.array len elem) => match P.info? elem with
   | some e => 0 ≤ i ∧ i.toNat < len ∧ ∃ v, addOff a (Nat.mul i.toNat e.size) = some v ∧ K v
   | none => False
  | some (.slice elem) => match P.info? elem with
   | some e => 0 ≤ i ∧ ∃ v, idxS a i.toNat e.size = some v ∧ K v
   | none => False
  | _ => False
 | _ => False
theorem vIndexAddr_ok {t : TypeId} {x ix : Operand} {ρ : Operand → AVal} {K : AVal → Prop} (h : vIndexAddr P t (ρ x) (ρ ix) K) :
  ∃ v, opIndexAddr P t x ix ρ H nx = some (.val v H nx) ∧ K v := by
 unfold vIndexAddr at h
 split at h <;> try exact h.elim
 rename_i k i hix
 split at h <;> try exact h.elim
 ·rename_i len elem hu
  split at h <;> try exact h.elim
  rename_i e he
  obtain ⟨h0, hlt, v, ev, h⟩ := h
  refine ⟨v, ?_, h⟩
  have hb : Nat.ble (Nat.succ i.toNat) len = true := by rw [Nat.ble_eq]; omega
  unfold opIndexAddr
  unfold addOff at ev
  simp only [hix, asNat_nn h0, hu]
  split at ev <;> try (cases ev; done)
  ·rename_i hx; cases ev; simp only [hx, hb, he]
  ·rename_i hx; cases ev; simp only [hx, hb, he]
 ·rename_i elem hu
  split at h <;> try exact h.elim
  rename_i e he
  obtain ⟨h0, v, ev, h⟩ := h
  refine ⟨v, ?_, h⟩
  unfold opIndexAddr
  unfold idxS at ev
  simp only [hix, asNat_nn h0, hu]
  split at ev <;> try (cases ev; done)
  ·rename_i hx
   split at ev <;> try (cases ev; done)
   rename_i hb
   cases ev
   simp only [hx, hb, he]
  ·rename_i hx
   split at ev <;> try (cases ev; done)
   rename_i hb
   cases ev
   simp only [hx, hb, he]
def vIndex (P : Program) (t : TypeId) (a ix : AVal) (K : AVal → Prop) : Prop :=
 match ix with
 | .int _ i => match P.underlying t with
  | some (.array len elem) => match a with
   | .agg cs => match P.info? elem with
    | some e => 0 ≤ i ∧ i.toNat < len ∧ genV1 P elem fun v => aPart P elem cs (Nat.mul i.toNat e.size) = some v ∧ K v
    | none => False
   | _ => False
  | some .string => match a with
   | .str s => 0 ≤ i ∧ ∃ c, s[i.toNat]? = some c ∧ K (.int .u8 (.ofNat c.toNat))
   | _ => False
  | _ => False
 | _ => False
theorem vIndex_ok {t : TypeId} {x ix : Operand} {ρ : Operand → AVal} {K : AVal → Prop} (h : vIndex P t (ρ x) (ρ ix) K) :
  ∃ v, opIndex P t x ix ρ H nx = some (.val v H nx) ∧ K v := by
 unfold vIndex at h
 split at h <;> try exact h.elim
 rename_i k i hix
 split at h <;> try exact h.elim
 ·rename_i len elem hu
  split at h <;> try exact h.elim
  rename_i cs hx
  split at h <;> try exact h.elim
  rename_i e he
  obtain ⟨h0, hlt, h⟩ := h
  obtain ⟨v, ev, h⟩ := genV1_ok h
  refine ⟨v, ?_, h⟩
  have hb : Nat.ble (Nat.succ i.toNat) len = true := by rw [Nat.ble_eq]; omega
  unfold opIndex
  simp only [hix, asNat_nn h0, hu, hx, hb, he, ev]
 ·rename_i hu
  split at h <;> try exact h.elim
  rename_i s hx
  obtain ⟨h0, c, ec, h⟩ := h
  refine ⟨_, ?_, h⟩
  unfold opIndex
  simp only [hix, asNat_nn h0, hu, hx, ec]
def vBnd (x : Option AVal) (K : Option Nat → Prop) : Prop :=
 match x with
 | none => K none
 | some (.int _ i) => 0 ≤ i ∧ K (some i.toNat)
 | some _ => False
theorem vBnd_ok {x : Option Operand} {ρ : Operand → AVal} {K : Option Nat → Prop} (h : vBnd (x.map ρ) K) : ∃ n, K n ∧ ∀ d, bnd d x ρ = some (n.getD d) := by
 unfold vBnd at h
 cases x with
 | none => exact ⟨none, h, fun d => rfl⟩
 | some y =>
  simp only [Option.map_some] at h
  split at h <;> try exact h.elim
  ·rename_i e; cases e
  ·rename_i k i e
   obtain ⟨h0, h⟩ := h
   refine ⟨some i.toNat, h, fun d => ?_⟩
   have e' : ρ y = .int k i := Option.some.inj e
   simp only [bnd, e', asNat_nn h0, Option.getD_some]
def vSlice (P : Program) (t : TypeId) (a : AVal) (lo hi mx : Option AVal) (H : Heap) (K : AVal → Prop) : Prop :=
 match mx with
 | some _ => False
 | none => match P.underlying t with
  | some .string => match a with
   | .str s => vBnd lo fun l => vBnd hi fun h => h.getD s.length ≤ s.length ∧ l.getD 0 ≤ h.getD s.length ∧ K (.str ((s.drop (l.getD 0)).take (h.getD s.length - l.getD 0)))
   | _ => False
  | some (.slice elem) => match P.info? elem with
   | some e => vBnd lo fun l => vBnd hi fun h => ∃ v, slcS a e.size (l.getD 0) h = some v ∧ K v
   | none => False
  | _ => False
theorem vSlice_ok {t : TypeId} {x : Operand} {lo hi mx : Option Operand} {ρ : Operand → AVal} {K : AVal → Prop} (h : vSlice P t (ρ x) (lo.map ρ) (hi.map ρ) (mx.map ρ) H K) :
  ∃ v, opSlice P t x lo hi mx ρ H nx = some (.val v H nx) ∧ K v := by
 unfold vSlice at h
 split at h <;> try exact h.elim
 rename_i hm
 have hm' : mx = none := by cases mx with
  | none => rfl
  | some y => cases hm
 subst hm'
 split at h <;> try exact h.elim
 ·rename_i hu
  split at h <;> try exact h.elim
  rename_i s hx
  obtain ⟨l, h, hl⟩ := vBnd_ok h
  obtain ⟨hh, h, hhi⟩ := vBnd_ok h
  obtain ⟨h1, h2, h⟩ := h
  refine ⟨_, ?_, h⟩
  unfold opSlice
  have b1 : Nat.ble (hh.getD s.length) s.length = true := by rw [Nat.ble_eq]; exact h1
  have b2 : Nat.ble (l.getD 0) (hh.getD s.length) = true := by rw [Nat.ble_eq]; exact h2
  simp only [hu, hx, hl, hhi, b1, b2]
 ·rename_i elem hu
  split at h <;> try exact h.elim
  rename_i e he
  obtain ⟨l, h, hl⟩ := vBnd_ok h
  obtain ⟨hh, h, hhi⟩ := vBnd_ok h
  obtain ⟨v, ev, h⟩ := h
  refine ⟨v, ?_, h⟩
  unfold opSlice
  unfold slcS at ev
  split at ev <;> try (cases ev; done)
  ·rename_i b off len es full hx
   simp only [] at ev
   split at ev <;> try (cases ev; done)
   rename_i b1 b2 b3
   cases ev
   simp only [hu, hx, hl, hhi, he, b1, b2, b3, forceN_eq]
  ·rename_i hx
   split at ev <;> try (cases ev; done)
   ·rename_i q1; cases ev; simp only [hu, hx, hl, hhi, he, Option.getD_none, q1]
   ·rename_i q1; cases ev; simp only [hu, hx, hl, hhi, he, Option.getD_some, q1]
  ·rename_i g off len es hx
   simp only [] at ev
   split at ev <;> try (cases ev; done)
   rename_i b1 b2 b3
   cases ev
   simp only [hu, hx, hl, hhi, he, b1, b2, b3]
def vConv (P : Program) (src dst : TypeId) (a : AVal) (H : Heap) (K : AVal → Prop) : Prop :=
 match P.underlying src, P.underlying dst with
 | some (.int _), some (.int k) => match a with
  | .int _ n => K (.int k (k.wrap n))
  | _ => False
 | some .string, some .string => match a with
  | .str s => K (.str s)
  | _ => False
 | some (.slice e), some .string => match P.underlying e with
  | some (.int .u8) => ∃ s, strOf H a = some s ∧ K (.str s)
  | _ => False
 | _, _ => False
theorem vConv_ok {src dst : TypeId} {x : Operand} {ρ : Operand → AVal} {K : AVal → Prop} (h : vConv P src dst (ρ x) H K) :
  ∃ v, opConv P src dst x ρ H nx = some (.val v H nx) ∧ K v := by
 unfold vConv at h
 split at h <;> try exact h.elim
 ·rename_i k0 k hs hd
  split at h <;> try exact h.elim
  rename_i k1 n hx
  refine ⟨_, ?_, h⟩
  unfold opConv
  simp only [hs, hd, hx, forceI_eq, awrap_eq]
 ·rename_i hs hd
  split at h <;> try exact h.elim
  rename_i s hx
  refine ⟨_, ?_, h⟩
  unfold opConv
  simp only [hs, hd, hx]
 ·rename_i el hs hd
  split at h <;> try exact h.elim
  rename_i hel
  obtain ⟨s, es, h⟩ := h
  refine ⟨_, ?_, h⟩
  unfold opConv
  unfold strOf at es
  split at es <;> try (cases es; done)
  ·rename_i b off n esz full hx
   split at es <;> try (cases es; done)
   rename_i cnt ct o sp hb
   split at es <;> try (cases es; done)
   rename_i hle
   simp only [hs, hd, hx, hel, hb, hle, es]
  ·rename_i hx
   cases es
   simp only [hs, hd, hx, hel]
def vFill (P : Program) (place : Nat → Option (Nat × Nat × TypeId)) (ρ : Operand → AVal) (cells : List AVal) (l : List (Nat × Operand)) (K : List AVal → Prop) : Prop :=
 match l with
 | [] => K cells
 | (i, x) :: rest => match place i with
  | some (off, size, t) => cellsT P t (ρ x) fun cs => match Nat.beq cs.length size, Nat.ble (Nat.add off size) cells.length with
   | true, true => vFill P place ρ (seg off cs cells) rest K
   | _, _ => False
  | none => False
theorem vFill_ok {place : Nat → Option (Nat × Nat × TypeId)} {ρ : Operand → AVal} : ∀ {l : List (Nat × Operand)} {cells : List AVal} {K : List AVal → Prop}, vFill P place ρ cells l K →
  ∃ cs, aFill (fun i => (place i).map fun p => (p.1, p.2.1)) ρ cells l = some cs ∧ K cs
 | [], _, _, h => ⟨_, rfl, h⟩
 | (i, x) :: rest, cells, K, h => by
  unfold vFill at h
  split at h <;> try exact h.elim
  rename_i off size t hp
  obtain ⟨cs, hcs, h⟩ := cellsT_ok h
  split at h <;> try exact h.elim
  rename_i h1 h2
  obtain ⟨r, e, h⟩ := vFill_ok h
  refine ⟨r, ?_, h⟩
  unfold aFill
  simp only [hp, hcs, h1, h2, Option.map_some]
  exact e
def placesT (P : Program) : List Field → Option (List (Nat × Nat × TypeId))
 | [] => some []
 | f :: l => match P.info? f.type, placesT P l with
  | some i, some r => some ((f.offset, i.size, f.type) :: r)
  | _, _ => none
theorem placesT_ok : ∀ {l : List Field} {r : List (Nat × Nat × TypeId)}, placesT P l = some r → places P l = some (r.map fun p => (p.1, p.2.1))
 | [], _, h => by cases h; rfl
 | f :: l, r, h => by
  unfold placesT at h
  split at h <;> try (cases h; done)
  rename_i i r' hi hr
  cases h
  unfold places
  simp only [hi, placesT_ok hr, List.map_cons]
def vBuild (P : Program) (t : TypeId) (parts : List (Nat × Operand)) (ρ : Operand → AVal) (K : List AVal → Prop) : Prop :=
 match zeroL P t, P.underlying t with
 | some z, some (.struct fields) => match placesT P fields.toList with
  | some pl => vFill P (fun i => pl[i]?) ρ z parts K
  | none => False
 | some z, some (.array _ elem) => match P.info? elem with
  | some e => vFill P (fun i => some (Nat.mul i e.size, e.size, elem)) ρ z parts K
  | none => False
 | _, _ => False
theorem vBuild_ok {t : TypeId} {parts : Array (Nat × Operand)} {ρ : Operand → AVal} {K : List AVal → Prop} (h : vBuild P t parts.toList ρ K) : ∃ cs, aBuild P t parts ρ = some cs ∧ K cs := by
 unfold vBuild at h
 unfold aBuild
 split at h <;> try exact h.elim
 ·rename_i z fields hz hu
  split at h <;> try exact h.elim
  rename_i pl hpl
  obtain ⟨cs, e, h⟩ := vFill_ok h
  refine ⟨cs, ?_, h⟩
  simp only [hz, hu, placesT_ok hpl, List.getElem?_map]
  exact e
 ·rename_i z len elem hz hu
  split at h <;> try exact h.elim
  rename_i e he
  obtain ⟨cs, e', h⟩ := vFill_ok h
  refine ⟨cs, ?_, h⟩
  simp only [hz, hu, he]
  exact e'
def vMade (P : Program) (op : Op) (ρ : Operand → AVal) (K : Made → Prop) : Prop :=
 match op with
 | .alloc t => match zeroL P t with
  | some z => match Nat.ble z.length 4096 with
   | true => K ⟨z.length, z, fun b => .ptr b 0⟩
   | false => False
  | none => False
 | .box t x => cellsT P t (ρ x) fun cs => match Nat.ble cs.length 4096 with
  | true => K ⟨cs.length, cs, fun b => .ptr b 0⟩
  | false => False
 | .buildSlice t len parts => match P.underlying t with
  | some (.slice elem) => match zeroL P elem, P.info? elem with
   | some z, some e => match Nat.ble (Nat.mul len e.size) 4096, Nat.beq e.size 0 with
    | true, false => vFill P (fun i => some (Nat.mul i e.size, e.size, elem)) ρ (repL z len) parts.toList fun cs => K ⟨Nat.mul len e.size, cs, fun b => .slice b 0 len e.size true⟩
    | _, _ => False
   | _, _ => False
  | _ => False
 | .makeSlice t l c => match P.underlying t with
  | some (.slice elem) => match zeroL P elem, P.info? elem with
   | some z, some e => match Nat.beq e.size 0 with
    | false => match ρ l, ρ c with
     | .int _ n, .int _ m => n = m ∧ 0 ≤ n ∧ n.toNat * e.size ≤ 9223372036854775807 ∧ n.toNat * e.bytes ≤ 140737488355328 ∧ n.toNat ≤ 9223372036854775807 ∧
       K ⟨Nat.mul n.toNat e.size, repL z n.toNat, fun b => .slice b 0 n.toNat e.size true⟩
     | _, _ => False
    | true => False
   | _, _ => False
  | _ => False
 | _ => False
theorem ble_of {a b : Nat} (h : a ≤ b) : Nat.ble a b = true := by rw [Nat.ble_eq]; exact h
theorem vMade_ok {op : Op} {ρ : Operand → AVal} {K : Made → Prop} (h : vMade P op ρ K) : ∃ m, made P op ρ = some m ∧ Nat.ble m.n 9223372036854775807 = true ∧ K m := by
 unfold vMade at h
 split at h <;> try exact h.elim
 ·split at h <;> try exact h.elim
  rename_i z hz
  split at h <;> try exact h.elim
  rename_i hb
  refine ⟨_, ?_, ble_of (Nat.le_trans (Nat.le_of_ble_eq_true hb) (by decide)), h⟩
  simp only [made, madeAlloc, hz]
 ·obtain ⟨cs, hcs, h⟩ := cellsT_ok h
  split at h <;> try exact h.elim
  rename_i hb
  refine ⟨_, ?_, ble_of (Nat.le_trans (Nat.le_of_ble_eq_true hb) (by decide)), h⟩
  simp only [made, madeBox, hcs, forceN_eq]
 ·rename_i t len parts
  split at h <;> try exact h.elim
  rename_i elem hu
  split at h <;> try exact h.elim
  rename_i z e hz he
  split at h <;> try exact h.elim
  rename_i h1 h2
  obtain ⟨cs, e', h⟩ := vFill_ok h
  refine ⟨_, ?_, ble_of (Nat.le_trans (Nat.le_of_ble_eq_true h1) (by decide)), h⟩
  simp only [made, madeSliceLit, hu, hz, he, h1, h2]
  have e2 : aFill (fun i => some (Nat.mul i e.size, e.size)) ρ (repL z len) parts.toList = some cs := e'
  rw [e2]
 ·rename_i t l c
  split at h <;> try exact h.elim
  rename_i elem hu
  split at h <;> try exact h.elim
  rename_i z e hz he
  split at h <;> try exact h.elim
  rename_i h0
  split at h <;> try exact h.elim
  rename_i k1 n k2 m hl hc
  obtain ⟨rfl, hn, g1, g2, g3, h⟩ := h
  refine ⟨_, ?_, ble_of g1, h⟩
  have b0 : Nat.beq n.toNat n.toNat = true := Nat.beq_refl _
  have b1 : Nat.ble (Nat.mul n.toNat e.size) 9223372036854775807 = true := ble_of g1
  have b2 : Nat.ble (Nat.mul n.toNat e.bytes) 140737488355328 = true := ble_of g2
  simp only [made, madeMake, hu, hz, he, hl, hc, asNat_nn hn, b0, b1, b2, h0, ble_of g3, forceN_eq]
def blkN (m : Made) (nx : Nat) (H : Heap) : Heap := set5 nx (some (.cells m.n (CT.ofL m.n m.l) [] false)) H
def appC (H : Heap) (nx esz ebytes : Nat) (s : AVal) (n : Nat) (new : List AVal) : Option (AVal × Heap × Nat) :=
 match n with
 | 0 => match s with
  | .nilSlice => some (.nilSlice, H, nx)
  | .slice b off len e full => some (.slice b off len e full, H, nx)
  | _ => none
 | Nat.succ n' => match s with
  | .nilSlice => match Nat.ble (Nat.mul (Nat.succ n') esz) 9223372036854775807, Nat.ble (Nat.mul (Nat.succ n') ebytes) 140737488355328 with
   | true, true => some (.slice nx 0 (Nat.succ n') esz false, set5 nx (some (.cells (Nat.mul (Nat.succ n') esz) (CT.ofL (Nat.mul (Nat.succ n') esz) new) [] false)) H, Nat.succ nx)
   | _, _ => none
  | .slice b off len e full => match get5 b H, Nat.beq e esz, Nat.ble (Nat.mul (Nat.add len (Nat.succ n')) esz) 9223372036854775807, Nat.ble (Nat.mul (Nat.add len (Nat.succ n')) ebytes) 140737488355328 with
   | some (.cells cnt ct olds sup), true, true, true => match Nat.ble (Nat.add off (Nat.mul len esz)) cnt, full with
    | true, true => some (.slice nx 0 (Nat.add len (Nat.succ n')) esz false,
      set5 nx (some (.cells (Nat.mul (Nat.add len (Nat.succ n')) esz) (CT.ofL (Nat.mul (Nat.add len (Nat.succ n')) esz) (CT.slab ct (Nat.mul len esz) off ++ new)) [] false)) H, Nat.succ nx)
    | true, false => match off, sup with
     | 0, false => some (.slice nx 0 (Nat.add len (Nat.succ n')) esz false,
       grown b cnt ct olds (Nat.mul len esz) H nx (Nat.mul (Nat.add len (Nat.succ n')) esz) (CT.lay new (Nat.mul len esz) (CT.widen (Nat.mul (Nat.add len (Nat.succ n')) esz) ct)), Nat.succ nx)
     | _, _ => none
    | _, _ => none
   | _, _, _, _ => none
  | _ => none
theorem appC_ok {elem : TypeId} {s : AVal} {src : Nat → Option (Nat × List AVal)} {z : List AVal} {e : TypeInfo} {n : Nat} {new : List AVal} {v : AVal} {H' : Heap} {nx' : Nat}
  (hz : zeroL P elem = some z) (he : P.info? elem = some e) (hs : src e.size = some (n, new)) (h0 : Nat.beq e.size 0 = false) (h : appC H nx e.size e.bytes s n new = some (v, H', nx')) :
  aAppend P elem H nx s src = some (.val v H' nx') := by
 have hn : Nat.ble (Nat.succ nx) (Nat.succ nx) = true := ble_of (Nat.le_refl _)
 unfold appC at h
 unfold aAppend
 simp only [hz, he, hs, h0, hn]
 cases n with
 | zero =>
  simp only [] at h ⊢
  split at h <;> first | (cases h; done) | (cases h; rfl)
 | succ n' =>
  simp only [] at h ⊢
  split at h <;> try (cases h; done)
  ·split at h <;> try (cases h; done)
   rename_i g1 g2
   cases h
   simp only [g1, g2, forceN_eq]
  ·split at h <;> try (cases h; done)
   rename_i g0 g1 g2 g3
   split at h <;> try (cases h; done)
   ·rename_i g4
    cases h
    simp only [g0, g1, g2, g3, g4, forceN_eq]
   ·rename_i g4
    split at h <;> try (cases h; done)
    cases h
    simp only [g0, g1, g2, g3, g4, forceN_eq]
def zerosC (z : List AVal) (size : Nat) (x : AVal) : Option (Nat × List AVal) :=
 match x with
 | .int .i64 (.ofNat n) => match Nat.ble (Nat.mul n size) 9223372036854775807, Nat.ble n 9223372036854775807 with
  | true, true => some (n, repL z n)
  | _, _ => none
 | _ => none
theorem zerosC_ok {elem : TypeId} {z : List AVal} {size : Nat} {x : AVal} {r : Nat × List AVal} (hz : zeroL P elem = some z) (h : zerosC z size x = some r) : aZeros P elem size x = some r := by
 unfold zerosC at h
 split at h <;> try (cases h; done)
 split at h <;> try (cases h; done)
 rename_i g1 g2
 cases h
 unfold aZeros
 simp only [hz, g1, g2]
def copC (H : Heap) (esz : Nat) (d s : AVal) : Option (Nat × Heap) :=
 match d, s with
 | .slice b off len _ _, .slice b2 off2 len2 _ _ => match get5 b H, get5 b2 H with
  | some (.cells cnt ct olds false), some (.cells cnt2 ct2 _ _) => match Nat.ble (Nat.add off (Nat.mul (minN len2 len) esz)) cnt, Nat.ble (Nat.add off2 (Nat.mul (minN len2 len) esz)) cnt2, allCell (CT.slab ct2 (Nat.mul (minN len2 len) esz) off2) with
   | true, true, true => some (minN len2 len, set5 b (some (.cells cnt (CT.lay (CT.slab ct2 (Nat.mul (minN len2 len) esz) off2) off ct) [] false)) (dels olds H))
   | _, _, _ => none
  | _, _ => none
 | .slice _ _ _ _ _, .nilSlice => some (0, H)
 | .nilSlice, .nilSlice => some (0, H)
 | .nilSlice, .slice _ _ _ _ _ => some (0, H)
 | _, _ => none
theorem copC_ok {types : Array TypeId} {args : Array Operand} {ρ : Operand → AVal} {dT elem : TypeId} {l : List TypeId} {d s : Operand} {e : TypeInfo} {n : Nat} {H' : Heap}
  (ht : types.toList = dT :: l) (ha : args.toList = [d, s]) (hu : P.underlying dT = some (.slice elem)) (he : P.info? elem = some e) (h : copC H e.size (ρ d) (ρ s) = some (n, H')) :
  opCopy P types args ρ H nx = some (.val (.int .i64 (.ofNat n)) H' nx) := by
 unfold opCopy
 simp only [ht, ha, hu, he]
 unfold copC at h
 split at h
 ·rename_i hd hs
  simp only [hd, hs]
  split at h <;> try (cases h; done)
  rename_i g1 g2
  split at h <;> try (cases h; done)
  rename_i g3 g4 g5
  cases h
  simp only [g1, g2, forceN_eq, g3, g4, g5]
 ·rename_i hd hs; cases h; simp only [hd, hs]; rfl
 ·rename_i hd hs; cases h; simp only [hd, hs]; rfl
 ·rename_i hd hs; cases h; simp only [hd, hs]; rfl
 ·cases h
def callV (P : Program) (x : Operand) (a : AVal) (args : List AVal) (K : FuncId → List AVal → Prop) : Prop :=
 match x with
 | .tmp _ => ∃ f as, callTo P a args = some (f, as) ∧ K f as
 | _ => match callTo P a args with
  | some (f, as) => K f as
  | none => False
theorem callV_ok {x : Operand} {a : AVal} {args : List AVal} {K : FuncId → List AVal → Prop} (h : callV P x a args K) : ∃ f as, callTo P a args = some (f, as) ∧ K f as := by
 unfold callV at h
 split at h
 ·exact h
 ·split at h <;> first | exact h.elim | exact ⟨_, _, ‹_›, h⟩
def vCall (P : Program) (c : Call) (ρ : Operand → AVal) (H : Heap) (nx : Nat) (κ : ARes → Prop) : Prop :=
 match c.callee with
 | .value f => callV P f (ρ f) (c.args.toList.map ρ) fun g as => κ (.call g as)
 | .builtin .len => match c.argTypes.toList, c.args.toList with
  | [t], [x] => match P.underlying t with
   | some .string => match ρ x with
    | .str s => κ (.val (.int .i64 (.ofNat s.length)) H nx)
    | _ => False
   | some (.array n _) => κ (.val (.int .i64 (.ofNat n)) H nx)
   | some (.slice _) => ∃ n, lenS (ρ x) = some n ∧ κ (.val (.int .i64 (.ofNat n)) H nx)
   | _ => False
  | _, _ => False
 | .builtin .append => match c.argTypes.toList, c.args.toList with
  | [sT, xT], [s, x] => match P.underlying sT, P.underlying xT with
   | some (.slice elem), some d => match srcD d, P.info? elem, zeroL P elem with
    | true, some e, some _ => match Nat.beq e.size 0 with
     | false => ∃ n l, aSrc e.size H (ρ x) = some (n, l) ∧ allCell l = true ∧ ∃ v H' nx', appC H nx e.size e.bytes (ρ s) n l = some (v, H', nx') ∧ κ (.val v H' nx')
     | true => False
    | false, some e, some z => match isInt d, Nat.beq e.size 0 with
     | true, false => ∃ n l, zerosC z e.size (ρ x) = some (n, l) ∧ allCell l = true ∧ ∃ v H' nx', appC H nx e.size e.bytes (ρ s) n l = some (v, H', nx') ∧ κ (.val v H' nx')
     | _, _ => ∃ r, opCall P c ρ H nx = some r ∧ κ r
    | _, _, _ => ∃ r, opCall P c ρ H nx = some r ∧ κ r
   | _, _ => False
  | _, _ => False
 | .builtin .max => match c.args.toList with
  | x :: l => match ρ x with
   | .int k n => ∃ m, aMost true k n (l.map ρ) = some m ∧ κ (.val (.int k m) H nx)
   | _ => False
  | _ => False
 | .builtin .min => match c.args.toList with
  | x :: l => match ρ x with
   | .int k n => ∃ m, aMost false k n (l.map ρ) = some m ∧ κ (.val (.int k m) H nx)
   | _ => False
  | _ => False
 | .builtin .copy => match c.argTypes.toList, c.args.toList with
  | dT :: _, [d, s] => match P.underlying dT with
   | some (.slice elem) => match P.info? elem with
    | some e => ∃ n H', copC H e.size (ρ d) (ρ s) = some (n, H') ∧ κ (.val (.int .i64 (.ofNat n)) H' nx)
    | none => False
   | _ => False
  | _, _ => False
 | .invoke r name => ∃ t v f byPtr u, ρ r = .iface t v ∧ methodA P t name = some (f, byPtr) ∧ hasBody P f = true ∧ recvA P H t v byPtr = some u ∧ κ (.call f (u :: c.args.toList.map ρ))
 | _ => ∃ r, opCall P c ρ H nx = some r ∧ κ r
theorem vCall_ok {c : Call} {ρ : Operand → AVal} {κ : ARes → Prop} (h : vCall P c ρ H nx κ) : ∃ r, opCall P c ρ H nx = some r ∧ κ r := by
 obtain ⟨callee, args, types⟩ := c
 unfold vCall at h
 simp only [] at h
 split at h
 ·obtain ⟨g, as, e, h⟩ := callV_ok h
  refine ⟨_, ?_, h⟩
  simp only [opCall, opCallV, e]
 ·split at h <;> try exact h.elim
  rename_i t x ht hx
  split at h <;> try exact h.elim
  ·rename_i hu
   split at h <;> try exact h.elim
   rename_i s hs
   refine ⟨_, ?_, h⟩
   simp only [opCall, opBuiltin0, ht, hx, lenOfA, hu, hs]
  ·rename_i n e hu
   refine ⟨_, ?_, h⟩
   simp only [opCall, opBuiltin0, ht, hx, lenOfA, hu]
  ·rename_i el hu
   obtain ⟨n, e, h⟩ := h
   refine ⟨_, ?_, h⟩
   unfold lenS at e
   split at e <;> try (cases e; done)
   ·rename_i hs; cases e; simp only [opCall, opBuiltin0, ht, hx, lenOfA, hu, hs]
   ·rename_i hs; cases e; simp only [opCall, opBuiltin0, ht, hx, lenOfA, hu, hs]
   ·rename_i hs; cases e; simp only [opCall, opBuiltin0, ht, hx, lenOfA, hu, hs]
 ·split at h <;> try exact h.elim
  rename_i sT xT s x ht hx
  split at h <;> try exact h.elim
  rename_i elem d hs hd
  split at h <;> first | exact h | skip
  ·rename_i e z hsrc he hz
   split at h <;> try exact h.elim
   rename_i h0
   obtain ⟨n, l, e1, e2, v, H', nx', e3, h⟩ := h
   refine ⟨_, ?_, h⟩
   simp only [opCall, ht, hx, hs, hd, hsrc, he, e1, e2]
   exact appC_ok hz he e1 h0 e3
  ·rename_i e z hsrc he hz
   split at h <;> first | exact h | skip
   rename_i hi h0
   obtain ⟨n, l, e1, e2, v, H', nx', e3, h⟩ := h
   refine ⟨_, ?_, h⟩
   have e1' := zerosC_ok (P := P) (elem := elem) hz e1
   simp only [opCall, ht, hx, hs, hd, hsrc, he, hi, e1', e2]
   exact appC_ok (src := fun size => aZeros P elem size (ρ x)) hz he e1' h0 e3
 ·split at h <;> try exact h.elim
  rename_i x l hx
  split at h <;> try exact h.elim
  rename_i k n hn
  obtain ⟨m, e, h⟩ := h
  refine ⟨_, ?_, h⟩
  simp only [opCall, opBuiltin0, hx, hn, e, forceI_eq]
 ·split at h <;> try exact h.elim
  rename_i x l hx
  split at h <;> try exact h.elim
  rename_i k n hn
  obtain ⟨m, e, h⟩ := h
  refine ⟨_, ?_, h⟩
  simp only [opCall, opBuiltin0, hx, hn, e, forceI_eq]
 ·split at h <;> try exact h.elim
  rename_i dT l d s ht ha
  split at h <;> try exact h.elim
  rename_i elem hu
  split at h <;> try exact h.elim
  rename_i e he
  obtain ⟨n, H', e1, h⟩ := h
  refine ⟨_, ?_, h⟩
  simp only [opCall]
  exact copC_ok ht ha hu he e1
 ·obtain ⟨t, v, f, byPtr, u, e1, e2, e3, e4, h⟩ := h
  refine ⟨_, ?_, h⟩
  simp only [opCall, opInvoke, e1, e2, e3, e4]
 ·exact h
def notNil : AVal → Bool
 | .ptr _ _ => true
 | .gptr _ _ => true
 | .iface _ _ => true
 | .func (.func _) _ _ => true
 | _ => false
def vres (P : Program) (o : Oper) (ρ : Operand → AVal) (H : Heap) (nx : Nat) (κ : ARes → Prop) : Prop :=
 match o.op with
 | .move x => κ (.val (ρ x) H nx)
 | .assign x => κ (.val (ρ x) H nx)
 | .pick c a b => match ρ c with
  | .bool p => Bool.rec (κ (.val (ρ b) H nx)) (κ (.val (ρ a) H nx)) p
  | _ => False
 | .load t a => vLoad P t H (ρ a) fun v => κ (.val v H nx)
 | .store t a x => vStore P t H (ρ a) (ρ x) fun H' => κ (.val .und H' nx)
 | .nilCheck x => notNil (ρ x) = true ∧ κ (.val (ρ x) H nx)
 | .binOp op t x y _ => vBin P op t x y (ρ x) (ρ y) fun v => κ (.val v H nx)
 | .unOp .neg _ x => match ρ x with
  | .int k n => κ (.val (.int k (k.wrap (0 - n))) H nx)
  | _ => False
 | .unOp .not _ x => match ρ x with
  | .bool b => κ (.val (.bool (!b)) H nx)
  | _ => False
 | .convert s d x => vConv P s d (ρ x) H fun v => κ (.val v H nx)
 | .makeInterface t x => match P.underlying t with
  | some d => match ifaceD d with
   | false => κ (.val (.iface t (ρ x)) H nx)
   | true => False
  | none => False
 | .makeFunc fn a b => κ (.val (.func fn (a.toList.map ρ) (b.toList.map ρ)) H nx)
 | .slice t x lo hi mx => vSlice P t (ρ x) (lo.map ρ) (hi.map ρ) (mx.map ρ) H fun v => κ (.val v H nx)
 | .fieldAddr s x f => vFieldAddr P s f (ρ x) fun v => κ (.val v H nx)
 | .field t x f => match opField P t x f ρ H nx with
  | some r => κ r
  | none => False
 | .indexAddr t x i => vIndexAddr P t (ρ x) (ρ i) fun v => κ (.val v H nx)
 | .index t x i => vIndex P t (ρ x) (ρ i) fun v => κ (.val v H nx)
 | .extract t i => match opExtract t i ρ H nx with
  | some r => κ r
  | none => False
 | .build t ps => vBuild P t ps.toList ρ fun cs => κ (.val (.agg cs) H nx)
 | .alloc t => vMade P (.alloc t) ρ fun m => ∃ H', H' = blkN m nx H ∧ κ (.val (m.v nx) H' (Nat.succ nx))
 | .box t x => vMade P (.box t x) ρ fun m => ∃ H', H' = blkN m nx H ∧ κ (.val (m.v nx) H' (Nat.succ nx))
 | .buildSlice t n ps => vMade P (.buildSlice t n ps) ρ fun m => ∃ H', H' = blkN m nx H ∧ κ (.val (m.v nx) H' (Nat.succ nx))
 | .makeSlice t l c => vMade P (.makeSlice t l c) ρ fun m => ∃ H', H' = blkN m nx H ∧ κ (.val (m.v nx) H' (Nat.succ nx))
 | .call c => vCall P c ρ H nx κ
 | .defer c => match c.callee with
  | .value f => callV P f (ρ f) (c.args.toList.map ρ) fun g as => κ (.dfr g as)
  | _ => False
 | .panic x => ∃ t v, ρ x = .iface t v ∧ κ (.pan (.iface t v))
 | .typeAssert x _ a ok => ∃ v, aAssert P (ρ x) a ok = some v ∧ typedV P o.type v fun v => κ (.val v H nx)
 | _ => ∃ r, aop P o ρ H nx = some r ∧ κ r
theorem made_op {op : Op} {ρ : Operand → AVal} {κ : ARes → Prop} (h : vMade P op ρ fun m => ∃ H', H' = blkN m nx H ∧ κ (.val (m.v nx) H' (Nat.succ nx))) : ∃ r, opMadeOf P op ρ H nx = some r ∧ κ r := by
 obtain ⟨m, e, hb, _, rfl, h⟩ := vMade_ok h
 refine ⟨_, ?_, h⟩
 have hn : Nat.ble (Nat.succ nx) (Nat.succ nx) = true := ble_of (Nat.le_refl _)
 simp only [opMadeOf, e, opMade, hb, hn, forceN_eq]
 rfl
theorem vres_ok {o : Oper} {ρ : Operand → AVal} {κ : ARes → Prop} (h : vres P o ρ H nx κ) : ∃ r, aop P o ρ H nx = some r ∧ κ r := by
 unfold vres at h
 unfold aop
 split at h
 ·rename_i e; rw [e]; exact ⟨_, rfl, h⟩
 ·rename_i e; rw [e]; exact ⟨_, rfl, h⟩
 ·rename_i e
  rw [e]
  split at h <;> try exact h.elim
  rename_i p hp
  cases p with
  | true => exact ⟨_, by simp only [opPick, hp], h⟩
  | false => exact ⟨_, by simp only [opPick, hp], h⟩
 ·rename_i e; rw [e]; obtain ⟨v, e1, h⟩ := vLoad_ok h; exact ⟨_, by simp only [opLoad, e1], h⟩
 ·rename_i e; rw [e]; obtain ⟨v, e1, h⟩ := vStore_ok h; exact ⟨_, by simp only [opStore, e1], h⟩
 ·rename_i x e
  rw [e]
  obtain ⟨h1, h⟩ := h
  refine ⟨_, ?_, h⟩
  show opNilCheck x ρ H nx = _
  unfold opNilCheck
  unfold notNil at h1
  split at h1 <;> first | (cases h1; done) | (rename_i q; simp only [q])
 ·rename_i e; rw [e]; obtain ⟨v, e1, h⟩ := vBin_ok h; exact ⟨_, e1, h⟩
 ·rename_i e
  rw [e]
  split at h <;> try exact h.elim
  rename_i k n hx
  exact ⟨_, by simp only [opUn, hx, forceI_eq, awrap_eq]; rfl, h⟩
 ·rename_i e
  rw [e]
  split at h <;> try exact h.elim
  rename_i b hx
  exact ⟨_, by simp only [opUn, hx, bnot_eq], h⟩
 ·rename_i e; rw [e]; obtain ⟨v, e1, h⟩ := vConv_ok h; exact ⟨_, e1, h⟩
 ·rename_i t x e
  rw [e]
  split at h <;> try exact h.elim
  rename_i d hu
  split at h <;> try exact h.elim
  rename_i hi
  exact ⟨_, by simp only [opMakeInterface, hu, hi], h⟩
 ·rename_i e; rw [e]; exact ⟨_, rfl, h⟩
 ·rename_i e; rw [e]; obtain ⟨v, e1, h⟩ := vSlice_ok h; exact ⟨_, e1, h⟩
 ·rename_i e; rw [e]; obtain ⟨v, e1, h⟩ := vFieldAddr_ok h; exact ⟨_, e1, h⟩
 ·rename_i e; rw [e]; split at h <;> first | exact h.elim | exact ⟨_, ‹_›, h⟩
 ·rename_i e; rw [e]; obtain ⟨v, e1, h⟩ := vIndexAddr_ok h; exact ⟨_, e1, h⟩
 ·rename_i e; rw [e]; obtain ⟨v, e1, h⟩ := vIndex_ok h; exact ⟨_, e1, h⟩
 ·rename_i e; rw [e]; split at h <;> first | exact h.elim | exact ⟨_, ‹_›, h⟩
 ·rename_i e; rw [e]; obtain ⟨v, e1, h⟩ := vBuild_ok h; exact ⟨_, by simp only [opBuild, e1], h⟩
 ·rename_i e; rw [e]; exact made_op h
 ·rename_i e; rw [e]; exact made_op h
 ·rename_i e; rw [e]; exact made_op h
 ·rename_i e; rw [e]; exact made_op h
 ·rename_i e; rw [e]; exact vCall_ok h
 ·rename_i c e
  rw [e]
  split at h <;> try exact h.elim
  rename_i f hf
  obtain ⟨g, as, e1, h⟩ := callV_ok h
  refine ⟨_, ?_, h⟩
  simp only [opDeferC, hf, opDefer, e1]
 ·rename_i e
  rw [e]
  obtain ⟨t, v, e1, h⟩ := h
  exact ⟨_, by simp only [opPanic, e1], h⟩
 ·rename_i x xt a ok e
  rw [e]
  obtain ⟨v, e1, h⟩ := h
  exact ⟨_, by simp only [opAssert, e1], typedV_ok h⟩
 ·exact h
end
end Go.Vs
end
section
namespace Go.Vs
variable [GTab] {P : Program} {H : Heap} {nx : Nat} {ops : Array Oper} {o : Oper} {nt : Nat} {env : Env}
noncomputable section
abbrev KC := Env → Heap → Nat → Dfs → Option AMode → Prop
abbrev KP := AExit → KC
abbrev EndP := AEnd → Heap → Nat → Prop
abbrev CallP := FuncId → List AVal → Heap → Nat → EndP → Prop
abbrev CallDP := FuncId → List AVal → AMode → Heap → Nat → (AEnd → AMode → Heap → Nat → Prop) → Prop
abbrev LoopP := Code → Env → Heap → Nat → Dfs → Option AMode → KP → Prop
def TriP (P : Program) : CallP := fun f args H nx K =>
 ∀ (σ : Sg) (w : World) (args' : List Value) (R : Ending → World → Prop), Rel σ H nx w → DenL σ args args' →
  (∀ e H' nx' σ' w' en, K e H' nx' → Rel σ' H' nx' w' → Ext σ σ' H H' nx nx' w w' → EndRel σ' e en → R en w') → Calls P f ⟨args'⟩ w R
def TriDP (P : Program) : CallDP := fun f args m H nx K => hasBody P f = true ∧
 ∀ (σ : Sg) (w : World) (args' : List Value) (u : FrameMode) (R : Ending → FrameMode → World → Prop), Rel σ H nx w → DenL σ args args' → MRel σ m u →
  (∀ e m' H' nx' σ' w' en u', K e m' H' nx' → Rel σ' H' nx' w' → Ext σ σ' H H' nx nx' w w' → EndRel σ' e en → MRel σ' m' u' → R en u' w') → CallsD P f ⟨args'⟩ u w R
def CallSP (P : Program) (call : CallP) : Prop := ∀ f args H nx K, call f args H nx K → TriP P f args H nx K
def CallDSP (P : Program) (calld : CallDP) : Prop := ∀ f args m H nx K, calld f args m H nx K → TriDP P f args m H nx K
theorem TriP.mono {f : FuncId} {args : List AVal} {K K' : EndP} (h : TriP P f args H nx K) (hk : ∀ e H' nx', K e H' nx' → K' e H' nx') : TriP P f args H nx K' :=
 fun σ w args' R hr hd hR => h σ w args' R hr hd fun e H' nx' σ' w' en k => hR e H' nx' σ' w' en (hk _ _ _ k)
def onEnd (e : AEnd) (r : AVal → Prop) (p : List (AVal × Bool) → Prop) : Prop := (∀ v, e = .ret v → r v) ∧ (∀ l, e = .pan l → p l)
def takeV (P : Program) (call : CallP) (ty : TypeId) (d : Option Nat) (r : ARes) (env : Env) (H : Heap) (nx : Nat) (dfs : Dfs) (rc : Option AMode) (k : KC) (K : KP) : Prop :=
 match r with
 | .val v H' nx' => k (put d v env) H' nx' dfs rc
 | .call f args => call f args H nx fun e H' nx' => onEnd e (fun v => typedV P ty v fun v => k (put d v env) H' nx' dfs rc) (fun l => K (.pan l) env H' nx' dfs rc)
 | .dfr f args => k (put d (.tuple []) env) H nx ((f, args) :: dfs) rc
 | .pan v => K (.pan [(v, false)]) env H nx dfs rc
 | .rcv => match rc with
  | some (.panicking ((v, false) :: older)) => k (put d v env) H nx dfs (some (.panicking ((v, true) :: older)))
  | some .returning => k (put d .nilIface env) H nx dfs rc
  | _ => False
theorem set2_self {t : Nat} {v : AVal} (h : get2 t env = v) : set2 t v env = env := by
 funext s
 show (Bool.rec (env s) v (Nat.beq s t) : AVal) = env s
 cases e : Nat.beq s t with
 | false => rfl
 | true => have := Nat.eq_of_beq_eq_true e; subst this; exact h.symm
def ifB (b : Bool) (p q : Prop) : Prop := Bool.rec q p b
theorem ifB_iff {b : Bool} {p q : Prop} : ifB b p q ↔ (b = true → p) ∧ (b = false → q) := by cases b <;> simp [ifB]
def guardV (ops : Array Oper) (g : Option (Nat × Bool)) (env : Env) (run skip : Env → Prop) : Prop :=
 match g with
 | none => run env
 | some (j, want) => match (ops[j]?).bind (·.dst) with
  | some t => match Nat.ble t 255 with
   | true => match get2 t env with
    | .bool b => Bool.rec (Bool.rec (run (set2 t (.bool false) env)) (skip (set2 t (.bool false) env)) want) (Bool.rec (skip (set2 t (.bool true) env)) (run (set2 t (.bool true) env)) want) b
    | .tuple [] => skip env
    | _ => False
   | false => False
  | none => skip env
theorem guardV_ok {g : Option (Nat × Bool)} {run skip : Env → Prop} (h : guardV ops g env run skip) :
  (wantedA ops g env = some true ∧ run env) ∨ (wantedA ops g env = some false ∧ skip env) := by
 unfold guardV at h
 unfold wantedA
 split at h
 ·exact .inl ⟨rfl, h⟩
 ·rename_i j want
  simp only []
  split at h
  ·rename_i t ht
   split at h <;> try exact h.elim
   rename_i hb
   split at h <;> try exact h.elim
   ·rename_i b hv
    simp only [ht, hb, hv]
    cases b <;> cases want
    all_goals
     simp only [set2_self hv] at h
     first
     | exact .inl ⟨by first | rfl | trivial, h⟩
     | exact .inr ⟨by first | rfl | trivial, h⟩
   ·rename_i hv
    simp only [ht, hb, hv]
    exact .inr ⟨by first | rfl | trivial, h⟩
  ·rename_i ht
   simp only [ht]
   exact .inr ⟨by first | rfl | trivial, h⟩
def vOp (P : Program) (call : CallP) (nt : Nat) (ops : Array Oper) (o : Oper) (env : Env) (H : Heap) (nx : Nat) (dfs : Dfs) (rc : Option AMode) (k : KC) (K : KP) : Prop :=
 match dstOK nt o.dst with
 | true => guardV ops o.guard env (fun env => vres P o (aev env) H nx fun r => takeV P call o.type o.dst r env H nx dfs rc k K) (fun env => k (put o.dst (.tuple []) env) H nx dfs rc)
 | false => False
def vOps (P : Program) (call : CallP) (nt : Nat) (ops : Array Oper) (K : KP) : List Oper → KC
 | [] => fun env H nx dfs rc => K .normal env H nx dfs rc
 | o :: l => fun env H nx dfs rc => vOp P call nt ops o env H nx dfs rc (vOps P call nt ops K l) K
def PostP (nt : Nat) (K : KP) (σ : Sg) (H : Heap) (nx : Nat) (w : World) (Q : Exit → Act → World → Prop) : Prop :=
 ∀ ex env' H' nx' dfs' σ' w' a' e, K ex env' H' nx' dfs' none → Rel σ' H' nx' w' → Ext σ σ' H H' nx nx' w w' → ARel σ' nt env' dfs' a' → ExRel σ' ex e → Q e a' w'
theorem PostP.from {K : KP} {σ σ1 : Sg} {H H1 : Heap} {nx nx1 : Nat} {w w1 : World} {Q : Exit → Act → World → Prop} (h : PostP nt K σ H nx w Q) (E : Ext σ σ1 H H1 nx nx1 w w1) :
  PostP nt K σ1 H1 nx1 w1 Q := fun ex env' H' nx' dfs' σ' w' a' e hk R E2 A X => h ex env' H' nx' dfs' σ' w' a' e hk R (E.trans E2) A X
theorem upon_stepP {call : CallP} {dfs : Dfs} {rc : Option AMode} {r : ARes} {k : KC} {K : KP} {ty : TypeId}
  (hc : CallSP P call) (hok : OpOK P o (aev env) H nx r) (hdst : dstOK nt o.dst = true) (hnr : r ≠ .rcv) (ht : takeV P call ty o.dst r env H nx dfs rc k K)
  {σ : Sg} {w : World} {a : Act} {next : Act → World → Prop} {Q : Exit → Act → World → Prop} (hr : Rel σ H nx w) (ha : ARel σ nt env dfs a)
  (hn : ∀ env1 H1 nx1 dfs1 σ1 w1 a1, k env1 H1 nx1 dfs1 rc → Rel σ1 H1 nx1 w1 → Ext σ σ1 H H1 nx nx1 w w1 → ARel σ1 nt env1 dfs1 a1 → next a1 w1)
  (hp : ∀ l H1 nx1 σ1 w1 c, K (.pan l) env H1 nx1 dfs rc → Rel σ1 H1 nx1 w1 → Ext σ σ1 H H1 nx nx1 w w1 → Chain σ1 l c → Q (.panic c) a w1) :
  NotRec P o a w ∧ o.wp P a w next Q := by
 cases r with
 | val v H' nx' =>
  obtain ⟨σ', w', v', R, E, D, hrun⟩ := hok σ w a.eval hr ha.env.aev
  rcases hrun with hrun | ⟨hrun, rfl⟩
  ·exact ⟨(fun w2 e => by rw [hrun] at e; cases e), by unfold Oper.wp; rw [hrun]; exact hn _ _ _ _ σ' w' _ ht R E ((ha.mono E.sub).put hdst D)⟩
  ·exact ⟨(fun w2 e => by rw [hrun] at e; cases e), by unfold Oper.wp; rw [hrun]; exact hn _ _ _ _ σ' w' _ ht R E ((ha.mono E.sub).put hdst D)⟩
 | call f args =>
  have tri := hc f args H nx _ ht
  obtain ⟨args', hl, hrun⟩ := hok σ w a.eval hr ha.env.aev
  refine ⟨(fun w2 e => by rw [hrun] at e; cases e), ?_⟩
  unfold Oper.wp
  rw [hrun]
  show Calls P f ⟨args'⟩ w _
  refine tri σ w args' _ hr hl fun e H' nx' σ' w' en hk R E he => ?_
  cases e with
  | ret v =>
   cases en with
   | returned v' => exact hn _ _ _ _ σ' w' _ (typedV_ok (hk.1 v rfl)) R E ((ha.mono E.sub).put hdst he)
   | panicked c => exact he.elim
   | outgrown => exact he.elim
  | pan l =>
   cases en with
   | returned v' => exact he.elim
   | panicked c => exact hp l H' nx' σ' w' c (hk.2 l rfl) R E he
   | outgrown => exact he.elim
 | dfr f args =>
  obtain ⟨d, hd, hrun⟩ := hok σ w a.eval hr ha.env.aev
  refine ⟨(fun w2 e => by rw [hrun] at e; cases e), ?_⟩
  unfold Oper.wp
  rw [hrun]
  refine hn _ _ _ _ σ w _ ht hr (Ext.refl _ _ _ _) ⟨?_, ?_⟩
  ·have h1 : EnvRel σ nt (put o.dst (.tuple []) env) (a.put o.dst undef).tmps := ha.env.put hdst (.tuple .nil)
   have e : (({ a with defers := d :: a.defers } : Act).put o.dst undef).tmps = (a.put o.dst undef).tmps := by cases o.dst <;> rfl
   rw [e]; exact h1
  ·have e : (({ a with defers := d :: a.defers } : Act).put o.dst undef).defers = d :: a.defers := by cases o.dst <;> rfl
   rw [e]; exact .cons hd ha.dfs
 | pan v =>
  obtain ⟨v', dv, hrun⟩ := hok σ w a.eval hr ha.env.aev
  refine ⟨(fun w2 e => by rw [hrun] at e; cases e), ?_⟩
  unfold Oper.wp
  rw [hrun]
  exact hp [(v, false)] H nx σ w [{ v := v', recovered := false }] ht hr (Ext.refl _ _ _ _) (.cons dv rfl rfl .nil)
 | rcv => exact (hnr rfl).elim
theorem vOps_none {call : CallP} {K : KP} (hc : CallSP P call) : ∀ (l : List Oper) (env : Env) (H : Heap) (nx : Nat) (dfs : Dfs), vOps P call nt ops K l env H nx dfs none →
  ∀ σ w a Q, Rel σ H nx w → ARel σ nt env dfs a → PostP nt K σ H nx w Q → wpList P ops Q l a w
 | [], env, H, nx, dfs, h, σ, w, a, Q, hr, ha, hQ => hQ .normal env H nx dfs σ w a .normal h hr (Ext.refl _ _ _ _) ha trivial
 | o :: l, env, H, nx, dfs, h, σ, w, a, Q, hr, ha, hQ => by
  have h' : vOp P call nt ops o env H nx dfs none (vOps P call nt ops K l) K := h
  unfold vOp at h'
  split at h' <;> first | exact h'.elim | skip
  rename_i hdst
  rcases guardV_ok h' with ⟨hw, h'⟩ | ⟨hw, h'⟩
  ·obtain ⟨r, hop, h'⟩ := vres_ok h'
   have hnr : r ≠ .rcv := by
    rintro rfl
    exact h'.elim
   unfold wpList
   rw [if_pos (wanted_ok hw ha.env)]
   refine .inl (upon_stepP hc (aop_ok hop) hdst hnr h' hr ha (fun env1 H1 nx1 dfs1 σ1 w1 a1 hk R1 E1 A1 => vOps_none hc l env1 H1 nx1 dfs1 hk σ1 w1 a1 Q R1 A1 (hQ.from E1)) fun lp H1 nx1 σ1 w1 c hk R1 E1 C1 => ?_).2
   exact hQ (.pan lp) env H1 nx1 dfs σ1 w1 a (.panic c) hk R1 E1 (ha.mono E1.sub) C1
  ·exact opK_skip (wanted_ok hw ha.env) (vOps_none hc l _ H nx dfs h' σ w _ Q hr (ha.put hdst (.tuple .nil)) hQ)
def dec2 (k : Env → Heap → Prop) : Env → Heap → Bool := fun env H => @decide (k env H) (Classical.propDecidable _)
def dec3 (k : Env → Heap → Nat → Prop) : Env → Heap → Nat → Bool := fun env H nx => @decide (k env H nx) (Classical.propDecidable _)
def decC (call : CallP) : CallK := fun f args H nx K => @decide (call f args H nx fun e H nx => K e H nx = true) (Classical.propDecidable _)
def decK (K : KP) (env0 : Env) : Kont := fun e _ H nx dfs rc => @decide (K e env0 H nx dfs rc) (Classical.propDecidable _)
theorem dec_iff {p : Prop} : @decide p (Classical.propDecidable _) = true ↔ p := @decide_eq_true_iff p (Classical.propDecidable _)
theorem decC_ok {call : CallP} (hc : CallSP P call) : CallS P (decC call) := by
 intro f args H nx K h
 exact hc f args H nx _ (dec_iff.1 h)
def vFloat (P : Program) (ops : Array Oper) (res : Nat) (o : Oper) (i : Nat) (env : Env) (H : Heap) (nx : Nat) (k : Env → Heap → Prop) : Prop :=
 guardV ops o.guard env
  (fun env => match Nat.beq (cls o.op) 1 with
   | true => vMade P o.op (aev env) fun m => ∃ H', H' = blkN m (Nat.add res i) H ∧ k (put o.dst (m.v (Nat.add res i)) env) H'
   | false => vres P o (aev env) H nx fun r => match r with
    | .val v _ _ => k (put o.dst v env) H
    | _ => False)
  (fun env => k (put o.dst (.tuple []) env) H)
theorem vFloat_ok {res : Nat} {i : Nat} {k : Env → Heap → Prop} (h : vFloat P ops res o i env H nx k) : floatK P ops res o i env H nx (dec2 k) = true := by
 unfold vFloat at h
 unfold floatK
 rcases guardV_ok h with ⟨hw, h⟩ | ⟨hw, h⟩
 ·simp only [hw]
  split at h
  ·rename_i hc
   obtain ⟨m, e, hb, _, rfl, h⟩ := vMade_ok h
   simp only [hc, e, hb, forceN_eq]
   exact dec_iff.2 h
  ·rename_i hc
   obtain ⟨r, e, h⟩ := vres_ok h
   simp only [hc, e]
   split at h <;> first | exact h.elim | exact dec_iff.2 h
 ·simp only [hw]
  exact dec_iff.2 h
def vFloats (P : Program) (ops : Array Oper) (res : Nat) (nx : Nat) (k : Env → Heap → Prop) : List Nat → Env → Heap → Prop
 | [] => k
 | i :: l => fun env H => match ops[i]? with
  | some o => vFloat P ops res o i env H nx (vFloats P ops res nx k l)
  | none => False
theorem floatK_mono {res : Nat} {i : Nat} {k k' : Env → Heap → Bool} (h : floatK P ops res o i env H nx k = true) (hk : ∀ env H, k env H = true → k' env H = true) :
  floatK P ops res o i env H nx k' = true := by
 unfold floatK at h ⊢
 split at h <;> try (cases h; done)
 ·split at h
  ·split at h <;> try (cases h; done)
   split at h <;> try (cases h; done)
   rw [forceN_eq] at h ⊢
   exact hk _ _ h
  ·split at h <;> first | (cases h; done) | exact hk _ _ h
 ·exact hk _ _ h
theorem vFloats_ok {res nx : Nat} {k : Env → Heap → Prop} : ∀ {l : List Nat} {env : Env} {H : Heap}, vFloats P ops res nx k l env H → floatsK P ops res nx (dec2 k) l env H = true
 | [], _, _, h => dec_iff.2 h
 | i :: l, env, H, h => by
  have h' : (match ops[i]? with | some o => vFloat P ops res o i env H nx (vFloats P ops res nx k l) | none => False) := h
  show (match ops[i]? with | some o => floatK P ops res o i env H nx (floatsK P ops res nx (dec2 k) l) | none => false) = true
  split at h' <;> first | exact h'.elim | skip
  rename_i o ho
  try simp only [ho]
  exact floatK_mono (vFloat_ok h') fun env H hk => vFloats_ok (dec_iff.1 hk)
def vAgain (P : Program) (ops : Array Oper) (env : Env) (H : Heap) (nx : Nat) : List Nat → Prop
 | [] => True
 | i :: l => (match ops[i]? with
  | some o => guardV ops o.guard env (fun env => vres P o (aev env) H nx fun r => match r with
    | .val v _ _ => (match o.dst with
     | some d => v = get2 d env
     | none => True)
    | _ => False) (fun env => match o.dst with
     | some d => get2 d env = .tuple []
     | none => True)
  | none => False) ∧ vAgain P ops env H nx l
theorem vAgain_ok : ∀ {l : List Nat}, vAgain P ops env H nx l → againK P ops env H nx l = true
 | [], _ => rfl
 | i :: l, h => by
  obtain ⟨h1, h2⟩ := h
  show (Bool.rec false (againK P ops env H nx l) (match ops[i]? with | some o => again1 P ops env H nx o | none => false) : Bool) = true
  have : (match ops[i]? with | some o => again1 P ops env H nx o | none => false) = true := by
   split at h1 <;> try exact h1.elim
   rename_i o ho
   try simp only [ho]
   unfold again1
   rcases guardV_ok h1 with ⟨hw, h1⟩ | ⟨hw, h1⟩
   ·simp only [hw]
    obtain ⟨r, e, h1⟩ := vres_ok h1
    simp only [e]
    split at h1 <;> try exact h1.elim
    simp only []
    split at h1
    ·rename_i d hd; simp only [hd]; exact dec_iff.2 h1
    ·rename_i hd; simp only [hd]
   ·simp only [hw]
    split at h1
    ·rename_i d hd; simp only [hd, h1]
    ·rename_i hd; simp only [hd]
  rw [this]
  exact vAgain_ok h2
def vAct (P : Program) (call : CallP) (ops : Array Oper) (o : Oper) (env : Env) (H : Heap) (nx : Nat) (dfs : Dfs) (rc : Option AMode) (k : Env → Heap → Nat → Prop) (K : KP) (env0 : Env) : Prop :=
 guardV ops o.guard env
  (fun env => vres P o (aev env) H nx fun r => match r with
   | .val v H' nx' => k (put o.dst v env) H' nx'
   | .call f args => call f args H nx fun e H' nx' => onEnd e (fun v => typedV P o.type v fun v => k (put o.dst v env) H' nx') (fun l => K (.pan l) env0 H' nx' dfs rc)
   | .pan v => K (.pan [(v, false)]) env0 H nx dfs rc
   | _ => False)
  (fun env => k (put o.dst (.tuple []) env) H nx)
theorem vAct_ok {call : CallP} {dfs : Dfs} {rc : Option AMode} {k : Env → Heap → Nat → Prop} {K : KP} {env0 : Env}
  (hm : ∀ f args H nx (K K' : EndP), call f args H nx K → (∀ e H' nx', K e H' nx' → K' e H' nx') → call f args H nx K')
  (h : vAct P call ops o env H nx dfs rc k K env0) : actK P (decC call) ops o env H nx dfs rc (dec3 k) (decK K env0) env = true := by
 unfold vAct at h
 unfold actK
 rcases guardV_ok h with ⟨hw, h⟩ | ⟨hw, h⟩
 ·simp only [hw]
  obtain ⟨r, e, h⟩ := vres_ok h
  simp only [e]
  split at h <;> try exact h.elim
  ·exact dec_iff.2 h
  ·refine dec_iff.2 (hm _ _ _ _ _ _ h fun e H' nx' he => ?_)
   cases e with
   | ret v => exact dec_iff.2 (typedV_ok (he.1 v rfl))
   | pan l => exact dec_iff.2 (he.2 l rfl)
  ·exact dec_iff.2 h
 ·simp only [hw]
  exact dec_iff.2 h
def vStages (P : Program) (call : CallP) (ops : Array Oper) (res : Nat) (dfs : Dfs) (rc : Option AMode) (K : KP) (env0 : Env) : List (Nat × List Nat × List Nat) → Env → Heap → Nat → Prop
 | [] => fun env H nx => K .normal env H nx dfs rc
 | (e, F, A) :: rest => fun env H nx => match ops[e]? with
  | some o => vAct P call ops o env H nx dfs rc (fun env' H' nx' => vFloats P ops res nx' (fun env'' H'' => vAgain P ops env'' H'' nx' A ∧ vStages P call ops res dfs rc K env0 rest env'' H'' nx') F env' H') K env0
  | none => False
theorem vStages_run {call : CallP} {res : Nat} {dfs : Dfs} {rc : Option AMode} {K : KP} {env0 : Env}
  (hm : ∀ f args H nx (K K' : EndP), call f args H nx K → (∀ e H' nx', K e H' nx' → K' e H' nx') → call f args H nx K') :
  ∀ (rest : List Stage) (env : Env) (H : Heap) (nx : Nat), vStages P call ops res dfs rc K env0 rest env H nx →
   RunP P (decC call) ops res dfs rc (fun l H nx => K (.pan l) env0 H nx dfs rc) (fun env H nx => K .normal env H nx dfs rc) rest env H nx
 | [], _, _, _, h => h
 | (e, L, A) :: rest, env, H, nx, h => by
  intro oe hoe
  have h' : (match ops[e]? with
   | some o => vAct P call ops o env H nx dfs rc (fun env' H' nx' => vFloats P ops res nx' (fun env'' H'' => vAgain P ops env'' H'' nx' A ∧ vStages P call ops res dfs rc K env0 rest env'' H'' nx') L env' H') K env0
   | none => False) := h
  rw [hoe] at h'
  refine ⟨_, decK K env0, vAct_ok hm h', fun l H1 nx1 hk => dec_iff.1 hk, fun env1 H1 nx1 hk => ?_⟩
  refine ⟨_, vFloats_ok (dec_iff.1 hk), fun env2 H2 hk2 => ?_⟩
  obtain ⟨h1, h2⟩ := dec_iff.1 hk2
  exact ⟨vAgain_ok h1, vStages_run hm rest env2 H2 nx1 h2⟩
def vDrawn (P : Program) (call : CallP) (nt : Nat) (ops : Array Oper) (K : KP) : KC := fun env H nx dfs rc =>
 match planOK nt ops with
 | true => vFloats P ops nx (Nat.add nx ops.size) (fun env' H' => vAgain P ops env' H' (Nat.add nx ops.size) (planA ops) ∧
   vStages P call ops nx dfs rc K (blank ops.toList env) (planS ops) env' H' (Nat.add nx ops.size)) (plan0 ops) env H
 | false => False
theorem vDrawn_wp {call : CallP} {dfs : Dfs} {rc : Option AMode} {K : KP} (hm : P.follows .mixedOrders = true)
  (hcm : ∀ f args H nx (K K' : EndP), call f args H nx K → (∀ e H' nx', K e H' nx' → K' e H' nx') → call f args H nx K')
  (hc : CallSP P call) (h : vDrawn P call nt ops K env H nx dfs rc) (id : Nat)
  (σ : Sg) (w : World) (a : Act) (Q : Exit → Act → World → Prop) (hr : Rel σ H nx w) (ha : ARel σ nt env dfs a)
  (hQ : ∀ ex env' H' nx' σ' w' a' e, K ex env' H' nx' dfs rc → Rel σ' H' nx' w' → Ext σ σ' H H' nx nx' w w' → ARel σ' nt env' dfs a' → ExRel σ' ex e → Q e a' w') :
  (Code.region id ops true).wp P Q a w := by
 unfold vDrawn at h
 split at h <;> try exact h.elim
 rename_i hplan
 have hlim : nx + ops.size ≤ nx + ops.size := Nat.le_refl _
 unfold planOK at hplan
 split at hplan <;> try (cases hplan; done)
 rename_i past hnt hops hF
 split at hplan <;> try (cases hplan; done)
 rename_i hA hS hcov
 have hn : nt ≤ 256 := Nat.le_of_ble_eq_true hnt
 have F := opsOK_fact hops
 obtain ⟨env1, H1, hk, b1, b2, b3, b4, b5⟩ := floatsK_ok F hn hlim (plan0 ops) [] past env H hF (vFloats_ok h)
 obtain ⟨hag0, hk⟩ := dec_iff.1 hk
 have hag : againK P ops env1 H1 (Nat.add nx ops.size) (planA ops) = true := vAgain_ok hag0
 have hpast : ∀ i, i ∈ past → ∃ o, ops[i]? = some o ∧ (cls o.op = 0 ∨ cls o.op = 1) := by
  intro i hi
  rcases (chkF_past hF i).1 hi with hi | hi
  ·cases hi
  ·obtain ⟨o, ho, hne⟩ := chkF_cls hF i hi
   refine ⟨o, ho, ?_⟩
   have : cls o.op = 0 ∨ cls o.op = 1 ∨ cls o.op = 2 := by
    unfold cls
    split <;> first | exact .inl rfl | exact .inr (.inl rfl) | exact .inr (.inr rfl) | skip
    split <;> first | exact .inl rfl | exact .inr (.inr rfl)
   rcases this with h | h | h
   ·exact .inl h
   ·exact .inr h
   ·exact (hne h).elim
 have hblank : ∀ t, t < 256 → get2 t (blank ops.toList env) = .und ∨ ((∀ (j : Nat) (q : Oper), ops[j]? = some q → q.dst ≠ some t) ∧ get2 t (blank ops.toList env) = get2 t env1) := by
  intro t ht
  have hd : ∀ o, o ∈ ops.toList → dstOK nt o.dst = true := fun o ho => by
   obtain ⟨i, hi⟩ := List.mem_iff_getElem?.1 ho
   exact F.dst i o (by simpa using hi)
  rcases blank_get hn ops.toList env t ht hd with h | ⟨h1, h2⟩
  ·exact .inl h
  ·have h3 : ∀ (j : Nat) (q : Oper), ops[j]? = some q → q.dst ≠ some t := fun j q hq => h1 q (by simpa using Array.mem_of_getElem? hq)
   exact .inr ⟨h3, by rw [h2, b1 t ht fun j q _ hq => h3 j q hq]⟩
 have hrun := vStages_run hcm (planS ops) env1 H1 (Nat.add nx ops.size) hk
 refine wp_region_any hm ?_
 have none' : ∀ b, nx ≤ b → σ b = none := fun b hb => by
  cases e : σ b with
  | none => rfl
  | some p => obtain ⟨cb, sz⟩ := p; have := (hr.dom b cb sz e).1; omega
 have := stages_sem (call := decC call) [] (decC_ok hc) F hn hlim (planS ops) none past env1 H1 (Nat.add nx ops.size) hS (fun s _ i hi => by cases hi) hpast hblank hrun σ H w Q
  (fun l H' nx' σ' w' a' c hk R E A C => hQ (.pan l) _ H' nx' σ' w' a' (.panic c) hk R E A C)
  (fun env' H' nx' hk hp => tail_nil F hn hp fun σ' w' a' R E A => hQ .normal env' H' nx' σ' w' a' .normal hk R E A trivial)
 rw [List.append_nil] at this
 refine this ops.size _ σ _ a ⟨by simp, ha.env.size, ?_, ?_, ?_, ?_, ?_, ?_, ?_, Nat.le_refl _, ?_, ?_, ha.dfs⟩ ?_
 ·exact fun i j h => (isL_none h).elim
 ·exact fun i _ h => isL_none h
 ·intro i hi
  have := memN_ok (allL_ok hcov i (List.mem_range.2 hi))
  rcases List.mem_append.1 this with h | h
  ·exact .inl ((chkF_past hF i).2 (.inr h))
  ·exact .inr (.inl h)
 ·intro t ht hown
  rw [b1 t ht fun j q _ hq hd => isL_none (hown j q hq hd)]
  exact ha.env.den t ht
 ·intro j q hj hq _ hcl
  cases hip : impure q.op with
  | true =>
   have h1 := allL_ok hA j hj
   rw [hq] at h1
   simp only [hip] at h1
   have hmem : j ∈ planA ops := by
    split at h1
    ·exact memN_ok ‹_›
    ·rw [bit_eq] at h1; simp at h1
   have h3 := allL_ok hag j hmem
   rw [hq] at h3
   exact again1_fl0 hcl h3
  | false =>
   rcases (chkF_past hF j).1 hj with hj | hj
   ·cases hj
   ·exact b5 j q hj hq hcl hip
 ·intro j q hj hq _ hcl
  rcases (chkF_past hF j).1 hj with hj | hj
  ·cases hj
  ·exact b4 j q hj hq hcl
 ·exact fun i _ _ => none' _ (by omega)
 ·exact (b3 σ w (hr.more (Nat.le_add_right _ _) hlim) fun j _ => none' _ (by omega)).drew
 ·have E := Ext.drew σ H nx w
  refine ⟨E.sub, E.rng, ?_, Nat.le_add_right _ _, rfl, rfl, rfl, Nat.le_refl _, fun _ _ _ => rfl⟩
  intro b hb h0
  exact ⟨h0, b2 b (by omega) fun j _ => by omega⟩
 ·unfold left
  have := List.countP_le_length (p := fun i => !(Array.replicate ops.size false).getD i false) (l := List.range ops.size)
  simpa using this
def learn (c : Operand) (b : Bool) (env : Env) : Env := match c with
 | .tmp t => set2 t (.bool b) env
 | _ => env
theorem learn_eq {c : Operand} {b : Bool} (h : aev env c = .bool b) : learn c b env = env := by
 cases c with
 | tmp t =>
  have h' : (Bool.rec .und (get2 t env) (Nat.ble t 255) : AVal) = .bool b := h
  cases e : Nat.ble t 255 with
  | false => rw [e] at h'; cases h'
  | true => rw [e] at h'; exact set2_self h'
 | const v => rfl
 | global g => rfl
 | func f => rfl
def vK (P : Program) (call : CallP) (lp : LoopP) (nt : Nat) : Code → Env → Heap → Nat → Dfs → Option AMode → KP → Prop
 | .skip => fun env H nx dfs rc K => K .normal env H nx dfs rc
 | .region _ ops false => fun env H nx dfs rc K => vOps P call nt ops K ops.toList env H nx dfs rc
 | .region _ ops true => fun env H nx dfs rc K => vDrawn P call nt ops K env H nx dfs rc
 | .seq a b => fun env H nx dfs rc K => vK P call lp nt a env H nx dfs rc fun e env H nx dfs rc => match e with
  | .normal => vK P call lp nt b env H nx dfs rc K
  | .exit id => K (.exit id) env H nx dfs rc
  | .ret => K .ret env H nx dfs rc
  | .pan l => K (.pan l) env H nx dfs rc
 | .cond c a b => fun env H nx dfs rc K => match aev env c with
  | .bool p => Bool.rec (vK P call lp nt b (learn c false env) H nx dfs rc K) (vK P call lp nt a (learn c true env) H nx dfs rc K) p
  | _ => False
 | .block id a => fun env H nx dfs rc K => vK P call lp nt a env H nx dfs rc fun e env H nx dfs rc => match e with
  | .normal => K .normal env H nx dfs rc
  | .exit j => match Nat.beq j id with
   | true => K .normal env H nx dfs rc
   | false => K (.exit j) env H nx dfs rc
  | .ret => K .ret env H nx dfs rc
  | .pan l => K (.pan l) env H nx dfs rc
 | .loop a => fun env H nx dfs rc K => lp a env H nx dfs rc K
 | .exit id => fun env H nx dfs rc K => K (.exit id) env H nx dfs rc
 | .ret => fun env H nx dfs rc K => K .ret env H nx dfs rc
 | _ => fun _ _ _ _ _ _ => False
def LoopS (P : Program) (nt : Nat) (lp : LoopP) : Prop := ∀ a env H nx dfs K, lp a env H nx dfs none K →
 ∀ σ w act Q, Rel σ H nx w → ARel σ nt env dfs act → PostP nt K σ H nx w Q → (Code.loop a).wp P Q act w
theorem vK_none {call : CallP} {lp : LoopP} (hm : P.follows .mixedOrders = true)
  (hcm : ∀ f args H nx (K K' : EndP), call f args H nx K → (∀ e H' nx', K e H' nx' → K' e H' nx') → call f args H nx K') (hc : CallSP P call) (hl : LoopS P nt lp) :
  ∀ (c : Code) (env : Env) (H : Heap) (nx : Nat) (dfs : Dfs) (K : KP), vK P call lp nt c env H nx dfs none K →
   ∀ σ w a Q, Rel σ H nx w → ARel σ nt env dfs a → PostP nt K σ H nx w Q → c.wp P Q a w := by
 intro c
 induction c with
 | skip => exact fun env H nx dfs K h σ w a Q hr ha hQ => wp_skip (hQ .normal env H nx dfs σ w a .normal h hr (Ext.refl _ _ _ _) ha trivial)
 | region id ops draw =>
  intro env H nx dfs K h σ w a Q hr ha hQ
  cases draw with
  | false => exact wp_region_list (vOps_none hc ops.toList env H nx dfs h σ w a Q hr ha hQ)
  | true => exact vDrawn_wp hm hcm hc h id σ w a Q hr ha fun ex env' H' nx' σ' w' a' e hk R E A X => hQ ex env' H' nx' dfs σ' w' a' e hk R E A X
 | seq x y ihx ihy =>
  intro env H nx dfs K h σ w a Q hr ha hQ
  refine wp_seq (ihx env H nx dfs _ h σ w a _ hr ha ?_)
  intro ex env' H' nx' dfs' σ' w' a' e hk R E A X
  cases ex with
  | normal => cases e <;> first | exact X.elim | exact ihy env' H' nx' dfs' K hk σ' w' a' Q R A (hQ.from E)
  | exit id => cases e <;> first | exact X.elim | exact hQ _ _ _ _ _ σ' w' a' _ hk R E A X
  | ret => cases e <;> first | exact X.elim | exact hQ _ _ _ _ _ σ' w' a' _ hk R E A X
  | pan l => cases e <;> first | exact X.elim | exact hQ _ _ _ _ _ σ' w' a' _ hk R E A X
 | cond c x y ihx ihy =>
  intro env H nx dfs K h σ w a Q hr ha hQ
  have h' : (match aev env c with
   | .bool p => Bool.rec (vK P call lp nt y (learn c false env) H nx dfs none K) (vK P call lp nt x (learn c true env) H nx dfs none K) p
   | _ => False) := h
  split at h' <;> first | exact h'.elim | skip
  rename_i p hp
  cases p with
  | true =>
   have h2 : vK P call lp nt x (learn c true env) H nx dfs none K := h'
   rw [learn_eq hp] at h2
   exact wp_cond (t := true) (eval_bool ha hp) (ihx env H nx dfs K h2 σ w a Q hr ha hQ)
  | false =>
   have h2 : vK P call lp nt y (learn c false env) H nx dfs none K := h'
   rw [learn_eq hp] at h2
   exact wp_cond (t := false) (eval_bool ha hp) (ihy env H nx dfs K h2 σ w a Q hr ha hQ)
 | block id x ihx =>
  intro env H nx dfs K h σ w a Q hr ha hQ
  refine wp_block (ihx env H nx dfs _ h σ w a _ hr ha ?_)
  intro ex env' H' nx' dfs' σ' w' a' e hk R E A X
  cases ex with
  | normal => cases e <;> first | exact X.elim | exact hQ _ _ _ _ _ σ' w' a' _ hk R E A X
  | exit j =>
   cases e <;> try exact X.elim
   have X' : j = _ := X
   subst X'
   cases hb : Nat.beq j id with
   | true =>
    have hid := Nat.eq_of_beq_eq_true hb
    simp only [hb] at hk
    simp only [Exit.inBlock, hid, if_true]
    exact hQ _ _ _ _ _ σ' w' a' .normal hk R E A trivial
   | false =>
    have hid : j ≠ id := fun e => by subst e; simp at hb
    simp only [hb] at hk
    simp only [Exit.inBlock, hid, if_false]
    exact hQ _ _ _ _ _ σ' w' a' _ hk R E A rfl
  | ret => cases e <;> first | exact X.elim | exact hQ _ _ _ _ _ σ' w' a' _ hk R E A X
  | pan l => cases e <;> first | exact X.elim | exact hQ _ _ _ _ _ σ' w' a' _ hk R E A X
 | loop x _ =>
  intro env H nx dfs K h σ w a Q hr ha hQ
  exact hl x env H nx dfs _ h σ w a Q hr ha hQ
 | exit id => exact fun env H nx dfs K h σ w a Q hr ha hQ => wp_exit (hQ _ env H nx dfs σ w a (.exit id) h hr (Ext.refl _ _ _ _) ha rfl)
 | ret => exact fun env H nx dfs K h σ w a Q hr ha hQ => wp_ret (hQ _ env H nx dfs σ w a .ret h hr (Ext.refl _ _ _ _) ha trivial)
 | rangeFunc f p x y => exact fun env H nx dfs K h => h.elim
 | scope x => exact fun env H nx dfs K h => h.elim
 | label l => exact fun env H nx dfs K h => h.elim
 | goto l => exact fun env H nx dfs K h => h.elim
 | refuse s => exact fun env H nx dfs K h => h.elim
def EnvLe (e env : Env) : Prop := ∀ t, t < 256 → e t = .und ∨ e t = env t
theorem EnvLe.refl (e : Env) : EnvLe e e := fun _ _ => .inr rfl
theorem ARel.weaken {σ : Sg} {e env : Env} {dfs : Dfs} {a : Act} (h : ARel σ nt env dfs a) (hle : EnvLe e env) : ARel σ nt e dfs a := by
 refine ⟨⟨h.env.size, h.env.le, fun t ht => ?_⟩, h.dfs⟩
 rcases hle t ht with q | q
 ·show Den σ (e t) _
  rw [q]; exact .und _
 ·show Den σ (e t) _
  rw [q]; exact h.env.den t ht
theorem loop_rule {call : CallP} {lp : LoopP} (hm : P.follows .mixedOrders = true)
  (hcm : ∀ f args H nx (K K' : EndP), call f args H nx K → (∀ e H' nx', K e H' nx' → K' e H' nx') → call f args H nx K') (hc : CallSP P call) (hl : LoopS P nt lp)
  {a : Code} {K : KP} (Inv : Nat → Env → Heap → Nat → Dfs → Prop) (Kx : Nat → Dfs → KP)
  (hKx : ∀ m dfs ex env' H' nx' dfs', Kx m dfs ex env' H' nx' dfs' none → match ex with
   | .normal => ∃ m' env'', m' < m ∧ EnvLe env'' env' ∧ Inv m' env'' H' nx' dfs'
   | ex => ∃ env'', EnvLe env'' env' ∧ K ex env'' H' nx' dfs' none)
  (step : ∀ m env H nx dfs, Inv m env H nx dfs → vK P call lp nt a env H nx dfs none (Kx m dfs))
  {m0 : Nat} {env : Env} {H : Heap} {nx : Nat} {dfs : Dfs} (h0 : Inv m0 env H nx dfs) :
  ∀ σ w act Q, Rel σ H nx w → ARel σ nt env dfs act → PostP nt K σ H nx w Q → (Code.loop a).wp P Q act w := by
 intro σ w act Q hr ha hQ
 let J : Nat → Act → World → Prop := fun m act w => ∃ env H nx dfs σ, Inv m env H nx dfs ∧ Rel σ H nx w ∧ ARel σ nt env dfs act ∧ PostP nt K σ H nx w Q
 have hJ : J m0 act w := ⟨env, H, nx, dfs, σ, h0, hr, ha, hQ⟩
 have round : ∀ m act w, J m act w → a.wp P (Exit.then (fun a' w' => ∃ m', m' < m ∧ J m' a' w') Q) act w := by
  rintro m act w ⟨env, H, nx, dfs, σ, hI, hr, ha, hQ⟩
  refine vK_none hm hcm hc hl a env H nx dfs _ (step m env H nx dfs hI) σ w act _ hr ha ?_
  intro ex env' H' nx' dfs' σ' w' a' e hk R E A X
  have hk' := hKx m dfs ex env' H' nx' dfs' hk
  cases ex with
  | normal =>
   cases e <;> try exact X.elim
   obtain ⟨m', env'', hlt, hle, hI'⟩ := hk'
   exact ⟨m', hlt, env'', H', nx', dfs', σ', hI', R, A.weaken hle, hQ.from E⟩
  | exit id =>
   obtain ⟨env'', hle, hk2⟩ := hk'
   cases e <;> first | exact X.elim | exact hQ (.exit id) env'' _ _ _ σ' w' a' _ hk2 R E (A.weaken hle) X
  | ret =>
   obtain ⟨env'', hle, hk2⟩ := hk'
   cases e <;> first | exact X.elim | exact hQ .ret env'' _ _ _ σ' w' a' _ hk2 R E (A.weaken hle) X
  | pan l =>
   obtain ⟨env'', hle, hk2⟩ := hk'
   cases e <;> first | exact X.elim | exact hQ (.pan l) env'' _ _ _ σ' w' a' _ hk2 R E (A.weaken hle) X
 have least : ∀ act w, (∃ m, J m act w) → ∃ m, J m act w ∧ ∀ m', J m' act w → m ≤ m' := by
  rintro act w ⟨m, h⟩
  induction m using Nat.strongRecOn with
  | _ m ih =>
   by_cases hx : ∃ m', m' < m ∧ J m' act w
   ·obtain ⟨m', hlt, h'⟩ := hx
    exact ih m' hlt h'
   ·exact ⟨m, h, fun m' h' => Nat.le_of_not_lt fun hlt => hx ⟨m', hlt, h'⟩⟩
 let μ : Act → World → Nat := fun act w => @dite Nat (∃ m, J m act w) (Classical.propDecidable _) (fun h => Classical.choose (least act w h)) (fun _ => 0)
 have μs : ∀ act w, (∃ m, J m act w) → J (μ act w) act w ∧ ∀ m', J m' act w → μ act w ≤ m' := by
  intro act w h
  have : μ act w = Classical.choose (least act w h) := by simp only [μ, h, dite_true]
  rw [this]
  exact Classical.choose_spec (least act w h)
 refine wp_loop (fun act w => ∃ m, J m act w) μ ⟨m0, hJ⟩ ?_
 intro act w h
 obtain ⟨h1, _⟩ := μs act w h
 refine wp_mono (round _ act w h1) ?_
 intro e a' w' hq
 cases e with
 | normal =>
  obtain ⟨m', hlt, hj⟩ := hq
  exact ⟨⟨m', hj⟩, Nat.lt_of_le_of_lt ((μs a' w' ⟨m', hj⟩).2 m' hj) hlt⟩
 | exit id => exact hq
 | goto l => exact hq
 | ret => exact hq
 | panic c => exact hq
 | outgrown => exact hq
end
end Go.Vs
end
section
namespace Go.Vs
variable [GTab] {P : Program} {H : Heap} {nx : Nat} {env : Env}
noncomputable section
def vRes (P : Program) (env : Env) (H : Heap) : List ResultVar → (List AVal → Prop) → Prop
 | [], k => k []
 | .tmp t :: l, k => match Nat.ble t 255 with
  | true => vRes P env H l fun vs => k (get2 t env :: vs)
  | false => False
 | .cell a t :: l, k => match Nat.ble a 255 with
  | true => vLoad P t H (get2 a env) fun v => vRes P env H l fun vs => k (v :: vs)
  | false => False
theorem vRes_ok : ∀ {l : List ResultVar} {k : List AVal → Prop}, vRes P env H l k → ∃ vs, resultsA P env H l = some vs ∧ k vs
 | [], _, h => ⟨[], rfl, h⟩
 | .tmp t :: l, k, h => by
  unfold vRes at h
  split at h <;> try exact h.elim
  rename_i hb
  obtain ⟨vs, e, h⟩ := vRes_ok h
  exact ⟨_, by unfold resultsA; simp only [hb, e], h⟩
 | .cell a t :: l, k, h => by
  unfold vRes at h
  split at h <;> try exact h.elim
  rename_i hb
  obtain ⟨v, e1, h⟩ := vLoad_ok h
  obtain ⟨vs, e, h⟩ := vRes_ok h
  exact ⟨_, by unfold resultsA; simp only [hb, e, e1], h⟩
def leaveV (P : Program) (calld : CallDP) (rs : List ResultVar) (env : Env) : Dfs → AMode → Heap → Nat → EndP → Prop
 | [], m, H, nx, K => match m with
  | .returning => vRes P env H rs fun vs => K (.ret (oneOf vs)) H nx
  | .panicking l => K (.pan l) H nx
 | (g, args) :: dfs, m, H, nx, K => calld g args m H nx fun e m' H' nx' => onEnd e (fun _ => leaveV P calld rs env dfs (settleA m') H' nx' K) (fun l => leaveV P calld rs env dfs (raisedA m' l) H' nx' K)
theorem leaveV_ok {calld : CallDP} (hcd : CallDSP P calld) {fn : Func} {nt : Nat} :
  ∀ (dfs : Dfs) (m : AMode) (H : Heap) (nx : Nat) (K : EndP), leaveV P calld fn.results.toList env dfs m H nx K →
   ∀ σ w u ds tmps R, Rel σ H nx w → EnvRel σ nt env tmps → DfsRel σ dfs ds → MRel σ m u →
    (∀ e H' nx' σ' w' en, K e H' nx' → Rel σ' H' nx' w' → Ext σ σ' H H' nx nx' w w' → EndRel σ' e en → R en w') → Leaves P fn tmps R ds u w
 | [], m, H, nx, K, h => by
  intro σ w u ds tmps R hr he hdf hm hR
  cases m with
  | returning =>
   have h' : vRes P env H fn.results.toList (fun vs => K (.ret (oneOf vs)) H nx) := h
   obtain ⟨vs, hvs, h'⟩ := vRes_ok h'
   cases hdf
   cases u <;> try exact hm.elim
   obtain ⟨v', dv, hrun⟩ := results_ok hr he hvs
   exact ⟨v', hrun, hR _ _ _ σ w _ h' hr (Ext.refl _ _ _ _) dv⟩
  | panicking l =>
   cases hdf
   cases u <;> try exact hm.elim
   exact hR (.pan l) H nx σ w _ h hr (Ext.refl _ _ _ _) hm
 | (f, args) :: dfs, m, H, nx, K, h => by
  obtain ⟨hbody, tri⟩ := hcd f args m H nx _ h
  intro σ w u ds tmps R hr he hdf hm hR
  cases hdf with
  | @cons _ _ d _ l' hd ht =>
   obtain ⟨cap, htar, hargs⟩ := hd
   refine ⟨mode_ne hm, .func f, cap, f, d.args ++ cap, htar, ?_, ?_⟩
   ·rw [htar]
    simp only [invoke]
    exact run_callFunc hbody _ w
   ·have hl : (⟨(d.args ++ cap).toList⟩ : Array Value) = d.args ++ cap := rfl
    rw [← hl]
    refine tri σ w _ u _ hr hargs hm fun e m' H1 nx1 σ1 w1 en u1 hk R1 E1 X1 M1 => ?_
    cases e with
    | ret v =>
     cases en with
     | returned v' => exact leaveV_ok hcd dfs _ H1 nx1 K (hk.1 v rfl) σ1 w1 (settle u1) l' tmps R R1 (he.mono E1.sub) (ht.mono E1.sub) (settle_ok M1) fun e2 H2 nx2 σ2 w2 en2 hk2 R2 E2 X2 => hR e2 H2 nx2 σ2 w2 en2 hk2 R2 (E1.trans E2) X2
     | panicked c => exact X1.elim
     | outgrown => exact X1.elim
    | pan l =>
     cases en with
     | returned v' => exact X1.elim
     | panicked c => exact leaveV_ok hcd dfs _ H1 nx1 K (hk.2 l rfl) σ1 w1 (raised u1 c) l' tmps R R1 (he.mono E1.sub) (ht.mono E1.sub) (raised_ok M1 X1) fun e2 H2 nx2 σ2 w2 en2 hk2 R2 E2 X2 => hR e2 H2 nx2 σ2 w2 en2 hk2 R2 (E1.trans E2) X2
     | outgrown => exact X1.elim
def LpP (P : Program) (nt : Nat) : LoopP := fun a env H nx dfs _ K =>
 ∀ σ w act Q, Rel σ H nx w → ARel σ nt env dfs act → PostP nt K σ H nx w Q → (Code.loop a).wp P Q act w
theorem LpP_ok (P : Program) (nt : Nat) : LoopS P nt (LpP P nt) := fun _ _ _ _ _ _ h => h
def vBody (P : Program) (call : CallP) (lp : Nat → LoopP) (f : FuncId) (args : List AVal) (H : Heap) (nx : Nat) (K : List ResultVar → KP) : Prop :=
 match P.funcs[f]? with
 | some fn => match fn.body, Nat.ble fn.ntmps 256, Nat.ble args.length fn.ntmps with
  | some c, true, true => vK P call (lp fn.ntmps) fn.ntmps c (enterEnv args 0 (all2 (.tuple []))) H nx [] none (K fn.results.toList)
  | _, _, _ => False
 | none => False
def tmpsOf (env : Env) : List ResultVar → Option (List AVal)
 | [] => some []
 | .tmp t :: l => match Nat.ble t 255, tmpsOf env l with
  | true, some vs => some (get2 t env :: vs)
  | _, _ => none
 | .cell _ _ :: _ => none
theorem vRes_tmps : ∀ {l : List ResultVar} {vs : List AVal} {k : List AVal → Prop}, tmpsOf env l = some vs → k vs → vRes P env H l k
 | [], _, _, e, h => by cases e; exact h
 | .tmp t :: l, vs, k, e, h => by
  unfold tmpsOf at e
  split at e <;> try (cases e; done)
  rename_i vs' hb hl
  cases e
  unfold vRes
  simp only [hb]
  exact vRes_tmps hl h
 | .cell _ _ :: _, _, _, e, _ => by cases e
abbrev LeaveP := List AVal → Dfs → AMode → Heap → Nat → EndP → Prop
abbrev LeaveC := List ResultVar → Env → Dfs → AMode → Heap → Nat → EndP → Prop
def lvSem (calld : CallDP) : LeaveP := fun vs dfs => match dfs with
 | [] => fun m H nx K => match m with
  | .returning => K (.ret (oneOf vs)) H nx
  | .panicking l => K (.pan l) H nx
 | (g, args) :: dfs => fun m H nx K => calld g args m H nx fun e m' H' nx' => onEnd e (fun _ => lvSem calld vs dfs (settleA m') H' nx' K) (fun l => lvSem calld vs dfs (raisedA m' l) H' nx' K)
theorem TriDP_mono (P : Program) {f : FuncId} {args : List AVal} {m : AMode} {K K' : AEnd → AMode → Heap → Nat → Prop} (h : TriDP P f args m H nx K) (hk : ∀ e m' H' nx', K e m' H' nx' → K' e m' H' nx') : TriDP P f args m H nx K' :=
 ⟨h.1, fun σ w args' u R hr hd hm hR => h.2 σ w args' u R hr hd hm fun e m' H' nx' σ' w' en u' k => hR e m' H' nx' σ' w' en u' (hk _ _ _ _ k)⟩
theorem lvSem_ok {rs : List ResultVar} {vs : List AVal} {K : EndP} (e : tmpsOf env rs = some vs) : ∀ {dfs : Dfs} {m : AMode} {H : Heap} {nx : Nat}, lvSem (TriDP P) vs dfs m H nx K → leaveV P (TriDP P) rs env dfs m H nx K
 | [], m, H, nx, h => by
  cases m with
  | returning => exact vRes_tmps e h
  | panicking l => exact h
 | (g, args) :: dfs, m, H, nx, h => by
  refine TriDP_mono P h fun e' m' H' nx' hk => ⟨fun v hv => ?_, fun l hl => ?_⟩
  ·exact lvSem_ok e (hk.1 v hv)
  ·exact lvSem_ok e (hk.2 l hl)
def endK (P : Program) (lv : LeaveP) (lvc : LeaveC) (K : EndP) (rs : List ResultVar) : KP := fun e env H nx dfs _ => match e with
 | .normal => match dfs with
  | [] => vRes P env H rs fun vs => K (.ret (oneOf vs)) H nx
  | d :: ds => match tmpsOf env rs with
   | some vs => lv vs (d :: ds) .returning H nx K
   | none => lvc rs env (d :: ds) .returning H nx K
 | .ret => match dfs with
  | [] => vRes P env H rs fun vs => K (.ret (oneOf vs)) H nx
  | d :: ds => match tmpsOf env rs with
   | some vs => lv vs (d :: ds) .returning H nx K
   | none => lvc rs env (d :: ds) .returning H nx K
 | .pan l => match dfs with
  | [] => K (.pan l) H nx
  | d :: ds => match tmpsOf env rs with
   | some vs => lv vs (d :: ds) (.panicking l) H nx K
   | none => lvc rs env (d :: ds) (.panicking l) H nx K
 | .exit _ => False
theorem endK_ok {K : EndP} {rs : List ResultVar} {dfs : Dfs} {rc : Option AMode} {e : AExit} (h : endK P (lvSem (TriDP P)) (leaveV P (TriDP P)) K rs e env H nx dfs rc) :
  match e with
  | .normal => leaveV P (TriDP P) rs env dfs .returning H nx K
  | .ret => leaveV P (TriDP P) rs env dfs .returning H nx K
  | .pan l => leaveV P (TriDP P) rs env dfs (.panicking l) H nx K
  | .exit _ => False := by
 cases e with
 | exit _ => exact h
 | normal =>
  cases dfs with
  | nil => exact h
  | cons d ds =>
   have h' : (match tmpsOf env rs with
    | some vs => lvSem (TriDP P) vs (d :: ds) .returning H nx K
    | none => leaveV P (TriDP P) rs env (d :: ds) .returning H nx K) := h
   split at h'
   ·exact lvSem_ok ‹_› h'
   ·exact h'
 | ret =>
  cases dfs with
  | nil => exact h
  | cons d ds =>
   have h' : (match tmpsOf env rs with
    | some vs => lvSem (TriDP P) vs (d :: ds) .returning H nx K
    | none => leaveV P (TriDP P) rs env (d :: ds) .returning H nx K) := h
   split at h'
   ·exact lvSem_ok ‹_› h'
   ·exact h'
 | pan l =>
  cases dfs with
  | nil => exact h
  | cons d ds =>
   have h' : (match tmpsOf env rs with
    | some vs => lvSem (TriDP P) vs (d :: ds) (.panicking l) H nx K
    | none => leaveV P (TriDP P) rs env (d :: ds) (.panicking l) H nx K) := h
   split at h'
   ·exact lvSem_ok ‹_› h'
   ·exact h'
theorem TriP_mono (P : Program) : ∀ f args H nx (K K' : EndP), TriP P f args H nx K → (∀ e H' nx', K e H' nx' → K' e H' nx') → TriP P f args H nx K' := fun _ _ _ _ _ _ h hk => h.mono hk
theorem TriP.of_body (hm : P.follows .mixedOrders = true) {f : FuncId} {args : List AVal} {K : EndP}
  (h : vBody P (TriP P) (LpP P) f args H nx (endK P (lvSem (TriDP P)) (leaveV P (TriDP P)) K)) : TriP P f args H nx K := by
 unfold vBody at h
 split at h <;> try exact h.elim
 rename_i fn hf
 split at h <;> try exact h.elim
 rename_i c hb hn ha
 have hn' : fn.ntmps ≤ 256 := Nat.le_of_ble_eq_true hn
 have ha' : args.length ≤ fn.ntmps := Nat.le_of_ble_eq_true ha
 intro σ w args' R hr hda hR
 refine calls_of_wp_defers hf hb ?_
 have hEnv := enter_rel hn' ha' hda
 refine vK_none hm (TriP_mono P) (fun _ _ _ _ _ h => h) (LpP_ok P _) c _ H nx [] _ h σ w _ _ hr ⟨hEnv, .nil⟩ ?_
 intro ex env' H' nx' dfs' σ' w' a' e hk R1 E1 A1 X1
 have fin : ∀ m u, MRel σ' m u → leaveV P (TriDP P) fn.results.toList env' dfs' m H' nx' K → Leaves P fn a'.tmps R a'.defers u w' := by
  intro m u hmu hlv
  exact leaveV_ok (fn := fn) (nt := fn.ntmps) (fun _ _ _ _ _ _ h => h) dfs' m H' nx' K hlv σ' w' u a'.defers a'.tmps R R1 A1.env A1.dfs hmu
   fun e2 H2 nx2 σ2 w2 en2 hk2 R2 E2 X2 => hR e2 H2 nx2 σ2 w2 en2 hk2 R2 (E1.trans E2) X2
 have hk := endK_ok hk
 cases ex with
 | normal => cases e <;> first | exact X1.elim | exact fin .returning .returning trivial hk
 | ret => cases e <;> first | exact X1.elim | exact fin .returning .returning trivial hk
 | pan l =>
  cases e <;> try exact X1.elim
  exact fin (.panicking l) (.panicking _) X1 hk
 | exit i => exact hk.elim
end
end Go.Vs
end
section
namespace Go.Vs
variable [GTab] {env : Env}
noncomputable section
def subAt : Code → List Nat → Code
 | .seq a _, 0 :: p => subAt a p
 | .seq _ b, _ :: p => subAt b p
 | .cond _ a _, 0 :: p => subAt a p
 | .cond _ _ b, _ :: p => subAt b p
 | .block _ a, _ :: p => subAt a p
 | .loop a, _ :: p => subAt a p
 | c, _ => c
def contAt (P : Program) (call : CallP) (lp : LoopP) (nt : Nat) : Code → List Nat → KP → KP
 | .seq a b, 0 :: p, K => contAt P call lp nt a p fun e env H nx dfs rc => match e with
  | .normal => vK P call lp nt b env H nx dfs rc K
  | .exit id => K (.exit id) env H nx dfs rc
  | .ret => K .ret env H nx dfs rc
  | .pan l => K (.pan l) env H nx dfs rc
 | .seq _ b, _ :: p, K => contAt P call lp nt b p K
 | .cond _ a _, 0 :: p, K => contAt P call lp nt a p K
 | .cond _ _ b, _ :: p, K => contAt P call lp nt b p K
 | .block id a, _ :: p, K => contAt P call lp nt a p fun e env H nx dfs rc => match e with
  | .normal => K .normal env H nx dfs rc
  | .exit j => match Nat.beq j id with
   | true => K .normal env H nx dfs rc
   | false => K (.exit j) env H nx dfs rc
  | .ret => K .ret env H nx dfs rc
  | .pan l => K (.pan l) env H nx dfs rc
 | _, _, K => K
def envL (base : AVal) : List (Nat × AVal) → Env
 | [] => all2 base
 | (t, v) :: l => set2 t v (envL base l)
def EnvAll (env : Env) : List (Nat × AVal) → Prop
 | [] => True
 | (t, v) :: l => env t = v ∧ EnvAll env l
theorem EnvLe.of_list : ∀ {l : List (Nat × AVal)}, EnvAll env l → EnvLe (envL .und l) env
 | [], _ => fun _ _ => .inl rfl
 | (t, v) :: l, ⟨h, hl⟩ => fun s hs => by
  show (Bool.rec (envL .und l s) v (Nat.beq s t) : AVal) = .und ∨ (Bool.rec (envL .und l s) v (Nat.beq s t) : AVal) = env s
  cases e : Nat.beq s t with
  | true => have := Nat.eq_of_beq_eq_true e; subst this; exact .inr h.symm
  | false => exact EnvLe.of_list hl s hs
def codeOf (P : Program) (f : FuncId) : Code := match P.funcs[f]? with
 | some fn => match fn.body with
  | some c => c
  | none => .skip
 | none => .skip
def resOf (P : Program) (f : FuncId) : List ResultVar := match P.funcs[f]? with
 | some fn => fn.results.toList
 | none => []
def newB (b : Nat) (cs : List AVal) (H : Heap) : Heap := set5 b (some (.cells cs.length (CT.ofL cs.length cs) [] false)) H
def newBN (b n : Nat) (cs : List AVal) (H : Heap) : Heap := set5 b (some (.cells n (CT.ofL n cs) [] false)) H
def loopK (N : KC) (X : Nat → KC) (R : KC) (Pn : List (AVal × Bool) → KC) : KP := fun e env H nx dfs rc => match e with
 | .normal => N env H nx dfs rc
 | .exit id => X id env H nx dfs rc
 | .ret => R env H nx dfs rc
 | .pan l => Pn l env H nx dfs rc
theorem loop_c {P : Program} (hm : P.follows .mixedOrders = true) {nt : Nat} {a : Code} {K : KP} {X Y : Type} (canon : X → Env) (canonY : Y → Env)
  (I : Nat → X → Heap → Nat → Prop) (J : Nat → Y → Heap → Nat → Prop) {env : Env} {H : Heap} {nx : Nat} {dfs : Dfs} {rc : Option AMode} (m0 : Nat) (x0 : X)
  (hle : EnvLe (canon x0) env) (h0 : I m0 x0 H nx)
  (step : ∀ m x H nx, I m x H nx → vK P (TriP P) (LpP P nt) nt a (canon x) H nx dfs none
   (loopK (fun env' H' nx' dfs' _ => dfs' = dfs ∧ ∃ m' x', m' < m ∧ EnvLe (canon x') env' ∧ I m' x' H' nx')
    (fun id env' H' nx' dfs' _ => dfs' = dfs ∧ ∃ y, EnvLe (canonY y) env' ∧ J id y H' nx')
    (fun env' H' nx' dfs' rc' => K .ret env' H' nx' dfs' rc') (fun l env' H' nx' dfs' rc' => K (.pan l) env' H' nx' dfs' rc')))
  (after : ∀ id y H nx, J id y H nx → K (.exit id) (canonY y) H nx dfs none) :
  LpP P nt a env H nx dfs rc K := by
 intro σ w act Q hr ha hQ
 refine loop_rule (call := TriP P) (lp := LpP P nt) hm (TriP_mono P) (fun _ _ _ _ _ h => h) (LpP_ok P nt) (K := K)
  (fun m env' H' nx' dfs' => dfs' = dfs ∧ ∃ x, env' = canon x ∧ I m x H' nx')
  (fun m _ => loopK (fun env' H' nx' dfs' _ => dfs' = dfs ∧ ∃ m' x', m' < m ∧ EnvLe (canon x') env' ∧ I m' x' H' nx')
    (fun id env' H' nx' dfs' _ => dfs' = dfs ∧ ∃ y, EnvLe (canonY y) env' ∧ J id y H' nx')
    (fun env' H' nx' dfs' rc' => K .ret env' H' nx' dfs' rc') (fun l env' H' nx' dfs' rc' => K (.pan l) env' H' nx' dfs' rc')) ?_ ?_
  (m0 := m0) (env := canon x0) (H := H) (nx := nx) (dfs := dfs) ⟨rfl, x0, rfl, h0⟩ σ w act Q hr (ha.weaken hle) hQ
 ·intro m dfs1 ex env' H' nx' dfs' h
  cases ex with
  | normal =>
   obtain ⟨h1, m', x', h2, h3, h4⟩ := h
   exact ⟨m', canon x', h2, h3, h1, x', rfl, h4⟩
  | exit id =>
   obtain ⟨rfl, y, h2, h3⟩ := h
   exact ⟨canonY y, h2, after id y H' nx' h3⟩
  | ret => exact ⟨env', EnvLe.refl _, h⟩
  | pan l => exact ⟨env', EnvLe.refl _, h⟩
 ·rintro m env' H' nx' dfs' ⟨rfl, x, rfl, hI⟩
  exact step m x H' nx' hI
end
end Go.Vs
end
section
namespace Go.Vs
variable [GTab] {H : Heap}
noncomputable section
theorem newB_same (b : Nat) (cs : List AVal) (H : Heap) : newB b cs H b = some (.cells cs.length cs [] false) := by
 show get5 b (set5 b _ H) = _
 rw [get5_set5_same, CT.ofL_eq rfl]
theorem newB_ne {b c : Nat} {cs : List AVal} (h : c ≠ b) : newB b cs H c = H c := by
 show get5 c (set5 b _ H) = get5 c H
 exact get5_ne (fun e => h e.symm) (by omega) (by omega)
def Has (H : Heap) (b : Nat) (cs : List AVal) : Prop := H b = some (.cells cs.length cs [] false)
theorem has_new (b : Nat) (cs : List AVal) (H : Heap) : Has (newB b cs H) b cs := newB_same b cs H
theorem Has.ne {b c : Nat} {cs ds : List AVal} (h : Has H c cs) (hne : c ≠ b) : Has (newB b ds H) c cs := (newB_ne hne).trans h
theorem relay_eq {l ct : List AVal} {off n : Nat} (hn : ct.length = n) (h : off + l.length ≤ n) : relay l l.length off n ct = ct.take off ++ l ++ ct.drop (off + l.length) := by
 unfold relay
 split
 ·rename_i h1 h2 _
  have e1 := Nat.eq_of_beq_eq_true h1
  have e2 := Nat.eq_of_beq_eq_true h2
  subst e1
  rw [CT.ofL_eq e2]
  simp only [List.take_zero, List.nil_append, Nat.zero_add]
  rw [List.drop_eq_nil_of_le (by omega)]
  simp
 ·exact CT.lay_eq (by omega)
def splice (cs : List AVal) (off : Nat) (vs : List AVal) : List AVal := cs.take off ++ vs ++ cs.drop (off + vs.length)
theorem splice_length {cs vs : List AVal} {off : Nat} (h : off + vs.length ≤ cs.length) : (splice cs off vs).length = cs.length := by
 simp [splice]; omega
theorem set5_newB {b n : Nat} {cs : List AVal} (h : cs.length = n) : set5 b (some (.cells n cs [] false)) H = newB b cs H := by
 subst h
 unfold newB
 rw [CT.ofL_eq rfl]
theorem stC_of {b off : Nat} {cs vs : List AVal} (h : Has H b cs) (ho : off + vs.length ≤ cs.length) (hv : allCell vs = true) :
  stC H (.ptr b off) vs = some (newB b (splice cs off vs) H) := by
 unfold stC
 simp only [get5]
 rw [h]
 have : Nat.ble (Nat.add off vs.length) cs.length = true := ble_of ho
 simp only [this, hv]
 rw [relay_eq rfl ho]
 have e : dels [] H = H := rfl
 rw [e]
 exact congrArg some (set5_newB (splice_length ho))
theorem newB_newB (b : Nat) (cs ds : List AVal) (H : Heap) : newB b cs (newB b ds H) = newB b cs H := by
 funext c
 by_cases h : c = b
 ·subst h; rw [newB_same, newB_same]
 ·rw [newB_ne h, newB_ne h, newB_ne h]
theorem onEnd_ret {v : AVal} {r : AVal → Prop} {p : List (AVal × Bool) → Prop} : onEnd (.ret v) r p ↔ r v := by simp [onEnd]
theorem addOff_ptr (b off c : Nat) : addOff (.ptr b off) c = some (.ptr b (off + c)) := rfl
theorem idxS_slice {b off len e n esz : Nat} {full : Bool} (h : n < len) : idxS (.slice b off len e full) n esz = some (.ptr b (off + n * esz)) := by
 have : Nat.ble (Nat.succ n) len = true := ble_of h
 simp only [idxS, this]
 rfl
theorem lenS_slice {b off len e : Nat} {full : Bool} : lenS (.slice b off len e full) = some len := rfl
theorem wrap64_id {n : Int} (h0 : -9223372036854775808 ≤ n) (h1 : n ≤ 9223372036854775807) : IntKind.i64.wrap n = n := IntWalk.i64_in _ (by omega)
theorem stC_new {b off : Nat} {cs vs : List AVal} (ho : off + vs.length ≤ cs.length) (hv : allCell vs = true) :
  stC (newB b cs H) (.ptr b off) vs = some (newB b (splice cs off vs) H) := by
 rw [stC_of (has_new b cs H) ho hv, newB_newB]
theorem stC_all {b : Nat} {cs vs : List AVal} (ho : vs.length = cs.length) (hv : allCell vs = true) :
  stC (newB b cs H) (.ptr b 0) vs = some (newB b vs H) := by
 rw [stC_new (by omega) hv]
 unfold splice
 rw [List.take_zero, List.nil_append, List.drop_eq_nil_of_le (by omega), List.append_nil]
theorem getSome {α : Type} {a b : α} : (some a = some b) = (a = b) := by simp
end
end Go.Vs
end
section
namespace Go.Vs
variable [GTab] {H : Heap}
noncomputable section
abbrev GH := Nat → Option (List AVal)
def gup (b : Nat) (x : Option (List AVal)) (Γ : GH) : GH := fun c => if c = b then x else Γ c
theorem gup_same (b : Nat) (x : Option (List AVal)) (Γ : GH) : gup b x Γ b = x := by simp [gup]
theorem gup_ne {b c : Nat} {x : Option (List AVal)} {Γ : GH} (h : c ≠ b) : gup b x Γ c = Γ c := by simp [gup, h]
theorem gup_gup (b : Nat) (x y : Option (List AVal)) (Γ : GH) : gup b x (gup b y Γ) = gup b x Γ := by
 funext c; by_cases h : c = b <;> simp [gup, h]
def Row (H : Heap) (b : Nat) (cs : List AVal) (olds : List Nat) : Prop := ∃ ct, H b = some (.cells cs.length ct olds false) ∧ ct.take cs.length = cs
def HOK (Γ : GH) (H : Heap) (nx : Nat) : Prop := ∀ b cs, Γ b = some cs → b < nx ∧ ∃ olds, Row H b cs olds ∧ ∀ o, o ∈ olds → o < nx ∧ Γ o = none
theorem HOK.lt {Γ : GH} {nx b : Nat} {cs : List AVal} (h : HOK Γ H nx) (e : Γ b = some cs) : b < nx := (h b cs e).1
theorem HOK.non {Γ : GH} {nx b : Nat} (h : HOK Γ H nx) (e : nx ≤ b) : Γ b = none := by
 cases hb : Γ b with
 | none => rfl
 | some cs => exact absurd (h.lt hb) (by omega)
theorem HOK.more {Γ : GH} {nx nx' : Nat} (h : HOK Γ H nx) (e : nx ≤ nx') : HOK Γ H nx' := fun b cs hb =>
 let ⟨h1, olds, h2, h3⟩ := h b cs hb
 ⟨Nat.lt_of_lt_of_le h1 e, olds, h2, fun o ho => ⟨Nat.lt_of_lt_of_le (h3 o ho).1 e, (h3 o ho).2⟩⟩
theorem take_len {α : Type} {n : Nat} {l m : List α} (h : l.take n = m) (hm : m.length = n) : n ≤ l.length := by
 have := congrArg List.length h
 rw [List.length_take, hm] at this
 omega
theorem HOK.ld1 {Γ : GH} {nx b : Nat} {cs : List AVal} (h : HOK Γ H nx) (e : Γ b = some cs) (off : Nat) : ld1 H (.ptr b off) = cs[off]? := by
 obtain ⟨_, olds, ⟨ct, hb, hc⟩, _⟩ := h b cs e
 unfold Vs.ld1
 simp only [get5]
 rw [hb]
 have hl := take_len hc rfl
 by_cases ho : off < cs.length
 ·have : Nat.ble (Nat.succ off) cs.length = true := ble_of ho
  simp only [this, CT.get]
  rw [← hc, List.getElem?_take_of_lt ho]
  simp [List.getD, show off < ct.length by omega]
 ·have : Nat.ble (Nat.succ off) cs.length = false := by
   cases e : Nat.ble (Nat.succ off) cs.length with
   | false => rfl
   | true => exact (ho (Nat.le_of_ble_eq_true e)).elim
  simp only [this]
  rw [List.getElem?_eq_none (by omega)]
theorem slab_take {cs ct : CT} {off sz : Nat} (hc : ct.take cs.length = cs) (ho : off + sz ≤ cs.length) : CT.slab ct sz off = (cs.drop off).take sz := by
 have hl := take_len hc rfl
 rw [CT.slab_eq (by omega)]
 conv => rhs; rw [← hc]
 rw [List.drop_take, List.take_take, Nat.min_eq_left (by omega)]
theorem HOK.ldN {Γ : GH} {nx b : Nat} {cs : List AVal} (h : HOK Γ H nx) (e : Γ b = some cs) {off sz : Nat} (ho : off + sz ≤ cs.length) :
  ldN H sz (.ptr b off) = some (.agg ((cs.drop off).take sz)) := by
 obtain ⟨_, olds, ⟨ct, hb, hc⟩, _⟩ := h b cs e
 unfold Vs.ldN
 simp only [get5]
 rw [hb]
 have : Nat.ble (Nat.add off sz) cs.length = true := ble_of ho
 simp only [this, slab_take hc ho]
theorem dels_same : ∀ {l : List Nat} {H : Heap} {c : Nat}, c ∉ l → dels l H c = H c
 | [], _, _, _ => rfl
 | b :: l, H, c, h => by
  rw [dels_cons, dels_same (fun x => h (List.mem_cons_of_mem _ x))]
  show get5 c (set5 b _ H) = get5 c H
  exact get5_ne (fun e => h (by rw [e]; exact List.mem_cons_self)) (by omega) (by omega)
theorem set5_ne' {b c : Nat} {x : Option AObj} (h : c ≠ b) : set5 b x H c = H c := get5_ne (H := H) (x := x) (fun e => h e.symm) (by omega) (by omega)
theorem set5_eq' (b : Nat) (x : Option AObj) (H : Heap) : set5 b x H b = x := get5_set5_same b x H
theorem HOK.newN {Γ : GH} {nx nx' b : Nat} (h : HOK Γ H nx) (hb : nx ≤ b) (hn : b < nx') {cs : List AVal} {ct : CT} (hc : ct.take cs.length = cs) :
  HOK (gup b (some cs) Γ) (set5 b (some (.cells cs.length ct [] false)) H) nx' := by
 intro c ds e
 by_cases hc' : c = b
 ·subst hc'
  rw [gup_same] at e; cases e
  exact ⟨hn, [], ⟨ct, set5_eq' _ _ _, hc⟩, by simp⟩
 ·rw [gup_ne hc'] at e
  obtain ⟨h1, olds, ⟨ct', h2, h2'⟩, h3⟩ := h c ds e
  exact ⟨by omega, olds, ⟨ct', by rw [set5_ne' hc']; exact h2, h2'⟩, fun o ho => ⟨by have := (h3 o ho).1; omega, by rw [gup_ne (by have := (h3 o ho).1; omega)]; exact (h3 o ho).2⟩⟩
theorem HOK.new {Γ : GH} {nx nx' b : Nat} (h : HOK Γ H nx) (hb : nx ≤ b) (hn : b < nx') (cs : List AVal) : HOK (gup b (some cs) Γ) (newB b cs H) nx' :=
 h.newN hb hn (by rw [CT.ofL_eq rfl]; exact List.take_length)
theorem HOK.st {Γ : GH} {nx b off : Nat} {cs vs : List AVal} (h : HOK Γ H nx) (e : Γ b = some cs) (ho : off + vs.length ≤ cs.length) (hv : allCell vs = true) :
  ∃ H', stC H (.ptr b off) vs = some H' ∧ HOK (gup b (some (splice cs off vs)) Γ) H' nx := by
 obtain ⟨hb, olds, ⟨ct, h2, h2'⟩, h3⟩ := h b cs e
 have hl := take_len h2' rfl
 refine ⟨set5 b (some (.cells cs.length (relay vs vs.length off cs.length ct) [] false)) (dels olds H), ?_, ?_⟩
 ·unfold stC
  simp only [get5]
  rw [h2]
  have : Nat.ble (Nat.add off vs.length) cs.length = true := ble_of ho
  simp only [this, hv]
 ·intro c ds ec
  by_cases hc : c = b
  ·subst hc
   rw [gup_same] at ec; cases ec
   refine ⟨hb, [], ⟨_, by rw [set5_eq', splice_length ho], ?_⟩, by simp⟩
   rw [splice_length ho]
   unfold relay splice
   split
   ·rename_i g1 g2 _
    have e1 := Nat.eq_of_beq_eq_true g1
    have e2 := Nat.eq_of_beq_eq_true g2
    subst e1
    rw [CT.ofL_eq e2, ← e2, List.take_length]
    simp only [List.take_zero, List.nil_append, Nat.zero_add]
    rw [List.drop_eq_nil_of_le (by omega)]
    simp
   ·rw [CT.lay_eq (by omega)]
    have ea : (ct.take off ++ vs).length = off + vs.length := by simp; omega
    rw [List.take_append, ea, List.take_of_length_le (by omega : (ct.take off ++ vs).length ≤ cs.length)]
    congr 1
    ·conv => rhs; rw [← h2']
     rw [List.take_take, Nat.min_eq_left (by omega)]
    ·conv => rhs; rw [← h2']
     rw [List.drop_take]
  ·rw [gup_ne hc] at ec
   obtain ⟨h4, olds', ⟨ct', h5, h5'⟩, h6⟩ := h c ds ec
   refine ⟨h4, olds', ⟨ct', ?_, h5'⟩, fun o hoo => ⟨(h6 o hoo).1, ?_⟩⟩
   ·rw [set5_ne' hc, dels_same (fun hm => by have := (h3 c hm).2; rw [ec] at this; cases this)]
    exact h5
   ·rw [gup_ne (fun x => by have := (h6 o hoo).2; rw [x, e] at this; cases this)]
    exact (h6 o hoo).2
theorem HOK.src {Γ : GH} {nx b off n sz e : Nat} {full : Bool} {cs : List AVal} (h : HOK Γ H nx) (eb : Γ b = some cs) (ho : off + n * sz ≤ cs.length) :
  aSrc sz H (.slice b off n e full) = some (n, (cs.drop off).take (n * sz)) := by
 obtain ⟨hb, olds, ⟨ct, h2, h2'⟩, h3⟩ := h b cs eb
 unfold aSrc
 simp only [get5]
 rw [h2]
 have : Nat.ble (Nat.add off (Nat.mul n sz)) cs.length = true := ble_of ho
 simp only [this]
 rw [show Nat.mul n sz = n * sz from rfl, slab_take h2' ho]
theorem HOK.appNil {Γ : GH} {nx esz ebytes k : Nat} {new : List AVal} (h : HOK Γ H nx) (hk : new.length = k * esz) (hk0 : 0 < k)
  (h1 : k * esz ≤ 9223372036854775807) (h2 : k * ebytes ≤ 140737488355328) :
  ∃ H', appC H nx esz ebytes .nilSlice k new = some (.slice nx 0 k esz false, H', nx + 1) ∧ HOK (gup nx (some new) Γ) H' (nx + 1) := by
 obtain ⟨k', rfl⟩ : ∃ k', k = Nat.succ k' := ⟨k - 1, by omega⟩
 have g2 : Nat.ble (Nat.mul (Nat.succ k') esz) 9223372036854775807 = true := ble_of h1
 have g3 : Nat.ble (Nat.mul (Nat.succ k') ebytes) 140737488355328 = true := ble_of h2
 refine ⟨set5 nx (some (.cells (Nat.mul (Nat.succ k') esz) (CT.ofL (Nat.mul (Nat.succ k') esz) new) [] false)) H, ?_, ?_⟩
 ·unfold appC
  simp only [g2, g3]
 ·have e : Nat.mul (Nat.succ k') esz = new.length := hk.symm
  rw [e]
  exact h.newN (Nat.le_refl _) (Nat.lt_succ_self _) (by rw [CT.ofL_eq rfl]; exact List.take_length)
theorem HOK.appFull {Γ : GH} {nx b off len esz ebytes k : Nat} {cs new : List AVal} (h : HOK Γ H nx) (e : Γ b = some cs) (hl : off + len * esz ≤ cs.length) (hk : new.length = k * esz) (hk0 : 0 < k)
  (h1 : (len + k) * esz ≤ 9223372036854775807) (h2 : (len + k) * ebytes ≤ 140737488355328) :
  ∃ H', appC H nx esz ebytes (.slice b off len esz true) k new = some (.slice nx 0 (len + k) esz false, H', nx + 1) ∧ HOK (gup nx (some ((cs.drop off).take (len * esz) ++ new)) Γ) H' (nx + 1) := by
 obtain ⟨hb, olds, ⟨ct, h3, h3'⟩, h4⟩ := h b cs e
 obtain ⟨k', rfl⟩ : ∃ k', k = Nat.succ k' := ⟨k - 1, by omega⟩
 have g1 : Nat.beq esz esz = true := Nat.beq_refl esz
 have g2 : Nat.ble (Nat.mul (Nat.add len (Nat.succ k')) esz) 9223372036854775807 = true := ble_of h1
 have g3 : Nat.ble (Nat.mul (Nat.add len (Nat.succ k')) ebytes) 140737488355328 = true := ble_of h2
 have g4 : Nat.ble (Nat.add off (Nat.mul len esz)) cs.length = true := ble_of hl
 have hm : ((cs.drop off).take (len * esz) ++ new).length = (len + Nat.succ k') * esz := by
  rw [List.length_append, List.length_take, List.length_drop, hk, Nat.add_mul, Nat.min_eq_left (by omega)]
 refine ⟨set5 nx (some (.cells ((len + Nat.succ k') * esz) (CT.ofL ((len + Nat.succ k') * esz) ((cs.drop off).take (len * esz) ++ new)) [] false)) H, ?_, ?_⟩
 ·unfold appC
  simp only [get5, h3, g1, g2, g3, g4]
  rw [show Nat.mul len esz = len * esz from rfl, slab_take h3' hl]; rfl
 ·rw [← hm]
  exact h.newN (Nat.le_refl _) (Nat.lt_succ_self _) (by rw [CT.ofL_eq rfl]; exact List.take_length)
theorem HOK.app {Γ : GH} {nx b len esz ebytes k : Nat} {cs new : List AVal} (h : HOK Γ H nx) (e : Γ b = some cs) (hl : len * esz ≤ cs.length) (hk : new.length = k * esz) (hk0 : 0 < k)
  (h1 : (len + k) * esz ≤ 9223372036854775807) (h2 : (len + k) * ebytes ≤ 140737488355328) :
  ∃ H', appC H nx esz ebytes (.slice b 0 len esz false) k new = some (.slice nx 0 (len + k) esz false, H', nx + 1) ∧
   HOK (gup nx (some (cs.take (len * esz) ++ new)) (gup b none Γ)) H' (nx + 1) := by
 obtain ⟨hb, olds, ⟨ct, h3, h3'⟩, h4⟩ := h b cs e
 have hlen := take_len h3' rfl
 obtain ⟨k', rfl⟩ : ∃ k', k = Nat.succ k' := ⟨k - 1, by omega⟩
 have g1 : Nat.beq esz esz = true := Nat.beq_refl esz
 have g2 : Nat.ble (Nat.mul (Nat.add len (Nat.succ k')) esz) 9223372036854775807 = true := ble_of h1
 have g3 : Nat.ble (Nat.mul (Nat.add len (Nat.succ k')) ebytes) 140737488355328 = true := ble_of h2
 have g4 : Nat.ble (Nat.add 0 (Nat.mul len esz)) cs.length = true := ble_of (by show 0 + len * esz ≤ _; omega)
 have hm : (cs.take (len * esz) ++ new).length = (len + Nat.succ k') * esz := by
  rw [List.length_append, List.length_take, hk, Nat.add_mul, Nat.min_eq_left (by omega)]
 have hct : (CT.lay new (len * esz) (CT.widen ((len + Nat.succ k') * esz) ct)).take (cs.take (len * esz) ++ new).length = cs.take (len * esz) ++ new := by
  have hw : (len + Nat.succ k') * esz ≤ (CT.widen ((len + Nat.succ k') * esz) ct).length := by simp [CT.widen]; omega
  have hn : len * esz + new.length = (len + Nat.succ k') * esz := by rw [hk, Nat.add_mul]
  rw [CT.lay_eq (by omega), hm]
  have ht : (CT.widen ((len + Nat.succ k') * esz) ct).take (len * esz) = cs.take (len * esz) := by
   unfold CT.widen
   rw [List.take_append_of_le_length (by omega)]
   conv => rhs; rw [← h3']
   rw [List.take_take, Nat.min_eq_left (by omega)]
  rw [ht]
  exact List.take_left' hm
 have hap : appC H nx esz ebytes (.slice b 0 len esz false) (Nat.succ k') new = some (.slice nx 0 (len + Nat.succ k') esz false,
   grown b cs.length ct olds (len * esz) H nx ((len + Nat.succ k') * esz) (CT.lay new (len * esz) (CT.widen ((len + Nat.succ k') * esz) ct)), nx + 1) := by
  unfold appC
  simp only [get5, h3, g1, g2, g3, g4]
  rfl
 refine ⟨_, hap, ?_⟩
 rw [← hm]
 have hrest : ∀ c ds, c ≠ nx → c ≠ b → Γ c = some ds → dels olds H c = H c := fun c ds _ _ ec => dels_same fun hx => by have := (h4 c hx).2; rw [ec] at this; cases this
 have key : ∀ (H2 : Heap) (ol : List Nat), (∀ o, o ∈ ol → o = b) → (∀ c, c ≠ nx → c ≠ b → H2 c = dels olds H c) →
   HOK (gup nx (some (cs.take (len * esz) ++ new)) (gup b none Γ)) (set5 nx (some (.cells (cs.take (len * esz) ++ new).length (CT.lay new (len * esz) (CT.widen (cs.take (len * esz) ++ new).length ct)) ol false)) H2) (nx + 1) := by
  intro H2 ol hol h2c c ds ec
  by_cases hc : c = nx
  ·subst hc
   rw [gup_same] at ec; cases ec
   refine ⟨Nat.lt_succ_self _, ol, ⟨_, set5_eq' _ _ _, by rw [hm]; rw [hm] at hct; exact hct⟩, fun o ho => ?_⟩
   rw [hol o ho]
   exact ⟨by omega, by rw [gup_ne (by omega), gup_same]⟩
  ·rw [gup_ne hc] at ec
   have hcb : c ≠ b := fun x => by rw [x, gup_same] at ec; cases ec
   rw [gup_ne hcb] at ec
   obtain ⟨h5, olds', ⟨ct', h6, h6'⟩, h7⟩ := h c ds ec
   refine ⟨by omega, olds', ⟨ct', by rw [set5_ne' hc, h2c c hc hcb, hrest c ds hc hcb ec]; exact h6, h6'⟩, fun o ho => ?_⟩
   have ho' := h7 o ho
   refine ⟨by omega, ?_⟩
   rw [gup_ne (by omega)]
   by_cases hob : o = b
   ·rw [hob, gup_same]
   ·rw [gup_ne hob]; exact ho'.2
 unfold grown
 split
 ·exact key _ [b] (by simp) (fun c h1 h2 => by rw [set5_ne' h2])
 ·exact key _ [] (by simp) (fun c h1 h2 => by rw [set5_ne' h2, set5_ne' h2])
end
end Go.Vs
end
section
namespace Go.Vs
variable [GTab]
noncomputable section
theorem HOK.copy {Γ : GH} {H : Heap} {nx b b2 off off2 len len2 esz e1 e2 : Nat} {f1 f2 : Bool} {cs cs2 : List AVal} (h : HOK Γ H nx) (hb : Γ b = some cs) (hb2 : Γ b2 = some cs2) (hle : len2 ≤ len)
  (h1 : off + len2 * esz ≤ cs.length) (h2 : off2 + len2 * esz ≤ cs2.length) (hv : allCell ((cs2.drop off2).take (len2 * esz)) = true) :
  ∃ H', copC H esz (.slice b off len e1 f1) (.slice b2 off2 len2 e2 f2) = some (len2, H') ∧ HOK (gup b (some (splice cs off ((cs2.drop off2).take (len2 * esz)))) Γ) H' nx := by
 obtain ⟨hlt, olds, ⟨ct, g1, g1'⟩, g3⟩ := h b cs hb
 obtain ⟨_, olds2, ⟨ct2, g2, g2'⟩, _⟩ := h b2 cs2 hb2
 have hmin : minN len2 len = len2 := by
  unfold minN
  have : Nat.ble len2 len = true := ble_of hle
  rw [this]
 have hs : CT.slab ct2 (len2 * esz) off2 = (cs2.drop off2).take (len2 * esz) := slab_take g2' h2
 have hlen : ((cs2.drop off2).take (len2 * esz)).length = len2 * esz := by rw [List.length_take, List.length_drop]; omega
 have n1 : Nat.ble (Nat.add off (Nat.mul len2 esz)) cs.length = true := ble_of h1
 have n2 : Nat.ble (Nat.add off2 (Nat.mul len2 esz)) cs2.length = true := ble_of h2
 have hl := take_len g1' rfl
 have hsp : (splice cs off ((cs2.drop off2).take (len2 * esz))).length = cs.length := splice_length (by omega)
 refine ⟨set5 b (some (.cells cs.length (CT.lay ((cs2.drop off2).take (len2 * esz)) off ct) [] false)) (dels olds H), ?_, ?_⟩
 ·unfold copC
  simp only [get5, g1, g2, hmin, n1, n2]
  rw [show Nat.mul len2 esz = len2 * esz from rfl, hs]
  simp only [hv]
 ·intro c ds ec
  by_cases hc : c = b
  ·subst hc
   rw [gup_same] at ec; cases ec
   refine ⟨hlt, [], ⟨_, by rw [set5_eq', hsp], ?_⟩, by simp⟩
   rw [hsp, CT.lay_eq (by omega)]
   unfold splice
   have ea : (ct.take off ++ (cs2.drop off2).take (len2 * esz)).length = off + len2 * esz := by rw [List.length_append, hlen, List.length_take]; omega
   rw [List.take_append, ea, List.take_of_length_le (by omega : (ct.take off ++ (cs2.drop off2).take (len2 * esz)).length ≤ cs.length), hlen]
   congr 1
   ·conv => rhs; rw [← g1']
    rw [List.take_take, Nat.min_eq_left (by omega)]
   ·conv => rhs; rw [← g1']
    rw [List.drop_take]
  ·rw [gup_ne hc] at ec
   obtain ⟨h4, olds', ⟨ct', h5, h5'⟩, h6⟩ := h c ds ec
   refine ⟨h4, olds', ⟨ct', ?_, h5'⟩, fun o hoo => ⟨(h6 o hoo).1, ?_⟩⟩
   ·rw [set5_ne' hc, dels_same (fun hm => by have := (g3 c hm).2; rw [ec] at this; cases this)]
    exact h5
   ·rw [gup_ne (fun x => by have := (h6 o hoo).2; rw [x, hb] at this; cases this)]
    exact (h6 o hoo).2
end
end Go.Vs
end
section
namespace Go.Vs
variable [GTab] {H : Heap} {nx : Nat}
noncomputable section
structure KeptW (w w' : World) : Prop where
 os : w'.os = w.os
 tape : w'.tape = w.tape
 output : w'.output = w.output
 size : w.heap.size ≤ w'.heap.size
 same : ∀ i, i < w.heap.size → w'.heap[i]? = w.heap[i]?
theorem Rel.kept {σ : Sg} {w w' : World} (h : Rel σ H nx w) (k : KeptW w w') : Rel σ H nx w' :=
 ⟨h.lim, fun b cb sz e => ⟨(h.dom b cb sz e).1, Nat.lt_of_lt_of_le (h.dom b cb sz e).2 k.size⟩, fun b o cb sz e1 e2 => (h.obj b o cb sz e1 e2).of_block (k.same cb (h.dom b cb sz e2).2), h.sep, h.sup, h.old,
  h.glob.of k.size (fun i hi _ => k.same i hi) fun b _ sz e _ => ⟨b, sz, e⟩⟩
theorem Ext.kept {σ : Sg} {w w' : World} (k : KeptW w w') : Ext σ σ H H nx nx w w' :=
 ⟨fun _ _ h => h, fun b _ sz h _ => ⟨b, sz, h⟩, fun _ _ h => ⟨h, rfl⟩, Nat.le_refl _, k.os, k.tape, k.output, k.size, fun i hi _ => k.same i hi⟩
theorem TriP.of_kept {P : Program} {f : FuncId} {args : List AVal} {K : EndP} {v : AVal}
  (h : ∀ (σ : Sg) (w : World) (args' : List Value), Glob (fun _ => none) w → DenL σ args args' → Calls P f ⟨args'⟩ w fun e w' => (∃ v', e = .returned v' ∧ Den σ v v') ∧ KeptW w w')
  (hK : K (.ret v) H nx) : TriP P f args H nx K := by
 intro σ w args' R hr hd hR
 refine (h σ w args' (hr.glob.of (Nat.le_refl _) (fun _ _ _ => rfl) (fun b cb sz e => by cases e)) hd).mono ?_
 rintro e w' ⟨⟨v', rfl, hv⟩, hk⟩
 exact hR _ _ _ _ _ _ hK (hr.kept hk) (Ext.kept hk) (by first | exact .ret hv | exact hv)
end
end Go.Vs
end
section
namespace Go.Ev
structure N16 (α : Type) where
 (f0 f1 f2 f3 f4 f5 f6 f7 f8 f9 f10 f11 f12 f13 f14 f15 : α)
inductive Ix | i0 | i1 | i2 | i3 | i4 | i5 | i6 | i7 | i8 | i9 | i10 | i11 | i12 | i13 | i14 | i15
namespace N16
variable {α : Type}
noncomputable def set0 (v : α) (e : N16 α) : N16 α := N16.rec (motive := fun _ => α → N16 α) (fun _ a1 a2 a3 a4 a5 a6 a7 a8 a9 a10 a11 a12 a13 a14 a15 v => N16.mk v a1 a2 a3 a4 a5 a6 a7 a8 a9 a10 a11 a12 a13 a14 a15) e v
noncomputable def set1 (v : α) (e : N16 α) : N16 α := N16.rec (motive := fun _ => α → N16 α) (fun a0 _ a2 a3 a4 a5 a6 a7 a8 a9 a10 a11 a12 a13 a14 a15 v => N16.mk a0 v a2 a3 a4 a5 a6 a7 a8 a9 a10 a11 a12 a13 a14 a15) e v
noncomputable def set2 (v : α) (e : N16 α) : N16 α := N16.rec (motive := fun _ => α → N16 α) (fun a0 a1 _ a3 a4 a5 a6 a7 a8 a9 a10 a11 a12 a13 a14 a15 v => N16.mk a0 a1 v a3 a4 a5 a6 a7 a8 a9 a10 a11 a12 a13 a14 a15) e v
noncomputable def set3 (v : α) (e : N16 α) : N16 α := N16.rec (motive := fun _ => α → N16 α) (fun a0 a1 a2 _ a4 a5 a6 a7 a8 a9 a10 a11 a12 a13 a14 a15 v => N16.mk a0 a1 a2 v a4 a5 a6 a7 a8 a9 a10 a11 a12 a13 a14 a15) e v
noncomputable def set4 (v : α) (e : N16 α) : N16 α := N16.rec (motive := fun _ => α → N16 α) (fun a0 a1 a2 a3 _ a5 a6 a7 a8 a9 a10 a11 a12 a13 a14 a15 v => N16.mk a0 a1 a2 a3 v a5 a6 a7 a8 a9 a10 a11 a12 a13 a14 a15) e v
noncomputable def set5 (v : α) (e : N16 α) : N16 α := N16.rec (motive := fun _ => α → N16 α) (fun a0 a1 a2 a3 a4 _ a6 a7 a8 a9 a10 a11 a12 a13 a14 a15 v => N16.mk a0 a1 a2 a3 a4 v a6 a7 a8 a9 a10 a11 a12 a13 a14 a15) e v
noncomputable def set6 (v : α) (e : N16 α) : N16 α := N16.rec (motive := fun _ => α → N16 α) (fun a0 a1 a2 a3 a4 a5 _ a7 a8 a9 a10 a11 a12 a13 a14 a15 v => N16.mk a0 a1 a2 a3 a4 a5 v a7 a8 a9 a10 a11 a12 a13 a14 a15) e v
noncomputable def set7 (v : α) (e : N16 α) : N16 α := N16.rec (motive := fun _ => α → N16 α) (fun a0 a1 a2 a3 a4 a5 a6 _ a8 a9 a10 a11 a12 a13 a14 a15 v => N16.mk a0 a1 a2 a3 a4 a5 a6 v a8 a9 a10 a11 a12 a13 a14 a15) e v
noncomputable def set8 (v : α) (e : N16 α) : N16 α := N16.rec (motive := fun _ => α → N16 α) (fun a0 a1 a2 a3 a4 a5 a6 a7 _ a9 a10 a11 a12 a13 a14 a15 v => N16.mk a0 a1 a2 a3 a4 a5 a6 a7 v a9 a10 a11 a12 a13 a14 a15) e v
noncomputable def set9 (v : α) (e : N16 α) : N16 α := N16.rec (motive := fun _ => α → N16 α) (fun a0 a1 a2 a3 a4 a5 a6 a7 a8 _ a10 a11 a12 a13 a14 a15 v => N16.mk a0 a1 a2 a3 a4 a5 a6 a7 a8 v a10 a11 a12 a13 a14 a15) e v
noncomputable def set10 (v : α) (e : N16 α) : N16 α := N16.rec (motive := fun _ => α → N16 α) (fun a0 a1 a2 a3 a4 a5 a6 a7 a8 a9 _ a11 a12 a13 a14 a15 v => N16.mk a0 a1 a2 a3 a4 a5 a6 a7 a8 a9 v a11 a12 a13 a14 a15) e v
noncomputable def set11 (v : α) (e : N16 α) : N16 α := N16.rec (motive := fun _ => α → N16 α) (fun a0 a1 a2 a3 a4 a5 a6 a7 a8 a9 a10 _ a12 a13 a14 a15 v => N16.mk a0 a1 a2 a3 a4 a5 a6 a7 a8 a9 a10 v a12 a13 a14 a15) e v
noncomputable def set12 (v : α) (e : N16 α) : N16 α := N16.rec (motive := fun _ => α → N16 α) (fun a0 a1 a2 a3 a4 a5 a6 a7 a8 a9 a10 a11 _ a13 a14 a15 v => N16.mk a0 a1 a2 a3 a4 a5 a6 a7 a8 a9 a10 a11 v a13 a14 a15) e v
noncomputable def set13 (v : α) (e : N16 α) : N16 α := N16.rec (motive := fun _ => α → N16 α) (fun a0 a1 a2 a3 a4 a5 a6 a7 a8 a9 a10 a11 a12 _ a14 a15 v => N16.mk a0 a1 a2 a3 a4 a5 a6 a7 a8 a9 a10 a11 a12 v a14 a15) e v
noncomputable def set14 (v : α) (e : N16 α) : N16 α := N16.rec (motive := fun _ => α → N16 α) (fun a0 a1 a2 a3 a4 a5 a6 a7 a8 a9 a10 a11 a12 a13 _ a15 v => N16.mk a0 a1 a2 a3 a4 a5 a6 a7 a8 a9 a10 a11 a12 a13 v a15) e v
noncomputable def set15 (v : α) (e : N16 α) : N16 α := N16.rec (motive := fun _ => α → N16 α) (fun a0 a1 a2 a3 a4 a5 a6 a7 a8 a9 a10 a11 a12 a13 a14 _ v => N16.mk a0 a1 a2 a3 a4 a5 a6 a7 a8 a9 a10 a11 a12 a13 a14 v) e v
noncomputable def get (i : Ix) : N16 α → α := Ix.rec f0 f1 f2 f3 f4 f5 f6 f7 f8 f9 f10 f11 f12 f13 f14 f15 i
noncomputable def set (i : Ix) : α → N16 α → N16 α := Ix.rec set0 set1 set2 set3 set4 set5 set6 set7 set8 set9 set10 set11 set12 set13 set14 set15 i
def all (v : α) : N16 α := ⟨v, v, v, v, v, v, v, v, v, v, v, v, v, v, v, v⟩
theorem get_all (v : α) (i : Ix) : get i (all v) = v := by cases i <;> rfl
theorem get_set_same (i : Ix) (v : α) (e : N16 α) : get i (set i v e) = v := by cases e; cases i <;> rfl
theorem get_set_ne (i j : Ix) (v : α) (e : N16 α) (h : i ≠ j) : get j (set i v e) = get j e := by
 cases e; cases i <;> cases j <;> first | rfl | exact absurd rfl h
end N16
noncomputable def ix (n : Nat) : Ix :=
 (Bool.rec (Bool.rec (Bool.rec (Bool.rec .i15 .i14 (Nat.ble (Nat.succ n) 15)) (Bool.rec .i13 .i12 (Nat.ble (Nat.succ n) 13)) (Nat.ble (Nat.succ n) 14)) (Bool.rec (Bool.rec .i11 .i10 (Nat.ble (Nat.succ n) 11)) (Bool.rec .i9 .i8 (Nat.ble (Nat.succ n) 9)) (Nat.ble (Nat.succ n) 10)) (Nat.ble (Nat.succ n) 12)) (Bool.rec (Bool.rec (Bool.rec .i7 .i6 (Nat.ble (Nat.succ n) 7)) (Bool.rec .i5 .i4 (Nat.ble (Nat.succ n) 5)) (Nat.ble (Nat.succ n) 6)) (Bool.rec (Bool.rec .i3 .i2 (Nat.ble (Nat.succ n) 3)) (Bool.rec .i1 .i0 (Nat.ble (Nat.succ n) 1)) (Nat.ble (Nat.succ n) 2)) (Nat.ble (Nat.succ n) 4)) (Nat.ble (Nat.succ n) 8))
theorem ix_inj {a b : Nat} (ha : a < 16) (hb : b < 16) (h : ix a = ix b) : a = b := by
 have key : ∀ a : Fin 16, ∀ b : Fin 16, ix a.val = ix b.val → a = b := by
  intro a b
  match a, b with
  | ⟨a, ha⟩, ⟨b, hb⟩ =>
   intro h
   have : a = 0 ∨ a = 1 ∨ a = 2 ∨ a = 3 ∨ a = 4 ∨ a = 5 ∨ a = 6 ∨ a = 7 ∨ a = 8 ∨ a = 9 ∨ a = 10 ∨ a = 11 ∨ a = 12 ∨ a = 13 ∨ a = 14 ∨ a = 15 := by omega
   have : b = 0 ∨ b = 1 ∨ b = 2 ∨ b = 3 ∨ b = 4 ∨ b = 5 ∨ b = 6 ∨ b = 7 ∨ b = 8 ∨ b = 9 ∨ b = 10 ∨ b = 11 ∨ b = 12 ∨ b = 13 ∨ b = 14 ∨ b = 15 := by omega
   rcases ‹a = 0 ∨ _› with rfl | rfl | rfl | rfl | rfl | rfl | rfl | rfl | rfl | rfl | rfl | rfl | rfl | rfl | rfl | rfl <;>
   rcases ‹b = 0 ∨ _› with rfl | rfl | rfl | rfl | rfl | rfl | rfl | rfl | rfl | rfl | rfl | rfl | rfl | rfl | rfl | rfl <;>
   first | rfl | (simp [ix] at h)
 have := key ⟨a, ha⟩ ⟨b, hb⟩ h
 exact Fin.mk.inj this
noncomputable def dg (k n : Nat) : Ix := ix (Nat.mod (Nat.shiftRight n k) 16)
theorem dg_eq (k n : Nat) : dg k n = ix (n / 2 ^ k % 16) := by
 show ix ((n >>> k) % 16) = _
 rw [Nat.shiftRight_eq_div_pow]
theorem dg_inj {k a b : Nat} (h : dg k a = dg k b) : a / 2 ^ k % 16 = b / 2 ^ k % 16 := by
 rw [dg_eq, dg_eq] at h
 exact ix_inj (Nat.mod_lt _ (by decide)) (Nat.mod_lt _ (by decide)) h
section
variable {α : Type}
abbrev T2 (α : Type) := N16 (N16 α)
abbrev T3 (α : Type) := N16 (T2 α)
abbrev T5 (α : Type) := N16 (N16 (T3 α))
noncomputable def get2 (n : Nat) (t : T2 α) : α := N16.get (dg 0 n) (N16.get (dg 4 n) t)
noncomputable def set2 (n : Nat) (v : α) (t : T2 α) : T2 α := N16.set (dg 4 n) (N16.set (dg 0 n) v (N16.get (dg 4 n) t)) t
noncomputable def get3 (n : Nat) (t : T3 α) : α := get2 n (N16.get (dg 8 n) t)
noncomputable def set3 (n : Nat) (v : α) (t : T3 α) : T3 α := N16.set (dg 8 n) (set2 n v (N16.get (dg 8 n) t)) t
noncomputable def get5 (n : Nat) (t : T5 α) : α := get3 n (N16.get (dg 12 n) (N16.get (dg 16 n) t))
noncomputable def set5 (n : Nat) (v : α) (t : T5 α) : T5 α :=
 N16.set (dg 16 n) (N16.set (dg 12 n) (set3 n v (N16.get (dg 12 n) (N16.get (dg 16 n) t))) (N16.get (dg 16 n) t)) t
def all2 (v : α) : T2 α := .all (.all v)
def all3 (v : α) : T3 α := .all (all2 v)
def all5 (v : α) : T5 α := .all (.all (all3 v))
theorem get2_all (n : Nat) (v : α) : get2 n (all2 v) = v := by simp [get2, all2, N16.get_all]
theorem get2_set2_same (n : Nat) (v : α) (t : T2 α) : get2 n (set2 n v t) = v := by simp [get2, set2, N16.get_set_same]
theorem get3_set3_same (n : Nat) (v : α) (t : T3 α) : get3 n (set3 n v t) = v := by simp [get3, set3, N16.get_set_same, get2_set2_same]
theorem get5_set5_same (n : Nat) (v : α) (t : T5 α) : get5 n (set5 n v t) = v := by simp [get5, set5, N16.get_set_same, get3_set3_same]
theorem get2_set2_ne (n m : Nat) (v : α) (t : T2 α) (h : n % 256 ≠ m % 256) : get2 m (set2 n v t) = get2 m t := by
 unfold get2 set2
 by_cases h1 : dg 4 n = dg 4 m
 ·rw [← h1, N16.get_set_same, N16.get_set_ne]
  intro h0
  have e1 := dg_inj h1
  have e0 := dg_inj h0
  simp at e0 e1
  omega
 ·rw [N16.get_set_ne _ _ _ _ h1]
theorem get3_set3_ne (n m : Nat) (v : α) (t : T3 α) (h : n % 4096 ≠ m % 4096) : get3 m (set3 n v t) = get3 m t := by
 unfold get3 set3
 by_cases h1 : dg 8 n = dg 8 m
 ·rw [← h1, N16.get_set_same, get2_set2_ne]
  have e1 := dg_inj h1
  simp at e1
  omega
 ·rw [N16.get_set_ne _ _ _ _ h1]
theorem get5_set5_ne (n m : Nat) (v : α) (t : T5 α) (h : n % 1048576 ≠ m % 1048576) : get5 m (set5 n v t) = get5 m t := by
 unfold get5 set5
 by_cases h2 : dg 16 n = dg 16 m
 ·rw [← h2, N16.get_set_same]
  by_cases h1 : dg 12 n = dg 12 m
  ·rw [← h1, N16.get_set_same, get3_set3_ne]
   have e1 := dg_inj h1
   have e2 := dg_inj h2
   simp at e1 e2
   omega
  ·rw [N16.get_set_ne _ _ _ _ h1]
 ·rw [N16.get_set_ne _ _ _ _ h2]
end
end Go.Ev
end
section
namespace Go.Ev
def digs : Nat → Nat → List UInt8
 | 0, _ => []
 | n + 1, x => UInt8.ofNat (x / 256 ^ n) :: digs n x
theorem digs_length : ∀ (n x : Nat), (digs n x).length = n
 | 0, _ => rfl
 | n + 1, x => by simp [digs, digs_length n x]
theorem ofNat_congr {a b : Nat} (h : a % 256 = b % 256) : UInt8.ofNat a = UInt8.ofNat b := by
 apply UInt8.toNat_inj.1
 simp [UInt8.toNat_ofNat', h]
theorem ofNat_inj {a b : Nat} (h : UInt8.ofNat a = UInt8.ofNat b) : a % 256 = b % 256 := by
 have := congrArg UInt8.toNat h
 simpa [UInt8.toNat_ofNat'] using this
theorem pow_pos256 (n : Nat) : 0 < 256 ^ n := Nat.pow_pos (by decide)
theorem digs_add_mul : ∀ (n a x : Nat), digs n (a * 256 ^ n + x) = digs n x := by
 intro n
 induction n with
 | zero => intro a x; rfl
 | succ n ih =>
  intro a x
  simp only [digs]
  have e : a * 256 ^ (n + 1) + x = (a * 256) * 256 ^ n + x := by rw [Nat.pow_succ, Nat.mul_comm (256 ^ n) 256, Nat.mul_assoc]
  rw [e, ih]
  congr 1
  apply ofNat_congr
  rw [Nat.add_comm, Nat.add_mul_div_right _ _ (pow_pos256 n)]
  omega
theorem digs_mod (n x : Nat) : digs n (x % 256 ^ n) = digs n x := by
 conv => rhs; rw [← Nat.mod_add_div x (256 ^ n)]
 rw [Nat.add_comm, Nat.mul_comm, digs_add_mul]
theorem digs_append (n m x y : Nat) (h : y < 256 ^ m) : digs (n + m) (x * 256 ^ m + y) = digs n x ++ digs m y := by
 induction n with
 | zero => rw [Nat.zero_add, digs_add_mul]; rfl
 | succ n ih =>
  have e : n + 1 + m = (n + m) + 1 := by omega
  rw [e]
  simp only [digs, List.cons_append, ih]
  congr 2
  rw [Nat.pow_add, Nat.mul_comm (256 ^ n), ← Nat.div_div_eq_div_mul, Nat.add_comm, Nat.add_mul_div_right _ _ (pow_pos256 m), Nat.div_eq_of_lt h, Nat.zero_add]
theorem digs_drop : ∀ (a n x : Nat), (digs n x).drop a = digs (n - a) x := by
 intro a
 induction a with
 | zero => intro n x; rfl
 | succ a ih =>
  intro n x
  cases n with
  | zero => simp [digs]
  | succ n => simp only [digs, List.drop_succ_cons, ih]; congr 1; omega
theorem digs_take : ∀ (b n x : Nat), b ≤ n → (digs n x).take b = digs b (x / 256 ^ (n - b)) := by
 intro b n
 induction n generalizing b with
 | zero =>
  intro x h; have : b = 0 := by omega
  subst this; simp [digs]
 | succ n ih =>
  intro x h
  cases b with
  | zero => simp [digs]
  | succ b =>
   simp only [digs, List.take_succ_cons]
   rw [ih b x (by omega)]
   have e1 : n + 1 - (b + 1) = n - b := by omega
   rw [e1]
   congr 2
   rw [Nat.div_div_eq_div_mul, ← Nat.pow_add]
   congr 2
   omega
theorem digs_piece (n x a b : Nat) (hb : b ≤ n) (hab : a ≤ b) :
  ((digs n x).drop a).take (b - a) = digs (b - a) (x / 256 ^ (n - b) % 256 ^ (b - a)) := by
 rw [digs_drop, digs_take _ _ _ (by omega), digs_mod]
 congr 3
 omega
theorem digs_getElem? : ∀ (n x i : Nat), i < n → (digs n x)[i]? = some (UInt8.ofNat (x / 256 ^ (n - 1 - i))) := by
 intro n
 induction n with
 | zero => intro x i h; omega
 | succ n ih =>
  intro x i h
  cases i with
  | zero => simp [digs]
  | succ i =>
   simp only [digs, List.getElem?_cons_succ]
   rw [ih x i (by omega)]
   have : n - 1 - i = n + 1 - 1 - (i + 1) := by omega
   rw [this]
theorem digs_inj : ∀ (n x y : Nat), digs n x = digs n y → x % 256 ^ n = y % 256 ^ n := by
 intro n
 induction n with
 | zero => intro x y _; simp [Nat.mod_one]
 | succ n ih =>
  intro x y h
  simp only [digs, List.cons.injEq] at h
  have h1 := ofNat_inj h.1
  have h2 := ih x y h.2
  rw [Nat.pow_succ, Nat.mod_mul, Nat.mod_mul, h2, h1]
theorem digs_eq {n m x y : Nat} (hx : x < 256 ^ n) (hy : y < 256 ^ m) : digs n x = digs m y ↔ n = m ∧ x = y := by
 constructor
 ·intro h
  have hl := congrArg List.length h
  rw [digs_length, digs_length] at hl
  subst hl
  refine ⟨rfl, ?_⟩
  have := digs_inj n x y h
  rwa [Nat.mod_eq_of_lt hx, Nat.mod_eq_of_lt hy] at this
 ·rintro ⟨rfl, rfl⟩; rfl
def numL : Nat → List UInt8 → Nat
 | acc, [] => acc
 | acc, b :: l => numL (acc * 256 + b.toNat) l
theorem numL_eq : ∀ (l : List UInt8) (acc : Nat), numL acc l = acc * 256 ^ l.length + numL 0 l := by
 intro l
 induction l with
 | nil => intro acc; simp [numL]
 | cons b l ih =>
  intro acc
  simp only [numL, List.length_cons]
  rw [ih, ih (0 * 256 + b.toNat), Nat.pow_succ, Nat.zero_mul, Nat.zero_add, Nat.add_mul, Nat.mul_assoc, Nat.mul_comm 256, Nat.add_assoc]
theorem numL_lt : ∀ (l : List UInt8), numL 0 l < 256 ^ l.length := by
 intro l
 induction l with
 | nil => simp [numL]
 | cons b l ih =>
  simp only [numL, List.length_cons, Nat.zero_mul, Nat.zero_add]
  rw [numL_eq, Nat.pow_succ]
  have hb := b.toNat_lt
  have : b.toNat * 256 ^ l.length + 256 ^ l.length ≤ 256 ^ l.length * 256 := by
   rw [← Nat.succ_mul, Nat.mul_comm]
   exact Nat.mul_le_mul_left _ (by omega)
  omega
theorem digs_numL : ∀ (l : List UInt8), digs l.length (numL 0 l) = l := by
 intro l
 induction l with
 | nil => rfl
 | cons b l ih =>
  simp only [numL, List.length_cons, digs, Nat.zero_mul, Nat.zero_add]
  rw [numL_eq, digs_add_mul, ih]
  congr 1
  rw [Nat.add_comm, Nat.add_mul_div_right _ _ (pow_pos256 _), Nat.div_eq_of_lt (numL_lt l), Nat.zero_add]
  exact UInt8.ofNat_toNat
def dec (n x : Nat) : ByteArray := ⟨(digs n x).toArray⟩
theorem dec_size (n x : Nat) : (dec n x).size = n := by
 show (digs n x).toArray.size = n
 simp [digs_length]
theorem dec_data (n x : Nat) : (dec n x).data.toList = digs n x := rfl
theorem dec_numL (b : ByteArray) : dec b.data.toList.length (numL 0 b.data.toList) = b := by
 unfold dec
 rw [digs_numL]
end Go.Ev
end
section
namespace Go.Ev
inductive AVal where
 | und
 | bool (b : Bool)
 | int (k : IntKind) (n : Int)
 | str (len x : Nat)
 | ptr (b off : Nat)
 | nilPtr
 | slice (b off len esz : Nat) (full : Bool)
 | nilSlice
 | map (b : Nat)
 | nilMap
 | func (fn : Fn) (first captured : List AVal)
 | nilFunc
 | iface (t : TypeId) (v : AVal)
 | nilIface
 | agg (cs : List AVal)
 | tuple (vs : List AVal)
 | anyInt (k : IntKind) (m i : Nat)
 | anyBool
 | gptr (g off : Nat)
 | anyStr (i : Nat)
def pickI (n : Int) (m : Nat) : Int := if n.tmod m < 0 then n.tmod m + m else n.tmod m
def Same64 (a b : Int) : Prop := ∃ q : Int, a = b + q * 18446744073709551616
class GTab where
 tab : Nat → Option (List AVal)
 val : Nat → Int := fun _ => 0
 blk : Nat → Option Obj := fun _ => none
 txt : Nat → ByteArray := fun _ => .empty
 cat : Nat → Nat → Nat → Option Nat := fun _ _ _ => none
 catL : Nat → Nat → Nat → Option Nat := fun _ _ _ => none
 con : Int → Option Nat := fun _ => none
 lit : Nat → Option Int := fun _ => none
 add : Nat → Nat → Option Nat := fun _ _ => none
 sub : Nat → Nat → Option Nat := fun _ _ => none
 mul : Nat → Nat → Option Nat := fun _ _ => none
 quo : Nat → Nat → Option Nat := fun _ _ => none
 rem : Nat → Nat → Option Nat := fun _ _ => none
 eq : Nat → Nat → Option Bool := fun _ _ => none
 lt : Nat → Nat → Option Bool := fun _ _ => none
 catOK : ∀ i n x r, cat i n x = some r → txt r = txt i ++ dec n x ∧ (txt i).size + n ≤ 9223372036854775807 := by intro i n x r h; cases h
 catLOK : ∀ n x i r, catL n x i = some r → txt r = dec n x ++ txt i ∧ n + (txt i).size ≤ 9223372036854775807 := by intro i n x r h; cases h
 conOK : ∀ n i, con n = some i → Same64 n (val i) := by intro n i h; cases h
 litOK : ∀ i n, lit i = some n → Same64 n (val i) := by intro i n h; cases h
 addOK : ∀ i j r, add i j = some r → Same64 (val i + val j) (val r) := by intro i j r h; cases h
 subOK : ∀ i j r, sub i j = some r → Same64 (val i - val j) (val r) := by intro i j r h; cases h
 mulOK : ∀ i j r, mul i j = some r → Same64 (val i * val j) (val r) := by intro i j r h; cases h
 quoOK : ∀ i j r, quo i j = some r → IntKind.i64.wrap (val j) ≠ 0 ∧ Same64 ((IntKind.i64.wrap (val i)).tdiv (IntKind.i64.wrap (val j))) (val r) := by intro i j r h; cases h
 remOK : ∀ i j r, rem i j = some r → IntKind.i64.wrap (val j) ≠ 0 ∧ Same64 ((IntKind.i64.wrap (val i)).tmod (IntKind.i64.wrap (val j))) (val r) := by intro i j r h; cases h
 eqOK : ∀ i j b, eq i j = some b → (b = true ↔ Same64 (val i) (val j)) := by intro i j b h; cases h
 ltOK : ∀ i j b, lt i j = some b → b = decide (IntKind.i64.wrap (val i) < IntKind.i64.wrap (val j)) := by intro i j b h; cases h
variable [GTab]
def AnyOK (k : IntKind) (m i : Nat) (n : Int) : Prop := if m = 65536 then n = k.wrap (GTab.val i) else (m ≠ 0 → pickI n m = (i : Int))
abbrev Sg := Nat → Option (Nat × Nat)
mutual
inductive Den (σ : Sg) : AVal → Value → Prop
 | und (v : Value) : Den σ .und v
 | bool (b : Bool) : Den σ (.bool b) (.bool b)
 | int (k : IntKind) (n : Int) : Den σ (.int k n) (.int k n)
 | str (n x : Nat) (h : x < 256 ^ n) : Den σ (.str n x) (.string (dec n x))
 | ptr {b off cb sz : Nat} (h : σ b = some (cb, sz)) : Den σ (.ptr b off) (.pointer (some ⟨cb, off, none⟩))
 | nilPtr : Den σ .nilPtr (.pointer none)
 | slice {b off len esz cb sz cap : Nat} {full : Bool} (h : σ b = some (cb, sz)) (h1 : len ≤ cap) (h2 : off + cap * esz ≤ sz) (h3 : full = true → cap = len) :
   Den σ (.slice b off len esz full) (.slice (some ⟨cb, off, none⟩) len cap)
 | slice0 {b off off' esz cb sz : Nat} {full : Bool} (h : σ b = some (cb, sz)) : Den σ (.slice b off 0 esz full) (.slice (some ⟨cb, off', none⟩) 0 0)
 | nilSlice : Den σ .nilSlice (.slice none 0 0)
 | map {b cb sz : Nat} (h : σ b = some (cb, sz)) : Den σ (.map b) (.map (some cb))
 | nilMap : Den σ .nilMap (.map none)
 | func {fn : Fn} {a b : List AVal} {a' b' : List Value} (h1 : DenL σ a a') (h2 : DenL σ b b') : Den σ (.func fn a b) (.func fn ⟨a'⟩ ⟨b'⟩)
 | nilFunc : Den σ .nilFunc .nilFunc
 | iface {t : TypeId} {v : AVal} {v' : Value} (h : Den σ v v') : Den σ (.iface t v) (.iface t v')
 | nilIface : Den σ .nilIface .nilIface
 | agg {a : List AVal} {a' : List Value} (h : DenL σ a a') : Den σ (.agg a) (.agg ⟨a'⟩)
 | tuple {a : List AVal} {a' : List Value} (h : DenL σ a a') : Den σ (.tuple a) (.tuple ⟨a'⟩)
 | anyInt (k : IntKind) (m i : Nat) (n : Int) (h : AnyOK k m i n) : Den σ (.anyInt k m i) (.int k n)
 | anyBool (b : Bool) : Den σ .anyBool (.bool b)
 | gptr (g off : Nat) : Den σ (.gptr g off) (.pointer (some ⟨g, off, none⟩))
 | anyStr (i : Nat) : Den σ (.anyStr i) (.string (GTab.txt i))
inductive DenL (σ : Sg) : List AVal → List Value → Prop
 | nil : DenL σ [] []
 | cons {v : AVal} {v' : Value} {l : List AVal} {l' : List Value} (h : Den σ v v') (t : DenL σ l l') : DenL σ (v :: l) (v' :: l')
end
mutual
theorem Den.mono {σ σ' : Sg} (hs : ∀ b p, σ b = some p → σ' b = some p) : ∀ {v : AVal} {v' : Value}, Den σ v v' → Den σ' v v'
 | _, _, .und v => .und v
 | _, _, .bool b => .bool b
 | _, _, .int k n => .int k n
 | _, _, .str n x h => .str n x h
 | _, _, .ptr h => .ptr (hs _ _ h)
 | _, _, .nilPtr => .nilPtr
 | _, _, .slice h h1 h2 h3 => .slice (hs _ _ h) h1 h2 h3
 | _, _, .slice0 h => .slice0 (hs _ _ h)
 | _, _, .nilSlice => .nilSlice
 | _, _, .map h => .map (hs _ _ h)
 | _, _, .nilMap => .nilMap
 | _, _, .func h1 h2 => .func (DenL.mono hs h1) (DenL.mono hs h2)
 | _, _, .nilFunc => .nilFunc
 | _, _, .iface h => .iface (Den.mono hs h)
 | _, _, .nilIface => .nilIface
 | _, _, .agg h => .agg (DenL.mono hs h)
 | _, _, .tuple h => .tuple (DenL.mono hs h)
 | _, _, .anyInt k m i n h => .anyInt k m i n h
 | _, _, .anyBool b => .anyBool b
 | _, _, .gptr g off => .gptr g off
 | _, _, .anyStr i => .anyStr i
theorem DenL.mono {σ σ' : Sg} (hs : ∀ b p, σ b = some p → σ' b = some p) : ∀ {v : List AVal} {v' : List Value}, DenL σ v v' → DenL σ' v v'
 | _, _, .nil => .nil
 | _, _, .cons h t => .cons (Den.mono hs h) (DenL.mono hs t)
end
theorem DenL.length {σ : Sg} : ∀ {l : List AVal} {l' : List Value}, DenL σ l l' → l.length = l'.length
 | _, _, .nil => rfl
 | _, _, .cons _ t => by simp [DenL.length t]
theorem DenL.append {σ : Sg} : ∀ {l : List AVal} {l' : List Value} {m : List AVal} {m' : List Value}, DenL σ l l' → DenL σ m m' → DenL σ (l ++ m) (l' ++ m')
 | _, _, _, _, .nil, h => h
 | _, _, _, _, .cons h t, h' => .cons h (DenL.append t h')
theorem DenL.get {σ : Sg} : ∀ {l : List AVal} {l' : List Value}, DenL σ l l' → ∀ (i : Nat) (v : AVal), l[i]? = some v → ∃ v', l'[i]? = some v' ∧ Den σ v v'
 | _, _, .nil, i, v, h => by simp at h
 | _, _, .cons h t, 0, v, e => by simp at e; subst e; exact ⟨_, by simp, h⟩
 | _, _, .cons h t, i + 1, v, e => by simp at e; simpa using DenL.get t i v e
theorem DenL.drop {σ : Sg} : ∀ {l : List AVal} {l' : List Value}, DenL σ l l' → ∀ n, DenL σ (l.drop n) (l'.drop n)
 | _, _, .nil, n => by simp; exact .nil
 | _, _, .cons h t, 0 => .cons h t
 | _, _, .cons h t, n + 1 => by simpa using DenL.drop t n
theorem DenL.take {σ : Sg} : ∀ {l : List AVal} {l' : List Value}, DenL σ l l' → ∀ n, DenL σ (l.take n) (l'.take n)
 | _, _, .nil, n => by simp; exact .nil
 | _, _, .cons h t, 0 => by simp; exact .nil
 | _, _, .cons h t, n + 1 => by simpa using DenL.cons h (DenL.take t n)
theorem DenL.of_get {σ : Sg} : ∀ {l : List AVal} {l' : List Value}, l.length = l'.length → (∀ (i : Nat) (v : AVal) (v' : Value), l[i]? = some v → l'[i]? = some v' → Den σ v v') → DenL σ l l'
 | [], [], _, _ => .nil
 | [], _ :: _, h, _ => by simp at h
 | _ :: _, [], h, _ => by simp at h
 | _ :: l, _ :: l', h, hh => .cons (hh 0 _ _ (by simp) (by simp)) (DenL.of_get (by simpa using h) fun i v v' e e' => hh (i + 1) v v' (by simpa using e) (by simpa using e'))
inductive CT where
 | c1 (t : N16 AVal)
 | c2 (t : T2 AVal)
 | c3 (t : T3 AVal)
namespace CT
def cap : CT → Nat
 | .c1 _ => 16
 | .c2 _ => 256
 | .c3 _ => 4096
noncomputable def get (i : Nat) (c : CT) : AVal :=
 CT.rec (fun t i => N16.get (dg 0 i) t) (fun t i => get2 i t) (fun t i => get3 i t) c i
noncomputable def set (i : Nat) (v : AVal) (c : CT) : CT :=
 CT.rec (fun t i v => .c1 (N16.set (dg 0 i) v t)) (fun t i v => .c2 (set2 i v t)) (fun t i v => .c3 (set3 i v t)) c i v
theorem cap_set (i : Nat) (v : AVal) (c : CT) : (set i v c).cap = c.cap := by cases c <;> rfl
theorem get_set_same (i : Nat) (v : AVal) (c : CT) : get i (set i v c) = v := by
 cases c with
 | c1 t => exact N16.get_set_same _ _ _
 | c2 t => exact get2_set2_same _ _ _
 | c3 t => exact get3_set3_same _ _ _
theorem get_set_ne (i j : Nat) (v : AVal) (c : CT) (h : i ≠ j) (hi : i < c.cap) (hj : j < c.cap) : get j (set i v c) = get j c := by
 cases c with
 | c1 t =>
  refine N16.get_set_ne _ _ _ _ (fun e => h ?_)
  have := dg_inj e
  simp [cap] at *
  omega
 | c2 t => exact get2_set2_ne _ _ _ _ (by simp [cap] at *; omega)
 | c3 t => exact get3_set3_ne _ _ _ _ (by simp [cap] at *; omega)
noncomputable def nth (l : List AVal) : Nat → AVal := List.rec (fun _ => .und) (fun v _ ih i => Nat.rec v (fun j _ => ih j) i) l
theorem nth_eq : ∀ (l : List AVal) (i : Nat), nth l i = l.getD i .und
 | [], _ => by simp [nth]
 | v :: l, 0 => rfl
 | v :: l, i + 1 => by
  show nth l i = _
  rw [nth_eq l i]; simp
noncomputable def rest (l : List AVal) (n : Nat) : List AVal := Nat.rec (fun l => l) (fun _ ih l => List.rec [] (fun _ t _ => ih t) l) n l
theorem rest_eq : ∀ (n : Nat) (l : List AVal), rest l n = l.drop n
 | 0, l => rfl
 | n + 1, [] => by simp [rest]
 | n + 1, _ :: l => by
  show rest l n = _
  rw [rest_eq n l]; simp
noncomputable def of1 (l : List AVal) : N16 AVal :=
 ⟨nth l 0, nth l 1, nth l 2, nth l 3, nth l 4, nth l 5, nth l 6, nth l 7, nth l 8, nth l 9, nth l 10, nth l 11, nth l 12, nth l 13, nth l 14, nth l 15⟩
noncomputable def of2 (l : List AVal) : T2 AVal :=
 ⟨of1 l, of1 (rest l 16), of1 (rest l 32), of1 (rest l 48), of1 (rest l 64), of1 (rest l 80), of1 (rest l 96), of1 (rest l 112), of1 (rest l 128), of1 (rest l 144), of1 (rest l 160), of1 (rest l 176), of1 (rest l 192), of1 (rest l 208), of1 (rest l 224), of1 (rest l 240)⟩
noncomputable def of3 (l : List AVal) : T3 AVal :=
 ⟨of2 l, of2 (rest l 256), of2 (rest l 512), of2 (rest l 768), of2 (rest l 1024), of2 (rest l 1280), of2 (rest l 1536), of2 (rest l 1792), of2 (rest l 2048), of2 (rest l 2304), of2 (rest l 2560), of2 (rest l 2816), of2 (rest l 3072), of2 (rest l 3328), of2 (rest l 3584), of2 (rest l 3840)⟩
theorem ix_cases {a : Nat} (h : a < 16) (p : Nat → Prop) (h0 : p 0) (h1 : p 1) (h2 : p 2) (h3 : p 3) (h4 : p 4) (h5 : p 5) (h6 : p 6) (h7 : p 7) (h8 : p 8) (h9 : p 9) (h10 : p 10) (h11 : p 11) (h12 : p 12) (h13 : p 13) (h14 : p 14) (h15 : p 15) : p a := by
 have : a = 0 ∨ a = 1 ∨ a = 2 ∨ a = 3 ∨ a = 4 ∨ a = 5 ∨ a = 6 ∨ a = 7 ∨ a = 8 ∨ a = 9 ∨ a = 10 ∨ a = 11 ∨ a = 12 ∨ a = 13 ∨ a = 14 ∨ a = 15 := by omega
 rcases this with rfl | rfl | rfl | rfl | rfl | rfl | rfl | rfl | rfl | rfl | rfl | rfl | rfl | rfl | rfl | rfl <;> assumption
theorem get_of1 (l : List AVal) (a : Nat) (h : a < 16) : N16.get (ix a) (of1 l) = l.getD a .und := by
 refine ix_cases h (fun a => N16.get (ix a) (of1 l) = l.getD a .und) ?_ ?_ ?_ ?_ ?_ ?_ ?_ ?_ ?_ ?_ ?_ ?_ ?_ ?_ ?_ ?_ <;> exact nth_eq l _
theorem getD_drop (l : List AVal) (n i : Nat) : (l.drop n).getD i .und = l.getD (n + i) .und := by simp [List.getD]
theorem get_of2 (l : List AVal) (i : Nat) (h : i < 256) : get2 i (of2 l) = l.getD i .und := by
 unfold get2
 rw [dg_eq 0, dg_eq 4]
 have ha : i / 2 ^ 4 % 16 < 16 := Nat.mod_lt _ (by decide)
 have hb : i / 2 ^ 0 % 16 < 16 := Nat.mod_lt _ (by decide)
 have key : ∀ a, a < 16 → N16.get (ix (i / 2 ^ 0 % 16)) (N16.get (ix a) (of2 l)) = l.getD (a * 16 + i / 2 ^ 0 % 16) .und := by
  intro a ha
  refine ix_cases ha (fun a => N16.get (ix (i / 2 ^ 0 % 16)) (N16.get (ix a) (of2 l)) = l.getD (a * 16 + i / 2 ^ 0 % 16) .und) ?_ ?_ ?_ ?_ ?_ ?_ ?_ ?_ ?_ ?_ ?_ ?_ ?_ ?_ ?_ ?_
  ·rw [Nat.zero_mul, Nat.zero_add]; exact get_of1 l _ hb
  all_goals (refine (get_of1 (rest l _) _ hb).trans ?_; rw [rest_eq, getD_drop])
 rw [key _ ha]
 congr 1
 omega
theorem get_of3 (l : List AVal) (i : Nat) (h : i < 4096) : get3 i (of3 l) = l.getD i .und := by
 unfold get3
 rw [dg_eq 8]
 have ha : i / 2 ^ 8 % 16 < 16 := Nat.mod_lt _ (by decide)
 have hm : ∀ m : List AVal, get2 i (of2 m) = m.getD (i % 256) .und := by
  intro m
  have e : ∀ t : T2 AVal, get2 i t = get2 (i % 256) t := by
   intro t
   unfold get2
   rw [dg_eq 0, dg_eq 4, dg_eq 0, dg_eq 4]
   have e1 : i / 2 ^ 4 % 16 = i % 256 / 2 ^ 4 % 16 := by omega
   have e2 : i / 2 ^ 0 % 16 = i % 256 / 2 ^ 0 % 16 := by omega
   rw [e1, e2]
  rw [e]
  exact get_of2 m _ (Nat.mod_lt _ (by decide))
 have key : ∀ a, a < 16 → get2 i (N16.get (ix a) (of3 l)) = l.getD (a * 256 + i % 256) .und := by
  intro a ha
  refine ix_cases ha (fun a => get2 i (N16.get (ix a) (of3 l)) = l.getD (a * 256 + i % 256) .und) ?_ ?_ ?_ ?_ ?_ ?_ ?_ ?_ ?_ ?_ ?_ ?_ ?_ ?_ ?_ ?_
  ·rw [Nat.zero_mul, Nat.zero_add]; exact hm l
  all_goals (refine (hm (rest l _)).trans ?_; rw [rest_eq, getD_drop])
 rw [key _ ha]
 congr 1
 omega
noncomputable def ofL (n : Nat) (l : List AVal) : CT := Bool.rec (Bool.rec (.c3 (of3 l)) (.c2 (of2 l)) (Nat.ble n 256)) (.c1 (of1 l)) (Nat.ble n 16)
theorem ofL_cap (n : Nat) (l : List AVal) (h : n ≤ 4096) : n ≤ (ofL n l).cap := by
 unfold ofL
 cases h1 : Nat.ble n 16 with
 | true => exact Nat.le_of_ble_eq_true h1
 | false =>
  cases h2 : Nat.ble n 256 with
  | true => exact Nat.le_of_ble_eq_true h2
  | false => exact h
theorem get_ofL (n : Nat) (l : List AVal) (i : Nat) (h : n ≤ 4096) (hi : i < n) : get i (ofL n l) = l.getD i .und := by
 unfold ofL
 cases h1 : Nat.ble n 16 with
 | true =>
  have := Nat.le_of_ble_eq_true h1
  show N16.get (dg 0 i) (of1 l) = _
  rw [dg_eq]
  have e : i / 2 ^ 0 % 16 = i := by omega
  rw [e]
  exact get_of1 l i (by omega)
 | false =>
  cases h2 : Nat.ble n 256 with
  | true =>
   have := Nat.le_of_ble_eq_true h2
   exact get_of2 l i (by omega)
  | false => exact get_of3 l i (by omega)
noncomputable def slab (c : CT) (n : Nat) : Nat → List AVal := Nat.rec (fun _ => []) (fun _ ih i => get i c :: ih (Nat.succ i)) n
theorem slab_succ (c : CT) (n i : Nat) : slab c (n + 1) i = get i c :: slab c n (i + 1) := rfl
theorem slab_length (c : CT) : ∀ (n i : Nat), (slab c n i).length = n
 | 0, _ => rfl
 | n + 1, i => by rw [slab_succ, List.length_cons, slab_length c n]
theorem slab_get (c : CT) : ∀ (n i j : Nat), j < n → (slab c n i)[j]? = some (get (i + j) c)
 | 0, _, _, h => by omega
 | n + 1, i, 0, _ => by simp [slab_succ]
 | n + 1, i, j + 1, h => by
  rw [slab_succ, List.getElem?_cons_succ, slab_get c n (i + 1) j (by omega)]
  congr 2
  omega
noncomputable def lay (l : List AVal) : Nat → CT → CT := List.rec (fun _ c => c) (fun v _ ih i c => ih (Nat.succ i) (set i v c)) l
theorem lay_cons (v : AVal) (l : List AVal) (i : Nat) (c : CT) : lay (v :: l) i c = lay l (i + 1) (set i v c) := rfl
theorem lay_cap : ∀ (l : List AVal) (i : Nat) (c : CT), (lay l i c).cap = c.cap
 | [], _, _ => rfl
 | v :: l, i, c => by rw [lay_cons, lay_cap l, cap_set]
theorem lay_get : ∀ (l : List AVal) (i : Nat) (c : CT) (j : Nat), i + l.length ≤ c.cap → j < c.cap →
  get j (lay l i c) = if i ≤ j ∧ j < i + l.length then l.getD (j - i) .und else get j c
 | [], i, c, j, _, _ => by
  have : ¬ (i ≤ j ∧ j < i + ([] : List AVal).length) := by simp
  rw [if_neg this]; rfl
 | v :: l, i, c, j, h, hj => by
  simp only [List.length_cons] at h
  rw [lay_cons, lay_get l (i + 1) (set i v c) j (by rw [cap_set]; omega) (by rw [cap_set]; exact hj)]
  by_cases h1 : i = j
  ·subst h1
   rw [if_neg (by omega), get_set_same, if_pos (by simp)]
   simp
  ·by_cases h2 : i + 1 ≤ j ∧ j < i + 1 + l.length
   ·rw [if_pos h2, if_pos (by simp; omega)]
    have e : j - i = (j - (i + 1)) + 1 := by omega
    rw [e]; simp
   ·rw [if_neg h2, get_set_ne _ _ _ _ h1 (by omega) hj, if_neg (by simp; omega)]
noncomputable def widen (n : Nat) (c : CT) : CT :=
 Bool.rec (CT.rec (fun t => Bool.rec (.c3 (.set .i0 (.set .i0 t (.all (.all .und))) (all3 .und))) (.c2 (.set .i0 t (.all (.all .und)))) (Nat.ble n 256)) (fun t => .c3 (.set .i0 t (all3 .und))) (fun t => .c3 t) c) c (Nat.ble n (cap c))
theorem widen_cap (n : Nat) (c : CT) (h : n ≤ 4096) : n ≤ (widen n c).cap := by
 unfold widen
 cases h1 : Nat.ble n (cap c) with
 | true => exact Nat.le_of_ble_eq_true h1
 | false =>
  cases c with
  | c1 t =>
   show n ≤ (Bool.rec (motive := fun _ => CT) _ _ (Nat.ble n 256) : CT).cap
   cases h2 : Nat.ble n 256 with
   | true => exact Nat.le_of_ble_eq_true h2
   | false => exact h
  | c2 t => exact h
  | c3 t => exact h
theorem widen_get (n : Nat) (c : CT) (i : Nat) (hi : i < c.cap) : get i (widen n c) = get i c := by
 unfold widen
 cases h1 : Nat.ble n (cap c) with
 | true => rfl
 | false =>
  have e0 : ix 0 = .i0 := rfl
  cases c with
  | c1 t =>
   simp only [cap] at hi
   have a1 : dg 4 i = .i0 := by rw [dg_eq, ← e0]; congr 1; omega
   have a2 : dg 8 i = .i0 := by rw [dg_eq, ← e0]; congr 1; omega
   show get i (Bool.rec (motive := fun _ => CT) _ _ (Nat.ble n 256) : CT) = _
   cases h2 : Nat.ble n 256 with
   | true =>
    show get2 i (N16.set .i0 t (.all (.all .und))) = N16.get (dg 0 i) t
    unfold get2
    rw [a1, N16.get_set_same]
   | false =>
    show get3 i (N16.set .i0 (N16.set .i0 t (.all (.all .und))) (all3 .und)) = N16.get (dg 0 i) t
    unfold get3 get2
    rw [a2, N16.get_set_same, a1, N16.get_set_same]
  | c2 t =>
   simp only [cap] at hi
   have a2 : dg 8 i = .i0 := by rw [dg_eq, ← e0]; congr 1; omega
   show get3 i (N16.set .i0 t (all3 .und)) = get2 i t
   unfold get3
   rw [a2, N16.get_set_same]
  | c3 t => rfl
end CT
end Go.Ev
end
section
namespace Go.Ev
variable [GTab]
structure AEnt where
 key : AVal
 val : AVal
 born : Nat
inductive AObj where
 | cells (n : Nat) (ct : CT) (olds : List Nat) (sup : Bool)
 | map (es : List AEnt) (clock : Nat)
def AObj.olds : AObj → List Nat
 | .cells _ _ o _ => o
 | .map _ _ => []
def AObj.sup : AObj → Bool
 | .cells _ _ _ s => s
 | .map _ _ => false
abbrev Heap := T5 (Option AObj)
inductive DenE (σ : Sg) : List AEnt → List MapEntry → Prop
 | nil : DenE σ [] []
 | cons {e : AEnt} {e' : MapEntry} {l : List AEnt} {l' : List MapEntry} (hk : Den σ e.key e'.key) (hv : Den σ e.val e'.val) (hb : e'.born = e.born) (t : DenE σ l l') : DenE σ (e :: l) (e' :: l')
theorem DenE.mono {σ σ' : Sg} (hs : ∀ b p, σ b = some p → σ' b = some p) : ∀ {l : List AEnt} {l' : List MapEntry}, DenE σ l l' → DenE σ' l l'
 | _, _, .nil => .nil
 | _, _, .cons hk hv hb t => .cons (hk.mono hs) (hv.mono hs) hb (DenE.mono hs t)
abbrev at' (cb i : Nat) : Addr := ⟨cb, i, none⟩
def ORel (σ : Sg) (o : AObj) (cb sz : Nat) (w : World) : Prop :=
 match o with
 | .cells n ct _ _ => n ≤ sz ∧ n ≤ ct.cap ∧ (∀ i, i < sz → w.frozen? (at' cb i) = false ∧ ∃ v, w.cell? (at' cb i) = some v) ∧
   (∀ i, i < n → ∃ v', w.cell? (at' cb i) = some v' ∧ Den σ (ct.get i) v')
 | .map es clock => ∃ es' : Array MapEntry, w.heap[cb]? = some (.map es' clock) ∧ DenE σ es es'.toList
structure Glob (σ : Sg) (w : World) : Prop where
 var : ∀ g l, GTab.tab g = some l → g < w.heap.size ∧ (∀ b sz, σ b ≠ some (g, sz)) ∧ ∀ (i : Nat) (v : AVal), l[i]? = some v → ∃ v', w.cell? (at' g i) = some v' ∧ ∀ τ : Sg, Den τ v v'
 blk : ∀ g o, GTab.blk g = some o → g < w.heap.size ∧ (∀ b sz, σ b ≠ some (g, sz)) ∧ w.heap[g]? = some o
theorem Glob.of {σ σ' : Sg} {w w' : World} (h : Glob σ w) (hs : w.heap.size ≤ w'.heap.size) (hb : ∀ i, i < w.heap.size → (∀ b sz, σ b ≠ some (i, sz)) → w'.heap[i]? = w.heap[i]?)
  (hr : ∀ b cb sz, σ' b = some (cb, sz) → cb < w.heap.size → ∃ b' sz', σ b' = some (cb, sz')) : Glob σ' w' := by
 refine ⟨fun g l hg => ?_, fun g o hg => ?_⟩
 ·obtain ⟨h1, h2, h3⟩ := h.var g l hg
  refine ⟨Nat.lt_of_lt_of_le h1 hs, ?_, ?_⟩
  ·intro b sz e
   obtain ⟨b', sz', e'⟩ := hr b g sz e h1
   exact h2 b' sz' e'
  ·intro i v hv
   obtain ⟨v', e, d⟩ := h3 i v hv
   exact ⟨v', by simpa [World.cell?, hb g h1 h2] using e, d⟩
 ·obtain ⟨h1, h2, h3⟩ := h.blk g o hg
  refine ⟨Nat.lt_of_lt_of_le h1 hs, ?_, ?_⟩
  ·intro b sz e
   obtain ⟨b', sz', e'⟩ := hr b g sz e h1
   exact h2 b' sz' e'
  ·rw [hb g h1 h2, h3]
structure Rel (σ : Sg) (H : Heap) (nx : Nat) (w : World) : Prop where
 lim : nx ≤ 1048576
 dom : ∀ b cb sz, σ b = some (cb, sz) → b < nx ∧ cb < w.heap.size
 obj : ∀ b o cb sz, get5 b H = some o → σ b = some (cb, sz) → ORel σ o cb sz w
 sep : ∀ b b' o o' cb sz sz', get5 b H = some o → get5 b' H = some o' → σ b = some (cb, sz) → σ b' = some (cb, sz') → b = b' ∨ b ∈ o'.olds ∨ b' ∈ o.olds
 sup : ∀ b b' o o' p, get5 b H = some o → get5 b' H = some o' → σ b' = some p → b ∈ o'.olds → o.sup = true
 old : ∀ b o p, get5 b H = some o → σ b = some p → ∀ b', b' ∈ o.olds → ∃ p', σ b' = some p'
 glob : Glob σ w
structure Ext (σ σ' : Sg) (H H' : Heap) (nx nx' : Nat) (w w' : World) : Prop where
 sub : ∀ b p, σ b = some p → σ' b = some p
 rng : ∀ b cb sz, σ' b = some (cb, sz) → cb < w.heap.size → ∃ b' sz', σ b' = some (cb, sz')
 pend : ∀ b, b < nx → σ b = none → σ' b = none ∧ get5 b H' = get5 b H
 le : nx ≤ nx'
 os : w'.os = w.os
 tape : w'.tape = w.tape
 output : w'.output = w.output
 size : w.heap.size ≤ w'.heap.size
 frame : ∀ i, i < w.heap.size → (∀ b sz, σ b ≠ some (i, sz)) → w'.heap[i]? = w.heap[i]?
theorem Ext.refl (σ : Sg) (H : Heap) (nx : Nat) (w : World) : Ext σ σ H H nx nx w w :=
 ⟨fun _ _ h => h, fun b _ sz h _ => ⟨b, sz, h⟩, fun _ _ h => ⟨h, rfl⟩, Nat.le_refl _, rfl, rfl, rfl, Nat.le_refl _, fun _ _ _ => rfl⟩
theorem Ext.trans {σ₁ σ₂ σ₃ : Sg} {H₁ H₂ H₃ : Heap} {n₁ n₂ n₃ : Nat} {w₁ w₂ w₃ : World} (a : Ext σ₁ σ₂ H₁ H₂ n₁ n₂ w₁ w₂) (b : Ext σ₂ σ₃ H₂ H₃ n₂ n₃ w₂ w₃) :
  Ext σ₁ σ₃ H₁ H₃ n₁ n₃ w₁ w₃ where
 sub := fun x p h => b.sub x p (a.sub x p h)
 rng := fun x cb sz h hlt => by
  obtain ⟨b', sz', h'⟩ := b.rng x cb sz h (Nat.lt_of_lt_of_le hlt a.size)
  exact a.rng b' cb sz' h' hlt
 pend := fun x hx h => by
  obtain ⟨h1, h2⟩ := a.pend x hx h
  obtain ⟨h3, h4⟩ := b.pend x (Nat.lt_of_lt_of_le hx a.le) h1
  exact ⟨h3, h4.trans h2⟩
 le := Nat.le_trans a.le b.le
 os := b.os.trans a.os
 tape := b.tape.trans a.tape
 output := b.output.trans a.output
 size := Nat.le_trans a.size b.size
 frame := fun i hi h => by
  rw [b.frame i (Nat.lt_of_lt_of_le hi a.size), a.frame i hi h]
  intro x sz e
  obtain ⟨b', sz', h'⟩ := a.rng x i sz e hi
  exact h b' sz' h'
theorem ORel.mono {σ σ' : Sg} {o : AObj} {cb sz : Nat} {w : World} (hs : ∀ b p, σ b = some p → σ' b = some p) (h : ORel σ o cb sz w) : ORel σ' o cb sz w := by
 cases o with
 | cells n ct olds sup =>
  obtain ⟨h1, h2, h3, h4⟩ := h
  exact ⟨h1, h2, h3, fun i hi => let ⟨v', e, d⟩ := h4 i hi; ⟨v', e, d.mono hs⟩⟩
 | map es clock =>
  obtain ⟨es', h1, h2⟩ := h
  exact ⟨es', h1, h2.mono hs⟩
theorem ORel.of_block {σ : Sg} {o : AObj} {cb sz : Nat} {w w' : World} (e : w'.heap[cb]? = w.heap[cb]?) (h : ORel σ o cb sz w) : ORel σ o cb sz w' := by
 have e1 : ∀ i, w'.cell? (at' cb i) = w.cell? (at' cb i) := fun i => by simp [World.cell?, e]
 have e2 : ∀ i, w'.frozen? (at' cb i) = w.frozen? (at' cb i) := fun i => by simp [World.frozen?, e]
 cases o with
 | cells n ct olds sup =>
  obtain ⟨h1, h2, h3, h4⟩ := h
  exact ⟨h1, h2, fun i hi => by rw [e1, e2]; exact h3 i hi, fun i hi => by rw [e1]; exact h4 i hi⟩
 | map es clock =>
  obtain ⟨es', h1, h2⟩ := h
  exact ⟨es', e.trans h1, h2⟩
theorem Rel.drew {σ : Sg} {H : Heap} {nx : Nat} {w : World} (h : Rel σ H nx w) : Rel σ H nx { w with drawn := w.drawn + 1 } :=
 ⟨h.lim, h.dom, fun b o cb sz e1 e2 => (h.obj b o cb sz e1 e2).of_block rfl, h.sep, h.sup, h.old, h.glob.of (Nat.le_refl _) (fun _ _ _ => rfl) fun b _ sz e _ => ⟨b, sz, e⟩⟩
theorem Ext.drew (σ : Sg) (H : Heap) (nx : Nat) (w : World) : Ext σ σ H H nx nx w { w with drawn := w.drawn + 1 } :=
 ⟨fun _ _ h => h, fun b _ sz h _ => ⟨b, sz, h⟩, fun _ _ h => ⟨h, rfl⟩, Nat.le_refl _, rfl, rfl, rfl, Nat.le_refl _, fun _ _ _ => rfl⟩
theorem get5_ne {H : Heap} {b b' : Nat} {x : Option AObj} (h : b ≠ b') (hb : b < 1048576) (hb' : b' < 1048576) : get5 b' (set5 b x H) = get5 b' H :=
 get5_set5_ne b b' x H (by rw [Nat.mod_eq_of_lt hb, Nat.mod_eq_of_lt hb']; exact h)
theorem Rel.pend {σ : Sg} {H : Heap} {nx nx' b : Nat} {w : World} {x : Option AObj} (h : Rel σ H nx w) (hb : σ b = none) (hn : nx ≤ nx') (hl : nx' ≤ 1048576) (hb2 : b < 1048576) :
  Rel σ (set5 b x H) nx' w := by
 have ne : ∀ {c p}, σ c = some p → get5 c (set5 b x H) = get5 c H := by
  intro c p hc
  obtain ⟨cb, sz⟩ := p
  have := (h.dom c cb sz hc).1
  have := h.lim
  exact get5_ne (fun e => by subst e; rw [hb] at hc; cases hc) hb2 (by omega)
 refine ⟨hl, fun c cb sz hc => ⟨Nat.lt_of_lt_of_le (h.dom c cb sz hc).1 hn, (h.dom c cb sz hc).2⟩, ?_, ?_, ?_, ?_, h.glob⟩
 ·intro c o cb sz e1 e2; rw [ne e2] at e1; exact h.obj c o cb sz e1 e2
 ·intro c c' o o' cb sz sz' e1 e2 e3 e4; rw [ne e3] at e1; rw [ne e4] at e2; exact h.sep c c' o o' cb sz sz' e1 e2 e3 e4
 ·intro c c' o o' p e1 e2 e3 e4
  rw [ne e3] at e2
  obtain ⟨p', hp'⟩ := h.old c' o' p e2 e3 c e4
  rw [ne hp'] at e1
  exact h.sup c c' o o' p e1 e2 e3 e4
 ·intro c o p e1 e2 c' e3; rw [ne e2] at e1; exact h.old c o p e1 e2 c' e3
theorem Rel.forget {σ : Sg} {H : Heap} {nx b : Nat} {w : World} (h : Rel σ H nx w) (hb2 : b < 1048576) : Rel σ (set5 b none H) nx w := by
 have key : ∀ c o, c < 1048576 → get5 c (set5 b none H) = some o → get5 c H = some o := by
  intro c o hc e
  by_cases hcb : b = c
  ·subst hcb; rw [get5_set5_same] at e; cases e
  ·rwa [get5_ne hcb hb2 hc] at e
 have lt : ∀ {c p}, σ c = some p → c < 1048576 := fun {c p} hc => by obtain ⟨cb, sz⟩ := p; have := (h.dom c cb sz hc).1; have := h.lim; omega
 refine ⟨h.lim, h.dom, ?_, ?_, ?_, ?_, h.glob⟩
 ·intro c o cb sz e1 e2; exact h.obj c o cb sz (key c o (lt e2) e1) e2
 ·intro c c' o o' cb sz sz' e1 e2 e3 e4; exact h.sep c c' o o' cb sz sz' (key _ _ (lt e3) e1) (key _ _ (lt e4) e2) e3 e4
 ·intro c c' o o' p e1 e2 e3 e4
  have e2' := key _ _ (lt e3) e2
  obtain ⟨p', hp'⟩ := h.old c' o' p e2' e3 c e4
  exact h.sup c c' o o' p (key _ _ (lt hp') e1) e2' e3 e4
 ·intro c o p e1 e2 c' e3; exact h.old c o p (key _ _ (lt e2) e1) e2 c' e3
noncomputable def dels (l : List Nat) : Heap → Heap := List.rec (fun H => H) (fun b _ ih H => ih (set5 b none H)) l
theorem dels_cons (b : Nat) (l : List Nat) (H : Heap) : dels (b :: l) H = dels l (set5 b none H) := rfl
theorem get5_dels : ∀ (l : List Nat) (H : Heap) (c : Nat), (∀ b, b ∈ l → b < 1048576) → c < 1048576 → get5 c (dels l H) = if c ∈ l then none else get5 c H
 | [], H, c, _, _ => by rw [if_neg (by simp)]; rfl
 | b :: l, H, c, hl, hc => by
  rw [dels_cons, get5_dels l _ c (fun x hx => hl x (List.mem_cons_of_mem _ hx)) hc]
  by_cases h1 : c ∈ l
  ·rw [if_pos h1, if_pos (List.mem_cons_of_mem _ h1)]
  ·rw [if_neg h1]
   by_cases h2 : b = c
   ·subst h2; rw [get5_set5_same, if_pos (List.mem_cons_self ..)]
   ·rw [get5_ne h2 (hl b (List.mem_cons_self ..)) hc, if_neg (by simp [h1]; exact fun e => h2 e.symm)]
def upd (σ : Sg) (b : Nat) (p : Nat × Nat) : Sg := fun c => if c = b then some p else σ c
theorem upd_sub {σ : Sg} {b : Nat} {p : Nat × Nat} (hb : σ b = none) : ∀ c q, σ c = some q → upd σ b p c = some q := by
 intro c q hc
 unfold upd
 rw [if_neg (fun e => by subst e; rw [hb] at hc; cases hc)]
 exact hc
theorem upd_inv {σ : Sg} {b c : Nat} {p q : Nat × Nat} (h : upd σ b p c = some q) : (c = b ∧ q = p) ∨ (c ≠ b ∧ σ c = some q) := by
 unfold upd at h
 by_cases e : c = b
 ·rw [if_pos e] at h; exact .inl ⟨e, (Option.some.inj h).symm⟩
 ·rw [if_neg e] at h; exact .inr ⟨e, h⟩
theorem Rel.alloc_at {σ : Sg} {H : Heap} {nx b n sz : Nat} {w : World} {ct : CT} {c : Array Value} {t : TypeId} {fz : Nat × Nat} (h : Rel σ H nx w) (hb : σ b = none) (hlt : b < nx)
  (ho : get5 b H = some (.cells n ct [] false)) (hn : n ≤ ct.cap) (hsz : sz = c.size) (hnc : n ≤ sz) (hfz : ∀ i, i < sz → ¬ (fz.1 ≤ i ∧ i < fz.2))
  (hd : ∀ i, i < n → ∃ v', c[i]? = some v' ∧ Den σ (ct.get i) v') :
  Rel (upd σ b (w.heap.size, sz)) H nx (w.alloc (.cells c t fz)) := by
 have sub := upd_sub (p := (w.heap.size, sz)) hb
 have blk : ∀ i, i < w.heap.size → (w.alloc (.cells c t fz)).heap[i]? = w.heap[i]? := by
  intro i hi
  show (w.heap.push _)[i]? = _
  rw [Array.getElem?_push, if_neg (by omega)]
 have newb : (w.alloc (.cells c t fz)).heap[w.heap.size]? = some (.cells c t fz) := by
  show (w.heap.push _)[w.heap.size]? = _
  simp
 have newc : ∀ i, (w.alloc (.cells c t fz)).cell? (at' w.heap.size i) = c[i]? := by
  intro i
  unfold World.cell?
  rw [newb]
  rfl
 have hglob : Glob (upd σ b (w.heap.size, sz)) (w.alloc (.cells c t fz)) := by
  refine h.glob.of (by simp) (fun i hi _ => blk i hi) fun x cb s e hlt => ?_
  rcases upd_inv e with ⟨rfl, q⟩ | ⟨_, q⟩
  ·cases q; omega
  ·exact ⟨x, s, q⟩
 refine ⟨h.lim, ?_, ?_, ?_, ?_, ?_, hglob⟩
 ·intro x cb s e
  rcases upd_inv e with ⟨rfl, q⟩ | ⟨_, q⟩
  ·cases q; exact ⟨hlt, by simp⟩
  ·have := h.dom x cb s q
   exact ⟨this.1, by simp; omega⟩
 ·intro x o cb s e1 e2
  rcases upd_inv e2 with ⟨rfl, e⟩ | ⟨_, e⟩
  ·cases e
   rw [ho] at e1
   cases e1
   refine ⟨hnc, hn, ?_, ?_⟩
   ·intro i hi
    refine ⟨?_, ?_⟩
    ·have := hfz i hi
     simp only [World.frozen?, newb]
     simp
     intro h1
     have : ¬ (fz.1 ≤ i ∧ i < fz.2) := this
     omega
    ·refine ⟨c[i]'(by omega), ?_⟩
     rw [newc, Array.getElem?_eq_getElem]
   ·intro i hi
    obtain ⟨v', e, d⟩ := hd i hi
    exact ⟨v', by rw [newc, e], d.mono sub⟩
  ·have hlt' := (h.dom x cb s e).2
   exact (ORel.mono sub (h.obj x o cb s e1 e)).of_block (blk cb hlt')
 ·intro x x' o o' cb s s' e1 e2 e3 e4
  rcases upd_inv e3 with ⟨rfl, e⟩ | ⟨_, e⟩
  ·cases e
   rcases upd_inv e4 with ⟨rfl, _⟩ | ⟨_, e'⟩
   ·exact .inl rfl
   ·have := (h.dom x' _ s' e').2; omega
  ·rcases upd_inv e4 with ⟨rfl, e'⟩ | ⟨_, e'⟩
   ·cases e'; have := (h.dom x _ s e).2; omega
   ·exact h.sep x x' o o' cb s s' e1 e2 e e'
 ·intro x x' o o' p e1 e2 e3 e4
  rcases upd_inv e3 with ⟨rfl, e⟩ | ⟨_, e⟩
  ·rw [ho] at e2; cases e2; simp [AObj.olds] at e4
  ·exact h.sup x x' o o' p e1 e2 e e4
 ·intro x o p e1 e2 x' e3
  rcases upd_inv e2 with ⟨rfl, e⟩ | ⟨_, e⟩
  ·rw [ho] at e1; cases e1; simp [AObj.olds] at e3
  ·obtain ⟨p', hp'⟩ := h.old x o p e1 e x' e3
   exact ⟨p', sub _ _ hp'⟩
theorem Ext.alloc_at {σ : Sg} {H : Heap} {nx b sz : Nat} {w : World} (o : Obj) (_h : Rel σ H nx w) (hb : σ b = none) :
  (∀ c, c ≠ b → c < nx → σ c = none → upd σ b (w.heap.size, sz) c = none) ∧
  (∀ c p, σ c = some p → upd σ b (w.heap.size, sz) c = some p) ∧
  (∀ c cb s, upd σ b (w.heap.size, sz) c = some (cb, s) → cb < w.heap.size → ∃ b' sz', σ b' = some (cb, sz')) ∧
  (∀ i, i < w.heap.size → (w.alloc o).heap[i]? = w.heap[i]?) := by
 refine ⟨?_, upd_sub hb, ?_, ?_⟩
 ·intro c hc _ hn
  unfold upd; rw [if_neg hc]; exact hn
 ·intro c cb s e hlt
  rcases upd_inv e with ⟨rfl, q⟩ | ⟨_, q⟩
  ·cases q; omega
  ·exact ⟨c, s, q⟩
 ·intro i hi
  show (w.heap.push _)[i]? = _
  rw [Array.getElem?_push, if_neg (by omega)]
theorem Rel.alloc {σ : Sg} {H : Heap} {nx n sz : Nat} {w : World} {ct : CT} {c : Array Value} {t : TypeId} {fz : Nat × Nat} (h : Rel σ H nx w) (hx : nx < 1048576)
  (hn : n ≤ ct.cap) (hsz : sz = c.size) (hnc : n ≤ sz) (hfz : ∀ i, i < sz → ¬ (fz.1 ≤ i ∧ i < fz.2)) (hd : ∀ i, i < n → ∃ v', c[i]? = some v' ∧ Den σ (ct.get i) v') :
  Rel (upd σ nx (w.heap.size, sz)) (set5 nx (some (.cells n ct [] false)) H) (nx + 1) (w.alloc (.cells c t fz)) ∧
  Ext σ (upd σ nx (w.heap.size, sz)) H (set5 nx (some (.cells n ct [] false)) H) nx (nx + 1) w (w.alloc (.cells c t fz)) := by
 have hb : σ nx = none := by
  cases e : σ nx with
  | none => rfl
  | some p => obtain ⟨cb, s⟩ := p; have := (h.dom nx cb s e).1; omega
 have h1 : Rel σ (set5 nx (some (.cells n ct [] false)) H) (nx + 1) w := h.pend hb (by omega) (by omega) hx
 obtain ⟨e1, e2, e3, e4⟩ := Ext.alloc_at (sz := sz) (.cells c t fz) h hb
 refine ⟨h1.alloc_at hb (by omega) (get5_set5_same _ _ _) hn hsz hnc hfz hd, ⟨e2, e3, ?_, by omega, rfl, rfl, rfl, by simp, fun i hi _ => e4 i hi⟩⟩
 intro c hc hn
 exact ⟨e1 c (by omega) hc hn, get5_ne (by omega) hx (by omega)⟩
def setCells (w : World) (cb : Nat) : Nat → List Value → World
 | _, [] => w
 | i, v :: l => setCells (w.setCell (at' cb i) v) cb (i + 1) l
theorem setCells_block : ∀ (l : List Value) (w : World) (cb i k : Nat), k ≠ cb → (setCells w cb i l).heap[k]? = w.heap[k]?
 | [], _, _, _, _, _ => rfl
 | v :: l, w, cb, i, k, h => by
  show (setCells (w.setCell (at' cb i) v) cb (i + 1) l).heap[k]? = _
  rw [setCells_block l _ cb (i + 1) k h]
  simp only [World.setCell, Array.getElem?_modify]
  rw [if_neg (fun e => h e.symm)]
theorem setCells_rest : ∀ (l : List Value) (w : World) (cb i : Nat), (setCells w cb i l).os = w.os ∧ (setCells w cb i l).tape = w.tape ∧ (setCells w cb i l).output = w.output ∧ (setCells w cb i l).heap.size = w.heap.size
 | [], _, _, _ => ⟨rfl, rfl, rfl, rfl⟩
 | v :: l, w, cb, i => by
  obtain ⟨h1, h2, h3, h4⟩ := setCells_rest l (w.setCell (at' cb i) v) cb (i + 1)
  exact ⟨h1, h2, h3, h4.trans (by simp)⟩
theorem setCells_frozen : ∀ (l : List Value) (w : World) (cb i : Nat) (a : Addr), (setCells w cb i l).frozen? a = w.frozen? a
 | [], _, _, _, _ => rfl
 | v :: l, w, cb, i, a => by
  show (setCells (w.setCell (at' cb i) v) cb (i + 1) l).frozen? a = _
  rw [setCells_frozen l, World.frozen?_setCell]
theorem setCells_cell : ∀ (l : List Value) (w : World) (cb i j : Nat), (∀ k, i ≤ k → k < i + l.length → ∃ v, w.cell? (at' cb k) = some v) →
  (setCells w cb i l).cell? (at' cb j) = if i ≤ j ∧ j < i + l.length then l[j - i]? else w.cell? (at' cb j)
 | [], w, cb, i, j, _ => by
  have : ¬ (i ≤ j ∧ j < i + ([] : List Value).length) := by simp
  rw [if_neg this]; rfl
 | v :: l, w, cb, i, j, h => by
  show (setCells (w.setCell (at' cb i) v) cb (i + 1) l).cell? (at' cb j) = _
  obtain ⟨u, hu⟩ := h i (Nat.le_refl _) (by simp)
  have same : (w.setCell (at' cb i) v).cell? (at' cb i) = some v := World.cell?_setCell_same (w := w) (a := at' cb i) (v := v) (u := u) hu
  have other : ∀ k, k ≠ i → (w.setCell (at' cb i) v).cell? (at' cb k) = w.cell? (at' cb k) := fun k hk =>
   World.cell?_setCell_other (w := w) (a := at' cb i) (b := at' cb k) (v := v) (fun e => hk (by cases e; rfl))
  rw [setCells_cell l _ cb (i + 1) j]
  ·by_cases h1 : j = i
   ·subst h1
    rw [if_neg (by omega), same, if_pos (by simp)]
    simp
   ·rw [other j h1]
    by_cases h2 : i + 1 ≤ j ∧ j < i + 1 + l.length
    ·rw [if_pos h2, if_pos (by simp; omega)]
     have e : j - i = (j - (i + 1)) + 1 := by omega
     rw [e]; simp
    ·rw [if_neg h2, if_neg (by simp; omega)]
  ·intro k hk1 hk2
   rw [other k (by omega)]
   exact h k (by omega) (by simp; omega)
theorem addr_add (cb i n : Nat) : Addr.add (at' cb i) n = at' cb (i + n) := by
 unfold Addr.add
 split
 ·rename_i h; subst h; rfl
 ·rfl
theorem run_storeCells {P : Program} : ∀ (l : List Value) (w : World) (cb off i : Nat), (∀ v, v ∈ l → v.oneCell' = true) →
  (∀ k, off + i ≤ k → k < off + i + l.length → w.frozen? (at' cb k) = false ∧ ∃ v, w.cell? (at' cb k) = some v) →
  (storeCells (at' cb off) l i).run P w = .ok () (setCells w cb (off + i) l)
 | [], w, cb, off, i, _, _ => rfl
 | v :: l, w, cb, off, i, h1, h2 => by
  obtain ⟨hf, u, hu⟩ := h2 (off + i) (Nat.le_refl _) (by simp)
  have hs : (store (Addr.add (at' cb off) i) v).run P w = .ok () (w.setCell (at' cb (off + i)) v) := by
   rw [run_store P w _ v .plain (h1 v (List.mem_cons_self ..)), addr_add, hu]
   simp [hf]
  have ih := run_storeCells (P := P) l (w.setCell (at' cb (off + i)) v) cb off (i + 1) (fun x hx => h1 x (List.mem_cons_of_mem _ hx)) (by
   intro k hk1 hk2
   have := h2 k (by omega) (by simp; omega)
   rw [World.frozen?_setCell, World.cell?_setCell_other]
   ·exact this
   ·intro e; have := congrArg Addr.off e; simp at this; omega)
  simp only [storeCells, Sem.run_bind, hs, Result.andThen_ok, ih]
  rfl
theorem Rel.store {σ : Sg} {H : Heap} {nx b n off cb sz : Nat} {w : World} {ct : CT} {olds : List Nat} {l : List AVal} {l' : List Value} (h : Rel σ H nx w)
  (hb : σ b = some (cb, sz)) (ho : get5 b H = some (.cells n ct olds false)) (hoff : off + l.length ≤ n) (hd : DenL σ l l') :
  Rel σ (set5 b (some (.cells n (CT.lay l off ct) [] false)) (dels olds H)) nx (setCells w cb off l') ∧
  Ext σ σ H (set5 b (some (.cells n (CT.lay l off ct) [] false)) (dels olds H)) nx nx w (setCells w cb off l') := by
 have hlim := h.lim
 have lt : ∀ {c p}, σ c = some p → c < 1048576 := fun {c p} hc => by obtain ⟨cb, sz⟩ := p; have := (h.dom c cb sz hc).1; omega
 have hold : ∀ c, c ∈ olds → ∃ p', σ c = some p' := fun c hc => h.old b _ _ ho hb c hc
 have holt : ∀ c, c ∈ olds → c < 1048576 := fun c hc => let ⟨_, e⟩ := hold c hc; lt e
 obtain ⟨r1, r2, r3, r4⟩ := setCells_rest l' w cb off
 obtain ⟨o1, o2, o3, o4⟩ := h.obj b _ cb sz ho hb
 have hlen : l.length = l'.length := hd.length
 have bn : b < 1048576 := lt hb
 have key : ∀ c o, c ≠ b → c < 1048576 → get5 c (set5 b (some (.cells n (CT.lay l off ct) [] false)) (dels olds H)) = some o → get5 c H = some o ∧ c ∉ olds := by
  intro c o hcb hc e
  rw [get5_ne (fun e => hcb e.symm) bn hc, get5_dels olds H c holt hc] at e
  by_cases hm : c ∈ olds
  ·rw [if_pos hm] at e; cases e
  ·rw [if_neg hm] at e; exact ⟨e, hm⟩
 have keyb : get5 b (set5 b (some (.cells n (CT.lay l off ct) [] false)) (dels olds H)) = some (.cells n (CT.lay l off ct) [] false) := get5_set5_same _ _ _
 have alone : ∀ c o s, c ≠ b → c ∉ olds → get5 c H = some o → σ c = some (cb, s) → False := by
  intro c o s hcb hno hc hs
  rcases h.sep c b o _ cb s sz hc ho hs hb with e | e | e
  ·exact hcb e
  ·exact hno e
  ·have := h.sup b c _ o _ ho hc hs e
   simp [AObj.sup] at this
 have hglob : Glob σ (setCells w cb off l') := by
  refine h.glob.of (Nat.le_of_eq r4.symm) (fun i hi hno => setCells_block l' w cb off i (fun e => by subst e; exact hno b sz hb)) fun x cb s e _ => ⟨x, s, e⟩
 refine ⟨⟨hlim, ?_, ?_, ?_, ?_, ?_, hglob⟩, ⟨fun _ _ e => e, fun c _ s e _ => ⟨c, s, e⟩, ?_, Nat.le_refl _, r1, r2, r3, Nat.le_of_eq r4.symm, ?_⟩⟩
 ·intro c x s e; have := h.dom c x s e; rw [r4]; exact this
 ·intro c o x s e1 e2
  by_cases hcb : c = b
  ·subst hcb
   rw [hb] at e2
   cases e2
   rw [keyb] at e1
   cases e1
   have cells : ∀ k, off ≤ k → k < off + l'.length → ∃ v, w.cell? (at' cb k) = some v := fun k hk1 hk2 => (o3 k (by omega)).2
   refine ⟨o1, by rw [CT.lay_cap]; exact o2, ?_, ?_⟩
   ·intro i hi
    rw [setCells_frozen, setCells_cell l' w cb off i cells]
    refine ⟨(o3 i hi).1, ?_⟩
    by_cases hin : off ≤ i ∧ i < off + l'.length
    ·rw [if_pos hin]; exact ⟨l'[i - off]'(by omega), by simp [List.getElem?_eq_getElem (show i - off < l'.length by omega)]⟩
    ·rw [if_neg hin]; exact (o3 i hi).2
   ·intro i hi
    rw [setCells_cell l' w cb off i cells, CT.lay_get l off ct i (by omega) (by omega)]
    by_cases hin : off ≤ i ∧ i < off + l.length
    ·rw [if_pos hin, if_pos (by omega)]
     have hlt : i - off < l.length := by omega
     obtain ⟨v', e, d⟩ := hd.get (i - off) (l[i - off]) (by simp [List.getElem?_eq_getElem hlt])
     refine ⟨v', e, ?_⟩
     simpa [List.getD, List.getElem?_eq_getElem hlt] using d
    ·rw [if_neg hin, if_neg (by omega)]; exact o4 i hi
  ·obtain ⟨e1', hno⟩ := key c o hcb (lt e2) e1
   refine (h.obj c o x s e1' e2).of_block (setCells_block l' w cb off x ?_)
   intro e
   subst e
   exact alone c o s hcb hno e1' e2
 ·intro c c' o o' x s s' e1 e2 e3 e4
  by_cases h1 : c = b
  ·subst h1
   by_cases h2 : c' = c
   ·exact .inl h2.symm
   ·obtain ⟨e2', hno⟩ := key c' o' h2 (lt e4) e2
    rw [hb] at e3
    cases e3
    exact (alone c' o' s' h2 hno e2' e4).elim
  ·obtain ⟨e1', hno⟩ := key c o h1 (lt e3) e1
   by_cases h2 : c' = b
   ·subst h2
    rw [hb] at e4
    cases e4
    exact (alone c o s h1 hno e1' e3).elim
   ·obtain ⟨e2', hno'⟩ := key c' o' h2 (lt e4) e2
    exact h.sep c c' o o' x s s' e1' e2' e3 e4
 ·intro c c' o o' p e1 e2 e3 e4
  by_cases h2 : c' = b
  ·subst h2
   rw [keyb] at e2; cases e2; simp [AObj.olds] at e4
  ·obtain ⟨e2', hno'⟩ := key c' o' h2 (lt e3) e2
   obtain ⟨p', hp'⟩ := h.old c' o' p e2' e3 c e4
   by_cases h1 : c = b
   ·subst h1
    have := h.sup c c' _ o' p ho e2' e3 e4
    simp [AObj.sup] at this
   ·obtain ⟨e1', hno⟩ := key c o h1 (lt hp') e1
    exact h.sup c c' o o' p e1' e2' e3 e4
 ·intro c o p e1 e2 c' e3
  by_cases h1 : c = b
  ·subst h1
   rw [keyb] at e1; cases e1; simp [AObj.olds] at e3
  ·obtain ⟨e1', _⟩ := key c o h1 (lt e2) e1
   exact h.old c o p e1' e2 c' e3
 ·intro c hc hn
  refine ⟨hn, ?_⟩
  have hcb : b ≠ c := fun e => by subst e; rw [hb] at hn; cases hn
  have hno : c ∉ olds := fun hm => by obtain ⟨_, e⟩ := hold c hm; rw [hn] at e; cases e
  rw [get5_ne hcb bn (by omega), get5_dels olds H c holt (by omega), if_neg hno]
 ·intro i hi hno
  exact setCells_block l' w cb off i (fun e => by subst e; exact hno b sz hb)
end Go.Ev
end
section
namespace Go.Ev
variable [GTab]
noncomputable section
inductive ARes where
 | val (v : AVal) (H : Heap) (nx : Nat)
 | call (f : FuncId) (args : List AVal)
 | dfr (f : FuncId) (args : List AVal)
 | pan (v : AVal)
 | rcv
def DDen (σ : Sg) (f : FuncId) (args : List AVal) (d : Deferred) : Prop :=
 ∃ cap, d.target = .fn (.func f) cap ∧ DenL σ args (d.args ++ cap).toList
def OpOK (P : Program) (o : Oper) (ρ : Operand → AVal) (H : Heap) (nx : Nat) (r : ARes) : Prop :=
 ∀ (σ : Sg) (w : World) (ρ' : Operand → Value), Rel σ H nx w → (∀ x, Den σ (ρ x) (ρ' x)) →
  match r with
  | .val v H' nx' => ∃ σ' w' v', Rel σ' H' nx' w' ∧ Ext σ σ' H H' nx nx' w w' ∧ Den σ' v v' ∧
    ((execOp ρ' o).run P w = .ok (.value v') w' ∨ ((execOp ρ' o).run P w = .ok .skip w' ∧ v' = undef))
  | .call f args => ∃ args', DenL σ args args' ∧ (execOp ρ' o).run P w = .ok (.enter f ⟨args'⟩) w
  | .dfr f args => ∃ d, DDen σ f args d ∧ (execOp ρ' o).run P w = .ok (.defer d) w
  | .pan v => ∃ v', Den σ v v' ∧ (execOp ρ' o).run P w = .halt (.panic v') w
  | .rcv => (execOp ρ' o).run P w = .ok .recover w
theorem OpOK.pure {P : Program} {o : Oper} {ρ : Operand → AVal} {H : Heap} {nx : Nat} {v : AVal}
  (h : ∀ (σ : Sg) (w : World) (ρ' : Operand → Value), Rel σ H nx w → (∀ x, Den σ (ρ x) (ρ' x)) → ∃ v', Den σ v v' ∧ (execOp ρ' o).run P w = .ok (.value v') w) :
  OpOK P o ρ H nx (.val v H nx) := by
 intro σ w ρ' hr hd
 obtain ⟨v', h1, h2⟩ := h σ w ρ' hr hd
 exact ⟨σ, w, v', hr, Ext.refl _ _ _ _, h1, .inl h2⟩
theorem run_underlying' {P : Program} {w : World} {t : TypeId} {d : TypeDesc} (h : P.underlying t = some d) : (underlying t).run P w = .ok d w := by
 simp [underlying, h]
theorem run_typeInfo' {P : Program} {w : World} {t : TypeId} {i : TypeInfo} (h : P.info? t = some i) : (typeInfo t).run P w = .ok i w := by
 simp [typeInfo, h]
theorem run_sizeOf' {P : Program} {w : World} {t : TypeId} {i : TypeInfo} (h : P.info? t = some i) : (sizeOf t).run P w = .ok i.size w := by
 simp [sizeOf, run_typeInfo' h]
theorem run_zeroValue' {P : Program} {w : World} {t : TypeId} {i : TypeInfo} {v : Value} (h : P.info? t = some i) (hz : i.zero = some v) : (zeroValue t).run P w = .ok v w := by
 simp [zeroValue, run_typeInfo' h, hz]
def aggD : TypeDesc → Bool
 | .struct _ | .array _ _ => true
 | _ => false
theorem run_isAgg' {P : Program} {w : World} {t : TypeId} {d : TypeDesc} (h : P.underlying t = some d) : (isAgg t).run P w = .ok (aggD d) w := by
 simp only [isAgg, Sem.run_bind, run_underlying' h, Result.andThen_ok]
 cases d <;> rfl
def ofCell : Value → AVal
 | .bool b => .bool b
 | .int k n => .int k n
 | .string s => .str s.data.toList.length (numL 0 s.data.toList)
 | .pointer none => .nilPtr
 | .slice none 0 0 => .nilSlice
 | .map none => .nilMap
 | .nilFunc => .nilFunc
 | .nilIface => .nilIface
 | _ => .und
def ofVal : Value → AVal
 | .agg cs => .agg (cs.toList.map ofCell)
 | v => ofCell v
theorem den_ofCell (σ : Sg) (v : Value) : Den σ (ofCell v) v := by
 unfold ofCell
 split <;> first | constructor | skip
 ·rename_i s
  have := Den.str (σ := σ) s.data.toList.length (numL 0 s.data.toList) (numL_lt _)
  rwa [dec_numL] at this
theorem denL_ofCell (σ : Sg) : ∀ l : List Value, DenL σ (l.map ofCell) l
 | [] => .nil
 | v :: l => .cons (den_ofCell σ v) (denL_ofCell σ l)
theorem den_ofVal (σ : Sg) (v : Value) : Den σ (ofVal v) v := by
 unfold ofVal
 split
 ·rename_i cs; exact Den.agg (denL_ofCell σ cs.toList)
 ·exact den_ofCell σ v
def opMove (x : Operand) (ρ : Operand → AVal) (H : Heap) (nx : Nat) : Option ARes := some (.val (ρ x) H nx)
theorem opMove_ok {P : Program} {o : Oper} {x : Operand} {ρ : Operand → AVal} {H : Heap} {nx : Nat} {r : ARes} (ho : o.op = .move x ∨ o.op = .assign x)
  (h : opMove x ρ H nx = some r) : OpOK P o ρ H nx r := by
 cases h
 refine OpOK.pure fun σ w ρ' _ hd => ⟨ρ' x, hd x, ?_⟩
 rcases ho with e | e <;> simp [execOp, e]
def opPick (c a b : Operand) (ρ : Operand → AVal) (H : Heap) (nx : Nat) : Option ARes :=
 match ρ c with
 | .bool true => some (.val (ρ a) H nx)
 | .bool false => some (.val (ρ b) H nx)
 | _ => none
theorem opPick_ok {P : Program} {o : Oper} {c a b : Operand} {ρ : Operand → AVal} {H : Heap} {nx : Nat} {r : ARes} (ho : o.op = .pick c a b)
  (h : opPick c a b ρ H nx = some r) : OpOK P o ρ H nx r := by
 unfold opPick at h
 split at h
 ·rename_i hc
  cases h
  refine OpOK.pure fun σ w ρ' _ hd => ⟨ρ' a, hd a, ?_⟩
  have := hd c; rw [hc] at this
  cases hv : ρ' c <;> rw [hv] at this <;> cases this
  simp [execOp, ho, hv, asBool]
 ·rename_i hc
  cases h
  refine OpOK.pure fun σ w ρ' _ hd => ⟨ρ' b, hd b, ?_⟩
  have := hd c; rw [hc] at this
  cases hv : ρ' c <;> rw [hv] at this <;> cases this
  simp [execOp, ho, hv, asBool]
 ·cases h
def aLoad (P : Program) (t : TypeId) (H : Heap) (v : AVal) : Option AVal :=
 match v with
 | .ptr b off =>
  match get5 b H with
  | some (.cells n ct _ _) =>
   match P.underlying t, P.info? t with
   | some d, some i =>
    match aggD d with
    | true => match Nat.ble (Nat.add off i.size) n with
     | true => some (.agg (CT.slab ct i.size off))
     | false => none
    | false => match Nat.ble (Nat.succ off) n with
     | true => some (CT.get off ct)
     | false => none
   | _, _ => none
  | _ => none
 | .gptr g off =>
  match GTab.tab g with
  | some l =>
   match P.underlying t, P.info? t with
   | some d, some i =>
    match aggD d with
    | true => match Nat.ble (Nat.add off i.size) l.length with
     | true => some (.agg ((l.drop off).take i.size))
     | false => none
    | false => l[off]?
   | _, _ => none
  | none => none
 | _ => none
theorem load_glob {σ : Sg} {w : World} {g : Nat} {l : List AVal} (h : Glob σ w) (hl : GTab.tab g = some l) (P : Program) (off k : Nat) (hk : off + k ≤ l.length) :
  ∃ l' : List Value, (∀ τ : Sg, DenL τ ((l.drop off).take k) l') ∧ (loadCells (at' g off) k).run P w = .ok ⟨l'⟩ w := by
 obtain ⟨_, _, h3⟩ := h.var g l hl
 have hf : ∀ j, j < k → ∃ v', w.cell? (at' g (off + j)) = some v' ∧ ∀ τ : Sg, Den τ (l[off + j]?.getD .und) v' := by
  intro j hj
  have hlt : off + j < l.length := by omega
  obtain ⟨v', e, d⟩ := h3 (off + j) l[off + j] (by simp [List.getElem?_eq_getElem hlt])
  exact ⟨v', e, by simpa [List.getElem?_eq_getElem hlt] using d⟩
 refine ⟨(List.range k).map fun j => (w.cell? (at' g (off + j))).getD undef, fun τ => ?_, ?_⟩
 ·refine DenL.of_get (by simp; omega) ?_
  intro i v v' e1 e2
  have hi : i < k := by
   rcases Nat.lt_or_ge i k with h | h
   ·exact h
   ·rw [List.getElem?_eq_none (by simp; omega)] at e2; cases e2
  obtain ⟨u, q1, q2⟩ := hf i hi
  simp [hi, q1] at e2
  subst e2
  have hlt : off + i < l.length := by omega
  have : v = l[off + i]?.getD .und := by
   simp [hi, List.getElem?_drop, List.getElem?_eq_getElem hlt] at e1
   simp [List.getElem?_eq_getElem hlt, e1]
  rw [this]
  exact q2 τ
 ·refine run_loadCells (P := P) w (at' g off) k _ (fun j hj => ?_)
  obtain ⟨u, q1, _⟩ := hf j hj
  rw [addr_add, q1]
  simp
theorem load_slab {σ : Sg} {H : Heap} {nx b n cb sz : Nat} {w : World} {ct : CT} {olds : List Nat} {s : Bool} (h : Rel σ H nx w) (ho : get5 b H = some (.cells n ct olds s)) (hb : σ b = some (cb, sz))
  (P : Program) (off k : Nat) (hk : off + k ≤ n) : ∃ l : List Value, l.length = k ∧ DenL σ (CT.slab ct k off) l ∧ (∀ j, j < k → w.cell? (at' cb (off + j)) = l[j]?) ∧ (loadCells (at' cb off) k).run P w = .ok ⟨l⟩ w := by
 obtain ⟨_, _, _, h4⟩ := h.obj b _ cb sz ho hb
 have f : ∃ f : Nat → Value, ∀ j, j < k → w.cell? (at' cb (off + j)) = some (f j) ∧ Den σ (ct.get (off + j)) (f j) := by
  refine ⟨fun j => (w.cell? (at' cb (off + j))).getD undef, fun j hj => ?_⟩
  obtain ⟨v', e, d⟩ := h4 (off + j) (by omega)
  simp only [e, Option.getD_some]
  exact ⟨trivial, d⟩
 obtain ⟨f, hf⟩ := f
 refine ⟨(List.range k).map f, by simp, ?_, ?_, ?_⟩
 ·refine DenL.of_get (by simp [CT.slab_length]) ?_
  intro i v v' e1 e2
  have hi : i < k := by
   rcases Nat.lt_or_ge i k with h | h
   ·exact h
   ·rw [List.getElem?_eq_none (by simp [CT.slab_length]; exact h)] at e1; cases e1
  rw [CT.slab_get ct k off i hi] at e1
  cases e1
  simp [hi] at e2
  subst e2
  exact (hf i hi).2
 ·intro j hj
  rw [(hf j hj).1]
  simp [hj]
 ·exact run_loadCells (P := P) w (at' cb off) k f (fun j hj => by rw [addr_add]; exact (hf j hj).1)
theorem aLoad_ok {P : Program} {t : TypeId} {H : Heap} {v x : AVal} {σ : Sg} {nx : Nat} {w : World} {v' : Value} (hr : Rel σ H nx w) (hv : Den σ v v') (h : aLoad P t H v = some x) :
  ∃ x', Den σ x x' ∧ (Instr.loadAt t v').run P w = .ok x' w := by
 unfold aLoad at h
 split at h
 ·rename_i b off
  split at h
  ·rename_i n ct olds s ho
   split at h
   ·rename_i d i hd hi
    cases hv with
    | @ptr _ _ cb sz hb =>
     split at h
     ·rename_i hagg
      split at h
      ·rename_i hle
       have hle' := Nat.le_of_ble_eq_true hle
       cases h
       obtain ⟨l, _, hl, _, hrun⟩ := load_slab hr ho hb P off i.size hle'
       exact ⟨_, .agg hl, by simp [Instr.loadAt, Instr.sureAddr, loadVar, run_isAgg' hd, hagg, run_sizeOf' hi, hrun]⟩
      ·cases h
     ·rename_i hagg
      split at h
      ·rename_i hle
       have hle' := Nat.le_of_ble_eq_true hle
       cases h
       obtain ⟨_, _, _, h4⟩ := hr.obj b _ cb sz ho hb
       obtain ⟨u, e, du⟩ := h4 off (by omega)
       exact ⟨u, du, by simp [Instr.loadAt, Instr.sureAddr, loadVar, run_isAgg' hd, hagg, e]⟩
      ·cases h
   ·cases h
  ·cases h
 ·rename_i g off
  split at h <;> try (cases h; done)
  rename_i l hl
  split at h <;> try (cases h; done)
  rename_i d i hd hi
  cases hv
  split at h
  ·rename_i hagg
   split at h <;> try (cases h; done)
   rename_i hle
   have hle' : off + i.size ≤ l.length := Nat.le_of_ble_eq_true hle
   cases h
   obtain ⟨l', hd', hrun⟩ := load_glob hr.glob hl P off i.size hle'
   exact ⟨_, .agg (hd' σ), by simp [Instr.loadAt, Instr.sureAddr, loadVar, run_isAgg' hd, hagg, run_sizeOf' hi, hrun]⟩
  ·rename_i hagg
   obtain ⟨_, _, h3⟩ := hr.glob.var g l hl
   obtain ⟨v', e, du⟩ := h3 off x h
   exact ⟨v', du σ, by simp [Instr.loadAt, Instr.sureAddr, loadVar, run_isAgg' hd, hagg, e]⟩
 ·cases h
def opLoad (P : Program) (t : TypeId) (a : Operand) (ρ : Operand → AVal) (H : Heap) (nx : Nat) : Option ARes :=
 match aLoad P t H (ρ a) with
 | some v => some (.val v H nx)
 | none => none
theorem opLoad_ok {P : Program} {o : Oper} {t : TypeId} {a : Operand} {ρ : Operand → AVal} {H : Heap} {nx : Nat} {r : ARes} (ho : o.op = .load t a)
  (h : opLoad P t a ρ H nx = some r) : OpOK P o ρ H nx r := by
 unfold opLoad at h
 split at h
 ·rename_i v hv
  cases h
  refine OpOK.pure fun σ w ρ' hr hd => ?_
  obtain ⟨x', dx, hrun⟩ := aLoad_ok hr (hd a) hv
  exact ⟨x', dx, by simp [execOp, ho, hrun]⟩
 ·cases h
def acells : AVal → Option (List AVal)
 | .und => none
 | .tuple _ => none
 | .agg cs => some cs
 | v => some [v]
theorem acells_ok {σ : Sg} {v : AVal} {v' : Value} {cs : List AVal} (h : acells v = some cs) (hd : Den σ v v') : DenL σ cs v'.cells.toList := by
 unfold acells at h
 split at h
 ·cases h
 ·cases h
 ·cases h; cases hd with | agg hl => exact hl
 ·rename_i h1 h2 h3
  cases h
  have e : v'.cells = #[v'] := by
   cases hd <;> first
    | rfl
    | exact (h1 rfl).elim
    | exact (h2 _ rfl).elim
    | exact (h3 _ rfl).elim
  rw [e]
  exact .cons hd .nil
def cellv : AVal → Bool
 | .und | .agg _ | .tuple _ => false
 | _ => true
theorem cellv_ok {σ : Sg} {v : AVal} {v' : Value} (h : cellv v = true) (hd : Den σ v v') : v'.oneCell' = true := by
 cases hd <;> first | rfl | (simp [cellv] at h)
def allCell : List AVal → Bool
 | [] => true
 | v :: l => match cellv v with | true => allCell l | false => false
theorem allCell_ok {σ : Sg} : ∀ {l : List AVal} {l' : List Value}, allCell l = true → DenL σ l l' → ∀ v, v ∈ l' → v.oneCell' = true
 | _, _, _, .nil, v, h => by simp at h
 | a :: l, b :: l', ha, .cons hd t, v, h => by
  unfold allCell at ha
  split at ha
  ·rename_i hc
   rcases List.mem_cons.1 h with rfl | h
   ·exact cellv_ok hc hd
   ·exact allCell_ok ha t v h
  ·cases ha
def relay (l : List AVal) (len off n : Nat) (ct : CT) : CT :=
 match Nat.beq off 0, Nat.beq len n, Nat.ble n 4096 with
 | true, true, true => CT.ofL n l
 | _, _, _ => CT.lay l off ct
theorem relay_cap {l : List AVal} {off n : Nat} {ct : CT} (h : n ≤ ct.cap) : n ≤ (relay l l.length off n ct).cap := by
 unfold relay
 split
 ·rename_i h3; exact CT.ofL_cap n l (Nat.le_of_ble_eq_true h3)
 ·rw [CT.lay_cap]; exact h
theorem relay_get {l : List AVal} {off n : Nat} {ct : CT} (h : n ≤ ct.cap) (_ho : off + l.length ≤ n) (i : Nat) (hi : i < n) : (relay l l.length off n ct).get i = (CT.lay l off ct).get i := by
 unfold relay
 split
 ·rename_i h1 h2 h3
  have e1 := Nat.eq_of_beq_eq_true h1
  have e2 := Nat.eq_of_beq_eq_true h2
  rw [CT.get_ofL n l i (Nat.le_of_ble_eq_true h3) hi, CT.lay_get l off ct i (by omega) (by omega), if_pos (by omega)]
  congr 1
  omega
 ·rfl
def aStore (P : Program) (t : TypeId) (H : Heap) (a x : AVal) : Option Heap :=
 match a, acells x, P.info? t with
 | .ptr b off, some cs, some i =>
  match get5 b H with
  | some (.cells n ct olds false) =>
   match Nat.beq cs.length i.size, Nat.ble (Nat.add off i.size) n, allCell cs with
   | true, true, true => some (set5 b (some (.cells n (relay cs i.size off n ct) [] false)) (dels olds H))
   | _, _, _ => none
  | _ => none
 | _, _, _ => none
theorem Rel.relay {σ : Sg} {H : Heap} {nx b n : Nat} {w : World} {ct ct' : CT} {olds : List Nat} {s : Bool} (h : Rel σ (set5 b (some (.cells n ct olds s)) H) nx w) (hb : ∃ p, σ b = some p)
  (hcap : n ≤ ct'.cap) (hg : ∀ i, i < n → ct'.get i = ct.get i) : Rel σ (set5 b (some (.cells n ct' olds s)) H) nx w := by
 obtain ⟨⟨cb, sz⟩, hb⟩ := hb
 have hlim := h.lim
 have lt : ∀ {c p}, σ c = some p → c < 1048576 := fun {c p} hc => by obtain ⟨cb, sz⟩ := p; have := (h.dom c cb sz hc).1; omega
 have bn := lt hb
 have key : ∀ c o, c < 1048576 → get5 c (set5 b (some (.cells n ct' olds s)) H) = some o → ∃ o', get5 c (set5 b (some (.cells n ct olds s)) H) = some o' ∧ o'.olds = o.olds ∧ o'.sup = o.sup := by
  intro c o hc e
  by_cases hcb : b = c
  ·subst hcb; rw [get5_set5_same] at e; cases e; exact ⟨_, get5_set5_same _ _ _, rfl, rfl⟩
  ·rw [get5_ne hcb bn hc] at e; exact ⟨o, by rw [get5_ne hcb bn hc]; exact e, rfl, rfl⟩
 refine ⟨h.lim, h.dom, ?_, ?_, ?_, ?_, h.glob⟩
 ·intro c o x z e1 e2
  by_cases hcb : b = c
  ·subst hcb
   rw [get5_set5_same] at e1
   cases e1
   obtain ⟨a1, a2, a3, a4⟩ := h.obj b _ x z (get5_set5_same _ _ _) e2
   exact ⟨a1, hcap, a3, fun i hi => by rw [hg i hi]; exact a4 i hi⟩
  ·rw [get5_ne hcb bn (lt e2)] at e1
   exact h.obj c o x z (by rw [get5_ne hcb bn (lt e2)]; exact e1) e2
 ·intro c c' o o' x z z' e1 e2 e3 e4
  obtain ⟨p, f1, g1, _⟩ := key c o (lt e3) e1
  obtain ⟨q, f2, g2, _⟩ := key c' o' (lt e4) e2
  rw [← g1, ← g2]
  exact h.sep c c' p q x z z' f1 f2 e3 e4
 ·intro c c' o o' p e1 e2 e3 e4
  obtain ⟨q, f2, g2, _⟩ := key c' o' (lt e3) e2
  rw [← g2] at e4
  obtain ⟨p', hp'⟩ := h.old c' q p f2 e3 c e4
  obtain ⟨r, f1, _, g1⟩ := key c o (lt hp') e1
  rw [← g1]
  exact h.sup c c' r q p f1 f2 e3 e4
 ·intro c o p e1 e2 c' e3
  obtain ⟨q, f1, g1, _⟩ := key c o (lt e2) e1
  rw [← g1] at e3
  exact h.old c q p f1 e2 c' e3
theorem Ext.relay {σ σ' : Sg} {H H' : Heap} {nx nx' b : Nat} {w w' : World} {x y : Option AObj} (h : Ext σ σ' H (set5 b x H') nx nx' w w') (hb : ∃ p, σ b = some p) (bn : b < 1048576) (hl : nx ≤ 1048576) :
  Ext σ σ' H (set5 b y H') nx nx' w w' := by
 obtain ⟨p, hb⟩ := hb
 refine { h with pend := fun c hc hn => ?_ }
 obtain ⟨h1, h2⟩ := h.pend c hc hn
 refine ⟨h1, ?_⟩
 have hcb : b ≠ c := fun e => by subst e; rw [hb] at hn; cases hn
 rw [get5_ne hcb bn (by omega)] at h2 ⊢
 exact h2
theorem aStore_ok {P : Program} {t : TypeId} {H H' : Heap} {a x : AVal} {σ : Sg} {nx : Nat} {w : World} {a' x' : Value} (hr : Rel σ H nx w) (ha : Den σ a a') (hx : Den σ x x')
  (h : aStore P t H a x = some H') : ∃ w', Rel σ H' nx w' ∧ Ext σ σ H H' nx nx w w' ∧ (Instr.storeAt t a' x').run P w = .ok () w' := by
 unfold aStore at h
 split at h
 ·rename_i b off cs i hcs hi
  split at h
  ·rename_i n ct olds ho
   split at h
   ·rename_i h1 h2 h3
    have e1 := Nat.eq_of_beq_eq_true h1
    have e2 := Nat.le_of_ble_eq_true h2
    cases h
    cases ha with
    | @ptr _ _ cb sz hb =>
     have hlim := hr.lim
     have bn : b < 1048576 := by have := (hr.dom b cb sz hb).1; omega
     have hl := acells_ok hcs hx
     obtain ⟨o1, o2, o3, o4⟩ := hr.obj b _ cb sz ho hb
     have hadd : off + cs.length ≤ n := by simp at e2; omega
     obtain ⟨r1, r2⟩ := hr.store hb ho hadd hl
     rw [← e1]
     refine ⟨setCells w cb off x'.cells.toList, r1.relay ⟨_, hb⟩ (relay_cap o2) (relay_get o2 hadd), r2.relay ⟨_, hb⟩ bn hlim, ?_⟩
     have hlen := hl.length
     have hrun := run_storeCells (P := P) x'.cells.toList w cb off 0 (allCell_ok h3 hl) (fun k hk1 hk2 => o3 k (by omega))
     have hsz : x'.cells.size = i.size := by rw [← e1, hlen]; simp
     simp only [Instr.storeAt, Instr.sureAddr, storeVar, Sem.run_bind, Sem.run_pure, Result.andThen_ok, run_sizeOf' hi, hsz, Sem.run_ite]
     simpa using hrun
   ·cases h
  ·cases h
 ·cases h
def opStore (P : Program) (t : TypeId) (a x : Operand) (ρ : Operand → AVal) (H : Heap) (nx : Nat) : Option ARes :=
 match aStore P t H (ρ a) (ρ x) with
 | some H' => some (.val .und H' nx)
 | none => none
theorem opStore_ok {P : Program} {o : Oper} {t : TypeId} {a x : Operand} {ρ : Operand → AVal} {H : Heap} {nx : Nat} {r : ARes} (ho : o.op = .store t a x)
  (h : opStore P t a x ρ H nx = some r) : OpOK P o ρ H nx r := by
 unfold opStore at h
 split at h
 ·rename_i H' hv
  cases h
  intro σ w ρ' hr hd
  obtain ⟨w', r1, r2, hrun⟩ := aStore_ok hr (hd a) (hd x) hv
  exact ⟨σ, w', undef, r1, r2, .und _, .inr ⟨by simp [execOp, ho, hrun], rfl⟩⟩
 ·cases h
end
end Go.Ev
namespace Go.Ev
variable [GTab]
noncomputable section
def forceI {β : Type} (n : Int) (k : Int → β) : β :=
 Int.rec (motive := fun _ => (Int → β) → β) (fun a k => Nat.rec (k (.ofNat 0)) (fun m _ => k (.ofNat (Nat.succ m))) a) (fun a k => Nat.rec (k (.negSucc 0)) (fun m _ => k (.negSucc (Nat.succ m))) a) n k
theorem forceI_eq {β : Type} (n : Int) (k : Int → β) : forceI n k = k n := by
 cases n with
 | ofNat a => cases a <;> rfl
 | negSucc a => cases a <;> rfl
def forceN {β : Type} (n : Nat) (k : Nat → β) : β := Nat.rec (motive := fun _ => β) (k 0) (fun m _ => k (Nat.succ m)) n
theorem forceN_eq {β : Type} (n : Nat) (k : Nat → β) : forceN n k = k n := by cases n <;> rfl
def fits (k : IntKind) (n : Int) : Bool :=
 Int.rec (motive := fun _ => IntKind → Bool)
  (fun a k => IntKind.rec (Nat.ble a 127) (Nat.ble a 32767) (Nat.ble a 2147483647) (Nat.ble a 9223372036854775807) (Nat.ble a 255) (Nat.ble a 65535) (Nat.ble a 4294967295) (Nat.ble a 18446744073709551615) k)
  (fun a k => IntKind.rec (Nat.ble a 127) (Nat.ble a 32767) (Nat.ble a 2147483647) (Nat.ble a 9223372036854775807) false false false false k) n k
theorem fits_ok {k : IntKind} {n : Int} (h : fits k n = true) : k.wrap n = n := by
 have le : ∀ {a b : Nat}, Nat.ble a b = true → a ≤ b := fun h => Nat.le_of_ble_eq_true h
 cases n with
 | ofNat a =>
  have e : Int.ofNat a = (a : Int) := rfl
  rw [e] at h ⊢
  cases k
  ·have := le (b := 127) h; exact IntWalk.i8_in _ (by omega)
  ·have := le (b := 32767) h; exact IntWalk.i16_in _ (by omega)
  ·have := le (b := 2147483647) h; exact IntWalk.i32_in _ (by omega)
  ·have := le (b := 9223372036854775807) h; exact IntWalk.i64_in _ (by omega)
  ·have := le (b := 255) h; exact IntWalk.u8_in _ (by omega)
  ·have := le (b := 65535) h; exact IntWalk.u16_in _ (by omega)
  ·have := le (b := 4294967295) h; exact IntWalk.u32_in _ (by omega)
  ·have := le (b := 18446744073709551615) h; exact IntWalk.u64_in _ (by omega)
 | negSucc a =>
  cases k
  ·have := le (b := 127) h; exact IntWalk.i8_in _ (by omega)
  ·have := le (b := 32767) h; exact IntWalk.i16_in _ (by omega)
  ·have := le (b := 2147483647) h; exact IntWalk.i32_in _ (by omega)
  ·have := le (b := 9223372036854775807) h; exact IntWalk.i64_in _ (by omega)
  all_goals (cases h)
def awrap (k : IntKind) (n : Int) : Int := Bool.rec (k.wrap n) n (fits k n)
theorem awrap_eq (k : IntKind) (n : Int) : awrap k n = k.wrap n := by
 unfold awrap
 cases h : fits k n with
 | true => exact (fits_ok h).symm
 | false => rfl
def ilt (a b : Int) : Bool := Int.rec (motive := fun _ => Int → Bool) (fun x b => Int.rec (motive := fun _ => Nat → Bool) (fun y x => Nat.ble (Nat.succ x) y) (fun _ _ => false) b x) (fun x b => Int.rec (motive := fun _ => Nat → Bool) (fun _ _ => true) (fun y x => Nat.ble (Nat.succ y) x) b x) a b
def ieq (a b : Int) : Bool := Int.rec (motive := fun _ => Int → Bool) (fun x b => Int.rec (motive := fun _ => Nat → Bool) (fun y x => Nat.beq x y) (fun _ _ => false) b x) (fun x b => Int.rec (motive := fun _ => Nat → Bool) (fun _ _ => false) (fun y x => Nat.beq x y) b x) a b
theorem ilt_eq (a b : Int) : ilt a b = decide (a < b) := by
 rw [Bool.eq_iff_iff, decide_eq_true_iff]
 cases a with
 | ofNat x => cases b with
  | ofNat y => show Nat.ble (x + 1) y = true ↔ _; rw [Nat.ble_eq]; simp; omega
  | negSucc y => show false = true ↔ _; simp; omega
 | negSucc x => cases b with
  | ofNat y => show true = true ↔ _; simp; omega
  | negSucc y => show Nat.ble (y + 1) x = true ↔ _; rw [Nat.ble_eq]; omega
theorem ieq_eq (a b : Int) : ieq a b = (a == b) := by
 rw [Bool.eq_iff_iff, beq_iff_eq]
 cases a with
 | ofNat x => cases b with
  | ofNat y => show Nat.beq x y = true ↔ _; rw [Nat.beq_eq]; simp; omega
  | negSucc y => show false = true ↔ _; simp
 | negSucc x => cases b with
  | ofNat y => show false = true ↔ _; simp
  | negSucc y => show Nat.beq x y = true ↔ _; rw [Nat.beq_eq]; simp
def bnot (b : Bool) : Bool := Bool.rec true false b
theorem bnot_eq (b : Bool) : bnot b = !b := by cases b <;> rfl
def aInt (op : BinOp) (k : IntKind) (a b : Int) : Option AVal :=
 match op with
 | .add => forceI (awrap k (Int.add a b)) fun r => some (.int k r)
 | .sub => forceI (awrap k (Int.sub a b)) fun r => some (.int k r)
 | .mul => forceI (awrap k (Int.mul a b)) fun r => some (.int k r)
 | .quo => match ieq b 0 with | true => none | false => forceI (awrap k (Int.tdiv a b)) fun r => some (.int k r)
 | .rem => match ieq b 0 with | true => none | false => forceI (Int.tmod a b) fun r => some (.int k r)
 | .and => forceI (k.wrap (BitVec.ofInt k.bits a &&& BitVec.ofInt k.bits b).toNat) fun r => some (.int k r)
 | .or => forceI (k.wrap (BitVec.ofInt k.bits a ||| BitVec.ofInt k.bits b).toNat) fun r => some (.int k r)
 | .xor => forceI (k.wrap (BitVec.ofInt k.bits a ^^^ BitVec.ofInt k.bits b).toNat) fun r => some (.int k r)
 | .andNot => forceI (k.wrap (BitVec.ofInt k.bits a &&& ~~~BitVec.ofInt k.bits b).toNat) fun r => some (.int k r)
 | .eql => some (.bool (ieq a b))
 | .neq => some (.bool (bnot (ieq a b)))
 | .lss => some (.bool (ilt a b))
 | .leq => some (.bool (bnot (ilt b a)))
 | .gtr => some (.bool (ilt b a))
 | .geq => some (.bool (bnot (ilt a b)))
 | _ => none
def aShift (op : BinOp) (k : IntKind) (a b : Int) : Option AVal :=
 match ilt b 0, op with
 | false, .shl => forceI (k.wrap (a * 2 ^ (min b.toNat k.bits))) fun r => some (.int k r)
 | false, .shr => forceI (a.fdiv (2 ^ (min b.toNat k.bits))) fun r => some (.int k r)
 | _, _ => none
theorem aInt_ok {P : Program} {w : World} {op : BinOp} {k : IntKind} {a b : Int} {t : TypeId} {v : AVal} (σ : Sg) (h : aInt op k a b = some v) :
  ∃ v', Den σ v v' ∧ (binOp op t (.int k a) (.int k b)).run P w = .ok v' w := by
 unfold aInt at h
 split at h
 all_goals (try (cases h; done))
 all_goals (simp only [forceI_eq, awrap_eq, ieq_eq, ilt_eq, bnot_eq] at h)
 case h_4 => split at h <;> first | (cases h; done) | (rename_i hz; cases h; exact ⟨_, .int _ _, by have : ¬ b = 0 := (by simpa using hz); simp [binOp, Op.intDiv, this]⟩)
 case h_5 => split at h <;> first | (cases h; done) | (rename_i hz; cases h; exact ⟨_, .int _ _, by have : ¬ b = 0 := (by simpa using hz); simp [binOp, Op.intDiv, this]⟩)
 all_goals (cases h)
 all_goals first
  | (refine ⟨_, .int _ _, ?_⟩; simp only [binOp, ne_eq, not_true_eq_false, if_false, Op.intArith, Op.intBits]; rfl)
  | (refine ⟨_, .bool _, ?_⟩; simp only [binOp, ne_eq, not_true_eq_false, if_false, Op.intCmp, Sem.run_pure]; done)
  | (refine ⟨_, .bool _, ?_⟩; simp only [binOp, ne_eq, not_true_eq_false, if_false, Op.intCmp, Sem.run_pure]; rfl)
  | (refine ⟨_, .bool _, ?_⟩; simp only [binOp, ne_eq, not_true_eq_false, if_false, Op.intCmp, Sem.run_pure]; congr 2; rw [Bool.eq_iff_iff]; simp)
theorem aShift_ok {P : Program} {w : World} {op : BinOp} {k k' : IntKind} {a b : Int} {t : TypeId} {v : AVal} (σ : Sg) (h : aShift op k a b = some v) :
  ∃ v', Den σ v v' ∧ (binOp op t (.int k a) (.int k' b)).run P w = .ok v' w := by
 unfold aShift at h
 split at h
 ·rename_i h1
  rw [ilt_eq] at h1
  have h2 : ¬ b < 0 := by simpa using h1
  rw [forceI_eq] at h
  cases h
  exact ⟨_, .int _ _, by simp [binOp, Op.shift, h2]⟩
 ·rename_i h1
  rw [ilt_eq] at h1
  have h2 : ¬ b < 0 := by simpa using h1
  rw [forceI_eq] at h
  cases h
  exact ⟨_, .int _ _, by simp [binOp, Op.shift, h2]⟩
 ·cases h
theorem dec_toList (n x : Nat) : (dec n x).toList = digs n x := by rw [ByteArray.toList_eq]; rfl
theorem dec_append (n m x y : Nat) (h : y < 256 ^ m) : dec n x ++ dec m y = dec (n + m) (x * 256 ^ m + y) := by
 unfold dec
 rw [ByteArray.mk_append_mk, digs_append n m x y h]
theorem lt_append {n m x y : Nat} (hx : x < 256 ^ n) (hy : y < 256 ^ m) : x * 256 ^ m + y < 256 ^ (n + m) := by
 rw [Nat.pow_add]
 have : (x + 1) * 256 ^ m ≤ 256 ^ n * 256 ^ m := Nat.mul_le_mul_right _ hx
 rw [Nat.add_mul] at this
 omega
theorem dec_extract (n x a b : Nat) (hb : b ≤ n) (hab : a ≤ b) : (dec n x).extract a b = dec (b - a) (x / 256 ^ (n - b) % 256 ^ (b - a)) := by
 rw [Lib.extract_eq, dec_data, digs_piece n x a b hb hab]
 rfl
theorem pow256 (m : Nat) : (256 : Nat) ^ m = 2 ^ (8 * m) := by rw [Nat.pow_mul]
def cutX (n x a b : Nat) : Nat := Nat.mod (Nat.shiftRight x (Nat.mul 8 (Nat.sub n b))) (Nat.pow 2 (Nat.mul 8 (Nat.sub b a)))
theorem cutX_eq (n x a b : Nat) : cutX n x a b = x / 256 ^ (n - b) % 256 ^ (b - a) := by
 rw [pow256, pow256, ← Nat.shiftRight_eq_div_pow]
 rfl
def aText (op : BinOp) (n x m y : Nat) : Option AVal :=
 match op with
 | .add => match Nat.ble (Nat.add n m) 9223372036854775807 with
  | true => forceN (Nat.add n m) fun l => forceN (Nat.add (Nat.shiftLeft x (Nat.mul 8 m)) y) fun z => some (.str l z)
  | false => none
 | .eql => some (.bool (Bool.rec false (Nat.beq x y) (Nat.beq n m)))
 | .neq => some (.bool (Bool.rec true (bnot (Nat.beq x y)) (Nat.beq n m)))
 | _ => none
theorem textEq {n x m y : Nat} (hx : x < 256 ^ n) (hy : y < 256 ^ m) : ((dec n x).toList == (dec m y).toList) = Bool.rec false (Nat.beq x y) (Nat.beq n m) := by
 rw [dec_toList, dec_toList, Bool.eq_iff_iff, beq_iff_eq, digs_eq hx hy]
 cases h : Nat.beq n m with
 | true => have := Nat.eq_of_beq_eq_true h; simp [this]
 | false =>
  have : n ≠ m := fun e => by subst e; simp at h
  simp [this]
theorem aText_ok {P : Program} {w : World} {op : BinOp} {n x m y : Nat} {t : TypeId} {v : AVal} (σ : Sg) (hx : x < 256 ^ n) (hy : y < 256 ^ m) (h : aText op n x m y = some v) :
  ∃ v', Den σ v v' ∧ (binOp op t (.string (dec n x)) (.string (dec m y))).run P w = .ok v' w := by
 unfold aText at h
 split at h
 ·split at h
  ·rename_i hle
   have hle' := Nat.le_of_ble_eq_true hle
   rw [forceN_eq, forceN_eq] at h
   cases h
   have e : Nat.add (Nat.shiftLeft x (Nat.mul 8 m)) y = x * 256 ^ m + y := by
    show x <<< (8 * m) + y = _
    rw [Nat.shiftLeft_eq, pow256]
   rw [e]
   refine ⟨.string (dec (n + m) (x * 256 ^ m + y)), .str _ _ (lt_append hx hy), ?_⟩
   have hsz : ¬ (((dec n x).size + (dec m y).size : Nat) : Int) > IntKind.i64.max := by
    rw [dec_size, dec_size]
    have : (n + m : Nat) ≤ 9223372036854775807 := hle'
    simp [IntKind.max, IntKind.signed, IntKind.bits]
    omega
   simp only [binOp, Op.stringOp, if_neg hsz, Sem.run_pure]
   rw [dec_append _ _ _ _ hy]
  ·cases h
 ·cases h
  exact ⟨_, .bool _, by simp only [binOp, Op.stringOp, Sem.run_pure, textEq hx hy]⟩
 ·cases h
  refine ⟨_, .bool _, ?_⟩
  simp only [binOp, Op.stringOp, Sem.run_pure, textEq hx hy]
  cases Nat.beq n m <;> simp [bnot_eq]
 ·cases h
def nilness : TypeDesc → AVal → Option Bool
 | .pointer _, .ptr _ _ => some false
 | .pointer _, .nilPtr => some true
 | .slice _, .slice .. => some false
 | .slice _, .nilSlice => some true
 | .map _ _, .map _ => some false
 | .map _ _, .nilMap => some true
 | .func _ _ _, .func _ _ _ => some false
 | .func _ _ _, .nilFunc => some true
 | .interface _, .iface _ _ => some false
 | .interface _, .nilIface => some true
 | _, _ => none
def isConstO : Operand → Bool
 | .const _ => true
 | _ => false
def aEq (P : Program) (t : TypeId) (x y : Operand) (a b : AVal) : Option Bool :=
 match P.underlying t with
 | some .bool => match a, b with
  | .bool p, .bool q => some (Bool.rec (bnot q) q p)
  | _, _ => none
 | some d => match nilness d a, nilness d b with
  | some p, some q => match isConstO x, isConstO y with
   | true, _ => match p with | true => some q | false => none
   | false, true => match q with | true => some p | false => none
   | _, _ => none
  | _, _ => none
 | none => none
theorem eqGuard_run {P : Program} {w : World} {op : BinOp} {t : TypeId} {x y : Operand} {a b : Value} (h : (isConstO x = true ∨ isConstO y = true) ∨ ¬ (∃ cs ds, a = .agg cs ∧ b = .agg ds) ∧ ¬ (a = .nilIface ∧ b = .nilIface)) (hagg : ¬ (∃ cs ds, a = .agg cs ∧ b = .agg ds)) :
  (eqGuard op t x y a b).run P w = .ok () w := by
 have two : op = .eql ∨ op = .neq ∨ (eqGuard op t x y a b).run P w = .ok () w := by
  cases op <;> first | exact .inl rfl | exact .inr (.inl rfl) | exact .inr (.inr rfl)
 rcases two with rfl | rfl | h'
 case inr.inr => exact h'
 all_goals
  unfold eqGuard
  rw [if_neg (by simp)]
  cases a <;> cases b <;> first
   | rfl
   | exact (hagg ⟨_, _, rfl, rfl⟩).elim
   | skip
  rcases h with (h | h) | ⟨_, h⟩
  ·cases x <;> first | (simp [isConstO] at h; done) | rfl
  ·cases y <;> first | (simp [isConstO] at h; done) | (cases x <;> rfl)
  ·exact (h ⟨rfl, rfl⟩).elim
theorem equal_of {P : Program} {w : World} {t : TypeId} {a b : Value} {r : Bool} (h : ∀ d, (Op.equalIn (d + 1) t a b).run P w = .ok r w) : (Op.equal t a b).run P w = .ok r w := h 9999
structure Other (a b : Value) : Prop where
 agg : ¬ (∃ cs ds, a = .agg cs ∧ b = .agg ds)
 int : ∀ k n k' n', ¬ (a = .int k n ∧ b = .int k' n')
 str : ∀ s s', ¬ (a = .string s ∧ b = .string s')
 flt : ∀ k n k' n', ¬ (a = .float k n ∧ b = .float k' n')
 cpl : ∀ k n m k' n' m', ¬ (a = .complex k n m ∧ b = .complex k' n' m')
theorem run_nil {P : Program} {w : World} {t : TypeId} {d : TypeDesc} {a b : AVal} {a' b' : Value} {p q : Bool} {σ : Sg} (hu : P.underlying t = some d) (hp : nilness d a = some p) (hq : nilness d b = some q)
  (hpq : p = true ∨ q = true) (ha : Den σ a a') (hb : Den σ b b') : (Op.equal t a' b').run P w = .ok (Bool.rec p q p) w ∧ Other a' b' := by
 unfold nilness at hp
 split at hp <;> try (cases hp; done)
 all_goals (cases hp; unfold nilness at hq; split at hq <;> try (cases hq; done))
 all_goals (first | contradiction | skip)
 all_goals (cases hq)
 all_goals (first | (rcases hpq with e | e <;> cases e <;> done) | skip)
 all_goals (cases ha <;> cases hb)
 all_goals (refine ⟨equal_of fun d => ?_, ⟨?_, ?_, ?_, ?_, ?_⟩⟩)
 all_goals (first | (simp; done) | skip)
 all_goals (unfold Op.equalIn; simp only [Sem.run_bind, run_underlying' hu, Result.andThen_ok]; rfl)
theorem run_equal {P : Program} {w : World} {t : TypeId} {x y : Operand} {a b : AVal} {a' b' : Value} {r : Bool} {σ : Sg} (h : aEq P t x y a b = some r) (ha : Den σ a a') (hb : Den σ b b') :
  (Op.equal t a' b').run P w = .ok r w ∧ Other a' b' ∧ ((isConstO x = true ∨ isConstO y = true) ∨ ¬ (a' = .nilIface ∧ b' = .nilIface)) := by
 unfold aEq at h
 split at h
 ·rename_i hu
  split at h
  ·cases h
   cases ha
   cases hb
   rename_i p q
   refine ⟨equal_of fun d => ?_, ⟨by simp, by simp, by simp, by simp, by simp⟩, .inr (by simp)⟩
   unfold Op.equalIn
   simp only [Sem.run_bind, run_underlying' hu, Result.andThen_ok, Sem.run_pure]
   cases p <;> cases q <;> rfl
  ·cases h
 ·rename_i d hnb hu
  split at h
  ·rename_i p q hp hq
   split at h
   ·rename_i hc
    split at h
    ·cases h
     obtain ⟨h1, h2⟩ := run_nil (P := P) (w := w) hu hp hq (.inl rfl) ha hb
     exact ⟨h1, h2, .inl (.inl hc)⟩
    ·cases h
   ·rename_i hc
    split at h
    ·cases h
     obtain ⟨h1, h2⟩ := run_nil (P := P) (w := w) hu hp hq (.inr rfl) ha hb
     refine ⟨?_, h2, .inl (.inr hc)⟩
     cases r <;> exact h1
    ·cases h
   ·cases h
  ·cases h
 ·cases h
def w64 : IntKind → Bool
 | .i64 | .u64 => true
 | _ => false
theorem Same64.symm {a b : Int} (h : Same64 a b) : Same64 b a := by obtain ⟨q, h⟩ := h; exact ⟨-q, by omega⟩
theorem Same64.trans {a b c : Int} (h : Same64 a b) (g : Same64 b c) : Same64 a c := by obtain ⟨q, h⟩ := h; obtain ⟨r, g⟩ := g; exact ⟨q + r, by omega⟩
theorem Same64.add {a b c d : Int} (h : Same64 a b) (g : Same64 c d) : Same64 (a + c) (b + d) := by obtain ⟨q, h⟩ := h; obtain ⟨r, g⟩ := g; exact ⟨q + r, by omega⟩
theorem Same64.sub {a b c d : Int} (h : Same64 a b) (g : Same64 c d) : Same64 (a - c) (b - d) := by obtain ⟨q, h⟩ := h; obtain ⟨r, g⟩ := g; exact ⟨q - r, by omega⟩
theorem Same64.mul {a b c d : Int} (h : Same64 a b) (g : Same64 c d) : Same64 (a * c) (b * d) := by
 obtain ⟨q, rfl⟩ := h; obtain ⟨r, rfl⟩ := g
 refine ⟨b * r + q * d + q * r * 18446744073709551616, ?_⟩
 simp only [Int.add_mul, Int.mul_add]
 have e1 : b * (r * 18446744073709551616) = b * r * 18446744073709551616 := by rw [Int.mul_assoc]
 have e2 : q * 18446744073709551616 * d = q * d * 18446744073709551616 := by rw [Int.mul_assoc, Int.mul_comm 18446744073709551616 d, ← Int.mul_assoc]
 have e3 : q * 18446744073709551616 * (r * 18446744073709551616) = q * r * 18446744073709551616 * 18446744073709551616 := by
  rw [Int.mul_assoc q, ← Int.mul_assoc 18446744073709551616 r, Int.mul_comm 18446744073709551616 r, Int.mul_assoc r, ← Int.mul_assoc q r, Int.mul_assoc (q * r)]
 rw [e1, e2, e3]
 omega
theorem wrap_i64 (n : Int) : IntKind.i64.wrap n = if n % 18446744073709551616 ≥ 9223372036854775808 then n % 18446744073709551616 - 18446744073709551616 else n % 18446744073709551616 := by
 simp [IntKind.wrap, IntKind.bits, IntKind.signed]
theorem wrap_u64 (n : Int) : IntKind.u64.wrap n = n % 18446744073709551616 := by
 simp [IntKind.wrap, IntKind.bits, IntKind.signed]
theorem Same64.mod {a b : Int} (h : Same64 a b) : a % 18446744073709551616 = b % 18446744073709551616 := by obtain ⟨q, h⟩ := h; omega
theorem Same64.wrap {k : IntKind} (hk : w64 k = true) {a b : Int} (h : Same64 a b) : k.wrap a = k.wrap b := by
 cases k <;> first | cases hk | skip
 ·rw [wrap_i64, wrap_i64, h.mod]
 ·rw [wrap_u64, wrap_u64, h.mod]
theorem same_wrap {k : IntKind} (hk : w64 k = true) (a : Int) : Same64 (k.wrap a) a := by
 cases k <;> first | cases hk | skip
 ·rw [wrap_i64]
  split
  ·exact ⟨-(a / 18446744073709551616) - 1, by omega⟩
  ·exact ⟨-(a / 18446744073709551616), by omega⟩
 ·rw [wrap_u64]; exact ⟨-(a / 18446744073709551616), by omega⟩
def symIx : AVal → Option (IntKind × Nat)
 | .anyInt k m i => match Nat.beq m 65536 with
  | true => some (k, i)
  | false => none
 | .int k n => match fits k n, GTab.con n with
  | true, some i => some (k, i)
  | _, _ => none
 | _ => none
theorem symIx_ok {σ : Sg} {a : AVal} {v : Value} {k : IntKind} {i : Nat} (hk : w64 k = true) (h : symIx a = some (k, i)) (hd : Den σ a v) : ∃ n, v = .int k n ∧ Same64 n (GTab.val i) ∧ k.wrap n = n := by
 unfold symIx at h
 split at h <;> try (cases h; done)
 ·rename_i k' m i'
  split at h <;> try (cases h; done)
  rename_i hm
  cases h
  have hm' := Nat.eq_of_beq_eq_true hm
  subst hm'
  cases hd with
  | anyInt _ _ _ n hn =>
   have hn' : n = k.wrap (GTab.val i) := by unfold AnyOK at hn; rwa [if_pos rfl] at hn
   subst hn'
   exact ⟨_, rfl, same_wrap hk _, (same_wrap hk _).wrap hk⟩
 ·rename_i k' n
  split at h <;> try (cases h; done)
  rename_i i' hf hc
  cases h
  cases hd
  exact ⟨n, rfl, GTab.conOK _ _ hc, fits_ok hf⟩
def symR (k : IntKind) : Option Nat → Option AVal
 | some r => match GTab.lit r with
  | some n => forceI (awrap k n) fun n => some (.int k n)
  | none => some (.anyInt k 65536 r)
 | none => none
def symB (neg : Bool) : Option Bool → Option AVal
 | some b => some (.bool (Bool.rec b (bnot b) neg))
 | none => none
def isI64 : IntKind → Bool
 | .i64 => true
 | _ => false
def symBin (op : BinOp) (a b : AVal) : Option AVal :=
 match symIx a, symIx b with
 | some (k, i), some (k', j) => match decide (k = k'), w64 k with
  | true, true => match op with
   | .add => symR k (GTab.add i j)
   | .sub => symR k (GTab.sub i j)
   | .mul => symR k (GTab.mul i j)
   | .quo => match isI64 k with | true => symR k (GTab.quo i j) | false => none
   | .rem => match isI64 k with | true => symR k (GTab.rem i j) | false => none
   | .eql => symB false (GTab.eq i j)
   | .neq => symB true (GTab.eq i j)
   | .lss => match isI64 k with | true => symB false (GTab.lt i j) | false => none
   | .gtr => match isI64 k with | true => symB false (GTab.lt j i) | false => none
   | .leq => match isI64 k with | true => symB true (GTab.lt j i) | false => none
   | .geq => match isI64 k with | true => symB true (GTab.lt i j) | false => none
   | _ => none
  | _, _ => none
 | _, _ => none
theorem symR_ok {σ : Sg} {k : IntKind} {o : Option Nat} {v : AVal} {n : Int} (hk : w64 k = true) (h : symR k o = some v) (hs : ∀ r, o = some r → Same64 n (GTab.val r)) : Den σ v (.int k (k.wrap n)) := by
 cases o with
 | none => cases h
 | some r =>
  have h' : (match GTab.lit r with | some n => forceI (awrap k n) fun n => some (AVal.int k n) | none => some (.anyInt k 65536 r)) = some v := h
  split at h'
  ·rename_i m hm
   rw [forceI_eq, awrap_eq] at h'
   cases h'
   have e : k.wrap n = k.wrap m := ((hs r rfl).trans (GTab.litOK _ _ hm).symm).wrap hk
   rw [e]
   exact .int _ _
  ·cases h'
   exact .anyInt _ _ _ _ (by unfold AnyOK; rw [if_pos rfl]; exact (hs r rfl).wrap hk)
theorem symB_ok {σ : Sg} {neg : Bool} {o : Option Bool} {v : AVal} {c : Bool} (h : symB neg o = some v) (hs : ∀ b, o = some b → c = (if neg then !b else b)) : Den σ v (.bool c) := by
 cases o with
 | none => cases h
 | some b =>
  cases h
  rw [hs b rfl]
  cases neg <;> cases b <;> exact .bool _
theorem symBin_ok {P : Program} {w : World} {σ : Sg} {op : BinOp} {t : TypeId} {a b v : AVal} {a' b' : Value} (h : symBin op a b = some v) (ha : Den σ a a') (hb : Den σ b b') :
  ∃ k x y v', a' = .int k x ∧ b' = .int k y ∧ Den σ v v' ∧ (binOp op t (.int k x) (.int k y)).run P w = .ok v' w := by
 unfold symBin at h
 split at h <;> try (cases h; done)
 rename_i k i k' j h1 h2
 split at h <;> try (cases h; done)
 rename_i hkk hk
 have hkk' : k = k' := by simpa using hkk
 subst hkk'
 obtain ⟨x, rfl, sx, wx⟩ := symIx_ok hk h1 ha
 obtain ⟨y, rfl, sy, wy⟩ := symIx_ok hk h2 hb
 have arith : ∀ {u : AVal}, aInt op k x y = some u → ∃ v', Den σ u v' ∧ (binOp op t (.int k x) (.int k y)).run P w = .ok v' w := fun hu => aInt_ok σ hu
 have val : ∀ {n : Int}, aInt op k x y = some (.int k n) → Den σ v (.int k n) → ∃ v', Den σ v v' ∧ (binOp op t (.int k x) (.int k y)).run P w = .ok v' w := by
  intro n hu hd
  obtain ⟨v', d, hr⟩ := arith hu
  cases d
  exact ⟨_, hd, hr⟩
 have valB : ∀ {n : Bool}, aInt op k x y = some (.bool n) → Den σ v (.bool n) → ∃ v', Den σ v v' ∧ (binOp op t (.int k x) (.int k y)).run P w = .ok v' w := by
  intro n hu hd
  obtain ⟨v', d, hr⟩ := arith hu
  cases d
  exact ⟨_, hd, hr⟩
 have eqv : Same64 (GTab.val i) (GTab.val j) ↔ x = y := by
  constructor
  ·intro hs
   rw [← wx, ← wy]
   exact ((sx.trans hs).trans sy.symm).wrap hk
  ·intro e; subst e; exact sx.symm.trans sy
 have i64v : isI64 k = true → IntKind.i64.wrap (GTab.val i) = x ∧ IntKind.i64.wrap (GTab.val j) = y := by
  intro hi
  have : k = .i64 := by cases k <;> first | rfl | cases hi
  subst this
  exact ⟨by rw [← sx.wrap hk, wx], by rw [← sy.wrap hk, wy]⟩
 suffices ∃ v', Den σ v v' ∧ (binOp op t (.int k x) (.int k y)).run P w = .ok v' w by
  obtain ⟨v', d, hr⟩ := this
  exact ⟨k, x, y, v', rfl, rfl, d, hr⟩
 split at h <;> try (cases h; done)
 ·exact val (n := k.wrap (Int.add x y)) (by simp only [aInt, forceI_eq, awrap_eq]) (symR_ok hk h fun r hr => (sx.add sy).trans (GTab.addOK _ _ _ hr))
 ·exact val (n := k.wrap (Int.sub x y)) (by simp only [aInt, forceI_eq, awrap_eq]) (symR_ok hk h fun r hr => (sx.sub sy).trans (GTab.subOK _ _ _ hr))
 ·exact val (n := k.wrap (Int.mul x y)) (by simp only [aInt, forceI_eq, awrap_eq]) (symR_ok hk h fun r hr => (sx.mul sy).trans (GTab.mulOK _ _ _ hr))
 ·split at h <;> try (cases h; done)
  rename_i hi
  obtain ⟨e1, e2⟩ := i64v hi
  cases ho : GTab.quo i j with
  | none => rw [ho] at h; cases h
  | some r =>
   obtain ⟨hne, hs⟩ := GTab.quoOK _ _ _ ho
   rw [e1, e2] at hs
   rw [e2] at hne
   have hz : ieq y 0 = false := by rw [ieq_eq]; simpa using hne
   refine val (n := k.wrap (Int.tdiv x y)) (by simp only [aInt, hz, forceI_eq, awrap_eq]) (symR_ok hk h fun r' hr => ?_)
   rw [ho] at hr; cases hr; exact hs
 ·split at h <;> try (cases h; done)
  rename_i hi
  obtain ⟨e1, e2⟩ := i64v hi
  cases ho : GTab.rem i j with
  | none => rw [ho] at h; cases h
  | some r =>
   obtain ⟨hne, hs⟩ := GTab.remOK _ _ _ ho
   rw [e1, e2] at hs
   rw [e2] at hne
   have hz : ieq y 0 = false := by rw [ieq_eq]; simpa using hne
   have hk64 : k = .i64 := by cases k <;> first | rfl | cases hi
   subst hk64
   have hw : IntKind.i64.wrap (Int.tmod x y) = Int.tmod x y := by
    have hx := wx
    rw [wrap_i64] at hx
    have b1 : x.tmod y < 9223372036854775808 ∧ -9223372036854775808 ≤ x.tmod y := by
     have hxr : x < 9223372036854775808 ∧ -9223372036854775808 ≤ x := by split at hx <;> omega
     have h1 : (x.tmod y).natAbs ≤ x.natAbs := by rw [Int.natAbs_tmod]; exact Nat.mod_le _ _
     have h2 : 0 ≤ x → 0 ≤ x.tmod y := fun h => Int.tmod_nonneg y h
     have h3 : x ≤ 0 → x.tmod y ≤ 0 := fun h => by have h4 := Int.tmod_nonneg y (show 0 ≤ -x by omega); rw [Int.neg_tmod] at h4; omega
     omega
    rw [wrap_i64]
    split <;> omega
   refine val (n := Int.tmod x y) (by simp only [aInt, hz, forceI_eq]) ?_
   have := symR_ok (σ := σ) (n := Int.tmod x y) hk h fun r' hr => by rw [ho] at hr; cases hr; exact hs
   rwa [hw] at this
 ·refine valB (n := ieq x y) rfl (symB_ok h fun b hb => ?_)
  have := GTab.eqOK _ _ _ hb
  rw [eqv] at this
  rw [ieq_eq]
  show (x == y) = b
  rw [Bool.eq_iff_iff, beq_iff_eq]; exact this.symm
 ·refine valB (n := bnot (ieq x y)) rfl (symB_ok h fun b hb => ?_)
  have := GTab.eqOK _ _ _ hb
  rw [eqv] at this
  rw [ieq_eq, bnot_eq]
  show (!(x == y)) = !b
  congr 1
  rw [Bool.eq_iff_iff, beq_iff_eq]; exact this.symm
 all_goals
  split at h <;> try (cases h; done)
  rename_i hi
  obtain ⟨e1, e2⟩ := i64v hi
  refine valB rfl (symB_ok h fun b hb => ?_)
  have := GTab.ltOK _ _ _ hb
  rw [e1, e2] at this
  subst this
  simp only [ilt_eq, bnot_eq]
  rfl
def symT (op : BinOp) (a b : AVal) : Option AVal :=
 match op, a, b with
 | .eql, .anyStr i, .anyStr j => match Nat.beq i j with | true => some (.bool true) | false => none
 | .neq, .anyStr i, .anyStr j => match Nat.beq i j with | true => some (.bool false) | false => none
 | .add, .anyStr i, .str n x => match GTab.cat i n x with | some r => some (.anyStr r) | none => none
 | .add, .str n x, .anyStr i => match GTab.catL n x i with | some r => some (.anyStr r) | none => none
 | _, _, _ => none
theorem symT_ok {P : Program} {w : World} {σ : Sg} {op : BinOp} {t : TypeId} {a b v : AVal} {a' b' : Value} (h : symT op a b = some v) (ha : Den σ a a') (hb : Den σ b b') :
  ∃ s s' v', a' = .string s ∧ b' = .string s' ∧ Den σ v v' ∧ (binOp op t (.string s) (.string s')).run P w = .ok v' w := by
 unfold symT at h
 have big : ∀ {n m : Nat}, n + m ≤ 9223372036854775807 → ¬ ((n + m : Nat) : Int) > IntKind.i64.max := by
  intro n m h
  simp [IntKind.max, IntKind.signed, IntKind.bits]
  omega
 split at h <;> try (cases h; done)
 case h_3 =>
  split at h <;> try (cases h; done)
  rename_i r hr
  cases h
  cases ha
  cases hb
  obtain ⟨c1, c2⟩ := GTab.catOK _ _ _ _ hr
  refine ⟨_, _, _, rfl, rfl, .anyStr r, ?_⟩
  rw [c1]
  simp only [binOp, Op.stringOp]
  rw [dec_size, if_neg (big c2)]
  rfl
 case h_4 =>
  split at h <;> try (cases h; done)
  rename_i r hr
  cases h
  cases ha
  cases hb
  obtain ⟨c1, c2⟩ := GTab.catLOK _ _ _ _ hr
  refine ⟨_, _, _, rfl, rfl, .anyStr r, ?_⟩
  rw [c1]
  simp only [binOp, Op.stringOp]
  rw [dec_size, if_neg (big c2)]
  rfl
 all_goals
  split at h <;> try (cases h; done)
  rename_i hij
  have hij' := Nat.eq_of_beq_eq_true hij
  subst hij'
  cases h
  cases ha
  cases hb
  exact ⟨_, _, _, rfl, rfl, .bool _, by simp [binOp, Op.stringOp]⟩
def opBin (P : Program) (op : BinOp) (t : TypeId) (x y : Operand) (ρ : Operand → AVal) (H : Heap) (nx : Nat) : Option ARes :=
 match ρ x, ρ y with
 | .int k a, .int k' b =>
  match op with
  | .shl | .shr => match aShift op k a b with
   | some v => some (.val v H nx)
   | none => none
  | op => match decide (k = k') with
   | true => match aInt op k a b with
    | some v => some (.val v H nx)
    | none => none
   | false => none
 | .str n a, .str m b => match aText op n a m b with
  | some v => some (.val v H nx)
  | none => none
 | a, b => match symBin op a b, symT op a b with
  | some v, _ => some (.val v H nx)
  | none, some v => some (.val v H nx)
  | none, none => match op with
  | .eql => match aEq P t x y a b with
   | some r => some (.val (.bool r) H nx)
   | none => none
  | .neq => match aEq P t x y a b with
   | some r => some (.val (.bool (bnot r)) H nx)
   | none => none
  | _ => none
theorem guard_int {P : Program} {w : World} {op : BinOp} {t : TypeId} {x y : Operand} {k k' : IntKind} {a b : Int} : (eqGuard op t x y (.int k a) (.int k' b)).run P w = .ok () w := by
 unfold eqGuard; split <;> rfl
theorem guard_str {P : Program} {w : World} {op : BinOp} {t : TypeId} {x y : Operand} {a b : ByteArray} : (eqGuard op t x y (.string a) (.string b)).run P w = .ok () w := by
 unfold eqGuard; split <;> rfl
theorem binOp_eql {t : TypeId} {a b : Value} (h : Other a b) :
  binOp .eql t a b = (do pure (.bool (← Op.equal t a b))) ∧ binOp .neq t a b = (do pure (.bool (!(← Op.equal t a b)))) := by
 cases a <;> cases b <;> first | exact ⟨rfl, rfl⟩ | skip
 all_goals first
  | exact (h.int _ _ _ _ ⟨rfl, rfl⟩).elim
  | exact (h.str _ _ ⟨rfl, rfl⟩).elim
  | exact (h.flt _ _ _ _ ⟨rfl, rfl⟩).elim
  | exact (h.cpl _ _ _ _ _ _ ⟨rfl, rfl⟩).elim
theorem opBin_ok {P : Program} {o : Oper} {op : BinOp} {t u : TypeId} {x y : Operand} {ρ : Operand → AVal} {H : Heap} {nx : Nat} {r : ARes} (ho : o.op = .binOp op t x y u)
  (h : opBin P op t x y ρ H nx = some r) : OpOK P o ρ H nx r := by
 unfold opBin at h
 split at h
 ·rename_i k a k' b hx hy
  split at h
  ·split at h
   ·rename_i v hv
    cases h
    refine OpOK.pure fun σ w ρ' _ hd => ?_
    have d1 := hd x; have d2 := hd y; rw [hx] at d1; rw [hy] at d2
    obtain ⟨v', dv, hrun⟩ := aShift_ok (P := P) (w := w) (t := t) (k' := k') σ hv
    refine ⟨v', dv, ?_⟩
    cases e1 : ρ' x <;> rw [e1] at d1 <;> cases d1
    cases e2 : ρ' y <;> rw [e2] at d2 <;> cases d2
    simp [execOp, ho, e1, e2, guard_int, hrun]
   ·cases h
  ·split at h
   ·rename_i v hv
    cases h
    refine OpOK.pure fun σ w ρ' _ hd => ?_
    have d1 := hd x; have d2 := hd y; rw [hx] at d1; rw [hy] at d2
    obtain ⟨v', dv, hrun⟩ := aShift_ok (P := P) (w := w) (t := t) (k' := k') σ hv
    refine ⟨v', dv, ?_⟩
    cases e1 : ρ' x <;> rw [e1] at d1 <;> cases d1
    cases e2 : ρ' y <;> rw [e2] at d2 <;> cases d2
    simp [execOp, ho, e1, e2, guard_int, hrun]
   ·cases h
  ·split at h
   ·rename_i hk
    have hk' : k = k' := by simpa using hk
    subst hk'
    split at h
    ·rename_i v hv
     cases h
     refine OpOK.pure fun σ w ρ' _ hd => ?_
     have d1 := hd x; have d2 := hd y; rw [hx] at d1; rw [hy] at d2
     obtain ⟨v', dv, hrun⟩ := aInt_ok (P := P) (w := w) (t := t) σ hv
     refine ⟨v', dv, ?_⟩
     cases e1 : ρ' x <;> rw [e1] at d1 <;> cases d1
     cases e2 : ρ' y <;> rw [e2] at d2 <;> cases d2
     simp [execOp, ho, e1, e2, guard_int, hrun]
    ·cases h
   ·cases h
 ·rename_i n a m b hx hy
  split at h
  ·rename_i v hv
   cases h
   refine OpOK.pure fun σ w ρ' _ hd => ?_
   have d1 := hd x; have d2 := hd y; rw [hx] at d1; rw [hy] at d2
   cases e1 : ρ' x <;> rw [e1] at d1 <;> cases d1
   cases e2 : ρ' y <;> rw [e2] at d2 <;> cases d2
   rename_i q1 q2
   obtain ⟨v', dv, hrun⟩ := aText_ok (P := P) (w := w) (t := t) σ q1 q2 hv
   refine ⟨v', dv, ?_⟩
   simp [execOp, ho, e1, e2, guard_str, hrun]
  ·cases h
 ·split at h
  ·rename_i v hv
   cases h
   refine OpOK.pure fun σ w ρ' _ hd => ?_
   obtain ⟨k, p, q, v', e1, e2, dv, hrun⟩ := symBin_ok (P := P) (w := w) (t := t) hv (hd x) (hd y)
   refine ⟨v', dv, ?_⟩
   simp [execOp, ho, e1, e2, guard_int, hrun]
  ·rename_i v _ hv
   cases h
   refine OpOK.pure fun σ w ρ' _ hd => ?_
   obtain ⟨s, s', v', e1, e2, dv, hrun⟩ := symT_ok (P := P) (w := w) (t := t) hv (hd x) (hd y)
   refine ⟨v', dv, ?_⟩
   simp [execOp, ho, e1, e2, guard_str, hrun]
  split at h
  ·split at h
   ·rename_i r' hr'
    cases h
    refine OpOK.pure fun σ w ρ' _ hd => ?_
    obtain ⟨hrun, hoth, hg⟩ := run_equal (P := P) (w := w) hr' (hd x) (hd y)
    refine ⟨.bool r', .bool _, ?_⟩
    have hguard := eqGuard_run (P := P) (w := w) (op := .eql) (t := t) (x := x) (y := y) (a := ρ' x) (b := ρ' y) (hg.imp id fun h => ⟨hoth.agg, h⟩) hoth.agg
    simp [execOp, ho, hguard, (binOp_eql (t := t) hoth).1, hrun]
   ·cases h
  ·split at h
   ·rename_i r' hr'
    cases h
    refine OpOK.pure fun σ w ρ' _ hd => ?_
    obtain ⟨hrun, hoth, hg⟩ := run_equal (P := P) (w := w) hr' (hd x) (hd y)
    refine ⟨.bool (bnot r'), .bool _, ?_⟩
    have hguard := eqGuard_run (P := P) (w := w) (op := .neq) (t := t) (x := x) (y := y) (a := ρ' x) (b := ρ' y) (hg.imp id fun h => ⟨hoth.agg, h⟩) hoth.agg
    simp [execOp, ho, hguard, (binOp_eql (t := t) hoth).2, hrun, bnot_eq]
   ·cases h
  ·cases h
end
end Go.Ev
end
