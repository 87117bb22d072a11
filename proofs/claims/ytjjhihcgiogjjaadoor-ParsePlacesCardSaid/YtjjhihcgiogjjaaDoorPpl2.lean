/-
  Own work. Texts of a proof, laid together; no condition.
-/
import Derived.LoopN
import Derived.ChangeSame
import Derived.RowKit3
import Derived.OpenShut
import Derived.ChangeReads
import Derived.Lib.LaidTab
import Derived.MakeChecks
import Derived.Test.YtjjhihcgiogjjaaDoorPpl1
set_option linter.unusedSectionVars false
set_option linter.unusedVariables false
set_option linter.unusedSimpArgs false
set_option maxRecDepth 1000000
section
namespace Go.Vs
variable [GTab]
def TriC (P : Program) (f : FuncId) (args : List AVal) (H : Heap) (nx : Nat) (K : KEnd) : Prop :=
 ∀ (σ : Sg) (w : World) (args' : List Value) (R : Ending → World → Prop), Rel σ H nx w → DenL σ args args' →
  (∀ e H' nx' σ' w' en, K e H' nx' = true → Rel σ' H' nx' w' → Ext σ σ' H H' nx nx' w w' → EndRel σ' e en → R en w') → Calls P f ⟨args'⟩ w R
def CallS (P : Program) (call : CallK) : Prop := ∀ f args H nx K, call f args H nx K = true → TriC P f args H nx K
theorem actK_okK {P : Program} {call : CallK} {nt : Nat} {ops : Array Oper} {o : Oper} {env : Env} {H : Heap} {nx : Nat} {dfs : Dfs} {rc : Option AMode} {k : Env → Heap → Nat → Bool} {K : Kont} {env0 : Env}
  (hc : CallS P call) (h : actK P call ops o env H nx dfs rc k K env0 = true) {envm : Env} {σ : Sg} {w : World} {a : Act} {next : Act → World → Prop} {Q : Exit → Act → World → Prop}
  (hr : Rel σ H nx w) (M : EnvRel σ nt envm a.tmps) (e1 : wantedA ops o.guard envm = wantedA ops o.guard env) (e2 : ∀ x ∈ o.op.operands, aev envm x = aev env x)
  (hn : ∀ v H1 nx1 σ1 w1 v', k (put o.dst v env) H1 nx1 = true → Rel σ1 H1 nx1 w1 → Ext σ σ1 H H1 nx nx1 w w1 → Den σ1 v v' → next (a.put o.dst v') w1)
  (hp : ∀ l H1 nx1 σ1 w1 c, K (.pan l) env0 H1 nx1 dfs rc = true → Rel σ1 H1 nx1 w1 → Ext σ σ1 H H1 nx nx1 w w1 → Chain σ1 l c → Q (.panic c) a w1) : Took P ops o a w next Q := by
 unfold actK at h
 split at h <;> try (cases h; done)
 ·rename_i hw
  unfold Took
  rw [if_pos (wanted_ok (e1.trans hw) M)]
  split at h <;> try (cases h; done)
  ·rename_i v H1 nx1 hop
   obtain ⟨σ', w', v', R, E, D, hrun⟩ := aop_ok ((aop_congr e2).trans hop) σ w a.eval hr M.aev
   refine .inl ?_
   unfold Oper.wp
   rcases hrun with hrun | ⟨hrun, rfl⟩
   ·rw [hrun]; exact hn v H1 nx1 σ' w' _ h R E D
   ·rw [hrun]; exact hn v H1 nx1 σ' w' _ h R E D
  ·rename_i f args hop
   have tri := hc f args H nx _ h
   obtain ⟨args', hl, hrun⟩ := aop_ok ((aop_congr e2).trans hop) σ w a.eval hr M.aev
   refine .inl ?_
   unfold Oper.wp
   rw [hrun]
   show Calls P f ⟨args'⟩ w _
   refine tri σ w args' _ hr hl fun e H' nx' σ' w' en hk R E he => ?_
   cases e with
   | ret v =>
    cases en with
    | returned v' => exact hn v H' nx' σ' w' _ hk R E he
    | panicked c => exact he.elim
    | outgrown => exact he.elim
   | pan l =>
    cases en with
    | returned v' => exact he.elim
    | panicked c => exact hp l H' nx' σ' w' c hk R E he
    | outgrown => exact he.elim
  ·rename_i v hop
   obtain ⟨v', dv, hrun⟩ := aop_ok ((aop_congr e2).trans hop) σ w a.eval hr M.aev
   refine .inl ?_
   unfold Oper.wp
   rw [hrun]
   exact hp [(v, false)] H nx σ w [{ v := v', recovered := false }] h hr (Ext.refl _ _ _ _) (.cons dv rfl rfl .nil)
 ·rename_i hw
  unfold Took
  rw [if_neg (by rw [wanted_ok (e1.trans hw) M]; simp)]
  exact hn (.tuple []) H nx σ w undef h hr (Ext.refl _ _ _ _) (.tuple .nil)
theorem named_append : ∀ (a b : List Stage), named (a ++ b) = named a ++ named b
 | [], b => rfl
 | (e, L, A) :: a, b => by
  rw [List.cons_append]
  simp only [named, List.cons_append, List.append_assoc, named_append a b]
theorem Inv.act {P : Program} {call : CallK} {nt : Nat} {ops : Array Oper} {as : List Nat} {res : Nat} {σ0 : Sg} {H0 : Heap} {w0 : World} {dfs : Dfs} {rc : Option AMode} {past past' : List Nat} {e : Nat} {L A : List Nat} {R : List Stage} {oe : Oper} {env : Env} {H : Heap} {nx : Nat} {listed : Array Bool} {σ : Sg} {w : World} {a : Act} {k : Env → Heap → Nat → Bool} {K : Kont}
  (hc : CallS P call) (F : OpsFact nt ops as) (hn : nt ≤ 4096) (hlim : res + ops.size ≤ res + ops.size) (I : Inv P nt ops as res σ0 H0 w0 dfs past ((e, L, A) :: R) env H nx listed σ w a) (hoe : ops[e]? = some oe) (he : e ∉ named R) (hr : ∀ j, bit (as.getD e 0) j = true → isL listed j)
  (hfresh : freshOf ops past e oe = true) (hL : allL (fun i => bit (as.getD i 0) e) L = true) (hF : chkF ops L past = some past') (hA : chkA ops (as.getD e 0) A past' = true) (h' : actK P call ops oe env H nx dfs rc k K env = true) {RN : Env → Heap → Nat → Prop}
  (hnext : ∀ env1 H1 nx1, k env1 H1 nx1 = true → ∃ kf : Env → Heap → Bool, floatsK P ops res nx1 kf L env1 H1 = true ∧ ∀ env2 H2, kf env2 H2 = true → againK P ops env2 H2 nx1 A = true ∧ RN env2 H2 nx1)
  {Q : Exit → Act → World → Prop} {next : Act → World → Prop}
  (hK : ∀ env2 H2 nx2 σ1 w1 a1, RN env2 H2 nx2 → Inv P nt ops as res σ0 H0 w0 dfs past' R env2 H2 nx2 (listed.setIfInBounds e true) σ1 w1 a1 → (∀ t, t < 4096 → (∀ (j : Nat) (q : Oper), ops[j]? = some q → q.dst ≠ some t) → get2 t env2 = get2 t env) → next a1 w1)
  (hP : ∀ l H1 nx1 σ1 w1 c, K (.pan l) env H1 nx1 dfs rc = true → Rel σ1 H1 nx1 w1 → Ext σ0 σ1 H0 H1 res nx1 w0 w1 → (∀ t, t < 4096 → (∀ (j : Nat) (q : Oper), ops[j]? = some q → q.dst ≠ some t) → Den σ1 (get2 t env) (a.tmps.getD t undef)) → DfsRel σ1 dfs a.defers → a.tmps.size = nt → Chain σ1 l c → Q (.panic c) a w1) :
  wpOp P ops Q e next a w := by
 have hde := F.dst e oe hoe
 have helt : e < ops.size := (Array.getElem?_eq_some_iff.1 hoe).1
 have pastiff := chkF_past hF
 have eun : ¬ isL listed e := I.todo e (by unfold named; exact List.mem_cons_self ..)
 have Lun : ∀ j, j ∈ L → ¬ isL listed j := fun j hj => I.todo j (by unfold named; exact List.mem_cons_of_mem _ (List.mem_append_left _ hj))
 have Lne : ∀ j, j ∈ L → j ≠ e := fun j hj q => by
  subst q
  have := F.lt j oe hoe j (allL_ok hL j hj)
  omega
 have Llt : ∀ j, j ∈ L → j < ops.size := fun j hj => by
  obtain ⟨o, ho, _⟩ := chkF_cls hF j hj
  exact (Array.getElem?_eq_some_iff.1 ho).1
 have S : ∀ j, isL (listed.setIfInBounds e true) j ↔ (j = e ∨ isL listed j) := fun j => isL_set (by rw [I.size]; exact helt)
 obtain ⟨envm, M, hw, hx⟩ := I.view F hn hoe hr
 unfold wpOp
 rw [hoe]
 refine actK_okK hc h' I.rel M hw hx (fun v H1 nx1 σ1 w1 v' hk R' E D => ?_) (fun l H1 nx1 σ1 w1 c hk R' E C => ?_)
 ·obtain ⟨kf, hk1, hk4⟩ := hnext _ H1 nx1 hk
  obtain ⟨env2, H2, hk2, b1, b2, b3, b4, b5⟩ := floatsK_ok F hn hlim L past past' _ H1 hF hk1
  obtain ⟨hag, hk3⟩ := hk4 env2 H2 hk2
  have hnx := E.le
  have hpl := I.lim
  have pend1 : ∀ j, j < ops.size → ¬ isL listed j → σ1 (res + j) = none ∧ get5 (res + j) H1 = get5 (res + j) H := fun j hj hnl => E.pend (res + j) (by omega) (I.pend j hj hnl)
  refine hK env2 H2 nx1 σ1 w1 _ hk3 ⟨?_, ?_, ?_, ?_, ?_, ?_, ?_, ?_, ?_, ?_, ?_, ?_, ?_⟩ fun t ht hno => by rw [b1 t ht fun j q _ hq => hno j q hq, get2_put' hde hn ht (hno e oe hoe)]
  ·rw [Array.size_setIfInBounds]; exact I.size
  ·cases hdst : oe.dst with
   | none => exact I.tsize
   | some d => show (a.tmps.setIfInBounds d v').size = nt; rw [Array.size_setIfInBounds]; exact I.tsize
  ·intro j k hj hb
   rw [S] at hj ⊢
   rcases hj with rfl | hj
   ·exact .inr (hr k hb)
   ·exact .inr (I.closed j k hj hb)
  ·intro j hj hlj
   rw [S] at hlj
   have hj' : j ∈ named ((e, L, A) :: R) := by unfold named; exact List.mem_cons_of_mem _ (List.mem_append_right _ hj)
   rcases hlj with rfl | hlj
   ·exact he hj
   ·exact I.todo j hj' hlj
  ·intro j hj
   rw [S]
   rcases I.all j hj with h | h | h
   ·exact .inl ((pastiff j).2 (.inl h))
   ·unfold named at h
    rcases List.mem_cons.1 h with rfl | h
    ·exact .inr (.inr (.inl rfl))
    ·rcases List.mem_append.1 h with h | h
     ·exact .inl ((pastiff j).2 (.inr h))
     ·exact .inr (.inl h)
   ·exact .inr (.inr (.inr h))
  ·intro t ht hown
   have hnotL : ∀ (j : Nat) (q : Oper), j ∈ L → ops[j]? = some q → q.dst ≠ some t := by
    intro j q hj hq hd
    have := hown j q hq hd
    rw [S] at this
    rcases this with h | h
    ·exact Lne j hj h
    ·exact Lun j hj h
   rw [b1 t ht hnotL]
   by_cases ed : oe.dst = some t
   ·rw [ed]
    show Den σ1 (get2 t (put (some t) v env)) ((a.tmps.setIfInBounds t v').getD t undef)
    have : t < a.tmps.size := by rw [I.tsize]; rw [ed] at hde; exact Nat.le_of_ble_eq_true hde
    rw [getD_put _ _ _ _ this, if_pos rfl, get2_put_same]
    exact D
   ·rw [get2_put' hde hn ht ed]
    have h1 : (a.put oe.dst v').tmps.getD t undef = a.tmps.getD t undef := by
     cases hdst : oe.dst with
     | none => rfl
     | some d =>
      show (a.tmps.setIfInBounds d v').getD t undef = _
      have : d < a.tmps.size := by rw [I.tsize]; rw [hdst] at hde; exact Nat.le_of_ble_eq_true hde
      rw [getD_put _ _ _ _ this, if_neg (fun q => ed (by rw [hdst, q]))]
    rw [h1]
    refine (I.den t ht fun j q hj hq => ?_).mono E.sub
    have := hown j q hj hq
    rw [S] at this
    rcases this with rfl | h
    ·rw [hoe] at hj; cases hj; exact (ed hq).elim
    ·exact h
  ·intro j q hj hq hlj hcl
   have hnl : ¬ isL listed j := fun h => hlj ((S j).2 (.inr h))
   have hjne : j ≠ e := fun h => hlj ((S j).2 (.inl h))
   cases hip : impure q.op with
   | true =>
    have h1 := allL_ok hA j hj
    rw [hq] at h1
    simp only [hip] at h1
    have hmem : j ∈ A := by
     split at h1
     ·exact memN_ok ‹_›
     ·exact (hlj ((S j).2 (.inr (hr j h1)))).elim
    have h3 := allL_ok hag j hmem
    rw [hq] at h3
    exact again1_fl0 hcl h3
   | false =>
    rcases (pastiff j).1 hj with hj | hj
    ·obtain ⟨_, q0, hq0, hfr⟩ := freshOf_ok hfresh j hj
     rw [hq] at hq0
     cases hq0
     refine (I.fl0 j q hj hq hnl hcl).keep hcl hip ?_ ?_
     ·intro t ht hlt
      rw [b1 t hlt fun j' q' hj' hq' ed => ?_]
      ·exact get2_put' hde hn hlt fun ed => hfr t ed ht
      ·obtain ⟨_, q1, o1, e1, e2, e3⟩ := chkF_fresh hF j hj j' hj'
       rw [hq] at e1; cases e1
       rw [hq'] at e2; cases e2
       exact e3 t ed ht
     ·intro d hd
      have hdl : d < 4096 := Nat.lt_of_lt_of_le (by have := F.dst j q hq; rw [hd] at this; exact Nat.le_of_ble_eq_true this) hn
      rw [b1 d hdl fun j' q' hj' hq' ed => (chkF_fresh hF j hj j' hj').1 (F.uniq j j' q q' d hq hq' hd ed)]
      exact get2_put' hde hn hdl fun ed => hjne (F.uniq j e q oe d hq hoe hd ed)
    ·exact b5 j q hj hq hcl hip
  ·intro j q hj hq hlj hcl
   have hnl : ¬ isL listed j := fun h => hlj ((S j).2 (.inr h))
   have hjne : j ≠ e := fun h => hlj ((S j).2 (.inl h))
   have hjlt : j < ops.size := (Array.getElem?_eq_some_iff.1 hq).1
   rcases (pastiff j).1 hj with hj | hj
   ·obtain ⟨_, q0, hq0, hfr⟩ := freshOf_ok hfresh j hj
    rw [hq] at hq0
    cases hq0
    refine (I.fl1 j q hj hq hnl hcl).keep ?_ ?_ ?_
    ·intro t ht hlt
     rw [b1 t hlt fun j' q' hj' hq' ed => ?_]
     ·exact get2_put' hde hn hlt fun ed => hfr t ed ht
     ·obtain ⟨_, q1, o1, e1, e2, e3⟩ := chkF_fresh hF j hj j' hj'
      rw [hq] at e1; cases e1
      rw [hq'] at e2; cases e2
      exact e3 t ed ht
    ·intro d hd
     have hdl : d < 4096 := Nat.lt_of_lt_of_le (by have := F.dst j q hq; rw [hd] at this; exact Nat.le_of_ble_eq_true this) hn
     rw [b1 d hdl fun j' q' hj' hq' ed => (chkF_fresh hF j hj j' hj').1 (F.uniq j j' q q' d hq hq' hd ed)]
     exact get2_put' hde hn hdl fun ed => hjne (F.uniq j e q oe d hq hoe hd ed)
    ·rw [b2 _ (by omega) fun j' hj' ed => (chkF_fresh hF j hj j' hj').1 (by omega)]
     exact (pend1 j hjlt hnl).2
   ·exact b4 j q hj hq hcl
  ·intro j hj hlj
   exact (pend1 j hj fun h => hlj ((S j).2 (.inr h))).1
  ·omega
  ·exact b3 σ1 w1 R' fun j hj => (pend1 j (Llt j hj) (Lun j hj)).1
  ·have E2 := I.ext.trans E
   refine ⟨E2.sub, E2.rng, ?_, E2.le, E2.os, E2.tape, E2.output, E2.size, E2.frame⟩
   intro b hb h0
   obtain ⟨p1, p2⟩ := E2.pend b hb h0
   exact ⟨p1, (b2 b (by omega) fun j _ => by omega).trans p2⟩
  ·have : (a.put oe.dst v').defers = a.defers := by cases oe.dst <;> rfl
   rw [this]; exact I.dfs.mono E.sub
 ·exact hP l H1 nx1 σ1 w1 c hk R' (I.ext.trans E) (fun t ht hno => (I.den t ht fun j q hj hq => (hno j q hj hq).elim).mono E.sub) (I.dfs.mono E.sub) I.tsize C
def RunP (P : Program) (call : CallK) (ops : Array Oper) (res : Nat) (dfs : Dfs) (rc : Option AMode) (Kp : List (AVal × Bool) → Heap → Nat → Prop) (Kn : Env → Heap → Nat → Prop) : List Stage → Env → Heap → Nat → Prop
 | [], env, H, nx => Kn env H nx
 | (e, L, A) :: rest, env, H, nx => ∀ oe, ops[e]? = some oe → ∃ (k : Env → Heap → Nat → Bool) (K : Kont), actK P call ops oe env H nx dfs rc k K env = true ∧
   (∀ l H1 nx1, K (.pan l) env H1 nx1 dfs rc = true → Kp l H1 nx1) ∧
   ∀ env1 H1 nx1, k env1 H1 nx1 = true → ∃ kf : Env → Heap → Bool, floatsK P ops res nx1 kf L env1 H1 = true ∧
    ∀ env2 H2, kf env2 H2 = true → againK P ops env2 H2 nx1 A = true ∧ RunP P call ops res dfs rc Kp Kn rest env2 H2 nx1
noncomputable def endPast (ops : Array Oper) : List Stage → List Nat → List Nat
 | [], past => past
 | (_, L, _) :: rest, past => endPast ops rest (match chkF ops L past with | some p => p | none => past)
theorem stages_sem {P : Program} {call : CallK} {nt : Nat} {ops : Array Oper} {as : List Nat} {res : Nat} {dfs : Dfs} {rc : Option AMode} {env0 : Env} {Kp : List (AVal × Bool) → Heap → Nat → Prop} {Kn : Env → Heap → Nat → Prop} (tail : List Stage)
  (hc : CallS P call) (F : OpsFact nt ops as) (hn : nt ≤ 4096) (hlim : res + ops.size ≤ res + ops.size) :
  ∀ (rest : List Stage) (prev : Option Nat) (past : List Nat) (env : Env) (H : Heap) (nx : Nat), chkS ops as rest prev past = true → (∀ s, s ∈ rest → ∀ i, i ∈ named tail → bit (as.getD i 0) s.1 = true) →
   (∀ i, i ∈ past → ∃ o, ops[i]? = some o ∧ (cls o.op = 0 ∨ cls o.op = 1)) →
   (∀ t, t < 4096 → get2 t env0 = .und ∨ ((∀ (j : Nat) (q : Oper), ops[j]? = some q → q.dst ≠ some t) ∧ get2 t env0 = get2 t env)) → RunP P call ops res dfs rc Kp Kn rest env H nx →
   ∀ σ0 H0 w0 Q, (∀ l H' nx' σ' w' a' c, Kp l H' nx' → Rel σ' H' nx' w' → Ext σ0 σ' H0 H' res nx' w0 w' → ARel σ' nt env0 dfs a' → Chain σ' l c → Q (.panic c) a' w') →
    (∀ env' H' nx', Kn env' H' nx' → (∀ i, i ∈ endPast ops rest past → ∃ o, ops[i]? = some o ∧ (cls o.op = 0 ∨ cls o.op = 1)) →
     ∀ fuel listed σ w a, Inv P nt ops as res σ0 H0 w0 dfs (endPast ops rest past) tail env' H' nx' listed σ w a → left ops listed ≤ fuel → wpAny P .any ops Q fuel listed a w) →
    ∀ fuel listed σ w a, Inv P nt ops as res σ0 H0 w0 dfs past (rest ++ tail) env H nx listed σ w a → left ops listed ≤ fuel → wpAny P .any ops Q fuel listed a w
 | [], prev, past, env, H, nx, _, _, hpast, _, h => fun σ0 H0 w0 Q hQ hT => hT env H nx h hpast
 | (e, L, A) :: rest, prev, past, env, H, nx, hchk, htl, hpast, hblank, h => by
  intro σ0 H0 w0 Q hQ hT
  unfold chkS at hchk
  split at hchk <;> try (cases hchk; done)
  rename_i oe hoe hprev
  split at hchk <;> try (cases hchk; done)
  rename_i hfresh hL
  split at hchk <;> try (cases hchk; done)
  rename_i past' hF
  split at hchk <;> try (cases hchk; done)
  rename_i hA
  obtain ⟨k, K, h', hpan, hnext⟩ := h oe hoe
  have hT : ∀ env' H' nx', Kn env' H' nx' → (∀ i, i ∈ endPast ops rest past' → ∃ o, ops[i]? = some o ∧ (cls o.op = 0 ∨ cls o.op = 1)) →
     ∀ fuel listed σ w a, Inv P nt ops as res σ0 H0 w0 dfs (endPast ops rest past') tail env' H' nx' listed σ w a → left ops listed ≤ fuel → wpAny P .any ops Q fuel listed a w := by
   have e0 : endPast ops ((e, L, A) :: rest) past = endPast ops rest past' := by
    show endPast ops rest (match chkF ops L past with | some p => p | none => past) = _
    rw [hF]
   rw [e0] at hT
   exact hT
  have hde := F.dst e oe hoe
  have helt : e < ops.size := (Array.getElem?_eq_some_iff.1 hoe).1
  have pastiff := chkF_past hF
  have who : ∀ {σ0 H0 w0 listed σ w a}, Inv P nt ops as res σ0 H0 w0 dfs past ((e, L, A) :: rest ++ tail) env H nx listed σ w a → ∀ i o, ops[i]? = some o → (∀ j, bit (as.getD i 0) j = true → isL listed j) → i ∈ named ((e, L, A) :: rest ++ tail) → i = e := by
   intro σ0 H0 w0 listed σ w a I i o ho hr hi
   have ebad : ¬ isL listed e := I.todo e (by rw [List.cons_append]; unfold named; exact List.mem_cons_self ..)
   rw [List.cons_append] at hi
   unfold named at hi
   rcases List.mem_cons.1 hi with rfl | hi
   ·rfl
   ·rcases List.mem_append.1 hi with hi | hi
    ·exact (ebad (hr e (allL_ok hL i hi))).elim
    ·rw [named_append] at hi
     rcases List.mem_append.1 hi with hi | hi
     ·obtain ⟨j, hj, hb⟩ := chkS_pred hchk i hi
      rcases hj with rfl | hj
      ·exact (ebad (hr j hb)).elim
      ·exact (I.todo j (by rw [List.cons_append]; unfold named; rw [named_append]; exact List.mem_cons_of_mem _ (List.mem_append_right _ (List.mem_append_left _ hj))) (hr j hb)).elim
     ·exact (ebad (hr e (htl (e, L, A) (List.mem_cons_self ..) i hi))).elim
  have loop : ∀ {Q : Exit → Act → World → Prop}, (∀ fuel listed σ w a, Inv P nt ops as res σ0 H0 w0 dfs past ((e, L, A) :: rest ++ tail) env H nx listed σ w a → left ops listed ≤ fuel + 1 → (∀ j, bit (as.getD e 0) j = true → isL listed j) →
    wpOp P ops Q e (wpAny P .any ops Q fuel (listed.setIfInBounds e true)) a w) →
    ∀ fuel listed σ w a, Inv P nt ops as res σ0 H0 w0 dfs past ((e, L, A) :: rest ++ tail) env H nx listed σ w a → left ops listed ≤ fuel → wpAny P .any ops Q fuel listed a w := by
   intro Q hact fuel
   have eun : ∀ {listed σ w a}, Inv P nt ops as res σ0 H0 w0 dfs past ((e, L, A) :: rest ++ tail) env H nx listed σ w a → ¬ isL listed e := fun I => I.todo e (by rw [List.cons_append]; unfold named; exact List.mem_cons_self ..)
   induction fuel with
   | zero =>
    intro listed σ w a I hl
    exact (eun I (left_zero (by omega : left ops listed = 0) e helt)).elim
   | succ fuel ih =>
    intro listed σ w a I hl
    refine ⟨fun hnil => (eun I (ready_nil F I.size hnil e helt)).elim, fun i hi => ?_⟩
    obtain ⟨o, ho, hnl, hed⟩ := (mem_ready I.size).1 hi
    have hlt : i < ops.size := (Array.getElem?_eq_some_iff.1 ho).1
    have hr : ∀ j, bit (as.getD i 0) j = true → isL listed j := fun j hj => by
     obtain ⟨g, hg, hb, hc'⟩ := F.ahead i o ho j hj
     rcases hc' with rfl | hc'
     ·exact hed g hg hb
     ·exact I.closed _ j (hed g hg hb) hc'
    by_cases hin : i ∈ named ((e, L, A) :: rest ++ tail)
    ·have := who I i o ho hr hin
     subst this
     exact hact fuel listed σ w a I hl hr
    ·have hp : i ∈ past := by
      rcases I.all i hlt with h | h | h
      ·exact h
      ·exact (hin h).elim
      ·exact (hnl h).elim
     obtain ⟨o', ho', hcl⟩ := hpast i hp
     rw [ho] at ho'
     cases ho'
     refine I.float F hn ho hp hnl hcl hr hin fun σ1 w1 a1 I1 => ih _ σ1 w1 a1 I1 ?_
     have := left_set I.size hlt hnl
     omega
  refine loop fun fuel listed σ w a I hl hr => ?_
  have eun : ¬ isL listed e := I.todo e (by rw [List.cons_append]; unfold named; exact List.mem_cons_self ..)
  have he : e ∉ named (rest ++ tail) := by
   intro hj
   rw [named_append] at hj
   rcases List.mem_append.1 hj with hj | hj
   ·obtain ⟨g, hg, hb⟩ := chkS_pred hchk e hj
    rcases hg with rfl | hg
    ·exact eun (hr g hb)
    ·exact I.todo g (by rw [List.cons_append]; unfold named; rw [named_append]; exact List.mem_cons_of_mem _ (List.mem_append_right _ (List.mem_append_left _ hg))) (hr g hb)
   ·have := F.lt e oe hoe e (htl (e, L, A) (List.mem_cons_self ..) e hj)
    omega
  refine Inv.act hc F hn hlim I hoe he hr hfresh hL hF hA h' hnext (fun env2 H2 nx2 σ1 w1 a1 hk3 I1 hfix => ?_) (fun l H1 nx1 σ1 w1 c hk R E hden hdf hsz C => ?_)
  ·have hnl := left_set I.size helt eun
   have hpast' : ∀ i, i ∈ past' → ∃ o, ops[i]? = some o ∧ (cls o.op = 0 ∨ cls o.op = 1) := by
    intro i hi
    rcases (pastiff i).1 hi with hi | hi
    ·exact hpast i hi
    ·obtain ⟨o, ho, hne⟩ := chkF_cls hF i hi
     refine ⟨o, ho, ?_⟩
     have : cls o.op = 0 ∨ cls o.op = 1 ∨ cls o.op = 2 := by
      unfold cls
      split <;> first | exact .inl rfl | exact .inr (.inl rfl) | exact .inr (.inr rfl) | skip
      split <;> first | exact .inl rfl | exact .inr (.inr rfl)
     rcases this with h | h | h
     ·exact .inl h
     ·exact .inr h
     ·exact (hne h).elim
   have hblank' : ∀ t, t < 4096 → get2 t env0 = .und ∨ ((∀ (j : Nat) (q : Oper), ops[j]? = some q → q.dst ≠ some t) ∧ get2 t env0 = get2 t env2) := by
    intro t ht
    rcases hblank t ht with h | ⟨h1, h2⟩
    ·exact .inl h
    ·exact .inr ⟨h1, by rw [hfix t ht h1, h2]⟩
   exact stages_sem tail hc F hn hlim rest (some e) past' env2 H2 nx2 hchk (fun s hs => htl s (List.mem_cons_of_mem _ hs)) hpast' hblank' hk3 σ0 H0 w0 Q hQ hT fuel _ σ1 w1 a1 I1 (by omega)
  ·refine hQ l H1 nx1 σ1 w1 a c (hpan l H1 nx1 hk) R E ⟨⟨hsz, hn, fun t ht => ?_⟩, hdf⟩ C
   rcases hblank t ht with h | ⟨h1, h2⟩
   ·rw [h]; exact .und _
   ·rw [h2]; exact hden t ht h1
theorem tail_nil {P : Program} {nt : Nat} {ops : Array Oper} {as : List Nat} {res : Nat} {σ0 : Sg} {H0 : Heap} {w0 : World} {dfs : Dfs} {past : List Nat} {env : Env} {H : Heap} {nx : Nat} (F : OpsFact nt ops as) (hn : nt ≤ 4096) {Q : Exit → Act → World → Prop}
  (hpast : ∀ i, i ∈ past → ∃ o, ops[i]? = some o ∧ (cls o.op = 0 ∨ cls o.op = 1))
  (hQ : ∀ σ' w' a', Rel σ' H nx w' → Ext σ0 σ' H0 H res nx w0 w' → ARel σ' nt env dfs a' → Q .normal a' w') :
  ∀ fuel listed σ w a, Inv P nt ops as res σ0 H0 w0 dfs past [] env H nx listed σ w a → left ops listed ≤ fuel → wpAny P .any ops Q fuel listed a w := by
 have done : ∀ listed σ w a, Inv P nt ops as res σ0 H0 w0 dfs past [] env H nx listed σ w a → (∀ i, i < ops.size → isL listed i) → Q .normal a w := fun listed σ w a I hall =>
  hQ σ w a I.rel I.ext ⟨⟨I.tsize, hn, fun t ht => I.den t ht fun j q hj _ => hall j (Array.getElem?_eq_some_iff.1 hj).1⟩, I.dfs⟩
 intro fuel
 induction fuel with
 | zero =>
  intro listed σ w a I hl
  have hall := left_zero (by omega : left ops listed = 0)
  refine ⟨?_, done listed σ w a I hall⟩
  refine List.eq_nil_iff_forall_not_mem.2 fun i hi => ?_
  obtain ⟨o, ho, hnl, _⟩ := (mem_ready I.size).1 hi
  exact hnl (hall i (Array.getElem?_eq_some_iff.1 ho).1)
 | succ fuel ih =>
  intro listed σ w a I hl
  refine ⟨fun hnil => done listed σ w a I (ready_nil F I.size hnil), fun i hi => ?_⟩
  obtain ⟨o, ho, hnl, hed⟩ := (mem_ready I.size).1 hi
  have hlt : i < ops.size := (Array.getElem?_eq_some_iff.1 ho).1
  have hr : ∀ j, bit (as.getD i 0) j = true → isL listed j := fun j hj => by
   obtain ⟨e, he, hb, hc'⟩ := F.ahead i o ho j hj
   rcases hc' with rfl | hc'
   ·exact hed e he hb
   ·exact I.closed _ j (hed e he hb) hc'
  have hp : i ∈ past := by
   rcases I.all i hlt with h | h | h
   ·exact h
   ·cases h
   ·exact (hnl h).elim
  obtain ⟨o', ho', hcl⟩ := hpast i hp
  rw [ho] at ho'
  cases ho'
  refine I.float F hn ho hp hnl hcl hr (by intro h; cases h) fun σ1 w1 a1 I1 => ih _ σ1 w1 a1 I1 ?_
  have := left_set I.size hlt hnl
  omega
end Go.Vs
end
section
namespace Go.Vs
variable [GTab]
noncomputable section
inductive Sh where
 | bool
 | int (k : IntKind)
 | str
 | any
def shOf : TypeDesc → Sh
 | .bool => .bool
 | .int k => .int k
 | .string => .str
 | _ => .any
def shs (P : Program) : Nat → TypeId → Option (List Sh)
 | 0, _ => none
 | n + 1, t => match P.underlying t with
  | some (.struct fs) => fs.toList.foldr (fun f acc => match shs P n f.type, acc with
   | some a, some b => some (a ++ b)
   | _, _ => none) (some [])
  | some (.array len e) => match Nat.ble len 64, shs P n e with
   | true, some l => some (List.replicate len l).flatten
   | _, _ => none
  | some d => some [shOf d]
  | none => none
def exSh (s : Sh) (k : AVal → Prop) : Prop := match s with
 | .bool => ∃ b, k (.bool b)
 | .int kd => ∃ n, k (.int kd n)
 | .str => ∃ s, k (.str s)
 | .any => ∃ v, k v
def exShs : List Sh → (List AVal → Prop) → Prop
 | [], k => k []
 | s :: l, k => exSh s fun v => exShs l fun vs => k (v :: vs)
theorem exSh_ok {s : Sh} {k : AVal → Prop} (h : exSh s k) : ∃ v, k v := by
 cases s <;> (obtain ⟨x, h⟩ := h; exact ⟨_, h⟩)
theorem exShs_ok : ∀ {l : List Sh} {k : List AVal → Prop}, exShs l k → ∃ vs, k vs
 | [], _, h => ⟨_, h⟩
 | _ :: _, _, h => let ⟨_, h⟩ := exSh_ok h; let ⟨_, h⟩ := exShs_ok h; ⟨_, h⟩
def genV1 (P : Program) (t : TypeId) (k : AVal → Prop) : Prop :=
 match P.underlying t with
 | some d => match aggD d with
  | true => match shs P 9 t with
   | some l => exShs l fun cs => k (.agg cs)
   | none => ∃ v, k v
  | false => exSh (shOf d) k
 | none => ∃ v, k v
theorem genV1_ok {P : Program} {t : TypeId} {k : AVal → Prop} (h : genV1 P t k) : ∃ v, k v := by
 unfold genV1 at h
 split at h
 ·split at h
  ·split at h
   ·exact let ⟨_, h⟩ := exShs_ok h; ⟨_, h⟩
   ·exact h
  ·exact exSh_ok h
 ·exact h
def genVs (P : Program) : List TypeId → (List AVal → Prop) → Prop
 | [], k => k []
 | t :: l, k => genV1 P t fun v => genVs P l fun vs => k (v :: vs)
theorem genVs_ok {P : Program} : ∀ {l : List TypeId} {k : List AVal → Prop}, genVs P l k → ∃ vs, k vs
 | [], _, h => ⟨_, h⟩
 | _ :: _, _, h => let ⟨_, h⟩ := genV1_ok h; let ⟨_, h⟩ := genVs_ok h; ⟨_, h⟩
def typedV (P : Program) (t : TypeId) (v : AVal) (k : AVal → Prop) : Prop :=
 match P.underlying t with
 | some (.tuple ts) => match ts.toList with
  | [] => k v
  | ts => genVs P ts fun vs => v = .tuple vs ∧ k (.tuple vs)
 | some d => match aggD d, shOf d with
  | false, .any => k v
  | _, _ => genV1 P t fun v' => v = v' ∧ k v'
 | none => k v
theorem typedV_ok {P : Program} {t : TypeId} {v : AVal} {k : AVal → Prop} (h : typedV P t v k) : k v := by
 unfold typedV at h
 split at h
 ·split at h
  ·exact h
  ·obtain ⟨vs, e, h2⟩ := genVs_ok h; rw [e]; exact h2
 ·split at h
  ·exact h
  ·obtain ⟨v', e, h2⟩ := genV1_ok h; rw [e]; exact h2
 ·exact h
def ld1 (H : Heap) (a : AVal) : Option AVal :=
 match a with
 | .ptr b off => match get5 b H with
  | some (.cells n ct _ _) => match Nat.ble (Nat.succ off) n with
   | true => some (CT.get off ct)
   | false => none
  | _ => none
 | .gptr g off => match GTab.tab g with
  | some l => l[off]?
  | none => none
 | _ => none
def ldN (H : Heap) (sz : Nat) (a : AVal) : Option AVal :=
 match a with
 | .ptr b off => match get5 b H with
  | some (.cells n ct _ _) => match Nat.ble (Nat.add off sz) n with
   | true => some (.agg (CT.slab ct sz off))
   | false => none
  | _ => none
 | .gptr g off => match GTab.tab g with
  | some l => match Nat.ble (Nat.add off sz) l.length with
   | true => some (.agg ((l.drop off).take sz))
   | false => none
  | none => none
 | _ => none
def vLoad (P : Program) (t : TypeId) (H : Heap) (a : AVal) (k : AVal → Prop) : Prop :=
 match P.underlying t, P.info? t with
 | some d, some i => match aggD d with
  | true => genV1 P t fun v => ldN H i.size a = some v ∧ k v
  | false => genV1 P t fun v => ld1 H a = some v ∧ k v
 | _, _ => False
theorem vLoad_ok {P : Program} {t : TypeId} {H : Heap} {a : AVal} {k : AVal → Prop} (h : vLoad P t H a k) : ∃ v, aLoad P t H a = some v ∧ k v := by
 unfold vLoad at h
 split at h <;> try exact h.elim
 rename_i d i hd hi
 split at h
 ·rename_i hag
  obtain ⟨v, e, h⟩ := genV1_ok h
  refine ⟨v, ?_, h⟩
  unfold ldN at e
  unfold aLoad
  cases a <;> first | exact e | skip
  ·rename_i b off
   simp only [] at e ⊢
   cases hb : get5 b H with
   | none => rw [hb] at e; cases e
   | some o =>
    rw [hb] at e
    cases o with
    | map _ _ => cases e
    | cells n ct o s => simp only [hd, hi, hag]; exact e
  ·rename_i g off
   simp only [] at e ⊢
   cases hb : GTab.tab g with
   | none => rw [hb] at e; cases e
   | some l => rw [hb] at e; simp only [hd, hi, hag]; exact e
 ·rename_i hag
  obtain ⟨v, e, h⟩ := genV1_ok h
  refine ⟨v, ?_, h⟩
  unfold ld1 at e
  unfold aLoad
  cases a <;> first | exact e | skip
  ·rename_i b off
   simp only [] at e ⊢
   cases hb : get5 b H with
   | none => rw [hb] at e; cases e
   | some o =>
    rw [hb] at e
    cases o with
    | map _ _ => cases e
    | cells n ct o s => simp only [hd, hi, hag]; exact e
  ·rename_i g off
   simp only [] at e ⊢
   cases hb : GTab.tab g with
   | none => rw [hb] at e; cases e
   | some l => rw [hb] at e; simp only [hd, hi, hag]; exact e
def cellsT (P : Program) (t : TypeId) (v : AVal) (k : List AVal → Prop) : Prop :=
 match P.underlying t with
 | some d => match aggD d with
  | true => match v with
   | .agg cs => k cs
   | _ => False
  | false => cellv v = true ∧ k [v]
 | none => False
theorem cellsT_ok {P : Program} {t : TypeId} {v : AVal} {k : List AVal → Prop} (h : cellsT P t v k) : ∃ cs, acells v = some cs ∧ k cs := by
 unfold cellsT at h
 split at h <;> try exact h.elim
 split at h
 ·split at h <;> first | exact h.elim | exact ⟨_, rfl, h⟩
 ·obtain ⟨h1, h2⟩ := h
  refine ⟨[v], ?_, h2⟩
  cases v <;> first | rfl | (simp [cellv] at h1)
def stC (H : Heap) (a : AVal) (cs : List AVal) : Option Heap :=
 match a with
 | .ptr b off => match get5 b H with
  | some (.cells n ct olds false) => match Nat.ble (Nat.add off cs.length) n, allCell cs with
   | true, true => some (set5 b (some (.cells n (relay cs cs.length off n ct) [] false)) (dels olds H))
   | _, _ => none
  | _ => none
 | _ => none
def vStore (P : Program) (t : TypeId) (H : Heap) (a x : AVal) (k : Heap → Prop) : Prop :=
 match P.info? t with
 | some i => cellsT P t x fun cs => match Nat.beq cs.length i.size with
  | true => ∃ H', stC H a cs = some H' ∧ k H'
  | false => False
 | none => False
theorem vStore_ok {P : Program} {t : TypeId} {H : Heap} {a x : AVal} {k : Heap → Prop} (h : vStore P t H a x k) : ∃ H', aStore P t H a x = some H' ∧ k H' := by
 unfold vStore at h
 split at h <;> try exact h.elim
 rename_i i hi
 obtain ⟨cs, hcs, h⟩ := cellsT_ok h
 split at h <;> try exact h.elim
 rename_i hl
 obtain ⟨H', e, h⟩ := h
 refine ⟨H', ?_, h⟩
 have hl' := Nat.eq_of_beq_eq_true hl
 unfold stC at e
 unfold aStore
 split at e <;> try (cases e; done)
 rename_i b off
 split at e <;> try (cases e; done)
 rename_i n ct olds ho
 split at e <;> try (cases e; done)
 rename_i h1 h2
 cases e
 rw [hl'] at h1
 have hb : Nat.beq i.size i.size = true := Nat.beq_refl _
 simp only [hcs, hi, ho, h1, h2, hl', hb]
def vInt (op : BinOp) (k : IntKind) (a b : Int) (K : AVal → Prop) : Prop :=
 match op with
 | .add => K (.int k (k.wrap (a + b)))
 | .sub => K (.int k (k.wrap (a - b)))
 | .mul => K (.int k (k.wrap (a * b)))
 | .quo => b ≠ 0 ∧ K (.int k (k.wrap (a.tdiv b)))
 | .rem => b ≠ 0 ∧ K (.int k (a.tmod b))
 | .and => K (.int k (k.wrap (BitVec.ofInt k.bits a &&& BitVec.ofInt k.bits b).toNat))
 | .or => K (.int k (k.wrap (BitVec.ofInt k.bits a ||| BitVec.ofInt k.bits b).toNat))
 | .xor => K (.int k (k.wrap (BitVec.ofInt k.bits a ^^^ BitVec.ofInt k.bits b).toNat))
 | .andNot => K (.int k (k.wrap (BitVec.ofInt k.bits a &&& ~~~BitVec.ofInt k.bits b).toNat))
 | .eql => K (.bool (decide (a = b)))
 | .neq => K (.bool (!decide (a = b)))
 | .lss => K (.bool (decide (a < b)))
 | .leq => K (.bool (decide (a ≤ b)))
 | .gtr => K (.bool (decide (b < a)))
 | .geq => K (.bool (decide (b ≤ a)))
 | _ => False
theorem not_lt_b (a b : Int) : (!decide (b < a)) = decide (a ≤ b) := by rw [Bool.eq_iff_iff]; simp
theorem beq_b (a b : Int) : (a == b) = decide (a = b) := by rw [Bool.eq_iff_iff]; simp
theorem vInt_ok {op : BinOp} {k : IntKind} {a b : Int} {K : AVal → Prop} (h : vInt op k a b K) : ∃ v, aInt op k a b = some v ∧ K v := by
 unfold vInt at h
 unfold aInt
 cases op <;> simp only [forceI_eq, awrap_eq, ieq_eq, ilt_eq, bnot_eq] at h ⊢
 case quo =>
  obtain ⟨h0, h⟩ := h; have : (b == 0) = false := by simpa using h0
  simp only [this]; exact ⟨_, rfl, h⟩
 case rem =>
  obtain ⟨h0, h⟩ := h; have : (b == 0) = false := by simpa using h0
  simp only [this]; exact ⟨_, rfl, h⟩
 case leq => rw [← not_lt_b] at h; exact ⟨_, rfl, h⟩
 case geq => rw [← not_lt_b] at h; exact ⟨_, rfl, h⟩
 case eql => rw [← beq_b] at h; exact ⟨_, rfl, h⟩
 case neq => rw [← beq_b] at h; exact ⟨_, rfl, h⟩
 all_goals first | exact h.elim | exact ⟨_, rfl, h⟩
def vText (op : BinOp) (s t : List UInt8) (K : AVal → Prop) : Prop :=
 match op with
 | .add => s.length + t.length ≤ 9223372036854775807 ∧ K (.str (s ++ t))
 | .eql => K (.bool (s == t))
 | .neq => K (.bool (!(s == t)))
 | .lss => K (.bool (Op.bytesLess s t))
 | .leq => K (.bool (Op.bytesLess s t || s == t))
 | .gtr => K (.bool !(Op.bytesLess s t || s == t))
 | .geq => K (.bool !(Op.bytesLess s t))
 | _ => False
theorem vText_ok {op : BinOp} {s t : List UInt8} {K : AVal → Prop} (h : vText op s t K) : ∃ v, aText op s t = some v ∧ K v := by
 unfold vText at h
 unfold aText
 cases op <;> simp only [] at h ⊢
 case add =>
  obtain ⟨h0, h⟩ := h; have hb : Nat.ble (s.length + t.length) 9223372036854775807 = true := (by rw [Nat.ble_eq]; exact h0)
  rw [hb]; exact ⟨_, rfl, h⟩
 all_goals first | exact h.elim | exact ⟨_, rfl, h⟩
inductive NK where
 | ptr | slice | map | func | iface
def nkOf : TypeDesc → Option NK
 | .pointer _ => some .ptr
 | .slice _ => some .slice
 | .map _ _ => some .map
 | .func _ _ _ => some .func
 | .interface _ => some .iface
 | _ => none
def nilK (k : NK) (v : AVal) : Option Bool :=
 match k, v with
 | .ptr, .ptr _ _ => some false
 | .ptr, .nilPtr => some true
 | .slice, .slice .. => some false
 | .slice, .nilSlice => some true
 | .slice, .gslice .. => some false
 | .map, .map _ => some false
 | .map, .nilMap => some true
 | .func, .func _ _ _ => some false
 | .func, .nilFunc => some true
 | .iface, .iface _ _ => some false
 | .iface, .nilIface => some true
 | _, _ => none
theorem nilK_ok {d : TypeDesc} {k : NK} {v : AVal} {p : Bool} (hk : nkOf d = some k) (h : nilK k v = some p) : nilness d v = some p := by
 cases d <;> simp only [nkOf, reduceCtorEq, Option.some.injEq] at hk
 all_goals (subst hk; cases v <;> simp only [nilK, reduceCtorEq] at h <;> exact h)
def vBin (P : Program) (op : BinOp) (t : TypeId) (x y : Operand) (a b : AVal) (K : AVal → Prop) : Prop :=
 match P.underlying t with
 | some (.int _) => match op with
  | .shl => match a, b with
   | .int k1 n, .int _ m => 0 ≤ m ∧ K (.int k1 (k1.wrap (n * 2 ^ (min m.toNat k1.bits))))
   | _, _ => False
  | .shr => match a, b with
   | .int k1 n, .int _ m => 0 ≤ m ∧ K (.int k1 (n.fdiv (2 ^ (min m.toNat k1.bits))))
   | _, _ => False
  | op => match a, b with
   | .int k1 n, .int k2 m => match decide (k1 = k2) with
    | true => vInt op k1 n m K
    | false => False
   | _, _ => False
 | some .string => match a, b with
  | .str s, .str u => vText op s u K
  | _, _ => False
 | some .bool => match op with
  | .eql => match a, b with
   | .bool p, .bool q => K (.bool (p == q))
   | _, _ => False
  | .neq => match a, b with
   | .bool p, .bool q => K (.bool (!(p == q)))
   | _, _ => False
  | _ => False
 | some d => match nkOf d, isConstO x, isConstO y with
  | some k, false, true => match nilK k b with
   | some true => match op with
    | .eql => ∃ p, nilK k a = some p ∧ K (.bool p)
    | .neq => ∃ p, nilK k a = some p ∧ K (.bool (!p))
    | _ => False
   | _ => False
  | some k, true, _ => match nilK k a with
   | some true => match op with
    | .eql => ∃ p, nilK k b = some p ∧ K (.bool p)
    | .neq => ∃ p, nilK k b = some p ∧ K (.bool (!p))
    | _ => False
   | _ => False
  | _, _, _ => False
 | none => False
theorem eqB (p q : Bool) : (Bool.rec (!q) q p : Bool) = (p == q) := by cases p <;> cases q <;> rfl
theorem vBin_ok {P : Program} {op : BinOp} {t : TypeId} {x y : Operand} {ρ : Operand → AVal} {H : Heap} {nx : Nat} {K : AVal → Prop} (h : vBin P op t x y (ρ x) (ρ y) K) :
  ∃ v, opBin P op t x y ρ H nx = some (.val v H nx) ∧ K v := by
 unfold vBin at h
 split at h <;> try exact h.elim
 ·rename_i kd hu
  split at h
  ·split at h <;> try exact h.elim
   rename_i k1 n k2 m hx hy
   obtain ⟨h0, h⟩ := h
   have : (ilt m 0) = false := by rw [ilt_eq]; simp; exact h0
   refine ⟨_, ?_, h⟩
   unfold opBin
   simp only [hx, hy, aShift, this, forceI_eq]
  ·split at h <;> try exact h.elim
   rename_i k1 n k2 m hx hy
   obtain ⟨h0, h⟩ := h
   have : (ilt m 0) = false := by rw [ilt_eq]; simp; exact h0
   refine ⟨_, ?_, h⟩
   unfold opBin
   simp only [hx, hy, aShift, this, forceI_eq]
  ·rename_i hn1 hn2
   split at h <;> try exact h.elim
   rename_i k1 n k2 m hx hy
   split at h <;> try exact h.elim
   rename_i hk
   obtain ⟨v, e, h⟩ := vInt_ok h
   refine ⟨v, ?_, h⟩
   cases op <;> first | exact (hn1 rfl).elim | exact (hn2 rfl).elim | (unfold opBin; simp only [hx, hy, hk, e])
 ·rename_i hu
  split at h <;> try exact h.elim
  rename_i s u hx hy
  obtain ⟨v, e, h⟩ := vText_ok h
  refine ⟨v, ?_, h⟩
  unfold opBin
  simp only [hx, hy, e]
 ·rename_i hu
  split at h <;> try exact h.elim
  all_goals
   split at h <;> try exact h.elim
   rename_i p q hx hy
   refine ⟨_, ?_, h⟩
   unfold opBin
   simp only [hx, hy, aEq, hu, bnot_eq]
   rw [eqB]
 ·rename_i d hnb hni hns hu
  have other : ∀ k q, nilK k (ρ x) = some q → (op = .eql ∨ op = .neq) → ∀ s, aEq P t x y (ρ x) (ρ y) = some s →
    opBin P op t x y ρ H nx = some (.val (.bool (match op with | .eql => s | _ => !s)) H nx) := by
   intro k q ha hop s hs
   unfold opBin
   split
   ·rename_i hx hy; rw [hx] at ha; cases k <;> cases ha
   ·rename_i hx hy; rw [hx] at ha; cases k <;> cases ha
   ·rcases hop with rfl | rfl <;> simp only [hs, bnot_eq]
  split at h <;> try exact h.elim
  ·rename_i k hk hcx hcy
   split at h <;> try exact h.elim
   rename_i hb
   have e : ∀ p, nilK k (ρ x) = some p → aEq P t x y (ρ x) (ρ y) = some p := by
    intro p hp
    unfold aEq
    rw [hu]
    simp only [nilK_ok hk hp, nilK_ok hk hb, hcx, hcy]
   split at h <;> try exact h.elim
   ·obtain ⟨p, hp, h⟩ := h
    exact ⟨_, other k p hp (.inl rfl) p (e p hp), h⟩
   ·obtain ⟨p, hp, h⟩ := h
    exact ⟨_, other k p hp (.inr rfl) p (e p hp), h⟩
  ·rename_i k hk hcx
   split at h <;> try exact h.elim
   rename_i hb
   have e : ∀ p, nilK k (ρ y) = some p → aEq P t x y (ρ x) (ρ y) = some p := by
    intro p hp
    unfold aEq
    rw [hu]
    simp only [nilK_ok hk hp, nilK_ok hk hb, hcx]
   split at h <;> try exact h.elim
   ·obtain ⟨p, hp, h⟩ := h
    exact ⟨_, other k true hb (.inl rfl) p (e p hp), h⟩
   ·obtain ⟨p, hp, h⟩ := h
    exact ⟨_, other k true hb (.inr rfl) p (e p hp), h⟩
def addOff (a : AVal) (c : Nat) : Option AVal :=
 match a with
 | .ptr b off => some (.ptr b (Nat.add off c))
 | .gptr g off => some (.gptr g (Nat.add off c))
 | _ => none
def idxS (v : AVal) (n esz : Nat) : Option AVal :=
 match v with
 | .slice b off len _ _ => match Nat.ble (Nat.succ n) len with
  | true => some (.ptr b (Nat.add off (Nat.mul n esz)))
  | false => none
 | .gslice g off len _ => match Nat.ble (Nat.succ n) len with
  | true => some (.gptr g (Nat.add off (Nat.mul n esz)))
  | false => none
 | _ => none
def lenS (v : AVal) : Option Nat :=
 match v with
 | .slice _ _ n _ _ => some n
 | .nilSlice => some 0
 | .gslice _ _ n _ => some n
 | _ => none
def slcS (v : AVal) (esz l : Nat) (h : Option Nat) : Option AVal :=
 match v with
 | .slice b off len e full => match h.getD len with
  | h => match Nat.ble h len, Nat.ble l h, Nat.beq esz e with
   | true, true, true => some (.slice b (Nat.add off (Nat.mul l e)) (Nat.sub h l) e (Bool.rec false full (Nat.beq h len)))
   | _, _, _ => none
 | .nilSlice => match l, h with
  | 0, none => some .nilSlice
  | 0, some 0 => some .nilSlice
  | _, _ => none
 | .gslice g off len e => match h.getD len with
  | h => match Nat.ble h len, Nat.ble l h, Nat.beq esz e with
   | true, true, true => some (.gslice g (Nat.add off (Nat.mul l e)) (Nat.sub h l) e)
   | _, _, _ => none
 | _ => none
def strOf (H : Heap) (v : AVal) : Option (List UInt8) :=
 match v with
 | .slice b off n _ _ => match get5 b H with
  | some (.cells cnt ct _ _) => match Nat.ble (Nat.add off n) cnt with
   | true => bytesOf (CT.slab ct n off)
   | false => none
  | _ => none
 | .nilSlice => some []
 | _ => none
def vFieldAddr (P : Program) (s : TypeId) (f : Nat) (a : AVal) (K : AVal → Prop) : Prop :=
 match P.underlying s with
 | some (.struct fields) => match fields[f]? with
  | some fd => match P.info? fd.type with
   | some i => match Nat.beq i.size 0 with
    | false => ∃ v, addOff a fd.offset = some v ∧ K v
    | true => False
   | none => False
  | none => False
 | _ => False
theorem vFieldAddr_ok {P : Program} {s : TypeId} {f : Nat} {x : Operand} {ρ : Operand → AVal} {H : Heap} {nx : Nat} {K : AVal → Prop} (h : vFieldAddr P s f (ρ x) K) :
  ∃ v, opFieldAddr P s x f ρ H nx = some (.val v H nx) ∧ K v := by
 unfold vFieldAddr at h
 split at h <;> try exact h.elim
 rename_i fields hu
 split at h <;> try exact h.elim
 rename_i fd hf
 split at h <;> try exact h.elim
 rename_i i hi
 split at h <;> try exact h.elim
 rename_i hz
 obtain ⟨v, e, h⟩ := h
 refine ⟨v, ?_, h⟩
 unfold addOff at e
 unfold opFieldAddr
 simp only [hu, hf, hi, hz]
 split at e <;> try (cases e; done)
 ·rename_i hx; cases e; rw [hx]
 ·rename_i hx; cases e; rw [hx]
theorem asNat_nn {i : Int} (h : 0 ≤ i) : asNat i = some i.toNat := by
 cases i with
 | ofNat n => rfl
 | negSucc n => omega
def vIndexAddr (P : Program) (t : TypeId) (a ix : AVal) (K : AVal → Prop) : Prop :=
 match ix with
 | .int _ i => match P.underlying t with
  | some (.array len elem) => match P.info? elem with
   | some e => 0 ≤ i ∧ i.toNat < len ∧ ∃ v, addOff a (Nat.mul i.toNat e.size) = some v ∧ K v
   | none => False
  | some (.slice elem) => match P.info? elem with
   | some e => 0 ≤ i ∧ ∃ v, idxS a i.toNat e.size = some v ∧ K v
   | none => False
  | _ => False
 | _ => False
theorem vIndexAddr_ok {P : Program} {t : TypeId} {x ix : Operand} {ρ : Operand → AVal} {H : Heap} {nx : Nat} {K : AVal → Prop} (h : vIndexAddr P t (ρ x) (ρ ix) K) :
  ∃ v, opIndexAddr P t x ix ρ H nx = some (.val v H nx) ∧ K v := by
 unfold vIndexAddr at h
 split at h <;> try exact h.elim
 rename_i k i hix
 split at h <;> try exact h.elim
 ·rename_i len elem hu
  split at h <;> try exact h.elim
  rename_i e he
  obtain ⟨h0, hlt, v, ev, h⟩ := h
  refine ⟨v, ?_, h⟩
  have hb : Nat.ble (Nat.succ i.toNat) len = true := by rw [Nat.ble_eq]; omega
  unfold opIndexAddr
  unfold addOff at ev
  simp only [hix, asNat_nn h0, hu]
  split at ev <;> try (cases ev; done)
  ·rename_i hx; cases ev; simp only [hx, hb, he]
  ·rename_i hx; cases ev; simp only [hx, hb, he]
 ·rename_i elem hu
  split at h <;> try exact h.elim
  rename_i e he
  obtain ⟨h0, v, ev, h⟩ := h
  refine ⟨v, ?_, h⟩
  unfold opIndexAddr
  unfold idxS at ev
  simp only [hix, asNat_nn h0, hu]
  split at ev <;> try (cases ev; done)
  ·rename_i hx
   split at ev <;> try (cases ev; done)
   rename_i hb
   cases ev
   simp only [hx, hb, he]
  ·rename_i hx
   split at ev <;> try (cases ev; done)
   rename_i hb
   cases ev
   simp only [hx, hb, he]
def vIndex (P : Program) (t : TypeId) (a ix : AVal) (K : AVal → Prop) : Prop :=
 match ix with
 | .int _ i => match P.underlying t with
  | some (.array len elem) => match a with
   | .agg cs => match P.info? elem with
    | some e => 0 ≤ i ∧ i.toNat < len ∧ genV1 P elem fun v => aPart P elem cs (Nat.mul i.toNat e.size) = some v ∧ K v
    | none => False
   | _ => False
  | some .string => match a with
   | .str s => 0 ≤ i ∧ ∃ c, s[i.toNat]? = some c ∧ K (.int .u8 (.ofNat c.toNat))
   | _ => False
  | _ => False
 | _ => False
theorem vIndex_ok {P : Program} {t : TypeId} {x ix : Operand} {ρ : Operand → AVal} {H : Heap} {nx : Nat} {K : AVal → Prop} (h : vIndex P t (ρ x) (ρ ix) K) :
  ∃ v, opIndex P t x ix ρ H nx = some (.val v H nx) ∧ K v := by
 unfold vIndex at h
 split at h <;> try exact h.elim
 rename_i k i hix
 split at h <;> try exact h.elim
 ·rename_i len elem hu
  split at h <;> try exact h.elim
  rename_i cs hx
  split at h <;> try exact h.elim
  rename_i e he
  obtain ⟨h0, hlt, h⟩ := h
  obtain ⟨v, ev, h⟩ := genV1_ok h
  refine ⟨v, ?_, h⟩
  have hb : Nat.ble (Nat.succ i.toNat) len = true := by rw [Nat.ble_eq]; omega
  unfold opIndex
  simp only [hix, asNat_nn h0, hu, hx, hb, he, ev]
 ·rename_i hu
  split at h <;> try exact h.elim
  rename_i s hx
  obtain ⟨h0, c, ec, h⟩ := h
  refine ⟨_, ?_, h⟩
  unfold opIndex
  simp only [hix, asNat_nn h0, hu, hx, ec]
def vBnd (x : Option AVal) (K : Option Nat → Prop) : Prop :=
 match x with
 | none => K none
 | some (.int _ i) => 0 ≤ i ∧ K (some i.toNat)
 | some _ => False
theorem vBnd_ok {x : Option Operand} {ρ : Operand → AVal} {K : Option Nat → Prop} (h : vBnd (x.map ρ) K) : ∃ n, K n ∧ ∀ d, bnd d x ρ = some (n.getD d) := by
 unfold vBnd at h
 cases x with
 | none => exact ⟨none, h, fun d => rfl⟩
 | some y =>
  simp only [Option.map_some] at h
  split at h <;> try exact h.elim
  ·rename_i e; cases e
  ·rename_i k i e
   obtain ⟨h0, h⟩ := h
   refine ⟨some i.toNat, h, fun d => ?_⟩
   have e' : ρ y = .int k i := Option.some.inj e
   simp only [bnd, e', asNat_nn h0, Option.getD_some]
def vSlice (P : Program) (t : TypeId) (a : AVal) (lo hi mx : Option AVal) (H : Heap) (K : AVal → Prop) : Prop :=
 match mx with
 | some _ => False
 | none => match P.underlying t with
  | some .string => match a with
   | .str s => vBnd lo fun l => vBnd hi fun h => h.getD s.length ≤ s.length ∧ l.getD 0 ≤ h.getD s.length ∧ K (.str ((s.drop (l.getD 0)).take (h.getD s.length - l.getD 0)))
   | _ => False
  | some (.slice elem) => match P.info? elem with
   | some e => vBnd lo fun l => vBnd hi fun h => ∃ v, slcS a e.size (l.getD 0) h = some v ∧ K v
   | none => False
  | _ => False
theorem vSlice_ok {P : Program} {t : TypeId} {x : Operand} {lo hi mx : Option Operand} {ρ : Operand → AVal} {H : Heap} {nx : Nat} {K : AVal → Prop} (h : vSlice P t (ρ x) (lo.map ρ) (hi.map ρ) (mx.map ρ) H K) :
  ∃ v, opSlice P t x lo hi mx ρ H nx = some (.val v H nx) ∧ K v := by
 unfold vSlice at h
 split at h <;> try exact h.elim
 rename_i hm
 have hm' : mx = none := by cases mx with
  | none => rfl
  | some y => cases hm
 subst hm'
 split at h <;> try exact h.elim
 ·rename_i hu
  split at h <;> try exact h.elim
  rename_i s hx
  obtain ⟨l, h, hl⟩ := vBnd_ok h
  obtain ⟨hh, h, hhi⟩ := vBnd_ok h
  obtain ⟨h1, h2, h⟩ := h
  refine ⟨_, ?_, h⟩
  unfold opSlice
  have b1 : Nat.ble (hh.getD s.length) s.length = true := by rw [Nat.ble_eq]; exact h1
  have b2 : Nat.ble (l.getD 0) (hh.getD s.length) = true := by rw [Nat.ble_eq]; exact h2
  simp only [hu, hx, hl, hhi, b1, b2]
 ·rename_i elem hu
  split at h <;> try exact h.elim
  rename_i e he
  obtain ⟨l, h, hl⟩ := vBnd_ok h
  obtain ⟨hh, h, hhi⟩ := vBnd_ok h
  obtain ⟨v, ev, h⟩ := h
  refine ⟨v, ?_, h⟩
  unfold opSlice
  unfold slcS at ev
  split at ev <;> try (cases ev; done)
  ·rename_i b off len es full hx
   simp only [] at ev
   split at ev <;> try (cases ev; done)
   rename_i b1 b2 b3
   cases ev
   simp only [hu, hx, hl, hhi, he, b1, b2, b3, forceN_eq]
  ·rename_i hx
   split at ev <;> try (cases ev; done)
   ·rename_i q1; cases ev; simp only [hu, hx, hl, hhi, he, Option.getD_none, q1]
   ·rename_i q1; cases ev; simp only [hu, hx, hl, hhi, he, Option.getD_some, q1]
  ·rename_i g off len es hx
   simp only [] at ev
   split at ev <;> try (cases ev; done)
   rename_i b1 b2 b3
   cases ev
   simp only [hu, hx, hl, hhi, he, b1, b2, b3]
def vConv (P : Program) (src dst : TypeId) (a : AVal) (H : Heap) (K : AVal → Prop) : Prop :=
 match P.underlying src, P.underlying dst with
 | some (.int _), some (.int k) => match a with
  | .int _ n => K (.int k (k.wrap n))
  | _ => False
 | some .string, some .string => match a with
  | .str s => K (.str s)
  | _ => False
 | some (.slice e), some .string => match P.underlying e with
  | some (.int .u8) => ∃ s, strOf H a = some s ∧ K (.str s)
  | _ => False
 | _, _ => False
theorem vConv_ok {P : Program} {src dst : TypeId} {x : Operand} {ρ : Operand → AVal} {H : Heap} {nx : Nat} {K : AVal → Prop} (h : vConv P src dst (ρ x) H K) :
  ∃ v, opConv P src dst x ρ H nx = some (.val v H nx) ∧ K v := by
 unfold vConv at h
 split at h <;> try exact h.elim
 ·rename_i k0 k hs hd
  split at h <;> try exact h.elim
  rename_i k1 n hx
  refine ⟨_, ?_, h⟩
  unfold opConv
  simp only [hs, hd, hx, forceI_eq, awrap_eq]
 ·rename_i hs hd
  split at h <;> try exact h.elim
  rename_i s hx
  refine ⟨_, ?_, h⟩
  unfold opConv
  simp only [hs, hd, hx]
 ·rename_i el hs hd
  split at h <;> try exact h.elim
  rename_i hel
  obtain ⟨s, es, h⟩ := h
  refine ⟨_, ?_, h⟩
  unfold opConv
  unfold strOf at es
  split at es <;> try (cases es; done)
  ·rename_i b off n esz full hx
   split at es <;> try (cases es; done)
   rename_i cnt ct o sp hb
   split at es <;> try (cases es; done)
   rename_i hle
   simp only [hs, hd, hx, hel, hb, hle, es]
  ·rename_i hx
   cases es
   simp only [hs, hd, hx, hel]
def vFill (P : Program) (place : Nat → Option (Nat × Nat × TypeId)) (ρ : Operand → AVal) (cells : List AVal) (l : List (Nat × Operand)) (K : List AVal → Prop) : Prop :=
 match l with
 | [] => K cells
 | (i, x) :: rest => match place i with
  | some (off, size, t) => cellsT P t (ρ x) fun cs => match Nat.beq cs.length size, Nat.ble (Nat.add off size) cells.length with
   | true, true => vFill P place ρ (seg off cs cells) rest K
   | _, _ => False
  | none => False
theorem vFill_ok {P : Program} {place : Nat → Option (Nat × Nat × TypeId)} {ρ : Operand → AVal} : ∀ {l : List (Nat × Operand)} {cells : List AVal} {K : List AVal → Prop}, vFill P place ρ cells l K →
  ∃ cs, aFill (fun i => (place i).map fun p => (p.1, p.2.1)) ρ cells l = some cs ∧ K cs
 | [], _, _, h => ⟨_, rfl, h⟩
 | (i, x) :: rest, cells, K, h => by
  unfold vFill at h
  split at h <;> try exact h.elim
  rename_i off size t hp
  obtain ⟨cs, hcs, h⟩ := cellsT_ok h
  split at h <;> try exact h.elim
  rename_i h1 h2
  obtain ⟨r, e, h⟩ := vFill_ok h
  refine ⟨r, ?_, h⟩
  unfold aFill
  simp only [hp, hcs, h1, h2, Option.map_some]
  exact e
def placesT (P : Program) : List Field → Option (List (Nat × Nat × TypeId))
 | [] => some []
 | f :: l => match P.info? f.type, placesT P l with
  | some i, some r => some ((f.offset, i.size, f.type) :: r)
  | _, _ => none
theorem placesT_ok {P : Program} : ∀ {l : List Field} {r : List (Nat × Nat × TypeId)}, placesT P l = some r → places P l = some (r.map fun p => (p.1, p.2.1))
 | [], _, h => by cases h; rfl
 | f :: l, r, h => by
  unfold placesT at h
  split at h <;> try (cases h; done)
  rename_i i r' hi hr
  cases h
  unfold places
  simp only [hi, placesT_ok hr, List.map_cons]
def vBuild (P : Program) (t : TypeId) (parts : List (Nat × Operand)) (ρ : Operand → AVal) (K : List AVal → Prop) : Prop :=
 match zeroL P t, P.underlying t with
 | some z, some (.struct fields) => match placesT P fields.toList with
  | some pl => vFill P (fun i => pl[i]?) ρ z parts K
  | none => False
 | some z, some (.array _ elem) => match P.info? elem with
  | some e => vFill P (fun i => some (Nat.mul i e.size, e.size, elem)) ρ z parts K
  | none => False
 | _, _ => False
theorem vBuild_ok {P : Program} {t : TypeId} {parts : Array (Nat × Operand)} {ρ : Operand → AVal} {K : List AVal → Prop} (h : vBuild P t parts.toList ρ K) : ∃ cs, aBuild P t parts ρ = some cs ∧ K cs := by
 unfold vBuild at h
 unfold aBuild
 split at h <;> try exact h.elim
 ·rename_i z fields hz hu
  split at h <;> try exact h.elim
  rename_i pl hpl
  obtain ⟨cs, e, h⟩ := vFill_ok h
  refine ⟨cs, ?_, h⟩
  simp only [hz, hu, placesT_ok hpl, List.getElem?_map]
  exact e
 ·rename_i z len elem hz hu
  split at h <;> try exact h.elim
  rename_i e he
  obtain ⟨cs, e', h⟩ := vFill_ok h
  refine ⟨cs, ?_, h⟩
  simp only [hz, hu, he]
  exact e'
def vMade (P : Program) (op : Op) (ρ : Operand → AVal) (K : Made → Prop) : Prop :=
 match op with
 | .alloc t => match zeroL P t with
  | some z => match Nat.ble z.length 4096 with
   | true => K ⟨z.length, z, fun b => .ptr b 0⟩
   | false => False
  | none => False
 | .box t x => cellsT P t (ρ x) fun cs => match Nat.ble cs.length 4096 with
  | true => K ⟨cs.length, cs, fun b => .ptr b 0⟩
  | false => False
 | .buildSlice t len parts => match P.underlying t with
  | some (.slice elem) => match zeroL P elem, P.info? elem with
   | some z, some e => match Nat.ble (Nat.mul len e.size) 4096, Nat.beq e.size 0 with
    | true, false => vFill P (fun i => some (Nat.mul i e.size, e.size, elem)) ρ (repL z len) parts.toList fun cs => K ⟨Nat.mul len e.size, cs, fun b => .slice b 0 len e.size true⟩
    | _, _ => False
   | _, _ => False
  | _ => False
 | .makeSlice t l c => match P.underlying t with
  | some (.slice elem) => match zeroL P elem, P.info? elem with
   | some z, some e => match Nat.beq e.size 0 with
    | false => match ρ l, ρ c with
     | .int _ n, .int _ m => n = m ∧ 0 ≤ n ∧ n.toNat * e.size ≤ 9223372036854775807 ∧ n.toNat * e.bytes ≤ 140737488355328 ∧ n.toNat ≤ 9223372036854775807 ∧
       K ⟨Nat.mul n.toNat e.size, repL z n.toNat, fun b => .slice b 0 n.toNat e.size true⟩
     | _, _ => False
    | true => False
   | _, _ => False
  | _ => False
 | _ => False
theorem ble_of {a b : Nat} (h : a ≤ b) : Nat.ble a b = true := by rw [Nat.ble_eq]; exact h
theorem vMade_ok {P : Program} {op : Op} {ρ : Operand → AVal} {K : Made → Prop} (h : vMade P op ρ K) : ∃ m, made P op ρ = some m ∧ Nat.ble m.n 9223372036854775807 = true ∧ K m := by
 unfold vMade at h
 split at h <;> try exact h.elim
 ·split at h <;> try exact h.elim
  rename_i z hz
  split at h <;> try exact h.elim
  rename_i hb
  refine ⟨_, ?_, ble_of (Nat.le_trans (Nat.le_of_ble_eq_true hb) (by decide)), h⟩
  simp only [made, madeAlloc, hz]
 ·obtain ⟨cs, hcs, h⟩ := cellsT_ok h
  split at h <;> try exact h.elim
  rename_i hb
  refine ⟨_, ?_, ble_of (Nat.le_trans (Nat.le_of_ble_eq_true hb) (by decide)), h⟩
  simp only [made, madeBox, hcs, forceN_eq]
 ·rename_i t len parts
  split at h <;> try exact h.elim
  rename_i elem hu
  split at h <;> try exact h.elim
  rename_i z e hz he
  split at h <;> try exact h.elim
  rename_i h1 h2
  obtain ⟨cs, e', h⟩ := vFill_ok h
  refine ⟨_, ?_, ble_of (Nat.le_trans (Nat.le_of_ble_eq_true h1) (by decide)), h⟩
  simp only [made, madeSliceLit, hu, hz, he, h1, h2]
  have e2 : aFill (fun i => some (Nat.mul i e.size, e.size)) ρ (repL z len) parts.toList = some cs := e'
  rw [e2]
 ·rename_i t l c
  split at h <;> try exact h.elim
  rename_i elem hu
  split at h <;> try exact h.elim
  rename_i z e hz he
  split at h <;> try exact h.elim
  rename_i h0
  split at h <;> try exact h.elim
  rename_i k1 n k2 m hl hc
  obtain ⟨rfl, hn, g1, g2, g3, h⟩ := h
  refine ⟨_, ?_, ble_of g1, h⟩
  have b0 : Nat.beq n.toNat n.toNat = true := Nat.beq_refl _
  have b1 : Nat.ble (Nat.mul n.toNat e.size) 9223372036854775807 = true := ble_of g1
  have b2 : Nat.ble (Nat.mul n.toNat e.bytes) 140737488355328 = true := ble_of g2
  simp only [made, madeMake, hu, hz, he, hl, hc, asNat_nn hn, b0, b1, b2, h0, ble_of g3, forceN_eq]
def blkN (m : Made) (nx : Nat) (H : Heap) : Heap := set5 nx (some (.cells m.n (CT.ofL m.n m.l) [] false)) H
def appC (H : Heap) (nx esz ebytes : Nat) (s : AVal) (n : Nat) (new : List AVal) : Option (AVal × Heap × Nat) :=
 match n with
 | 0 => match s with
  | .nilSlice => some (.nilSlice, H, nx)
  | .slice b off len e full => some (.slice b off len e full, H, nx)
  | _ => none
 | Nat.succ n' => match s with
  | .nilSlice => match Nat.ble (Nat.mul (Nat.succ n') esz) 9223372036854775807, Nat.ble (Nat.mul (Nat.succ n') ebytes) 140737488355328 with
   | true, true => some (.slice nx 0 (Nat.succ n') esz false, set5 nx (some (.cells (Nat.mul (Nat.succ n') esz) (CT.ofL (Nat.mul (Nat.succ n') esz) new) [] false)) H, Nat.succ nx)
   | _, _ => none
  | .slice b off len e full => match get5 b H, Nat.beq e esz, Nat.ble (Nat.mul (Nat.add len (Nat.succ n')) esz) 9223372036854775807, Nat.ble (Nat.mul (Nat.add len (Nat.succ n')) ebytes) 140737488355328 with
   | some (.cells cnt ct olds sup), true, true, true => match Nat.ble (Nat.add off (Nat.mul len esz)) cnt, full with
    | true, true => some (.slice nx 0 (Nat.add len (Nat.succ n')) esz false,
      set5 nx (some (.cells (Nat.mul (Nat.add len (Nat.succ n')) esz) (CT.ofL (Nat.mul (Nat.add len (Nat.succ n')) esz) (CT.slab ct (Nat.mul len esz) off ++ new)) [] false)) H, Nat.succ nx)
    | true, false => match off, sup with
     | 0, false => some (.slice nx 0 (Nat.add len (Nat.succ n')) esz false,
       grown b cnt ct olds (Nat.mul len esz) H nx (Nat.mul (Nat.add len (Nat.succ n')) esz) (CT.lay new (Nat.mul len esz) (CT.widen (Nat.mul (Nat.add len (Nat.succ n')) esz) ct)), Nat.succ nx)
     | _, _ => none
    | _, _ => none
   | _, _, _, _ => none
  | _ => none
theorem appC_ok {P : Program} {elem : TypeId} {H : Heap} {nx : Nat} {s : AVal} {src : Nat → Option (Nat × List AVal)} {z : List AVal} {e : TypeInfo} {n : Nat} {new : List AVal} {v : AVal} {H' : Heap} {nx' : Nat}
  (hz : zeroL P elem = some z) (he : P.info? elem = some e) (hs : src e.size = some (n, new)) (h0 : Nat.beq e.size 0 = false) (h : appC H nx e.size e.bytes s n new = some (v, H', nx')) :
  aAppend P elem H nx s src = some (.val v H' nx') := by
 have hn : Nat.ble (Nat.succ nx) (Nat.succ nx) = true := ble_of (Nat.le_refl _)
 unfold appC at h
 unfold aAppend
 simp only [hz, he, hs, h0, hn]
 cases n with
 | zero =>
  simp only [] at h ⊢
  split at h <;> first | (cases h; done) | (cases h; rfl)
 | succ n' =>
  simp only [] at h ⊢
  split at h <;> try (cases h; done)
  ·split at h <;> try (cases h; done)
   rename_i g1 g2
   cases h
   simp only [g1, g2, forceN_eq]
  ·split at h <;> try (cases h; done)
   rename_i g0 g1 g2 g3
   split at h <;> try (cases h; done)
   ·rename_i g4
    cases h
    simp only [g0, g1, g2, g3, g4, forceN_eq]
   ·rename_i g4
    split at h <;> try (cases h; done)
    cases h
    simp only [g0, g1, g2, g3, g4, forceN_eq]
def zerosC (z : List AVal) (size : Nat) (x : AVal) : Option (Nat × List AVal) :=
 match x with
 | .int .i64 (.ofNat n) => match Nat.ble (Nat.mul n size) 9223372036854775807, Nat.ble n 9223372036854775807 with
  | true, true => some (n, repL z n)
  | _, _ => none
 | _ => none
theorem zerosC_ok {P : Program} {elem : TypeId} {z : List AVal} {size : Nat} {x : AVal} {r : Nat × List AVal} (hz : zeroL P elem = some z) (h : zerosC z size x = some r) : aZeros P elem size x = some r := by
 unfold zerosC at h
 split at h <;> try (cases h; done)
 split at h <;> try (cases h; done)
 rename_i g1 g2
 cases h
 unfold aZeros
 simp only [hz, g1, g2]
def copC (H : Heap) (esz : Nat) (d s : AVal) : Option (Nat × Heap) :=
 match d, s with
 | .slice b off len _ _, .slice b2 off2 len2 _ _ => match get5 b H, get5 b2 H with
  | some (.cells cnt ct olds false), some (.cells cnt2 ct2 _ _) => match Nat.ble (Nat.add off (Nat.mul (minN len2 len) esz)) cnt, Nat.ble (Nat.add off2 (Nat.mul (minN len2 len) esz)) cnt2, allCell (CT.slab ct2 (Nat.mul (minN len2 len) esz) off2) with
   | true, true, true => some (minN len2 len, set5 b (some (.cells cnt (CT.lay (CT.slab ct2 (Nat.mul (minN len2 len) esz) off2) off ct) [] false)) (dels olds H))
   | _, _, _ => none
  | _, _ => none
 | .slice _ _ _ _ _, .nilSlice => some (0, H)
 | .nilSlice, .nilSlice => some (0, H)
 | .nilSlice, .slice _ _ _ _ _ => some (0, H)
 | _, _ => none
theorem copC_ok {P : Program} {types : Array TypeId} {args : Array Operand} {ρ : Operand → AVal} {H : Heap} {nx : Nat} {dT elem : TypeId} {l : List TypeId} {d s : Operand} {e : TypeInfo} {n : Nat} {H' : Heap}
  (ht : types.toList = dT :: l) (ha : args.toList = [d, s]) (hu : P.underlying dT = some (.slice elem)) (he : P.info? elem = some e) (h : copC H e.size (ρ d) (ρ s) = some (n, H')) :
  opCopy P types args ρ H nx = some (.val (.int .i64 (.ofNat n)) H' nx) := by
 unfold opCopy
 simp only [ht, ha, hu, he]
 unfold copC at h
 split at h
 ·rename_i hd hs
  simp only [hd, hs]
  split at h <;> try (cases h; done)
  rename_i g1 g2
  split at h <;> try (cases h; done)
  rename_i g3 g4 g5
  cases h
  simp only [g1, g2, forceN_eq, g3, g4, g5]
 ·rename_i hd hs; cases h; simp only [hd, hs]; rfl
 ·rename_i hd hs; cases h; simp only [hd, hs]; rfl
 ·rename_i hd hs; cases h; simp only [hd, hs]; rfl
 ·cases h
def callV (P : Program) (x : Operand) (a : AVal) (args : List AVal) (K : FuncId → List AVal → Prop) : Prop :=
 match x with
 | .tmp _ => ∃ f as, callTo P a args = some (f, as) ∧ K f as
 | _ => match callTo P a args with
  | some (f, as) => K f as
  | none => False
theorem callV_ok {P : Program} {x : Operand} {a : AVal} {args : List AVal} {K : FuncId → List AVal → Prop} (h : callV P x a args K) : ∃ f as, callTo P a args = some (f, as) ∧ K f as := by
 unfold callV at h
 split at h
 ·exact h
 ·split at h <;> first | exact h.elim | exact ⟨_, _, ‹_›, h⟩
def vCall (P : Program) (c : Call) (ρ : Operand → AVal) (H : Heap) (nx : Nat) (κ : ARes → Prop) : Prop :=
 match c.callee with
 | .value f => callV P f (ρ f) (c.args.toList.map ρ) fun g as => κ (.call g as)
 | .builtin .len => match c.argTypes.toList, c.args.toList with
  | [t], [x] => match P.underlying t with
   | some .string => match ρ x with
    | .str s => κ (.val (.int .i64 (.ofNat s.length)) H nx)
    | _ => False
   | some (.array n _) => κ (.val (.int .i64 (.ofNat n)) H nx)
   | some (.slice _) => ∃ n, lenS (ρ x) = some n ∧ κ (.val (.int .i64 (.ofNat n)) H nx)
   | _ => False
  | _, _ => False
 | .builtin .append => match c.argTypes.toList, c.args.toList with
  | [sT, xT], [s, x] => match P.underlying sT, P.underlying xT with
   | some (.slice elem), some d => match srcD d, P.info? elem, zeroL P elem with
    | true, some e, some _ => match Nat.beq e.size 0 with
     | false => ∃ n l, aSrc e.size H (ρ x) = some (n, l) ∧ allCell l = true ∧ ∃ v H' nx', appC H nx e.size e.bytes (ρ s) n l = some (v, H', nx') ∧ κ (.val v H' nx')
     | true => False
    | false, some e, some z => match isInt d, Nat.beq e.size 0 with
     | true, false => ∃ n l, zerosC z e.size (ρ x) = some (n, l) ∧ allCell l = true ∧ ∃ v H' nx', appC H nx e.size e.bytes (ρ s) n l = some (v, H', nx') ∧ κ (.val v H' nx')
     | _, _ => ∃ r, opCall P c ρ H nx = some r ∧ κ r
    | _, _, _ => ∃ r, opCall P c ρ H nx = some r ∧ κ r
   | _, _ => False
  | _, _ => False
 | .builtin .max => match c.args.toList with
  | x :: l => match ρ x with
   | .int k n => ∃ m, aMost true k n (l.map ρ) = some m ∧ κ (.val (.int k m) H nx)
   | _ => False
  | _ => False
 | .builtin .min => match c.args.toList with
  | x :: l => match ρ x with
   | .int k n => ∃ m, aMost false k n (l.map ρ) = some m ∧ κ (.val (.int k m) H nx)
   | _ => False
  | _ => False
 | .builtin .copy => match c.argTypes.toList, c.args.toList with
  | dT :: _, [d, s] => match P.underlying dT with
   | some (.slice elem) => match P.info? elem with
    | some e => ∃ n H', copC H e.size (ρ d) (ρ s) = some (n, H') ∧ κ (.val (.int .i64 (.ofNat n)) H' nx)
    | none => False
   | _ => False
  | _, _ => False
 | .builtin .recover => match c.args.toList with
  | [] => κ .rcv
  | _ => False
 | .invoke r name => ∃ t v f byPtr u, ρ r = .iface t v ∧ methodA P t name = some (f, byPtr) ∧ hasBody P f = true ∧ recvA P H t v byPtr = some u ∧ κ (.call f (u :: c.args.toList.map ρ))
 | _ => ∃ r, opCall P c ρ H nx = some r ∧ κ r
theorem vCall_ok {P : Program} {c : Call} {ρ : Operand → AVal} {H : Heap} {nx : Nat} {κ : ARes → Prop} (h : vCall P c ρ H nx κ) : ∃ r, opCall P c ρ H nx = some r ∧ κ r := by
 obtain ⟨callee, args, types⟩ := c
 unfold vCall at h
 simp only [] at h
 split at h
 ·obtain ⟨g, as, e, h⟩ := callV_ok h
  refine ⟨_, ?_, h⟩
  simp only [opCall, opCallV, e]
 ·split at h <;> try exact h.elim
  rename_i t x ht hx
  split at h <;> try exact h.elim
  ·rename_i hu
   split at h <;> try exact h.elim
   rename_i s hs
   refine ⟨_, ?_, h⟩
   simp only [opCall, opBuiltin0, ht, hx, lenOfA, hu, hs]
  ·rename_i n e hu
   refine ⟨_, ?_, h⟩
   simp only [opCall, opBuiltin0, ht, hx, lenOfA, hu]
  ·rename_i el hu
   obtain ⟨n, e, h⟩ := h
   refine ⟨_, ?_, h⟩
   unfold lenS at e
   split at e <;> try (cases e; done)
   ·rename_i hs; cases e; simp only [opCall, opBuiltin0, ht, hx, lenOfA, hu, hs]
   ·rename_i hs; cases e; simp only [opCall, opBuiltin0, ht, hx, lenOfA, hu, hs]
   ·rename_i hs; cases e; simp only [opCall, opBuiltin0, ht, hx, lenOfA, hu, hs]
 ·split at h <;> try exact h.elim
  rename_i sT xT s x ht hx
  split at h <;> try exact h.elim
  rename_i elem d hs hd
  split at h <;> first | exact h | skip
  ·rename_i e z hsrc he hz
   split at h <;> try exact h.elim
   rename_i h0
   obtain ⟨n, l, e1, e2, v, H', nx', e3, h⟩ := h
   refine ⟨_, ?_, h⟩
   simp only [opCall, ht, hx, hs, hd, hsrc, he, e1, e2]
   exact appC_ok hz he e1 h0 e3
  ·rename_i e z hsrc he hz
   split at h <;> first | exact h | skip
   rename_i hi h0
   obtain ⟨n, l, e1, e2, v, H', nx', e3, h⟩ := h
   refine ⟨_, ?_, h⟩
   have e1' := zerosC_ok (P := P) (elem := elem) hz e1
   simp only [opCall, ht, hx, hs, hd, hsrc, he, hi, e1', e2]
   exact appC_ok (src := fun size => aZeros P elem size (ρ x)) hz he e1' h0 e3
 ·split at h <;> try exact h.elim
  rename_i x l hx
  split at h <;> try exact h.elim
  rename_i k n hn
  obtain ⟨m, e, h⟩ := h
  refine ⟨_, ?_, h⟩
  simp only [opCall, opBuiltin0, hx, hn, e, forceI_eq]
 ·split at h <;> try exact h.elim
  rename_i x l hx
  split at h <;> try exact h.elim
  rename_i k n hn
  obtain ⟨m, e, h⟩ := h
  refine ⟨_, ?_, h⟩
  simp only [opCall, opBuiltin0, hx, hn, e, forceI_eq]
 ·split at h <;> try exact h.elim
  rename_i dT l d s ht ha
  split at h <;> try exact h.elim
  rename_i elem hu
  split at h <;> try exact h.elim
  rename_i e he
  obtain ⟨n, H', e1, h⟩ := h
  refine ⟨_, ?_, h⟩
  simp only [opCall]
  exact copC_ok ht ha hu he e1
 ·split at h <;> try exact h.elim
  rename_i ha
  refine ⟨_, ?_, h⟩
  simp only [opCall, opBuiltin0, ha]
 ·obtain ⟨t, v, f, byPtr, u, e1, e2, e3, e4, h⟩ := h
  refine ⟨_, ?_, h⟩
  simp only [opCall, opInvoke, e1, e2, e3, e4]
 ·exact h
def notNil : AVal → Bool
 | .ptr _ _ => true
 | .gptr _ _ => true
 | .iface _ _ => true
 | .func (.func _) _ _ => true
 | _ => false
def vres (P : Program) (o : Oper) (ρ : Operand → AVal) (H : Heap) (nx : Nat) (κ : ARes → Prop) : Prop :=
 match o.op with
 | .move x => κ (.val (ρ x) H nx)
 | .assign x => κ (.val (ρ x) H nx)
 | .pick c a b => match ρ c with
  | .bool p => Bool.rec (κ (.val (ρ b) H nx)) (κ (.val (ρ a) H nx)) p
  | _ => False
 | .load t a => vLoad P t H (ρ a) fun v => κ (.val v H nx)
 | .store t a x => vStore P t H (ρ a) (ρ x) fun H' => κ (.val .und H' nx)
 | .nilCheck x => notNil (ρ x) = true ∧ κ (.val (ρ x) H nx)
 | .binOp op t x y _ => vBin P op t x y (ρ x) (ρ y) fun v => κ (.val v H nx)
 | .unOp .neg _ x => match ρ x with
  | .int k n => κ (.val (.int k (k.wrap (0 - n))) H nx)
  | _ => False
 | .unOp .not _ x => match ρ x with
  | .bool b => κ (.val (.bool (!b)) H nx)
  | _ => False
 | .convert s d x => vConv P s d (ρ x) H fun v => κ (.val v H nx)
 | .makeInterface t x => match P.underlying t with
  | some d => match ifaceD d with
   | false => κ (.val (.iface t (ρ x)) H nx)
   | true => False
  | none => False
 | .makeFunc fn a b => κ (.val (.func fn (a.toList.map ρ) (b.toList.map ρ)) H nx)
 | .slice t x lo hi mx => vSlice P t (ρ x) (lo.map ρ) (hi.map ρ) (mx.map ρ) H fun v => κ (.val v H nx)
 | .fieldAddr s x f => vFieldAddr P s f (ρ x) fun v => κ (.val v H nx)
 | .field t x f => match opField P t x f ρ H nx with
  | some r => κ r
  | none => False
 | .indexAddr t x i => vIndexAddr P t (ρ x) (ρ i) fun v => κ (.val v H nx)
 | .index t x i => vIndex P t (ρ x) (ρ i) fun v => κ (.val v H nx)
 | .extract t i => match opExtract t i ρ H nx with
  | some r => κ r
  | none => False
 | .build t ps => vBuild P t ps.toList ρ fun cs => κ (.val (.agg cs) H nx)
 | .alloc t => vMade P (.alloc t) ρ fun m => ∃ H', H' = blkN m nx H ∧ κ (.val (m.v nx) H' (Nat.succ nx))
 | .box t x => vMade P (.box t x) ρ fun m => ∃ H', H' = blkN m nx H ∧ κ (.val (m.v nx) H' (Nat.succ nx))
 | .buildSlice t n ps => vMade P (.buildSlice t n ps) ρ fun m => ∃ H', H' = blkN m nx H ∧ κ (.val (m.v nx) H' (Nat.succ nx))
 | .makeSlice t l c => vMade P (.makeSlice t l c) ρ fun m => ∃ H', H' = blkN m nx H ∧ κ (.val (m.v nx) H' (Nat.succ nx))
 | .call c => vCall P c ρ H nx κ
 | .defer c => match c.callee with
  | .value f => callV P f (ρ f) (c.args.toList.map ρ) fun g as => κ (.dfr g as)
  | _ => False
 | .panic x => ∃ t v, ρ x = .iface t v ∧ κ (.pan (.iface t v))
 | .typeAssert x _ a ok => match ok with
  | true => match aAssert P (ρ x) a true with
   | some v => typedV P o.type v fun v => κ (.val v H nx)
   | none => False
  | false => ∃ v, aAssert P (ρ x) a false = some v ∧ typedV P o.type v fun v => κ (.val v H nx)
 | _ => ∃ r, aop P o ρ H nx = some r ∧ κ r
theorem made_op {P : Program} {op : Op} {ρ : Operand → AVal} {H : Heap} {nx : Nat} {κ : ARes → Prop} (h : vMade P op ρ fun m => ∃ H', H' = blkN m nx H ∧ κ (.val (m.v nx) H' (Nat.succ nx))) : ∃ r, opMadeOf P op ρ H nx = some r ∧ κ r := by
 obtain ⟨m, e, hb, _, rfl, h⟩ := vMade_ok h
 refine ⟨_, ?_, h⟩
 have hn : Nat.ble (Nat.succ nx) (Nat.succ nx) = true := ble_of (Nat.le_refl _)
 simp only [opMadeOf, e, opMade, hb, hn, forceN_eq]
 rfl
theorem vres_ok {P : Program} {o : Oper} {ρ : Operand → AVal} {H : Heap} {nx : Nat} {κ : ARes → Prop} (h : vres P o ρ H nx κ) : ∃ r, aop P o ρ H nx = some r ∧ κ r := by
 unfold vres at h
 unfold aop
 split at h
 ·rename_i e; rw [e]; exact ⟨_, rfl, h⟩
 ·rename_i e; rw [e]; exact ⟨_, rfl, h⟩
 ·rename_i e
  rw [e]
  split at h <;> try exact h.elim
  rename_i p hp
  cases p with
  | true => exact ⟨_, by simp only [opPick, hp], h⟩
  | false => exact ⟨_, by simp only [opPick, hp], h⟩
 ·rename_i e; rw [e]; obtain ⟨v, e1, h⟩ := vLoad_ok h; exact ⟨_, by simp only [opLoad, e1], h⟩
 ·rename_i e; rw [e]; obtain ⟨v, e1, h⟩ := vStore_ok h; exact ⟨_, by simp only [opStore, e1], h⟩
 ·rename_i x e
  rw [e]
  obtain ⟨h1, h⟩ := h
  refine ⟨_, ?_, h⟩
  show opNilCheck x ρ H nx = _
  unfold opNilCheck
  unfold notNil at h1
  split at h1 <;> first | (cases h1; done) | (rename_i q; simp only [q])
 ·rename_i e; rw [e]; obtain ⟨v, e1, h⟩ := vBin_ok h; exact ⟨_, e1, h⟩
 ·rename_i e
  rw [e]
  split at h <;> try exact h.elim
  rename_i k n hx
  exact ⟨_, by simp only [opUn, hx, forceI_eq, awrap_eq]; rfl, h⟩
 ·rename_i e
  rw [e]
  split at h <;> try exact h.elim
  rename_i b hx
  exact ⟨_, by simp only [opUn, hx, bnot_eq], h⟩
 ·rename_i e; rw [e]; obtain ⟨v, e1, h⟩ := vConv_ok h; exact ⟨_, e1, h⟩
 ·rename_i t x e
  rw [e]
  split at h <;> try exact h.elim
  rename_i d hu
  split at h <;> try exact h.elim
  rename_i hi
  exact ⟨_, by simp only [opMakeInterface, hu, hi], h⟩
 ·rename_i e; rw [e]; exact ⟨_, rfl, h⟩
 ·rename_i e; rw [e]; obtain ⟨v, e1, h⟩ := vSlice_ok h; exact ⟨_, e1, h⟩
 ·rename_i e; rw [e]; obtain ⟨v, e1, h⟩ := vFieldAddr_ok h; exact ⟨_, e1, h⟩
 ·rename_i e; rw [e]; split at h <;> first | exact h.elim | exact ⟨_, ‹_›, h⟩
 ·rename_i e; rw [e]; obtain ⟨v, e1, h⟩ := vIndexAddr_ok h; exact ⟨_, e1, h⟩
 ·rename_i e; rw [e]; obtain ⟨v, e1, h⟩ := vIndex_ok h; exact ⟨_, e1, h⟩
 ·rename_i e; rw [e]; split at h <;> first | exact h.elim | exact ⟨_, ‹_›, h⟩
 ·rename_i e; rw [e]; obtain ⟨v, e1, h⟩ := vBuild_ok h; exact ⟨_, by simp only [opBuild, e1], h⟩
 ·rename_i e; rw [e]; exact made_op h
 ·rename_i e; rw [e]; exact made_op h
 ·rename_i e; rw [e]; exact made_op h
 ·rename_i e; rw [e]; exact made_op h
 ·rename_i e; rw [e]; exact vCall_ok h
 ·rename_i c e
  rw [e]
  split at h <;> try exact h.elim
  rename_i f hf
  obtain ⟨g, as, e1, h⟩ := callV_ok h
  refine ⟨_, ?_, h⟩
  simp only [opDeferC, hf, opDefer, e1]
 ·rename_i e
  rw [e]
  obtain ⟨t, v, e1, h⟩ := h
  exact ⟨_, by simp only [opPanic, e1], h⟩
 ·rename_i x xt a ok e
  rw [e]
  split at h
  ·split at h <;> try exact h.elim
   rename_i v e1
   exact ⟨_, by simp only [opAssert, e1], typedV_ok h⟩
  ·obtain ⟨v, e1, h⟩ := h
   exact ⟨_, by simp only [opAssert, e1], typedV_ok h⟩
 ·exact h
end
end Go.Vs
end
section
namespace Go.Vs
variable [GTab]
noncomputable section
abbrev KC := Env → Heap → Nat → Dfs → Option AMode → Prop
abbrev KP := AExit → KC
abbrev EndP := AEnd → Heap → Nat → Prop
abbrev CallP := FuncId → List AVal → Heap → Nat → EndP → Prop
abbrev CallDP := FuncId → List AVal → AMode → Heap → Nat → (AEnd → AMode → Heap → Nat → Prop) → Prop
abbrev LoopP := Code → Env → Heap → Nat → Dfs → Option AMode → KP → Prop
def TriP (P : Program) : CallP := fun f args H nx K =>
 ∀ (σ : Sg) (w : World) (args' : List Value) (R : Ending → World → Prop), Rel σ H nx w → DenL σ args args' →
  (∀ e H' nx' σ' w' en, K e H' nx' → Rel σ' H' nx' w' → Ext σ σ' H H' nx nx' w w' → EndRel σ' e en → R en w') → Calls P f ⟨args'⟩ w R
def TriDP (P : Program) : CallDP := fun f args m H nx K => hasBody P f = true ∧
 ∀ (σ : Sg) (w : World) (args' : List Value) (u : FrameMode) (R : Ending → FrameMode → World → Prop), Rel σ H nx w → DenL σ args args' → MRel σ m u →
  (∀ e m' H' nx' σ' w' en u', K e m' H' nx' → Rel σ' H' nx' w' → Ext σ σ' H H' nx nx' w w' → EndRel σ' e en → MRel σ' m' u' → R en u' w') → CallsD P f ⟨args'⟩ u w R
def CallSP (P : Program) (call : CallP) : Prop := ∀ f args H nx K, call f args H nx K → TriP P f args H nx K
def CallDSP (P : Program) (calld : CallDP) : Prop := ∀ f args m H nx K, calld f args m H nx K → TriDP P f args m H nx K
theorem TriP.mono {P : Program} {f : FuncId} {args : List AVal} {H : Heap} {nx : Nat} {K K' : EndP} (h : TriP P f args H nx K) (hk : ∀ e H' nx', K e H' nx' → K' e H' nx') : TriP P f args H nx K' :=
 fun σ w args' R hr hd hR => h σ w args' R hr hd fun e H' nx' σ' w' en k => hR e H' nx' σ' w' en (hk _ _ _ k)
def onEnd (e : AEnd) (r : AVal → Prop) (p : List (AVal × Bool) → Prop) : Prop := (∀ v, e = .ret v → r v) ∧ (∀ l, e = .pan l → p l)
def takeV (P : Program) (call : CallP) (ty : TypeId) (d : Option Nat) (r : ARes) (env : Env) (H : Heap) (nx : Nat) (dfs : Dfs) (rc : Option AMode) (k : KC) (K : KP) : Prop :=
 match r with
 | .val v H' nx' => k (put d v env) H' nx' dfs rc
 | .call f args => call f args H nx fun e H' nx' => onEnd e (fun v => typedV P ty v fun v => k (put d v env) H' nx' dfs rc) (fun l => K (.pan l) env H' nx' dfs rc)
 | .dfr f args => k (put d (.tuple []) env) H nx ((f, args) :: dfs) rc
 | .pan v => K (.pan [(v, false)]) env H nx dfs rc
 | .rcv => match rc with
  | some (.panicking ((v, false) :: older)) => k (put d v env) H nx dfs (some (.panicking ((v, true) :: older)))
  | some .returning => k (put d .nilIface env) H nx dfs rc
  | _ => False
theorem set2_self {t : Nat} {env : Env} {v : AVal} (h : get2 t env = v) : set2 t v env = env := by
 funext s
 show (Bool.rec (env s) v (Nat.beq s t) : AVal) = env s
 cases e : Nat.beq s t with
 | false => rfl
 | true => have := Nat.eq_of_beq_eq_true e; subst this; exact h.symm
def ifB (b : Bool) (p q : Prop) : Prop := Bool.rec q p b
theorem ifB_iff {b : Bool} {p q : Prop} : ifB b p q ↔ (b = true → p) ∧ (b = false → q) := by cases b <;> simp [ifB]
def guardV (ops : Array Oper) (g : Option (Nat × Bool)) (env : Env) (run skip : Env → Prop) : Prop :=
 match g with
 | none => run env
 | some (j, want) => match (ops[j]?).bind (·.dst) with
  | some t => match Nat.ble t 4095 with
   | true => match get2 t env with
    | .bool b => Bool.rec (Bool.rec (run (set2 t (.bool false) env)) (skip (set2 t (.bool false) env)) want) (Bool.rec (skip (set2 t (.bool true) env)) (run (set2 t (.bool true) env)) want) b
    | .tuple [] => skip env
    | _ => False
   | false => False
  | none => skip env
theorem guardV_ok {ops : Array Oper} {g : Option (Nat × Bool)} {env : Env} {run skip : Env → Prop} (h : guardV ops g env run skip) :
  (wantedA ops g env = some true ∧ run env) ∨ (wantedA ops g env = some false ∧ skip env) := by
 unfold guardV at h
 unfold wantedA
 split at h
 ·exact .inl ⟨rfl, h⟩
 ·rename_i j want
  simp only []
  split at h
  ·rename_i t ht
   split at h <;> try exact h.elim
   rename_i hb
   split at h <;> try exact h.elim
   ·rename_i b hv
    simp only [ht, hb, hv]
    cases b <;> cases want
    all_goals
     simp only [set2_self hv] at h
     first
     | exact .inl ⟨by first | rfl | trivial, h⟩
     | exact .inr ⟨by first | rfl | trivial, h⟩
   ·rename_i hv
    simp only [ht, hb, hv]
    exact .inr ⟨by first | rfl | trivial, h⟩
  ·rename_i ht
   simp only [ht]
   exact .inr ⟨by first | rfl | trivial, h⟩
def vOp (P : Program) (call : CallP) (nt : Nat) (ops : Array Oper) (o : Oper) (env : Env) (H : Heap) (nx : Nat) (dfs : Dfs) (rc : Option AMode) (k : KC) (K : KP) : Prop :=
 match dstOK nt o.dst with
 | true => guardV ops o.guard env (fun env => vres P o (aev env) H nx fun r => takeV P call o.type o.dst r env H nx dfs rc k K) (fun env => k (put o.dst (.tuple []) env) H nx dfs rc)
 | false => False
def vOps (P : Program) (call : CallP) (nt : Nat) (ops : Array Oper) (K : KP) : List Oper → KC
 | [] => fun env H nx dfs rc => K .normal env H nx dfs rc
 | o :: l => fun env H nx dfs rc => vOp P call nt ops o env H nx dfs rc (vOps P call nt ops K l) K
def PostP (nt : Nat) (K : KP) (σ : Sg) (H : Heap) (nx : Nat) (w : World) (Q : Exit → Act → World → Prop) : Prop :=
 ∀ ex env' H' nx' dfs' σ' w' a' e, K ex env' H' nx' dfs' none → Rel σ' H' nx' w' → Ext σ σ' H H' nx nx' w w' → ARel σ' nt env' dfs' a' → ExRel σ' ex e → Q e a' w'
def PostSP (nt : Nat) (K : KP) (σ : Sg) (H : Heap) (nx : Nat) (w : World) (c₀ : Frame) (cs : List Frame) (Q : Exit → Act → List Frame → World → Prop) : Prop :=
 ∀ ex env' H' nx' dfs' m' σ' w' a' e u', K ex env' H' nx' dfs' (some m') → Rel σ' H' nx' w' → Ext σ σ' H H' nx nx' w w' → ARel σ' nt env' dfs' a' → ExRel σ' ex e → MRel σ' m' u' →
  Q e a' ({ c₀ with mode := u' } :: cs) w'
theorem PostP.from {nt : Nat} {K : KP} {σ σ1 : Sg} {H H1 : Heap} {nx nx1 : Nat} {w w1 : World} {Q : Exit → Act → World → Prop} (h : PostP nt K σ H nx w Q) (E : Ext σ σ1 H H1 nx nx1 w w1) :
  PostP nt K σ1 H1 nx1 w1 Q := fun ex env' H' nx' dfs' σ' w' a' e hk R E2 A X => h ex env' H' nx' dfs' σ' w' a' e hk R (E.trans E2) A X
theorem PostSP.from {nt : Nat} {K : KP} {σ σ1 : Sg} {H H1 : Heap} {nx nx1 : Nat} {w w1 : World} {c₀ : Frame} {cs : List Frame} {Q : Exit → Act → List Frame → World → Prop} (h : PostSP nt K σ H nx w c₀ cs Q) (E : Ext σ σ1 H H1 nx nx1 w w1) :
  PostSP nt K σ1 H1 nx1 w1 c₀ cs Q := fun ex env' H' nx' dfs' m' σ' w' a' e u' hk R E2 A X M => h ex env' H' nx' dfs' m' σ' w' a' e u' hk R (E.trans E2) A X M
theorem upon_stepP {P : Program} {call : CallP} {nt : Nat} {o : Oper} {env : Env} {H : Heap} {nx : Nat} {dfs : Dfs} {rc : Option AMode} {r : ARes} {k : KC} {K : KP} {ty : TypeId}
  (hc : CallSP P call) (hok : OpOK P o (aev env) H nx r) (hdst : dstOK nt o.dst = true) (hnr : r ≠ .rcv) (ht : takeV P call ty o.dst r env H nx dfs rc k K)
  {σ : Sg} {w : World} {a : Act} {next : Act → World → Prop} {Q : Exit → Act → World → Prop} (hr : Rel σ H nx w) (ha : ARel σ nt env dfs a)
  (hn : ∀ env1 H1 nx1 dfs1 σ1 w1 a1, k env1 H1 nx1 dfs1 rc → Rel σ1 H1 nx1 w1 → Ext σ σ1 H H1 nx nx1 w w1 → ARel σ1 nt env1 dfs1 a1 → next a1 w1)
  (hp : ∀ l H1 nx1 σ1 w1 c, K (.pan l) env H1 nx1 dfs rc → Rel σ1 H1 nx1 w1 → Ext σ σ1 H H1 nx nx1 w w1 → Chain σ1 l c → Q (.panic c) a w1) :
  NotRec P o a w ∧ o.wp P a w next Q := by
 cases r with
 | val v H' nx' =>
  obtain ⟨σ', w', v', R, E, D, hrun⟩ := hok σ w a.eval hr ha.env.aev
  rcases hrun with hrun | ⟨hrun, rfl⟩
  ·exact ⟨(fun w2 e => by rw [hrun] at e; cases e), by unfold Oper.wp; rw [hrun]; exact hn _ _ _ _ σ' w' _ ht R E ((ha.mono E.sub).put hdst D)⟩
  ·exact ⟨(fun w2 e => by rw [hrun] at e; cases e), by unfold Oper.wp; rw [hrun]; exact hn _ _ _ _ σ' w' _ ht R E ((ha.mono E.sub).put hdst D)⟩
 | call f args =>
  have tri := hc f args H nx _ ht
  obtain ⟨args', hl, hrun⟩ := hok σ w a.eval hr ha.env.aev
  refine ⟨(fun w2 e => by rw [hrun] at e; cases e), ?_⟩
  unfold Oper.wp
  rw [hrun]
  show Calls P f ⟨args'⟩ w _
  refine tri σ w args' _ hr hl fun e H' nx' σ' w' en hk R E he => ?_
  cases e with
  | ret v =>
   cases en with
   | returned v' => exact hn _ _ _ _ σ' w' _ (typedV_ok (hk.1 v rfl)) R E ((ha.mono E.sub).put hdst he)
   | panicked c => exact he.elim
   | outgrown => exact he.elim
  | pan l =>
   cases en with
   | returned v' => exact he.elim
   | panicked c => exact hp l H' nx' σ' w' c (hk.2 l rfl) R E he
   | outgrown => exact he.elim
 | dfr f args =>
  obtain ⟨d, hd, hrun⟩ := hok σ w a.eval hr ha.env.aev
  refine ⟨(fun w2 e => by rw [hrun] at e; cases e), ?_⟩
  unfold Oper.wp
  rw [hrun]
  refine hn _ _ _ _ σ w _ ht hr (Ext.refl _ _ _ _) ⟨?_, ?_⟩
  ·have h1 : EnvRel σ nt (put o.dst (.tuple []) env) (a.put o.dst undef).tmps := ha.env.put hdst (.tuple .nil)
   have e : (({ a with defers := d :: a.defers } : Act).put o.dst undef).tmps = (a.put o.dst undef).tmps := by cases o.dst <;> rfl
   rw [e]; exact h1
  ·have e : (({ a with defers := d :: a.defers } : Act).put o.dst undef).defers = d :: a.defers := by cases o.dst <;> rfl
   rw [e]; exact .cons hd ha.dfs
 | pan v =>
  obtain ⟨v', dv, hrun⟩ := hok σ w a.eval hr ha.env.aev
  refine ⟨(fun w2 e => by rw [hrun] at e; cases e), ?_⟩
  unfold Oper.wp
  rw [hrun]
  exact hp [(v, false)] H nx σ w [{ v := v', recovered := false }] ht hr (Ext.refl _ _ _ _) (.cons dv rfl rfl .nil)
 | rcv => exact (hnr rfl).elim
theorem vOps_none {P : Program} {call : CallP} {nt : Nat} {ops : Array Oper} {K : KP} (hc : CallSP P call) : ∀ (l : List Oper) (env : Env) (H : Heap) (nx : Nat) (dfs : Dfs), vOps P call nt ops K l env H nx dfs none →
  ∀ σ w a Q, Rel σ H nx w → ARel σ nt env dfs a → PostP nt K σ H nx w Q → wpList P ops Q l a w
 | [], env, H, nx, dfs, h, σ, w, a, Q, hr, ha, hQ => hQ .normal env H nx dfs σ w a .normal h hr (Ext.refl _ _ _ _) ha trivial
 | o :: l, env, H, nx, dfs, h, σ, w, a, Q, hr, ha, hQ => by
  have h' : vOp P call nt ops o env H nx dfs none (vOps P call nt ops K l) K := h
  unfold vOp at h'
  split at h' <;> first | exact h'.elim | skip
  rename_i hdst
  rcases guardV_ok h' with ⟨hw, h'⟩ | ⟨hw, h'⟩
  ·obtain ⟨r, hop, h'⟩ := vres_ok h'
   have hnr : r ≠ .rcv := by
    rintro rfl
    exact h'.elim
   unfold wpList
   rw [if_pos (wanted_ok hw ha.env)]
   refine .inl (upon_stepP hc (aop_ok hop) hdst hnr h' hr ha (fun env1 H1 nx1 dfs1 σ1 w1 a1 hk R1 E1 A1 => vOps_none hc l env1 H1 nx1 dfs1 hk σ1 w1 a1 Q R1 A1 (hQ.from E1)) fun lp H1 nx1 σ1 w1 c hk R1 E1 C1 => ?_).2
   exact hQ (.pan lp) env H1 nx1 dfs σ1 w1 a (.panic c) hk R1 E1 (ha.mono E1.sub) C1
  ·exact opK_skip (wanted_ok hw ha.env) (vOps_none hc l _ H nx dfs h' σ w _ Q hr (ha.put hdst (.tuple .nil)) hQ)
theorem vOps_some {P : Program} {call : CallP} {nt : Nat} {ops : Array Oper} {K : KP} (hc : CallSP P call) : ∀ (l : List Oper) (n : Nat) (env : Env) (H : Heap) (nx : Nat) (dfs : Dfs) (m : AMode), (∀ j, l[j]? = ops[n + j]?) → vOps P call nt ops K l env H nx dfs (some m) →
  ∀ σ w a u (c₀ : Frame) cs Q, Rel σ H nx w → ARel σ nt env dfs a → MRel σ m u → PostSP nt K σ H nx w c₀ cs Q → wpOpsS P ops Q (List.range' n l.length) a ({ c₀ with mode := u } :: cs) w
 | [], n, env, H, nx, dfs, m, _, h, σ, w, a, u, c₀, cs, Q, hr, ha, hm, hQ => hQ .normal env H nx dfs m σ w a .normal u h hr (Ext.refl _ _ _ _) ha trivial hm
 | o :: l, n, env, H, nx, dfs, m, hl, h, σ, w, a, u, c₀, cs, Q, hr, ha, hm, hQ => by
  have ho : ops[n]? = some o := by simpa using (hl 0).symm
  have hl' : ∀ j, l[j]? = ops[n + 1 + j]? := fun j => by have := hl (j + 1); simpa [Nat.add_assoc, Nat.add_comm 1 j] using this
  have h' : vOp P call nt ops o env H nx dfs (some m) (vOps P call nt ops K l) K := h
  unfold vOp at h'
  split at h' <;> first | exact h'.elim | skip
  rename_i hdst
  have next : ∀ env1 H1 nx1 dfs1 m1 σ1 w1 a1 u1, vOps P call nt ops K l env1 H1 nx1 dfs1 (some m1) → Rel σ1 H1 nx1 w1 → Ext σ σ1 H H1 nx nx1 w w1 → ARel σ1 nt env1 dfs1 a1 → MRel σ1 m1 u1 →
    wpOpsS P ops Q (List.range' (n + 1) l.length) a1 ({ c₀ with mode := u1 } :: cs) w1 :=
   fun env1 H1 nx1 dfs1 m1 σ1 w1 a1 u1 hk R1 E1 A1 M1 => vOps_some hc l (n + 1) env1 H1 nx1 dfs1 m1 hl' hk σ1 w1 a1 u1 c₀ cs Q R1 A1 M1 (hQ.from E1)
  rw [List.length_cons, List.range'_succ]
  simp only [wpOpsS, ho]
  rcases guardV_ok h' with ⟨hw, h1⟩ | ⟨hw, h1⟩
  ·obtain ⟨r, hop, h2⟩ := vres_ok h1
   rw [if_pos (wanted_ok hw ha.env)]
   by_cases hrcv : r = .rcv
   ·subst hrcv
    have hok := aop_ok hop
    have hrun := hok σ w a.eval hr ha.env.aev
    simp only [hrun]
    have h3 : (match some m with
     | some (.panicking ((v, false) :: older)) => vOps P call nt ops K l (put o.dst v env) H nx dfs (some (.panicking ((v, true) :: older)))
     | some .returning => vOps P call nt ops K l (put o.dst .nilIface env) H nx dfs (some m)
     | _ => False) := h2
    split at h3 <;> try exact h3.elim
    ·rename_i v older hm0
     cases hm0
     cases u with
     | run => exact hm.elim
     | returning => exact hm.elim
     | panicking ch =>
      cases hm with
      | @cons _ _ p _ l' hv hrr hg t =>
       obtain ⟨pv, pr, pg⟩ := p
       simp only at hv hrr hg
       subst hrr
       subst hg
       simp only [recoverD]
       exact next _ _ _ _ _ σ w _ (.panicking ({ v := pv, recovered := true } :: l')) h3 hr (Ext.refl _ _ _ _) (ha.put hdst hv) (.cons hv rfl rfl t)
    ·rename_i hm0
     cases hm0
     cases u with
     | run => exact hm.elim
     | panicking ch => exact hm.elim
     | returning =>
      simp only [recoverD]
      exact next _ _ _ _ _ σ w _ .returning h3 hr (Ext.refl _ _ _ _) (ha.put hdst .nilIface) trivial
   ·obtain ⟨hnr, hwp⟩ := upon_stepP (next := fun a' w' => wpOpsS P ops Q (List.range' (n + 1) l.length) a' ({ c₀ with mode := u } :: cs) w') (Q := fun e a' w' => Q e a' ({ c₀ with mode := u } :: cs) w')
     hc (aop_ok hop) hdst hrcv h2 hr ha
     (fun env1 H1 nx1 dfs1 σ1 w1 a1 hk R1 E1 A1 => next env1 H1 nx1 dfs1 m σ1 w1 a1 u hk R1 E1 A1 (hm.mono E1.sub))
     (fun lp H1 nx1 σ1 w1 c hk R1 E1 C1 => hQ (.pan lp) env H1 nx1 dfs m σ1 w1 a (.panic c) u hk R1 E1 (ha.mono E1.sub) C1 (hm.mono E1.sub))
    unfold Oper.wp at hwp
    split
    ·rename_i w2 e2; exact (hnr w2 e2).elim
    ·exact hwp
  ·rw [if_neg (by rw [wanted_ok hw ha.env]; simp)]
   exact next _ _ _ _ m σ w _ u h1 hr (Ext.refl _ _ _ _) (ha.put hdst (.tuple .nil)) hm
def dec2 (k : Env → Heap → Prop) : Env → Heap → Bool := fun env H => @decide (k env H) (Classical.propDecidable _)
def dec3 (k : Env → Heap → Nat → Prop) : Env → Heap → Nat → Bool := fun env H nx => @decide (k env H nx) (Classical.propDecidable _)
def decC (call : CallP) : CallK := fun f args H nx K => @decide (call f args H nx fun e H nx => K e H nx = true) (Classical.propDecidable _)
def decK (K : KP) (env0 : Env) : Kont := fun e _ H nx dfs rc => @decide (K e env0 H nx dfs rc) (Classical.propDecidable _)
theorem dec_iff {p : Prop} : @decide p (Classical.propDecidable _) = true ↔ p := @decide_eq_true_iff p (Classical.propDecidable _)
theorem decC_ok {P : Program} {call : CallP} (hc : CallSP P call) : CallS P (decC call) := by
 intro f args H nx K h
 exact hc f args H nx _ (dec_iff.1 h)
def vFloat (P : Program) (ops : Array Oper) (res : Nat) (o : Oper) (i : Nat) (env : Env) (H : Heap) (nx : Nat) (k : Env → Heap → Prop) : Prop :=
 guardV ops o.guard env
  (fun env => match Nat.beq (cls o.op) 1 with
   | true => vMade P o.op (aev env) fun m => ∃ H', H' = blkN m (Nat.add res i) H ∧ k (put o.dst (m.v (Nat.add res i)) env) H'
   | false => vres P o (aev env) H nx fun r => match r with
    | .val v _ _ => k (put o.dst v env) H
    | _ => False)
  (fun env => k (put o.dst (.tuple []) env) H)
theorem vFloat_ok {P : Program} {ops : Array Oper} {res : Nat} {o : Oper} {i : Nat} {env : Env} {H : Heap} {nx : Nat} {k : Env → Heap → Prop} (h : vFloat P ops res o i env H nx k) : floatK P ops res o i env H nx (dec2 k) = true := by
 unfold vFloat at h
 unfold floatK
 rcases guardV_ok h with ⟨hw, h⟩ | ⟨hw, h⟩
 ·simp only [hw]
  split at h
  ·rename_i hc
   obtain ⟨m, e, hb, _, rfl, h⟩ := vMade_ok h
   simp only [hc, e, hb, forceN_eq]
   exact dec_iff.2 h
  ·rename_i hc
   obtain ⟨r, e, h⟩ := vres_ok h
   simp only [hc, e]
   split at h <;> first | exact h.elim | exact dec_iff.2 h
 ·simp only [hw]
  exact dec_iff.2 h
def vFloats (P : Program) (ops : Array Oper) (res : Nat) (nx : Nat) (k : Env → Heap → Prop) : List Nat → Env → Heap → Prop
 | [] => k
 | i :: l => fun env H => match ops[i]? with
  | some o => vFloat P ops res o i env H nx (vFloats P ops res nx k l)
  | none => False
theorem floatK_mono {P : Program} {ops : Array Oper} {res : Nat} {o : Oper} {i : Nat} {env : Env} {H : Heap} {nx : Nat} {k k' : Env → Heap → Bool} (h : floatK P ops res o i env H nx k = true) (hk : ∀ env H, k env H = true → k' env H = true) :
  floatK P ops res o i env H nx k' = true := by
 unfold floatK at h ⊢
 split at h <;> try (cases h; done)
 ·split at h
  ·split at h <;> try (cases h; done)
   split at h <;> try (cases h; done)
   rw [forceN_eq] at h ⊢
   exact hk _ _ h
  ·split at h <;> first | (cases h; done) | exact hk _ _ h
 ·exact hk _ _ h
theorem vFloats_ok {P : Program} {ops : Array Oper} {res nx : Nat} {k : Env → Heap → Prop} : ∀ {l : List Nat} {env : Env} {H : Heap}, vFloats P ops res nx k l env H → floatsK P ops res nx (dec2 k) l env H = true
 | [], _, _, h => dec_iff.2 h
 | i :: l, env, H, h => by
  have h' : (match ops[i]? with | some o => vFloat P ops res o i env H nx (vFloats P ops res nx k l) | none => False) := h
  show (match ops[i]? with | some o => floatK P ops res o i env H nx (floatsK P ops res nx (dec2 k) l) | none => false) = true
  split at h' <;> first | exact h'.elim | skip
  rename_i o ho
  try simp only [ho]
  exact floatK_mono (vFloat_ok h') fun env H hk => vFloats_ok (dec_iff.1 hk)
def vAgain (P : Program) (ops : Array Oper) (env : Env) (H : Heap) (nx : Nat) : List Nat → Prop
 | [] => True
 | i :: l => (match ops[i]? with
  | some o => guardV ops o.guard env (fun env => vres P o (aev env) H nx fun r => match r with
    | .val v _ _ => (match o.dst with
     | some d => v = get2 d env
     | none => True)
    | _ => False) (fun env => match o.dst with
     | some d => get2 d env = .tuple []
     | none => True)
  | none => False) ∧ vAgain P ops env H nx l
theorem vAgain_ok {P : Program} {ops : Array Oper} {env : Env} {H : Heap} {nx : Nat} : ∀ {l : List Nat}, vAgain P ops env H nx l → againK P ops env H nx l = true
 | [], _ => rfl
 | i :: l, h => by
  obtain ⟨h1, h2⟩ := h
  show (Bool.rec false (againK P ops env H nx l) (match ops[i]? with | some o => again1 P ops env H nx o | none => false) : Bool) = true
  have : (match ops[i]? with | some o => again1 P ops env H nx o | none => false) = true := by
   split at h1 <;> try exact h1.elim
   rename_i o ho
   try simp only [ho]
   unfold again1
   rcases guardV_ok h1 with ⟨hw, h1⟩ | ⟨hw, h1⟩
   ·simp only [hw]
    obtain ⟨r, e, h1⟩ := vres_ok h1
    simp only [e]
    split at h1 <;> try exact h1.elim
    simp only []
    split at h1
    ·rename_i d hd; simp only [hd]; exact dec_iff.2 h1
    ·rename_i hd; simp only [hd]
   ·simp only [hw]
    split at h1
    ·rename_i d hd; simp only [hd, h1]
    ·rename_i hd; simp only [hd]
  rw [this]
  exact vAgain_ok h2
def vAct (P : Program) (call : CallP) (ops : Array Oper) (o : Oper) (env : Env) (H : Heap) (nx : Nat) (dfs : Dfs) (rc : Option AMode) (k : Env → Heap → Nat → Prop) (K : KP) (env0 : Env) : Prop :=
 guardV ops o.guard env
  (fun env => vres P o (aev env) H nx fun r => match r with
   | .val v H' nx' => k (put o.dst v env) H' nx'
   | .call f args => call f args H nx fun e H' nx' => onEnd e (fun v => typedV P o.type v fun v => k (put o.dst v env) H' nx') (fun l => K (.pan l) env0 H' nx' dfs rc)
   | .pan v => K (.pan [(v, false)]) env0 H nx dfs rc
   | _ => False)
  (fun env => k (put o.dst (.tuple []) env) H nx)
theorem vAct_ok {P : Program} {call : CallP} {ops : Array Oper} {o : Oper} {env : Env} {H : Heap} {nx : Nat} {dfs : Dfs} {rc : Option AMode} {k : Env → Heap → Nat → Prop} {K : KP} {env0 : Env}
  (hm : ∀ f args H nx (K K' : EndP), call f args H nx K → (∀ e H' nx', K e H' nx' → K' e H' nx') → call f args H nx K')
  (h : vAct P call ops o env H nx dfs rc k K env0) : actK P (decC call) ops o env H nx dfs rc (dec3 k) (decK K env0) env = true := by
 unfold vAct at h
 unfold actK
 rcases guardV_ok h with ⟨hw, h⟩ | ⟨hw, h⟩
 ·simp only [hw]
  obtain ⟨r, e, h⟩ := vres_ok h
  simp only [e]
  split at h <;> try exact h.elim
  ·exact dec_iff.2 h
  ·refine dec_iff.2 (hm _ _ _ _ _ _ h fun e H' nx' he => ?_)
   cases e with
   | ret v => exact dec_iff.2 (typedV_ok (he.1 v rfl))
   | pan l => exact dec_iff.2 (he.2 l rfl)
  ·exact dec_iff.2 h
 ·simp only [hw]
  exact dec_iff.2 h
def vStages (P : Program) (call : CallP) (ops : Array Oper) (res : Nat) (dfs : Dfs) (rc : Option AMode) (K : KP) (env0 : Env) : List (Nat × List Nat × List Nat) → Env → Heap → Nat → Prop
 | [] => fun env H nx => K .normal env H nx dfs rc
 | (e, F, A) :: rest => fun env H nx => match ops[e]? with
  | some o => vAct P call ops o env H nx dfs rc (fun env' H' nx' => vFloats P ops res nx' (fun env'' H'' => vAgain P ops env'' H'' nx' A ∧ vStages P call ops res dfs rc K env0 rest env'' H'' nx') F env' H') K env0
  | none => False
theorem vStages_run {P : Program} {call : CallP} {ops : Array Oper} {res : Nat} {dfs : Dfs} {rc : Option AMode} {K : KP} {env0 : Env}
  (hm : ∀ f args H nx (K K' : EndP), call f args H nx K → (∀ e H' nx', K e H' nx' → K' e H' nx') → call f args H nx K') :
  ∀ (rest : List Stage) (env : Env) (H : Heap) (nx : Nat), vStages P call ops res dfs rc K env0 rest env H nx →
   RunP P (decC call) ops res dfs rc (fun l H nx => K (.pan l) env0 H nx dfs rc) (fun env H nx => K .normal env H nx dfs rc) rest env H nx
 | [], _, _, _, h => h
 | (e, L, A) :: rest, env, H, nx, h => by
  intro oe hoe
  have h' : (match ops[e]? with
   | some o => vAct P call ops o env H nx dfs rc (fun env' H' nx' => vFloats P ops res nx' (fun env'' H'' => vAgain P ops env'' H'' nx' A ∧ vStages P call ops res dfs rc K env0 rest env'' H'' nx') L env' H') K env0
   | none => False) := h
  rw [hoe] at h'
  refine ⟨_, decK K env0, vAct_ok hm h', fun l H1 nx1 hk => dec_iff.1 hk, fun env1 H1 nx1 hk => ?_⟩
  refine ⟨_, vFloats_ok (dec_iff.1 hk), fun env2 H2 hk2 => ?_⟩
  obtain ⟨h1, h2⟩ := dec_iff.1 hk2
  exact ⟨vAgain_ok h1, vStages_run hm rest env2 H2 nx1 h2⟩
def vDrawn0 (P : Program) (call : CallP) (nt : Nat) (ops : Array Oper) (K : KP) : KC := fun env H nx dfs rc =>
 match planOK nt ops with
 | true => vFloats P ops nx (Nat.add nx ops.size) (fun env' H' => vAgain P ops env' H' (Nat.add nx ops.size) (planA ops) ∧
   vStages P call ops nx dfs rc K (blank ops.toList env) (planS ops) env' H' (Nat.add nx ops.size)) (plan0 ops) env H
 | false => False
theorem vDrawn0_any {P : Program} {call : CallP} {nt : Nat} {ops : Array Oper} {env : Env} {H : Heap} {nx : Nat} {dfs : Dfs} {rc : Option AMode} {K : KP} (hm : P.follows .mixedOrders = true)
  (hcm : ∀ f args H nx (K K' : EndP), call f args H nx K → (∀ e H' nx', K e H' nx' → K' e H' nx') → call f args H nx K')
  (hc : CallSP P call) (h : vDrawn0 P call nt ops K env H nx dfs rc)
  (σ : Sg) (w : World) (a : Act) (Q : Exit → Act → World → Prop) (hr : Rel σ H nx w) (ha : ARel σ nt env dfs a)
  (hQ : ∀ ex env' H' nx' σ' w' a' e, K ex env' H' nx' dfs rc → Rel σ' H' nx' w' → Ext σ σ' H H' nx nx' w w' → ARel σ' nt env' dfs a' → ExRel σ' ex e → Q e a' w') :
  wpAny P .any ops Q ops.size (Array.replicate ops.size false) a { w with drawn := w.drawn + 1 } := by
 unfold vDrawn0 at h
 split at h <;> try exact h.elim
 rename_i hplan
 have hlim : nx + ops.size ≤ nx + ops.size := Nat.le_refl _
 unfold planOK at hplan
 split at hplan <;> try (cases hplan; done)
 rename_i past hnt hops hF
 split at hplan <;> try (cases hplan; done)
 rename_i hA hS hcov
 have hn : nt ≤ 4096 := Nat.le_of_ble_eq_true hnt
 have F := opsOK_fact hops
 obtain ⟨env1, H1, hk, b1, b2, b3, b4, b5⟩ := floatsK_ok F hn hlim (plan0 ops) [] past env H hF (vFloats_ok h)
 obtain ⟨hag0, hk⟩ := dec_iff.1 hk
 have hag : againK P ops env1 H1 (Nat.add nx ops.size) (planA ops) = true := vAgain_ok hag0
 have hpast : ∀ i, i ∈ past → ∃ o, ops[i]? = some o ∧ (cls o.op = 0 ∨ cls o.op = 1) := by
  intro i hi
  rcases (chkF_past hF i).1 hi with hi | hi
  ·cases hi
  ·obtain ⟨o, ho, hne⟩ := chkF_cls hF i hi
   refine ⟨o, ho, ?_⟩
   have : cls o.op = 0 ∨ cls o.op = 1 ∨ cls o.op = 2 := by
    unfold cls
    split <;> first | exact .inl rfl | exact .inr (.inl rfl) | exact .inr (.inr rfl) | skip
    split <;> first | exact .inl rfl | exact .inr (.inr rfl)
   rcases this with h | h | h
   ·exact .inl h
   ·exact .inr h
   ·exact (hne h).elim
 have hblank : ∀ t, t < 4096 → get2 t (blank ops.toList env) = .und ∨ ((∀ (j : Nat) (q : Oper), ops[j]? = some q → q.dst ≠ some t) ∧ get2 t (blank ops.toList env) = get2 t env1) := by
  intro t ht
  have hd : ∀ o, o ∈ ops.toList → dstOK nt o.dst = true := fun o ho => by
   obtain ⟨i, hi⟩ := List.mem_iff_getElem?.1 ho
   exact F.dst i o (by simpa using hi)
  rcases blank_get hn ops.toList env t ht hd with h | ⟨h1, h2⟩
  ·exact .inl h
  ·have h3 : ∀ (j : Nat) (q : Oper), ops[j]? = some q → q.dst ≠ some t := fun j q hq => h1 q (by simpa using Array.mem_of_getElem? hq)
   exact .inr ⟨h3, by rw [h2, b1 t ht fun j q _ hq => h3 j q hq]⟩
 have hrun := vStages_run hcm (planS ops) env1 H1 (Nat.add nx ops.size) hk
 have none' : ∀ b, nx ≤ b → σ b = none := fun b hb => by
  cases e : σ b with
  | none => rfl
  | some p => obtain ⟨cb, sz⟩ := p; have := (hr.dom b cb sz e).1; omega
 have := stages_sem (call := decC call) [] (decC_ok hc) F hn hlim (planS ops) none past env1 H1 (Nat.add nx ops.size) hS (fun s _ i hi => by cases hi) hpast hblank hrun σ H w Q
  (fun l H' nx' σ' w' a' c hk R E A C => hQ (.pan l) _ H' nx' σ' w' a' (.panic c) hk R E A C)
  (fun env' H' nx' hk hp => tail_nil F hn hp fun σ' w' a' R E A => hQ .normal env' H' nx' σ' w' a' .normal hk R E A trivial)
 rw [List.append_nil] at this
 refine this ops.size _ σ _ a ⟨by simp, ha.env.size, ?_, ?_, ?_, ?_, ?_, ?_, ?_, Nat.le_refl _, ?_, ?_, ha.dfs⟩ ?_
 ·exact fun i j h => (isL_none h).elim
 ·exact fun i _ h => isL_none h
 ·intro i hi
  have := memN_ok (allL_ok hcov i (List.mem_range.2 hi))
  rcases List.mem_append.1 this with h | h
  ·exact .inl ((chkF_past hF i).2 (.inr h))
  ·exact .inr (.inl h)
 ·intro t ht hown
  rw [b1 t ht fun j q _ hq hd => isL_none (hown j q hq hd)]
  exact ha.env.den t ht
 ·intro j q hj hq _ hcl
  cases hip : impure q.op with
  | true =>
   have h1 := allL_ok hA j hj
   rw [hq] at h1
   simp only [hip] at h1
   have hmem : j ∈ planA ops := by
    split at h1
    ·exact memN_ok ‹_›
    ·rw [bit_eq] at h1; simp at h1
   have h3 := allL_ok hag j hmem
   rw [hq] at h3
   exact again1_fl0 hcl h3
  | false =>
   rcases (chkF_past hF j).1 hj with hj | hj
   ·cases hj
   ·exact b5 j q hj hq hcl hip
 ·intro j q hj hq _ hcl
  rcases (chkF_past hF j).1 hj with hj | hj
  ·cases hj
  ·exact b4 j q hj hq hcl
 ·exact fun i _ _ => none' _ (by omega)
 ·exact (b3 σ w (hr.more (Nat.le_add_right _ _) hlim) fun j _ => none' _ (by omega)).drew
 ·have E := Ext.drew σ H nx w
  refine ⟨E.sub, E.rng, ?_, Nat.le_add_right _ _, rfl, rfl, rfl, Nat.le_refl _, fun _ _ _ => rfl⟩
  intro b hb h0
  exact ⟨h0, b2 b (by omega) fun j _ => by omega⟩
 ·unfold left
  have := List.countP_le_length (p := fun i => !(Array.replicate ops.size false).getD i false) (l := List.range ops.size)
  simpa using this
def lastOp (ops : Array Oper) : Option (Oper × Nat × Operand) := match ops.toList.getLast? with
 | some o => match o.op, o.guard, o.dst with
  | .assign x, none, some d => some (o, d, x)
  | _, _, _ => none
 | none => none
def lastOK (nt : Nat) (init : Array Oper) (o : Oper) : Bool :=
 match dstOK nt o.dst, allL (fun i => bit (maskOf (ahead init) o.after.toList) i) (List.range init.size), allL (fun e => Bool.rec true (Nat.ble (Nat.succ e.on) init.size) (Region.binds .any e)) o.after.toList, opsOK nt init init.toList (ahead init) init.toList 0 with
 | true, true, true, true => true
 | _, _, _, _ => false
def lastK (d : Nat) (x : Operand) (K : KP) : KP := fun ex env H nx dfs rc => match ex with
 | .normal => K .normal (put (some d) (aev env x) env) H nx dfs rc
 | .exit id => K (.exit id) env H nx dfs rc
 | .ret => K .ret env H nx dfs rc
 | .pan l => K (.pan l) env H nx dfs rc
def vDrawn (P : Program) (call : CallP) (nt : Nat) (ops : Array Oper) (K : KP) : KC := fun env H nx dfs rc =>
 match planOK nt ops with
 | true => vDrawn0 P call nt ops K env H nx dfs rc
 | false => match lastOp ops with
  | some (o, d, x) => match lastOK nt ops.pop o with
   | true => vDrawn0 P call nt ops.pop (lastK d x K) env H nx dfs rc
   | false => False
  | none => False
theorem wp_monoQ {P : Program} {o : Oper} {a : Act} {w : World} {K K' : Act → World → Prop} {Q Q' : Exit → Act → World → Prop} (h : ∀ a w, K a w → K' a w) (hp : ∀ c a w, Q (.panic c) a w → Q' (.panic c) a w) (hl : LetsOut Q → LetsOut Q')
  (hh : o.wp P a w K Q) : o.wp P a w K' Q' := by
 unfold Oper.wp at *
 generalize (execOp a.eval o).run P w = r at *
 cases r with
 | ok n w' =>
  cases n <;> simp only [Oper.upon] at hh ⊢ <;>
   first
    | exact h _ _ hh
    | exact Calls.mono hh (fun e w'' he => by cases e <;> first | exact h _ _ he | exact hp _ _ _ he | exact hl he | exact he)
    | exact Rows.mono hh (fun _ _ he => h _ _ he)
 | halt x w' => cases x <;> simp only [Oper.upon] at hh ⊢ <;> first | exact hp _ _ _ hh | exact hh
theorem wpOp_conv {P : Program} {ops init : Array Oper} {i : Nat} {oi : Oper} {a : Act} {w : World} {K K' : Act → World → Prop} {Q Q' : Exit → Act → World → Prop} (hi : init[i]? = some oi) (ho : ops[i]? = some oi)
  (hg : ∀ (g : Nat) (b : Bool), oi.guard = some (g, b) → ops[g]? = init[g]?) (h : ∀ a w, K a w → K' a w) (hp : ∀ c a w, Q (.panic c) a w → Q' (.panic c) a w) (hl : LetsOut Q → LetsOut Q')
  (hh : wpOp P init Q i K a w) : wpOp P ops Q' i K' a w := by
 unfold wpOp at *
 rw [hi] at hh
 rw [ho]
 have e : Region.wanted oi (yielded ops a.tmps) = Region.wanted oi (yielded init a.tmps) := by
  unfold Region.wanted
  cases hgd : oi.guard with
  | none => rfl
  | some p =>
   obtain ⟨g, b⟩ := p
   have := hg g b hgd
   simp only [yielded, this]
 simp only [e] at hh ⊢
 by_cases hw : Region.wanted oi (yielded init a.tmps) = true
 ·rw [if_pos hw] at hh ⊢
  exact hh.imp (wp_monoQ h hp hl) fun ⟨h1, h2⟩ => ⟨h1, hl h2⟩
 ·rw [if_neg hw] at hh ⊢
  exact h _ _ hh
def lastQ (P : Program) (ops : Array Oper) (n : Nat) (Q : Exit → Act → World → Prop) : Exit → Act → World → Prop := fun e a w => match e with
 | .normal => wpOp P ops Q n (fun a w => Q .normal a w) a w
 | e => Q e a w
theorem wpAny_last {P : Program} {nt : Nat} {ops init : Array Oper} {o : Oper} {Q : Exit → Act → World → Prop} (F : OpsFact nt init (ahead init)) (hsz : ops.size = init.size + 1) (hget : ∀ i, i < init.size → ops[i]? = init[i]?) (hlast : ops[init.size]? = some o)
  (hcov : ∀ i, i < init.size → bit (maskOf (ahead init) o.after.toList) i = true) (hedge : ∀ e, e ∈ o.after.toList → Region.binds .any e = true → e.on < init.size) :
  ∀ fuel listed a w, listed.size = init.size → (∀ i j, isL listed i → bit ((ahead init).getD i 0) j = true → isL listed j) → wpAny P .any init (lastQ P ops init.size Q) fuel listed a w →
   ∀ listed2 : Array Bool, listed2.size = init.size + 1 → (∀ i, i < init.size → (isL listed2 i ↔ isL listed i)) → ¬ isL listed2 init.size → wpAny P .any ops Q (fuel + 1) listed2 a w := by
 have allready : ∀ listed : Array Bool, (∀ i j, isL listed i → bit ((ahead init).getD i 0) j = true → isL listed j) → (∀ e, e ∈ o.after.toList → Region.binds .any e = true → isL listed e.on) → ∀ i, i < init.size → isL listed i := fun listed hc he i hi => by
  obtain ⟨e, h1, h2, h3⟩ := maskOf_bit (hcov i hi)
  rcases h3 with rfl | h3
  ·exact he e h1 h2
  ·exact hc _ _ (he e h1 h2) h3
 have atEnd : ∀ (fuel : Nat) (listed2 : Array Bool) (a : Act) (w : World), listed2.size = init.size + 1 → (∀ i, i < init.size → isL listed2 i) → ¬ isL listed2 init.size → lastQ P ops init.size Q .normal a w → wpAny P .any ops Q (fuel + 1) listed2 a w := by
  intro fuel listed2 a w hs2 hall hn hq
  have rd : init.size ∈ Region.ready .any ops listed2 := (mem_ready (by omega)).2 ⟨o, hlast, hn, fun e he hb => hall _ (hedge e he hb)⟩
  refine ⟨fun hnil => (by rw [hnil] at rd; cases rd), fun i hi => ?_⟩
  obtain ⟨oi, ho, hnl, _⟩ := (mem_ready (by omega)).1 hi
  have hlt : i < ops.size := (Array.getElem?_eq_some_iff.1 ho).1
  have : i = init.size := by
   rcases Nat.lt_or_ge i init.size with h | h
   ·exact (hnl (hall i h)).elim
   ·omega
  subst this
  refine wpOp_mono (fun a w hK => ?_) hq
  have hnil : Region.ready .any ops (listed2.setIfInBounds init.size true) = [] := by
   refine List.eq_nil_iff_forall_not_mem.2 fun j hj => ?_
   obtain ⟨oj, hoj, hnj, _⟩ := (mem_ready (by rw [Array.size_setIfInBounds]; omega)).1 hj
   have hjl : j < ops.size := (Array.getElem?_eq_some_iff.1 hoj).1
   rw [isL_set (by omega)] at hnj
   rcases Nat.lt_or_ge j init.size with h | h
   ·exact hnj (.inr (hall j h))
   ·exact hnj (.inl (by omega))
  exact wpAny_done hnil hK fuel
 intro fuel
 induction fuel with
 | zero =>
  intro listed a w hs hc h listed2 hs2 heq hn
  have hall := ready_nil F hs h.1
  exact atEnd 0 listed2 a w hs2 (fun i hi => (heq i hi).2 (hall i hi)) hn h.2
 | succ fuel ih =>
  intro listed a w hs hc h listed2 hs2 heq hn
  by_cases hnil : Region.ready .any init listed = []
  ·have hall := ready_nil F hs hnil
   exact atEnd (fuel + 1) listed2 a w hs2 (fun i hi => (heq i hi).2 (hall i hi)) hn (h.1 hnil)
  ·obtain ⟨j, hj⟩ := List.exists_mem_of_ne_nil _ hnil
   obtain ⟨oj, hoj, hnj, hej⟩ := (mem_ready hs).1 hj
   have hjl : j < init.size := (Array.getElem?_eq_some_iff.1 hoj).1
   have lt_of : ∀ (i : Nat) (oi : Oper), init[i]? = some oi → ∀ e, e ∈ oi.after.toList → Region.binds .any e = true → e.on < init.size := fun i oi hi e he hb => by
    have := F.edge i oi hi e he hb
    have := (Array.getElem?_eq_some_iff.1 hi).1
    omega
   refine ⟨fun hnil2 => ?_, fun i hi => ?_⟩
   ·exfalso
    have : j ∈ Region.ready .any ops listed2 := (mem_ready (by omega)).2 ⟨oj, by rw [hget j hjl]; exact hoj, fun hl => hnj ((heq j hjl).1 hl), fun e he hb => (heq _ (lt_of j oj hoj e he hb)).2 (hej e he hb)⟩
    rw [hnil2] at this; cases this
   ·obtain ⟨oi, hoi, hni, hei⟩ := (mem_ready (by omega)).1 hi
    have hil : i < ops.size := (Array.getElem?_eq_some_iff.1 hoi).1
    rcases Nat.lt_or_ge i init.size with hlt | hge
    ·have hoi' : init[i]? = some oi := by rw [← hget i hlt]; exact hoi
     have hi' : i ∈ Region.ready .any init listed := (mem_ready hs).2 ⟨oi, hoi', fun hl => hni ((heq i hlt).2 hl), fun e he hb => (heq _ (lt_of i oi hoi' e he hb)).1 (hei e he hb)⟩
     refine wpOp_conv hoi' hoi (fun g b hg => ?_) (fun a w hK => ?_) (fun _ _ _ hq => hq) (fun ⟨a, w, hq⟩ => ⟨a, w, hq⟩) (h.2 i hi')
     ·obtain ⟨tt, ht⟩ := F.grd i oi g b hoi' hg
      refine hget g ?_
      rcases Nat.lt_or_ge g init.size with h | h
      ·exact h
      ·rw [Array.getElem?_eq_none h] at ht; cases ht
     ·refine ih (listed.setIfInBounds i true) a w (by rw [Array.size_setIfInBounds]; exact hs) ?_ hK (listed2.setIfInBounds i true) (by rw [Array.size_setIfInBounds]; exact hs2) ?_ ?_
      ·intro p q hp hb
       rw [isL_set (by omega)] at hp ⊢
       rcases hp with rfl | hp
       ·obtain ⟨g, hg, hb', hc'⟩ := F.ahead p oi hoi' q hb
        have hgl := (heq _ (lt_of p oi hoi' g hg hb')).1 (hei g hg hb')
        rcases hc' with rfl | hc'
        ·exact .inr hgl
        ·exact .inr (hc _ q hgl hc')
       ·exact .inr (hc p q hp hb)
      ·intro p hp
       rw [isL_set (by omega), isL_set (by omega), heq p hp]
      ·rw [isL_set (by omega)]
       rintro (h | h)
       ·omega
       ·exact hn h
    ·have : i = init.size := by omega
     subst this
     rw [hlast] at hoi; cases hoi
     exfalso
     have hall := allready listed hc fun e he hb => (heq _ (hedge e he hb)).1 (hei e he hb)
     exact hnj (hall j hjl)
theorem vDrawn_wp {P : Program} {call : CallP} {nt : Nat} {ops : Array Oper} {env : Env} {H : Heap} {nx : Nat} {dfs : Dfs} {rc : Option AMode} {K : KP} (hm : P.follows .mixedOrders = true)
  (hcm : ∀ f args H nx (K K' : EndP), call f args H nx K → (∀ e H' nx', K e H' nx' → K' e H' nx') → call f args H nx K')
  (hc : CallSP P call) (h : vDrawn P call nt ops K env H nx dfs rc) (id : Nat)
  (σ : Sg) (w : World) (a : Act) (Q : Exit → Act → World → Prop) (hr : Rel σ H nx w) (ha : ARel σ nt env dfs a)
  (hQ : ∀ ex env' H' nx' σ' w' a' e, K ex env' H' nx' dfs rc → Rel σ' H' nx' w' → Ext σ σ' H H' nx nx' w w' → ARel σ' nt env' dfs a' → ExRel σ' ex e → Q e a' w') :
  (Code.region id ops true).wp P Q a w := by
 refine wp_region_any hm ?_
 unfold vDrawn at h
 split at h
 ·exact vDrawn0_any hm hcm hc h σ w a Q hr ha hQ
 ·split at h <;> try exact h.elim
  rename_i o d x hlo
  split at h <;> try exact h.elim
  rename_i hok
  unfold lastOp at hlo
  split at hlo <;> try (cases hlo; done)
  rename_i o' hgl
  split at hlo <;> try (cases hlo; done)
  rename_i x' d' hop hgd hdst
  cases hlo
  unfold lastOK at hok
  split at hok <;> try (cases hok; done)
  rename_i hd hcov hedge hopsOK
  have F := opsOK_fact hopsOK
  obtain ⟨l, hl⟩ : ∃ l, ops.toList = l ++ [o] := by
   obtain ⟨l, hl⟩ := List.getLast?_eq_some_iff.1 hgl
   exact ⟨l, hl⟩
  have hpop : ops.pop.toList = l := by rw [Array.toList_pop, hl]; simp
  have hps : ops.pop.size = l.length := by rw [← hpop]; simp
  have hsz : ops.size = ops.pop.size + 1 := by rw [hps, ← Array.length_toList, hl]; simp
  have hget : ∀ i, i < ops.pop.size → ops[i]? = ops.pop[i]? := fun i hi => by
   rw [← Array.getElem?_toList, ← Array.getElem?_toList, hl, hpop, List.getElem?_append_left (by omega)]
  have hlast : ops[ops.pop.size]? = some o := by
   rw [← Array.getElem?_toList, hl, hps]; simp
  have any := vDrawn0_any (K := lastK d x K) hm hcm hc h σ w a (lastQ P ops ops.pop.size Q) hr ha ?_
  ·rw [hsz]
   refine wpAny_last F hsz hget hlast (fun i hi => allL_ok hcov i (List.mem_range.2 hi)) (fun e he hb => ?_) ops.pop.size _ a _ (by simp) (fun i j h => (isL_none h).elim) any _ (by simp) (fun i _ => ⟨fun h => (isL_none h).elim, fun h => (isL_none h).elim⟩) isL_none
   have h2 := allL_ok hedge e he
   have h3 : (Bool.rec true (Nat.ble (Nat.succ e.on) ops.pop.size) (Region.binds .any e) : Bool) = true := h2
   rw [hb] at h3
   exact Nat.le_of_ble_eq_true h3
  ·intro ex env' H' nx' σ' w' a' e hk R E A X
   cases ex with
   | normal =>
    cases e <;> try exact X.elim
    show wpOp P ops Q ops.pop.size (fun a w => Q .normal a w) a' w'
    unfold wpOp
    rw [hlast]
    have hwd : Region.wanted o (yielded ops a'.tmps) = true := by unfold Region.wanted; rw [hgd]
    simp only [hwd, if_true]
    have hao : aop P o (aev env') H' nx' = some (.val (aev env' x) H' nx') := by
     unfold aop; rw [hop]; rfl
    obtain ⟨σ2, w2, v', R2, E2, D2, hrun⟩ := aop_ok hao σ' w' a'.eval R A.env.aev
    have A2 : ARel σ2 nt (put (some d) (aev env' x) env') dfs (a'.put o.dst v') := by
     rw [hdst]; exact (A.mono E2.sub).put (by rw [← hdst]; exact hd) D2
    refine .inl ?_
    unfold Oper.wp
    rcases hrun with hrun | ⟨hrun, rfl⟩
    ·rw [hrun]; exact hQ .normal _ H' nx' σ2 w2 _ .normal hk R2 (E.trans E2) A2 trivial
    ·rw [hrun]; exact hQ .normal _ H' nx' σ2 w2 _ .normal hk R2 (E.trans E2) A2 trivial
   | exit id =>
    cases e <;> first | exact X.elim | exact hQ (.exit id) env' H' nx' σ' w' a' _ hk R E A X
   | ret =>
    cases e <;> first | exact X.elim | exact hQ .ret env' H' nx' σ' w' a' _ hk R E A X
   | pan l =>
    cases e <;> first | exact X.elim | exact hQ (.pan l) env' H' nx' σ' w' a' _ hk R E A X
def learn (c : Operand) (b : Bool) (env : Env) : Env := match c with
 | .tmp t => set2 t (.bool b) env
 | _ => env
theorem learn_eq {c : Operand} {b : Bool} {env : Env} (h : aev env c = .bool b) : learn c b env = env := by
 cases c with
 | tmp t =>
  have h' : (Bool.rec .und (get2 t env) (Nat.ble t 4095) : AVal) = .bool b := h
  cases e : Nat.ble t 4095 with
  | false => rw [e] at h'; cases h'
  | true => rw [e] at h'; exact set2_self h'
 | const v => rfl
 | global g => rfl
 | func f => rfl
def vK (P : Program) (call : CallP) (lp : LoopP) (nt : Nat) : Code → Env → Heap → Nat → Dfs → Option AMode → KP → Prop
 | .skip => fun env H nx dfs rc K => K .normal env H nx dfs rc
 | .region _ ops false => fun env H nx dfs rc K => vOps P call nt ops K ops.toList env H nx dfs rc
 | .region _ ops true => fun env H nx dfs rc K => vDrawn P call nt ops K env H nx dfs rc
 | .seq a b => fun env H nx dfs rc K => vK P call lp nt a env H nx dfs rc fun e env H nx dfs rc => match e with
  | .normal => vK P call lp nt b env H nx dfs rc K
  | .exit id => K (.exit id) env H nx dfs rc
  | .ret => K .ret env H nx dfs rc
  | .pan l => K (.pan l) env H nx dfs rc
 | .cond c a b => fun env H nx dfs rc K => match aev env c with
  | .bool p => Bool.rec (vK P call lp nt b (learn c false env) H nx dfs rc K) (vK P call lp nt a (learn c true env) H nx dfs rc K) p
  | _ => False
 | .block id a => fun env H nx dfs rc K => vK P call lp nt a env H nx dfs rc fun e env H nx dfs rc => match e with
  | .normal => K .normal env H nx dfs rc
  | .exit j => match Nat.beq j id with
   | true => K .normal env H nx dfs rc
   | false => K (.exit j) env H nx dfs rc
  | .ret => K .ret env H nx dfs rc
  | .pan l => K (.pan l) env H nx dfs rc
 | .loop a => fun env H nx dfs rc K => lp a env H nx dfs rc K
 | .exit id => fun env H nx dfs rc K => K (.exit id) env H nx dfs rc
 | .ret => fun env H nx dfs rc K => K .ret env H nx dfs rc
 | _ => fun _ _ _ _ _ _ => False
def LoopS (P : Program) (nt : Nat) (lp : LoopP) : Prop := ∀ a env H nx dfs K, lp a env H nx dfs none K →
 ∀ σ w act Q, Rel σ H nx w → ARel σ nt env dfs act → PostP nt K σ H nx w Q → (Code.loop a).wp P Q act w
theorem vK_none {P : Program} {call : CallP} {lp : LoopP} {nt : Nat} (hm : P.follows .mixedOrders = true)
  (hcm : ∀ f args H nx (K K' : EndP), call f args H nx K → (∀ e H' nx', K e H' nx' → K' e H' nx') → call f args H nx K') (hc : CallSP P call) (hl : LoopS P nt lp) :
  ∀ (c : Code) (env : Env) (H : Heap) (nx : Nat) (dfs : Dfs) (K : KP), vK P call lp nt c env H nx dfs none K →
   ∀ σ w a Q, Rel σ H nx w → ARel σ nt env dfs a → PostP nt K σ H nx w Q → c.wp P Q a w := by
 intro c
 induction c with
 | skip => exact fun env H nx dfs K h σ w a Q hr ha hQ => wp_skip (hQ .normal env H nx dfs σ w a .normal h hr (Ext.refl _ _ _ _) ha trivial)
 | region id ops draw =>
  intro env H nx dfs K h σ w a Q hr ha hQ
  cases draw with
  | false => exact wp_region_list (vOps_none hc ops.toList env H nx dfs h σ w a Q hr ha hQ)
  | true => exact vDrawn_wp hm hcm hc h id σ w a Q hr ha fun ex env' H' nx' σ' w' a' e hk R E A X => hQ ex env' H' nx' dfs σ' w' a' e hk R E A X
 | seq x y ihx ihy =>
  intro env H nx dfs K h σ w a Q hr ha hQ
  refine wp_seq (ihx env H nx dfs _ h σ w a _ hr ha ?_)
  intro ex env' H' nx' dfs' σ' w' a' e hk R E A X
  cases ex with
  | normal => cases e <;> first | exact X.elim | exact ihy env' H' nx' dfs' K hk σ' w' a' Q R A (hQ.from E)
  | exit id => cases e <;> first | exact X.elim | exact hQ _ _ _ _ _ σ' w' a' _ hk R E A X
  | ret => cases e <;> first | exact X.elim | exact hQ _ _ _ _ _ σ' w' a' _ hk R E A X
  | pan l => cases e <;> first | exact X.elim | exact hQ _ _ _ _ _ σ' w' a' _ hk R E A X
 | cond c x y ihx ihy =>
  intro env H nx dfs K h σ w a Q hr ha hQ
  have h' : (match aev env c with
   | .bool p => Bool.rec (vK P call lp nt y (learn c false env) H nx dfs none K) (vK P call lp nt x (learn c true env) H nx dfs none K) p
   | _ => False) := h
  split at h' <;> first | exact h'.elim | skip
  rename_i p hp
  cases p with
  | true =>
   have h2 : vK P call lp nt x (learn c true env) H nx dfs none K := h'
   rw [learn_eq hp] at h2
   exact wp_cond (t := true) (eval_bool ha hp) (ihx env H nx dfs K h2 σ w a Q hr ha hQ)
  | false =>
   have h2 : vK P call lp nt y (learn c false env) H nx dfs none K := h'
   rw [learn_eq hp] at h2
   exact wp_cond (t := false) (eval_bool ha hp) (ihy env H nx dfs K h2 σ w a Q hr ha hQ)
 | block id x ihx =>
  intro env H nx dfs K h σ w a Q hr ha hQ
  refine wp_block (ihx env H nx dfs _ h σ w a _ hr ha ?_)
  intro ex env' H' nx' dfs' σ' w' a' e hk R E A X
  cases ex with
  | normal => cases e <;> first | exact X.elim | exact hQ _ _ _ _ _ σ' w' a' _ hk R E A X
  | exit j =>
   cases e <;> try exact X.elim
   have X' : j = _ := X
   subst X'
   cases hb : Nat.beq j id with
   | true =>
    have hid := Nat.eq_of_beq_eq_true hb
    simp only [hb] at hk
    simp only [Exit.inBlock, hid, if_true]
    exact hQ _ _ _ _ _ σ' w' a' .normal hk R E A trivial
   | false =>
    have hid : j ≠ id := fun e => by subst e; simp at hb
    simp only [hb] at hk
    simp only [Exit.inBlock, hid, if_false]
    exact hQ _ _ _ _ _ σ' w' a' _ hk R E A rfl
  | ret => cases e <;> first | exact X.elim | exact hQ _ _ _ _ _ σ' w' a' _ hk R E A X
  | pan l => cases e <;> first | exact X.elim | exact hQ _ _ _ _ _ σ' w' a' _ hk R E A X
 | loop x _ =>
  intro env H nx dfs K h σ w a Q hr ha hQ
  exact hl x env H nx dfs _ h σ w a Q hr ha hQ
 | exit id => exact fun env H nx dfs K h σ w a Q hr ha hQ => wp_exit (hQ _ env H nx dfs σ w a (.exit id) h hr (Ext.refl _ _ _ _) ha rfl)
 | ret => exact fun env H nx dfs K h σ w a Q hr ha hQ => wp_ret (hQ _ env H nx dfs σ w a .ret h hr (Ext.refl _ _ _ _) ha trivial)
 | rangeFunc f p x y => exact fun env H nx dfs K h => h.elim
 | scope x => exact fun env H nx dfs K h => h.elim
 | label l => exact fun env H nx dfs K h => h.elim
 | goto l => exact fun env H nx dfs K h => h.elim
 | refuse s => exact fun env H nx dfs K h => h.elim
def EnvLe (e env : Env) : Prop := ∀ t, t < 4096 → e t = .und ∨ e t = env t
theorem EnvLe.refl (e : Env) : EnvLe e e := fun _ _ => .inr rfl
theorem ARel.weaken {σ : Sg} {nt : Nat} {e env : Env} {dfs : Dfs} {a : Act} (h : ARel σ nt env dfs a) (hle : EnvLe e env) : ARel σ nt e dfs a := by
 refine ⟨⟨h.env.size, h.env.le, fun t ht => ?_⟩, h.dfs⟩
 rcases hle t ht with q | q
 ·show Den σ (e t) _
  rw [q]; exact .und _
 ·show Den σ (e t) _
  rw [q]; exact h.env.den t ht
end
end Go.Vs
end
section
namespace Go.Vs
variable [GTab]
noncomputable section
def vRes (P : Program) (env : Env) (H : Heap) : List ResultVar → (List AVal → Prop) → Prop
 | [], k => k []
 | .tmp t :: l, k => match Nat.ble t 4095 with
  | true => vRes P env H l fun vs => k (get2 t env :: vs)
  | false => False
 | .cell a t :: l, k => match Nat.ble a 4095 with
  | true => vLoad P t H (get2 a env) fun v => vRes P env H l fun vs => k (v :: vs)
  | false => False
theorem vRes_ok {P : Program} {env : Env} {H : Heap} : ∀ {l : List ResultVar} {k : List AVal → Prop}, vRes P env H l k → ∃ vs, resultsA P env H l = some vs ∧ k vs
 | [], _, h => ⟨[], rfl, h⟩
 | .tmp t :: l, k, h => by
  unfold vRes at h
  split at h <;> try exact h.elim
  rename_i hb
  obtain ⟨vs, e, h⟩ := vRes_ok h
  exact ⟨_, by unfold resultsA; simp only [hb, e], h⟩
 | .cell a t :: l, k, h => by
  unfold vRes at h
  split at h <;> try exact h.elim
  rename_i hb
  obtain ⟨v, e1, h⟩ := vLoad_ok h
  obtain ⟨vs, e, h⟩ := vRes_ok h
  exact ⟨_, by unfold resultsA; simp only [hb, e, e1], h⟩
def leaveV (P : Program) (calld : CallDP) (rs : List ResultVar) (env : Env) : Dfs → AMode → Heap → Nat → EndP → Prop
 | [], m, H, nx, K => match m with
  | .returning => ∃ vs, resultsA P env H rs = some vs ∧ K (.ret (oneOf vs)) H nx
  | .panicking l => K (.pan l) H nx
 | (g, args) :: dfs, m, H, nx, K => calld g args m H nx fun e m' H' nx' => onEnd e (fun _ => leaveV P calld rs env dfs (settleA m') H' nx' K) (fun l => leaveV P calld rs env dfs (raisedA m' l) H' nx' K)
theorem leaveV_ok {P : Program} {calld : CallDP} (hcd : CallDSP P calld) {fn : Func} {nt : Nat} {env : Env} :
  ∀ (dfs : Dfs) (m : AMode) (H : Heap) (nx : Nat) (K : EndP), leaveV P calld fn.results.toList env dfs m H nx K →
   ∀ σ w u ds tmps R, Rel σ H nx w → EnvRel σ nt env tmps → DfsRel σ dfs ds → MRel σ m u →
    (∀ e H' nx' σ' w' en, K e H' nx' → Rel σ' H' nx' w' → Ext σ σ' H H' nx nx' w w' → EndRel σ' e en → R en w') → Leaves P fn tmps R ds u w
 | [], m, H, nx, K, h => by
  intro σ w u ds tmps R hr he hdf hm hR
  cases m with
  | returning =>
   obtain ⟨vs, hvs, h'⟩ := h
   cases hdf
   cases u <;> try exact hm.elim
   obtain ⟨v', dv, hrun⟩ := results_ok hr he hvs
   exact ⟨v', hrun, hR _ _ _ σ w _ h' hr (Ext.refl _ _ _ _) dv⟩
  | panicking l =>
   cases hdf
   cases u <;> try exact hm.elim
   exact hR (.pan l) H nx σ w _ h hr (Ext.refl _ _ _ _) hm
 | (f, args) :: dfs, m, H, nx, K, h => by
  obtain ⟨hbody, tri⟩ := hcd f args m H nx _ h
  intro σ w u ds tmps R hr he hdf hm hR
  cases hdf with
  | @cons _ _ d _ l' hd ht =>
   obtain ⟨cap, htar, hargs⟩ := hd
   refine ⟨mode_ne hm, .func f, cap, f, d.args ++ cap, htar, ?_, ?_⟩
   ·rw [htar]
    simp only [invoke]
    exact run_callFunc hbody _ w
   ·have hl : (⟨(d.args ++ cap).toList⟩ : Array Value) = d.args ++ cap := rfl
    rw [← hl]
    refine tri σ w _ u _ hr hargs hm fun e m' H1 nx1 σ1 w1 en u1 hk R1 E1 X1 M1 => ?_
    cases e with
    | ret v =>
     cases en with
     | returned v' => exact leaveV_ok hcd dfs _ H1 nx1 K (hk.1 v rfl) σ1 w1 (settle u1) l' tmps R R1 (he.mono E1.sub) (ht.mono E1.sub) (settle_ok M1) fun e2 H2 nx2 σ2 w2 en2 hk2 R2 E2 X2 => hR e2 H2 nx2 σ2 w2 en2 hk2 R2 (E1.trans E2) X2
     | panicked c => exact X1.elim
     | outgrown => exact X1.elim
    | pan l =>
     cases en with
     | returned v' => exact X1.elim
     | panicked c => exact leaveV_ok hcd dfs _ H1 nx1 K (hk.2 l rfl) σ1 w1 (raised u1 c) l' tmps R R1 (he.mono E1.sub) (ht.mono E1.sub) (raised_ok M1 X1) fun e2 H2 nx2 σ2 w2 en2 hk2 R2 E2 X2 => hR e2 H2 nx2 σ2 w2 en2 hk2 R2 (E1.trans E2) X2
     | outgrown => exact X1.elim
def LpP (P : Program) (nt : Nat) : LoopP := fun a env H nx dfs _ K =>
 ∀ σ w act Q, Rel σ H nx w → ARel σ nt env dfs act → PostP nt K σ H nx w Q → (Code.loop a).wp P Q act w
theorem LpP_ok (P : Program) (nt : Nat) : LoopS P nt (LpP P nt) := fun _ _ _ _ _ _ h => h
def vBody (P : Program) (call : CallP) (lp : Nat → LoopP) (f : FuncId) (args : List AVal) (H : Heap) (nx : Nat) (K : List ResultVar → KP) : Prop :=
 match P.funcs[f]? with
 | some fn => match fn.body, Nat.ble fn.ntmps 4096, Nat.ble args.length fn.ntmps with
  | some c, true, true => vK P call (lp fn.ntmps) fn.ntmps c (enterEnv args 0 (all2 (.tuple []))) H nx [] none (K fn.results.toList)
  | _, _, _ => False
 | none => False
def tmpsOf (env : Env) : List ResultVar → Option (List AVal)
 | [] => some []
 | .tmp t :: l => match Nat.ble t 4095, tmpsOf env l with
  | true, some vs => some (get2 t env :: vs)
  | _, _ => none
 | .cell _ _ :: _ => none
theorem vRes_tmps {P : Program} {env : Env} {H : Heap} : ∀ {l : List ResultVar} {vs : List AVal} {k : List AVal → Prop}, tmpsOf env l = some vs → k vs → vRes P env H l k
 | [], _, _, e, h => by cases e; exact h
 | .tmp t :: l, vs, k, e, h => by
  unfold tmpsOf at e
  split at e <;> try (cases e; done)
  rename_i vs' hb hl
  cases e
  unfold vRes
  simp only [hb]
  exact vRes_tmps hl h
 | .cell _ _ :: _, _, _, e, _ => by cases e
abbrev LeaveP := List AVal → Dfs → AMode → Heap → Nat → EndP → Prop
inductive RVal where
 | val (v : AVal)
 | cell (p : AVal) (t : TypeId)
abbrev LeaveC := List RVal → Dfs → AMode → Heap → Nat → EndP → Prop
def rvOK : List ResultVar → Bool
 | [] => true
 | .tmp t :: l => match Nat.ble t 4095 with
  | true => rvOK l
  | false => false
 | .cell a _ :: l => match Nat.ble a 4095 with
  | true => rvOK l
  | false => false
def rvals (env : Env) : List ResultVar → List RVal
 | [] => []
 | .tmp t :: l => .val (get2 t env) :: rvals env l
 | .cell a t :: l => .cell (get2 a env) t :: rvals env l
def vResV (P : Program) (H : Heap) : List RVal → (List AVal → Prop) → Prop
 | [], k => k []
 | .val v :: l, k => vResV P H l fun vs => k (v :: vs)
 | .cell p t :: l, k => vLoad P t H p fun v => vResV P H l fun vs => k (v :: vs)
theorem vResV_ok {P : Program} {env : Env} {H : Heap} : ∀ {rs : List ResultVar} {k : List AVal → Prop}, rvOK rs = true → vResV P H (rvals env rs) k → ∃ vs, resultsA P env H rs = some vs ∧ k vs
 | [], _, _, h => ⟨[], rfl, h⟩
 | .tmp t :: l, k, e, h => by
  cases hb : Nat.ble t 4095 with
  | false => unfold rvOK at e; rw [hb] at e; cases e
  | true =>
   unfold rvOK at e; rw [hb] at e
   obtain ⟨vs, e1, h⟩ := vResV_ok e h
   exact ⟨_, by unfold resultsA; simp only [hb, e1], h⟩
 | .cell a t :: l, k, e, h => by
  cases hb : Nat.ble a 4095 with
  | false => unfold rvOK at e; rw [hb] at e; cases e
  | true =>
   unfold rvOK at e; rw [hb] at e
   obtain ⟨v, e1, h⟩ := vLoad_ok h
   obtain ⟨vs, e2, h⟩ := vResV_ok e h
   exact ⟨_, by unfold resultsA; simp only [hb, e1, e2], h⟩
def lvcSem (P : Program) (calld : CallDP) : LeaveC := fun rv dfs => match dfs with
 | [] => fun m H nx K => match m with
  | .returning => vResV P H rv fun vs => K (.ret (oneOf vs)) H nx
  | .panicking l => K (.pan l) H nx
 | (g, args) :: dfs => fun m H nx K => calld g args m H nx fun e m' H' nx' => onEnd e (fun _ => lvcSem P calld rv dfs (settleA m') H' nx' K) (fun l => lvcSem P calld rv dfs (raisedA m' l) H' nx' K)
def lvSem (calld : CallDP) : LeaveP := fun vs dfs => match dfs with
 | [] => fun m H nx K => match m with
  | .returning => K (.ret (oneOf vs)) H nx
  | .panicking l => K (.pan l) H nx
 | (g, args) :: dfs => fun m H nx K => calld g args m H nx fun e m' H' nx' => onEnd e (fun _ => lvSem calld vs dfs (settleA m') H' nx' K) (fun l => lvSem calld vs dfs (raisedA m' l) H' nx' K)
theorem TriDP_mono (P : Program) {f : FuncId} {args : List AVal} {m : AMode} {H : Heap} {nx : Nat} {K K' : AEnd → AMode → Heap → Nat → Prop} (h : TriDP P f args m H nx K) (hk : ∀ e m' H' nx', K e m' H' nx' → K' e m' H' nx') : TriDP P f args m H nx K' :=
 ⟨h.1, fun σ w args' u R hr hd hm hR => h.2 σ w args' u R hr hd hm fun e m' H' nx' σ' w' en u' k => hR e m' H' nx' σ' w' en u' (hk _ _ _ _ k)⟩
theorem lvSem_ok {P : Program} {rs : List ResultVar} {env : Env} {vs : List AVal} {K : EndP} (e : tmpsOf env rs = some vs) : ∀ {dfs : Dfs} {m : AMode} {H : Heap} {nx : Nat}, lvSem (TriDP P) vs dfs m H nx K → leaveV P (TriDP P) rs env dfs m H nx K
 | [], m, H, nx, h => by
  cases m with
  | returning => exact vRes_ok (vRes_tmps (P := P) (H := H) (k := fun vs => K (.ret (oneOf vs)) H nx) e h)
  | panicking l => exact h
 | (g, args) :: dfs, m, H, nx, h => by
  refine TriDP_mono P h fun e' m' H' nx' hk => ⟨fun v hv => ?_, fun l hl => ?_⟩
  ·exact lvSem_ok e (hk.1 v hv)
  ·exact lvSem_ok e (hk.2 l hl)
theorem lvcSem_ok {P : Program} {rs : List ResultVar} {env : Env} {K : EndP} (e : rvOK rs = true) : ∀ {dfs : Dfs} {m : AMode} {H : Heap} {nx : Nat}, lvcSem P (TriDP P) (rvals env rs) dfs m H nx K → leaveV P (TriDP P) rs env dfs m H nx K
 | [], m, H, nx, h => by
  cases m with
  | returning => exact vResV_ok e h
  | panicking l => exact h
 | (g, args) :: dfs, m, H, nx, h => by
  refine TriDP_mono P h fun e' m' H' nx' hk => ⟨fun v hv => ?_, fun l hl => ?_⟩
  ·exact lvcSem_ok e (hk.1 v hv)
  ·exact lvcSem_ok e (hk.2 l hl)
def endK (P : Program) (lv : LeaveP) (lvc : LeaveC) (K : EndP) (rs : List ResultVar) : KP := fun e env H nx dfs _ => match e with
 | .normal => match dfs with
  | [] => vRes P env H rs fun vs => K (.ret (oneOf vs)) H nx
  | d :: ds => match tmpsOf env rs with
   | some vs => lv vs (d :: ds) .returning H nx K
   | none => match rvOK rs with
    | true => lvc (rvals env rs) (d :: ds) .returning H nx K
    | false => False
 | .ret => match dfs with
  | [] => vRes P env H rs fun vs => K (.ret (oneOf vs)) H nx
  | d :: ds => match tmpsOf env rs with
   | some vs => lv vs (d :: ds) .returning H nx K
   | none => match rvOK rs with
    | true => lvc (rvals env rs) (d :: ds) .returning H nx K
    | false => False
 | .pan l => match dfs with
  | [] => K (.pan l) H nx
  | d :: ds => match tmpsOf env rs with
   | some vs => lv vs (d :: ds) (.panicking l) H nx K
   | none => match rvOK rs with
    | true => lvc (rvals env rs) (d :: ds) (.panicking l) H nx K
    | false => False
 | .exit _ => False
theorem endK_ok {P : Program} {K : EndP} {rs : List ResultVar} {env : Env} {H : Heap} {nx : Nat} {dfs : Dfs} {rc : Option AMode} {e : AExit} (h : endK P (lvSem (TriDP P)) (lvcSem P (TriDP P)) K rs e env H nx dfs rc) :
  match e with
  | .normal => leaveV P (TriDP P) rs env dfs .returning H nx K
  | .ret => leaveV P (TriDP P) rs env dfs .returning H nx K
  | .pan l => leaveV P (TriDP P) rs env dfs (.panicking l) H nx K
  | .exit _ => False := by
 cases e with
 | exit _ => exact h
 | normal =>
  cases dfs with
  | nil => exact vRes_ok (k := fun vs => K (.ret (oneOf vs)) H nx) h
  | cons d ds =>
   have h' : (match tmpsOf env rs with
    | some vs => lvSem (TriDP P) vs (d :: ds) .returning H nx K
    | none => match rvOK rs with
     | true => lvcSem P (TriDP P) (rvals env rs) (d :: ds) .returning H nx K
     | false => False) := h
   split at h'
   ·exact lvSem_ok ‹_› h'
   ·split at h' <;> first | exact h'.elim | exact lvcSem_ok ‹_› h'
 | ret =>
  cases dfs with
  | nil => exact vRes_ok (k := fun vs => K (.ret (oneOf vs)) H nx) h
  | cons d ds =>
   have h' : (match tmpsOf env rs with
    | some vs => lvSem (TriDP P) vs (d :: ds) .returning H nx K
    | none => match rvOK rs with
     | true => lvcSem P (TriDP P) (rvals env rs) (d :: ds) .returning H nx K
     | false => False) := h
   split at h'
   ·exact lvSem_ok ‹_› h'
   ·split at h' <;> first | exact h'.elim | exact lvcSem_ok ‹_› h'
 | pan l =>
  cases dfs with
  | nil => exact h
  | cons d ds =>
   have h' : (match tmpsOf env rs with
    | some vs => lvSem (TriDP P) vs (d :: ds) (.panicking l) H nx K
    | none => match rvOK rs with
     | true => lvcSem P (TriDP P) (rvals env rs) (d :: ds) (.panicking l) H nx K
     | false => False) := h
   split at h'
   ·exact lvSem_ok ‹_› h'
   ·split at h' <;> first | exact h'.elim | exact lvcSem_ok ‹_› h'
theorem TriP_mono (P : Program) : ∀ f args H nx (K K' : EndP), TriP P f args H nx K → (∀ e H' nx', K e H' nx' → K' e H' nx') → TriP P f args H nx K' := fun _ _ _ _ _ _ h hk => h.mono hk
theorem TriP.of_body {P : Program} (hm : P.follows .mixedOrders = true) {f : FuncId} {args : List AVal} {H : Heap} {nx : Nat} {K : EndP}
  (h : vBody P (TriP P) (LpP P) f args H nx (endK P (lvSem (TriDP P)) (lvcSem P (TriDP P)) K)) : TriP P f args H nx K := by
 unfold vBody at h
 split at h <;> try exact h.elim
 rename_i fn hf
 split at h <;> try exact h.elim
 rename_i c hb hn ha
 have hn' : fn.ntmps ≤ 4096 := Nat.le_of_ble_eq_true hn
 have ha' : args.length ≤ fn.ntmps := Nat.le_of_ble_eq_true ha
 intro σ w args' R hr hda hR
 refine calls_of_wp_defers hf hb ?_
 have hEnv := enter_rel hn' ha' hda
 refine vK_none hm (TriP_mono P) (fun _ _ _ _ _ h => h) (LpP_ok P _) c _ H nx [] _ h σ w _ _ hr ⟨hEnv, .nil⟩ ?_
 intro ex env' H' nx' dfs' σ' w' a' e hk R1 E1 A1 X1
 have fin : ∀ m u, MRel σ' m u → leaveV P (TriDP P) fn.results.toList env' dfs' m H' nx' K → Leaves P fn a'.tmps R a'.defers u w' := by
  intro m u hmu hlv
  exact leaveV_ok (fn := fn) (nt := fn.ntmps) (fun _ _ _ _ _ _ h => h) dfs' m H' nx' K hlv σ' w' u a'.defers a'.tmps R R1 A1.env A1.dfs hmu
   fun e2 H2 nx2 σ2 w2 en2 hk2 R2 E2 X2 => hR e2 H2 nx2 σ2 w2 en2 hk2 R2 (E1.trans E2) X2
 have hk := endK_ok hk
 cases ex with
 | normal => cases e <;> first | exact X1.elim | exact fin .returning .returning trivial hk
 | ret => cases e <;> first | exact X1.elim | exact fin .returning .returning trivial hk
 | pan l =>
  cases e <;> try exact X1.elim
  exact fin (.panicking l) (.panicking _) X1 hk
 | exit i => exact hk.elim
end
end Go.Vs
end
section
namespace Go.Vs
variable [GTab]
noncomputable section
def noLp : Nat → LoopP := fun _ _ _ _ _ _ _ _ => False
theorem vK_some {P : Program} {call : CallP} {nt : Nat} (hm : P.follows .mixedOrders = true)
  (hcm : ∀ f args H nx (K K' : EndP), call f args H nx K → (∀ e H' nx', K e H' nx' → K' e H' nx') → call f args H nx K') (hc : CallSP P call) :
  ∀ (c : Code) (env : Env) (H : Heap) (nx : Nat) (dfs : Dfs) (m : AMode) (K : KP), vK P call (noLp nt) nt c env H nx dfs (some m) K →
   ∀ σ w a u (c₀ : Frame) cs Q, Rel σ H nx w → ARel σ nt env dfs a → MRel σ m u → PostSP nt K σ H nx w c₀ cs Q → c.wpS P Q a ({ c₀ with mode := u } :: cs) w := by
 intro c
 induction c with
 | skip => exact fun env H nx dfs m K h σ w a u c₀ cs Q hr ha hmr hQ => wpS_of_wp (wp_skip (hQ .normal env H nx dfs m σ w a .normal u h hr (Ext.refl _ _ _ _) ha trivial hmr))
 | region id ops draw =>
  intro env H nx dfs m K h σ w a u c₀ cs Q hr ha hmr hQ
  cases draw with
  | false =>
   refine wpS_region ?_
   have := vOps_some hc ops.toList 0 env H nx dfs m (by simp) h σ w a u c₀ cs Q hr ha hmr hQ
   rw [List.range_eq_range', ← Array.length_toList]
   exact this
  | true => exact wpS_of_wp (vDrawn_wp hm hcm hc h id σ w a _ hr ha fun ex env' H' nx' σ' w' a' e hk R E A X => hQ ex env' H' nx' dfs m σ' w' a' e u hk R E A X (hmr.mono E.sub))
 | seq x y ihx ihy =>
  intro env H nx dfs m K h σ w a u c₀ cs Q hr ha hmr hQ
  refine wpS_seq (ihx env H nx dfs m _ h σ w a u c₀ cs _ hr ha hmr ?_)
  intro ex env' H' nx' dfs' m' σ' w' a' e u' hk R E A X M
  cases ex with
  | normal => cases e <;> first | exact X.elim | exact ihy env' H' nx' dfs' m' K hk σ' w' a' u' c₀ cs Q R A M (hQ.from E)
  | exit id => cases e <;> first | exact X.elim | exact hQ _ _ _ _ _ m' σ' w' a' _ u' hk R E A X M
  | ret => cases e <;> first | exact X.elim | exact hQ _ _ _ _ _ m' σ' w' a' _ u' hk R E A X M
  | pan l => cases e <;> first | exact X.elim | exact hQ _ _ _ _ _ m' σ' w' a' _ u' hk R E A X M
 | cond c x y ihx ihy =>
  intro env H nx dfs m K h σ w a u c₀ cs Q hr ha hmr hQ
  have h' : (match aev env c with
   | .bool p => Bool.rec (vK P call (noLp nt) nt y (learn c false env) H nx dfs (some m) K) (vK P call (noLp nt) nt x (learn c true env) H nx dfs (some m) K) p
   | _ => False) := h
  split at h' <;> first | exact h'.elim | skip
  rename_i p hp
  cases p with
  | true =>
   have h2 : vK P call (noLp nt) nt x (learn c true env) H nx dfs (some m) K := h'
   rw [learn_eq hp] at h2
   exact wpS_cond (t := true) (eval_bool ha hp) (ihx env H nx dfs m K h2 σ w a u c₀ cs Q hr ha hmr hQ)
  | false =>
   have h2 : vK P call (noLp nt) nt y (learn c false env) H nx dfs (some m) K := h'
   rw [learn_eq hp] at h2
   exact wpS_cond (t := false) (eval_bool ha hp) (ihy env H nx dfs m K h2 σ w a u c₀ cs Q hr ha hmr hQ)
 | block id x ihx =>
  intro env H nx dfs m K h σ w a u c₀ cs Q hr ha hmr hQ
  refine wpS_block (ihx env H nx dfs m _ h σ w a u c₀ cs _ hr ha hmr ?_)
  intro ex env' H' nx' dfs' m' σ' w' a' e u' hk R E A X M
  cases ex with
  | normal => cases e <;> first | exact X.elim | exact hQ _ _ _ _ _ m' σ' w' a' _ u' hk R E A X M
  | exit j =>
   cases e <;> try exact X.elim
   have X' : j = _ := X
   subst X'
   cases hb : Nat.beq j id with
   | true =>
    have hid := Nat.eq_of_beq_eq_true hb
    simp only [hb] at hk
    simp only [hid, if_true]
    exact hQ _ _ _ _ _ m' σ' w' a' .normal u' hk R E A trivial M
   | false =>
    have hid : j ≠ id := fun e => by subst e; simp at hb
    simp only [hb] at hk
    simp only [hid, if_false]
    exact hQ _ _ _ _ _ m' σ' w' a' _ u' hk R E A rfl M
  | ret => cases e <;> first | exact X.elim | exact hQ _ _ _ _ _ m' σ' w' a' _ u' hk R E A X M
  | pan l => cases e <;> first | exact X.elim | exact hQ _ _ _ _ _ m' σ' w' a' _ u' hk R E A X M
 | loop x _ => exact fun env H nx dfs m K h => h.elim
 | exit id => exact fun env H nx dfs m K h σ w a u c₀ cs Q hr ha hmr hQ => wpS_of_wp (wp_exit (hQ _ env H nx dfs m σ w a (.exit id) u h hr (Ext.refl _ _ _ _) ha rfl hmr))
 | ret => exact fun env H nx dfs m K h σ w a u c₀ cs Q hr ha hmr hQ => wpS_of_wp (wp_ret (hQ _ env H nx dfs m σ w a .ret u h hr (Ext.refl _ _ _ _) ha trivial hmr))
 | rangeFunc f p x y => exact fun env H nx dfs m K h => h.elim
 | scope x => exact fun env H nx dfs m K h => h.elim
 | label l => exact fun env H nx dfs m K h => h.elim
 | goto l => exact fun env H nx dfs m K h => h.elim
 | refuse s => exact fun env H nx dfs m K h => h.elim
def vBodyS (P : Program) (call : CallP) (lp : Nat → LoopP) (f : FuncId) (args : List AVal) (m : AMode) (H : Heap) (nx : Nat) (K : List ResultVar → KP) : Prop :=
 match P.funcs[f]? with
 | some fn => match fn.body, Nat.ble fn.ntmps 4096, Nat.ble args.length fn.ntmps with
  | some c, true, true => vK P call (lp fn.ntmps) fn.ntmps c (enterEnv args 0 (all2 (.tuple []))) H nx [] (some m) (K fn.results.toList)
  | _, _, _ => False
 | none => False
def endD (K : AEnd → AMode → Heap → Nat → Prop) (rs : List ResultVar) : KP := fun e env H nx dfs rc => match e, dfs, rc with
 | .normal, [], some m => match tmpsOf env rs with
  | some vs => K (.ret (oneOf vs)) m H nx
  | none => False
 | .ret, [], some m => match tmpsOf env rs with
  | some vs => K (.ret (oneOf vs)) m H nx
  | none => False
 | .pan l, [], some m => K (.pan l) m H nx
 | _, _, _ => False
theorem TriDP.of_bodyS {P : Program} (hm : P.follows .mixedOrders = true) {f : FuncId} {args : List AVal} {m : AMode} {H : Heap} {nx : Nat} {K : AEnd → AMode → Heap → Nat → Prop} (hbody : hasBody P f = true)
  (h : vBodyS P (TriP P) noLp f args m H nx (endD K)) : TriDP P f args m H nx K := by
 refine ⟨hbody, ?_⟩
 unfold vBodyS at h
 split at h <;> try exact h.elim
 rename_i fn hf
 split at h <;> try exact h.elim
 rename_i c hb hn ha
 have hn' : fn.ntmps ≤ 4096 := Nat.le_of_ble_eq_true hn
 have ha' : args.length ≤ fn.ntmps := Nat.le_of_ble_eq_true ha
 intro σ w args' u R hr hda hmr hR
 refine callsD_of_wpS hf hb fun c₀ cs hu => ?_
 have hc0 : ({ c₀ with mode := u } : Frame) = c₀ := by subst hu; rfl
 have hEnv := enter_rel hn' ha' hda
 rw [← hc0]
 refine vK_some hm (TriP_mono P) (fun _ _ _ _ _ h => h) c _ H nx [] m _ h σ w _ u c₀ cs _ hr ⟨hEnv, .nil⟩ hmr ?_
 intro ex env' H' nx' dfs' m' σ' w' a' e u' hk R1 E1 A1 X1 M1
 have hdn : dfs' = [] → a'.defers = [] := fun hdf => by
  have hA := A1.dfs
  rw [hdf] at hA
  cases hq : a'.defers with
  | nil => rfl
  | cons x y => rw [hq] at hA; cases hA
 unfold endD at hk
 split at hk <;> try exact hk.elim
 ·rename_i hrc
  cases hrc
  cases e <;> try exact X1.elim
  split at hk <;> try exact hk.elim
  rename_i vs htm
  obtain ⟨vs', hvs, hk2⟩ := vRes_ok (P := P) (H := H') (vRes_tmps (k := fun vs' => vs' = vs) htm rfl)
  obtain ⟨v', dv, hrun⟩ := results_ok (fn := fn) R1 A1.env hvs
  subst hk2
  exact ⟨hdn rfl, u', rfl, v', hrun, hR _ _ _ _ σ' w' _ u' hk R1 E1 dv M1⟩
 ·rename_i hrc
  cases hrc
  cases e <;> try exact X1.elim
  split at hk <;> try exact hk.elim
  rename_i vs htm
  obtain ⟨vs', hvs, hk2⟩ := vRes_ok (P := P) (H := H') (vRes_tmps (k := fun vs' => vs' = vs) htm rfl)
  obtain ⟨v', dv, hrun⟩ := results_ok (fn := fn) R1 A1.env hvs
  subst hk2
  exact ⟨hdn rfl, u', rfl, v', hrun, hR _ _ _ _ σ' w' _ u' hk R1 E1 dv M1⟩
 ·rename_i hrc
  cases hrc
  cases e <;> try exact X1.elim
  exact ⟨hdn rfl, u', rfl, hR _ _ _ _ σ' w' _ u' hk R1 E1 X1 M1⟩
theorem TriDP.of_end {P : Program} (hm : P.follows .mixedOrders = true) {f : FuncId} {args : List AVal} {m : AMode} {H : Heap} {nx : Nat} {K : AEnd → AMode → Heap → Nat → Prop} (hbody : hasBody P f = true)
  (h : vBody P (TriP P) (LpP P) f args H nx (endK P (fun _ _ _ _ _ _ => False) (fun _ _ _ _ _ _ => False) fun e H' nx' => K e m H' nx')) : TriDP P f args m H nx K := by
 refine ⟨hbody, ?_⟩
 unfold vBody at h
 split at h <;> try exact h.elim
 rename_i fn hf
 split at h <;> try exact h.elim
 rename_i c hb hn ha
 have hn' : fn.ntmps ≤ 4096 := Nat.le_of_ble_eq_true hn
 have ha' : args.length ≤ fn.ntmps := Nat.le_of_ble_eq_true ha
 intro σ w args' u R hr hda hmr hR
 refine callsD_of_wpS hf hb fun c₀ cs hu => ?_
 have hc0 : ({ c₀ with mode := u } : Frame) = c₀ := by subst hu; rfl
 have hEnv := enter_rel hn' ha' hda
 refine wpS_of_wp (vK_none hm (TriP_mono P) (fun _ _ _ _ _ h => h) (LpP_ok P _) c _ H nx [] _ h σ w _ _ hr ⟨hEnv, .nil⟩ ?_)
 intro ex env' H' nx' dfs' σ' w' a' e hk R1 E1 A1 X1
 have hdn : dfs' = [] → a'.defers = [] := fun hdf => by
  have hA := A1.dfs
  rw [hdf] at hA
  cases hq : a'.defers with
  | nil => rfl
  | cons x y => rw [hq] at hA; cases hA
 cases dfs' with
 | cons q qs =>
  exfalso
  cases ex <;> (unfold endK at hk; dsimp only at hk; repeat' split at hk) <;> first | exact hk | exact hk.elim
 | nil =>
  cases ex with
  | normal =>
   cases e <;> try exact X1.elim
   obtain ⟨vs, hvs, hk2⟩ := vRes_ok (k := fun vs => K (.ret (oneOf vs)) m H' nx') hk
   obtain ⟨v', dv, hrun⟩ := results_ok (fn := fn) R1 A1.env hvs
   exact ⟨hdn rfl, u, hc0.symm ▸ rfl, v', hrun, hR _ _ _ _ σ' w' _ u hk2 R1 E1 dv (hmr.mono E1.sub)⟩
  | ret =>
   cases e <;> try exact X1.elim
   obtain ⟨vs, hvs, hk2⟩ := vRes_ok (k := fun vs => K (.ret (oneOf vs)) m H' nx') hk
   obtain ⟨v', dv, hrun⟩ := results_ok (fn := fn) R1 A1.env hvs
   exact ⟨hdn rfl, u, hc0.symm ▸ rfl, v', hrun, hR _ _ _ _ σ' w' _ u hk2 R1 E1 dv (hmr.mono E1.sub)⟩
  | pan l =>
   cases e <;> try exact X1.elim
   exact ⟨hdn rfl, u, hc0.symm ▸ rfl, hR _ _ _ _ σ' w' _ u hk R1 E1 X1 (hmr.mono E1.sub)⟩
  | exit j => exact (hk : False).elim
end
end Go.Vs
end
section
namespace Go.Vs
variable [GTab]
noncomputable section
def subAt : Code → List Nat → Code
 | .seq a _, 0 :: p => subAt a p
 | .seq _ b, _ :: p => subAt b p
 | .cond _ a _, 0 :: p => subAt a p
 | .cond _ _ b, _ :: p => subAt b p
 | .block _ a, _ :: p => subAt a p
 | .loop a, _ :: p => subAt a p
 | c, _ => c
def contAt (P : Program) (call : CallP) (lp : LoopP) (nt : Nat) : Code → List Nat → KP → KP
 | .seq a b, 0 :: p, K => contAt P call lp nt a p fun e env H nx dfs rc => match e with
  | .normal => vK P call lp nt b env H nx dfs rc K
  | .exit id => K (.exit id) env H nx dfs rc
  | .ret => K .ret env H nx dfs rc
  | .pan l => K (.pan l) env H nx dfs rc
 | .seq _ b, _ :: p, K => contAt P call lp nt b p K
 | .cond _ a _, 0 :: p, K => contAt P call lp nt a p K
 | .cond _ _ b, _ :: p, K => contAt P call lp nt b p K
 | .block id a, _ :: p, K => contAt P call lp nt a p fun e env H nx dfs rc => match e with
  | .normal => K .normal env H nx dfs rc
  | .exit j => match Nat.beq j id with
   | true => K .normal env H nx dfs rc
   | false => K (.exit j) env H nx dfs rc
  | .ret => K .ret env H nx dfs rc
  | .pan l => K (.pan l) env H nx dfs rc
 | _, _, K => K
def envL (base : AVal) : List (Nat × AVal) → Env
 | [] => all2 base
 | (t, v) :: l => set2 t v (envL base l)
def EnvAll (env : Env) : List (Nat × AVal) → Prop
 | [] => True
 | (t, v) :: l => env t = v ∧ EnvAll env l
theorem EnvLe.of_list {env : Env} : ∀ {l : List (Nat × AVal)}, EnvAll env l → EnvLe (envL .und l) env
 | [], _ => fun _ _ => .inl rfl
 | (t, v) :: l, ⟨h, hl⟩ => fun s hs => by
  show (Bool.rec (envL .und l s) v (Nat.beq s t) : AVal) = .und ∨ (Bool.rec (envL .und l s) v (Nat.beq s t) : AVal) = env s
  cases e : Nat.beq s t with
  | true => have := Nat.eq_of_beq_eq_true e; subst this; exact .inr h.symm
  | false => exact EnvLe.of_list hl s hs
def codeOf (P : Program) (f : FuncId) : Code := match P.funcs[f]? with
 | some fn => match fn.body with
  | some c => c
  | none => .skip
 | none => .skip
def resOf (P : Program) (f : FuncId) : List ResultVar := match P.funcs[f]? with
 | some fn => fn.results.toList
 | none => []
def newB (b : Nat) (cs : List AVal) (H : Heap) : Heap := set5 b (some (.cells cs.length (CT.ofL cs.length cs) [] false)) H
def newBN (b n : Nat) (cs : List AVal) (H : Heap) : Heap := set5 b (some (.cells n (CT.ofL n cs) [] false)) H
def loopK (N : KC) (X : Nat → KC) (R : KC) (Pn : List (AVal × Bool) → KC) : KP := fun e env H nx dfs rc => match e with
 | .normal => N env H nx dfs rc
 | .exit id => X id env H nx dfs rc
 | .ret => R env H nx dfs rc
 | .pan l => Pn l env H nx dfs rc
end
end Go.Vs
end
section
namespace Go.Vs
variable [GTab]
noncomputable section
def splice (cs : List AVal) (off : Nat) (vs : List AVal) : List AVal := cs.take off ++ vs ++ cs.drop (off + vs.length)
theorem splice_length {cs vs : List AVal} {off : Nat} (h : off + vs.length ≤ cs.length) : (splice cs off vs).length = cs.length := by
 simp [splice]; omega
theorem onEnd_ret {v : AVal} {r : AVal → Prop} {p : List (AVal × Bool) → Prop} : onEnd (.ret v) r p ↔ r v := by simp [onEnd]
theorem onEnd_pan {l : List (AVal × Bool)} {r : AVal → Prop} {p : List (AVal × Bool) → Prop} : onEnd (.pan l) r p ↔ p l := by simp [onEnd]
theorem idxS_slice {b off len e n esz : Nat} {full : Bool} (h : n < len) : idxS (.slice b off len e full) n esz = some (.ptr b (off + n * esz)) := by
 have : Nat.ble (Nat.succ n) len = true := ble_of h
 simp only [idxS, this]
 rfl
theorem wrap64_id {n : Int} (h0 : -9223372036854775808 ≤ n) (h1 : n ≤ 9223372036854775807) : IntKind.i64.wrap n = n := IntWalk.i64_in _ (by omega)
end
end Go.Vs
end
section
namespace Go.Vs
variable [GTab]
noncomputable section
def WpP (P : Program) (nt : Nat) (c : Code) (env : Env) (H : Heap) (nx : Nat) (dfs : Dfs) (K : KP) : Prop :=
 ∀ σ w act Q, Rel σ H nx w → ARel σ nt env dfs act → PostP nt K σ H nx w Q → c.wp P Q act w
section
variable {P : Program} {nt : Nat} {c a b : Code} {env e : Env} {H : Heap} {nx : Nat} {dfs : Dfs} {K K' : KP}
theorem WpP.of_vK (hm : P.follows .mixedOrders = true) (h : vK P (TriP P) (LpP P nt) nt c env H nx dfs none K) : WpP P nt c env H nx dfs K :=
 vK_none hm (TriP_mono P) (fun _ _ _ _ _ h => h) (LpP_ok P nt) c env H nx dfs K h
theorem WpP.weaken (hle : EnvLe e env) (h : WpP P nt c e H nx dfs K) : WpP P nt c env H nx dfs K :=
 fun σ w act Q hr ha hQ => h σ w act Q hr (ha.weaken hle) hQ
theorem WpP.mono (h : WpP P nt c env H nx dfs K) (hk : ∀ ex env' H' nx' dfs', K ex env' H' nx' dfs' none → K' ex env' H' nx' dfs' none) : WpP P nt c env H nx dfs K' :=
 fun σ w act Q hr ha hQ => h σ w act Q hr ha fun ex env' H' nx' dfs' σ' w' a' e k R E A X => hQ ex env' H' nx' dfs' σ' w' a' e (hk _ _ _ _ _ k) R E A X
def trim (ts : List Nat) (env : Env) : Env := envL .und (ts.map fun t => (t, env t))
theorem trim_le (ts : List Nat) (env : Env) : EnvLe (trim ts env) env := by
 refine EnvLe.of_list ?_
 induction ts with
 | nil => trivial
 | cons t ts ih => exact ⟨rfl, ih⟩
def trimK (ts : List Nat) (K : KP) : KP := fun ex env H nx dfs rc => K ex (trim ts env) H nx dfs rc
theorem WpP.trim {ts : List Nat} (h : WpP P nt c env H nx dfs (trimK ts K)) : WpP P nt c env H nx dfs K :=
 fun σ w act Q hr ha hQ => h σ w act Q hr ha fun ex env' H' nx' dfs' σ' w' a' e k R E A X => hQ ex _ H' nx' dfs' σ' w' a' e k R E (A.weaken (trim_le ts env')) X
def thenK (b : Env → Heap → Nat → Dfs → Prop) (K : KP) : KP := fun ex env H nx dfs rc => match ex with
 | .normal => b env H nx dfs
 | .exit id => K (.exit id) env H nx dfs rc
 | .ret => K .ret env H nx dfs rc
 | .pan l => K (.pan l) env H nx dfs rc
theorem WpP.seq (h : WpP P nt a env H nx dfs (thenK (fun env H nx dfs => WpP P nt b env H nx dfs K) K)) : WpP P nt (.seq a b) env H nx dfs K := by
 intro σ w act Q hr ha hQ
 refine wp_seq (h σ w act _ hr ha ?_)
 intro ex env' H' nx' dfs' σ' w' a' e hk R E A X
 cases ex with
 | normal => cases e <;> first | exact X.elim | exact hk σ' w' a' Q R A (hQ.from E)
 | exit id => cases e <;> first | exact X.elim | exact hQ _ _ _ _ _ σ' w' a' _ hk R E A X
 | ret => cases e <;> first | exact X.elim | exact hQ _ _ _ _ _ σ' w' a' _ hk R E A X
 | pan l => cases e <;> first | exact X.elim | exact hQ _ _ _ _ _ σ' w' a' _ hk R E A X
theorem WpP.cond {x : Operand} {p : Bool} (hp : aev env x = .bool p) (h : WpP P nt (match p with | true => a | false => b) env H nx dfs K) : WpP P nt (.cond x a b) env H nx dfs K := by
 intro σ w act Q hr ha hQ
 cases p with
 | true => exact wp_cond (t := true) (eval_bool ha hp) (h σ w act Q hr ha hQ)
 | false => exact wp_cond (t := false) (eval_bool ha hp) (h σ w act Q hr ha hQ)
def blockK (i : Nat) (K : KP) : KP := fun ex env H nx dfs rc => match ex with
 | .exit j => if j = i then K .normal env H nx dfs rc else K (.exit j) env H nx dfs rc
 | .normal => K .normal env H nx dfs rc
 | .ret => K .ret env H nx dfs rc
 | .pan l => K (.pan l) env H nx dfs rc
theorem WpP.block {i : Nat} (h : WpP P nt a env H nx dfs (blockK i K)) : WpP P nt (.block i a) env H nx dfs K := by
 intro σ w act Q hr ha hQ
 refine wp_block (h σ w act _ hr ha ?_)
 intro ex env' H' nx' dfs' σ' w' a' e hk R E A X
 cases ex with
 | normal => cases e <;> first | exact X.elim | exact hQ _ _ _ _ _ σ' w' a' _ hk R E A X
 | exit j =>
  cases e <;> try exact X.elim
  rename_i j'
  have hj : j = j' := by first | exact X | exact X.symm
  subst hj
  have hk' : (if j = i then K .normal env' H' nx' dfs' none else K (.exit j) env' H' nx' dfs' none) := hk
  show (if j = i then Q .normal a' w' else Q (.exit j) a' w')
  by_cases hji : j = i
  ·rw [if_pos hji] at hk' ⊢
   exact hQ .normal _ _ _ _ σ' w' a' _ hk' R E A trivial
  ·rw [if_neg hji] at hk' ⊢
   exact hQ (.exit j) _ _ _ _ σ' w' a' _ hk' R E A (by first | exact rfl | exact X)
 | ret => cases e <;> first | exact X.elim | exact hQ _ _ _ _ _ σ' w' a' _ hk R E A X
 | pan l => cases e <;> first | exact X.elim | exact hQ _ _ _ _ _ σ' w' a' _ hk R E A X
theorem LpP.of_wp (h : WpP P nt (.loop a) env H nx dfs K) {rc : Option AMode} : LpP P nt a env H nx dfs rc K := fun σ w act Q hr ha hQ => h σ w act Q hr ha hQ
end
theorem loop_rule_w {P : Program} {nt : Nat} {a : Code} {K : KP} (Inv : Nat → Env → Heap → Nat → Dfs → Prop) (Kx : Nat → Dfs → KP)
  (hKx : ∀ m dfs ex env' H' nx' dfs', Kx m dfs ex env' H' nx' dfs' none → match ex with
   | .normal => ∃ m' env'', m' < m ∧ EnvLe env'' env' ∧ Inv m' env'' H' nx' dfs'
   | ex => ∃ env'', EnvLe env'' env' ∧ K ex env'' H' nx' dfs' none)
  (step : ∀ m env H nx dfs, Inv m env H nx dfs → WpP P nt a env H nx dfs (Kx m dfs))
  {m0 : Nat} {env : Env} {H : Heap} {nx : Nat} {dfs : Dfs} (h0 : Inv m0 env H nx dfs) : WpP P nt (.loop a) env H nx dfs K := by
 intro σ w act Q hr ha hQ
 let J : Nat → Act → World → Prop := fun m act w => ∃ env H nx dfs σ, Inv m env H nx dfs ∧ Rel σ H nx w ∧ ARel σ nt env dfs act ∧ PostP nt K σ H nx w Q
 have hJ : J m0 act w := ⟨env, H, nx, dfs, σ, h0, hr, ha, hQ⟩
 have round : ∀ m act w, J m act w → a.wp P (Exit.then (fun a' w' => ∃ m', m' < m ∧ J m' a' w') Q) act w := by
  rintro m act w ⟨env, H, nx, dfs, σ, hI, hr, ha, hQ⟩
  refine step m env H nx dfs hI σ w act _ hr ha ?_
  intro ex env' H' nx' dfs' σ' w' a' e hk R E A X
  have hk' := hKx m dfs ex env' H' nx' dfs' hk
  cases ex with
  | normal =>
   cases e <;> try exact X.elim
   obtain ⟨m', env'', hlt, hle, hI'⟩ := hk'
   exact ⟨m', hlt, env'', H', nx', dfs', σ', hI', R, A.weaken hle, hQ.from E⟩
  | exit id =>
   obtain ⟨env'', hle, hk2⟩ := hk'
   cases e <;> first | exact X.elim | exact hQ (.exit id) env'' _ _ _ σ' w' a' _ hk2 R E (A.weaken hle) X
  | ret =>
   obtain ⟨env'', hle, hk2⟩ := hk'
   cases e <;> first | exact X.elim | exact hQ .ret env'' _ _ _ σ' w' a' _ hk2 R E (A.weaken hle) X
  | pan l =>
   obtain ⟨env'', hle, hk2⟩ := hk'
   cases e <;> first | exact X.elim | exact hQ (.pan l) env'' _ _ _ σ' w' a' _ hk2 R E (A.weaken hle) X
 have least : ∀ act w, (∃ m, J m act w) → ∃ m, J m act w ∧ ∀ m', J m' act w → m ≤ m' := by
  rintro act w ⟨m, h⟩
  induction m using Nat.strongRecOn with
  | _ m ih =>
   by_cases hx : ∃ m', m' < m ∧ J m' act w
   ·obtain ⟨m', hlt, h'⟩ := hx
    exact ih m' hlt h'
   ·exact ⟨m, h, fun m' h' => Nat.le_of_not_lt fun hlt => hx ⟨m', hlt, h'⟩⟩
 let μ : Act → World → Nat := fun act w => @dite Nat (∃ m, J m act w) (Classical.propDecidable _) (fun h => Classical.choose (least act w h)) (fun _ => 0)
 have μs : ∀ act w, (∃ m, J m act w) → J (μ act w) act w ∧ ∀ m', J m' act w → μ act w ≤ m' := by
  intro act w h
  have : μ act w = Classical.choose (least act w h) := by simp only [μ, h, dite_true]
  rw [this]
  exact Classical.choose_spec (least act w h)
 refine wp_loop (fun act w => ∃ m, J m act w) μ ⟨m0, hJ⟩ ?_
 intro act w h
 obtain ⟨h1, _⟩ := μs act w h
 refine wp_mono (round _ act w h1) ?_
 intro e a' w' hq
 cases e with
 | normal =>
  obtain ⟨m', hlt, hj⟩ := hq
  exact ⟨⟨m', hj⟩, Nat.lt_of_le_of_lt ((μs a' w' ⟨m', hj⟩).2 m' hj) hlt⟩
 | exit id => exact hq
 | goto l => exact hq
 | ret => exact hq
 | panic c => exact hq
 | outgrown => exact hq
theorem loop_w {P : Program} {nt : Nat} {a : Code} {K : KP} {X Y : Type} (canon : X → Env) (canonY : Y → Env)
  (I : Nat → X → Heap → Nat → Prop) (J : Nat → Y → Heap → Nat → Prop) {env : Env} {H : Heap} {nx : Nat} {dfs : Dfs} {rc : Option AMode} (m0 : Nat) (x0 : X)
  (hle : EnvLe (canon x0) env) (h0 : I m0 x0 H nx)
  (step : ∀ m x H nx, I m x H nx → WpP P nt a (canon x) H nx dfs
   (loopK (fun env' H' nx' dfs' _ => dfs' = dfs ∧ ∃ m' x', m' < m ∧ EnvLe (canon x') env' ∧ I m' x' H' nx')
    (fun id env' H' nx' dfs' _ => dfs' = dfs ∧ ∃ y, EnvLe (canonY y) env' ∧ J id y H' nx')
    (fun env' H' nx' dfs' rc' => K .ret env' H' nx' dfs' rc') (fun l env' H' nx' dfs' rc' => K (.pan l) env' H' nx' dfs' rc')))
  (after : ∀ id y H nx, J id y H nx → K (.exit id) (canonY y) H nx dfs none) :
  LpP P nt a env H nx dfs rc K := by
 refine LpP.of_wp (WpP.weaken hle ?_)
 refine loop_rule_w (K := K)
  (fun m env' H' nx' dfs' => dfs' = dfs ∧ ∃ x, env' = canon x ∧ I m x H' nx')
  (fun m _ => loopK (fun env' H' nx' dfs' _ => dfs' = dfs ∧ ∃ m' x', m' < m ∧ EnvLe (canon x') env' ∧ I m' x' H' nx')
    (fun id env' H' nx' dfs' _ => dfs' = dfs ∧ ∃ y, EnvLe (canonY y) env' ∧ J id y H' nx')
    (fun env' H' nx' dfs' rc' => K .ret env' H' nx' dfs' rc') (fun l env' H' nx' dfs' rc' => K (.pan l) env' H' nx' dfs' rc')) ?_ ?_
  (m0 := m0) ⟨rfl, x0, rfl, h0⟩
 ·intro m dfs1 ex env' H' nx' dfs' h
  cases ex with
  | normal =>
   obtain ⟨h1, m', x', h2, h3, h4⟩ := h
   exact ⟨m', canon x', h2, h3, h1, x', rfl, h4⟩
  | exit id =>
   obtain ⟨rfl, y, h2, h3⟩ := h
   exact ⟨canonY y, h2, after id y H' nx' h3⟩
  | ret => exact ⟨env', EnvLe.refl _, h⟩
  | pan l => exact ⟨env', EnvLe.refl _, h⟩
 ·rintro m env' H' nx' dfs' ⟨rfl, x, rfl, hI⟩
  exact step m x H' nx' hI
end
end Go.Vs
end
section
namespace Go.Vs
structure Tok where
 kind : Int
 text : List UInt8
 n : Int
 line : Int
 col : Int
inductive Tree where
 | node (kind : Int) (name : List UInt8) (n line col : Int) (kids : List Tree)
structure Flt where
 line : Int
 col : Int
 e : Int
abbrev Rs (α : Type) := Option (Except Flt α)
def Rs.ok {α : Type} (x : α) : Rs α := some (.ok x)
def Rs.bad {α : Type} (f : Flt) : Rs α := some (.error f)
def Rs.bind {α β : Type} (x : Rs α) (k : α → Rs β) : Rs β := match x with
 | none => none
 | some (.error f) => some (.error f)
 | some (.ok a) => k a
namespace Ps
abbrev bs (s : List UInt8) := s
def wType : List UInt8 := [116, 121, 112, 101]
def wStruct : List UInt8 := [115, 116, 114, 117, 99, 116]
def wInterface : List UInt8 := [105, 110, 116, 101, 114, 102, 97, 99, 101]
def wFunc : List UInt8 := [102, 117, 110, 99]
def wVar : List UInt8 := [118, 97, 114]
def wIf : List UInt8 := [105, 102]
def wElse : List UInt8 := [101, 108, 115, 101]
def wFor : List UInt8 := [102, 111, 114]
def wBreak : List UInt8 := [98, 114, 101, 97, 107]
def wContinue : List UInt8 := [99, 111, 110, 116, 105, 110, 117, 101]
def wReturn : List UInt8 := [114, 101, 116, 117, 114, 110]
def wPrint : List UInt8 := [112, 114, 105, 110, 116]
def wLen : List UInt8 := [108, 101, 110]
def wMake : List UInt8 := [109, 97, 107, 101]
def wNew : List UInt8 := [110, 101, 119]
def wInput : List UInt8 := [105, 110, 112, 117, 116]
def wTrue : List UInt8 := [116, 114, 117, 101]
def wFalse : List UInt8 := [102, 97, 108, 115, 101]
def wNil : List UInt8 := [110, 105, 108]
def wInt : List UInt8 := [105, 110, 116]
def wBool : List UInt8 := [98, 111, 111, 108]
def wString : List UInt8 := [115, 116, 114, 105, 110, 103]
def tk (l : List Tok) (at_ : Nat) : Tok := l.getD at_ ⟨0, [], 0, 0, 0⟩
def flt (l : List Tok) (at_ : Nat) (e : Int) : Flt := ⟨(tk l at_).line, (tk l at_).col, e⟩
def is (l : List Tok) (at_ : Nat) (s : List UInt8) : Bool :=
 ((tk l at_).kind == 3 || (tk l at_).kind == 6 || (tk l at_).kind == 1) && (tk l at_).text == s
def need (l : List Tok) (at_ : Nat) (s : List UInt8) : Except Flt Nat := if is l at_ s then .ok (at_ + 1) else .error (flt l at_ 13)
def name (l : List Tok) (at_ : Nat) : Except Flt Nat := if (tk l at_).kind == 2 then .ok (at_ + 1) else .error (flt l at_ 13)
def gapsN (l : List Tok) : Nat → Nat → Nat
 | 0, a => a
 | n + 1, a => if is l a [59] then gapsN l n (a + 1) else a
def gaps (l : List Tok) (a : Nat) : Nat := gapsN l (l.length - a) a
def ends (l : List Tok) (a : Nat) : Except Flt Nat := if is l a [125] then .ok (gaps l a) else match need l a [59] with
 | .ok b => .ok (gaps l b)
 | .error f => .error f
def leaf (t : Tok) (kind : Int) (nm : List UInt8) : Tree := .node kind nm 0 t.line t.col []
def mk (t : Tok) (kind : Int) (nm : List UInt8) (kids : List Tree) : Tree := .node kind nm 0 t.line t.col kids
def none_ : Tree := .node 38 [] 0 0 0 []
def lift {α β : Type} (x : Except Flt α) (k : α → Rs β) : Rs β := match x with
 | .ok a => k a
 | .error f => some (.error f)
def rank (s : List UInt8) : Int :=
 if s = [124, 124] then 1
 else if s = [38, 38] then 2
 else if s = [61, 61] ∨ s = [33, 61] ∨ s = [60] ∨ s = [60, 61] ∨ s = [62] ∨ s = [62, 61] then 3
 else if s = [43] ∨ s = [45] then 4
 else if s = [42] ∨ s = [47] ∨ s = [37] then 5
 else 0
inductive Rule where
 | typ | field | method | param | stmt | ifs | block | expr | binary (k : Int) | binGo (k : Int) (x : Tree) | unary | post | postGo (x : Tree) | prime
def rowGo (l : List Tok) (one : Nat → Rs (Tree × Nat)) : Nat → Nat → Rs (List Tree × Nat)
 | 0, _ => none
 | n + 1, a => Rs.bind (one a) fun (x, b) => if is l b [44] then Rs.bind (rowGo l one n (b + 1)) fun (xs, c) => .ok (x :: xs, c)
  else lift (need l b [41]) fun c => .ok ([x], c)
def row (l : List Tok) (one : Nat → Rs (Tree × Nat)) (n a : Nat) : Rs (List Tree × Nat) :=
 lift (need l a [40]) fun b => if is l b [41] then .ok ([], b + 1) else rowGo l one n b
def listGo (l : List Tok) (one : Nat → Rs (Tree × Nat)) : Nat → Nat → Rs (List Tree × Nat)
 | 0, _ => none
 | n + 1, a => if is l a [125] then .ok ([], a + 1) else Rs.bind (one a) fun (x, b) => lift (ends l b) fun c => Rs.bind (listGo l one n c) fun (xs, d) => .ok (x :: xs, d)
def list (l : List Tok) (one : Nat → Rs (Tree × Nat)) (n a : Nat) : Rs (List Tree × Nat) :=
 lift (need l a [123]) fun b => listGo l one n (gaps l b)
def isTyp (l : List Tok) (a : Nat) : Bool := is l a wInt || is l a wBool || is l a wString
def run (l : List Tok) : Nat → Rule → Nat → Nat → Rs (Tree × Nat)
 | 0, _, _, _ => none
 | n + 1, rule, d, a =>
  let t := tk l a
  let go := run l n
  let result := fun b => if (tk l b).kind == 2 || isTyp l b || is l b [91] then go .typ d b else .ok (none_, b)
  match rule with
  | .typ => if 40 ≤ d then .bad (flt l a 14) else
   if is l a [91] then lift (need l (a + 1) [93]) fun b => Rs.bind (go .typ (d + 1) b) fun (x, c) => .ok (mk t 9 [] [x], c)
   else if isTyp l a then .ok (leaf t 8 t.text, a + 1)
   else lift (name l a) fun b => .ok (leaf t 8 t.text, b)
  | .field => lift (name l a) fun b => Rs.bind (go .typ d b) fun (x, c) => .ok (mk t 4 t.text [x], c)
  | .param => lift (name l a) fun b => Rs.bind (go .typ d b) fun (x, c) => .ok (mk t 7 t.text [x], c)
  | .method => lift (name l a) fun b => Rs.bind (row l (go .typ d) n b) fun (xs, c) => Rs.bind (result c) fun (y, e) => .ok (mk t 5 t.text (y :: xs), e)
  | .block => Rs.bind (list l (go .stmt d) n a) fun (xs, b) => .ok (mk t 10 [] xs, b)
  | .ifs => lift (need l a wIf) fun b => Rs.bind (go .expr d b) fun (e, b) => Rs.bind (go .block d b) fun (y, b) =>
   if is l b wElse then
    if is l (b + 1) wIf then Rs.bind (go .ifs d (b + 1)) fun (z, c) => .ok (mk t 14 [] [e, y, z], c)
    else if is l (b + 1) [123] then Rs.bind (go .block d (b + 1)) fun (z, c) => .ok (mk t 14 [] [e, y, z], c)
    else .bad (flt l (b + 1) 13)
   else .ok (mk t 14 [] [e, y, none_], b)
  | .stmt => if 40 ≤ d then .bad (flt l a 14) else
   let d := d + 1
   if is l a [123] then go .block d a
   else if is l a wVar then lift (name l (a + 1)) fun b => Rs.bind (go .typ d b) fun (ty, c) =>
    if is l c [61] then Rs.bind (go .expr d (c + 1)) fun (e, g) => .ok (mk t 11 (tk l (a + 1)).text [ty, e], g)
    else .ok (mk t 11 (tk l (a + 1)).text [ty, none_], c)
   else if is l a wIf then go .ifs d a
   else if is l a wFor then
    if is l (a + 1) [123] then Rs.bind (go .block d (a + 1)) fun (y, c) => .ok (mk t 15 [] [none_, y], c)
    else Rs.bind (go .expr d (a + 1)) fun (e, b) => Rs.bind (go .block d b) fun (y, c) => .ok (mk t 15 [] [e, y], c)
   else if is l a wBreak then .ok (leaf t 16 [], a + 1)
   else if is l a wContinue then .ok (leaf t 17 [], a + 1)
   else if is l a wReturn then
    if is l (a + 1) [59] || is l (a + 1) [125] then .ok (mk t 18 [] [none_], a + 1)
    else Rs.bind (go .expr d (a + 1)) fun (e, b) => .ok (mk t 18 [] [e], b)
   else if is l a wPrint then lift (need l (a + 1) [40]) fun b => Rs.bind (go .expr d b) fun (e, c) => lift (need l c [41]) fun g => .ok (mk t 20 [] [e], g)
   else Rs.bind (go .expr d a) fun (e, b) =>
    if is l b [58, 61] then Rs.bind (go .expr d (b + 1)) fun (y, c) => .ok (mk (tk l b) 12 [] [e, y], c)
    else if is l b [61] then Rs.bind (go .expr d (b + 1)) fun (y, c) => .ok (mk (tk l b) 13 [] [e, y], c)
    else .ok (mk t 19 [] [e], b)
  | .expr => if 40 ≤ d then .bad (flt l a 14) else go (.binary 1) (d + 1) a
  | .binary k => Rs.bind (go .unary d a) fun (x, b) => go (.binGo k x) d b
  | .binGo k x => if (t.kind == 6) && decide (k ≤ rank t.text) then Rs.bind (go (.binary (rank t.text + 1)) d (a + 1)) fun (y, b) => go (.binGo k (mk t 28 t.text [x, y])) d b
   else .ok (x, a)
  | .unary => if is l a [45] || is l a [33] then Rs.bind (go .unary d (a + 1)) fun (x, b) => .ok (mk t 27 t.text [x], b) else go .post d a
  | .post => Rs.bind (go .prime d a) fun (x, b) => go (.postGo x) d b
  | .postGo x =>
   if is l a [91] then Rs.bind (go .expr d (a + 1)) fun (i, b) => lift (need l b [93]) fun c => go (.postGo (mk t 32 [] [x, i])) d c
   else if is l a [46] then
    if is l (a + 1) [40] then Rs.bind (go .typ d (a + 2)) fun (ty, b) => lift (need l b [41]) fun c => go (.postGo (mk t 37 [] [x, ty])) d c
    else lift (name l (a + 1)) fun b =>
     if is l b [40] then Rs.bind (row l (go .expr d) n b) fun (xs, c) => go (.postGo (mk t 31 (tk l (a + 1)).text (x :: xs))) d c
     else go (.postGo (mk t 30 (tk l (a + 1)).text [x])) d b
   else .ok (x, a)
  | .prime =>
   if t.kind == 4 then .ok (.node 21 [] t.n t.line t.col [], a + 1)
   else if t.kind == 5 then .ok (leaf t 24 t.text, a + 1)
   else if t.kind == 2 then
    if is l (a + 1) [40] then Rs.bind (row l (go .expr d) n (a + 1)) fun (xs, b) => .ok (mk t 29 t.text xs, b)
    else .ok (leaf t 26 t.text, a + 1)
   else if is l a wTrue then .ok (leaf t 22 [], a + 1)
   else if is l a wFalse then .ok (leaf t 23 [], a + 1)
   else if is l a wNil then .ok (leaf t 25 [], a + 1)
   else if is l a [40] then Rs.bind (go .expr d (a + 1)) fun (x, b) => lift (need l b [41]) fun c => .ok (x, c)
   else if is l a wLen then lift (need l (a + 1) [40]) fun b => Rs.bind (go .expr d b) fun (x, c) => lift (need l c [41]) fun g => .ok (mk t 33 [] [x], g)
   else if is l a wNew then lift (need l (a + 1) [40]) fun b => Rs.bind (go .typ d b) fun (x, c) => lift (need l c [41]) fun g => .ok (mk t 35 [] [x], g)
   else if is l a wMake then lift (need l (a + 1) [40]) fun b => Rs.bind (go .typ d b) fun (x, c) => lift (need l c [44]) fun e => Rs.bind (go .expr d e) fun (y, g) => lift (need l g [41]) fun i => .ok (mk t 34 [] [x, y], i)
   else if is l a wInput then lift (need l (a + 1) [40]) fun b => lift (need l b [41]) fun c => .ok (leaf t 36 [], c)
   else .bad (flt l a 13)
def result (l : List Tok) (n : Nat) (b : Nat) : Rs (Tree × Nat) := if (tk l b).kind == 2 || isTyp l b || is l b [91] then run l n .typ 0 b else .ok (none_, b)
def typeDecl (l : List Tok) (n a : Nat) : Rs (Tree × Nat) :=
 lift (need l a wType) fun a1 => lift (name l a1) fun b =>
  if is l b wInterface then Rs.bind (list l (run l n .method 0) n (b + 1)) fun (xs, c) => .ok (mk (tk l a) 3 (tk l a1).text xs, c)
  else lift (need l b wStruct) fun b => Rs.bind (list l (run l n .field 0) n b) fun (xs, c) => .ok (mk (tk l a) 2 (tk l a1).text xs, c)
def recv (l : List Tok) (a : Nat) : Except Flt (Tree × Nat) :=
 if is l a [40] then do
  let b ← name l (a + 1)
  let c ← name l b
  let d ← need l c [41]
  .ok (mk (tk l (a + 1)) 7 (tk l (a + 1)).text [leaf (tk l b) 8 (tk l b).text], d)
 else .ok (none_, a)
def funcDecl (l : List Tok) (n a : Nat) : Rs (Tree × Nat) :=
 lift (need l a wFunc) fun a1 => lift (recv l a1) fun (rv, b) => lift (name l b) fun c =>
  Rs.bind (row l (run l n .param 0) n c) fun (ps, d) => Rs.bind (result l n d) fun (y, e) => Rs.bind (run l n .block 0 e) fun (body, f) =>
   .ok (mk (tk l a) 6 (tk l b).text (rv :: y :: body :: ps), f)
def declsGo (l : List Tok) (n : Nat) : Nat → Nat → Rs (List Tree)
 | 0, _ => none
 | k + 1, a => if (tk l a).kind == 0 then .ok [] else
  Rs.bind (if is l a wType then typeDecl l n a else if is l a wFunc then funcDecl l n a else .bad (flt l a 13)) fun (x, b) =>
   lift (need l b [59]) fun c => Rs.bind (declsGo l n k (gaps l c)) fun xs => .ok (x :: xs)
def file (l : List Tok) (n : Nat) : Rs Tree := Rs.bind (declsGo l n n (gaps l 0)) fun xs => .ok (mk (tk l 0) 1 [] xs)
end Ps
end Go.Vs
end
section
namespace Go.Vs
namespace Pt
def letter (c : UInt8) : Bool := (97 ≤ c && c ≤ 122) || (65 ≤ c && c ≤ 90) || c == 95
def digit (c : UInt8) : Bool := 48 ≤ c && c ≤ 57
def words : List (List UInt8) := [Ps.wType, Ps.wStruct, Ps.wInterface, Ps.wFunc, Ps.wVar, Ps.wIf, Ps.wElse, Ps.wFor, Ps.wBreak, Ps.wContinue, Ps.wReturn, Ps.wPrint, Ps.wLen, Ps.wMake, Ps.wNew, Ps.wInput, Ps.wTrue, Ps.wFalse, Ps.wNil, Ps.wInt, Ps.wBool, Ps.wString]
def isWord (s : List UInt8) : Bool := decide (s ∈ words)
def endWords : List (List UInt8) := [Ps.wTrue, Ps.wFalse, Ps.wNil, Ps.wBreak, Ps.wContinue, Ps.wReturn, Ps.wInt, Ps.wBool, Ps.wString]
def endsTok (t : Tok) : Bool :=
 if t.kind = 2 ∨ t.kind = 4 ∨ t.kind = 5 then true
 else if t.kind = 3 then decide (t.text ∈ endWords)
 else if t.kind = 6 then t.text = [41] || t.text = [93] || t.text = [125]
 else false
def ends (out : List Tok) : Bool := match out.getLast? with
 | some t => endsTok t
 | none => false
def numGo : Nat → List UInt8 → Option Nat
 | v, [] => some v
 | v, c :: s => if digit c then (if (9223372036854775807 - (c.toNat - 48)) / 10 < v then none else numGo (10 * v + (c.toNat - 48)) s) else some v
def textGo : Nat → List UInt8 → List UInt8 → Option (List UInt8 × Nat)
 | _, _, [] => none
 | n, out, c :: s =>
  if c = 34 ∧ out.length ≤ 2000 then some (out, n + 1)
  else if c = 92 then match s with
   | [] => none
   | e :: s' => if e = 110 then textGo (n + 2) (out ++ [10]) s' else if e = 116 then textGo (n + 2) (out ++ [9]) s' else if e = 34 ∨ e = 92 then textGo (n + 2) (out ++ [e]) s' else none
  else if c < 32 ∨ 126 < c ∨ c = 34 then none
  else textGo (n + 1) (out ++ [c]) s
def pairs : List (List UInt8) := [[58, 61], [61, 61], [33, 61], [60, 61], [62, 61], [38, 38], [124, 124]]
def signs : List UInt8 := [43, 45, 42, 47, 37, 60, 62, 61, 33, 40, 41, 91, 93, 123, 125, 44, 46]
def sign (c : UInt8) (s : List UInt8) : Except Int (Int × List UInt8 × Int × Nat) :=
 match s with
 | e :: _ => if [c, e] ∈ pairs then .ok (6, [c, e], 0, 2) else if c = 59 then .ok (1, [59], 0, 1) else if c ∈ signs then .ok (6, [c], 0, 1) else .error 10
 | [] => if c = 59 then .ok (1, [59], 0, 1) else if c ∈ signs then .ok (6, [c], 0, 1) else .error 10
def one (c : UInt8) (s : List UInt8) : Except Int (Int × List UInt8 × Int × Nat) :=
 if letter c then
  let w := c :: s.takeWhile fun c => letter c || digit c
  .ok (if isWord w then 3 else 2, w, 0, w.length)
 else if digit c then
  match numGo 0 (c :: s) with
  | some v => .ok (4, c :: s.takeWhile digit, v, 1 + (s.takeWhile digit).length)
  | none => .error 12
 else if c = 34 then
  match textGo 1 [] s with
  | some (w, n) => .ok (5, w, 0, n)
  | none => .error 11
 else sign c s
def put (out : List Tok) (t : Tok) : Except Flt (List Tok) := if 4000 ≤ out.length then .error ⟨t.line, t.col, 6⟩ else .ok (out ++ [t])
def semi (line col : Int) : Tok := ⟨1, [59], 0, line, col⟩
def putEnd (out : List Tok) (line col : Int) : Except Flt (List Tok) := if ends out then put out (semi line col) else .ok out
def scan : Nat → List UInt8 → Int → Int → List Tok → Except Flt (List Tok)
 | _, [], line, col, out => do
  let out ← putEnd out line col
  put out ⟨0, [], 0, line, col⟩
 | 0, _ :: _, _, _, _ => .error ⟨0, 0, 0⟩
 | n + 1, c :: s, line, col, out =>
  if c = 10 then do
   let out ← putEnd out line col
   scan n s (line + 1) 1 out
  else if c = 32 ∨ c = 9 ∨ c = 13 then scan n s line (col + 1) out
  else if c = 47 ∧ s.head? = some 47 then
   let w := s.takeWhile fun c => c != 10
   scan n (s.drop w.length) line (col + 1 + w.length) out
  else match one c s with
   | .error e => .error ⟨line, col, e⟩
   | .ok (kind, text, v, k) => do
    let out ← put out ⟨kind, text, v, line, col⟩
    scan n (s.drop (k - 1)) line (col + k) out
def toks (s : List UInt8) : Except Flt (List Tok) := if 16384 < s.length then .error ⟨1, 1, 6⟩ else scan s.length s 1 1 []
end Pt
end Go.Vs
end
section
namespace Go.Vs
namespace Ps
theorem is_lt {l : List Tok} {a : Nat} {s : List UInt8} (h : is l a s = true) : a < l.length := by
 by_cases hl : a < l.length
 ·exact hl
 ·exfalso
  have : tk l a = ⟨0, [], 0, 0, 0⟩ := by unfold tk; simp [List.getD, List.getElem?_eq_none (by omega : l.length ≤ a)]
  unfold is at h
  rw [this] at h
  simp at h
theorem kind_lt {l : List Tok} {a : Nat} (h : (tk l a).kind ≠ 0) : a < l.length := by
 by_cases hl : a < l.length
 ·exact hl
 ·exfalso; apply h
  unfold tk; simp [List.getD, List.getElem?_eq_none (by omega : l.length ≤ a)]
theorem need_ok {l : List Tok} {a b : Nat} {s : List UInt8} (h : need l a s = .ok b) : is l a s = true ∧ b = a + 1 := by
 unfold need at h; split at h
 ·rename_i h1; cases h; exact ⟨h1, rfl⟩
 ·cases h
theorem name_ok {l : List Tok} {a b : Nat} (h : name l a = .ok b) : (tk l a).kind = 2 ∧ b = a + 1 := by
 unfold name at h; split at h
 ·rename_i h1; cases h; exact ⟨by simpa using h1, rfl⟩
 ·cases h
theorem gapsN_le (l : List Tok) : ∀ n a, a ≤ gapsN l n a
 | 0, a => Nat.le_refl _
 | n + 1, a => by
  unfold gapsN; split
  ·exact Nat.le_trans (Nat.le_succ a) (gapsN_le l n (a + 1))
  ·exact Nat.le_refl _
theorem gaps_le (l : List Tok) (a : Nat) : a ≤ gaps l a := gapsN_le _ _ _
theorem ends_ok {l : List Tok} {a b : Nat} (h : ends l a = .ok b) : a ≤ b := by
 unfold ends at h; split at h
 ·cases h; exact gaps_le _ _
 ·split at h
  ·rename_i b' h'; cases h; have := need_ok h'; have := gaps_le l b'; omega
  ·cases h
theorem bind_some {α β : Type} {x : Rs α} {k : α → Rs β} {r : Except Flt β} (h : Rs.bind x k = some r) : (∃ f, x = some (.error f) ∧ r = .error f) ∨ ∃ a, x = some (.ok a) ∧ k a = some r := by
 unfold Rs.bind at h
 split at h
 ·cases h
 ·cases h; exact .inl ⟨_, rfl, rfl⟩
 ·exact .inr ⟨_, rfl, h⟩
theorem lift_some {α β : Type} {x : Except Flt α} {k : α → Rs β} {r : Except Flt β} (h : lift x k = some r) : (∃ f, x = .error f ∧ r = .error f) ∨ ∃ a, x = .ok a ∧ k a = some r := by
 unfold lift at h
 split at h
 ·exact .inr ⟨_, rfl, h⟩
 ·cases h; exact .inl ⟨_, rfl, rfl⟩
theorem bind_ok {α β : Type} {x : Rs α} {k : α → Rs β} {r : β} (h : Rs.bind x k = some (.ok r)) : ∃ a, x = some (.ok a) ∧ k a = some (.ok r) := by
 rcases bind_some h with ⟨f, _, h⟩ | h
 ·cases h
 ·exact h
theorem lift_ok {α β : Type} {x : Except Flt α} {k : α → Rs β} {r : β} (h : lift x k = some (.ok r)) : ∃ a, x = .ok a ∧ k a = some (.ok r) := by
 rcases lift_some h with ⟨f, _, h⟩ | h
 ·cases h
 ·exact h
theorem ite_or {α : Type} {c : Prop} [Decidable c] {x y r : α} (h : (if c then x else y) = r) : (c ∧ x = r) ∨ (¬ c ∧ y = r) := by
 by_cases hc : c
 ·rw [if_pos hc] at h; exact .inl ⟨hc, h⟩
 ·rw [if_neg hc] at h; exact .inr ⟨hc, h⟩
theorem bad_no {α : Type} {f : Flt} {r : α} (h : Rs.bad f = some (.ok r)) : False := by cases h
theorem ite_el {α : Type} {c G : Prop} [Decidable c] {x y r : α} (h : (if c then x else y) = r) (h1 : c → x = r → G) (h2 : ¬ c → y = r → G) : G := by
 by_cases hc : c
 ·rw [if_pos hc] at h; exact h1 hc h
 ·rw [if_neg hc] at h; exact h2 hc h
theorem ok_el {α β : Type} {G : Prop} {x r : α} {y s : β} (h : Rs.ok (x, y) = some (.ok (r, s))) (k : x = r → y = s → G) : G := by cases h; exact k rfl rfl
theorem lift_el {α β : Type} {G : Prop} {x : Except Flt α} {k : α → Rs β} {r : β} (h : lift x k = some (.ok r)) (g : ∀ a, x = .ok a → k a = some (.ok r) → G) : G :=
 let ⟨a, h1, h2⟩ := lift_ok h; g a h1 h2
theorem bind_el {α β : Type} {G : Prop} {x : Rs (α × Nat)} {k : α × Nat → Rs β} {r : β} (h : Rs.bind x k = some (.ok r)) (g : ∀ a b, x = some (.ok (a, b)) → k (a, b) = some (.ok r) → G) : G :=
 let ⟨(a, b), h1, h2⟩ := bind_ok h; g a b h1 h2
def adv : Rule → Nat
 | .binGo _ _ => 0
 | .postGo _ => 0
 | _ => 1
def AdvOK (one : Nat → Rs (Tree × Nat)) : Prop := ∀ a t b, one a = some (.ok (t, b)) → a + 1 ≤ b
theorem rowGo_adv {l : List Tok} {one : Nat → Rs (Tree × Nat)} (ho : AdvOK one) : ∀ n a xs b, rowGo l one n a = some (.ok (xs, b)) → a + 1 ≤ b
 | 0, _, _, _, h => by simp [rowGo] at h
 | n + 1, a, xs, b, h => by
  unfold rowGo at h
  obtain ⟨⟨x, c⟩, h1, h⟩ := bind_ok h
  have h1 := ho _ _ _ h1
  dsimp only at h
  split at h
  ·obtain ⟨⟨ys, d⟩, h2, h⟩ := bind_ok h
   have := rowGo_adv ho n _ _ _ h2
   cases h; omega
  ·obtain ⟨d, h2, h⟩ := lift_ok h
   have := need_ok h2
   cases h; omega
theorem row_adv {l : List Tok} {one : Nat → Rs (Tree × Nat)} (ho : AdvOK one) {n a : Nat} {xs : List Tree} {b : Nat} (h : row l one n a = some (.ok (xs, b))) : a + 2 ≤ b := by
 unfold row at h
 obtain ⟨c, h1, h⟩ := lift_ok h
 have h1 := need_ok h1
 split at h
 ·cases h; omega
 ·have := rowGo_adv ho _ _ _ _ h; omega
theorem listGo_adv {l : List Tok} {one : Nat → Rs (Tree × Nat)} (ho : AdvOK one) : ∀ n a xs b, listGo l one n a = some (.ok (xs, b)) → a + 1 ≤ b
 | 0, _, _, _, h => by simp [listGo] at h
 | n + 1, a, xs, b, h => by
  unfold listGo at h
  split at h
  ·cases h; omega
  ·obtain ⟨⟨x, c⟩, h1, h⟩ := bind_ok h
   have h1 := ho _ _ _ h1
   obtain ⟨d, h2, h⟩ := lift_ok h
   have h2 := ends_ok h2
   obtain ⟨⟨ys, e⟩, h3, h⟩ := bind_ok h
   have := listGo_adv ho n _ _ _ h3
   cases h; omega
theorem list_adv {l : List Tok} {one : Nat → Rs (Tree × Nat)} (ho : AdvOK one) {n a : Nat} {xs : List Tree} {b : Nat} (h : list l one n a = some (.ok (xs, b))) : a + 2 ≤ b := by
 unfold list at h
 obtain ⟨c, h1, h⟩ := lift_ok h
 have h1 := need_ok h1
 have := listGo_adv ho _ _ _ _ h
 have := gaps_le l c
 omega
theorem run_adv (l : List Tok) : ∀ n rule d a t b, run l n rule d a = some (.ok (t, b)) → a + adv rule ≤ b := by
 intro n
 induction n with
 | zero => intro rule d a t b h; simp [run] at h
 | succ n ih =>
  intro rule d a t b h
  have go1 : ∀ rule d, adv rule = 1 → AdvOK (run l n rule d) := fun rule d e a t b h => by have := ih _ _ _ _ _ h; omega
  have res1 : ∀ {c d : Nat} {x : Tree × Nat} {p : Prop} [Decidable p], (if p then run l n .typ d c else Rs.ok (none_, c)) = some (.ok x) → c ≤ x.2 := fun h => by
   rcases ite_or h with ⟨_, h⟩ | ⟨_, h⟩
   ·have := ih .typ _ _ _ _ h; simp only [adv] at this; omega
   ·cases h; exact Nat.le_refl _
  cases rule <;> simp only [run] at h <;> simp only [adv]
  all_goals repeat' (with_reducible first
   | (refine ite_el h (fun hc h => ?_) (fun hc h => ?_))
   | exact (bad_no h).elim
   | (refine ok_el h fun h1 h2 => ?_; omega)
   | (refine lift_el h fun c h1 h => ?_; first | (replace h1 := need_ok h1) | (replace h1 := name_ok h1))
   | (refine bind_el h fun x c h1 h => ?_; first | (replace h1 := row_adv (go1 _ _ rfl) h1) | (replace h1 := list_adv (go1 _ _ rfl) h1) | (replace h1 := ih _ _ _ _ _ h1; simp only [adv] at h1) | (replace h1 := res1 h1; dsimp only at h1))
   | (replace h := ih _ _ _ _ _ h; simp only [adv] at h; omega))
end Ps
end Go.Vs
end
section
namespace Go.Vs
namespace Ps
theorem bind_ne {α β : Type} {x : Rs (α × Nat)} {k : α × Nat → Rs β} (hx : x ≠ none) (hk : ∀ t b, x = some (.ok (t, b)) → k (t, b) ≠ none) : Rs.bind x k ≠ none := by
 cases x with
 | none => exact absurd rfl hx
 | some r => cases r with
  | error f => exact fun h => by cases h
  | ok p => exact hk p.1 p.2 rfl
theorem lift_ne {α β : Type} {x : Except Flt α} {k : α → Rs β} (hk : ∀ b, x = .ok b → k b ≠ none) : lift x k ≠ none := by
 cases x with
 | error f => exact fun h => by cases h
 | ok p => exact hk p rfl
theorem ite_ne {α : Type} {c : Prop} [Decidable c] {x y : Rs α} (hx : c → x ≠ none) (hy : ¬ c → y ≠ none) : (if c then x else y) ≠ none := by
 by_cases hc : c
 ·rw [if_pos hc]; exact hx hc
 ·rw [if_neg hc]; exact hy hc
theorem ite_is {α : Type} {l : List Tok} {a : Nat} {s : List UInt8} {x y : Rs α} (hx : a < l.length → x ≠ none) (hy : y ≠ none) : (if is l a s = true then x else y) ≠ none := ite_ne (fun h => hx (is_lt h)) fun _ => hy
theorem ite_kind {α : Type} {l : List Tok} {a : Nat} {k : Int} {x y : Rs α} (hk : k ≠ 0) (hx : a < l.length → x ≠ none) (hy : y ≠ none) : (if ((tk l a).kind == k) = true then x else y) ≠ none := ite_ne (fun h => hx (kind_lt (by simp at h; rw [h]; exact hk))) fun _ => hy
theorem ite_and {α : Type} {l : List Tok} {a : Nat} {k : Int} {p : Bool} {x y : Rs α} (hk : k ≠ 0) (hx : a < l.length → x ≠ none) (hy : y ≠ none) : (if ((tk l a).kind == k && p) = true then x else y) ≠ none :=
 ite_ne (fun h => hx (kind_lt (by simp at h; rw [h.1]; exact hk))) fun _ => hy
theorem ite_is2 {α : Type} {l : List Tok} {a : Nat} {s u : List UInt8} {x y : Rs α} (hx : a < l.length → x ≠ none) (hy : y ≠ none) : (if (is l a s || is l a u) = true then x else y) ≠ none :=
 ite_ne (fun h => hx (by simp at h; exact h.elim is_lt is_lt)) fun _ => hy
theorem need_lt {l : List Tok} {a b : Nat} {s : List UInt8} (h : need l a s = .ok b) : a < l.length ∧ b = a + 1 := ⟨is_lt (need_ok h).1, (need_ok h).2⟩
theorem name_lt {l : List Tok} {a b : Nat} (h : name l a = .ok b) : a < l.length ∧ b = a + 1 := ⟨kind_lt (by rw [(name_ok h).1]; decide), (name_ok h).2⟩
theorem ends_lt {l : List Tok} {a b : Nat} (h : ends l a = .ok b) : a < l.length ∧ a ≤ b := by
 refine ⟨?_, ends_ok h⟩
 unfold ends at h; split at h
 ·rename_i h1; exact is_lt h1
 ·split at h
  ·rename_i b' h'; exact (need_lt h').1
  ·cases h
theorem ok_ne {α : Type} {x : α} : Rs.ok x ≠ none := fun h => by cases h
theorem bad_ne {α : Type} {f : Flt} : (Rs.bad f : Rs α) ≠ none := fun h => by cases h
theorem rowGo_ne {l : List Tok} {one : Nat → Rs (Tree × Nat)} (ho : AdvOK one) : ∀ n a, (∀ c, a ≤ c → one c ≠ none) → l.length + 1 - a < n → rowGo l one n a ≠ none
 | 0, _, _, h => by omega
 | n + 1, a, h1, h => by
  unfold rowGo
  refine bind_ne (h1 a (Nat.le_refl a)) fun x b h2 => ?_
  have h2 := ho _ _ _ h2
  refine ite_is (fun hl => bind_ne (rowGo_ne ho n (b + 1) (fun c hc => h1 c (by omega)) (by omega)) fun _ _ _ => ok_ne) (lift_ne fun _ _ => ok_ne)
theorem row_ne {l : List Tok} {one : Nat → Rs (Tree × Nat)} {n a : Nat} (ho : AdvOK one) (h : ∀ c, a < l.length → a + 1 ≤ c → one c ≠ none) (hn : l.length + 1 - a < n + 1) : row l one n a ≠ none := by
 unfold row
 refine lift_ne fun b h1 => ?_
 have h1 := need_lt h1
 exact ite_is (fun _ => ok_ne) (rowGo_ne ho n b (fun c hc => h c h1.1 (by omega)) (by omega))
theorem listGo_ne {l : List Tok} {one : Nat → Rs (Tree × Nat)} (ho : AdvOK one) : ∀ n a, (∀ c, a ≤ c → one c ≠ none) → l.length + 1 - a < n → listGo l one n a ≠ none
 | 0, _, _, h => by omega
 | n + 1, a, h1, h => by
  unfold listGo
  refine ite_is (fun _ => ok_ne) (bind_ne (h1 a (Nat.le_refl a)) fun x b h2 => lift_ne fun c h3 => ?_)
  have h2 := ho _ _ _ h2
  have h3 := ends_lt h3
  exact bind_ne (listGo_ne ho n c (fun c hc => h1 c (by omega)) (by omega)) fun _ _ _ => ok_ne
theorem list_ne {l : List Tok} {one : Nat → Rs (Tree × Nat)} {n a : Nat} (ho : AdvOK one) (h : ∀ c, a < l.length → a + 1 ≤ c → one c ≠ none) (hn : l.length + 1 - a < n + 1) : list l one n a ≠ none := by
 unfold list
 refine lift_ne fun b h1 => ?_
 have h1 := need_lt h1
 have := gaps_le l b
 exact listGo_ne ho n (gaps l b) (fun c hc => h c h1.1 (by omega)) (by omega)
def rk : Rule → Nat
 | .stmt => 8
 | .expr => 6
 | .binary _ => 5
 | .unary => 4
 | .post => 3
 | .prime => 2
 | .ifs => 1
 | .block => 1
 | _ => 0
theorem run_ne (l : List Tok) : ∀ n rule d a, 30 * (l.length + 1 - a) + rk rule < n → run l n rule d a ≠ none := by
 intro n
 induction n with
 | zero => intro rule d a h; omega
 | succ n ih =>
  intro rule d a hn
  have go1 : ∀ rule d, adv rule = 1 → AdvOK (run l n rule d) := fun rule d e a t b h => by have := run_adv l n _ _ _ _ _ h; omega
  have res1 : ∀ {b d : Nat} {p : Prop} [Decidable p], 30 * (l.length + 1 - b) < n → (if p then run l n .typ d b else Rs.ok (none_, b)) ≠ none := fun h => ite_ne (fun _ => ih _ _ _ (by simp only [rk]; omega)) fun _ => ok_ne
  cases rule <;> simp only [run] <;> simp only [rk] at hn
  all_goals repeat' (with_reducible first
   | exact bad_ne
   | exact ok_ne
   | (refine ite_is (fun hl => ?_) ?_)
   | (refine ite_is2 (fun hl => ?_) ?_)
   | (refine ite_and (by decide) (fun hl => ?_) ?_)
   | (refine ite_kind (by decide) (fun hl => ?_) ?_)
   | (refine lift_ne fun c h1 => ?_; first | (replace h1 := need_lt h1) | (replace h1 := name_lt h1))
   | (refine bind_ne (res1 (by omega)) fun x c h1 => ?_)
   | (refine bind_ne (row_ne (go1 _ _ rfl) (fun c hl hc => ih _ _ _ (by simp only [rk]; omega)) (by omega)) fun x c h1 => ?_; replace h1 := row_adv (go1 _ _ rfl) h1)
   | (refine bind_ne (list_ne (go1 _ _ rfl) (fun c hl hc => ih _ _ _ (by simp only [rk]; omega)) (by omega)) fun x c h1 => ?_; replace h1 := list_adv (go1 _ _ rfl) h1)
   | (refine bind_ne (ih _ _ _ (by simp only [rk]; omega)) fun x c h1 => ?_; replace h1 := run_adv l n _ _ _ _ _ h1; simp only [adv] at h1)
   | (refine ite_ne (fun hc => ?_) (fun hc => ?_))
   | (refine ih _ _ _ ?_; simp only [rk]; omega))
end Ps
end Go.Vs
end
section
namespace Go.Vs
namespace Ps
def sh (k : Int → Int) (t : Tok) : Tok := { t with line := k t.line }
def shF (k : Int → Int) (f : Flt) : Flt := { f with line := k f.line }
mutual
def shT (k : Int → Int) : Tree → Tree
 | .node kind nm n line col kids => .node kind nm n (if kind = 38 then line else k line) col (shL k kids)
def shL (k : Int → Int) : List Tree → List Tree
 | [] => []
 | t :: ts => shT k t :: shL k ts
end
def shE {α β : Type} (k : Int → Int) (g : α → β) : Except Flt α → Except Flt β
 | .error f => .error (shF k f)
 | .ok x => .ok (g x)
def shX {α β : Type} (k : Int → Int) (g : α → β) : Rs α → Rs β
 | none => none
 | some x => some (shE k g x)
def shP (k : Int → Int) : Tree × Nat → Tree × Nat := fun x => (shT k x.1, x.2)
def shPs (k : Int → Int) : List Tree × Nat → List Tree × Nat := fun x => (shL k x.1, x.2)
def shR (k : Int → Int) : Rule → Rule
 | .binGo m x => .binGo m (shT k x)
 | .postGo x => .postGo (shT k x)
 | r => r
def EndsL (l : List Tok) : Prop := ∀ i, (tk l i).kind ≠ 0 → i + 1 < l.length
section
variable {l : List Tok} {k : Int → Int} {a b : Nat}
theorem sh_kind {t : Tok} : (sh k t).kind = t.kind := rfl
theorem sh_text {t : Tok} : (sh k t).text = t.text := rfl
theorem sh_n {t : Tok} : (sh k t).n = t.n := rfl
theorem sh_col {t : Tok} : (sh k t).col = t.col := rfl
theorem tk_sh (ha : a < l.length) : tk (l.map (sh k)) a = sh k (tk l a) := by
 unfold tk; simp [List.getD, ha]
theorem is_sh {s : List UInt8} (ha : a < l.length) : is (l.map (sh k)) a s = is l a s := by
 unfold is; rw [tk_sh ha]; rfl
theorem flt_sh {e : Int} (ha : a < l.length) : flt (l.map (sh k)) a e = shF k (flt l a e) := by
 unfold flt; rw [tk_sh ha]; rfl
theorem need_sh {s : List UInt8} (ha : a < l.length) : need (l.map (sh k)) a s = shE k id (need l a s) := by
 unfold need; rw [is_sh ha, flt_sh ha]; split <;> rfl
theorem name_sh (ha : a < l.length) : name (l.map (sh k)) a = shE k id (name l a) := by
 unfold name; rw [tk_sh ha, flt_sh ha]; show (if ((tk l a).kind == 2) = true then _ else _) = _; split <;> rfl
theorem isTyp_sh (ha : a < l.length) : isTyp (l.map (sh k)) a = isTyp l a := by
 unfold isTyp; rw [is_sh ha, is_sh ha, is_sh ha]
theorem is_next {s : List UInt8} (W : EndsL l) (h : is l a s = true) : a + 1 < l.length := W a (by unfold is at h; intro x; rw [x] at h; simp at h)
theorem need_next {s : List UInt8} (W : EndsL l) (h : need l a s = .ok b) : b = a + 1 ∧ a + 1 < l.length := ⟨(need_ok h).2, is_next W (need_ok h).1⟩
theorem name_next (W : EndsL l) (h : name l a = .ok b) : b = a + 1 ∧ a + 1 < l.length := ⟨(name_ok h).2, W a (by rw [(name_ok h).1]; decide)⟩
theorem kind_next {c : Int} (W : EndsL l) (hc : c ≠ 0) (h : ((tk l a).kind == c) = true) : a + 1 < l.length := W a (by simp at h; rw [h]; exact hc)
theorem typ_next (W : EndsL l) (h : isTyp l a = true) : a + 1 < l.length := by
 unfold isTyp at h; rw [Bool.or_eq_true, Bool.or_eq_true] at h
 exact h.elim (fun h => h.elim (is_next W) (is_next W)) (is_next W)
theorem is2_next {s u : List UInt8} (W : EndsL l) (h : (is l a s || is l a u) = true) : a + 1 < l.length := by
 rw [Bool.or_eq_true] at h; exact h.elim (is_next W) (is_next W)
theorem and_next {c : Int} {p : Bool} (W : EndsL l) (hc : c ≠ 0) (h : ((tk l a).kind == c && p) = true) : a + 1 < l.length := by
 rw [Bool.and_eq_true] at h; exact kind_next W hc h.1
theorem gapsN_sh (W : EndsL l) : ∀ n a, a < l.length → gapsN (l.map (sh k)) n a = gapsN l n a ∧ gapsN l n a < l.length
 | 0, a, ha => ⟨rfl, ha⟩
 | n + 1, a, ha => by
  unfold gapsN
  rw [is_sh ha]
  by_cases h : is l a [59] = true
  ·rw [if_pos h, if_pos h]; exact gapsN_sh W n (a + 1) (is_next W h)
  ·rw [if_neg h, if_neg h]; exact ⟨rfl, ha⟩
theorem gaps_sh (W : EndsL l) (ha : a < l.length) : gaps (l.map (sh k)) a = gaps l a ∧ gaps l a < l.length := by
 unfold gaps; rw [List.length_map]; exact gapsN_sh W _ _ ha
theorem ends_sh (W : EndsL l) (ha : a < l.length) : ends (l.map (sh k)) a = shE k id (ends l a) ∧ ∀ b, ends l a = .ok b → b < l.length := by
 unfold ends
 rw [is_sh ha, need_sh ha]
 by_cases h : is l a [125] = true
 ·simp only [h, if_true]
  exact ⟨by rw [(gaps_sh W ha).1]; rfl, fun b e => by cases e; exact (gaps_sh (k := id) W ha).2⟩
 ·simp only [h]
  cases hn : need l a [59] with
  | error f => exact ⟨rfl, fun b e => by cases e⟩
  | ok b =>
   have h1 := need_next W hn
   have hb : b < l.length := by omega
   refine ⟨?_, fun c e => ?_⟩
   ·show Except.ok (gaps (l.map (sh k)) b) = _
    rw [(gaps_sh W hb).1]; rfl
   ·cases e; exact (gaps_sh (k := id) W hb).2
end
section
variable {α β γ δ : Type} {k : Int → Int}
theorem bind_sh {p : α → β} {q : γ → δ} {x' : Rs β} {x : Rs α} {f' : β → Rs δ} {f : α → Rs γ} (hx : x' = shX k p x) (hf : ∀ a, x = some (.ok a) → f' (p a) = shX k q (f a)) : Rs.bind x' f' = shX k q (Rs.bind x f) := by
 subst hx
 cases x with
 | none => rfl
 | some r => cases r with
  | error e => rfl
  | ok a => exact hf a rfl
theorem lift_sh {q : γ → δ} {x' x : Except Flt α} {f' : α → Rs δ} {f : α → Rs γ} (hx : x' = shE k id x) (hf : ∀ a, x = .ok a → f' a = shX k q (f a)) : lift x' f' = shX k q (lift x f) := by
 subst hx
 cases x with
 | error e => rfl
 | ok a => exact hf a rfl
theorem ite_sh {q : γ → δ} {c : Prop} [Decidable c] {x' y' : Rs δ} {x y : Rs γ} (hx : c → x' = shX k q x) (hy : ¬ c → y' = shX k q y) : (if c then x' else y') = shX k q (if c then x else y) := by
 by_cases h : c
 ·rw [if_pos h, if_pos h]; exact hx h
 ·rw [if_neg h, if_neg h]; exact hy h
end
section
variable {l : List Tok} {k : Int → Int} {one one' : Nat → Rs (Tree × Nat)}
def LtOK (l : List Tok) (one : Nat → Rs (Tree × Nat)) : Prop := ∀ a t b, a < l.length → one a = some (.ok (t, b)) → b < l.length
theorem rowGo_lt (W : EndsL l) (ho : LtOK l one) : ∀ n a xs b, a < l.length → rowGo l one n a = some (.ok (xs, b)) → b < l.length
 | 0, _, _, _, _, h => by simp [rowGo] at h
 | n + 1, a, xs, b, ha, h => by
  unfold rowGo at h
  refine bind_el h fun x c h1 h => ite_el h (fun hc h => bind_el h fun ys g h3 h => ok_el h fun h4 h5 => ?_) fun _ h => lift_el h fun e h2 h => ok_el h fun h4 h5 => ?_
  ·subst h5; exact rowGo_lt W ho n _ _ _ (is_next W hc) h3
  ·subst h5; have := need_next W h2; omega
theorem row_lt (W : EndsL l) (ho : LtOK l one) {n a : Nat} {xs : List Tree} {b : Nat} (h : row l one n a = some (.ok (xs, b))) : b < l.length := by
 unfold row at h
 refine lift_el h fun c h1 h => ?_
 have h1 := need_next W h1
 refine ite_el h (fun hc h => ok_el h fun h4 h5 => ?_) fun _ h => rowGo_lt W ho _ _ _ _ (by omega) h
 subst h5; exact is_next W hc
theorem listGo_lt (W : EndsL l) (ho : LtOK l one) : ∀ n a xs b, a < l.length → listGo l one n a = some (.ok (xs, b)) → b < l.length
 | 0, _, _, _, _, h => by simp [listGo] at h
 | n + 1, a, xs, b, ha, h => by
  unfold listGo at h
  refine ite_el h (fun hc h => ok_el h fun h4 h5 => ?_) fun _ h => bind_el h fun x c h1 h => lift_el h fun e h2 h => bind_el h fun ys g h3 h => ok_el h fun h4 h5 => ?_
  ·subst h5; exact is_next W hc
  ·subst h5
   exact listGo_lt W ho n _ _ _ ((ends_sh (k := id) W (ho _ _ _ ha h1)).2 _ h2) h3
theorem list_lt (W : EndsL l) (ho : LtOK l one) {n a : Nat} {xs : List Tree} {b : Nat} (h : list l one n a = some (.ok (xs, b))) : b < l.length := by
 unfold list at h
 refine lift_el h fun c h1 h => ?_
 have h1 := need_next W h1
 exact listGo_lt W ho _ _ _ _ (gaps_sh (k := id) W (by omega)).2 h
def ShOK (l : List Tok) (k : Int → Int) (one' one : Nat → Rs (Tree × Nat)) : Prop := ∀ a, a < l.length → one' a = shX k (shP k) (one a)
theorem rowGo_sh (W : EndsL l) (ho : LtOK l one) (hs : ShOK l k one' one) : ∀ n a, a < l.length → rowGo (l.map (sh k)) one' n a = shX k (shPs k) (rowGo l one n a)
 | 0, _, _ => rfl
 | n + 1, a, ha => by
  unfold rowGo
  refine bind_sh (hs a ha) fun x h1 => ?_
  obtain ⟨t, b⟩ := x
  have hb := ho _ _ _ ha h1
  show (if is (l.map (sh k)) b [44] = true then _ else _) = _
  rw [is_sh hb]
  refine ite_sh (fun hc => bind_sh (rowGo_sh W ho hs n (b + 1) (is_next W hc)) fun _ _ => rfl) fun _ => lift_sh (need_sh hb) fun _ _ => rfl
theorem row_sh (W : EndsL l) (ho : LtOK l one) (hs : ShOK l k one' one) (n : Nat) {a : Nat} (ha : a < l.length) : row (l.map (sh k)) one' n a = shX k (shPs k) (row l one n a) := by
 unfold row
 refine lift_sh (need_sh ha) fun b h1 => ?_
 have hb : b < l.length := by have := need_next W h1; omega
 rw [is_sh hb]
 exact ite_sh (fun _ => rfl) fun _ => rowGo_sh W ho hs n b hb
theorem listGo_sh (W : EndsL l) (ho : LtOK l one) (hs : ShOK l k one' one) : ∀ n a, a < l.length → listGo (l.map (sh k)) one' n a = shX k (shPs k) (listGo l one n a)
 | 0, _, _ => rfl
 | n + 1, a, ha => by
  unfold listGo
  rw [is_sh ha]
  refine ite_sh (fun _ => rfl) fun _ => bind_sh (hs a ha) fun x h1 => ?_
  obtain ⟨t, b⟩ := x
  have hb := ho _ _ _ ha h1
  refine lift_sh (ends_sh W hb).1 fun c h2 => ?_
  exact bind_sh (listGo_sh W ho hs n c ((ends_sh (k := id) W hb).2 _ h2)) fun _ _ => rfl
theorem list_sh (W : EndsL l) (ho : LtOK l one) (hs : ShOK l k one' one) (n : Nat) {a : Nat} (ha : a < l.length) : list (l.map (sh k)) one' n a = shX k (shPs k) (list l one n a) := by
 unfold list
 refine lift_sh (need_sh ha) fun b h1 => ?_
 have hb : b < l.length := by have := need_next W h1; omega
 rw [(gaps_sh W hb).1]
 exact listGo_sh W ho hs n _ (gaps_sh (k := id) W hb).2
end
theorem run_lt (l : List Tok) (W : EndsL l) : ∀ n rule d, LtOK l (run l n rule d) := by
 intro n
 induction n with
 | zero => intro rule d a t b _ h; simp [run] at h
 | succ n ih =>
  intro rule d a t b ha h
  have ih2 : ∀ rule d a t b, a < l.length → run l n rule d a = some (.ok (t, b)) → b < l.length := ih
  have res1 : ∀ {c d : Nat} {x : Tree × Nat} {p : Prop} [Decidable p], c < l.length → (if p then run l n .typ d c else Rs.ok (none_, c)) = some (.ok x) → x.2 < l.length := fun hc h => by
   rcases ite_or h with ⟨_, h⟩ | ⟨_, h⟩
   ·exact ih2 .typ _ _ _ _ hc h
   ·cases h; exact hc
  cases rule <;> simp only [run] at h
  all_goals repeat' (with_reducible first
   | (refine ite_el h (fun hc h => ?_) (fun hc h => ?_); first | (replace hc := is_next W hc) | (replace hc := typ_next W hc) | (replace hc := is2_next W hc) | (replace hc := and_next W (by decide) hc) | (replace hc := kind_next W (by decide) hc) | skip)
   | exact (bad_no h).elim
   | (refine ok_el h fun h1 h2 => ?_; omega)
   | (refine lift_el h fun c h1 h => ?_; first | (replace h1 := need_next W h1) | (replace h1 := name_next W h1))
   | (refine bind_el h fun x c h1 h => ?_; first | (replace h1 := row_lt W (ih _ _) h1) | (replace h1 := list_lt W (ih _ _) h1) | (replace h1 := ih2 _ _ _ _ _ (by omega) h1) | (replace h1 := res1 (by omega) h1; dsimp only at h1))
   | exact ih2 _ _ _ _ _ (by omega) h)
section
variable {γ δ : Type} {l : List Tok} {k : Int → Int} {a : Nat}
theorem ite_is_sh (W : EndsL l) {q : γ → δ} {s : List UInt8} {x' y' : Rs δ} {x y : Rs γ} (ha : a < l.length) (hx : a + 1 < l.length → x' = shX k q x) (hy : y' = shX k q y) : (if is (l.map (sh k)) a s = true then x' else y') = shX k q (if is l a s = true then x else y) := by
 rw [is_sh ha]; exact ite_sh (fun h => hx (is_next W h)) fun _ => hy
theorem ite_kind_sh (W : EndsL l) {q : γ → δ} {c : Int} {x' y' : Rs δ} {x y : Rs γ} (ha : a < l.length) (hc : c ≠ 0) (hx : a + 1 < l.length → x' = shX k q x) (hy : y' = shX k q y) : (if ((tk (l.map (sh k)) a).kind == c) = true then x' else y') = shX k q (if ((tk l a).kind == c) = true then x else y) := by
 rw [tk_sh ha]
 show (if ((tk l a).kind == c) = true then x' else y') = _
 exact ite_sh (fun h => hx (kind_next W hc h)) fun _ => hy
end
theorem ite_typ_sh {γ δ : Type} {l : List Tok} {k : Int → Int} {a : Nat} (W : EndsL l) {q : γ → δ} {x' y' : Rs δ} {x y : Rs γ} (ha : a < l.length) (hx : a + 1 < l.length → x' = shX k q x) (hy : y' = shX k q y) : (if isTyp (l.map (sh k)) a = true then x' else y') = shX k q (if isTyp l a = true then x else y) := by
 rw [isTyp_sh ha]; exact ite_sh (fun h => hx (typ_next W h)) fun _ => hy
theorem ite_and_sh {γ δ : Type} {l : List Tok} {k : Int → Int} {a : Nat} (W : EndsL l) {c : Int} {p : Bool} {q : γ → δ} {x' y' : Rs δ} {x y : Rs γ} (ha : a < l.length) (hc : c ≠ 0) (hx : a + 1 < l.length → x' = shX k q x) (hy : y' = shX k q y) :
  (if ((tk l a).kind == c && p) = true then x' else y') = shX k q (if ((tk l a).kind == c && p) = true then x else y) := ite_sh (fun h => hx (and_next W hc h)) fun _ => hy
theorem bad_sh {γ δ : Type} {k : Int → Int} {q : γ → δ} {f' f : Flt} (h : f' = shF k f) : (Rs.bad f' : Rs δ) = shX k q (Rs.bad f : Rs γ) := by rw [h]; rfl
end Ps
end Go.Vs
end
section
namespace Go.Vs
namespace Ps
theorem pends_sh (g : Int → Int) (out : List Tok) : Pt.ends (out.map (sh g)) = Pt.ends out := by
 unfold Pt.ends
 rw [List.getLast?_map]
 cases out.getLast? <;> rfl
theorem put_sh (g : Int → Int) (out : List Tok) (t : Tok) : Pt.put (out.map (sh g)) (sh g t) = shE g (List.map (sh g)) (Pt.put out t) := by
 unfold Pt.put
 rw [List.length_map]
 split
 ·rfl
 ·simp [shE]
theorem putEnd_sh (g : Int → Int) (out : List Tok) (line col : Int) : Pt.putEnd (out.map (sh g)) (g line) col = shE g (List.map (sh g)) (Pt.putEnd out line col) := by
 unfold Pt.putEnd
 rw [pends_sh]
 split
 ·exact put_sh g out (Pt.semi line col)
 ·rfl
theorem ebind_sh {α β : Type} {g : Int → Int} {p : α → α} {q : β → β} {x' x : Except Flt α} {f' f : α → Except Flt β} (hx : x' = shE g p x) (hf : ∀ a, f' (p a) = shE g q (f a)) : (x' >>= f') = shE g q (x >>= f) := by
 subst hx
 cases x with
 | error e => rfl
 | ok a => exact hf a
theorem scan_sh (g : Int → Int) (k : Int) : ∀ f s line line' col out, s.length ≤ f → line' = line + k → (∀ x, line ≤ x → x ≤ line + s.length → g x = x + k) → Pt.scan f s line' col (out.map (sh g)) = shE g (List.map (sh g)) (Pt.scan f s line col out)
 | f, [], line, line', col, out, _, hl, hg => by
  have e : ∀ line col out, Pt.scan f [] line col out = (do let out ← Pt.putEnd out line col; Pt.put out ⟨0, [], 0, line, col⟩) := fun _ _ _ => by cases f <;> rfl
  have hl : line' = g line := by rw [hl, hg line (by omega) (by omega)]
  subst hl
  rw [e, e]
  exact ebind_sh (putEnd_sh g out line col) fun o => put_sh g o ⟨0, [], 0, line, col⟩
 | 0, _ :: _, _, _, _, _, h, _, _ => by simp at h
 | f + 1, c :: s, line, line', col, out, h, hl, hg => by
  have hs : s.length ≤ f := by simpa using h
  have e : line' = g line := by rw [hl, hg line (by omega) (by omega)]
  have hd : ∀ n, (s.drop n).length ≤ s.length := fun n => by rw [List.length_drop]; omega
  have hc : (c :: s).length = s.length + 1 := rfl
  rw [Pt.scan, Pt.scan]
  split
  ·refine ebind_sh (e ▸ putEnd_sh g out line col) fun o => ?_
   exact scan_sh g k f s (line + 1) (line' + 1) 1 o hs (by omega) fun x h1 h2 => hg x (by omega) (by omega)
  ·split
   ·exact scan_sh g k f s line line' _ out hs hl fun x h1 h2 => hg x h1 (by omega)
   ·split
    ·exact scan_sh g k f _ line line' _ out (Nat.le_trans (hd _) hs) hl fun x h1 h2 => hg x h1 (by have := hd (s.takeWhile fun c => c != 10).length; omega)
    ·cases Pt.one c s with
     | error e' => subst e; rfl
     | ok r =>
      obtain ⟨kd, tx, v, n⟩ := r
      refine ebind_sh (by subst e; exact put_sh g out ⟨kd, tx, v, line, col⟩) fun o => scan_sh g k f _ line line' _ o (Nat.le_trans (hd _) hs) hl fun x h1 h2 => hg x h1 (by have := hd (n - 1); omega)
theorem scan_up : ∀ (n : Nat) (s : List UInt8) (f : Nat) (line col : Int), (n = 0 → col = 1) → n + s.length ≤ f → ∃ g, s.length ≤ g ∧ Pt.scan f (List.replicate n 10 ++ s) line col [] = Pt.scan g s (line + n) 1 []
 | 0, s, f, line, col, hc, h => ⟨f, by omega, by rw [hc rfl]; simp⟩
 | n + 1, s, f, line, col, hc, h => by
  obtain ⟨f', rfl⟩ : ∃ g, f = g + 1 := ⟨f - 1, by omega⟩
  obtain ⟨g, h1, h2⟩ := scan_up n s f' (line + 1) 1 (fun _ => rfl) (by omega)
  refine ⟨g, h1, ?_⟩
  rw [List.replicate_succ, List.cons_append, Pt.scan, if_pos rfl]
  have : (Pt.putEnd [] line col >>= fun out => Pt.scan f' (List.replicate n 10 ++ s) (line + 1) 1 out) = Pt.scan f' (List.replicate n 10 ++ s) (line + 1) 1 [] := rfl
  rw [this, h2]
  congr 1
  omega
theorem scan_fuel : ∀ f g s line col out, s.length ≤ f → s.length ≤ g → Pt.scan f s line col out = Pt.scan g s line col out
 | f, g, [], line, col, out, _, _ => by cases f <;> cases g <;> rfl
 | 0, _, _ :: _, _, _, _, h, _ => by simp at h
 | _, 0, _ :: _, _, _, _, _, h => by simp at h
 | f + 1, g + 1, c :: s, line, col, out, h, h' => by
  have hs : s.length ≤ f := by simpa using h
  have hs' : s.length ≤ g := by simpa using h'
  rw [Pt.scan, Pt.scan]
  split
  ·congr 1; funext o; exact scan_fuel f g s _ _ o hs hs'
  ·split
   ·exact scan_fuel f g s _ _ out hs hs'
   ·split
    ·exact scan_fuel f g _ _ _ out (by simp; omega) (by simp; omega)
    ·cases Pt.one c s with
     | error e => rfl
     | ok r =>
      obtain ⟨kd, tx, v, n⟩ := r
      dsimp only
      congr 1; funext o; exact scan_fuel f g _ _ _ o (by simp; omega) (by simp; omega)
def dn (n : Int) : Int → Int := fun x => IntKind.i64.wrap (x + n)
theorem toks_up (n : Nat) (s : List UInt8) (hl : n + s.length ≤ 16384) : Pt.toks (List.replicate n 10 ++ s) = shE (dn n) (List.map (sh (dn n))) (Pt.toks s) := by
 unfold Pt.toks
 rw [if_neg (by simp; omega), if_neg (by omega)]
 obtain ⟨g, h1, h2⟩ := scan_up n s (List.replicate n 10 ++ s).length 1 1 (fun _ => rfl) (by simp)
 rw [h2, scan_fuel g s.length s _ _ _ h1 (Nat.le_refl _)]
 exact scan_sh (dn n) n s.length s 1 _ 1 [] (Nat.le_refl _) rfl fun x h1 h2 => IntWalk.i64_in _ (by omega)
end Ps
end Go.Vs
end
section
namespace Go.Vs
namespace Ps
theorem ite_or_sh2 {γ δ : Type} {l : List Tok} {k : Int → Int} {a : Nat} (W : EndsL l) {q : γ → δ} {s u : List UInt8} {x' y' : Rs δ} {x y : Rs γ} (ha : a < l.length) (hx : a + 1 < l.length → x' = shX k q x) (hy : y' = shX k q y) :
  (if (is (l.map (sh k)) a s || is (l.map (sh k)) a u) = true then x' else y') = shX k q (if (is l a s || is l a u) = true then x else y) := by
 rw [is_sh ha, is_sh ha]; exact ite_sh (fun h => hx (is2_next W h)) fun _ => hy
set_option maxHeartbeats 4000000 in
theorem run_sh (l : List Tok) (W : EndsL l) (k : Int → Int) : ∀ n rule rule' d a, rule' = shR k rule → a < l.length → run (l.map (sh k)) n rule' d a = shX k (shP k) (run l n rule d a) := by
 intro n
 induction n with
 | zero => intro rule rule' d a _ _; rfl
 | succ n ih =>
  intro rule rule' d a he ha
  subst he
  have res : ∀ {d b : Nat}, b < l.length → (if ((tk (l.map (sh k)) b).kind == 2 || isTyp (l.map (sh k)) b || is (l.map (sh k)) b [91]) = true then run (l.map (sh k)) n .typ d b else Rs.ok (none_, b)) = shX k (shP k) (if ((tk l b).kind == 2 || isTyp l b || is l b [91]) = true then run l n .typ d b else Rs.ok (none_, b)) := fun hb => by
   rw [tk_sh hb, isTyp_sh hb, is_sh hb]
   exact ite_sh (fun _ => ih _ _ _ _ rfl hb) fun _ => rfl
  have lt2 : ∀ rule d a t b, a < l.length → run l n rule d a = some (.ok (t, b)) → b < l.length := run_lt l W n
  have i_typ : ∀ d a, a < l.length → run (l.map (sh k)) n .typ d a = shX k (shP k) (run l n .typ d a) := fun d a => ih .typ _ d a rfl
  have i_field : ∀ d a, a < l.length → run (l.map (sh k)) n .field d a = shX k (shP k) (run l n .field d a) := fun d a => ih .field _ d a rfl
  have i_method : ∀ d a, a < l.length → run (l.map (sh k)) n .method d a = shX k (shP k) (run l n .method d a) := fun d a => ih .method _ d a rfl
  have i_param : ∀ d a, a < l.length → run (l.map (sh k)) n .param d a = shX k (shP k) (run l n .param d a) := fun d a => ih .param _ d a rfl
  have i_stmt : ∀ d a, a < l.length → run (l.map (sh k)) n .stmt d a = shX k (shP k) (run l n .stmt d a) := fun d a => ih .stmt _ d a rfl
  have i_ifs : ∀ d a, a < l.length → run (l.map (sh k)) n .ifs d a = shX k (shP k) (run l n .ifs d a) := fun d a => ih .ifs _ d a rfl
  have i_block : ∀ d a, a < l.length → run (l.map (sh k)) n .block d a = shX k (shP k) (run l n .block d a) := fun d a => ih .block _ d a rfl
  have i_expr : ∀ d a, a < l.length → run (l.map (sh k)) n .expr d a = shX k (shP k) (run l n .expr d a) := fun d a => ih .expr _ d a rfl
  have i_unary : ∀ d a, a < l.length → run (l.map (sh k)) n .unary d a = shX k (shP k) (run l n .unary d a) := fun d a => ih .unary _ d a rfl
  have i_post : ∀ d a, a < l.length → run (l.map (sh k)) n .post d a = shX k (shP k) (run l n .post d a) := fun d a => ih .post _ d a rfl
  have i_prime : ∀ d a, a < l.length → run (l.map (sh k)) n .prime d a = shX k (shP k) (run l n .prime d a) := fun d a => ih .prime _ d a rfl
  have o_typ : ∀ d, ShOK l k (run (l.map (sh k)) n .typ d) (run l n .typ d) := fun d a ha => i_typ d a ha
  have o_field : ∀ d, ShOK l k (run (l.map (sh k)) n .field d) (run l n .field d) := fun d a ha => i_field d a ha
  have o_method : ∀ d, ShOK l k (run (l.map (sh k)) n .method d) (run l n .method d) := fun d a ha => i_method d a ha
  have o_param : ∀ d, ShOK l k (run (l.map (sh k)) n .param d) (run l n .param d) := fun d a ha => i_param d a ha
  have o_stmt : ∀ d, ShOK l k (run (l.map (sh k)) n .stmt d) (run l n .stmt d) := fun d a ha => i_stmt d a ha
  have o_ifs : ∀ d, ShOK l k (run (l.map (sh k)) n .ifs d) (run l n .ifs d) := fun d a ha => i_ifs d a ha
  have o_block : ∀ d, ShOK l k (run (l.map (sh k)) n .block d) (run l n .block d) := fun d a ha => i_block d a ha
  have o_expr : ∀ d, ShOK l k (run (l.map (sh k)) n .expr d) (run l n .expr d) := fun d a ha => i_expr d a ha
  have o_unary : ∀ d, ShOK l k (run (l.map (sh k)) n .unary d) (run l n .unary d) := fun d a ha => i_unary d a ha
  have o_post : ∀ d, ShOK l k (run (l.map (sh k)) n .post d) (run l n .post d) := fun d a ha => i_post d a ha
  have o_prime : ∀ d, ShOK l k (run (l.map (sh k)) n .prime d) (run l n .prime d) := fun d a ha => i_prime d a ha
  have i_binary : ∀ m d a, a < l.length → run (l.map (sh k)) n (.binary m) d a = shX k (shP k) (run l n (.binary m) d a) := fun m d a => ih (.binary m) _ d a rfl
  have i_binGo : ∀ m x x' d a, x' = shT k x → a < l.length → run (l.map (sh k)) n (.binGo m x') d a = shX k (shP k) (run l n (.binGo m x) d a) := fun m x x' d a e => ih (.binGo m x) _ d a (by rw [e]; rfl)
  have i_postGo : ∀ x x' d a, x' = shT k x → a < l.length → run (l.map (sh k)) n (.postGo x') d a = shX k (shP k) (run l n (.postGo x) d a) := fun x x' d a e => ih (.postGo x) _ d a (by rw [e]; rfl)
  cases rule
  case stmt =>
   simp only [run, shR, tk_sh ha, sh_kind, sh_text, sh_n, sh_col]
   refine ite_sh (fun _ => bad_sh (flt_sh ha)) fun _ => ?_
   refine ite_is_sh W ha (fun hl => i_block _ _ (by omega)) ?_
   refine ite_is_sh W ha (fun hl => ?_) ?_
   ·refine lift_sh (name_sh (by omega)) fun c h1 => ?_
    replace h1 := name_next W h1
    refine bind_sh (p := shP k) (i_typ _ _ (by omega)) fun x h2 => ?_
    obtain ⟨x, c2⟩ := x
    replace h2 := lt2 _ _ _ _ _ (by omega) h2
    dsimp only [shP]
    refine ite_is_sh W (by omega) (fun hl2 => ?_) ?_
    ·skip
     refine bind_sh (p := shP k) (i_expr _ _ (by omega)) fun y h3 => ?_
     obtain ⟨y, c3⟩ := y
     first | rfl | (simp (disch := omega) only [tk_sh]; rfl)
    ·skip
     first | rfl | (simp (disch := omega) only [tk_sh]; rfl)
   refine ite_is_sh W ha (fun hl => i_ifs _ _ (by omega)) ?_
   refine ite_is_sh W ha (fun hl => ?_) ?_
   ·refine ite_is_sh W (by omega) (fun hl2 => ?_) ?_
    ·skip
     refine bind_sh (p := shP k) (i_block _ _ (by omega)) fun y h3 => ?_
     obtain ⟨y, c3⟩ := y
     first | rfl | (simp (disch := omega) only [tk_sh]; rfl)
    ·skip
     refine bind_sh (p := shP k) (i_expr _ _ (by omega)) fun x h2 => ?_
     obtain ⟨x, c2⟩ := x
     replace h2 := lt2 _ _ _ _ _ (by omega) h2
     dsimp only [shP]
     refine bind_sh (p := shP k) (i_block _ _ (by omega)) fun y h3 => ?_
     obtain ⟨y, c3⟩ := y
     first | rfl | (simp (disch := omega) only [tk_sh]; rfl)
   refine ite_is_sh W ha (fun hl => ?_) ?_
   ·skip
    first | rfl | (simp (disch := omega) only [tk_sh]; rfl)
   refine ite_is_sh W ha (fun hl => ?_) ?_
   ·skip
    first | rfl | (simp (disch := omega) only [tk_sh]; rfl)
   refine ite_is_sh W ha (fun hl => ?_) ?_
   ·refine ite_or_sh2 W (by omega) (fun hl => ?_) ?_
    ·skip
     first | rfl | (simp (disch := omega) only [tk_sh]; rfl)
    ·skip
     refine bind_sh (p := shP k) (i_expr _ _ (by omega)) fun x h2 => ?_
     obtain ⟨x, c2⟩ := x
     first | rfl | (simp (disch := omega) only [tk_sh]; rfl)
   refine ite_is_sh W ha (fun hl => ?_) ?_
   ·refine lift_sh (need_sh (by omega)) fun c h1 => ?_
    replace h1 := need_next W h1
    refine bind_sh (p := shP k) (i_expr _ _ (by omega)) fun x h2 => ?_
    obtain ⟨x, c2⟩ := x
    replace h2 := lt2 _ _ _ _ _ (by omega) h2
    dsimp only [shP]
    refine lift_sh (need_sh (by omega)) fun c3 h3 => ?_
    first | rfl | (simp (disch := omega) only [tk_sh]; rfl)
   refine bind_sh (p := shP k) (i_expr _ _ (by omega)) fun x h2 => ?_
   obtain ⟨x, c2⟩ := x
   replace h2 := lt2 _ _ _ _ _ (by omega) h2
   dsimp only [shP]
   refine ite_is_sh W (by omega) (fun hl2 => ?_) ?_
   ·skip
    refine bind_sh (p := shP k) (i_expr _ _ (by omega)) fun y h3 => ?_
    obtain ⟨y, c3⟩ := y
    first | rfl | (simp (disch := omega) only [tk_sh]; rfl)
   refine ite_is_sh W (by omega) (fun hl2 => ?_) ?_
   ·skip
    refine bind_sh (p := shP k) (i_expr _ _ (by omega)) fun y h3 => ?_
    obtain ⟨y, c3⟩ := y
    first | rfl | (simp (disch := omega) only [tk_sh]; rfl)
   first | rfl | (simp (disch := omega) only [tk_sh]; rfl)
  case ifs =>
   simp only [run, shR, tk_sh ha, sh_kind, sh_text, sh_n, sh_col]
   refine lift_sh (need_sh (by omega)) fun c h1 => ?_
   replace h1 := need_next W h1
   refine bind_sh (p := shP k) (i_expr _ _ (by omega)) fun x h2 => ?_
   obtain ⟨x, c2⟩ := x
   replace h2 := lt2 _ _ _ _ _ (by omega) h2
   dsimp only [shP]
   refine bind_sh (p := shP k) (i_block _ _ (by omega)) fun y h3 => ?_
   obtain ⟨y, c3⟩ := y
   replace h3 := lt2 _ _ _ _ _ (by omega) h3
   dsimp only [shP]
   refine ite_is_sh W (by omega) (fun hl => ?_) ?_
   ·refine ite_is_sh W (by omega) (fun hl2 => ?_) ?_
    ·refine bind_sh (p := shP k) (i_ifs _ _ (by omega)) fun z h4 => ?_
     obtain ⟨z, c4⟩ := z
     rfl
    ·refine ite_is_sh W (by omega) (fun hl2 => ?_) ?_
     ·refine bind_sh (p := shP k) (i_block _ _ (by omega)) fun z h4 => ?_
      obtain ⟨z, c4⟩ := z
      rfl
     ·exact bad_sh (flt_sh (by omega))
   ·rfl
  all_goals simp only [run, shR, tk_sh ha, sh_kind, sh_text, sh_n, sh_col]
  all_goals repeat' (with_reducible first
   | (refine ite_is_sh W (by omega) (fun hl => ?_) ?_)
   | (refine ite_or_sh2 W (by omega) (fun hl => ?_) ?_)
   | (refine lift_sh (need_sh (by omega)) fun c h1 => ?_; replace h1 := need_next W h1)
   | (refine lift_sh (name_sh (by omega)) fun c h1 => ?_; replace h1 := name_next W h1)
   | (refine bind_sh (p := shP k) (by first | exact i_typ _ _ (by omega) | exact i_field _ _ (by omega) | exact i_method _ _ (by omega) | exact i_param _ _ (by omega) | exact i_stmt _ _ (by omega) | exact i_ifs _ _ (by omega) | exact i_block _ _ (by omega) | exact i_expr _ _ (by omega) | exact i_unary _ _ (by omega) | exact i_post _ _ (by omega) | exact i_prime _ _ (by omega) | exact i_binary _ _ _ (by omega)) fun x h1 => ?_; obtain ⟨x, c⟩ := x; replace h1 := lt2 _ _ _ _ _ (by omega) h1; dsimp only [shP])
   | (refine ite_typ_sh W (by omega) (fun hl => ?_) ?_)
   | (refine ite_and_sh W (by omega) (by decide) (fun hl => ?_) ?_)
   | (refine ite_kind_sh W (by omega) (by decide) (fun hl => ?_) ?_)
   | exact bad_sh (flt_sh (by omega))
   | (first | exact i_typ _ _ (by omega) | exact i_field _ _ (by omega) | exact i_method _ _ (by omega) | exact i_param _ _ (by omega) | exact i_stmt _ _ (by omega) | exact i_ifs _ _ (by omega) | exact i_block _ _ (by omega) | exact i_expr _ _ (by omega) | exact i_unary _ _ (by omega) | exact i_post _ _ (by omega) | exact i_prime _ _ (by omega) | exact i_binary _ _ _ (by omega))
   | exact i_binGo _ _ _ _ _ (by simp (disch := omega) only [tk_sh]; with_unfolding_all rfl) (by omega)
   | exact i_postGo _ _ _ _ (by simp (disch := omega) only [tk_sh]; with_unfolding_all rfl) (by omega)
   | exact i_binGo _ _ _ _ _ (by with_unfolding_all rfl) (by omega)
   | exact i_postGo _ _ _ _ (by with_unfolding_all rfl) (by omega)
   | (refine bind_sh (row_sh W (run_lt l W n _ _) (by first | exact o_typ _ | exact o_field _ | exact o_method _ | exact o_param _ | exact o_stmt _ | exact o_ifs _ | exact o_block _ | exact o_expr _ | exact o_unary _ | exact o_post _ | exact o_prime _) n (by omega)) fun x h1 => ?_; obtain ⟨x, c⟩ := x; replace h1 := row_lt W (run_lt l W n _ _) h1; dsimp only [shPs])
   | (refine bind_sh (list_sh W (run_lt l W n _ _) (by first | exact o_typ _ | exact o_field _ | exact o_method _ | exact o_param _ | exact o_stmt _ | exact o_ifs _ | exact o_block _ | exact o_expr _ | exact o_unary _ | exact o_post _ | exact o_prime _) n (by omega)) fun x h1 => ?_; obtain ⟨x, c⟩ := x; replace h1 := list_lt W (run_lt l W n _ _) h1; dsimp only [shPs])
   | (refine bind_sh (res (by omega)) fun x h1 => ?_; obtain ⟨x, c⟩ := x; dsimp only [shP])
   | (refine ite_sh (fun hc => ?_) (fun hc => ?_); try (first | (replace hc := typ_next W hc) | (replace hc := is2_next W hc) | (replace hc := and_next W (by decide) hc) | (replace hc := kind_next W (by decide) hc))))
  all_goals first
   | rfl
   | (rw [flt_sh (by omega)]; rfl)
   | (simp (disch := omega) only [tk_sh]; rfl)
   | skip
end Ps
end Go.Vs
end
section
namespace Go.Vs
namespace Ps
section
variable {l : List Tok} {k : Int → Int} {n a : Nat}
theorem result_sh (W : EndsL l) (ha : a < l.length) : result (l.map (sh k)) n a = shX k (shP k) (result l n a) := by
 unfold result
 rw [tk_sh ha, isTyp_sh ha, is_sh ha]
 exact ite_sh (fun _ => run_sh l W k n .typ _ 0 a rfl ha) fun _ => rfl
theorem result_lt (W : EndsL l) {t : Tree} {b : Nat} (ha : a < l.length) (h : result l n a = some (.ok (t, b))) : b < l.length := by
 unfold result at h
 rcases ite_or h with ⟨_, h⟩ | ⟨_, h⟩
 ·exact run_lt l W n _ _ _ _ _ ha h
 ·cases h; exact ha
theorem typeDecl_sh (W : EndsL l) (ha : a < l.length) : typeDecl (l.map (sh k)) n a = shX k (shP k) (typeDecl l n a) := by
 unfold typeDecl
 rw [tk_sh ha]
 refine lift_sh (need_sh ha) fun a1 h1 => ?_
 replace h1 := need_next W h1
 refine lift_sh (name_sh (by omega)) fun b h2 => ?_
 replace h2 := name_next W h2
 rw [tk_sh (show a1 < l.length by omega)]
 refine ite_is_sh W (by omega) (fun hl => ?_) ?_
 ·refine bind_sh (list_sh W (run_lt l W n .method 0) (fun a ha => run_sh l W k n .method _ 0 a rfl ha) n (by omega)) fun x h3 => ?_
  obtain ⟨x, c⟩ := x
  rfl
 ·refine lift_sh (need_sh (by omega)) fun b' h3 => ?_
  replace h3 := need_next W h3
  refine bind_sh (list_sh W (run_lt l W n .field 0) (fun a ha => run_sh l W k n .field _ 0 a rfl ha) n (by omega)) fun x h3 => ?_
  obtain ⟨x, c⟩ := x
  rfl
theorem typeDecl_lt (W : EndsL l) {t : Tree} {b : Nat} (ha : a < l.length) (h : typeDecl l n a = some (.ok (t, b))) : b < l.length := by
 unfold typeDecl at h
 obtain ⟨a1, h1, h⟩ := lift_ok h
 replace h1 := need_next W h1
 obtain ⟨b1, h2, h⟩ := lift_ok h
 replace h2 := name_next W h2
 rcases ite_or h with ⟨hi, h⟩ | ⟨_, h⟩
 ·replace hi := is_next W hi
  obtain ⟨⟨x, c⟩, h3, h⟩ := bind_ok h
  have := list_lt W (run_lt l W n .method 0) h3
  cases h; exact this
 ·obtain ⟨b2, h3, h⟩ := lift_ok h
  replace h3 := need_next W h3
  obtain ⟨⟨x, c⟩, h4, h⟩ := bind_ok h
  have := list_lt W (run_lt l W n .field 0) h4
  cases h; exact this
theorem ebind_sh2 {α γ δ : Type} {k : Int → Int} {q : γ → δ} {x' x : Except Flt α} {f' : α → Except Flt δ} {f : α → Except Flt γ} (hx : x' = shE k id x) (hf : ∀ a, x = .ok a → f' a = shE k q (f a)) : (x' >>= f') = shE k q (x >>= f) := by
 subst hx
 cases x with
 | error e => rfl
 | ok a => exact hf a rfl
theorem ebind_ok {α β : Type} {x : Except Flt α} {f : α → Except Flt β} {r : β} (h : (x >>= f) = .ok r) : ∃ a, x = .ok a ∧ f a = .ok r := by
 cases x with
 | error e => cases h
 | ok a => exact ⟨a, rfl, h⟩
theorem recv_sh (W : EndsL l) (ha : a < l.length) : recv (l.map (sh k)) a = shE k (shP k) (recv l a) ∧ ∀ x, recv l a = .ok x → x.2 < l.length := by
 unfold recv
 rw [is_sh ha]
 by_cases h : is l a [40] = true
 ·have h0 := is_next W h
  rw [if_pos h, if_pos h, tk_sh h0]
  refine ⟨ebind_sh2 (name_sh h0) fun b h1 => ?_, fun x e => ?_⟩
  ·replace h1 := name_next W h1
   have hb : b < l.length := by omega
   rw [tk_sh hb]
   refine ebind_sh2 (name_sh hb) fun c h2 => ?_
   replace h2 := name_next W h2
   refine ebind_sh2 (need_sh (by omega)) fun d h3 => ?_
   rfl
  ·obtain ⟨b, h1, e⟩ := ebind_ok e
   replace h1 := name_next W h1
   obtain ⟨c, h2, e⟩ := ebind_ok e
   replace h2 := name_next W h2
   obtain ⟨d, h3, e⟩ := ebind_ok e
   replace h3 := need_next W h3
   cases e
   show d < l.length
   omega
 ·rw [if_neg h, if_neg h]
  exact ⟨rfl, fun x e => by cases e; exact ha⟩
theorem lift_sh2 {α β γ δ : Type} {k : Int → Int} {p : α → β} {q : γ → δ} {x' : Except Flt β} {x : Except Flt α} {f' : β → Rs δ} {f : α → Rs γ} (hx : x' = shE k p x) (hf : ∀ a, x = .ok a → f' (p a) = shX k q (f a)) : lift x' f' = shX k q (lift x f) := by
 subst hx
 cases x with
 | error e => rfl
 | ok a => exact hf a rfl
theorem funcDecl_sh (W : EndsL l) (ha : a < l.length) : funcDecl (l.map (sh k)) n a = shX k (shP k) (funcDecl l n a) := by
 unfold funcDecl
 rw [tk_sh ha]
 refine lift_sh (need_sh ha) fun a1 h1 => ?_
 replace h1 := need_next W h1
 have hr := recv_sh (k := k) W (show a1 < l.length by omega)
 refine lift_sh2 hr.1 fun x h2 => ?_
 replace h2 := hr.2 _ h2
 obtain ⟨rv, b⟩ := x
 dsimp only [shP] at h2 ⊢
 refine lift_sh (name_sh h2) fun c h3 => ?_
 replace h3 := name_next W h3
 rw [tk_sh h2]
 refine bind_sh (row_sh W (run_lt l W n .param 0) (fun a ha => run_sh l W k n .param _ 0 a rfl ha) n (by omega)) fun x h4 => ?_
 obtain ⟨ps, d⟩ := x
 replace h4 := row_lt W (run_lt l W n .param 0) h4
 dsimp only [shPs]
 refine bind_sh (result_sh W h4) fun x h5 => ?_
 obtain ⟨y, e⟩ := x
 replace h5 := result_lt W h4 h5
 dsimp only [shP]
 refine bind_sh (run_sh l W k n .block _ 0 e rfl h5) fun x h6 => ?_
 obtain ⟨body, f⟩ := x
 rfl
theorem funcDecl_lt (W : EndsL l) {t : Tree} {b : Nat} (ha : a < l.length) (h : funcDecl l n a = some (.ok (t, b))) : b < l.length := by
 unfold funcDecl at h
 obtain ⟨a1, h1, h⟩ := lift_ok h
 replace h1 := need_next W h1
 have hr := recv_sh (k := id) W (show a1 < l.length by omega)
 obtain ⟨⟨rv, b1⟩, h2, h⟩ := lift_ok h
 replace h2 := hr.2 _ h2
 obtain ⟨c, h3, h⟩ := lift_ok h
 replace h3 := name_next W h3
 obtain ⟨⟨ps, d⟩, h4, h⟩ := bind_ok h
 replace h4 := row_lt W (run_lt l W n .param 0) h4
 obtain ⟨⟨y, e⟩, h5, h⟩ := bind_ok h
 replace h5 := result_lt W h4 h5
 obtain ⟨⟨body, f⟩, h6, h⟩ := bind_ok h
 replace h6 := run_lt l W n _ _ _ _ _ h5 h6
 cases h; exact h6
theorem declsGo_sh (W : EndsL l) : ∀ m a, a < l.length → declsGo (l.map (sh k)) n m a = shX k (shL k) (declsGo l n m a)
 | 0, a, _ => rfl
 | m + 1, a, ha => by
  rw [declsGo, declsGo, tk_sh ha]
  refine ite_sh (fun _ => rfl) fun h0 => ?_
  refine bind_sh (p := shP k) ?_ fun x h => ?_
  ·refine ite_is_sh W ha (fun _ => typeDecl_sh W ha) ?_
   refine ite_is_sh W ha (fun _ => funcDecl_sh W ha) ?_
   exact bad_sh (flt_sh ha)
  ·obtain ⟨x, b⟩ := x
   have hb : b < l.length := by
    rcases ite_or h with ⟨_, h⟩ | ⟨_, h⟩
    ·exact typeDecl_lt W ha h
    ·rcases ite_or h with ⟨_, h⟩ | ⟨_, h⟩
     ·exact funcDecl_lt W ha h
     ·cases h
   dsimp only [shP]
   refine lift_sh (need_sh hb) fun c h1 => ?_
   replace h1 := need_next W h1
   have hc : c < l.length := by omega
   rw [(gaps_sh W hc).1]
   refine bind_sh (declsGo_sh W m _ (gaps_sh (k := id) W hc).2) fun xs _ => ?_
   rfl
theorem file_sh (W : EndsL l) (h0 : 0 < l.length) : file (l.map (sh k)) n = shX k (shT k) (file l n) := by
 unfold file
 rw [(gaps_sh W h0).1, tk_sh h0]
 refine bind_sh (declsGo_sh W n _ (gaps_sh (k := id) W h0).2) fun xs _ => ?_
 rfl
end
theorem endsL_of {l : List Tok} (hl : (tk l (l.length - 1)).kind = 0) (hr : ∀ i, i + 1 < l.length → (tk l i).kind ≠ 0) : EndsL l := fun i hi => by
 rcases Nat.lt_or_ge (i + 1) l.length with h | h
 ·exact h
 ·exfalso
  have := kind_lt hi
  rw [show i = l.length - 1 by omega] at hi
  exact hi hl
end Ps
end Go.Vs
end
section
namespace Go.Vs
variable [GTab]
noncomputable section
abbrev GH := Nat → Option (List AVal)
def gup (b : Nat) (x : Option (List AVal)) (Γ : GH) : GH := fun c => if c = b then x else Γ c
theorem gup_same (b : Nat) (x : Option (List AVal)) (Γ : GH) : gup b x Γ b = x := by simp [gup]
theorem gup_ne {b c : Nat} {x : Option (List AVal)} {Γ : GH} (h : c ≠ b) : gup b x Γ c = Γ c := by simp [gup, h]
theorem gup_gup (b : Nat) (x y : Option (List AVal)) (Γ : GH) : gup b x (gup b y Γ) = gup b x Γ := by
 funext c; by_cases h : c = b <;> simp [gup, h]
def Row (H : Heap) (b : Nat) (cs : List AVal) (olds : List Nat) : Prop := ∃ ct, H b = some (.cells cs.length ct olds false) ∧ ct.take cs.length = cs
theorem take_len {α : Type} {n : Nat} {l m : List α} (h : l.take n = m) (hm : m.length = n) : n ≤ l.length := by
 have := congrArg List.length h
 rw [List.length_take, hm] at this
 omega
theorem slab_take {cs ct : CT} {off sz : Nat} (hc : ct.take cs.length = cs) (ho : off + sz ≤ cs.length) : CT.slab ct sz off = (cs.drop off).take sz := by
 have hl := take_len hc rfl
 rw [CT.slab_eq (by omega)]
 conv => rhs; rw [← hc]
 rw [List.drop_take, List.take_take, Nat.min_eq_left (by omega)]
theorem dels_same : ∀ {l : List Nat} {H : Heap} {c : Nat}, c ∉ l → dels l H c = H c
 | [], _, _, _ => rfl
 | b :: l, H, c, h => by
  rw [dels_cons, dels_same (fun x => h (List.mem_cons_of_mem _ x))]
  show get5 c (set5 b _ H) = get5 c H
  exact get5_ne (fun e => h (by rw [e]; exact List.mem_cons_self)) (by omega) (by omega)
theorem set5_ne' {b c : Nat} {x : Option AObj} {H : Heap} (h : c ≠ b) : set5 b x H c = H c := get5_ne (H := H) (x := x) (fun e => h e.symm) (by omega) (by omega)
theorem set5_eq' (b : Nat) (x : Option AObj) (H : Heap) : set5 b x H b = x := get5_set5_same b x H
end
end Go.Vs
end
section
namespace Go.Vs
variable [GTab]
noncomputable section
def HZ (Z : Nat → Prop) (Γ : GH) (H : Heap) (nx : Nat) : Prop := (∀ b, Z b → b < nx) ∧ ∀ b cs, Γ b = some cs → (b < nx ∧ ¬ Z b) ∧ ∃ olds, Row H b cs olds ∧ ∀ o, o ∈ olds → (o < nx ∧ ¬ Z o) ∧ Γ o = none
theorem HZ.lt {Z : Nat → Prop} {Γ : GH} {H : Heap} {nx b : Nat} {cs : List AVal} (h : HZ Z Γ H nx) (e : Γ b = some cs) : b < nx := (h.2 b cs e).1.1
theorem HZ.nz {Z : Nat → Prop} {Γ : GH} {H : Heap} {nx b : Nat} {cs : List AVal} (h : HZ Z Γ H nx) (e : Γ b = some cs) : ¬ Z b := (h.2 b cs e).1.2
theorem HZ.non {Z : Nat → Prop} {Γ : GH} {H : Heap} {nx b : Nat} (h : HZ Z Γ H nx) (e : nx ≤ b) : Γ b = none := by
 cases hb : Γ b with
 | none => rfl
 | some cs => exact absurd (h.lt hb) (by omega)
theorem HZ.more {Z : Nat → Prop} {Γ : GH} {H : Heap} {nx nx' : Nat} (h : HZ Z Γ H nx) (e : nx ≤ nx') : HZ Z Γ H nx' := ⟨fun b hb => Nat.lt_of_lt_of_le (h.1 b hb) e, fun b cs hb =>
 let ⟨h1, olds, h2, h3⟩ := h.2 b cs hb
 ⟨⟨Nat.lt_of_lt_of_le h1.1 e, h1.2⟩, olds, h2, fun o ho => ⟨⟨Nat.lt_of_lt_of_le (h3 o ho).1.1 e, (h3 o ho).1.2⟩, (h3 o ho).2⟩⟩⟩
theorem HZ.ld1 {Z : Nat → Prop} {Γ : GH} {H : Heap} {nx b : Nat} {cs : List AVal} (h : HZ Z Γ H nx) (e : Γ b = some cs) (off : Nat) : ld1 H (.ptr b off) = cs[off]? := by
 obtain ⟨_, olds, ⟨ct, hb, hc⟩, _⟩ := h.2 b cs e
 unfold Vs.ld1
 simp only [get5]
 rw [hb]
 have hl := take_len hc rfl
 by_cases ho : off < cs.length
 ·have : Nat.ble (Nat.succ off) cs.length = true := ble_of ho
  simp only [this, CT.get]
  rw [← hc, List.getElem?_take_of_lt ho]
  simp [List.getD, show off < ct.length by omega]
 ·have : Nat.ble (Nat.succ off) cs.length = false := by
   cases e : Nat.ble (Nat.succ off) cs.length with
   | false => rfl
   | true => exact (ho (Nat.le_of_ble_eq_true e)).elim
  simp only [this]
  rw [List.getElem?_eq_none (by omega)]
theorem HZ.ldN {Z : Nat → Prop} {Γ : GH} {H : Heap} {nx b : Nat} {cs : List AVal} (h : HZ Z Γ H nx) (e : Γ b = some cs) {off sz : Nat} (ho : off + sz ≤ cs.length) :
  ldN H sz (.ptr b off) = some (.agg ((cs.drop off).take sz)) := by
 obtain ⟨_, olds, ⟨ct, hb, hc⟩, _⟩ := h.2 b cs e
 unfold Vs.ldN
 simp only [get5]
 rw [hb]
 have : Nat.ble (Nat.add off sz) cs.length = true := ble_of ho
 simp only [this, slab_take hc ho]
theorem HZ.newN {Z : Nat → Prop} {Γ : GH} {H : Heap} {nx nx' b : Nat} (h : HZ Z Γ H nx) (hb : nx ≤ b) (hn : b < nx') {cs : List AVal} {ct : CT} (hc : ct.take cs.length = cs) :
  HZ Z (gup b (some cs) Γ) (set5 b (some (.cells cs.length ct [] false)) H) nx' := by
 refine ⟨fun z hz => by have := h.1 z hz; omega, ?_⟩
 intro c ds e
 by_cases hc' : c = b
 ·subst hc'
  rw [gup_same] at e; cases e
  exact ⟨⟨hn, fun z => by have := h.1 _ z; omega⟩, [], ⟨ct, set5_eq' _ _ _, hc⟩, by simp⟩
 ·rw [gup_ne hc'] at e
  obtain ⟨h1, olds, ⟨ct', h2, h2'⟩, h3⟩ := h.2 c ds e
  exact ⟨⟨by omega, h1.2⟩, olds, ⟨ct', by rw [set5_ne' hc']; exact h2, h2'⟩, fun o ho => ⟨⟨by have := (h3 o ho).1.1; omega, (h3 o ho).1.2⟩, by rw [gup_ne (by have := (h3 o ho).1.1; omega)]; exact (h3 o ho).2⟩⟩
theorem HZ.new {Z : Nat → Prop} {Γ : GH} {H : Heap} {nx nx' b : Nat} (h : HZ Z Γ H nx) (hb : nx ≤ b) (hn : b < nx') (cs : List AVal) : HZ Z (gup b (some cs) Γ) (newB b cs H) nx' :=
 h.newN hb hn (by rw [CT.ofL_eq rfl]; exact List.take_length)
theorem HZ.st {Z : Nat → Prop} {Γ : GH} {H : Heap} {nx b off : Nat} {cs vs : List AVal} (h : HZ Z Γ H nx) (e : Γ b = some cs) (ho : off + vs.length ≤ cs.length) (hv : allCell vs = true) :
  ∃ H', stC H (.ptr b off) vs = some H' ∧ HZ Z (gup b (some (splice cs off vs)) Γ) H' nx := by
 obtain ⟨hb, olds, ⟨ct, h2, h2'⟩, h3⟩ := h.2 b cs e
 have hl := take_len h2' rfl
 refine ⟨set5 b (some (.cells cs.length (relay vs vs.length off cs.length ct) [] false)) (dels olds H), ?_, ?_⟩
 ·unfold stC
  simp only [get5]
  rw [h2]
  have : Nat.ble (Nat.add off vs.length) cs.length = true := ble_of ho
  simp only [this, hv]
 ·refine ⟨h.1, ?_⟩
  intro c ds ec
  by_cases hc : c = b
  ·subst hc
   rw [gup_same] at ec; cases ec
   refine ⟨hb, [], ⟨_, by rw [set5_eq', splice_length ho], ?_⟩, by simp⟩
   rw [splice_length ho]
   unfold relay splice
   split
   ·rename_i g1 g2 _
    have e1 := Nat.eq_of_beq_eq_true g1
    have e2 := Nat.eq_of_beq_eq_true g2
    subst e1
    rw [CT.ofL_eq e2, ← e2, List.take_length]
    simp only [List.take_zero, List.nil_append, Nat.zero_add]
    rw [List.drop_eq_nil_of_le (by omega)]
    simp
   ·rw [CT.lay_eq (by omega)]
    have ea : (ct.take off ++ vs).length = off + vs.length := by simp; omega
    rw [List.take_append, ea, List.take_of_length_le (by omega : (ct.take off ++ vs).length ≤ cs.length)]
    congr 1
    ·conv => rhs; rw [← h2']
     rw [List.take_take, Nat.min_eq_left (by omega)]
    ·conv => rhs; rw [← h2']
     rw [List.drop_take]
  ·rw [gup_ne hc] at ec
   obtain ⟨h4, olds', ⟨ct', h5, h5'⟩, h6⟩ := h.2 c ds ec
   refine ⟨h4, olds', ⟨ct', ?_, h5'⟩, fun o hoo => ⟨(h6 o hoo).1, ?_⟩⟩
   ·rw [set5_ne' hc, dels_same (fun hm => by have := (h3 c hm).2; rw [ec] at this; cases this)]
    exact h5
   ·rw [gup_ne (fun x => by have := (h6 o hoo).2; rw [x, e] at this; cases this)]
    exact (h6 o hoo).2
theorem HZ.src {Z : Nat → Prop} {Γ : GH} {H : Heap} {nx b off n sz e : Nat} {full : Bool} {cs : List AVal} (h : HZ Z Γ H nx) (eb : Γ b = some cs) (ho : off + n * sz ≤ cs.length) :
  aSrc sz H (.slice b off n e full) = some (n, (cs.drop off).take (n * sz)) := by
 obtain ⟨hb, olds, ⟨ct, h2, h2'⟩, h3⟩ := h.2 b cs eb
 unfold aSrc
 simp only [get5]
 rw [h2]
 have : Nat.ble (Nat.add off (Nat.mul n sz)) cs.length = true := ble_of ho
 simp only [this]
 rw [show Nat.mul n sz = n * sz from rfl, slab_take h2' ho]
theorem HZ.appNil {Z : Nat → Prop} {Γ : GH} {H : Heap} {nx esz ebytes k : Nat} {new : List AVal} (h : HZ Z Γ H nx) (hk : new.length = k * esz) (hk0 : 0 < k)
  (h1 : k * esz ≤ 9223372036854775807) (h2 : k * ebytes ≤ 140737488355328) :
  ∃ H', appC H nx esz ebytes .nilSlice k new = some (.slice nx 0 k esz false, H', nx + 1) ∧ HZ Z (gup nx (some new) Γ) H' (nx + 1) := by
 obtain ⟨k', rfl⟩ : ∃ k', k = Nat.succ k' := ⟨k - 1, by omega⟩
 have g2 : Nat.ble (Nat.mul (Nat.succ k') esz) 9223372036854775807 = true := ble_of h1
 have g3 : Nat.ble (Nat.mul (Nat.succ k') ebytes) 140737488355328 = true := ble_of h2
 refine ⟨set5 nx (some (.cells (Nat.mul (Nat.succ k') esz) (CT.ofL (Nat.mul (Nat.succ k') esz) new) [] false)) H, ?_, ?_⟩
 ·unfold appC
  simp only [g2, g3]
 ·have e : Nat.mul (Nat.succ k') esz = new.length := hk.symm
  rw [e]
  exact h.newN (Nat.le_refl _) (Nat.lt_succ_self _) (by rw [CT.ofL_eq rfl]; exact List.take_length)
theorem HZ.appFull {Z : Nat → Prop} {Γ : GH} {H : Heap} {nx b off len esz ebytes k : Nat} {cs new : List AVal} (h : HZ Z Γ H nx) (e : Γ b = some cs) (hl : off + len * esz ≤ cs.length) (hk : new.length = k * esz) (hk0 : 0 < k)
  (h1 : (len + k) * esz ≤ 9223372036854775807) (h2 : (len + k) * ebytes ≤ 140737488355328) :
  ∃ H', appC H nx esz ebytes (.slice b off len esz true) k new = some (.slice nx 0 (len + k) esz false, H', nx + 1) ∧ HZ Z (gup nx (some ((cs.drop off).take (len * esz) ++ new)) Γ) H' (nx + 1) := by
 obtain ⟨hb, olds, ⟨ct, h3, h3'⟩, h4⟩ := h.2 b cs e
 obtain ⟨k', rfl⟩ : ∃ k', k = Nat.succ k' := ⟨k - 1, by omega⟩
 have g1 : Nat.beq esz esz = true := Nat.beq_refl esz
 have g2 : Nat.ble (Nat.mul (Nat.add len (Nat.succ k')) esz) 9223372036854775807 = true := ble_of h1
 have g3 : Nat.ble (Nat.mul (Nat.add len (Nat.succ k')) ebytes) 140737488355328 = true := ble_of h2
 have g4 : Nat.ble (Nat.add off (Nat.mul len esz)) cs.length = true := ble_of hl
 have hm : ((cs.drop off).take (len * esz) ++ new).length = (len + Nat.succ k') * esz := by
  rw [List.length_append, List.length_take, List.length_drop, hk, Nat.add_mul, Nat.min_eq_left (by omega)]
 refine ⟨set5 nx (some (.cells ((len + Nat.succ k') * esz) (CT.ofL ((len + Nat.succ k') * esz) ((cs.drop off).take (len * esz) ++ new)) [] false)) H, ?_, ?_⟩
 ·unfold appC
  simp only [get5, h3, g1, g2, g3, g4]
  rw [show Nat.mul len esz = len * esz from rfl, slab_take h3' hl]; rfl
 ·rw [← hm]
  exact h.newN (Nat.le_refl _) (Nat.lt_succ_self _) (by rw [CT.ofL_eq rfl]; exact List.take_length)
theorem HZ.app {Z : Nat → Prop} {Γ : GH} {H : Heap} {nx b len esz ebytes k : Nat} {cs new : List AVal} (h : HZ Z Γ H nx) (e : Γ b = some cs) (hl : len * esz ≤ cs.length) (hk : new.length = k * esz) (hk0 : 0 < k)
  (h1 : (len + k) * esz ≤ 9223372036854775807) (h2 : (len + k) * ebytes ≤ 140737488355328) :
  ∃ H', appC H nx esz ebytes (.slice b 0 len esz false) k new = some (.slice nx 0 (len + k) esz false, H', nx + 1) ∧
   HZ Z (gup nx (some (cs.take (len * esz) ++ new)) (gup b none Γ)) H' (nx + 1) := by
 obtain ⟨hb, olds, ⟨ct, h3, h3'⟩, h4⟩ := h.2 b cs e
 have hlen := take_len h3' rfl
 obtain ⟨k', rfl⟩ : ∃ k', k = Nat.succ k' := ⟨k - 1, by omega⟩
 have g1 : Nat.beq esz esz = true := Nat.beq_refl esz
 have g2 : Nat.ble (Nat.mul (Nat.add len (Nat.succ k')) esz) 9223372036854775807 = true := ble_of h1
 have g3 : Nat.ble (Nat.mul (Nat.add len (Nat.succ k')) ebytes) 140737488355328 = true := ble_of h2
 have g4 : Nat.ble (Nat.add 0 (Nat.mul len esz)) cs.length = true := ble_of (by show 0 + len * esz ≤ _; omega)
 have hm : (cs.take (len * esz) ++ new).length = (len + Nat.succ k') * esz := by
  rw [List.length_append, List.length_take, hk, Nat.add_mul, Nat.min_eq_left (by omega)]
 have hct : (CT.lay new (len * esz) (CT.widen ((len + Nat.succ k') * esz) ct)).take (cs.take (len * esz) ++ new).length = cs.take (len * esz) ++ new := by
  have hw : (len + Nat.succ k') * esz ≤ (CT.widen ((len + Nat.succ k') * esz) ct).length := by simp [CT.widen]; omega
  have hn : len * esz + new.length = (len + Nat.succ k') * esz := by rw [hk, Nat.add_mul]
  rw [CT.lay_eq (by omega), hm]
  have ht : (CT.widen ((len + Nat.succ k') * esz) ct).take (len * esz) = cs.take (len * esz) := by
   unfold CT.widen
   rw [List.take_append_of_le_length (by omega)]
   conv => rhs; rw [← h3']
   rw [List.take_take, Nat.min_eq_left (by omega)]
  rw [ht]
  exact List.take_left' hm
 have hap : appC H nx esz ebytes (.slice b 0 len esz false) (Nat.succ k') new = some (.slice nx 0 (len + Nat.succ k') esz false,
   grown b cs.length ct olds (len * esz) H nx ((len + Nat.succ k') * esz) (CT.lay new (len * esz) (CT.widen ((len + Nat.succ k') * esz) ct)), nx + 1) := by
  unfold appC
  simp only [get5, h3, g1, g2, g3, g4]
  rfl
 refine ⟨_, hap, ?_⟩
 rw [← hm]
 have hrest : ∀ c ds, c ≠ nx → c ≠ b → Γ c = some ds → dels olds H c = H c := fun c ds _ _ ec => dels_same fun hx => by have := (h4 c hx).2; rw [ec] at this; cases this
 have key : ∀ (H2 : Heap) (ol : List Nat), (∀ o, o ∈ ol → o = b) → (∀ c, c ≠ nx → c ≠ b → H2 c = dels olds H c) →
   HZ Z (gup nx (some (cs.take (len * esz) ++ new)) (gup b none Γ)) (set5 nx (some (.cells (cs.take (len * esz) ++ new).length (CT.lay new (len * esz) (CT.widen (cs.take (len * esz) ++ new).length ct)) ol false)) H2) (nx + 1) := by
  intro H2 ol hol h2c
  refine ⟨fun z hz => by have := h.1 z hz; omega, ?_⟩
  intro c ds ec
  by_cases hc : c = nx
  ·subst hc
   rw [gup_same] at ec; cases ec
   refine ⟨⟨Nat.lt_succ_self _, fun z => by have := h.1 _ z; omega⟩, ol, ⟨_, set5_eq' _ _ _, by rw [hm]; rw [hm] at hct; exact hct⟩, fun o ho => ?_⟩
   rw [hol o ho]
   exact ⟨⟨by omega, hb.2⟩, by rw [gup_ne (by omega), gup_same]⟩
  ·rw [gup_ne hc] at ec
   have hcb : c ≠ b := fun x => by rw [x, gup_same] at ec; cases ec
   rw [gup_ne hcb] at ec
   obtain ⟨h5, olds', ⟨ct', h6, h6'⟩, h7⟩ := h.2 c ds ec
   refine ⟨⟨by omega, h5.2⟩, olds', ⟨ct', by rw [set5_ne' hc, h2c c hc hcb, hrest c ds hc hcb ec]; exact h6, h6'⟩, fun o ho => ?_⟩
   have ho' := h7 o ho
   refine ⟨⟨by omega, ho'.1.2⟩, ?_⟩
   rw [gup_ne (by omega)]
   by_cases hob : o = b
   ·rw [hob, gup_same]
   ·rw [gup_ne hob]; exact ho'.2
 unfold grown
 split
 ·exact key _ [b] (by simp) (fun c h1 h2 => by rw [set5_ne' h2])
 ·exact key _ [] (by simp) (fun c h1 h2 => by rw [set5_ne' h2, set5_ne' h2])
theorem HZ.res {Z Z' : Nat → Prop} {Γ : GH} {H : Heap} {nx nx' : Nat} (h : HZ Z Γ H nx) (hz : ∀ b, Z' b → Z b ∨ (nx ≤ b ∧ b < nx')) (hn : nx ≤ nx') : HZ Z' Γ H nx' :=
 ⟨fun b hb => (hz b hb).elim (fun g => Nat.lt_of_lt_of_le (h.1 b g) hn) fun g => g.2, fun b cs e =>
  let ⟨h1, olds, h2, h3⟩ := h.2 b cs e
  ⟨⟨Nat.lt_of_lt_of_le h1.1 hn, fun g => (hz b g).elim (fun g => h1.2 g) fun g => by omega⟩, olds, h2, fun o ho => ⟨⟨Nat.lt_of_lt_of_le (h3 o ho).1.1 hn, fun g => by
   rcases hz o g with g | g
   ·exact (h3 o ho).1.2 g
   ·have := (h3 o ho).1.1; omega⟩, (h3 o ho).2⟩⟩⟩
theorem HZ.take {Z Z' : Nat → Prop} {Γ : GH} {H : Heap} {nx i : Nat} (h : HZ Z Γ H nx) (hi : Z i) (hz : ∀ b, Z' b → Z b ∧ b ≠ i) (cs : List AVal) : HZ Z' (gup i (some cs) Γ) (newB i cs H) nx := by
 refine ⟨fun b hb => h.1 b (hz b hb).1, ?_⟩
 intro c ds e
 by_cases hc' : c = i
 ·subst hc'
  rw [gup_same] at e; cases e
  exact ⟨⟨h.1 _ hi, fun z => (hz _ z).2 rfl⟩, [], ⟨_, set5_eq' _ _ _, by rw [CT.ofL_eq rfl]; exact List.take_length⟩, by simp⟩
 ·rw [gup_ne hc'] at e
  obtain ⟨h1, olds, ⟨ct', h2, h2'⟩, h3⟩ := h.2 c ds e
  refine ⟨⟨h1.1, fun z => h1.2 (hz _ z).1⟩, olds, ⟨ct', by unfold newB; rw [set5_ne' hc']; exact h2, h2'⟩, fun o ho => ⟨⟨(h3 o ho).1.1, fun z => (h3 o ho).1.2 (hz _ z).1⟩, ?_⟩⟩
  rw [gup_ne fun x => (h3 o ho).1.2 (by rw [x]; exact hi)]; exact (h3 o ho).2
theorem HZ.free {Z : Nat → Prop} {Γ : GH} {H : Heap} {nx i : Nat} (h : HZ Z Γ H nx) (hi : Z i) : Γ i = none := by
 cases e : Γ i with
 | none => rfl
 | some cs => exact absurd hi (h.nz e)
theorem HZ.less {Z Z' : Nat → Prop} {Γ : GH} {H : Heap} {nx : Nat} (h : HZ Z Γ H nx) (hz : ∀ b, Z' b → Z b) : HZ Z' Γ H nx := h.res (fun b hb => .inl (hz b hb)) (Nat.le_refl _)
theorem HZ.sub {Z : Nat → Prop} {Γ Γ' : GH} {H : Heap} {nx : Nat} (h : HZ Z Γ' H nx) (hs : ∀ b cs, Γ b = some cs → Γ' b = some cs) : HZ Z Γ H nx := ⟨h.1, fun b cs e =>
 let ⟨h1, olds, h2, h3⟩ := h.2 b cs (hs b cs e)
 ⟨h1, olds, h2, fun o ho => ⟨(h3 o ho).1, by
  cases hq : Γ o with
  | none => rfl
  | some ds => have := (h3 o ho).2; rw [hs _ _ hq] at this; cases this⟩⟩⟩
end
end Go.Vs
end
section
namespace Go.Vs
namespace Pt
def key (t : Tok) : Int × List UInt8 × Int := (t.kind, t.text, t.n)
abbrev Key := Int × List UInt8 × Int
end Pt
end Go.Vs
end
section
namespace Go.Vs
namespace Pl
open Pt (Key key)
def dig (i : Nat) : List UInt8 := if i < 10 then [UInt8.ofNat (48 + i)] else [UInt8.ofNat (48 + i / 10), UInt8.ofNat (48 + i % 10)]
def prm : Nat → List UInt8
 | 0 => []
 | i + 1 => prm i ++ ((if 0 < i then [44, 32] else []) ++ (112 :: (dig i ++ [32, 105, 110, 116])))
def head (m : Nat) : List UInt8 := [102, 117, 110, 99, 32, 102, 40] ++ (prm m ++ [41, 32, 123, 10])
def stmtT (i : Nat) (b : Bool) : List UInt8 := [112, 114, 105, 110, 116, 40] ++ (dig i ++ ([41, 10] ++ if b then [59, 59, 10, 59] else []))
def body (sem : Nat → Bool) : Nat → List UInt8
 | 0 => []
 | i + 1 => body sem i ++ stmtT i (sem i)
def foot : List UInt8 := [125, 10, 59, 59, 10]
def text (m n : Nat) (sem : Nat → Bool) : List UInt8 := head m ++ (body sem n ++ foot)
end Pl
end Go.Vs
end
section
namespace Go.Vs
variable [GTab]
structure ArgR (a : AVal) (us : List AVal) : Prop where
 len : lenS a = some us.length
 at_ : ∀ i (h : i < us.length), ∃ p, idxS a i 1 = some p ∧ ∀ H, ld1 H p = some us[i]
def ArgN (a : AVal) (l : List Int) : Prop := lenS a = some l.length ∧ ∀ i, i < l.length → ∃ p, idxS a i 1 = some p ∧ ∀ H, ld1 H p = some (.int .i64 (l.getD i 0))
theorem ArgR.ints {a : AVal} {l : List Int} (h : ArgR a (l.map (.int .i64))) : ArgN a l := by
 refine ⟨by rw [h.len, List.length_map], fun i hi => ?_⟩
 obtain ⟨p, h1, h2⟩ := h.at_ i (by simpa using hi)
 exact ⟨p, h1, fun H => by rw [h2]; simp [List.getD, hi]⟩
end Go.Vs
end
section
namespace Go.Vs
open Go Go.ChangeShapes Go.WideShapes
def Kept (W w' : World) : Prop := w'.os = W.os ∧ w'.output = W.output ∧ W.heap.size ≤ w'.heap.size ∧ ∀ i, i < W.heap.size → w'.heap[i]? = W.heap[i]?
theorem Kept.keptBut {W w' : World} (h : Kept W w') (may : MemPlace → Prop) : W.keptBut w' may := by
 refine ⟨h.1, h.2.1, fun i hi => ?_⟩
 rw [h.2.2.2 i hi]
 cases e : W.heap[i]? with
 | none => rfl
 | some o => cases o <;> simp
theorem Kept.frozen {W w' : World} (h : Kept W w') (a : Addr) (ha : a.block < W.heap.size) : w'.frozen? a = W.frozen? a := by
 simp only [World.frozen?, h.2.2.2 a.block ha]
theorem Kept.cell {W w' : World} (h : Kept W w') (a : Addr) (ha : a.block < W.heap.size) : w'.cell? a = W.cell? a := by
 simp only [World.cell?, h.2.2.2 a.block ha]
theorem Kept.sameAt {W w' : World} (h : Kept W w') {p : MemPlace} (hp : p.block < W.heap.size) : W.sameAt w' p := by
 cases p with
 | cell b off => exact h.cell ⟨b, off, none⟩ hp
 | map b => exact h.2.2.2 b hp
section
variable {H : Type} {enc : TypeId × Value → H} {P : Program}
theorem post_of_kept {f : Func} {s : ChangeSpec} {apart fresh handsOn again : Bool} {W W' : World} {args : Array Value} {v : Value} {ds gs : List (DataW H)} {before pa pv : List MemPlace}
  (hW : DataW.Whole enc P f.params.toList s.vars apart W args.toList ds gs before)
  (hres : ∀ (b : Nat) (sp : Nat → Bool) (hd : Bool), DataW.TrodAll enc P W' b sp hd f.resultTypes.toList (v.resultList f.resultTypes.size) (s.fn H (ds ++ gs)).results [])
  (hargs : ∀ sp : Nat → Bool, (∀ p ∈ before, sp p.block = true) → DataW.TrodAll enc P W' 0 sp true f.params.toList args.toList (s.fn H (ds ++ gs)).args pa)
  (hvars : ∀ sp : Nat → Bool, (∀ p ∈ before, sp p.block = true) → DataW.TrodVars enc P W' sp s.vars (s.fn H (ds ++ gs)).vars pv)
  (hps : before = pa ++ pv) (hk : Kept W W')
  (hok : ∀ (j : Nat) (t : TypeId) (r : Value), f.resultTypes[j]? = some t → (v.resultList f.resultTypes.size)[j]? = some r → Value.okWide P W' .any 0 t r) :
  s.post enc P f apart fresh handsOn again W args v W' := by
 have hlt : ∀ p ∈ before, p.block < W.heap.size := fun p hp => hW.lt p hp
 have hold : ∀ p ∈ before, (fun b => decide (b < W.heap.size)) p.block = true := fun p hp => by simpa using hlt p hp
 refine ⟨ds, gs, before, [], pa, pv, hW, hres _ _ _, hargs _ hold, hvars _ hold, hk.keptBut _, fun _ => ?_⟩
 obtain ⟨_, _, _, _, _, hz, hn⟩ := hW
 refine ⟨hok, _, _, ([] ++ pa) ++ pv, ⟨[] ++ pa, pv, trodAll_append (hargs _ (fun _ _ => rfl)) (hres _ _ _), hvars _ (fun _ _ => rfl), rfl, ?_, ?_⟩, ?_⟩
 ·intro b off hp
  have hb : MemPlace.cell b off ∈ before := by rw [hps]; simpa using hp
  rw [hk.frozen _ (hlt _ hb)]
  exact hz b off hb
 ·intro ha
  have := hn ha
  rw [hps] at this
  simpa using this
 ·intro p hp _
  rw [hps]
  simpa using hp
def noEmpty (P : Program) : Bool := (List.range P.types.size).all fun t => match P.underlying t with
 | some (.slice e) => Nat.blt 0 (P.cellsOf e) && Nat.blt e P.types.size
 | some (.pointer e) => Nat.blt e P.types.size
 | some (.array _ e) => Nat.blt e P.types.size
 | some (.map _ e) => Nat.blt e P.types.size
 | some (.struct fs) => fs.toList.all fun f => Nat.blt f.type P.types.size
 | _ => true
theorem lt_of_blt {a b : Nat} (h : Nat.blt a b = true) : a < b := Nat.le_of_ble_eq_true h
theorem noEmpty_at (h : noEmpty P = true) {t : TypeId} (ht : t < P.types.size) : (match P.underlying t with
 | some (.slice e) => Nat.blt 0 (P.cellsOf e) && Nat.blt e P.types.size
 | some (.pointer e) => Nat.blt e P.types.size
 | some (.array _ e) => Nat.blt e P.types.size
 | some (.map _ e) => Nat.blt e P.types.size
 | some (.struct fs) => fs.toList.all fun f => Nat.blt f.type P.types.size
 | _ => true) = true := List.all_eq_true.1 h t (List.mem_range.2 ht)
theorem trodStep_spare {w : World} {base : Nat} {sp : Nat → Bool} (hz : noEmpty P = true) {r r' : TypeId → List Value → Option (DataW H × List MemPlace)}
  (hr : ∀ t cs x, t < P.types.size → r t cs = some x → (∀ p ∈ x.2, sp p.block = true) → r' t cs = some x) {t : TypeId} {cs : List Value} {x : DataW H × List MemPlace} (hT : t < P.types.size)
  (h : DataW.trodStep enc P w base (fun _ => true) true r t cs = some x) (hs : ∀ p ∈ x.2, sp p.block = true) : DataW.trodStep enc P w base sp true r' t cs = some x := by
 have hcl := noEmpty_at hz hT
 unfold DataW.trodStep at h ⊢
 split at h
 case h_1 => exact h
 case h_2 => exact h
 case h_3 => exact h
 case h_4 => exact h
 case h_5 => exact h
 case h_6 e a hu =>
  rw [hu] at hcl
  simp only [Option.map_eq_some_iff, Option.bind_eq_some_iff] at h ⊢
  obtain ⟨y, ⟨cs', hc, hy⟩, rfl⟩ := h
  exact ⟨y, ⟨cs', hc, hr _ _ _ (lt_of_blt hcl) hy (fun p hp => hs p (by simp [hp]))⟩, rfl⟩
 case h_7 => exact h
 case h_8 e a len cap hu =>
  rw [hu] at hcl
  dsimp only at hcl
  rw [Bool.and_eq_true] at hcl
  simp only at h ⊢
  split at h
  ·rename_i hc
   rw [if_pos hc]
   simp only [if_true, Option.map_eq_some_iff, Option.bind_eq_some_iff] at h ⊢
   obtain ⟨elems, he, rest, hrest, rfl⟩ := h
   have hlen : elems.length = len := by simpa using mapM_some_length he
   have hrl : rest.length = cap - len := by simpa using mapM_some_length hrest
   have one : ∀ (i : Nat) (y : DataW H × List MemPlace), y ∈ elems ++ rest →
     (w.cells? base (a.add (i * P.cellsOf e)) (P.cellsOf e)).bind (r e) = some y → (w.cells? base (a.add (i * P.cellsOf e)) (P.cellsOf e)).bind (r' e) = some y := by
    intro i y hy hv
    simp only [Option.bind_eq_some_iff] at hv ⊢
    obtain ⟨cs', hc', hy'⟩ := hv
    refine ⟨cs', hc', hr _ _ _ (lt_of_blt hcl.2) hy' (fun p hp => hs p ?_)⟩
    simp only [List.mem_append, List.mem_flatMap]
    right
    exact ⟨y, by simpa using hy, hp⟩
   refine ⟨elems, mapM_carry he (fun i y _ hy => one i y (by simp [hy])), rest, ?_, rfl⟩
   by_cases hcap : cap = 0
   ·have hr0 : rest = [] := List.length_eq_zero_iff.1 (by omega)
    have hcl : cap - len = 0 := by omega
    subst hr0
    split
    ·rw [hcl]; rfl
    ·rfl
   ·have hpos := lt_of_blt hcl.1
    have hin : MemPlace.cell a.block (a.off + 0) ∈ MemPlace.row a ((elems.length + rest.length) * P.cellsOf e) := MemPlace.mem_row.2 ⟨0, Nat.mul_pos (by omega) hpos, rfl⟩
    have hsp : sp a.block = true := hs (.cell a.block (a.off + 0)) (by simp only [List.mem_append]; exact .inl hin)
    rw [if_pos hsp]
    exact mapM_carry hrest (fun j y _ hy => one (len + j) y (by simp [hy]))
  ·cases h
 case h_9 fs cs hu =>
  rw [hu] at hcl
  split at h
  ·rename_i hc
   rw [if_pos hc]
   simp only [Option.map_eq_some_iff] at h ⊢
   obtain ⟨xs, hx, rfl⟩ := h
   exact ⟨xs, mapM_carry hx (fun f y hf hy hv => hr _ _ _ (lt_of_blt (List.all_eq_true.1 hcl f hf)) hv (fun p hp => hs p (List.mem_flatMap.2 ⟨y, hy, hp⟩))), rfl⟩
  ·cases h
 case h_10 n e cs hu =>
  rw [hu] at hcl
  split at h
  ·rename_i hc
   rw [if_pos hc]
   simp only [Option.map_eq_some_iff] at h ⊢
   obtain ⟨xs, hx, rfl⟩ := h
   exact ⟨xs, mapM_carry hx (fun f y _ hy hv => hr _ _ _ (lt_of_blt hcl) hv (fun p hp => hs p (List.mem_flatMap.2 ⟨y, hy, hp⟩))), rfl⟩
  ·cases h
 case h_11 => exact h
 case h_12 => exact h
 case h_13 => exact h
 case h_14 k e b hu =>
  rw [hu] at hcl
  split at h
  ·rename_i es clock hb
   split at h
   ·rename_i hc
    simp only [Option.bind_eq_some_iff] at h
    obtain ⟨entries, he, hd⟩ := h
    split at hd
    ·rename_i hris
     have hx := Option.some.inj hd
     subst hx
     simp only [if_pos hc, Option.bind_eq_some_iff]
     refine ⟨entries, mapM_carry he (fun x y _ hy hv => ?_), by simp [hris]⟩
     simp only [Option.bind_eq_some_iff] at hv ⊢
     obtain ⟨key, hk, hz⟩ := hv
     refine ⟨key, hk, ?_⟩
     split at hz
     ·rename_i hf
      rw [if_pos hf]
      simp only [Option.map_eq_some_iff] at hz ⊢
      obtain ⟨q, hq, rfl⟩ := hz
      exact ⟨q, hr _ _ _ (lt_of_blt hcl) hq (fun p hp => hs p (by simp only [List.mem_cons, List.mem_flatMap]; right; exact ⟨_, hy, hp⟩)), rfl⟩
     ·cases hz
    ·cases hd
   ·cases h
  ·cases h
 case h_15 => exact h
 case h_16 => exact h
 case h_17 => exact h
 case h_18 => exact h
 case h_19 => exact h
 case h_20 => exact h
 case h_21 => cases h
theorem trod_spare {w : World} {base : Nat} {sp : Nat → Bool} (hz : noEmpty P = true) : ∀ (n : Nat) (t : TypeId) (cs : List Value) (x : DataW H × List MemPlace), t < P.types.size →
  DataW.trod enc P w base (fun _ => true) true n t cs = some x → (∀ p ∈ x.2, sp p.block = true) → DataW.trod enc P w base sp true n t cs = some x := by
 intro n
 induction n with
 | zero => intro t cs x _ h; simp [DataW.trod] at h
 | succ n ih =>
  intro t cs x hT h hs
  rw [DataW.trod_step] at h ⊢
  exact trodStep_spare hz ih hT h hs
theorem trod_kept {W W' : World} {base : Nat} {sp : Nat → Bool} (hz : noEmpty P = true) (hk : Kept W W') {t : TypeId} (hT : t < P.types.size) {v : Value} {d : DataW H} {ps : List MemPlace}
  (h : DataW.Trod enc P W base (fun _ => true) true t v d ps) (hlt : ∀ p ∈ ps, p.block < W.heap.size) (hsp : ∀ p ∈ ps, sp p.block = true) : DataW.Trod enc P W' base sp true t v d ps := by
 obtain ⟨n, hn⟩ := h
 exact ⟨n, DataW.trod_carry n _ _ _ (trod_spare hz n _ _ _ hT hn hsp) fun p hp => hk.sameAt (hlt p hp)⟩
theorem trodAll_kept {W W' : World} {base : Nat} {sp : Nat → Bool} (hz : noEmpty P = true) (hk : Kept W W') : ∀ {ts : List TypeId} {vs : List Value} {ds : List (DataW H)} {ps : List MemPlace}, (ts.all fun t => Nat.blt t P.types.size) = true →
  DataW.TrodAll enc P W base (fun _ => true) true ts vs ds ps → (∀ p ∈ ps, p.block < W.heap.size) → (∀ p ∈ ps, sp p.block = true) → DataW.TrodAll enc P W' base sp true ts vs ds ps
 | [], [], [], _, _, h, _, _ => h
 | t :: ts, _ :: _, _ :: _, _, hT, ⟨p, q, h, hs, e⟩, hlt, hsp => by
  subst e
  rw [List.all_cons, Bool.and_eq_true] at hT
  exact ⟨p, q, trod_kept hz hk (lt_of_blt hT.1) h (fun x hx => hlt x (List.mem_append_left _ hx)) (fun x hx => hsp x (List.mem_append_left _ hx)), trodAll_kept hz hk hT.2 hs (fun x hx => hlt x (List.mem_append_right _ hx)) (fun x hx => hsp x (List.mem_append_right _ hx)), rfl⟩
theorem post_kept {f : Func} {s : ChangeSpec} {apart fresh handsOn again : Bool} {W W' : World} {args : Array Value} {v : Value} {ds : List (DataW H)} {before : List MemPlace} (hz : noEmpty P = true) (hT : (f.params.toList.all fun t => Nat.blt t P.types.size) = true)
  (hv : s.vars = []) (hW : DataW.Whole enc P f.params.toList s.vars apart W args.toList ds [] before)
  (hres : ∀ (b : Nat) (sp : Nat → Bool) (hd : Bool), DataW.TrodAll enc P W' b sp hd f.resultTypes.toList (v.resultList f.resultTypes.size) (s.fn H (ds ++ [])).results [])
  (hargs : (s.fn H (ds ++ [])).args = ds) (hvars : (s.fn H (ds ++ [])).vars = []) (hk : Kept W W')
  (hok : ∀ (j : Nat) (t : TypeId) (r : Value), f.resultTypes[j]? = some t → (v.resultList f.resultTypes.size)[j]? = some r → Value.okWide P W' .any 0 t r) :
  s.post enc P f apart fresh handsOn again W args v W' := by
 have hlt : ∀ p ∈ before, p.block < W.heap.size := fun p hp => hW.lt p hp
 have hW' := hW
 obtain ⟨p, q, hA, hV, rfl, _, _⟩ := hW
 have hq : q = [] := by
  rw [hv] at hV
  exact hV
 subst hq
 refine post_of_kept (pa := p) (pv := []) hW' hres (fun sp hsp => ?_) (fun sp hsp => ?_) (by simp) hk hok
 ·rw [hargs]
  exact trodAll_kept hz hk hT hA (fun x hx => hlt x (by simp [hx])) fun x hx => hsp x (by simp [hx])
 ·rw [hv, hvars]; rfl
end
def absV : Value → AVal
 | .int k n => .int k n
 | .bool b => .bool b
 | .string s => .str s.data.toList
 | _ => .und
def tabW (W : World) (g : Nat) : Option (List AVal) := match W.heap[g]? with
 | some (.cells c _ _) => some (c.toList.map absV)
 | _ => none
@[reducible] noncomputable def gtabW (W : World) : GTab := { tab := tabW W }
theorem absV_den (σ : Sg) (v : Value) : Den σ (absV v) v := by
 cases v <;> first | exact .int _ _ | exact .bool _ | exact .und _ | skip
 rename_i s
 exact .str _
theorem glob_tabW (W : World) : @Glob (gtabW W) (fun _ => none) W := by
 refine @Glob.mk (gtabW W) _ _ (fun g l hg => ?_) fun b o' hb => by cases hb
 have hg : tabW W g = some l := hg
 unfold tabW at hg
 split at hg
 ·rename_i c t fr hb
  cases hg
  have hlt : g < W.heap.size := by
   rcases Nat.lt_or_ge g W.heap.size with h | h
   ·exact h
   ·rw [Array.getElem?_eq_none h] at hb; cases hb
  refine ⟨hlt, (fun _ _ e => by cases e), fun i v hv => ?_⟩
  rw [List.getElem?_map, Array.getElem?_toList] at hv
  cases hi : c[i]? with
  | none => rw [hi] at hv; cases hv
  | some u =>
   rw [hi] at hv; cases hv
   exact ⟨u, by simp [World.cell?, hb, hi], fun τ => absV_den τ u⟩
 ·cases hg
theorem ints_of {us : List AVal} (h : ∀ x, x ∈ us → ∃ n, x = .int .i64 n) : ∃ l : List Int, us = l.map (.int .i64) := by
 induction us with
 | nil => exact ⟨[], rfl⟩
 | cons x us ih =>
  obtain ⟨b, rfl⟩ := h _ (List.mem_cons_self ..)
  obtain ⟨l, rfl⟩ := ih fun x hx => h x (List.mem_cons_of_mem _ hx)
  exact ⟨b :: l, rfl⟩
theorem elem_ints {H : Type} {enc : TypeId × Value → H} {P : Program} {W : World} {sp : Nat → Bool} {e : TypeId} {x : AVal} {n : Nat} {u : Value} {y : DataW H × List MemPlace} (he : P.underlying e = some (.int .i64)) (hx : x = absV u) (h : DataW.trod enc P W 0 sp true n e [u] = some y) : ∃ m, x = .int .i64 m := by
 obtain ⟨m, hb, _⟩ := DataW.trod_int he h
 cases hb; exact ⟨m, hx⟩
theorem open_rowL {H : Type} {enc : TypeId × Value → H} {P : Program} {W : World} {sp : Nat → Bool} {t e : TypeId} {v : Value} {d : DataW H} {ps : List MemPlace} (ht : P.underlying t = some (.slice e)) (hc : P.cellsOf e = 1)
  (hform : ∃ a len cap, v = .slice a len cap) (h : DataW.Trod enc P W 0 sp true t v d ps) :
  ∃ (a : AVal) (us : List AVal), (∀ σ, Den σ a v) ∧ @ArgR (gtabW W) a us ∧ (cellv a = true ∧ us.length ≤ 9223372036854775807) ∧ ∀ x, x ∈ us → ∃ (n : Nat) (u : Value) (y : DataW H × List MemPlace), x = absV u ∧ DataW.trod enc P W 0 sp true n e [u] = some y := by
 obtain ⟨a0, len0, cap0, rfl⟩ := hform
 obtain ⟨fuel, hf⟩ := h
 rcases DataW.trod_slice ht hf with ⟨hcs, _⟩ | ⟨a, len, cap, elems, rest, n, rfl, hcs, hx, _, hle, hmax, hlen, hel, _, _⟩
 ·simp [Value.cells] at hcs
  obtain ⟨rfl, rfl, rfl⟩ := hcs
  exact ⟨.nilSlice, [], fun σ => Den.nilSlice, @ArgR.mk (gtabW W) _ _ rfl fun i h => by simp at h, ⟨rfl, by simp⟩, fun x hx => by cases hx⟩
 ·simp [Value.cells] at hcs
  obtain ⟨rfl, rfl, rfl⟩ := hcs
  have hcell : ∀ i, i < len0 → ∃ u y, W.cell? (a.add i) = some u ∧ DataW.trod enc P W 0 sp true n e [u] = some y := by
   intro i hi
   have := hel i hi
   rw [hc, Nat.mul_one, List.getElem?_eq_getElem (show i < elems.length by omega), Option.bind_eq_some_iff] at this
   obtain ⟨cs, h1, h2⟩ := this
   have hl1 := (World.cells?_some h1).2.1
   obtain ⟨u, rfl⟩ : ∃ u, cs = [u] := by
    match cs, hl1 with
    | [u], _ => exact ⟨u, rfl⟩
    | [], h => simp at h
    | _ :: _ :: _, h => simp at h
   exact ⟨u, _, cell_of_cells?_one h1, h2⟩
  by_cases hz : len0 = 0
  ·subst hz
   exact ⟨.gslice a.block a.off 0 1, [], fun σ => Den.gslice0, @ArgR.mk (gtabW W) _ _ rfl fun i h => by simp at h, ⟨rfl, by simp⟩, fun x hx => by cases hx⟩
  ·obtain ⟨b, off, spot⟩ := a
   have hspot : spot = none := by
    obtain ⟨u, y, h1, _⟩ := hcell 0 (by omega)
    simpa [Addr.add] using World.cell?_spot h1
   subst hspot
   have hat : ∀ i, i < len0 → ∃ u y, W.cell? ⟨b, off + i, none⟩ = some u ∧ DataW.trod enc P W 0 sp true n e [u] = some y := fun i hi => by
    have := hcell i hi
    rwa [Go.WideShapes.add_plain] at this
   obtain ⟨c, tt, fr, hb⟩ : ∃ c tt fr, W.heap[b]? = some (.cells c tt fr) := by
    obtain ⟨u, y, h1, _⟩ := hat 0 (by omega)
    unfold World.cell? at h1
    dsimp only at h1
    cases hq : W.heap[b]? with
    | none => rw [hq] at h1; cases h1
    | some o =>
     rw [hq] at h1
     cases o with
     | cells c t fr => exact ⟨c, t, fr, rfl⟩
     | _ => cases h1
   have hci : ∀ i, i < len0 → ∃ u y, c[off + i]? = some u ∧ DataW.trod enc P W 0 sp true n e [u] = some y := fun i hi => by
    obtain ⟨u, y, h1, h2⟩ := hat i hi
    refine ⟨u, y, ?_, h2⟩
    simpa [World.cell?, hb] using h1
   refine ⟨.gslice b off len0 1, ((c.toList.drop off).take len0).map absV, fun σ => Den.gslice hle, @ArgR.mk (gtabW W) _ _ ?_ fun i h => ?_, ⟨rfl, ?_⟩, fun x hx => ?_⟩
   ·have : ((c.toList.drop off).take len0).length = len0 := by
     obtain ⟨u, y, h1, _⟩ := hci (len0 - 1) (by omega)
     have := (Array.getElem?_eq_some_iff.1 h1).1
     simp; omega
    show some len0 = _
    rw [List.length_map, this]
   ·simp only [List.length_map, List.length_take] at h
    have hi : i < len0 := by omega
    refine ⟨.gptr b (off + i * 1), ?_, fun H => ?_⟩
    ·have : Nat.ble (Nat.succ i) len0 = true := Nat.ble_eq_true_of_le hi
     simp only [idxS, this]; rfl
    ·show (match tabW W b with | some l => l[off + i * 1]? | none => none) = _
     have : tabW W b = some (c.toList.map absV) := by unfold tabW; rw [hb]
     rw [this]
     show (c.toList.map absV)[off + i * 1]? = _
     obtain ⟨u, y, h1, _⟩ := hci i hi
     have hlt := (Array.getElem?_eq_some_iff.1 h1).1
     rw [Nat.mul_one, List.getElem?_map, Array.getElem?_toList, h1]
     simp only [List.getElem_map, List.getElem_take, List.getElem_drop]
     have h3 := (Array.getElem?_eq_some_iff.1 h1).2
     simp [h3]
   ·have : len0 ≤ 9223372036854775807 := Nat.le_trans hle (Nat.le_trans hmax (by decide))
    simp only [List.length_map, List.length_take]; omega
   ·obtain ⟨u, hu, rfl⟩ := List.mem_map.1 hx
    obtain ⟨i, hi⟩ := List.getElem?_of_mem hu
    rw [List.getElem?_take] at hi
    split at hi
    ·rename_i hil
     rw [List.getElem?_drop, Array.getElem?_toList] at hi
     obtain ⟨u', y, h1, h2⟩ := hci i hil
     rw [h1] at hi; cases hi
     exact ⟨n, _, y, rfl, h2⟩
    ·cases hi
section
variable [GTab]
theorem rel_none {w : World} (hg : Glob (fun _ => none) w) : Rel (fun _ => none) (all5 none) 0 w := by
 refine ⟨Nat.le_refl _, ?_, ?_, ?_, ?_, ?_, hg⟩
 ·intro b cb sz e; cases e
 ·intro b o cb sz _ e; cases e
 ·intro b b' o o' cb sz sz' _ _ e; cases e
 ·intro b b' o o' p _ _ e; cases e
 ·intro b o p _ e; cases e
theorem closeK {P : Program} {f : FuncId} {argsV : List AVal} {args' : List Value} {w : World} (h : TriP P f argsV (all5 none) 0 (fun e _ _ => e = .ret (.bool true)))
  (hg : Glob (fun _ => none) w) (hd : DenL (fun _ => none) argsV args') : Calls P f ⟨args'⟩ w fun e w' => e = .returned (.bool true) ∧ Kept w w' := by
 refine h (fun _ => none) w args' _ (rel_none hg) hd ?_
 intro e H' nx' σ' w' en k R1 E1 X1
 subst k
 cases en <;> try exact X1.elim
 rename_i v
 have hv : Den σ' (.bool true) v := X1
 cases hv
 exact ⟨rfl, E1.os, E1.output, E1.size, fun i hi => E1.frame i hi fun _ _ e => by cases e⟩
end
end Go.Vs
end
section
namespace Go.Vs
open Go Go.ChangeShapes Go.WideShapes
def textsD {H : Type} (ss : List (List UInt8)) : DataW H := .agg (ss.map fun s => .lit (.string s))
theorem cells_of_texts {H : Type} {enc : TypeId × Value → H} {P : Program} {w : World} {base : Nat} {sp : Nat → Bool} {held : Bool} {fuel : Nat} {t e : TypeId} {n : Nat} {cs : List Value} {ss : List (List UInt8)} {p : List MemPlace}
  (ht : P.underlying t = some (.array n e)) (he : P.underlying e = some .string) (hce : P.cellsOf e = 1) (hct : P.cellsOf t = n)
  (h : DataW.trod enc P w base sp held fuel t cs = some (textsD ss, p)) : cs.map absV = ss.map .str := by
 cases fuel with
 | zero => simp [DataW.trod] at h
 | succ fuel =>
  simp only [DataW.trod, ht, hce, hct, Nat.mul_one] at h
  split at h
  ·rename_i hl
   obtain ⟨xs, hm, hx⟩ := Option.map_eq_some_iff.1 h
   have hxs : xs.map (·.1) = ss.map fun z => (DataW.lit (.string z) : DataW H) := by
    have := congrArg Prod.fst hx
    simpa [textsD] using this
   have hxl : xs.length = n := by simpa using Lib.mapM_length hm
   have hzl : ss.length = n := by
    have := congrArg List.length hxs
    simp at this
    omega
   apply List.ext_getElem?
   intro i
   by_cases hi : i < n
   ·obtain ⟨b, hb, hf⟩ := Lib.mapM_at hm i i (by simp [hi])
    obtain ⟨z, hc, rfl, _⟩ := DataW.trod_string he hf
    have h1 : cs[i]? = some (.string z) := by
     have := congrArg (·[0]?) hc
     simpa [List.getElem?_take, List.getElem?_drop] using this
    have h2 : (xs.map (·.1))[i]? = some (DataW.lit (.string z.data.toList) : DataW H) := by simp [hb]
    rw [hxs] at h2
    simp only [List.getElem?_map, Option.map_eq_some_iff, DataW.lit.injEq, Lit.string.injEq] at h2
    obtain ⟨z', hz', hzz⟩ := h2
    simp [h1, hz', absV, hzz]
   ·rw [List.getElem?_eq_none (by simp; omega), List.getElem?_eq_none (by simp; omega)]
  ·cases h
theorem tabW_laid {P : Program} {w : World} {nm : String} {ss : List (List UInt8)} {rest : List (String × DataW Unit)} {g : Nat} {t e : TypeId} {n : Nat} (h : laidMet P ((nm, textsD ss) :: rest) w)
  (hn : P.globalNamed nm = some g) (hg : (P.globals[g]?).map (·.type) = some t) (ht : P.underlying t = some (.array n e)) (he : P.underlying e = some .string) (hce : P.cellsOf e = 1) (hct : P.cellsOf t = n) : tabW w g = some (ss.map .str) := by
 obtain ⟨ps, ⟨g', t', cs, f, p, q, hg', ht', hv, hd, _, _⟩, _⟩ := h
 obtain rfl := Option.some.inj (hn.symm.trans hg')
 obtain rfl := Option.some.inj (hg.symm.trans ht')
 have hc := cells_of_texts ht he hce hct hd
 unfold World.var? at hv
 rw [hn] at hv
 simp only [Option.bind_some] at hv
 split at hv <;> try (cases hv; done)
 rename_i c t fz hcell
 cases hv
 unfold tabW
 rw [hcell]
 exact congrArg some hc
end Go.Vs
end
