/-
  Own work. The second evaluator: code, calls; that it is right.
-/
import Derived.Test.YtdigeeejmgkcoaaGreatDoorEvPair
namespace Go.Ev
variable [GTab]
set_option linter.unusedSectionVars false

theorem cDrawn_wp {P : Program} {nt : Nat} {ops : Array Oper} {env : Env} {st : St} {K : FX} (hm : P.follows .mixedOrders = true) (hc : CallS P st.call) (h : (cDrawn P nt ops).fn env st K = true) (id : Nat)
    (σ : Sg) (w : World) (a : Act) (Q : Exit → Act → World → Prop) (hr : Rel σ st.H st.nx w) (ha : ARel σ nt env st.dfs a)
    (hQ : ∀ ex env' st' σ' w' a' e, K ex env' st' = true → st'.call = st.call → st'.dfs = st.dfs → st'.rc = st.rc → Rel σ' st'.H st'.nx w' → Ext σ σ' st.H st'.H st.nx st'.nx w w' → ARel σ' nt env' st.dfs a' → ExRel σ' ex e → Q e a' w') :
    (Code.region id ops true).wp P Q a w := by
  unfold cDrawn at h
  split at h <;> first | (exact Bool.noConfusion h) | skip
  rename_i f ag r bl hplan hf hag0 hr0 hbl0
  rw [forceN_eq] at h
  have h' : (Bool.rec false (forceN (Nat.add st.nx ops.size) fun nx' => f st.nx env (st.with2 st.H nx') fun env' st' => Bool.rec false (r st.nx (bl env) env' st' K) (ag env' st')) (Nat.ble (Nat.add st.nx ops.size) 1048576) : Bool) = true := h
  obtain ⟨hle, h2⟩ := brec_ok h'
  rw [forceN_eq] at h2
  have hlim : st.nx + ops.size ≤ 1048576 := Nat.le_of_ble_eq_true hle
  unfold planOK at hplan
  split at hplan <;> first | (cases hplan; done) | skip
  rename_i past hnt hops hF
  split at hplan <;> first | (cases hplan; done) | skip
  rename_i hA hS hcov
  have hn : nt ≤ 256 := Nat.le_of_ble_eq_true hnt
  have F := opsOK_fact hops
  have h3 := cFloats_ok (P := P) (ops := ops) (res := st.nx) (l := plan0 ops) (env := env) (st := st.with2 st.H (Nat.add st.nx ops.size)) (k := fun env' st' => Bool.rec false (r st.nx (bl env) env' st' K) (ag env' st')) (by rw [hf]; exact h2)
  rw [with2_H, with2_nx] at h3
  obtain ⟨env1, H1, hk, b1, b2, b3, b4, b5⟩ := floatsK_ok F hn hlim (plan0 ops) [] past env st.H hF h3
  obtain ⟨hag1, hk⟩ := brec_ok hk
  rw [with2_with2] at hag1 hk
  have hag : againK P ops env1 H1 (Nat.add st.nx ops.size) (planA ops) = true := by
    have := cAgains_ok (P := P) (ops := ops) (l := planA ops) (env := env1) (st := st.with2 H1 (Nat.add st.nx ops.size)) (by rw [hag0]; exact hag1)
    rwa [with2_H, with2_nx] at this
  have hpast : ∀ i, i ∈ past → ∃ o, ops[i]? = some o ∧ (cls o.op = 0 ∨ cls o.op = 1) := by
    intro i hi
    rcases (chkF_past hF i).1 hi with hi | hi
    · cases hi
    · obtain ⟨o, ho, hne⟩ := chkF_cls hF i hi
      refine ⟨o, ho, ?_⟩
      have : cls o.op = 0 ∨ cls o.op = 1 ∨ cls o.op = 2 := by
        unfold cls
        split <;> first | exact .inl rfl | exact .inr (.inl rfl) | exact .inr (.inr rfl) | skip
        split <;> first | exact .inl rfl | exact .inr (.inr rfl)
      rcases this with h | h | h
      · exact .inl h
      · exact .inr h
      · exact (hne h).elim
  have hbl : bl env = blank ops.toList env := by
    have := cBlank_eq ops.toList env
    rw [hbl0] at this
    exact this
  have hblank : ∀ t, t < 256 → get2 t (blank ops.toList env) = .und ∨ ((∀ (j : Nat) (q : Oper), ops[j]? = some q → q.dst ≠ some t) ∧ get2 t (blank ops.toList env) = get2 t env1) := by
    intro t ht
    have hd : ∀ o, o ∈ ops.toList → dstOK nt o.dst = true := fun o ho => by
      obtain ⟨i, hi⟩ := List.mem_iff_getElem?.1 ho
      exact F.dst i o (by simpa using hi)
    rcases blank_get hn ops.toList env t ht hd with h | ⟨h1, h2⟩
    · exact .inl h
    · have h3 : ∀ (j : Nat) (q : Oper), ops[j]? = some q → q.dst ≠ some t := fun j q hq => h1 q (by simpa using Array.mem_of_getElem? hq)
      exact .inr ⟨h3, by rw [h2, b1 t ht fun j q _ hq => h3 j q hq]⟩
  have hk' : (cStages P ops (planS ops)).fn st.nx (blank ops.toList env) env1 (⟨st.call, H1, Nat.add st.nx ops.size, st.dfs, st.rc⟩ : St) K = true := by
    rw [hr0, ← hbl]
    rw [St.with2_eq] at hk
    exact hk
  refine wp_region_any hm ?_
  have none' : ∀ b, st.nx ≤ b → σ b = none := fun b hb => by
    cases e : σ b with
    | none => rfl
    | some p => obtain ⟨cb, sz⟩ := p; have := (hr.dom b cb sz e).1; omega
  refine cStages_sem hc F hn hlim (planS ops) past env1 H1 (Nat.add st.nx ops.size) hS hpast hblank hk' σ st.H w Q hQ ops.size _ σ _ a ⟨by simp, ha.env.size, ?_, ?_, ?_, ?_, ?_, ?_, ?_, Nat.le_refl _, ?_, ?_, ha.dfs⟩ ?_
  · exact fun i j h => (isL_none h).elim
  · exact fun i _ h => isL_none h
  · intro i hi
    have := memN_ok (allL_ok hcov i (List.mem_range.2 hi))
    rcases List.mem_append.1 this with h | h
    · exact .inl ((chkF_past hF i).2 (.inr h))
    · exact .inr (.inl h)
  · intro t ht hown
    rw [b1 t ht fun j q _ hq hd => isL_none (hown j q hq hd)]
    exact ha.env.den t ht
  · intro j q hj hq _ hcl
    cases hip : impure q.op with
    | true =>
      have h1 := allL_ok hA j hj
      rw [hq] at h1
      simp only [hip] at h1
      have hmem : j ∈ planA ops := by
        split at h1
        · exact memN_ok ‹_›
        · rw [bit_eq] at h1; simp at h1
      have h3 := allL_ok hag j hmem
      rw [hq] at h3
      exact again1_fl0 hcl h3
    | false =>
      rcases (chkF_past hF j).1 hj with hj | hj
      · cases hj
      · exact b5 j q hj hq hcl hip
  · intro j q hj hq _ hcl
    rcases (chkF_past hF j).1 hj with hj | hj
    · cases hj
    · exact b4 j q hj hq hcl
  · exact fun i _ _ => none' _ (by omega)
  · exact (b3 σ w (hr.more (Nat.le_add_right _ _) hlim) fun j _ => none' _ (by omega)).drew
  · have E := Ext.drew σ st.H st.nx w
    refine ⟨E.sub, E.rng, ?_, Nat.le_add_right _ _, rfl, rfl, rfl, Nat.le_refl _, fun _ _ _ => rfl⟩
    intro b hb h0
    exact ⟨h0, b2 b (by omega) fun j _ => by omega⟩
  · unfold left
    have := List.countP_le_length (p := fun i => !(Array.replicate ops.size false).getD i false) (l := List.range ops.size)
    simpa using this

theorem cPair_wp {P : Program} {nt : Nat} {ops : Array Oper} {env : Env} {st : St} {K : FX} (hm : P.follows .mixedOrders = true) (hc : CallS P st.call) (h : (cPair P nt ops).fn env st K = true) (id : Nat)
    (σ : Sg) (w : World) (a : Act) (Q : Exit → Act → World → Prop) (hr : Rel σ st.H st.nx w) (ha : ARel σ nt env st.dfs a)
    (hQ : ∀ ex env' st' σ' w' a' e, K ex env' st' = true → st'.call = st.call → st'.dfs = st.dfs → st'.rc = st.rc → Rel σ' st'.H st'.nx w' → Ext σ σ' st.H st'.H st.nx st'.nx w w' → ARel σ' nt env' st.dfs a' → ExRel σ' ex e → Q e a' w') :
    (Code.region id ops true).wp P Q a w := by
  unfold cPair at h
  split at h <;> first | (exact Bool.noConfusion h) | skip
  rename_i ini e1 e2 hsplit
  split at h <;> first | (exact Bool.noConfusion h) | skip
  rename_i s1 s2 hplan hs1 hs2
  split at h
  rename_i f ag r bl hf hag0 hr0 hbl0
  rw [forceN_eq] at h
  let K' : FX := fun e env st => match e with
    | .normal => pairX P ops s1 s2 (plB ops ini e1) (plB ops ini e2) env st K
    | e => K e env st
  have h' : (Bool.rec false (forceN (Nat.add st.nx ops.size) fun nx' => f st.nx env (st.with2 st.H nx') fun env' st' => Bool.rec false (r st.nx (bl env) env' st' K') (ag env' st')) (Nat.ble (Nat.add st.nx ops.size) 1048576) : Bool) = true := h
  obtain ⟨hle, h2⟩ := brec_ok h'
  rw [forceN_eq] at h2
  have hlim : st.nx + ops.size ≤ 1048576 := Nat.le_of_ble_eq_true hle
  unfold pairOK at hplan
  split at hplan <;> first | (cases hplan; done) | skip
  rename_i past hnt hops hF hne
  split at hplan <;> first | (cases hplan; done) | skip
  rename_i hA hS hcov
  split at hplan <;> first | (cases hplan; done) | skip
  rename_i ht1 ht2 hc1 hc2
  have hn : nt ≤ 256 := Nat.le_of_ble_eq_true hnt
  have F := opsOK_fact hops
  have h3 := cFloats_ok (P := P) (ops := ops) (res := st.nx) (l := pl0 ops ini) (env := env) (st := st.with2 st.H (Nat.add st.nx ops.size)) (k := fun env' st' => Bool.rec false (r st.nx (bl env) env' st' K') (ag env' st')) (by rw [hf]; exact h2)
  rw [with2_H, with2_nx] at h3
  obtain ⟨env1, H1, hk, b1, b2, b3, b4, b5⟩ := floatsK_ok F hn hlim (pl0 ops ini) [] past env st.H hF h3
  obtain ⟨hag1, hk⟩ := brec_ok hk
  rw [with2_with2] at hag1 hk
  have hag : againK P ops env1 H1 (Nat.add st.nx ops.size) (plA ops ini) = true := by
    have := cAgains_ok (P := P) (ops := ops) (l := plA ops ini) (env := env1) (st := st.with2 H1 (Nat.add st.nx ops.size)) (by rw [hag0]; exact hag1)
    rwa [with2_H, with2_nx] at this
  have hpast : ∀ i, i ∈ past → ∃ o, ops[i]? = some o ∧ (cls o.op = 0 ∨ cls o.op = 1) := by
    intro i hi
    rcases (chkF_past hF i).1 hi with hi | hi
    · cases hi
    · obtain ⟨o, ho, hne⟩ := chkF_cls hF i hi
      refine ⟨o, ho, ?_⟩
      have : cls o.op = 0 ∨ cls o.op = 1 ∨ cls o.op = 2 := by
        unfold cls
        split <;> first | exact .inl rfl | exact .inr (.inl rfl) | exact .inr (.inr rfl) | skip
        split <;> first | exact .inl rfl | exact .inr (.inr rfl)
      rcases this with h | h | h
      · exact .inl h
      · exact .inr h
      · exact (hne h).elim
  have hbl : bl env = blank ops.toList env := by
    have := cBlank_eq ops.toList env
    rw [hbl0] at this
    exact this
  have hblank : ∀ t, t < 256 → get2 t (blank ops.toList env) = .und ∨ ((∀ (j : Nat) (q : Oper), ops[j]? = some q → q.dst ≠ some t) ∧ get2 t (blank ops.toList env) = get2 t env1) := by
    intro t ht
    have hd : ∀ o, o ∈ ops.toList → dstOK nt o.dst = true := fun o ho => by
      obtain ⟨i, hi⟩ := List.mem_iff_getElem?.1 ho
      exact F.dst i o (by simpa using hi)
    rcases blank_get hn ops.toList env t ht hd with h | ⟨h1, h2⟩
    · exact .inl h
    · have h3 : ∀ (j : Nat) (q : Oper), ops[j]? = some q → q.dst ≠ some t := fun j q hq => h1 q (by simpa using Array.mem_of_getElem? hq)
      exact .inr ⟨h3, by rw [h2, b1 t ht fun j q _ hq => h3 j q hq]⟩
  have hk' : (cStages P ops (plS ops ini)).fn st.nx (blank ops.toList env) env1 (⟨st.call, H1, Nat.add st.nx ops.size, st.dfs, st.rc⟩ : St) K' = true := by
    rw [hr0, ← hbl]
    rw [St.with2_eq] at hk
    exact hk
  obtain ⟨o1, ho1, hs1⟩ := Option.bind_eq_some_iff.1 hs1
  obtain ⟨o2, ho2, hs2⟩ := Option.bind_eq_some_iff.1 hs2
  have hne' : e1 ≠ e2 := fun e => by subst e; simp at hne
  refine wp_region_any hm ?_
  have none' : ∀ b, st.nx ≤ b → σ b = none := fun b hb => by
    cases e : σ b with
    | none => rfl
    | some p => obtain ⟨cb, sz⟩ := p; have := (hr.dom b cb sz e).1; omega
  refine stages_sem [(e1, [], plB ops ini e1), (e2, [], plB ops ini e2)] hc F hn hlim (plS ops ini) none past env1 H1 (Nat.add st.nx ops.size) hS ?_ hpast hblank (cStages_run (K := K') _ _ _ _ hk') σ st.H w Q
    (fun l H' nx' σ' w' a' c hk R E A C => hQ (.pan l) _ ⟨st.call, H', nx', st.dfs, st.rc⟩ σ' w' a' (.panic c) hk rfl rfl rfl R E A C) ?_ ops.size _ σ _ a ⟨by simp, ha.env.size, ?_, ?_, ?_, ?_, ?_, ?_, ?_, Nat.le_refl _, ?_, ?_, ha.dfs⟩ ?_
  · intro s hs i hi
    simp only [named, List.nil_append, List.mem_cons, List.not_mem_nil, or_false] at hi
    rcases hi with rfl | rfl
    · exact allL_ok ht1 s hs
    · exact allL_ok ht2 s hs
  · intro env' H' nx' hk hp
    have hk2 : pairX P ops s1 s2 (plB ops ini e1) (plB ops ini e2) env' ⟨st.call, H', nx', st.dfs, st.rc⟩ K = true := hk
    unfold pairX at hk2
    split at hk2 <;> first | (exact Bool.noConfusion hk2) | skip
    rename_i hap
    obtain ⟨G1, q1, hk2⟩ := oH_ok hk2
    obtain ⟨G12, q12, hk2⟩ := oH_ok hk2
    obtain ⟨G2, q2, hk2⟩ := oH_ok hk2
    obtain ⟨G21, q21, hk2⟩ := oH_ok hk2
    obtain ⟨r1, hk2⟩ := brec_ok hk2
    obtain ⟨r2, hk2⟩ := brec_ok hk2
    obtain ⟨r3, hk2⟩ := brec_ok hk2
    obtain ⟨r4, hk2⟩ := brec_ok hk2
    exact pair_sem hc F hn hlim hne' ho1 ho2 hs1 hs2 hc1 hc2 hp q1 q12 q2 q21 r1 r2 r3 r4 (stores_commute hap q1 q12 q2 q21)
      fun σ' w' a' R E A => hQ .normal env' ⟨st.call, G12, nx', st.dfs, st.rc⟩ σ' w' a' .normal hk2 rfl rfl rfl R E A trivial
  · exact fun i j h => (isL_none h).elim
  · exact fun i _ h => isL_none h
  · intro i hi
    have := memN_ok (allL_ok hcov i (List.mem_range.2 hi))
    rcases List.mem_append.1 this with h | h
    · rcases List.mem_append.1 h with h | h
      · exact .inl ((chkF_past hF i).2 (.inr h))
      · exact .inr (.inl (by rw [named_append]; exact List.mem_append_left _ h))
    · exact .inr (.inl (by rw [named_append]; exact List.mem_append_right _ h))
  · intro t ht hown
    rw [b1 t ht fun j q _ hq hd => isL_none (hown j q hq hd)]
    exact ha.env.den t ht
  · intro j q hj hq _ hcl
    cases hip : impure q.op with
    | true =>
      have h1 := allL_ok hA j hj
      rw [hq] at h1
      simp only [hip] at h1
      have hmem : j ∈ plA ops ini := by
        split at h1
        · exact memN_ok ‹_›
        · rw [bit_eq] at h1; simp at h1
      have h3 := allL_ok hag j hmem
      rw [hq] at h3
      exact again1_fl0 hcl h3
    | false =>
      rcases (chkF_past hF j).1 hj with hj | hj
      · cases hj
      · exact b5 j q hj hq hcl hip
  · intro j q hj hq _ hcl
    rcases (chkF_past hF j).1 hj with hj | hj
    · cases hj
    · exact b4 j q hj hq hcl
  · exact fun i _ _ => none' _ (by omega)
  · exact (b3 σ w (hr.more (Nat.le_add_right _ _) hlim) fun j _ => none' _ (by omega)).drew
  · have E := Ext.drew σ st.H st.nx w
    refine ⟨E.sub, E.rng, ?_, Nat.le_add_right _ _, rfl, rfl, rfl, Nat.le_refl _, fun _ _ _ => rfl⟩
    intro b hb h0
    exact ⟨h0, b2 b (by omega) fun j _ => by omega⟩
  · unfold left
    have := List.countP_le_length (p := fun i => !(Array.replicate ops.size false).getD i false) (l := List.range ops.size)
    simpa using this

/-! ### Code -/
noncomputable section

def seqX (g : Env → St → FX → Bool) (K : FX) (e : AExit) : Env → St → Bool :=
  AExit.rec (motive := fun _ => (Env → St → FX → Bool) → FX → Env → St → Bool) (fun g K env st => g env st K) (fun i _ K env st => K (.exit i) env st) (fun _ K env st => K .ret env st) (fun l _ K env st => K (.pan l) env st) e g K

def blockX (id : Nat) (K : FX) (e : AExit) : Env → St → Bool :=
  AExit.rec (motive := fun _ => Nat → FX → Env → St → Bool) (fun _ K env st => K .normal env st) (fun j id K env st => Bool.rec (K (.exit j) env st) (K .normal env st) (Nat.beq j id)) (fun _ K env st => K .ret env st) (fun l _ K env st => K (.pan l) env st) e id K

def loopF (f : Env → St → FX → Bool) (fuel : Nat) : Env → St → FX → Bool :=
  Nat.rec (motive := fun _ => Env → St → FX → Bool) (fun _ _ _ => false) (fun _ ih env st K => f env st (seqX ih K)) fuel

def noneR (r : Option AMode) (b : Bool) : Bool := Option.rec b (fun _ => false) r

/-- A region whose order is open. -/
def cOpen (P : Program) (nt : Nat) (ops : Array Oper) : Co := match planOK nt ops with
  | true => cDrawn P nt ops
  | false => cPair P nt ops

theorem cOpen_wp {P : Program} {nt : Nat} {ops : Array Oper} {env : Env} {st : St} {K : FX} (hm : P.follows .mixedOrders = true) (hc : CallS P st.call) (h : (cOpen P nt ops).fn env st K = true) (id : Nat)
    (σ : Sg) (w : World) (a : Act) (Q : Exit → Act → World → Prop) (hr : Rel σ st.H st.nx w) (ha : ARel σ nt env st.dfs a)
    (hQ : ∀ ex env' st' σ' w' a' e, K ex env' st' = true → st'.call = st.call → st'.dfs = st.dfs → st'.rc = st.rc → Rel σ' st'.H st'.nx w' → Ext σ σ' st.H st'.H st.nx st'.nx w w' → ARel σ' nt env' st.dfs a' → ExRel σ' ex e → Q e a' w') :
    (Code.region id ops true).wp P Q a w := by
  unfold cOpen at h
  split at h
  · exact cDrawn_wp hm hc h id σ w a Q hr ha hQ
  · exact cPair_wp hm hc h id σ w a Q hr ha hQ

def cCode (P : Program) (nt : Nat) (c : Code) : Co :=
  Code.rec (motive := fun _ => Co)
    (.mk fun env st K => K .normal env st)
    (fun _ ops draw => match draw with | false => cOps P nt ops ops.toList | true => cOpen P nt ops)
    (fun _ _ a b => match a, b with | .mk f, .mk g => .mk fun env st K => f env st (seqX g K))
    (fun c _ _ a b => match bx c, a, b with | .mk c, .mk f, .mk g => .mk fun env st K => vFork (c env) (f env st K) (g env st K))
    (fun id _ a => match a with | .mk f => .mk fun env st K => f env st (blockX id K))
    (fun _ a => match a with | .mk f => .mk fun env st K => noneR st.rc (loopF f loopFuel env st K))
    (fun _ _ _ _ _ _ => .mk fun _ _ _ => false)
    (fun id => .mk fun env st K => K (.exit id) env st)
    (fun _ _ => .mk fun _ _ _ => false)
    (fun _ => .mk fun _ _ _ => false)
    (fun _ => .mk fun _ _ _ => false)
    (.mk fun env st K => K .ret env st)
    (fun _ => .mk fun _ _ _ => false)
    c

theorem noneR_ok {r : Option AMode} {b : Bool} (h : noneR r b = true) : r = none ∧ b = true := by
  cases r with
  | none => exact ⟨rfl, h⟩
  | some m => exact Bool.noConfusion h

theorem eval_any {σ : Sg} {nt : Nat} {env : Env} {dfs : Dfs} {a : Act} {c : Operand} (ha : ARel σ nt env dfs a) (h : aev env c = .anyBool) : ∃ b, a.eval c = .bool b := by
  have := ha.env.aev c
  rw [h] at this
  cases hq : a.eval c <;> rw [hq] at this <;> cases this
  exact ⟨_, rfl⟩

theorem seqPostN {P : Program} {nt : Nat} {c : Code} {g : Env → St → FX → Bool} {call : CallK} {K : FX} {σ : Sg} {H : Heap} {nx : Nat} {w : World} {Q : Exit → Act → World → Prop} (hc : CallS P call) (hg : CodeN P nt c g)
    (hQ : PostN nt call K σ H nx w Q) : PostN nt call (seqX g K) σ H nx w (Exit.then (c.wp P Q) Q) := by
  intro ex env' st' σ' w' a' e hk hcl hrc R E A X
  cases ex with
  | normal =>
    cases e <;> first | exact X.elim | skip
    have hk' : g env' st' K = true := hk
    refine hg env' st' K (by rw [hcl]; exact hc) hrc hk' σ' w' a' Q R A ?_
    rw [hcl]; exact hQ.from E
  | exit i => cases e <;> first | exact X.elim | exact hQ _ env' st' σ' w' a' _ hk hcl hrc R E A X
  | ret => cases e <;> first | exact X.elim | exact hQ _ env' st' σ' w' a' _ hk hcl hrc R E A X
  | pan l => cases e <;> first | exact X.elim | exact hQ _ env' st' σ' w' a' _ hk hcl hrc R E A X

theorem blockPostN {nt : Nat} {id : Nat} {call : CallK} {K : FX} {σ : Sg} {H : Heap} {nx : Nat} {w : World} {Q : Exit → Act → World → Prop} (hQ : PostN nt call K σ H nx w Q) :
    PostN nt call (blockX id K) σ H nx w (Exit.inBlock id Q) := by
  intro ex env' st' σ' w' a' e hk hcl hrc R E A X
  cases ex with
  | normal => cases e <;> first | exact X.elim | exact hQ _ env' st' σ' w' a' _ hk hcl hrc R E A X
  | exit i =>
    cases e <;> first | exact X.elim | skip
    have X' : i = _ := X
    subst X'
    have hk' : (Bool.rec (K (.exit i) env' st') (K .normal env' st') (Nat.beq i id) : Bool) = true := hk
    cases hb : Nat.beq i id with
    | true =>
      rw [hb] at hk'
      have hid := Nat.eq_of_beq_eq_true hb
      simp only [Exit.inBlock, hid, if_true]
      exact hQ .normal env' st' σ' w' a' .normal hk' hcl hrc R E A trivial
    | false =>
      rw [hb] at hk'
      have hid : i ≠ id := fun e => by subst e; simp at hb
      simp only [Exit.inBlock, hid, if_false]
      exact hQ (.exit i) env' st' σ' w' a' _ hk' hcl hrc R E A rfl
  | ret => cases e <;> first | exact X.elim | exact hQ _ env' st' σ' w' a' _ hk hcl hrc R E A X
  | pan l => cases e <;> first | exact X.elim | exact hQ _ env' st' σ' w' a' _ hk hcl hrc R E A X

theorem loopF_ok {P : Program} {nt : Nat} {c : Code} {f : Env → St → FX → Bool} (hf : CodeN P nt c f) : ∀ (n : Nat) (env : Env) (st : St) (K : FX), CallS P st.call → st.rc = none → loopF f n env st K = true →
    ∀ σ w a Q, Rel σ st.H st.nx w → ARel σ nt env st.dfs a → PostN nt st.call K σ st.H st.nx w Q → Code.rounds P c Q n a w
  | 0, env, st, K, _, _, h => Bool.noConfusion h
  | n + 1, env, st, K, hc, hrc, h => by
    intro σ w a Q hr ha hQ
    rw [rounds_succ]
    have h' : f env st (seqX (loopF f n) K) = true := h
    refine hf env st _ hc hrc h' σ w a _ hr ha ?_
    intro ex env' st' σ' w' a' e hk hcl hrc' R E A X
    cases ex with
    | normal =>
      cases e <;> first | exact X.elim | skip
      have hk' : loopF f n env' st' K = true := hk
      refine loopF_ok hf n env' st' K (by rw [hcl]; exact hc) hrc' hk' σ' w' a' Q R A ?_
      rw [hcl]; exact hQ.from E
    | exit i => cases e <;> first | exact X.elim | exact hQ _ env' st' σ' w' a' _ hk hcl hrc' R E A X
    | ret => cases e <;> first | exact X.elim | exact hQ _ env' st' σ' w' a' _ hk hcl hrc' R E A X
    | pan l => cases e <;> first | exact X.elim | exact hQ _ env' st' σ' w' a' _ hk hcl hrc' R E A X

theorem cCode_none {P : Program} {nt : Nat} (hm : P.follows .mixedOrders = true) (c : Code) : CodeN P nt c (cCode P nt c).fn := by
  induction c with
  | skip => exact fun env st K hc hrc h σ w a Q hr ha hQ => wp_skip (hQ .normal env st σ w a .normal h rfl hrc hr (Ext.refl _ _ _ _) ha trivial)
  | region id ops draw =>
    cases draw with
    | false => exact fun env st K hc hrc h σ w a Q hr ha hQ => wp_region_list (cOps_none ops.toList env st K hc hrc h σ w a Q hr ha hQ)
    | true =>
      exact fun env st K hc hrc h σ w a Q hr ha hQ => cOpen_wp hm hc h id σ w a Q hr ha fun ex env' st' σ' w' a' e hk h1 h2 h3 R E A X => hQ ex env' st' σ' w' a' e hk h1 (h3.trans hrc) R E (by rw [h2]; exact A) X
  | seq x y ihx ihy =>
    intro env st K hc hrc h σ w a Q hr ha hQ
    have h' : (match cCode P nt x, cCode P nt y with | .mk f, .mk g => Co.mk fun env st K => f env st (seqX g K)).fn env st K = true := h
    cases ex : cCode P nt x with | mk f => cases ey : cCode P nt y with | mk g =>
      rw [ex, ey] at h'
      rw [ex] at ihx; rw [ey] at ihy
      have h2 : f env st (seqX g K) = true := h'
      exact wp_seq (ihx env st _ hc hrc h2 σ w a _ hr ha (seqPostN hc ihy hQ))
  | cond c x y ihx ihy =>
    intro env st K hc hrc h σ w a Q hr ha hQ
    have h' : (match bx c, cCode P nt x, cCode P nt y with | .mk c, .mk f, .mk g => Co.mk fun env st K => vFork (c env) (f env st K) (g env st K)).fn env st K = true := h
    have hx := bx_eq c env
    cases eb : bx c with | mk fc => cases ex : cCode P nt x with | mk f => cases ey : cCode P nt y with | mk g =>
      rw [eb, ex, ey] at h'
      rw [eb] at hx
      have hx' : fc env = aev env c := hx
      rw [ex] at ihx; rw [ey] at ihy
      have h2 : vFork (fc env) (f env st K) (g env st K) = true := h'
      rw [hx'] at h2
      rcases vFork_ok h2 with ⟨hv, h3⟩ | ⟨hv, h3⟩ | ⟨hv, h3, h4⟩
      · exact wp_cond (t := true) (eval_bool ha hv) (ihx env st K hc hrc h3 σ w a Q hr ha hQ)
      · exact wp_cond (t := false) (eval_bool ha hv) (ihy env st K hc hrc h3 σ w a Q hr ha hQ)
      · obtain ⟨b, hb⟩ := eval_any ha hv
        cases b with
        | true => exact wp_cond (t := true) hb (ihx env st K hc hrc h3 σ w a Q hr ha hQ)
        | false => exact wp_cond (t := false) hb (ihy env st K hc hrc h4 σ w a Q hr ha hQ)
  | block id x ih =>
    intro env st K hc hrc h σ w a Q hr ha hQ
    have h' : (match cCode P nt x with | .mk f => Co.mk fun env st K => f env st (blockX id K)).fn env st K = true := h
    cases ex : cCode P nt x with | mk f =>
      rw [ex] at h' ih
      have h2 : f env st (blockX id K) = true := h'
      exact wp_block (ih env st _ hc hrc h2 σ w a _ hr ha (blockPostN hQ))
  | loop x ih =>
    intro env st K hc hrc h σ w a Q hr ha hQ
    have h' : (match cCode P nt x with | .mk f => Co.mk fun env st K => noneR st.rc (loopF f loopFuel env st K)).fn env st K = true := h
    cases ex : cCode P nt x with | mk f =>
      rw [ex] at h' ih
      have h2 : noneR st.rc (loopF f loopFuel env st K) = true := h'
      exact wp_loop_rounds loopFuel (loopF_ok ih loopFuel env st K hc hrc (noneR_ok h2).2 σ w a Q hr ha hQ)
  | exit id => exact fun env st K hc hrc h σ w a Q hr ha hQ => wp_exit (hQ (.exit id) env st σ w a (.exit id) h rfl hrc hr (Ext.refl _ _ _ _) ha rfl)
  | ret => exact fun env st K hc hrc h σ w a Q hr ha hQ => wp_ret (hQ .ret env st σ w a .ret h rfl hrc hr (Ext.refl _ _ _ _) ha trivial)
  | rangeFunc f p x y _ _ => exact fun env st K hc hrc h => Bool.noConfusion h
  | scope x _ => exact fun env st K hc hrc h => Bool.noConfusion h
  | label l => exact fun env st K hc hrc h => Bool.noConfusion h
  | goto l => exact fun env st K hc hrc h => Bool.noConfusion h
  | refuse s => exact fun env st K hc hrc h => Bool.noConfusion h

theorem cCode_some {P : Program} {nt : Nat} (hm : P.follows .mixedOrders = true) (c : Code) : CodeS P nt c (cCode P nt c).fn := by
  induction c with
  | skip => exact fun env st K m hc hrc h σ w a u c₀ cs Q hr ha hmr hQ => wpS_of_wp (wp_skip (hQ .normal env st m σ w a .normal u h rfl hrc hr (Ext.refl _ _ _ _) ha trivial hmr))
  | region id ops draw =>
    cases draw with
    | false =>
      intro env st K m hc hrc h σ w a u c₀ cs Q hr ha hmr hQ
      refine wpS_region ?_
      have := cOps_some ops.toList 0 env st K m (by simp) hc hrc h σ w a u c₀ cs Q hr ha hmr hQ
      rw [List.range_eq_range', ← Array.length_toList]
      exact this
    | true =>
      exact fun env st K m hc hrc h σ w a u c₀ cs Q hr ha hmr hQ => wpS_of_wp (cOpen_wp hm hc h id σ w a _ hr ha fun ex env' st' σ' w' a' e hk h1 h2 h3 R E A X =>
        hQ ex env' st' m σ' w' a' e u hk h1 (h3.trans hrc) R E (by rw [h2]; exact A) X (hmr.mono E.sub))
  | seq x y ihx ihy =>
    intro env st K m hc hrc h σ w a u c₀ cs Q hr ha hmr hQ
    have h' : (match cCode P nt x, cCode P nt y with | .mk f, .mk g => Co.mk fun env st K => f env st (seqX g K)).fn env st K = true := h
    cases ex : cCode P nt x with | mk f => cases ey : cCode P nt y with | mk g =>
      rw [ex, ey] at h'
      rw [ex] at ihx; rw [ey] at ihy
      have h2 : f env st (seqX g K) = true := h'
      refine wpS_seq (ihx env st _ m hc hrc h2 σ w a u c₀ cs _ hr ha hmr ?_)
      intro ex env' st' m' σ' w' a' e u' hk hcl hrc' R E A X M
      cases ex with
      | normal =>
        cases e <;> first | exact X.elim | skip
        have hk' : g env' st' K = true := hk
        refine ihy env' st' K m' (by rw [hcl]; exact hc) hrc' hk' σ' w' a' u' c₀ cs Q R A M ?_
        rw [hcl]; exact hQ.from E
      | exit i => cases e <;> first | exact X.elim | exact hQ _ env' st' m' σ' w' a' _ u' hk hcl hrc' R E A X M
      | ret => cases e <;> first | exact X.elim | exact hQ _ env' st' m' σ' w' a' _ u' hk hcl hrc' R E A X M
      | pan l => cases e <;> first | exact X.elim | exact hQ _ env' st' m' σ' w' a' _ u' hk hcl hrc' R E A X M
  | cond c x y ihx ihy =>
    intro env st K m hc hrc h σ w a u c₀ cs Q hr ha hmr hQ
    have h' : (match bx c, cCode P nt x, cCode P nt y with | .mk c, .mk f, .mk g => Co.mk fun env st K => vFork (c env) (f env st K) (g env st K)).fn env st K = true := h
    have hx := bx_eq c env
    cases eb : bx c with | mk fc => cases ex : cCode P nt x with | mk f => cases ey : cCode P nt y with | mk g =>
      rw [eb, ex, ey] at h'
      rw [eb] at hx
      have hx' : fc env = aev env c := hx
      rw [ex] at ihx; rw [ey] at ihy
      have h2 : vFork (fc env) (f env st K) (g env st K) = true := h'
      rw [hx'] at h2
      rcases vFork_ok h2 with ⟨hv, h3⟩ | ⟨hv, h3⟩ | ⟨hv, h3, h4⟩
      · exact wpS_cond (t := true) (eval_bool ha hv) (ihx env st K m hc hrc h3 σ w a u c₀ cs Q hr ha hmr hQ)
      · exact wpS_cond (t := false) (eval_bool ha hv) (ihy env st K m hc hrc h3 σ w a u c₀ cs Q hr ha hmr hQ)
      · obtain ⟨b, hb⟩ := eval_any ha hv
        cases b with
        | true => exact wpS_cond (t := true) hb (ihx env st K m hc hrc h3 σ w a u c₀ cs Q hr ha hmr hQ)
        | false => exact wpS_cond (t := false) hb (ihy env st K m hc hrc h4 σ w a u c₀ cs Q hr ha hmr hQ)
  | block id x ih =>
    intro env st K m hc hrc h σ w a u c₀ cs Q hr ha hmr hQ
    have h' : (match cCode P nt x with | .mk f => Co.mk fun env st K => f env st (blockX id K)).fn env st K = true := h
    cases ex : cCode P nt x with | mk f =>
      rw [ex] at h' ih
      have h2 : f env st (blockX id K) = true := h'
      refine wpS_block (ih env st _ m hc hrc h2 σ w a u c₀ cs _ hr ha hmr ?_)
      intro ex env' st' m' σ' w' a' e u' hk hcl hrc' R E A X M
      cases ex with
      | normal => cases e <;> first | exact X.elim | exact hQ _ env' st' m' σ' w' a' _ u' hk hcl hrc' R E A X M
      | exit i =>
        cases e <;> first | exact X.elim | skip
        have X' : i = _ := X
        subst X'
        have hk' : (Bool.rec (K (.exit i) env' st') (K .normal env' st') (Nat.beq i id) : Bool) = true := hk
        cases hb : Nat.beq i id with
        | true =>
          rw [hb] at hk'
          have hid := Nat.eq_of_beq_eq_true hb
          simp only [hid, if_true]
          exact hQ .normal env' st' m' σ' w' a' .normal u' hk' hcl hrc' R E A trivial M
        | false =>
          rw [hb] at hk'
          have hid : i ≠ id := fun e => by subst e; simp at hb
          simp only [hid, if_false]
          exact hQ (.exit i) env' st' m' σ' w' a' _ u' hk' hcl hrc' R E A rfl M
      | ret => cases e <;> first | exact X.elim | exact hQ _ env' st' m' σ' w' a' _ u' hk hcl hrc' R E A X M
      | pan l => cases e <;> first | exact X.elim | exact hQ _ env' st' m' σ' w' a' _ u' hk hcl hrc' R E A X M
  | loop x ih =>
    intro env st K m hc hrc h
    have h' : (match cCode P nt x with | .mk f => Co.mk fun env st K => noneR st.rc (loopF f loopFuel env st K)).fn env st K = true := h
    cases ex : cCode P nt x with | mk f =>
      rw [ex] at h'
      have h2 : noneR st.rc (loopF f loopFuel env st K) = true := h'
      have := (noneR_ok h2).1
      rw [hrc] at this
      cases this
  | exit id => exact fun env st K m hc hrc h σ w a u c₀ cs Q hr ha hmr hQ => wpS_of_wp (wp_exit (hQ (.exit id) env st m σ w a (.exit id) u h rfl hrc hr (Ext.refl _ _ _ _) ha rfl hmr))
  | ret => exact fun env st K m hc hrc h σ w a u c₀ cs Q hr ha hmr hQ => wpS_of_wp (wp_ret (hQ .ret env st m σ w a .ret u h rfl hrc hr (Ext.refl _ _ _ _) ha trivial hmr))
  | rangeFunc f p x y _ _ => exact fun env st K m hc hrc h => Bool.noConfusion h
  | scope x _ => exact fun env st K m hc hrc h => Bool.noConfusion h
  | label l => exact fun env st K m hc hrc h => Bool.noConfusion h
  | goto l => exact fun env st K m hc hrc h => Bool.noConfusion h
  | refuse s => exact fun env st K m hc hrc h => Bool.noConfusion h

end
end Go.Ev
