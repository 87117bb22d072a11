/-
  Own work. Regions whose order is open. Part 5: an acting operation is taken; the whole region.
-/
import Derived.Test.YtdigeeejmgkcoaaGreatDoorEvDrawn2
import Derived.Test.YtdigeeejmgkcoaaGreatDoorEvSound3
namespace Go.Ev
variable [GTab]
set_option linter.unusedSectionVars false

/-- What a step of an acting operation owes. -/
def Took (P : Program) (ops : Array Oper) (o : Oper) (a : Act) (w : World) (next : Act → World → Prop) (Q : Exit → Act → World → Prop) : Prop :=
  if Region.wanted o (yielded ops a.tmps) = true then o.wp P a w next Q ∨ (o.asks P a w ∧ LetsOut Q) else next (a.put o.dst undef) w

theorem actK_ok {P : Program} {call : CallK} {nt : Nat} {ops : Array Oper} {o : Oper} {env : Env} {H : Heap} {nx : Nat} {dfs : Dfs} {rc : Option AMode} {k : Env → Heap → Nat → Bool} {K : Kont} {env0 : Env}
    (hc : CallSound P call) (h : actK P call ops o env H nx dfs rc k K env0 = true) :
    (∃ v H1 nx1, k (put o.dst v env) H1 nx1 = true ∧ ∀ envm σ w a next Q, Rel σ H nx w → EnvRel σ nt envm a.tmps → wantedA ops o.guard envm = wantedA ops o.guard env → (∀ x ∈ o.op.operands, aev envm x = aev env x) →
      (∀ σ1 w1 v', Rel σ1 H1 nx1 w1 → Ext σ σ1 H H1 nx nx1 w w1 → Den σ1 v v' → next (a.put o.dst v') w1) → Took P ops o a w next Q) ∨
    (∃ l H1 nx1, K (.pan l) env0 H1 nx1 dfs rc = true ∧ ∀ envm σ w a next Q, Rel σ H nx w → EnvRel σ nt envm a.tmps → wantedA ops o.guard envm = wantedA ops o.guard env → (∀ x ∈ o.op.operands, aev envm x = aev env x) →
      (∀ σ1 w1 c, Rel σ1 H1 nx1 w1 → Ext σ σ1 H H1 nx nx1 w w1 → Chain σ1 l c → Q (.panic c) a w1) → Took P ops o a w next Q) := by
  unfold actK at h
  split at h <;> first | (cases h; done) | skip
  · rename_i hw
    split at h <;> first | (cases h; done) | skip
    · rename_i v H1 nx1 hop
      refine .inl ⟨v, H1, nx1, h, fun envm σ w a next Q hr M e1 e2 hn => ?_⟩
      unfold Took
      rw [if_pos (wanted_ok (e1.trans hw) M)]
      obtain ⟨σ', w', v', R, E, D, hrun⟩ := aop_ok ((aop_congr e2).trans hop) σ w a.eval hr M.aev
      refine .inl ?_
      unfold Oper.wp
      rcases hrun with hrun | ⟨hrun, rfl⟩
      · rw [hrun]; exact hn σ' w' _ R E D
      · rw [hrun]; exact hn σ' w' _ R E D
    · rename_i f args hop
      obtain ⟨e, H', nx', tri, hk⟩ := hc f args H nx _ h
      cases e with
      | ret v =>
        refine .inl ⟨v, H', nx', hk, fun envm σ w a next Q hr M e1 e2 hn => ?_⟩
        unfold Took
        rw [if_pos (wanted_ok (e1.trans hw) M)]
        obtain ⟨args', hl, hrun⟩ := aop_ok ((aop_congr e2).trans hop) σ w a.eval hr M.aev
        refine .inl ?_
        unfold Oper.wp
        rw [hrun]
        show Calls P f ⟨args'⟩ w _
        refine tri σ w args' _ hr hl fun σ' w' en R E he => ?_
        cases en with
        | returned v' => exact hn σ' w' _ R E he
        | panicked c => exact he.elim
        | outgrown => exact he.elim
      | pan l =>
        refine .inr ⟨l, H', nx', hk, fun envm σ w a next Q hr M e1 e2 hn => ?_⟩
        unfold Took
        rw [if_pos (wanted_ok (e1.trans hw) M)]
        obtain ⟨args', hl, hrun⟩ := aop_ok ((aop_congr e2).trans hop) σ w a.eval hr M.aev
        refine .inl ?_
        unfold Oper.wp
        rw [hrun]
        show Calls P f ⟨args'⟩ w _
        refine tri σ w args' _ hr hl fun σ' w' en R E he => ?_
        cases en with
        | returned v' => exact he.elim
        | panicked c => exact hn σ' w' c R E he
        | outgrown => exact he.elim
    · rename_i v hop
      refine .inr ⟨[(v, false)], H, nx, h, fun envm σ w a next Q hr M e1 e2 hn => ?_⟩
      unfold Took
      rw [if_pos (wanted_ok (e1.trans hw) M)]
      obtain ⟨v', dv, hrun⟩ := aop_ok ((aop_congr e2).trans hop) σ w a.eval hr M.aev
      refine .inl ?_
      unfold Oper.wp
      rw [hrun]
      exact hn σ w [{ v := v', recovered := false }] hr (Ext.refl _ _ _ _) (.cons dv rfl rfl .nil)
  · rename_i hw
    refine .inl ⟨.tuple [], H, nx, h, fun envm σ w a next Q hr M e1 e2 hn => ?_⟩
    unfold Took
    rw [if_neg (by rw [wanted_ok (e1.trans hw) M]; simp)]
    exact hn σ w undef hr (Ext.refl _ _ _ _) (.tuple .nil)

/-! ### How many are still to come -/
noncomputable def left (ops : Array Oper) (listed : Array Bool) : Nat := (List.range ops.size).countP fun i => !listed.getD i false

theorem countP_lt {α : Type} {p q : α → Bool} : ∀ {l : List α}, (∀ x, x ∈ l → p x = true → q x = true) → (∃ x, x ∈ l ∧ p x = false ∧ q x = true) → l.countP p < l.countP q
  | [], _, ⟨x, hx, _⟩ => by cases hx
  | y :: l, h, ⟨x, hx, hp, hq⟩ => by
    rw [List.countP_cons, List.countP_cons]
    have mono : l.countP p ≤ l.countP q := List.countP_mono_left fun z hz => h z (List.mem_cons_of_mem _ hz)
    have hy := h y (List.mem_cons_self ..)
    rcases List.mem_cons.1 hx with rfl | hx
    · rw [hp, hq]; simp; omega
    · have ih := countP_lt (fun z hz => h z (List.mem_cons_of_mem _ hz)) ⟨x, hx, hp, hq⟩
      cases e1 : p y with
      | false => simp; omega
      | true => rw [hy e1]; simp; omega

theorem left_set {ops : Array Oper} {listed : Array Bool} {i : Nat} (hs : listed.size = ops.size) (hi : i < ops.size) (hn : ¬ isL listed i) : left ops (listed.setIfInBounds i true) < left ops listed := by
  refine countP_lt (fun x _ hx => ?_) ⟨i, List.mem_range.2 hi, ?_, ?_⟩
  · cases e : listed.getD x false with
    | false => rfl
    | true => have := (isL_set (listed := listed) (i := i) (j := x) (by omega)).2 (.inr e); unfold isL at this; rw [this] at hx; cases hx
  · have := (isL_set (listed := listed) (i := i) (j := i) (by omega)).2 (.inl rfl); unfold isL at this; rw [this]; rfl
  · cases e : listed.getD i false with
    | false => rfl
    | true => exact (hn e).elim

theorem left_zero {ops : Array Oper} {listed : Array Bool} (h : left ops listed = 0) : ∀ i, i < ops.size → isL listed i := by
  intro i hi
  unfold left at h
  rw [List.countP_eq_zero] at h
  have := h i (List.mem_range.2 hi)
  unfold isL
  cases e : listed.getD i false with
  | true => rfl
  | false => rw [e] at this; simp at this

/-! ### Who may come up -/
theorem mem_ready {ops : Array Oper} {listed : Array Bool} {i : Nat} (hs : listed.size = ops.size) : i ∈ Region.ready .any ops listed ↔ ∃ o, ops[i]? = some o ∧ ¬ isL listed i ∧ ∀ e, e ∈ o.after.toList → Region.binds .any e = true → isL listed e.on := by
  unfold Region.ready
  rw [List.mem_filter, List.mem_range]
  constructor
  · rintro ⟨h1, h2⟩
    have hi : ops[i]? = some ops[i] := Array.getElem?_eq_getElem h1
    rw [hi, Bool.and_eq_true] at h2
    obtain ⟨h2, h3⟩ := h2
    refine ⟨_, hi, ?_, ?_⟩
    · intro h
      unfold isL at h
      have : listed.getD i true = true := by
        rw [Array.getD_eq_getD_getElem?] at h ⊢
        rw [Array.getElem?_eq_getElem (by omega)] at h ⊢
        exact h
      rw [this] at h2
      cases h2
    · intro e he hb
      simp only [Option.map_some, Option.getD_some, Array.all_eq_true'] at h3
      have := h3 e (by simpa using he)
      rw [hb] at this
      simpa [isL] using this
  · rintro ⟨o, ho, h1, h2⟩
    have hlt : i < ops.size := (Array.getElem?_eq_some_iff.1 ho).1
    refine ⟨hlt, ?_⟩
    rw [ho, Bool.and_eq_true]
    constructor
    · unfold isL at h1
      rw [Array.getD_eq_getD_getElem?] at h1 ⊢
      rw [Array.getElem?_eq_getElem (by omega)] at h1 ⊢
      simpa using h1
    · simp only [Option.map_some, Option.getD_some, Array.all_eq_true']
      intro e he
      have := h2 e (by simpa using he)
      cases hb : Region.binds .any e with
      | false => rfl
      | true => simpa [isL] using this hb

theorem ready_nil {nt : Nat} {ops : Array Oper} {as : List Nat} (F : OpsFact nt ops as) {listed : Array Bool} (hs : listed.size = ops.size) (h : Region.ready .any ops listed = []) : ∀ i, i < ops.size → isL listed i := by
  intro i
  induction i using Nat.strongRecOn with
  | _ i ih =>
    intro hi
    refine Classical.byContradiction fun hn => ?_
    have ho : ops[i]? = some ops[i] := Array.getElem?_eq_getElem hi
    have : i ∈ Region.ready .any ops listed := (mem_ready hs).2 ⟨_, ho, hn, fun e he hb => by
      have := F.edge i _ ho e he hb
      exact ih e.on this (by omega)⟩
    rw [h] at this
    cases this

theorem chkS_pred {ops : Array Oper} {as : List Nat} : ∀ {rest : List Stage} {p : Nat} {past : List Nat}, chkS ops as rest (some p) past = true → ∀ i, i ∈ named rest → ∃ j, (j = p ∨ j ∈ named rest) ∧ bit (as.getD i 0) j = true
  | [], _, _, _, i, hi => by cases hi
  | (e, L, A) :: rest, p, past, h, i, hi => by
    unfold chkS at h
    split at h <;> first | (cases h; done) | skip
    rename_i o ho hp
    split at h <;> first | (cases h; done) | skip
    rename_i hf hL
    split at h <;> first | (cases h; done) | skip
    split at h <;> first | (cases h; done) | skip
    unfold named at hi
    rcases List.mem_cons.1 hi with rfl | hi
    · exact ⟨p, .inl rfl, hp⟩
    · rcases List.mem_append.1 hi with hi | hi
      · exact ⟨e, .inr (by unfold named; exact List.mem_cons_self ..), allL_ok hL i hi⟩
      · obtain ⟨j, hj, hb⟩ := chkS_pred h i hi
        refine ⟨j, .inr ?_, hb⟩
        unfold named
        rcases hj with rfl | hj
        · exact List.mem_cons_self ..
        · exact List.mem_cons_of_mem _ (List.mem_append_right _ hj)

theorem blank_get {nt : Nat} (hn : nt ≤ 256) : ∀ (l : List Oper) (env : Env) (t : Nat), t < 256 → (∀ o, o ∈ l → dstOK nt o.dst = true) → get2 t (blank l env) = .und ∨ ((∀ o, o ∈ l → o.dst ≠ some t) ∧ get2 t (blank l env) = get2 t env)
  | [], env, t, _, _ => .inr ⟨fun o ho => (by cases ho), rfl⟩
  | o :: l, env, t, ht, hd => by
    have e : blank (o :: l) env = blank l (put o.dst .und env) := rfl
    rw [e]
    rcases blank_get hn l (put o.dst .und env) t ht (fun q hq => hd q (List.mem_cons_of_mem _ hq)) with h | ⟨h1, h2⟩
    · exact .inl h
    · by_cases ed : o.dst = some t
      · refine .inl ?_
        rw [h2, ed]; exact get2_put_same
      · refine .inr ⟨fun q hq => ?_, ?_⟩
        · rcases List.mem_cons.1 hq with rfl | hq
          · exact ed
          · exact h1 q hq
        · rw [h2, get2_put' (hd o (List.mem_cons_self ..)) hn ht ed]

theorem isL_none {n i : Nat} : ¬ isL (Array.replicate n false) i := by
  unfold isL
  rw [Array.getD_eq_getD_getElem?, Array.getElem?_replicate]
  split <;> simp

theorem Rel.more {σ : Sg} {H : Heap} {nx nx' : Nat} {w : World} (h : Rel σ H nx w) (hn : nx ≤ nx') (hl : nx' ≤ 1048576) : Rel σ H nx' w :=
  ⟨hl, fun b cb sz e => ⟨Nat.lt_of_lt_of_le (h.dom b cb sz e).1 hn, (h.dom b cb sz e).2⟩, h.obj, h.sep, h.sup, h.old, h.glob⟩

/-- The state that knows nothing. -/
theorem Rel.nothing {w : World} (hg : Glob (fun _ => none) w) : Rel (fun _ => none) (all5 none) 0 w :=
  ⟨(by omega), (fun _ _ _ h => by cases h), (fun _ _ _ _ _ h => by cases h), (fun _ _ _ _ _ _ _ _ _ h => by cases h), (fun _ _ _ _ _ _ _ h => by cases h), (fun _ _ _ _ h => by cases h), hg⟩

end Go.Ev
