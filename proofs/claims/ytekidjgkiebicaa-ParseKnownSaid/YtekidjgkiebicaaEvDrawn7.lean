/-
  Own work. Regions whose order is open: what was owed. And a run from nothing.
-/
import Derived.Test.YtekidjgkiebicaaEvDrawn6
namespace Go.Ev

theorem isL_none {n i : Nat} : ¬ isL (Array.replicate n false) i := by
  unfold isL
  rw [Array.getD_eq_getD_getElem?, Array.getElem?_replicate]
  split <;> simp

theorem Rel.more {σ : Sg} {H : Heap} {nx nx' : Nat} {w : World} (h : Rel σ H nx w) (hn : nx ≤ nx') (hl : nx' ≤ 1048576) : Rel σ H nx' w :=
  ⟨hl, fun b cb sz e => ⟨Nat.lt_of_lt_of_le (h.dom b cb sz e).1 hn, (h.dom b cb sz e).2⟩, h.obj, h.sep, h.sup, h.old⟩

theorem drawnK_ok {P : Program} {call : CallK} (hm : P.follows .mixedOrders = true) (hc : CallSound P call) : DrawnSound P call := by
  intro nt ops env H nx dfs rc K h
  unfold drawnK at h
  split at h <;> first | (cases h; done) | skip
  rename_i hplan hle
  have hlim : nx + ops.size ≤ 1048576 := Nat.le_of_ble_eq_true hle
  rw [forceN_eq] at h
  unfold planOK at hplan
  split at hplan <;> first | (cases hplan; done) | skip
  rename_i past hnt hops hF
  split at hplan <;> first | (cases hplan; done) | skip
  rename_i hA hS hcov
  have hn : nt ≤ 256 := Nat.le_of_ble_eq_true hnt
  have F := opsOK_fact hops
  obtain ⟨env1, H1, hk, b1, b2, b3, b4⟩ := floatsK_ok F hn hlim (plan0 ops) [] past env H hF h
  split at hk <;> first | (cases hk; done) | skip
  rename_i hag
  have hpast : ∀ i, i ∈ past → ∃ o, ops[i]? = some o ∧ (cls o.op = 0 ∨ cls o.op = 1) := by
    intro i hi
    rcases (chkF_past hF i).1 hi with hi | hi
    · cases hi
    · obtain ⟨o, ho, hne⟩ := chkF_cls hF i hi
      refine ⟨o, ho, ?_⟩
      have : cls o.op = 0 ∨ cls o.op = 1 ∨ cls o.op = 2 := by
        unfold cls
        split <;> first | exact .inl rfl | exact .inr (.inl rfl) | exact .inr (.inr rfl) | skip
        split <;> first | exact .inl rfl | exact .inr (.inr rfl)
      rcases this with h | h | h
      · exact .inl h
      · exact .inr h
      · exact (hne h).elim
  have hblank : ∀ t, t < 256 → get2 t (blank ops.toList env) = .und ∨ ((∀ (j : Nat) (q : Oper), ops[j]? = some q → q.dst ≠ some t) ∧ get2 t (blank ops.toList env) = get2 t env1) := by
    intro t ht
    have hd : ∀ o, o ∈ ops.toList → dstOK nt o.dst = true := fun o ho => by
      obtain ⟨i, hi⟩ := List.mem_iff_getElem?.1 ho
      exact F.dst i o (by simpa using hi)
    rcases blank_get hn ops.toList env t ht hd with h | ⟨h1, h2⟩
    · exact .inl h
    · have h3 : ∀ (j : Nat) (q : Oper), ops[j]? = some q → q.dst ≠ some t := fun j q hq => h1 q (by simpa using Array.mem_of_getElem? hq)
      exact .inr ⟨h3, by rw [h2, b1 t ht fun j q _ hq => h3 j q hq]⟩
  obtain ⟨ex, env', H', nx', hK, fin⟩ := stagesK_ok hc F hn hlim (planS ops) none past env1 H1 _ hS hpast hblank hk
  refine ⟨ex, env', H', nx', hK, fun id σ w a Q hr ha hq => wp_region_any hm ?_⟩
  have none' : ∀ b, nx ≤ b → σ b = none := fun b hb => by
    cases e : σ b with
    | none => rfl
    | some p => obtain ⟨cb, sz⟩ := p; have := (hr.dom b cb sz e).1; omega
  refine fin σ H w Q hq ops.size _ σ _ a ⟨by simp, ha.env.size, ?_, ?_, ?_, ?_, ?_, ?_, ?_, Nat.le_refl _, ?_, ?_, ha.dfs⟩ ?_
  · exact fun i j h => (isL_none h).elim
  · exact fun i _ h => isL_none h
  · intro i hi
    have := memN_ok (allL_ok hcov i (List.mem_range.2 hi))
    rcases List.mem_append.1 this with h | h
    · exact .inl ((chkF_past hF i).2 (.inr h))
    · exact .inr (.inl h)
  · intro t ht hown
    rw [b1 t ht fun j q _ hq hd => isL_none (hown j q hq hd)]
    exact ha.env.den t ht
  · intro j q hj hq _ hcl
    have h1 := allL_ok hA j hj
    rw [hq] at h1
    simp only [hcl] at h1
    have hmem : j ∈ planA ops := by
      have h2 : (match Nat.beq 0 0 with | true => (match memN j (planA ops) with | true => true | false => bit 0 j) | false => true) = true := h1
      have h3 : (match memN j (planA ops) with | true => true | false => bit 0 j) = true := h2
      split at h3
      · exact memN_ok ‹_›
      · rw [bit_eq] at h3; simp at h3
    have h3 := allL_ok hag j hmem
    rw [hq] at h3
    exact h3
  · intro j q hj hq _ hcl
    rcases (chkF_past hF j).1 hj with hj | hj
    · cases hj
    · exact b4 j q hj hq hcl
  · exact fun i _ _ => none' _ (by omega)
  · exact (b3 σ w (hr.more (Nat.le_add_right _ _) hlim) fun j _ => none' _ (by omega)).drew
  · have E := Ext.drew σ H nx w
    refine ⟨E.sub, E.rng, ?_, Nat.le_add_right _ _, rfl, rfl, rfl, Nat.le_refl _, fun _ _ _ => rfl⟩
    intro b hb h0
    exact ⟨h0, b2 b (by omega) fun j _ => by omega⟩
  · unfold left
    have := List.countP_le_length (p := fun i => !(Array.replicate ops.size false).getD i false) (l := List.range ops.size)
    simpa using this

/-- All calls that the evaluator follows. -/
theorem callsK_sound {P : Program} (hm : P.follows .mixedOrders = true) (n : Nat) : CallSound P (callsK P n).1 := (callsK_ok (fun _ hc => drawnK_ok hm hc) n).1

/-- The state that knows nothing. -/
theorem Rel.nothing (w : World) : Rel (fun _ => none) (all5 none) 0 w :=
  ⟨(by omega), (fun _ _ _ h => by cases h), (fun _ _ _ _ _ h => by cases h), (fun _ _ _ _ _ _ _ _ _ h => by cases h), (fun _ _ _ _ _ _ _ h => by cases h), (fun _ _ _ _ h => by cases h)⟩

/-- A run from nothing. -/
theorem closedRun_ok {P : Program} {f : FuncId} {n : Nat} (hm : P.follows .mixedOrders = true) (h : closedRun P f n isTrue = true) (w : World) :
    Calls P f #[] w fun e w' => e = .returned (.bool true) ∧ w'.os = w.os ∧ w'.tape = w.tape ∧ w'.output = w.output ∧ w.heap.size ≤ w'.heap.size ∧ ∀ i, i < w.heap.size → w'.heap[i]? = w.heap[i]? := by
  obtain ⟨e, H', nx', tri, hk⟩ := callsK_sound hm n f [] (all5 none) 0 _ h
  refine tri (fun _ => none) w [] _ (Rel.nothing w) .nil fun σ' w' en R E he => ?_
  cases e with
  | pan l => cases hk
  | ret v =>
    have hv : v = .bool true := by
      have hk' : isTrue v = true := hk
      unfold isTrue at hk'
      split at hk' <;> first | (cases hk'; done) | rfl
    subst hv
    cases en with
    | returned v' =>
      have he' : Den σ' (.bool true) v' := he
      cases he'
      exact ⟨rfl, E.os, E.tape, E.output, E.size, fun i hi => E.frame i hi fun b sz h => by cases h⟩
    | panicked c => exact he.elim
    | outgrown => exact he.elim

end Go.Ev
