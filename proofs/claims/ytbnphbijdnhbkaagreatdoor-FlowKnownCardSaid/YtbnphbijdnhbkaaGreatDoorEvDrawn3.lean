/-
  Own work. Regions whose order is open. Part 3: those that do not act, as the evaluator takes them.
-/
import Derived.Test.YtbnphbijdnhbkaaGreatDoorEvDrawn2
namespace Go.Ev
variable [GTab]
set_option linter.unusedSectionVars false

/-- One that makes a block: the block lies in the state, the result among the temporaries. -/
def Fl1 (P : Program) (ops : Array Oper) (res : Nat) (env : Env) (H : Heap) (i : Nat) (o : Oper) : Prop :=
  (wantedA ops o.guard env = some false ∧ ∀ d, o.dst = some d → get2 d env = .tuple []) ∨
  (wantedA ops o.guard env = some true ∧ ∃ m, made P o.op (aev env) = some m ∧ m.n ≤ 4096 ∧ get5 (res + i) H = some (.cells m.n (CT.ofL m.n m.l) [] false) ∧ ∀ d, o.dst = some d → get2 d env = m.v (res + i))

theorem Fl1.keep {P : Program} {ops : Array Oper} {res : Nat} {env env' : Env} {H H' : Heap} {i : Nat} {o : Oper} (h : Fl1 P ops res env H i o) (hl : ∀ t, t ∈ looks ops o → t < 256 → get2 t env' = get2 t env)
    (hd : ∀ d, o.dst = some d → get2 d env' = get2 d env) (hH : get5 (res + i) H' = get5 (res + i) H) : Fl1 P ops res env' H' i o := by
  obtain ⟨e1, e2⟩ := look_congr hl
  rcases h with ⟨h1, h2⟩ | ⟨h1, m, h2, h3, h4, h5⟩
  · exact .inl ⟨e1.trans h1, fun d hd' => (hd d hd').trans (h2 d hd')⟩
  · exact .inr ⟨e1.trans h1, m, (made_congr e2).trans h2, h3, hH.trans h4, fun d hd' => (hd d hd').trans (h5 d hd')⟩

/-- One that only reads: its result lies among the temporaries. -/
def Fl0 (P : Program) (ops : Array Oper) (env : Env) (H : Heap) (nx : Nat) (o : Oper) : Prop :=
  (wantedA ops o.guard env = some false ∧ ∀ d, o.dst = some d → get2 d env = .tuple []) ∨
  (wantedA ops o.guard env = some true ∧ ∃ v, aop P o (aev env) H nx = some (.val v H nx) ∧ ∀ d, o.dst = some d → get2 d env = v)

theorem again1_fl0 {P : Program} {ops : Array Oper} {env : Env} {H : Heap} {nx : Nat} {o : Oper} (hc : cls o.op = 0) (h : again1 P ops env H nx o = true) : Fl0 P ops env H nx o := by
  unfold again1 at h
  split at h <;> first | (cases h; done) | skip
  · rename_i hw
    split at h <;> first | (cases h; done) | skip
    rename_i v H1 nx1 hop
    obtain ⟨rfl, rfl⟩ := cls0_heap hc hop
    refine .inr ⟨hw, v, hop, fun d hd => ?_⟩
    rw [hd] at h
    exact (beqA_ok _ _ _ h).symm
  · rename_i hw
    refine .inl ⟨hw, fun d hd => ?_⟩
    rw [hd] at h
    simp only [] at h
    split at h <;> first | (cases h; done) | assumption

/-- What does not read memory comes to the same over another. -/
theorem pure_heap {P : Program} {o : Oper} {ρ : Operand → AVal} {H H' : Heap} {nx nx' : Nat} {v : AVal} (hc : cls o.op = 0) (hp : impure o.op = false) (h : aop P o ρ H nx = some (.val v H nx)) : aop P o ρ H' nx' = some (.val v H' nx') := by
  unfold aop at h ⊢
  cases hop : o.op <;> rw [hop] at h hc hp <;> simp only [] at h ⊢ <;> first | (cases hc; done) | (cases hp; done) | skip
  case move => unfold opMove at h ⊢; cases h; rfl
  case assign => unfold opMove at h ⊢; cases h; rfl
  case call c =>
    simp only [cls] at hc
    unfold opCall at h ⊢
    cases hce : c.callee with
    | value f => rw [hce] at hc; cases hc
    | invoke r m => rw [hce] at hc; cases hc
    | builtin b =>
      rw [hce] at hc h
      cases b <;> simp only [] at hc h ⊢ <;> first | (cases hc; done) | skip
      all_goals
        unfold opBuiltin0 at h ⊢
        try simp only [forceI_eq] at h ⊢
        split at h <;> first | (cases h; done) | skip
        all_goals (repeat' (split at h)) <;> first | (cases h; done) | (cases h; simp only [*]; done) | (cases h; simp [*]; done)
  all_goals first
    | (have h' : opFail ρ H nx = some (.val v H nx) := h; cases h'; done)
    | (unfold opPick at h ⊢) | (unfold opNilCheck at h ⊢) | (unfold opUn at h ⊢) | (unfold opConv at h ⊢) | (unfold opMakeInterface at h ⊢) | (unfold opMakeFunc at h ⊢; cases h; rfl; done)
    | (unfold opFieldAddr at h ⊢) | (unfold opField at h ⊢) | (unfold opIndexAddr at h ⊢) | (unfold opIndex at h ⊢) | (unfold opAssert at h ⊢) | (unfold opExtract at h ⊢) | (unfold opBuild at h ⊢) | (unfold opBin at h ⊢)
  all_goals try simp only [forceI_eq, forceN_eq] at h ⊢
  all_goals (repeat' (split at h)) <;> first | (cases h; done) | (cases h; simp only [*]; done) | (cases h; simp [*]; done) | skip

theorem Fl0.keep {P : Program} {ops : Array Oper} {env env' : Env} {H H' : Heap} {nx nx' : Nat} {o : Oper} (hc : cls o.op = 0) (hp : impure o.op = false) (h : Fl0 P ops env H nx o) (hl : ∀ t, t ∈ looks ops o → t < 256 → get2 t env' = get2 t env)
    (hd : ∀ d, o.dst = some d → get2 d env' = get2 d env) : Fl0 P ops env' H' nx' o := by
  obtain ⟨e1, e2⟩ := look_congr hl
  rcases h with ⟨h1, h2⟩ | ⟨h1, v, h2, h3⟩
  · exact .inl ⟨e1.trans h1, fun d hd' => (hd d hd').trans (h2 d hd')⟩
  · exact .inr ⟨e1.trans h1, v, (aop_congr e2).trans (pure_heap hc hp h2), fun d hd' => (hd d hd').trans (h3 d hd')⟩

theorem get2_put' {d : Option Nat} {v : AVal} {env : Env} {nt t : Nat} (hd : dstOK nt d = true) (hn : nt ≤ 256) (ht : t < 256) (hne : d ≠ some t) : get2 t (put d v env) = get2 t env := by
  cases d with
  | none => rfl
  | some d =>
    have h1 : d < nt := Nat.le_of_ble_eq_true hd
    show get2 t (set2 d v env) = _
    rw [get2_put (by omega) ht, if_neg (fun e => hne (by rw [e]))]

theorem get2_put_same {d : Nat} {v : AVal} {env : Env} : get2 d (put (some d) v env) = v := by
  show get2 d (set2 d v env) = v
  rw [get2_set2_same]

theorem floatK_ok {P : Program} {nt : Nat} {ops : Array Oper} {as : List Nat} {res nx : Nat} {k : Env → Heap → Bool} {o : Oper} {i : Nat} {env : Env} {H : Heap} (F : OpsFact nt ops as) (hn : nt ≤ 256) (hlim : res + ops.size ≤ 1048576)
    (hi : ops[i]? = some o) (h : floatK P ops res o i env H nx k = true) :
    ∃ env' H', k env' H' = true ∧ (∀ t, t < 256 → o.dst ≠ some t → get2 t env' = get2 t env) ∧ (∀ b, b < 1048576 → b ≠ res + i → get5 b H' = get5 b H) ∧
      (∀ σ w, Rel σ H nx w → σ (res + i) = none → Rel σ H' nx w) ∧ (cls o.op = 1 → Fl1 P ops res env' H' i o) ∧ (cls o.op = 0 → impure o.op = false → Fl0 P ops env' H' nx o) := by
  have hd := F.dst i o hi
  have hsz : i < ops.size := (Array.getElem?_eq_some_iff.1 hi).1
  have looks_same : ∀ v t, t ∈ looks ops o → t < 256 → get2 t (put o.dst v env) = get2 t env := fun v t ht hlt => get2_put' hd hn hlt (fun e => F.own hi e ht)
  unfold floatK at h
  split at h <;> first | (cases h; done) | skip
  · rename_i hw
    split at h
    · rename_i hc
      split at h <;> first | (cases h; done) | skip
      rename_i m hm
      split at h <;> first | (cases h; done) | skip
      rename_i h4
      rw [forceN_eq] at h
      refine ⟨_, _, h, fun t ht hne => get2_put' hd hn ht hne, ?_, ?_, fun _ => ?_, fun e => by rw [e] at hc; cases hc⟩
      · intro b hb hne
        exact get5_ne (fun e => hne e.symm) (show res + i < 1048576 by omega) hb
      · intro σ w hr hp
        exact hr.pend hp (Nat.le_refl _) hr.lim (by show res + i < 1048576; omega)
      · obtain ⟨e1, e2⟩ := look_congr (looks_same (m.v (Nat.add res i)))
        refine .inr ⟨e1.trans hw, m, (made_congr e2).trans hm, Nat.le_of_ble_eq_true h4, get5_set5_same .., fun d hd' => ?_⟩
        rw [hd']; exact get2_put_same
    · rename_i hc
      split at h <;> first | (cases h; done) | skip
      rename_i v H1 nx1 hop
      refine ⟨_, _, h, fun t ht hne => get2_put' hd hn ht hne, fun _ _ _ => rfl, fun _ _ hr _ => hr, fun e => ?_, fun hc0 hp => ?_⟩
      · rw [e] at hc; cases hc
      · obtain ⟨rfl, rfl⟩ := cls0_heap hc0 hop
        obtain ⟨e1, e2⟩ := look_congr (looks_same v)
        refine .inr ⟨e1.trans hw, v, (aop_congr e2).trans hop, fun d hd' => ?_⟩
        rw [hd']; exact get2_put_same
  · rename_i hw
    obtain ⟨e1, e2⟩ := look_congr (looks_same (.tuple []))
    refine ⟨_, _, h, fun t ht hne => get2_put' hd hn ht hne, fun _ _ _ => rfl, fun _ _ hr _ => hr, fun _ => ?_, fun _ _ => ?_⟩
    · refine .inl ⟨e1.trans hw, fun d hd' => ?_⟩
      rw [hd']; exact get2_put_same
    · refine .inl ⟨e1.trans hw, fun d hd' => ?_⟩
      rw [hd']; exact get2_put_same

theorem floatsK_ok {P : Program} {nt : Nat} {ops : Array Oper} {as : List Nat} {res nx : Nat} {k : Env → Heap → Bool} (F : OpsFact nt ops as) (hn : nt ≤ 256) (hlim : res + ops.size ≤ 1048576) :
    ∀ (l past past' : List Nat) (env : Env) (H : Heap), chkF ops l past = some past' → floatsK P ops res nx k l env H = true →
      ∃ env' H', k env' H' = true ∧ (∀ t, t < 256 → (∀ (j : Nat) (q : Oper), j ∈ l → ops[j]? = some q → q.dst ≠ some t) → get2 t env' = get2 t env) ∧ (∀ b, b < 1048576 → (∀ j, j ∈ l → b ≠ res + j) → get5 b H' = get5 b H) ∧
        (∀ σ w, Rel σ H nx w → (∀ j, j ∈ l → σ (res + j) = none) → Rel σ H' nx w) ∧ (∀ (i : Nat) (q : Oper), i ∈ l → ops[i]? = some q → cls q.op = 1 → Fl1 P ops res env' H' i q) ∧
        (∀ (i : Nat) (q : Oper), i ∈ l → ops[i]? = some q → cls q.op = 0 → impure q.op = false → Fl0 P ops env' H' nx q)
  | [], _, _, env, H, _, h => ⟨env, H, h, fun _ _ _ => rfl, fun _ _ _ => rfl, fun _ _ hr _ => hr, (fun i q hi => by cases hi), fun i q hi => by cases hi⟩
  | i :: l, past, past', env, H, hc, h => by
    have h' : (match ops[i]? with | some o => floatK P ops res o i env H nx (floatsK P ops res nx k l) | none => false) = true := h
    unfold chkF at hc
    split at hc <;> first | (cases hc; done) | skip
    rename_i o ho
    split at hc <;> first | (cases hc; done) | skip
    rw [ho] at h'
    simp only [] at h'
    obtain ⟨env1, H1, hk, a1, a2, a3, a4, a5⟩ := floatK_ok F hn hlim ho h'
    obtain ⟨env2, H2, hk2, b1, b2, b3, b4, b5⟩ := floatsK_ok F hn hlim l _ past' env1 H1 hc hk
    have hsz : i < ops.size := (Array.getElem?_eq_some_iff.1 ho).1
    have fr := chkF_fresh hc i (List.mem_cons_self ..)
    refine ⟨env2, H2, hk2, ?_, ?_, ?_, ?_, ?_⟩
    · intro t ht hne
      rw [b1 t ht (fun j q hj hq => hne j q (List.mem_cons_of_mem _ hj) hq), a1 t ht (hne i o (List.mem_cons_self ..) ho)]
    · intro b hb hne
      rw [b2 b hb (fun j hj => hne j (List.mem_cons_of_mem _ hj)), a2 b hb (hne i (List.mem_cons_self ..))]
    · intro σ w hr hp
      exact b3 σ w (a3 σ w hr (hp i (List.mem_cons_self ..))) fun j hj => hp j (List.mem_cons_of_mem _ hj)
    · intro j q hj hq hcl
      rcases List.mem_cons.1 hj with rfl | hj
      · rw [ho] at hq
        cases hq
        refine (a4 hcl).keep ?_ ?_ ?_
        · intro t ht hlt
          refine b1 t hlt fun j' q' hj' hq' e => ?_
          obtain ⟨_, q0, o0, e1, e2, e3⟩ := fr j' hj'
          rw [ho] at e1; cases e1
          rw [hq'] at e2; cases e2
          exact e3 t e ht
        · intro d hd
          have hdl : d < nt := by have := F.dst j o ho; rw [hd] at this; exact Nat.le_of_ble_eq_true this
          refine b1 d (Nat.lt_of_lt_of_le hdl hn) fun j' q' hj' hq' e => ?_
          exact (fr j' hj').1 (F.uniq j j' o q' d ho hq' hd e)
        · exact b2 _ (by omega) fun j' hj' e => (fr j' hj').1 (by omega)
      · exact b4 j q hj hq hcl
    · intro j q hj hq hcl hp
      rcases List.mem_cons.1 hj with rfl | hj
      · rw [ho] at hq
        cases hq
        refine (a5 hcl hp).keep hcl hp ?_ ?_
        · intro t ht hlt
          refine b1 t hlt fun j' q' hj' hq' e => ?_
          obtain ⟨_, q0, o0, e1, e2, e3⟩ := fr j' hj'
          rw [ho] at e1; cases e1
          rw [hq'] at e2; cases e2
          exact e3 t e ht
        · intro d hd
          have hdl : d < nt := by have := F.dst j o ho; rw [hd] at this; exact Nat.le_of_ble_eq_true this
          refine b1 d (Nat.lt_of_lt_of_le hdl hn) fun j' q' hj' hq' e => ?_
          exact (fr j' hj').1 (F.uniq j j' o q' d ho hq' hd e)
      · exact b5 j q hj hq hcl hp

end Go.Ev
