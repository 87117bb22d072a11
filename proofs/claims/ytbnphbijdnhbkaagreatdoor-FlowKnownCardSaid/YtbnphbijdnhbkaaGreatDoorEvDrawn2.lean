/-
  Own work. Regions whose order is open. Part 2: what the plan's check says.
-/
import Derived.Test.YtbnphbijdnhbkaaGreatDoorEvDrawn1
namespace Go.Ev
variable [GTab]
set_option linter.unusedSectionVars false

theorem allL_ok {α : Type} {p : α → Bool} : ∀ {l : List α}, allL p l = true → ∀ x, x ∈ l → p x = true
  | [], _, x, hx => by cases hx
  | y :: l, h, x, hx => by
    have h' : (Bool.rec false (allL p l) (p y) : Bool) = true := h
    cases e : p y <;> rw [e] at h'
    · cases h'
    · rcases List.mem_cons.1 hx with rfl | hx
      · exact e
      · exact allL_ok h' x hx

theorem memN_ok {i : Nat} : ∀ {l : List Nat}, memN i l = true → i ∈ l
  | [], h => by cases h
  | j :: l, h => by
    have h' : (Bool.rec (memN i l) true (Nat.beq j i) : Bool) = true := h
    cases e : Nat.beq j i <;> rw [e] at h'
    · exact List.mem_cons_of_mem _ (memN_ok h')
    · rw [Nat.eq_of_beq_eq_true e]; exact List.mem_cons_self ..

theorem bit_eq (m j : Nat) : bit m j = m.testBit j := by
  unfold bit
  have e : Nat.beq (Nat.mod (Nat.shiftRight m j) 2) 1 = decide (m >>> j % 2 = 1) := by
    by_cases h : m >>> j % 2 = 1
    · rw [decide_eq_true h]; have h2 : Nat.mod (Nat.shiftRight m j) 2 = 1 := h
      rw [h2]; rfl
    · rw [decide_eq_false h]
      cases q : Nat.beq (Nat.mod (Nat.shiftRight m j) 2) 1
      · rfl
      · exact (h (Nat.eq_of_beq_eq_true q)).elim
  rw [e, Nat.testBit, Nat.and_comm, Nat.and_one_is_mod]
  by_cases h : m >>> j % 2 = 1
  · rw [decide_eq_true h, h]; rfl
  · have : m >>> j % 2 = 0 := by omega
    rw [decide_eq_false h, this]; rfl

theorem maskOf_bit {as : List Nat} {j : Nat} : ∀ {es : List Edge}, bit (maskOf as es) j = true → ∃ e, e ∈ es ∧ Region.binds .any e = true ∧ (e.on = j ∨ bit (as.getD e.on 0) j = true)
  | [], h => by rw [bit_eq] at h; have : maskOf as [] = 0 := rfl; rw [this] at h; simp at h
  | e :: es, h => by
    have h' : bit (Bool.rec (maskOf as es) (Nat.lor (Nat.lor (Nat.shiftLeft 1 e.on) (as.getD e.on 0)) (maskOf as es)) (Region.binds .any e)) j = true := h
    cases q : Region.binds .any e <;> rw [q] at h'
    · obtain ⟨e', m, b, c⟩ := maskOf_bit h'
      exact ⟨e', List.mem_cons_of_mem _ m, b, c⟩
    · rw [bit_eq] at h'
      have h2 : ((1 <<< e.on ||| as.getD e.on 0) ||| maskOf as es).testBit j = true := h'
      rw [Nat.testBit_or, Nat.testBit_or, Bool.or_eq_true, Bool.or_eq_true] at h2
      rcases h2 with (h2 | h2) | h2
      · refine ⟨e, List.mem_cons_self .., q, .inl ?_⟩
        rw [Nat.one_shiftLeft, Nat.testBit_two_pow] at h2
        exact of_decide_eq_true h2
      · exact ⟨e, List.mem_cons_self .., q, .inr (by rw [bit_eq]; exact h2)⟩
      · obtain ⟨e', m, b, c⟩ := maskOf_bit (by rw [bit_eq]; exact h2)
        exact ⟨e', List.mem_cons_of_mem _ m, b, c⟩

theorem owners_ok {t : Nat} : ∀ {l : List Oper} {i j : Nat} {o : Oper}, l[j]? = some o → o.dst = some t → i + j ∈ owners l t i
  | [], i, j, o, h, _ => by simp at h
  | q :: l, i, 0, o, h, hd => by
    simp at h
    subst h
    unfold owners
    simp only [hd]
    have : Nat.beq t t = true := Nat.beq_refl t
    rw [this]
    exact List.mem_cons_self ..
  | q :: l, i, j + 1, o, h, hd => by
    simp at h
    have ih := owners_ok (i := i + 1) h hd
    have e : i + (j + 1) = i + 1 + j := by omega
    rw [e]
    unfold owners
    split
    · split
      · exact List.mem_cons_of_mem _ ih
      · exact ih
    · exact ih

/-- What is known of each operation. -/
structure OpsFact (nt : Nat) (ops : Array Oper) (as : List Nat) : Prop where
  dst : ∀ (i : Nat) (o : Oper), ops[i]? = some o → dstOK nt o.dst = true
  edge : ∀ (i : Nat) (o : Oper), ops[i]? = some o → ∀ e, e ∈ o.after.toList → Region.binds .any e = true → e.on < i
  ahead : ∀ (i : Nat) (o : Oper), ops[i]? = some o → ∀ j, bit (as.getD i 0) j = true → ∃ e, e ∈ o.after.toList ∧ Region.binds .any e = true ∧ (e.on = j ∨ bit (as.getD e.on 0) j = true)
  look : ∀ (i : Nat) (o : Oper), ops[i]? = some o → ∀ t, t ∈ looks ops o → ∀ (j : Nat) (q : Oper), ops[j]? = some q → q.dst = some t → bit (as.getD i 0) j = true
  uniq : ∀ (i j : Nat) (o q : Oper) (t : Nat), ops[i]? = some o → ops[j]? = some q → o.dst = some t → q.dst = some t → i = j
  grd : ∀ (i : Nat) (o : Oper) (g : Nat) (b : Bool), ops[i]? = some o → o.guard = some (g, b) → ∃ t, (ops[g]?).bind (·.dst) = some t

theorem opsOK_get {nt : Nat} {ops : Array Oper} {l : List Oper} {as : List Nat} : ∀ {r : List Oper} {k i : Nat} {o : Oper}, opsOK nt ops l as r k = true → r[i]? = some o → opOK nt ops l as (k + i) o = true
  | [], _, _, _, _, h => by simp at h
  | q :: r, k, i, o, h, hi => by
    unfold opsOK at h
    split at h <;> first | (cases h; done) | skip
    rename_i hq
    cases i with
    | zero => simp at hi; subst hi; exact hq
    | succ i =>
      simp at hi
      have := opsOK_get h hi
      have e : k + (i + 1) = k + 1 + i := by omega
      rw [e]; exact this

theorem opsOK_fact {nt : Nat} {ops : Array Oper} {as : List Nat} (h : opsOK nt ops ops.toList as ops.toList 0 = true) : OpsFact nt ops as := by
  have key : ∀ i o, ops[i]? = some o → opOK nt ops ops.toList as i o = true := fun i o hi => by
    have := opsOK_get h (i := i) (o := o) (by simpa using hi)
    simpa using this
  have parts : ∀ i o, ops[i]? = some o → dstOK nt o.dst = true ∧ as.getD i 0 = maskOf as o.after.toList ∧ allL (fun e => Bool.rec true (Nat.ble (Nat.succ e.on) i) (Region.binds .any e)) o.after.toList = true ∧
      allL (fun t => allL (fun j => bit (as.getD i 0) j) (owners ops.toList t 0)) (looks ops o) = true ∧ (∀ t, o.dst = some t → allL (fun j => Nat.beq j i) (owners ops.toList t 0) = true) ∧
      (∀ g b, o.guard = some (g, b) → ∃ t, (ops[g]?).bind (·.dst) = some t) := by
    intro i o hi
    have h1 := key i o hi
    unfold opOK at h1
    split at h1 <;> first | (cases h1; done) | skip
    rename_i a1 a2
    split at h1 <;> first | (cases h1; done) | skip
    rename_i a3 a4
    split at h1 <;> first | (cases h1; done) | skip
    rename_i a5
    refine ⟨a1, Nat.eq_of_beq_eq_true a2, a3, a4, fun t ht => ?_, fun g b hg => ?_⟩
    · rw [ht] at a5; exact a5
    · rw [hg] at h1
      simp only [] at h1
      split at h1 <;> first | (cases h1; done) | skip
      rename_i t ht
      exact ⟨_, ht⟩
  have own : ∀ j q t, ops[j]? = some q → q.dst = some t → j ∈ owners ops.toList t 0 := fun j q t hj hd => by
    have := owners_ok (t := t) (l := ops.toList) (i := 0) (j := j) (o := q) (by simpa using hj) hd
    simpa using this
  refine ⟨fun i o hi => (parts i o hi).1, ?_, ?_, ?_, ?_, fun i o g b hi hg => (parts i o hi).2.2.2.2.2 g b hg⟩
  · intro i o hi e he hb
    have := allL_ok (parts i o hi).2.2.1 e he
    rw [hb] at this
    exact Nat.le_of_ble_eq_true this
  · intro i o hi j hj
    rw [(parts i o hi).2.1] at hj
    exact maskOf_bit hj
  · intro i o hi t ht j q hj hq
    exact allL_ok (allL_ok (parts i o hi).2.2.2.1 t ht) j (own j q t hj hq)
  · intro i j o q t hi hj ho hq
    exact (Nat.eq_of_beq_eq_true (allL_ok ((parts i o hi).2.2.2.2.1 t ho) j (own j q t hj hq))).symm

/-- What freshOf says. -/
theorem freshOf_ok {ops : Array Oper} {past : List Nat} {i : Nat} {o : Oper} (h : freshOf ops past i o = true) : ∀ p, p ∈ past → p ≠ i ∧ ∃ q, ops[p]? = some q ∧ ∀ d, o.dst = some d → d ∉ looks ops q := by
  intro p hp
  have h1 := allL_ok h p hp
  split at h1 <;> first | (cases h1; done) | skip
  rename_i hne
  have ne : p ≠ i := fun e => by subst e; rw [Nat.beq_refl] at hne; cases hne
  split at h1 <;> first | (cases h1; done) | skip
  · rename_i d q hd hq
    refine ⟨ne, q, hq, fun d' hd' hm => ?_⟩
    rw [hd] at hd'
    cases hd'
    have := allL_ok h1 d hm
    simp only [Nat.beq_refl] at this
    cases this
  · rename_i q hd hq
    exact ⟨ne, q, hq, fun d' hd' => by rw [hd] at hd'; cases hd'⟩

theorem chkF_past {ops : Array Oper} : ∀ {l past past' : List Nat}, chkF ops l past = some past' → ∀ i, i ∈ past' ↔ (i ∈ past ∨ i ∈ l)
  | [], past, past', h, i => by cases h; simp
  | j :: l, past, past', h, i => by
    unfold chkF at h
    split at h <;> first | (cases h; done) | skip
    split at h <;> first | (cases h; done) | skip
    have := chkF_past h i
    rw [this]
    simp [or_assoc, or_comm, or_left_comm]

theorem chkF_fresh {ops : Array Oper} : ∀ {l past past' : List Nat}, chkF ops l past = some past' → ∀ p, p ∈ past → ∀ j, j ∈ l → p ≠ j ∧ ∃ q o, ops[p]? = some q ∧ ops[j]? = some o ∧ ∀ d, o.dst = some d → d ∉ looks ops q
  | [], _, _, _, _, _, j, hj => by cases hj
  | i :: l, past, past', h, p, hp, j, hj => by
    unfold chkF at h
    split at h <;> first | (cases h; done) | skip
    rename_i o ho
    split at h <;> first | (cases h; done) | skip
    rename_i hc hf
    rcases List.mem_cons.1 hj with rfl | hj
    · obtain ⟨h1, q, h2, h3⟩ := freshOf_ok hf p hp
      exact ⟨h1, q, o, h2, ho, h3⟩
    · exact chkF_fresh h p (List.mem_cons_of_mem _ hp) j hj

theorem chkF_cls {ops : Array Oper} : ∀ {l past past' : List Nat}, chkF ops l past = some past' → ∀ j, j ∈ l → ∃ o, ops[j]? = some o ∧ cls o.op ≠ 2
  | [], _, _, _, j, hj => by cases hj
  | i :: l, past, past', h, j, hj => by
    unfold chkF at h
    split at h <;> first | (cases h; done) | skip
    rename_i o ho
    split at h <;> first | (cases h; done) | skip
    rename_i hc hf
    rcases List.mem_cons.1 hj with rfl | hj
    · exact ⟨o, ho, fun e => by rw [e] at hc; cases hc⟩
    · exact chkF_cls h j hj

theorem OpsFact.lt {nt : Nat} {ops : Array Oper} {as : List Nat} (F : OpsFact nt ops as) : ∀ (i : Nat) (o : Oper), ops[i]? = some o → ∀ j, bit (as.getD i 0) j = true → j < i := by
  intro i
  induction i using Nat.strongRecOn with
  | _ i ih =>
    intro o hi j hj
    obtain ⟨e, he, hb, hc⟩ := F.ahead i o hi j hj
    have hlt := F.edge i o hi e he hb
    rcases hc with hc | hc
    · omega
    · have hsz : i < ops.size := (Array.getElem?_eq_some_iff.1 hi).1
      have := ih e.on hlt ops[e.on] (Array.getElem?_eq_getElem (by omega)) j hc
      omega

theorem OpsFact.own {nt : Nat} {ops : Array Oper} {as : List Nat} (F : OpsFact nt ops as) {i : Nat} {o : Oper} (hi : ops[i]? = some o) {d : Nat} (hd : o.dst = some d) : d ∉ looks ops o := by
  intro hm
  have := F.lt i o hi i (F.look i o hi d hm i o hi hd)
  omega

/-! ### What is looked at -/
theorem aev_congr {env env' : Env} {x : Operand} (h : ∀ t, x = .tmp t → t < 256 → get2 t env' = get2 t env) : aev env' x = aev env x := by
  cases x with
  | tmp t =>
    show (Bool.rec .und (get2 t env') (Nat.ble t 255) : AVal) = Bool.rec .und (get2 t env) (Nat.ble t 255)
    cases hb : Nat.ble t 255 with
    | false => rfl
    | true => exact h t rfl (Nat.lt_of_le_of_lt (Nat.le_of_ble_eq_true hb) (by decide))
  | const v => rfl
  | global g => rfl
  | func f => rfl

theorem look_congr {ops : Array Oper} {o : Oper} {env env' : Env} (h : ∀ t, t ∈ looks ops o → t < 256 → get2 t env' = get2 t env) :
    wantedA ops o.guard env' = wantedA ops o.guard env ∧ ∀ x ∈ o.op.operands, aev env' x = aev env x := by
  constructor
  · unfold wantedA
    cases hg : o.guard with
    | none => rfl
    | some p =>
      obtain ⟨g, b⟩ := p
      simp only []
      cases ht : (ops[g]?).bind (·.dst) with
      | none => rfl
      | some t =>
        simp only []
        cases hb : Nat.ble t 255 with
        | false => rfl
        | true =>
          simp only []
          rw [h t (by unfold looks; rw [hg]; simp only [ht]; simp) (Nat.lt_of_le_of_lt (Nat.le_of_ble_eq_true hb) (by decide))]
  · intro x hx
    refine aev_congr fun t e ht => h t ?_ ht
    subst e
    unfold looks
    exact List.mem_append_left _ (List.mem_filterMap.2 ⟨.tmp t, by simpa using hx, rfl⟩)

end Go.Ev
