/-
  Own work. Regions whose order is open. Part 2: what the plan's check says.
-/
import Derived.Test.YtdigeeejmgkcoaaGreatDoorEvDrawn1
import Derived.Orders
namespace Go.Ev
variable [GTab]
set_option linter.unusedSectionVars false

theorem allL_ok {α : Type} {p : α → Bool} : ∀ {l : List α}, allL p l = true → ∀ x, x ∈ l → p x = true
  | [], _, x, hx => by cases hx
  | y :: l, h, x, hx => by
    have h' : (Bool.rec false (allL p l) (p y) : Bool) = true := h
    cases e : p y <;> rw [e] at h'
    · cases h'
    · rcases List.mem_cons.1 hx with rfl | hx
      · exact e
      · exact allL_ok h' x hx

theorem memN_ok {i : Nat} : ∀ {l : List Nat}, memN i l = true → i ∈ l
  | [], h => by cases h
  | j :: l, h => by
    have h' : (Bool.rec (memN i l) true (Nat.beq j i) : Bool) = true := h
    cases e : Nat.beq j i <;> rw [e] at h'
    · exact List.mem_cons_of_mem _ (memN_ok h')
    · rw [Nat.eq_of_beq_eq_true e]; exact List.mem_cons_self ..

theorem bit_eq (m j : Nat) : bit m j = m.testBit j := by
  unfold bit
  have e : Nat.beq (Nat.mod (Nat.shiftRight m j) 2) 1 = decide (m >>> j % 2 = 1) := by
    by_cases h : m >>> j % 2 = 1
    · rw [decide_eq_true h]; have h2 : Nat.mod (Nat.shiftRight m j) 2 = 1 := h
      rw [h2]; rfl
    · rw [decide_eq_false h]
      cases q : Nat.beq (Nat.mod (Nat.shiftRight m j) 2) 1
      · rfl
      · exact (h (Nat.eq_of_beq_eq_true q)).elim
  rw [e, Nat.testBit, Nat.and_comm, Nat.and_one_is_mod]
  by_cases h : m >>> j % 2 = 1
  · rw [decide_eq_true h, h]; rfl
  · have : m >>> j % 2 = 0 := by omega
    rw [decide_eq_false h, this]; rfl

theorem maskOf_bit {as : List Nat} {j : Nat} : ∀ {es : List Edge}, bit (maskOf as es) j = true → ∃ e, e ∈ es ∧ Region.binds .any e = true ∧ (e.on = j ∨ bit (as.getD e.on 0) j = true)
  | [], h => by rw [bit_eq] at h; have : maskOf as [] = 0 := rfl; rw [this] at h; simp at h
  | e :: es, h => by
    have h' : bit (Bool.rec (maskOf as es) (Nat.lor (Nat.lor (Nat.shiftLeft 1 e.on) (as.getD e.on 0)) (maskOf as es)) (Region.binds .any e)) j = true := h
    cases q : Region.binds .any e <;> rw [q] at h'
    · obtain ⟨e', m, b, c⟩ := maskOf_bit h'
      exact ⟨e', List.mem_cons_of_mem _ m, b, c⟩
    · rw [bit_eq] at h'
      have h2 : ((1 <<< e.on ||| as.getD e.on 0) ||| maskOf as es).testBit j = true := h'
      rw [Nat.testBit_or, Nat.testBit_or, Bool.or_eq_true, Bool.or_eq_true] at h2
      rcases h2 with (h2 | h2) | h2
      · refine ⟨e, List.mem_cons_self .., q, .inl ?_⟩
        rw [Nat.one_shiftLeft, Nat.testBit_two_pow] at h2
        exact of_decide_eq_true h2
      · exact ⟨e, List.mem_cons_self .., q, .inr (by rw [bit_eq]; exact h2)⟩
      · obtain ⟨e', m, b, c⟩ := maskOf_bit (by rw [bit_eq]; exact h2)
        exact ⟨e', List.mem_cons_of_mem _ m, b, c⟩

theorem owners_ok {t : Nat} : ∀ {l : List Oper} {i j : Nat} {o : Oper}, l[j]? = some o → o.dst = some t → i + j ∈ owners l t i
  | [], i, j, o, h, _ => by simp at h
  | q :: l, i, 0, o, h, hd => by
    simp at h
    subst h
    unfold owners
    simp only [hd]
    have : Nat.beq t t = true := Nat.beq_refl t
    rw [this]
    exact List.mem_cons_self ..
  | q :: l, i, j + 1, o, h, hd => by
    simp at h
    have ih := owners_ok (i := i + 1) h hd
    have e : i + (j + 1) = i + 1 + j := by omega
    rw [e]
    unfold owners
    split
    · split
      · exact List.mem_cons_of_mem _ ih
      · exact ih
    · exact ih

/-- What is known of each operation. -/
structure OpsFact (nt : Nat) (ops : Array Oper) (as : List Nat) : Prop where
  dst : ∀ (i : Nat) (o : Oper), ops[i]? = some o → dstOK nt o.dst = true
  edge : ∀ (i : Nat) (o : Oper), ops[i]? = some o → ∀ e, e ∈ o.after.toList → Region.binds .any e = true → e.on < i
  ahead : ∀ (i : Nat) (o : Oper), ops[i]? = some o → ∀ j, bit (as.getD i 0) j = true → ∃ e, e ∈ o.after.toList ∧ Region.binds .any e = true ∧ (e.on = j ∨ bit (as.getD e.on 0) j = true)
  look : ∀ (i : Nat) (o : Oper), ops[i]? = some o → ∀ t, t ∈ looks ops o → ∀ (j : Nat) (q : Oper), ops[j]? = some q → q.dst = some t → bit (as.getD i 0) j = true
  uniq : ∀ (i j : Nat) (o q : Oper) (t : Nat), ops[i]? = some o → ops[j]? = some q → o.dst = some t → q.dst = some t → i = j
  grd : ∀ (i : Nat) (o : Oper) (g : Nat) (b : Bool), ops[i]? = some o → o.guard = some (g, b) → ∃ t, (ops[g]?).bind (·.dst) = some t

theorem opsOK_get {nt : Nat} {ops : Array Oper} {l : List Oper} {as : List Nat} : ∀ {r : List Oper} {k i : Nat} {o : Oper}, opsOK nt ops l as r k = true → r[i]? = some o → opOK nt ops l as (k + i) o = true
  | [], _, _, _, _, h => by simp at h
  | q :: r, k, i, o, h, hi => by
    unfold opsOK at h
    split at h <;> first | (cases h; done) | skip
    rename_i hq
    cases i with
    | zero => simp at hi; subst hi; exact hq
    | succ i =>
      simp at hi
      have := opsOK_get h hi
      have e : k + (i + 1) = k + 1 + i := by omega
      rw [e]; exact this

theorem opsOK_fact {nt : Nat} {ops : Array Oper} {as : List Nat} (h : opsOK nt ops ops.toList as ops.toList 0 = true) : OpsFact nt ops as := by
  have key : ∀ i o, ops[i]? = some o → opOK nt ops ops.toList as i o = true := fun i o hi => by
    have := opsOK_get h (i := i) (o := o) (by simpa using hi)
    simpa using this
  have parts : ∀ i o, ops[i]? = some o → dstOK nt o.dst = true ∧ as.getD i 0 = maskOf as o.after.toList ∧ allL (fun e => Bool.rec true (Nat.ble (Nat.succ e.on) i) (Region.binds .any e)) o.after.toList = true ∧
      allL (fun t => allL (fun j => bit (as.getD i 0) j) (owners ops.toList t 0)) (looks ops o) = true ∧ (∀ t, o.dst = some t → allL (fun j => Nat.beq j i) (owners ops.toList t 0) = true) ∧
      (∀ g b, o.guard = some (g, b) → ∃ t, (ops[g]?).bind (·.dst) = some t) := by
    intro i o hi
    have h1 := key i o hi
    unfold opOK at h1
    split at h1 <;> first | (cases h1; done) | skip
    rename_i a1 a2
    split at h1 <;> first | (cases h1; done) | skip
    rename_i a3 a4
    split at h1 <;> first | (cases h1; done) | skip
    rename_i a5
    refine ⟨a1, Nat.eq_of_beq_eq_true a2, a3, a4, fun t ht => ?_, fun g b hg => ?_⟩
    · rw [ht] at a5; exact a5
    · rw [hg] at h1
      simp only [] at h1
      split at h1 <;> first | (cases h1; done) | skip
      rename_i t ht
      exact ⟨_, ht⟩
  have own : ∀ j q t, ops[j]? = some q → q.dst = some t → j ∈ owners ops.toList t 0 := fun j q t hj hd => by
    have := owners_ok (t := t) (l := ops.toList) (i := 0) (j := j) (o := q) (by simpa using hj) hd
    simpa using this
  refine ⟨fun i o hi => (parts i o hi).1, ?_, ?_, ?_, ?_, fun i o g b hi hg => (parts i o hi).2.2.2.2.2 g b hg⟩
  · intro i o hi e he hb
    have := allL_ok (parts i o hi).2.2.1 e he
    rw [hb] at this
    exact Nat.le_of_ble_eq_true this
  · intro i o hi j hj
    rw [(parts i o hi).2.1] at hj
    exact maskOf_bit hj
  · intro i o hi t ht j q hj hq
    exact allL_ok (allL_ok (parts i o hi).2.2.2.1 t ht) j (own j q t hj hq)
  · intro i j o q t hi hj ho hq
    exact (Nat.eq_of_beq_eq_true (allL_ok ((parts i o hi).2.2.2.2.1 t ho) j (own j q t hj hq))).symm

/-- What freshOf says. -/
theorem freshOf_ok {ops : Array Oper} {past : List Nat} {i : Nat} {o : Oper} (h : freshOf ops past i o = true) : ∀ p, p ∈ past → p ≠ i ∧ ∃ q, ops[p]? = some q ∧ ∀ d, o.dst = some d → d ∉ looks ops q := by
  intro p hp
  have h1 := allL_ok h p hp
  split at h1 <;> first | (cases h1; done) | skip
  rename_i hne
  have ne : p ≠ i := fun e => by subst e; rw [Nat.beq_refl] at hne; cases hne
  split at h1 <;> first | (cases h1; done) | skip
  · rename_i d q hd hq
    refine ⟨ne, q, hq, fun d' hd' hm => ?_⟩
    rw [hd] at hd'
    cases hd'
    have := allL_ok h1 d hm
    simp only [Nat.beq_refl] at this
    cases this
  · rename_i q hd hq
    exact ⟨ne, q, hq, fun d' hd' => by rw [hd] at hd'; cases hd'⟩

theorem chkF_past {ops : Array Oper} : ∀ {l past past' : List Nat}, chkF ops l past = some past' → ∀ i, i ∈ past' ↔ (i ∈ past ∨ i ∈ l)
  | [], past, past', h, i => by cases h; simp
  | j :: l, past, past', h, i => by
    unfold chkF at h
    split at h <;> first | (cases h; done) | skip
    split at h <;> first | (cases h; done) | skip
    have := chkF_past h i
    rw [this]
    simp [or_assoc, or_comm, or_left_comm]

theorem chkF_fresh {ops : Array Oper} : ∀ {l past past' : List Nat}, chkF ops l past = some past' → ∀ p, p ∈ past → ∀ j, j ∈ l → p ≠ j ∧ ∃ q o, ops[p]? = some q ∧ ops[j]? = some o ∧ ∀ d, o.dst = some d → d ∉ looks ops q
  | [], _, _, _, _, _, j, hj => by cases hj
  | i :: l, past, past', h, p, hp, j, hj => by
    unfold chkF at h
    split at h <;> first | (cases h; done) | skip
    rename_i o ho
    split at h <;> first | (cases h; done) | skip
    rename_i hc hf
    rcases List.mem_cons.1 hj with rfl | hj
    · obtain ⟨h1, q, h2, h3⟩ := freshOf_ok hf p hp
      exact ⟨h1, q, o, h2, ho, h3⟩
    · exact chkF_fresh h p (List.mem_cons_of_mem _ hp) j hj

theorem chkF_cls {ops : Array Oper} : ∀ {l past past' : List Nat}, chkF ops l past = some past' → ∀ j, j ∈ l → ∃ o, ops[j]? = some o ∧ cls o.op ≠ 2
  | [], _, _, _, j, hj => by cases hj
  | i :: l, past, past', h, j, hj => by
    unfold chkF at h
    split at h <;> first | (cases h; done) | skip
    rename_i o ho
    split at h <;> first | (cases h; done) | skip
    rename_i hc hf
    rcases List.mem_cons.1 hj with rfl | hj
    · exact ⟨o, ho, fun e => by rw [e] at hc; cases hc⟩
    · exact chkF_cls h j hj

theorem OpsFact.lt {nt : Nat} {ops : Array Oper} {as : List Nat} (F : OpsFact nt ops as) : ∀ (i : Nat) (o : Oper), ops[i]? = some o → ∀ j, bit (as.getD i 0) j = true → j < i := by
  intro i
  induction i using Nat.strongRecOn with
  | _ i ih =>
    intro o hi j hj
    obtain ⟨e, he, hb, hc⟩ := F.ahead i o hi j hj
    have hlt := F.edge i o hi e he hb
    rcases hc with hc | hc
    · omega
    · have hsz : i < ops.size := (Array.getElem?_eq_some_iff.1 hi).1
      have := ih e.on hlt ops[e.on] (Array.getElem?_eq_getElem (by omega)) j hc
      omega

theorem OpsFact.own {nt : Nat} {ops : Array Oper} {as : List Nat} (F : OpsFact nt ops as) {i : Nat} {o : Oper} (hi : ops[i]? = some o) {d : Nat} (hd : o.dst = some d) : d ∉ looks ops o := by
  intro hm
  have := F.lt i o hi i (F.look i o hi d hm i o hi hd)
  omega

/-! ### What is looked at -/
theorem aev_congr {env env' : Env} {x : Operand} (h : ∀ t, x = .tmp t → t < 256 → get2 t env' = get2 t env) : aev env' x = aev env x := by
  cases x with
  | tmp t =>
    show (Bool.rec .und (get2 t env') (Nat.ble t 255) : AVal) = Bool.rec .und (get2 t env) (Nat.ble t 255)
    cases hb : Nat.ble t 255 with
    | false => rfl
    | true => exact h t rfl (Nat.lt_of_le_of_lt (Nat.le_of_ble_eq_true hb) (by decide))
  | const v => rfl
  | global g => rfl
  | func f => rfl

theorem look_congr {ops : Array Oper} {o : Oper} {env env' : Env} (h : ∀ t, t ∈ looks ops o → t < 256 → get2 t env' = get2 t env) :
    wantedA ops o.guard env' = wantedA ops o.guard env ∧ ∀ x ∈ o.op.operands, aev env' x = aev env x := by
  constructor
  · unfold wantedA
    cases hg : o.guard with
    | none => rfl
    | some p =>
      obtain ⟨g, b⟩ := p
      simp only []
      cases ht : (ops[g]?).bind (·.dst) with
      | none => rfl
      | some t =>
        simp only []
        cases hb : Nat.ble t 255 with
        | false => rfl
        | true =>
          simp only []
          rw [h t (by unfold looks; rw [hg]; simp only [ht]; simp) (Nat.lt_of_le_of_lt (Nat.le_of_ble_eq_true hb) (by decide))]
  · intro x hx
    refine aev_congr fun t e ht => h t ?_ ht
    subst e
    unfold looks
    exact List.mem_append_left _ (List.mem_filterMap.2 ⟨.tmp t, by simpa using hx, rfl⟩)

end Go.Ev

namespace Go.Ev
variable [GTab]
set_option linter.unusedSectionVars false

/-- One that makes a block: the block lies in the state, the result among the temporaries. -/
def Fl1 (P : Program) (ops : Array Oper) (res : Nat) (env : Env) (H : Heap) (i : Nat) (o : Oper) : Prop :=
  (wantedA ops o.guard env = some false ∧ ∀ d, o.dst = some d → get2 d env = .tuple []) ∨
  (wantedA ops o.guard env = some true ∧ ∃ m, made P o.op (aev env) = some m ∧ m.n ≤ 4096 ∧ get5 (res + i) H = some (.cells m.n (CT.ofL m.n m.l) [] false) ∧ ∀ d, o.dst = some d → get2 d env = m.v (res + i))

theorem Fl1.keep {P : Program} {ops : Array Oper} {res : Nat} {env env' : Env} {H H' : Heap} {i : Nat} {o : Oper} (h : Fl1 P ops res env H i o) (hl : ∀ t, t ∈ looks ops o → t < 256 → get2 t env' = get2 t env)
    (hd : ∀ d, o.dst = some d → get2 d env' = get2 d env) (hH : get5 (res + i) H' = get5 (res + i) H) : Fl1 P ops res env' H' i o := by
  obtain ⟨e1, e2⟩ := look_congr hl
  rcases h with ⟨h1, h2⟩ | ⟨h1, m, h2, h3, h4, h5⟩
  · exact .inl ⟨e1.trans h1, fun d hd' => (hd d hd').trans (h2 d hd')⟩
  · exact .inr ⟨e1.trans h1, m, (made_congr e2).trans h2, h3, hH.trans h4, fun d hd' => (hd d hd').trans (h5 d hd')⟩

/-- One that only reads: its result lies among the temporaries. -/
def Fl0 (P : Program) (ops : Array Oper) (env : Env) (H : Heap) (nx : Nat) (o : Oper) : Prop :=
  (wantedA ops o.guard env = some false ∧ ∀ d, o.dst = some d → get2 d env = .tuple []) ∨
  (wantedA ops o.guard env = some true ∧ ∃ v, aop P o (aev env) H nx = some (.val v H nx) ∧ ∀ d, o.dst = some d → get2 d env = v)

theorem again1_fl0 {P : Program} {ops : Array Oper} {env : Env} {H : Heap} {nx : Nat} {o : Oper} (hc : cls o.op = 0) (h : again1 P ops env H nx o = true) : Fl0 P ops env H nx o := by
  unfold again1 at h
  split at h <;> first | (cases h; done) | skip
  · rename_i hw
    split at h <;> first | (cases h; done) | skip
    rename_i v H1 nx1 hop
    obtain ⟨rfl, rfl⟩ := cls0_heap hc hop
    refine .inr ⟨hw, v, hop, fun d hd => ?_⟩
    rw [hd] at h
    exact (beqA_ok _ _ _ h).symm
  · rename_i hw
    refine .inl ⟨hw, fun d hd => ?_⟩
    rw [hd] at h
    simp only [] at h
    split at h <;> first | (cases h; done) | assumption

/-- What does not read memory comes to the same over another. -/
theorem pure_heap {P : Program} {o : Oper} {ρ : Operand → AVal} {H H' : Heap} {nx nx' : Nat} {v : AVal} (hc : cls o.op = 0) (hp : impure o.op = false) (h : aop P o ρ H nx = some (.val v H nx)) : aop P o ρ H' nx' = some (.val v H' nx') := by
  unfold aop at h ⊢
  cases hop : o.op <;> rw [hop] at h hc hp <;> simp only [] at h ⊢ <;> first | (cases hc; done) | (cases hp; done) | skip
  case move => unfold opMove at h ⊢; cases h; rfl
  case assign => unfold opMove at h ⊢; cases h; rfl
  case call c =>
    simp only [cls] at hc
    unfold opCall at h ⊢
    cases hce : c.callee with
    | value f => rw [hce] at hc; cases hc
    | invoke r m => rw [hce] at hc; cases hc
    | builtin b =>
      rw [hce] at hc h
      cases b <;> simp only [] at hc h ⊢ <;> first | (cases hc; done) | skip
      all_goals
        unfold opBuiltin0 at h ⊢
        try simp only [forceI_eq] at h ⊢
        split at h <;> first | (cases h; done) | skip
        all_goals (repeat' (split at h)) <;> first | (cases h; done) | (cases h; simp only [*]; done) | (cases h; simp [*]; done)
  all_goals first
    | (have h' : opFail ρ H nx = some (.val v H nx) := h; cases h'; done)
    | (unfold opPick at h ⊢) | (unfold opNilCheck at h ⊢) | (unfold opUn at h ⊢) | (unfold opConv at h ⊢) | (unfold opMakeInterface at h ⊢) | (unfold opMakeFunc at h ⊢; cases h; rfl; done)
    | (unfold opFieldAddr at h ⊢) | (unfold opField at h ⊢) | (unfold opIndexAddr at h ⊢) | (unfold opIndex at h ⊢) | (unfold opAssert at h ⊢) | (unfold opExtract at h ⊢) | (unfold opBuild at h ⊢) | (unfold opBin at h ⊢)
  all_goals try simp only [forceI_eq, forceN_eq] at h ⊢
  all_goals (repeat' (split at h)) <;> first | (cases h; done) | (cases h; simp only [*]; done) | (cases h; simp [*]; done) | skip

theorem Fl0.keep {P : Program} {ops : Array Oper} {env env' : Env} {H H' : Heap} {nx nx' : Nat} {o : Oper} (hc : cls o.op = 0) (hp : impure o.op = false) (h : Fl0 P ops env H nx o) (hl : ∀ t, t ∈ looks ops o → t < 256 → get2 t env' = get2 t env)
    (hd : ∀ d, o.dst = some d → get2 d env' = get2 d env) : Fl0 P ops env' H' nx' o := by
  obtain ⟨e1, e2⟩ := look_congr hl
  rcases h with ⟨h1, h2⟩ | ⟨h1, v, h2, h3⟩
  · exact .inl ⟨e1.trans h1, fun d hd' => (hd d hd').trans (h2 d hd')⟩
  · exact .inr ⟨e1.trans h1, v, (aop_congr e2).trans (pure_heap hc hp h2), fun d hd' => (hd d hd').trans (h3 d hd')⟩

theorem get2_put' {d : Option Nat} {v : AVal} {env : Env} {nt t : Nat} (hd : dstOK nt d = true) (hn : nt ≤ 256) (ht : t < 256) (hne : d ≠ some t) : get2 t (put d v env) = get2 t env := by
  cases d with
  | none => rfl
  | some d =>
    have h1 : d < nt := Nat.le_of_ble_eq_true hd
    show get2 t (set2 d v env) = _
    rw [get2_put (by omega) ht, if_neg (fun e => hne (by rw [e]))]

theorem get2_put_same {d : Nat} {v : AVal} {env : Env} : get2 d (put (some d) v env) = v := by
  show get2 d (set2 d v env) = v
  rw [get2_set2_same]

theorem floatK_ok {P : Program} {nt : Nat} {ops : Array Oper} {as : List Nat} {res nx : Nat} {k : Env → Heap → Bool} {o : Oper} {i : Nat} {env : Env} {H : Heap} (F : OpsFact nt ops as) (hn : nt ≤ 256) (hlim : res + ops.size ≤ 1048576)
    (hi : ops[i]? = some o) (h : floatK P ops res o i env H nx k = true) :
    ∃ env' H', k env' H' = true ∧ (∀ t, t < 256 → o.dst ≠ some t → get2 t env' = get2 t env) ∧ (∀ b, b < 1048576 → b ≠ res + i → get5 b H' = get5 b H) ∧
      (∀ σ w, Rel σ H nx w → σ (res + i) = none → Rel σ H' nx w) ∧ (cls o.op = 1 → Fl1 P ops res env' H' i o) ∧ (cls o.op = 0 → impure o.op = false → Fl0 P ops env' H' nx o) := by
  have hd := F.dst i o hi
  have hsz : i < ops.size := (Array.getElem?_eq_some_iff.1 hi).1
  have looks_same : ∀ v t, t ∈ looks ops o → t < 256 → get2 t (put o.dst v env) = get2 t env := fun v t ht hlt => get2_put' hd hn hlt (fun e => F.own hi e ht)
  unfold floatK at h
  split at h <;> first | (cases h; done) | skip
  · rename_i hw
    split at h
    · rename_i hc
      split at h <;> first | (cases h; done) | skip
      rename_i m hm
      split at h <;> first | (cases h; done) | skip
      rename_i h4
      rw [forceN_eq] at h
      refine ⟨_, _, h, fun t ht hne => get2_put' hd hn ht hne, ?_, ?_, fun _ => ?_, fun e => by rw [e] at hc; cases hc⟩
      · intro b hb hne
        exact get5_ne (fun e => hne e.symm) (show res + i < 1048576 by omega) hb
      · intro σ w hr hp
        exact hr.pend hp (Nat.le_refl _) hr.lim (by show res + i < 1048576; omega)
      · obtain ⟨e1, e2⟩ := look_congr (looks_same (m.v (Nat.add res i)))
        refine .inr ⟨e1.trans hw, m, (made_congr e2).trans hm, Nat.le_of_ble_eq_true h4, get5_set5_same .., fun d hd' => ?_⟩
        rw [hd']; exact get2_put_same
    · rename_i hc
      split at h <;> first | (cases h; done) | skip
      rename_i v H1 nx1 hop
      refine ⟨_, _, h, fun t ht hne => get2_put' hd hn ht hne, fun _ _ _ => rfl, fun _ _ hr _ => hr, fun e => ?_, fun hc0 hp => ?_⟩
      · rw [e] at hc; cases hc
      · obtain ⟨rfl, rfl⟩ := cls0_heap hc0 hop
        obtain ⟨e1, e2⟩ := look_congr (looks_same v)
        refine .inr ⟨e1.trans hw, v, (aop_congr e2).trans hop, fun d hd' => ?_⟩
        rw [hd']; exact get2_put_same
  · rename_i hw
    obtain ⟨e1, e2⟩ := look_congr (looks_same (.tuple []))
    refine ⟨_, _, h, fun t ht hne => get2_put' hd hn ht hne, fun _ _ _ => rfl, fun _ _ hr _ => hr, fun _ => ?_, fun _ _ => ?_⟩
    · refine .inl ⟨e1.trans hw, fun d hd' => ?_⟩
      rw [hd']; exact get2_put_same
    · refine .inl ⟨e1.trans hw, fun d hd' => ?_⟩
      rw [hd']; exact get2_put_same

theorem floatsK_ok {P : Program} {nt : Nat} {ops : Array Oper} {as : List Nat} {res nx : Nat} {k : Env → Heap → Bool} (F : OpsFact nt ops as) (hn : nt ≤ 256) (hlim : res + ops.size ≤ 1048576) :
    ∀ (l past past' : List Nat) (env : Env) (H : Heap), chkF ops l past = some past' → floatsK P ops res nx k l env H = true →
      ∃ env' H', k env' H' = true ∧ (∀ t, t < 256 → (∀ (j : Nat) (q : Oper), j ∈ l → ops[j]? = some q → q.dst ≠ some t) → get2 t env' = get2 t env) ∧ (∀ b, b < 1048576 → (∀ j, j ∈ l → b ≠ res + j) → get5 b H' = get5 b H) ∧
        (∀ σ w, Rel σ H nx w → (∀ j, j ∈ l → σ (res + j) = none) → Rel σ H' nx w) ∧ (∀ (i : Nat) (q : Oper), i ∈ l → ops[i]? = some q → cls q.op = 1 → Fl1 P ops res env' H' i q) ∧
        (∀ (i : Nat) (q : Oper), i ∈ l → ops[i]? = some q → cls q.op = 0 → impure q.op = false → Fl0 P ops env' H' nx q)
  | [], _, _, env, H, _, h => ⟨env, H, h, fun _ _ _ => rfl, fun _ _ _ => rfl, fun _ _ hr _ => hr, (fun i q hi => by cases hi), fun i q hi => by cases hi⟩
  | i :: l, past, past', env, H, hc, h => by
    have h' : (match ops[i]? with | some o => floatK P ops res o i env H nx (floatsK P ops res nx k l) | none => false) = true := h
    unfold chkF at hc
    split at hc <;> first | (cases hc; done) | skip
    rename_i o ho
    split at hc <;> first | (cases hc; done) | skip
    rw [ho] at h'
    simp only [] at h'
    obtain ⟨env1, H1, hk, a1, a2, a3, a4, a5⟩ := floatK_ok F hn hlim ho h'
    obtain ⟨env2, H2, hk2, b1, b2, b3, b4, b5⟩ := floatsK_ok F hn hlim l _ past' env1 H1 hc hk
    have hsz : i < ops.size := (Array.getElem?_eq_some_iff.1 ho).1
    have fr := chkF_fresh hc i (List.mem_cons_self ..)
    refine ⟨env2, H2, hk2, ?_, ?_, ?_, ?_, ?_⟩
    · intro t ht hne
      rw [b1 t ht (fun j q hj hq => hne j q (List.mem_cons_of_mem _ hj) hq), a1 t ht (hne i o (List.mem_cons_self ..) ho)]
    · intro b hb hne
      rw [b2 b hb (fun j hj => hne j (List.mem_cons_of_mem _ hj)), a2 b hb (hne i (List.mem_cons_self ..))]
    · intro σ w hr hp
      exact b3 σ w (a3 σ w hr (hp i (List.mem_cons_self ..))) fun j hj => hp j (List.mem_cons_of_mem _ hj)
    · intro j q hj hq hcl
      rcases List.mem_cons.1 hj with rfl | hj
      · rw [ho] at hq
        cases hq
        refine (a4 hcl).keep ?_ ?_ ?_
        · intro t ht hlt
          refine b1 t hlt fun j' q' hj' hq' e => ?_
          obtain ⟨_, q0, o0, e1, e2, e3⟩ := fr j' hj'
          rw [ho] at e1; cases e1
          rw [hq'] at e2; cases e2
          exact e3 t e ht
        · intro d hd
          have hdl : d < nt := by have := F.dst j o ho; rw [hd] at this; exact Nat.le_of_ble_eq_true this
          refine b1 d (Nat.lt_of_lt_of_le hdl hn) fun j' q' hj' hq' e => ?_
          exact (fr j' hj').1 (F.uniq j j' o q' d ho hq' hd e)
        · exact b2 _ (by omega) fun j' hj' e => (fr j' hj').1 (by omega)
      · exact b4 j q hj hq hcl
    · intro j q hj hq hcl hp
      rcases List.mem_cons.1 hj with rfl | hj
      · rw [ho] at hq
        cases hq
        refine (a5 hcl hp).keep hcl hp ?_ ?_
        · intro t ht hlt
          refine b1 t hlt fun j' q' hj' hq' e => ?_
          obtain ⟨_, q0, o0, e1, e2, e3⟩ := fr j' hj'
          rw [ho] at e1; cases e1
          rw [hq'] at e2; cases e2
          exact e3 t e ht
        · intro d hd
          have hdl : d < nt := by have := F.dst j o ho; rw [hd] at this; exact Nat.le_of_ble_eq_true this
          refine b1 d (Nat.lt_of_lt_of_le hdl hn) fun j' q' hj' hq' e => ?_
          exact (fr j' hj').1 (F.uniq j j' o q' d ho hq' hd e)
      · exact b5 j q hj hq hcl hp

end Go.Ev

namespace Go.Ev
variable [GTab]
set_option linter.unusedSectionVars false

abbrev Stage := Nat × List Nat × List Nat

def isL (listed : Array Bool) (i : Nat) : Prop := listed.getD i false = true

structure Inv (P : Program) (nt : Nat) (ops : Array Oper) (as : List Nat) (res : Nat) (σ0 : Sg) (H0 : Heap) (w0 : World) (dfs : Dfs) (past : List Nat) (rest : List Stage) (env : Env) (H : Heap) (nx : Nat) (listed : Array Bool) (σ : Sg) (w : World) (a : Act) : Prop where
  size : listed.size = ops.size
  tsize : a.tmps.size = nt
  closed : ∀ i j, isL listed i → bit (as.getD i 0) j = true → isL listed j
  todo : ∀ i, i ∈ named rest → ¬ isL listed i
  all : ∀ i, i < ops.size → i ∈ past ∨ i ∈ named rest ∨ isL listed i
  den : ∀ t, t < 256 → (∀ (j : Nat) (q : Oper), ops[j]? = some q → q.dst = some t → isL listed j) → Den σ (get2 t env) (a.tmps.getD t undef)
  fl0 : ∀ (i : Nat) (q : Oper), i ∈ past → ops[i]? = some q → ¬ isL listed i → cls q.op = 0 → Fl0 P ops env H nx q
  fl1 : ∀ (i : Nat) (q : Oper), i ∈ past → ops[i]? = some q → ¬ isL listed i → cls q.op = 1 → Fl1 P ops res env H i q
  pend : ∀ i, i < ops.size → ¬ isL listed i → σ (res + i) = none
  lim : res + ops.size ≤ nx
  rel : Rel σ H nx w
  ext : Ext σ0 σ H0 H res nx w0 w
  dfs : DfsRel σ dfs a.defers

theorem mask_env (p : Nat → Prop) (env : Env) : ∃ env', ∀ t, t < 256 → (p t → get2 t env' = get2 t env) ∧ (¬ p t → get2 t env' = .und) := by
  have key : ∀ n, n ≤ 256 → ∃ env', ∀ t, t < 256 → ((p t ∨ n ≤ t) → get2 t env' = get2 t env) ∧ ((¬ p t ∧ t < n) → get2 t env' = .und) := by
    intro n
    induction n with
    | zero => exact fun _ => ⟨env, fun t _ => ⟨fun _ => rfl, fun h => by omega⟩⟩
    | succ n ih =>
      intro hn
      obtain ⟨e, he⟩ := ih (by omega)
      by_cases hp : p n
      · refine ⟨e, fun t ht => ⟨fun h => (he t ht).1 ?_, fun h => (he t ht).2 ⟨h.1, ?_⟩⟩⟩
        · rcases h with h | h
          · exact .inl h
          · exact .inr (by omega)
        · have : t ≠ n := fun q => h.1 (q ▸ hp)
          omega
      · refine ⟨set2 n .und e, fun t ht => ⟨fun h => ?_, fun h => ?_⟩⟩
        · have hne : n ≠ t := fun q => by
            rcases h with h | h
            · exact hp (q ▸ h)
            · omega
          rw [get2_put (by omega) ht, if_neg hne]
          refine (he t ht).1 ?_
          rcases h with h | h
          · exact .inl h
          · exact .inr (by omega)
        · rw [get2_put (by omega) ht]
          by_cases q : n = t
          · rw [if_pos q]
          · rw [if_neg q]; exact (he t ht).2 ⟨h.1, by omega⟩
  obtain ⟨e, he⟩ := key 256 (Nat.le_refl _)
  exact ⟨e, fun t ht => ⟨fun h => (he t ht).1 (.inl h), fun h => (he t ht).2 ⟨h, ht⟩⟩⟩

theorem isL_set {listed : Array Bool} {i j : Nat} (hi : i < listed.size) : isL (listed.setIfInBounds i true) j ↔ (j = i ∨ isL listed j) := by
  unfold isL
  by_cases e : i = j
  · subst e; simp [hi]
  · simp only [Array.getD_eq_getD_getElem?, Array.getElem?_setIfInBounds_ne e]
    constructor
    · exact fun h => .inr h
    · rintro (h | h)
      · exact (e h.symm).elim
      · exact h

/-- The view of the temporaries in which only what has come up is known. -/
theorem Inv.view {P : Program} {nt : Nat} {ops : Array Oper} {as : List Nat} {res : Nat} {σ0 : Sg} {H0 : Heap} {w0 : World} {dfs : Dfs} {past : List Nat} {rest : List Stage} {env : Env} {H : Heap} {nx : Nat} {listed : Array Bool} {σ : Sg} {w : World} {a : Act}
    (F : OpsFact nt ops as) (hn : nt ≤ 256) (I : Inv P nt ops as res σ0 H0 w0 dfs past rest env H nx listed σ w a) {i : Nat} {o : Oper} (hi : ops[i]? = some o) (hr : ∀ j, bit (as.getD i 0) j = true → isL listed j) :
    ∃ envm, EnvRel σ nt envm a.tmps ∧ wantedA ops o.guard envm = wantedA ops o.guard env ∧ ∀ x ∈ o.op.operands, aev envm x = aev env x := by
  obtain ⟨envm, hm⟩ := mask_env (fun t => ∀ (j : Nat) (q : Oper), ops[j]? = some q → q.dst = some t → isL listed j) env
  refine ⟨envm, ⟨I.tsize, hn, fun t ht => ?_⟩, look_congr fun t ht hlt => (hm t hlt).1 fun j q hj hq => hr j (F.look i o hi t ht j q hj hq)⟩
  by_cases hp : ∀ (j : Nat) (q : Oper), ops[j]? = some q → q.dst = some t → isL listed j
  · rw [(hm t ht).1 hp]; exact I.den t ht hp
  · rw [(hm t ht).2 hp]; exact .und _

/-- One more has come up, that does not act; its result is what the state says. -/
theorem Inv.next {P : Program} {nt : Nat} {ops : Array Oper} {as : List Nat} {res : Nat} {σ0 : Sg} {H0 : Heap} {w0 : World} {dfs : Dfs} {past : List Nat} {rest : List Stage} {env : Env} {H : Heap} {nx : Nat} {listed : Array Bool} {σ : Sg} {w : World} {a : Act}
    (F : OpsFact nt ops as) (I : Inv P nt ops as res σ0 H0 w0 dfs past rest env H nx listed σ w a) {i : Nat} {o : Oper} (hi : ops[i]? = some o) (hr : ∀ j, bit (as.getD i 0) j = true → isL listed j) (hrest : i ∉ named rest)
    {σ1 : Sg} {w1 : World} {v' : Value} (sub : ∀ b p, σ b = some p → σ1 b = some p) (R : Rel σ1 H nx w1) (E : Ext σ0 σ1 H0 H res nx w0 w1) (hp : ∀ j, j < ops.size → j ≠ i → σ (res + j) = none → σ1 (res + j) = none)
    (hv : ∀ d, o.dst = some d → Den σ1 (get2 d env) v') : Inv P nt ops as res σ0 H0 w0 dfs past rest env H nx (listed.setIfInBounds i true) σ1 w1 (a.put o.dst v') := by
  have hlt : i < ops.size := (Array.getElem?_eq_some_iff.1 hi).1
  have S : ∀ j, isL (listed.setIfInBounds i true) j ↔ (j = i ∨ isL listed j) := fun j => isL_set (by rw [I.size]; exact hlt)
  have hd := F.dst i o hi
  refine ⟨by rw [Array.size_setIfInBounds]; exact I.size, ?_, ?_, ?_, ?_, ?_, ?_, ?_, ?_, I.lim, R, E, ?_⟩
  · cases hdst : o.dst with
    | none => exact I.tsize
    | some d => show (a.tmps.setIfInBounds d v').size = nt; rw [Array.size_setIfInBounds]; exact I.tsize
  · intro j k hj hb
    rw [S] at hj ⊢
    rcases hj with rfl | hj
    · exact .inr (hr k hb)
    · exact .inr (I.closed j k hj hb)
  · intro j hj hl
    rw [S] at hl
    rcases hl with rfl | hl
    · exact hrest hj
    · exact I.todo j hj hl
  · intro j hj
    rw [S]
    rcases I.all j hj with h | h | h
    · exact .inl h
    · exact .inr (.inl h)
    · exact .inr (.inr (.inr h))
  · intro t ht hown
    by_cases e : o.dst = some t
    · rw [e]
      show Den σ1 (get2 t env) ((a.tmps.setIfInBounds t v').getD t undef)
      have : t < a.tmps.size := by rw [I.tsize]; rw [e] at hd; exact Nat.le_of_ble_eq_true hd
      rw [getD_put _ _ _ _ this, if_pos rfl]
      exact hv t e
    · have h1 : (a.put o.dst v').tmps.getD t undef = a.tmps.getD t undef := by
        cases hdst : o.dst with
        | none => rfl
        | some d =>
          show (a.tmps.setIfInBounds d v').getD t undef = _
          have : d < a.tmps.size := by rw [I.tsize]; rw [hdst] at hd; exact Nat.le_of_ble_eq_true hd
          rw [getD_put _ _ _ _ this, if_neg (fun q => e (by rw [hdst, q]))]
      rw [h1]
      refine (I.den t ht fun j q hj hq => ?_).mono sub
      have := hown j q hj hq
      rw [S] at this
      rcases this with rfl | h
      · rw [hi] at hj; cases hj; exact (e hq).elim
      · exact h
  · intro j q hj hq hl
    exact I.fl0 j q hj hq (fun h => hl ((S j).2 (.inr h)))
  · intro j q hj hq hl
    exact I.fl1 j q hj hq (fun h => hl ((S j).2 (.inr h)))
  · intro j hj hl
    exact hp j hj (fun e => hl ((S j).2 (.inl e))) (I.pend j hj (fun h => hl ((S j).2 (.inr h))))
  · have : (a.put o.dst v').defers = a.defers := by cases o.dst <;> rfl
    rw [this]; exact I.dfs.mono sub

/-- One that does not act is taken. -/
theorem Inv.float {P : Program} {nt : Nat} {ops : Array Oper} {as : List Nat} {res : Nat} {σ0 : Sg} {H0 : Heap} {w0 : World} {dfs : Dfs} {past : List Nat} {rest : List Stage} {env : Env} {H : Heap} {nx : Nat} {listed : Array Bool} {σ : Sg} {w : World} {a : Act}
    (F : OpsFact nt ops as) (hn : nt ≤ 256) (I : Inv P nt ops as res σ0 H0 w0 dfs past rest env H nx listed σ w a) {i : Nat} {o : Oper} (hi : ops[i]? = some o) (hpast : i ∈ past) (hnl : ¬ isL listed i) (hcls : cls o.op = 0 ∨ cls o.op = 1)
    (hr : ∀ j, bit (as.getD i 0) j = true → isL listed j) (hrest : i ∉ named rest) {Q : Exit → Act → World → Prop} {K : Act → World → Prop}
    (hK : ∀ σ1 w1 a1, Inv P nt ops as res σ0 H0 w0 dfs past rest env H nx (listed.setIfInBounds i true) σ1 w1 a1 → K a1 w1) : wpOp P ops Q i K a w := by
  have hlt : i < ops.size := (Array.getElem?_eq_some_iff.1 hi).1
  obtain ⟨envm, M, hw, hx⟩ := I.view F hn hi hr
  unfold wpOp
  rw [hi]
  simp only []
  have unw : wantedA ops o.guard env = some false → (∀ d, o.dst = some d → get2 d env = .tuple []) → (if Region.wanted o (yielded ops a.tmps) = true then o.wp P a w K Q ∨ (o.asks P a w ∧ LetsOut Q) else K (a.put o.dst undef) w) := by
    intro h1 h2
    rw [if_neg (by rw [wanted_ok (hw.trans h1) M]; simp)]
    exact hK σ w _ (I.next F hi hr hrest (fun _ _ h => h) I.rel I.ext (fun _ _ _ h => h) fun d hd => by rw [h2 d hd]; exact .tuple .nil)
  rcases hcls with hc | hc
  · rcases I.fl0 i o hpast hi hnl hc with ⟨h1, h2⟩ | ⟨hwt, v, hop, hdv⟩
    · exact unw h1 h2
    · rw [if_pos (wanted_ok (hw.trans hwt) M)]
      have hop' : aop P o (aev envm) H nx = some (.val v H nx) := (aop_congr hx).trans hop
      obtain ⟨σ', w', v', R, E, D, hrun⟩ := aop_ok hop' σ w a.eval I.rel M.aev
      have fin : K (a.put o.dst v') w' := by
        refine hK σ' w' _ (I.next F hi hr hrest E.sub R (I.ext.trans E) (fun j hj _ h => (E.pend (res + j) (by have := I.lim; omega) h).1) fun d hd => ?_)
        rw [hdv d hd]
        exact D
      refine .inl ?_
      unfold Oper.wp
      rcases hrun with hrun | ⟨hrun, rfl⟩
      · rw [hrun]; exact fin
      · rw [hrun]; exact fin
  · rcases I.fl1 i o hpast hi hnl hc with ⟨h1, h2⟩ | ⟨h1, m, h2, h3, h4, h5⟩
    · exact unw h1 h2
    · rw [if_pos (wanted_ok (hw.trans h1) M)]
      have hm : made P o.op (aev envm) = some m := (made_congr hx).trans h2
      obtain ⟨l', t, v', hl, hln, hv, hrun⟩ := made_ok hm σ w a.eval M.aev
      obtain ⟨c1, c2, c3⟩ := made_cells hl hln h3
      have hb : σ (res + i) = none := I.pend i hlt hnl
      have hbx : res + i < nx := by have := I.lim; omega
      have R := I.rel.alloc_at (t := t) (fz := (0, 0)) hb hbx h4 c1 c2 (Nat.le_refl _) (fun i _ h => by omega) c3
      obtain ⟨e1, e2, e3, e4⟩ := Ext.alloc_at (sz := m.n) (.cells ⟨l'⟩ t) I.rel hb
      have E := I.ext
      refine .inl ?_
      unfold Oper.wp
      rw [hrun]
      refine hK _ _ _ (I.next F hi hr hrest e2 R ⟨fun b p h => e2 b p (E.sub b p h), ?_, ?_, E.le, E.os, E.tape, E.output, ?_, ?_⟩ ?_ ?_)
      · intro b cb sz h hcb
        obtain ⟨b', sz', h'⟩ := e3 b cb sz h (Nat.lt_of_lt_of_le hcb E.size)
        exact E.rng b' cb sz' h' hcb
      · intro b hbr h
        obtain ⟨p1, p2⟩ := E.pend b hbr h
        exact ⟨e1 b (by omega) (by have := E.le; omega) p1, p2⟩
      · have := E.size
        have : (w.alloc (.cells ⟨l'⟩ t)).heap.size = w.heap.size + 1 := by simp
        omega
      · intro k hk h
        rw [e4 k (Nat.lt_of_lt_of_le hk E.size)]
        exact E.frame k hk h
      · intro j hj hne h
        exact e1 _ (by omega) (by have := I.lim; omega) h
      · intro d hd
        rw [h5 d hd]
        exact hv _ _ (by simp [upd])

end Go.Ev
