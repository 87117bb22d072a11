/-
  Own work. Texts of a proof, laid together; no condition.
-/
import Derived.Orders
import Derived.Maps.RangeRun
import Derived.LoopN
import Derived.Sort.LotA
import Derived.Sort.Lot0
import Derived.ChangeSame
import Derived.RowKit3
import Derived.OpenShut
import Derived.ChangeReads
import Derived.Test.YtljnoieepjeffaaPaa1
set_option linter.unusedSectionVars false
set_option linter.unusedVariables false
set_option linter.unusedSimpArgs false
set_option maxRecDepth 1000000
section
namespace Go.Vs
variable [GTab]
theorem allL_ok {α : Type} {p : α → Bool} : ∀ {l : List α}, allL p l = true → ∀ x, x ∈ l → p x = true
 | [], _, x, hx => by cases hx
 | y :: l, h, x, hx => by
  have h' : (Bool.rec false (allL p l) (p y) : Bool) = true := h
  cases e : p y <;> rw [e] at h'
  ·cases h'
  ·rcases List.mem_cons.1 hx with rfl | hx
   ·exact e
   ·exact allL_ok h' x hx
theorem memN_ok {i : Nat} : ∀ {l : List Nat}, memN i l = true → i ∈ l
 | [], h => by cases h
 | j :: l, h => by
  have h' : (Bool.rec (memN i l) true (Nat.beq j i) : Bool) = true := h
  cases e : Nat.beq j i <;> rw [e] at h'
  ·exact List.mem_cons_of_mem _ (memN_ok h')
  ·rw [Nat.eq_of_beq_eq_true e]; exact List.mem_cons_self ..
theorem bit_eq (m j : Nat) : bit m j = m.testBit j := by
 unfold bit
 have e : Nat.beq (Nat.mod (Nat.shiftRight m j) 2) 1 = decide (m >>> j % 2 = 1) := by
  by_cases h : m >>> j % 2 = 1
  ·rw [decide_eq_true h]; have h2 : Nat.mod (Nat.shiftRight m j) 2 = 1 := h
   rw [h2]; rfl
  ·rw [decide_eq_false h]
   cases q : Nat.beq (Nat.mod (Nat.shiftRight m j) 2) 1
   ·rfl
   ·exact (h (Nat.eq_of_beq_eq_true q)).elim
 rw [e, Nat.testBit, Nat.and_comm, Nat.and_one_is_mod]
 by_cases h : m >>> j % 2 = 1
 ·rw [decide_eq_true h, h]; rfl
 ·have : m >>> j % 2 = 0 := by omega
  rw [decide_eq_false h, this]; rfl
theorem maskOf_bit {as : List Nat} {j : Nat} : ∀ {es : List Edge}, bit (maskOf as es) j = true → ∃ e, e ∈ es ∧ Region.binds .any e = true ∧ (e.on = j ∨ bit (as.getD e.on 0) j = true)
 | [], h => by rw [bit_eq] at h; have : maskOf as [] = 0 := rfl; rw [this] at h; simp at h
 | e :: es, h => by
  have h' : bit (Bool.rec (maskOf as es) (Nat.lor (Nat.lor (Nat.shiftLeft 1 e.on) (as.getD e.on 0)) (maskOf as es)) (Region.binds .any e)) j = true := h
  cases q : Region.binds .any e <;> rw [q] at h'
  ·obtain ⟨e', m, b, c⟩ := maskOf_bit h'
   exact ⟨e', List.mem_cons_of_mem _ m, b, c⟩
  ·rw [bit_eq] at h'
   have h2 : ((1 <<< e.on ||| as.getD e.on 0) ||| maskOf as es).testBit j = true := h'
   rw [Nat.testBit_or, Nat.testBit_or, Bool.or_eq_true, Bool.or_eq_true] at h2
   rcases h2 with (h2 | h2) | h2
   ·refine ⟨e, List.mem_cons_self .., q, .inl ?_⟩
    rw [Nat.one_shiftLeft, Nat.testBit_two_pow] at h2
    exact of_decide_eq_true h2
   ·exact ⟨e, List.mem_cons_self .., q, .inr (by rw [bit_eq]; exact h2)⟩
   ·obtain ⟨e', m, b, c⟩ := maskOf_bit (by rw [bit_eq]; exact h2)
    exact ⟨e', List.mem_cons_of_mem _ m, b, c⟩
theorem owners_ok {t : Nat} : ∀ {l : List Oper} {i j : Nat} {o : Oper}, l[j]? = some o → o.dst = some t → i + j ∈ owners l t i
 | [], i, j, o, h, _ => by simp at h
 | q :: l, i, 0, o, h, hd => by
  simp at h
  subst h
  unfold owners
  simp only [hd]
  have : Nat.beq t t = true := Nat.beq_refl t
  rw [this]
  exact List.mem_cons_self ..
 | q :: l, i, j + 1, o, h, hd => by
  simp at h
  have ih := owners_ok (i := i + 1) h hd
  have e : i + (j + 1) = i + 1 + j := by omega
  rw [e]
  unfold owners
  split
  ·split
   ·exact List.mem_cons_of_mem _ ih
   ·exact ih
  ·exact ih
structure OpsFact (nt : Nat) (ops : Array Oper) (as : List Nat) : Prop where
 dst : ∀ (i : Nat) (o : Oper), ops[i]? = some o → dstOK nt o.dst = true
 edge : ∀ (i : Nat) (o : Oper), ops[i]? = some o → ∀ e, e ∈ o.after.toList → Region.binds .any e = true → e.on < i
 ahead : ∀ (i : Nat) (o : Oper), ops[i]? = some o → ∀ j, bit (as.getD i 0) j = true → ∃ e, e ∈ o.after.toList ∧ Region.binds .any e = true ∧ (e.on = j ∨ bit (as.getD e.on 0) j = true)
 look : ∀ (i : Nat) (o : Oper), ops[i]? = some o → ∀ t, t ∈ looks ops o → ∀ (j : Nat) (q : Oper), ops[j]? = some q → q.dst = some t → bit (as.getD i 0) j = true
 uniq : ∀ (i j : Nat) (o q : Oper) (t : Nat), ops[i]? = some o → ops[j]? = some q → o.dst = some t → q.dst = some t → i = j
 grd : ∀ (i : Nat) (o : Oper) (g : Nat) (b : Bool), ops[i]? = some o → o.guard = some (g, b) → ∃ t, (ops[g]?).bind (·.dst) = some t
theorem opsOK_get {nt : Nat} {ops : Array Oper} {l : List Oper} {as : List Nat} : ∀ {r : List Oper} {k i : Nat} {o : Oper}, opsOK nt ops l as r k = true → r[i]? = some o → opOK nt ops l as (k + i) o = true
 | [], _, _, _, _, h => by simp at h
 | q :: r, k, i, o, h, hi => by
  unfold opsOK at h
  split at h <;> try (cases h; done)
  rename_i hq
  cases i with
  | zero => simp at hi; subst hi; exact hq
  | succ i =>
   simp at hi
   have := opsOK_get h hi
   have e : k + (i + 1) = k + 1 + i := by omega
   rw [e]; exact this
theorem opsOK_fact {nt : Nat} {ops : Array Oper} {as : List Nat} (h : opsOK nt ops ops.toList as ops.toList 0 = true) : OpsFact nt ops as := by
 have key : ∀ i o, ops[i]? = some o → opOK nt ops ops.toList as i o = true := fun i o hi => by
  have := opsOK_get h (i := i) (o := o) (by simpa using hi)
  simpa using this
 have parts : ∀ i o, ops[i]? = some o → dstOK nt o.dst = true ∧ as.getD i 0 = maskOf as o.after.toList ∧ allL (fun e => Bool.rec true (Nat.ble (Nat.succ e.on) i) (Region.binds .any e)) o.after.toList = true ∧
   allL (fun t => allL (fun j => bit (as.getD i 0) j) (owners ops.toList t 0)) (looks ops o) = true ∧ (∀ t, o.dst = some t → allL (fun j => Nat.beq j i) (owners ops.toList t 0) = true) ∧
   (∀ g b, o.guard = some (g, b) → ∃ t, (ops[g]?).bind (·.dst) = some t) := by
  intro i o hi
  have h1 := key i o hi
  unfold opOK at h1
  split at h1 <;> try (cases h1; done)
  rename_i a1 a2
  split at h1 <;> try (cases h1; done)
  rename_i a3 a4
  split at h1 <;> try (cases h1; done)
  rename_i a5
  refine ⟨a1, Nat.eq_of_beq_eq_true a2, a3, a4, fun t ht => ?_, fun g b hg => ?_⟩
  ·rw [ht] at a5; exact a5
  ·rw [hg] at h1
   simp only [] at h1
   split at h1 <;> try (cases h1; done)
   rename_i t ht
   exact ⟨_, ht⟩
 have own : ∀ j q t, ops[j]? = some q → q.dst = some t → j ∈ owners ops.toList t 0 := fun j q t hj hd => by
  have := owners_ok (t := t) (l := ops.toList) (i := 0) (j := j) (o := q) (by simpa using hj) hd
  simpa using this
 refine ⟨fun i o hi => (parts i o hi).1, ?_, ?_, ?_, ?_, fun i o g b hi hg => (parts i o hi).2.2.2.2.2 g b hg⟩
 ·intro i o hi e he hb
  have := allL_ok (parts i o hi).2.2.1 e he
  rw [hb] at this
  exact Nat.le_of_ble_eq_true this
 ·intro i o hi j hj
  rw [(parts i o hi).2.1] at hj
  exact maskOf_bit hj
 ·intro i o hi t ht j q hj hq
  exact allL_ok (allL_ok (parts i o hi).2.2.2.1 t ht) j (own j q t hj hq)
 ·intro i j o q t hi hj ho hq
  exact (Nat.eq_of_beq_eq_true (allL_ok ((parts i o hi).2.2.2.2.1 t ho) j (own j q t hj hq))).symm
theorem freshOf_ok {ops : Array Oper} {past : List Nat} {i : Nat} {o : Oper} (h : freshOf ops past i o = true) : ∀ p, p ∈ past → p ≠ i ∧ ∃ q, ops[p]? = some q ∧ ∀ d, o.dst = some d → d ∉ looks ops q := by
 intro p hp
 have h1 := allL_ok h p hp
 split at h1 <;> try (cases h1; done)
 rename_i hne
 have ne : p ≠ i := fun e => by subst e; rw [Nat.beq_refl] at hne; cases hne
 split at h1 <;> try (cases h1; done)
 ·rename_i d q hd hq
  refine ⟨ne, q, hq, fun d' hd' hm => ?_⟩
  rw [hd] at hd'
  cases hd'
  have := allL_ok h1 d hm
  simp only [Nat.beq_refl] at this
  cases this
 ·rename_i q hd hq
  exact ⟨ne, q, hq, fun d' hd' => by rw [hd] at hd'; cases hd'⟩
theorem chkF_past {ops : Array Oper} : ∀ {l past past' : List Nat}, chkF ops l past = some past' → ∀ i, i ∈ past' ↔ (i ∈ past ∨ i ∈ l)
 | [], past, past', h, i => by cases h; simp
 | j :: l, past, past', h, i => by
  unfold chkF at h
  split at h <;> try (cases h; done)
  split at h <;> try (cases h; done)
  have := chkF_past h i
  rw [this]
  simp [or_assoc, or_comm, or_left_comm]
theorem chkF_fresh {ops : Array Oper} : ∀ {l past past' : List Nat}, chkF ops l past = some past' → ∀ p, p ∈ past → ∀ j, j ∈ l → p ≠ j ∧ ∃ q o, ops[p]? = some q ∧ ops[j]? = some o ∧ ∀ d, o.dst = some d → d ∉ looks ops q
 | [], _, _, _, _, _, j, hj => by cases hj
 | i :: l, past, past', h, p, hp, j, hj => by
  unfold chkF at h
  split at h <;> try (cases h; done)
  rename_i o ho
  split at h <;> try (cases h; done)
  rename_i hc hf
  rcases List.mem_cons.1 hj with rfl | hj
  ·obtain ⟨h1, q, h2, h3⟩ := freshOf_ok hf p hp
   exact ⟨h1, q, o, h2, ho, h3⟩
  ·exact chkF_fresh h p (List.mem_cons_of_mem _ hp) j hj
theorem chkF_cls {ops : Array Oper} : ∀ {l past past' : List Nat}, chkF ops l past = some past' → ∀ j, j ∈ l → ∃ o, ops[j]? = some o ∧ cls o.op ≠ 2
 | [], _, _, _, j, hj => by cases hj
 | i :: l, past, past', h, j, hj => by
  unfold chkF at h
  split at h <;> try (cases h; done)
  rename_i o ho
  split at h <;> try (cases h; done)
  rename_i hc hf
  rcases List.mem_cons.1 hj with rfl | hj
  ·exact ⟨o, ho, fun e => by rw [e] at hc; cases hc⟩
  ·exact chkF_cls h j hj
theorem OpsFact.lt {nt : Nat} {ops : Array Oper} {as : List Nat} (F : OpsFact nt ops as) : ∀ (i : Nat) (o : Oper), ops[i]? = some o → ∀ j, bit (as.getD i 0) j = true → j < i := by
 intro i
 induction i using Nat.strongRecOn with
 | _ i ih =>
  intro o hi j hj
  obtain ⟨e, he, hb, hc⟩ := F.ahead i o hi j hj
  have hlt := F.edge i o hi e he hb
  rcases hc with hc | hc
  ·omega
  ·have hsz : i < ops.size := (Array.getElem?_eq_some_iff.1 hi).1
   have := ih e.on hlt ops[e.on] (Array.getElem?_eq_getElem (by omega)) j hc
   omega
theorem OpsFact.own {nt : Nat} {ops : Array Oper} {as : List Nat} (F : OpsFact nt ops as) {i : Nat} {o : Oper} (hi : ops[i]? = some o) {d : Nat} (hd : o.dst = some d) : d ∉ looks ops o := by
 intro hm
 have := F.lt i o hi i (F.look i o hi d hm i o hi hd)
 omega
theorem aev_congr {env env' : Env} {x : Operand} (h : ∀ t, x = .tmp t → t < 4096 → get2 t env' = get2 t env) : aev env' x = aev env x := by
 cases x with
 | tmp t =>
  show (Bool.rec .und (get2 t env') (Nat.ble t 4095) : AVal) = Bool.rec .und (get2 t env) (Nat.ble t 4095)
  cases hb : Nat.ble t 4095 with
  | false => rfl
  | true => exact h t rfl (Nat.lt_of_le_of_lt (Nat.le_of_ble_eq_true hb) (by decide))
 | const v => rfl
 | global g => rfl
 | func f => rfl
theorem look_congr {ops : Array Oper} {o : Oper} {env env' : Env} (h : ∀ t, t ∈ looks ops o → t < 4096 → get2 t env' = get2 t env) :
  wantedA ops o.guard env' = wantedA ops o.guard env ∧ ∀ x ∈ o.op.operands, aev env' x = aev env x := by
 constructor
 ·unfold wantedA
  cases hg : o.guard with
  | none => rfl
  | some p =>
   obtain ⟨g, b⟩ := p
   simp only []
   cases ht : (ops[g]?).bind (·.dst) with
   | none => rfl
   | some t =>
    simp only []
    cases hb : Nat.ble t 4095 with
    | false => rfl
    | true =>
     simp only []
     rw [h t (by unfold looks; rw [hg]; simp only [ht]; simp) (Nat.lt_of_le_of_lt (Nat.le_of_ble_eq_true hb) (by decide))]
 ·intro x hx
  refine aev_congr fun t e ht => h t ?_ ht
  subst e
  unfold looks
  exact List.mem_append_left _ (List.mem_filterMap.2 ⟨.tmp t, by simpa using hx, rfl⟩)
end Go.Vs
namespace Go.Vs
variable [GTab]
def Fl1 (P : Program) (ops : Array Oper) (res : Nat) (env : Env) (H : Heap) (i : Nat) (o : Oper) : Prop :=
 (wantedA ops o.guard env = some false ∧ ∀ d, o.dst = some d → get2 d env = .tuple []) ∨
 (wantedA ops o.guard env = some true ∧ ∃ m, made P o.op (aev env) = some m ∧ m.n ≤ 9223372036854775807 ∧ get5 (res + i) H = some (.cells m.n (CT.ofL m.n m.l) [] false) ∧ ∀ d, o.dst = some d → get2 d env = m.v (res + i))
theorem Fl1.keep {P : Program} {ops : Array Oper} {res : Nat} {env env' : Env} {H H' : Heap} {i : Nat} {o : Oper} (h : Fl1 P ops res env H i o) (hl : ∀ t, t ∈ looks ops o → t < 4096 → get2 t env' = get2 t env)
  (hd : ∀ d, o.dst = some d → get2 d env' = get2 d env) (hH : get5 (res + i) H' = get5 (res + i) H) : Fl1 P ops res env' H' i o := by
 obtain ⟨e1, e2⟩ := look_congr hl
 rcases h with ⟨h1, h2⟩ | ⟨h1, m, h2, h3, h4, h5⟩
 ·exact .inl ⟨e1.trans h1, fun d hd' => (hd d hd').trans (h2 d hd')⟩
 ·exact .inr ⟨e1.trans h1, m, (made_congr e2).trans h2, h3, hH.trans h4, fun d hd' => (hd d hd').trans (h5 d hd')⟩
def Fl0 (P : Program) (ops : Array Oper) (env : Env) (H : Heap) (nx : Nat) (o : Oper) : Prop :=
 (wantedA ops o.guard env = some false ∧ ∀ d, o.dst = some d → get2 d env = .tuple []) ∨
 (wantedA ops o.guard env = some true ∧ ∃ v, aop P o (aev env) H nx = some (.val v H nx) ∧ ∀ d, o.dst = some d → get2 d env = v)
theorem again1_fl0 {P : Program} {ops : Array Oper} {env : Env} {H : Heap} {nx : Nat} {o : Oper} (hc : cls o.op = 0) (h : again1 P ops env H nx o = true) : Fl0 P ops env H nx o := by
 unfold again1 at h
 split at h <;> try (cases h; done)
 ·rename_i hw
  split at h <;> try (cases h; done)
  rename_i v H1 nx1 hop
  obtain ⟨rfl, rfl⟩ := cls0_heap hc hop
  refine .inr ⟨hw, v, hop, fun d hd => ?_⟩
  rw [hd] at h
  exact (@of_decide_eq_true _ (Classical.propDecidable _) h).symm
 ·rename_i hw
  refine .inl ⟨hw, fun d hd => ?_⟩
  rw [hd] at h
  simp only [] at h
  split at h <;> first | (cases h; done) | assumption
theorem pure_heap {P : Program} {o : Oper} {ρ : Operand → AVal} {H H' : Heap} {nx nx' : Nat} {v : AVal} (hc : cls o.op = 0) (hp : impure o.op = false) (h : aop P o ρ H nx = some (.val v H nx)) : aop P o ρ H' nx' = some (.val v H' nx') := by
 unfold aop at h ⊢
 cases hop : o.op <;> rw [hop] at h hc hp <;> simp only [] at h ⊢ <;> first | (cases hc; done) | (cases hp; done) | skip
 case move => unfold opMove at h ⊢; cases h; rfl
 case assign => unfold opMove at h ⊢; cases h; rfl
 case call c =>
  simp only [cls] at hc
  unfold opCall at h ⊢
  cases hce : c.callee with
  | value f => rw [hce] at hc; cases hc
  | invoke r m => rw [hce] at hc; cases hc
  | builtin b =>
   rw [hce] at hc h
   cases b <;> simp only [] at hc h ⊢ <;> try (cases hc; done)
   all_goals
    unfold opBuiltin0 at h ⊢
    try simp only [forceI_eq] at h ⊢
    split at h <;> try (cases h; done)
    all_goals (repeat' (split at h)) <;> first | (cases h; done) | (cases h; simp only [*]; done) | (cases h; simp [*]; done)
 all_goals first
  | (have h' : opFail ρ H nx = some (.val v H nx) := h; cases h'; done)
  | (unfold opPick at h ⊢) | (unfold opNilCheck at h ⊢) | (unfold opUn at h ⊢) | (unfold opConv at h ⊢) | (unfold opMakeInterface at h ⊢) | (unfold opMakeFunc at h ⊢; cases h; rfl; done)
  | (unfold opFieldAddr at h ⊢) | (unfold opField at h ⊢) | (unfold opIndexAddr at h ⊢) | (unfold opIndex at h ⊢) | (unfold opAssert at h ⊢) | (unfold opExtract at h ⊢) | (unfold opBuild at h ⊢) | (unfold opBin at h ⊢)
 all_goals try simp only [forceI_eq, forceN_eq] at h ⊢
 all_goals (repeat' (split at h)) <;> first | (cases h; done) | (cases h; simp only [*]; done) | (cases h; simp [*]; done) | skip
theorem Fl0.keep {P : Program} {ops : Array Oper} {env env' : Env} {H H' : Heap} {nx nx' : Nat} {o : Oper} (hc : cls o.op = 0) (hp : impure o.op = false) (h : Fl0 P ops env H nx o) (hl : ∀ t, t ∈ looks ops o → t < 4096 → get2 t env' = get2 t env)
  (hd : ∀ d, o.dst = some d → get2 d env' = get2 d env) : Fl0 P ops env' H' nx' o := by
 obtain ⟨e1, e2⟩ := look_congr hl
 rcases h with ⟨h1, h2⟩ | ⟨h1, v, h2, h3⟩
 ·exact .inl ⟨e1.trans h1, fun d hd' => (hd d hd').trans (h2 d hd')⟩
 ·exact .inr ⟨e1.trans h1, v, (aop_congr e2).trans (pure_heap hc hp h2), fun d hd' => (hd d hd').trans (h3 d hd')⟩
theorem get2_put' {d : Option Nat} {v : AVal} {env : Env} {nt t : Nat} (hd : dstOK nt d = true) (hn : nt ≤ 4096) (ht : t < 4096) (hne : d ≠ some t) : get2 t (put d v env) = get2 t env := by
 cases d with
 | none => rfl
 | some d =>
  have h1 : d < nt := Nat.le_of_ble_eq_true hd
  show get2 t (set2 d v env) = _
  rw [get2_put (by omega) ht, if_neg (fun e => hne (by rw [e]))]
theorem get2_put_same {d : Nat} {v : AVal} {env : Env} : get2 d (put (some d) v env) = v := by
 show get2 d (set2 d v env) = v
 rw [get2_set2_same]
theorem floatK_ok {P : Program} {nt : Nat} {ops : Array Oper} {as : List Nat} {res nx : Nat} {k : Env → Heap → Bool} {o : Oper} {i : Nat} {env : Env} {H : Heap} (F : OpsFact nt ops as) (hn : nt ≤ 4096) (hlim : res + ops.size ≤ res + ops.size)
  (hi : ops[i]? = some o) (h : floatK P ops res o i env H nx k = true) :
  ∃ env' H', k env' H' = true ∧ (∀ t, t < 4096 → o.dst ≠ some t → get2 t env' = get2 t env) ∧ (∀ b, b < b + 1 → b ≠ res + i → get5 b H' = get5 b H) ∧
   (∀ σ w, Rel σ H nx w → σ (res + i) = none → Rel σ H' nx w) ∧ (cls o.op = 1 → Fl1 P ops res env' H' i o) ∧ (cls o.op = 0 → impure o.op = false → Fl0 P ops env' H' nx o) := by
 have hd := F.dst i o hi
 have hsz : i < ops.size := (Array.getElem?_eq_some_iff.1 hi).1
 have looks_same : ∀ v t, t ∈ looks ops o → t < 4096 → get2 t (put o.dst v env) = get2 t env := fun v t ht hlt => get2_put' hd hn hlt (fun e => F.own hi e ht)
 unfold floatK at h
 split at h <;> try (cases h; done)
 ·rename_i hw
  split at h
  ·rename_i hc
   split at h <;> try (cases h; done)
   rename_i m hm
   split at h <;> try (cases h; done)
   rename_i h4
   rw [forceN_eq] at h
   refine ⟨_, _, h, fun t ht hne => get2_put' hd hn ht hne, ?_, ?_, fun _ => ?_, fun e => by rw [e] at hc; cases hc⟩
   ·intro b hb hne
    exact get5_ne (fun e => hne e.symm) (show res + i < res + i + 1 by omega) hb
   ·intro σ w hr hp
    exact hr.pend hp (Nat.le_refl _) hr.lim (by show res + i < res + i + 1; omega)
   ·obtain ⟨e1, e2⟩ := look_congr (looks_same (m.v (Nat.add res i)))
    refine .inr ⟨e1.trans hw, m, (made_congr e2).trans hm, Nat.le_of_ble_eq_true h4, get5_set5_same .., fun d hd' => ?_⟩
    rw [hd']; exact get2_put_same
  ·rename_i hc
   split at h <;> try (cases h; done)
   rename_i v H1 nx1 hop
   refine ⟨_, _, h, fun t ht hne => get2_put' hd hn ht hne, fun _ _ _ => rfl, fun _ _ hr _ => hr, fun e => ?_, fun hc0 hp => ?_⟩
   ·rw [e] at hc; cases hc
   ·obtain ⟨rfl, rfl⟩ := cls0_heap hc0 hop
    obtain ⟨e1, e2⟩ := look_congr (looks_same v)
    refine .inr ⟨e1.trans hw, v, (aop_congr e2).trans hop, fun d hd' => ?_⟩
    rw [hd']; exact get2_put_same
 ·rename_i hw
  obtain ⟨e1, e2⟩ := look_congr (looks_same (.tuple []))
  refine ⟨_, _, h, fun t ht hne => get2_put' hd hn ht hne, fun _ _ _ => rfl, fun _ _ hr _ => hr, fun _ => ?_, fun _ _ => ?_⟩
  ·refine .inl ⟨e1.trans hw, fun d hd' => ?_⟩
   rw [hd']; exact get2_put_same
  ·refine .inl ⟨e1.trans hw, fun d hd' => ?_⟩
   rw [hd']; exact get2_put_same
theorem floatsK_ok {P : Program} {nt : Nat} {ops : Array Oper} {as : List Nat} {res nx : Nat} {k : Env → Heap → Bool} (F : OpsFact nt ops as) (hn : nt ≤ 4096) (hlim : res + ops.size ≤ res + ops.size) :
  ∀ (l past past' : List Nat) (env : Env) (H : Heap), chkF ops l past = some past' → floatsK P ops res nx k l env H = true →
   ∃ env' H', k env' H' = true ∧ (∀ t, t < 4096 → (∀ (j : Nat) (q : Oper), j ∈ l → ops[j]? = some q → q.dst ≠ some t) → get2 t env' = get2 t env) ∧ (∀ b, b < b + 1 → (∀ j, j ∈ l → b ≠ res + j) → get5 b H' = get5 b H) ∧
    (∀ σ w, Rel σ H nx w → (∀ j, j ∈ l → σ (res + j) = none) → Rel σ H' nx w) ∧ (∀ (i : Nat) (q : Oper), i ∈ l → ops[i]? = some q → cls q.op = 1 → Fl1 P ops res env' H' i q) ∧
    (∀ (i : Nat) (q : Oper), i ∈ l → ops[i]? = some q → cls q.op = 0 → impure q.op = false → Fl0 P ops env' H' nx q)
 | [], _, _, env, H, _, h => ⟨env, H, h, fun _ _ _ => rfl, fun _ _ _ => rfl, fun _ _ hr _ => hr, (fun i q hi => by cases hi), fun i q hi => by cases hi⟩
 | i :: l, past, past', env, H, hc, h => by
  have h' : (match ops[i]? with | some o => floatK P ops res o i env H nx (floatsK P ops res nx k l) | none => false) = true := h
  unfold chkF at hc
  split at hc <;> try (cases hc; done)
  rename_i o ho
  split at hc <;> try (cases hc; done)
  rw [ho] at h'
  simp only [] at h'
  obtain ⟨env1, H1, hk, a1, a2, a3, a4, a5⟩ := floatK_ok F hn hlim ho h'
  obtain ⟨env2, H2, hk2, b1, b2, b3, b4, b5⟩ := floatsK_ok F hn hlim l _ past' env1 H1 hc hk
  have hsz : i < ops.size := (Array.getElem?_eq_some_iff.1 ho).1
  have fr := chkF_fresh hc i (List.mem_cons_self ..)
  refine ⟨env2, H2, hk2, ?_, ?_, ?_, ?_, ?_⟩
  ·intro t ht hne
   rw [b1 t ht (fun j q hj hq => hne j q (List.mem_cons_of_mem _ hj) hq), a1 t ht (hne i o (List.mem_cons_self ..) ho)]
  ·intro b hb hne
   rw [b2 b hb (fun j hj => hne j (List.mem_cons_of_mem _ hj)), a2 b hb (hne i (List.mem_cons_self ..))]
  ·intro σ w hr hp
   exact b3 σ w (a3 σ w hr (hp i (List.mem_cons_self ..))) fun j hj => hp j (List.mem_cons_of_mem _ hj)
  ·intro j q hj hq hcl
   rcases List.mem_cons.1 hj with rfl | hj
   ·rw [ho] at hq
    cases hq
    refine (a4 hcl).keep ?_ ?_ ?_
    ·intro t ht hlt
     refine b1 t hlt fun j' q' hj' hq' e => ?_
     obtain ⟨_, q0, o0, e1, e2, e3⟩ := fr j' hj'
     rw [ho] at e1; cases e1
     rw [hq'] at e2; cases e2
     exact e3 t e ht
    ·intro d hd
     have hdl : d < nt := by have := F.dst j o ho; rw [hd] at this; exact Nat.le_of_ble_eq_true this
     refine b1 d (Nat.lt_of_lt_of_le hdl hn) fun j' q' hj' hq' e => ?_
     exact (fr j' hj').1 (F.uniq j j' o q' d ho hq' hd e)
    ·exact b2 _ (by omega) fun j' hj' e => (fr j' hj').1 (by omega)
   ·exact b4 j q hj hq hcl
  ·intro j q hj hq hcl hp
   rcases List.mem_cons.1 hj with rfl | hj
   ·rw [ho] at hq
    cases hq
    refine (a5 hcl hp).keep hcl hp ?_ ?_
    ·intro t ht hlt
     refine b1 t hlt fun j' q' hj' hq' e => ?_
     obtain ⟨_, q0, o0, e1, e2, e3⟩ := fr j' hj'
     rw [ho] at e1; cases e1
     rw [hq'] at e2; cases e2
     exact e3 t e ht
    ·intro d hd
     have hdl : d < nt := by have := F.dst j o ho; rw [hd] at this; exact Nat.le_of_ble_eq_true this
     refine b1 d (Nat.lt_of_lt_of_le hdl hn) fun j' q' hj' hq' e => ?_
     exact (fr j' hj').1 (F.uniq j j' o q' d ho hq' hd e)
   ·exact b5 j q hj hq hcl hp
end Go.Vs
namespace Go.Vs
variable [GTab]
abbrev Stage := Nat × List Nat × List Nat
def isL (listed : Array Bool) (i : Nat) : Prop := listed.getD i false = true
structure Inv (P : Program) (nt : Nat) (ops : Array Oper) (as : List Nat) (res : Nat) (σ0 : Sg) (H0 : Heap) (w0 : World) (dfs : Dfs) (past : List Nat) (rest : List Stage) (env : Env) (H : Heap) (nx : Nat) (listed : Array Bool) (σ : Sg) (w : World) (a : Act) : Prop where
 size : listed.size = ops.size
 tsize : a.tmps.size = nt
 closed : ∀ i j, isL listed i → bit (as.getD i 0) j = true → isL listed j
 todo : ∀ i, i ∈ named rest → ¬ isL listed i
 all : ∀ i, i < ops.size → i ∈ past ∨ i ∈ named rest ∨ isL listed i
 den : ∀ t, t < 4096 → (∀ (j : Nat) (q : Oper), ops[j]? = some q → q.dst = some t → isL listed j) → Den σ (get2 t env) (a.tmps.getD t undef)
 fl0 : ∀ (i : Nat) (q : Oper), i ∈ past → ops[i]? = some q → ¬ isL listed i → cls q.op = 0 → Fl0 P ops env H nx q
 fl1 : ∀ (i : Nat) (q : Oper), i ∈ past → ops[i]? = some q → ¬ isL listed i → cls q.op = 1 → Fl1 P ops res env H i q
 pend : ∀ i, i < ops.size → ¬ isL listed i → σ (res + i) = none
 lim : res + ops.size ≤ nx
 rel : Rel σ H nx w
 ext : Ext σ0 σ H0 H res nx w0 w
 dfs : DfsRel σ dfs a.defers
theorem mask_env (p : Nat → Prop) (env : Env) : ∃ env', ∀ t, t < 4096 → (p t → get2 t env' = get2 t env) ∧ (¬ p t → get2 t env' = .und) := by
 have key : ∀ n, n ≤ 4096 → ∃ env', ∀ t, t < 4096 → ((p t ∨ n ≤ t) → get2 t env' = get2 t env) ∧ ((¬ p t ∧ t < n) → get2 t env' = .und) := by
  intro n
  induction n with
  | zero => exact fun _ => ⟨env, fun t _ => ⟨fun _ => rfl, fun h => by omega⟩⟩
  | succ n ih =>
   intro hn
   obtain ⟨e, he⟩ := ih (by omega)
   by_cases hp : p n
   ·refine ⟨e, fun t ht => ⟨fun h => (he t ht).1 ?_, fun h => (he t ht).2 ⟨h.1, ?_⟩⟩⟩
    ·rcases h with h | h
     ·exact .inl h
     ·exact .inr (by omega)
    ·have : t ≠ n := fun q => h.1 (q ▸ hp)
     omega
   ·refine ⟨set2 n .und e, fun t ht => ⟨fun h => ?_, fun h => ?_⟩⟩
    ·have hne : n ≠ t := fun q => by
      rcases h with h | h
      ·exact hp (q ▸ h)
      ·omega
     rw [get2_put (by omega) ht, if_neg hne]
     refine (he t ht).1 ?_
     rcases h with h | h
     ·exact .inl h
     ·exact .inr (by omega)
    ·rw [get2_put (by omega) ht]
     by_cases q : n = t
     ·rw [if_pos q]
     ·rw [if_neg q]; exact (he t ht).2 ⟨h.1, by omega⟩
 obtain ⟨e, he⟩ := key 4096 (Nat.le_refl _)
 exact ⟨e, fun t ht => ⟨fun h => (he t ht).1 (.inl h), fun h => (he t ht).2 ⟨h, ht⟩⟩⟩
theorem isL_set {listed : Array Bool} {i j : Nat} (hi : i < listed.size) : isL (listed.setIfInBounds i true) j ↔ (j = i ∨ isL listed j) := by
 unfold isL
 by_cases e : i = j
 ·subst e; simp [hi]
 ·simp only [Array.getD_eq_getD_getElem?, Array.getElem?_setIfInBounds_ne e]
  constructor
  ·exact fun h => .inr h
  ·rintro (h | h)
   ·exact (e h.symm).elim
   ·exact h
theorem Inv.view {P : Program} {nt : Nat} {ops : Array Oper} {as : List Nat} {res : Nat} {σ0 : Sg} {H0 : Heap} {w0 : World} {dfs : Dfs} {past : List Nat} {rest : List Stage} {env : Env} {H : Heap} {nx : Nat} {listed : Array Bool} {σ : Sg} {w : World} {a : Act}
  (F : OpsFact nt ops as) (hn : nt ≤ 4096) (I : Inv P nt ops as res σ0 H0 w0 dfs past rest env H nx listed σ w a) {i : Nat} {o : Oper} (hi : ops[i]? = some o) (hr : ∀ j, bit (as.getD i 0) j = true → isL listed j) :
  ∃ envm, EnvRel σ nt envm a.tmps ∧ wantedA ops o.guard envm = wantedA ops o.guard env ∧ ∀ x ∈ o.op.operands, aev envm x = aev env x := by
 obtain ⟨envm, hm⟩ := mask_env (fun t => ∀ (j : Nat) (q : Oper), ops[j]? = some q → q.dst = some t → isL listed j) env
 refine ⟨envm, ⟨I.tsize, hn, fun t ht => ?_⟩, look_congr fun t ht hlt => (hm t hlt).1 fun j q hj hq => hr j (F.look i o hi t ht j q hj hq)⟩
 by_cases hp : ∀ (j : Nat) (q : Oper), ops[j]? = some q → q.dst = some t → isL listed j
 ·rw [(hm t ht).1 hp]; exact I.den t ht hp
 ·rw [(hm t ht).2 hp]; exact .und _
theorem Inv.next {P : Program} {nt : Nat} {ops : Array Oper} {as : List Nat} {res : Nat} {σ0 : Sg} {H0 : Heap} {w0 : World} {dfs : Dfs} {past : List Nat} {rest : List Stage} {env : Env} {H : Heap} {nx : Nat} {listed : Array Bool} {σ : Sg} {w : World} {a : Act}
  (F : OpsFact nt ops as) (I : Inv P nt ops as res σ0 H0 w0 dfs past rest env H nx listed σ w a) {i : Nat} {o : Oper} (hi : ops[i]? = some o) (hr : ∀ j, bit (as.getD i 0) j = true → isL listed j) (hrest : i ∉ named rest)
  {σ1 : Sg} {w1 : World} {v' : Value} (sub : ∀ b p, σ b = some p → σ1 b = some p) (R : Rel σ1 H nx w1) (E : Ext σ0 σ1 H0 H res nx w0 w1) (hp : ∀ j, j < ops.size → j ≠ i → σ (res + j) = none → σ1 (res + j) = none)
  (hv : ∀ d, o.dst = some d → Den σ1 (get2 d env) v') : Inv P nt ops as res σ0 H0 w0 dfs past rest env H nx (listed.setIfInBounds i true) σ1 w1 (a.put o.dst v') := by
 have hlt : i < ops.size := (Array.getElem?_eq_some_iff.1 hi).1
 have S : ∀ j, isL (listed.setIfInBounds i true) j ↔ (j = i ∨ isL listed j) := fun j => isL_set (by rw [I.size]; exact hlt)
 have hd := F.dst i o hi
 refine ⟨by rw [Array.size_setIfInBounds]; exact I.size, ?_, ?_, ?_, ?_, ?_, ?_, ?_, ?_, I.lim, R, E, ?_⟩
 ·cases hdst : o.dst with
  | none => exact I.tsize
  | some d => show (a.tmps.setIfInBounds d v').size = nt; rw [Array.size_setIfInBounds]; exact I.tsize
 ·intro j k hj hb
  rw [S] at hj ⊢
  rcases hj with rfl | hj
  ·exact .inr (hr k hb)
  ·exact .inr (I.closed j k hj hb)
 ·intro j hj hl
  rw [S] at hl
  rcases hl with rfl | hl
  ·exact hrest hj
  ·exact I.todo j hj hl
 ·intro j hj
  rw [S]
  rcases I.all j hj with h | h | h
  ·exact .inl h
  ·exact .inr (.inl h)
  ·exact .inr (.inr (.inr h))
 ·intro t ht hown
  by_cases e : o.dst = some t
  ·rw [e]
   show Den σ1 (get2 t env) ((a.tmps.setIfInBounds t v').getD t undef)
   have : t < a.tmps.size := by rw [I.tsize]; rw [e] at hd; exact Nat.le_of_ble_eq_true hd
   rw [getD_put _ _ _ _ this, if_pos rfl]
   exact hv t e
  ·have h1 : (a.put o.dst v').tmps.getD t undef = a.tmps.getD t undef := by
    cases hdst : o.dst with
    | none => rfl
    | some d =>
     show (a.tmps.setIfInBounds d v').getD t undef = _
     have : d < a.tmps.size := by rw [I.tsize]; rw [hdst] at hd; exact Nat.le_of_ble_eq_true hd
     rw [getD_put _ _ _ _ this, if_neg (fun q => e (by rw [hdst, q]))]
   rw [h1]
   refine (I.den t ht fun j q hj hq => ?_).mono sub
   have := hown j q hj hq
   rw [S] at this
   rcases this with rfl | h
   ·rw [hi] at hj; cases hj; exact (e hq).elim
   ·exact h
 ·intro j q hj hq hl
  exact I.fl0 j q hj hq (fun h => hl ((S j).2 (.inr h)))
 ·intro j q hj hq hl
  exact I.fl1 j q hj hq (fun h => hl ((S j).2 (.inr h)))
 ·intro j hj hl
  exact hp j hj (fun e => hl ((S j).2 (.inl e))) (I.pend j hj (fun h => hl ((S j).2 (.inr h))))
 ·have : (a.put o.dst v').defers = a.defers := by cases o.dst <;> rfl
  rw [this]; exact I.dfs.mono sub
theorem Inv.float {P : Program} {nt : Nat} {ops : Array Oper} {as : List Nat} {res : Nat} {σ0 : Sg} {H0 : Heap} {w0 : World} {dfs : Dfs} {past : List Nat} {rest : List Stage} {env : Env} {H : Heap} {nx : Nat} {listed : Array Bool} {σ : Sg} {w : World} {a : Act}
  (F : OpsFact nt ops as) (hn : nt ≤ 4096) (I : Inv P nt ops as res σ0 H0 w0 dfs past rest env H nx listed σ w a) {i : Nat} {o : Oper} (hi : ops[i]? = some o) (hpast : i ∈ past) (hnl : ¬ isL listed i) (hcls : cls o.op = 0 ∨ cls o.op = 1)
  (hr : ∀ j, bit (as.getD i 0) j = true → isL listed j) (hrest : i ∉ named rest) {Q : Exit → Act → World → Prop} {K : Act → World → Prop}
  (hK : ∀ σ1 w1 a1, Inv P nt ops as res σ0 H0 w0 dfs past rest env H nx (listed.setIfInBounds i true) σ1 w1 a1 → K a1 w1) : wpOp P ops Q i K a w := by
 have hlt : i < ops.size := (Array.getElem?_eq_some_iff.1 hi).1
 obtain ⟨envm, M, hw, hx⟩ := I.view F hn hi hr
 unfold wpOp
 rw [hi]
 simp only []
 have unw : wantedA ops o.guard env = some false → (∀ d, o.dst = some d → get2 d env = .tuple []) → (if Region.wanted o (yielded ops a.tmps) = true then o.wp P a w K Q ∨ (o.asks P a w ∧ LetsOut Q) else K (a.put o.dst undef) w) := by
  intro h1 h2
  rw [if_neg (by rw [wanted_ok (hw.trans h1) M]; simp)]
  exact hK σ w _ (I.next F hi hr hrest (fun _ _ h => h) I.rel I.ext (fun _ _ _ h => h) fun d hd => by rw [h2 d hd]; exact .tuple .nil)
 rcases hcls with hc | hc
 ·rcases I.fl0 i o hpast hi hnl hc with ⟨h1, h2⟩ | ⟨hwt, v, hop, hdv⟩
  ·exact unw h1 h2
  ·rw [if_pos (wanted_ok (hw.trans hwt) M)]
   have hop' : aop P o (aev envm) H nx = some (.val v H nx) := (aop_congr hx).trans hop
   obtain ⟨σ', w', v', R, E, D, hrun⟩ := aop_ok hop' σ w a.eval I.rel M.aev
   have fin : K (a.put o.dst v') w' := by
    refine hK σ' w' _ (I.next F hi hr hrest E.sub R (I.ext.trans E) (fun j hj _ h => (E.pend (res + j) (by have := I.lim; omega) h).1) fun d hd => ?_)
    rw [hdv d hd]
    exact D
   refine .inl ?_
   unfold Oper.wp
   rcases hrun with hrun | ⟨hrun, rfl⟩
   ·rw [hrun]; exact fin
   ·rw [hrun]; exact fin
 ·rcases I.fl1 i o hpast hi hnl hc with ⟨h1, h2⟩ | ⟨h1, m, h2, h3, h4, h5⟩
  ·exact unw h1 h2
  ·rw [if_pos (wanted_ok (hw.trans h1) M)]
   have hm : made P o.op (aev envm) = some m := (made_congr hx).trans h2
   obtain ⟨l', t, v', hl, hln, hv, hrun⟩ := made_ok hm σ w a.eval M.aev
   obtain ⟨c1, c2, c3⟩ := made_cells hl hln h3
   have hb : σ (res + i) = none := I.pend i hlt hnl
   have hbx : res + i < nx := by have := I.lim; omega
   have R := I.rel.alloc_at (t := t) (fz := (0, 0)) hb hbx h4 c1 c2 (Nat.le_refl _) (fun i _ h => by omega) c3
   obtain ⟨e1, e2, e3, e4⟩ := Ext.alloc_at (sz := m.n) (.cells ⟨l'⟩ t) I.rel hb
   have E := I.ext
   refine .inl ?_
   unfold Oper.wp
   rw [hrun]
   refine hK _ _ _ (I.next F hi hr hrest e2 R ⟨fun b p h => e2 b p (E.sub b p h), ?_, ?_, E.le, E.os, E.tape, E.output, ?_, ?_, E.drawn⟩ ?_ ?_)
   ·intro b cb sz h hcb
    obtain ⟨b', sz', h'⟩ := e3 b cb sz h (Nat.lt_of_lt_of_le hcb E.size)
    exact E.rng b' cb sz' h' hcb
   ·intro b hbr h
    obtain ⟨p1, p2⟩ := E.pend b hbr h
    exact ⟨e1 b (by omega) (by have := E.le; omega) p1, p2⟩
   ·have := E.size
    have : (w.alloc (.cells ⟨l'⟩ t)).heap.size = w.heap.size + 1 := by simp
    omega
   ·intro k hk h
    rw [e4 k (Nat.lt_of_lt_of_le hk E.size)]
    exact E.frame k hk h
   ·intro j hj hne h
    exact e1 _ (by omega) (by have := I.lim; omega) h
   ·intro d hd
    rw [h5 d hd]
    exact hv _ _ (by simp [upd])
end Go.Vs
end
section
namespace Go.Vs
variable [GTab]
theorem eval_bool {σ : Sg} {nt : Nat} {env : Env} {dfs : Dfs} {a : Act} {c : Operand} {b : Bool} (ha : ARel σ nt env dfs a) (h : aev env c = .bool b) : a.eval c = .bool b := by
 have := ha.env.aev c
 rw [h] at this
 cases hq : a.eval c <;> rw [hq] at this <;> cases this
 rfl
theorem enterEnv_get : ∀ (args : List AVal) (i : Nat) (env : Env) (t : Nat), i + args.length ≤ 4096 → t < 4096 →
  get2 t (enterEnv args i env) = if i ≤ t ∧ t < i + args.length then args.getD (t - i) .und else get2 t env
 | [], i, env, t, _, _ => by
  have : ¬ (i ≤ t ∧ t < i + ([] : List AVal).length) := by simp
  rw [if_neg this]; rfl
 | v :: args, i, env, t, h, ht => by
  show get2 t (enterEnv args (i + 1) (set2 i v env)) = _
  simp only [List.length_cons] at h
  rw [enterEnv_get args (i + 1) _ t (by omega) ht, get2_put (by omega) ht]
  by_cases h1 : i = t
  ·subst h1
   rw [if_neg (by omega), if_pos rfl, if_pos (by simp)]
   simp
  ·rw [if_neg h1]
   by_cases h2 : i + 1 ≤ t ∧ t < i + 1 + args.length
   ·rw [if_pos h2, if_pos (by simp; omega)]
    have e : t - i = (t - (i + 1)) + 1 := by omega
    rw [e]; simp
   ·rw [if_neg h2, if_neg (by simp; omega)]
theorem enter_rel {σ : Sg} {nt : Nat} {args : List AVal} {args' : List Value} (hn : nt ≤ 4096) (hl : args.length ≤ nt) (hd : DenL σ args args') :
  EnvRel σ nt (enterEnv args 0 (all2 (.tuple []))) ((⟨args'⟩ : Array Value) ++ Array.replicate (nt - (⟨args'⟩ : Array Value).size) undef) := by
 have hlen := hd.length
 have hs : (⟨args'⟩ : Array Value).size = args'.length := rfl
 refine ⟨by simp; omega, hn, fun t ht => ?_⟩
 rw [enterEnv_get args 0 _ t (by omega) ht]
 by_cases h : t < args.length
 ·rw [if_pos (by omega)]
  obtain ⟨v', e, d⟩ := hd.get t args[t] (by simp [List.getElem?_eq_getElem h])
  have e1 : ((⟨args'⟩ : Array Value) ++ Array.replicate (nt - (⟨args'⟩ : Array Value).size) undef).getD t undef = v' := by
   have : ((⟨args'⟩ : Array Value) ++ Array.replicate (nt - (⟨args'⟩ : Array Value).size) undef)[t]? = some v' := by
    rw [Array.getElem?_append_left (by rw [hs]; omega)]
    simpa using e
   rw [Array.getD_eq_getD_getElem?, this]
   rfl
  rw [e1]
  simpa [List.getD, List.getElem?_eq_getElem h] using d
 ·rw [if_neg (by omega), get2_all]
  have e1 : ((⟨args'⟩ : Array Value) ++ Array.replicate (nt - (⟨args'⟩ : Array Value).size) undef).getD t undef = undef := by
   by_cases h2 : t < nt
   ·have : ((⟨args'⟩ : Array Value) ++ Array.replicate (nt - (⟨args'⟩ : Array Value).size) undef)[t]? = some undef := by
     rw [Array.getElem?_append_right (by rw [hs]; omega), Array.getElem?_replicate, if_pos (by rw [hs]; omega)]
    rw [Array.getD_eq_getD_getElem?, this]
    rfl
   ·have : ((⟨args'⟩ : Array Value) ++ Array.replicate (nt - (⟨args'⟩ : Array Value).size) undef)[t]? = none := by
     apply Array.getElem?_eq_none
     rw [Array.size_append, Array.size_replicate, hs]
     omega
    rw [Array.getD_eq_getD_getElem?, this]
    rfl
  rw [e1]
  exact .tuple .nil
theorem resultsA_ok {P : Program} {σ : Sg} {nt : Nat} {env : Env} {H : Heap} {nx : Nat} {w : World} {tmps : Array Value} (hr : Rel σ H nx w) (he : EnvRel σ nt env tmps) :
  ∀ (rs : List ResultVar) (vs : List AVal), resultsA P env H rs = some vs →
   ∃ vs', DenL σ vs vs' ∧ (rs.mapM (fun | .tmp t => pure (tmps.getD t undef) | .cell a t => do loadVar t (← asAddr (tmps.getD a undef))) : Sem (List Value)).run P w = .ok vs' w
 | [], vs, h => by cases h; exact ⟨[], .nil, rfl⟩
 | .tmp t :: l, vs, h => by
  unfold resultsA at h
  split at h <;> try (cases h; done)
  rename_i vs1 hle h1
  cases h
  obtain ⟨vs', hd, hrun⟩ := resultsA_ok hr he l vs1 h1
  refine ⟨tmps.getD t undef :: vs', .cons (he.den t (Nat.lt_of_le_of_lt (Nat.le_of_ble_eq_true hle) (by decide))) hd, ?_⟩
  simp only [List.mapM_cons, Sem.run_bind, Sem.run_pure, Result.andThen_ok, hrun]
 | .cell a t :: l, vs, h => by
  unfold resultsA at h
  split at h <;> try (cases h; done)
  rename_i vs1 hle h1
  split at h <;> try (cases h; done)
  rename_i v hv
  cases h
  obtain ⟨vs', hd, hrun⟩ := resultsA_ok hr he l vs1 h1
  have hda := he.den a (Nat.lt_of_le_of_lt (Nat.le_of_ble_eq_true hle) (by decide))
  obtain ⟨x', dx, hx⟩ := aLoad_ok (P := P) hr hda hv
  refine ⟨x' :: vs', .cons dx hd, ?_⟩
  have isptr : ∃ ad, tmps.getD a undef = .pointer (some ad) := by
   unfold aLoad at hv
   split at hv <;> try (cases hv; done)
   all_goals
    rename_i heq
    rw [heq] at hda
    cases hq : tmps.getD a undef <;> rw [hq] at hda <;> cases hda
    exact ⟨_, rfl⟩
  obtain ⟨ad, had⟩ := isptr
  rw [had] at hx
  have hx' : (loadVar t ad).run P w = .ok x' w := by simpa [Instr.loadAt, Instr.sureAddr] using hx
  have hasa : (asAddr (tmps.getD a undef)).run P w = .ok ad w := by rw [had]; rfl
  simp only [List.mapM_cons, Sem.run_bind, hasa, Result.andThen_ok, hx', hrun, Sem.run_pure]
theorem results_ok {P : Program} {σ : Sg} {nt : Nat} {env : Env} {H : Heap} {nx : Nat} {w : World} {tmps : Array Value} {fn : Func} {vs : List AVal} (hr : Rel σ H nx w) (he : EnvRel σ nt env tmps)
  (h : resultsA P env H fn.results.toList = some vs) : ∃ v', Den σ (oneOf vs) v' ∧ (results fn tmps).run P w = .ok v' w := by
 obtain ⟨vs', hd, hrun⟩ := resultsA_ok hr he _ vs h
 have hm : (fn.results.mapM (fun | .tmp t => pure (tmps.getD t undef) | .cell a t => do loadVar t (← asAddr (tmps.getD a undef))) : Sem (Array Value)).run P w = .ok ⟨vs'⟩ w := by
  rw [Array.mapM_eq_mapM_toList]
  simp only [Sem.run_map]
  rw [hrun]
  rfl
 refine ⟨if h : (⟨vs'⟩ : Array Value).size = 1 then (⟨vs'⟩ : Array Value)[0] else .tuple ⟨vs'⟩, ?_, ?_⟩
 ·cases hd with
  | nil => exact .tuple .nil
  | cons h1 t1 => cases t1 with
   | nil => exact h1
   | cons h2 t2 => exact .tuple (.cons h1 (.cons h2 t2))
 ·unfold results
  rw [Sem.run_bind]
  exact (congrArg (fun r : Result (Array Value) => r.andThen fun vs w' => Sem.run P (pure (if h : vs.size = 1 then vs[0] else .tuple vs)) w') hm).trans rfl
theorem settle_ok {σ : Sg} {m : AMode} {u : FrameMode} (h : MRel σ m u) : MRel σ (settleA m) (settle u) := by
 cases m with
 | returning => cases u <;> first | exact h.elim | trivial
 | panicking l =>
  cases u with
  | run => exact h.elim
  | returning => exact h.elim
  | panicking c =>
   have hc : Chain σ l c := h
   cases hc with
   | nil => exact Chain.nil
   | @cons v r p l c hv hr hg t =>
    obtain ⟨pv, pr, pg⟩ := p
    simp only at hr hg hv
    subst hr
    subst hg
    cases pr with
    | false => exact Chain.cons hv rfl rfl t
    | true =>
     have all : ∀ {l : List (AVal × Bool)} {c : List PanicEntry}, Chain σ l c → c.dropWhile (!·.goexit) = [] := by
      intro l c hch
      induction hch with
      | nil => rfl
      | cons hv hr hg t ih => simp [hg, ih]
     show MRel σ .returning (settle (.panicking ({ v := pv, recovered := true, goexit := false } :: c)))
     simp only [settle, all t]
     trivial
theorem raised_ok {σ : Sg} {m : AMode} {u : FrameMode} {l : List (AVal × Bool)} {c : List PanicEntry} (h : MRel σ m u) (hc : Chain σ l c) : MRel σ (raisedA m l) (raised u c) := by
 cases m with
 | returning => cases u <;> first | exact h.elim | exact hc
 | panicking l0 => cases u <;> first | exact h.elim | exact hc.append h
theorem mode_ne {σ : Sg} {m : AMode} {u : FrameMode} (h : MRel σ m u) : u ≠ .run := by
 rintro rfl
 cases m <;> exact h.elim
end Go.Vs
end
section
namespace Go.Vs
variable [GTab]
def Took (P : Program) (ops : Array Oper) (o : Oper) (a : Act) (w : World) (next : Act → World → Prop) (Q : Exit → Act → World → Prop) : Prop :=
 if Region.wanted o (yielded ops a.tmps) = true then o.wp P a w next Q ∨ (o.asks P a w ∧ LetsOut Q) else next (a.put o.dst undef) w
noncomputable def left (ops : Array Oper) (listed : Array Bool) : Nat := (List.range ops.size).countP fun i => !listed.getD i false
theorem countP_lt {α : Type} {p q : α → Bool} : ∀ {l : List α}, (∀ x, x ∈ l → p x = true → q x = true) → (∃ x, x ∈ l ∧ p x = false ∧ q x = true) → l.countP p < l.countP q
 | [], _, ⟨x, hx, _⟩ => by cases hx
 | y :: l, h, ⟨x, hx, hp, hq⟩ => by
  rw [List.countP_cons, List.countP_cons]
  have mono : l.countP p ≤ l.countP q := List.countP_mono_left fun z hz => h z (List.mem_cons_of_mem _ hz)
  have hy := h y (List.mem_cons_self ..)
  rcases List.mem_cons.1 hx with rfl | hx
  ·rw [hp, hq]; simp; omega
  ·have ih := countP_lt (fun z hz => h z (List.mem_cons_of_mem _ hz)) ⟨x, hx, hp, hq⟩
   cases e1 : p y with
   | false => simp; omega
   | true => rw [hy e1]; simp; omega
theorem left_set {ops : Array Oper} {listed : Array Bool} {i : Nat} (hs : listed.size = ops.size) (hi : i < ops.size) (hn : ¬ isL listed i) : left ops (listed.setIfInBounds i true) < left ops listed := by
 refine countP_lt (fun x _ hx => ?_) ⟨i, List.mem_range.2 hi, ?_, ?_⟩
 ·cases e : listed.getD x false with
  | false => rfl
  | true => have := (isL_set (listed := listed) (i := i) (j := x) (by omega)).2 (.inr e); unfold isL at this; rw [this] at hx; cases hx
 ·have := (isL_set (listed := listed) (i := i) (j := i) (by omega)).2 (.inl rfl); unfold isL at this; rw [this]; rfl
 ·cases e : listed.getD i false with
  | false => rfl
  | true => exact (hn e).elim
theorem left_zero {ops : Array Oper} {listed : Array Bool} (h : left ops listed = 0) : ∀ i, i < ops.size → isL listed i := by
 intro i hi
 unfold left at h
 rw [List.countP_eq_zero] at h
 have := h i (List.mem_range.2 hi)
 unfold isL
 cases e : listed.getD i false with
 | true => rfl
 | false => rw [e] at this; simp at this
theorem mem_ready {ops : Array Oper} {listed : Array Bool} {i : Nat} (hs : listed.size = ops.size) : i ∈ Region.ready .any ops listed ↔ ∃ o, ops[i]? = some o ∧ ¬ isL listed i ∧ ∀ e, e ∈ o.after.toList → Region.binds .any e = true → isL listed e.on := by
 unfold Region.ready
 rw [List.mem_filter, List.mem_range]
 constructor
 ·rintro ⟨h1, h2⟩
  have hi : ops[i]? = some ops[i] := Array.getElem?_eq_getElem h1
  rw [hi, Bool.and_eq_true] at h2
  obtain ⟨h2, h3⟩ := h2
  refine ⟨_, hi, ?_, ?_⟩
  ·intro h
   unfold isL at h
   have : listed.getD i true = true := by
    rw [Array.getD_eq_getD_getElem?] at h ⊢
    rw [Array.getElem?_eq_getElem (by omega)] at h ⊢
    exact h
   rw [this] at h2
   cases h2
  ·intro e he hb
   simp only [Option.map_some, Option.getD_some, Array.all_eq_true'] at h3
   have := h3 e (by simpa using he)
   rw [hb] at this
   simpa [isL] using this
 ·rintro ⟨o, ho, h1, h2⟩
  have hlt : i < ops.size := (Array.getElem?_eq_some_iff.1 ho).1
  refine ⟨hlt, ?_⟩
  rw [ho, Bool.and_eq_true]
  constructor
  ·unfold isL at h1
   rw [Array.getD_eq_getD_getElem?] at h1 ⊢
   rw [Array.getElem?_eq_getElem (by omega)] at h1 ⊢
   simpa using h1
  ·simp only [Option.map_some, Option.getD_some, Array.all_eq_true']
   intro e he
   have := h2 e (by simpa using he)
   cases hb : Region.binds .any e with
   | false => rfl
   | true => simpa [isL] using this hb
theorem ready_nil {nt : Nat} {ops : Array Oper} {as : List Nat} (F : OpsFact nt ops as) {listed : Array Bool} (hs : listed.size = ops.size) (h : Region.ready .any ops listed = []) : ∀ i, i < ops.size → isL listed i := by
 intro i
 induction i using Nat.strongRecOn with
 | _ i ih =>
  intro hi
  refine Classical.byContradiction fun hn => ?_
  have ho : ops[i]? = some ops[i] := Array.getElem?_eq_getElem hi
  have : i ∈ Region.ready .any ops listed := (mem_ready hs).2 ⟨_, ho, hn, fun e he hb => by
   have := F.edge i _ ho e he hb
   exact ih e.on this (by omega)⟩
  rw [h] at this
  cases this
theorem chkS_pred {ops : Array Oper} {as : List Nat} : ∀ {rest : List Stage} {p : Nat} {past : List Nat}, chkS ops as rest (some p) past = true → ∀ i, i ∈ named rest → ∃ j, (j = p ∨ j ∈ named rest) ∧ bit (as.getD i 0) j = true
 | [], _, _, _, i, hi => by cases hi
 | (e, L, A) :: rest, p, past, h, i, hi => by
  unfold chkS at h
  split at h <;> try (cases h; done)
  rename_i o ho hp
  split at h <;> try (cases h; done)
  rename_i hf hL
  split at h <;> try (cases h; done)
  split at h <;> try (cases h; done)
  unfold named at hi
  rcases List.mem_cons.1 hi with rfl | hi
  ·exact ⟨p, .inl rfl, hp⟩
  ·rcases List.mem_append.1 hi with hi | hi
   ·exact ⟨e, .inr (by unfold named; exact List.mem_cons_self ..), allL_ok hL i hi⟩
   ·obtain ⟨j, hj, hb⟩ := chkS_pred h i hi
    refine ⟨j, .inr ?_, hb⟩
    unfold named
    rcases hj with rfl | hj
    ·exact List.mem_cons_self ..
    ·exact List.mem_cons_of_mem _ (List.mem_append_right _ hj)
theorem blank_get {nt : Nat} (hn : nt ≤ 4096) : ∀ (l : List Oper) (env : Env) (t : Nat), t < 4096 → (∀ o, o ∈ l → dstOK nt o.dst = true) → get2 t (blank l env) = .und ∨ ((∀ o, o ∈ l → o.dst ≠ some t) ∧ get2 t (blank l env) = get2 t env)
 | [], env, t, _, _ => .inr ⟨fun o ho => (by cases ho), rfl⟩
 | o :: l, env, t, ht, hd => by
  have e : blank (o :: l) env = blank l (put o.dst .und env) := rfl
  rw [e]
  rcases blank_get hn l (put o.dst .und env) t ht (fun q hq => hd q (List.mem_cons_of_mem _ hq)) with h | ⟨h1, h2⟩
  ·exact .inl h
  ·by_cases ed : o.dst = some t
   ·refine .inl ?_
    rw [h2, ed]; exact get2_put_same
   ·refine .inr ⟨fun q hq => ?_, ?_⟩
    ·rcases List.mem_cons.1 hq with rfl | hq
     ·exact ed
     ·exact h1 q hq
    ·rw [h2, get2_put' (hd o (List.mem_cons_self ..)) hn ht ed]
theorem isL_none {n i : Nat} : ¬ isL (Array.replicate n false) i := by
 unfold isL
 rw [Array.getD_eq_getD_getElem?, Array.getElem?_replicate]
 split <;> simp
theorem Rel.more {σ : Sg} {H : Heap} {nx nx' : Nat} {w : World} (h : Rel σ H nx w) (hn : nx ≤ nx') (hl : nx' ≤ nx') : Rel σ H nx' w :=
 ⟨hl, fun b cb sz e => ⟨Nat.lt_of_lt_of_le (h.dom b cb sz e).1 hn, (h.dom b cb sz e).2⟩, h.obj, h.sep, h.sup, h.old, h.glob⟩
end Go.Vs
end
section
namespace Go.Vs
variable [GTab]
def TriC (P : Program) (f : FuncId) (args : List AVal) (H : Heap) (nx : Nat) (K : KEnd) : Prop :=
 ∀ (σ : Sg) (w : World) (args' : List Value) (R : Ending → World → Prop), Rel σ H nx w → DenL σ args args' →
  (∀ e H' nx' σ' w' en, K e H' nx' = true → Rel σ' H' nx' w' → Ext σ σ' H H' nx nx' w w' → EndRel σ' e en → R en w') → Calls P f ⟨args'⟩ w R
def CallS (P : Program) (call : CallK) : Prop := ∀ f args H nx K, call f args H nx K = true → TriC P f args H nx K
theorem actK_okK {P : Program} {call : CallK} {nt : Nat} {ops : Array Oper} {o : Oper} {env : Env} {H : Heap} {nx : Nat} {dfs : Dfs} {rc : Option AMode} {k : Env → Heap → Nat → Bool} {K : Kont} {env0 : Env}
  (hc : CallS P call) (h : actK P call ops o env H nx dfs rc k K env0 = true) {envm : Env} {σ : Sg} {w : World} {a : Act} {next : Act → World → Prop} {Q : Exit → Act → World → Prop}
  (hr : Rel σ H nx w) (M : EnvRel σ nt envm a.tmps) (e1 : wantedA ops o.guard envm = wantedA ops o.guard env) (e2 : ∀ x ∈ o.op.operands, aev envm x = aev env x)
  (hn : ∀ v H1 nx1 σ1 w1 v', k (put o.dst v env) H1 nx1 = true → Rel σ1 H1 nx1 w1 → Ext σ σ1 H H1 nx nx1 w w1 → Den σ1 v v' → next (a.put o.dst v') w1)
  (hp : ∀ l H1 nx1 σ1 w1 c, K (.pan l) env0 H1 nx1 dfs rc = true → Rel σ1 H1 nx1 w1 → Ext σ σ1 H H1 nx nx1 w w1 → Chain σ1 l c → Q (.panic c) a w1) : Took P ops o a w next Q := by
 unfold actK at h
 split at h <;> try (cases h; done)
 ·rename_i hw
  unfold Took
  rw [if_pos (wanted_ok (e1.trans hw) M)]
  split at h <;> try (cases h; done)
  ·rename_i v H1 nx1 hop
   obtain ⟨σ', w', v', R, E, D, hrun⟩ := aop_ok ((aop_congr e2).trans hop) σ w a.eval hr M.aev
   refine .inl ?_
   unfold Oper.wp
   rcases hrun with hrun | ⟨hrun, rfl⟩
   ·rw [hrun]; exact hn v H1 nx1 σ' w' _ h R E D
   ·rw [hrun]; exact hn v H1 nx1 σ' w' _ h R E D
  ·rename_i f args hop
   have tri := hc f args H nx _ h
   obtain ⟨args', hl, hrun⟩ := aop_ok ((aop_congr e2).trans hop) σ w a.eval hr M.aev
   refine .inl ?_
   unfold Oper.wp
   rw [hrun]
   show Calls P f ⟨args'⟩ w _
   refine tri σ w args' _ hr hl fun e H' nx' σ' w' en hk R E he => ?_
   cases e with
   | ret v =>
    cases en with
    | returned v' => exact hn v H' nx' σ' w' _ hk R E he
    | panicked c => exact he.elim
    | outgrown => exact he.elim
   | pan l =>
    cases en with
    | returned v' => exact he.elim
    | panicked c => exact hp l H' nx' σ' w' c hk R E he
    | outgrown => exact he.elim
  ·rename_i v hop
   obtain ⟨v', dv, hrun⟩ := aop_ok ((aop_congr e2).trans hop) σ w a.eval hr M.aev
   refine .inl ?_
   unfold Oper.wp
   rw [hrun]
   exact hp [(v, false)] H nx σ w [{ v := v', recovered := false }] h hr (Ext.refl _ _ _ _) (.cons dv rfl rfl .nil)
 ·rename_i hw
  unfold Took
  rw [if_neg (by rw [wanted_ok (e1.trans hw) M]; simp)]
  exact hn (.tuple []) H nx σ w undef h hr (Ext.refl _ _ _ _) (.tuple .nil)
theorem named_append : ∀ (a b : List Stage), named (a ++ b) = named a ++ named b
 | [], b => rfl
 | (e, L, A) :: a, b => by
  rw [List.cons_append]
  simp only [named, List.cons_append, List.append_assoc, named_append a b]
theorem Inv.act {P : Program} {call : CallK} {nt : Nat} {ops : Array Oper} {as : List Nat} {res : Nat} {σ0 : Sg} {H0 : Heap} {w0 : World} {dfs : Dfs} {rc : Option AMode} {past past' : List Nat} {e : Nat} {L A : List Nat} {R : List Stage} {oe : Oper} {env : Env} {H : Heap} {nx : Nat} {listed : Array Bool} {σ : Sg} {w : World} {a : Act} {k : Env → Heap → Nat → Bool} {K : Kont}
  (hc : CallS P call) (F : OpsFact nt ops as) (hn : nt ≤ 4096) (hlim : res + ops.size ≤ res + ops.size) (I : Inv P nt ops as res σ0 H0 w0 dfs past ((e, L, A) :: R) env H nx listed σ w a) (hoe : ops[e]? = some oe) (he : e ∉ named R) (hr : ∀ j, bit (as.getD e 0) j = true → isL listed j)
  (hfresh : freshOf ops past e oe = true) (hL : allL (fun i => bit (as.getD i 0) e) L = true) (hF : chkF ops L past = some past') (hA : chkA ops (as.getD e 0) A past' = true) (h' : actK P call ops oe env H nx dfs rc k K env = true) {RN : Env → Heap → Nat → Prop}
  (hnext : ∀ env1 H1 nx1, k env1 H1 nx1 = true → ∃ kf : Env → Heap → Bool, floatsK P ops res nx1 kf L env1 H1 = true ∧ ∀ env2 H2, kf env2 H2 = true → againK P ops env2 H2 nx1 A = true ∧ RN env2 H2 nx1)
  {Q : Exit → Act → World → Prop} {next : Act → World → Prop}
  (hK : ∀ env2 H2 nx2 σ1 w1 a1, RN env2 H2 nx2 → Inv P nt ops as res σ0 H0 w0 dfs past' R env2 H2 nx2 (listed.setIfInBounds e true) σ1 w1 a1 → (∀ t, t < 4096 → (∀ (j : Nat) (q : Oper), ops[j]? = some q → q.dst ≠ some t) → get2 t env2 = get2 t env) → next a1 w1)
  (hP : ∀ l H1 nx1 σ1 w1 c, K (.pan l) env H1 nx1 dfs rc = true → Rel σ1 H1 nx1 w1 → Ext σ0 σ1 H0 H1 res nx1 w0 w1 → (∀ t, t < 4096 → (∀ (j : Nat) (q : Oper), ops[j]? = some q → q.dst ≠ some t) → Den σ1 (get2 t env) (a.tmps.getD t undef)) → DfsRel σ1 dfs a.defers → a.tmps.size = nt → Chain σ1 l c → Q (.panic c) a w1) :
  wpOp P ops Q e next a w := by
 have hde := F.dst e oe hoe
 have helt : e < ops.size := (Array.getElem?_eq_some_iff.1 hoe).1
 have pastiff := chkF_past hF
 have eun : ¬ isL listed e := I.todo e (by unfold named; exact List.mem_cons_self ..)
 have Lun : ∀ j, j ∈ L → ¬ isL listed j := fun j hj => I.todo j (by unfold named; exact List.mem_cons_of_mem _ (List.mem_append_left _ hj))
 have Lne : ∀ j, j ∈ L → j ≠ e := fun j hj q => by
  subst q
  have := F.lt j oe hoe j (allL_ok hL j hj)
  omega
 have Llt : ∀ j, j ∈ L → j < ops.size := fun j hj => by
  obtain ⟨o, ho, _⟩ := chkF_cls hF j hj
  exact (Array.getElem?_eq_some_iff.1 ho).1
 have S : ∀ j, isL (listed.setIfInBounds e true) j ↔ (j = e ∨ isL listed j) := fun j => isL_set (by rw [I.size]; exact helt)
 obtain ⟨envm, M, hw, hx⟩ := I.view F hn hoe hr
 unfold wpOp
 rw [hoe]
 refine actK_okK hc h' I.rel M hw hx (fun v H1 nx1 σ1 w1 v' hk R' E D => ?_) (fun l H1 nx1 σ1 w1 c hk R' E C => ?_)
 ·obtain ⟨kf, hk1, hk4⟩ := hnext _ H1 nx1 hk
  obtain ⟨env2, H2, hk2, b1, b2, b3, b4, b5⟩ := floatsK_ok F hn hlim L past past' _ H1 hF hk1
  obtain ⟨hag, hk3⟩ := hk4 env2 H2 hk2
  have hnx := E.le
  have hpl := I.lim
  have pend1 : ∀ j, j < ops.size → ¬ isL listed j → σ1 (res + j) = none ∧ get5 (res + j) H1 = get5 (res + j) H := fun j hj hnl => E.pend (res + j) (by omega) (I.pend j hj hnl)
  refine hK env2 H2 nx1 σ1 w1 _ hk3 ⟨?_, ?_, ?_, ?_, ?_, ?_, ?_, ?_, ?_, ?_, ?_, ?_, ?_⟩ fun t ht hno => by rw [b1 t ht fun j q _ hq => hno j q hq, get2_put' hde hn ht (hno e oe hoe)]
  ·rw [Array.size_setIfInBounds]; exact I.size
  ·cases hdst : oe.dst with
   | none => exact I.tsize
   | some d => show (a.tmps.setIfInBounds d v').size = nt; rw [Array.size_setIfInBounds]; exact I.tsize
  ·intro j k hj hb
   rw [S] at hj ⊢
   rcases hj with rfl | hj
   ·exact .inr (hr k hb)
   ·exact .inr (I.closed j k hj hb)
  ·intro j hj hlj
   rw [S] at hlj
   have hj' : j ∈ named ((e, L, A) :: R) := by unfold named; exact List.mem_cons_of_mem _ (List.mem_append_right _ hj)
   rcases hlj with rfl | hlj
   ·exact he hj
   ·exact I.todo j hj' hlj
  ·intro j hj
   rw [S]
   rcases I.all j hj with h | h | h
   ·exact .inl ((pastiff j).2 (.inl h))
   ·unfold named at h
    rcases List.mem_cons.1 h with rfl | h
    ·exact .inr (.inr (.inl rfl))
    ·rcases List.mem_append.1 h with h | h
     ·exact .inl ((pastiff j).2 (.inr h))
     ·exact .inr (.inl h)
   ·exact .inr (.inr (.inr h))
  ·intro t ht hown
   have hnotL : ∀ (j : Nat) (q : Oper), j ∈ L → ops[j]? = some q → q.dst ≠ some t := by
    intro j q hj hq hd
    have := hown j q hq hd
    rw [S] at this
    rcases this with h | h
    ·exact Lne j hj h
    ·exact Lun j hj h
   rw [b1 t ht hnotL]
   by_cases ed : oe.dst = some t
   ·rw [ed]
    show Den σ1 (get2 t (put (some t) v env)) ((a.tmps.setIfInBounds t v').getD t undef)
    have : t < a.tmps.size := by rw [I.tsize]; rw [ed] at hde; exact Nat.le_of_ble_eq_true hde
    rw [getD_put _ _ _ _ this, if_pos rfl, get2_put_same]
    exact D
   ·rw [get2_put' hde hn ht ed]
    have h1 : (a.put oe.dst v').tmps.getD t undef = a.tmps.getD t undef := by
     cases hdst : oe.dst with
     | none => rfl
     | some d =>
      show (a.tmps.setIfInBounds d v').getD t undef = _
      have : d < a.tmps.size := by rw [I.tsize]; rw [hdst] at hde; exact Nat.le_of_ble_eq_true hde
      rw [getD_put _ _ _ _ this, if_neg (fun q => ed (by rw [hdst, q]))]
    rw [h1]
    refine (I.den t ht fun j q hj hq => ?_).mono E.sub
    have := hown j q hj hq
    rw [S] at this
    rcases this with rfl | h
    ·rw [hoe] at hj; cases hj; exact (ed hq).elim
    ·exact h
  ·intro j q hj hq hlj hcl
   have hnl : ¬ isL listed j := fun h => hlj ((S j).2 (.inr h))
   have hjne : j ≠ e := fun h => hlj ((S j).2 (.inl h))
   cases hip : impure q.op with
   | true =>
    have h1 := allL_ok hA j hj
    rw [hq] at h1
    simp only [hip] at h1
    have hmem : j ∈ A := by
     split at h1
     ·exact memN_ok ‹_›
     ·exact (hlj ((S j).2 (.inr (hr j h1)))).elim
    have h3 := allL_ok hag j hmem
    rw [hq] at h3
    exact again1_fl0 hcl h3
   | false =>
    rcases (pastiff j).1 hj with hj | hj
    ·obtain ⟨_, q0, hq0, hfr⟩ := freshOf_ok hfresh j hj
     rw [hq] at hq0
     cases hq0
     refine (I.fl0 j q hj hq hnl hcl).keep hcl hip ?_ ?_
     ·intro t ht hlt
      rw [b1 t hlt fun j' q' hj' hq' ed => ?_]
      ·exact get2_put' hde hn hlt fun ed => hfr t ed ht
      ·obtain ⟨_, q1, o1, e1, e2, e3⟩ := chkF_fresh hF j hj j' hj'
       rw [hq] at e1; cases e1
       rw [hq'] at e2; cases e2
       exact e3 t ed ht
     ·intro d hd
      have hdl : d < 4096 := Nat.lt_of_lt_of_le (by have := F.dst j q hq; rw [hd] at this; exact Nat.le_of_ble_eq_true this) hn
      rw [b1 d hdl fun j' q' hj' hq' ed => (chkF_fresh hF j hj j' hj').1 (F.uniq j j' q q' d hq hq' hd ed)]
      exact get2_put' hde hn hdl fun ed => hjne (F.uniq j e q oe d hq hoe hd ed)
    ·exact b5 j q hj hq hcl hip
  ·intro j q hj hq hlj hcl
   have hnl : ¬ isL listed j := fun h => hlj ((S j).2 (.inr h))
   have hjne : j ≠ e := fun h => hlj ((S j).2 (.inl h))
   have hjlt : j < ops.size := (Array.getElem?_eq_some_iff.1 hq).1
   rcases (pastiff j).1 hj with hj | hj
   ·obtain ⟨_, q0, hq0, hfr⟩ := freshOf_ok hfresh j hj
    rw [hq] at hq0
    cases hq0
    refine (I.fl1 j q hj hq hnl hcl).keep ?_ ?_ ?_
    ·intro t ht hlt
     rw [b1 t hlt fun j' q' hj' hq' ed => ?_]
     ·exact get2_put' hde hn hlt fun ed => hfr t ed ht
     ·obtain ⟨_, q1, o1, e1, e2, e3⟩ := chkF_fresh hF j hj j' hj'
      rw [hq] at e1; cases e1
      rw [hq'] at e2; cases e2
      exact e3 t ed ht
    ·intro d hd
     have hdl : d < 4096 := Nat.lt_of_lt_of_le (by have := F.dst j q hq; rw [hd] at this; exact Nat.le_of_ble_eq_true this) hn
     rw [b1 d hdl fun j' q' hj' hq' ed => (chkF_fresh hF j hj j' hj').1 (F.uniq j j' q q' d hq hq' hd ed)]
     exact get2_put' hde hn hdl fun ed => hjne (F.uniq j e q oe d hq hoe hd ed)
    ·rw [b2 _ (by omega) fun j' hj' ed => (chkF_fresh hF j hj j' hj').1 (by omega)]
     exact (pend1 j hjlt hnl).2
   ·exact b4 j q hj hq hcl
  ·intro j hj hlj
   exact (pend1 j hj fun h => hlj ((S j).2 (.inr h))).1
  ·omega
  ·exact b3 σ1 w1 R' fun j hj => (pend1 j (Llt j hj) (Lun j hj)).1
  ·have E2 := I.ext.trans E
   refine ⟨E2.sub, E2.rng, ?_, E2.le, E2.os, E2.tape, E2.output, E2.size, E2.frame, E2.drawn⟩
   intro b hb h0
   obtain ⟨p1, p2⟩ := E2.pend b hb h0
   exact ⟨p1, (b2 b (by omega) fun j _ => by omega).trans p2⟩
  ·have : (a.put oe.dst v').defers = a.defers := by cases oe.dst <;> rfl
   rw [this]; exact I.dfs.mono E.sub
 ·exact hP l H1 nx1 σ1 w1 c hk R' (I.ext.trans E) (fun t ht hno => (I.den t ht fun j q hj hq => (hno j q hj hq).elim).mono E.sub) (I.dfs.mono E.sub) I.tsize C
def RunP (P : Program) (call : CallK) (ops : Array Oper) (res : Nat) (dfs : Dfs) (rc : Option AMode) (Kp : List (AVal × Bool) → Heap → Nat → Prop) (Kn : Env → Heap → Nat → Prop) : List Stage → Env → Heap → Nat → Prop
 | [], env, H, nx => Kn env H nx
 | (e, L, A) :: rest, env, H, nx => ∀ oe, ops[e]? = some oe → ∃ (k : Env → Heap → Nat → Bool) (K : Kont), actK P call ops oe env H nx dfs rc k K env = true ∧
   (∀ l H1 nx1, K (.pan l) env H1 nx1 dfs rc = true → Kp l H1 nx1) ∧
   ∀ env1 H1 nx1, k env1 H1 nx1 = true → ∃ kf : Env → Heap → Bool, floatsK P ops res nx1 kf L env1 H1 = true ∧
    ∀ env2 H2, kf env2 H2 = true → againK P ops env2 H2 nx1 A = true ∧ RunP P call ops res dfs rc Kp Kn rest env2 H2 nx1
noncomputable def endPast (ops : Array Oper) : List Stage → List Nat → List Nat
 | [], past => past
 | (_, L, _) :: rest, past => endPast ops rest (match chkF ops L past with | some p => p | none => past)
theorem stages_sem {P : Program} {call : CallK} {nt : Nat} {ops : Array Oper} {as : List Nat} {res : Nat} {dfs : Dfs} {rc : Option AMode} {env0 : Env} {Kp : List (AVal × Bool) → Heap → Nat → Prop} {Kn : Env → Heap → Nat → Prop} (tail : List Stage)
  (hc : CallS P call) (F : OpsFact nt ops as) (hn : nt ≤ 4096) (hlim : res + ops.size ≤ res + ops.size) :
  ∀ (rest : List Stage) (prev : Option Nat) (past : List Nat) (env : Env) (H : Heap) (nx : Nat), chkS ops as rest prev past = true → (∀ s, s ∈ rest → ∀ i, i ∈ named tail → bit (as.getD i 0) s.1 = true) →
   (∀ i, i ∈ past → ∃ o, ops[i]? = some o ∧ (cls o.op = 0 ∨ cls o.op = 1)) →
   (∀ t, t < 4096 → get2 t env0 = .und ∨ ((∀ (j : Nat) (q : Oper), ops[j]? = some q → q.dst ≠ some t) ∧ get2 t env0 = get2 t env)) → RunP P call ops res dfs rc Kp Kn rest env H nx →
   ∀ σ0 H0 w0 Q, (∀ l H' nx' σ' w' a' c, Kp l H' nx' → Rel σ' H' nx' w' → Ext σ0 σ' H0 H' res nx' w0 w' → ARel σ' nt env0 dfs a' → Chain σ' l c → Q (.panic c) a' w') →
    (∀ env' H' nx', Kn env' H' nx' → (∀ i, i ∈ endPast ops rest past → ∃ o, ops[i]? = some o ∧ (cls o.op = 0 ∨ cls o.op = 1)) →
     ∀ fuel listed σ w a, Inv P nt ops as res σ0 H0 w0 dfs (endPast ops rest past) tail env' H' nx' listed σ w a → left ops listed ≤ fuel → wpAny P .any ops Q fuel listed a w) →
    ∀ fuel listed σ w a, Inv P nt ops as res σ0 H0 w0 dfs past (rest ++ tail) env H nx listed σ w a → left ops listed ≤ fuel → wpAny P .any ops Q fuel listed a w
 | [], prev, past, env, H, nx, _, _, hpast, _, h => fun σ0 H0 w0 Q hQ hT => hT env H nx h hpast
 | (e, L, A) :: rest, prev, past, env, H, nx, hchk, htl, hpast, hblank, h => by
  intro σ0 H0 w0 Q hQ hT
  unfold chkS at hchk
  split at hchk <;> try (cases hchk; done)
  rename_i oe hoe hprev
  split at hchk <;> try (cases hchk; done)
  rename_i hfresh hL
  split at hchk <;> try (cases hchk; done)
  rename_i past' hF
  split at hchk <;> try (cases hchk; done)
  rename_i hA
  obtain ⟨k, K, h', hpan, hnext⟩ := h oe hoe
  have hT : ∀ env' H' nx', Kn env' H' nx' → (∀ i, i ∈ endPast ops rest past' → ∃ o, ops[i]? = some o ∧ (cls o.op = 0 ∨ cls o.op = 1)) →
     ∀ fuel listed σ w a, Inv P nt ops as res σ0 H0 w0 dfs (endPast ops rest past') tail env' H' nx' listed σ w a → left ops listed ≤ fuel → wpAny P .any ops Q fuel listed a w := by
   have e0 : endPast ops ((e, L, A) :: rest) past = endPast ops rest past' := by
    show endPast ops rest (match chkF ops L past with | some p => p | none => past) = _
    rw [hF]
   rw [e0] at hT
   exact hT
  have hde := F.dst e oe hoe
  have helt : e < ops.size := (Array.getElem?_eq_some_iff.1 hoe).1
  have pastiff := chkF_past hF
  have who : ∀ {σ0 H0 w0 listed σ w a}, Inv P nt ops as res σ0 H0 w0 dfs past ((e, L, A) :: rest ++ tail) env H nx listed σ w a → ∀ i o, ops[i]? = some o → (∀ j, bit (as.getD i 0) j = true → isL listed j) → i ∈ named ((e, L, A) :: rest ++ tail) → i = e := by
   intro σ0 H0 w0 listed σ w a I i o ho hr hi
   have ebad : ¬ isL listed e := I.todo e (by rw [List.cons_append]; unfold named; exact List.mem_cons_self ..)
   rw [List.cons_append] at hi
   unfold named at hi
   rcases List.mem_cons.1 hi with rfl | hi
   ·rfl
   ·rcases List.mem_append.1 hi with hi | hi
    ·exact (ebad (hr e (allL_ok hL i hi))).elim
    ·rw [named_append] at hi
     rcases List.mem_append.1 hi with hi | hi
     ·obtain ⟨j, hj, hb⟩ := chkS_pred hchk i hi
      rcases hj with rfl | hj
      ·exact (ebad (hr j hb)).elim
      ·exact (I.todo j (by rw [List.cons_append]; unfold named; rw [named_append]; exact List.mem_cons_of_mem _ (List.mem_append_right _ (List.mem_append_left _ hj))) (hr j hb)).elim
     ·exact (ebad (hr e (htl (e, L, A) (List.mem_cons_self ..) i hi))).elim
  have loop : ∀ {Q : Exit → Act → World → Prop}, (∀ fuel listed σ w a, Inv P nt ops as res σ0 H0 w0 dfs past ((e, L, A) :: rest ++ tail) env H nx listed σ w a → left ops listed ≤ fuel + 1 → (∀ j, bit (as.getD e 0) j = true → isL listed j) →
    wpOp P ops Q e (wpAny P .any ops Q fuel (listed.setIfInBounds e true)) a w) →
    ∀ fuel listed σ w a, Inv P nt ops as res σ0 H0 w0 dfs past ((e, L, A) :: rest ++ tail) env H nx listed σ w a → left ops listed ≤ fuel → wpAny P .any ops Q fuel listed a w := by
   intro Q hact fuel
   have eun : ∀ {listed σ w a}, Inv P nt ops as res σ0 H0 w0 dfs past ((e, L, A) :: rest ++ tail) env H nx listed σ w a → ¬ isL listed e := fun I => I.todo e (by rw [List.cons_append]; unfold named; exact List.mem_cons_self ..)
   induction fuel with
   | zero =>
    intro listed σ w a I hl
    exact (eun I (left_zero (by omega : left ops listed = 0) e helt)).elim
   | succ fuel ih =>
    intro listed σ w a I hl
    refine ⟨fun hnil => (eun I (ready_nil F I.size hnil e helt)).elim, fun i hi => ?_⟩
    obtain ⟨o, ho, hnl, hed⟩ := (mem_ready I.size).1 hi
    have hlt : i < ops.size := (Array.getElem?_eq_some_iff.1 ho).1
    have hr : ∀ j, bit (as.getD i 0) j = true → isL listed j := fun j hj => by
     obtain ⟨g, hg, hb, hc'⟩ := F.ahead i o ho j hj
     rcases hc' with rfl | hc'
     ·exact hed g hg hb
     ·exact I.closed _ j (hed g hg hb) hc'
    by_cases hin : i ∈ named ((e, L, A) :: rest ++ tail)
    ·have := who I i o ho hr hin
     subst this
     exact hact fuel listed σ w a I hl hr
    ·have hp : i ∈ past := by
      rcases I.all i hlt with h | h | h
      ·exact h
      ·exact (hin h).elim
      ·exact (hnl h).elim
     obtain ⟨o', ho', hcl⟩ := hpast i hp
     rw [ho] at ho'
     cases ho'
     refine I.float F hn ho hp hnl hcl hr hin fun σ1 w1 a1 I1 => ih _ σ1 w1 a1 I1 ?_
     have := left_set I.size hlt hnl
     omega
  refine loop fun fuel listed σ w a I hl hr => ?_
  have eun : ¬ isL listed e := I.todo e (by rw [List.cons_append]; unfold named; exact List.mem_cons_self ..)
  have he : e ∉ named (rest ++ tail) := by
   intro hj
   rw [named_append] at hj
   rcases List.mem_append.1 hj with hj | hj
   ·obtain ⟨g, hg, hb⟩ := chkS_pred hchk e hj
    rcases hg with rfl | hg
    ·exact eun (hr g hb)
    ·exact I.todo g (by rw [List.cons_append]; unfold named; rw [named_append]; exact List.mem_cons_of_mem _ (List.mem_append_right _ (List.mem_append_left _ hg))) (hr g hb)
   ·have := F.lt e oe hoe e (htl (e, L, A) (List.mem_cons_self ..) e hj)
    omega
  refine Inv.act hc F hn hlim I hoe he hr hfresh hL hF hA h' hnext (fun env2 H2 nx2 σ1 w1 a1 hk3 I1 hfix => ?_) (fun l H1 nx1 σ1 w1 c hk R E hden hdf hsz C => ?_)
  ·have hnl := left_set I.size helt eun
   have hpast' : ∀ i, i ∈ past' → ∃ o, ops[i]? = some o ∧ (cls o.op = 0 ∨ cls o.op = 1) := by
    intro i hi
    rcases (pastiff i).1 hi with hi | hi
    ·exact hpast i hi
    ·obtain ⟨o, ho, hne⟩ := chkF_cls hF i hi
     refine ⟨o, ho, ?_⟩
     have : cls o.op = 0 ∨ cls o.op = 1 ∨ cls o.op = 2 := by
      unfold cls
      split <;> first | exact .inl rfl | exact .inr (.inl rfl) | exact .inr (.inr rfl) | skip
      split <;> first | exact .inl rfl | exact .inr (.inr rfl)
     rcases this with h | h | h
     ·exact .inl h
     ·exact .inr h
     ·exact (hne h).elim
   have hblank' : ∀ t, t < 4096 → get2 t env0 = .und ∨ ((∀ (j : Nat) (q : Oper), ops[j]? = some q → q.dst ≠ some t) ∧ get2 t env0 = get2 t env2) := by
    intro t ht
    rcases hblank t ht with h | ⟨h1, h2⟩
    ·exact .inl h
    ·exact .inr ⟨h1, by rw [hfix t ht h1, h2]⟩
   exact stages_sem tail hc F hn hlim rest (some e) past' env2 H2 nx2 hchk (fun s hs => htl s (List.mem_cons_of_mem _ hs)) hpast' hblank' hk3 σ0 H0 w0 Q hQ hT fuel _ σ1 w1 a1 I1 (by omega)
  ·refine hQ l H1 nx1 σ1 w1 a c (hpan l H1 nx1 hk) R E ⟨⟨hsz, hn, fun t ht => ?_⟩, hdf⟩ C
   rcases hblank t ht with h | ⟨h1, h2⟩
   ·rw [h]; exact .und _
   ·rw [h2]; exact hden t ht h1
theorem tail_nil {P : Program} {nt : Nat} {ops : Array Oper} {as : List Nat} {res : Nat} {σ0 : Sg} {H0 : Heap} {w0 : World} {dfs : Dfs} {past : List Nat} {env : Env} {H : Heap} {nx : Nat} (F : OpsFact nt ops as) (hn : nt ≤ 4096) {Q : Exit → Act → World → Prop}
  (hpast : ∀ i, i ∈ past → ∃ o, ops[i]? = some o ∧ (cls o.op = 0 ∨ cls o.op = 1))
  (hQ : ∀ σ' w' a', Rel σ' H nx w' → Ext σ0 σ' H0 H res nx w0 w' → ARel σ' nt env dfs a' → Q .normal a' w') :
  ∀ fuel listed σ w a, Inv P nt ops as res σ0 H0 w0 dfs past [] env H nx listed σ w a → left ops listed ≤ fuel → wpAny P .any ops Q fuel listed a w := by
 have done : ∀ listed σ w a, Inv P nt ops as res σ0 H0 w0 dfs past [] env H nx listed σ w a → (∀ i, i < ops.size → isL listed i) → Q .normal a w := fun listed σ w a I hall =>
  hQ σ w a I.rel I.ext ⟨⟨I.tsize, hn, fun t ht => I.den t ht fun j q hj _ => hall j (Array.getElem?_eq_some_iff.1 hj).1⟩, I.dfs⟩
 intro fuel
 induction fuel with
 | zero =>
  intro listed σ w a I hl
  have hall := left_zero (by omega : left ops listed = 0)
  refine ⟨?_, done listed σ w a I hall⟩
  refine List.eq_nil_iff_forall_not_mem.2 fun i hi => ?_
  obtain ⟨o, ho, hnl, _⟩ := (mem_ready I.size).1 hi
  exact hnl (hall i (Array.getElem?_eq_some_iff.1 ho).1)
 | succ fuel ih =>
  intro listed σ w a I hl
  refine ⟨fun hnil => done listed σ w a I (ready_nil F I.size hnil), fun i hi => ?_⟩
  obtain ⟨o, ho, hnl, hed⟩ := (mem_ready I.size).1 hi
  have hlt : i < ops.size := (Array.getElem?_eq_some_iff.1 ho).1
  have hr : ∀ j, bit (as.getD i 0) j = true → isL listed j := fun j hj => by
   obtain ⟨e, he, hb, hc'⟩ := F.ahead i o ho j hj
   rcases hc' with rfl | hc'
   ·exact hed e he hb
   ·exact I.closed _ j (hed e he hb) hc'
  have hp : i ∈ past := by
   rcases I.all i hlt with h | h | h
   ·exact h
   ·cases h
   ·exact (hnl h).elim
  obtain ⟨o', ho', hcl⟩ := hpast i hp
  rw [ho] at ho'
  cases ho'
  refine I.float F hn ho hp hnl hcl hr (by intro h; cases h) fun σ1 w1 a1 I1 => ih _ σ1 w1 a1 I1 ?_
  have := left_set I.size hlt hnl
  omega
end Go.Vs
end
section
namespace Go.Vs
variable [GTab]
noncomputable section
theorem DenE.borns {σ : Sg} : ∀ {l : List AEnt} {l' : List MapEntry}, DenE σ l l' → l'.map (·.born) = l.map (·.born)
 | _, _, .nil => rfl
 | _, _, .cons _ _ hb t => by simp only [List.map_cons, hb, DenE.borns t]
theorem DenE.mem_of {σ : Sg} : ∀ {l : List AEnt} {l' : List MapEntry}, DenE σ l l' → ∀ e' ∈ l', ∃ e ∈ l, e'.born = e.born ∧ Den σ e.key e'.key ∧ Den σ e.val e'.val
 | _, _, .nil, e', h => by simp at h
 | _, _, .cons hk hv hb t, e', h => by
  rcases List.mem_cons.1 h with rfl | h
  ·exact ⟨_, List.mem_cons_self .., hb, hk, hv⟩
  ·obtain ⟨e, h1, h2⟩ := DenE.mem_of t e' h
   exact ⟨e, List.mem_cons_of_mem _ h1, h2⟩
theorem DenE.of_mem {σ : Sg} : ∀ {l : List AEnt} {l' : List MapEntry}, DenE σ l l' → ∀ e ∈ l, ∃ e' ∈ l', e'.born = e.born ∧ Den σ e.key e'.key ∧ Den σ e.val e'.val
 | _, _, .nil, e', h => by simp at h
 | _, _, .cons hk hv hb t, e, h => by
  rcases List.mem_cons.1 h with rfl | h
  ·exact ⟨_, List.mem_cons_self .., hb, hk, hv⟩
  ·obtain ⟨e', h1, h2⟩ := DenE.of_mem t e h
   exact ⟨e', List.mem_cons_of_mem _ h1, h2⟩
def vRange (P : Program) (t : TypeId) (x : AVal) (H : Heap) (nx : Nat) (κ : ARes → Prop) : Prop :=
 match P.underlying t with
 | some (.map _ _) => ∃ b es clock, x = .map b ∧ get5 b H = some (.map es clock) ∧ ∃ H', H' = set5 nx (some (.iter b clock [] clock)) H ∧ κ (.val (.ptr nx 0) H' (Nat.succ nx))
 | _ => False
theorem vRange_ok {P : Program} {o : Oper} {t : TypeId} {x : Operand} {ρ : Operand → AVal} {H : Heap} {nx : Nat} {κ : ARes → Prop} (ho : o.op = .range t x) (h : vRange P t (ρ x) H nx κ) : ∃ r, OpOK P o ρ H nx r ∧ κ r := by
 unfold vRange at h
 split at h <;> try exact h.elim
 rename_i kt et hu
 obtain ⟨b, es, clock, hx, hob, H', rfl, h⟩ := h
 refine ⟨_, ?_, h⟩
 intro σ w ρ' hr hd
 have dx := hd x; rw [hx] at dx
 cases hq : ρ' x <;> rw [hq] at dx <;> cases dx
 rename_i cb sz hb
 obtain ⟨es', h1, h2⟩ := hr.obj b _ cb sz hob hb
 have hn : σ nx = none := by
  cases e : σ nx with
  | none => rfl
  | some p => obtain ⟨c, s⟩ := p; have := (hr.dom nx c s e).1; omega
 obtain ⟨R, E⟩ := hr.allocObj (o1 := .iter b clock [] clock) (.mapIter (some cb) clock #[] clock) (by omega) rfl
  ⟨cb, sz, upd_sub hn _ _ hb, by show (w.heap.push _)[w.heap.size]? = _; simp⟩
 refine ⟨_, _, .pointer (some ⟨w.heap.size, 0, none⟩), R, E, .ptr (sz := 0) (by simp [upd]), .inl ?_⟩
 have hg : (getObj cb).run P w = .ok (.map es' clock) w := MapKept.run_getObj_map h1
 simp [execOp, ho, hq, Instr.range, run_underlying' hu, hg]
def NextQ (r m since : Nat) (seen : List Nat) (es : List AEnt) (clock : Nat) (H : Heap) (nx : Nat) (v : AVal) (H' : Heap) (nx' : Nat) : Prop :=
 nx' = nx ∧ ((v = .tuple [.bool false] ∧ H' = H ∧ ∀ e ∈ es, e.born ∈ seen) ∨ ∃ e ∈ es, e.born ∉ seen ∧ v = .tuple [.bool true, e.key, e.val] ∧ H' = set5 r (some (.iter m since (seen ++ [e.born]) clock)) H)
def B? (p : Prop) : Bool := @decide p (Classical.propDecidable p)
theorem B?_iff {p : Prop} : B? p = true ↔ p := by unfold B?; simp
def allBelow (es : List AEnt) (n : Nat) : Bool := B? (∀ e ∈ es, e.born < n)
def allSeen (es : List AEnt) (seen : List Nat) : Bool := B? (∀ e ∈ es, e.born ∈ seen)
def entIn (es : List AEnt) (k v : AVal) (b : Nat) : Bool := B? (⟨k, v, b⟩ ∈ es)
def isNew (b : Nat) (seen : List Nat) : Bool := B? (b ∉ seen)
def bornOnce (es : List AEnt) : Bool := B? ((es.map (·.born)).Nodup)
def vNext (it : AVal) (s : Bool) (H : Heap) (nx : Nat) (κ : ARes → Prop) : Prop :=
 match s with
 | true => False
 | false => ∃ r m since seen last es clock, it = .ptr r 0 ∧ get5 r H = some (.iter m since seen last) ∧ get5 m H = some (.map es clock) ∧ allBelow es since = true ∧ Nat.ble since last = true ∧
   (allSeen es seen = true → κ (.val (.tuple [.bool false]) H nx)) ∧
   (∀ k v b, entIn es k v b = true → isNew b seen = true → ∃ H', H' = set5 r (some (.iter m since (seen ++ [b]) clock)) H ∧ κ (.val (.tuple [.bool true, k, v]) H' nx))
theorem vNext_ok {P : Program} {o : Oper} {it : Operand} {s : Bool} {ρ : Operand → AVal} {H : Heap} {nx : Nat} {κ : ARes → Prop} (hany : ∀ Q, (∀ v H' nx', Q v H' nx' → κ (.val v H' nx')) → κ (.any Q)) (ho : o.op = .next it s) (h : vNext (ρ it) s H nx κ) : ∃ r, OpOK P o ρ H nx r ∧ κ r := by
 unfold vNext at h
 split at h
 ·exact h.elim
 obtain ⟨r, m, since, seen, last, es, clock, hit, h1, h2, hold, hsl, hc1, hc2⟩ := h
 have hold := B?_iff.1 hold
 have hsl := Nat.le_of_ble_eq_true hsl
 refine ⟨.any (NextQ r m since seen es clock H nx), ?_, hany _ fun v H' nx' hq => ?_⟩
 rotate_left
 ·obtain ⟨rfl, ⟨rfl, rfl, hs⟩ | ⟨e, he, hn, rfl, rfl⟩⟩ := hq
  ·exact hc1 (B?_iff.2 hs)
  ·obtain ⟨H', rfl, h⟩ := hc2 e.key e.val e.born (B?_iff.2 he) (B?_iff.2 hn)
   exact h
 intro σ w ρ' hr hd
 have dx := hd it; rw [hit] at dx
 cases hq : ρ' it <;> rw [hq] at dx <;> cases dx
 rename_i cb sz hb
 obtain ⟨mc, ms, hm, hrb⟩ := hr.obj r _ cb sz h1 hb
 obtain ⟨es', hmb, hden⟩ := hr.obj m _ mc ms h2 hm
 have hold' : ∀ x ∈ es'.toList, x.born < since := fun x hx => by
  obtain ⟨e, he, hbn, _⟩ := hden.mem_of x hx
  rw [hbn]; exact hold e he
 have hex : ∀ v w', (Instr.next (.pointer (some ⟨cb, 0, none⟩)) false o.type).run P w = .ok v w' → (execOp ρ' o).run P w = .ok (.value v) w' := by
  intro v w' hrun
  simp [execOp, ho, hq, hrun]
 rcases run_next_at (P := P) w o.type cb mc since last seen.toArray es' clock hrb hmb hold' hsl with ⟨h0, hrun⟩ | ⟨e', he', w1, hw1, hrun⟩
 ·refine ⟨.tuple [.bool false], H, nx, σ, w, _, ⟨rfl, .inl ⟨rfl, rfl, ?_⟩⟩, hr, Ext.refl _ _ _ _, .tuple (.cons (.bool false) .nil), hex _ _ hrun⟩
  intro e he
  obtain ⟨e', he', hbn, _⟩ := hden.of_mem e he
  have : leftOf es' seen.toArray = #[] := Array.eq_empty_of_size_eq_zero h0
  unfold leftOf at this
  rw [Array.filter_eq_empty_iff] at this
  have := this e' (by simpa using he')
  rw [← hbn]
  simpa using this
 ·have hmem : e' ∈ es'.toList ∧ e'.born ∉ seen := by
   unfold leftOf at he'
   simp at he'
   exact ⟨by simpa using he'.1, he'.2⟩
  obtain ⟨e, he, hbn, hk, hv⟩ := hden.mem_of e' hmem.1
  have hr1 : Rel σ H nx w1 ∧ Ext σ σ H H nx nx w w1 := by
   rcases hw1 with rfl | rfl
   ·exact ⟨hr, Ext.refl _ _ _ _⟩
   ·exact ⟨hr.drew, Ext.drew _ _ _ _⟩
  have hrb1 : w1.heap[cb]? = some (.mapIter (some mc) since seen.toArray last) := by rcases hw1 with rfl | rfl <;> exact hrb
  obtain ⟨s1, s2⟩ := MapKept.heap_set (o' := .mapIter (some mc) since (seen.toArray.push e'.born) clock) hrb1
  obtain ⟨R, E⟩ := hr1.1.storeObj (w' := ChangeMaps.setBlock w1 cb (.mapIter (some mc) since (seen.toArray.push e'.born) clock)) (o2 := .iter m since (seen ++ [e.born]) clock) hb h1 rfl rfl rfl
   ⟨mc, ms, hm, by rw [show (seen ++ [e.born]).toArray = seen.toArray.push e'.born by rw [hbn]; simp]; exact s1⟩ s2 rfl rfl rfl (by simp [ChangeMaps.setBlock]) (Nat.le_refl _)
  exact ⟨_, _, nx, σ, _, _, ⟨rfl, .inr ⟨e, he, by rw [← hbn]; exact hmem.2, rfl, rfl⟩⟩, R, hr1.2.trans E, .tuple (.cons (.bool true) (.cons hk (.cons hv .nil))), hex _ _ hrun⟩
def vEntry (it : AVal) (H : Heap) (nx : Nat) (κ : ARes → Prop) : Prop :=
 ∃ r m since seen last es k v b, it = .ptr r 0 ∧ get5 r H = some (.iter m since (seen ++ [b]) last) ∧ get5 m H = some (.map es last) ∧ entIn es k v b = true ∧ bornOnce es = true ∧ κ (.val (.tuple [k, v]) H nx)
theorem nodup_born {σ : Sg} {es : List AEnt} {es' : List MapEntry} (h : (es.map (·.born)).Nodup) (hd : DenE σ es es') : (es'.map (·.born)).Nodup := by rw [hd.borns]; exact h
theorem found_born {σ : Sg} : ∀ {es : List AEnt} {es' : List MapEntry}, DenE σ es es' → (es.map (·.born)).Nodup → ∀ {e e'}, e ∈ es → e' ∈ es' → e'.born = e.born → Den σ e.key e'.key ∧ Den σ e.val e'.val
 | _, _, .nil, _, _, _, hx, _, _ => by simp at hx
 | a :: l, a' :: l', .cons hk hv hb t, hn, e, e', hx, hx', hbn => by
  have hbs := t.borns
  rw [List.map_cons, List.nodup_cons] at hn
  rcases List.mem_cons.1 hx with rfl | hx
  ·rcases List.mem_cons.1 hx' with rfl | hx'
   ·exact ⟨hk, hv⟩
   ·exact (hn.1 (by rw [← hbs, ← hbn]; exact List.mem_map_of_mem hx')).elim
  ·rcases List.mem_cons.1 hx' with rfl | hx'
   ·exact (hn.1 (by rw [← hb, hbn]; exact List.mem_map_of_mem hx)).elim
   ·exact found_born t hn.2 hx hx' hbn
theorem vEntry_ok {P : Program} {o : Oper} {it : Operand} {ρ : Operand → AVal} {H : Heap} {nx : Nat} {κ : ARes → Prop} (ho : o.op = .entry it) (h : vEntry (ρ it) H nx κ) : ∃ r, OpOK P o ρ H nx r ∧ κ r := by
 obtain ⟨r, m, since, seen, last, es, k, v, b, hit, h1, h2, he, hn, h⟩ := h
 replace he : (⟨k, v, b⟩ : AEnt) ∈ es := B?_iff.1 he
 replace hn := B?_iff.1 hn
 obtain ⟨e, hee⟩ : ∃ e : AEnt, e = ⟨k, v, b⟩ := ⟨_, rfl⟩
 rw [← hee] at he
 obtain ⟨rfl, rfl, rfl⟩ : k = e.key ∧ v = e.val ∧ b = e.born := by rw [hee]; exact ⟨rfl, rfl, rfl⟩
 clear hee
 refine ⟨_, OpOK.pure fun σ w ρ' hr hd => ?_, h⟩
 have dx := hd it; rw [hit] at dx
 cases hq : ρ' it <;> rw [hq] at dx <;> cases dx
 rename_i cb sz hb
 obtain ⟨mc, ms, hm, hrb⟩ := hr.obj r _ cb sz h1 hb
 obtain ⟨es', hmb, hden⟩ := hr.obj m _ mc ms h2 hm
 obtain ⟨e', he', hbn, _, _⟩ := hden.of_mem e he
 have hrb' : w.heap[cb]? = some (.mapIter (some mc) since (seen.toArray.push e'.born) last) := by
  rw [hrb, show (seen ++ [e.born]).toArray = seen.toArray.push e'.born by rw [hbn]; simp]
 have hrun := run_entry_at (P := P) w cb mc since seen.toArray es' last e' hrb' hmb he' (nodup_born hn hden)
 have hkv := found_born hden hn he he' hbn
 refine ⟨_, .tuple (.cons hkv.1 (.cons hkv.2 .nil)), ?_⟩
 simp [execOp, ho, hq, hrun]
end
end Go.Vs
end
section
namespace Go.Vs
variable [GTab]
noncomputable section
inductive Sh where
 | bool
 | int (k : IntKind)
 | str
 | any
def shOf : TypeDesc → Sh
 | .bool => .bool
 | .int k => .int k
 | .string => .str
 | _ => .any
def shs (P : Program) : Nat → TypeId → Option (List Sh)
 | 0, _ => none
 | n + 1, t => match P.underlying t with
  | some (.struct fs) => fs.toList.foldr (fun f acc => match shs P n f.type, acc with
   | some a, some b => some (a ++ b)
   | _, _ => none) (some [])
  | some (.array len e) => match Nat.ble len 64, shs P n e with
   | true, some l => some (List.replicate len l).flatten
   | _, _ => none
  | some d => some [shOf d]
  | none => none
def exSh (s : Sh) (k : AVal → Prop) : Prop := match s with
 | .bool => ∃ b, k (.bool b)
 | .int kd => ∃ n, k (.int kd n)
 | .str => ∃ s, k (.str s)
 | .any => ∃ v, k v
def exShs : List Sh → (List AVal → Prop) → Prop
 | [], k => k []
 | s :: l, k => exSh s fun v => exShs l fun vs => k (v :: vs)
theorem exSh_ok {s : Sh} {k : AVal → Prop} (h : exSh s k) : ∃ v, k v := by
 cases s <;> (obtain ⟨x, h⟩ := h; exact ⟨_, h⟩)
theorem exShs_ok : ∀ {l : List Sh} {k : List AVal → Prop}, exShs l k → ∃ vs, k vs
 | [], _, h => ⟨_, h⟩
 | _ :: _, _, h => let ⟨_, h⟩ := exSh_ok h; let ⟨_, h⟩ := exShs_ok h; ⟨_, h⟩
def genV1 (P : Program) (t : TypeId) (k : AVal → Prop) : Prop :=
 match P.underlying t with
 | some d => match aggD d with
  | true => match shs P 9 t with
   | some l => exShs l fun cs => k (.agg cs)
   | none => ∃ v, k v
  | false => exSh (shOf d) k
 | none => ∃ v, k v
theorem genV1_ok {P : Program} {t : TypeId} {k : AVal → Prop} (h : genV1 P t k) : ∃ v, k v := by
 unfold genV1 at h
 split at h
 ·split at h
  ·split at h
   ·exact let ⟨_, h⟩ := exShs_ok h; ⟨_, h⟩
   ·exact h
  ·exact exSh_ok h
 ·exact h
def genVs (P : Program) : List TypeId → (List AVal → Prop) → Prop
 | [], k => k []
 | t :: l, k => genV1 P t fun v => genVs P l fun vs => k (v :: vs)
theorem genVs_ok {P : Program} : ∀ {l : List TypeId} {k : List AVal → Prop}, genVs P l k → ∃ vs, k vs
 | [], _, h => ⟨_, h⟩
 | _ :: _, _, h => let ⟨_, h⟩ := genV1_ok h; let ⟨_, h⟩ := genVs_ok h; ⟨_, h⟩
def typedV (P : Program) (t : TypeId) (v : AVal) (k : AVal → Prop) : Prop :=
 match P.underlying t with
 | some (.tuple ts) => match ts.toList with
  | [] => k v
  | ts => genVs P ts fun vs => v = .tuple vs ∧ k (.tuple vs)
 | some d => match aggD d, shOf d with
  | false, .any => k v
  | _, _ => genV1 P t fun v' => v = v' ∧ k v'
 | none => k v
theorem typedV_ok {P : Program} {t : TypeId} {v : AVal} {k : AVal → Prop} (h : typedV P t v k) : k v := by
 unfold typedV at h
 split at h
 ·split at h
  ·exact h
  ·obtain ⟨vs, e, h2⟩ := genVs_ok h; rw [e]; exact h2
 ·split at h
  ·exact h
  ·obtain ⟨v', e, h2⟩ := genV1_ok h; rw [e]; exact h2
 ·exact h
def ld1 (H : Heap) (a : AVal) : Option AVal :=
 match a with
 | .ptr b off => match get5 b H with
  | some (.cells n ct _ _) => match Nat.ble (Nat.succ off) n with
   | true => some (CT.get off ct)
   | false => none
  | _ => none
 | .gptr g off => match GTab.tab g with
  | some l => l[off]?
  | none => none
 | _ => none
def ldN (H : Heap) (sz : Nat) (a : AVal) : Option AVal :=
 match a with
 | .ptr b off => match get5 b H with
  | some (.cells n ct _ _) => match Nat.ble (Nat.add off sz) n with
   | true => some (.agg (CT.slab ct sz off))
   | false => none
  | _ => none
 | .gptr g off => match GTab.tab g with
  | some l => match Nat.ble (Nat.add off sz) l.length with
   | true => some (.agg ((l.drop off).take sz))
   | false => none
  | none => none
 | _ => none
def vLoad (P : Program) (t : TypeId) (H : Heap) (a : AVal) (k : AVal → Prop) : Prop :=
 match P.underlying t, P.info? t with
 | some d, some i => match aggD d with
  | true => genV1 P t fun v => ldN H i.size a = some v ∧ k v
  | false => genV1 P t fun v => ld1 H a = some v ∧ k v
 | _, _ => False
theorem vLoad_ok {P : Program} {t : TypeId} {H : Heap} {a : AVal} {k : AVal → Prop} (h : vLoad P t H a k) : ∃ v, aLoad P t H a = some v ∧ k v := by
 unfold vLoad at h
 split at h <;> try exact h.elim
 rename_i d i hd hi
 split at h
 ·rename_i hag
  obtain ⟨v, e, h⟩ := genV1_ok h
  refine ⟨v, ?_, h⟩
  unfold ldN at e
  unfold aLoad
  cases a <;> first | exact e | skip
  ·rename_i b off
   simp only [] at e ⊢
   cases hb : get5 b H with
   | none => rw [hb] at e; cases e
   | some o =>
    rw [hb] at e
    cases o with
    | map _ _ => cases e
    | iter _ _ _ _ => cases e
    | cells n ct o s => simp only [hd, hi, hag]; exact e
  ·rename_i g off
   simp only [] at e ⊢
   cases hb : GTab.tab g with
   | none => rw [hb] at e; cases e
   | some l => rw [hb] at e; simp only [hd, hi, hag]; exact e
 ·rename_i hag
  obtain ⟨v, e, h⟩ := genV1_ok h
  refine ⟨v, ?_, h⟩
  unfold ld1 at e
  unfold aLoad
  cases a <;> first | exact e | skip
  ·rename_i b off
   simp only [] at e ⊢
   cases hb : get5 b H with
   | none => rw [hb] at e; cases e
   | some o =>
    rw [hb] at e
    cases o with
    | map _ _ => cases e
    | iter _ _ _ _ => cases e
    | cells n ct o s => simp only [hd, hi, hag]; exact e
  ·rename_i g off
   simp only [] at e ⊢
   cases hb : GTab.tab g with
   | none => rw [hb] at e; cases e
   | some l => rw [hb] at e; simp only [hd, hi, hag]; exact e
def cellsT (P : Program) (t : TypeId) (v : AVal) (k : List AVal → Prop) : Prop :=
 match P.underlying t with
 | some d => match aggD d with
  | true => match v with
   | .agg cs => k cs
   | _ => False
  | false => cellv v = true ∧ k [v]
 | none => False
theorem cellsT_ok {P : Program} {t : TypeId} {v : AVal} {k : List AVal → Prop} (h : cellsT P t v k) : ∃ cs, acells v = some cs ∧ k cs := by
 unfold cellsT at h
 split at h <;> try exact h.elim
 split at h
 ·split at h <;> first | exact h.elim | exact ⟨_, rfl, h⟩
 ·obtain ⟨h1, h2⟩ := h
  refine ⟨[v], ?_, h2⟩
  cases v <;> first | rfl | (simp [cellv] at h1)
def stC (H : Heap) (a : AVal) (cs : List AVal) : Option Heap :=
 match a with
 | .ptr b off => match get5 b H with
  | some (.cells n ct olds false) => match Nat.ble (Nat.add off cs.length) n, allCell cs with
   | true, true => some (set5 b (some (.cells n (relay cs cs.length off n ct) [] false)) (dels olds H))
   | _, _ => none
  | _ => none
 | _ => none
def vStore (P : Program) (t : TypeId) (H : Heap) (a x : AVal) (k : Heap → Prop) : Prop :=
 match P.info? t with
 | some i => cellsT P t x fun cs => match Nat.beq cs.length i.size with
  | true => ∃ H', stC H a cs = some H' ∧ k H'
  | false => False
 | none => False
theorem vStore_ok {P : Program} {t : TypeId} {H : Heap} {a x : AVal} {k : Heap → Prop} (h : vStore P t H a x k) : ∃ H', aStore P t H a x = some H' ∧ k H' := by
 unfold vStore at h
 split at h <;> try exact h.elim
 rename_i i hi
 obtain ⟨cs, hcs, h⟩ := cellsT_ok h
 split at h <;> try exact h.elim
 rename_i hl
 obtain ⟨H', e, h⟩ := h
 refine ⟨H', ?_, h⟩
 have hl' := Nat.eq_of_beq_eq_true hl
 unfold stC at e
 unfold aStore
 split at e <;> try (cases e; done)
 rename_i b off
 split at e <;> try (cases e; done)
 rename_i n ct olds ho
 split at e <;> try (cases e; done)
 rename_i h1 h2
 cases e
 rw [hl'] at h1
 have hb : Nat.beq i.size i.size = true := Nat.beq_refl _
 simp only [hcs, hi, ho, h1, h2, hl', hb]
def vInt (op : BinOp) (k : IntKind) (a b : Int) (K : AVal → Prop) : Prop :=
 match op with
 | .add => K (.int k (k.wrap (a + b)))
 | .sub => K (.int k (k.wrap (a - b)))
 | .mul => K (.int k (k.wrap (a * b)))
 | .quo => b ≠ 0 ∧ K (.int k (k.wrap (a.tdiv b)))
 | .rem => b ≠ 0 ∧ K (.int k (a.tmod b))
 | .and => K (.int k (k.wrap (BitVec.ofInt k.bits a &&& BitVec.ofInt k.bits b).toNat))
 | .or => K (.int k (k.wrap (BitVec.ofInt k.bits a ||| BitVec.ofInt k.bits b).toNat))
 | .xor => K (.int k (k.wrap (BitVec.ofInt k.bits a ^^^ BitVec.ofInt k.bits b).toNat))
 | .andNot => K (.int k (k.wrap (BitVec.ofInt k.bits a &&& ~~~BitVec.ofInt k.bits b).toNat))
 | .eql => K (.bool (decide (a = b)))
 | .neq => K (.bool (!decide (a = b)))
 | .lss => K (.bool (decide (a < b)))
 | .leq => K (.bool (decide (a ≤ b)))
 | .gtr => K (.bool (decide (b < a)))
 | .geq => K (.bool (decide (b ≤ a)))
 | _ => False
theorem not_lt_b (a b : Int) : (!decide (b < a)) = decide (a ≤ b) := by rw [Bool.eq_iff_iff]; simp
theorem beq_b (a b : Int) : (a == b) = decide (a = b) := by rw [Bool.eq_iff_iff]; simp
theorem vInt_ok {op : BinOp} {k : IntKind} {a b : Int} {K : AVal → Prop} (h : vInt op k a b K) : ∃ v, aInt op k a b = some v ∧ K v := by
 unfold vInt at h
 unfold aInt
 cases op <;> simp only [forceI_eq, awrap_eq, ieq_eq, ilt_eq, bnot_eq] at h ⊢
 case quo =>
  obtain ⟨h0, h⟩ := h; have : (b == 0) = false := by simpa using h0
  simp only [this]; exact ⟨_, rfl, h⟩
 case rem =>
  obtain ⟨h0, h⟩ := h; have : (b == 0) = false := by simpa using h0
  simp only [this]; exact ⟨_, rfl, h⟩
 case leq => rw [← not_lt_b] at h; exact ⟨_, rfl, h⟩
 case geq => rw [← not_lt_b] at h; exact ⟨_, rfl, h⟩
 case eql => rw [← beq_b] at h; exact ⟨_, rfl, h⟩
 case neq => rw [← beq_b] at h; exact ⟨_, rfl, h⟩
 all_goals first | exact h.elim | exact ⟨_, rfl, h⟩
def vText (op : BinOp) (s t : List UInt8) (K : AVal → Prop) : Prop :=
 match op with
 | .add => s.length + t.length ≤ 9223372036854775807 ∧ K (.str (s ++ t))
 | .eql => K (.bool (s == t))
 | .neq => K (.bool (!(s == t)))
 | .lss => K (.bool (Op.bytesLess s t))
 | .leq => K (.bool (Op.bytesLess s t || s == t))
 | .gtr => K (.bool !(Op.bytesLess s t || s == t))
 | .geq => K (.bool !(Op.bytesLess s t))
 | _ => False
theorem vText_ok {op : BinOp} {s t : List UInt8} {K : AVal → Prop} (h : vText op s t K) : ∃ v, aText op s t = some v ∧ K v := by
 unfold vText at h
 unfold aText
 cases op <;> simp only [] at h ⊢
 case add =>
  obtain ⟨h0, h⟩ := h; have hb : Nat.ble (s.length + t.length) 9223372036854775807 = true := (by rw [Nat.ble_eq]; exact h0)
  rw [hb]; exact ⟨_, rfl, h⟩
 all_goals first | exact h.elim | exact ⟨_, rfl, h⟩
inductive NK where
 | ptr | slice | map | func | iface
def nkOf : TypeDesc → Option NK
 | .pointer _ => some .ptr
 | .slice _ => some .slice
 | .map _ _ => some .map
 | .func _ _ _ => some .func
 | .interface _ => some .iface
 | _ => none
def nilK (k : NK) (v : AVal) : Option Bool :=
 match k, v with
 | .ptr, .ptr _ _ => some false
 | .ptr, .nilPtr => some true
 | .slice, .slice .. => some false
 | .slice, .nilSlice => some true
 | .slice, .gslice .. => some false
 | .map, .map _ => some false
 | .map, .nilMap => some true
 | .func, .func _ _ _ => some false
 | .func, .nilFunc => some true
 | .iface, .iface _ _ => some false
 | .iface, .nilIface => some true
 | _, _ => none
theorem nilK_ok {d : TypeDesc} {k : NK} {v : AVal} {p : Bool} (hk : nkOf d = some k) (h : nilK k v = some p) : nilness d v = some p := by
 cases d <;> simp only [nkOf, reduceCtorEq, Option.some.injEq] at hk
 all_goals (subst hk; cases v <;> simp only [nilK, reduceCtorEq] at h <;> exact h)
def vEqs : List AVal → List AVal → (Bool → Prop) → Prop
 | [], [], K => K true
 | .int k a :: cs, .int k' b :: ds, K => match decide (k = k') with
  | true => vEqs cs ds fun r => K (decide (a = b) && r)
  | false => False
 | _, _, _ => False
theorem vEqs_ok : ∀ {cs ds : List AVal} {K : Bool → Prop}, vEqs cs ds K → ∃ r, aggEq cs ds = some r ∧ K r
 | [], [], K, h => ⟨true, rfl, h⟩
 | c :: cs, [], K, h => by unfold vEqs at h; split at h <;> first | exact h.elim | contradiction
 | [], d :: ds, K, h => by unfold vEqs at h; exact h.elim
 | c :: cs, d :: ds, K, h => by
  unfold vEqs at h
  split at h
  ·rename_i e _; cases e
  ·rename_i k a cs' k' b ds' e1 e2
   cases e1; cases e2
   split at h
   ·rename_i hk
    obtain ⟨r, e, h⟩ := vEqs_ok h
    exact ⟨_, by unfold aggEq; simp only [hk, e], h⟩
   ·exact h.elim
  ·exact h.elim
def vBin (P : Program) (op : BinOp) (t : TypeId) (x y : Operand) (a b : AVal) (K : AVal → Prop) : Prop :=
 match P.underlying t with
 | some (.int _) => match op with
  | .shl => match a, b with
   | .int k1 n, .int _ m => 0 ≤ m ∧ K (.int k1 (k1.wrap (n * 2 ^ (min m.toNat k1.bits))))
   | _, _ => False
  | .shr => match a, b with
   | .int k1 n, .int _ m => 0 ≤ m ∧ K (.int k1 (n.fdiv (2 ^ (min m.toNat k1.bits))))
   | _, _ => False
  | op => match a, b with
   | .int k1 n, .int k2 m => match decide (k1 = k2) with
    | true => vInt op k1 n m K
    | false => False
   | _, _ => False
 | some .string => match a, b with
  | .str s, .str u => vText op s u K
  | _, _ => False
 | some .bool => match op with
  | .eql => match a, b with
   | .bool p, .bool q => K (.bool (p == q))
   | _, _ => False
  | .neq => match a, b with
   | .bool p, .bool q => K (.bool (!(p == q)))
   | _, _ => False
  | _ => False
 | some (.struct _) => match a, b with
  | .agg cs, .agg ds => structOK P t cs.length = true ∧ vEqs cs ds fun r => match op with
   | .eql => K (.bool r)
   | .neq => K (.bool (!r))
   | _ => False
  | _, _ => False
 | some d => match nkOf d, isConstO x, isConstO y with
  | some k, false, true => match nilK k b with
   | some true => match op with
    | .eql => ∃ p, nilK k a = some p ∧ K (.bool p)
    | .neq => ∃ p, nilK k a = some p ∧ K (.bool (!p))
    | _ => False
   | _ => False
  | some k, true, _ => match nilK k a with
   | some true => match op with
    | .eql => ∃ p, nilK k b = some p ∧ K (.bool p)
    | .neq => ∃ p, nilK k b = some p ∧ K (.bool (!p))
    | _ => False
   | _ => False
  | _, _, _ => False
 | none => False
theorem eqB (p q : Bool) : (Bool.rec (!q) q p : Bool) = (p == q) := by cases p <;> cases q <;> rfl
theorem vBin_ok {P : Program} {op : BinOp} {t : TypeId} {x y : Operand} {ρ : Operand → AVal} {H : Heap} {nx : Nat} {K : AVal → Prop} (h : vBin P op t x y (ρ x) (ρ y) K) :
  ∃ v, opBin P op t x y ρ H nx = some (.val v H nx) ∧ K v := by
 unfold vBin at h
 split at h <;> try exact h.elim
 ·rename_i kd hu
  split at h
  ·split at h <;> try exact h.elim
   rename_i k1 n k2 m hx hy
   obtain ⟨h0, h⟩ := h
   have : (ilt m 0) = false := by rw [ilt_eq]; simp; exact h0
   refine ⟨_, ?_, h⟩
   unfold opBin
   simp only [hx, hy, aShift, this, forceI_eq]
  ·split at h <;> try exact h.elim
   rename_i k1 n k2 m hx hy
   obtain ⟨h0, h⟩ := h
   have : (ilt m 0) = false := by rw [ilt_eq]; simp; exact h0
   refine ⟨_, ?_, h⟩
   unfold opBin
   simp only [hx, hy, aShift, this, forceI_eq]
  ·rename_i hn1 hn2
   split at h <;> try exact h.elim
   rename_i k1 n k2 m hx hy
   split at h <;> try exact h.elim
   rename_i hk
   obtain ⟨v, e, h⟩ := vInt_ok h
   refine ⟨v, ?_, h⟩
   cases op <;> first | exact (hn1 rfl).elim | exact (hn2 rfl).elim | (unfold opBin; simp only [hx, hy, hk, e])
 ·rename_i hu
  split at h <;> try exact h.elim
  rename_i s u hx hy
  obtain ⟨v, e, h⟩ := vText_ok h
  refine ⟨v, ?_, h⟩
  unfold opBin
  simp only [hx, hy, e]
 ·rename_i hu
  split at h <;> try exact h.elim
  all_goals
   split at h <;> try exact h.elim
   rename_i p q hx hy
   refine ⟨_, ?_, h⟩
   unfold opBin
   simp only [hx, hy, aEq2, aEq, hu, bnot_eq]
   rw [eqB]
 ·rename_i fs hu
  split at h <;> try exact h.elim
  rename_i cs ds hx hy
  obtain ⟨hok, h⟩ := h
  obtain ⟨r, hr, h⟩ := vEqs_ok h
  split at h <;> try exact h.elim
  all_goals
   refine ⟨_, ?_, h⟩
   unfold opBin
   simp only [hx, hy, aEq2, hok, hr, bnot_eq]
 ·rename_i d hnb hni hns hst hu
  have other : ∀ k q, nilK k (ρ x) = some q → (op = .eql ∨ op = .neq) → ∀ s, aEq P t x y (ρ x) (ρ y) = some s →
    opBin P op t x y ρ H nx = some (.val (.bool (match op with | .eql => s | _ => !s)) H nx) := by
   intro k q ha hop s hs
   have hs : aEq2 P t x y (ρ x) (ρ y) = some s := by
    unfold aEq2
    split
    ·rename_i hx hy; rw [hx] at ha; cases k <;> cases ha
    ·exact hs
   unfold opBin
   split
   ·rename_i hx hy; rw [hx] at ha; cases k <;> cases ha
   ·rename_i hx hy; rw [hx] at ha; cases k <;> cases ha
   ·rcases hop with rfl | rfl <;> simp only [hs, bnot_eq]
  split at h <;> try exact h.elim
  ·rename_i k hk hcx hcy
   split at h <;> try exact h.elim
   rename_i hb
   have e : ∀ p, nilK k (ρ x) = some p → aEq P t x y (ρ x) (ρ y) = some p := by
    intro p hp
    unfold aEq
    rw [hu]
    simp only [nilK_ok hk hp, nilK_ok hk hb, hcx, hcy]
   split at h <;> try exact h.elim
   ·obtain ⟨p, hp, h⟩ := h
    exact ⟨_, other k p hp (.inl rfl) p (e p hp), h⟩
   ·obtain ⟨p, hp, h⟩ := h
    exact ⟨_, other k p hp (.inr rfl) p (e p hp), h⟩
  ·rename_i k hk hcx
   split at h <;> try exact h.elim
   rename_i hb
   have e : ∀ p, nilK k (ρ y) = some p → aEq P t x y (ρ x) (ρ y) = some p := by
    intro p hp
    unfold aEq
    rw [hu]
    simp only [nilK_ok hk hp, nilK_ok hk hb, hcx]
   split at h <;> try exact h.elim
   ·obtain ⟨p, hp, h⟩ := h
    exact ⟨_, other k true hb (.inl rfl) p (e p hp), h⟩
   ·obtain ⟨p, hp, h⟩ := h
    exact ⟨_, other k true hb (.inr rfl) p (e p hp), h⟩
def addOff (a : AVal) (c : Nat) : Option AVal :=
 match a with
 | .ptr b off => some (.ptr b (Nat.add off c))
 | .gptr g off => some (.gptr g (Nat.add off c))
 | _ => none
def idxS (v : AVal) (n esz : Nat) : Option AVal :=
 match v with
 | .slice b off len _ _ => match Nat.ble (Nat.succ n) len with
  | true => some (.ptr b (Nat.add off (Nat.mul n esz)))
  | false => none
 | .gslice g off len _ => match Nat.ble (Nat.succ n) len with
  | true => some (.gptr g (Nat.add off (Nat.mul n esz)))
  | false => none
 | _ => none
def lenS (v : AVal) : Option Nat :=
 match v with
 | .slice _ _ n _ _ => some n
 | .nilSlice => some 0
 | .gslice _ _ n _ => some n
 | _ => none
def slcS (v : AVal) (esz l : Nat) (h : Option Nat) : Option AVal :=
 match v with
 | .slice b off len e full => match h.getD len with
  | h => match Nat.ble h len, Nat.ble l h, Nat.beq esz e with
   | true, true, true => some (.slice b (Nat.add off (Nat.mul l e)) (Nat.sub h l) e (Bool.rec false full (Nat.beq h len)))
   | _, _, _ => none
 | .nilSlice => match l, h with
  | 0, none => some .nilSlice
  | 0, some 0 => some .nilSlice
  | _, _ => none
 | .gslice g off len e => match h.getD len with
  | h => match Nat.ble h len, Nat.ble l h, Nat.beq esz e with
   | true, true, true => some (.gslice g (Nat.add off (Nat.mul l e)) (Nat.sub h l) e)
   | _, _, _ => none
 | _ => none
def strOf (H : Heap) (v : AVal) : Option (List UInt8) :=
 match v with
 | .slice b off n _ _ => match get5 b H with
  | some (.cells cnt ct _ _) => match Nat.ble (Nat.add off n) cnt with
   | true => bytesOf (CT.slab ct n off)
   | false => none
  | _ => none
 | .nilSlice => some []
 | _ => none
def vFieldAddr (P : Program) (s : TypeId) (f : Nat) (a : AVal) (K : AVal → Prop) : Prop :=
 match P.underlying s with
 | some (.struct fields) => match fields[f]? with
  | some fd => match P.info? fd.type with
   | some i => match Nat.beq i.size 0 with
    | false => ∃ v, addOff a fd.offset = some v ∧ K v
    | true => False
   | none => False
  | none => False
 | _ => False
theorem vFieldAddr_ok {P : Program} {s : TypeId} {f : Nat} {x : Operand} {ρ : Operand → AVal} {H : Heap} {nx : Nat} {K : AVal → Prop} (h : vFieldAddr P s f (ρ x) K) :
  ∃ v, opFieldAddr P s x f ρ H nx = some (.val v H nx) ∧ K v := by
 unfold vFieldAddr at h
 split at h <;> try exact h.elim
 rename_i fields hu
 split at h <;> try exact h.elim
 rename_i fd hf
 split at h <;> try exact h.elim
 rename_i i hi
 split at h <;> try exact h.elim
 rename_i hz
 obtain ⟨v, e, h⟩ := h
 refine ⟨v, ?_, h⟩
 unfold addOff at e
 unfold opFieldAddr
 simp only [hu, hf, hi, hz]
 split at e <;> try (cases e; done)
 ·rename_i hx; cases e; rw [hx]
 ·rename_i hx; cases e; rw [hx]
theorem asNat_nn {i : Int} (h : 0 ≤ i) : asNat i = some i.toNat := by
 cases i with
 | ofNat n => rfl
 | negSucc n => omega
def vIndexAddr (P : Program) (t : TypeId) (a ix : AVal) (K : AVal → Prop) : Prop :=
 match ix with
 | .int _ i => match P.underlying t with
  | some (.array len elem) => match P.info? elem with
   | some e => 0 ≤ i ∧ i.toNat < len ∧ ∃ v, addOff a (Nat.mul i.toNat e.size) = some v ∧ K v
   | none => False
  | some (.slice elem) => match P.info? elem with
   | some e => 0 ≤ i ∧ ∃ v, idxS a i.toNat e.size = some v ∧ K v
   | none => False
  | _ => False
 | _ => False
theorem vIndexAddr_ok {P : Program} {t : TypeId} {x ix : Operand} {ρ : Operand → AVal} {H : Heap} {nx : Nat} {K : AVal → Prop} (h : vIndexAddr P t (ρ x) (ρ ix) K) :
  ∃ v, opIndexAddr P t x ix ρ H nx = some (.val v H nx) ∧ K v := by
 unfold vIndexAddr at h
 split at h <;> try exact h.elim
 rename_i k i hix
 split at h <;> try exact h.elim
 ·rename_i len elem hu
  split at h <;> try exact h.elim
  rename_i e he
  obtain ⟨h0, hlt, v, ev, h⟩ := h
  refine ⟨v, ?_, h⟩
  have hb : Nat.ble (Nat.succ i.toNat) len = true := by rw [Nat.ble_eq]; omega
  unfold opIndexAddr
  unfold addOff at ev
  simp only [hix, asNat_nn h0, hu]
  split at ev <;> try (cases ev; done)
  ·rename_i hx; cases ev; simp only [hx, hb, he]
  ·rename_i hx; cases ev; simp only [hx, hb, he]
 ·rename_i elem hu
  split at h <;> try exact h.elim
  rename_i e he
  obtain ⟨h0, v, ev, h⟩ := h
  refine ⟨v, ?_, h⟩
  unfold opIndexAddr
  unfold idxS at ev
  simp only [hix, asNat_nn h0, hu]
  split at ev <;> try (cases ev; done)
  ·rename_i hx
   split at ev <;> try (cases ev; done)
   rename_i hb
   cases ev
   simp only [hx, hb, he]
  ·rename_i hx
   split at ev <;> try (cases ev; done)
   rename_i hb
   cases ev
   simp only [hx, hb, he]
def vIndex (P : Program) (t : TypeId) (a ix : AVal) (K : AVal → Prop) : Prop :=
 match ix with
 | .int _ i => match P.underlying t with
  | some (.array len elem) => match a with
   | .agg cs => match P.info? elem with
    | some e => 0 ≤ i ∧ i.toNat < len ∧ genV1 P elem fun v => aPart P elem cs (Nat.mul i.toNat e.size) = some v ∧ K v
    | none => False
   | _ => False
  | some .string => match a with
   | .str s => 0 ≤ i ∧ ∃ c, s[i.toNat]? = some c ∧ K (.int .u8 (.ofNat c.toNat))
   | _ => False
  | _ => False
 | _ => False
theorem vIndex_ok {P : Program} {t : TypeId} {x ix : Operand} {ρ : Operand → AVal} {H : Heap} {nx : Nat} {K : AVal → Prop} (h : vIndex P t (ρ x) (ρ ix) K) :
  ∃ v, opIndex P t x ix ρ H nx = some (.val v H nx) ∧ K v := by
 unfold vIndex at h
 split at h <;> try exact h.elim
 rename_i k i hix
 split at h <;> try exact h.elim
 ·rename_i len elem hu
  split at h <;> try exact h.elim
  rename_i cs hx
  split at h <;> try exact h.elim
  rename_i e he
  obtain ⟨h0, hlt, h⟩ := h
  obtain ⟨v, ev, h⟩ := genV1_ok h
  refine ⟨v, ?_, h⟩
  have hb : Nat.ble (Nat.succ i.toNat) len = true := by rw [Nat.ble_eq]; omega
  unfold opIndex
  simp only [hix, asNat_nn h0, hu, hx, hb, he, ev]
 ·rename_i hu
  split at h <;> try exact h.elim
  rename_i s hx
  obtain ⟨h0, c, ec, h⟩ := h
  refine ⟨_, ?_, h⟩
  unfold opIndex
  simp only [hix, asNat_nn h0, hu, hx, ec]
def vBnd (x : Option AVal) (K : Option Nat → Prop) : Prop :=
 match x with
 | none => K none
 | some (.int _ i) => 0 ≤ i ∧ K (some i.toNat)
 | some _ => False
theorem vBnd_ok {x : Option Operand} {ρ : Operand → AVal} {K : Option Nat → Prop} (h : vBnd (x.map ρ) K) : ∃ n, K n ∧ ∀ d, bnd d x ρ = some (n.getD d) := by
 unfold vBnd at h
 cases x with
 | none => exact ⟨none, h, fun d => rfl⟩
 | some y =>
  simp only [Option.map_some] at h
  split at h <;> try exact h.elim
  ·rename_i e; cases e
  ·rename_i k i e
   obtain ⟨h0, h⟩ := h
   refine ⟨some i.toNat, h, fun d => ?_⟩
   have e' : ρ y = .int k i := Option.some.inj e
   simp only [bnd, e', asNat_nn h0, Option.getD_some]
def vSlice (P : Program) (t : TypeId) (a : AVal) (lo hi mx : Option AVal) (H : Heap) (K : AVal → Prop) : Prop :=
 match mx with
 | some _ => False
 | none => match P.underlying t with
  | some .string => match a with
   | .str s => vBnd lo fun l => vBnd hi fun h => h.getD s.length ≤ s.length ∧ l.getD 0 ≤ h.getD s.length ∧ K (.str ((s.drop (l.getD 0)).take (h.getD s.length - l.getD 0)))
   | _ => False
  | some (.slice elem) => match P.info? elem with
   | some e => vBnd lo fun l => vBnd hi fun h => ∃ v, slcS a e.size (l.getD 0) h = some v ∧ K v
   | none => False
  | _ => False
theorem vSlice_ok {P : Program} {t : TypeId} {x : Operand} {lo hi mx : Option Operand} {ρ : Operand → AVal} {H : Heap} {nx : Nat} {K : AVal → Prop} (h : vSlice P t (ρ x) (lo.map ρ) (hi.map ρ) (mx.map ρ) H K) :
  ∃ v, opSlice P t x lo hi mx ρ H nx = some (.val v H nx) ∧ K v := by
 unfold vSlice at h
 split at h <;> try exact h.elim
 rename_i hm
 have hm' : mx = none := by cases mx with
  | none => rfl
  | some y => cases hm
 subst hm'
 split at h <;> try exact h.elim
 ·rename_i hu
  split at h <;> try exact h.elim
  rename_i s hx
  obtain ⟨l, h, hl⟩ := vBnd_ok h
  obtain ⟨hh, h, hhi⟩ := vBnd_ok h
  obtain ⟨h1, h2, h⟩ := h
  refine ⟨_, ?_, h⟩
  unfold opSlice
  have b1 : Nat.ble (hh.getD s.length) s.length = true := by rw [Nat.ble_eq]; exact h1
  have b2 : Nat.ble (l.getD 0) (hh.getD s.length) = true := by rw [Nat.ble_eq]; exact h2
  simp only [hu, hx, hl, hhi, b1, b2]
 ·rename_i elem hu
  split at h <;> try exact h.elim
  rename_i e he
  obtain ⟨l, h, hl⟩ := vBnd_ok h
  obtain ⟨hh, h, hhi⟩ := vBnd_ok h
  obtain ⟨v, ev, h⟩ := h
  refine ⟨v, ?_, h⟩
  unfold opSlice
  unfold slcS at ev
  split at ev <;> try (cases ev; done)
  ·rename_i b off len es full hx
   simp only [] at ev
   split at ev <;> try (cases ev; done)
   rename_i b1 b2 b3
   cases ev
   simp only [hu, hx, hl, hhi, he, b1, b2, b3, forceN_eq]
  ·rename_i hx
   split at ev <;> try (cases ev; done)
   ·rename_i q1; cases ev; simp only [hu, hx, hl, hhi, he, Option.getD_none, q1]
   ·rename_i q1; cases ev; simp only [hu, hx, hl, hhi, he, Option.getD_some, q1]
  ·rename_i g off len es hx
   simp only [] at ev
   split at ev <;> try (cases ev; done)
   rename_i b1 b2 b3
   cases ev
   simp only [hu, hx, hl, hhi, he, b1, b2, b3]
def vConv (P : Program) (src dst : TypeId) (a : AVal) (H : Heap) (K : AVal → Prop) : Prop :=
 match P.underlying src, P.underlying dst with
 | some (.int _), some (.int k) => match a with
  | .int _ n => K (.int k (k.wrap n))
  | _ => False
 | some .string, some .string => match a with
  | .str s => K (.str s)
  | _ => False
 | some (.slice e), some .string => match P.underlying e with
  | some (.int .u8) => ∃ s, strOf H a = some s ∧ K (.str s)
  | _ => False
 | _, _ => False
theorem vConv_ok {P : Program} {src dst : TypeId} {x : Operand} {ρ : Operand → AVal} {H : Heap} {nx : Nat} {K : AVal → Prop} (h : vConv P src dst (ρ x) H K) :
  ∃ v, opConv P src dst x ρ H nx = some (.val v H nx) ∧ K v := by
 unfold vConv at h
 split at h <;> try exact h.elim
 ·rename_i k0 k hs hd
  split at h <;> try exact h.elim
  rename_i k1 n hx
  refine ⟨_, ?_, h⟩
  unfold opConv
  simp only [hs, hd, hx, forceI_eq, awrap_eq]
 ·rename_i hs hd
  split at h <;> try exact h.elim
  rename_i s hx
  refine ⟨_, ?_, h⟩
  unfold opConv
  simp only [hs, hd, hx]
 ·rename_i el hs hd
  split at h <;> try exact h.elim
  rename_i hel
  obtain ⟨s, es, h⟩ := h
  refine ⟨_, ?_, h⟩
  unfold opConv
  unfold strOf at es
  split at es <;> try (cases es; done)
  ·rename_i b off n esz full hx
   split at es <;> try (cases es; done)
   rename_i cnt ct o sp hb
   split at es <;> try (cases es; done)
   rename_i hle
   simp only [hs, hd, hx, hel, hb, hle, es]
  ·rename_i hx
   cases es
   simp only [hs, hd, hx, hel]
def vFill (P : Program) (place : Nat → Option (Nat × Nat × TypeId)) (ρ : Operand → AVal) (cells : List AVal) (l : List (Nat × Operand)) (K : List AVal → Prop) : Prop :=
 match l with
 | [] => K cells
 | (i, x) :: rest => match place i with
  | some (off, size, t) => cellsT P t (ρ x) fun cs => match Nat.beq cs.length size, Nat.ble (Nat.add off size) cells.length with
   | true, true => vFill P place ρ (seg off cs cells) rest K
   | _, _ => False
  | none => False
theorem vFill_ok {P : Program} {place : Nat → Option (Nat × Nat × TypeId)} {ρ : Operand → AVal} : ∀ {l : List (Nat × Operand)} {cells : List AVal} {K : List AVal → Prop}, vFill P place ρ cells l K →
  ∃ cs, aFill (fun i => (place i).map fun p => (p.1, p.2.1)) ρ cells l = some cs ∧ K cs
 | [], _, _, h => ⟨_, rfl, h⟩
 | (i, x) :: rest, cells, K, h => by
  unfold vFill at h
  split at h <;> try exact h.elim
  rename_i off size t hp
  obtain ⟨cs, hcs, h⟩ := cellsT_ok h
  split at h <;> try exact h.elim
  rename_i h1 h2
  obtain ⟨r, e, h⟩ := vFill_ok h
  refine ⟨r, ?_, h⟩
  unfold aFill
  simp only [hp, hcs, h1, h2, Option.map_some]
  exact e
def placesT (P : Program) : List Field → Option (List (Nat × Nat × TypeId))
 | [] => some []
 | f :: l => match P.info? f.type, placesT P l with
  | some i, some r => some ((f.offset, i.size, f.type) :: r)
  | _, _ => none
theorem placesT_ok {P : Program} : ∀ {l : List Field} {r : List (Nat × Nat × TypeId)}, placesT P l = some r → places P l = some (r.map fun p => (p.1, p.2.1))
 | [], _, h => by cases h; rfl
 | f :: l, r, h => by
  unfold placesT at h
  split at h <;> try (cases h; done)
  rename_i i r' hi hr
  cases h
  unfold places
  simp only [hi, placesT_ok hr, List.map_cons]
def vBuild (P : Program) (t : TypeId) (parts : List (Nat × Operand)) (ρ : Operand → AVal) (K : List AVal → Prop) : Prop :=
 match zeroL P t, P.underlying t with
 | some z, some (.struct fields) => match placesT P fields.toList with
  | some pl => vFill P (fun i => pl[i]?) ρ z parts K
  | none => False
 | some z, some (.array _ elem) => match P.info? elem with
  | some e => vFill P (fun i => some (Nat.mul i e.size, e.size, elem)) ρ z parts K
  | none => False
 | _, _ => False
theorem vBuild_ok {P : Program} {t : TypeId} {parts : Array (Nat × Operand)} {ρ : Operand → AVal} {K : List AVal → Prop} (h : vBuild P t parts.toList ρ K) : ∃ cs, aBuild P t parts ρ = some cs ∧ K cs := by
 unfold vBuild at h
 unfold aBuild
 split at h <;> try exact h.elim
 ·rename_i z fields hz hu
  split at h <;> try exact h.elim
  rename_i pl hpl
  obtain ⟨cs, e, h⟩ := vFill_ok h
  refine ⟨cs, ?_, h⟩
  simp only [hz, hu, placesT_ok hpl, List.getElem?_map]
  exact e
 ·rename_i z len elem hz hu
  split at h <;> try exact h.elim
  rename_i e he
  obtain ⟨cs, e', h⟩ := vFill_ok h
  refine ⟨cs, ?_, h⟩
  simp only [hz, hu, he]
  exact e'
def forceA (v : AVal) (k : AVal → Prop) : Prop := match v with
 | .int t n => k (.int t n)
 | .bool b => k (.bool b)
 | .str [] => k (.str [])
 | .nilSlice => k .nilSlice
 | .nilPtr => k .nilPtr
 | v => k v
theorem forceA_eq (v : AVal) (k : AVal → Prop) : forceA v k = k v := by unfold forceA; split <;> rfl
def forceL : List AVal → (List AVal → Prop) → Prop
 | [], k => k []
 | v :: l, k => forceA v fun v => forceL l fun l => k (v :: l)
theorem forceL_eq : ∀ (l : List AVal) (k : List AVal → Prop), forceL l k = k l
 | [], _ => rfl
 | v :: l, k => by unfold forceL; rw [forceA_eq, forceL_eq l]
def vMade (P : Program) (op : Op) (ρ : Operand → AVal) (K : Made → Prop) : Prop :=
 match op with
 | .alloc t => match zeroL P t with
  | some z => forceL z fun z => match Nat.ble z.length 4096 with
   | true => K ⟨z.length, z, fun b => .ptr b 0⟩
   | false => False
  | none => False
 | .box t x => cellsT P t (ρ x) fun cs => match Nat.ble cs.length 4096 with
  | true => K ⟨cs.length, cs, fun b => .ptr b 0⟩
  | false => False
 | .buildSlice t len parts => match P.underlying t with
  | some (.slice elem) => match zeroL P elem, P.info? elem with
   | some z, some e => match Nat.ble (Nat.mul len e.size) 4096, Nat.beq e.size 0 with
    | true, false => vFill P (fun i => some (Nat.mul i e.size, e.size, elem)) ρ (repL z len) parts.toList fun cs => K ⟨Nat.mul len e.size, cs, fun b => .slice b 0 len e.size true⟩
    | _, _ => False
   | _, _ => False
  | _ => False
 | .makeSlice t l c => match P.underlying t with
  | some (.slice elem) => match zeroL P elem, P.info? elem with
   | some z, some e => match Nat.beq e.size 0 with
    | false => match ρ l, ρ c with
     | .int _ n, .int _ m => n = m ∧ 0 ≤ n ∧ n.toNat * e.size ≤ 9223372036854775807 ∧ n.toNat * e.bytes ≤ 140737488355328 ∧ n.toNat ≤ 9223372036854775807 ∧
       K ⟨Nat.mul n.toNat e.size, repL z n.toNat, fun b => .slice b 0 n.toNat e.size true⟩
     | _, _ => False
    | true => False
   | _, _ => False
  | _ => False
 | _ => False
theorem ble_of {a b : Nat} (h : a ≤ b) : Nat.ble a b = true := by rw [Nat.ble_eq]; exact h
theorem vMade_ok {P : Program} {op : Op} {ρ : Operand → AVal} {K : Made → Prop} (h : vMade P op ρ K) : ∃ m, made P op ρ = some m ∧ Nat.ble m.n 9223372036854775807 = true ∧ K m := by
 unfold vMade at h
 split at h <;> try exact h.elim
 ·split at h <;> try exact h.elim
  rename_i z hz
  rw [forceL_eq] at h
  split at h <;> try exact h.elim
  rename_i hb
  refine ⟨_, ?_, ble_of (Nat.le_trans (Nat.le_of_ble_eq_true hb) (by decide)), h⟩
  simp only [made, madeAlloc, hz]
 ·obtain ⟨cs, hcs, h⟩ := cellsT_ok h
  split at h <;> try exact h.elim
  rename_i hb
  refine ⟨_, ?_, ble_of (Nat.le_trans (Nat.le_of_ble_eq_true hb) (by decide)), h⟩
  simp only [made, madeBox, hcs, forceN_eq]
 ·rename_i t len parts
  split at h <;> try exact h.elim
  rename_i elem hu
  split at h <;> try exact h.elim
  rename_i z e hz he
  split at h <;> try exact h.elim
  rename_i h1 h2
  obtain ⟨cs, e', h⟩ := vFill_ok h
  refine ⟨_, ?_, ble_of (Nat.le_trans (Nat.le_of_ble_eq_true h1) (by decide)), h⟩
  simp only [made, madeSliceLit, hu, hz, he, h1, h2]
  have e2 : aFill (fun i => some (Nat.mul i e.size, e.size)) ρ (repL z len) parts.toList = some cs := e'
  rw [e2]
 ·rename_i t l c
  split at h <;> try exact h.elim
  rename_i elem hu
  split at h <;> try exact h.elim
  rename_i z e hz he
  split at h <;> try exact h.elim
  rename_i h0
  split at h <;> try exact h.elim
  rename_i k1 n k2 m hl hc
  obtain ⟨rfl, hn, g1, g2, g3, h⟩ := h
  refine ⟨_, ?_, ble_of g1, h⟩
  have b0 : Nat.beq n.toNat n.toNat = true := Nat.beq_refl _
  have b1 : Nat.ble (Nat.mul n.toNat e.size) 9223372036854775807 = true := ble_of g1
  have b2 : Nat.ble (Nat.mul n.toNat e.bytes) 140737488355328 = true := ble_of g2
  simp only [made, madeMake, hu, hz, he, hl, hc, asNat_nn hn, b0, b1, b2, h0, ble_of g3, forceN_eq]
def blkN (m : Made) (nx : Nat) (H : Heap) : Heap := set5 nx (some (.cells m.n (CT.ofL m.n m.l) [] false)) H
def appC (H : Heap) (nx esz ebytes : Nat) (s : AVal) (n : Nat) (new : List AVal) : Option (AVal × Heap × Nat) :=
 match n with
 | 0 => match s with
  | .nilSlice => some (.nilSlice, H, nx)
  | .slice b off len e full => some (.slice b off len e full, H, nx)
  | _ => none
 | Nat.succ n' => match s with
  | .nilSlice => match Nat.ble (Nat.mul (Nat.succ n') esz) 9223372036854775807, Nat.ble (Nat.mul (Nat.succ n') ebytes) 140737488355328 with
   | true, true => some (.slice nx 0 (Nat.succ n') esz false, set5 nx (some (.cells (Nat.mul (Nat.succ n') esz) (CT.ofL (Nat.mul (Nat.succ n') esz) new) [] false)) H, Nat.succ nx)
   | _, _ => none
  | .slice b off len e full => match get5 b H, Nat.beq e esz, Nat.ble (Nat.mul (Nat.add len (Nat.succ n')) esz) 9223372036854775807, Nat.ble (Nat.mul (Nat.add len (Nat.succ n')) ebytes) 140737488355328 with
   | some (.cells cnt ct olds sup), true, true, true => match Nat.ble (Nat.add off (Nat.mul len esz)) cnt, full with
    | true, true => some (.slice nx 0 (Nat.add len (Nat.succ n')) esz false,
      set5 nx (some (.cells (Nat.mul (Nat.add len (Nat.succ n')) esz) (CT.ofL (Nat.mul (Nat.add len (Nat.succ n')) esz) (CT.slab ct (Nat.mul len esz) off ++ new)) [] false)) H, Nat.succ nx)
    | true, false => match off, sup with
     | 0, false => some (.slice nx 0 (Nat.add len (Nat.succ n')) esz false,
       grown b cnt ct olds (Nat.mul len esz) H nx (Nat.mul (Nat.add len (Nat.succ n')) esz) (CT.lay new (Nat.mul len esz) (CT.widen (Nat.mul (Nat.add len (Nat.succ n')) esz) ct)), Nat.succ nx)
     | _, _ => none
    | _, _ => none
   | _, _, _, _ => none
  | _ => none
theorem appC_ok {P : Program} {elem : TypeId} {H : Heap} {nx : Nat} {s : AVal} {src : Nat → Option (Nat × List AVal)} {z : List AVal} {e : TypeInfo} {n : Nat} {new : List AVal} {v : AVal} {H' : Heap} {nx' : Nat}
  (hz : zeroL P elem = some z) (he : P.info? elem = some e) (hs : src e.size = some (n, new)) (h0 : Nat.beq e.size 0 = false) (h : appC H nx e.size e.bytes s n new = some (v, H', nx')) :
  aAppend P elem H nx s src = some (.val v H' nx') := by
 have hn : Nat.ble (Nat.succ nx) (Nat.succ nx) = true := ble_of (Nat.le_refl _)
 unfold appC at h
 unfold aAppend
 simp only [hz, he, hs, h0, hn]
 cases n with
 | zero =>
  simp only [] at h ⊢
  split at h <;> first | (cases h; done) | (cases h; rfl)
 | succ n' =>
  simp only [] at h ⊢
  split at h <;> try (cases h; done)
  ·split at h <;> try (cases h; done)
   rename_i g1 g2
   cases h
   simp only [g1, g2, forceN_eq]
  ·split at h <;> try (cases h; done)
   rename_i g0 g1 g2 g3
   split at h <;> try (cases h; done)
   ·rename_i g4
    cases h
    simp only [g0, g1, g2, g3, g4, forceN_eq]
   ·rename_i g4
    split at h <;> try (cases h; done)
    cases h
    simp only [g0, g1, g2, g3, g4, forceN_eq]
def zerosC (z : List AVal) (size : Nat) (x : AVal) : Option (Nat × List AVal) :=
 match x with
 | .int .i64 (.ofNat n) => match Nat.ble (Nat.mul n size) 9223372036854775807, Nat.ble n 9223372036854775807 with
  | true, true => some (n, repL z n)
  | _, _ => none
 | _ => none
theorem zerosC_ok {P : Program} {elem : TypeId} {z : List AVal} {size : Nat} {x : AVal} {r : Nat × List AVal} (hz : zeroL P elem = some z) (h : zerosC z size x = some r) : aZeros P elem size x = some r := by
 unfold zerosC at h
 split at h <;> try (cases h; done)
 split at h <;> try (cases h; done)
 rename_i g1 g2
 cases h
 unfold aZeros
 simp only [hz, g1, g2]
def copC (H : Heap) (esz : Nat) (d s : AVal) : Option (Nat × Heap) :=
 match d, s with
 | .slice b off len _ _, .slice b2 off2 len2 _ _ => match get5 b H, get5 b2 H with
  | some (.cells cnt ct olds false), some (.cells cnt2 ct2 _ _) => match Nat.ble (Nat.add off (Nat.mul (minN len2 len) esz)) cnt, Nat.ble (Nat.add off2 (Nat.mul (minN len2 len) esz)) cnt2, allCell (CT.slab ct2 (Nat.mul (minN len2 len) esz) off2) with
   | true, true, true => some (minN len2 len, set5 b (some (.cells cnt (CT.lay (CT.slab ct2 (Nat.mul (minN len2 len) esz) off2) off ct) [] false)) (dels olds H))
   | _, _, _ => none
  | _, _ => none
 | .slice _ _ _ _ _, .nilSlice => some (0, H)
 | .nilSlice, .nilSlice => some (0, H)
 | .nilSlice, .slice _ _ _ _ _ => some (0, H)
 | _, _ => none
theorem copC_ok {P : Program} {types : Array TypeId} {args : Array Operand} {ρ : Operand → AVal} {H : Heap} {nx : Nat} {dT elem : TypeId} {l : List TypeId} {d s : Operand} {e : TypeInfo} {n : Nat} {H' : Heap}
  (ht : types.toList = dT :: l) (ha : args.toList = [d, s]) (hu : P.underlying dT = some (.slice elem)) (he : P.info? elem = some e) (h : copC H e.size (ρ d) (ρ s) = some (n, H')) :
  opCopy P types args ρ H nx = some (.val (.int .i64 (.ofNat n)) H' nx) := by
 unfold opCopy
 simp only [ht, ha, hu, he]
 unfold copC at h
 split at h
 ·rename_i hd hs
  simp only [hd, hs]
  split at h <;> try (cases h; done)
  rename_i g1 g2
  split at h <;> try (cases h; done)
  rename_i g3 g4 g5
  cases h
  simp only [g1, g2, forceN_eq, g3, g4, g5]
 ·rename_i hd hs; cases h; simp only [hd, hs]; rfl
 ·rename_i hd hs; cases h; simp only [hd, hs]; rfl
 ·rename_i hd hs; cases h; simp only [hd, hs]; rfl
 ·cases h
def callV (P : Program) (x : Operand) (a : AVal) (args : List AVal) (K : FuncId → List AVal → Prop) : Prop :=
 match x with
 | .tmp _ => ∃ f as, callTo P a args = some (f, as) ∧ K f as
 | _ => match callTo P a args with
  | some (f, as) => K f as
  | none => False
theorem callV_ok {P : Program} {x : Operand} {a : AVal} {args : List AVal} {K : FuncId → List AVal → Prop} (h : callV P x a args K) : ∃ f as, callTo P a args = some (f, as) ∧ K f as := by
 unfold callV at h
 split at h
 ·exact h
 ·split at h <;> first | exact h.elim | exact ⟨_, _, ‹_›, h⟩
def vCall (P : Program) (c : Call) (ρ : Operand → AVal) (H : Heap) (nx : Nat) (κ : ARes → Prop) : Prop :=
 match c.callee with
 | .value f => callV P f (ρ f) (c.args.toList.map ρ) fun g as => κ (.call g as)
 | .builtin .len => match c.argTypes.toList, c.args.toList with
  | [t], [x] => match P.underlying t with
   | some .string => match ρ x with
    | .str s => κ (.val (.int .i64 (.ofNat s.length)) H nx)
    | _ => False
   | some (.array n _) => κ (.val (.int .i64 (.ofNat n)) H nx)
   | some (.slice _) => ∃ n, lenS (ρ x) = some n ∧ κ (.val (.int .i64 (.ofNat n)) H nx)
   | _ => False
  | _, _ => False
 | .builtin .append => match c.argTypes.toList, c.args.toList with
  | [sT, xT], [s, x] => match P.underlying sT, P.underlying xT with
   | some (.slice elem), some d => match srcD d, P.info? elem, zeroL P elem with
    | true, some e, some _ => match Nat.beq e.size 0 with
     | false => ∃ n l, aSrc e.size H (ρ x) = some (n, l) ∧ allCell l = true ∧ ∃ v H' nx', appC H nx e.size e.bytes (ρ s) n l = some (v, H', nx') ∧ κ (.val v H' nx')
     | true => False
    | false, some e, some z => match isInt d, Nat.beq e.size 0 with
     | true, false => ∃ n l, zerosC z e.size (ρ x) = some (n, l) ∧ allCell l = true ∧ ∃ v H' nx', appC H nx e.size e.bytes (ρ s) n l = some (v, H', nx') ∧ κ (.val v H' nx')
     | _, _ => ∃ r, opCall P c ρ H nx = some r ∧ κ r
    | _, _, _ => ∃ r, opCall P c ρ H nx = some r ∧ κ r
   | _, _ => False
  | _, _ => False
 | .builtin .max => match c.args.toList with
  | x :: l => match ρ x with
   | .int k n => ∃ m, aMost true k n (l.map ρ) = some m ∧ κ (.val (.int k m) H nx)
   | _ => False
  | _ => False
 | .builtin .min => match c.args.toList with
  | x :: l => match ρ x with
   | .int k n => ∃ m, aMost false k n (l.map ρ) = some m ∧ κ (.val (.int k m) H nx)
   | _ => False
  | _ => False
 | .builtin .copy => match c.argTypes.toList, c.args.toList with
  | dT :: _, [d, s] => match P.underlying dT with
   | some (.slice elem) => match P.info? elem with
    | some e => ∃ n H', copC H e.size (ρ d) (ρ s) = some (n, H') ∧ κ (.val (.int .i64 (.ofNat n)) H' nx)
    | none => False
   | _ => False
  | _, _ => False
 | .builtin .recover => match c.args.toList with
  | [] => κ .rcv
  | _ => False
 | .invoke r name => ∃ t v f byPtr u, ρ r = .iface t v ∧ methodA P t name = some (f, byPtr) ∧ hasBody P f = true ∧ recvA P H t v byPtr = some u ∧ κ (.call f (u :: c.args.toList.map ρ))
 | _ => ∃ r, opCall P c ρ H nx = some r ∧ κ r
theorem vCall_ok {P : Program} {c : Call} {ρ : Operand → AVal} {H : Heap} {nx : Nat} {κ : ARes → Prop} (h : vCall P c ρ H nx κ) : ∃ r, opCall P c ρ H nx = some r ∧ κ r := by
 obtain ⟨callee, args, types⟩ := c
 unfold vCall at h
 simp only [] at h
 split at h
 ·obtain ⟨g, as, e, h⟩ := callV_ok h
  refine ⟨_, ?_, h⟩
  simp only [opCall, opCallV, e]
 ·split at h <;> try exact h.elim
  rename_i t x ht hx
  split at h <;> try exact h.elim
  ·rename_i hu
   split at h <;> try exact h.elim
   rename_i s hs
   refine ⟨_, ?_, h⟩
   simp only [opCall, opBuiltin0, ht, hx, lenOfA, hu, hs]
  ·rename_i n e hu
   refine ⟨_, ?_, h⟩
   simp only [opCall, opBuiltin0, ht, hx, lenOfA, hu]
  ·rename_i el hu
   obtain ⟨n, e, h⟩ := h
   refine ⟨_, ?_, h⟩
   unfold lenS at e
   split at e <;> try (cases e; done)
   ·rename_i hs; cases e; simp only [opCall, opBuiltin0, ht, hx, lenOfA, hu, hs]
   ·rename_i hs; cases e; simp only [opCall, opBuiltin0, ht, hx, lenOfA, hu, hs]
   ·rename_i hs; cases e; simp only [opCall, opBuiltin0, ht, hx, lenOfA, hu, hs]
 ·split at h <;> try exact h.elim
  rename_i sT xT s x ht hx
  split at h <;> try exact h.elim
  rename_i elem d hs hd
  split at h <;> first | exact h | skip
  ·rename_i e z hsrc he hz
   split at h <;> try exact h.elim
   rename_i h0
   obtain ⟨n, l, e1, e2, v, H', nx', e3, h⟩ := h
   refine ⟨_, ?_, h⟩
   simp only [opCall, ht, hx, hs, hd, hsrc, he, e1, e2]
   exact appC_ok hz he e1 h0 e3
  ·rename_i e z hsrc he hz
   split at h <;> first | exact h | skip
   rename_i hi h0
   obtain ⟨n, l, e1, e2, v, H', nx', e3, h⟩ := h
   refine ⟨_, ?_, h⟩
   have e1' := zerosC_ok (P := P) (elem := elem) hz e1
   simp only [opCall, ht, hx, hs, hd, hsrc, he, hi, e1', e2]
   exact appC_ok (src := fun size => aZeros P elem size (ρ x)) hz he e1' h0 e3
 ·split at h <;> try exact h.elim
  rename_i x l hx
  split at h <;> try exact h.elim
  rename_i k n hn
  obtain ⟨m, e, h⟩ := h
  refine ⟨_, ?_, h⟩
  simp only [opCall, opBuiltin0, hx, hn, e, forceI_eq]
 ·split at h <;> try exact h.elim
  rename_i x l hx
  split at h <;> try exact h.elim
  rename_i k n hn
  obtain ⟨m, e, h⟩ := h
  refine ⟨_, ?_, h⟩
  simp only [opCall, opBuiltin0, hx, hn, e, forceI_eq]
 ·split at h <;> try exact h.elim
  rename_i dT l d s ht ha
  split at h <;> try exact h.elim
  rename_i elem hu
  split at h <;> try exact h.elim
  rename_i e he
  obtain ⟨n, H', e1, h⟩ := h
  refine ⟨_, ?_, h⟩
  simp only [opCall]
  exact copC_ok ht ha hu he e1
 ·split at h <;> try exact h.elim
  rename_i ha
  refine ⟨_, ?_, h⟩
  simp only [opCall, opBuiltin0, ha]
 ·obtain ⟨t, v, f, byPtr, u, e1, e2, e3, e4, h⟩ := h
  refine ⟨_, ?_, h⟩
  simp only [opCall, opInvoke, e1, e2, e3, e4]
 ·exact h
def notNil : AVal → Bool
 | .ptr _ _ => true
 | .gptr _ _ => true
 | .iface _ _ => true
 | .func (.func _) _ _ => true
 | _ => false
def vLookup (P : Program) (t : TypeId) (x ix : AVal) (ok : Bool) (H : Heap) (κ : AVal → Prop) : Prop :=
 match P.underlying t with
 | some (.map kt et) => match P.info? et with
  | some i => match i.zero with
   | some z => keyOK P kt ix = true ∧ ∃ es, entsOf H x = some es ∧ ∃ r, findA P kt ix es 0 = some r ∧ match ok with
    | true => (∀ i v, r = some (i, v) → κ (.tuple [v, .bool true])) ∧ (r = none → κ (.tuple [ofVal z, .bool false]))
    | false => (∀ i v, r = some (i, v) → κ v) ∧ (r = none → κ (ofVal z))
   | none => False
  | none => False
 | _ => False
theorem vLookup_ok {P : Program} {t : TypeId} {x ix : Operand} {ok : Bool} {ρ : Operand → AVal} {H : Heap} {nx : Nat} {κ : AVal → Prop} (h : vLookup P t (ρ x) (ρ ix) ok H κ) : ∃ v, opLookup P t x ix ok ρ H nx = some (.val v H nx) ∧ κ v := by
 unfold vLookup at h
 split at h <;> try exact h.elim
 rename_i kt et hu
 split at h <;> try exact h.elim
 rename_i i hi
 split at h <;> try exact h.elim
 rename_i z hz
 obtain ⟨hk, es, he, r, hf, h⟩ := h
 unfold opLookup
 cases r with
 | none =>
  cases ok with
  | true => exact ⟨_, by simp only [hu, he, hk, hf, hi, hz], h.2 rfl⟩
  | false => exact ⟨_, by simp only [hu, he, hk, hf, hi, hz], h.2 rfl⟩
 | some p =>
  obtain ⟨j, v⟩ := p
  cases ok with
  | true => exact ⟨_, by simp only [hu, he, hk, hf], h.1 j v rfl⟩
  | false => exact ⟨_, by simp only [hu, he, hk, hf], h.1 j v rfl⟩
def vMapUpd (P : Program) (t : TypeId) (m ky x : AVal) (H : Heap) (κ : Heap → Prop) : Prop :=
 match P.underlying t with
 | some (.map kt _) => keyOK P kt ky = true ∧ ∃ b es clock, m = .map b ∧ get5 b H = some (.map es clock) ∧ ∃ r, findA P kt ky es 0 = some r ∧
   (∀ i v, r = some (i, v) → ∃ H', H' = set5 b (some (.map (setEnt ky x es i) clock)) H ∧ κ H') ∧ (r = none → ∃ H', H' = set5 b (some (.map (es ++ [⟨ky, x, clock⟩]) (Nat.succ clock))) H ∧ κ H')
 | _ => False
theorem vMapUpd_ok {P : Program} {t : TypeId} {m ky x : Operand} {ρ : Operand → AVal} {H : Heap} {nx : Nat} {κ : Heap → Prop} (h : vMapUpd P t (ρ m) (ρ ky) (ρ x) H κ) : ∃ H', opMapUpdate P t m ky x ρ H nx = some (.val .und H' nx) ∧ κ H' := by
 unfold vMapUpd at h
 split at h <;> try exact h.elim
 rename_i kt et hu
 obtain ⟨hk, b, es, clock, hm, hb, r, hf, h1, h2⟩ := h
 unfold opMapUpdate
 cases r with
 | none =>
  obtain ⟨H', rfl, h⟩ := h2 rfl
  exact ⟨_, by simp only [hu, hm, hb, hk, hf], h⟩
 | some p =>
  obtain ⟨j, v⟩ := p
  obtain ⟨H', rfl, h⟩ := h1 j v rfl
  exact ⟨_, by simp only [hu, hm, hb, hk, hf], h⟩
def vres (P : Program) (o : Oper) (ρ : Operand → AVal) (H : Heap) (nx : Nat) (κ : ARes → Prop) : Prop :=
 match o.op with
 | .move x => κ (.val (ρ x) H nx)
 | .assign x => κ (.val (ρ x) H nx)
 | .pick c a b => match ρ c with
  | .bool p => Bool.rec (κ (.val (ρ b) H nx)) (κ (.val (ρ a) H nx)) p
  | _ => False
 | .load t a => vLoad P t H (ρ a) fun v => κ (.val v H nx)
 | .store t a x => vStore P t H (ρ a) (ρ x) fun H' => κ (.val .und H' nx)
 | .nilCheck x => notNil (ρ x) = true ∧ κ (.val (ρ x) H nx)
 | .binOp op t x y _ => vBin P op t x y (ρ x) (ρ y) fun v => κ (.val v H nx)
 | .unOp .neg _ x => match ρ x with
  | .int k n => κ (.val (.int k (k.wrap (0 - n))) H nx)
  | _ => False
 | .unOp .not _ x => match ρ x with
  | .bool b => κ (.val (.bool (!b)) H nx)
  | _ => False
 | .convert s d x => vConv P s d (ρ x) H fun v => κ (.val v H nx)
 | .makeInterface t x => match P.underlying t with
  | some d => match ifaceD d with
   | false => κ (.val (.iface t (ρ x)) H nx)
   | true => False
  | none => False
 | .makeFunc fn a b => κ (.val (.func fn (a.toList.map ρ) (b.toList.map ρ)) H nx)
 | .slice t x lo hi mx => vSlice P t (ρ x) (lo.map ρ) (hi.map ρ) (mx.map ρ) H fun v => κ (.val v H nx)
 | .fieldAddr s x f => vFieldAddr P s f (ρ x) fun v => κ (.val v H nx)
 | .field t x f => match opField P t x f ρ H nx with
  | some r => κ r
  | none => False
 | .indexAddr t x i => vIndexAddr P t (ρ x) (ρ i) fun v => κ (.val v H nx)
 | .index t x i => vIndex P t (ρ x) (ρ i) fun v => κ (.val v H nx)
 | .extract t i => match opExtract t i ρ H nx with
  | some r => κ r
  | none => False
 | .build t ps => vBuild P t ps.toList ρ fun cs => κ (.val (.agg cs) H nx)
 | .alloc t => vMade P (.alloc t) ρ fun m => ∃ H', H' = blkN m nx H ∧ κ (.val (m.v nx) H' (nx + 1))
 | .box t x => vMade P (.box t x) ρ fun m => ∃ H', H' = blkN m nx H ∧ κ (.val (m.v nx) H' (nx + 1))
 | .buildSlice t n ps => vMade P (.buildSlice t n ps) ρ fun m => ∃ H', H' = blkN m nx H ∧ κ (.val (m.v nx) H' (nx + 1))
 | .makeSlice t l c => vMade P (.makeSlice t l c) ρ fun m => ∃ H', H' = blkN m nx H ∧ κ (.val (m.v nx) H' (nx + 1))
 | .call c => vCall P c ρ H nx κ
 | .defer c => match c.callee with
  | .value f => callV P f (ρ f) (c.args.toList.map ρ) fun g as => κ (.dfr g as)
  | _ => False
 | .panic x => ∃ t v, ρ x = .iface t v ∧ κ (.pan (.iface t v))
 | .typeAssert x _ a ok => match ok with
  | true => match aAssert P (ρ x) a true with
   | some v => typedV P o.type v fun v => κ (.val v H nx)
   | none => False
  | false => ∃ v, aAssert P (ρ x) a false = some v ∧ typedV P o.type v fun v => κ (.val v H nx)
 | .lookup t x i ok => vLookup P t (ρ x) (ρ i) ok H fun v => κ (.val v H nx)
 | .mapUpdate t m k x => vMapUpd P t (ρ m) (ρ k) (ρ x) H fun H' => κ (.val .und H' nx)
 | .insert t m k x => vMapUpd P t (ρ m) (ρ k) (ρ x) H fun H' => κ (.val .und H' nx)
 | .makeMap _ r => match r with
  | none => ∃ H', H' = set5 nx (some (.map [] 0)) H ∧ κ (.val (.map nx) H' (nx + 1))
  | some _ => False
 | _ => ∃ r, aop P o ρ H nx = some r ∧ κ r
theorem made_op {P : Program} {op : Op} {ρ : Operand → AVal} {H : Heap} {nx : Nat} {κ : ARes → Prop} (h : vMade P op ρ fun m => ∃ H', H' = blkN m nx H ∧ κ (.val (m.v nx) H' (Nat.succ nx))) : ∃ r, opMadeOf P op ρ H nx = some r ∧ κ r := by
 obtain ⟨m, e, hb, _, rfl, h⟩ := vMade_ok h
 refine ⟨_, ?_, h⟩
 have hn : Nat.ble (Nat.succ nx) (Nat.succ nx) = true := ble_of (Nat.le_refl _)
 simp only [opMadeOf, e, opMade, hb, hn, forceN_eq]
 rfl
theorem vres_ok {P : Program} {o : Oper} {ρ : Operand → AVal} {H : Heap} {nx : Nat} {κ : ARes → Prop} (h : vres P o ρ H nx κ) : ∃ r, aop P o ρ H nx = some r ∧ κ r := by
 unfold vres at h
 unfold aop
 split at h
 ·rename_i e; rw [e]; exact ⟨_, rfl, h⟩
 ·rename_i e; rw [e]; exact ⟨_, rfl, h⟩
 ·rename_i e
  rw [e]
  split at h <;> try exact h.elim
  rename_i p hp
  cases p with
  | true => exact ⟨_, by simp only [opPick, hp], h⟩
  | false => exact ⟨_, by simp only [opPick, hp], h⟩
 ·rename_i e; rw [e]; obtain ⟨v, e1, h⟩ := vLoad_ok h; exact ⟨_, by simp only [opLoad, e1], h⟩
 ·rename_i e; rw [e]; obtain ⟨v, e1, h⟩ := vStore_ok h; exact ⟨_, by simp only [opStore, e1], h⟩
 ·rename_i x e
  rw [e]
  obtain ⟨h1, h⟩ := h
  refine ⟨_, ?_, h⟩
  show opNilCheck x ρ H nx = _
  unfold opNilCheck
  unfold notNil at h1
  split at h1 <;> first | (cases h1; done) | (rename_i q; simp only [q])
 ·rename_i e; rw [e]; obtain ⟨v, e1, h⟩ := vBin_ok h; exact ⟨_, e1, h⟩
 ·rename_i e
  rw [e]
  split at h <;> try exact h.elim
  rename_i k n hx
  exact ⟨_, by simp only [opUn, hx, forceI_eq, awrap_eq]; rfl, h⟩
 ·rename_i e
  rw [e]
  split at h <;> try exact h.elim
  rename_i b hx
  exact ⟨_, by simp only [opUn, hx, bnot_eq], h⟩
 ·rename_i e; rw [e]; obtain ⟨v, e1, h⟩ := vConv_ok h; exact ⟨_, e1, h⟩
 ·rename_i t x e
  rw [e]
  split at h <;> try exact h.elim
  rename_i d hu
  split at h <;> try exact h.elim
  rename_i hi
  exact ⟨_, by simp only [opMakeInterface, hu, hi], h⟩
 ·rename_i e; rw [e]; exact ⟨_, rfl, h⟩
 ·rename_i e; rw [e]; obtain ⟨v, e1, h⟩ := vSlice_ok h; exact ⟨_, e1, h⟩
 ·rename_i e; rw [e]; obtain ⟨v, e1, h⟩ := vFieldAddr_ok h; exact ⟨_, e1, h⟩
 ·rename_i e; rw [e]; split at h <;> first | exact h.elim | exact ⟨_, ‹_›, h⟩
 ·rename_i e; rw [e]; obtain ⟨v, e1, h⟩ := vIndexAddr_ok h; exact ⟨_, e1, h⟩
 ·rename_i e; rw [e]; obtain ⟨v, e1, h⟩ := vIndex_ok h; exact ⟨_, e1, h⟩
 ·rename_i e; rw [e]; split at h <;> first | exact h.elim | exact ⟨_, ‹_›, h⟩
 ·rename_i e; rw [e]; obtain ⟨v, e1, h⟩ := vBuild_ok h; exact ⟨_, by simp only [opBuild, e1], h⟩
 ·rename_i e; rw [e]; exact made_op h
 ·rename_i e; rw [e]; exact made_op h
 ·rename_i e; rw [e]; exact made_op h
 ·rename_i e; rw [e]; exact made_op h
 ·rename_i e; rw [e]; exact vCall_ok h
 ·rename_i c e
  rw [e]
  split at h <;> try exact h.elim
  rename_i f hf
  obtain ⟨g, as, e1, h⟩ := callV_ok h
  refine ⟨_, ?_, h⟩
  simp only [opDeferC, hf, opDefer, e1]
 ·rename_i e
  rw [e]
  obtain ⟨t, v, e1, h⟩ := h
  exact ⟨_, by simp only [opPanic, e1], h⟩
 ·rename_i x xt a ok e
  rw [e]
  split at h
  ·split at h <;> try exact h.elim
   rename_i v e1
   exact ⟨_, by simp only [opAssert, e1], typedV_ok h⟩
  ·obtain ⟨v, e1, h⟩ := h
   exact ⟨_, by simp only [opAssert, e1], typedV_ok h⟩
 ·rename_i e; rw [e]; obtain ⟨v, e1, h⟩ := vLookup_ok h; exact ⟨_, e1, h⟩
 ·rename_i e; rw [e]; obtain ⟨v, e1, h⟩ := vMapUpd_ok h; exact ⟨_, e1, h⟩
 ·rename_i e; rw [e]; obtain ⟨v, e1, h⟩ := vMapUpd_ok h; exact ⟨_, e1, h⟩
 ·rename_i e
  rw [e]
  split at h <;> try exact h.elim
  obtain ⟨H', rfl, h⟩ := h
  refine ⟨_, ?_, h⟩
  have hn : Nat.ble (Nat.succ nx) (Nat.succ nx) = true := ble_of (Nat.le_refl _)
  simp only [opMakeMap, hn, forceN_eq]
 ·exact h
def vres2 (P : Program) (o : Oper) (ρ : Operand → AVal) (H : Heap) (nx : Nat) (κ : ARes → Prop) : Prop :=
 match o.op with
 | .range t x => vRange P t (ρ x) H nx κ
 | .next it s => vNext (ρ it) s H nx κ
 | .entry it => vEntry (ρ it) H nx κ
 | _ => vres P o ρ H nx κ
theorem vres2_ok {P : Program} {o : Oper} {ρ : Operand → AVal} {H : Heap} {nx : Nat} {κ : ARes → Prop} (hany : ∀ Q, (∀ v H' nx', Q v H' nx' → κ (.val v H' nx')) → κ (.any Q)) (h : vres2 P o ρ H nx κ) : ∃ r, OpOK P o ρ H nx r ∧ κ r := by
 unfold vres2 at h
 split at h
 ·exact vRange_ok ‹_› h
 ·exact vNext_ok hany ‹_› h
 ·exact vEntry_ok ‹_› h
 ·obtain ⟨r, e, h⟩ := vres_ok h
  exact ⟨r, aop_ok e, h⟩
end
end Go.Vs
end
section
namespace Go.Vs
variable [GTab]
noncomputable section
abbrev KC := Env → Heap → Nat → Dfs → Option AMode → Prop
abbrev KP := AExit → KC
abbrev EndP := AEnd → Heap → Nat → Prop
abbrev CallP := FuncId → List AVal → Heap → Nat → EndP → Prop
abbrev CallDP := FuncId → List AVal → AMode → Heap → Nat → (AEnd → AMode → Heap → Nat → Prop) → Prop
abbrev LoopP := Code → Env → Heap → Nat → Dfs → Option AMode → KP → Prop
def TriP (P : Program) : CallP := fun f args H nx K =>
 ∀ (σ : Sg) (w : World) (args' : List Value) (R : Ending → World → Prop), Rel σ H nx w → DenL σ args args' →
  (∀ e H' nx' σ' w' en, K e H' nx' → Rel σ' H' nx' w' → Ext σ σ' H H' nx nx' w w' → EndRel σ' e en → R en w') → Calls P f ⟨args'⟩ w R
def TriDP (P : Program) : CallDP := fun f args m H nx K => hasBody P f = true ∧
 ∀ (σ : Sg) (w : World) (args' : List Value) (u : FrameMode) (R : Ending → FrameMode → World → Prop), Rel σ H nx w → DenL σ args args' → MRel σ m u →
  (∀ e m' H' nx' σ' w' en u', K e m' H' nx' → Rel σ' H' nx' w' → Ext σ σ' H H' nx nx' w w' → EndRel σ' e en → MRel σ' m' u' → R en u' w') → CallsD P f ⟨args'⟩ u w R
def CallSP (P : Program) (call : CallP) : Prop := ∀ f args H nx K, call f args H nx K → TriP P f args H nx K
def CallDSP (P : Program) (calld : CallDP) : Prop := ∀ f args m H nx K, calld f args m H nx K → TriDP P f args m H nx K
theorem TriP.mono {P : Program} {f : FuncId} {args : List AVal} {H : Heap} {nx : Nat} {K K' : EndP} (h : TriP P f args H nx K) (hk : ∀ e H' nx', K e H' nx' → K' e H' nx') : TriP P f args H nx K' :=
 fun σ w args' R hr hd hR => h σ w args' R hr hd fun e H' nx' σ' w' en k => hR e H' nx' σ' w' en (hk _ _ _ k)
def onEnd (e : AEnd) (r : AVal → Prop) (p : List (AVal × Bool) → Prop) : Prop := (∀ v, e = .ret v → r v) ∧ (∀ l, e = .pan l → p l)
def takeV (P : Program) (call : CallP) (ty : TypeId) (d : Option Nat) (r : ARes) (env : Env) (H : Heap) (nx : Nat) (dfs : Dfs) (rc : Option AMode) (k : KC) (K : KP) : Prop :=
 match r with
 | .val v H' nx' => k (put d v env) H' nx' dfs rc
 | .call f args => call f args H nx fun e H' nx' => onEnd e (fun v => typedV P ty v fun v => k (put d v env) H' nx' dfs rc) (fun l => K (.pan l) env H' nx' dfs rc)
 | .dfr f args => k (put d (.tuple []) env) H nx ((f, args) :: dfs) rc
 | .pan v => K (.pan [(v, false)]) env H nx dfs rc
 | .rcv => match rc with
  | some (.panicking ((v, false) :: older)) => k (put d v env) H nx dfs (some (.panicking ((v, true) :: older)))
  | some .returning => k (put d .nilIface env) H nx dfs rc
  | _ => False
 | .any Q => ∀ v H' nx', Q v H' nx' → k (put d v env) H' nx' dfs rc
theorem set2_self {t : Nat} {env : Env} {v : AVal} (h : get2 t env = v) : set2 t v env = env := by
 funext s
 show (Bool.rec (env s) v (Nat.beq s t) : AVal) = env s
 cases e : Nat.beq s t with
 | false => rfl
 | true => have := Nat.eq_of_beq_eq_true e; subst this; exact h.symm
def ifB (b : Bool) (p q : Prop) : Prop := Bool.rec q p b
theorem ifB_iff {b : Bool} {p q : Prop} : ifB b p q ↔ (b = true → p) ∧ (b = false → q) := by cases b <;> simp [ifB]
def guardV (ops : Array Oper) (g : Option (Nat × Bool)) (env : Env) (run skip : Env → Prop) : Prop :=
 match g with
 | none => run env
 | some (j, want) => match (ops[j]?).bind (·.dst) with
  | some t => match Nat.ble t 4095 with
   | true => match get2 t env with
    | .bool b => Bool.rec (Bool.rec (run (set2 t (.bool false) env)) (skip (set2 t (.bool false) env)) want) (Bool.rec (skip (set2 t (.bool true) env)) (run (set2 t (.bool true) env)) want) b
    | .tuple [] => skip env
    | _ => False
   | false => False
  | none => skip env
theorem guardV_ok {ops : Array Oper} {g : Option (Nat × Bool)} {env : Env} {run skip : Env → Prop} (h : guardV ops g env run skip) :
  (wantedA ops g env = some true ∧ run env) ∨ (wantedA ops g env = some false ∧ skip env) := by
 unfold guardV at h
 unfold wantedA
 split at h
 ·exact .inl ⟨rfl, h⟩
 ·rename_i j want
  simp only []
  split at h
  ·rename_i t ht
   split at h <;> try exact h.elim
   rename_i hb
   split at h <;> try exact h.elim
   ·rename_i b hv
    simp only [ht, hb, hv]
    cases b <;> cases want
    all_goals
     simp only [set2_self hv] at h
     first
     | exact .inl ⟨by first | rfl | trivial, h⟩
     | exact .inr ⟨by first | rfl | trivial, h⟩
   ·rename_i hv
    simp only [ht, hb, hv]
    exact .inr ⟨by first | rfl | trivial, h⟩
  ·rename_i ht
   simp only [ht]
   exact .inr ⟨by first | rfl | trivial, h⟩
def vOp (P : Program) (call : CallP) (nt : Nat) (ops : Array Oper) (o : Oper) (env : Env) (H : Heap) (nx : Nat) (dfs : Dfs) (rc : Option AMode) (k : KC) (K : KP) : Prop :=
 match dstOK nt o.dst with
 | true => guardV ops o.guard env (fun env => vres2 P o (aev env) H nx fun r => takeV P call o.type o.dst r env H nx dfs rc k K) (fun env => k (put o.dst (.tuple []) env) H nx dfs rc)
 | false => False
def vOps (P : Program) (call : CallP) (nt : Nat) (ops : Array Oper) (K : KP) : List Oper → KC
 | [] => fun env H nx dfs rc => K .normal env H nx dfs rc
 | o :: l => fun env H nx dfs rc => vOp P call nt ops o env H nx dfs rc (vOps P call nt ops K l) K
def PostP (nt : Nat) (K : KP) (σ : Sg) (H : Heap) (nx : Nat) (w : World) (Q : Exit → Act → World → Prop) : Prop :=
 ∀ ex env' H' nx' dfs' σ' w' a' e, K ex env' H' nx' dfs' none → Rel σ' H' nx' w' → Ext σ σ' H H' nx nx' w w' → ARel σ' nt env' dfs' a' → ExRel σ' ex e → Q e a' w'
theorem PostP.from {nt : Nat} {K : KP} {σ σ1 : Sg} {H H1 : Heap} {nx nx1 : Nat} {w w1 : World} {Q : Exit → Act → World → Prop} (h : PostP nt K σ H nx w Q) (E : Ext σ σ1 H H1 nx nx1 w w1) :
  PostP nt K σ1 H1 nx1 w1 Q := fun ex env' H' nx' dfs' σ' w' a' e hk R E2 A X => h ex env' H' nx' dfs' σ' w' a' e hk R (E.trans E2) A X
theorem upon_stepP {P : Program} {call : CallP} {nt : Nat} {o : Oper} {env : Env} {H : Heap} {nx : Nat} {dfs : Dfs} {rc : Option AMode} {r : ARes} {k : KC} {K : KP} {ty : TypeId}
  (hc : CallSP P call) (hok : OpOK P o (aev env) H nx r) (hdst : dstOK nt o.dst = true) (hnr : r ≠ .rcv) (ht : takeV P call ty o.dst r env H nx dfs rc k K)
  {σ : Sg} {w : World} {a : Act} {next : Act → World → Prop} {Q : Exit → Act → World → Prop} (hr : Rel σ H nx w) (ha : ARel σ nt env dfs a)
  (hn : ∀ env1 H1 nx1 dfs1 σ1 w1 a1, k env1 H1 nx1 dfs1 rc → Rel σ1 H1 nx1 w1 → Ext σ σ1 H H1 nx nx1 w w1 → ARel σ1 nt env1 dfs1 a1 → next a1 w1)
  (hp : ∀ l H1 nx1 σ1 w1 c, K (.pan l) env H1 nx1 dfs rc → Rel σ1 H1 nx1 w1 → Ext σ σ1 H H1 nx nx1 w w1 → Chain σ1 l c → Q (.panic c) a w1) :
  NotRec P o a w ∧ o.wp P a w next Q := by
 cases r with
 | val v H' nx' =>
  obtain ⟨σ', w', v', R, E, D, hrun⟩ := hok σ w a.eval hr ha.env.aev
  rcases hrun with hrun | ⟨hrun, rfl⟩
  ·exact ⟨(fun w2 e => by rw [hrun] at e; cases e), by unfold Oper.wp; rw [hrun]; exact hn _ _ _ _ σ' w' _ ht R E ((ha.mono E.sub).put hdst D)⟩
  ·exact ⟨(fun w2 e => by rw [hrun] at e; cases e), by unfold Oper.wp; rw [hrun]; exact hn _ _ _ _ σ' w' _ ht R E ((ha.mono E.sub).put hdst D)⟩
 | call f args =>
  have tri := hc f args H nx _ ht
  obtain ⟨args', hl, hrun⟩ := hok σ w a.eval hr ha.env.aev
  refine ⟨(fun w2 e => by rw [hrun] at e; cases e), ?_⟩
  unfold Oper.wp
  rw [hrun]
  show Calls P f ⟨args'⟩ w _
  refine tri σ w args' _ hr hl fun e H' nx' σ' w' en hk R E he => ?_
  cases e with
  | ret v =>
   cases en with
   | returned v' => exact hn _ _ _ _ σ' w' _ (typedV_ok (hk.1 v rfl)) R E ((ha.mono E.sub).put hdst he)
   | panicked c => exact he.elim
   | outgrown => exact he.elim
  | pan l =>
   cases en with
   | returned v' => exact he.elim
   | panicked c => exact hp l H' nx' σ' w' c (hk.2 l rfl) R E he
   | outgrown => exact he.elim
 | dfr f args =>
  obtain ⟨d, hd, hrun⟩ := hok σ w a.eval hr ha.env.aev
  refine ⟨(fun w2 e => by rw [hrun] at e; cases e), ?_⟩
  unfold Oper.wp
  rw [hrun]
  refine hn _ _ _ _ σ w _ ht hr (Ext.refl _ _ _ _) ⟨?_, ?_⟩
  ·have h1 : EnvRel σ nt (put o.dst (.tuple []) env) (a.put o.dst undef).tmps := ha.env.put hdst (.tuple .nil)
   have e : (({ a with defers := d :: a.defers } : Act).put o.dst undef).tmps = (a.put o.dst undef).tmps := by cases o.dst <;> rfl
   rw [e]; exact h1
  ·have e : (({ a with defers := d :: a.defers } : Act).put o.dst undef).defers = d :: a.defers := by cases o.dst <;> rfl
   rw [e]; exact .cons hd ha.dfs
 | pan v =>
  obtain ⟨v', dv, hrun⟩ := hok σ w a.eval hr ha.env.aev
  refine ⟨(fun w2 e => by rw [hrun] at e; cases e), ?_⟩
  unfold Oper.wp
  rw [hrun]
  exact hp [(v, false)] H nx σ w [{ v := v', recovered := false }] ht hr (Ext.refl _ _ _ _) (.cons dv rfl rfl .nil)
 | rcv => exact (hnr rfl).elim
 | any Q =>
  obtain ⟨v, H', nx', σ', w', v', hq, R, E, D, hrun⟩ := hok σ w a.eval hr ha.env.aev
  exact ⟨(fun w2 e => by rw [hrun] at e; cases e), by unfold Oper.wp; rw [hrun]; exact hn _ _ _ _ σ' w' _ (ht v H' nx' hq) R E ((ha.mono E.sub).put hdst D)⟩
theorem vOps_none {P : Program} {call : CallP} {nt : Nat} {ops : Array Oper} {K : KP} (hc : CallSP P call) : ∀ (l : List Oper) (env : Env) (H : Heap) (nx : Nat) (dfs : Dfs), vOps P call nt ops K l env H nx dfs none →
  ∀ σ w a Q, Rel σ H nx w → ARel σ nt env dfs a → PostP nt K σ H nx w Q → wpList P ops Q l a w
 | [], env, H, nx, dfs, h, σ, w, a, Q, hr, ha, hQ => hQ .normal env H nx dfs σ w a .normal h hr (Ext.refl _ _ _ _) ha trivial
 | o :: l, env, H, nx, dfs, h, σ, w, a, Q, hr, ha, hQ => by
  have h' : vOp P call nt ops o env H nx dfs none (vOps P call nt ops K l) K := h
  unfold vOp at h'
  split at h' <;> first | exact h'.elim | skip
  rename_i hdst
  rcases guardV_ok h' with ⟨hw, h'⟩ | ⟨hw, h'⟩
  ·obtain ⟨r, hop, h'⟩ := vres2_ok (fun Q h => h) h'
   have hnr : r ≠ .rcv := by
    rintro rfl
    exact h'.elim
   unfold wpList
   rw [if_pos (wanted_ok hw ha.env)]
   refine .inl (upon_stepP hc hop hdst hnr h' hr ha (fun env1 H1 nx1 dfs1 σ1 w1 a1 hk R1 E1 A1 => vOps_none hc l env1 H1 nx1 dfs1 hk σ1 w1 a1 Q R1 A1 (hQ.from E1)) fun lp H1 nx1 σ1 w1 c hk R1 E1 C1 => ?_).2
   exact hQ (.pan lp) env H1 nx1 dfs σ1 w1 a (.panic c) hk R1 E1 (ha.mono E1.sub) C1
  ·exact opK_skip (wanted_ok hw ha.env) (vOps_none hc l _ H nx dfs h' σ w _ Q hr (ha.put hdst (.tuple .nil)) hQ)
def dec2 (k : Env → Heap → Prop) : Env → Heap → Bool := fun env H => @decide (k env H) (Classical.propDecidable _)
def dec3 (k : Env → Heap → Nat → Prop) : Env → Heap → Nat → Bool := fun env H nx => @decide (k env H nx) (Classical.propDecidable _)
def decC (call : CallP) : CallK := fun f args H nx K => @decide (call f args H nx fun e H nx => K e H nx = true) (Classical.propDecidable _)
def decK (K : KP) (env0 : Env) : Kont := fun e _ H nx dfs rc => @decide (K e env0 H nx dfs rc) (Classical.propDecidable _)
theorem dec_iff {p : Prop} : @decide p (Classical.propDecidable _) = true ↔ p := @decide_eq_true_iff p (Classical.propDecidable _)
theorem decC_ok {P : Program} {call : CallP} (hc : CallSP P call) : CallS P (decC call) := by
 intro f args H nx K h
 exact hc f args H nx _ (dec_iff.1 h)
def vFloat (P : Program) (ops : Array Oper) (res : Nat) (o : Oper) (i : Nat) (env : Env) (H : Heap) (nx : Nat) (k : Env → Heap → Prop) : Prop :=
 guardV ops o.guard env
  (fun env => match Nat.beq (cls o.op) 1 with
   | true => vMade P o.op (aev env) fun m => ∃ H', H' = blkN m (Nat.add res i) H ∧ k (put o.dst (m.v (Nat.add res i)) env) H'
   | false => vres P o (aev env) H nx fun r => match r with
    | .val v _ _ => k (put o.dst v env) H
    | _ => False)
  (fun env => k (put o.dst (.tuple []) env) H)
theorem vFloat_ok {P : Program} {ops : Array Oper} {res : Nat} {o : Oper} {i : Nat} {env : Env} {H : Heap} {nx : Nat} {k : Env → Heap → Prop} (h : vFloat P ops res o i env H nx k) : floatK P ops res o i env H nx (dec2 k) = true := by
 unfold vFloat at h
 unfold floatK
 rcases guardV_ok h with ⟨hw, h⟩ | ⟨hw, h⟩
 ·simp only [hw]
  split at h
  ·rename_i hc
   obtain ⟨m, e, hb, _, rfl, h⟩ := vMade_ok h
   simp only [hc, e, hb, forceN_eq]
   exact dec_iff.2 h
  ·rename_i hc
   obtain ⟨r, e, h⟩ := vres_ok h
   simp only [hc, e]
   split at h <;> first | exact h.elim | exact dec_iff.2 h
 ·simp only [hw]
  exact dec_iff.2 h
def vFloats (P : Program) (ops : Array Oper) (res : Nat) (nx : Nat) (k : Env → Heap → Prop) : List Nat → Env → Heap → Prop
 | [] => k
 | i :: l => fun env H => match ops[i]? with
  | some o => vFloat P ops res o i env H nx (vFloats P ops res nx k l)
  | none => False
theorem floatK_mono {P : Program} {ops : Array Oper} {res : Nat} {o : Oper} {i : Nat} {env : Env} {H : Heap} {nx : Nat} {k k' : Env → Heap → Bool} (h : floatK P ops res o i env H nx k = true) (hk : ∀ env H, k env H = true → k' env H = true) :
  floatK P ops res o i env H nx k' = true := by
 unfold floatK at h ⊢
 split at h <;> try (cases h; done)
 ·split at h
  ·split at h <;> try (cases h; done)
   split at h <;> try (cases h; done)
   rw [forceN_eq] at h ⊢
   exact hk _ _ h
  ·split at h <;> first | (cases h; done) | exact hk _ _ h
 ·exact hk _ _ h
theorem vFloats_ok {P : Program} {ops : Array Oper} {res nx : Nat} {k : Env → Heap → Prop} : ∀ {l : List Nat} {env : Env} {H : Heap}, vFloats P ops res nx k l env H → floatsK P ops res nx (dec2 k) l env H = true
 | [], _, _, h => dec_iff.2 h
 | i :: l, env, H, h => by
  have h' : (match ops[i]? with | some o => vFloat P ops res o i env H nx (vFloats P ops res nx k l) | none => False) := h
  show (match ops[i]? with | some o => floatK P ops res o i env H nx (floatsK P ops res nx (dec2 k) l) | none => false) = true
  split at h' <;> first | exact h'.elim | skip
  rename_i o ho
  try simp only [ho]
  exact floatK_mono (vFloat_ok h') fun env H hk => vFloats_ok (dec_iff.1 hk)
def vAgain (P : Program) (ops : Array Oper) (env : Env) (H : Heap) (nx : Nat) : List Nat → Prop
 | [] => True
 | i :: l => (match ops[i]? with
  | some o => guardV ops o.guard env (fun env => vres P o (aev env) H nx fun r => match r with
    | .val v _ _ => (match o.dst with
     | some d => v = get2 d env
     | none => True)
    | _ => False) (fun env => match o.dst with
     | some d => get2 d env = .tuple []
     | none => True)
  | none => False) ∧ vAgain P ops env H nx l
theorem vAgain_ok {P : Program} {ops : Array Oper} {env : Env} {H : Heap} {nx : Nat} : ∀ {l : List Nat}, vAgain P ops env H nx l → againK P ops env H nx l = true
 | [], _ => rfl
 | i :: l, h => by
  obtain ⟨h1, h2⟩ := h
  show (Bool.rec false (againK P ops env H nx l) (match ops[i]? with | some o => again1 P ops env H nx o | none => false) : Bool) = true
  have : (match ops[i]? with | some o => again1 P ops env H nx o | none => false) = true := by
   split at h1 <;> try exact h1.elim
   rename_i o ho
   try simp only [ho]
   unfold again1
   rcases guardV_ok h1 with ⟨hw, h1⟩ | ⟨hw, h1⟩
   ·simp only [hw]
    obtain ⟨r, e, h1⟩ := vres_ok h1
    simp only [e]
    split at h1 <;> try exact h1.elim
    simp only []
    split at h1
    ·rename_i d hd; simp only [hd]; exact dec_iff.2 h1
    ·rename_i hd; simp only [hd]
   ·simp only [hw]
    split at h1
    ·rename_i d hd; simp only [hd, h1]
    ·rename_i hd; simp only [hd]
  rw [this]
  exact vAgain_ok h2
def vAct (P : Program) (call : CallP) (ops : Array Oper) (o : Oper) (env : Env) (H : Heap) (nx : Nat) (dfs : Dfs) (rc : Option AMode) (k : Env → Heap → Nat → Prop) (K : KP) (env0 : Env) : Prop :=
 guardV ops o.guard env
  (fun env => vres P o (aev env) H nx fun r => match r with
   | .val v H' nx' => k (put o.dst v env) H' nx'
   | .call f args => call f args H nx fun e H' nx' => onEnd e (fun v => typedV P o.type v fun v => k (put o.dst v env) H' nx') (fun l => K (.pan l) env0 H' nx' dfs rc)
   | .pan v => K (.pan [(v, false)]) env0 H nx dfs rc
   | _ => False)
  (fun env => k (put o.dst (.tuple []) env) H nx)
theorem vAct_ok {P : Program} {call : CallP} {ops : Array Oper} {o : Oper} {env : Env} {H : Heap} {nx : Nat} {dfs : Dfs} {rc : Option AMode} {k : Env → Heap → Nat → Prop} {K : KP} {env0 : Env}
  (hm : ∀ f args H nx (K K' : EndP), call f args H nx K → (∀ e H' nx', K e H' nx' → K' e H' nx') → call f args H nx K')
  (h : vAct P call ops o env H nx dfs rc k K env0) : actK P (decC call) ops o env H nx dfs rc (dec3 k) (decK K env0) env = true := by
 unfold vAct at h
 unfold actK
 rcases guardV_ok h with ⟨hw, h⟩ | ⟨hw, h⟩
 ·simp only [hw]
  obtain ⟨r, e, h⟩ := vres_ok h
  simp only [e]
  split at h <;> try exact h.elim
  ·exact dec_iff.2 h
  ·refine dec_iff.2 (hm _ _ _ _ _ _ h fun e H' nx' he => ?_)
   cases e with
   | ret v => exact dec_iff.2 (typedV_ok (he.1 v rfl))
   | pan l => exact dec_iff.2 (he.2 l rfl)
  ·exact dec_iff.2 h
 ·simp only [hw]
  exact dec_iff.2 h
def vStages (P : Program) (call : CallP) (ops : Array Oper) (res : Nat) (dfs : Dfs) (rc : Option AMode) (K : KP) (env0 : Env) : List (Nat × List Nat × List Nat) → Env → Heap → Nat → Prop
 | [] => fun env H nx => K .normal env H nx dfs rc
 | (e, F, A) :: rest => fun env H nx => match ops[e]? with
  | some o => vAct P call ops o env H nx dfs rc (fun env' H' nx' => vFloats P ops res nx' (fun env'' H'' => vAgain P ops env'' H'' nx' A ∧ vStages P call ops res dfs rc K env0 rest env'' H'' nx') F env' H') K env0
  | none => False
theorem vStages_run {P : Program} {call : CallP} {ops : Array Oper} {res : Nat} {dfs : Dfs} {rc : Option AMode} {K : KP} {env0 : Env}
  (hm : ∀ f args H nx (K K' : EndP), call f args H nx K → (∀ e H' nx', K e H' nx' → K' e H' nx') → call f args H nx K') :
  ∀ (rest : List Stage) (env : Env) (H : Heap) (nx : Nat), vStages P call ops res dfs rc K env0 rest env H nx →
   RunP P (decC call) ops res dfs rc (fun l H nx => K (.pan l) env0 H nx dfs rc) (fun env H nx => K .normal env H nx dfs rc) rest env H nx
 | [], _, _, _, h => h
 | (e, L, A) :: rest, env, H, nx, h => by
  intro oe hoe
  have h' : (match ops[e]? with
   | some o => vAct P call ops o env H nx dfs rc (fun env' H' nx' => vFloats P ops res nx' (fun env'' H'' => vAgain P ops env'' H'' nx' A ∧ vStages P call ops res dfs rc K env0 rest env'' H'' nx') L env' H') K env0
   | none => False) := h
  rw [hoe] at h'
  refine ⟨_, decK K env0, vAct_ok hm h', fun l H1 nx1 hk => dec_iff.1 hk, fun env1 H1 nx1 hk => ?_⟩
  refine ⟨_, vFloats_ok (dec_iff.1 hk), fun env2 H2 hk2 => ?_⟩
  obtain ⟨h1, h2⟩ := dec_iff.1 hk2
  exact ⟨vAgain_ok h1, vStages_run hm rest env2 H2 nx1 h2⟩
def vDrawn0 (P : Program) (call : CallP) (nt : Nat) (ops : Array Oper) (K : KP) : KC := fun env H nx dfs rc =>
 match planOK nt ops with
 | true => vFloats P ops nx (nx + ops.size) (fun env' H' => vAgain P ops env' H' (nx + ops.size) (planA ops) ∧
   vStages P call ops nx dfs rc K (blank ops.toList env) (planS ops) env' H' (nx + ops.size)) (plan0 ops) env H
 | false => False
theorem vDrawn0_any {P : Program} {call : CallP} {nt : Nat} {ops : Array Oper} {env : Env} {H : Heap} {nx : Nat} {dfs : Dfs} {rc : Option AMode} {K : KP} (hm : P.follows .mixedOrders = true)
  (hcm : ∀ f args H nx (K K' : EndP), call f args H nx K → (∀ e H' nx', K e H' nx' → K' e H' nx') → call f args H nx K')
  (hc : CallSP P call) (h : vDrawn0 P call nt ops K env H nx dfs rc)
  (σ : Sg) (w : World) (a : Act) (Q : Exit → Act → World → Prop) (hr : Rel σ H nx w) (ha : ARel σ nt env dfs a)
  (hQ : ∀ ex env' H' nx' σ' w' a' e, K ex env' H' nx' dfs rc → Rel σ' H' nx' w' → Ext σ σ' H H' nx nx' w w' → ARel σ' nt env' dfs a' → ExRel σ' ex e → Q e a' w') :
  wpAny P .any ops Q ops.size (Array.replicate ops.size false) a { w with drawn := w.drawn + 1 } := by
 unfold vDrawn0 at h
 split at h <;> try exact h.elim
 rename_i hplan
 have hlim : nx + ops.size ≤ nx + ops.size := Nat.le_refl _
 unfold planOK at hplan
 split at hplan <;> try (cases hplan; done)
 rename_i past hnt hops hF
 split at hplan <;> try (cases hplan; done)
 rename_i hA hS hcov
 have hn : nt ≤ 4096 := Nat.le_of_ble_eq_true hnt
 have F := opsOK_fact hops
 obtain ⟨env1, H1, hk, b1, b2, b3, b4, b5⟩ := floatsK_ok F hn hlim (plan0 ops) [] past env H hF (vFloats_ok h)
 obtain ⟨hag0, hk⟩ := dec_iff.1 hk
 have hag : againK P ops env1 H1 (nx + ops.size) (planA ops) = true := vAgain_ok hag0
 have hpast : ∀ i, i ∈ past → ∃ o, ops[i]? = some o ∧ (cls o.op = 0 ∨ cls o.op = 1) := by
  intro i hi
  rcases (chkF_past hF i).1 hi with hi | hi
  ·cases hi
  ·obtain ⟨o, ho, hne⟩ := chkF_cls hF i hi
   refine ⟨o, ho, ?_⟩
   have : cls o.op = 0 ∨ cls o.op = 1 ∨ cls o.op = 2 := by
    unfold cls
    split <;> first | exact .inl rfl | exact .inr (.inl rfl) | exact .inr (.inr rfl) | skip
    split <;> first | exact .inl rfl | exact .inr (.inr rfl)
   rcases this with h | h | h
   ·exact .inl h
   ·exact .inr h
   ·exact (hne h).elim
 have hblank : ∀ t, t < 4096 → get2 t (blank ops.toList env) = .und ∨ ((∀ (j : Nat) (q : Oper), ops[j]? = some q → q.dst ≠ some t) ∧ get2 t (blank ops.toList env) = get2 t env1) := by
  intro t ht
  have hd : ∀ o, o ∈ ops.toList → dstOK nt o.dst = true := fun o ho => by
   obtain ⟨i, hi⟩ := List.mem_iff_getElem?.1 ho
   exact F.dst i o (by simpa using hi)
  rcases blank_get hn ops.toList env t ht hd with h | ⟨h1, h2⟩
  ·exact .inl h
  ·have h3 : ∀ (j : Nat) (q : Oper), ops[j]? = some q → q.dst ≠ some t := fun j q hq => h1 q (by simpa using Array.mem_of_getElem? hq)
   exact .inr ⟨h3, by rw [h2, b1 t ht fun j q _ hq => h3 j q hq]⟩
 have hrun := vStages_run hcm (planS ops) env1 H1 (nx + ops.size) hk
 have none' : ∀ b, nx ≤ b → σ b = none := fun b hb => by
  cases e : σ b with
  | none => rfl
  | some p => obtain ⟨cb, sz⟩ := p; have := (hr.dom b cb sz e).1; omega
 have := stages_sem (call := decC call) [] (decC_ok hc) F hn hlim (planS ops) none past env1 H1 (nx + ops.size) hS (fun s _ i hi => by cases hi) hpast hblank hrun σ H w Q
  (fun l H' nx' σ' w' a' c hk R E A C => hQ (.pan l) _ H' nx' σ' w' a' (.panic c) hk R E A C)
  (fun env' H' nx' hk hp => tail_nil F hn hp fun σ' w' a' R E A => hQ .normal env' H' nx' σ' w' a' .normal hk R E A trivial)
 rw [List.append_nil] at this
 refine this ops.size _ σ _ a ⟨by simp, ha.env.size, ?_, ?_, ?_, ?_, ?_, ?_, ?_, Nat.le_refl _, ?_, ?_, ha.dfs⟩ ?_
 ·exact fun i j h => (isL_none h).elim
 ·exact fun i _ h => isL_none h
 ·intro i hi
  have := memN_ok (allL_ok hcov i (List.mem_range.2 hi))
  rcases List.mem_append.1 this with h | h
  ·exact .inl ((chkF_past hF i).2 (.inr h))
  ·exact .inr (.inl h)
 ·intro t ht hown
  rw [b1 t ht fun j q _ hq hd => isL_none (hown j q hq hd)]
  exact ha.env.den t ht
 ·intro j q hj hq _ hcl
  cases hip : impure q.op with
  | true =>
   have h1 := allL_ok hA j hj
   rw [hq] at h1
   simp only [hip] at h1
   have hmem : j ∈ planA ops := by
    split at h1
    ·exact memN_ok ‹_›
    ·rw [bit_eq] at h1; simp at h1
   have h3 := allL_ok hag j hmem
   rw [hq] at h3
   exact again1_fl0 hcl h3
  | false =>
   rcases (chkF_past hF j).1 hj with hj | hj
   ·cases hj
   ·exact b5 j q hj hq hcl hip
 ·intro j q hj hq _ hcl
  rcases (chkF_past hF j).1 hj with hj | hj
  ·cases hj
  ·exact b4 j q hj hq hcl
 ·exact fun i _ _ => none' _ (by omega)
 ·exact (b3 σ w (hr.more (Nat.le_add_right _ _) hlim) fun j _ => none' _ (by omega)).drew
 ·have E := Ext.drew σ H nx w
  refine ⟨E.sub, E.rng, ?_, Nat.le_add_right _ _, rfl, rfl, rfl, Nat.le_refl _, fun _ _ _ => rfl, Nat.le_succ _⟩
  intro b hb h0
  exact ⟨h0, b2 b (by omega) fun j _ => by omega⟩
 ·unfold left
  have := List.countP_le_length (p := fun i => !(Array.replicate ops.size false).getD i false) (l := List.range ops.size)
  simpa using this
def lastOp (ops : Array Oper) : Option (Oper × Nat × Operand) := match ops.toList.getLast? with
 | some o => match o.op, o.guard, o.dst with
  | .assign x, none, some d => some (o, d, x)
  | _, _, _ => none
 | none => none
def lastOK (nt : Nat) (init : Array Oper) (o : Oper) : Bool :=
 match dstOK nt o.dst, allL (fun i => bit (maskOf (ahead init) o.after.toList) i) (List.range init.size), allL (fun e => Bool.rec true (Nat.ble (Nat.succ e.on) init.size) (Region.binds .any e)) o.after.toList, opsOK nt init init.toList (ahead init) init.toList 0 with
 | true, true, true, true => true
 | _, _, _, _ => false
def lastK (d : Nat) (x : Operand) (K : KP) : KP := fun ex env H nx dfs rc => match ex with
 | .normal => K .normal (put (some d) (aev env x) env) H nx dfs rc
 | .exit id => K (.exit id) env H nx dfs rc
 | .ret => K .ret env H nx dfs rc
 | .pan l => K (.pan l) env H nx dfs rc
def vDrawn (P : Program) (call : CallP) (nt : Nat) (ops : Array Oper) (K : KP) : KC := fun env H nx dfs rc =>
 match planOK nt ops with
 | true => vDrawn0 P call nt ops K env H nx dfs rc
 | false => match lastOp ops with
  | some (o, d, x) => match lastOK nt ops.pop o with
   | true => vDrawn0 P call nt ops.pop (lastK d x K) env H nx dfs rc
   | false => False
  | none => False
theorem wp_monoQ {P : Program} {o : Oper} {a : Act} {w : World} {K K' : Act → World → Prop} {Q Q' : Exit → Act → World → Prop} (h : ∀ a w, K a w → K' a w) (hp : ∀ c a w, Q (.panic c) a w → Q' (.panic c) a w) (hl : LetsOut Q → LetsOut Q')
  (hh : o.wp P a w K Q) : o.wp P a w K' Q' := by
 unfold Oper.wp at *
 generalize (execOp a.eval o).run P w = r at *
 cases r with
 | ok n w' =>
  cases n <;> simp only [Oper.upon] at hh ⊢ <;>
   first
    | exact h _ _ hh
    | exact Calls.mono hh (fun e w'' he => by cases e <;> first | exact h _ _ he | exact hp _ _ _ he | exact hl he | exact he)
    | exact Rows.mono hh (fun _ _ he => h _ _ he)
 | halt x w' => cases x <;> simp only [Oper.upon] at hh ⊢ <;> first | exact hp _ _ _ hh | exact hh
theorem wpOp_conv {P : Program} {ops init : Array Oper} {i : Nat} {oi : Oper} {a : Act} {w : World} {K K' : Act → World → Prop} {Q Q' : Exit → Act → World → Prop} (hi : init[i]? = some oi) (ho : ops[i]? = some oi)
  (hg : ∀ (g : Nat) (b : Bool), oi.guard = some (g, b) → ops[g]? = init[g]?) (h : ∀ a w, K a w → K' a w) (hp : ∀ c a w, Q (.panic c) a w → Q' (.panic c) a w) (hl : LetsOut Q → LetsOut Q')
  (hh : wpOp P init Q i K a w) : wpOp P ops Q' i K' a w := by
 unfold wpOp at *
 rw [hi] at hh
 rw [ho]
 have e : Region.wanted oi (yielded ops a.tmps) = Region.wanted oi (yielded init a.tmps) := by
  unfold Region.wanted
  cases hgd : oi.guard with
  | none => rfl
  | some p =>
   obtain ⟨g, b⟩ := p
   have := hg g b hgd
   simp only [yielded, this]
 simp only [e] at hh ⊢
 by_cases hw : Region.wanted oi (yielded init a.tmps) = true
 ·rw [if_pos hw] at hh ⊢
  exact hh.imp (wp_monoQ h hp hl) fun ⟨h1, h2⟩ => ⟨h1, hl h2⟩
 ·rw [if_neg hw] at hh ⊢
  exact h _ _ hh
def lastQ (P : Program) (ops : Array Oper) (n : Nat) (Q : Exit → Act → World → Prop) : Exit → Act → World → Prop := fun e a w => match e with
 | .normal => wpOp P ops Q n (fun a w => Q .normal a w) a w
 | e => Q e a w
theorem wpAny_last {P : Program} {nt : Nat} {ops init : Array Oper} {o : Oper} {Q : Exit → Act → World → Prop} (F : OpsFact nt init (ahead init)) (hsz : ops.size = init.size + 1) (hget : ∀ i, i < init.size → ops[i]? = init[i]?) (hlast : ops[init.size]? = some o)
  (hcov : ∀ i, i < init.size → bit (maskOf (ahead init) o.after.toList) i = true) (hedge : ∀ e, e ∈ o.after.toList → Region.binds .any e = true → e.on < init.size) :
  ∀ fuel listed a w, listed.size = init.size → (∀ i j, isL listed i → bit ((ahead init).getD i 0) j = true → isL listed j) → wpAny P .any init (lastQ P ops init.size Q) fuel listed a w →
   ∀ listed2 : Array Bool, listed2.size = init.size + 1 → (∀ i, i < init.size → (isL listed2 i ↔ isL listed i)) → ¬ isL listed2 init.size → wpAny P .any ops Q (fuel + 1) listed2 a w := by
 have allready : ∀ listed : Array Bool, (∀ i j, isL listed i → bit ((ahead init).getD i 0) j = true → isL listed j) → (∀ e, e ∈ o.after.toList → Region.binds .any e = true → isL listed e.on) → ∀ i, i < init.size → isL listed i := fun listed hc he i hi => by
  obtain ⟨e, h1, h2, h3⟩ := maskOf_bit (hcov i hi)
  rcases h3 with rfl | h3
  ·exact he e h1 h2
  ·exact hc _ _ (he e h1 h2) h3
 have atEnd : ∀ (fuel : Nat) (listed2 : Array Bool) (a : Act) (w : World), listed2.size = init.size + 1 → (∀ i, i < init.size → isL listed2 i) → ¬ isL listed2 init.size → lastQ P ops init.size Q .normal a w → wpAny P .any ops Q (fuel + 1) listed2 a w := by
  intro fuel listed2 a w hs2 hall hn hq
  have rd : init.size ∈ Region.ready .any ops listed2 := (mem_ready (by omega)).2 ⟨o, hlast, hn, fun e he hb => hall _ (hedge e he hb)⟩
  refine ⟨fun hnil => (by rw [hnil] at rd; cases rd), fun i hi => ?_⟩
  obtain ⟨oi, ho, hnl, _⟩ := (mem_ready (by omega)).1 hi
  have hlt : i < ops.size := (Array.getElem?_eq_some_iff.1 ho).1
  have : i = init.size := by
   rcases Nat.lt_or_ge i init.size with h | h
   ·exact (hnl (hall i h)).elim
   ·omega
  subst this
  refine wpOp_mono (fun a w hK => ?_) hq
  have hnil : Region.ready .any ops (listed2.setIfInBounds init.size true) = [] := by
   refine List.eq_nil_iff_forall_not_mem.2 fun j hj => ?_
   obtain ⟨oj, hoj, hnj, _⟩ := (mem_ready (by rw [Array.size_setIfInBounds]; omega)).1 hj
   have hjl : j < ops.size := (Array.getElem?_eq_some_iff.1 hoj).1
   rw [isL_set (by omega)] at hnj
   rcases Nat.lt_or_ge j init.size with h | h
   ·exact hnj (.inr (hall j h))
   ·exact hnj (.inl (by omega))
  exact wpAny_done hnil hK fuel
 intro fuel
 induction fuel with
 | zero =>
  intro listed a w hs hc h listed2 hs2 heq hn
  have hall := ready_nil F hs h.1
  exact atEnd 0 listed2 a w hs2 (fun i hi => (heq i hi).2 (hall i hi)) hn h.2
 | succ fuel ih =>
  intro listed a w hs hc h listed2 hs2 heq hn
  by_cases hnil : Region.ready .any init listed = []
  ·have hall := ready_nil F hs hnil
   exact atEnd (fuel + 1) listed2 a w hs2 (fun i hi => (heq i hi).2 (hall i hi)) hn (h.1 hnil)
  ·obtain ⟨j, hj⟩ := List.exists_mem_of_ne_nil _ hnil
   obtain ⟨oj, hoj, hnj, hej⟩ := (mem_ready hs).1 hj
   have hjl : j < init.size := (Array.getElem?_eq_some_iff.1 hoj).1
   have lt_of : ∀ (i : Nat) (oi : Oper), init[i]? = some oi → ∀ e, e ∈ oi.after.toList → Region.binds .any e = true → e.on < init.size := fun i oi hi e he hb => by
    have := F.edge i oi hi e he hb
    have := (Array.getElem?_eq_some_iff.1 hi).1
    omega
   refine ⟨fun hnil2 => ?_, fun i hi => ?_⟩
   ·exfalso
    have : j ∈ Region.ready .any ops listed2 := (mem_ready (by omega)).2 ⟨oj, by rw [hget j hjl]; exact hoj, fun hl => hnj ((heq j hjl).1 hl), fun e he hb => (heq _ (lt_of j oj hoj e he hb)).2 (hej e he hb)⟩
    rw [hnil2] at this; cases this
   ·obtain ⟨oi, hoi, hni, hei⟩ := (mem_ready (by omega)).1 hi
    have hil : i < ops.size := (Array.getElem?_eq_some_iff.1 hoi).1
    rcases Nat.lt_or_ge i init.size with hlt | hge
    ·have hoi' : init[i]? = some oi := by rw [← hget i hlt]; exact hoi
     have hi' : i ∈ Region.ready .any init listed := (mem_ready hs).2 ⟨oi, hoi', fun hl => hni ((heq i hlt).2 hl), fun e he hb => (heq _ (lt_of i oi hoi' e he hb)).1 (hei e he hb)⟩
     refine wpOp_conv hoi' hoi (fun g b hg => ?_) (fun a w hK => ?_) (fun _ _ _ hq => hq) (fun ⟨a, w, hq⟩ => ⟨a, w, hq⟩) (h.2 i hi')
     ·obtain ⟨tt, ht⟩ := F.grd i oi g b hoi' hg
      refine hget g ?_
      rcases Nat.lt_or_ge g init.size with h | h
      ·exact h
      ·rw [Array.getElem?_eq_none h] at ht; cases ht
     ·refine ih (listed.setIfInBounds i true) a w (by rw [Array.size_setIfInBounds]; exact hs) ?_ hK (listed2.setIfInBounds i true) (by rw [Array.size_setIfInBounds]; exact hs2) ?_ ?_
      ·intro p q hp hb
       rw [isL_set (by omega)] at hp ⊢
       rcases hp with rfl | hp
       ·obtain ⟨g, hg, hb', hc'⟩ := F.ahead p oi hoi' q hb
        have hgl := (heq _ (lt_of p oi hoi' g hg hb')).1 (hei g hg hb')
        rcases hc' with rfl | hc'
        ·exact .inr hgl
        ·exact .inr (hc _ q hgl hc')
       ·exact .inr (hc p q hp hb)
      ·intro p hp
       rw [isL_set (by omega), isL_set (by omega), heq p hp]
      ·rw [isL_set (by omega)]
       rintro (h | h)
       ·omega
       ·exact hn h
    ·have : i = init.size := by omega
     subst this
     rw [hlast] at hoi; cases hoi
     exfalso
     have hall := allready listed hc fun e he hb => (heq _ (hedge e he hb)).1 (hei e he hb)
     exact hnj (hall j hjl)
theorem vDrawn_wp {P : Program} {call : CallP} {nt : Nat} {ops : Array Oper} {env : Env} {H : Heap} {nx : Nat} {dfs : Dfs} {rc : Option AMode} {K : KP} (hm : P.follows .mixedOrders = true)
  (hcm : ∀ f args H nx (K K' : EndP), call f args H nx K → (∀ e H' nx', K e H' nx' → K' e H' nx') → call f args H nx K')
  (hc : CallSP P call) (h : vDrawn P call nt ops K env H nx dfs rc) (id : Nat)
  (σ : Sg) (w : World) (a : Act) (Q : Exit → Act → World → Prop) (hr : Rel σ H nx w) (ha : ARel σ nt env dfs a)
  (hQ : ∀ ex env' H' nx' σ' w' a' e, K ex env' H' nx' dfs rc → Rel σ' H' nx' w' → Ext σ σ' H H' nx nx' w w' → ARel σ' nt env' dfs a' → ExRel σ' ex e → Q e a' w') :
  (Code.region id ops true).wp P Q a w := by
 refine wp_region_any hm ?_
 unfold vDrawn at h
 split at h
 ·exact vDrawn0_any hm hcm hc h σ w a Q hr ha hQ
 ·split at h <;> try exact h.elim
  rename_i o d x hlo
  split at h <;> try exact h.elim
  rename_i hok
  unfold lastOp at hlo
  split at hlo <;> try (cases hlo; done)
  rename_i o' hgl
  split at hlo <;> try (cases hlo; done)
  rename_i x' d' hop hgd hdst
  cases hlo
  unfold lastOK at hok
  split at hok <;> try (cases hok; done)
  rename_i hd hcov hedge hopsOK
  have F := opsOK_fact hopsOK
  obtain ⟨l, hl⟩ : ∃ l, ops.toList = l ++ [o] := by
   obtain ⟨l, hl⟩ := List.getLast?_eq_some_iff.1 hgl
   exact ⟨l, hl⟩
  have hpop : ops.pop.toList = l := by rw [Array.toList_pop, hl]; simp
  have hps : ops.pop.size = l.length := by rw [← hpop]; simp
  have hsz : ops.size = ops.pop.size + 1 := by rw [hps, ← Array.length_toList, hl]; simp
  have hget : ∀ i, i < ops.pop.size → ops[i]? = ops.pop[i]? := fun i hi => by
   rw [← Array.getElem?_toList, ← Array.getElem?_toList, hl, hpop, List.getElem?_append_left (by omega)]
  have hlast : ops[ops.pop.size]? = some o := by
   rw [← Array.getElem?_toList, hl, hps]; simp
  have any := vDrawn0_any (K := lastK d x K) hm hcm hc h σ w a (lastQ P ops ops.pop.size Q) hr ha ?_
  ·rw [hsz]
   refine wpAny_last F hsz hget hlast (fun i hi => allL_ok hcov i (List.mem_range.2 hi)) (fun e he hb => ?_) ops.pop.size _ a _ (by simp) (fun i j h => (isL_none h).elim) any _ (by simp) (fun i _ => ⟨fun h => (isL_none h).elim, fun h => (isL_none h).elim⟩) isL_none
   have h2 := allL_ok hedge e he
   have h3 : (Bool.rec true (Nat.ble (Nat.succ e.on) ops.pop.size) (Region.binds .any e) : Bool) = true := h2
   rw [hb] at h3
   exact Nat.le_of_ble_eq_true h3
  ·intro ex env' H' nx' σ' w' a' e hk R E A X
   cases ex with
   | normal =>
    cases e <;> try exact X.elim
    show wpOp P ops Q ops.pop.size (fun a w => Q .normal a w) a' w'
    unfold wpOp
    rw [hlast]
    have hwd : Region.wanted o (yielded ops a'.tmps) = true := by unfold Region.wanted; rw [hgd]
    simp only [hwd, if_true]
    have hao : aop P o (aev env') H' nx' = some (.val (aev env' x) H' nx') := by
     unfold aop; rw [hop]; rfl
    obtain ⟨σ2, w2, v', R2, E2, D2, hrun⟩ := aop_ok hao σ' w' a'.eval R A.env.aev
    have A2 : ARel σ2 nt (put (some d) (aev env' x) env') dfs (a'.put o.dst v') := by
     rw [hdst]; exact (A.mono E2.sub).put (by rw [← hdst]; exact hd) D2
    refine .inl ?_
    unfold Oper.wp
    rcases hrun with hrun | ⟨hrun, rfl⟩
    ·rw [hrun]; exact hQ .normal _ H' nx' σ2 w2 _ .normal hk R2 (E.trans E2) A2 trivial
    ·rw [hrun]; exact hQ .normal _ H' nx' σ2 w2 _ .normal hk R2 (E.trans E2) A2 trivial
   | exit id =>
    cases e <;> first | exact X.elim | exact hQ (.exit id) env' H' nx' σ' w' a' _ hk R E A X
   | ret =>
    cases e <;> first | exact X.elim | exact hQ .ret env' H' nx' σ' w' a' _ hk R E A X
   | pan l =>
    cases e <;> first | exact X.elim | exact hQ (.pan l) env' H' nx' σ' w' a' _ hk R E A X
def learn (c : Operand) (b : Bool) (env : Env) : Env := match c with
 | .tmp t => set2 t (.bool b) env
 | _ => env
theorem learn_eq {c : Operand} {b : Bool} {env : Env} (h : aev env c = .bool b) : learn c b env = env := by
 cases c with
 | tmp t =>
  have h' : (Bool.rec .und (get2 t env) (Nat.ble t 4095) : AVal) = .bool b := h
  cases e : Nat.ble t 4095 with
  | false => rw [e] at h'; cases h'
  | true => rw [e] at h'; exact set2_self h'
 | const v => rfl
 | global g => rfl
 | func f => rfl
def vK (P : Program) (call : CallP) (lp : LoopP) (nt : Nat) : Code → Env → Heap → Nat → Dfs → Option AMode → KP → Prop
 | .skip => fun env H nx dfs rc K => K .normal env H nx dfs rc
 | .region _ ops false => fun env H nx dfs rc K => vOps P call nt ops K ops.toList env H nx dfs rc
 | .region _ ops true => fun env H nx dfs rc K => vDrawn P call nt ops K env H nx dfs rc
 | .seq a b => fun env H nx dfs rc K => vK P call lp nt a env H nx dfs rc fun e env H nx dfs rc => match e with
  | .normal => vK P call lp nt b env H nx dfs rc K
  | .exit id => K (.exit id) env H nx dfs rc
  | .ret => K .ret env H nx dfs rc
  | .pan l => K (.pan l) env H nx dfs rc
 | .cond c a b => fun env H nx dfs rc K => match aev env c with
  | .bool p => Bool.rec (vK P call lp nt b (learn c false env) H nx dfs rc K) (vK P call lp nt a (learn c true env) H nx dfs rc K) p
  | _ => False
 | .block id a => fun env H nx dfs rc K => vK P call lp nt a env H nx dfs rc fun e env H nx dfs rc => match e with
  | .normal => K .normal env H nx dfs rc
  | .exit j => match Nat.beq j id with
   | true => K .normal env H nx dfs rc
   | false => K (.exit j) env H nx dfs rc
  | .ret => K .ret env H nx dfs rc
  | .pan l => K (.pan l) env H nx dfs rc
 | .loop a => fun env H nx dfs rc K => lp a env H nx dfs rc K
 | .exit id => fun env H nx dfs rc K => K (.exit id) env H nx dfs rc
 | .ret => fun env H nx dfs rc K => K .ret env H nx dfs rc
 | _ => fun _ _ _ _ _ _ => False
def LoopS (P : Program) (nt : Nat) (lp : LoopP) : Prop := ∀ a env H nx dfs K, lp a env H nx dfs none K →
 ∀ σ w act Q, Rel σ H nx w → ARel σ nt env dfs act → PostP nt K σ H nx w Q → (Code.loop a).wp P Q act w
theorem vK_none {P : Program} {call : CallP} {lp : LoopP} {nt : Nat} (hm : P.follows .mixedOrders = true)
  (hcm : ∀ f args H nx (K K' : EndP), call f args H nx K → (∀ e H' nx', K e H' nx' → K' e H' nx') → call f args H nx K') (hc : CallSP P call) (hl : LoopS P nt lp) :
  ∀ (c : Code) (env : Env) (H : Heap) (nx : Nat) (dfs : Dfs) (K : KP), vK P call lp nt c env H nx dfs none K →
   ∀ σ w a Q, Rel σ H nx w → ARel σ nt env dfs a → PostP nt K σ H nx w Q → c.wp P Q a w := by
 intro c
 induction c with
 | skip => exact fun env H nx dfs K h σ w a Q hr ha hQ => wp_skip (hQ .normal env H nx dfs σ w a .normal h hr (Ext.refl _ _ _ _) ha trivial)
 | region id ops draw =>
  intro env H nx dfs K h σ w a Q hr ha hQ
  cases draw with
  | false => exact wp_region_list (vOps_none hc ops.toList env H nx dfs h σ w a Q hr ha hQ)
  | true => exact vDrawn_wp hm hcm hc h id σ w a Q hr ha fun ex env' H' nx' σ' w' a' e hk R E A X => hQ ex env' H' nx' dfs σ' w' a' e hk R E A X
 | seq x y ihx ihy =>
  intro env H nx dfs K h σ w a Q hr ha hQ
  refine wp_seq (ihx env H nx dfs _ h σ w a _ hr ha ?_)
  intro ex env' H' nx' dfs' σ' w' a' e hk R E A X
  cases ex with
  | normal => cases e <;> first | exact X.elim | exact ihy env' H' nx' dfs' K hk σ' w' a' Q R A (hQ.from E)
  | exit id => cases e <;> first | exact X.elim | exact hQ _ _ _ _ _ σ' w' a' _ hk R E A X
  | ret => cases e <;> first | exact X.elim | exact hQ _ _ _ _ _ σ' w' a' _ hk R E A X
  | pan l => cases e <;> first | exact X.elim | exact hQ _ _ _ _ _ σ' w' a' _ hk R E A X
 | cond c x y ihx ihy =>
  intro env H nx dfs K h σ w a Q hr ha hQ
  have h' : (match aev env c with
   | .bool p => Bool.rec (vK P call lp nt y (learn c false env) H nx dfs none K) (vK P call lp nt x (learn c true env) H nx dfs none K) p
   | _ => False) := h
  split at h' <;> first | exact h'.elim | skip
  rename_i p hp
  cases p with
  | true =>
   have h2 : vK P call lp nt x (learn c true env) H nx dfs none K := h'
   rw [learn_eq hp] at h2
   exact wp_cond (t := true) (eval_bool ha hp) (ihx env H nx dfs K h2 σ w a Q hr ha hQ)
  | false =>
   have h2 : vK P call lp nt y (learn c false env) H nx dfs none K := h'
   rw [learn_eq hp] at h2
   exact wp_cond (t := false) (eval_bool ha hp) (ihy env H nx dfs K h2 σ w a Q hr ha hQ)
 | block id x ihx =>
  intro env H nx dfs K h σ w a Q hr ha hQ
  refine wp_block (ihx env H nx dfs _ h σ w a _ hr ha ?_)
  intro ex env' H' nx' dfs' σ' w' a' e hk R E A X
  cases ex with
  | normal => cases e <;> first | exact X.elim | exact hQ _ _ _ _ _ σ' w' a' _ hk R E A X
  | exit j =>
   cases e <;> try exact X.elim
   have X' : j = _ := X
   subst X'
   cases hb : Nat.beq j id with
   | true =>
    have hid := Nat.eq_of_beq_eq_true hb
    simp only [hb] at hk
    simp only [Exit.inBlock, hid, if_true]
    exact hQ _ _ _ _ _ σ' w' a' .normal hk R E A trivial
   | false =>
    have hid : j ≠ id := fun e => by subst e; simp at hb
    simp only [hb] at hk
    simp only [Exit.inBlock, hid, if_false]
    exact hQ _ _ _ _ _ σ' w' a' _ hk R E A rfl
  | ret => cases e <;> first | exact X.elim | exact hQ _ _ _ _ _ σ' w' a' _ hk R E A X
  | pan l => cases e <;> first | exact X.elim | exact hQ _ _ _ _ _ σ' w' a' _ hk R E A X
 | loop x _ =>
  intro env H nx dfs K h σ w a Q hr ha hQ
  exact hl x env H nx dfs _ h σ w a Q hr ha hQ
 | exit id => exact fun env H nx dfs K h σ w a Q hr ha hQ => wp_exit (hQ _ env H nx dfs σ w a (.exit id) h hr (Ext.refl _ _ _ _) ha rfl)
 | ret => exact fun env H nx dfs K h σ w a Q hr ha hQ => wp_ret (hQ _ env H nx dfs σ w a .ret h hr (Ext.refl _ _ _ _) ha trivial)
 | rangeFunc f p x y => exact fun env H nx dfs K h => h.elim
 | scope x => exact fun env H nx dfs K h => h.elim
 | label l => exact fun env H nx dfs K h => h.elim
 | goto l => exact fun env H nx dfs K h => h.elim
 | refuse s => exact fun env H nx dfs K h => h.elim
def EnvLe (e env : Env) : Prop := ∀ t, t < 4096 → e t = .und ∨ e t = env t
theorem EnvLe.refl (e : Env) : EnvLe e e := fun _ _ => .inr rfl
theorem ARel.weaken {σ : Sg} {nt : Nat} {e env : Env} {dfs : Dfs} {a : Act} (h : ARel σ nt env dfs a) (hle : EnvLe e env) : ARel σ nt e dfs a := by
 refine ⟨⟨h.env.size, h.env.le, fun t ht => ?_⟩, h.dfs⟩
 rcases hle t ht with q | q
 ·show Den σ (e t) _
  rw [q]; exact .und _
 ·show Den σ (e t) _
  rw [q]; exact h.env.den t ht
end
end Go.Vs
end
section
namespace Go.Vs
variable [GTab]
noncomputable section
def vRes (P : Program) (env : Env) (H : Heap) : List ResultVar → (List AVal → Prop) → Prop
 | [], k => k []
 | .tmp t :: l, k => match Nat.ble t 4095 with
  | true => vRes P env H l fun vs => k (get2 t env :: vs)
  | false => False
 | .cell a t :: l, k => match Nat.ble a 4095 with
  | true => vLoad P t H (get2 a env) fun v => vRes P env H l fun vs => k (v :: vs)
  | false => False
theorem vRes_ok {P : Program} {env : Env} {H : Heap} : ∀ {l : List ResultVar} {k : List AVal → Prop}, vRes P env H l k → ∃ vs, resultsA P env H l = some vs ∧ k vs
 | [], _, h => ⟨[], rfl, h⟩
 | .tmp t :: l, k, h => by
  unfold vRes at h
  split at h <;> try exact h.elim
  rename_i hb
  obtain ⟨vs, e, h⟩ := vRes_ok h
  exact ⟨_, by unfold resultsA; simp only [hb, e], h⟩
 | .cell a t :: l, k, h => by
  unfold vRes at h
  split at h <;> try exact h.elim
  rename_i hb
  obtain ⟨v, e1, h⟩ := vLoad_ok h
  obtain ⟨vs, e, h⟩ := vRes_ok h
  exact ⟨_, by unfold resultsA; simp only [hb, e, e1], h⟩
def leaveV (P : Program) (calld : CallDP) (rs : List ResultVar) (env : Env) : Dfs → AMode → Heap → Nat → EndP → Prop
 | [], m, H, nx, K => match m with
  | .returning => ∃ vs, resultsA P env H rs = some vs ∧ K (.ret (oneOf vs)) H nx
  | .panicking l => K (.pan l) H nx
 | (g, args) :: dfs, m, H, nx, K => calld g args m H nx fun e m' H' nx' => onEnd e (fun _ => leaveV P calld rs env dfs (settleA m') H' nx' K) (fun l => leaveV P calld rs env dfs (raisedA m' l) H' nx' K)
theorem leaveV_ok {P : Program} {calld : CallDP} (hcd : CallDSP P calld) {fn : Func} {nt : Nat} {env : Env} :
  ∀ (dfs : Dfs) (m : AMode) (H : Heap) (nx : Nat) (K : EndP), leaveV P calld fn.results.toList env dfs m H nx K →
   ∀ σ w u ds tmps R, Rel σ H nx w → EnvRel σ nt env tmps → DfsRel σ dfs ds → MRel σ m u →
    (∀ e H' nx' σ' w' en, K e H' nx' → Rel σ' H' nx' w' → Ext σ σ' H H' nx nx' w w' → EndRel σ' e en → R en w') → Leaves P fn tmps R ds u w
 | [], m, H, nx, K, h => by
  intro σ w u ds tmps R hr he hdf hm hR
  cases m with
  | returning =>
   obtain ⟨vs, hvs, h'⟩ := h
   cases hdf
   cases u <;> try exact hm.elim
   obtain ⟨v', dv, hrun⟩ := results_ok hr he hvs
   exact ⟨v', hrun, hR _ _ _ σ w _ h' hr (Ext.refl _ _ _ _) dv⟩
  | panicking l =>
   cases hdf
   cases u <;> try exact hm.elim
   exact hR (.pan l) H nx σ w _ h hr (Ext.refl _ _ _ _) hm
 | (f, args) :: dfs, m, H, nx, K, h => by
  obtain ⟨hbody, tri⟩ := hcd f args m H nx _ h
  intro σ w u ds tmps R hr he hdf hm hR
  cases hdf with
  | @cons _ _ d _ l' hd ht =>
   obtain ⟨cap, htar, hargs⟩ := hd
   refine ⟨mode_ne hm, .func f, cap, f, d.args ++ cap, htar, ?_, ?_⟩
   ·rw [htar]
    simp only [invoke]
    exact run_callFunc hbody _ w
   ·have hl : (⟨(d.args ++ cap).toList⟩ : Array Value) = d.args ++ cap := rfl
    rw [← hl]
    refine tri σ w _ u _ hr hargs hm fun e m' H1 nx1 σ1 w1 en u1 hk R1 E1 X1 M1 => ?_
    cases e with
    | ret v =>
     cases en with
     | returned v' => exact leaveV_ok hcd dfs _ H1 nx1 K (hk.1 v rfl) σ1 w1 (settle u1) l' tmps R R1 (he.mono E1.sub) (ht.mono E1.sub) (settle_ok M1) fun e2 H2 nx2 σ2 w2 en2 hk2 R2 E2 X2 => hR e2 H2 nx2 σ2 w2 en2 hk2 R2 (E1.trans E2) X2
     | panicked c => exact X1.elim
     | outgrown => exact X1.elim
    | pan l =>
     cases en with
     | returned v' => exact X1.elim
     | panicked c => exact leaveV_ok hcd dfs _ H1 nx1 K (hk.2 l rfl) σ1 w1 (raised u1 c) l' tmps R R1 (he.mono E1.sub) (ht.mono E1.sub) (raised_ok M1 X1) fun e2 H2 nx2 σ2 w2 en2 hk2 R2 E2 X2 => hR e2 H2 nx2 σ2 w2 en2 hk2 R2 (E1.trans E2) X2
     | outgrown => exact X1.elim
def LpP (P : Program) (nt : Nat) : LoopP := fun a env H nx dfs _ K =>
 ∀ σ w act Q, Rel σ H nx w → ARel σ nt env dfs act → PostP nt K σ H nx w Q → (Code.loop a).wp P Q act w
theorem LpP_ok (P : Program) (nt : Nat) : LoopS P nt (LpP P nt) := fun _ _ _ _ _ _ h => h
def vBody (P : Program) (call : CallP) (lp : Nat → LoopP) (f : FuncId) (args : List AVal) (H : Heap) (nx : Nat) (K : List ResultVar → KP) : Prop :=
 match P.funcs[f]? with
 | some fn => match fn.body, Nat.ble fn.ntmps 4096, Nat.ble args.length fn.ntmps with
  | some c, true, true => vK P call (lp fn.ntmps) fn.ntmps c (enterEnv args 0 (all2 (.tuple []))) H nx [] none (K fn.results.toList)
  | _, _, _ => False
 | none => False
def tmpsOf (env : Env) : List ResultVar → Option (List AVal)
 | [] => some []
 | .tmp t :: l => match Nat.ble t 4095, tmpsOf env l with
  | true, some vs => some (get2 t env :: vs)
  | _, _ => none
 | .cell _ _ :: _ => none
theorem vRes_tmps {P : Program} {env : Env} {H : Heap} : ∀ {l : List ResultVar} {vs : List AVal} {k : List AVal → Prop}, tmpsOf env l = some vs → k vs → vRes P env H l k
 | [], _, _, e, h => by cases e; exact h
 | .tmp t :: l, vs, k, e, h => by
  unfold tmpsOf at e
  split at e <;> try (cases e; done)
  rename_i vs' hb hl
  cases e
  unfold vRes
  simp only [hb]
  exact vRes_tmps hl h
 | .cell _ _ :: _, _, _, e, _ => by cases e
abbrev LeaveP := List AVal → Dfs → AMode → Heap → Nat → EndP → Prop
inductive RVal where
 | val (v : AVal)
 | cell (p : AVal) (t : TypeId)
abbrev LeaveC := List RVal → Dfs → AMode → Heap → Nat → EndP → Prop
def rvOK : List ResultVar → Bool
 | [] => true
 | .tmp t :: l => match Nat.ble t 4095 with
  | true => rvOK l
  | false => false
 | .cell a _ :: l => match Nat.ble a 4095 with
  | true => rvOK l
  | false => false
def rvals (env : Env) : List ResultVar → List RVal
 | [] => []
 | .tmp t :: l => .val (get2 t env) :: rvals env l
 | .cell a t :: l => .cell (get2 a env) t :: rvals env l
def vResV (P : Program) (H : Heap) : List RVal → (List AVal → Prop) → Prop
 | [], k => k []
 | .val v :: l, k => vResV P H l fun vs => k (v :: vs)
 | .cell p t :: l, k => vLoad P t H p fun v => vResV P H l fun vs => k (v :: vs)
theorem vResV_ok {P : Program} {env : Env} {H : Heap} : ∀ {rs : List ResultVar} {k : List AVal → Prop}, rvOK rs = true → vResV P H (rvals env rs) k → ∃ vs, resultsA P env H rs = some vs ∧ k vs
 | [], _, _, h => ⟨[], rfl, h⟩
 | .tmp t :: l, k, e, h => by
  cases hb : Nat.ble t 4095 with
  | false => unfold rvOK at e; rw [hb] at e; cases e
  | true =>
   unfold rvOK at e; rw [hb] at e
   obtain ⟨vs, e1, h⟩ := vResV_ok e h
   exact ⟨_, by unfold resultsA; simp only [hb, e1], h⟩
 | .cell a t :: l, k, e, h => by
  cases hb : Nat.ble a 4095 with
  | false => unfold rvOK at e; rw [hb] at e; cases e
  | true =>
   unfold rvOK at e; rw [hb] at e
   obtain ⟨v, e1, h⟩ := vLoad_ok h
   obtain ⟨vs, e2, h⟩ := vResV_ok e h
   exact ⟨_, by unfold resultsA; simp only [hb, e1, e2], h⟩
def lvcSem (P : Program) (calld : CallDP) : LeaveC := fun rv dfs => match dfs with
 | [] => fun m H nx K => match m with
  | .returning => vResV P H rv fun vs => K (.ret (oneOf vs)) H nx
  | .panicking l => K (.pan l) H nx
 | (g, args) :: dfs => fun m H nx K => calld g args m H nx fun e m' H' nx' => onEnd e (fun _ => lvcSem P calld rv dfs (settleA m') H' nx' K) (fun l => lvcSem P calld rv dfs (raisedA m' l) H' nx' K)
def lvSem (calld : CallDP) : LeaveP := fun vs dfs => match dfs with
 | [] => fun m H nx K => match m with
  | .returning => K (.ret (oneOf vs)) H nx
  | .panicking l => K (.pan l) H nx
 | (g, args) :: dfs => fun m H nx K => calld g args m H nx fun e m' H' nx' => onEnd e (fun _ => lvSem calld vs dfs (settleA m') H' nx' K) (fun l => lvSem calld vs dfs (raisedA m' l) H' nx' K)
theorem TriDP_mono (P : Program) {f : FuncId} {args : List AVal} {m : AMode} {H : Heap} {nx : Nat} {K K' : AEnd → AMode → Heap → Nat → Prop} (h : TriDP P f args m H nx K) (hk : ∀ e m' H' nx', K e m' H' nx' → K' e m' H' nx') : TriDP P f args m H nx K' :=
 ⟨h.1, fun σ w args' u R hr hd hm hR => h.2 σ w args' u R hr hd hm fun e m' H' nx' σ' w' en u' k => hR e m' H' nx' σ' w' en u' (hk _ _ _ _ k)⟩
theorem lvSem_ok {P : Program} {rs : List ResultVar} {env : Env} {vs : List AVal} {K : EndP} (e : tmpsOf env rs = some vs) : ∀ {dfs : Dfs} {m : AMode} {H : Heap} {nx : Nat}, lvSem (TriDP P) vs dfs m H nx K → leaveV P (TriDP P) rs env dfs m H nx K
 | [], m, H, nx, h => by
  cases m with
  | returning => exact vRes_ok (vRes_tmps (P := P) (H := H) (k := fun vs => K (.ret (oneOf vs)) H nx) e h)
  | panicking l => exact h
 | (g, args) :: dfs, m, H, nx, h => by
  refine TriDP_mono P h fun e' m' H' nx' hk => ⟨fun v hv => ?_, fun l hl => ?_⟩
  ·exact lvSem_ok e (hk.1 v hv)
  ·exact lvSem_ok e (hk.2 l hl)
theorem lvcSem_ok {P : Program} {rs : List ResultVar} {env : Env} {K : EndP} (e : rvOK rs = true) : ∀ {dfs : Dfs} {m : AMode} {H : Heap} {nx : Nat}, lvcSem P (TriDP P) (rvals env rs) dfs m H nx K → leaveV P (TriDP P) rs env dfs m H nx K
 | [], m, H, nx, h => by
  cases m with
  | returning => exact vResV_ok e h
  | panicking l => exact h
 | (g, args) :: dfs, m, H, nx, h => by
  refine TriDP_mono P h fun e' m' H' nx' hk => ⟨fun v hv => ?_, fun l hl => ?_⟩
  ·exact lvcSem_ok e (hk.1 v hv)
  ·exact lvcSem_ok e (hk.2 l hl)
def endK (P : Program) (lv : LeaveP) (lvc : LeaveC) (K : EndP) (rs : List ResultVar) : KP := fun e env H nx dfs _ => match e with
 | .normal => match dfs with
  | [] => vRes P env H rs fun vs => K (.ret (oneOf vs)) H nx
  | d :: ds => match tmpsOf env rs with
   | some vs => lv vs (d :: ds) .returning H nx K
   | none => match rvOK rs with
    | true => lvc (rvals env rs) (d :: ds) .returning H nx K
    | false => False
 | .ret => match dfs with
  | [] => vRes P env H rs fun vs => K (.ret (oneOf vs)) H nx
  | d :: ds => match tmpsOf env rs with
   | some vs => lv vs (d :: ds) .returning H nx K
   | none => match rvOK rs with
    | true => lvc (rvals env rs) (d :: ds) .returning H nx K
    | false => False
 | .pan l => match dfs with
  | [] => K (.pan l) H nx
  | d :: ds => match tmpsOf env rs with
   | some vs => lv vs (d :: ds) (.panicking l) H nx K
   | none => match rvOK rs with
    | true => lvc (rvals env rs) (d :: ds) (.panicking l) H nx K
    | false => False
 | .exit _ => False
theorem endK_ok {P : Program} {K : EndP} {rs : List ResultVar} {env : Env} {H : Heap} {nx : Nat} {dfs : Dfs} {rc : Option AMode} {e : AExit} (h : endK P (lvSem (TriDP P)) (lvcSem P (TriDP P)) K rs e env H nx dfs rc) :
  match e with
  | .normal => leaveV P (TriDP P) rs env dfs .returning H nx K
  | .ret => leaveV P (TriDP P) rs env dfs .returning H nx K
  | .pan l => leaveV P (TriDP P) rs env dfs (.panicking l) H nx K
  | .exit _ => False := by
 cases e with
 | exit _ => exact h
 | normal =>
  cases dfs with
  | nil => exact vRes_ok (k := fun vs => K (.ret (oneOf vs)) H nx) h
  | cons d ds =>
   have h' : (match tmpsOf env rs with
    | some vs => lvSem (TriDP P) vs (d :: ds) .returning H nx K
    | none => match rvOK rs with
     | true => lvcSem P (TriDP P) (rvals env rs) (d :: ds) .returning H nx K
     | false => False) := h
   split at h'
   ·exact lvSem_ok ‹_› h'
   ·split at h' <;> first | exact h'.elim | exact lvcSem_ok ‹_› h'
 | ret =>
  cases dfs with
  | nil => exact vRes_ok (k := fun vs => K (.ret (oneOf vs)) H nx) h
  | cons d ds =>
   have h' : (match tmpsOf env rs with
    | some vs => lvSem (TriDP P) vs (d :: ds) .returning H nx K
    | none => match rvOK rs with
     | true => lvcSem P (TriDP P) (rvals env rs) (d :: ds) .returning H nx K
     | false => False) := h
   split at h'
   ·exact lvSem_ok ‹_› h'
   ·split at h' <;> first | exact h'.elim | exact lvcSem_ok ‹_› h'
 | pan l =>
  cases dfs with
  | nil => exact h
  | cons d ds =>
   have h' : (match tmpsOf env rs with
    | some vs => lvSem (TriDP P) vs (d :: ds) (.panicking l) H nx K
    | none => match rvOK rs with
     | true => lvcSem P (TriDP P) (rvals env rs) (d :: ds) (.panicking l) H nx K
     | false => False) := h
   split at h'
   ·exact lvSem_ok ‹_› h'
   ·split at h' <;> first | exact h'.elim | exact lvcSem_ok ‹_› h'
theorem TriP_mono (P : Program) : ∀ f args H nx (K K' : EndP), TriP P f args H nx K → (∀ e H' nx', K e H' nx' → K' e H' nx') → TriP P f args H nx K' := fun _ _ _ _ _ _ h hk => h.mono hk
theorem TriP.of_body {P : Program} (hm : P.follows .mixedOrders = true) {f : FuncId} {args : List AVal} {H : Heap} {nx : Nat} {K : EndP}
  (h : vBody P (TriP P) (LpP P) f args H nx (endK P (lvSem (TriDP P)) (lvcSem P (TriDP P)) K)) : TriP P f args H nx K := by
 unfold vBody at h
 split at h <;> try exact h.elim
 rename_i fn hf
 split at h <;> try exact h.elim
 rename_i c hb hn ha
 have hn' : fn.ntmps ≤ 4096 := Nat.le_of_ble_eq_true hn
 have ha' : args.length ≤ fn.ntmps := Nat.le_of_ble_eq_true ha
 intro σ w args' R hr hda hR
 refine calls_of_wp_defers hf hb ?_
 have hEnv := enter_rel hn' ha' hda
 refine vK_none hm (TriP_mono P) (fun _ _ _ _ _ h => h) (LpP_ok P _) c _ H nx [] _ h σ w _ _ hr ⟨hEnv, .nil⟩ ?_
 intro ex env' H' nx' dfs' σ' w' a' e hk R1 E1 A1 X1
 have fin : ∀ m u, MRel σ' m u → leaveV P (TriDP P) fn.results.toList env' dfs' m H' nx' K → Leaves P fn a'.tmps R a'.defers u w' := by
  intro m u hmu hlv
  exact leaveV_ok (fn := fn) (nt := fn.ntmps) (fun _ _ _ _ _ _ h => h) dfs' m H' nx' K hlv σ' w' u a'.defers a'.tmps R R1 A1.env A1.dfs hmu
   fun e2 H2 nx2 σ2 w2 en2 hk2 R2 E2 X2 => hR e2 H2 nx2 σ2 w2 en2 hk2 R2 (E1.trans E2) X2
 have hk := endK_ok hk
 cases ex with
 | normal => cases e <;> first | exact X1.elim | exact fin .returning .returning trivial hk
 | ret => cases e <;> first | exact X1.elim | exact fin .returning .returning trivial hk
 | pan l =>
  cases e <;> try exact X1.elim
  exact fin (.panicking l) (.panicking _) X1 hk
 | exit i => exact hk.elim
end
end Go.Vs
end
section
namespace Go.Vs
variable [GTab]
noncomputable section
def subAt : Code → List Nat → Code
 | .seq a _, 0 :: p => subAt a p
 | .seq _ b, _ :: p => subAt b p
 | .cond _ a _, 0 :: p => subAt a p
 | .cond _ _ b, _ :: p => subAt b p
 | .block _ a, _ :: p => subAt a p
 | .loop a, _ :: p => subAt a p
 | c, _ => c
def contAt (P : Program) (call : CallP) (lp : LoopP) (nt : Nat) : Code → List Nat → KP → KP
 | .seq a b, 0 :: p, K => contAt P call lp nt a p fun e env H nx dfs rc => match e with
  | .normal => vK P call lp nt b env H nx dfs rc K
  | .exit id => K (.exit id) env H nx dfs rc
  | .ret => K .ret env H nx dfs rc
  | .pan l => K (.pan l) env H nx dfs rc
 | .seq _ b, _ :: p, K => contAt P call lp nt b p K
 | .cond _ a _, 0 :: p, K => contAt P call lp nt a p K
 | .cond _ _ b, _ :: p, K => contAt P call lp nt b p K
 | .block id a, _ :: p, K => contAt P call lp nt a p fun e env H nx dfs rc => match e with
  | .normal => K .normal env H nx dfs rc
  | .exit j => match Nat.beq j id with
   | true => K .normal env H nx dfs rc
   | false => K (.exit j) env H nx dfs rc
  | .ret => K .ret env H nx dfs rc
  | .pan l => K (.pan l) env H nx dfs rc
 | _, _, K => K
def envL (base : AVal) : List (Nat × AVal) → Env
 | [] => all2 base
 | (t, v) :: l => set2 t v (envL base l)
def EnvAll (env : Env) : List (Nat × AVal) → Prop
 | [] => True
 | (t, v) :: l => env t = v ∧ EnvAll env l
theorem EnvLe.of_list {env : Env} : ∀ {l : List (Nat × AVal)}, EnvAll env l → EnvLe (envL .und l) env
 | [], _ => fun _ _ => .inl rfl
 | (t, v) :: l, ⟨h, hl⟩ => fun s hs => by
  show (Bool.rec (envL .und l s) v (Nat.beq s t) : AVal) = .und ∨ (Bool.rec (envL .und l s) v (Nat.beq s t) : AVal) = env s
  cases e : Nat.beq s t with
  | true => have := Nat.eq_of_beq_eq_true e; subst this; exact .inr h.symm
  | false => exact EnvLe.of_list hl s hs
def codeOf (P : Program) (f : FuncId) : Code := match P.funcs[f]? with
 | some fn => match fn.body with
  | some c => c
  | none => .skip
 | none => .skip
def resOf (P : Program) (f : FuncId) : List ResultVar := match P.funcs[f]? with
 | some fn => fn.results.toList
 | none => []
def newB (b : Nat) (cs : List AVal) (H : Heap) : Heap := set5 b (some (.cells cs.length (CT.ofL cs.length cs) [] false)) H
def newBN (b n : Nat) (cs : List AVal) (H : Heap) : Heap := set5 b (some (.cells n (CT.ofL n cs) [] false)) H
def loopK (N : KC) (X : Nat → KC) (R : KC) (Pn : List (AVal × Bool) → KC) : KP := fun e env H nx dfs rc => match e with
 | .normal => N env H nx dfs rc
 | .exit id => X id env H nx dfs rc
 | .ret => R env H nx dfs rc
 | .pan l => Pn l env H nx dfs rc
end
end Go.Vs
end
section
namespace Go.Vs
variable [GTab]
noncomputable section
def splice (cs : List AVal) (off : Nat) (vs : List AVal) : List AVal := cs.take off ++ vs ++ cs.drop (off + vs.length)
theorem splice_length {cs vs : List AVal} {off : Nat} (h : off + vs.length ≤ cs.length) : (splice cs off vs).length = cs.length := by
 simp [splice]; omega
theorem onEnd_ret {v : AVal} {r : AVal → Prop} {p : List (AVal × Bool) → Prop} : onEnd (.ret v) r p ↔ r v := by simp [onEnd]
theorem idxS_slice {b off len e n esz : Nat} {full : Bool} (h : n < len) : idxS (.slice b off len e full) n esz = some (.ptr b (off + n * esz)) := by
 have : Nat.ble (Nat.succ n) len = true := ble_of h
 simp only [idxS, this]
 rfl
theorem wrap64_id {n : Int} (h0 : -9223372036854775808 ≤ n) (h1 : n ≤ 9223372036854775807) : IntKind.i64.wrap n = n := IntWalk.i64_in _ (by omega)
end
end Go.Vs
end
section
namespace Go.Vs
variable [GTab]
noncomputable section
def WpP (P : Program) (nt : Nat) (c : Code) (env : Env) (H : Heap) (nx : Nat) (dfs : Dfs) (K : KP) : Prop :=
 ∀ σ w act Q, Rel σ H nx w → ARel σ nt env dfs act → PostP nt K σ H nx w Q → c.wp P Q act w
section
variable {P : Program} {nt : Nat} {c a b : Code} {env e : Env} {H : Heap} {nx : Nat} {dfs : Dfs} {K K' : KP}
theorem WpP.of_vK (hm : P.follows .mixedOrders = true) (h : vK P (TriP P) (LpP P nt) nt c env H nx dfs none K) : WpP P nt c env H nx dfs K :=
 vK_none hm (TriP_mono P) (fun _ _ _ _ _ h => h) (LpP_ok P nt) c env H nx dfs K h
theorem WpP.weaken (hle : EnvLe e env) (h : WpP P nt c e H nx dfs K) : WpP P nt c env H nx dfs K :=
 fun σ w act Q hr ha hQ => h σ w act Q hr (ha.weaken hle) hQ
theorem WpP.mono (h : WpP P nt c env H nx dfs K) (hk : ∀ ex env' H' nx' dfs', K ex env' H' nx' dfs' none → K' ex env' H' nx' dfs' none) : WpP P nt c env H nx dfs K' :=
 fun σ w act Q hr ha hQ => h σ w act Q hr ha fun ex env' H' nx' dfs' σ' w' a' e k R E A X => hQ ex env' H' nx' dfs' σ' w' a' e (hk _ _ _ _ _ k) R E A X
def trim (ts : List Nat) (env : Env) : Env := envL .und (ts.map fun t => (t, env t))
theorem trim_le (ts : List Nat) (env : Env) : EnvLe (trim ts env) env := by
 refine EnvLe.of_list ?_
 induction ts with
 | nil => trivial
 | cons t ts ih => exact ⟨rfl, ih⟩
def trimK (ts : List Nat) (K : KP) : KP := fun ex env H nx dfs rc => K ex (trim ts env) H nx dfs rc
theorem WpP.trim {ts : List Nat} (h : WpP P nt c env H nx dfs (trimK ts K)) : WpP P nt c env H nx dfs K :=
 fun σ w act Q hr ha hQ => h σ w act Q hr ha fun ex env' H' nx' dfs' σ' w' a' e k R E A X => hQ ex _ H' nx' dfs' σ' w' a' e k R E (A.weaken (trim_le ts env')) X
def thenK (b : Env → Heap → Nat → Dfs → Prop) (K : KP) : KP := fun ex env H nx dfs rc => match ex with
 | .normal => b env H nx dfs
 | .exit id => K (.exit id) env H nx dfs rc
 | .ret => K .ret env H nx dfs rc
 | .pan l => K (.pan l) env H nx dfs rc
theorem WpP.seq (h : WpP P nt a env H nx dfs (thenK (fun env H nx dfs => WpP P nt b env H nx dfs K) K)) : WpP P nt (.seq a b) env H nx dfs K := by
 intro σ w act Q hr ha hQ
 refine wp_seq (h σ w act _ hr ha ?_)
 intro ex env' H' nx' dfs' σ' w' a' e hk R E A X
 cases ex with
 | normal => cases e <;> first | exact X.elim | exact hk σ' w' a' Q R A (hQ.from E)
 | exit id => cases e <;> first | exact X.elim | exact hQ _ _ _ _ _ σ' w' a' _ hk R E A X
 | ret => cases e <;> first | exact X.elim | exact hQ _ _ _ _ _ σ' w' a' _ hk R E A X
 | pan l => cases e <;> first | exact X.elim | exact hQ _ _ _ _ _ σ' w' a' _ hk R E A X
theorem WpP.cond {x : Operand} {p : Bool} (hp : aev env x = .bool p) (h : WpP P nt (match p with | true => a | false => b) env H nx dfs K) : WpP P nt (.cond x a b) env H nx dfs K := by
 intro σ w act Q hr ha hQ
 cases p with
 | true => exact wp_cond (t := true) (eval_bool ha hp) (h σ w act Q hr ha hQ)
 | false => exact wp_cond (t := false) (eval_bool ha hp) (h σ w act Q hr ha hQ)
def blockK (i : Nat) (K : KP) : KP := fun ex env H nx dfs rc => match ex with
 | .exit j => if j = i then K .normal env H nx dfs rc else K (.exit j) env H nx dfs rc
 | .normal => K .normal env H nx dfs rc
 | .ret => K .ret env H nx dfs rc
 | .pan l => K (.pan l) env H nx dfs rc
theorem WpP.block {i : Nat} (h : WpP P nt a env H nx dfs (blockK i K)) : WpP P nt (.block i a) env H nx dfs K := by
 intro σ w act Q hr ha hQ
 refine wp_block (h σ w act _ hr ha ?_)
 intro ex env' H' nx' dfs' σ' w' a' e hk R E A X
 cases ex with
 | normal => cases e <;> first | exact X.elim | exact hQ _ _ _ _ _ σ' w' a' _ hk R E A X
 | exit j =>
  cases e <;> try exact X.elim
  rename_i j'
  have hj : j = j' := by first | exact X | exact X.symm
  subst hj
  have hk' : (if j = i then K .normal env' H' nx' dfs' none else K (.exit j) env' H' nx' dfs' none) := hk
  show (if j = i then Q .normal a' w' else Q (.exit j) a' w')
  by_cases hji : j = i
  ·rw [if_pos hji] at hk' ⊢
   exact hQ .normal _ _ _ _ σ' w' a' _ hk' R E A trivial
  ·rw [if_neg hji] at hk' ⊢
   exact hQ (.exit j) _ _ _ _ σ' w' a' _ hk' R E A (by first | exact rfl | exact X)
 | ret => cases e <;> first | exact X.elim | exact hQ _ _ _ _ _ σ' w' a' _ hk R E A X
 | pan l => cases e <;> first | exact X.elim | exact hQ _ _ _ _ _ σ' w' a' _ hk R E A X
theorem WpP.skip (h : K .normal env H nx dfs none) : WpP P nt .skip env H nx dfs K := by
 intro σ w act Q hr ha hQ
 exact wp_skip (hQ .normal env H nx dfs σ w act _ h hr (Ext.refl _ _ _ _) ha trivial)
theorem LpP.of_wp (h : WpP P nt (.loop a) env H nx dfs K) {rc : Option AMode} : LpP P nt a env H nx dfs rc K := fun σ w act Q hr ha hQ => h σ w act Q hr ha hQ
theorem WpP.of_lp {rc : Option AMode} (h : LpP P nt a env H nx dfs rc K) : WpP P nt (.loop a) env H nx dfs K := fun σ w act Q hr ha hQ => h σ w act Q hr ha hQ
end
theorem loop_rule_w {P : Program} {nt : Nat} {a : Code} {K : KP} (Inv : Nat → Env → Heap → Nat → Dfs → Prop) (Kx : Nat → Dfs → KP)
  (hKx : ∀ m dfs ex env' H' nx' dfs', Kx m dfs ex env' H' nx' dfs' none → match ex with
   | .normal => ∃ m' env'', m' < m ∧ EnvLe env'' env' ∧ Inv m' env'' H' nx' dfs'
   | ex => ∃ env'', EnvLe env'' env' ∧ K ex env'' H' nx' dfs' none)
  (step : ∀ m env H nx dfs, Inv m env H nx dfs → WpP P nt a env H nx dfs (Kx m dfs))
  {m0 : Nat} {env : Env} {H : Heap} {nx : Nat} {dfs : Dfs} (h0 : Inv m0 env H nx dfs) : WpP P nt (.loop a) env H nx dfs K := by
 intro σ w act Q hr ha hQ
 let J : Nat → Act → World → Prop := fun m act w => ∃ env H nx dfs σ, Inv m env H nx dfs ∧ Rel σ H nx w ∧ ARel σ nt env dfs act ∧ PostP nt K σ H nx w Q
 have hJ : J m0 act w := ⟨env, H, nx, dfs, σ, h0, hr, ha, hQ⟩
 have round : ∀ m act w, J m act w → a.wp P (Exit.then (fun a' w' => ∃ m', m' < m ∧ J m' a' w') Q) act w := by
  rintro m act w ⟨env, H, nx, dfs, σ, hI, hr, ha, hQ⟩
  refine step m env H nx dfs hI σ w act _ hr ha ?_
  intro ex env' H' nx' dfs' σ' w' a' e hk R E A X
  have hk' := hKx m dfs ex env' H' nx' dfs' hk
  cases ex with
  | normal =>
   cases e <;> try exact X.elim
   obtain ⟨m', env'', hlt, hle, hI'⟩ := hk'
   exact ⟨m', hlt, env'', H', nx', dfs', σ', hI', R, A.weaken hle, hQ.from E⟩
  | exit id =>
   obtain ⟨env'', hle, hk2⟩ := hk'
   cases e <;> first | exact X.elim | exact hQ (.exit id) env'' _ _ _ σ' w' a' _ hk2 R E (A.weaken hle) X
  | ret =>
   obtain ⟨env'', hle, hk2⟩ := hk'
   cases e <;> first | exact X.elim | exact hQ .ret env'' _ _ _ σ' w' a' _ hk2 R E (A.weaken hle) X
  | pan l =>
   obtain ⟨env'', hle, hk2⟩ := hk'
   cases e <;> first | exact X.elim | exact hQ (.pan l) env'' _ _ _ σ' w' a' _ hk2 R E (A.weaken hle) X
 have least : ∀ act w, (∃ m, J m act w) → ∃ m, J m act w ∧ ∀ m', J m' act w → m ≤ m' := by
  rintro act w ⟨m, h⟩
  induction m using Nat.strongRecOn with
  | _ m ih =>
   by_cases hx : ∃ m', m' < m ∧ J m' act w
   ·obtain ⟨m', hlt, h'⟩ := hx
    exact ih m' hlt h'
   ·exact ⟨m, h, fun m' h' => Nat.le_of_not_lt fun hlt => hx ⟨m', hlt, h'⟩⟩
 let μ : Act → World → Nat := fun act w => @dite Nat (∃ m, J m act w) (Classical.propDecidable _) (fun h => Classical.choose (least act w h)) (fun _ => 0)
 have μs : ∀ act w, (∃ m, J m act w) → J (μ act w) act w ∧ ∀ m', J m' act w → μ act w ≤ m' := by
  intro act w h
  have : μ act w = Classical.choose (least act w h) := by simp only [μ, h, dite_true]
  rw [this]
  exact Classical.choose_spec (least act w h)
 refine wp_loop (fun act w => ∃ m, J m act w) μ ⟨m0, hJ⟩ ?_
 intro act w h
 obtain ⟨h1, _⟩ := μs act w h
 refine wp_mono (round _ act w h1) ?_
 intro e a' w' hq
 cases e with
 | normal =>
  obtain ⟨m', hlt, hj⟩ := hq
  exact ⟨⟨m', hj⟩, Nat.lt_of_le_of_lt ((μs a' w' ⟨m', hj⟩).2 m' hj) hlt⟩
 | exit id => exact hq
 | goto l => exact hq
 | ret => exact hq
 | panic c => exact hq
 | outgrown => exact hq
theorem loop_w {P : Program} {nt : Nat} {a : Code} {K : KP} {X Y : Type} (canon : X → Env) (canonY : Y → Env)
  (I : Nat → X → Heap → Nat → Prop) (J : Nat → Y → Heap → Nat → Prop) {env : Env} {H : Heap} {nx : Nat} {dfs : Dfs} {rc : Option AMode} (m0 : Nat) (x0 : X)
  (hle : EnvLe (canon x0) env) (h0 : I m0 x0 H nx)
  (step : ∀ m x H nx, I m x H nx → WpP P nt a (canon x) H nx dfs
   (loopK (fun env' H' nx' dfs' _ => dfs' = dfs ∧ ∃ m' x', m' < m ∧ EnvLe (canon x') env' ∧ I m' x' H' nx')
    (fun id env' H' nx' dfs' _ => dfs' = dfs ∧ ∃ y, EnvLe (canonY y) env' ∧ J id y H' nx')
    (fun env' H' nx' dfs' rc' => K .ret env' H' nx' dfs' rc') (fun l env' H' nx' dfs' rc' => K (.pan l) env' H' nx' dfs' rc')))
  (after : ∀ id y H nx, J id y H nx → K (.exit id) (canonY y) H nx dfs none) :
  LpP P nt a env H nx dfs rc K := by
 refine LpP.of_wp (WpP.weaken hle ?_)
 refine loop_rule_w (K := K)
  (fun m env' H' nx' dfs' => dfs' = dfs ∧ ∃ x, env' = canon x ∧ I m x H' nx')
  (fun m _ => loopK (fun env' H' nx' dfs' _ => dfs' = dfs ∧ ∃ m' x', m' < m ∧ EnvLe (canon x') env' ∧ I m' x' H' nx')
    (fun id env' H' nx' dfs' _ => dfs' = dfs ∧ ∃ y, EnvLe (canonY y) env' ∧ J id y H' nx')
    (fun env' H' nx' dfs' rc' => K .ret env' H' nx' dfs' rc') (fun l env' H' nx' dfs' rc' => K (.pan l) env' H' nx' dfs' rc')) ?_ ?_
  (m0 := m0) ⟨rfl, x0, rfl, h0⟩
 ·intro m dfs1 ex env' H' nx' dfs' h
  cases ex with
  | normal =>
   obtain ⟨h1, m', x', h2, h3, h4⟩ := h
   exact ⟨m', canon x', h2, h3, h1, x', rfl, h4⟩
  | exit id =>
   obtain ⟨rfl, y, h2, h3⟩ := h
   exact ⟨canonY y, h2, after id y H' nx' h3⟩
  | ret => exact ⟨env', EnvLe.refl _, h⟩
  | pan l => exact ⟨env', EnvLe.refl _, h⟩
 ·rintro m env' H' nx' dfs' ⟨rfl, x, rfl, hI⟩
  exact step m x H' nx' hI
end
end Go.Vs
end
section
namespace Go.Vs
variable [GTab]
noncomputable section
abbrev GH := Nat → Option (List AVal)
def gup (b : Nat) (x : Option (List AVal)) (Γ : GH) : GH := fun c => if c = b then x else Γ c
theorem gup_same (b : Nat) (x : Option (List AVal)) (Γ : GH) : gup b x Γ b = x := by simp [gup]
theorem gup_ne {b c : Nat} {x : Option (List AVal)} {Γ : GH} (h : c ≠ b) : gup b x Γ c = Γ c := by simp [gup, h]
theorem gup_gup (b : Nat) (x y : Option (List AVal)) (Γ : GH) : gup b x (gup b y Γ) = gup b x Γ := by
 funext c; by_cases h : c = b <;> simp [gup, h]
def Row (H : Heap) (b : Nat) (cs : List AVal) (olds : List Nat) : Prop := ∃ ct, H b = some (.cells cs.length ct olds false) ∧ ct.take cs.length = cs
theorem take_len {α : Type} {n : Nat} {l m : List α} (h : l.take n = m) (hm : m.length = n) : n ≤ l.length := by
 have := congrArg List.length h
 rw [List.length_take, hm] at this
 omega
theorem slab_take {cs ct : CT} {off sz : Nat} (hc : ct.take cs.length = cs) (ho : off + sz ≤ cs.length) : CT.slab ct sz off = (cs.drop off).take sz := by
 have hl := take_len hc rfl
 rw [CT.slab_eq (by omega)]
 conv => rhs; rw [← hc]
 rw [List.drop_take, List.take_take, Nat.min_eq_left (by omega)]
theorem dels_same : ∀ {l : List Nat} {H : Heap} {c : Nat}, c ∉ l → dels l H c = H c
 | [], _, _, _ => rfl
 | b :: l, H, c, h => by
  rw [dels_cons, dels_same (fun x => h (List.mem_cons_of_mem _ x))]
  show get5 c (set5 b _ H) = get5 c H
  exact get5_ne (fun e => h (by rw [e]; exact List.mem_cons_self)) (by omega) (by omega)
theorem set5_ne' {b c : Nat} {x : Option AObj} {H : Heap} (h : c ≠ b) : set5 b x H c = H c := get5_ne (H := H) (x := x) (fun e => h e.symm) (by omega) (by omega)
theorem set5_eq' (b : Nat) (x : Option AObj) (H : Heap) : set5 b x H b = x := get5_set5_same b x H
end
end Go.Vs
end
section
namespace Go.Vs
variable [GTab]
noncomputable section
structure KeptW (w w' : World) : Prop where
 os : w'.os = w.os
 tape : w'.tape = w.tape
 output : w'.output = w.output
 size : w.heap.size ≤ w'.heap.size
 same : ∀ i, i < w.heap.size → w'.heap[i]? = w.heap[i]?
 drawn : w.drawn ≤ w'.drawn
theorem Rel.kept {σ : Sg} {H : Heap} {nx : Nat} {w w' : World} (h : Rel σ H nx w) (k : KeptW w w') : Rel σ H nx w' :=
 ⟨h.lim, fun b cb sz e => ⟨(h.dom b cb sz e).1, Nat.lt_of_lt_of_le (h.dom b cb sz e).2 k.size⟩, fun b o cb sz e1 e2 => (h.obj b o cb sz e1 e2).of_block (k.same cb (h.dom b cb sz e2).2), h.sep, h.sup, h.old,
  h.glob.of k.size (fun i hi _ => k.same i hi) fun b _ sz e _ => ⟨b, sz, e⟩⟩
theorem Ext.kept {σ : Sg} {H : Heap} {nx : Nat} {w w' : World} (k : KeptW w w') : Ext σ σ H H nx nx w w' :=
 ⟨fun _ _ h => h, fun b _ sz h _ => ⟨b, sz, h⟩, fun _ _ h => ⟨h, rfl⟩, Nat.le_refl _, k.os, k.tape, k.output, k.size, fun i hi _ => k.same i hi, k.drawn⟩
end
end Go.Vs
end
section
namespace Go.Hp
open Go.Sort
variable {α : Type} [Inhabited α]
def par (j : Nat) : Nat := (j - 1) / 2
def IsHeap (lt : α → α → Bool) (n : Nat) (d : Array α) : Prop := ∀ i, 0 < i → i < n → lt d[i]! d[par i]! = false
def UpInv (lt : α → α → Bool) (n j : Nat) (d : Array α) : Prop :=
 (∀ i, 0 < i → i < n → i ≠ j → lt d[i]! d[par i]! = false) ∧ (∀ i, 0 < i → i < n → par i = j → 0 < j → lt d[i]! d[par j]! = false)
def DownInv (lt : α → α → Bool) (n i : Nat) (d : Array α) : Prop :=
 (∀ k, 0 < k → k < n → par k ≠ i → lt d[k]! d[par k]! = false) ∧ (∀ k, 0 < k → k < n → par k = i → 0 < i → lt d[k]! d[par i]! = false)
theorem asym {lt : α → α → Bool} (O : SWO lt) {x y : α} (h : lt x y = true) : lt y x = false := by
 cases e : lt y x with
 | false => rfl
 | true => have := O.trans _ _ _ h e; rw [O.irrefl] at this; cases this
theorem up_step {lt : α → α → Bool} (O : SWO lt) {n j : Nat} {d : Array α} (hn : n ≤ d.size) (hj : 0 < j) (hjn : j < n) (h : UpInv lt n j d) (hl : lt d[j]! d[par j]! = true) : UpInv lt n (par j) (swp d (par j) j) := by
 have hp : par j < j := by unfold par; omega
 have g := fun k => swp_get d (i := par j) (j := j) (by omega) (by omega) k
 refine ⟨fun i h0 hi hne => ?_, fun i h0 hi hpi hp0 => ?_⟩
 ·by_cases e : i = j
  ·subst e
   rw [g, if_pos rfl, g, if_neg (by omega), if_pos rfl]
   exact asym O hl
  ·rw [g i, if_neg e, if_neg hne, g]
   have hpl : par i < i := by unfold par; omega
   by_cases e1 : par i = j
   ·rw [if_pos e1]; exact h.2 i h0 hi e1 hj
   ·rw [if_neg e1]
    by_cases e2 : par i = par j
    ·rw [if_pos e2]
     cases e3 : lt d[i]! d[j]! with
     | false => rfl
     | true => have := O.trans _ _ _ e3 hl; rw [← e2] at this; rw [h.1 i h0 hi e] at this; cases this
    ·rw [if_neg e2]; exact h.1 i h0 hi e
 ·have hpp : par (par j) < par j := by unfold par at *; omega
  rw [g (par (par j)), if_neg (by omega), if_neg (by omega)]
  have hq := h.1 (par j) hp0 (by omega) (by omega)
  by_cases e : i = j
  ·rw [g, if_pos e]; exact hq
  ·have hpl : par i < i := by unfold par; omega
   rw [g, if_neg e, if_neg (by omega)]
   have h1 := h.1 i h0 hi e
   rw [hpi] at h1
   exact O.ntrans _ _ _ h1 hq
theorem up_end {lt : α → α → Bool} {n j : Nat} {d : Array α} (h : UpInv lt n j d) (hl : 0 < j → lt d[j]! d[par j]! = false) : IsHeap lt n d := fun i h0 hi => by
 by_cases e : i = j
 ·subst e; exact hl h0
 ·exact h.1 i h0 hi e
theorem up_start {lt : α → α → Bool} {n : Nat} {d : Array α} (h : IsHeap lt n d) : UpInv lt (n + 1) n d :=
 ⟨fun i h0 hi hne => h i h0 (by omega), fun i h0 hi hp _ => by unfold par at hp; omega⟩
def best (lt : α → α → Bool) (n i : Nat) (d : Array α) : Nat := if 2 * i + 2 < n ∧ lt d[2 * i + 2]! d[2 * i + 1]! = true then 2 * i + 2 else 2 * i + 1
theorem best_par (lt : α → α → Bool) (n i : Nat) (d : Array α) : par (best lt n i d) = i := by unfold best par; split <;> omega
theorem best_lt {lt : α → α → Bool} {n i : Nat} {d : Array α} (h : 2 * i + 1 < n) : best lt n i d < n := by unfold best; split <;> omega
theorem best_gt (lt : α → α → Bool) (n i : Nat) (d : Array α) : i < best lt n i d := by unfold best; split <;> omega
theorem best_least {lt : α → α → Bool} (O : SWO lt) {n i k : Nat} {d : Array α} (h0 : 0 < k) (hk : k < n) (hp : par k = i) : lt d[k]! d[best lt n i d]! = false := by
 have : k = 2 * i + 1 ∨ k = 2 * i + 2 := by unfold par at hp; omega
 unfold best
 rcases this with rfl | rfl
 ·split
  ·rename_i h; exact asym O h.2
  ·exact O.irrefl _
 ·split
  ·exact O.irrefl _
  ·rename_i h
   cases e : lt d[2 * i + 2]! d[2 * i + 1]! with
   | false => rfl
   | true => exact (h ⟨hk, e⟩).elim
theorem down_step {lt : α → α → Bool} (O : SWO lt) {n i : Nat} {d : Array α} (hn : n ≤ d.size) (hi : 2 * i + 1 < n) (h : DownInv lt n i d) (hl : lt d[best lt n i d]! d[i]! = true) :
  DownInv lt n (best lt n i d) (swp d i (best lt n i d)) := by
 generalize hj : best lt n i d = j at hl ⊢
 have hjp : par j = i := by rw [← hj]; exact best_par ..
 have hjn : j < n := by rw [← hj]; exact best_lt hi
 have hij : i < j := by rw [← hj]; exact best_gt ..
 have hleast : ∀ k, 0 < k → k < n → par k = i → lt d[k]! d[j]! = false := fun k a b c => by rw [← hj]; exact best_least O a b c
 have g := fun k => swp_get d (i := i) (j := j) (by omega) (by omega) k
 refine ⟨fun k h0 hk hne => ?_, fun k h0 hk hpk _ => ?_⟩
 ·have hpl : par k < k := by unfold par; omega
  by_cases e : k = j
  ·subst e
   rw [g, if_pos rfl, g, hjp, if_neg (by omega), if_pos rfl]
   exact asym O hl
  ·rw [g k, if_neg e, g (par k), if_neg hne]
   by_cases e1 : k = i
   ·rw [if_pos e1, if_neg (by omega)]
    subst e1
    exact h.2 j (by omega) hjn hjp h0
   ·rw [if_neg e1]
    by_cases e2 : par k = i
    ·rw [if_pos e2]; exact hleast k h0 hk e2
    ·rw [if_neg e2]; exact h.1 k h0 hk e2
 ·have hpl : par k < k := by unfold par; omega
  rw [g k, if_neg (by omega), if_neg (by omega), g, hjp, if_neg (by omega), if_pos rfl]
  have := h.1 k h0 hk (by omega)
  rwa [hpk] at this
theorem down_end {lt : α → α → Bool} (O : SWO lt) {n i : Nat} {d : Array α} (h : DownInv lt n i d) (hl : 2 * i + 1 < n → lt d[best lt n i d]! d[i]! = false) : IsHeap lt n d := fun k h0 hk => by
 by_cases e : par k = i
 ·have : 2 * i + 1 < n := by unfold par at e; omega
  rw [e]
  exact O.ntrans _ _ _ (best_least O h0 hk e) (hl this)
 ·exact h.1 k h0 hk e
theorem down_start {lt : α → α → Bool} {n : Nat} {d : Array α} (hn : n < d.size) (h : IsHeap lt (n + 1) d) : DownInv lt n 0 (swp d 0 n) := by
 have g := fun k => swp_get d (i := 0) (j := n) (by omega) (by omega) k
 refine ⟨fun k h0 hk hne => ?_, fun k _ _ _ h => by omega⟩
 have hpl : par k < k := by unfold par; omega
 rw [g k, if_neg (by omega), if_neg (by omega), g, if_neg (by omega), if_neg hne]
 exact h k h0 (by omega)
theorem root_least {lt : α → α → Bool} (O : SWO lt) {n : Nat} {d : Array α} (h : IsHeap lt n d) : ∀ i, i < n → lt d[i]! d[0]! = false := by
 intro i
 induction i using Nat.strongRecOn with
 | _ i ih =>
  intro hi
  by_cases e : i = 0
  ·subst e; exact O.irrefl _
  ·exact O.ntrans _ _ _ (h i (by omega) hi) (ih (par i) (by unfold par; omega) (by unfold par; omega))
theorem swp_perm {d : Array α} {i j : Nat} (hi : i < d.size) (hj : j < d.size) : (swp d i j).toList.Perm d.toList := by
 have h := (swp_permIn d 0 d.size i j (Nat.zero_le _) hi (Nat.zero_le _) hj (Nat.le_refl _)).2.2
 have e : (swp d i j).extract 0 d.size = swp d i j := by rw [← size_swp d i j]; simp
 rw [e] at h
 simpa using h
end Go.Hp
end
section
namespace Go.Vs
variable [GTab]
noncomputable section
def HZ (Z : Nat → Prop) (Γ : GH) (H : Heap) (nx : Nat) : Prop := (∀ b, Z b → b < nx) ∧ ∀ b cs, Γ b = some cs → (b < nx ∧ ¬ Z b) ∧ ∃ olds, Row H b cs olds ∧ ∀ o, o ∈ olds → (o < nx ∧ ¬ Z o) ∧ Γ o = none
theorem HZ.lt {Z : Nat → Prop} {Γ : GH} {H : Heap} {nx b : Nat} {cs : List AVal} (h : HZ Z Γ H nx) (e : Γ b = some cs) : b < nx := (h.2 b cs e).1.1
theorem HZ.non {Z : Nat → Prop} {Γ : GH} {H : Heap} {nx b : Nat} (h : HZ Z Γ H nx) (e : nx ≤ b) : Γ b = none := by
 cases hb : Γ b with
 | none => rfl
 | some cs => exact absurd (h.lt hb) (by omega)
theorem HZ.more {Z : Nat → Prop} {Γ : GH} {H : Heap} {nx nx' : Nat} (h : HZ Z Γ H nx) (e : nx ≤ nx') : HZ Z Γ H nx' := ⟨fun b hb => Nat.lt_of_lt_of_le (h.1 b hb) e, fun b cs hb =>
 let ⟨h1, olds, h2, h3⟩ := h.2 b cs hb
 ⟨⟨Nat.lt_of_lt_of_le h1.1 e, h1.2⟩, olds, h2, fun o ho => ⟨⟨Nat.lt_of_lt_of_le (h3 o ho).1.1 e, (h3 o ho).1.2⟩, (h3 o ho).2⟩⟩⟩
theorem HZ.ld1 {Z : Nat → Prop} {Γ : GH} {H : Heap} {nx b : Nat} {cs : List AVal} (h : HZ Z Γ H nx) (e : Γ b = some cs) (off : Nat) : ld1 H (.ptr b off) = cs[off]? := by
 obtain ⟨_, olds, ⟨ct, hb, hc⟩, _⟩ := h.2 b cs e
 unfold Vs.ld1
 simp only [get5]
 rw [hb]
 have hl := take_len hc rfl
 by_cases ho : off < cs.length
 ·have : Nat.ble (Nat.succ off) cs.length = true := ble_of ho
  simp only [this, CT.get]
  rw [← hc, List.getElem?_take_of_lt ho]
  simp [List.getD, show off < ct.length by omega]
 ·have : Nat.ble (Nat.succ off) cs.length = false := by
   cases e : Nat.ble (Nat.succ off) cs.length with
   | false => rfl
   | true => exact (ho (Nat.le_of_ble_eq_true e)).elim
  simp only [this]
  rw [List.getElem?_eq_none (by omega)]
theorem HZ.ldN {Z : Nat → Prop} {Γ : GH} {H : Heap} {nx b : Nat} {cs : List AVal} (h : HZ Z Γ H nx) (e : Γ b = some cs) {off sz : Nat} (ho : off + sz ≤ cs.length) :
  ldN H sz (.ptr b off) = some (.agg ((cs.drop off).take sz)) := by
 obtain ⟨_, olds, ⟨ct, hb, hc⟩, _⟩ := h.2 b cs e
 unfold Vs.ldN
 simp only [get5]
 rw [hb]
 have : Nat.ble (Nat.add off sz) cs.length = true := ble_of ho
 simp only [this, slab_take hc ho]
theorem HZ.newN {Z : Nat → Prop} {Γ : GH} {H : Heap} {nx nx' b : Nat} (h : HZ Z Γ H nx) (hb : nx ≤ b) (hn : b < nx') {cs : List AVal} {ct : CT} (hc : ct.take cs.length = cs) :
  HZ Z (gup b (some cs) Γ) (set5 b (some (.cells cs.length ct [] false)) H) nx' := by
 refine ⟨fun z hz => by have := h.1 z hz; omega, ?_⟩
 intro c ds e
 by_cases hc' : c = b
 ·subst hc'
  rw [gup_same] at e; cases e
  exact ⟨⟨hn, fun z => by have := h.1 _ z; omega⟩, [], ⟨ct, set5_eq' _ _ _, hc⟩, by simp⟩
 ·rw [gup_ne hc'] at e
  obtain ⟨h1, olds, ⟨ct', h2, h2'⟩, h3⟩ := h.2 c ds e
  exact ⟨⟨by omega, h1.2⟩, olds, ⟨ct', by rw [set5_ne' hc']; exact h2, h2'⟩, fun o ho => ⟨⟨by have := (h3 o ho).1.1; omega, (h3 o ho).1.2⟩, by rw [gup_ne (by have := (h3 o ho).1.1; omega)]; exact (h3 o ho).2⟩⟩
theorem HZ.new {Z : Nat → Prop} {Γ : GH} {H : Heap} {nx nx' b : Nat} (h : HZ Z Γ H nx) (hb : nx ≤ b) (hn : b < nx') (cs : List AVal) : HZ Z (gup b (some cs) Γ) (newB b cs H) nx' :=
 h.newN hb hn (by rw [CT.ofL_eq rfl]; exact List.take_length)
theorem HZ.st {Z : Nat → Prop} {Γ : GH} {H : Heap} {nx b off : Nat} {cs vs : List AVal} (h : HZ Z Γ H nx) (e : Γ b = some cs) (ho : off + vs.length ≤ cs.length) (hv : allCell vs = true) :
  ∃ H', stC H (.ptr b off) vs = some H' ∧ HZ Z (gup b (some (splice cs off vs)) Γ) H' nx := by
 obtain ⟨hb, olds, ⟨ct, h2, h2'⟩, h3⟩ := h.2 b cs e
 have hl := take_len h2' rfl
 refine ⟨set5 b (some (.cells cs.length (relay vs vs.length off cs.length ct) [] false)) (dels olds H), ?_, ?_⟩
 ·unfold stC
  simp only [get5]
  rw [h2]
  have : Nat.ble (Nat.add off vs.length) cs.length = true := ble_of ho
  simp only [this, hv]
 ·refine ⟨h.1, ?_⟩
  intro c ds ec
  by_cases hc : c = b
  ·subst hc
   rw [gup_same] at ec; cases ec
   refine ⟨hb, [], ⟨_, by rw [set5_eq', splice_length ho], ?_⟩, by simp⟩
   rw [splice_length ho]
   unfold relay splice
   split
   ·rename_i g1 g2 _
    have e1 := Nat.eq_of_beq_eq_true g1
    have e2 := Nat.eq_of_beq_eq_true g2
    subst e1
    rw [CT.ofL_eq e2, ← e2, List.take_length]
    simp only [List.take_zero, List.nil_append, Nat.zero_add]
    rw [List.drop_eq_nil_of_le (by omega)]
    simp
   ·rw [CT.lay_eq (by omega)]
    have ea : (ct.take off ++ vs).length = off + vs.length := by simp; omega
    rw [List.take_append, ea, List.take_of_length_le (by omega : (ct.take off ++ vs).length ≤ cs.length)]
    congr 1
    ·conv => rhs; rw [← h2']
     rw [List.take_take, Nat.min_eq_left (by omega)]
    ·conv => rhs; rw [← h2']
     rw [List.drop_take]
  ·rw [gup_ne hc] at ec
   obtain ⟨h4, olds', ⟨ct', h5, h5'⟩, h6⟩ := h.2 c ds ec
   refine ⟨h4, olds', ⟨ct', ?_, h5'⟩, fun o hoo => ⟨(h6 o hoo).1, ?_⟩⟩
   ·rw [set5_ne' hc, dels_same (fun hm => by have := (h3 c hm).2; rw [ec] at this; cases this)]
    exact h5
   ·rw [gup_ne (fun x => by have := (h6 o hoo).2; rw [x, e] at this; cases this)]
    exact (h6 o hoo).2
theorem HZ.src {Z : Nat → Prop} {Γ : GH} {H : Heap} {nx b off n sz e : Nat} {full : Bool} {cs : List AVal} (h : HZ Z Γ H nx) (eb : Γ b = some cs) (ho : off + n * sz ≤ cs.length) :
  aSrc sz H (.slice b off n e full) = some (n, (cs.drop off).take (n * sz)) := by
 obtain ⟨hb, olds, ⟨ct, h2, h2'⟩, h3⟩ := h.2 b cs eb
 unfold aSrc
 simp only [get5]
 rw [h2]
 have : Nat.ble (Nat.add off (Nat.mul n sz)) cs.length = true := ble_of ho
 simp only [this]
 rw [show Nat.mul n sz = n * sz from rfl, slab_take h2' ho]
theorem HZ.appNil {Z : Nat → Prop} {Γ : GH} {H : Heap} {nx esz ebytes k : Nat} {new : List AVal} (h : HZ Z Γ H nx) (hk : new.length = k * esz) (hk0 : 0 < k)
  (h1 : k * esz ≤ 9223372036854775807) (h2 : k * ebytes ≤ 140737488355328) :
  ∃ H', appC H nx esz ebytes .nilSlice k new = some (.slice nx 0 k esz false, H', nx + 1) ∧ HZ Z (gup nx (some new) Γ) H' (nx + 1) := by
 obtain ⟨k', rfl⟩ : ∃ k', k = Nat.succ k' := ⟨k - 1, by omega⟩
 have g2 : Nat.ble (Nat.mul (Nat.succ k') esz) 9223372036854775807 = true := ble_of h1
 have g3 : Nat.ble (Nat.mul (Nat.succ k') ebytes) 140737488355328 = true := ble_of h2
 refine ⟨set5 nx (some (.cells (Nat.mul (Nat.succ k') esz) (CT.ofL (Nat.mul (Nat.succ k') esz) new) [] false)) H, ?_, ?_⟩
 ·unfold appC
  simp only [g2, g3]
 ·have e : Nat.mul (Nat.succ k') esz = new.length := hk.symm
  rw [e]
  exact h.newN (Nat.le_refl _) (Nat.lt_succ_self _) (by rw [CT.ofL_eq rfl]; exact List.take_length)
theorem HZ.appFull {Z : Nat → Prop} {Γ : GH} {H : Heap} {nx b off len esz ebytes k : Nat} {cs new : List AVal} (h : HZ Z Γ H nx) (e : Γ b = some cs) (hl : off + len * esz ≤ cs.length) (hk : new.length = k * esz) (hk0 : 0 < k)
  (h1 : (len + k) * esz ≤ 9223372036854775807) (h2 : (len + k) * ebytes ≤ 140737488355328) :
  ∃ H', appC H nx esz ebytes (.slice b off len esz true) k new = some (.slice nx 0 (len + k) esz false, H', nx + 1) ∧ HZ Z (gup nx (some ((cs.drop off).take (len * esz) ++ new)) Γ) H' (nx + 1) := by
 obtain ⟨hb, olds, ⟨ct, h3, h3'⟩, h4⟩ := h.2 b cs e
 obtain ⟨k', rfl⟩ : ∃ k', k = Nat.succ k' := ⟨k - 1, by omega⟩
 have g1 : Nat.beq esz esz = true := Nat.beq_refl esz
 have g2 : Nat.ble (Nat.mul (Nat.add len (Nat.succ k')) esz) 9223372036854775807 = true := ble_of h1
 have g3 : Nat.ble (Nat.mul (Nat.add len (Nat.succ k')) ebytes) 140737488355328 = true := ble_of h2
 have g4 : Nat.ble (Nat.add off (Nat.mul len esz)) cs.length = true := ble_of hl
 have hm : ((cs.drop off).take (len * esz) ++ new).length = (len + Nat.succ k') * esz := by
  rw [List.length_append, List.length_take, List.length_drop, hk, Nat.add_mul, Nat.min_eq_left (by omega)]
 refine ⟨set5 nx (some (.cells ((len + Nat.succ k') * esz) (CT.ofL ((len + Nat.succ k') * esz) ((cs.drop off).take (len * esz) ++ new)) [] false)) H, ?_, ?_⟩
 ·unfold appC
  simp only [get5, h3, g1, g2, g3, g4]
  rw [show Nat.mul len esz = len * esz from rfl, slab_take h3' hl]; rfl
 ·rw [← hm]
  exact h.newN (Nat.le_refl _) (Nat.lt_succ_self _) (by rw [CT.ofL_eq rfl]; exact List.take_length)
theorem HZ.app {Z : Nat → Prop} {Γ : GH} {H : Heap} {nx b len esz ebytes k : Nat} {cs new : List AVal} (h : HZ Z Γ H nx) (e : Γ b = some cs) (hl : len * esz ≤ cs.length) (hk : new.length = k * esz) (hk0 : 0 < k)
  (h1 : (len + k) * esz ≤ 9223372036854775807) (h2 : (len + k) * ebytes ≤ 140737488355328) :
  ∃ H', appC H nx esz ebytes (.slice b 0 len esz false) k new = some (.slice nx 0 (len + k) esz false, H', nx + 1) ∧
   HZ Z (gup nx (some (cs.take (len * esz) ++ new)) (gup b none Γ)) H' (nx + 1) := by
 obtain ⟨hb, olds, ⟨ct, h3, h3'⟩, h4⟩ := h.2 b cs e
 have hlen := take_len h3' rfl
 obtain ⟨k', rfl⟩ : ∃ k', k = Nat.succ k' := ⟨k - 1, by omega⟩
 have g1 : Nat.beq esz esz = true := Nat.beq_refl esz
 have g2 : Nat.ble (Nat.mul (Nat.add len (Nat.succ k')) esz) 9223372036854775807 = true := ble_of h1
 have g3 : Nat.ble (Nat.mul (Nat.add len (Nat.succ k')) ebytes) 140737488355328 = true := ble_of h2
 have g4 : Nat.ble (Nat.add 0 (Nat.mul len esz)) cs.length = true := ble_of (by show 0 + len * esz ≤ _; omega)
 have hm : (cs.take (len * esz) ++ new).length = (len + Nat.succ k') * esz := by
  rw [List.length_append, List.length_take, hk, Nat.add_mul, Nat.min_eq_left (by omega)]
 have hct : (CT.lay new (len * esz) (CT.widen ((len + Nat.succ k') * esz) ct)).take (cs.take (len * esz) ++ new).length = cs.take (len * esz) ++ new := by
  have hw : (len + Nat.succ k') * esz ≤ (CT.widen ((len + Nat.succ k') * esz) ct).length := by simp [CT.widen]; omega
  have hn : len * esz + new.length = (len + Nat.succ k') * esz := by rw [hk, Nat.add_mul]
  rw [CT.lay_eq (by omega), hm]
  have ht : (CT.widen ((len + Nat.succ k') * esz) ct).take (len * esz) = cs.take (len * esz) := by
   unfold CT.widen
   rw [List.take_append_of_le_length (by omega)]
   conv => rhs; rw [← h3']
   rw [List.take_take, Nat.min_eq_left (by omega)]
  rw [ht]
  exact List.take_left' hm
 have hap : appC H nx esz ebytes (.slice b 0 len esz false) (Nat.succ k') new = some (.slice nx 0 (len + Nat.succ k') esz false,
   grown b cs.length ct olds (len * esz) H nx ((len + Nat.succ k') * esz) (CT.lay new (len * esz) (CT.widen ((len + Nat.succ k') * esz) ct)), nx + 1) := by
  unfold appC
  simp only [get5, h3, g1, g2, g3, g4]
  rfl
 refine ⟨_, hap, ?_⟩
 rw [← hm]
 have hrest : ∀ c ds, c ≠ nx → c ≠ b → Γ c = some ds → dels olds H c = H c := fun c ds _ _ ec => dels_same fun hx => by have := (h4 c hx).2; rw [ec] at this; cases this
 have key : ∀ (H2 : Heap) (ol : List Nat), (∀ o, o ∈ ol → o = b) → (∀ c, c ≠ nx → c ≠ b → H2 c = dels olds H c) →
   HZ Z (gup nx (some (cs.take (len * esz) ++ new)) (gup b none Γ)) (set5 nx (some (.cells (cs.take (len * esz) ++ new).length (CT.lay new (len * esz) (CT.widen (cs.take (len * esz) ++ new).length ct)) ol false)) H2) (nx + 1) := by
  intro H2 ol hol h2c
  refine ⟨fun z hz => by have := h.1 z hz; omega, ?_⟩
  intro c ds ec
  by_cases hc : c = nx
  ·subst hc
   rw [gup_same] at ec; cases ec
   refine ⟨⟨Nat.lt_succ_self _, fun z => by have := h.1 _ z; omega⟩, ol, ⟨_, set5_eq' _ _ _, by rw [hm]; rw [hm] at hct; exact hct⟩, fun o ho => ?_⟩
   rw [hol o ho]
   exact ⟨⟨by omega, hb.2⟩, by rw [gup_ne (by omega), gup_same]⟩
  ·rw [gup_ne hc] at ec
   have hcb : c ≠ b := fun x => by rw [x, gup_same] at ec; cases ec
   rw [gup_ne hcb] at ec
   obtain ⟨h5, olds', ⟨ct', h6, h6'⟩, h7⟩ := h.2 c ds ec
   refine ⟨⟨by omega, h5.2⟩, olds', ⟨ct', by rw [set5_ne' hc, h2c c hc hcb, hrest c ds hc hcb ec]; exact h6, h6'⟩, fun o ho => ?_⟩
   have ho' := h7 o ho
   refine ⟨⟨by omega, ho'.1.2⟩, ?_⟩
   rw [gup_ne (by omega)]
   by_cases hob : o = b
   ·rw [hob, gup_same]
   ·rw [gup_ne hob]; exact ho'.2
 unfold grown
 split
 ·exact key _ [b] (by simp) (fun c h1 h2 => by rw [set5_ne' h2])
 ·exact key _ [] (by simp) (fun c h1 h2 => by rw [set5_ne' h2, set5_ne' h2])
theorem HZ.res {Z Z' : Nat → Prop} {Γ : GH} {H : Heap} {nx nx' : Nat} (h : HZ Z Γ H nx) (hz : ∀ b, Z' b → Z b ∨ (nx ≤ b ∧ b < nx')) (hn : nx ≤ nx') : HZ Z' Γ H nx' :=
 ⟨fun b hb => (hz b hb).elim (fun g => Nat.lt_of_lt_of_le (h.1 b g) hn) fun g => g.2, fun b cs e =>
  let ⟨h1, olds, h2, h3⟩ := h.2 b cs e
  ⟨⟨Nat.lt_of_lt_of_le h1.1 hn, fun g => (hz b g).elim (fun g => h1.2 g) fun g => by omega⟩, olds, h2, fun o ho => ⟨⟨Nat.lt_of_lt_of_le (h3 o ho).1.1 hn, fun g => by
   rcases hz o g with g | g
   ·exact (h3 o ho).1.2 g
   ·have := (h3 o ho).1.1; omega⟩, (h3 o ho).2⟩⟩⟩
theorem HZ.less {Z Z' : Nat → Prop} {Γ : GH} {H : Heap} {nx : Nat} (h : HZ Z Γ H nx) (hz : ∀ b, Z' b → Z b) : HZ Z' Γ H nx := h.res (fun b hb => .inl (hz b hb)) (Nat.le_refl _)
theorem HZ.sub {Z : Nat → Prop} {Γ Γ' : GH} {H : Heap} {nx : Nat} (h : HZ Z Γ' H nx) (hs : ∀ b cs, Γ b = some cs → Γ' b = some cs) : HZ Z Γ H nx := ⟨h.1, fun b cs e =>
 let ⟨h1, olds, h2, h3⟩ := h.2 b cs (hs b cs e)
 ⟨h1, olds, h2, fun o ho => ⟨(h3 o ho).1, by
  cases hq : Γ o with
  | none => rfl
  | some ds => have := (h3 o ho).2; rw [hs _ _ hq] at this; cases this⟩⟩⟩
end
end Go.Vs
end
section
namespace Go.Vs
variable [GTab] {Z : Nat → Prop}
noncomputable section
abbrev Owned := List (Nat × List AVal)
abbrev Facts := List (GH → Prop)
def over : Owned → GH → GH
 | [], Γ => Γ
 | (b, cs) :: A, Γ => gup b (some cs) (over A Γ)
def Apart : Owned → GH → Prop
 | [], _ => True
 | (b, _) :: A, Γ => over A Γ b = none ∧ Apart A Γ
inductive Own : Owned → Nat → List AVal → Prop
 | hd {A : Owned} {b : Nat} {cs : List AVal} : Own ((b, cs) :: A) b cs
 | tl {A : Owned} {b : Nat} {cs : List AVal} {x : Nat × List AVal} (h : Own A b cs) : Own (x :: A) b cs
inductive Upd : Owned → Nat → List AVal → List AVal → Owned → Prop
 | hd {A : Owned} {b : Nat} {cs ds : List AVal} : Upd ((b, cs) :: A) b cs ds ((b, ds) :: A)
 | tl {A A' : Owned} {b : Nat} {cs ds : List AVal} {x : Nat × List AVal} (h : Upd A b cs ds A') : Upd (x :: A) b cs ds (x :: A')
theorem over_none : ∀ {A : Owned} {Γ : GH} {b : Nat}, over A Γ b = none → Γ b = none
 | [], _, _, h => h
 | (c, cs) :: A, Γ, b, h => by
  unfold over at h
  by_cases hb : b = c
  ·subst hb; rw [gup_same] at h; cases h
  ·rw [gup_ne hb] at h; exact over_none h
theorem Apart.at {A : Owned} {Γ : GH} {b : Nat} {cs : List AVal} (h : Own A b cs) (a : Apart A Γ) : over A Γ b = some cs := by
 induction h with
 | hd => exact gup_same _ _ _
 | @tl A b cs x h ih =>
  obtain ⟨c, ds⟩ := x
  have e := ih a.2
  unfold over
  rw [gup_ne fun x => by rw [x, a.1] at e; cases e]; exact e
theorem Apart.row : ∀ {A : Owned} {Γ : GH} {b : Nat} {cs : List AVal}, Apart A Γ → Γ b = some cs → over A Γ b = some cs
 | [], _, _, _, _, e => e
 | (c, ds) :: A, Γ, b, cs, a, e => by
  unfold over
  have e' := Apart.row a.2 e
  rw [gup_ne fun x => by rw [x, a.1] at e'; cases e']; exact e'
theorem Upd.at {A A' : Owned} {b : Nat} {cs ds : List AVal} (u : Upd A b cs ds A') : Own A b cs := by
 induction u with
 | hd => exact .hd
 | tl _ ih => exact .tl ih
theorem Upd.over {A A' : Owned} {b : Nat} {cs ds : List AVal} {Γ : GH} (u : Upd A b cs ds A') (a : Apart A Γ) : over A' Γ = gup b (some ds) (over A Γ) ∧ Apart A' Γ := by
 induction u with
 | hd => exact ⟨by unfold Vs.over; rw [gup_gup], a⟩
 | @tl A A' b cs ds x h ih =>
  obtain ⟨c, es⟩ := x
  obtain ⟨i1, i2⟩ := ih a.2
  have hb := Apart.at h.at a.2
  have hne : b ≠ c := fun x => by rw [x, a.1] at hb; cases hb
  constructor
  ·unfold Vs.over; rw [i1]
   funext d
   by_cases h1 : d = c
   ·subst h1; rw [gup_same, gup_ne (Ne.symm hne), gup_same]
   ·by_cases h2 : d = b
    ·subst h2; rw [gup_ne h1, gup_same, gup_same]
    ·rw [gup_ne h1, gup_ne h2, gup_ne h2, gup_ne h1]
  ·exact ⟨by rw [i1, gup_ne (Ne.symm hne)]; exact a.1, i2⟩
def RowF (b : Nat) (cs : List AVal) : GH → Prop := fun Γ => Γ b = some cs
section
variable {A A' : Owned} {F G : Facts} {H : Heap} {nx nx' : Nat}
theorem over_sel {A B : Owned} {Γ : GH} (s : B.Sublist A) : Apart A Γ → Apart B Γ ∧ ∀ b cs, over B Γ b = some cs → over A Γ b = some cs := by
 induction s with
 | slnil => exact fun a => ⟨a, fun _ _ e => e⟩
 | @cons l1 l2 x s ih =>
  obtain ⟨c, ds⟩ := x
  intro a
  obtain ⟨i1, i2⟩ := ih a.2
  refine ⟨i1, fun b cs e => ?_⟩
  have e' := i2 b cs e
  unfold over; rw [gup_ne fun x => by rw [x, a.1] at e'; cases e']; exact e'
 | @cons_cons l1 l2 x s ih =>
  obtain ⟨c, ds⟩ := x
  intro a
  obtain ⟨i1, i2⟩ := ih a.2
  refine ⟨⟨?_, i1⟩, fun b cs e => ?_⟩
  ·cases hb : over l1 Γ c with
   | none => rfl
   | some es => have := i2 _ _ hb; rw [a.1] at this; cases this
  ·unfold over at e ⊢
   by_cases hc : b = c
   ·subst hc; rw [gup_same] at e ⊢; exact e
   ·rw [gup_ne hc] at e ⊢; exact i2 b cs e
inductive Ins (G : Owned) : Owned → Owned → Prop
 | hd {A : Owned} : Ins G A (G ++ A)
 | tl {A1 A : Owned} {x : Nat × List AVal} (h : Ins G A1 A) : Ins G (x :: A1) (x :: A)
theorem over_ins {b : Nat} {cs : List AVal} {A1 A : Owned} {Γ : GH} (s : Ins [(b, cs)] A1 A) : Apart A Γ → over A Γ = over ((b, cs) :: A1) Γ ∧ Apart ((b, cs) :: A1) Γ := by
 induction s with
 | hd => exact fun a => ⟨rfl, a⟩
 | @tl A1 A x s ih =>
  obtain ⟨c, ds⟩ := x
  intro a
  obtain ⟨i1, i2⟩ := ih a.2
  have hc : over ((b, cs) :: A1) Γ c = none := by rw [← i1]; exact a.1
  have hbc : c ≠ b := fun e => by unfold over at hc; rw [e, gup_same] at hc; cases hc
  have hc1 : over A1 Γ c = none := by unfold over at hc; rwa [gup_ne hbc] at hc
  refine ⟨?_, ?_, hc1, i2.2⟩
  ·show gup c (some ds) (over A Γ) = gup b (some cs) (gup c (some ds) (over A1 Γ))
   rw [i1]
   show gup c (some ds) (gup b (some cs) (over A1 Γ)) = _
   funext d
   by_cases q1 : d = c
   ·subst q1; rw [gup_same, gup_ne hbc, gup_same]
   ·by_cases q2 : d = b
    ·subst q2; rw [gup_ne q1, gup_same, gup_same]
    ·rw [gup_ne q1, gup_ne q2, gup_ne q2, gup_ne q1]
  ·show gup c (some ds) (over A1 Γ) b = none
   rw [gup_ne (Ne.symm hbc)]; exact i2.1
section
variable {k : Heap → Prop}
theorem splice_all {cs vs : List AVal} (h : vs.length = cs.length) : splice cs 0 vs = vs := by unfold splice; simp [h]
theorem splice_one {cs : List AVal} {v : AVal} {j : Nat} (h : j < cs.length) : splice cs j [v] = cs.set j v := by unfold splice; rw [List.set_eq_take_append_cons_drop, if_pos h]; simp
end
end
section
variable {r : Nat} {I : List AVal → Prop} {E : Facts} {A A' : Owned} {F G : Facts} {H : Heap} {nx nx' : Nat} {k : Heap → Prop}
end
end
end Go.Vs
end
section
namespace Go.Vs
variable [GTab]
noncomputable section
abbrev MM := Nat → Option AObj
def mup (b : Nat) (o : AObj) (M : MM) : MM := fun c => if c = b then some o else M c
theorem mup_same (b : Nat) (o : AObj) (M : MM) : mup b o M b = some o := by simp [mup]
theorem mup_ne {b c : Nat} {o : AObj} {M : MM} (h : c ≠ b) : mup b o M c = M c := by simp [mup, h]
def inM (M : MM) : Nat → Prop := fun b => M b ≠ none
def HM (M : MM) (Γ : GH) (H : Heap) (nx : Nat) : Prop := HZ (inM M) Γ H nx ∧ ∀ b o, M b = some o → H b = some o
section
variable {M : MM} {Γ : GH} {H : Heap} {nx nx' : Nat}
theorem HM.non {b : Nat} (h : HM M Γ H nx) (e : nx ≤ b) : Γ b = none := h.1.non e
theorem HM.more (h : HM M Γ H nx) (e : nx ≤ nx') : HM M Γ H nx' := ⟨h.1.more e, h.2⟩
theorem HM.ld1 {b : Nat} {cs : List AVal} (h : HM M Γ H nx) (e : Γ b = some cs) (off : Nat) : Vs.ld1 H (.ptr b off) = cs[off]? := h.1.ld1 e off
theorem HM.ldN {b : Nat} {cs : List AVal} (h : HM M Γ H nx) (e : Γ b = some cs) {off sz : Nat} (ho : off + sz ≤ cs.length) : Vs.ldN H sz (.ptr b off) = some (.agg ((cs.drop off).take sz)) := h.1.ldN e ho
theorem HM.sub {Γ' : GH} (h : HM M Γ' H nx) (hs : ∀ b cs, Γ b = some cs → Γ' b = some cs) : HM M Γ H nx := ⟨h.1.sub hs, h.2⟩
theorem HM.src {b off n sz e : Nat} {full : Bool} {cs : List AVal} (h : HM M Γ H nx) (eb : Γ b = some cs) (ho : off + n * sz ≤ cs.length) : aSrc sz H (.slice b off n e full) = some (n, (cs.drop off).take (n * sz)) := h.1.src eb ho
theorem HM.atM {b : Nat} {o : AObj} (h : HM M Γ H nx) (e : M b = some o) : get5 b H = some o := h.2 b o e
theorem HM.ltM {b : Nat} {o : AObj} (h : HM M Γ H nx) (e : M b = some o) : b < nx := h.1.1 b (fun x => by rw [e] at x; cases x)
theorem HM.new {b : Nat} (h : HM M Γ H nx) (hb : nx ≤ b) (hn : b < nx') (cs : List AVal) : HM M (gup b (some cs) Γ) (newB b cs H) nx' :=
 ⟨h.1.new hb hn cs, fun z o e => by
  have := h.ltM e
  unfold newB
  rw [set5_ne' (by omega)]; exact h.2 z o e⟩
theorem stC_frame {Z : Nat → Prop} {b off : Nat} {cs vs : List AVal} {H' : Heap} (h : HZ Z Γ H nx) (e : Γ b = some cs) (hs : stC H (.ptr b off) vs = some H') : ∀ z, Z z → H' z = H z := by
 intro z hz
 obtain ⟨hb, olds, ⟨ct, h2, h2'⟩, h3⟩ := h.2 b cs e
 unfold stC at hs
 simp only [get5] at hs
 rw [h2] at hs
 simp only [] at hs
 split at hs <;> try (cases hs; done)
 cases hs
 rw [set5_ne' (fun x => hb.2 (by rw [← x]; exact hz)), dels_same (fun hm => (h3 z hm).1.2 hz)]
theorem HM.st {b off : Nat} {cs vs : List AVal} (h : HM M Γ H nx) (e : Γ b = some cs) (ho : off + vs.length ≤ cs.length) (hv : allCell vs = true) :
  ∃ H', stC H (.ptr b off) vs = some H' ∧ HM M (gup b (some (splice cs off vs)) Γ) H' nx := by
 obtain ⟨H', e1, e2⟩ := h.1.st e ho hv
 exact ⟨H', e1, e2, fun z o hz => by rw [stC_frame h.1 e e1 z (fun x => by rw [hz] at x; cases x)]; exact h.2 z o hz⟩
theorem appNil_frame {esz ebytes k : Nat} {new : List AVal} {v : AVal} {H' : Heap} {n' : Nat} (hs : appC H nx esz ebytes .nilSlice k new = some (v, H', n')) : ∀ z, z < nx → H' z = H z := by
 intro z hz
 unfold appC at hs
 split at hs
 ·cases hs; rfl
 ·simp only [] at hs
  split at hs <;> try (cases hs; done)
  cases hs
  rw [set5_ne' (by omega)]
theorem app_frame {Z : Nat → Prop} {b off len e esz ebytes k : Nat} {full : Bool} {cs new : List AVal} {v : AVal} {H' : Heap} {n' : Nat} (h : HZ Z Γ H nx) (eb : Γ b = some cs) (hs : appC H nx esz ebytes (.slice b off len e full) k new = some (v, H', n')) : ∀ z, Z z → H' z = H z := by
 intro z hz
 have hzn := h.1 z hz
 obtain ⟨hb, olds, ⟨ct, h2, h2'⟩, h3⟩ := h.2 b cs eb
 have hzb : z ≠ b := fun x => hb.2 (by rw [← x]; exact hz)
 have hzo : dels olds H z = H z := dels_same (fun hm => (h3 z hm).1.2 hz)
 unfold appC at hs
 split at hs
 ·cases hs; rfl
 ·simp only [get5] at hs
  rw [h2] at hs
  repeat' split at hs
  all_goals try (cases hs; done)
  all_goals
   cases ‹some (AObj.cells cs.length ct olds false) = some (AObj.cells _ _ _ _)›; cases hs
   first
   | rw [set5_ne' (by omega)]
   | (
     unfold grown
     cases (len.mul esz).beq cs.length with
     | true => show set5 _ _ _ z = _; rw [set5_ne' (by omega), set5_ne' hzb, hzo]
     | false => show set5 _ _ _ z = _; rw [set5_ne' (by omega), set5_ne' hzb, set5_ne' hzb, hzo])
theorem HM.appNil {esz ebytes k : Nat} {new : List AVal} (h : HM M Γ H nx) (hk : new.length = k * esz) (hk0 : 0 < k) (h1 : k * esz ≤ 9223372036854775807) (h2 : k * ebytes ≤ 140737488355328) :
  ∃ H', appC H nx esz ebytes .nilSlice k new = some (.slice nx 0 k esz false, H', nx + 1) ∧ HM M (gup nx (some new) Γ) H' (nx + 1) := by
 obtain ⟨H', e1, e2⟩ := h.1.appNil (esz := esz) (ebytes := ebytes) (k := k) (new := new) hk hk0 h1 h2
 exact ⟨H', e1, e2, fun z o hz => by rw [appNil_frame e1 z (h.ltM hz)]; exact h.2 z o hz⟩
theorem HM.appFull {b off len esz ebytes k : Nat} {cs new : List AVal} (h : HM M Γ H nx) (e : Γ b = some cs) (hl : off + len * esz ≤ cs.length) (hk : new.length = k * esz) (hk0 : 0 < k) (h1 : (len + k) * esz ≤ 9223372036854775807) (h2 : (len + k) * ebytes ≤ 140737488355328) :
  ∃ H', appC H nx esz ebytes (.slice b off len esz true) k new = some (.slice nx 0 (len + k) esz false, H', nx + 1) ∧ HM M (gup nx (some ((cs.drop off).take (len * esz) ++ new)) Γ) H' (nx + 1) := by
 obtain ⟨H', e1, e2⟩ := h.1.appFull (esz := esz) (ebytes := ebytes) (k := k) (new := new) e hl hk hk0 h1 h2
 exact ⟨H', e1, e2, fun z o hz => by rw [app_frame h.1 e e1 z (fun x => by rw [hz] at x; cases x)]; exact h.2 z o hz⟩
theorem HM.app {b len esz ebytes k : Nat} {cs new : List AVal} (h : HM M Γ H nx) (e : Γ b = some cs) (hl : len * esz ≤ cs.length) (hk : new.length = k * esz) (hk0 : 0 < k) (h1 : (len + k) * esz ≤ 9223372036854775807) (h2 : (len + k) * ebytes ≤ 140737488355328) :
  ∃ H', appC H nx esz ebytes (.slice b 0 len esz false) k new = some (.slice nx 0 (len + k) esz false, H', nx + 1) ∧ HM M (gup nx (some (cs.take (len * esz) ++ new)) (gup b none Γ)) H' (nx + 1) := by
 obtain ⟨H', e1, e2⟩ := h.1.app (esz := esz) (ebytes := ebytes) (k := k) (new := new) e hl hk hk0 h1 h2
 exact ⟨H', e1, e2, fun z o hz => by rw [app_frame h.1 e e1 z (fun x => by rw [hz] at x; cases x)]; exact h.2 z o hz⟩
theorem HM.newM {o : AObj} (h : HM M Γ H nx) : HM (mup nx o M) Γ (set5 nx (some o) H) (nx + 1) := by
 refine ⟨⟨fun b hb => ?_, fun b cs e => ?_⟩, fun b o' e => ?_⟩
 ·by_cases hbn : b = nx
  ·omega
  ·have : inM M b := fun x => hb (by rw [mup_ne hbn]; exact x)
   have := h.1.1 b this; omega
 ·obtain ⟨h1, olds, ⟨ct, h2, h2'⟩, h3⟩ := h.1.2 b cs e
  refine ⟨⟨by omega, fun x => h1.2 ?_⟩, olds, ⟨ct, by rw [set5_ne' (by omega)]; exact h2, h2'⟩, fun q hq => ⟨⟨by have := (h3 q hq).1.1; omega, fun x => (h3 q hq).1.2 ?_⟩, (h3 q hq).2⟩⟩
  ·intro y; exact x (by rw [mup_ne (by omega)]; exact y)
  ·intro y; exact x (by rw [mup_ne (by have := (h3 q hq).1.1; omega)]; exact y)
 ·by_cases hbn : b = nx
  ·subst hbn; rw [mup_same] at e; cases e; exact set5_eq' _ _ _
  ·rw [mup_ne hbn] at e; rw [set5_ne' hbn]; exact h.2 b o' e
theorem HM.setM {b : Nat} {o o2 : AObj} (h : HM M Γ H nx) (e : M b = some o) : HM (mup b o2 M) Γ (set5 b (some o2) H) nx := by
 have hin : ∀ c, inM (mup b o2 M) c → inM M c := fun c hc x => by
  by_cases hcb : c = b
  ·subst hcb; rw [e] at x; cases x
  ·exact hc (by rw [mup_ne hcb]; exact x)
 have hbin : inM M b := fun x => by rw [e] at x; cases x
 refine ⟨⟨fun c hc => h.1.1 c (hin c hc), fun c cs ec => ?_⟩, fun c o' ec => ?_⟩
 ·obtain ⟨h1, olds, ⟨ct, h2, h2'⟩, h3⟩ := h.1.2 c cs ec
  exact ⟨⟨h1.1, fun x => h1.2 (hin c x)⟩, olds, ⟨ct, by rw [set5_ne' (fun x => h1.2 (by rw [x]; exact hbin))]; exact h2, h2'⟩, fun q hq => ⟨⟨(h3 q hq).1.1, fun x => (h3 q hq).1.2 (hin q x)⟩, (h3 q hq).2⟩⟩
 ·by_cases hcb : c = b
  ·subst hcb; rw [mup_same] at ec; cases ec; exact set5_eq' _ _ _
  ·rw [mup_ne hcb] at ec; rw [set5_ne' hcb]; exact h.2 c o' ec
end
def SM (M : MM) (A : Owned) (F : Facts) (H : Heap) (nx : Nat) : Prop :=
 ∃ Γ, HM M (over A Γ) H nx ∧ Apart A Γ ∧ ∀ Γ', (∀ b cs, Γ b = some cs → Γ' b = some cs) → ∀ P, P ∈ F → P Γ'
section
variable {M : MM} {A A' : Owned} {F G : Facts} {H : Heap} {nx nx' : Nat}
theorem SM.to (h : SM M A F H nx) : ∃ Γ, HM M Γ H nx ∧ ∀ P, P ∈ F → P Γ := let ⟨Γ, h1, h2, h3⟩ := h
 ⟨Γ, h1.sub fun b cs e => h2.row e, fun P hP => h3 Γ (fun _ _ e => e) P hP⟩
theorem SM.more (h : SM M A F H nx) (hn : nx ≤ nx') : SM M A F H nx' := let ⟨Γ, h1, h2⟩ := h; ⟨Γ, h1.more hn, h2⟩
theorem SM.sub (h : SM M A F H nx) (hs : G ⊆ F) : SM M A G H nx := let ⟨Γ, h1, h2, h3⟩ := h; ⟨Γ, h1, h2, fun Γ' e P hP => h3 Γ' e P (hs hP)⟩
theorem SM.add {P : GH → Prop} (h : SM M A F H nx) (hp : ∀ Γ, (∀ Q, Q ∈ F → Q Γ) → P Γ) : SM M A (P :: F) H nx := let ⟨Γ, h1, h2, h3⟩ := h
 ⟨Γ, h1, h2, fun Γ' e Q hQ => by
  rcases List.mem_cons.1 hQ with rfl | hQ
  ·exact hp _ (h3 Γ' e)
  ·exact h3 Γ' e Q hQ⟩
theorem SM.drop {x : Nat × List AVal} (h : SM M (x :: A) F H nx) : SM M A F H nx := by
 obtain ⟨Γ, h1, h2, h3⟩ := h
 obtain ⟨b, cs⟩ := x
 exact ⟨Γ, h1.sub fun c ds e => by unfold over; rw [gup_ne fun x => by have := h2.1; rw [x, this] at e; cases e]; exact e, h2.2, h3⟩
theorem SM.swap {x y : Nat × List AVal} (h : SM M (x :: y :: A) F H nx) : SM M (y :: x :: A) F H nx := by
 obtain ⟨Γ, h1, h2, h3⟩ := h
 obtain ⟨b, cs⟩ := x
 obtain ⟨c, ds⟩ := y
 have hbc : b ≠ c := fun e => by have := h2.1; unfold over at this; rw [e, gup_same] at this; cases this
 have e : over ((c, ds) :: (b, cs) :: A) Γ = over ((b, cs) :: (c, ds) :: A) Γ := by
  unfold over; unfold over
  funext d
  clear h1 h2 h3
  by_cases q1 : d = b
  ·subst q1; rw [gup_ne hbc, gup_same, gup_same]
  ·by_cases q2 : d = c
   ·subst q2; rw [gup_same, gup_ne q1, gup_same]
   ·rw [gup_ne q2, gup_ne q1, gup_ne q1, gup_ne q2]
 refine ⟨Γ, by rw [e]; exact h1, ⟨?_, ?_, h2.2.2⟩, h3⟩
 ·unfold over; rw [gup_ne (Ne.symm hbc)]; exact h2.2.1
 ·have := h2.1; unfold over at this; rwa [gup_ne hbc] at this
theorem SM.newN {i : Nat} {cs : List AVal} (h : SM M A F H nx) (h1 : nx ≤ i) (h2 : i < nx') : SM M ((i, cs) :: A) F (newB i cs H) nx' := let ⟨Γ, g1, g2, g3⟩ := h
 ⟨Γ, g1.new h1 h2 cs, ⟨g1.non h1, g2⟩, g3⟩
theorem SM.sel (s : A'.Sublist A) (h : SM M A F H nx) : SM M A' F H nx := let ⟨Γ, h1, h2, h3⟩ := h
 ⟨Γ, h1.sub (over_sel s h2).2, (over_sel s h2).1, h3⟩
theorem SM.ins {b : Nat} {cs : List AVal} {A1 : Owned} (s : Ins [(b, cs)] A1 A) (h : SM M A F H nx) : SM M ((b, cs) :: A1) F H nx := let ⟨Γ, h1, h2, h3⟩ := h
 ⟨Γ, by rw [← (over_ins s h2).1]; exact h1, (over_ins s h2).2, h3⟩
theorem SM.freeze {i : Nat} {cs : List AVal} (h : SM M ((i, cs) :: A) F H nx) : SM M A (RowF i cs :: F) H nx := by
 obtain ⟨Γ, g1, g2, g3⟩ := h
 have hi : Γ i = none := over_none g2.1
 have key : ∀ A : Owned, over A Γ i = none → Apart A Γ → over A (gup i (some cs) Γ) = gup i (some cs) (over A Γ) ∧ Apart A (gup i (some cs) Γ) := by
  intro A
  induction A with
  | nil => exact fun _ _ => ⟨rfl, trivial⟩
  | cons x A ih =>
   obtain ⟨c, ds⟩ := x
   intro e a
   have hc : i ≠ c := fun x => by unfold over at e; rw [x, gup_same] at e; cases e
   unfold over at e; rw [gup_ne hc] at e
   obtain ⟨i1, i2⟩ := ih e a.2
   refine ⟨?_, ?_, i2⟩
   ·unfold over; rw [i1]
    funext d
    by_cases h1 : d = c
    ·subst h1; rw [gup_same, gup_ne (Ne.symm hc), gup_same]
    ·by_cases h2 : d = i
     ·subst h2; rw [gup_ne h1, gup_same, gup_same]
     ·rw [gup_ne h1, gup_ne h2, gup_ne h2, gup_ne h1]
   ·rw [i1, gup_ne (Ne.symm hc)]; exact a.1
 obtain ⟨k1, k2⟩ := key A g2.1 g2.2
 refine ⟨gup i (some cs) Γ, by rw [k1]; exact g1, k2, fun Γ' e P hP => ?_⟩
 rcases List.mem_cons.1 hP with rfl | hP
 ·exact e _ _ (gup_same _ _ _)
 ·exact g3 Γ' (fun b ds e' => e _ _ (by rw [gup_ne fun x => by rw [x, hi] at e'; cases e']; exact e')) P hP
theorem SM.ld1 {b : Nat} {cs : List AVal} (h : SM M A F H nx) (hb : Own A b cs) (off : Nat) : ld1 H (.ptr b off) = cs[off]? := let ⟨Γ, g1, g2, g3⟩ := h; g1.ld1 (g2.at hb) off
theorem SM.ldN {b off sz : Nat} {cs : List AVal} (h : SM M A F H nx) (hb : Own A b cs) (ho : off + sz ≤ cs.length) : ldN H sz (.ptr b off) = some (.agg ((cs.drop off).take sz)) := let ⟨Γ, g1, g2, g3⟩ := h; g1.ldN (g2.at hb) ho
theorem SM.fact {P : GH → Prop} (h : SM M A F H nx) (hp : P ∈ F) : ∃ Γ, HM M Γ H nx ∧ P Γ := let ⟨Γ, h1, h2⟩ := h.to; ⟨Γ, h1, h2 P hp⟩
theorem SM.row1 {b : Nat} {cs : List AVal} (h : SM M A F H nx) (hb : RowF b cs ∈ F) (off : Nat) : Vs.ld1 H (.ptr b off) = cs[off]? := let ⟨Γ, g1, g2⟩ := h.fact hb; g1.ld1 g2 off
theorem SM.rowN {b off sz : Nat} {cs : List AVal} (h : SM M A F H nx) (hb : RowF b cs ∈ F) (ho : off + sz ≤ cs.length) : Vs.ldN H sz (.ptr b off) = some (.agg ((cs.drop off).take sz)) := let ⟨Γ, g1, g2⟩ := h.fact hb; g1.ldN g2 ho
theorem SM.st {b off : Nat} {cs vs : List AVal} (h : SM M A F H nx) (u : Upd A b cs (splice cs off vs) A') (ho : off + vs.length ≤ cs.length) (hv : allCell vs = true) :
  ∃ H', stC H (.ptr b off) vs = some H' ∧ SM M A' F H' nx := by
 obtain ⟨Γ, g1, g2, g3⟩ := h
 obtain ⟨H1, e1, e2⟩ := g1.st (g2.at u.at) ho hv
 obtain ⟨u1, u2⟩ := u.over g2
 exact ⟨H1, e1, Γ, by rw [u1]; exact e2, u2, g3⟩
theorem SM.src {b off n sz e : Nat} {full : Bool} {cs : List AVal} (h : SM M A F H nx) (hb : RowF b cs ∈ F) (ho : off + n * sz ≤ cs.length) : aSrc sz H (.slice b off n e full) = some (n, (cs.drop off).take (n * sz)) := let ⟨Γ, g1, g2⟩ := h.fact hb; g1.src g2 ho
theorem SM.appNil {esz ebytes k : Nat} {new : List AVal} (h : SM M A F H nx) (hk : new.length = k * esz) (hk0 : 0 < k) (h1 : k * esz ≤ 9223372036854775807) (h2 : k * ebytes ≤ 140737488355328) :
  ∃ H', appC H nx esz ebytes .nilSlice k new = some (.slice nx 0 k esz false, H', nx + 1) ∧ SM M ((nx, new) :: A) F H' (nx + 1) := by
 obtain ⟨Γ, g1, g2, g3⟩ := h
 obtain ⟨H', e1, e2⟩ := g1.appNil (esz := esz) (ebytes := ebytes) (k := k) (new := new) hk hk0 h1 h2
 exact ⟨H', e1, Γ, e2, ⟨g1.non (Nat.le_refl _), g2⟩, g3⟩
theorem SM.app {b len esz ebytes k : Nat} {cs new : List AVal} (h : SM M ((b, cs) :: A) F H nx) (hl : cs.length = len * esz) (hk : new.length = k * esz) (hk0 : 0 < k) (h1 : (len + k) * esz ≤ 9223372036854775807) (h2 : (len + k) * ebytes ≤ 140737488355328) :
  ∃ H', appC H nx esz ebytes (.slice b 0 len esz false) k new = some (.slice nx 0 (len + k) esz false, H', nx + 1) ∧ SM M ((nx, cs ++ new) :: A) F H' (nx + 1) := by
 obtain ⟨Γ, g1, g2, g3⟩ := h
 obtain ⟨H', e1, e2⟩ := g1.app (esz := esz) (ebytes := ebytes) (k := k) (new := new) (len := len) (cs := cs) (Apart.at .hd g2) (by omega) hk hk0 h1 h2
 rw [show cs.take (len * esz) = cs by rw [← hl]; exact List.take_length] at e2
 have e3 : gup b none (over ((b, cs) :: A) Γ) = over A Γ := by
  show gup b none (gup b (some cs) (over A Γ)) = over A Γ
  rw [gup_gup]
  funext c; by_cases hc : c = b
  ·subst hc; rw [gup_same, g2.1]
  ·rw [gup_ne hc]
 rw [e3] at e2
 refine ⟨H', e1, Γ, e2, ⟨?_, g2.2⟩, g3⟩
 rw [← e3]
 by_cases hb : nx = b
 ·rw [hb, gup_same]
 ·rw [gup_ne hb]; exact g1.non (Nat.le_refl _)
theorem SM.appFull {b off len esz ebytes k : Nat} {cs new : List AVal} (h : SM M A F H nx) (e : RowF b cs ∈ F) (hl : off + len * esz ≤ cs.length) (hk : new.length = k * esz) (hk0 : 0 < k) (h1 : (len + k) * esz ≤ 9223372036854775807) (h2 : (len + k) * ebytes ≤ 140737488355328) :
  ∃ H', appC H nx esz ebytes (.slice b off len esz true) k new = some (.slice nx 0 (len + k) esz false, H', nx + 1) ∧ SM M ((nx, (cs.drop off).take (len * esz) ++ new) :: A) F H' (nx + 1) := by
 obtain ⟨Γ, g1, g2, g3⟩ := h
 obtain ⟨H', e1, e2⟩ := g1.appFull (esz := esz) (ebytes := ebytes) (k := k) (new := new) (g2.row (g3 Γ (fun _ _ e => e) _ e)) hl hk hk0 h1 h2
 exact ⟨H', e1, Γ, e2, ⟨g1.non (Nat.le_refl _), g2⟩, g3⟩
section
variable {k : Heap → Prop}
theorem SM.all {b : Nat} {cs vs : List AVal} (h : SM M A F H nx) (u : Upd A b cs vs A') (hl : vs.length = cs.length) (hv : allCell vs = true) (hK : ∀ H', SM M A' F H' nx → k H') : ∃ H1, stC H (.ptr b 0) vs = some H1 ∧ k H1 := by
 obtain ⟨H1, e1, e2⟩ := h.st (off := 0) (vs := vs) (by rw [splice_all hl]; exact u) (by omega) hv
 exact ⟨H1, e1, hK _ e2⟩
theorem SM.one {b j : Nat} {cs : List AVal} {v : AVal} (h : SM M A F H nx) (u : Upd A b cs (cs.set j v) A') (hl : j < cs.length) (hv : cellv v = true) (hK : ∀ H', SM M A' F H' nx → k H') : ∃ H1, stC H (.ptr b j) [v] = some H1 ∧ k H1 := by
 obtain ⟨H1, e1, e2⟩ := h.st (off := j) (vs := [v]) (by rw [splice_one hl]; exact u) (by simp; omega) (by simp [allCell, hv])
 exact ⟨H1, e1, hK _ e2⟩
end
end
section
variable {M : MM} {A : Owned} {F : Facts} {H : Heap} {nx : Nat}
theorem SM.atM {b : Nat} {o : AObj} (h : SM M A F H nx) (e : M b = some o) : get5 b H = some o := let ⟨_, g1, _⟩ := h; g1.atM e
theorem SM.subM {M' : MM} (h : SM M A F H nx) (hs : ∀ b o, M' b = some o → M b = some o) : SM M' A F H nx := let ⟨Γ, g1, g2, g3⟩ := h
 ⟨Γ, ⟨g1.1.less (fun b hb x => by
  cases e : M' b with
  | none => exact hb e
  | some o => rw [hs b o e] at x; cases x), fun b o e => g1.2 b o (hs b o e)⟩, g2, g3⟩
theorem SM.newM {o : AObj} (h : SM M A F H nx) : SM (mup nx o M) A F (set5 nx (some o) H) (nx + 1) := let ⟨Γ, g1, g2, g3⟩ := h; ⟨Γ, g1.newM, g2, g3⟩
theorem SM.setM {b : Nat} {o o2 : AObj} (h : SM M A F H nx) (e : M b = some o) : SM (mup b o2 M) A F (set5 b (some o2) H) nx := let ⟨Γ, g1, g2, g3⟩ := h; ⟨Γ, g1.setM e, g2, g3⟩
theorem SM.new {i : Nat} {cs : List AVal} {k : Heap → Prop} (h : SM M A F H nx) (h1 : nx ≤ i) (hK : ∀ H', SM M ((i, cs) :: A) F H' (i + 1) → k H') : ∃ H0, H0 = newB i cs H ∧ k H0 := ⟨_, rfl, hK _ (h.newN h1 (Nat.lt_succ_self i))⟩
theorem SM.newL {i : Nat} {cs : List AVal} {k : Heap → Prop} (h : SM M A F H nx) (h1 : nx ≤ i) (hK : ∀ H', SM M ((i, cs) :: A) F H' (i + 1) → k H') : ∃ H0, H0 = newBN i cs.length cs H ∧ k H0 := SM.new h h1 hK
theorem SM.newF {i : Nat} {cs : List AVal} {k : Heap → Prop} (h : SM M A F H nx) (h1 : nx ≤ i) (hK : ∀ H', SM M A (RowF i cs :: F) H' (i + 1) → k H') : ∃ H0, H0 = newB i cs H ∧ k H0 := ⟨_, rfl, hK _ (h.newN h1 (Nat.lt_succ_self i)).freeze⟩
theorem SM.ldAll {b sz : Nat} {cs : List AVal} (h : SM M A F H nx) (hb : Own A b cs) (ho : sz = cs.length) : Vs.ldN H sz (.ptr b 0) = some (.agg cs) := by
 rw [h.ldN hb (by omega)]; simp [ho]
theorem SM.rowAll {b sz : Nat} {cs : List AVal} (h : SM M A F H nx) (hb : RowF b cs ∈ F) (ho : sz = cs.length) : Vs.ldN H sz (.ptr b 0) = some (.agg cs) := by
 rw [h.rowN hb (by omega)]; simp [ho]
end
end
end Go.Vs
end
section
namespace Go.Vs
open Go Go.ChangeShapes Go.WideShapes
def Kept (W w' : World) : Prop := w'.os = W.os ∧ w'.output = W.output ∧ W.heap.size ≤ w'.heap.size ∧ ∀ i, i < W.heap.size → w'.heap[i]? = W.heap[i]?
theorem Kept.keptBut {W w' : World} (h : Kept W w') (may : MemPlace → Prop) : W.keptBut w' may := by
 refine ⟨h.1, h.2.1, fun i hi => ?_⟩
 rw [h.2.2.2 i hi]
 cases e : W.heap[i]? with
 | none => rfl
 | some o => cases o <;> simp
theorem Kept.frozen {W w' : World} (h : Kept W w') (a : Addr) (ha : a.block < W.heap.size) : w'.frozen? a = W.frozen? a := by
 simp only [World.frozen?, h.2.2.2 a.block ha]
theorem Kept.cell {W w' : World} (h : Kept W w') (a : Addr) (ha : a.block < W.heap.size) : w'.cell? a = W.cell? a := by
 simp only [World.cell?, h.2.2.2 a.block ha]
theorem Kept.sameAt {W w' : World} (h : Kept W w') {p : MemPlace} (hp : p.block < W.heap.size) : W.sameAt w' p := by
 cases p with
 | cell b off => exact h.cell ⟨b, off, none⟩ hp
 | map b => exact h.2.2.2 b hp
section
variable {H : Type} {enc : TypeId × Value → H} {P : Program}
theorem post_of_kept {f : Func} {s : ChangeSpec} {apart fresh handsOn again : Bool} {W W' : World} {args : Array Value} {v : Value} {ds gs : List (DataW H)} {before pa pv : List MemPlace}
  (hW : DataW.Whole enc P f.params.toList s.vars apart W args.toList ds gs before)
  (hres : ∀ (b : Nat) (sp : Nat → Bool) (hd : Bool), DataW.TrodAll enc P W' b sp hd f.resultTypes.toList (v.resultList f.resultTypes.size) (s.fn H (ds ++ gs)).results [])
  (hargs : ∀ sp : Nat → Bool, (∀ p ∈ before, sp p.block = true) → DataW.TrodAll enc P W' 0 sp true f.params.toList args.toList (s.fn H (ds ++ gs)).args pa)
  (hvars : ∀ sp : Nat → Bool, (∀ p ∈ before, sp p.block = true) → DataW.TrodVars enc P W' sp s.vars (s.fn H (ds ++ gs)).vars pv)
  (hps : before = pa ++ pv) (hk : Kept W W')
  (hok : ∀ (j : Nat) (t : TypeId) (r : Value), f.resultTypes[j]? = some t → (v.resultList f.resultTypes.size)[j]? = some r → Value.okWide P W' .any 0 t r) :
  s.post enc P f apart fresh handsOn again W args v W' := by
 have hlt : ∀ p ∈ before, p.block < W.heap.size := fun p hp => hW.lt p hp
 have hold : ∀ p ∈ before, (fun b => decide (b < W.heap.size)) p.block = true := fun p hp => by simpa using hlt p hp
 refine ⟨ds, gs, before, [], pa, pv, hW, hres _ _ _, hargs _ hold, hvars _ hold, hk.keptBut _, fun _ => ?_⟩
 obtain ⟨_, _, _, _, _, hz, hn⟩ := hW
 refine ⟨hok, _, _, ([] ++ pa) ++ pv, ⟨[] ++ pa, pv, trodAll_append (hargs _ (fun _ _ => rfl)) (hres _ _ _), hvars _ (fun _ _ => rfl), rfl, ?_, ?_⟩, ?_⟩
 ·intro b off hp
  have hb : MemPlace.cell b off ∈ before := by rw [hps]; simpa using hp
  rw [hk.frozen _ (hlt _ hb)]
  exact hz b off hb
 ·intro ha
  have := hn ha
  rw [hps] at this
  simpa using this
 ·intro p hp _
  rw [hps]
  simpa using hp
def noEmpty (P : Program) : Bool := (List.range P.types.size).all fun t => match P.underlying t with
 | some (.slice e) => Nat.blt 0 (P.cellsOf e) && Nat.blt e P.types.size
 | some (.pointer e) => Nat.blt e P.types.size
 | some (.array _ e) => Nat.blt e P.types.size
 | some (.map _ e) => Nat.blt e P.types.size
 | some (.struct fs) => fs.toList.all fun f => Nat.blt f.type P.types.size
 | _ => true
theorem lt_of_blt {a b : Nat} (h : Nat.blt a b = true) : a < b := Nat.le_of_ble_eq_true h
theorem noEmpty_at (h : noEmpty P = true) {t : TypeId} (ht : t < P.types.size) : (match P.underlying t with
 | some (.slice e) => Nat.blt 0 (P.cellsOf e) && Nat.blt e P.types.size
 | some (.pointer e) => Nat.blt e P.types.size
 | some (.array _ e) => Nat.blt e P.types.size
 | some (.map _ e) => Nat.blt e P.types.size
 | some (.struct fs) => fs.toList.all fun f => Nat.blt f.type P.types.size
 | _ => true) = true := List.all_eq_true.1 h t (List.mem_range.2 ht)
theorem trodStep_spare {w : World} {base : Nat} {sp : Nat → Bool} (hz : noEmpty P = true) {r r' : TypeId → List Value → Option (DataW H × List MemPlace)}
  (hr : ∀ t cs x, t < P.types.size → r t cs = some x → (∀ p ∈ x.2, sp p.block = true) → r' t cs = some x) {t : TypeId} {cs : List Value} {x : DataW H × List MemPlace} (hT : t < P.types.size)
  (h : DataW.trodStep enc P w base (fun _ => true) true r t cs = some x) (hs : ∀ p ∈ x.2, sp p.block = true) : DataW.trodStep enc P w base sp true r' t cs = some x := by
 have hcl := noEmpty_at hz hT
 unfold DataW.trodStep at h ⊢
 split at h
 case h_1 => exact h
 case h_2 => exact h
 case h_3 => exact h
 case h_4 => exact h
 case h_5 => exact h
 case h_6 e a hu =>
  rw [hu] at hcl
  simp only [Option.map_eq_some_iff, Option.bind_eq_some_iff] at h ⊢
  obtain ⟨y, ⟨cs', hc, hy⟩, rfl⟩ := h
  exact ⟨y, ⟨cs', hc, hr _ _ _ (lt_of_blt hcl) hy (fun p hp => hs p (by simp [hp]))⟩, rfl⟩
 case h_7 => exact h
 case h_8 e a len cap hu =>
  rw [hu] at hcl
  dsimp only at hcl
  rw [Bool.and_eq_true] at hcl
  simp only at h ⊢
  split at h
  ·rename_i hc
   rw [if_pos hc]
   simp only [if_true, Option.map_eq_some_iff, Option.bind_eq_some_iff] at h ⊢
   obtain ⟨elems, he, rest, hrest, rfl⟩ := h
   have hlen : elems.length = len := by simpa using mapM_some_length he
   have hrl : rest.length = cap - len := by simpa using mapM_some_length hrest
   have one : ∀ (i : Nat) (y : DataW H × List MemPlace), y ∈ elems ++ rest →
     (w.cells? base (a.add (i * P.cellsOf e)) (P.cellsOf e)).bind (r e) = some y → (w.cells? base (a.add (i * P.cellsOf e)) (P.cellsOf e)).bind (r' e) = some y := by
    intro i y hy hv
    simp only [Option.bind_eq_some_iff] at hv ⊢
    obtain ⟨cs', hc', hy'⟩ := hv
    refine ⟨cs', hc', hr _ _ _ (lt_of_blt hcl.2) hy' (fun p hp => hs p ?_)⟩
    simp only [List.mem_append, List.mem_flatMap]
    right
    exact ⟨y, by simpa using hy, hp⟩
   refine ⟨elems, mapM_carry he (fun i y _ hy => one i y (by simp [hy])), rest, ?_, rfl⟩
   by_cases hcap : cap = 0
   ·have hr0 : rest = [] := List.length_eq_zero_iff.1 (by omega)
    have hcl : cap - len = 0 := by omega
    subst hr0
    split
    ·rw [hcl]; rfl
    ·rfl
   ·have hpos := lt_of_blt hcl.1
    have hin : MemPlace.cell a.block (a.off + 0) ∈ MemPlace.row a ((elems.length + rest.length) * P.cellsOf e) := MemPlace.mem_row.2 ⟨0, Nat.mul_pos (by omega) hpos, rfl⟩
    have hsp : sp a.block = true := hs (.cell a.block (a.off + 0)) (by simp only [List.mem_append]; exact .inl hin)
    rw [if_pos hsp]
    exact mapM_carry hrest (fun j y _ hy => one (len + j) y (by simp [hy]))
  ·cases h
 case h_9 fs cs hu =>
  rw [hu] at hcl
  split at h
  ·rename_i hc
   rw [if_pos hc]
   simp only [Option.map_eq_some_iff] at h ⊢
   obtain ⟨xs, hx, rfl⟩ := h
   exact ⟨xs, mapM_carry hx (fun f y hf hy hv => hr _ _ _ (lt_of_blt (List.all_eq_true.1 hcl f hf)) hv (fun p hp => hs p (List.mem_flatMap.2 ⟨y, hy, hp⟩))), rfl⟩
  ·cases h
 case h_10 n e cs hu =>
  rw [hu] at hcl
  split at h
  ·rename_i hc
   rw [if_pos hc]
   simp only [Option.map_eq_some_iff] at h ⊢
   obtain ⟨xs, hx, rfl⟩ := h
   exact ⟨xs, mapM_carry hx (fun f y _ hy hv => hr _ _ _ (lt_of_blt hcl) hv (fun p hp => hs p (List.mem_flatMap.2 ⟨y, hy, hp⟩))), rfl⟩
  ·cases h
 case h_11 => exact h
 case h_12 => exact h
 case h_13 => exact h
 case h_14 k e b hu =>
  rw [hu] at hcl
  split at h
  ·rename_i es clock hb
   split at h
   ·rename_i hc
    simp only [Option.bind_eq_some_iff] at h
    obtain ⟨entries, he, hd⟩ := h
    split at hd
    ·rename_i hris
     have hx := Option.some.inj hd
     subst hx
     simp only [if_pos hc, Option.bind_eq_some_iff]
     refine ⟨entries, mapM_carry he (fun x y _ hy hv => ?_), by simp [hris]⟩
     simp only [Option.bind_eq_some_iff] at hv ⊢
     obtain ⟨key, hk, hz⟩ := hv
     refine ⟨key, hk, ?_⟩
     split at hz
     ·rename_i hf
      rw [if_pos hf]
      simp only [Option.map_eq_some_iff] at hz ⊢
      obtain ⟨q, hq, rfl⟩ := hz
      exact ⟨q, hr _ _ _ (lt_of_blt hcl) hq (fun p hp => hs p (by simp only [List.mem_cons, List.mem_flatMap]; right; exact ⟨_, hy, hp⟩)), rfl⟩
     ·cases hz
    ·cases hd
   ·cases h
  ·cases h
 case h_15 => exact h
 case h_16 => exact h
 case h_17 => exact h
 case h_18 => exact h
 case h_19 => exact h
 case h_20 => exact h
 case h_21 => cases h
theorem trod_spare {w : World} {base : Nat} {sp : Nat → Bool} (hz : noEmpty P = true) : ∀ (n : Nat) (t : TypeId) (cs : List Value) (x : DataW H × List MemPlace), t < P.types.size →
  DataW.trod enc P w base (fun _ => true) true n t cs = some x → (∀ p ∈ x.2, sp p.block = true) → DataW.trod enc P w base sp true n t cs = some x := by
 intro n
 induction n with
 | zero => intro t cs x _ h; simp [DataW.trod] at h
 | succ n ih =>
  intro t cs x hT h hs
  rw [DataW.trod_step] at h ⊢
  exact trodStep_spare hz ih hT h hs
theorem trod_kept {W W' : World} {base : Nat} {sp : Nat → Bool} (hz : noEmpty P = true) (hk : Kept W W') {t : TypeId} (hT : t < P.types.size) {v : Value} {d : DataW H} {ps : List MemPlace}
  (h : DataW.Trod enc P W base (fun _ => true) true t v d ps) (hlt : ∀ p ∈ ps, p.block < W.heap.size) (hsp : ∀ p ∈ ps, sp p.block = true) : DataW.Trod enc P W' base sp true t v d ps := by
 obtain ⟨n, hn⟩ := h
 exact ⟨n, DataW.trod_carry n _ _ _ (trod_spare hz n _ _ _ hT hn hsp) fun p hp => hk.sameAt (hlt p hp)⟩
theorem trodAll_kept {W W' : World} {base : Nat} {sp : Nat → Bool} (hz : noEmpty P = true) (hk : Kept W W') : ∀ {ts : List TypeId} {vs : List Value} {ds : List (DataW H)} {ps : List MemPlace}, (ts.all fun t => Nat.blt t P.types.size) = true →
  DataW.TrodAll enc P W base (fun _ => true) true ts vs ds ps → (∀ p ∈ ps, p.block < W.heap.size) → (∀ p ∈ ps, sp p.block = true) → DataW.TrodAll enc P W' base sp true ts vs ds ps
 | [], [], [], _, _, h, _, _ => h
 | t :: ts, _ :: _, _ :: _, _, hT, ⟨p, q, h, hs, e⟩, hlt, hsp => by
  subst e
  rw [List.all_cons, Bool.and_eq_true] at hT
  exact ⟨p, q, trod_kept hz hk (lt_of_blt hT.1) h (fun x hx => hlt x (List.mem_append_left _ hx)) (fun x hx => hsp x (List.mem_append_left _ hx)), trodAll_kept hz hk hT.2 hs (fun x hx => hlt x (List.mem_append_right _ hx)) (fun x hx => hsp x (List.mem_append_right _ hx)), rfl⟩
theorem post_kept {f : Func} {s : ChangeSpec} {apart fresh handsOn again : Bool} {W W' : World} {args : Array Value} {v : Value} {ds : List (DataW H)} {before : List MemPlace} (hz : noEmpty P = true) (hT : (f.params.toList.all fun t => Nat.blt t P.types.size) = true)
  (hv : s.vars = []) (hW : DataW.Whole enc P f.params.toList s.vars apart W args.toList ds [] before)
  (hres : ∀ (b : Nat) (sp : Nat → Bool) (hd : Bool), DataW.TrodAll enc P W' b sp hd f.resultTypes.toList (v.resultList f.resultTypes.size) (s.fn H (ds ++ [])).results [])
  (hargs : (s.fn H (ds ++ [])).args = ds) (hvars : (s.fn H (ds ++ [])).vars = []) (hk : Kept W W')
  (hok : ∀ (j : Nat) (t : TypeId) (r : Value), f.resultTypes[j]? = some t → (v.resultList f.resultTypes.size)[j]? = some r → Value.okWide P W' .any 0 t r) :
  s.post enc P f apart fresh handsOn again W args v W' := by
 have hlt : ∀ p ∈ before, p.block < W.heap.size := fun p hp => hW.lt p hp
 have hW' := hW
 obtain ⟨p, q, hA, hV, rfl, _, _⟩ := hW
 have hq : q = [] := by
  rw [hv] at hV
  exact hV
 subst hq
 refine post_of_kept (pa := p) (pv := []) hW' hres (fun sp hsp => ?_) (fun sp hsp => ?_) (by simp) hk hok
 ·rw [hargs]
  exact trodAll_kept hz hk hT hA (fun x hx => hlt x (by simp [hx])) fun x hx => hsp x (by simp [hx])
 ·rw [hv, hvars]; rfl
end
def absV : Value → AVal
 | .int k n => .int k n
 | .bool b => .bool b
 | .string s => .str s.data.toList
 | _ => .und
theorem absV_den (σ : Sg) (v : Value) : Den σ (absV v) v := by
 cases v <;> first | exact .int _ _ | exact .bool _ | exact .und _ | skip
 rename_i s
 exact .str _
section
variable [GTab]
theorem rel_none {w : World} (hg : Glob (fun _ => none) w) : Rel (fun _ => none) (all5 none) 0 w := by
 refine ⟨Nat.le_refl _, ?_, ?_, ?_, ?_, ?_, hg⟩
 ·intro b cb sz e; cases e
 ·intro b o cb sz _ e; cases e
 ·intro b b' o o' cb sz sz' _ _ e; cases e
 ·intro b b' o o' p _ _ e; cases e
 ·intro b o p _ e; cases e
theorem closeK {P : Program} {f : FuncId} {argsV : List AVal} {args' : List Value} {w : World} (h : TriP P f argsV (all5 none) 0 (fun e _ _ => e = .ret (.bool true)))
  (hg : Glob (fun _ => none) w) (hd : DenL (fun _ => none) argsV args') : Calls P f ⟨args'⟩ w fun e w' => e = .returned (.bool true) ∧ Kept w w' := by
 refine h (fun _ => none) w args' _ (rel_none hg) hd ?_
 intro e H' nx' σ' w' en k R1 E1 X1
 subst k
 cases en <;> try exact X1.elim
 rename_i v
 have hv : Den σ' (.bool true) v := X1
 cases hv
 exact ⟨rfl, E1.os, E1.output, E1.size, fun i hi => E1.frame i hi fun _ _ e => by cases e⟩
end
end Go.Vs
end
