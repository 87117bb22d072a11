/-
  Own work. Regions whose order is open, that end in two stores in any order.
-/
import Derived.Test.YtdigeeejmgkcoaaGreatDoorEvK1
namespace Go.Ev
variable [GTab]
set_option linter.unusedSectionVars false
noncomputable section

def split2 : List Nat → Option (List Nat × Nat × Nat)
  | [] => none
  | x :: l => match l with
    | [y] => some ([], x, y)
    | l => match split2 l with
      | some (i, a, b) => some (x :: i, a, b)
      | none => none

def pl0 (ops : Array Oper) (ini : List Nat) : List Nat := floats ops.toList (ahead ops) ini 0 0
def plA (ops : Array Oper) (ini : List Nat) : List Nat := again ops.toList (ahead ops) ini 0 0 0
def plS (ops : Array Oper) (ini : List Nat) : List (Nat × List Nat × List Nat) := stages ops.toList (ahead ops) ini ini 1
def plB (ops : Array Oper) (ini : List Nat) (e : Nat) : List Nat := again ops.toList (ahead ops) ini 1000000 ((ahead ops).getD e 0) 0

/-- A store without a guard. -/
def storeOf (o : Oper) : Option (TypeId × Operand × Operand) :=
  match o.op, o.guard, o.dst with
  | .store t a x, none, none => some (t, a, x)
  | _, _, _ => none

def pairOK (nt : Nat) (ops : Array Oper) (ini : List Nat) (e1 e2 : Nat) : Bool :=
  match Nat.ble nt 256, opsOK nt ops ops.toList (ahead ops) ops.toList 0, chkF ops (pl0 ops ini) [], Nat.beq e1 e2 with
  | true, true, some past, false => match chkA ops 0 (plA ops ini) past, chkS ops (ahead ops) (plS ops ini) none past, allL (fun i => memN i (pl0 ops ini ++ named (plS ops ini) ++ [e1, e2])) (List.range ops.size) with
    | true, true, true => match allL (fun s : Stage => bit ((ahead ops).getD e1 0) s.1) (plS ops ini), allL (fun s : Stage => bit ((ahead ops).getD e2 0) s.1) (plS ops ini), chkS ops (ahead ops) [(e1, [], plB ops ini e1)] none (endPast ops (plS ops ini) past), chkS ops (ahead ops) [(e2, [], plB ops ini e2)] none (endPast ops (plS ops ini) past) with
      | true, true, true, true => true
      | _, _, _, _ => false
    | _, _, _ => false
  | _, _, _, _ => false

def oH (o : Option Heap) : (Heap → Bool) → Bool := Option.rec (motive := fun _ => (Heap → Bool) → Bool) (fun _ => false) (fun H k => k H) o
theorem oH_ok {o : Option Heap} {k : Heap → Bool} (h : oH o k = true) : ∃ H, o = some H ∧ k H = true := by
  cases o with
  | none => exact Bool.noConfusion h
  | some H => exact ⟨H, rfl, h⟩

def olds0 (o : Option AObj) : List Nat := match o with
  | some o => o.olds
  | none => []

/-- The two stores touch no block of each other. -/
def apart2 (H : Heap) (a1 a2 : AVal) : Bool :=
  match a1, a2 with
  | .ptr b1 _, .ptr b2 _ => match Nat.beq b1 b2, memN b2 (olds0 (get5 b1 H)), memN b1 (olds0 (get5 b2 H)) with
    | false, false, false => match allL (fun b => Nat.ble (Nat.succ b) 1048576) (b1 :: b2 :: (olds0 (get5 b1 H) ++ olds0 (get5 b2 H))) with
      | true => true
      | false => false
    | _, _, _ => false
  | _, _ => false

def pairX (P : Program) (ops : Array Oper) (s1 s2 : TypeId × Operand × Operand) (A1 A2 : List Nat) (env : Env) (st : St) (K : FX) : Bool :=
  match apart2 st.H (aev env s1.2.1) (aev env s2.2.1) with
  | true => oH (aStore P s1.1 st.H (aev env s1.2.1) (aev env s1.2.2)) fun H1 => oH (aStore P s2.1 H1 (aev env s2.2.1) (aev env s2.2.2)) fun H12 => oH (aStore P s2.1 st.H (aev env s2.2.1) (aev env s2.2.2)) fun H2 => oH (aStore P s1.1 H2 (aev env s1.2.1) (aev env s1.2.2)) fun H21 =>
      Bool.rec false (Bool.rec false (Bool.rec false (Bool.rec false (K .normal env (st.with2 H12 st.nx)) (againK P ops env H21 st.nx A1)) (againK P ops env H2 st.nx A2)) (againK P ops env H12 st.nx A2)) (againK P ops env H1 st.nx A1)
  | false => false

def cPair (P : Program) (nt : Nat) (ops : Array Oper) : Co :=
  match split2 (acts ops.toList 0) with
  | some (ini, e1, e2) => match pairOK nt ops ini e1 e2, (ops[e1]?).bind storeOf, (ops[e2]?).bind storeOf with
    | true, some s1, some s2 => match cFloats P ops (pl0 ops ini), cAgains P ops (plA ops ini), cStages P ops (plS ops ini), cBlank ops.toList with
      | .mk f, .mk a, .mk r, .mk bl => forceN ops.size fun n => .mk fun env st K => Bool.rec false (forceN (Nat.add st.nx n) fun nx' => f st.nx env (st.with2 st.H nx') fun env' st' => Bool.rec false (r st.nx (bl env) env' st' fun e env st => match e with
          | .normal => pairX P ops s1 s2 (plB ops ini e1) (plB ops ini e2) env st K
          | e => K e env st) (a env' st')) (Nat.ble (Nat.add st.nx n) 1048576)
    | _, _, _ => .mk fun _ _ _ => false
  | none => .mk fun _ _ _ => false

end

theorem Rel.congr {σ : Sg} {H H' : Heap} {nx : Nat} {w : World} (h : Rel σ H nx w) (he : ∀ c, c < 1048576 → get5 c H' = get5 c H) : Rel σ H' nx w := by
  have lt : ∀ {c p}, σ c = some p → c < 1048576 := fun {c p} hc => by obtain ⟨cb, sz⟩ := p; have := (h.dom c cb sz hc).1; have := h.lim; omega
  refine ⟨h.lim, h.dom, ?_, ?_, ?_, ?_, h.glob⟩
  · intro b o cb sz e1 e2; rw [he b (lt e2)] at e1; exact h.obj b o cb sz e1 e2
  · intro b b' o o' cb sz sz' e1 e2 e3 e4; rw [he b (lt e3)] at e1; rw [he b' (lt e4)] at e2; exact h.sep b b' o o' cb sz sz' e1 e2 e3 e4
  · intro b b' o o' p e1 e2 e3 e4
    rw [he b' (lt e3)] at e2
    obtain ⟨p', hp'⟩ := h.old b' o' p e2 e3 b e4
    rw [he b (lt hp')] at e1
    exact h.sup b b' o o' p e1 e2 e3 e4
  · intro b o p e1 e2 b' e3; rw [he b (lt e2)] at e1; exact h.old b o p e1 e2 b' e3

theorem Ext.congr {σ σ' : Sg} {H H' H'' : Heap} {nx nx' : Nat} {w w' : World} (h : Ext σ σ' H H' nx nx' w w') (hl : nx ≤ 1048576) (he : ∀ c, c < 1048576 → get5 c H'' = get5 c H') : Ext σ σ' H H'' nx nx' w w' :=
  { h with pend := fun b hb hn => ⟨(h.pend b hb hn).1, by rw [he b (by omega)]; exact (h.pend b hb hn).2⟩ }

theorem aStore_inv {P : Program} {t : TypeId} {H H' : Heap} {a x : AVal} (h : aStore P t H a x = some H') : ∃ b off n ct olds X, a = .ptr b off ∧ get5 b H = some (.cells n ct olds false) ∧ H' = set5 b (some X) (dels olds H) ∧
    ∀ G, get5 b G = get5 b H → aStore P t G a x = some (set5 b (some X) (dels olds G)) := by
  unfold aStore at h
  split at h <;> first | (cases h; done) | skip
  rename_i b off cs i hcs hi
  split at h <;> first | (cases h; done) | skip
  rename_i n ct olds ho
  split at h <;> first | (cases h; done) | skip
  rename_i h1 h2 h3
  cases h
  refine ⟨b, off, n, ct, olds, _, rfl, ho, rfl, fun G hG => ?_⟩
  unfold aStore
  simp only [hcs, hi, hG, ho, h1, h2, h3]

theorem bool_false {b : Bool} (h : b = false) : ¬ b = true := by rw [h]; exact Bool.noConfusion

theorem memN_not {i : Nat} : ∀ {l : List Nat}, memN i l = false → i ∉ l
  | [], _, h => by cases h
  | j :: l, h, hm => by
    have h' : (Bool.rec (memN i l) true (Nat.beq j i) : Bool) = false := h
    cases hb : Nat.beq j i with
    | true => rw [hb] at h'; exact Bool.noConfusion h'
    | false =>
      rw [hb] at h'
      rcases List.mem_cons.1 hm with rfl | hm
      · simp at hb
      · exact memN_not h' hm

/-- In whichever order: the same. -/
theorem stores_commute {P : Program} {t1 t2 : TypeId} {H H1 H2 H12 H21 : Heap} {a1 x1 a2 x2 : AVal} (hap : apart2 H a1 a2 = true) (h1 : aStore P t1 H a1 x1 = some H1) (h12 : aStore P t2 H1 a2 x2 = some H12) (h2 : aStore P t2 H a2 x2 = some H2) (h21 : aStore P t1 H2 a1 x1 = some H21) :
    ∀ c, c < 1048576 → get5 c H12 = get5 c H21 := by
  obtain ⟨b1, o1, n1, ct1, olds1, X1, rfl, g1, e1, f1⟩ := aStore_inv h1
  obtain ⟨b2, o2, n2, ct2, olds2, X2, rfl, g2, e2, f2⟩ := aStore_inv h2
  unfold apart2 at hap
  simp only [g1, g2, olds0, AObj.olds] at hap
  split at hap <;> first | (cases hap; done) | skip
  rename_i hne hm1 hm2
  split at hap <;> first | (cases hap; done) | skip
  rename_i hlt
  have hlt' : ∀ b, b ∈ b1 :: b2 :: (olds1 ++ olds2) → b < 1048576 := fun b hb => Nat.le_of_ble_eq_true (allL_ok hlt b hb)
  have lb1 := hlt' b1 (by simp)
  have lb2 := hlt' b2 (by simp)
  have l1 : ∀ b, b ∈ olds1 → b < 1048576 := fun b hb => hlt' b (by simp [hb])
  have l2 : ∀ b, b ∈ olds2 → b < 1048576 := fun b hb => hlt' b (by simp [hb])
  have n12 : b1 ≠ b2 := fun e => by subst e; simp at hne
  have nm1 : b2 ∉ olds1 := memN_not hm1
  have nm2 : b1 ∉ olds2 := memN_not hm2
  have k2 : get5 b2 H1 = get5 b2 H := by
    rw [e1, get5_ne n12 lb1 lb2, get5_dels olds1 H b2 l1 lb2, if_neg nm1]
  have k1 : get5 b1 H2 = get5 b1 H := by
    rw [e2, get5_ne (Ne.symm n12) lb2 lb1, get5_dels olds2 H b1 l2 lb1, if_neg nm2]
  have q12 := f2 H1 k2
  rw [h12] at q12
  have q21 := f1 H2 k1
  rw [h21] at q21
  cases q12
  cases q21
  intro c hc
  by_cases c1 : b1 = c
  · subst c1
    rw [get5_ne (Ne.symm n12) lb2 hc, get5_dels olds2 H1 b1 l2 hc, if_neg nm2, e1, get5_set5_same, get5_set5_same]
  · by_cases c2 : b2 = c
    · subst c2
      rw [get5_set5_same, get5_ne n12 lb1 hc, get5_dels olds1 H2 b2 l1 hc, if_neg nm1, e2, get5_set5_same]
    · rw [get5_ne c2 lb2 hc, get5_dels olds2 H1 c l2 hc, get5_ne c1 lb1 hc, get5_dels olds1 H2 c l1 hc, e1, e2, get5_ne c1 lb1 hc, get5_ne c2 lb2 hc, get5_dels olds1 H c l1 hc, get5_dels olds2 H c l2 hc]
      by_cases m1 : c ∈ olds1 <;> by_cases m2 : c ∈ olds2 <;> simp [m1, m2]

open Classical in
/-- A store is an acting operation that comes to one thing. -/
theorem act_store {P : Program} {call : CallK} {ops : Array Oper} {o : Oper} {t : TypeId} {a x : Operand} {env : Env} {H H' : Heap} {nx : Nat} {dfs : Dfs} {rc : Option AMode} (hs : storeOf o = some (t, a, x)) (h : aStore P t H (aev env a) (aev env x) = some H') :
    actK P call ops o env H nx dfs rc (fun env1 H1 nx1 => decide (env1 = env ∧ H1 = H' ∧ nx1 = nx)) (fun _ _ _ _ _ _ => false) env = true := by
  unfold storeOf at hs
  split at hs <;> first | (cases hs; done) | skip
  rename_i hop hg hd
  cases hs
  unfold actK
  have hw : wantedA ops o.guard env = some true := by rw [hg]; rfl
  have ha : aop P o (aev env) H nx = some (.val .und H' nx) := by
    unfold aop
    rw [hop]
    show opStore P t a x (aev env) H nx = _
    simp only [opStore, h]
  simp only [hw, ha, hd]
  exact decide_eq_true (by simp [put])

theorem isStore_cls {o : Oper} {s : TypeId × Operand × Operand} (h : storeOf o = some s) : o.dst = none := by
  unfold storeOf at h
  split at h <;> first | (cases h; done) | assumption

open Classical in
theorem run_one {P : Program} {call : CallK} {ops : Array Oper} {res : Nat} {dfs : Dfs} {rc : Option AMode} {e : Nat} {A : List Nat} {o : Oper} {t : TypeId} {a x : Operand} {env : Env} {H H' : Heap} {nx : Nat} (ho : ops[e]? = some o) (hs : storeOf o = some (t, a, x))
    (h : aStore P t H (aev env a) (aev env x) = some H') (hA : againK P ops env H' nx A = true) : RunP P call ops res dfs rc (fun _ _ _ => False) (fun env2 H2 nx2 => env2 = env ∧ H2 = H' ∧ nx2 = nx) [(e, [], A)] env H nx := by
  intro oe hoe
  rw [ho] at hoe
  cases hoe
  refine ⟨_, _, act_store hs h, (fun _ _ _ hk => Bool.noConfusion hk), fun env1 H1 nx1 hk => ?_⟩
  obtain ⟨rfl, rfl, rfl⟩ := of_decide_eq_true hk
  refine ⟨fun env2 H2 => decide (env2 = env1 ∧ H2 = H1), decide_eq_true ⟨rfl, rfl⟩, fun env2 H2 hk2 => ?_⟩
  obtain ⟨rfl, rfl⟩ := of_decide_eq_true hk2
  exact ⟨hA, rfl, rfl, rfl⟩

theorem Inv.swap {P : Program} {nt : Nat} {ops : Array Oper} {as : List Nat} {res : Nat} {σ0 : Sg} {H0 : Heap} {w0 : World} {dfs : Dfs} {past : List Nat} {s1 s2 : Stage} {env : Env} {H : Heap} {nx : Nat} {listed : Array Bool} {σ : Sg} {w : World} {a : Act}
    (I : Inv P nt ops as res σ0 H0 w0 dfs past [s1, s2] env H nx listed σ w a) : Inv P nt ops as res σ0 H0 w0 dfs past [s2, s1] env H nx listed σ w a := by
  have hiff : ∀ i, i ∈ named [s2, s1] ↔ i ∈ named [s1, s2] := by
    intro i
    obtain ⟨e1, L1, A1⟩ := s1
    obtain ⟨e2, L2, A2⟩ := s2
    simp only [named, List.append_nil, List.mem_cons, List.mem_append]
    constructor
    · rintro (h | h | h | h)
      · exact .inr (.inr (.inl h))
      · exact .inr (.inr (.inr h))
      · exact .inl h
      · exact .inr (.inl h)
    · rintro (h | h | h | h)
      · exact .inr (.inr (.inl h))
      · exact .inr (.inr (.inr h))
      · exact .inl h
      · exact .inr (.inl h)
  exact { I with todo := fun i hi => I.todo i ((hiff i).1 hi), all := fun i hi => by rcases I.all i hi with h | h | h; exact .inl h; exact .inr (.inl ((hiff i).2 h)); exact .inr (.inr h) }

theorem chkS_one {ops : Array Oper} {as : List Nat} {e : Nat} {A past : List Nat} (h : chkS ops as [(e, [], A)] none past = true) : ∃ o, ops[e]? = some o ∧ freshOf ops past e o = true ∧ chkA ops (as.getD e 0) A past = true := by
  unfold chkS at h
  split at h <;> first | (cases h; done) | skip
  rename_i o ho _
  split at h <;> first | (cases h; done) | skip
  rename_i hf _
  split at h <;> first | (cases h; done) | skip
  rename_i past' hF
  cases hF
  split at h <;> first | (cases h; done) | skip
  exact ⟨o, ho, hf, ‹_›⟩

theorem pair_sem {P : Program} {call : CallK} {nt : Nat} {ops : Array Oper} {as : List Nat} {res : Nat} {dfs : Dfs} {e1 e2 : Nat} {A1 A2 past : List Nat} {o1 o2 : Oper} {s1 s2 : TypeId × Operand × Operand} {env : Env} {H H1 H2 H12 H21 : Heap} {nx : Nat}
    (hc : CallS P call) (F : OpsFact nt ops as) (hn : nt ≤ 256) (hlim : res + ops.size ≤ 1048576) (hne : e1 ≠ e2) (ho1 : ops[e1]? = some o1) (ho2 : ops[e2]? = some o2) (hs1 : storeOf o1 = some s1) (hs2 : storeOf o2 = some s2)
    (c1 : chkS ops as [(e1, [], A1)] none past = true) (c2 : chkS ops as [(e2, [], A2)] none past = true) (hpast : ∀ i, i ∈ past → ∃ o, ops[i]? = some o ∧ (cls o.op = 0 ∨ cls o.op = 1))
    (h1 : aStore P s1.1 H (aev env s1.2.1) (aev env s1.2.2) = some H1) (h12 : aStore P s2.1 H1 (aev env s2.2.1) (aev env s2.2.2) = some H12) (h2 : aStore P s2.1 H (aev env s2.2.1) (aev env s2.2.2) = some H2) (h21 : aStore P s1.1 H2 (aev env s1.2.1) (aev env s1.2.2) = some H21)
    (g1 : againK P ops env H1 nx A1 = true) (g12 : againK P ops env H12 nx A2 = true) (g2 : againK P ops env H2 nx A2 = true) (g21 : againK P ops env H21 nx A1 = true) (heq : ∀ c, c < 1048576 → get5 c H12 = get5 c H21)
    {σ0 : Sg} {H0 : Heap} {w0 : World} {Q : Exit → Act → World → Prop} (hQ : ∀ σ' w' a', Rel σ' H12 nx w' → Ext σ0 σ' H0 H12 res nx w0 w' → ARel σ' nt env dfs a' → Q .normal a' w') :
    ∀ fuel listed σ w a, Inv P nt ops as res σ0 H0 w0 dfs past [(e1, [], A1), (e2, [], A2)] env H nx listed σ w a → left ops listed ≤ fuel → wpAny P .any ops Q fuel listed a w := by
  have lt1 : e1 < ops.size := (Array.getElem?_eq_some_iff.1 ho1).1
  have lt2 : e2 < ops.size := (Array.getElem?_eq_some_iff.1 ho2).1
  obtain ⟨t1, a1, x1⟩ := s1
  obtain ⟨t2, a2, x2⟩ := s2
  have hQ2 : ∀ σ' w' a', Rel σ' H21 nx w' → Ext σ0 σ' H0 H21 res nx w0 w' → ARel σ' nt env dfs a' → Q .normal a' w' := fun σ' w' a' R E A => hQ σ' w' a' (R.congr heq) (E.congr (by omega) heq) A
  -- one store is left
  have last : ∀ {e : Nat} {A : List Nat} {o : Oper} {t : TypeId} {a x : Operand} {G G' : Heap}, ops[e]? = some o → storeOf o = some (t, a, x) → aStore P t G (aev env a) (aev env x) = some G' → againK P ops env G' nx A = true → chkS ops as [(e, [], A)] none past = true →
      (∀ σ' w' a', Rel σ' G' nx w' → Ext σ0 σ' H0 G' res nx w0 w' → ARel σ' nt env dfs a' → Q .normal a' w') → ∀ fuel listed σ w a, Inv P nt ops as res σ0 H0 w0 dfs past [(e, [], A)] env G nx listed σ w a → left ops listed ≤ fuel → wpAny P .any ops Q fuel listed a w := by
    intro e A o t a x G G' ho hs hst hag hchk hq
    have hd := isStore_cls hs
    have := stages_sem (rc := none) (env0 := blank ops.toList env) [] hc F hn hlim [(e, [], A)] none past env G nx hchk (fun s _ i hi => by cases hi) hpast
      (fun t ht => by
        have hdd : ∀ o, o ∈ ops.toList → dstOK nt o.dst = true := fun o ho => by
          obtain ⟨i, hi⟩ := List.mem_iff_getElem?.1 ho
          exact F.dst i o (by simpa using hi)
        rcases blank_get hn ops.toList env t ht hdd with h | ⟨h1, h2⟩
        · exact .inl h
        · exact .inr ⟨fun j q hq => h1 q (by simpa using Array.mem_of_getElem? hq), h2⟩)
      (run_one ho hs hst hag) σ0 H0 w0 Q (fun _ _ _ _ _ _ _ hk => hk.elim) (fun env' H' nx' hk hp => by
        obtain ⟨rfl, rfl, rfl⟩ := hk
        exact tail_nil F hn hp hq)
    rwa [List.append_nil] at this
  intro fuel
  induction fuel with
  | zero =>
    intro listed σ w a I hl
    exact (I.todo e1 (by simp [named]) (left_zero (by omega : left ops listed = 0) e1 lt1)).elim
  | succ fuel ih =>
    intro listed σ w a I hl
    refine ⟨fun hnil => (I.todo e1 (by simp [named]) (ready_nil F I.size hnil e1 lt1)).elim, fun i hi => ?_⟩
    obtain ⟨o, ho, hnl, hed⟩ := (mem_ready I.size).1 hi
    have hlt : i < ops.size := (Array.getElem?_eq_some_iff.1 ho).1
    have hr : ∀ j, bit (as.getD i 0) j = true → isL listed j := fun j hj => by
      obtain ⟨g, hg, hb, hc'⟩ := F.ahead i o ho j hj
      rcases hc' with rfl | hc'
      · exact hed g hg hb
      · exact I.closed _ j (hed g hg hb) hc'
    have hleft := left_set I.size hlt hnl
    by_cases i1 : i = e1
    · subst i1
      obtain ⟨o', ho', hf, hA⟩ := chkS_one c1
      rw [ho1] at ho'
      cases ho'
      refine Inv.act (rc := none) (L := []) (past' := past) hc F hn hlim I ho1 (by simp [named]; exact hne) hr hf rfl rfl hA (act_store hs1 h1) (RN := fun env2 H2' nx2 => env2 = env ∧ H2' = H1 ∧ nx2 = nx) (fun env1 H1' nx1 hk => ?_) (fun env2 H2' nx2 σ1 w1 b1 hk I1 _ => ?_) (fun l H1 nx1 σ1 w1 c hk => Bool.noConfusion hk)
      · obtain ⟨r, ⟨k, hk2, hk3⟩⟩ : ∃ r : Unit, ∃ kf : Env → Heap → Bool, floatsK P ops res nx1 kf [] env1 H1' = true ∧ ∀ env2 H2, kf env2 H2 = true → env2 = env1 ∧ H2 = H1' := by
          classical
          exact ⟨(), fun env2 H2 => decide (env2 = env1 ∧ H2 = H1'), decide_eq_true ⟨rfl, rfl⟩, fun env2 H2 h => of_decide_eq_true h⟩
        simp only [decide_eq_true_eq] at hk
        obtain ⟨rfl, rfl, rfl⟩ := hk
        refine ⟨k, hk2, fun env2 H2 hk4 => ?_⟩
        obtain ⟨rfl, rfl⟩ := hk3 env2 H2 hk4
        exact ⟨g1, rfl, rfl, rfl⟩
      · obtain ⟨rfl, rfl, rfl⟩ := hk
        exact last ho2 hs2 h12 g12 c2 hQ fuel _ σ1 w1 b1 I1 (by omega)
    · by_cases i2 : i = e2
      · subst i2
        obtain ⟨o', ho', hf, hA⟩ := chkS_one c2
        rw [ho2] at ho'
        cases ho'
        refine Inv.act (rc := none) (L := []) (past' := past) hc F hn hlim I.swap ho2 (by simp [named]; exact Ne.symm hne) hr hf rfl rfl hA (act_store hs2 h2) (RN := fun env2 H2' nx2 => env2 = env ∧ H2' = H2 ∧ nx2 = nx) (fun env1 H1' nx1 hk => ?_) (fun env2 H2' nx2 σ1 w1 b1 hk I1 _ => ?_) (fun l H1 nx1 σ1 w1 c hk => Bool.noConfusion hk)
        · obtain ⟨r, ⟨k, hk2, hk3⟩⟩ : ∃ r : Unit, ∃ kf : Env → Heap → Bool, floatsK P ops res nx1 kf [] env1 H1' = true ∧ ∀ env2 H2, kf env2 H2 = true → env2 = env1 ∧ H2 = H1' := by
            classical
            exact ⟨(), fun env2 H2 => decide (env2 = env1 ∧ H2 = H1'), decide_eq_true ⟨rfl, rfl⟩, fun env2 H2 h => of_decide_eq_true h⟩
          simp only [decide_eq_true_eq] at hk
          obtain ⟨rfl, rfl, rfl⟩ := hk
          refine ⟨k, hk2, fun env2 H2 hk4 => ?_⟩
          obtain ⟨rfl, rfl⟩ := hk3 env2 H2 hk4
          exact ⟨g2, rfl, rfl, rfl⟩
        · obtain ⟨rfl, rfl, rfl⟩ := hk
          exact last ho1 hs1 h21 g21 c1 hQ2 fuel _ σ1 w1 b1 I1 (by omega)
      · have hin : i ∉ named [(e1, [], A1), (e2, [], A2)] := by
          intro h
          simp only [named, List.nil_append, List.mem_cons, List.not_mem_nil, or_false] at h
          rcases h with h | h
          · exact i1 h
          · exact i2 h
        have hp : i ∈ past := by
          rcases I.all i hlt with h | h | h
          · exact h
          · exact (hin h).elim
          · exact (hnl h).elim
        obtain ⟨o', ho', hcl⟩ := hpast i hp
        rw [ho] at ho'
        cases ho'
        exact I.float F hn ho hp hnl hcl hr hin fun σ1 w1 a1 I1 => ih _ σ1 w1 a1 I1 (by omega)

end Go.Ev
