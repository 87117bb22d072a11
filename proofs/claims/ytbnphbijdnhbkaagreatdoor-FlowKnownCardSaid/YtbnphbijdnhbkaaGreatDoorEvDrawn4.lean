/-
  Own work. Regions whose order is open. Part 4: the standing of a region half done; one that does not act is taken.
-/
import Derived.Test.YtbnphbijdnhbkaaGreatDoorEvDrawn3
import Derived.Orders
namespace Go.Ev
variable [GTab]
set_option linter.unusedSectionVars false

abbrev Stage := Nat × List Nat × List Nat

def isL (listed : Array Bool) (i : Nat) : Prop := listed.getD i false = true

structure Inv (P : Program) (nt : Nat) (ops : Array Oper) (as : List Nat) (res : Nat) (σ0 : Sg) (H0 : Heap) (w0 : World) (dfs : Dfs) (past : List Nat) (rest : List Stage) (env : Env) (H : Heap) (nx : Nat) (listed : Array Bool) (σ : Sg) (w : World) (a : Act) : Prop where
  size : listed.size = ops.size
  tsize : a.tmps.size = nt
  closed : ∀ i j, isL listed i → bit (as.getD i 0) j = true → isL listed j
  todo : ∀ i, i ∈ named rest → ¬ isL listed i
  all : ∀ i, i < ops.size → i ∈ past ∨ i ∈ named rest ∨ isL listed i
  den : ∀ t, t < 256 → (∀ (j : Nat) (q : Oper), ops[j]? = some q → q.dst = some t → isL listed j) → Den σ (get2 t env) (a.tmps.getD t undef)
  fl0 : ∀ (i : Nat) (q : Oper), i ∈ past → ops[i]? = some q → ¬ isL listed i → cls q.op = 0 → Fl0 P ops env H nx q
  fl1 : ∀ (i : Nat) (q : Oper), i ∈ past → ops[i]? = some q → ¬ isL listed i → cls q.op = 1 → Fl1 P ops res env H i q
  pend : ∀ i, i < ops.size → ¬ isL listed i → σ (res + i) = none
  lim : res + ops.size ≤ nx
  rel : Rel σ H nx w
  ext : Ext σ0 σ H0 H res nx w0 w
  dfs : DfsRel σ dfs a.defers

theorem mask_env (p : Nat → Prop) (env : Env) : ∃ env', ∀ t, t < 256 → (p t → get2 t env' = get2 t env) ∧ (¬ p t → get2 t env' = .und) := by
  have key : ∀ n, n ≤ 256 → ∃ env', ∀ t, t < 256 → ((p t ∨ n ≤ t) → get2 t env' = get2 t env) ∧ ((¬ p t ∧ t < n) → get2 t env' = .und) := by
    intro n
    induction n with
    | zero => exact fun _ => ⟨env, fun t _ => ⟨fun _ => rfl, fun h => by omega⟩⟩
    | succ n ih =>
      intro hn
      obtain ⟨e, he⟩ := ih (by omega)
      by_cases hp : p n
      · refine ⟨e, fun t ht => ⟨fun h => (he t ht).1 ?_, fun h => (he t ht).2 ⟨h.1, ?_⟩⟩⟩
        · rcases h with h | h
          · exact .inl h
          · exact .inr (by omega)
        · have : t ≠ n := fun q => h.1 (q ▸ hp)
          omega
      · refine ⟨set2 n .und e, fun t ht => ⟨fun h => ?_, fun h => ?_⟩⟩
        · have hne : n ≠ t := fun q => by
            rcases h with h | h
            · exact hp (q ▸ h)
            · omega
          rw [get2_put (by omega) ht, if_neg hne]
          refine (he t ht).1 ?_
          rcases h with h | h
          · exact .inl h
          · exact .inr (by omega)
        · rw [get2_put (by omega) ht]
          by_cases q : n = t
          · rw [if_pos q]
          · rw [if_neg q]; exact (he t ht).2 ⟨h.1, by omega⟩
  obtain ⟨e, he⟩ := key 256 (Nat.le_refl _)
  exact ⟨e, fun t ht => ⟨fun h => (he t ht).1 (.inl h), fun h => (he t ht).2 ⟨h, ht⟩⟩⟩

theorem isL_set {listed : Array Bool} {i j : Nat} (hi : i < listed.size) : isL (listed.setIfInBounds i true) j ↔ (j = i ∨ isL listed j) := by
  unfold isL
  by_cases e : i = j
  · subst e; simp [hi]
  · simp only [Array.getD_eq_getD_getElem?, Array.getElem?_setIfInBounds_ne e]
    constructor
    · exact fun h => .inr h
    · rintro (h | h)
      · exact (e h.symm).elim
      · exact h

/-- The view of the temporaries in which only what has come up is known. -/
theorem Inv.view {P : Program} {nt : Nat} {ops : Array Oper} {as : List Nat} {res : Nat} {σ0 : Sg} {H0 : Heap} {w0 : World} {dfs : Dfs} {past : List Nat} {rest : List Stage} {env : Env} {H : Heap} {nx : Nat} {listed : Array Bool} {σ : Sg} {w : World} {a : Act}
    (F : OpsFact nt ops as) (hn : nt ≤ 256) (I : Inv P nt ops as res σ0 H0 w0 dfs past rest env H nx listed σ w a) {i : Nat} {o : Oper} (hi : ops[i]? = some o) (hr : ∀ j, bit (as.getD i 0) j = true → isL listed j) :
    ∃ envm, EnvRel σ nt envm a.tmps ∧ wantedA ops o.guard envm = wantedA ops o.guard env ∧ ∀ x ∈ o.op.operands, aev envm x = aev env x := by
  obtain ⟨envm, hm⟩ := mask_env (fun t => ∀ (j : Nat) (q : Oper), ops[j]? = some q → q.dst = some t → isL listed j) env
  refine ⟨envm, ⟨I.tsize, hn, fun t ht => ?_⟩, look_congr fun t ht hlt => (hm t hlt).1 fun j q hj hq => hr j (F.look i o hi t ht j q hj hq)⟩
  by_cases hp : ∀ (j : Nat) (q : Oper), ops[j]? = some q → q.dst = some t → isL listed j
  · rw [(hm t ht).1 hp]; exact I.den t ht hp
  · rw [(hm t ht).2 hp]; exact .und _

/-- One more has come up, that does not act; its result is what the state says. -/
theorem Inv.next {P : Program} {nt : Nat} {ops : Array Oper} {as : List Nat} {res : Nat} {σ0 : Sg} {H0 : Heap} {w0 : World} {dfs : Dfs} {past : List Nat} {rest : List Stage} {env : Env} {H : Heap} {nx : Nat} {listed : Array Bool} {σ : Sg} {w : World} {a : Act}
    (F : OpsFact nt ops as) (I : Inv P nt ops as res σ0 H0 w0 dfs past rest env H nx listed σ w a) {i : Nat} {o : Oper} (hi : ops[i]? = some o) (hr : ∀ j, bit (as.getD i 0) j = true → isL listed j) (hrest : i ∉ named rest)
    {σ1 : Sg} {w1 : World} {v' : Value} (sub : ∀ b p, σ b = some p → σ1 b = some p) (R : Rel σ1 H nx w1) (E : Ext σ0 σ1 H0 H res nx w0 w1) (hp : ∀ j, j < ops.size → j ≠ i → σ (res + j) = none → σ1 (res + j) = none)
    (hv : ∀ d, o.dst = some d → Den σ1 (get2 d env) v') : Inv P nt ops as res σ0 H0 w0 dfs past rest env H nx (listed.setIfInBounds i true) σ1 w1 (a.put o.dst v') := by
  have hlt : i < ops.size := (Array.getElem?_eq_some_iff.1 hi).1
  have S : ∀ j, isL (listed.setIfInBounds i true) j ↔ (j = i ∨ isL listed j) := fun j => isL_set (by rw [I.size]; exact hlt)
  have hd := F.dst i o hi
  refine ⟨by rw [Array.size_setIfInBounds]; exact I.size, ?_, ?_, ?_, ?_, ?_, ?_, ?_, ?_, I.lim, R, E, ?_⟩
  · cases hdst : o.dst with
    | none => exact I.tsize
    | some d => show (a.tmps.setIfInBounds d v').size = nt; rw [Array.size_setIfInBounds]; exact I.tsize
  · intro j k hj hb
    rw [S] at hj ⊢
    rcases hj with rfl | hj
    · exact .inr (hr k hb)
    · exact .inr (I.closed j k hj hb)
  · intro j hj hl
    rw [S] at hl
    rcases hl with rfl | hl
    · exact hrest hj
    · exact I.todo j hj hl
  · intro j hj
    rw [S]
    rcases I.all j hj with h | h | h
    · exact .inl h
    · exact .inr (.inl h)
    · exact .inr (.inr (.inr h))
  · intro t ht hown
    by_cases e : o.dst = some t
    · rw [e]
      show Den σ1 (get2 t env) ((a.tmps.setIfInBounds t v').getD t undef)
      have : t < a.tmps.size := by rw [I.tsize]; rw [e] at hd; exact Nat.le_of_ble_eq_true hd
      rw [getD_put _ _ _ _ this, if_pos rfl]
      exact hv t e
    · have h1 : (a.put o.dst v').tmps.getD t undef = a.tmps.getD t undef := by
        cases hdst : o.dst with
        | none => rfl
        | some d =>
          show (a.tmps.setIfInBounds d v').getD t undef = _
          have : d < a.tmps.size := by rw [I.tsize]; rw [hdst] at hd; exact Nat.le_of_ble_eq_true hd
          rw [getD_put _ _ _ _ this, if_neg (fun q => e (by rw [hdst, q]))]
      rw [h1]
      refine (I.den t ht fun j q hj hq => ?_).mono sub
      have := hown j q hj hq
      rw [S] at this
      rcases this with rfl | h
      · rw [hi] at hj; cases hj; exact (e hq).elim
      · exact h
  · intro j q hj hq hl
    exact I.fl0 j q hj hq (fun h => hl ((S j).2 (.inr h)))
  · intro j q hj hq hl
    exact I.fl1 j q hj hq (fun h => hl ((S j).2 (.inr h)))
  · intro j hj hl
    exact hp j hj (fun e => hl ((S j).2 (.inl e))) (I.pend j hj (fun h => hl ((S j).2 (.inr h))))
  · have : (a.put o.dst v').defers = a.defers := by cases o.dst <;> rfl
    rw [this]; exact I.dfs.mono sub

/-- One that does not act is taken. -/
theorem Inv.float {P : Program} {nt : Nat} {ops : Array Oper} {as : List Nat} {res : Nat} {σ0 : Sg} {H0 : Heap} {w0 : World} {dfs : Dfs} {past : List Nat} {rest : List Stage} {env : Env} {H : Heap} {nx : Nat} {listed : Array Bool} {σ : Sg} {w : World} {a : Act}
    (F : OpsFact nt ops as) (hn : nt ≤ 256) (I : Inv P nt ops as res σ0 H0 w0 dfs past rest env H nx listed σ w a) {i : Nat} {o : Oper} (hi : ops[i]? = some o) (hpast : i ∈ past) (hnl : ¬ isL listed i) (hcls : cls o.op = 0 ∨ cls o.op = 1)
    (hr : ∀ j, bit (as.getD i 0) j = true → isL listed j) (hrest : i ∉ named rest) {Q : Exit → Act → World → Prop} {K : Act → World → Prop}
    (hK : ∀ σ1 w1 a1, Inv P nt ops as res σ0 H0 w0 dfs past rest env H nx (listed.setIfInBounds i true) σ1 w1 a1 → K a1 w1) : wpOp P ops Q i K a w := by
  have hlt : i < ops.size := (Array.getElem?_eq_some_iff.1 hi).1
  obtain ⟨envm, M, hw, hx⟩ := I.view F hn hi hr
  unfold wpOp
  rw [hi]
  simp only []
  have unw : wantedA ops o.guard env = some false → (∀ d, o.dst = some d → get2 d env = .tuple []) → (if Region.wanted o (yielded ops a.tmps) = true then o.wp P a w K Q ∨ (o.asks P a w ∧ LetsOut Q) else K (a.put o.dst undef) w) := by
    intro h1 h2
    rw [if_neg (by rw [wanted_ok (hw.trans h1) M]; simp)]
    exact hK σ w _ (I.next F hi hr hrest (fun _ _ h => h) I.rel I.ext (fun _ _ _ h => h) fun d hd => by rw [h2 d hd]; exact .tuple .nil)
  rcases hcls with hc | hc
  · rcases I.fl0 i o hpast hi hnl hc with ⟨h1, h2⟩ | ⟨hwt, v, hop, hdv⟩
    · exact unw h1 h2
    · rw [if_pos (wanted_ok (hw.trans hwt) M)]
      have hop' : aop P o (aev envm) H nx = some (.val v H nx) := (aop_congr hx).trans hop
      obtain ⟨σ', w', v', R, E, D, hrun⟩ := aop_ok hop' σ w a.eval I.rel M.aev
      have fin : K (a.put o.dst v') w' := by
        refine hK σ' w' _ (I.next F hi hr hrest E.sub R (I.ext.trans E) (fun j hj _ h => (E.pend (res + j) (by have := I.lim; omega) h).1) fun d hd => ?_)
        rw [hdv d hd]
        exact D
      refine .inl ?_
      unfold Oper.wp
      rcases hrun with hrun | ⟨hrun, rfl⟩
      · rw [hrun]; exact fin
      · rw [hrun]; exact fin
  · rcases I.fl1 i o hpast hi hnl hc with ⟨h1, h2⟩ | ⟨h1, m, h2, h3, h4, h5⟩
    · exact unw h1 h2
    · rw [if_pos (wanted_ok (hw.trans h1) M)]
      have hm : made P o.op (aev envm) = some m := (made_congr hx).trans h2
      obtain ⟨l', t, v', hl, hln, hv, hrun⟩ := made_ok hm σ w a.eval M.aev
      obtain ⟨c1, c2, c3⟩ := made_cells hl hln h3
      have hb : σ (res + i) = none := I.pend i hlt hnl
      have hbx : res + i < nx := by have := I.lim; omega
      have R := I.rel.alloc_at (t := t) (fz := (0, 0)) hb hbx h4 c1 c2 (Nat.le_refl _) (fun i _ h => by omega) c3
      obtain ⟨e1, e2, e3, e4⟩ := Ext.alloc_at (sz := m.n) (.cells ⟨l'⟩ t) I.rel hb
      have E := I.ext
      refine .inl ?_
      unfold Oper.wp
      rw [hrun]
      refine hK _ _ _ (I.next F hi hr hrest e2 R ⟨fun b p h => e2 b p (E.sub b p h), ?_, ?_, E.le, E.os, E.tape, E.output, ?_, ?_⟩ ?_ ?_)
      · intro b cb sz h hcb
        obtain ⟨b', sz', h'⟩ := e3 b cb sz h (Nat.lt_of_lt_of_le hcb E.size)
        exact E.rng b' cb sz' h' hcb
      · intro b hbr h
        obtain ⟨p1, p2⟩ := E.pend b hbr h
        exact ⟨e1 b (by omega) (by have := E.le; omega) p1, p2⟩
      · have := E.size
        have : (w.alloc (.cells ⟨l'⟩ t)).heap.size = w.heap.size + 1 := by simp
        omega
      · intro k hk h
        rw [e4 k (Nat.lt_of_lt_of_le hk E.size)]
        exact E.frame k hk h
      · intro j hj hne h
        exact e1 _ (by omega) (by have := I.lim; omega) h
      · intro d hd
        rw [h5 d hd]
        exact hv _ _ (by simp [upd])

end Go.Ev
