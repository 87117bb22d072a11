/-
  Own work. That the evaluator is right. Part 1: temporaries, one operation, operations in the order of the text.
-/
import Derived.Test.YtdigeeejmgkcoaaGreatDoorEvEval
import Derived.LoopN
import Derived.Tactics
namespace Go.Ev
variable [GTab]
set_option linter.unusedSectionVars false

set_option maxHeartbeats 2000000 in
theorem opCall_ok {P : Program} {o : Oper} {c : Call} {ρ : Operand → AVal} {H : Heap} {nx : Nat} {r : ARes} (ho : o.op = .call c) (h : opCall P c ρ H nx = some r) : OpOK P o ρ H nx r := by
  unfold opCall at h
  split at h <;> first | (cases h; done) | skip
  · exact opCallV_ok ho ‹_› h
  · rename_i hc
    split at h <;> first | (cases h; done) | skip
    rename_i sT xT s x hT hA
    split at h <;> first | (cases h; done) | skip
    rename_i elem d hu hx
    split at h <;> first | (cases h; done) | skip
    · rename_i e hd he
      split at h <;> first | (cases h; done) | skip
      rename_i n l hsrc
      split at h <;> first | (cases h; done) | skip
      rename_i hall
      have e1 : c.argTypes = #[sT, xT] := by apply Array.ext'; rw [hT]
      have e2 : c.args = #[s, x] := by apply Array.ext'; rw [hA]
      obtain ⟨v, H', nx', rfl⟩ := aAppend_val h
      intro σ w ρ' hr hdn
      obtain ⟨σ', w', v', R, E, D, hrun⟩ := aAppend_ok (P := P) (u := o.type) hr (hdn s) (sT := sT) (xT := xT) (x' := ρ' x) (fun n' l' e' z' he' hz' _ hs' => by
        rw [he] at he'; cases he'
        obtain ⟨hll, l1, hl1, hlen, hfc⟩ := aSrc_ok (P := P) hr (hdn x) hs'
        obtain ⟨_, l2, hl2, _, hfc2⟩ := aSrc_ok (P := P) hr.drew (hdn x) hs'
        have hq : l' = l := by rw [hsrc] at hs'; cases hs'; rfl
        exact ⟨hll, by rw [hq]; exact hall, ⟨l1, hl1, room_src hu hx hd he hlen hfc⟩, l2, hl2, grow_src hu hx hd he hz' hlen hfc2⟩) h
      refine ⟨σ', w', v', R, E, D, .inl ?_⟩
      simp [execOp, ho, resolve, hc, invoke, builtin, e1, e2, hrun]
    · rename_i e hd he
      split at h <;> first | (cases h; done) | skip
      rename_i n l hi hsrc
      split at h <;> first | (cases h; done) | skip
      rename_i hall
      have e1 : c.argTypes = #[sT, xT] := by apply Array.ext'; rw [hT]
      have e2 : c.args = #[s, x] := by apply Array.ext'; rw [hA]
      obtain ⟨k, rfl⟩ : ∃ k, d = .int k := by cases d <;> first | exact ⟨_, rfl⟩ | cases hi
      obtain ⟨v, H', nx', rfl⟩ := aAppend_val h
      intro σ w ρ' hr hdn
      obtain ⟨σ', w', v', R, E, D, hrun⟩ := aAppend_ok (P := P) (u := o.type) hr (hdn s) (sT := sT) (xT := xT) (x' := ρ' x) (fun n' l' e' z' he' hz' hzs' hs' => by
        rw [he] at he'; cases he'
        have hq : l' = l := by rw [hsrc] at hs'; cases hs'; rfl
        obtain ⟨m, hm, rfl, hle, hden, hll⟩ := aZeros_ok (σ := σ) he hz' hs'
        have hdx := hdn x
        rw [hm] at hdx
        have ex : ∀ y, Den σ (.int .i64 (.ofNat m)) y → y = .int .i64 (m : Int) := fun y hy => by cases hy; rfl
        rw [ex _ hdx]
        exact ⟨hll, by rw [hq]; exact hall, ⟨_, hden, room_zeros hu hx he hz' hzs' hle⟩, _, hden, grow_zeros hu hx he hz' hzs' hle⟩) h
      refine ⟨σ', w', v', R, E, D, .inl ?_⟩
      simp [execOp, ho, resolve, hc, invoke, builtin, e1, e2, hrun]
  · exact opCopy_ok ho ‹_› h
  · exact opBuiltin0_ok ho ‹_› h
  · exact opInvoke_ok ho ‹_› h

theorem opMadeOf_ok {P : Program} {o : Oper} {ρ : Operand → AVal} {H : Heap} {nx : Nat} {r : ARes} (h : opMadeOf P o.op ρ H nx = some r) : OpOK P o ρ H nx r := by
  unfold opMadeOf at h
  split at h <;> first | (cases h; done) | skip
  exact opMade_ok (made_ok ‹_›) h

theorem aop_ok {P : Program} {o : Oper} {ρ : Operand → AVal} {H : Heap} {nx : Nat} {r : ARes} (h : aop P o ρ H nx = some r) : OpOK P o ρ H nx r := by
  unfold aop at h
  cases hop : o.op <;> rw [hop] at h
  case move => exact opMove_ok (.inl hop) h
  case assign => exact opMove_ok (.inr hop) h
  case pick => exact opPick_ok hop h
  case load => exact opLoad_ok hop h
  case store => exact opStore_ok hop h
  case nilCheck => exact opNilCheck_ok hop h
  case binOp => exact opBin_ok hop h
  case unOp => exact opUn_ok hop h
  case convert => exact opConv_ok hop h
  case makeInterface => exact opMakeInterface_ok hop h
  case makeFunc => exact opMakeFunc_ok hop h
  case slice => exact opSlice_ok hop h
  case fieldAddr => exact opFieldAddr_ok hop h
  case field => exact opField_ok hop h
  case indexAddr => exact opIndexAddr_ok hop h
  case index => exact opIndex_ok hop h
  case typeAssert => exact opAssert_ok hop h
  case extract => exact opExtract_ok hop h
  case build => exact opBuild_ok hop h
  case alloc => exact opMadeOf_ok (by rw [hop]; exact h)
  case box => exact opMadeOf_ok (by rw [hop]; exact h)
  case buildSlice => exact opMadeOf_ok (by rw [hop]; exact h)
  case makeSlice => exact opMadeOf_ok (by rw [hop]; exact h)
  case call => exact opCall_ok hop h
  case defer c =>
    have h' : opDeferC P c ρ H nx = some r := h
    unfold opDeferC at h'
    split at h' <;> first | (cases h'; done) | skip
    exact opDefer_ok hop ‹_› h'
  case panic => exact opPanic_ok hop h
  case lookup => exact opLookup_ok hop h
  case makeMap => exact opMakeMap_ok hop h
  case mapUpdate => exact opMapUpdate_ok (.inl hop) h
  case insert => exact opMapUpdate_ok (.inr hop) h
  all_goals (have h' : opFail ρ H nx = some r := h; cases h')

/-! ### Temporaries -/
structure EnvRel (σ : Sg) (nt : Nat) (env : Env) (tmps : Array Value) : Prop where
  size : tmps.size = nt
  le : nt ≤ 256
  den : ∀ t, t < 256 → Den σ (get2 t env) (tmps.getD t undef)

theorem EnvRel.mono {σ σ' : Sg} {nt : Nat} {env : Env} {tmps : Array Value} (hs : ∀ b p, σ b = some p → σ' b = some p) (h : EnvRel σ nt env tmps) : EnvRel σ' nt env tmps :=
  ⟨h.size, h.le, fun t ht => (h.den t ht).mono hs⟩

theorem EnvRel.aev {σ : Sg} {nt : Nat} {env : Env} {a : Act} (h : EnvRel σ nt env a.tmps) (x : Operand) : Den σ (aev env x) (a.eval x) := by
  cases x with
  | tmp t =>
    show Den σ (Bool.rec .und (get2 t env) (Nat.ble t 255)) (a.tmps.getD t undef)
    cases hb : Nat.ble t 255 with
    | false => exact .und _
    | true => exact h.den t (by have := Nat.le_of_ble_eq_true hb; omega)
  | const v => exact den_ofVal σ v
  | global g => exact .gptr g 0
  | func f => exact .func .nil .nil

theorem get2_put {d : Nat} {v : AVal} {env : Env} {t : Nat} (hd : d < 256) (ht : t < 256) : get2 t (set2 d v env) = if d = t then v else get2 t env := by
  by_cases h : d = t
  · subst h; rw [if_pos rfl, get2_set2_same]
  · rw [if_neg h, get2_set2_ne]
    rw [Nat.mod_eq_of_lt hd, Nat.mod_eq_of_lt ht]; exact h

theorem getD_put (tmps : Array Value) (d t : Nat) (v : Value) (h : d < tmps.size) : (tmps.setIfInBounds d v).getD t undef = if d = t then v else tmps.getD t undef := by
  by_cases e : d = t
  · subst e; rw [if_pos rfl]; simp [h]
  · rw [if_neg e]; simp [Array.getElem?_setIfInBounds_ne e]

theorem EnvRel.put {σ : Sg} {nt : Nat} {env : Env} {a : Act} {d : Option Nat} {v : AVal} {v' : Value} (h : EnvRel σ nt env a.tmps) (hd : dstOK nt d = true) (hv : Den σ v v') : EnvRel σ nt (put d v env) (a.put d v').tmps := by
  cases d with
  | none => exact h
  | some d =>
    have hlt : d < nt := Nat.le_of_ble_eq_true hd
    have hle := h.le
    have hsz := h.size
    refine ⟨?_, h.le, fun t ht => ?_⟩
    · show (a.tmps.setIfInBounds d v').size = nt
      rw [Array.size_setIfInBounds]; exact h.size
    · show Den σ (get2 t (set2 d v env)) ((a.tmps.setIfInBounds d v').getD t undef)
      rw [get2_put (by omega) ht, getD_put _ _ _ _ (by omega)]
      by_cases e : d = t
      · rw [if_pos e, if_pos e]; exact hv
      · rw [if_neg e, if_neg e]; exact h.den t ht

inductive DfsRel (σ : Sg) : Dfs → List Deferred → Prop
  | nil : DfsRel σ [] []
  | cons {f : FuncId} {args : List AVal} {d : Deferred} {l : Dfs} {l' : List Deferred} (h : DDen σ f args d) (t : DfsRel σ l l') : DfsRel σ ((f, args) :: l) (d :: l')

theorem DDen.mono {σ σ' : Sg} {f : FuncId} {args : List AVal} {d : Deferred} (hs : ∀ b p, σ b = some p → σ' b = some p) (h : DDen σ f args d) : DDen σ' f args d := by
  obtain ⟨cap, h1, h2⟩ := h
  exact ⟨cap, h1, h2.mono hs⟩

theorem DfsRel.mono {σ σ' : Sg} (hs : ∀ b p, σ b = some p → σ' b = some p) : ∀ {l : Dfs} {l' : List Deferred}, DfsRel σ l l' → DfsRel σ' l l'
  | _, _, .nil => .nil
  | _, _, .cons h t => .cons (h.mono hs) (DfsRel.mono hs t)

structure ARel (σ : Sg) (nt : Nat) (env : Env) (dfs : Dfs) (a : Act) : Prop where
  env : EnvRel σ nt env a.tmps
  dfs : DfsRel σ dfs a.defers

theorem ARel.mono {σ σ' : Sg} {nt : Nat} {env : Env} {dfs : Dfs} {a : Act} (hs : ∀ b p, σ b = some p → σ' b = some p) (h : ARel σ nt env dfs a) : ARel σ' nt env dfs a := ⟨h.env.mono hs, h.dfs.mono hs⟩

theorem ARel.put {σ : Sg} {nt : Nat} {env : Env} {dfs : Dfs} {a : Act} {d : Option Nat} {v : AVal} {v' : Value} (h : ARel σ nt env dfs a) (hd : dstOK nt d = true) (hv : Den σ v v') : ARel σ nt (put d v env) dfs (a.put d v') :=
  ⟨h.env.put hd hv, by cases d <;> exact h.dfs⟩

inductive Chain (σ : Sg) : List (AVal × Bool) → List PanicEntry → Prop
  | nil : Chain σ [] []
  | cons {v : AVal} {r : Bool} {p : PanicEntry} {l : List (AVal × Bool)} {l' : List PanicEntry} (hv : Den σ v p.v) (hr : p.recovered = r) (hg : p.goexit = false) (t : Chain σ l l') : Chain σ ((v, r) :: l) (p :: l')

theorem Chain.mono {σ σ' : Sg} (hs : ∀ b p, σ b = some p → σ' b = some p) : ∀ {l : List (AVal × Bool)} {l' : List PanicEntry}, Chain σ l l' → Chain σ' l l'
  | _, _, .nil => .nil
  | _, _, .cons hv hr hg t => .cons (hv.mono hs) hr hg (Chain.mono hs t)

theorem Chain.append {σ : Sg} : ∀ {l : List (AVal × Bool)} {l' : List PanicEntry} {m : List (AVal × Bool)} {m' : List PanicEntry}, Chain σ l l' → Chain σ m m' → Chain σ (l ++ m) (l' ++ m')
  | _, _, _, _, .nil, h => h
  | _, _, _, _, .cons hv hr hg t, h => .cons hv hr hg (Chain.append t h)

def ExRel (σ : Sg) : AExit → Exit → Prop
  | .normal, .normal => True
  | .exit i, .exit j => i = j
  | .ret, .ret => True
  | .pan l, .panic c => Chain σ l c
  | _, _ => False

def EndRel (σ : Sg) : AEnd → Ending → Prop
  | .ret v, .returned v' => Den σ v v'
  | .pan l, .panicked c => Chain σ l c
  | _, _ => False

def MRel (σ : Sg) : AMode → FrameMode → Prop
  | .returning, .returning => True
  | .panicking l, .panicking c => Chain σ l c
  | _, _ => False

theorem MRel.mono {σ σ' : Sg} {m : AMode} {u : FrameMode} (hs : ∀ b p, σ b = some p → σ' b = some p) (h : MRel σ m u) : MRel σ' m u := by
  cases m <;> cases u <;> first | exact h | exact Chain.mono hs h

/-- A call comes to this. -/
def TriCall (P : Program) (f : FuncId) (args : List AVal) (H : Heap) (nx : Nat) (e : AEnd) (H' : Heap) (nx' : Nat) : Prop :=
  ∀ (σ : Sg) (w : World) (args' : List Value) (R : Ending → World → Prop), Rel σ H nx w → DenL σ args args' →
    (∀ σ' w' en, Rel σ' H' nx' w' → Ext σ σ' H H' nx nx' w w' → EndRel σ' e en → R en w') → Calls P f ⟨args'⟩ w R

def CallSound (P : Program) (call : CallK) : Prop :=
  ∀ f args H nx K, call f args H nx K = true → ∃ e H' nx', TriCall P f args H nx e H' nx' ∧ K e H' nx' = true

/-! ### One operation -/
theorem wanted_ok {σ : Sg} {nt : Nat} {env : Env} {a : Act} {ops : Array Oper} {o : Oper} {b : Bool} (h : wantedA ops o.guard env = some b) (he : EnvRel σ nt env a.tmps) : Region.wanted o (yielded ops a.tmps) = b := by
  unfold wantedA at h
  unfold Region.wanted
  split at h
  · rename_i hg; cases h; rw [hg]
  · rename_i j want hg
    rw [hg]
    split at h
    · rename_i t ht
      split at h <;> first | (cases h; done) | skip
      rename_i hle
      have hlt : t < 256 := Nat.lt_of_le_of_lt (Nat.le_of_ble_eq_true hle) (by decide)
      have hd := he.den t hlt
      have hy : yielded ops a.tmps j = match a.tmps[t]? with | some (.bool b) => some b | _ => none := by
        unfold yielded; rw [ht]; rfl
      split at h <;> first | (cases h; done) | skip
      · rename_i x hx
        cases h
        rw [hx] at hd
        have hg2 : a.tmps[t]? = some (.bool x) := by
          cases hq : a.tmps[t]? with
          | none => simp [hq] at hd; cases hd
          | some v => simp [hq] at hd; cases hd; rfl
        simp only [hy, hg2]
        cases x <;> cases want <;> rfl
      · rename_i hx
        cases h
        rw [hx] at hd
        have hn : yielded ops a.tmps j = none := by
          rw [hy]
          cases hq : a.tmps[t]? with
          | none => rfl
          | some v =>
            simp [hq] at hd
            cases hd
            rfl
        simp [hn]
    · rename_i ht
      cases h
      have hn : yielded ops a.tmps j = none := by unfold yielded; rw [ht]; rfl
      simp [hn]

def NotRec (P : Program) (o : Oper) (a : Act) (w : World) : Prop := ∀ w', (execOp a.eval o).run P w ≠ .ok .recover w'

/-- An operation that is no recover: it goes on, or panics. -/
theorem upon_step {P : Program} {call : CallK} {nt : Nat} {o : Oper} {env : Env} {H : Heap} {nx : Nat} {dfs : Dfs} {rc : Option AMode} {r : ARes} {k : Env → Heap → Nat → Dfs → Option AMode → Bool} {K : Kont}
    (hc : CallSound P call) (hok : OpOK P o (aev env) H nx r) (hdst : dstOK nt o.dst = true) (hnr : r ≠ .rcv) (ht : takeK call o.dst r env H nx dfs rc k K = true) :
    (∃ env1 H1 nx1 dfs1, k env1 H1 nx1 dfs1 rc = true ∧ ∀ σ w a next Q, Rel σ H nx w → ARel σ nt env dfs a →
      (∀ σ1 w1 a1, Rel σ1 H1 nx1 w1 → Ext σ σ1 H H1 nx nx1 w w1 → ARel σ1 nt env1 dfs1 a1 → next a1 w1) → NotRec P o a w ∧ o.wp P a w next Q) ∨
    (∃ l H1 nx1, K (.pan l) env H1 nx1 dfs rc = true ∧ ∀ σ w a next Q, Rel σ H nx w → ARel σ nt env dfs a →
      (∀ σ1 w1 c, Rel σ1 H1 nx1 w1 → Ext σ σ1 H H1 nx nx1 w w1 → Chain σ1 l c → Q (.panic c) a w1) → NotRec P o a w ∧ o.wp P a w next Q) := by
  cases r with
  | val v H' nx' =>
    refine .inl ⟨_, _, _, _, ht, fun σ w a next Q hr ha hn => ?_⟩
    obtain ⟨σ', w', v', R, E, D, hrun⟩ := hok σ w a.eval hr ha.env.aev
    rcases hrun with hrun | ⟨hrun, rfl⟩
    · exact ⟨(fun w2 e => by rw [hrun] at e; cases e), by unfold Oper.wp; rw [hrun]; exact hn σ' w' _ R E ((ha.mono E.sub).put hdst D)⟩
    · exact ⟨(fun w2 e => by rw [hrun] at e; cases e), by unfold Oper.wp; rw [hrun]; exact hn σ' w' _ R E ((ha.mono E.sub).put hdst D)⟩
  | call f args =>
    obtain ⟨e, H', nx', tri, hk⟩ := hc f args H nx _ ht
    cases e with
    | ret v =>
      refine .inl ⟨_, _, _, _, hk, fun σ w a next Q hr ha hn => ?_⟩
      obtain ⟨args', hl, hrun⟩ := hok σ w a.eval hr ha.env.aev
      refine ⟨(fun w2 e => by rw [hrun] at e; cases e), ?_⟩
      unfold Oper.wp
      rw [hrun]
      show Calls P f ⟨args'⟩ w _
      refine tri σ w args' _ hr hl fun σ' w' en R E he => ?_
      cases en with
      | returned v' => exact hn σ' w' _ R E ((ha.mono E.sub).put hdst he)
      | panicked c => exact he.elim
      | outgrown => exact he.elim
    | pan l =>
      refine .inr ⟨l, H', nx', hk, fun σ w a next Q hr ha hn => ?_⟩
      obtain ⟨args', hl, hrun⟩ := hok σ w a.eval hr ha.env.aev
      refine ⟨(fun w2 e => by rw [hrun] at e; cases e), ?_⟩
      unfold Oper.wp
      rw [hrun]
      show Calls P f ⟨args'⟩ w _
      refine tri σ w args' _ hr hl fun σ' w' en R E he => ?_
      cases en with
      | returned v' => exact he.elim
      | panicked c => exact hn σ' w' c R E he
      | outgrown => exact he.elim
  | dfr f args =>
    refine .inl ⟨_, _, _, _, ht, fun σ w a next Q hr ha hn => ?_⟩
    obtain ⟨d, hd, hrun⟩ := hok σ w a.eval hr ha.env.aev
    refine ⟨(fun w2 e => by rw [hrun] at e; cases e), ?_⟩
    unfold Oper.wp
    rw [hrun]
    refine hn σ w _ hr (Ext.refl _ _ _ _) ⟨?_, ?_⟩
    · have h1 : EnvRel σ nt (put o.dst (.tuple []) env) (a.put o.dst undef).tmps := ha.env.put hdst (.tuple .nil)
      have e : (({ a with defers := d :: a.defers } : Act).put o.dst undef).tmps = (a.put o.dst undef).tmps := by cases o.dst <;> rfl
      rw [e]; exact h1
    · have e : (({ a with defers := d :: a.defers } : Act).put o.dst undef).defers = d :: a.defers := by cases o.dst <;> rfl
      rw [e]; exact .cons hd ha.dfs
  | pan v =>
    refine .inr ⟨[(v, false)], H, nx, ht, fun σ w a next Q hr ha hn => ?_⟩
    obtain ⟨v', dv, hrun⟩ := hok σ w a.eval hr ha.env.aev
    refine ⟨(fun w2 e => by rw [hrun] at e; cases e), ?_⟩
    unfold Oper.wp
    rw [hrun]
    exact hn σ w [{ v := v', recovered := false }] hr (Ext.refl _ _ _ _) (.cons dv rfl rfl .nil)
  | rcv => exact (hnr rfl).elim

theorem opK_skip {P : Program} {ops : Array Oper} {Q : Exit → Act → World → Prop} {o : Oper} {l : List Oper} {a : Act} {w : World} (h : Region.wanted o (yielded ops a.tmps) = false) (hn : wpList P ops Q l (a.put o.dst undef) w) :
    wpList P ops Q (o :: l) a w := by
  unfold wpList
  rw [if_neg (by rw [h]; simp)]
  exact hn

/-- Operations in the order of the text, in a frame that is no deferred call. -/
theorem opsK_none {P : Program} {call : CallK} {nt : Nat} {ops : Array Oper} {K : Kont} (hc : CallSound P call) :
    ∀ (l : List Oper) (env : Env) (H : Heap) (nx : Nat) (dfs : Dfs), opsK P call nt ops K l env H nx dfs none = true →
      ∃ ex env' H' nx' dfs', K ex env' H' nx' dfs' none = true ∧ ∀ σ w a Q, Rel σ H nx w → ARel σ nt env dfs a →
        (∀ σ' w' a' e, Rel σ' H' nx' w' → Ext σ σ' H H' nx nx' w w' → ARel σ' nt env' dfs' a' → ExRel σ' ex e → Q e a' w') → wpList P ops Q l a w
  | [], env, H, nx, dfs, h => ⟨.normal, env, H, nx, dfs, h, fun σ w a Q hr ha hq => hq σ w a .normal hr (Ext.refl _ _ _ _) ha trivial⟩
  | o :: l, env, H, nx, dfs, h => by
    have h' : opK P call nt ops o env H nx dfs none (opsK P call nt ops K l) K = true := h
    unfold opK at h'
    split at h' <;> first | (cases h'; done) | skip
    · rename_i hdst hw
      split at h' <;> first | (cases h'; done) | skip
      rename_i r hr
      have hnr : r ≠ .rcv := by
        rintro rfl
        cases h'
      rcases upon_step hc (aop_ok hr) hdst hnr h' with ⟨env1, H1, nx1, dfs1, hk, step⟩ | ⟨c, H1, nx1, hk, step⟩
      · obtain ⟨ex, env', H', nx', dfs', hK, rest⟩ := opsK_none hc l env1 H1 nx1 dfs1 hk
        refine ⟨ex, env', H', nx', dfs', hK, fun σ w a Q hrel ha hq => ?_⟩
        unfold wpList
        rw [if_pos (wanted_ok hw ha.env)]
        refine .inl (step σ w a _ Q hrel ha fun σ1 w1 a1 R1 E1 A1 => ?_).2
        exact rest σ1 w1 a1 Q R1 A1 fun σ' w' a' e R E A X => hq σ' w' a' e R (E1.trans E) A X
      · refine ⟨.pan c, env, H1, nx1, dfs, hk, fun σ w a Q hrel ha hq => ?_⟩
        unfold wpList
        rw [if_pos (wanted_ok hw ha.env)]
        exact .inl (step σ w a _ Q hrel ha fun σ1 w1 ch R1 E1 C1 => hq σ1 w1 a (.panic ch) R1 E1 (ha.mono E1.sub) C1).2
    · rename_i hdst hw
      obtain ⟨ex, env', H', nx', dfs', hK, rest⟩ := opsK_none hc l _ H nx dfs h'
      refine ⟨ex, env', H', nx', dfs', hK, fun σ w a Q hrel ha hq => ?_⟩
      exact opK_skip (wanted_ok hw ha.env) (rest σ w _ Q hrel (ha.put hdst (.tuple .nil)) hq)

end Go.Ev
