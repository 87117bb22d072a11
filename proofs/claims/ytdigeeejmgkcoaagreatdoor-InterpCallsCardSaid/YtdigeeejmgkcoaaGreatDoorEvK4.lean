/-
  Own work. The second evaluator: calls; runs from nothing.
-/
import Derived.Test.YtdigeeejmgkcoaaGreatDoorEvK3
import Derived.Test.YtdigeeejmgkcoaaGreatDoorEvFrame
namespace Go.Ev
variable [GTab]
set_option linter.unusedSectionVars false
noncomputable section

/-! ### Functions -/
/-- How long a list is. -/
def lenF (l : List AVal) : Nat := List.rec (motive := fun _ => Nat) 0 (fun _ _ n => Nat.succ n) l
theorem lenF_eq : ∀ l : List AVal, lenF l = l.length
  | [] => rfl
  | _ :: l => by show Nat.succ (lenF l) = _; rw [lenF_eq l]; rfl

def nthT (l : List AVal) (i : Nat) : AVal := List.rec (motive := fun _ => Nat → AVal) (fun _ => .tuple []) (fun v _ ih i => Nat.rec (motive := fun _ => AVal) v (fun j _ => ih j) i) l i

def rowT : N16 AVal := .all (.tuple [])

def enter8 (l : List AVal) : Env :=
  .mk (.mk (nthT l 0) (nthT l 1) (nthT l 2) (nthT l 3) (nthT l 4) (nthT l 5) (nthT l 6) (nthT l 7) (.tuple []) (.tuple []) (.tuple []) (.tuple []) (.tuple []) (.tuple []) (.tuple []) (.tuple [])) rowT rowT rowT rowT rowT rowT rowT rowT rowT rowT rowT rowT rowT rowT rowT

def enterF (l : List AVal) : Env := Bool.rec (enterEnv l 0 (all2 (.tuple []))) (enter8 l) (Nat.ble (lenF l) 8)

theorem enterF_eq (l : List AVal) : enterF l = enterEnv l 0 (all2 (.tuple [])) := by
  unfold enterF
  cases h : Nat.ble (lenF l) 8 with
  | false => rfl
  | true =>
    have hl : l.length ≤ 8 := by have := Nat.le_of_ble_eq_true h; rwa [lenF_eq] at this
    show enter8 l = _
    match l, hl with
    | [], _ => rfl
    | [_], _ => rfl
    | [_, _], _ => rfl
    | [_, _, _], _ => rfl
    | [_, _, _, _], _ => rfl
    | [_, _, _, _, _], _ => rfl
    | [_, _, _, _, _, _], _ => rfl
    | [_, _, _, _, _, _, _], _ => rfl
    | [_, _, _, _, _, _, _, _], _ => rfl
    | _ :: _ :: _ :: _ :: _ :: _ :: _ :: _ :: _ :: _, h => simp at h

/-- The results. -/
inductive Rs | mk (f : Env → Heap → (List AVal → Bool) → Bool)
def Rs.fn : Rs → Env → Heap → (List AVal → Bool) → Bool | .mk f => f
def optV (o : Option AVal) : (AVal → Bool) → Bool := Option.rec (motive := fun _ => (AVal → Bool) → Bool) (fun _ => false) (fun v k => k v) o
theorem optV_ok {o : Option AVal} {k : AVal → Bool} (h : optV o k = true) : ∃ v, o = some v ∧ k v = true := by
  cases o with
  | none => exact Bool.noConfusion h
  | some v => exact ⟨v, rfl, h⟩

def cRes (P : Program) : List ResultVar → Rs
  | [] => .mk fun _ _ k => k []
  | .tmp t :: l => match Nat.ble t 255, accOf t, cRes P l with
    | true, .mk a, .mk g => .mk fun env H k => g env H fun vs => k (a env :: vs)
    | false, _, _ => .mk fun _ _ _ => false
  | .cell b t :: l => match Nat.ble b 255, accOf b, cRes P l with
    | true, .mk a, .mk g => .mk fun env H k => g env H fun vs => optV (aLoad P t H (a env)) fun v => k (v :: vs)
    | false, _, _ => .mk fun _ _ _ => false

theorem cRes_ok {P : Program} : ∀ {l : List ResultVar} {env : Env} {H : Heap} {k : List AVal → Bool}, (cRes P l).fn env H k = true → ∃ vs, resultsA P env H l = some vs ∧ k vs = true
  | [], env, H, k, h => ⟨[], rfl, h⟩
  | .tmp t :: l, env, H, k, h => by
    unfold cRes at h
    have ha := accOf_eq t
    cases hb : Nat.ble t 255 with
    | false => simp only [hb] at h; exact Bool.noConfusion h
    | true =>
      cases ea : accOf t with | mk a => cases eg : cRes P l with | mk g =>
        rw [ea] at ha
        have ha' : a = get2 t := ha
        subst ha'
        simp only [hb, ea, eg] at h
        obtain ⟨vs, hv, hk⟩ := cRes_ok (l := l) (env := env) (H := H) (k := fun vs => k (get2 t env :: vs)) (by rw [eg]; exact h)
        exact ⟨_, by unfold resultsA; simp only [hb, hv], hk⟩
  | .cell b t :: l, env, H, k, h => by
    unfold cRes at h
    have ha := accOf_eq b
    cases hb : Nat.ble b 255 with
    | false => simp only [hb] at h; exact Bool.noConfusion h
    | true =>
      cases ea : accOf b with | mk a => cases eg : cRes P l with | mk g =>
        rw [ea] at ha
        have ha' : a = get2 b := ha
        subst ha'
        simp only [hb, ea, eg] at h
        obtain ⟨vs, hv, hk⟩ := cRes_ok (l := l) (env := env) (H := H) (k := fun vs => optV (aLoad P t H (get2 b env)) fun v => k (v :: vs)) (by rw [eg]; exact h)
        obtain ⟨v, e, hk⟩ := optV_ok hk
        exact ⟨_, by unfold resultsA; simp only [hb, hv, e], hk⟩

inductive CFn
  | no
  | yes (nt : Nat) (code : Env → St → FX → Bool) (rs : List ResultVar) (res : Env → Heap → (List AVal → Bool) → Bool)

def cFun (P : Program) (f : FuncId) : CFn :=
  match P.funcs[f]? with
  | some fn => match fn.body, Nat.ble fn.ntmps 256 with
    | some c, true => match cCode P fn.ntmps c, cRes P fn.results.toList with
      | .mk g, .mk r => forceN fn.ntmps fun n => .yes n g fn.results.toList r
    | _, _ => .no
  | none => .no

theorem cFun_ok {P : Program} {f : FuncId} {nt : Nat} {code : Env → St → FX → Bool} {rs : List ResultVar} {res : Env → Heap → (List AVal → Bool) → Bool} (h : cFun P f = .yes nt code rs res) :
    ∃ fn c, P.funcs[f]? = some fn ∧ fn.body = some c ∧ fn.ntmps = nt ∧ nt ≤ 256 ∧ (cCode P nt c).fn = code ∧ rs = fn.results.toList ∧ (cRes P rs).fn = res := by
  unfold cFun at h
  split at h <;> first | (cases h; done) | skip
  rename_i fn hf
  split at h <;> first | (cases h; done) | skip
  rename_i c hb hn
  cases ec : cCode P fn.ntmps c with | mk g => cases er : cRes P fn.results.toList with | mk r =>
    rw [ec, er] at h
    simp only [forceN_eq] at h
    cases h
    exact ⟨fn, c, hf, hb, rfl, Nat.le_of_ble_eq_true hn, by rw [ec]; rfl, rfl, by rw [er]; rfl⟩

abbrev CallD := FuncId → List AVal → AMode → Heap → Nat → (AEnd → AMode → Heap → Nat → Bool) → Bool

/-- The end of a function's body. -/
def endX (P : Program) (calld : CallD) (rs : List ResultVar) (res : Env → Heap → (List AVal → Bool) → Bool) (K : KEnd) (env : Env) (st : St) : Bool :=
  List.rec (motive := fun _ => Bool) (res env st.H fun vs => K (.ret (oneOf vs)) st.H st.nx) (fun _ _ _ => leaveK P calld rs env st.dfs .returning st.H st.nx K) st.dfs

def bodyX (P : Program) (calld : CallD) (rs : List ResultVar) (res : Env → Heap → (List AVal → Bool) → Bool) (K : KEnd) (e : AExit) (env : Env) (st : St) : Bool :=
  AExit.rec (motive := fun _ => Bool) (endX P calld rs res K env st) (fun _ => false) (endX P calld rs res K env st) (fun l => leaveK P calld rs env st.dfs (.panicking l) st.H st.nx K) e

def bodyD (res : Env → Heap → (List AVal → Bool) → Bool) (K : AEnd → AMode → Heap → Nat → Bool) (e : AExit) (env : Env) (st : St) : Bool :=
  match e, st.dfs, st.rc with
  | .normal, [], some m' => res env st.H fun vs => K (.ret (oneOf vs)) m' st.H st.nx
  | .ret, [], some m' => res env st.H fun vs => K (.ret (oneOf vs)) m' st.H st.nx
  | .pan l, [], some m' => K (.pan l) m' st.H st.nx
  | _, _, _ => false

/-- What is known of some functions beside their texts: the values that they may return, nothing that is known being turned. -/
abbrev Orc := FuncId → List AVal → Option (List AVal)

def allV (l : List AVal) (k : AVal → Bool) : Bool := List.rec (motive := fun _ => Bool) true (fun v _ ih => Bool.rec false ih (k v)) l

theorem allV_ok {k : AVal → Bool} : ∀ {l : List AVal}, allV l k = true → ∀ v, v ∈ l → k v = true
  | [], _, v, hv => by cases hv
  | x :: l, h, v, hv => by
    obtain ⟨h1, h2⟩ := brec_ok (show (Bool.rec false (allV l k) (k x) : Bool) = true from h)
    rcases List.mem_cons.1 hv with rfl | hv
    · exact h1
    · exact allV_ok h2 v hv

theorem Glob.none {σ : Sg} {w : World} (h : Glob σ w) : Glob (fun _ => Option.none) w :=
  ⟨fun g l hg => ⟨(h.var g l hg).1, (fun _ _ e => by cases e), (h.var g l hg).2.2⟩, fun g l hg => ⟨(h.blk g l hg).1, (fun _ _ e => by cases e), (h.blk g l hg).2.2⟩⟩

def OrcOK (P : Program) (orc : Orc) : Prop :=
  ∀ f args l, orc f args = some l → ∀ (σ : Sg) (w : World) (args' : List Value), Glob (fun _ => none) w → DenL σ args args' →
    Calls P f ⟨args'⟩ w fun e w' => (∃ v v', v ∈ l ∧ Den σ v v' ∧ e = .returned v') ∧ w'.tape = w.tape ∧ Kept w w'

def runF (call : CallK) (calld : CallD) (P : Program) (c : CFn) (args : List AVal) (H : Heap) (nx : Nat) (K : KEnd) : Bool :=
  CFn.rec (motive := fun _ => CallK → CallD → List AVal → Heap → Nat → KEnd → Bool) (fun _ _ _ _ _ _ => false)
    (fun nt code rs res call calld args H nx K => Bool.rec false (code (enterF args) ⟨call, H, nx, [], none⟩ (bodyX P calld rs res K)) (Nat.ble (lenF args) nt)) c call calld args H nx K

def orcF (o : Option (List AVal)) (H : Heap) (nx : Nat) (K : KEnd) (rest : Bool) : Bool :=
  Option.rec (motive := fun _ => Heap → Nat → KEnd → Bool → Bool) (fun _ _ _ rest => rest) (fun l H nx K _ => allV l fun v => K (.ret v) H nx) o H nx K rest

/-- Calls of all kinds, so deep at most; some are known otherwise. -/
abbrev Wr := CallK → CallK

def fCallsW (P : Program) (W : Wr) (n : Nat) : CallK × CallD :=
  Nat.rec (motive := fun _ => CallK × CallD) (fun _ _ _ _ _ => false, fun _ _ _ _ _ _ => false)
    (fun _ ih => (
      W fun f args H nx K => runF ih.1 ih.2 P (cFun P f) args H nx K,
      fun f args m H nx K => match cFun P f, hasBody P f with
        | .yes nt code _ res, true => match Nat.ble (lenF args) nt with
          | true => code (enterF args) ⟨ih.1, H, nx, [], some m⟩ (bodyD res K)
          | false => false
        | _, _ => false)) n

def orcW (orc : Orc) : Wr := fun c f args H nx K => orcF (orc f args) H nx K (c f args H nx K)

def fCalls (P : Program) (orc : Orc) (n : Nat) : CallK × CallD := fCallsW P (orcW orc) n

end

/-! ### That they are right -/
def TriCD (P : Program) (f : FuncId) (args : List AVal) (m : AMode) (H : Heap) (nx : Nat) (K : AEnd → AMode → Heap → Nat → Bool) : Prop :=
  ∀ (σ : Sg) (w : World) (args' : List Value) (u : FrameMode) (R : Ending → FrameMode → World → Prop), Rel σ H nx w → DenL σ args args' → MRel σ m u →
    (∀ e m' H' nx' σ' w' en u', K e m' H' nx' = true → Rel σ' H' nx' w' → Ext σ σ' H H' nx nx' w w' → EndRel σ' e en → MRel σ' m' u' → R en u' w') → CallsD P f ⟨args'⟩ u w R

def CallDS (P : Program) (calld : CallD) : Prop := ∀ f args m H nx K, calld f args m H nx K = true → hasBody P f = true ∧ TriCD P f args m H nx K

theorem leaveK_okK {P : Program} {calld : CallD} (hcd : CallDS P calld) {fn : Func} {nt : Nat} {env : Env} :
    ∀ (dfs : Dfs) (m : AMode) (H : Heap) (nx : Nat) (K : KEnd), leaveK P calld fn.results.toList env dfs m H nx K = true →
      ∀ σ w u ds tmps R, Rel σ H nx w → EnvRel σ nt env tmps → DfsRel σ dfs ds → MRel σ m u →
        (∀ e H' nx' σ' w' en, K e H' nx' = true → Rel σ' H' nx' w' → Ext σ σ' H H' nx nx' w w' → EndRel σ' e en → R en w') → Leaves P fn tmps R ds u w
  | [], m, H, nx, K, h => by
    intro σ w u ds tmps R hr he hdf hm hR
    cases m with
    | returning =>
      have h' : (match resultsA P env H fn.results.toList with | some vs => K (.ret (oneOf vs)) H nx | none => false) = true := h
      split at h' <;> first | (cases h'; done) | skip
      rename_i vs hvs
      cases hdf
      cases u <;> first | exact hm.elim | skip
      obtain ⟨v', dv, hrun⟩ := results_ok hr he hvs
      exact ⟨v', hrun, hR _ _ _ σ w _ h' hr (Ext.refl _ _ _ _) dv⟩
    | panicking l =>
      cases hdf
      cases u <;> first | exact hm.elim | skip
      exact hR (.pan l) H nx σ w _ h hr (Ext.refl _ _ _ _) hm
  | (f, args) :: dfs, m, H, nx, K, h => by
    obtain ⟨hbody, tri⟩ := hcd f args m H nx _ h
    intro σ w u ds tmps R hr he hdf hm hR
    cases hdf with
    | @cons _ _ d _ l' hd ht =>
      obtain ⟨cap, htar, hargs⟩ := hd
      refine ⟨mode_ne hm, .func f, cap, f, d.args ++ cap, htar, ?_, ?_⟩
      · rw [htar]
        simp only [invoke]
        exact run_callFunc hbody _ w
      · have hl : (⟨(d.args ++ cap).toList⟩ : Array Value) = d.args ++ cap := rfl
        rw [← hl]
        refine tri σ w _ u _ hr hargs hm fun e m' H1 nx1 σ1 w1 en u1 hk R1 E1 X1 M1 => ?_
        cases e with
        | ret v =>
          cases en with
          | returned v' => exact leaveK_okK hcd dfs _ H1 nx1 K hk σ1 w1 (settle u1) l' tmps R R1 (he.mono E1.sub) (ht.mono E1.sub) (settle_ok M1) fun e2 H2 nx2 σ2 w2 en2 hk2 R2 E2 X2 => hR e2 H2 nx2 σ2 w2 en2 hk2 R2 (E1.trans E2) X2
          | panicked c => exact X1.elim
          | outgrown => exact X1.elim
        | pan l =>
          cases en with
          | returned v' => exact X1.elim
          | panicked c => exact leaveK_okK hcd dfs _ H1 nx1 K hk σ1 w1 (raised u1 c) l' tmps R R1 (he.mono E1.sub) (ht.mono E1.sub) (raised_ok M1 X1) fun e2 H2 nx2 σ2 w2 en2 hk2 R2 E2 X2 => hR e2 H2 nx2 σ2 w2 en2 hk2 R2 (E1.trans E2) X2
          | outgrown => exact X1.elim

/-- Nothing that is known is turned where every old block is as it was. -/
theorem Rel.kept {σ : Sg} {H : Heap} {nx : Nat} {w w' : World} (h : Rel σ H nx w) (k : Kept w w') : Rel σ H nx w' := by
  have hb : ∀ b cb sz, σ b = some (cb, sz) → w'.heap[cb]? = w.heap[cb]? := fun b cb sz e => k.2.2.2 cb (h.dom b cb sz e).2
  exact ⟨h.lim, fun b cb sz e => ⟨(h.dom b cb sz e).1, Nat.lt_of_lt_of_le (h.dom b cb sz e).2 k.2.2.1⟩, fun b o cb sz e1 e2 => (h.obj b o cb sz e1 e2).of_block (hb b cb sz e2), h.sep, h.sup, h.old, h.glob.of k.2.2.1 (fun i hi _ => k.2.2.2 i hi) fun b _ sz e _ => ⟨b, sz, e⟩⟩

theorem Ext.kept (σ : Sg) (H : Heap) (nx : Nat) {w w' : World} (k : Kept w w') (ht : w'.tape = w.tape) : Ext σ σ H H nx nx w w' :=
  ⟨fun _ _ h => h, fun b _ sz h _ => ⟨b, sz, h⟩, fun _ _ h => ⟨h, rfl⟩, Nat.le_refl _, k.1, ht, k.2.1, k.2.2.1, fun i hi _ => k.2.2.2 i hi⟩

def WrOK (P : Program) (W : Wr) : Prop := ∀ c, CallS P c → CallS P (W c)

theorem orcW_ok {P : Program} {orc : Orc} (ho : OrcOK P orc) : WrOK P (orcW orc) := by
  intro c hc f args H nx K h
  have h' : orcF (orc f args) H nx K (c f args H nx K) = true := h
  cases eo : orc f args with
  | some l =>
    rw [eo] at h'
    have h2 : allV l (fun v => K (.ret v) H nx) = true := h'
    intro σ w args' R hr hda hR
    refine (ho f args l eo σ w args' hr.glob.none hda).mono fun e w' ⟨⟨v, v', hv, dv, he⟩, ht, hk⟩ => ?_
    subst he
    exact hR (.ret v) H nx σ w' _ (allV_ok h2 v hv) (hr.kept hk) (Ext.kept σ H nx hk ht) dv
  | none =>
    rw [eo] at h'
    exact hc f args H nx K h'

theorem fCallsW_ok {P : Program} {W : Wr} (hm : P.follows .mixedOrders = true) (ho : WrOK P W) : ∀ n, CallS P (fCallsW P W n).1 ∧ CallDS P (fCallsW P W n).2 := by
  intro n
  induction n with
  | zero => exact ⟨(fun f args H nx K h => Bool.noConfusion h), (fun f args m H nx K h => Bool.noConfusion h)⟩
  | succ n ih =>
    obtain ⟨ih1, ih2⟩ := ih
    refine ⟨ho _ ?_, ?_⟩
    · intro f args H nx K h
      have h2 : runF (fCallsW P W n).1 (fCallsW P W n).2 P (cFun P f) args H nx K = true := h
      cases ec : cFun P f with
      | no => rw [ec] at h2; exact Bool.noConfusion h2
      | yes nt code rs res =>
        rw [ec] at h2
        obtain ⟨fn, c, hf, hb, hnt, hn', hcode, hrs, hres⟩ := cFun_ok ec
        obtain ⟨hl, h3⟩ := brec_ok (show (Bool.rec false (code (enterF args) ⟨(fCallsW P W n).1, H, nx, [], none⟩ (bodyX P (fCallsW P W n).2 rs res K)) (Nat.ble (lenF args) nt) : Bool) = true from h2)
        have hl' : args.length ≤ nt := by have := Nat.le_of_ble_eq_true hl; rwa [lenF_eq] at this
        intro σ w args' R hr hda hR
        refine calls_of_wp_defers hf hb ?_
        rw [← hcode] at h3
        have hEnv := enter_rel hn' hl' hda
        rw [← enterF_eq] at hEnv
        subst hnt
        refine cCode_none hm c (enterF args) ⟨(fCallsW P W n).1, H, nx, [], none⟩ _ ih1 rfl h3 σ w _ _ hr ⟨hEnv, .nil⟩ ?_
        intro ex env' st' σ' w' a' e hk hcl hrc R1 E1 A1 X1
        have fin : ∀ m u, MRel σ' m u → leaveK P (fCallsW P W n).2 fn.results.toList env' st'.dfs m st'.H st'.nx K = true → Leaves P fn a'.tmps R a'.defers u w' := by
          intro m u hmu hlv
          exact leaveK_okK (fn := fn) (nt := fn.ntmps) ih2 st'.dfs m st'.H st'.nx K hlv σ' w' u a'.defers a'.tmps R R1 A1.env A1.dfs hmu
            fun e2 H2 nx2 σ2 w2 en2 hk2 R2 E2 X2 => hR e2 H2 nx2 σ2 w2 en2 hk2 R2 (E1.trans E2) X2
        have fin2 : endX P (fCallsW P W n).2 rs res K env' st' = true → Leaves P fn a'.tmps R a'.defers .returning w' := by
          intro he
          unfold endX at he
          cases hdf : st'.dfs with
          | nil =>
            rw [hdf] at he
            have he' : res env' st'.H (fun vs => K (.ret (oneOf vs)) st'.H st'.nx) = true := he
            rw [← hres] at he'
            obtain ⟨vs, hvs, hk2⟩ := cRes_ok he'
            have hA := A1.dfs
            rw [hdf] at hA
            have hdn : a'.defers = [] := by cases hq : a'.defers with | nil => rfl | cons x y => rw [hq] at hA; cases hA
            rw [hdn]
            rw [hrs] at hvs
            obtain ⟨v', dv, hrun⟩ := results_ok (fn := fn) R1 A1.env hvs
            exact ⟨v', hrun, hR _ _ _ σ' w' _ hk2 R1 E1 dv⟩
          | cons d ds =>
            rw [hdf] at he
            have he' : leaveK P (fCallsW P W n).2 rs env' (d :: ds) .returning st'.H st'.nx K = true := he
            rw [← hdf, hrs] at he'
            exact fin .returning .returning trivial he'
        cases ex with
        | normal => cases e <;> first | exact X1.elim | exact fin2 hk
        | ret => cases e <;> first | exact X1.elim | exact fin2 hk
        | pan l =>
          cases e <;> first | exact X1.elim | skip
          have hk' : leaveK P (fCallsW P W n).2 rs env' st'.dfs (.panicking l) st'.H st'.nx K = true := hk
          rw [hrs] at hk'
          exact fin (.panicking l) (.panicking _) X1 hk'
        | exit i => exact Bool.noConfusion hk
    · intro f args m H nx K h
      have h' : (match cFun P f, hasBody P f with
        | .yes nt code _ res, true => match Nat.ble (lenF args) nt with
          | true => code (enterF args) ⟨(fCallsW P W n).1, H, nx, [], some m⟩ (bodyD res K)
          | false => false
        | _, _ => false) = true := h
      split at h' <;> first | (exact Bool.noConfusion h') | skip
      rename_i nt code rs res ec hbody
      split at h' <;> first | (exact Bool.noConfusion h') | skip
      rename_i hl
      obtain ⟨fn, c, hf, hb, hnt, hn', hcode, hrs, hres⟩ := cFun_ok ec
      have hl' : args.length ≤ nt := by have := Nat.le_of_ble_eq_true hl; rwa [lenF_eq] at this
      refine ⟨hbody, fun σ w args' u R hr hda hmr hR => ?_⟩
      refine callsD_of_wpS hf hb fun c₀ cs hu => ?_
      have hc0 : ({ c₀ with mode := u } : Frame) = c₀ := by subst hu; rfl
      rw [← hcode] at h'
      have hEnv := enter_rel hn' hl' hda
      rw [← enterF_eq] at hEnv
      subst hnt
      have := cCode_some hm c (enterF args) ⟨(fCallsW P W n).1, H, nx, [], some m⟩ _ m ih1 rfl h' σ w { tmps := (⟨args'⟩ : Array Value) ++ Array.replicate (fn.ntmps - (⟨args'⟩ : Array Value).size) undef, defers := [] } u c₀ cs (bodyPostS P fn c₀ cs R) hr ⟨hEnv, .nil⟩ hmr ?_
      · rw [hc0] at this; exact this
      · intro ex env' st' m' σ' w' a' e u' hk hcl hrc R1 E1 A1 X1 M1
        unfold bodyD at hk
        have hdn : st'.dfs = [] → a'.defers = [] := fun hdf => by
          have hA := A1.dfs
          rw [hdf] at hA
          cases hq : a'.defers with
          | nil => rfl
          | cons x y => rw [hq] at hA; cases hA
        split at hk <;> first | (exact Bool.noConfusion hk) | skip
        · rename_i m2 hdf hrc2
          rw [hrc] at hrc2
          cases hrc2
          cases e <;> first | exact X1.elim | skip
          rw [← hres] at hk
          obtain ⟨vs, hvs, hk2⟩ := cRes_ok hk
          rw [hrs] at hvs
          obtain ⟨v', dv, hrun⟩ := results_ok (fn := fn) R1 A1.env hvs
          exact ⟨hdn hdf, u', rfl, v', hrun, hR _ _ _ _ σ' w' _ u' hk2 R1 E1 dv M1⟩
        · rename_i m2 hdf hrc2
          rw [hrc] at hrc2
          cases hrc2
          cases e <;> first | exact X1.elim | skip
          rw [← hres] at hk
          obtain ⟨vs, hvs, hk2⟩ := cRes_ok hk
          rw [hrs] at hvs
          obtain ⟨v', dv, hrun⟩ := results_ok (fn := fn) R1 A1.env hvs
          exact ⟨hdn hdf, u', rfl, v', hrun, hR _ _ _ _ σ' w' _ u' hk2 R1 E1 dv M1⟩
        · rename_i l m2 hdf hrc2
          rw [hrc] at hrc2
          cases hrc2
          cases e <;> first | exact X1.elim | skip
          exact ⟨hdn hdf, u', rfl, hR _ _ _ _ σ' w' _ u' hk R1 E1 X1 M1⟩

theorem fCalls_ok {P : Program} {orc : Orc} (hm : P.follows .mixedOrders = true) (ho : OrcOK P orc) (n : Nat) : CallS P (fCalls P orc n).1 ∧ CallDS P (fCalls P orc n).2 := fCallsW_ok hm (orcW_ok ho) n

noncomputable def isT (e : AEnd) : Bool := AEnd.rec (motive := fun _ => Bool) (fun v => vBool v true false) (fun _ => false) e

/-- A call from nothing, that returns true. -/
noncomputable def runT (P : Program) (orc : Orc) (f : FuncId) (n : Nat) (args : List AVal) : Bool := (fCalls P orc n).1 f args (all5 none) 0 fun e _ _ => isT e

def noOrc : Orc := fun _ _ => none
theorem noOrc_ok (P : Program) : OrcOK P noOrc := fun _ _ _ h => by cases h

theorem runT_ok {P : Program} {orc : Orc} {f : FuncId} {n : Nat} {args : List AVal} (hm : P.follows .mixedOrders = true) (ho : OrcOK P orc) (h : runT P orc f n args = true) {w : World} (hg : Glob (fun _ => none) w) (args' : List Value) (hd : DenL (fun _ => none) args args') :
    Calls P f ⟨args'⟩ w fun e w' => e = .returned (.bool true) ∧ w'.tape = w.tape ∧ Kept w w' := by
  refine (fCalls_ok hm ho n).1 f args (all5 none) 0 _ h (fun _ => none) w args' _ (Rel.nothing hg) hd fun e H' nx' σ' w' en hk R E he => ?_
  cases e with
  | pan l => exact Bool.noConfusion hk
  | ret v =>
    have hk' : vBool v true false = true := hk
    rcases vBool_ok hk' with ⟨rfl, _⟩ | ⟨_, hf⟩
    · cases en with
      | returned v' =>
        have he' : Den σ' (.bool true) v' := he
        cases he'
        exact ⟨rfl, E.tape, E.os, E.output, E.size, fun i hi => E.frame i hi fun b sz h => by cases h⟩
      | panicked c => exact he.elim
      | outgrown => exact he.elim
    · exact Bool.noConfusion hf

/-- A sentence that was run is known to be true from then on. -/
noncomputable def trueOrc (g : FuncId) (orc : Orc) : Orc := fun f args => Bool.rec (orc f args) (List.rec (some [.bool true]) (fun _ _ _ => none) args) (Nat.beq f g)

theorem trueOrc_ok {P : Program} {orc : Orc} {g : FuncId} {n : Nat} (hm : P.follows .mixedOrders = true) (ho : OrcOK P orc) (h : runT P orc g n [] = true) : OrcOK P (trueOrc g orc) := by
  intro f args l hl σ w args' hg hd
  unfold trueOrc at hl
  cases hf : Nat.beq f g with
  | false => rw [hf] at hl; exact ho f args l hl σ w args' hg hd
  | true =>
    rw [hf] at hl
    have := Nat.eq_of_beq_eq_true hf
    subst this
    cases args with
    | cons a as => cases hl
    | nil =>
      cases hl
      cases hd
      exact (runT_ok hm ho h hg [] .nil).mono fun e w' ⟨h1, h2, h3⟩ => ⟨⟨.bool true, .bool true, List.mem_singleton.2 rfl, .bool true, h1⟩, h2, h3⟩

omit [GTab] in
/-- Nothing is known of package-level variables. -/
theorem glob_none (h : GTab) (hn : ∀ g, h.tab g = none) (hb : ∀ g, h.blk g = none) (σ : Sg) (w : World) : @Glob h σ w := ⟨fun g l hg => (by rw [hn g] at hg; cases hg), fun g l hg => (by rw [hb g] at hg; cases hg)⟩

end Go.Ev
