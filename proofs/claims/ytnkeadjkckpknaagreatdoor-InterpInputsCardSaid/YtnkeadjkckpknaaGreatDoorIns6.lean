/-
  Own work. Texts of a proof, laid together; no condition.
-/
import Derived.Test.YtnkeadjkckpknaaGreatDoorChecked
import Derived.Shelf.Strings.Count
import Derived.Shelf.Strings.Search1
import Derived.WalkKit
import Derived.ProofKit
import Derived.Shelf.Strconv.Itoa4
import Derived.Lib.LaidTab
import Derived.Test.YtnkeadjkckpknaaGreatDoorIns5
import Derived.Test.YtnkeadjkckpknaaGreatDoorIns4
set_option linter.unusedSectionVars false
set_option linter.unusedVariables false
set_option linter.unusedSimpArgs false
set_option maxRecDepth 1000000
section
namespace Go.Vs
open Go.Proofs
variable [GTab]
abbrev vn := Int → Int → Option (Int × Int × Int)
def Mst.stepC (num : Int → List UInt8) (code : vn) (nums : Int → Option Int) (S : Mst) : Option Out :=
 match code S.top.f S.top.pc with
 | none => none
 | some (op, a, b) =>
  if op = 36 then (match code a (-1) with
   | some x => S.calls x.2.1.toNat a b
   | none => none)
  else if op = 37 then none
  else if op = 41 then some (S.ret a)
  else match S.jump op a with
   | some S' => some (.go S')
   | none => match S.does num nums op a with
    | none => none
    | some (S', t) => if t = 0 then some (.go { S' with top := { S'.top with pc := IntKind.i64.wrap (S'.top.pc + 1) } }) else some (.go { S' with state := 2, trap := t })
structure CodeOK (code : vn) (nums : Int → Option Int) (Γ0 : GH) (pg : Pg) : Prop where
 instr : ∀ f pc x, x.1 ≠ 37 → code f pc = some x → vb Γ0 pg.funcs f pc = some x
 nums : ∀ k n, nums k = some n → ko Γ0 pg.nums k = some n
 locals : ∀ f x, code f (-1) = some x → kP Γ0 pg.funcs f = some x.2.1.toNat
theorem Vr {num : Int → List UInt8} {code : vn} {nums : Int → Option Int} {Γ0 : GH} {pg : Pg} {S : Mst} {o : Out} (c : CodeOK code nums Γ0 pg) (h : S.stepC num code nums = some o) : S.step num Γ0 pg = some o := by
 unfold Mst.stepC at h
 unfold Mst.step
 cases hi : code S.top.f S.top.pc with
 | none => rw [hi] at h; cases h
 | some x =>
  obtain ⟨op, a, b⟩ := x
  rw [hi] at h
  have h37 : op ≠ 37 := by
   intro e
   subst e
   dsimp only at h
   rw [if_neg (by omega), if_pos rfl] at h
   cases h
  rw [c.instr _ _ _ h37 hi]
  dsimp only at h ⊢
  by_cases h0 : op = 36
  ·rw [if_pos h0] at h ⊢
   cases hl : code a (-1) with
   | none => rw [hl] at h; cases h
   | some x =>
    rw [hl] at h
    rw [c.locals _ _ hl]
    exact h
  rw [if_neg h0] at h ⊢
  by_cases h1 : op = 37
  ·rw [if_pos h1] at h; cases h
  rw [if_neg h1] at h ⊢
  by_cases h2 : op = 41
  ·rw [if_pos h2] at h ⊢; exact h
  rw [if_neg h2] at h ⊢
  cases hj : S.jump op a with
  | some S' => rw [hj] at h; exact h
  | none =>
   rw [hj] at h
   dsimp only at h ⊢
   cases hd : S.does num nums op a with
   | none => rw [hd] at h; cases h
   | some r =>
    rw [hd] at h
    rw [JD c.nums hd]
    exact h
def nnL (l : List Int) : Prop := ∀ x, x ∈ l → 0 ≤ x
theorem nnL.snoc {l : List Int} {v : Int} (h : nnL l) (hv : 0 ≤ v) : nnL (l ++ [v]) := fun x hx => by
 rcases List.mem_append.1 hx with h1 | h1
 ·exact h x h1
 ·rw [List.mem_singleton] at h1; omega
theorem nnL.drop {l : List Int} {n : Nat} (h : nnL l) : nnL (jd n l) := fun x hx => h x (List.mem_of_mem_take hx)
theorem nnL.set {l : List Int} {i : Nat} {v : Int} (h : nnL l) (hv : 0 ≤ v) : nnL (l.set i v) := fun x hx => by
 rcases List.mem_or_eq_of_mem_set hx with h1 | h1
 ·exact h x h1
 ·omega
theorem nnL.getD {l : List Int} {i : Nat} (h : nnL l) : 0 ≤ l.getD i 0 := by
 simp only [List.getD]
 cases e : l[i]? with
 | none => simp
 | some x => exact h x (List.mem_of_getElem? e)
theorem nnL.pk {l : List Int} {i : Nat} (h : nnL l) : 0 ≤ Go.Vs.pk l i := by
 unfold Go.Vs.pk; split
 ·exact h.getD
 ·omega
theorem kF (n : Nat) (l : List Int) : (jd n l).length = l.length - n := by unfold jd; rw [List.length_take]; omega
theorem kT (n : Int) : 0 ≤ IntKind.u64.wrap n := by simp only [IntKind.wrap, IntKind.signed, IntKind.bits]; simp; omega
theorem WP (b : Bool) : 0 ≤ bitI b := by cases b <;> simp [bitI]
structure FmOK (k : Nat) (f : Fm) : Prop where
 st : f.st.length + k < 1000000
 nn : nnL f.st
 ls : nnL f.ls
structure WdOK (k : Nat) (W : Wd) : Prop where
 words : (W.words.length : Int) ≤ W.room + 1
 wn : nnL W.words
 lines : W.lines.length + k < 1000000
 inputs : W.inputs.length < 1000000
 taken : W.taken ≤ W.inputs.length
 room0 : 0 ≤ W.room
 room1 : W.room < 900000
 lits : nnL W.lits
structure Mst.FineN (k : Nat) (S : Mst) : Prop where
 top : FmOK k S.top
 low : S.low.length < 1000
 lows : ∀ f, f ∈ S.low → FmOK k f
 wd : WdOK k S.wd
section
variable {k : Nat}
theorem FmOK.less {f : Fm} {j : Nat} (h : FmOK k f) (e : j ≤ k) : FmOK j f := ⟨by have := h.st; omega, h.nn, h.ls⟩
theorem WdOK.less {W : Wd} {j : Nat} (h : WdOK k W) (e : j ≤ k) : WdOK j W := ⟨h.words, h.wn, by have := h.lines; omega, h.inputs, h.taken, h.room0, h.room1, h.lits⟩
theorem Mst.FineN.less {S : Mst} {j : Nat} (h : S.FineN k) (e : j ≤ k) : S.FineN j := ⟨h.top.less e, h.low, fun f hf => (h.lows f hf).less e, h.wd.less e⟩
theorem Mst.FineN.fine2 {S : Mst} (h : S.FineN k) : S.Fine2 :=
 ⟨⟨by have := h.top.st; omega, h.top.nn, by have := h.wd.words; have := h.wd.room1; omega, by have := h.wd.lines; omega, h.wd.inputs, h.wd.taken, h.wd.room0, by have := h.wd.room1; omega⟩, h.low, fun f hf => by have := (h.lows f hf).st; omega⟩
theorem Mst.FineN.setTop {S : Mst} {f : Fm} (h : S.FineN (k + 1)) (hf : FmOK k f) : ({ S with top := f } : Mst).FineN k := ⟨hf, h.low, fun f hf => (h.lows f hf).less (by omega), h.wd.less (by omega)⟩
theorem Mst.FineN.setWd {S : Mst} {W : Wd} (h : S.FineN k) (hf : WdOK k W) : ({ S with wd := W } : Mst).FineN k := ⟨h.top, h.low, h.lows, hf⟩
theorem Mst.FineN.st' {S : Mst} {l : List Int} (h : S.FineN (k + 1)) (hl : l.length ≤ S.top.st.length + 1) (hn : nnL l) : (S.st l).FineN k := h.setTop ⟨by have := h.top.st; show l.length + k < _; omega, hn, h.top.ls⟩
theorem Mst.FineN.push {S : Mst} {v : Int} (h : S.FineN (k + 1)) (hv : 0 ≤ v) : (S.push v).FineN k := h.st' (by simp) (h.top.nn.snoc hv)
theorem Mst.FineN.put {S : Mst} {v : Int} {n : Nat} (h : S.FineN (k + 1)) (hv : 0 ≤ v) : (S.put n v).FineN k := h.st' (by simp [kF]) (h.top.nn.drop.snoc hv)
theorem Mst.FineN.drp {S : Mst} {n : Nat} (h : S.FineN (k + 1)) : (S.st (jd n S.top.st)).FineN k := h.st' (by simp [kF]; omega) h.top.nn.drop
theorem WdOK.word {W : Wd} {a : Int} (h : WdOK k W) : 0 ≤ W.word a := by
 unfold Wd.word; split
 ·exact h.wn.getD
 ·omega
theorem WdOK.set {W : Wd} {r i v : Int} (h : WdOK k W) (hv : 0 ≤ v) : WdOK k (W.set r i v) := by
 unfold Wd.set; split
 ·exact h
 ·exact ⟨by simpa using h.words, h.wn.set hv, h.lines, h.inputs, h.taken, h.room0, h.room1, h.lits⟩
theorem WdOK.alloc {W W' : Wd} {t n r : Int} (h : WdOK k W) (e : W.alloc t n = some (W', r)) : WdOK k W' ∧ 0 ≤ r := by
 unfold Wd.alloc at e
 split at e
 ·cases e
 ·rename_i hc
  cases e
  refine ⟨⟨?_, ?_, h.lines, h.inputs, h.taken, h.room0, h.room1, h.lits⟩, by omega⟩
  ·have := h.words
   simp only [List.length_append, List.length_cons, List.length_nil, List.length_replicate]
   omega
  ·intro x hx
   rcases List.mem_append.1 hx with h1 | h1
   ·exact h.wn.snoc (kT _) x h1
   ·rw [List.mem_replicate] at h1; omega
theorem WdOK.input {W : Wd} (h : WdOK k W) : WdOK k W.input.1 ∧ 0 ≤ W.input.2 := by
 unfold Wd.input; split
 ·exact ⟨h, by simp⟩
 ·rename_i hc
  exact ⟨⟨h.words, h.wn, h.lines, h.inputs, by have := h.taken; show W.taken + 1 ≤ W.inputs.length; omega, h.room0, h.room1, h.lits⟩, kT _⟩
theorem WdOK.line {W : Wd} {s : List UInt8} (h : WdOK (k + 1) W) : WdOK k (W.line s) := by
 unfold Wd.line; split
 ·exact h.less (by omega)
 ·exact ⟨h.words, h.wn, by have := h.lines; simp; omega, h.inputs, h.taken, h.room0, h.room1, h.lits⟩
theorem W7 {S S' : Mst} {op a t : Int} (h : S.FineN (k + 1)) (e : S.part op a = some (S', t)) : S'.FineN k := by
 unfold Mst.part at e
 dsimp only at e
 have hw : ∀ {n : Nat} {W : Wd}, WdOK k W → (({ S with wd := W } : Mst).st (jd n S.top.st)).FineN k := fun {n W} hW => ⟨⟨by have := h.top.st; have := kF n S.top.st; show (jd n S.top.st).length + k < _; omega, h.top.nn.drop, h.top.ls⟩, h.low, fun f hf => (h.lows f hf).less (by omega), hW⟩
 split at e
 ·split at e <;> cases e
  ·exact h.less (by omega)
  ·exact h.put h.wd.word
 split at e
 ·split at e <;> cases e
  ·exact h.less (by omega)
  ·exact hw ((h.wd.set h.top.nn.pk).less (by omega))
 split at e
 ·split at e
  ·cases e; exact h.less (by omega)
  ·split at e <;> cases e
   ·exact h.less (by omega)
   ·exact h.put h.wd.word
 split at e
 ·split at e
  ·cases e; exact h.less (by omega)
  ·split at e <;> cases e
   ·exact h.less (by omega)
   ·exact hw ((h.wd.set h.top.nn.pk).less (by omega))
 cases e
theorem W0 {S : Mst} {a : Int} (h : S.FineN (k + 1)) : (S.make a).1.FineN k := by
 unfold Mst.make
 split
 ·exact h.less (by omega)
 ·cases e : S.wd.slice a (IntKind.i64.wrap (pk S.top.st 0)) with
  | none => exact h.less (by omega)
  | some r =>
   obtain ⟨W, r⟩ := r
   unfold Wd.slice at e
   split at e
   ·cases e
   ·split at e
    ·cases e
    ·obtain ⟨h1, h2⟩ := h.wd.alloc e
     exact Mst.FineN.put (h.setWd h1) h2
theorem qay {op a b r : Int} (h : yF op a b = some r) : 0 ≤ r := by
 unfold yF at h
 repeat' split at h
 all_goals first | (cases h; done) | (cases h; first | exact kT _ | exact WP _)
theorem qat (op a b : Int) : 0 ≤ Kv op a b := by unfold Kv; split <;> exact kT _
theorem W5 {num : Int → List UInt8} {nums : Int → Option Int} {S S' : Mst} {op a t : Int} (h : S.FineN (k + 1)) (e : S.does num nums op a = some (S', t)) : S'.FineN k := by
 unfold Mst.does at e
 dsimp only at e
 by_cases h1 : op = 1
 ·rw [if_pos h1] at e
  cases hq : nums a with
  | none => rw [hq] at e; cases e
  | some n => rw [hq] at e; cases e; exact h.push (kT _)
 rw [if_neg h1] at e
 by_cases h2 : op = 2
 ·rw [if_pos h2] at e; cases e; exact h.push (kT _)
 rw [if_neg h2] at e
 by_cases h3 : op = 3
 ·rw [if_pos h3] at e; cases e
  refine h.push ?_
  unfold Wd.lit
  split
  ·omega
  ·split
   ·omega
   ·exact h.wd.lits.getD
 rw [if_neg h3] at e
 by_cases h4 : op = 4
 ·rw [if_pos h4] at e; cases e; exact h.push (by omega)
 rw [if_neg h4] at e
 by_cases h5 : op = 5
 ·rw [if_pos h5] at e
  split at e <;> cases e
  exact h.push h.top.ls.getD
 rw [if_neg h5] at e
 by_cases h6 : op = 6
 ·rw [if_pos h6] at e
  split at e <;> cases e
  exact h.setTop ⟨by have := h.top.st; have := kF 1 S.top.st; show (jd 1 S.top.st).length + k < _; omega, h.top.nn.drop, h.top.ls.set h.top.nn.pk⟩
 rw [if_neg h6] at e
 by_cases h7 : op = 7
 ·rw [if_pos h7] at e; cases e; exact h.drp
 rw [if_neg h7] at e
 by_cases h13 : op = 13
 ·rw [if_pos h13] at e; cases e; exact h.put (kT _)
 rw [if_neg h13] at e
 by_cases h14 : op = 14
 ·rw [if_pos h14] at e; cases e; exact h.put (WP _)
 rw [if_neg h14] at e
 by_cases hd : op = 11 ∨ op = 12
 ·rw [if_pos hd] at e
  split at e
  ·cases e; exact h.less (by omega)
  ·split at e <;> cases e
   exact h.put (qat _ _ _)
 rw [if_neg hd] at e
 by_cases hq : op = 28 ∨ op = 29 ∨ op = 30 ∨ op = 31
 ·rw [if_pos hq] at e; exact W7 h e
 rw [if_neg hq] at e
 by_cases h33 : op = 33
 ·rw [if_pos h33] at e; cases e; exact h.put (kT _)
 rw [if_neg h33] at e
 by_cases h35 : op = 35
 ·rw [if_pos h35] at e
  have e' : S.make a = (S', t) := by simpa using e
  have := W0 (a := a) h
  rw [e'] at this; exact this
 rw [if_neg h35] at e
 by_cases h39 : op = 39
 ·rw [if_pos h39] at e
  cases hs : Je num a (pk S.top.st 0) with
  | none => rw [hs] at e; cases e
  | some s =>
   rw [hs] at e; cases e
   exact ⟨⟨by have := h.top.st; have := kF 1 S.top.st; show (jd 1 S.top.st).length + k < _; omega, h.top.nn.drop, h.top.ls⟩, h.low, fun f hf => (h.lows f hf).less (by omega), h.wd.line⟩
 rw [if_neg h39] at e
 by_cases h40 : op = 40
 ·rw [if_pos h40] at e; cases e
  obtain ⟨i1, i2⟩ := h.wd.input
  exact Mst.FineN.push (h.setWd i1) i2
 rw [if_neg h40] at e
 cases hs : yF op (pk S.top.st 1) (pk S.top.st 0) with
 | none => rw [hs] at e; cases e
 | some s => rw [hs] at e; cases e; exact h.put (qay hs)
theorem W1 {S S' : Mst} {op a : Int} (h : S.FineN (k + 1)) (e : S.jump op a = some S') : S'.FineN k := by
 unfold Mst.jump at e
 have hd := kF 1 S.top.st
 have hs := h.top.st
 split at e
 ·cases e; exact h.setTop (h.top.less (by omega) |> fun q => ⟨q.st, q.nn, q.ls⟩)
 ·split at e
  ·split at e <;> cases e
   ·exact h.setTop ⟨by show (jd 1 S.top.st).length + k < _; omega, h.top.nn.drop, h.top.ls⟩
   ·exact h.setTop ⟨by show (jd 1 S.top.st).length + k < _; omega, h.top.nn.drop, h.top.ls⟩
  ·cases e
theorem Yh {S S' : Mst} {a : Int} (h : S.FineN (k + 1)) (e : S.ret a = .go S') : S'.FineN k := by
 unfold Mst.ret at e
 cases hl : S.low.getLast? with
 | none => rw [hl] at e; cases e
 | some f =>
  rw [hl] at e; cases e
  have hf : f ∈ S.low := List.mem_of_getLast? hl
  have q := h.lows f hf
  refine ⟨⟨?_, ?_, q.ls⟩, ?_, fun g hg => (h.lows g (List.dropLast_subset _ hg)).less (by omega), h.wd.less (by omega)⟩
  ·show (if a = 1 then f.st ++ [pk S.top.st 0] else f.st).length + k < _
   have := q.st
   split <;> simp <;> omega
  ·show nnL (if a = 1 then f.st ++ [pk S.top.st 0] else f.st)
   split
   ·exact q.nn.snoc h.top.nn.pk
   ·exact q.nn
  ·have := h.low; show S.low.dropLast.length < _; simp; omega
theorem XJ {S S' : Mst} {n : Nat} {a b : Int} (h : S.FineN (k + 1)) (e : S.calls n a b = some (.go S')) : S'.FineN k := by
 unfold Mst.calls at e
 split at e <;> cases e
 rename_i hb
 have h1 := h.top.st
 refine ⟨⟨?_, ?_, ?_⟩, ?_, fun f hf => ?_, h.wd.less (by omega)⟩
 ·show 0 + k < 1000000; omega
 ·intro x hx; cases hx
 ·intro x hx
  rcases List.mem_append.1 hx with h2 | h2
  ·unfold jB at h2
   obtain ⟨i, _, rfl⟩ := List.mem_map.1 h2
   exact h.top.nn.pk
  ·rw [List.mem_replicate] at h2; omega
 ·show (S.low ++ [_]).length < 1000
  simp; omega
 ·rcases List.mem_append.1 hf with h2 | h2
  ·exact (h.lows f h2).less (by omega)
  ·rw [List.mem_singleton] at h2
   subst h2
   refine ⟨?_, h.top.nn.drop, h.top.ls⟩
   have := kF b.toNat S.top.st
   show (jd b.toNat S.top.st).length + k < 1000000
   omega
theorem Z9 {num : Int → List UInt8} {code : vn} {nums : Int → Option Int} {S S' : Mst} (h : S.FineN (k + 1)) (e : S.stepC num code nums = some (.go S')) : S'.FineN k := by
 unfold Mst.stepC at e
 split at e
 ·cases e
 ·rename_i op a b _
  split at e
  ·split at e
   ·exact XJ h e
   ·cases e
  split at e
  ·cases e
  split at e
  ·exact Yh h (Option.some.inj e)
  split at e
  ·rename_i S1 hj
   cases e; exact W1 h hj
  ·split at e
   ·cases e
   ·rename_i S1 t hd
    have q := W5 h hd
    split at e <;> cases e
    ·exact ⟨⟨q.top.st, q.top.nn, q.top.ls⟩, q.low, q.lows, q.wd⟩
    ·exact ⟨⟨q.top.st, q.top.nn, q.top.ls⟩, q.low, q.lows, q.wd⟩
end
def Mst.stepG (num : Int → List UInt8) (code : vn) (nums : Int → Option Int) (S : Mst) : Option Mst := if S.state = 0 then (match S.stepC num code nums with | some (.go S') => some S' | _ => none) else none
inductive Steps (num : Int → List UInt8) (code : vn) (nums : Int → Option Int) : Nat → Mst → Mst → Prop
 | refl (S : Mst) : Steps num code nums 0 S S
 | step {n : Nat} {S S1 S2 : Mst} (h : S.stepG num code nums = some S1) (t : Steps num code nums n S1 S2) : Steps num code nums (n + 1) S S2
section
variable {num : Int → List UInt8} {code : vn} {nums : Int → Option Int}
theorem Steps.trans {a b : Nat} {S1 S2 S3 : Mst} (h : Steps num code nums a S1 S2) (k : Steps num code nums b S2 S3) : Steps num code nums (a + b) S1 S3 := by
 induction h with
 | refl S => rw [Nat.zero_add]; exact k
 | step h t ih => rw [Nat.add_right_comm]; exact .step h (ih k)
theorem Steps.cast {a b : Nat} {S1 S2 S3 : Mst} (h : Steps num code nums a S1 S2) (e : a = b) (e2 : S2 = S3) : Steps num code nums b S1 S3 := by subst e; subst e2; exact h
theorem ZQ {S S' : Mst} (h : S.stepG num code nums = some S') : S.state = 0 ∧ S.stepC num code nums = some (.go S') := by
 unfold Mst.stepG at h
 split at h
 ·rename_i h0
  refine ⟨h0, ?_⟩
  split at h
  ·cases h; assumption
  ·cases h
 ·cases h
theorem Steps.fine {n k : Nat} {S S' : Mst} (h : Steps num code nums n S S') (f : S.FineN (n + k)) : S'.FineN k := by
 induction h with
 | refl S => rw [Nat.zero_add] at f; exact f
 | @step n S S1 S2 h t ih => exact ih (Z9 (k := n + k) (by rw [show n + k + 1 = n + 1 + k by omega]; exact f) (ZQ h).2)
theorem Steps.runs {Γ0 : GH} {pg : Pg} (c : CodeOK code nums Γ0 pg) {n k : Nat} {S S' : Mst} {o : Out} (h : Steps num code nums n S S') (f : S.FineN (n + k)) (t : Runs num Γ0 pg k S' o) : Runs num Γ0 pg (n + k) S o := by
 induction h with
 | refl S => rw [Nat.zero_add]; exact t
 | @step n S S1 S2 h _ ih =>
  obtain ⟨h0, hs⟩ := ZQ h
  have f1 : S.FineN (n + k + 1) := by rw [show n + k + 1 = n + 1 + k by omega]; exact f
  rw [show n + 1 + k = n + k + 1 by omega]
  exact .step f1.fine2 h0 (Vr c hs) (ih (Z9 f1 hs) t)
theorem Steps.over {Γ0 : GH} {pg : Pg} (c : CodeOK code nums Γ0 pg) {n fuel : Nat} {S S' : Mst} {W : Wd} (h : Steps num code nums n S S') (f : S.FineN fuel) (hn : n < fuel) (h0 : S'.state = 0) (e : S'.stepC num code nums = some (.over W)) : Runs num Γ0 pg fuel S (.over W) := by
 obtain ⟨k, rfl⟩ : ∃ k, fuel = n + (k + 1) := ⟨fuel - n - 1, by omega⟩
 exact h.runs c f (.over (h.fine f).fine2 h0 (Vr c e))
end
end Go.Vs
end
section
namespace Go.Vs
open Go.Proofs
variable [GTab]
abbrev Ins := Int × Int × Int
def jg (l : List (List Ins)) : vn := fun f pc => if 0 ≤ f ∧ 0 ≤ pc then (match l[f.toNat]? with | some c => c[pc.toNat]? | none => none) else none
def jr (l : List Int) : Int → Option Int := fun k => if 0 ≤ k then l[k.toNat]? else none
abbrev mk (pc : Int) (ls st : List Int) (W : Wd) : Mst := ⟨[], ⟨0, pc, ls, st⟩, W, 0, 0⟩
def wq (c : List Ins) : List AVal := c.flatMap fun x => [iv x.1, iv x.2.1, iv x.2.2]
theorem y6 : ∀ {c : List Ins} {k : Nat} {x : Ins}, c[k]? = some x → ((wq c).drop (k * 3)).take 3 = [iv x.1, iv x.2.1, iv x.2.2]
 | [], k, x, h => by simp at h
 | y :: c, 0, x, h => by simp at h; subst h; rfl
 | y :: c, k + 1, x, h => by
  simp at h
  have := y6 h
  show (([iv y.1, iv y.2.1, iv y.2.2] ++ wq c).drop ((k + 1) * 3)).take 3 = _
  rw [show (k + 1) * 3 = k * 3 + 1 + 1 + 1 by omega]
  exact this
structure ProgV (Γ0 : GH) (pg : Pg) (l : List (List Ins)) (ns : List Int) : Prop where
 funcs : ∃ b e full cs, pg.funcs = .slice b 0 l.length e full ∧ Γ0 b = some cs ∧ ∀ i c, l[i]? = some c → ∃ cb ce cf, cs[i * 5 + 4]? = some (.slice cb 0 c.length ce cf) ∧ Γ0 cb = some (wq c)
 nums : ∃ b e full, pg.nums = .slice b 0 ns.length e full ∧ Γ0 b = some (ns.map iv)
theorem ProgV.ok {Γ0 : GH} {pg : Pg} {l : List (List Ins)} {ns : List Int} (h : ProgV Γ0 pg l ns) : CodeOK (jg l) (jr ns) Γ0 pg := by
 refine ⟨fun f pc x _ hx => ?_, fun k n hk => ?_, fun f x hx => ?_⟩
 ·unfold jg at hx
  split at hx
  ·rename_i h0
   split at hx
   ·rename_i c hc
    obtain ⟨b, e, full, cs, h1, h2, h3⟩ := h.funcs
    obtain ⟨cb, ce, cf, h4, h5⟩ := h3 _ _ hc
    have hf : f.toNat < l.length := (List.getElem?_eq_some_iff.1 hc).1
    have hp : pc.toNat < c.length := (List.getElem?_eq_some_iff.1 hx).1
    have h6 := y6 hx
    unfold vb
    rw [h1]
    dsimp only
    rw [if_pos ⟨h0.1, by omega⟩, h2]
    dsimp only
    rw [Nat.zero_add, h4]
    dsimp only
    rw [if_pos ⟨h0.2, by omega⟩, h5]
    dsimp only
    rw [Nat.zero_add, h6]
   ·cases hx
  ·cases hx
 ·unfold jr at hk
  split at hk
  ·obtain ⟨b, e, full, h1, h2⟩ := h.nums
   have hf : k.toNat < ns.length := (List.getElem?_eq_some_iff.1 hk).1
   unfold ko
   rw [h1]
   dsimp only
   rw [if_pos ⟨by assumption, by omega⟩, h2]
   dsimp only
   rw [Nat.zero_add, List.getElem?_map, hk]
   rfl
  ·cases hk
 ·unfold jg at hx
  rw [if_neg (by omega)] at hx
  cases hx
theorem Kr {Γ Γ' : GH} {v : AVal} {f pc : Int} {x : Int × Int × Int} (hs : ∀ c ds, Γ c = some ds → Γ' c = some ds) (h : vb Γ v f pc = some x) : vb Γ' v f pc = some x := by
 unfold vb at h ⊢
 split at h <;> try (cases h; done)
 split at h <;> try (cases h; done)
 rename_i hf
 split at h <;> try (cases h; done)
 rename_i cs hc
 split at h <;> try (cases h; done)
 rename_i cb coff clen ez fl hcs
 split at h <;> try (cases h; done)
 rename_i hp
 split at h <;> try (cases h; done)
 rename_i ds hd
 rw [if_pos hf, hs _ _ hc]
 dsimp only
 rw [hcs]
 dsimp only
 rw [if_pos hp, hs _ _ hd]
 exact h
theorem V4 {Γ Γ' : GH} {v : AVal} {k n : Int} (hs : ∀ c ds, Γ c = some ds → Γ' c = some ds) (h : ko Γ v k = some n) : ko Γ' v k = some n := by
 unfold ko at h ⊢
 split at h <;> try (cases h; done)
 split at h <;> try (cases h; done)
 rename_i hk
 split at h <;> try (cases h; done)
 rename_i cs hc
 rw [if_pos hk, hs _ _ hc]
 exact h
theorem Jq {Γ Γ' : GH} {v : AVal} {f : Int} {n : Nat} (hs : ∀ c ds, Γ c = some ds → Γ' c = some ds) (h : kP Γ v f = some n) : kP Γ' v f = some n := by
 unfold kP at h ⊢
 split at h <;> try (cases h; done)
 split at h <;> try (cases h; done)
 rename_i hf
 split at h <;> try (cases h; done)
 rename_i cs hc
 rw [if_pos hf, hs _ _ hc]
 exact h
theorem CodeOK.mono {code : vn} {nums : Int → Option Int} {Γ Γ' : GH} {pg : Pg} (h : CodeOK code nums Γ pg) (hs : ∀ c ds, Γ c = some ds → Γ' c = some ds) : CodeOK code nums Γ' pg :=
 ⟨fun f pc x e0 e => Kr hs (h.instr f pc x e0 e), fun k n e => V4 hs (h.nums k n e), fun f x e => Jq hs (h.locals f x e)⟩
theorem u_id {n : Int} (h0 : 0 ≤ n) (h1 : n < 18446744073709551616) : IntKind.u64.wrap n = n := by simp only [IntKind.wrap, IntKind.signed, IntKind.bits]; simp; omega
theorem s_id {n : Int} (h0 : -9223372036854775808 ≤ n) (h1 : n < 9223372036854775808) : IntKind.i64.wrap n = n := zm h0 (by omega)
theorem qh1 {n : Int} (h0 : -9223372036854775808 ≤ n) (h1 : n < 9223372036854775808) : IntKind.i64.wrap (IntKind.u64.wrap n) = n := by
 have hu : IntKind.u64.wrap n = n ∨ IntKind.u64.wrap n = n + 18446744073709551616 := by
  by_cases h : 0 ≤ n
  ·exact .inl (u_id h (by omega))
  ·right; simp only [IntKind.wrap, IntKind.signed, IntKind.bits]; simp; omega
 rcases hu with e | e
 ·rw [e]; exact s_id h0 h1
 ·rw [e]
  simp only [IntKind.wrap, IntKind.signed, IntKind.bits]
  simp
  omega
end Go.Vs
end
section
namespace Go.Vs
open Go.Proofs
variable [GTab]
theorem HOK.same {Γ : GH} {H H' : Heap} {nx : Nat} (h : HOK Γ H nx) (hs : ∀ b, b < nx → H' b = H b) : HOK Γ H' nx := by
 intro b cs e
 obtain ⟨h1, olds, ⟨ct, h2, h2'⟩, h3⟩ := h b cs e
 exact ⟨h1, olds, ⟨ct, by rw [hs b h1]; exact h2, h2'⟩, h3⟩
structure OwnV (Γq : GH) (lo hi : Nat) (q0 q1 q3 q4 : AVal) (code : vn) (nums : Int → Option Int) : Prop where
 inside : ∀ c ds, Γq c = some ds → lo ≤ c ∧ c < hi
 prog : ∀ p2 w fb, CodeOK code nums Γq ⟨q0, q1, p2, q3, q4, w, fb⟩
 small : ∀ b off len e full, q1 = .slice b off len e full → len < 1000000
 cells : qD q0 = true ∧ qD q1 = true ∧ qD q3 = true ∧ qD q4 = true
def orG (Γ Γq : GH) : GH := fun c => match Γ c with | some ds => some ds | none => Γq c
theorem qgt {Γ Γq : GH} {c : Nat} {ds : List AVal} (h : Γ c = some ds) : orG Γ Γq c = some ds := by simp [orG, h]
theorem qgs {Γ Γq : GH} {c : Nat} {ds : List AVal} (h : Γ c = none) (e : Γq c = some ds) : orG Γ Γq c = some ds := by simp [orG, h, e]
theorem W8 {Γ Γq : GH} {c : Nat} {ds : List AVal} (h : orG Γ Γq c = some ds) : Γ c = some ds ∨ (Γ c = none ∧ Γq c = some ds) := by
 unfold orG at h
 split at h
 ·cases h; exact .inl (by assumption)
 ·exact .inr ⟨by assumption, h⟩
theorem qfq {G : Heap → Nat → Prop} (hG : ∀ H H' nx nx', G H nx → (∀ b, b < nx → H' b = H b) → nx ≤ nx' → G H' nx') {p0 p4 : AVal} {p2 : Int} {code : vn} {nums : Int → Option Int} {fb off len e nl nt : Nat} {full : Bool}
  (hV : ∀ H nx K, G H nx → (∀ H', (∀ b, b < nx → H' b = H b) → K (.ret (.tuple [.agg [iv 0, iv 0], iv 0])) H' nx) → TriP Tryz.prog 28 [.agg [p0, .slice fb off len e full, iv p2, .nilSlice, p4]] H nx K)
  (hO : ∀ H nx Γ K, G H nx → HOK Γ H nx → (∀ H' Γ' nx' Γq q0 q1 q3 q4, nx ≤ nx' → HOK Γ' H' nx' → (∀ c ds, Γ c = some ds → Γ' c = some ds) → (∀ c ds, Γq c = some ds → Γ' c = some ds) → OwnV Γq nx nx' q0 q1 q3 q4 code nums → K (.ret (.agg [q0, q1, iv p2, q3, q4])) H' nx') →
   TriP Tryz.prog 29 [.agg [p0, .slice fb off len e full, iv p2, .nilSlice, p4]] H nx K)
  {Γ : GH} {H : Heap} {nx : Nat} {K : EndP} {ins : AVal} {inputs : List Int} {room : Int} (hg : G H nx) (hk : HOK Γ H nx) (hf : FnAt Γ (.slice fb off len e full) p2 nl) (hnl : nl < 1000000) (hlen : len < 1000000) (h2 : p2 < len)
  (ht : TypesV Γ p0 nt) (hi : SrcV Γ ins 1 inputs.length (inputs.map iv)) (hl : inputs.length < 1000000) (hp : qD p0 = true ∧ qD p4 = true) (r1 : 1 ≤ room) (r2 : room ≤ 65536)
  (hK : ∀ H' nx' m pg Γq, nx ≤ nx' → nx ≤ m → (∀ c ds, Γq c = some ds → nx ≤ c) → CodeOK code nums (orG Γ Γq) pg → PgOK pg → MS (orG Γ Γq) pg m ⟨[], ⟨p2, 0, List.replicate nl 0, []⟩, ⟨[0], room, [], inputs, 0, []⟩, 0, 0⟩ H' nx' → K (.ret (.tuple [.ptr m 0, iv 0])) H' nx') :
  TriP Tryz.prog 15 [.agg [p0, .slice fb off len e full, iv p2, .nilSlice, p4], iv room, ins] H nx K := by
 refine TriP.of_body qy ?_
 rw [qbh]
 unfold FNew
 have hnb : ∀ c ds, Γ c = some ds → c < nx := fun c ds ec => hk.lt ec
 have k0 := hk.new (b := nx) (nx' := nx + 1) (by omega) (by omega) [p0, .slice fb off len e full, iv p2, .nilSlice, p4]
 have s0 : ∀ c ds, Γ c = some ds → gup nx (some [p0, .slice fb off len e full, iv p2, .nilSlice, p4]) Γ c = some ds := fun c ds ec => by have := hnb _ _ ec; rw [qf (by omega)]; exact ec
 have g0 : G (newB nx [p0, .slice fb off len e full, iv p2, .nilSlice, p4] H) (nx + 1) := hG _ _ _ _ hg (fun b hb => jl (by omega)) (by omega)
 have l0 : ldN (newB nx [p0, .slice fb off len e full, iv p2, .nilSlice, p4] H) 5 (.ptr nx 0) = some (.agg [p0, .slice fb off len e full, iv p2, .nilSlice, p4]) := by rw [k0.ldN (qd _ _ _) (by simp)]; rfl
 refine ⟨_, rfl, _, _, _, _, _, l0, ?_⟩
 refine hV _ _ _ g0 fun H7 s7 => ?_
 rw [qc]
 have k7 := k0.same s7
 have g7 := hG _ _ _ _ g0 s7 (Nat.le_refl _)
 have k14 := k7.new (b := nx + 1) (nx' := nx + 2) (by omega) (by omega) [iv 0, iv 0]
 have g14 : G (newB (nx + 1) [iv 0, iv 0] H7) (nx + 2) := hG _ _ _ _ g7 (fun b hb => jl (by omega)) (by omega)
 have st : stC (newB (nx + 1) [iv 0, iv 0] H7) (.ptr (nx + 1) 0) [iv 0, iv 0] = some (newB (nx + 1) [iv 0, iv 0] H7) := Zp rfl rfl
 have l14 : ldN (newB (nx + 1) [iv 0, iv 0] H7) 5 (.ptr nx 0) = some (.agg [p0, .slice fb off len e full, iv p2, .nilSlice, p4]) := by rw [k14.ldN (by rw [qf (by omega), qd]) (by simp)]; rfl
 have s14 : ∀ c ds, gup nx (some [p0, .slice fb off len e full, iv p2, .nilSlice, p4]) Γ c = some ds → gup (nx + 1) (some [iv 0, iv 0]) (gup nx (some [p0, .slice fb off len e full, iv p2, .nilSlice, p4]) Γ) c = some ds := fun c ds ec => by have := k0.lt ec; rw [qf (by omega)]; exact ec
 refine ⟨_, _, _, rfl, _, rfl, _, st, y4 rfl ⟨_, _, _, _, _, l14, ?_⟩⟩
 refine hO _ _ _ _ g14 k14 fun H21 Γ21 x Γq q0 q1 q3 q4 lx k21 s21 sq ho => ?_
 rw [qc]
 have k29 := k21.new (b := x) (nx' := x + 1) (by omega) (by omega) [q0, q1, iv p2, q3, q4, .nilPtr, .nilSlice, iv 0, iv 0, .nilPtr]
 have s29 : ∀ c ds, Γ21 c = some ds → gup x (some [q0, q1, iv p2, q3, q4, .nilPtr, .nilSlice, iv 0, iv 0, .nilPtr]) Γ21 c = some ds := fun c ds ec => by have := k21.lt ec; rw [qf (by omega)]; exact ec
 have enx : gup x (some [q0, q1, iv p2, q3, q4, .nilPtr, .nilSlice, iv 0, iv 0, .nilPtr]) Γ21 nx = some [p0, .slice fb off len e full, iv p2, .nilSlice, p4] := s29 _ _ (s21 _ _ (s14 _ _ (qd _ _ _)))
 have l29 : ldN (newB x [q0, q1, iv p2, q3, q4, .nilPtr, .nilSlice, iv 0, iv 0, .nilPtr] H21) 5 (.ptr nx 0) = some (.agg [p0, .slice fb off len e full, iv p2, .nilSlice, p4]) := by rw [k29.ldN enx (by simp)]; rfl
 have sAll : ∀ c ds, Γ c = some ds → gup x (some [q0, q1, iv p2, q3, q4, .nilPtr, .nilSlice, iv 0, iv 0, .nilPtr]) Γ21 c = some ds := fun c ds ec => s29 _ _ (s21 _ _ (s14 _ _ (s0 _ _ ec)))
 have hf' : FnAt (gup x (some [q0, q1, iv p2, q3, q4, .nilPtr, .nilSlice, iv 0, iv 0, .nilPtr]) Γ21) (.slice fb off len e full) p2 nl := by
  obtain ⟨b, o, l, e', f', cs, lv, a1, a2, a3, a4, a5⟩ := hf.ex
  exact ⟨hf.nn, b, o, l, e', f', cs, lv, a1, a2, sAll _ _ a3, a4, a5⟩
 refine ⟨_, _, _, _, _, rfl, _, rfl, _, _, _, _, _, l29, ?_⟩
 rw [kQ]
 refine X5 k29 hf' hnl hlen h2 ⟨hp.1, rfl, hp.2⟩ fun Γ3 H3 nx3 fr lb lfr llb nlb lfr2 k3 efr elb s3 => ?_
 rw [qc]
 refine VU k3 (s3 _ _ (qd _ _ _)) (by omega) fun H4 k4 => ?_
 rw [qc]
 have llb2 := k3.lt elb
 have hne : ∀ c ds, gup x (some [q0, q1, iv p2, q3, q4, .nilPtr, .nilSlice, iv 0, iv 0, .nilPtr]) Γ21 c = some ds → c ≠ x → gup x (some [q0, q1, iv p2, q3, q4, .nilPtr, .slice fr 0 1 4 true, iv 0, iv 0, zf fr 1]) Γ3 c = some ds := fun c ds ec hc => by rw [qf hc]; exact s3 _ _ ec
 have enx4 := hne _ _ enx (by omega)
 have l4 : ldN H4 5 (.ptr nx 0) = some (.agg [p0, .slice fb off len e full, iv p2, .nilSlice, p4]) := by rw [k4.ldN enx4 (by simp)]; rfl
 have sOld : ∀ c ds, Γ c = some ds → gup x (some [q0, q1, iv p2, q3, q4, .nilPtr, .slice fr 0 1 4 true, iv 0, iv 0, zf fr 1]) Γ3 c = some ds := fun c ds ec => hne _ _ (sAll _ _ ec) (by have := hnb _ _ ec; omega)
 have ht' : TypesV (gup x (some [q0, q1, iv p2, q3, q4, .nilPtr, .slice fr 0 1 4 true, iv 0, iv 0, zf fr 1]) Γ3) p0 nt := by
  obtain ⟨b, f', cs, a1, a2, a3⟩ := ht.row
  exact ⟨ht.small, b, f', cs, a1, sOld _ _ a2, a3⟩
 refine ⟨_, _, _, _, _, l4, ?_⟩
 refine qc8 k4 ht' (hi.mono sOld) hl ⟨hp.1, rfl, hp.2⟩ r1 r2 fun Γ5 H5 nx5 w hp5 hb5 inb inf tv k5 nw => ?_
 rw [qc]
 have em5 := nw.old _ _ (qd x (some [q0, q1, iv p2, q3, q4, .nilPtr, .slice fr 0 1 4 true, iv 0, iv 0, zf fr 1]) Γ3)
 obtain ⟨H6, t1, t2⟩ := k5.st (b := x) (off := 5) (vs := [.ptr w 0]) em5 (by simp) rfl
 refine ⟨_, _, rfl, ?_⟩
 show ifB (!true) _ _
 have : (!true) = false := rfl
 rw [this, zk]
 refine ⟨rfl, _, rfl, rfl, _, t1, ?_⟩
 obtain ⟨nw1, nw2, nw3, nw4⟩ := nw.ws
 obtain ⟨d1, d2, d3, d4, d5, d6⟩ := nw.ne
 have le5 := nw.le
 have keep5 : ∀ c ds, c ≠ x → Γ3 c = some ds → gup x (some (qZ [q0, q1, iv p2, q3, q4, .nilPtr, .slice fr 0 1 4 true, iv 0, iv 0, zf fr 1] 5 [.ptr w 0])) Γ5 c = some ds := fun c ds hc ec => by
  rw [qf hc]; exact nw.old _ _ (by rw [qf hc]; exact ec)
 have hq : ∀ c ds, Γq c = some ds → c < x ∧ nx ≤ c := fun c ds ec => by have := ho.inside c ds ec; omega
 refine hK H6 nx5 x ⟨q0, q1, p2, q3, q4, w, fr⟩ Γq (by omega) (by omega) (fun c ds ec => (hq c ds ec).2) ?_ ⟨ho.cells, ho.small⟩ ?_
 ·refine (ho.prog p2 w fr).mono fun c ds ec => ?_
  refine qgs ?_ ec
  cases e : Γ c with
  | none => rfl
  | some cs => have := hnb _ _ e; have := (hq c ds ec).2; omega
 ·refine ⟨_, fun c => if c = x then 1 else if c = w then 2 else if c = hp5 then 3 else if c = fr then 4 else if c = hb5 then 5 else if c = inb then 7 else if c = lb then 10 else 9,
   ⟨hp5, true, tv, .slice hb5 0 1 1 true, .nilSlice, .nilSlice, inb, inf, [], (lb, .nilSlice), []⟩, t2, ?_⟩
  have gx : ∀ c, c ≠ x → gup x (some (qZ [q0, q1, iv p2, q3, q4, .nilPtr, .slice fr 0 1 4 true, iv 0, iv 0, zf fr 1] 5 [.ptr w 0])) Γ5 c = Γ5 c := fun c hc => qf hc
  have xl : x < nx3 := by have := k3.lt (s3 _ _ (qd x (some [q0, q1, iv p2, q3, q4, .nilPtr, .nilSlice, iv 0, iv 0, .nilPtr]) Γ21)); exact this
  refine ⟨fun c ds ec => ?_, by simp, ?_, ?_, ?_, .nil 0, ⟨?_, ?_, .inl ⟨rfl, rfl⟩⟩, ⟨?_, ?_, ?_, ?_, .inr ⟨hb5, [uv 0], ⟨true, rfl⟩, ?_, ?_, rfl⟩, ?_, ?_, .inl ⟨rfl, rfl⟩, .inl ⟨rfl, rfl⟩⟩⟩
  ·rcases W8 ec with h | ⟨_, h⟩
   ·have := hnb _ _ h
    refine ⟨keep5 _ _ (by omega) (s3 _ _ (sAll _ _ h)), ?_⟩
    simp only [show c ≠ x by omega, show c ≠ w by omega, show c ≠ hp5 by omega, show c ≠ fr by omega, show c ≠ hb5 by omega, show c ≠ inb by omega, show c ≠ lb by omega, if_false]
   ·have := hq _ _ h
    refine ⟨keep5 _ _ (by omega) (s3 _ _ (s29 _ _ (sq _ _ h))), ?_⟩
    simp only [show c ≠ x by omega, show c ≠ w by omega, show c ≠ hp5 by omega, show c ≠ fr by omega, show c ≠ hb5 by omega, show c ≠ inb by omega, show c ≠ lb by omega, if_false]
  ·rw [qd]; rfl
  ·show (if fr = x then 1 else _) = 4
   simp only [show fr ≠ x by omega, show fr ≠ w by omega, show fr ≠ hp5 by omega, if_false, if_true]
  ·rw [keep5 fr _ (by omega) efr]
   simp [qF, qI]
  ·show (if lb = x then 1 else _) = 10 + 2 * 0
   simp only [show lb ≠ x by omega, show lb ≠ w by omega, show lb ≠ hp5 by omega, show lb ≠ fr by omega, show lb ≠ hb5 by omega, show lb ≠ inb by omega, if_false, if_true]
  ·exact keep5 lb _ (by omega) elb
  ·show (if w = x then 1 else _) = 2
   simp only [show w ≠ x by omega, if_false, if_true]
  ·show (if hp5 = x then 1 else _) = 3
   simp only [show hp5 ≠ x by omega, show hp5 ≠ w by omega, if_false, if_true]
  ·exact (gx w (by omega)).trans nw.ew
  ·exact (gx hp5 (by omega)).trans nw.eh
  ·show (if hb5 = x then 1 else _) = 5
   simp only [show hb5 ≠ x by omega, show hb5 ≠ w by omega, show hb5 ≠ hp5 by omega, show hb5 ≠ fr by omega, if_false, if_true]
  ·exact (gx hb5 (by omega)).trans nw.eb
  ·show (if inb = x then 1 else _) = 7
   simp only [show inb ≠ x by omega, show inb ≠ w by omega, show inb ≠ hp5 by omega, show inb ≠ fr by omega, show inb ≠ hb5 by omega, if_false, if_true]
  ·exact (gx inb (by omega)).trans nw.ei
end Go.Vs
end
section
namespace Go.Proofs.YtnkeadjkckpknaaGreatDoor
open Go.Shelf in
def Tryz.lays138_ren : Go.Shelf.Ren := ⟨fun | 138 => 250 | 195 => 263 | 218 => 265 | 143 => 251 | 219 => 266 | 217 => 275 | 225 => 276 | 224 => 277 | 267 => 278 | 266 => 284 | 314 => 285 | n => n, fun | 9 => 9 | 3 => 3 | 4 => 4 | 5 => 5 | 0 => 0 | 46 => 220 | 146 => 303 | 51 => 293 | n => n, fun | 1 => 1 | n => n⟩
theorem Tryz.lays138 : Go.Proofs.Lays.n138 Tryz.prog Tryz.lays138_ren where
  mixed := by kernel_rfl
  f138 := Tryz.func250.trans (congrArg some (by kernel_rfl))
  f143 := Tryz.func251.trans (congrArg some (by kernel_rfl))
  f195 := Tryz.func263.trans (congrArg some (by kernel_rfl))
  f217 := Tryz.func275.trans (congrArg some (by kernel_rfl))
  f218 := Tryz.func265.trans (congrArg some (by kernel_rfl))
  f219 := Tryz.func266.trans (congrArg some (by kernel_rfl))
  f224 := Tryz.func277.trans (congrArg some (by kernel_rfl))
  f225 := Tryz.func276.trans (congrArg some (by kernel_rfl))
  f266 := Tryz.func284.trans (congrArg some (by kernel_rfl))
  f267 := Tryz.func278.trans (congrArg some (by kernel_rfl))
  f314 := Tryz.func285.trans (congrArg some (by kernel_rfl))
  t0 := Tryz.underlying0
  a0 := Tryz.isAgg0
  z0 := Tryz.sizeOf0
  v0 := Tryz.zeroValue0
  t3 := Tryz.underlying3
  a3 := Tryz.isAgg3
  z3 := Tryz.sizeOf3
  v3 := Tryz.zeroValue3
  t4 := Tryz.underlying4
  a4 := Tryz.isAgg4
  z4 := Tryz.sizeOf4
  v4 := Tryz.zeroValue4
  t5 := Tryz.underlying5
  a5 := Tryz.isAgg5
  z5 := Tryz.sizeOf5
  v5 := Tryz.zeroValue5
  t9 := Tryz.underlying9
  a9 := Tryz.isAgg9
  z9 := Tryz.sizeOf9
  v9 := Tryz.zeroValue9
  t46 := Tryz.underlying220
  a46 := Tryz.isAgg220
  z46 := Tryz.sizeOf220
  v46 := Tryz.zeroValue220
  t51 := Tryz.underlying293
  a51 := Tryz.isAgg293
  z51 := Tryz.sizeOf293
  v51 := Tryz.zeroValue293
  t146 := Tryz.underlying303
  a146 := Tryz.isAgg303
  z146 := Tryz.sizeOf303
  v146 := Tryz.zeroValue303
  g1 := by kernel_rfl
open Go.Shelf in
def Tryz.lays217_ren : Go.Shelf.Ren := ⟨fun | 217 => 275 | 266 => 284 | n => n, fun | 9 => 9 | 5 => 5 | 3 => 3 | n => n, fun | n => n⟩
theorem Tryz.lays217 : Go.Proofs.Lays.n217 Tryz.prog Tryz.lays217_ren where
  mixed := by kernel_rfl
  f217 := Tryz.func275.trans (congrArg some (by kernel_rfl))
  f266 := Tryz.func284.trans (congrArg some (by kernel_rfl))
  t3 := Tryz.underlying3
  a3 := Tryz.isAgg3
  z3 := Tryz.sizeOf3
  v3 := Tryz.zeroValue3
  t5 := Tryz.underlying5
  a5 := Tryz.isAgg5
  z5 := Tryz.sizeOf5
  v5 := Tryz.zeroValue5
  t9 := Tryz.underlying9
  a9 := Tryz.isAgg9
  z9 := Tryz.sizeOf9
  v9 := Tryz.zeroValue9
theorem own : ownKnob Tryz.prog.godebug = none := by kernel_rfl
theorem qy : Tryz.prog.follows .mixedOrders = true := by kernel_rfl
theorem texts : Ev.TextOK Tryz.prog 250 275 := ⟨Any.strings_Count_one Tryz.lays138, Any.stringslite_IndexByte Tryz.lays217⟩
variable [Ev.GTab] [Ev.SymC Tryz.prog 202 25]
noncomputable def w0 : Ev.Wr := Ev.orcW (Ev.VC 202 25 (Ev.JQ 250 275 Ev.wm))
theorem Wm : Ev.WrOK Tryz.prog w0 := Ev.WD (Ev.Xj (Ev.VF (Ev.KB _) texts) Ev.SymC.ok)
end Go.Proofs.YtnkeadjkckpknaaGreatDoor
end
section
namespace Go.Proofs.YtnkeadjkckpknaaGreatDoor
open Go.Shelf in
def Tryz.laysM173_ren : Go.Shelf.Ren := ⟨fun | 173 => 202 | 246 => 234 | 283 => 252 | 284 => 253 | 285 => 254 | 286 => 255 | 129 => 268 | 317 => 267 | 318 => 269 | 319 => 270 | 320 => 271 | 337 => 279 | 338 => 280 | n => n, fun | 2 => 2 | 3 => 3 | 9 => 9 | 4 => 4 | 171 => 282 | 0 => 0 | 53 => 64 | 37 => 139 | 5 => 5 | 173 => 284 | 212 => 292 | 51 => 293 | 20 => 20 | 213 => 294 | 46 => 220 | 232 => 305 | 233 => 306 | n => n, fun | 17 => 0 | 18 => 4 | 19 => 5 | n => n⟩
theorem Tryz.laysM173 : Go.Proofs.LaysM.n173 Tryz.prog Tryz.laysM173_ren where
  mixed := by kernel_rfl
  f129 := Tryz.func268.trans (congrArg some (by kernel_rfl))
  f173 := Tryz.func202.trans (congrArg some (by kernel_rfl))
  f246 := Tryz.func234.trans (congrArg some (by kernel_rfl))
  f283 := Tryz.func252.trans (congrArg some (by kernel_rfl))
  f284 := Tryz.func253.trans (congrArg some (by kernel_rfl))
  f285 := Tryz.func254.trans (congrArg some (by kernel_rfl))
  f286 := Tryz.func255.trans (congrArg some (by kernel_rfl))
  f317 := Tryz.func267.trans (congrArg some (by kernel_rfl))
  f318 := Tryz.func269.trans (congrArg some (by kernel_rfl))
  f319 := Tryz.func270.trans (congrArg some (by kernel_rfl))
  f320 := Tryz.func271.trans (congrArg some (by kernel_rfl))
  f337 := Tryz.func279.trans (congrArg some (by kernel_rfl))
  f338 := Tryz.func280.trans (congrArg some (by kernel_rfl))
  t0 := Tryz.underlying0
  a0 := Tryz.isAgg0
  z0 := Tryz.sizeOf0
  v0 := Tryz.zeroValue0
  t2 := Tryz.underlying2
  a2 := Tryz.isAgg2
  z2 := Tryz.sizeOf2
  v2 := Tryz.zeroValue2
  t3 := Tryz.underlying3
  a3 := Tryz.isAgg3
  z3 := Tryz.sizeOf3
  v3 := Tryz.zeroValue3
  t4 := Tryz.underlying4
  a4 := Tryz.isAgg4
  z4 := Tryz.sizeOf4
  v4 := Tryz.zeroValue4
  t5 := Tryz.underlying5
  a5 := Tryz.isAgg5
  z5 := Tryz.sizeOf5
  v5 := Tryz.zeroValue5
  t9 := Tryz.underlying9
  a9 := Tryz.isAgg9
  z9 := Tryz.sizeOf9
  v9 := Tryz.zeroValue9
  t20 := Tryz.underlying20
  a20 := Tryz.isAgg20
  z20 := Tryz.sizeOf20
  v20 := Tryz.zeroValue20
  t37 := Tryz.underlying139
  a37 := Tryz.isAgg139
  z37 := Tryz.sizeOf139
  v37 := Tryz.zeroValue139
  t46 := Tryz.underlying220
  a46 := Tryz.isAgg220
  z46 := Tryz.sizeOf220
  v46 := Tryz.zeroValue220
  t51 := Tryz.underlying293
  a51 := Tryz.isAgg293
  z51 := Tryz.sizeOf293
  v51 := Tryz.zeroValue293
  t53 := Tryz.underlying64
  a53 := Tryz.isAgg64
  z53 := Tryz.sizeOf64
  v53 := Tryz.zeroValue64
  t171 := Tryz.underlying282
  a171 := Tryz.isAgg282
  z171 := Tryz.sizeOf282
  v171 := Tryz.zeroValue282
  t173 := Tryz.underlying284
  a173 := Tryz.isAgg284
  z173 := Tryz.sizeOf284
  v173 := Tryz.zeroValue284
  t212 := Tryz.underlying292
  a212 := Tryz.isAgg292
  z212 := Tryz.sizeOf292
  v212 := Tryz.zeroValue292
  t213 := Tryz.underlying294
  a213 := Tryz.isAgg294
  z213 := Tryz.sizeOf294
  t232 := Tryz.underlying305
  a232 := Tryz.isAgg305
  z232 := Tryz.sizeOf305
  v232 := Tryz.zeroValue305
  t233 := Tryz.underlying306
  a233 := Tryz.isAgg306
  z233 := Tryz.sizeOf306
  v233 := Tryz.zeroValue306
  g17 := by kernel_rfl
  g18 := by kernel_rfl
  g19 := by kernel_rfl
  i0 := by kernel_rfl
  i2 := by kernel_rfl
  i3 := by kernel_rfl
  i4 := by kernel_rfl
  i5 := by kernel_rfl
  i9 := by kernel_rfl
  i20 := by kernel_rfl
  i37 := by kernel_rfl
  i46 := by kernel_rfl
  i51 := by kernel_rfl
  i53 := by kernel_rfl
  i171 := by kernel_rfl
  i173 := by kernel_rfl
  i212 := by kernel_rfl
  i232 := by kernel_rfl
  i233 := by kernel_rfl
  m17 := by kernel_rfl
  m18 := by kernel_rfl
  m19 := by kernel_rfl
theorem gPow : Tryz.prog.globalNamed "internal/strconv.uint64pow10" = some 0 := by kernel_rfl
theorem qau : (Tryz.prog.globals[0]?).map (·.type) = some 292 := by kernel_rfl
def zR : Array Value := (Lib.pow10Tab.map fun z => Value.int .u64 z).toArray
def Wp (w : World) (t : TypeId) (fz : Nat × Nat) : Prop := w.heap[0]? = some (.cells zR t fz)
theorem qfp {w : World} (h : Lib.TabIs Tryz.prog w "internal/strconv.uint64pow10" .u64 Lib.pow10Tab) : ∃ t fz, Wp w t fz := by
 unfold Lib.TabIs World.var? at h
 rw [gPow] at h
 simp only [Option.bind_some] at h
 split at h <;> try (cases h; done)
 rename_i cs t fz hc
 cases h
 exact ⟨t, fz, hc⟩
theorem Yd {w : World} {t : TypeId} {fz : Nat × Nat} (h : Wp w t fz) : Lib.TabIs Tryz.prog w "internal/strconv.uint64pow10" .u64 Lib.pow10Tab := by
 unfold Lib.TabIs World.var?
 rw [gPow]
 unfold Wp at h
 simp only [Option.bind_some, h]
 rfl
theorem qgb [Ev.GTab] {t : TypeId} {fz : Nat × Nat} (hb : Ev.GTab.blk 0 = some (.cells zR t fz)) (n : Int) (w : World) (h0 : -9223372036854775808 ≤ n) (h1 : n ≤ 9223372036854775807) (hg : Ev.Glob (fun _ => none) w) :
  Calls Tryz.prog 202 #[.int .i64 n, .int .i64 10] w fun e w' => e = .returned (.string ⟨(Lib.itoa n).toArray⟩) ∧ w'.tape = w.tape ∧ Ev.Kept w w' := by
 refine (Any.strconv_FormatInt_10 Tryz.laysM173 n h0 h1 w (Yd (hg.blk _ _ hb).2.2)).mono fun e w' ⟨he, k, os, hw⟩ => ?_
 subst hw
 refine ⟨he, rfl, rfl, rfl, ?_, fun i hi => ?_⟩
 ·simp [Go.Sort.grow, World.drewN]
 ·simp only [Go.Sort.grow, World.drewN]
  rw [Array.getElem?_append_left hi]
theorem qb3 {w : World} {x0 : String × DataW Unit} {x1 : String × DataW Unit} {rest : List (String × DataW Unit)} (h : laidMet Tryz.prog (x0 :: x1 :: ("internal/strconv.uint64pow10", Lib.tabData .u64 Lib.pow10Tab) :: rest) w) : ∃ t fz, Wp w t fz := by
 obtain ⟨ps, ⟨_, _, _, _, _, _, _, _, _, _, ⟨_, _, _, _, _, _, _, _, _, _, ⟨g, t, cs, f, p, q, hg, ht, hv, hd, _, _⟩, _⟩, _⟩, _⟩ := h
 obtain rfl := Option.some.inj (gPow.symm.trans hg)
 obtain rfl := Option.some.inj (qau.symm.trans ht)
 refine qfp ?_
 unfold Lib.TabIs
 rw [hv, ← Lib.cells_of_tab Tryz.underlying292 Tryz.underlying64 (by kernel_rfl) (by kernel_rfl) hd]
end Go.Proofs.YtnkeadjkckpknaaGreatDoor
end
section
namespace Go.Proofs.YtnkeadjkckpknaaGreatDoor
open Go.Ev
theorem qcm {k : Nat} (h : 10 ≤ k) : Lib.decDigits k = Lib.decDigits (k / 10) ++ [UInt8.ofNat (48 + k % 10)] := by
 rw [Lib.decDigits, dif_neg (by omega)]
theorem Wi {k : Nat} (h : k ≤ 9223372036854775808) : (Lib.decDigits k).length ≤ 20 := by
 rw [Lib.decDigits_length]
 rcases Nat.lt_or_ge 20 (Lib.nDigits k) with hlt | hge
 ·have h1 := Lib.lt_pow_nDigits (k / 10)
  by_cases h10 : k < 10
  ·rw [Lib.nDigits_small h10] at hlt; omega
  ·have pw : ∀ (j u : Nat), u < 10 ^ j → Lib.nDigits u ≤ j ∨ j = 0 := by
    intro j
    induction j with
    | zero => intro u _; exact .inr rfl
    | succ j ih =>
     intro u hu
     refine .inl ?_
     by_cases hs : u < 10
     ·rw [Lib.nDigits_small hs]; omega
     ·rw [Lib.nDigits_big hs]
      rw [Nat.pow_succ] at hu
      rcases ih (u / 10) (by omega) with hh | rfl
      ·omega
      ·simp at hu; omega
   rcases pw 20 k (by omega) with hh | hh
   ·omega
   ·cases hh
 ·exact hge
noncomputable abbrev zC (k d : Nat) (hk : 10 ≤ k) (hk2 : k ≤ 9223372036854775808) (hd : k % 10 = d) : GTab where
 tab := fun _ => none
 val := fun i => ([-(k : Int), -((k / 10 : Nat) : Int), -(d : Int), 10, -10] : List Int).getD i 0
 txt := fun i => Bool.rec ⟨(Lib.decDigits (k / 10)).toArray⟩ ⟨(Lib.decDigits k).toArray⟩ (Nat.beq i 5)
 con := Vf [(10, 3), (-10, 4)]
 lit := WH [(2, -(d : Int))]
 quo := vw [(0, 3, 1)]
 rem := vw [(0, 3, 2)]
 lt := vw [(4, 0, false)]
 cat := fun i n x => Bool.rec none (Bool.rec none (Bool.rec none (some 5) (Nat.beq x (48 + d))) (Nat.beq n 1)) (Nat.beq i 1)
 conOK := fun n i h => by
  have := Qe h
  simp only [List.mem_cons, List.not_mem_nil, or_false, Prod.mk.injEq] at this
  rcases this with ⟨rfl, rfl⟩ | ⟨rfl, rfl⟩ <;> exact qA.self _
 litOK := fun i n h => by
  have := Zx h
  simp only [List.mem_cons, List.not_mem_nil, or_false, Prod.mk.injEq] at this
  obtain ⟨rfl, rfl⟩ := this
  exact qA.self _
 quoOK := fun i j r h => by
  have := z3 h
  simp only [List.mem_cons, List.not_mem_nil, or_false, Prod.mk.injEq] at this
  obtain ⟨rfl, rfl, rfl⟩ := this
  show IntKind.i64.wrap 10 ≠ 0 ∧ qA ((IntKind.i64.wrap (-(k : Int))).tdiv (IntKind.i64.wrap 10)) (-((k / 10 : Nat) : Int))
  have e1 : IntKind.i64.wrap 10 = 10 := by decide
  have e2 : IntKind.i64.wrap (-(k : Int)) = -(k : Int) := by rw [Q4]; split <;> omega
  rw [e1, e2, Int.neg_tdiv]
  refine ⟨by decide, 0, ?_⟩
  have : (k : Int).tdiv 10 = ((k / 10 : Nat) : Int) := by rw [Int.tdiv_eq_ediv_of_nonneg (by omega)]; omega
  rw [this]; omega
 remOK := fun i j r h => by
  have := z3 h
  simp only [List.mem_cons, List.not_mem_nil, or_false, Prod.mk.injEq] at this
  obtain ⟨rfl, rfl, rfl⟩ := this
  show IntKind.i64.wrap 10 ≠ 0 ∧ qA ((IntKind.i64.wrap (-(k : Int))).tmod (IntKind.i64.wrap 10)) (-(d : Int))
  have e1 : IntKind.i64.wrap 10 = 10 := by decide
  have e2 : IntKind.i64.wrap (-(k : Int)) = -(k : Int) := by rw [Q4]; split <;> omega
  rw [e1, e2, Int.neg_tmod]
  refine ⟨by decide, 0, ?_⟩
  have : (k : Int).tmod 10 = (d : Int) := by rw [Int.tmod_eq_emod_of_nonneg (by omega)]; omega
  rw [this]; omega
 ltOK := fun i j b h => by
  have := z3 h
  simp only [List.mem_cons, List.not_mem_nil, or_false, Prod.mk.injEq] at this
  obtain ⟨rfl, rfl, rfl⟩ := this
  show false = decide (IntKind.i64.wrap (-10) < IntKind.i64.wrap (-(k : Int)))
  have e1 : IntKind.i64.wrap (-10) = -10 := by decide
  have e2 : IntKind.i64.wrap (-(k : Int)) = -(k : Int) := by rw [Q4]; split <;> omega
  rw [e1, e2]
  symm
  rw [decide_eq_false_iff_not]
  omega
 catOK := fun i n x r h => by
  cases h1 : Nat.beq i 1 with
  | false => rw [h1] at h; cases h
  | true =>
   rw [h1] at h
   cases h2 : Nat.beq n 1 with
   | false => rw [h2] at h; cases h
   | true =>
    rw [h2] at h
    cases h3 : Nat.beq x (48 + d) with
    | false => rw [h3] at h; cases h
    | true =>
     rw [h3] at h
     cases h
     have e1 := Nat.eq_of_beq_eq_true h1
     have e2 := Nat.eq_of_beq_eq_true h2
     have e3 := Nat.eq_of_beq_eq_true h3
     subst e1 e2 e3
     refine ⟨?_, ?_⟩
     ·show (⟨(Lib.decDigits k).toArray⟩ : ByteArray) = ⟨(Lib.decDigits (k / 10)).toArray⟩ ++ dec 1 (48 + d)
      rw [qcm hk, hd]
      apply ByteArray.ext
      simp [dec, digs]
     ·show (Lib.decDigits (k / 10)).toArray.size + 1 ≤ _
      have := Wi (k := k / 10) (by omega)
      simp only [List.size_toArray]
      omega
noncomputable abbrev mk0 : GTab where
 tab := fun _ => none
noncomputable def jc : Orc := fun f args => Bool.rec none (match args with
 | [.anyInt .i64 m i] => match Nat.beq m 65536, Nat.beq i 1 with
  | true, true => some [.anyStr 1]
  | _, _ => none
 | _ => none) (Nat.beq f 37)
def Vm (k : Nat) : Prop := ∀ w : World, Calls Tryz.prog 37 #[.int .i64 (-(k : Int))] w fun e w' => e = .returned (.string ⟨(Lib.decDigits k).toArray⟩) ∧ w'.tape = w.tape ∧ Kept w w'
theorem KO {k d : Nat} (hk : 10 ≤ k) (hk2 : k ≤ 9223372036854775808) (hd : k % 10 = d) (ih : Vm (k / 10)) : @yI (zC k d hk hk2 hd) Tryz.prog jc := by
 letI : GTab := zC k d hk hk2 hd
 intro f args l hl σ w args' hg hda
 unfold jc at hl
 cases hf : Nat.beq f 37 with
 | false => rw [hf] at hl; cases hl
 | true =>
  rw [hf] at hl
  have e := Nat.eq_of_beq_eq_true hf
  subst e
  simp only at hl
  split at hl <;> try (cases hl; done)
  rename_i m i
  split at hl <;> try (cases hl; done)
  rename_i h1 h2
  cases hl
  have e1 := Nat.eq_of_beq_eq_true h1
  have e2 := Nat.eq_of_beq_eq_true h2
  subst e1 e2
  cases hda with
  | cons a1 t1 =>
   cases t1
   cases a1 with
   | anyInt _ _ _ n hn =>
    have hn' : n = IntKind.i64.wrap (-((k / 10 : Nat) : Int)) := by unfold vC at hn; rwa [if_pos rfl] at hn
    have e3 : IntKind.i64.wrap (-((k / 10 : Nat) : Int)) = -((k / 10 : Nat) : Int) := by rw [Q4]; split <;> omega
    rw [e3] at hn'
    subst hn'
    exact (ih w).mono fun e w' ⟨he, ht, hkept⟩ => ⟨⟨_, _, List.mem_singleton.2 rfl, .anyStr 1, he⟩, ht, hkept⟩
theorem one0 : @runV mk0 Tryz.prog wm 37 100 [.int .i64 (0)] (.str 1 48) = true := by kernel_rfl
theorem qia (k : Nat) (hk : 10 ≤ k) (hk2 : k ≤ 9223372036854775808) (hd : k % 10 = 0) : @runV (zC k 0 hk hk2 hd) Tryz.prog jc 37 100 [.anyInt .i64 65536 0] (.anyStr 5) = true := by kernel_rfl
theorem one1 : @runV mk0 Tryz.prog wm 37 100 [.int .i64 (-1)] (.str 1 49) = true := by kernel_rfl
theorem qhk (k : Nat) (hk : 10 ≤ k) (hk2 : k ≤ 9223372036854775808) (hd : k % 10 = 1) : @runV (zC k 1 hk hk2 hd) Tryz.prog jc 37 100 [.anyInt .i64 65536 0] (.anyStr 5) = true := by kernel_rfl
theorem one2 : @runV mk0 Tryz.prog wm 37 100 [.int .i64 (-2)] (.str 1 50) = true := by kernel_rfl
theorem qhj (k : Nat) (hk : 10 ≤ k) (hk2 : k ≤ 9223372036854775808) (hd : k % 10 = 2) : @runV (zC k 2 hk hk2 hd) Tryz.prog jc 37 100 [.anyInt .i64 65536 0] (.anyStr 5) = true := by kernel_rfl
theorem one3 : @runV mk0 Tryz.prog wm 37 100 [.int .i64 (-3)] (.str 1 51) = true := by kernel_rfl
theorem qho (k : Nat) (hk : 10 ≤ k) (hk2 : k ≤ 9223372036854775808) (hd : k % 10 = 3) : @runV (zC k 3 hk hk2 hd) Tryz.prog jc 37 100 [.anyInt .i64 65536 0] (.anyStr 5) = true := by kernel_rfl
theorem one4 : @runV mk0 Tryz.prog wm 37 100 [.int .i64 (-4)] (.str 1 52) = true := by kernel_rfl
theorem qh5 (k : Nat) (hk : 10 ≤ k) (hk2 : k ≤ 9223372036854775808) (hd : k % 10 = 4) : @runV (zC k 4 hk hk2 hd) Tryz.prog jc 37 100 [.anyInt .i64 65536 0] (.anyStr 5) = true := by kernel_rfl
theorem one5 : @runV mk0 Tryz.prog wm 37 100 [.int .i64 (-5)] (.str 1 53) = true := by kernel_rfl
theorem qhq (k : Nat) (hk : 10 ≤ k) (hk2 : k ≤ 9223372036854775808) (hd : k % 10 = 5) : @runV (zC k 5 hk hk2 hd) Tryz.prog jc 37 100 [.anyInt .i64 65536 0] (.anyStr 5) = true := by kernel_rfl
theorem one6 : @runV mk0 Tryz.prog wm 37 100 [.int .i64 (-6)] (.str 1 54) = true := by kernel_rfl
theorem qh7 (k : Nat) (hk : 10 ≤ k) (hk2 : k ≤ 9223372036854775808) (hd : k % 10 = 6) : @runV (zC k 6 hk hk2 hd) Tryz.prog jc 37 100 [.anyInt .i64 65536 0] (.anyStr 5) = true := by kernel_rfl
theorem one7 : @runV mk0 Tryz.prog wm 37 100 [.int .i64 (-7)] (.str 1 55) = true := by kernel_rfl
theorem qit (k : Nat) (hk : 10 ≤ k) (hk2 : k ≤ 9223372036854775808) (hd : k % 10 = 7) : @runV (zC k 7 hk hk2 hd) Tryz.prog jc 37 100 [.anyInt .i64 65536 0] (.anyStr 5) = true := by kernel_rfl
theorem one8 : @runV mk0 Tryz.prog wm 37 100 [.int .i64 (-8)] (.str 1 56) = true := by kernel_rfl
theorem qib (k : Nat) (hk : 10 ≤ k) (hk2 : k ≤ 9223372036854775808) (hd : k % 10 = 8) : @runV (zC k 8 hk hk2 hd) Tryz.prog jc 37 100 [.anyInt .i64 65536 0] (.anyStr 5) = true := by kernel_rfl
theorem one9 : @runV mk0 Tryz.prog wm 37 100 [.int .i64 (-9)] (.str 1 57) = true := by kernel_rfl
theorem qik (k : Nat) (hk : 10 ≤ k) (hk2 : k ≤ 9223372036854775808) (hd : k % 10 = 9) : @runV (zC k 9 hk hk2 hd) Tryz.prog jc 37 100 [.anyInt .i64 65536 0] (.anyStr 5) = true := by kernel_rfl
theorem qic (w : World) : @Glob mk0 (fun _ => none) w := QK mk0 (fun _ => rfl) (fun _ => rfl) _ _
theorem qh6 {k d : Nat} {hk : 10 ≤ k} {hk2 : k ≤ 9223372036854775808} {hd : k % 10 = d} (w : World) : @Glob (zC k d hk hk2 hd) (fun _ => none) w := QK (zC k d hk hk2 hd) (fun _ => rfl) (fun _ => rfl) _ _
theorem less {k : Nat} {x : Nat} (hx : x = 48 + k) (h : k < 10) (hr : @runV mk0 Tryz.prog wm 37 100 [.int .i64 (-(k : Int))] (.str 1 x) = true) : Vm k := by
 letI : GTab := mk0
 intro w
 refine (@Zj mk0 _ _ _ _ _ _ qy (@KB mk0 _) hr w (qic w) [.int .i64 (-(k : Int))] (.cons (.int _ _) .nil)).mono fun e w' ⟨⟨v', dv, he⟩, ht, hkept⟩ => ?_
 cases dv
 refine ⟨?_, ht, hkept⟩
 rw [he, Lib.decDigits, dif_pos h, hx]
 simp [dec, digs]
theorem more {k d : Nat} (hk : 10 ≤ k) (hk2 : k ≤ 9223372036854775808) (hd : k % 10 = d) (ih : Vm (k / 10)) (hr : @runV (zC k d hk hk2 hd) Tryz.prog jc 37 100 [.anyInt .i64 65536 0] (.anyStr 5) = true) : Vm k := by
 letI : GTab := zC k d hk hk2 hd
 intro w
 refine (@Zj (zC k d hk hk2 hd) _ _ _ _ _ _ qy (KO hk hk2 hd ih) hr w (qh6 w) [.int .i64 (-(k : Int))] (.cons (.anyInt _ _ _ _ ?_) .nil)).mono fun e w' ⟨⟨v', dv, he⟩, ht, hkept⟩ => ?_
 ·unfold vC
  rw [if_pos rfl]
  show -(k : Int) = IntKind.i64.wrap (-(k : Int))
  rw [Q4]
  split <;> omega
 ·cases dv
  exact ⟨he, ht, hkept⟩
theorem qb1 : ∀ k : Nat, k ≤ 9223372036854775808 → Vm k := by
 intro k
 induction k using Nat.strongRecOn with
 | _ k ih =>
  intro hk2
  by_cases h : k < 10
  ·match k, h with
   | 0, h => exact less rfl h one0
   | 1, h => exact less rfl h one1
   | 2, h => exact less rfl h one2
   | 3, h => exact less rfl h one3
   | 4, h => exact less rfl h one4
   | 5, h => exact less rfl h one5
   | 6, h => exact less rfl h one6
   | 7, h => exact less rfl h one7
   | 8, h => exact less rfl h one8
   | 9, h => exact less rfl h one9
  ·have hk : 10 ≤ k := by omega
   have ih' := ih (k / 10) (by omega) (by omega)
   have hlt : k % 10 < 10 := Nat.mod_lt _ (by decide)
   generalize hd : k % 10 = d at hlt
   match d, hlt with
   | 0, _ => exact more hk hk2 hd ih' (qia k hk hk2 hd)
   | 1, _ => exact more hk hk2 hd ih' (qhk k hk hk2 hd)
   | 2, _ => exact more hk hk2 hd ih' (qhj k hk hk2 hd)
   | 3, _ => exact more hk hk2 hd ih' (qho k hk hk2 hd)
   | 4, _ => exact more hk hk2 hd ih' (qh5 k hk hk2 hd)
   | 5, _ => exact more hk hk2 hd ih' (qhq k hk hk2 hd)
   | 6, _ => exact more hk hk2 hd ih' (qh7 k hk hk2 hd)
   | 7, _ => exact more hk hk2 hd ih' (qit k hk hk2 hd)
   | 8, _ => exact more hk hk2 hd ih' (qib k hk hk2 hd)
   | 9, _ => exact more hk hk2 hd ih' (qik k hk hk2 hd)
noncomputable abbrev vQ (n : Int) (h0 : -9223372036854775808 ≤ n) (h1 : n ≤ 9223372036854775807) (neg : Bool) (hneg : neg = decide (n < 0)) : GTab where
 tab := fun _ => none
 val := fun i => ([n, -n, 0] : List Int).getD i 0
 txt := fun i => Bool.rec ⟨(Lib.decDigits n.natAbs).toArray⟩ ⟨(45 :: Lib.decDigits n.natAbs).toArray⟩ (Nat.beq i 5)
 con := Vf [(0, 2)]
 sub := vw [(2, 0, 1)]
 lt := vw [(0, 2, neg)]
 catL := fun n x i => Bool.rec none (Bool.rec none (Bool.rec none (some 5) (Nat.beq i 0)) (Nat.beq x 45)) (Nat.beq n 1)
 conOK := fun n i h => by
  have := Qe h
  simp only [List.mem_cons, List.not_mem_nil, or_false, Prod.mk.injEq] at this
  obtain ⟨rfl, rfl⟩ := this
  exact qA.self _
 subOK := fun i j r h => by
  have := z3 h
  simp only [List.mem_cons, List.not_mem_nil, or_false, Prod.mk.injEq] at this
  obtain ⟨rfl, rfl, rfl⟩ := this
  exact ⟨0, by show (0 : Int) - n = -n + 0 * _; omega⟩
 ltOK := fun i j b h => by
  have := z3 h
  simp only [List.mem_cons, List.not_mem_nil, or_false, Prod.mk.injEq] at this
  obtain ⟨rfl, rfl, rfl⟩ := this
  show b = decide (IntKind.i64.wrap n < IntKind.i64.wrap 0)
  have e1 : IntKind.i64.wrap 0 = 0 := by decide
  have e2 : IntKind.i64.wrap n = n := by rw [Q4]; split <;> omega
  rw [e1, e2, hneg]
 catLOK := fun m x i r h => by
  cases h1 : Nat.beq m 1 with
  | false => rw [h1] at h; cases h
  | true =>
   rw [h1] at h
   cases h2 : Nat.beq x 45 with
   | false => rw [h2] at h; cases h
   | true =>
    rw [h2] at h
    cases h3 : Nat.beq i 0 with
    | false => rw [h3] at h; cases h
    | true =>
     rw [h3] at h
     cases h
     have e1 := Nat.eq_of_beq_eq_true h1
     have e2 := Nat.eq_of_beq_eq_true h2
     have e3 := Nat.eq_of_beq_eq_true h3
     subst e1 e2 e3
     refine ⟨?_, ?_⟩
     ·show (⟨(45 :: Lib.decDigits n.natAbs).toArray⟩ : ByteArray) = dec 1 45 ++ ⟨(Lib.decDigits n.natAbs).toArray⟩
      apply ByteArray.ext
      simp [dec, digs]
     ·show 1 + (Lib.decDigits n.natAbs).toArray.size ≤ _
      have := Wi (k := n.natAbs) (by omega)
      simp only [List.size_toArray]
      omega
noncomputable def Kd (j : Nat) : Orc := fun f args => Bool.rec none (match args with
 | [.anyInt .i64 m i] => match Nat.beq m 65536, Nat.beq i j with
  | true, true => some [.anyStr j]
  | _, _ => none
 | _ => none) (Nat.beq f 37)
theorem JE {n : Int} {h0 : -9223372036854775808 ≤ n} {h1 : n ≤ 9223372036854775807} {neg : Bool} {hneg : neg = decide (n < 0)} (j : Nat) (hj : ([n, -n, 0] : List Int).getD j 0 = -((n.natAbs : Nat) : Int)) (hj5 : Nat.beq j 5 = false) :
  @yI (vQ n h0 h1 neg hneg) Tryz.prog (Kd j) := by
 letI : GTab := vQ n h0 h1 neg hneg
 intro f args l hl σ w args' hg hda
 unfold Kd at hl
 cases hf : Nat.beq f 37 with
 | false => rw [hf] at hl; cases hl
 | true =>
  rw [hf] at hl
  have e := Nat.eq_of_beq_eq_true hf
  subst e
  simp only at hl
  split at hl <;> try (cases hl; done)
  rename_i m i
  split at hl <;> try (cases hl; done)
  rename_i g1 g2
  cases hl
  have e1 := Nat.eq_of_beq_eq_true g1
  have e2 := Nat.eq_of_beq_eq_true g2
  subst e1 e2
  cases hda with
  | cons a1 t1 =>
   cases t1
   cases a1 with
   | anyInt _ _ _ x hn =>
    have hn' : x = IntKind.i64.wrap (([n, -n, 0] : List Int).getD i 0) := by unfold vC at hn; rwa [if_pos rfl] at hn
    rw [hj] at hn'
    have e3 : IntKind.i64.wrap (-((n.natAbs : Nat) : Int)) = -((n.natAbs : Nat) : Int) := by rw [Q4]; split <;> omega
    rw [e3] at hn'
    subst hn'
    refine (qb1 n.natAbs (by omega) w).mono fun e w' ⟨he, ht, hkept⟩ => ⟨⟨_, _, List.mem_singleton.2 rfl, .anyStr i, ?_⟩, ht, hkept⟩
    rw [he]
    show _ = Ending.returned (Value.string (Bool.rec ⟨(Lib.decDigits n.natAbs).toArray⟩ ⟨(45 :: Lib.decDigits n.natAbs).toArray⟩ (Nat.beq i 5)))
    rw [hj5]
theorem dNeg (n : Int) (h0 : -9223372036854775808 ≤ n) (h1 : n ≤ 9223372036854775807) (h : true = decide (n < 0)) : @runV (vQ n h0 h1 true h) Tryz.prog (Kd 0) 25 100 [.anyInt .i64 65536 0] (.anyStr 5) = true := by kernel_rfl
theorem dPos (n : Int) (h0 : -9223372036854775808 ≤ n) (h1 : n ≤ 9223372036854775807) (h : false = decide (n < 0)) : @runV (vQ n h0 h1 false h) Tryz.prog (Kd 1) 25 100 [.anyInt .i64 65536 0] (.anyStr 1) = true := by kernel_rfl
theorem qe8 {n : Int} {h0 : -9223372036854775808 ≤ n} {h1 : n ≤ 9223372036854775807} {neg : Bool} {hneg : neg = decide (n < 0)} (w : World) : @Glob (vQ n h0 h1 neg hneg) (fun _ => none) w := QK (vQ n h0 h1 neg hneg) (fun _ => rfl) (fun _ => rfl) _ _
theorem XM (n : Int) (w : World) (h0 : -9223372036854775808 ≤ n) (h1 : n ≤ 9223372036854775807) :
  Calls Tryz.prog 25 #[.int .i64 n] w fun e w' => e = .returned (.string ⟨(Lib.itoa n).toArray⟩) ∧ w'.tape = w.tape ∧ Kept w w' := by
 have wn : IntKind.i64.wrap n = n := by rw [Q4]; split <;> omega
 by_cases hn : n < 0
 ·have hd : true = decide (n < 0) := by simp [hn]
  letI : GTab := vQ n h0 h1 true hd
  refine (@Zj (vQ n h0 h1 true hd) _ _ _ _ _ _ qy (JE 0 (by show n = _; omega) rfl) (dNeg n h0 h1 hd) w (qe8 w) [.int .i64 n] (.cons (.anyInt _ _ _ _ ?_) .nil)).mono fun e w' ⟨⟨v', dv, he⟩, ht, hkept⟩ => ?_
  ·unfold vC; rw [if_pos rfl]; exact wn.symm
  ·cases dv
   refine ⟨?_, ht, hkept⟩
   rw [he]
   have : Lib.itoa n = 45 :: Lib.decDigits n.natAbs := by unfold Lib.itoa; rw [if_pos hn]
   rw [this]
   rfl
 ·have hd : false = decide (n < 0) := by simp [hn]
  letI : GTab := vQ n h0 h1 false hd
  refine (@Zj (vQ n h0 h1 false hd) _ _ _ _ _ _ qy (JE 1 (by show -n = _; omega) rfl) (dPos n h0 h1 hd) w (qe8 w) [.int .i64 n] (.cons (.anyInt _ _ _ _ ?_) .nil)).mono fun e w' ⟨⟨v', dv, he⟩, ht, hkept⟩ => ?_
  ·unfold vC; rw [if_pos rfl]; exact wn.symm
  ·cases dv
   refine ⟨?_, ht, hkept⟩
   rw [he]
   have : Lib.itoa n = Lib.decDigits n.natAbs := by unfold Lib.itoa; rw [if_neg hn]; congr 1; omega
   rw [this]
   rfl
end Go.Proofs.YtnkeadjkckpknaaGreatDoor
end
section
namespace Go.Vs
open Go.Proofs Go.Proofs.YtnkeadjkckpknaaGreatDoor
variable [GTab]
def Yk (call : qk) (lp : Nat → ql) (lv : qi) (lvc : qj) (b : Bool) (H : Heap) (nx : Nat) (K : EndP) : Prop :=
 ifB b (K (AEnd.ret (AVal.str [116, 114, 117, 101])) H nx) (K (AEnd.ret (AVal.str [102, 97, 108, 115, 101])) H nx)
def YC (call : qk) (lp : Nat → ql) (lv : qi) (lvc : qj) (b : Bool) (H : Heap) (nx : Nat) (K : EndP) : Prop :=
 call 235 [AVal.bool b] H nx fun e0 H1 i2 => qh e0 (fun v3 => ∃ s4, v3 = AVal.str s4 ∧ K (AEnd.ret (AVal.str s4)) H1 i2) fun l5 => K (AEnd.pan l5) H1 i2
theorem XC (call : qk) (lp : Nat → ql) (lv : qi) (lvc : qj) (b : Bool) (H : Heap) (nx : Nat) (K : EndP) : qQ Tryz.prog call lp 235 [AVal.bool b] H nx (endK Tryz.prog lv lvc K) = Yk call lp lv lvc b H nx K := by kernel_rfl
theorem Xk (call : qk) (lp : Nat → ql) (lv : qi) (lvc : qj) (b : Bool) (H : Heap) (nx : Nat) (K : EndP) : qQ Tryz.prog call lp 203 [AVal.bool b] H nx (endK Tryz.prog lv lvc K) = YC call lp lv lvc b H nx K := by kernel_rfl
theorem qck {t : TypeId} {fz : Nat × Nat} (hb : GTab.blk 0 = some (.cells zR t fz)) {n : Int} {H : Heap} {nx : Nat} {K : EndP} (h0 : -9223372036854775808 ≤ n) (h1 : n ≤ 9223372036854775807)
  (hK : K (.ret (.str (Lib.itoa n))) H nx) : TriP Tryz.prog 202 [iv n, iv 10] H nx K := by
 refine TriP.of_kept (v := .str (Lib.itoa n)) (fun σ w args' hg hd => ?_) hK
 cases hd with
 | cons a1 t1 => cases t1 with
  | cons a2 t2 =>
   cases t2
   cases a1
   cases a2
   refine (Any.strconv_FormatInt_10 Tryz.laysM173 n h0 h1 w (Yd (hg.blk _ _ hb).2.2)).mono fun e w' ⟨he, k, os, hw⟩ => ?_
   subst hw
   refine ⟨⟨_, he, .str _⟩, rfl, rfl, rfl, ?_, fun i hi => ?_⟩
   ·simp [Go.Sort.grow, World.drewN]
   ·simp only [Go.Sort.grow, World.drewN]
    rw [Array.getElem?_append_left hi]
theorem qex {t : TypeId} {fz : Nat × Nat} (hb : GTab.blk 0 = some (.cells zR t fz)) : Jy Lib.itoa := by
 refine ⟨fun n H nx K h0 h1 hK => qck hb h0 h1 (hK _ (Nat.le_refl _)), fun b H nx K hK => ?_⟩
 refine TriP.of_body qy ?_
 rw [Xk]
 unfold YC
 refine TriP.of_body qy ?_
 rw [XC]
 unfold Yk
 have := hK nx (Nat.le_refl _)
 cases b
 ·show qh _ _ _
  rw [qc]; exact ⟨_, rfl, this⟩
 ·show qh _ _ _
  rw [qc]; exact ⟨_, rfl, this⟩
theorem qd5 {n : Int} {H : Heap} {nx : Nat} {K : EndP} (h0 : -9223372036854775808 ≤ n) (h1 : n ≤ 9223372036854775807) (hK : K (.ret (.str (Lib.itoa n))) H nx) : TriP Tryz.prog 25 [iv n] H nx K := by
 refine TriP.of_kept (v := .str (Lib.itoa n)) (fun σ w args' hg hd => ?_) hK
 cases hd with
 | cons a1 t1 =>
  cases t1
  cases a1
  refine (XM n w h0 h1).mono fun e w' ⟨he, ht, hk⟩ => ?_
  exact ⟨⟨_, he, .str _⟩, hk.1, ht, hk.2.1, hk.2.2.1, hk.2.2.2⟩
end Go.Vs
end
section
namespace Go.Vs
open Go.Proofs
variable [GTab]
theorem qcq {n : Int} {m : Nat} {H : Heap} {nx : Nat} {K : EndP} (hm : 0 < m) (hm2 : m ≤ 4096) (hK : ∀ i : Nat, i < m → K (.ret (iv i)) H nx) : TriP Tryz.prog 12 [iv n, iv m] H nx K := by
 refine TriP.of_body qy ?_
 rw [Xu]
 unfold Yq
 have h1 : n.tmod m < m := Int.tmod_lt_of_pos n (by omega)
 have h2 : -(m : Int) < n.tmod m := by
  have := Int.tmod_lt_of_pos (-n) (show (0 : Int) < m by omega)
  rw [Int.neg_tmod] at this
  omega
 refine ⟨by omega, ?_⟩
 rw [qK]; simp only [decide_eq_true_eq, decide_eq_false_iff_not]
 refine ⟨fun h => ?_, fun h => ?_⟩
 ·have e : IntKind.i64.wrap (n.tmod m + m) = ((n.tmod m + m).toNat : Int) := by rw [zm (by omega) (by omega)]; omega
  rw [e]; exact hK _ (by omega)
 ·have e : n.tmod m = ((n.tmod m).toNat : Int) := by omega
  rw [e]; exact hK _ (by omega)
theorem d_ok {t : TypeId} {fz : Nat × Nat} {n : Int} {H : Heap} {nx : Nat} {K : EndP} (h0 : -9223372036854775808 ≤ n) (h1 : n ≤ 9223372036854775807) (hK : K (.ret (.str (Lib.itoa n))) H nx) : TriP Tryz.prog 9 [iv n] H nx K := by
 refine TriP.of_body qy ?_
 rw [qfo]
 unfold FLd
 refine qd5 h0 h1 ?_
 rw [qc]
 exact ⟨_, rfl, hK⟩
theorem SrcV.idx {Γ : GH} {H : Heap} {nx : Nat} {v : AVal} {l : List (List UInt8)} (hk : HOK Γ H nx) (h : SrcV Γ v 1 l.length (l.map AVal.str)) {k : Nat} (hlt : k < l.length) : ∃ p, idxS v k 1 = some p ∧ ld1 H p = some (.str l[k]) := by
 rcases h with ⟨rfl, h0, h2⟩ | ⟨b, off, full, cs, rfl, h1, h2, h3⟩
 ·omega
 ·refine ⟨_, zG hlt, ?_⟩
  rw [hk.ld1 h1]
  have h4 : ((cs.drop off).take (l.length * 1))[k]? = some (.str l[k]) := by rw [h3]; simp [hlt]
  rw [List.getElem?_take_of_lt (by omega), List.getElem?_drop] at h4
  rw [Nat.mul_one]; exact h4
theorem qci {Γ : GH} {H : Heap} {nx : Nat} {a b : AVal} {l : List (List UInt8)} {K : EndP} (hk : HOK Γ H nx) (ha : SrcV Γ a 1 l.length (l.map AVal.str)) (hb : SrcV Γ b 1 l.length (l.map AVal.str)) (hl : l.length < 1000000)
  (hK : ∀ nx', nx ≤ nx' → K (.ret (.bool true)) H nx') : TriP Tryz.prog 11 [a, b] H nx K := by
 refine TriP.of_body qy ?_
 rw [Xi]
 unfold XN
 refine ⟨_, ha.len, _, hb.len, y4 rfl ?_⟩
 refine yO qy (X := Nat) (Y := Unit) (fun k => envL .und [(5, iv k), (1, b), (0, a)]) (fun _ => envL .und [(0, a)])
  (fun μ k H' nx' => μ = l.length - k ∧ k ≤ l.length ∧ nx ≤ nx' ∧ H' = H) (fun id _ H' nx' => id = 0 ∧ nx ≤ nx' ∧ H' = H) l.length 0 ?_ ⟨rfl, Nat.zero_le _, Nat.le_refl _, rfl⟩ ?_ ?_
 ·exact ze.of_list ⟨rfl, rfl, rfl, trivial⟩
 ·rintro μ k H1 nx1 ⟨rfl, hkn, hnx, rfl⟩
  rw [YE]
  unfold qdf
  refine ⟨_, ha.len, ?_⟩
  rw [qK]; simp only [decide_eq_true_eq, decide_eq_false_iff_not, Int.ofNat_eq_natCast]
  refine ⟨fun hlt => ?_, fun hge => ?_⟩
  ·have hlt' : k < l.length := by omega
   obtain ⟨p, p1, p2⟩ := ha.idx (hk.more hnx) hlt'
   obtain ⟨q, q1, q2⟩ := hb.idx (hk.more hnx) hlt'
   have ew : IntKind.i64.wrap ((k : Int) + 1) = ((k + 1 : Nat) : Int) := by rw [zm (by omega) (by omega)]; omega
   refine ⟨by omega, _, by rw [Int.toNat_natCast]; exact p1, _, p2, by omega, _, by rw [Int.toNat_natCast]; exact q1, _, q2, ⟨⟨_, p2, rfl⟩, ⟨_, q2, rfl⟩, trivial⟩, ?_⟩
   have e : (!(l[k] == l[k])) = false := by simp
   rw [e, zk]
   refine ⟨by first | rfl | trivial, l.length - (k + 1), k + 1, by omega, ze.of_list ⟨?_, rfl, rfl, trivial⟩, by first | rfl | trivial, by omega, by omega, by first | rfl | trivial⟩
   show AVal.int .i64 _ = _
   rw [ew]
  ·exact ⟨by first | rfl | trivial, (), ze.of_list ⟨rfl, trivial⟩, by first | rfl | trivial, hnx, by first | rfl | trivial⟩
 ·rintro id _ H1 nx1 ⟨rfl, hnx, rfl⟩
  rw [qai]
  unfold qei
  exact hK _ hnx
def Km (Γ : GH) (H : Heap) (nx : Nat) (p0 p1 p4 : AVal) (p2 : Int) (code : vn) (nums : Int → Option Int) (nl : Nat) : Prop :=
 ∃ (G : Heap → Nat → Prop) (fb off len e nt : Nat) (full : Bool), p1 = .slice fb off len e full ∧ (∀ H H' nx nx', G H nx → (∀ b, b < nx → H' b = H b) → nx ≤ nx' → G H' nx') ∧
  (∀ H nx K, G H nx → (∀ H', (∀ b, b < nx → H' b = H b) → K (.ret (.tuple [.agg [iv 0, iv 0], iv 0])) H' nx) → TriP Tryz.prog 28 [.agg [p0, p1, iv p2, .nilSlice, p4]] H nx K) ∧
  (∀ H nx Γ K, G H nx → HOK Γ H nx → (∀ H' Γ' nx' Γq q0 q1 q3 q4, nx ≤ nx' → HOK Γ' H' nx' → (∀ c ds, Γ c = some ds → Γ' c = some ds) → (∀ c ds, Γq c = some ds → Γ' c = some ds) → OwnV Γq nx nx' q0 q1 q3 q4 code nums → K (.ret (.agg [q0, q1, iv p2, q3, q4])) H' nx') →
   TriP Tryz.prog 29 [.agg [p0, p1, iv p2, .nilSlice, p4]] H nx K) ∧
  G H nx ∧ FnAt Γ p1 p2 nl ∧ nl < 1000000 ∧ len < 1000000 ∧ p2 < len ∧ TypesV Γ p0 nt ∧ qD p0 = true ∧ qD p4 = true
def jN (s : List UInt8) (code : vn) (nums : Int → Option Int) (nl : Nat) (main : Int) : Prop :=
 ∀ Γ H nx K, HOK Γ H nx → (∀ H' Γ' nx' p0 p1 p4, nx ≤ nx' → HOK Γ' H' nx' → (∀ c ds, Γ c = some ds → Γ' c = some ds) → Km Γ' H' nx' p0 p1 p4 main code nums nl → K (.ret (.tuple [.agg [p0, p1, iv main, .nilSlice, p4], .agg [iv 0, iv 0], iv 0])) H' nx') →
  TriP Tryz.prog 14 [.str s] H nx K
theorem Km.mono {Γ Γ' : GH} {H H' : Heap} {nx nx' nl : Nat} {p0 p1 p4 : AVal} {p2 : Int} {code : vn} {nums : Int → Option Int} (h : Km Γ H nx p0 p1 p4 p2 code nums nl) (hs : ∀ c ds, Γ c = some ds → Γ' c = some ds) (hH : ∀ b, b < nx → H' b = H b) (hn : nx ≤ nx') : Km Γ' H' nx' p0 p1 p4 p2 code nums nl := by
 obtain ⟨G, fb, off, len, e, nt, full, a1, a2, a3, a4, a5, a6, a7, a8, a9, a10, a11⟩ := h
 refine ⟨G, fb, off, len, e, nt, full, a1, a2, a3, a4, a2 _ _ _ _ a5 hH hn, ?_, a7, a8, a9, ?_, a11⟩
 ·obtain ⟨b, o, l, e', f', cs, lv, b1, b2, b3, b4, b5⟩ := a6.ex
  exact ⟨a6.nn, b, o, l, e', f', cs, lv, b1, b2, hs _ _ b3, b4, b5⟩
 ·obtain ⟨b, f', cs, b1, b2, b3⟩ := a10.row
  exact ⟨a10.small, b, f', cs, b1, hs _ _ b2, b3⟩
inductive OutIs : Out → Wd → Int → (Int → Prop) → Prop
 | over (W : Wd) : OutIs (.over W) W 1 (fun _ => True)
 | go (S : Mst) : OutIs (.go S) S.wd S.state (fun t => t = S.trap)
theorem OutV.end {Γ0 : GH} {pg : Pg} {m : Nat} {o : Out} {W : Wd} {st : Int} {P : Int → Prop} {H : Heap} {nx : Nat} (h : OutV Γ0 pg m o H nx) (ho : OutIs o W st P) : ∃ tr, P tr ∧ EndV Γ0 pg m st tr W H nx := by
 cases ho with
 | over W =>
  rcases h with ⟨S, fb, e, h⟩ | ⟨W', e, h⟩
  ·cases e
  ·cases e; obtain ⟨tr, h⟩ := h.end; exact ⟨tr, trivial, h⟩
 | go S =>
  rcases h with ⟨S', fb, e, h⟩ | ⟨W', e, h⟩
  ·cases e; exact ⟨_, rfl, h.end⟩
  ·cases e
end Go.Vs
end
section
namespace Go.Vs
open Go Go.Proofs Go.Bridge Go.Proofs.YtnkeadjkckpknaaGreatDoor
def intB (v : Ev.AVal) (n : Int) : Bool := match v with
 | .int .i64 m => decide (m = n)
 | _ => false
theorem Zu {v : Ev.AVal} {n : Int} (h : intB v n = true) : v = .int .i64 n := by
 unfold intB at h
 split at h
 ·rw [of_decide_eq_true h]
 ·cases h
def WA : List Ev.AVal → List Ins → Bool
 | [], [] => true
 | a :: b :: d :: r, x :: c => intB a x.1 && intB b x.2.1 && intB d x.2.2 && WA r c
 | _, _ => false
def WS : List Ev.AVal → List Int → Bool
 | [], [] => true
 | a :: r, x :: c => intB a x && WS r c
 | _, _ => false
def typB : List Ev.AVal → Nat → Bool
 | _, 0 => true
 | .int .i64 _ :: .str _ _ :: .int .i64 _ :: .nilSlice :: .nilSlice :: r, n + 1 => typB r n
 | _, _ => false
def fnsB (objs : List (List Ev.AVal)) (n0 : Nat) : List Ev.AVal → List (List Ins) → Bool
 | [], [] => true
 | _ :: _ :: _ :: _ :: .slice cb 0 len 3 _ :: r, c :: l => Nat.ble n0 cb && Nat.beq len c.length && (match objs[cb - n0]? with | some x => WA x c | none => false) && fnsB objs n0 r l
 | _, _ => false
section
variable [Ev.GTab] [GTab] {ψ : Nat → Nat}
theorem KW : ∀ {r : List Ev.AVal} {c : List Ins}, WA r c = true → r.map (tr2 ψ) = wq c
 | [], [], _ => rfl
 | a :: b :: d :: r, x :: c, h => by
  unfold WA at h
  simp only [Bool.and_eq_true] at h
  obtain ⟨⟨⟨h1, h2⟩, h3⟩, h4⟩ := h
  rw [Zu h1, Zu h2, Zu h3]
  show _ :: _ :: _ :: r.map (tr2 ψ) = _
  rw [KW h4]
  rfl
 | [], _ :: _, h => by cases h
 | [_], _, h => by cases ‹List Ins› <;> cases h
 | [_, _], _, h => by cases ‹List Ins› <;> cases h
 | _ :: _ :: _ :: _, [], h => by cases h
theorem KI : ∀ {r : List Ev.AVal} {c : List Int}, WS r c = true → r.map (tr2 ψ) = c.map iv
 | [], [], _ => rfl
 | a :: r, x :: c, h => by
  unfold WS at h
  rw [Bool.and_eq_true] at h
  rw [Zu h.1]
  show _ :: r.map (tr2 ψ) = _
  rw [KI h.2]; rfl
 | [], _ :: _, h => by cases h
 | _ :: _, [], h => by cases h
theorem WO : ∀ {n : Nat} {r : List Ev.AVal}, typB r n = true → ∀ i, i < n → i * 5 + 5 ≤ (r.map (tr2 ψ)).length ∧ ∃ kd nm el ml, ((r.map (tr2 ψ)).drop (i * 5)).take 5 = [iv kd, .str nm, iv el, .nilSlice, ml] ∧ qD ml = true
 | 0, _, _, i, hi => by omega
 | n + 1, r, h, i, hi => by
  unfold typB at h
  split at h <;> first | omega | (cases h; done) | skip
  rename_i k1 q1 q2 k2 r' n' _ e
  cases e
  cases i with
  | zero => exact ⟨by simp, _, _, _, .nilSlice, rfl, rfl⟩
  | succ i =>
   obtain ⟨h1, h2⟩ := WO h i (by omega)
   refine ⟨by simp at h1 ⊢; omega, ?_⟩
   rw [show (i + 1) * 5 = i * 5 + 1 + 1 + 1 + 1 + 1 by omega]
   exact h2
theorem Wo {objs : List (List Ev.AVal)} {n0 : Nat} : ∀ {r : List Ev.AVal} {l : List (List Ins)}, fnsB objs n0 r l = true → ∀ i c, l[i]? = some c → ∃ cb ce cf, (r.map (tr2 ψ))[i * 5 + 4]? = some (.slice (ψ cb) 0 c.length ce cf) ∧ n0 ≤ cb ∧ ∃ x, objs[cb - n0]? = some x ∧ x.map (tr2 ψ) = wq c
 | r, [], _, i, c, hc => by simp at hc
 | r, c0 :: l, h, i, c, hc => by
  unfold fnsB at h
  split at h <;> try (cases h; done)
  ·rename_i e; cases e
  rename_i cb len f r' c0' l' e
  cases e
  simp only [Bool.and_eq_true] at h
  obtain ⟨⟨⟨h1, h2⟩, h3⟩, h4⟩ := h
  cases i with
  | zero =>
   simp at hc; subst hc
   split at h3
   ·rename_i x hx
    refine ⟨cb, 3, f, ?_, Nat.le_of_ble_eq_true h1, x, hx, KW h3⟩
    rw [← Nat.eq_of_beq_eq_true h2]; rfl
   ·cases h3
  | succ i =>
   obtain ⟨cb', ce, cf, a1, a2⟩ := Wo h4 i c (by simpa using hc)
   refine ⟨cb', ce, cf, ?_, a2⟩
   rw [show (i + 1) * 5 + 4 = i * 5 + 4 + 1 + 1 + 1 + 1 + 1 by omega]
   exact a1
end
structure SrcB where
 objs : List (List Ev.AVal)
 rn : List Nat
 objs2 : List (List Ev.AVal)
 rn2 : List Nat
 tb : Nat
 nt : Nat
 tf : Bool
 fb : Nat
 nf : Nat
 ff : Bool
 main : Nat
 p4 : Ev.AVal
 q0 : Ev.AVal
 fb2 : Nat
 ff2 : Bool
 q3 : Ev.AVal
 nb2 : Nat
 nf2 : Bool
 lv : Ev.AVal
 nl : Nat
 code : List (List Ins)
 nums : List Int
namespace SrcB
abbrev p (s : SrcB) : List Ev.AVal := [.slice s.tb 0 s.nt 5 s.tf, .slice s.fb 0 s.nf 5 s.ff, .int .i64 s.main, .nilSlice, s.p4]
abbrev q (s : SrcB) : List Ev.AVal := [s.q0, .slice s.fb2 0 s.code.length 5 s.ff2, .int .i64 s.main, s.q3, .slice s.nb2 0 s.nums.length 1 s.nf2]
def cellB (v : Ev.AVal) : Bool := match v with
 | .nilSlice => true
 | .slice _ _ _ _ _ => true
 | _ => false
def lenB (v : Ev.AVal) (n : Nat) : Bool := match v with
 | .nilSlice => Nat.beq n 0
 | .slice _ _ len _ _ => Nat.beq len n
 | _ => false
noncomputable def okB (s : SrcB) : Bool :=
 Nat.ble s.objs.length 1000 && Nat.ble s.objs2.length 1000 && Jj s.objs && Ev.vL s.rn && Ev.vL (List.range s.objs.length ++ s.rn2) &&
 (match s.objs[s.tb]? with | some c => typB c s.nt | none => false) &&
 (match s.objs[s.fb]? with | some c => (match c[s.main * 5 + 3]? with | some v => lenB v s.nl | none => false) | none => false) &&
 Nat.ble (Nat.succ s.main) s.nf && Nat.ble s.nf 1000 && Nat.ble s.nl 1000 && Nat.ble s.nt 1000 && cellB s.p4 && cellB s.q0 && cellB s.q3 &&
 Nat.ble s.objs.length s.fb2 && Nat.ble s.objs.length s.nb2 &&
 (match s.objs2[s.fb2 - s.objs.length]? with | some c => fnsB s.objs2 s.objs.length c s.code | none => false) &&
 (match s.objs2[s.nb2 - s.objs.length]? with | some c => WS c s.nums | none => false) && Nat.ble s.code.length 1000
end SrcB
theorem Xh [Ev.GTab] {l : List Nat} (h : l.Nodup) : Ev.vL l = true := by
 induction l with
 | nil => rfl
 | cons a l ih =>
  unfold Ev.vL
  have h1 : Ev.memN a l = false := by
   cases e : Ev.memN a l with
   | false => rfl
   | true => exact ((List.nodup_cons.1 h).1 ((Ev.yj a l).1 e)).elim
  rw [h1]
  exact ih (List.nodup_cons.1 h).2
theorem nodup_range [Ev.GTab] (n : Nat) : Ev.vL (List.range n) = true := Xh List.nodup_range
section
variable [Ev.GTab] [Ev.SymC Tryz.prog 202 25] [GTab]
theorem Jg {ψ : Nat → Nat} {v : Ev.AVal} (h : SrcB.cellB v = true) : qD (tr2 ψ v) = true := by
 unfold SrcB.cellB at h
 split at h <;> first | rfl | (cases h; done)
theorem ZB {σ : Sg} {σ1 : Ev.Sg} {φ : Nat → Nat} {n0 : Nat} (hs : ∀ b p, b < n0 → σ (φ b) = some p → σ1 b = some p) : ∀ {l : List Ev.AVal} {l' : List Value}, (∀ v, v ∈ l → Qt n0 v) → DenL σ (l.map (tr2 φ)) l' → Ev.DenL σ1 l l'
 | [], _, _, h => by cases h; exact .nil
 | v :: l, _, hb, h => by
  have h' : DenL σ (tr2 φ v :: l.map (tr2 φ)) _ := h
  cases h' with
  | cons h1 h2 => exact .cons (Vw hs (hb v (List.mem_cons_self ..)) h1) (ZB hs (fun v hv => hb v (List.mem_cons_of_mem _ hv)) h2)
theorem je (hg0 : ∀ q, Ev.GTab.tab q = none) (hg1 : ∀ q o', Ev.GTab.blk q = some o' → GTab.blk q = some o') (s : SrcB) {sl sn : Nat} {n1 n2 n3 : Nat} (ok : s.okB = true) (hpb : (s.p.all (Ye s.objs.length)) = true)
  (r1 : runJ Tryz.prog w0 14 n1 [.str sl sn] [] s.objs s.rn (.tuple [.agg s.p, .agg [.int .i64 0, .int .i64 0], .int .i64 0]) = true)
  (r2 : runJ Tryz.prog w0 28 n2 [.agg s.p] s.objs [] (List.range s.objs.length) (.tuple [.agg [.int .i64 0, .int .i64 0], .int .i64 0]) = true)
  (r3 : runJ Tryz.prog w0 29 n3 [.agg s.p] s.objs s.objs2 (List.range s.objs.length ++ s.rn2) (.agg s.q) = true) (hsn : sn < 256 ^ sl) :
  jN (Ev.digs sl sn) (jg s.code) (jr s.nums) s.nl s.main := by
 unfold SrcB.okB at ok
 simp only [Bool.and_eq_true] at ok
 obtain ⟨⟨⟨⟨⟨⟨⟨⟨⟨⟨⟨⟨⟨⟨⟨⟨⟨⟨o1, o2⟩, o3⟩, o4⟩, o5⟩, o6⟩, o7⟩, o8⟩, o9⟩, o10⟩, o11⟩, o12⟩, o13⟩, o14⟩, o15⟩, o16⟩, o17⟩, o18⟩, o19⟩ := ok
 have l19 := Nat.le_of_ble_eq_true o19
 have l1 := Nat.le_of_ble_eq_true o1
 have l2 := Nat.le_of_ble_eq_true o2
 have l8 := Nat.le_of_ble_eq_true o8
 have l9 := Nat.le_of_ble_eq_true o9
 have l10 := Nat.le_of_ble_eq_true o10
 have l11 := Nat.le_of_ble_eq_true o11
 have l15 := Nat.le_of_ble_eq_true o15
 have l16 := Nat.le_of_ble_eq_true o16
 rw [List.all_eq_true] at hpb
 intro Γ H nx K hk hK
 refine Ka (objs0 := []) (objs1 := s.objs) (φ := fun b => b) qy Wm (by simp) rfl (fun b hb => by simp at hb) (fun b c hb => by simp at hb) (fun i c h => by simp at h) (fun σ w h => J3 hg0 hg1 h) ?_ rfl o4 r1 ?_
 ·intro σ args' h
  cases h with
  | cons h1 t1 => cases t1; cases h1; exact .cons (.str sl sn hsn) .nil
 let φ : Nat → Nat := fun i => nx + i
 have eφ : psi ([] : List (List Ev.AVal)).length nx (fun b => b) = φ := by funext b; simp [psi, φ]
 rw [eφ]
 have k1 := Wb (ψ := φ) (objs := s.objs) hk
 have sub1 : ∀ c ds, Γ c = some ds → addG Γ φ nx s.objs c = some ds := fun c ds ec => by rw [Zq (hk.lt ec)]; exact ec
 have eU : trU φ (.tuple [.agg s.p, .agg [.int .i64 0, .int .i64 0], .int .i64 0]) = .tuple [.agg [.slice (φ s.tb) 0 s.nt 5 s.tf, .slice (φ s.fb) 0 s.nf 5 s.ff, iv s.main, .nilSlice, tr2 φ s.p4], .agg [iv 0, iv 0], iv 0] := rfl
 rw [eU]
 have eP : s.p.map (tr2 φ) = [.slice (φ s.tb) 0 s.nt 5 s.tf, .slice (φ s.fb) 0 s.nf 5 s.ff, iv s.main, .nilSlice, tr2 φ s.p4] := rfl
 have hat : ∀ i c, s.objs[i]? = some c → addG Γ φ nx s.objs (φ i) = some (c.map (tr2 φ)) := fun i c h => by show addG Γ φ nx s.objs (nx + i) = _; rw [Kl, h]; rfl
 have hargs : ∀ (σ : Sg) args', DenL σ [.agg [.slice (φ s.tb) 0 s.nt 5 s.tf, .slice (φ s.fb) 0 s.nf 5 s.ff, iv s.main, .nilSlice, tr2 φ s.p4]] args' → Ev.DenL (sg0 s.objs.length φ σ) [.agg s.p] args' := by
  intro σ args' h
  rw [← eP] at h
  cases h with
  | cons h1 t1 =>
   cases t1
   cases h1 with
   | agg h2 => exact .cons (.agg (ZB (fun b p hb hs => by rw [VE hb]; exact hs) (fun v hv => y3 (hpb v hv)) h2)) .nil
 refine hK _ _ _ _ _ _ (by omega) k1 sub1 ⟨fun H' nx' => (∀ i c, s.objs[i]? = some c → H' (φ i) = some (.cells c.length (c.map (tr2 φ)) [] false)) ∧ nx + s.objs.length ≤ nx', φ s.fb, 0, s.nf, 5, s.nt, s.ff, rfl, ?_, ?_, ?_, ?_, ?_, by omega, by omega, by omega, ?_, rfl, Jg o12⟩
 ·rintro H1 H2 n1 n2 ⟨h1, h2⟩ hs hn
  refine ⟨fun i c hc => ?_, by omega⟩
  have hi := (List.getElem?_eq_some_iff.1 hc).1
  rw [hs _ (by show nx + i < n1; omega)]; exact h1 i c hc
 ·rintro H1 n1 K1 ⟨h1, h2⟩ hK1
  refine Ka (objs0 := s.objs) (objs1 := []) (φ := φ) qy Wm (by omega) o3 (fun b hb => by show nx + b < n1; omega) (fun b c hb hc e => by have e' : nx + b = nx + c := e; omega) h1 (fun σ w h => J3 hg0 hg1 h) hargs
   (by rw [List.take_of_length_le (by simp)]) ?_ r2 ?_
  ·exact nodup_range _
  ·exact hK1 _ fun b hb => JR hb
 ·rintro H1 n1 Γ1 K1 ⟨h1, h2⟩ hk1 hK1
  refine Ka (objs0 := s.objs) (objs1 := s.objs2) (φ := φ) qy Wm (by omega) o3 (fun b hb => by show nx + b < n1; omega) (fun b c hb hc e => by have e' : nx + b = nx + c := e; omega) h1 (fun σ w h => J3 hg0 hg1 h) hargs
   (by rw [List.take_append_of_le_length (by simp), List.take_of_length_le (by simp)]) o5 r3 ?_
  have k2 := Wb (ψ := psi s.objs.length n1 φ) (objs := s.objs2) hk1
  have eV : trU (psi s.objs.length n1 φ) (.agg s.q) = .agg [tr2 (psi s.objs.length n1 φ) s.q0, .slice (psi s.objs.length n1 φ s.fb2) 0 s.code.length 5 s.ff2, iv s.main, tr2 (psi s.objs.length n1 φ) s.q3, .slice (psi s.objs.length n1 φ s.nb2) 0 s.nums.length 1 s.nf2] := rfl
  rw [eV]
  refine hK1 _ _ _ (fun c => if n1 ≤ c then (s.objs2[c - n1]?).map (fun c => c.map (tr2 (psi s.objs.length n1 φ))) else none) _ _ _ _ (by omega) k2 (fun c ds ec => by rw [Zq (hk1.lt ec)]; exact ec) (fun c ds ec => ?_) ⟨fun c ds ec => ?_, fun p2 w fb => ProgV.ok ⟨?_, ?_⟩, fun b off len e full e' => by cases e'; omega, Jg o13, rfl, Jg o14, rfl⟩
  ·have ec' : (if n1 ≤ c then (s.objs2[c - n1]?).map (fun c => c.map (tr2 (psi s.objs.length n1 φ))) else none) = some ds := ec
   split at ec'
   ·obtain ⟨i, rfl⟩ : ∃ i, c = n1 + i := ⟨c - n1, by omega⟩
    rw [Kl]
    rw [show n1 + i - n1 = i by omega] at ec'; exact ec'
   ·cases ec'
  ·have ec' : (if n1 ≤ c then (s.objs2[c - n1]?).map (fun c => c.map (tr2 (psi s.objs.length n1 φ))) else none) = some ds := ec
   split at ec'
   ·refine ⟨by assumption, ?_⟩
    cases hq : s.objs2[c - n1]? with
    | none => rw [hq] at ec'; cases ec'
    | some x => have := (List.getElem?_eq_some_iff.1 hq).1; omega
   ·cases ec'
  ·cases hq : s.objs2[s.fb2 - s.objs.length]? with
   | none => rw [hq] at o17; cases o17
   | some fc =>
    rw [hq] at o17
    refine ⟨psi s.objs.length n1 φ s.fb2, 5, s.ff2, fc.map (tr2 (psi s.objs.length n1 φ)), rfl, ?_, fun i c hc => ?_⟩
    ·rw [JO l15]
     simp only [show n1 ≤ n1 + (s.fb2 - s.objs.length) by omega, if_true, show n1 + (s.fb2 - s.objs.length) - n1 = s.fb2 - s.objs.length by omega, hq, Option.map_some]
    ·obtain ⟨cb, ce, cf, a1, a2, x, a3, a4⟩ := Wo (ψ := psi s.objs.length n1 φ) o17 i c hc
     refine ⟨psi s.objs.length n1 φ cb, ce, cf, a1, ?_⟩
     rw [JO a2]
     simp only [show n1 ≤ n1 + (cb - s.objs.length) by omega, if_true, show n1 + (cb - s.objs.length) - n1 = cb - s.objs.length by omega, a3, Option.map_some, a4]
  ·cases hq : s.objs2[s.nb2 - s.objs.length]? with
   | none => rw [hq] at o18; cases o18
   | some nc =>
    rw [hq] at o18
    refine ⟨psi s.objs.length n1 φ s.nb2, 1, s.nf2, rfl, ?_⟩
    rw [JO l16]
    simp only [show n1 ≤ n1 + (s.nb2 - s.objs.length) by omega, if_true, show n1 + (s.nb2 - s.objs.length) - n1 = s.nb2 - s.objs.length by omega, hq, Option.map_some, KI o18]
 ·refine ⟨fun i c hc => ?_, by simp⟩
  show layV φ nx s.objs H (nx + i) = _
  rw [JV, hc]; rfl
 ·refine ⟨by omega, φ s.fb, 0, s.nf, 5, s.ff, ?_⟩
  cases hq : s.objs[s.fb]? with
  | none => rw [hq] at o7; cases o7
  | some fc =>
   rw [hq] at o7
   dsimp only at o7
   cases hv : fc[s.main * 5 + 3]? with
   | none => rw [hv] at o7; cases o7
   | some v =>
    rw [hv] at o7
    refine ⟨fc.map (tr2 φ), tr2 φ v, rfl, by omega, hat _ _ hq, ?_, ?_⟩
    ·rw [Int.toNat_natCast, Nat.zero_add, List.getElem?_map, hv]; rfl
    ·dsimp only at o7
     unfold SrcB.lenB at o7
     split at o7
     ·rw [Nat.eq_of_beq_eq_true o7]; rfl
     ·rw [← Nat.eq_of_beq_eq_true o7]; rfl
     ·cases o7
 ·cases hq : s.objs[s.tb]? with
  | none => rw [hq] at o6; cases o6
  | some tc =>
   rw [hq] at o6
   exact ⟨by omega, φ s.tb, s.tf, tc.map (tr2 φ), rfl, hat _ _ hq, WO o6⟩
end
end Go.Vs
end
