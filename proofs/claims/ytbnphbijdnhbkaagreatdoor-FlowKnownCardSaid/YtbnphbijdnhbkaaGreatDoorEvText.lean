/-
  Own work. What strings.Count and stringslite.IndexByte return, at texts that are known: an oracle made of their contracts.
-/
import Derived.Test.YtbnphbijdnhbkaaGreatDoorEvOrc
import Derived.Lib.Bytealg
namespace Go.Ev
variable [GTab]
set_option linter.unusedSectionVars false

/-- How often a byte stands among the last n. -/
noncomputable def cntN (x c n : Nat) : Nat := Nat.rec (motive := fun _ => Nat) 0 (fun n ih => Bool.rec ih (Nat.succ ih) (Nat.beq (Nat.mod (Nat.div x (Nat.pow 256 n)) 256) c)) n

/-- Where a byte stands first among the last n; there are i before them. -/
noncomputable def idxN (x c n : Nat) : Nat → Option Nat := Nat.rec (motive := fun _ => Nat → Option Nat) (fun _ => none) (fun n ih i => Bool.rec (ih (Nat.succ i)) (some i) (Nat.beq (Nat.mod (Nat.div x (Nat.pow 256 n)) 256) c)) n

theorem beq_byte {y c : Nat} (hc : c < 256) : (UInt8.ofNat y == UInt8.ofNat c) = Nat.beq (Nat.mod y 256) c := by
  have h1 : Nat.beq (Nat.mod y 256) c = true ↔ y % 256 = c := by
    constructor
    · exact fun h => Nat.eq_of_beq_eq_true h
    · intro h; show Nat.beq (y % 256) c = true; rw [h]; exact Nat.beq_refl c
  cases hb : Nat.beq (Nat.mod y 256) c with
  | true =>
    have := h1.1 hb
    rw [beq_iff_eq]
    exact ofNat_congr (by omega)
  | false =>
    rw [beq_eq_false_iff_ne]
    intro h
    have h2 := ofNat_inj h
    have : y % 256 = c := by omega
    rw [h1.2 this] at hb
    cases hb

theorem cntN_ok (x c : Nat) (hc : c < 256) : ∀ n, Lib.countByte (digs n x) (UInt8.ofNat c) = cntN x c n := by
  intro n
  induction n with
  | zero => rfl
  | succ n ih =>
    have e : cntN x c (n + 1) = Bool.rec (cntN x c n) (Nat.succ (cntN x c n)) (Nat.beq (Nat.mod (x / 256 ^ n) 256) c) := rfl
    rw [e, ← beq_byte hc]
    unfold Lib.countByte at ih ⊢
    simp only [digs, List.count_cons, ih]
    cases (UInt8.ofNat (x / 256 ^ n) == UInt8.ofNat c) <;> rfl

theorem idxN_ok (x c : Nat) (hc : c < 256) : ∀ n i, (idxN x c n i = none ∧ Lib.indexByte (digs n x) (UInt8.ofNat c) = -1) ∨ ∃ k : Nat, idxN x c n i = some (i + k) ∧ Lib.indexByte (digs n x) (UInt8.ofNat c) = (k : Int) := by
  intro n
  induction n with
  | zero => intro i; exact .inl ⟨rfl, rfl⟩
  | succ n ih =>
    intro i
    have e : idxN x c (n + 1) i = Bool.rec (idxN x c n (Nat.succ i)) (some i) (Nat.beq (Nat.mod (x / 256 ^ n) 256) c) := rfl
    rw [e, ← beq_byte hc]
    simp only [digs, Lib.indexByte]
    cases hb : (UInt8.ofNat (x / 256 ^ n) == UInt8.ofNat c) with
    | true => exact .inr ⟨0, rfl, rfl⟩
    | false =>
      rcases ih (i + 1) with ⟨h1, h2⟩ | ⟨k, h1, h2⟩
      · exact .inl ⟨h1, by simp [h2]⟩
      · refine .inr ⟨k + 1, ?_, ?_⟩
        · show idxN x c n (i + 1) = _
          rw [h1]; congr 1; omega
        · rw [h2]
          have : ((k : Int) == -1) = false := beq_eq_false_iff_ne.2 (by omega)
          simp [this]

noncomputable def cntR (args : List AVal) (rest : Option (List AVal)) : Option (List AVal) :=
  match args with
  | [.str n x, .str m c] => match Nat.beq m 1 with
    | true => forceN (cntN x c n) fun r => some [.int .i64 (.ofNat r)]
    | false => rest
  | _ => rest

noncomputable def idxR (args : List AVal) (rest : Option (List AVal)) : Option (List AVal) :=
  match args with
  | [.str n x, .int .u8 (.ofNat c)] => match Nat.ble c 255 with
    | true => match idxN x c n 0 with
      | some r => forceN r fun r => some [.int .i64 (.ofNat r)]
      | none => some [.int .i64 (.negSucc 0)]
    | false => rest
  | _ => rest

/-- The two contracts. -/
structure TextOK (P : Program) (fc fi : FuncId) : Prop where
  cnt : ∀ (s : ByteArray) (c : UInt8) (w : World), Calls P fc #[.string s, .string ⟨#[c]⟩] w fun e w' => e = .returned (.int .i64 (Lib.countByte s.data.toList c)) ∧ w' = w
  idx : ∀ (s : ByteArray) (c : Int) (w : World), Calls P fi #[.string s, .int .u8 c] w fun e w' => e = .returned (.int .i64 (Lib.indexByte s.data.toList c.toNat.toUInt8)) ∧ w' = w

noncomputable def textOrc (fc fi : FuncId) (orc : Orc) : Orc := fun f args => Bool.rec (Bool.rec (orc f args) (idxR args (orc f args)) (Nat.beq f fi)) (cntR args (orc f args)) (Nat.beq f fc)

theorem textOrc_ok {P : Program} {fc fi : FuncId} {orc : Orc} (ho : OrcOK P orc) (ht : TextOK P fc fi) : OrcOK P (textOrc fc fi orc) := by
  intro f args l hl σ w args' hg hd
  unfold textOrc at hl
  cases hf : Nat.beq f fc with
  | true =>
    rw [hf] at hl
    have e := Nat.eq_of_beq_eq_true hf
    subst e
    have hl' : cntR args (orc f args) = some l := hl
    unfold cntR at hl'
    split at hl'
    · rename_i n x m c
      split at hl'
      · rename_i hm
        have hm' := Nat.eq_of_beq_eq_true hm
        subst hm'
        rw [forceN_eq] at hl'
        cases hl'
        cases hd with
        | cons h1 t1 =>
          cases t1 with
          | cons h2 t2 =>
            cases t2
            cases h1 with
            | str _ _ hx =>
              cases h2 with
              | str _ _ hc =>
                have hc' : c < 256 := by simpa using hc
                have e2 : dec 1 c = ⟨#[UInt8.ofNat c]⟩ := by simp [dec, digs]
                rw [e2]
                refine (ht.cnt (dec n x) (UInt8.ofNat c) w).mono fun e w' ⟨he, hw⟩ => ?_
                subst hw
                refine ⟨⟨_, _, List.mem_singleton.2 rfl, .int _ _, ?_⟩, rfl, Kept.refl _⟩
                rw [he, dec_data, cntN_ok x c hc']
                rfl
      · exact ho f _ l hl' σ w args' hg hd
    · exact ho f _ l hl' σ w args' hg hd
  | false =>
    rw [hf] at hl
    cases hf2 : Nat.beq f fi with
    | false => rw [hf2] at hl; exact ho f args l hl σ w args' hg hd
    | true =>
      rw [hf2] at hl
      have e := Nat.eq_of_beq_eq_true hf2
      subst e
      have hl' : idxR args (orc f args) = some l := hl
      unfold idxR at hl'
      split at hl'
      · rename_i n x c
        split at hl'
        · rename_i hm
          have hm' : c ≤ 255 := Nat.le_of_ble_eq_true hm
          cases hd with
          | cons h1 t1 =>
            cases t1 with
            | cons h2 t2 =>
              cases t2
              cases h1 with
              | str _ _ hx =>
                cases h2
                refine (ht.idx (dec n x) (Int.ofNat c) w).mono fun e w' ⟨he, hw⟩ => ?_
                subst hw
                have e3 : (Int.ofNat c).toNat.toUInt8 = UInt8.ofNat c := rfl
                rw [e3, dec_data] at he
                rcases idxN_ok x c (by omega) n 0 with ⟨g1, g2⟩ | ⟨k, g1, g2⟩
                · rw [g1] at hl'
                  cases hl'
                  exact ⟨⟨_, _, List.mem_singleton.2 rfl, .int _ _, by rw [he, g2]; rfl⟩, rfl, Kept.refl _⟩
                · rw [g1] at hl'
                  simp only [forceN_eq, Nat.zero_add] at hl'
                  cases hl'
                  exact ⟨⟨_, _, List.mem_singleton.2 rfl, .int _ _, by rw [he, g2]; rfl⟩, rfl, Kept.refl _⟩
        · exact ho f _ l hl' σ w args' hg hd
      · exact ho f _ l hl' σ w args' hg hd

end Go.Ev
