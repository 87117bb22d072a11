/-
  Own work. What strings.Count and stringslite.IndexByte return, at texts that are known: an oracle made of their contracts.
-/
import Derived.Test.YtdigeeejmgkcoaaGreatDoorEvOrc
import Derived.Lib.Bytealg
import Derived.Test.YtdigeeejmgkcoaaGreatDoorEvImp
import Derived.Lib.ItoaMem
namespace Go.Ev
variable [GTab]
set_option linter.unusedSectionVars false

/-- How often a byte stands among the last n. -/
noncomputable def cntN (x c n : Nat) : Nat := Nat.rec (motive := fun _ => Nat) 0 (fun n ih => Bool.rec ih (Nat.succ ih) (Nat.beq (Nat.mod (Nat.div x (Nat.pow 256 n)) 256) c)) n

/-- Where a byte stands first among the last n; there are i before them. -/
noncomputable def idxN (x c n : Nat) : Nat → Option Nat := Nat.rec (motive := fun _ => Nat → Option Nat) (fun _ => none) (fun n ih i => Bool.rec (ih (Nat.succ i)) (some i) (Nat.beq (Nat.mod (Nat.div x (Nat.pow 256 n)) 256) c)) n

theorem beq_byte {y c : Nat} (hc : c < 256) : (UInt8.ofNat y == UInt8.ofNat c) = Nat.beq (Nat.mod y 256) c := by
  have h1 : Nat.beq (Nat.mod y 256) c = true ↔ y % 256 = c := by
    constructor
    · exact fun h => Nat.eq_of_beq_eq_true h
    · intro h; show Nat.beq (y % 256) c = true; rw [h]; exact Nat.beq_refl c
  cases hb : Nat.beq (Nat.mod y 256) c with
  | true =>
    have := h1.1 hb
    rw [beq_iff_eq]
    exact ofNat_congr (by omega)
  | false =>
    rw [beq_eq_false_iff_ne]
    intro h
    have h2 := ofNat_inj h
    have : y % 256 = c := by omega
    rw [h1.2 this] at hb
    cases hb

theorem cntN_ok (x c : Nat) (hc : c < 256) : ∀ n, Lib.countByte (digs n x) (UInt8.ofNat c) = cntN x c n := by
  intro n
  induction n with
  | zero => rfl
  | succ n ih =>
    have e : cntN x c (n + 1) = Bool.rec (cntN x c n) (Nat.succ (cntN x c n)) (Nat.beq (Nat.mod (x / 256 ^ n) 256) c) := rfl
    rw [e, ← beq_byte hc]
    unfold Lib.countByte at ih ⊢
    simp only [digs, List.count_cons, ih]
    cases (UInt8.ofNat (x / 256 ^ n) == UInt8.ofNat c) <;> rfl

theorem idxN_ok (x c : Nat) (hc : c < 256) : ∀ n i, (idxN x c n i = none ∧ Lib.indexByte (digs n x) (UInt8.ofNat c) = -1) ∨ ∃ k : Nat, idxN x c n i = some (i + k) ∧ Lib.indexByte (digs n x) (UInt8.ofNat c) = (k : Int) := by
  intro n
  induction n with
  | zero => intro i; exact .inl ⟨rfl, rfl⟩
  | succ n ih =>
    intro i
    have e : idxN x c (n + 1) i = Bool.rec (idxN x c n (Nat.succ i)) (some i) (Nat.beq (Nat.mod (x / 256 ^ n) 256) c) := rfl
    rw [e, ← beq_byte hc]
    simp only [digs, Lib.indexByte]
    cases hb : (UInt8.ofNat (x / 256 ^ n) == UInt8.ofNat c) with
    | true => exact .inr ⟨0, rfl, rfl⟩
    | false =>
      rcases ih (i + 1) with ⟨h1, h2⟩ | ⟨k, h1, h2⟩
      · exact .inl ⟨h1, by simp [h2]⟩
      · refine .inr ⟨k + 1, ?_, ?_⟩
        · show idxN x c n (i + 1) = _
          rw [h1]; congr 1; omega
        · rw [h2]
          have : ((k : Int) == -1) = false := beq_eq_false_iff_ne.2 (by omega)
          simp [this]

noncomputable def cntR (args : List AVal) (rest : Option (List AVal)) : Option (List AVal) :=
  match args with
  | [.str n x, .str m c] => match Nat.beq m 1 with
    | true => forceN (cntN x c n) fun r => some [.int .i64 (.ofNat r)]
    | false => rest
  | _ => rest

noncomputable def idxR (args : List AVal) (rest : Option (List AVal)) : Option (List AVal) :=
  match args with
  | [.str n x, .int .u8 (.ofNat c)] => match Nat.ble c 255 with
    | true => match idxN x c n 0 with
      | some r => forceN r fun r => some [.int .i64 (.ofNat r)]
      | none => some [.int .i64 (.negSucc 0)]
    | false => rest
  | _ => rest

/-- The two contracts. -/
structure TextOK (P : Program) (fc fi : FuncId) : Prop where
  cnt : ∀ (s : ByteArray) (c : UInt8) (w : World), Calls P fc #[.string s, .string ⟨#[c]⟩] w fun e w' => e = .returned (.int .i64 (Lib.countByte s.data.toList c)) ∧ w' = w
  idx : ∀ (s : ByteArray) (c : Int) (w : World), Calls P fi #[.string s, .int .u8 c] w fun e w' => e = .returned (.int .i64 (Lib.indexByte s.data.toList c.toNat.toUInt8)) ∧ w' = w

noncomputable def textOrc (fc fi : FuncId) (orc : Orc) : Orc := fun f args => Bool.rec (Bool.rec (orc f args) (idxR args (orc f args)) (Nat.beq f fi)) (cntR args (orc f args)) (Nat.beq f fc)

theorem textOrc_ok {P : Program} {fc fi : FuncId} {orc : Orc} (ho : OrcOK P orc) (ht : TextOK P fc fi) : OrcOK P (textOrc fc fi orc) := by
  intro f args l hl σ w args' hg hd
  unfold textOrc at hl
  cases hf : Nat.beq f fc with
  | true =>
    rw [hf] at hl
    have e := Nat.eq_of_beq_eq_true hf
    subst e
    have hl' : cntR args (orc f args) = some l := hl
    unfold cntR at hl'
    split at hl'
    · rename_i n x m c
      split at hl'
      · rename_i hm
        have hm' := Nat.eq_of_beq_eq_true hm
        subst hm'
        rw [forceN_eq] at hl'
        cases hl'
        cases hd with
        | cons h1 t1 =>
          cases t1 with
          | cons h2 t2 =>
            cases t2
            cases h1 with
            | str _ _ hx =>
              cases h2 with
              | str _ _ hc =>
                have hc' : c < 256 := by simpa using hc
                have e2 : dec 1 c = ⟨#[UInt8.ofNat c]⟩ := by simp [dec, digs]
                rw [e2]
                refine (ht.cnt (dec n x) (UInt8.ofNat c) w).mono fun e w' ⟨he, hw⟩ => ?_
                subst hw
                refine ⟨⟨_, _, List.mem_singleton.2 rfl, .int _ _, ?_⟩, rfl, Kept.refl _⟩
                rw [he, dec_data, cntN_ok x c hc']
                rfl
      · exact ho f _ l hl' σ w args' hg hd
    · exact ho f _ l hl' σ w args' hg hd
  | false =>
    rw [hf] at hl
    cases hf2 : Nat.beq f fi with
    | false => rw [hf2] at hl; exact ho f args l hl σ w args' hg hd
    | true =>
      rw [hf2] at hl
      have e := Nat.eq_of_beq_eq_true hf2
      subst e
      have hl' : idxR args (orc f args) = some l := hl
      unfold idxR at hl'
      split at hl'
      · rename_i n x c
        split at hl'
        · rename_i hm
          have hm' : c ≤ 255 := Nat.le_of_ble_eq_true hm
          cases hd with
          | cons h1 t1 =>
            cases t1 with
            | cons h2 t2 =>
              cases t2
              cases h1 with
              | str _ _ hx =>
                cases h2
                refine (ht.idx (dec n x) (Int.ofNat c) w).mono fun e w' ⟨he, hw⟩ => ?_
                subst hw
                have e3 : (Int.ofNat c).toNat.toUInt8 = UInt8.ofNat c := rfl
                rw [e3, dec_data] at he
                rcases idxN_ok x c (by omega) n 0 with ⟨g1, g2⟩ | ⟨k, g1, g2⟩
                · rw [g1] at hl'
                  cases hl'
                  exact ⟨⟨_, _, List.mem_singleton.2 rfl, .int _ _, by rw [he, g2]; rfl⟩, rfl, Kept.refl _⟩
                · rw [g1] at hl'
                  simp only [forceN_eq, Nat.zero_add] at hl'
                  cases hl'
                  exact ⟨⟨_, _, List.mem_singleton.2 rfl, .int _ _, by rw [he, g2]; rfl⟩, rfl, Kept.refl _⟩
        · exact ho f _ l hl' σ w args' hg hd
      · exact ho f _ l hl' σ w args' hg hd

end Go.Ev

namespace Go.Ev
variable [GTab]
set_option linter.unusedSectionVars false

/-- The numeral of a number below 10 ^ (fuel + 1), as a length and a number to the base 256. -/
noncomputable def decN (fuel : Nat) : Nat → Nat × Nat :=
  Nat.rec (motive := fun _ => Nat → Nat × Nat) (fun u => (1, Nat.add 48 u)) (fun _ ih u => Bool.rec (Nat.succ (ih (Nat.div u 10)).1, Nat.add (Nat.mul (ih (Nat.div u 10)).2 256) (Nat.add 48 (Nat.mod u 10))) (1, Nat.add 48 u) (Nat.ble u 9)) fuel

theorem digs_one (x : Nat) : digs 1 x = [UInt8.ofNat x] := by simp [digs]

theorem decN_ok : ∀ (fuel u : Nat), u < 10 ^ (fuel + 1) → digs (decN fuel u).1 (decN fuel u).2 = Lib.decDigits u ∧ (decN fuel u).2 < 256 ^ (decN fuel u).1
  | 0, u, h => by
    have h' : u < 10 := by simpa using h
    have e : decN 0 u = (1, 48 + u) := rfl
    rw [e, Lib.decDigits, dif_pos h']
    exact ⟨digs_one _, by show 48 + u < 256 ^ 1; omega⟩
  | fuel + 1, u, h => by
    have e : decN (fuel + 1) u = Bool.rec (Nat.succ (decN fuel (u / 10)).1, Nat.add (Nat.mul (decN fuel (u / 10)).2 256) (Nat.add 48 (u % 10))) (1, Nat.add 48 u) (Nat.ble u 9) := rfl
    rw [e]
    cases hb : Nat.ble u 9 with
    | true =>
      have h' : u ≤ 9 := Nat.le_of_ble_eq_true hb
      rw [Lib.decDigits, dif_pos (by omega)]
      exact ⟨digs_one _, by show 48 + u < 256 ^ 1; omega⟩
    | false =>
      have h' : ¬ u < 10 := fun hlt => by
        have : Nat.ble u 9 = true := by rw [Nat.ble_eq]; omega
        rw [hb] at this; cases this
      have hp : 10 ^ (fuel + 1 + 1) = 10 ^ (fuel + 1) * 10 := Nat.pow_succ ..
      obtain ⟨i1, i2⟩ := decN_ok fuel (u / 10) (by omega)
      rw [Lib.decDigits, dif_neg h', ← i1]
      have hd : 48 + u % 10 < 256 ^ 1 := by omega
      refine ⟨?_, ?_⟩
      · show digs ((decN fuel (u / 10)).1 + 1) ((decN fuel (u / 10)).2 * 256 + (48 + u % 10)) = _
        have := digs_append (decN fuel (u / 10)).1 1 (decN fuel (u / 10)).2 (48 + u % 10) hd
        rw [digs_one] at this
        simpa using this
      · show (decN fuel (u / 10)).2 * 256 + (48 + u % 10) < 256 ^ ((decN fuel (u / 10)).1 + 1)
        rw [Nat.pow_succ]
        omega

/-- The numeral of a number. -/
noncomputable def itoaA (n : Int) : AVal :=
  Int.rec (motive := fun _ => AVal) (fun u => forceN (decN 20 u).1 fun l => forceN (decN 20 u).2 fun x => .str l x)
    (fun u => forceN (decN 20 (Nat.succ u)).1 fun l => forceN (Nat.add (Nat.mul 45 (Nat.pow 256 l)) (decN 20 (Nat.succ u)).2) fun x => .str (Nat.succ l) x) n

theorem itoaA_ok {σ : Sg} {n : Int} (h0 : -9223372036854775808 ≤ n) (h1 : n ≤ 9223372036854775807) : Den σ (itoaA n) (.string ⟨(Lib.itoa n).toArray⟩) := by
  have big : (10 : Nat) ^ (20 + 1) = 1000000000000000000000 := by decide
  cases n with
  | ofNat u =>
    have hu : (u : Int) ≤ 9223372036854775807 := h1
    obtain ⟨i1, i2⟩ := decN_ok 20 u (by rw [big]; omega)
    have e : itoaA (.ofNat u) = .str (decN 20 u).1 (decN 20 u).2 := by
      show (forceN (decN 20 u).1 fun l => forceN (decN 20 u).2 fun x => AVal.str l x) = _
      rw [forceN_eq, forceN_eq]
    rw [e]
    have e2 : Lib.itoa (.ofNat u) = Lib.decDigits u := Lib.itoa_nonneg u
    rw [e2, ← i1]
    exact .str _ _ i2
  | negSucc u =>
    have hu : -9223372036854775808 ≤ Int.negSucc u := h0
    obtain ⟨i1, i2⟩ := decN_ok 20 (u + 1) (by rw [big]; omega)
    have e : itoaA (.negSucc u) = .str ((decN 20 (u + 1)).1 + 1) (45 * 256 ^ (decN 20 (u + 1)).1 + (decN 20 (u + 1)).2) := by
      show (forceN (decN 20 (Nat.succ u)).1 fun l => forceN (Nat.add (Nat.mul 45 (Nat.pow 256 l)) (decN 20 (Nat.succ u)).2) fun x => AVal.str (Nat.succ l) x) = _
      rw [forceN_eq, forceN_eq]; rfl
    rw [e]
    have e2 : Lib.itoa (.negSucc u) = 45 :: Lib.decDigits (u + 1) := Lib.itoa_neg (u + 1) (by omega)
    have e3 : digs ((decN 20 (u + 1)).1 + 1) (45 * 256 ^ (decN 20 (u + 1)).1 + (decN 20 (u + 1)).2) = 45 :: Lib.decDigits (u + 1) := by
      have := digs_append 1 (decN 20 (u + 1)).1 45 (decN 20 (u + 1)).2 i2
      rw [digs_one, i1] at this
      rw [Nat.add_comm]
      exact this
    rw [e2, ← e3]
    refine .str _ _ ?_
    rw [Nat.pow_succ]
    omega

noncomputable def fmtR (args : List AVal) (rest : Option (List AVal)) : Option (List AVal) :=
  match args with
  | [.anyInt .i64 m i, .int .i64 (.ofNat b)] => match Nat.beq m 65536, Nat.beq b 10 with
    | true, true => some [.anyStr i]
    | _, _ => rest
  | [.int .i64 n, .int .i64 (.ofNat b)] => match fits .i64 n, Nat.beq b 10 with
    | true, true => some [itoaA n]
    | _, _ => rest
  | _ => rest

noncomputable def digR (args : List AVal) (rest : Option (List AVal)) : Option (List AVal) :=
  match args with
  | [.anyInt .i64 m i] => match Nat.beq m 65536 with
    | true => some [.anyStr i]
    | false => rest
  | [.int .i64 n] => match fits .i64 n with
    | true => some [itoaA n]
    | false => rest
  | _ => rest

/-- The two contracts; the symbols' texts. -/
structure SymOK (P : Program) (fF fD : FuncId) : Prop where
  fmt : ∀ (n : Int) (w : World), -9223372036854775808 ≤ n → n ≤ 9223372036854775807 → Glob (fun _ => none) w → Calls P fF #[.int .i64 n, .int .i64 10] w fun e w' => e = .returned (.string ⟨(Lib.itoa n).toArray⟩) ∧ w'.tape = w.tape ∧ Kept w w'
  dig : ∀ (n : Int) (w : World), -9223372036854775808 ≤ n → n ≤ 9223372036854775807 → Calls P fD #[.int .i64 n] w fun e w' => e = .returned (.string ⟨(Lib.itoa n).toArray⟩) ∧ w'.tape = w.tape ∧ Kept w w'
  txt : ∀ i, GTab.txt i = ⟨(Lib.itoa (IntKind.i64.wrap (GTab.val i))).toArray⟩

/-- .. as a class. -/
class SymC (P : Program) (fF fD : FuncId) : Prop where
  ok : SymOK P fF fD

noncomputable def symOrc (fF fD : FuncId) (orc : Orc) : Orc := fun f args => Bool.rec (Bool.rec (orc f args) (digR args (orc f args)) (Nat.beq f fD)) (fmtR args (orc f args)) (Nat.beq f fF)

theorem fits_i64 {n : Int} (h : fits .i64 n = true) : -9223372036854775808 ≤ n ∧ n ≤ 9223372036854775807 := by
  have := fits_ok h
  rw [wrap_i64] at this
  split at this <;> omega

theorem wrap_range (n : Int) : -9223372036854775808 ≤ IntKind.i64.wrap n ∧ IntKind.i64.wrap n ≤ 9223372036854775807 := by
  rw [wrap_i64]
  split <;> omega

theorem symOrc_ok {P : Program} {fF fD : FuncId} {orc : Orc} (ho : OrcOK P orc) (hs : SymOK P fF fD) : OrcOK P (symOrc fF fD orc) := by
  intro f args l hl σ w args' hg hd
  unfold symOrc at hl
  cases hf : Nat.beq f fF with
  | true =>
    rw [hf] at hl
    have e := Nat.eq_of_beq_eq_true hf
    subst e
    have hl' : fmtR args (orc f args) = some l := hl
    unfold fmtR at hl'
    split at hl'
    · rename_i m i b
      split at hl'
      · rename_i hm hb
        have hm' := Nat.eq_of_beq_eq_true hm
        have hb' := Nat.eq_of_beq_eq_true hb
        subst hm' hb'
        cases hl'
        cases hd with
        | cons h1 t1 =>
          cases t1 with
          | cons h2 t2 =>
            cases t2
            cases h2
            cases h1 with
            | anyInt _ _ _ n hn =>
              have hn' : n = IntKind.i64.wrap (GTab.val i) := by unfold AnyOK at hn; rwa [if_pos rfl] at hn
              subst hn'
              obtain ⟨r1, r2⟩ := wrap_range (GTab.val i)
              refine (hs.fmt _ w r1 r2 hg).mono fun e w' ⟨he, ht, hk⟩ => ⟨⟨_, _, List.mem_singleton.2 rfl, .anyStr i, ?_⟩, ht, hk⟩
              rw [he, hs.txt]
      · exact ho f _ l hl' σ w args' hg hd
    · rename_i n b
      split at hl'
      · rename_i hm hb
        have hb' := Nat.eq_of_beq_eq_true hb
        subst hb'
        cases hl'
        cases hd with
        | cons h1 t1 =>
          cases t1 with
          | cons h2 t2 =>
            cases t2
            cases h2
            cases h1
            obtain ⟨r1, r2⟩ := fits_i64 hm
            exact (hs.fmt _ w r1 r2 hg).mono fun e w' ⟨he, ht, hk⟩ => ⟨⟨_, _, List.mem_singleton.2 rfl, itoaA_ok r1 r2, he⟩, ht, hk⟩
      · exact ho f _ l hl' σ w args' hg hd
    · exact ho f _ l hl' σ w args' hg hd
  | false =>
    rw [hf] at hl
    cases hf2 : Nat.beq f fD with
    | false => rw [hf2] at hl; exact ho f args l hl σ w args' hg hd
    | true =>
      rw [hf2] at hl
      have e := Nat.eq_of_beq_eq_true hf2
      subst e
      have hl' : digR args (orc f args) = some l := hl
      unfold digR at hl'
      split at hl'
      · rename_i m i
        split at hl'
        · rename_i hm
          have hm' := Nat.eq_of_beq_eq_true hm
          subst hm'
          cases hl'
          cases hd with
          | cons h1 t1 =>
            cases t1
            cases h1 with
            | anyInt _ _ _ n hn =>
              have hn' : n = IntKind.i64.wrap (GTab.val i) := by unfold AnyOK at hn; rwa [if_pos rfl] at hn
              subst hn'
              obtain ⟨r1, r2⟩ := wrap_range (GTab.val i)
              refine (hs.dig _ w r1 r2).mono fun e w' ⟨he, ht, hk⟩ => ⟨⟨_, _, List.mem_singleton.2 rfl, .anyStr i, ?_⟩, ht, hk⟩
              rw [he, hs.txt]
        · exact ho f _ l hl' σ w args' hg hd
      · rename_i n
        split at hl'
        · rename_i hm
          cases hl'
          cases hd with
          | cons h1 t1 =>
            cases t1
            cases h1
            obtain ⟨r1, r2⟩ := fits_i64 hm
            exact (hs.dig _ w r1 r2).mono fun e w' ⟨he, ht, hk⟩ => ⟨⟨_, _, List.mem_singleton.2 rfl, itoaA_ok r1 r2, he⟩, ht, hk⟩
        · exact ho f _ l hl' σ w args' hg hd
      · exact ho f _ l hl' σ w args' hg hd

end Go.Ev
