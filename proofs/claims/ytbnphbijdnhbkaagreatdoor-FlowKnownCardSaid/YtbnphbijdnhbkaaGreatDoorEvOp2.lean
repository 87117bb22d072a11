/-
  Own work. Operations on abstract values, part 2: pure ones: numbers, texts, comparisons, places, pieces, calls.
-/
import Derived.Test.YtbnphbijdnhbkaaGreatDoorEvOp1
import Derived.Laws.Strings
import Derived.Laws.Concat
import Derived.Lib.Strings
import Derived.IntWalk
namespace Go.Ev
variable [GTab]
set_option linter.unusedSectionVars false
noncomputable section

/-! ### Numbers -/
/-- A number is brought to its last form ahead of what follows. -/
def forceI {β : Type} (n : Int) (k : Int → β) : β :=
  Int.rec (motive := fun _ => (Int → β) → β) (fun a k => Nat.rec (k (.ofNat 0)) (fun m _ => k (.ofNat (Nat.succ m))) a) (fun a k => Nat.rec (k (.negSucc 0)) (fun m _ => k (.negSucc (Nat.succ m))) a) n k

theorem forceI_eq {β : Type} (n : Int) (k : Int → β) : forceI n k = k n := by
  cases n with
  | ofNat a => cases a <;> rfl
  | negSucc a => cases a <;> rfl

def forceN {β : Type} (n : Nat) (k : Nat → β) : β := Nat.rec (motive := fun _ => β) (k 0) (fun m _ => k (Nat.succ m)) n

theorem forceN_eq {β : Type} (n : Nat) (k : Nat → β) : forceN n k = k n := by cases n <;> rfl

def fits (k : IntKind) (n : Int) : Bool :=
  Int.rec (motive := fun _ => IntKind → Bool)
    (fun a k => IntKind.rec (Nat.ble a 127) (Nat.ble a 32767) (Nat.ble a 2147483647) (Nat.ble a 9223372036854775807) (Nat.ble a 255) (Nat.ble a 65535) (Nat.ble a 4294967295) (Nat.ble a 18446744073709551615) k)
    (fun a k => IntKind.rec (Nat.ble a 127) (Nat.ble a 32767) (Nat.ble a 2147483647) (Nat.ble a 9223372036854775807) false false false false k) n k

theorem fits_ok {k : IntKind} {n : Int} (h : fits k n = true) : k.wrap n = n := by
  have le : ∀ {a b : Nat}, Nat.ble a b = true → a ≤ b := fun h => Nat.le_of_ble_eq_true h
  cases n with
  | ofNat a =>
    have e : Int.ofNat a = (a : Int) := rfl
    rw [e] at h ⊢
    cases k
    · have := le (b := 127) h; exact IntWalk.i8_in _ (by omega)
    · have := le (b := 32767) h; exact IntWalk.i16_in _ (by omega)
    · have := le (b := 2147483647) h; exact IntWalk.i32_in _ (by omega)
    · have := le (b := 9223372036854775807) h; exact IntWalk.i64_in _ (by omega)
    · have := le (b := 255) h; exact IntWalk.u8_in _ (by omega)
    · have := le (b := 65535) h; exact IntWalk.u16_in _ (by omega)
    · have := le (b := 4294967295) h; exact IntWalk.u32_in _ (by omega)
    · have := le (b := 18446744073709551615) h; exact IntWalk.u64_in _ (by omega)
  | negSucc a =>
    cases k
    · have := le (b := 127) h; exact IntWalk.i8_in _ (by omega)
    · have := le (b := 32767) h; exact IntWalk.i16_in _ (by omega)
    · have := le (b := 2147483647) h; exact IntWalk.i32_in _ (by omega)
    · have := le (b := 9223372036854775807) h; exact IntWalk.i64_in _ (by omega)
    all_goals (cases h)

def awrap (k : IntKind) (n : Int) : Int := Bool.rec (k.wrap n) n (fits k n)

theorem awrap_eq (k : IntKind) (n : Int) : awrap k n = k.wrap n := by
  unfold awrap
  cases h : fits k n with
  | true => exact (fits_ok h).symm
  | false => rfl

def ilt (a b : Int) : Bool := Int.rec (motive := fun _ => Int → Bool) (fun x b => Int.rec (motive := fun _ => Nat → Bool) (fun y x => Nat.ble (Nat.succ x) y) (fun _ _ => false) b x) (fun x b => Int.rec (motive := fun _ => Nat → Bool) (fun _ _ => true) (fun y x => Nat.ble (Nat.succ y) x) b x) a b
def ieq (a b : Int) : Bool := Int.rec (motive := fun _ => Int → Bool) (fun x b => Int.rec (motive := fun _ => Nat → Bool) (fun y x => Nat.beq x y) (fun _ _ => false) b x) (fun x b => Int.rec (motive := fun _ => Nat → Bool) (fun _ _ => false) (fun y x => Nat.beq x y) b x) a b

theorem ilt_eq (a b : Int) : ilt a b = decide (a < b) := by
  rw [Bool.eq_iff_iff, decide_eq_true_iff]
  cases a with
  | ofNat x => cases b with
    | ofNat y => show Nat.ble (x + 1) y = true ↔ _; rw [Nat.ble_eq]; simp; omega
    | negSucc y => show false = true ↔ _; simp; omega
  | negSucc x => cases b with
    | ofNat y => show true = true ↔ _; simp; omega
    | negSucc y => show Nat.ble (y + 1) x = true ↔ _; rw [Nat.ble_eq]; omega

theorem ieq_eq (a b : Int) : ieq a b = (a == b) := by
  rw [Bool.eq_iff_iff, beq_iff_eq]
  cases a with
  | ofNat x => cases b with
    | ofNat y => show Nat.beq x y = true ↔ _; rw [Nat.beq_eq]; simp; omega
    | negSucc y => show false = true ↔ _; simp
  | negSucc x => cases b with
    | ofNat y => show false = true ↔ _; simp
    | negSucc y => show Nat.beq x y = true ↔ _; rw [Nat.beq_eq]; simp

def bnot (b : Bool) : Bool := Bool.rec true false b
theorem bnot_eq (b : Bool) : bnot b = !b := by cases b <;> rfl

/-- Two numbers of one kind. -/
def aInt (op : BinOp) (k : IntKind) (a b : Int) : Option AVal :=
  match op with
  | .add => forceI (awrap k (Int.add a b)) fun r => some (.int k r)
  | .sub => forceI (awrap k (Int.sub a b)) fun r => some (.int k r)
  | .mul => forceI (awrap k (Int.mul a b)) fun r => some (.int k r)
  | .quo => match ieq b 0 with | true => none | false => forceI (awrap k (Int.tdiv a b)) fun r => some (.int k r)
  | .rem => match ieq b 0 with | true => none | false => forceI (Int.tmod a b) fun r => some (.int k r)
  | .and => forceI (k.wrap (BitVec.ofInt k.bits a &&& BitVec.ofInt k.bits b).toNat) fun r => some (.int k r)
  | .or => forceI (k.wrap (BitVec.ofInt k.bits a ||| BitVec.ofInt k.bits b).toNat) fun r => some (.int k r)
  | .xor => forceI (k.wrap (BitVec.ofInt k.bits a ^^^ BitVec.ofInt k.bits b).toNat) fun r => some (.int k r)
  | .andNot => forceI (k.wrap (BitVec.ofInt k.bits a &&& ~~~BitVec.ofInt k.bits b).toNat) fun r => some (.int k r)
  | .eql => some (.bool (ieq a b))
  | .neq => some (.bool (bnot (ieq a b)))
  | .lss => some (.bool (ilt a b))
  | .leq => some (.bool (bnot (ilt b a)))
  | .gtr => some (.bool (ilt b a))
  | .geq => some (.bool (bnot (ilt a b)))
  | _ => none

def aShift (op : BinOp) (k : IntKind) (a b : Int) : Option AVal :=
  match ilt b 0, op with
  | false, .shl => forceI (k.wrap (a * 2 ^ (min b.toNat k.bits))) fun r => some (.int k r)
  | false, .shr => forceI (a.fdiv (2 ^ (min b.toNat k.bits))) fun r => some (.int k r)
  | _, _ => none

theorem aInt_ok {P : Program} {w : World} {op : BinOp} {k : IntKind} {a b : Int} {t : TypeId} {v : AVal} (σ : Sg) (h : aInt op k a b = some v) :
    ∃ v', Den σ v v' ∧ (binOp op t (.int k a) (.int k b)).run P w = .ok v' w := by
  unfold aInt at h
  split at h
  all_goals (first | (cases h; done) | skip)
  all_goals (simp only [forceI_eq, awrap_eq, ieq_eq, ilt_eq, bnot_eq] at h)
  case h_4 => split at h <;> first | (cases h; done) | (rename_i hz; cases h; exact ⟨_, .int _ _, by have : ¬ b = 0 := (by simpa using hz); simp [binOp, Op.intDiv, this]⟩)
  case h_5 => split at h <;> first | (cases h; done) | (rename_i hz; cases h; exact ⟨_, .int _ _, by have : ¬ b = 0 := (by simpa using hz); simp [binOp, Op.intDiv, this]⟩)
  all_goals (cases h)
  all_goals first
    | (refine ⟨_, .int _ _, ?_⟩; simp only [binOp, ne_eq, not_true_eq_false, if_false, Op.intArith, Op.intBits]; rfl)
    | (refine ⟨_, .bool _, ?_⟩; simp only [binOp, ne_eq, not_true_eq_false, if_false, Op.intCmp, Sem.run_pure]; done)
    | (refine ⟨_, .bool _, ?_⟩; simp only [binOp, ne_eq, not_true_eq_false, if_false, Op.intCmp, Sem.run_pure]; rfl)
    | (refine ⟨_, .bool _, ?_⟩; simp only [binOp, ne_eq, not_true_eq_false, if_false, Op.intCmp, Sem.run_pure]; congr 2; rw [Bool.eq_iff_iff]; simp)

theorem aShift_ok {P : Program} {w : World} {op : BinOp} {k k' : IntKind} {a b : Int} {t : TypeId} {v : AVal} (σ : Sg) (h : aShift op k a b = some v) :
    ∃ v', Den σ v v' ∧ (binOp op t (.int k a) (.int k' b)).run P w = .ok v' w := by
  unfold aShift at h
  split at h
  · rename_i h1
    rw [ilt_eq] at h1
    have h2 : ¬ b < 0 := by simpa using h1
    rw [forceI_eq] at h
    cases h
    exact ⟨_, .int _ _, by simp [binOp, Op.shift, h2]⟩
  · rename_i h1
    rw [ilt_eq] at h1
    have h2 : ¬ b < 0 := by simpa using h1
    rw [forceI_eq] at h
    cases h
    exact ⟨_, .int _ _, by simp [binOp, Op.shift, h2]⟩
  · cases h

/-! ### Texts -/
theorem dec_toList (n x : Nat) : (dec n x).toList = digs n x := by rw [ByteArray.toList_eq]; rfl

theorem dec_append (n m x y : Nat) (h : y < 256 ^ m) : dec n x ++ dec m y = dec (n + m) (x * 256 ^ m + y) := by
  unfold dec
  rw [ByteArray.mk_append_mk, digs_append n m x y h]

theorem lt_append {n m x y : Nat} (hx : x < 256 ^ n) (hy : y < 256 ^ m) : x * 256 ^ m + y < 256 ^ (n + m) := by
  rw [Nat.pow_add]
  have : (x + 1) * 256 ^ m ≤ 256 ^ n * 256 ^ m := Nat.mul_le_mul_right _ hx
  rw [Nat.add_mul] at this
  omega

theorem dec_extract (n x a b : Nat) (hb : b ≤ n) (hab : a ≤ b) : (dec n x).extract a b = dec (b - a) (x / 256 ^ (n - b) % 256 ^ (b - a)) := by
  rw [Lib.extract_eq, dec_data, digs_piece n x a b hb hab]
  rfl

theorem pow256 (m : Nat) : (256 : Nat) ^ m = 2 ^ (8 * m) := by rw [Nat.pow_mul]

/-- Bytes a to b of a text. -/
def cutX (n x a b : Nat) : Nat := Nat.mod (Nat.shiftRight x (Nat.mul 8 (Nat.sub n b))) (Nat.pow 2 (Nat.mul 8 (Nat.sub b a)))

theorem cutX_eq (n x a b : Nat) : cutX n x a b = x / 256 ^ (n - b) % 256 ^ (b - a) := by
  rw [pow256, pow256, ← Nat.shiftRight_eq_div_pow]
  rfl

def aText (op : BinOp) (n x m y : Nat) : Option AVal :=
  match op with
  | .add => match Nat.ble (Nat.add n m) 9223372036854775807 with
    | true => forceN (Nat.add n m) fun l => forceN (Nat.add (Nat.shiftLeft x (Nat.mul 8 m)) y) fun z => some (.str l z)
    | false => none
  | .eql => some (.bool (Bool.rec false (Nat.beq x y) (Nat.beq n m)))
  | .neq => some (.bool (Bool.rec true (bnot (Nat.beq x y)) (Nat.beq n m)))
  | _ => none

theorem textEq {n x m y : Nat} (hx : x < 256 ^ n) (hy : y < 256 ^ m) : ((dec n x).toList == (dec m y).toList) = Bool.rec false (Nat.beq x y) (Nat.beq n m) := by
  rw [dec_toList, dec_toList, Bool.eq_iff_iff, beq_iff_eq, digs_eq hx hy]
  cases h : Nat.beq n m with
  | true => have := Nat.eq_of_beq_eq_true h; simp [this]
  | false => have : n ≠ m := fun e => by subst e; simp at h
             simp [this]

theorem aText_ok {P : Program} {w : World} {op : BinOp} {n x m y : Nat} {t : TypeId} {v : AVal} (σ : Sg) (hx : x < 256 ^ n) (hy : y < 256 ^ m) (h : aText op n x m y = some v) :
    ∃ v', Den σ v v' ∧ (binOp op t (.string (dec n x)) (.string (dec m y))).run P w = .ok v' w := by
  unfold aText at h
  split at h
  · split at h
    · rename_i hle
      have hle' := Nat.le_of_ble_eq_true hle
      rw [forceN_eq, forceN_eq] at h
      cases h
      have e : Nat.add (Nat.shiftLeft x (Nat.mul 8 m)) y = x * 256 ^ m + y := by
        show x <<< (8 * m) + y = _
        rw [Nat.shiftLeft_eq, pow256]
      rw [e]
      refine ⟨.string (dec (n + m) (x * 256 ^ m + y)), .str _ _ (lt_append hx hy), ?_⟩
      have hsz : ¬ (((dec n x).size + (dec m y).size : Nat) : Int) > IntKind.i64.max := by
        rw [dec_size, dec_size]
        have : (n + m : Nat) ≤ 9223372036854775807 := hle'
        simp [IntKind.max, IntKind.signed, IntKind.bits]
        omega
      simp only [binOp, Op.stringOp, if_neg hsz, Sem.run_pure]
      rw [dec_append _ _ _ _ hy]
    · cases h
  · cases h
    exact ⟨_, .bool _, by simp only [binOp, Op.stringOp, Sem.run_pure, textEq hx hy]⟩
  · cases h
    refine ⟨_, .bool _, ?_⟩
    simp only [binOp, Op.stringOp, Sem.run_pure, textEq hx hy]
    cases Nat.beq n m <;> simp [bnot_eq]
  · cases h

/-! ### Comparisons -/
/-- Is it nil? Of a value that may be. -/
def nilness : TypeDesc → AVal → Option Bool
  | .pointer _, .ptr _ _ => some false
  | .pointer _, .nilPtr => some true
  | .slice _, .slice .. => some false
  | .slice _, .nilSlice => some true
  | .map _ _, .map _ => some false
  | .map _ _, .nilMap => some true
  | .func _ _ _, .func _ _ _ => some false
  | .func _ _ _, .nilFunc => some true
  | .interface _, .iface _ _ => some false
  | .interface _, .nilIface => some true
  | _, _ => none

def isConstO : Operand → Bool
  | .const _ => true
  | _ => false

/-- '==' of values that are no numbers and no texts: bools; nil on one side, which is a constant. -/
def aEq (P : Program) (t : TypeId) (x y : Operand) (a b : AVal) : Option Bool :=
  match P.underlying t with
  | some .bool => match a, b with
    | .bool p, .bool q => some (Bool.rec (bnot q) q p)
    | _, _ => none
  | some d => match nilness d a, nilness d b with
    | some p, some q => match isConstO x, isConstO y with
      | true, _ => match p with | true => some q | false => none
      | false, true => match q with | true => some p | false => none
      | _, _ => none
    | _, _ => none
  | none => none

theorem eqGuard_run {P : Program} {w : World} {op : BinOp} {t : TypeId} {x y : Operand} {a b : Value} (h : (isConstO x = true ∨ isConstO y = true) ∨ ¬ (∃ cs ds, a = .agg cs ∧ b = .agg ds) ∧ ¬ (a = .nilIface ∧ b = .nilIface)) (hagg : ¬ (∃ cs ds, a = .agg cs ∧ b = .agg ds)) :
    (eqGuard op t x y a b).run P w = .ok () w := by
  have two : op = .eql ∨ op = .neq ∨ (eqGuard op t x y a b).run P w = .ok () w := by
    cases op <;> first | exact .inl rfl | exact .inr (.inl rfl) | exact .inr (.inr rfl)
  rcases two with rfl | rfl | h'
  case inr.inr => exact h'
  all_goals
    unfold eqGuard
    rw [if_neg (by simp)]
    cases a <;> cases b <;> first
      | rfl
      | exact (hagg ⟨_, _, rfl, rfl⟩).elim
      | skip
    rcases h with (h | h) | ⟨_, h⟩
    · cases x <;> first | (simp [isConstO] at h; done) | rfl
    · cases y <;> first | (simp [isConstO] at h; done) | (cases x <;> rfl)
    · exact (h ⟨rfl, rfl⟩).elim

theorem equal_of {P : Program} {w : World} {t : TypeId} {a b : Value} {r : Bool} (h : ∀ d, (Op.equalIn (d + 1) t a b).run P w = .ok r w) : (Op.equal t a b).run P w = .ok r w := h 9999

/-- Neither two numbers, nor two texts, nor two structs. -/
structure Other (a b : Value) : Prop where
  agg : ¬ (∃ cs ds, a = .agg cs ∧ b = .agg ds)
  int : ∀ k n k' n', ¬ (a = .int k n ∧ b = .int k' n')
  str : ∀ s s', ¬ (a = .string s ∧ b = .string s')
  flt : ∀ k n k' n', ¬ (a = .float k n ∧ b = .float k' n')
  cpl : ∀ k n m k' n' m', ¬ (a = .complex k n m ∧ b = .complex k' n' m')

theorem run_nil {P : Program} {w : World} {t : TypeId} {d : TypeDesc} {a b : AVal} {a' b' : Value} {p q : Bool} {σ : Sg} (hu : P.underlying t = some d) (hp : nilness d a = some p) (hq : nilness d b = some q)
    (hpq : p = true ∨ q = true) (ha : Den σ a a') (hb : Den σ b b') : (Op.equal t a' b').run P w = .ok (Bool.rec p q p) w ∧ Other a' b' := by
  unfold nilness at hp
  split at hp <;> first | (cases hp; done) | skip
  all_goals (cases hp; unfold nilness at hq; split at hq <;> first | (cases hq; done) | skip)
  all_goals (first | contradiction | skip)
  all_goals (cases hq)
  all_goals (first | (rcases hpq with e | e <;> cases e <;> done) | skip)
  all_goals (cases ha <;> cases hb)
  all_goals (refine ⟨equal_of fun d => ?_, ⟨?_, ?_, ?_, ?_, ?_⟩⟩)
  all_goals (first | (simp; done) | skip)
  all_goals (unfold Op.equalIn; simp only [Sem.run_bind, run_underlying' hu, Result.andThen_ok]; rfl)

theorem run_equal {P : Program} {w : World} {t : TypeId} {x y : Operand} {a b : AVal} {a' b' : Value} {r : Bool} {σ : Sg} (h : aEq P t x y a b = some r) (ha : Den σ a a') (hb : Den σ b b') :
    (Op.equal t a' b').run P w = .ok r w ∧ Other a' b' ∧ ((isConstO x = true ∨ isConstO y = true) ∨ ¬ (a' = .nilIface ∧ b' = .nilIface)) := by
  unfold aEq at h
  split at h
  · rename_i hu
    split at h
    · cases h
      cases ha
      cases hb
      rename_i p q
      refine ⟨equal_of fun d => ?_, ⟨by simp, by simp, by simp, by simp, by simp⟩, .inr (by simp)⟩
      unfold Op.equalIn
      simp only [Sem.run_bind, run_underlying' hu, Result.andThen_ok, Sem.run_pure]
      cases p <;> cases q <;> rfl
    · cases h
  · rename_i d hnb hu
    split at h
    · rename_i p q hp hq
      split at h
      · rename_i hc
        split at h
        · cases h
          obtain ⟨h1, h2⟩ := run_nil (P := P) (w := w) hu hp hq (.inl rfl) ha hb
          exact ⟨h1, h2, .inl (.inl hc)⟩
        · cases h
      · rename_i hc
        split at h
        · cases h
          obtain ⟨h1, h2⟩ := run_nil (P := P) (w := w) hu hp hq (.inr rfl) ha hb
          refine ⟨?_, h2, .inl (.inr hc)⟩
          cases r <;> exact h1
        · cases h
      · cases h
    · cases h
  · cases h

def opBin (P : Program) (op : BinOp) (t : TypeId) (x y : Operand) (ρ : Operand → AVal) (H : Heap) (nx : Nat) : Option ARes :=
  match ρ x, ρ y with
  | .int k a, .int k' b =>
    match op with
    | .shl | .shr => match aShift op k a b with
      | some v => some (.val v H nx)
      | none => none
    | op => match decide (k = k') with
      | true => match aInt op k a b with
        | some v => some (.val v H nx)
        | none => none
      | false => none
  | .str n a, .str m b => match aText op n a m b with
    | some v => some (.val v H nx)
    | none => none
  | a, b => match op with
    | .eql => match aEq P t x y a b with
      | some r => some (.val (.bool r) H nx)
      | none => none
    | .neq => match aEq P t x y a b with
      | some r => some (.val (.bool (bnot r)) H nx)
      | none => none
    | _ => none

theorem guard_int {P : Program} {w : World} {op : BinOp} {t : TypeId} {x y : Operand} {k k' : IntKind} {a b : Int} : (eqGuard op t x y (.int k a) (.int k' b)).run P w = .ok () w := by
  unfold eqGuard; split <;> rfl
theorem guard_str {P : Program} {w : World} {op : BinOp} {t : TypeId} {x y : Operand} {a b : ByteArray} : (eqGuard op t x y (.string a) (.string b)).run P w = .ok () w := by
  unfold eqGuard; split <;> rfl

theorem binOp_eql {t : TypeId} {a b : Value} (h : Other a b) :
    binOp .eql t a b = (do pure (.bool (← Op.equal t a b))) ∧ binOp .neq t a b = (do pure (.bool (!(← Op.equal t a b)))) := by
  cases a <;> cases b <;> first | exact ⟨rfl, rfl⟩ | skip
  all_goals first
    | exact (h.int _ _ _ _ ⟨rfl, rfl⟩).elim
    | exact (h.str _ _ ⟨rfl, rfl⟩).elim
    | exact (h.flt _ _ _ _ ⟨rfl, rfl⟩).elim
    | exact (h.cpl _ _ _ _ _ _ ⟨rfl, rfl⟩).elim

theorem opBin_ok {P : Program} {o : Oper} {op : BinOp} {t u : TypeId} {x y : Operand} {ρ : Operand → AVal} {H : Heap} {nx : Nat} {r : ARes} (ho : o.op = .binOp op t x y u)
    (h : opBin P op t x y ρ H nx = some r) : OpOK P o ρ H nx r := by
  unfold opBin at h
  split at h
  · rename_i k a k' b hx hy
    split at h
    · split at h
      · rename_i v hv
        cases h
        refine OpOK.pure fun σ w ρ' _ hd => ?_
        have d1 := hd x; have d2 := hd y; rw [hx] at d1; rw [hy] at d2
        obtain ⟨v', dv, hrun⟩ := aShift_ok (P := P) (w := w) (t := t) (k' := k') σ hv
        refine ⟨v', dv, ?_⟩
        cases e1 : ρ' x <;> rw [e1] at d1 <;> cases d1
        cases e2 : ρ' y <;> rw [e2] at d2 <;> cases d2
        simp [execOp, ho, e1, e2, guard_int, hrun]
      · cases h
    · split at h
      · rename_i v hv
        cases h
        refine OpOK.pure fun σ w ρ' _ hd => ?_
        have d1 := hd x; have d2 := hd y; rw [hx] at d1; rw [hy] at d2
        obtain ⟨v', dv, hrun⟩ := aShift_ok (P := P) (w := w) (t := t) (k' := k') σ hv
        refine ⟨v', dv, ?_⟩
        cases e1 : ρ' x <;> rw [e1] at d1 <;> cases d1
        cases e2 : ρ' y <;> rw [e2] at d2 <;> cases d2
        simp [execOp, ho, e1, e2, guard_int, hrun]
      · cases h
    · split at h
      · rename_i hk
        have hk' : k = k' := by simpa using hk
        subst hk'
        split at h
        · rename_i v hv
          cases h
          refine OpOK.pure fun σ w ρ' _ hd => ?_
          have d1 := hd x; have d2 := hd y; rw [hx] at d1; rw [hy] at d2
          obtain ⟨v', dv, hrun⟩ := aInt_ok (P := P) (w := w) (t := t) σ hv
          refine ⟨v', dv, ?_⟩
          cases e1 : ρ' x <;> rw [e1] at d1 <;> cases d1
          cases e2 : ρ' y <;> rw [e2] at d2 <;> cases d2
          simp [execOp, ho, e1, e2, guard_int, hrun]
        · cases h
      · cases h
  · rename_i n a m b hx hy
    split at h
    · rename_i v hv
      cases h
      refine OpOK.pure fun σ w ρ' _ hd => ?_
      have d1 := hd x; have d2 := hd y; rw [hx] at d1; rw [hy] at d2
      cases e1 : ρ' x <;> rw [e1] at d1 <;> cases d1
      cases e2 : ρ' y <;> rw [e2] at d2 <;> cases d2
      rename_i q1 q2
      obtain ⟨v', dv, hrun⟩ := aText_ok (P := P) (w := w) (t := t) σ q1 q2 hv
      refine ⟨v', dv, ?_⟩
      simp [execOp, ho, e1, e2, guard_str, hrun]
    · cases h
  · split at h
    · split at h
      · rename_i r' hr'
        cases h
        refine OpOK.pure fun σ w ρ' _ hd => ?_
        obtain ⟨hrun, hoth, hg⟩ := run_equal (P := P) (w := w) hr' (hd x) (hd y)
        refine ⟨.bool r', .bool _, ?_⟩
        have hguard := eqGuard_run (P := P) (w := w) (op := .eql) (t := t) (x := x) (y := y) (a := ρ' x) (b := ρ' y) (hg.imp id fun h => ⟨hoth.agg, h⟩) hoth.agg
        simp [execOp, ho, hguard, (binOp_eql (t := t) hoth).1, hrun]
      · cases h
    · split at h
      · rename_i r' hr'
        cases h
        refine OpOK.pure fun σ w ρ' _ hd => ?_
        obtain ⟨hrun, hoth, hg⟩ := run_equal (P := P) (w := w) hr' (hd x) (hd y)
        refine ⟨.bool (bnot r'), .bool _, ?_⟩
        have hguard := eqGuard_run (P := P) (w := w) (op := .neq) (t := t) (x := x) (y := y) (a := ρ' x) (b := ρ' y) (hg.imp id fun h => ⟨hoth.agg, h⟩) hoth.agg
        simp [execOp, ho, hguard, (binOp_eql (t := t) hoth).2, hrun, bnot_eq]
      · cases h
    · cases h

end
end Go.Ev
