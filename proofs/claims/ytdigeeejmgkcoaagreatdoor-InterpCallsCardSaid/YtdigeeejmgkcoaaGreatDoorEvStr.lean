/-
  Own work. A text as its length and one number to the base 256, the first byte the greatest digit. No Go in sight.
-/
namespace Go.Ev

def digs : Nat → Nat → List UInt8
  | 0, _ => []
  | n + 1, x => UInt8.ofNat (x / 256 ^ n) :: digs n x

theorem digs_length : ∀ (n x : Nat), (digs n x).length = n
  | 0, _ => rfl
  | n + 1, x => by simp [digs, digs_length n x]

theorem ofNat_congr {a b : Nat} (h : a % 256 = b % 256) : UInt8.ofNat a = UInt8.ofNat b := by
  apply UInt8.toNat_inj.1
  simp [UInt8.toNat_ofNat', h]

theorem ofNat_inj {a b : Nat} (h : UInt8.ofNat a = UInt8.ofNat b) : a % 256 = b % 256 := by
  have := congrArg UInt8.toNat h
  simpa [UInt8.toNat_ofNat'] using this

theorem pow_pos256 (n : Nat) : 0 < 256 ^ n := Nat.pow_pos (by decide)

/-- Only the last n digits count. -/
theorem digs_add_mul : ∀ (n a x : Nat), digs n (a * 256 ^ n + x) = digs n x := by
  intro n
  induction n with
  | zero => intro a x; rfl
  | succ n ih =>
    intro a x
    simp only [digs]
    have e : a * 256 ^ (n + 1) + x = (a * 256) * 256 ^ n + x := by rw [Nat.pow_succ, Nat.mul_comm (256 ^ n) 256, Nat.mul_assoc]
    rw [e, ih]
    congr 1
    apply ofNat_congr
    rw [Nat.add_comm, Nat.add_mul_div_right _ _ (pow_pos256 n)]
    omega

theorem digs_mod (n x : Nat) : digs n (x % 256 ^ n) = digs n x := by
  conv => rhs; rw [← Nat.mod_add_div x (256 ^ n)]
  rw [Nat.add_comm, Nat.mul_comm, digs_add_mul]

theorem digs_append (n m x y : Nat) (h : y < 256 ^ m) : digs (n + m) (x * 256 ^ m + y) = digs n x ++ digs m y := by
  induction n with
  | zero => rw [Nat.zero_add, digs_add_mul]; rfl
  | succ n ih =>
    have e : n + 1 + m = (n + m) + 1 := by omega
    rw [e]
    simp only [digs, List.cons_append, ih]
    congr 2
    rw [Nat.pow_add, Nat.mul_comm (256 ^ n), ← Nat.div_div_eq_div_mul, Nat.add_comm, Nat.add_mul_div_right _ _ (pow_pos256 m), Nat.div_eq_of_lt h, Nat.zero_add]

theorem digs_drop : ∀ (a n x : Nat), (digs n x).drop a = digs (n - a) x := by
  intro a
  induction a with
  | zero => intro n x; rfl
  | succ a ih =>
    intro n x
    cases n with
    | zero => simp [digs]
    | succ n => simp only [digs, List.drop_succ_cons, ih]; congr 1; omega

theorem digs_take : ∀ (b n x : Nat), b ≤ n → (digs n x).take b = digs b (x / 256 ^ (n - b)) := by
  intro b n
  induction n generalizing b with
  | zero => intro x h; have : b = 0 := by omega
            subst this; simp [digs]
  | succ n ih =>
    intro x h
    cases b with
    | zero => simp [digs]
    | succ b =>
      simp only [digs, List.take_succ_cons]
      rw [ih b x (by omega)]
      have e1 : n + 1 - (b + 1) = n - b := by omega
      rw [e1]
      congr 2
      rw [Nat.div_div_eq_div_mul, ← Nat.pow_add]
      congr 2
      omega

/-- A piece of a text. -/
theorem digs_piece (n x a b : Nat) (hb : b ≤ n) (hab : a ≤ b) :
    ((digs n x).drop a).take (b - a) = digs (b - a) (x / 256 ^ (n - b) % 256 ^ (b - a)) := by
  rw [digs_drop, digs_take _ _ _ (by omega), digs_mod]
  congr 3
  omega

theorem digs_getElem? : ∀ (n x i : Nat), i < n → (digs n x)[i]? = some (UInt8.ofNat (x / 256 ^ (n - 1 - i))) := by
  intro n
  induction n with
  | zero => intro x i h; omega
  | succ n ih =>
    intro x i h
    cases i with
    | zero => simp [digs]
    | succ i =>
      simp only [digs, List.getElem?_cons_succ]
      rw [ih x i (by omega)]
      have : n - 1 - i = n + 1 - 1 - (i + 1) := by omega
      rw [this]

theorem digs_inj : ∀ (n x y : Nat), digs n x = digs n y → x % 256 ^ n = y % 256 ^ n := by
  intro n
  induction n with
  | zero => intro x y _; simp [Nat.mod_one]
  | succ n ih =>
    intro x y h
    simp only [digs, List.cons.injEq] at h
    have h1 := ofNat_inj h.1
    have h2 := ih x y h.2
    rw [Nat.pow_succ, Nat.mod_mul, Nat.mod_mul, h2, h1]

theorem digs_eq {n m x y : Nat} (hx : x < 256 ^ n) (hy : y < 256 ^ m) : digs n x = digs m y ↔ n = m ∧ x = y := by
  constructor
  · intro h
    have hl := congrArg List.length h
    rw [digs_length, digs_length] at hl
    subst hl
    refine ⟨rfl, ?_⟩
    have := digs_inj n x y h
    rwa [Nat.mod_eq_of_lt hx, Nat.mod_eq_of_lt hy] at this
  · rintro ⟨rfl, rfl⟩; rfl

/-- The number of a list of bytes. -/
def numL : Nat → List UInt8 → Nat
  | acc, [] => acc
  | acc, b :: l => numL (acc * 256 + b.toNat) l

theorem numL_eq : ∀ (l : List UInt8) (acc : Nat), numL acc l = acc * 256 ^ l.length + numL 0 l := by
  intro l
  induction l with
  | nil => intro acc; simp [numL]
  | cons b l ih =>
    intro acc
    simp only [numL, List.length_cons]
    rw [ih, ih (0 * 256 + b.toNat), Nat.pow_succ, Nat.zero_mul, Nat.zero_add, Nat.add_mul, Nat.mul_assoc, Nat.mul_comm 256, Nat.add_assoc]

theorem numL_lt : ∀ (l : List UInt8), numL 0 l < 256 ^ l.length := by
  intro l
  induction l with
  | nil => simp [numL]
  | cons b l ih =>
    simp only [numL, List.length_cons, Nat.zero_mul, Nat.zero_add]
    rw [numL_eq, Nat.pow_succ]
    have hb := b.toNat_lt
    have : b.toNat * 256 ^ l.length + 256 ^ l.length ≤ 256 ^ l.length * 256 := by
      rw [← Nat.succ_mul, Nat.mul_comm]
      exact Nat.mul_le_mul_left _ (by omega)
    omega

theorem digs_numL : ∀ (l : List UInt8), digs l.length (numL 0 l) = l := by
  intro l
  induction l with
  | nil => rfl
  | cons b l ih =>
    simp only [numL, List.length_cons, digs, Nat.zero_mul, Nat.zero_add]
    rw [numL_eq, digs_add_mul, ih]
    congr 1
    rw [Nat.add_comm, Nat.add_mul_div_right _ _ (pow_pos256 _), Nat.div_eq_of_lt (numL_lt l), Nat.zero_add]
    exact UInt8.ofNat_toNat

/-- A text. -/
def dec (n x : Nat) : ByteArray := ⟨(digs n x).toArray⟩

theorem dec_size (n x : Nat) : (dec n x).size = n := by
  show (digs n x).toArray.size = n
  simp [digs_length]

theorem dec_data (n x : Nat) : (dec n x).data.toList = digs n x := rfl

theorem dec_eq {n m x y : Nat} (hx : x < 256 ^ n) (hy : y < 256 ^ m) : dec n x = dec m y ↔ n = m ∧ x = y := by
  rw [← digs_eq hx hy]
  constructor
  · intro h
    have := congrArg (fun b : ByteArray => b.data.toList) h
    simpa [dec_data] using this
  · intro h; simp [dec, h]

theorem dec_numL (b : ByteArray) : dec b.data.toList.length (numL 0 b.data.toList) = b := by
  unfold dec
  rw [digs_numL]

end Go.Ev
