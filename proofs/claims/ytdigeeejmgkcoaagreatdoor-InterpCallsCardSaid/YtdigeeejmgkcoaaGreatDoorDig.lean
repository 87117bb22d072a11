/-
  The reference's Digits writes the decimal numeral. Its function below is run by the evaluator at a symbol, with its last digit known, what it calls being known of lesser numbers. No condition.
-/
import Derived.Test.YtdigeeejmgkcoaaGreatDoorBase
import Derived.Test.YtdigeeejmgkcoaaGreatDoorEvSymTab
namespace Go.Proofs.YtdigeeejmgkcoaaGreatDoor
open Go.Ev

theorem dec_ten {k : Nat} (h : 10 ≤ k) : Lib.decDigits k = Lib.decDigits (k / 10) ++ [UInt8.ofNat (48 + k % 10)] := by
  rw [Lib.decDigits, dif_neg (by omega)]

theorem dec_len {k : Nat} (h : k ≤ 9223372036854775808) : (Lib.decDigits k).length ≤ 20 := by
  rw [Lib.decDigits_length]
  rcases Nat.lt_or_ge 20 (Lib.nDigits k) with hlt | hge
  · have h1 := Lib.lt_pow_nDigits (k / 10)
    by_cases h10 : k < 10
    · rw [Lib.nDigits_small h10] at hlt; omega
    · have pw : ∀ (j u : Nat), u < 10 ^ j → Lib.nDigits u ≤ j ∨ j = 0 := by
        intro j
        induction j with
        | zero => intro u _; exact .inr rfl
        | succ j ih =>
          intro u hu
          refine .inl ?_
          by_cases hs : u < 10
          · rw [Lib.nDigits_small hs]; omega
          · rw [Lib.nDigits_big hs]
            rw [Nat.pow_succ] at hu
            rcases ih (u / 10) (by omega) with hh | rfl
            · omega
            · simp at hu; omega
      rcases pw 20 k (by omega) with hh | hh
      · omega
      · cases hh
  · exact hge

noncomputable abbrev belowTab (k d : Nat) (hk : 10 ≤ k) (hk2 : k ≤ 9223372036854775808) (hd : k % 10 = d) : GTab where
  tab := fun _ => none
  val := fun i => ([-(k : Int), -((k / 10 : Nat) : Int), -(d : Int), 10, -10] : List Int).getD i 0
  txt := fun i => Bool.rec ⟨(Lib.decDigits (k / 10)).toArray⟩ ⟨(Lib.decDigits k).toArray⟩ (Nat.beq i 5)
  con := lookI [(10, 3), (-10, 4)]
  lit := lookN [(2, -(d : Int))]
  quo := look2 [(0, 3, 1)]
  rem := look2 [(0, 3, 2)]
  lt := look2 [(4, 0, false)]
  cat := fun i n x => Bool.rec none (Bool.rec none (Bool.rec none (some 5) (Nat.beq x (48 + d))) (Nat.beq n 1)) (Nat.beq i 1)
  conOK := fun n i h => by
    have := lookI_ok h
    simp only [List.mem_cons, List.not_mem_nil, or_false, Prod.mk.injEq] at this
    rcases this with ⟨rfl, rfl⟩ | ⟨rfl, rfl⟩ <;> exact Same64.self _
  litOK := fun i n h => by
    have := lookN_ok h
    simp only [List.mem_cons, List.not_mem_nil, or_false, Prod.mk.injEq] at this
    obtain ⟨rfl, rfl⟩ := this
    exact Same64.self _
  quoOK := fun i j r h => by
    have := look2_ok h
    simp only [List.mem_cons, List.not_mem_nil, or_false, Prod.mk.injEq] at this
    obtain ⟨rfl, rfl, rfl⟩ := this
    show IntKind.i64.wrap 10 ≠ 0 ∧ Same64 ((IntKind.i64.wrap (-(k : Int))).tdiv (IntKind.i64.wrap 10)) (-((k / 10 : Nat) : Int))
    have e1 : IntKind.i64.wrap 10 = 10 := by decide
    have e2 : IntKind.i64.wrap (-(k : Int)) = -(k : Int) := by rw [wrapI]; split <;> omega
    rw [e1, e2, Int.neg_tdiv]
    refine ⟨by decide, 0, ?_⟩
    have : (k : Int).tdiv 10 = ((k / 10 : Nat) : Int) := by rw [Int.tdiv_eq_ediv_of_nonneg (by omega)]; omega
    rw [this]; omega
  remOK := fun i j r h => by
    have := look2_ok h
    simp only [List.mem_cons, List.not_mem_nil, or_false, Prod.mk.injEq] at this
    obtain ⟨rfl, rfl, rfl⟩ := this
    show IntKind.i64.wrap 10 ≠ 0 ∧ Same64 ((IntKind.i64.wrap (-(k : Int))).tmod (IntKind.i64.wrap 10)) (-(d : Int))
    have e1 : IntKind.i64.wrap 10 = 10 := by decide
    have e2 : IntKind.i64.wrap (-(k : Int)) = -(k : Int) := by rw [wrapI]; split <;> omega
    rw [e1, e2, Int.neg_tmod]
    refine ⟨by decide, 0, ?_⟩
    have : (k : Int).tmod 10 = (d : Int) := by rw [Int.tmod_eq_emod_of_nonneg (by omega)]; omega
    rw [this]; omega
  ltOK := fun i j b h => by
    have := look2_ok h
    simp only [List.mem_cons, List.not_mem_nil, or_false, Prod.mk.injEq] at this
    obtain ⟨rfl, rfl, rfl⟩ := this
    show false = decide (IntKind.i64.wrap (-10) < IntKind.i64.wrap (-(k : Int)))
    have e1 : IntKind.i64.wrap (-10) = -10 := by decide
    have e2 : IntKind.i64.wrap (-(k : Int)) = -(k : Int) := by rw [wrapI]; split <;> omega
    rw [e1, e2]
    symm
    rw [decide_eq_false_iff_not]
    omega
  catOK := fun i n x r h => by
    cases h1 : Nat.beq i 1 with
    | false => rw [h1] at h; cases h
    | true =>
      rw [h1] at h
      cases h2 : Nat.beq n 1 with
      | false => rw [h2] at h; cases h
      | true =>
        rw [h2] at h
        cases h3 : Nat.beq x (48 + d) with
        | false => rw [h3] at h; cases h
        | true =>
          rw [h3] at h
          cases h
          have e1 := Nat.eq_of_beq_eq_true h1
          have e2 := Nat.eq_of_beq_eq_true h2
          have e3 := Nat.eq_of_beq_eq_true h3
          subst e1 e2 e3
          refine ⟨?_, ?_⟩
          · show (⟨(Lib.decDigits k).toArray⟩ : ByteArray) = ⟨(Lib.decDigits (k / 10)).toArray⟩ ++ dec 1 (48 + d)
            rw [dec_ten hk, hd]
            apply ByteArray.ext
            simp [dec, digs]
          · show (Lib.decDigits (k / 10)).toArray.size + 1 ≤ _
            have := dec_len (k := k / 10) (by omega)
            simp only [List.size_toArray]
            omega

noncomputable abbrev mk0 : GTab where
  tab := fun _ => none

/-- The function called is known of the lesser number. -/
noncomputable def belowOrc : Orc := fun f args => Bool.rec none (match args with
  | [.anyInt .i64 m i] => match Nat.beq m 65536, Nat.beq i 1 with
    | true, true => some [.anyStr 1]
    | _, _ => none
  | _ => none) (Nat.beq f 38)

def Below (k : Nat) : Prop := ∀ w : World, Calls Tryz.prog 38 #[.int .i64 (-(k : Int))] w fun e w' => e = .returned (.string ⟨(Lib.decDigits k).toArray⟩) ∧ w'.tape = w.tape ∧ Kept w w'

theorem belowOrc_ok {k d : Nat} (hk : 10 ≤ k) (hk2 : k ≤ 9223372036854775808) (hd : k % 10 = d) (ih : Below (k / 10)) : @OrcOK (belowTab k d hk hk2 hd) Tryz.prog belowOrc := by
  letI : GTab := belowTab k d hk hk2 hd
  intro f args l hl σ w args' hg hda
  unfold belowOrc at hl
  cases hf : Nat.beq f 38 with
  | false => rw [hf] at hl; cases hl
  | true =>
    rw [hf] at hl
    have e := Nat.eq_of_beq_eq_true hf
    subst e
    simp only at hl
    split at hl <;> first | (cases hl; done) | skip
    rename_i m i
    split at hl <;> first | (cases hl; done) | skip
    rename_i h1 h2
    cases hl
    have e1 := Nat.eq_of_beq_eq_true h1
    have e2 := Nat.eq_of_beq_eq_true h2
    subst e1 e2
    cases hda with
    | cons a1 t1 =>
      cases t1
      cases a1 with
      | anyInt _ _ _ n hn =>
        have hn' : n = IntKind.i64.wrap (-((k / 10 : Nat) : Int)) := by unfold AnyOK at hn; rwa [if_pos rfl] at hn
        have e3 : IntKind.i64.wrap (-((k / 10 : Nat) : Int)) = -((k / 10 : Nat) : Int) := by rw [wrapI]; split <;> omega
        rw [e3] at hn'
        subst hn'
        exact (ih w).mono fun e w' ⟨he, ht, hkept⟩ => ⟨⟨_, _, List.mem_singleton.2 rfl, .anyStr 1, he⟩, ht, hkept⟩

set_option maxRecDepth 1000000 in
theorem one0 : @runV mk0 Tryz.prog noOrc 38 100 [.int .i64 (0)] (.str 1 48) = true := by kernel_rfl
set_option maxRecDepth 1000000 in
theorem more0 (k : Nat) (hk : 10 ≤ k) (hk2 : k ≤ 9223372036854775808) (hd : k % 10 = 0) : @runV (belowTab k 0 hk hk2 hd) Tryz.prog belowOrc 38 100 [.anyInt .i64 65536 0] (.anyStr 5) = true := by kernel_rfl

set_option maxRecDepth 1000000 in
theorem one1 : @runV mk0 Tryz.prog noOrc 38 100 [.int .i64 (-1)] (.str 1 49) = true := by kernel_rfl
set_option maxRecDepth 1000000 in
theorem more1 (k : Nat) (hk : 10 ≤ k) (hk2 : k ≤ 9223372036854775808) (hd : k % 10 = 1) : @runV (belowTab k 1 hk hk2 hd) Tryz.prog belowOrc 38 100 [.anyInt .i64 65536 0] (.anyStr 5) = true := by kernel_rfl

set_option maxRecDepth 1000000 in
theorem one2 : @runV mk0 Tryz.prog noOrc 38 100 [.int .i64 (-2)] (.str 1 50) = true := by kernel_rfl
set_option maxRecDepth 1000000 in
theorem more2 (k : Nat) (hk : 10 ≤ k) (hk2 : k ≤ 9223372036854775808) (hd : k % 10 = 2) : @runV (belowTab k 2 hk hk2 hd) Tryz.prog belowOrc 38 100 [.anyInt .i64 65536 0] (.anyStr 5) = true := by kernel_rfl

set_option maxRecDepth 1000000 in
theorem one3 : @runV mk0 Tryz.prog noOrc 38 100 [.int .i64 (-3)] (.str 1 51) = true := by kernel_rfl
set_option maxRecDepth 1000000 in
theorem more3 (k : Nat) (hk : 10 ≤ k) (hk2 : k ≤ 9223372036854775808) (hd : k % 10 = 3) : @runV (belowTab k 3 hk hk2 hd) Tryz.prog belowOrc 38 100 [.anyInt .i64 65536 0] (.anyStr 5) = true := by kernel_rfl

set_option maxRecDepth 1000000 in
theorem one4 : @runV mk0 Tryz.prog noOrc 38 100 [.int .i64 (-4)] (.str 1 52) = true := by kernel_rfl
set_option maxRecDepth 1000000 in
theorem more4 (k : Nat) (hk : 10 ≤ k) (hk2 : k ≤ 9223372036854775808) (hd : k % 10 = 4) : @runV (belowTab k 4 hk hk2 hd) Tryz.prog belowOrc 38 100 [.anyInt .i64 65536 0] (.anyStr 5) = true := by kernel_rfl

set_option maxRecDepth 1000000 in
theorem one5 : @runV mk0 Tryz.prog noOrc 38 100 [.int .i64 (-5)] (.str 1 53) = true := by kernel_rfl
set_option maxRecDepth 1000000 in
theorem more5 (k : Nat) (hk : 10 ≤ k) (hk2 : k ≤ 9223372036854775808) (hd : k % 10 = 5) : @runV (belowTab k 5 hk hk2 hd) Tryz.prog belowOrc 38 100 [.anyInt .i64 65536 0] (.anyStr 5) = true := by kernel_rfl

set_option maxRecDepth 1000000 in
theorem one6 : @runV mk0 Tryz.prog noOrc 38 100 [.int .i64 (-6)] (.str 1 54) = true := by kernel_rfl
set_option maxRecDepth 1000000 in
theorem more6 (k : Nat) (hk : 10 ≤ k) (hk2 : k ≤ 9223372036854775808) (hd : k % 10 = 6) : @runV (belowTab k 6 hk hk2 hd) Tryz.prog belowOrc 38 100 [.anyInt .i64 65536 0] (.anyStr 5) = true := by kernel_rfl

set_option maxRecDepth 1000000 in
theorem one7 : @runV mk0 Tryz.prog noOrc 38 100 [.int .i64 (-7)] (.str 1 55) = true := by kernel_rfl
set_option maxRecDepth 1000000 in
theorem more7 (k : Nat) (hk : 10 ≤ k) (hk2 : k ≤ 9223372036854775808) (hd : k % 10 = 7) : @runV (belowTab k 7 hk hk2 hd) Tryz.prog belowOrc 38 100 [.anyInt .i64 65536 0] (.anyStr 5) = true := by kernel_rfl

set_option maxRecDepth 1000000 in
theorem one8 : @runV mk0 Tryz.prog noOrc 38 100 [.int .i64 (-8)] (.str 1 56) = true := by kernel_rfl
set_option maxRecDepth 1000000 in
theorem more8 (k : Nat) (hk : 10 ≤ k) (hk2 : k ≤ 9223372036854775808) (hd : k % 10 = 8) : @runV (belowTab k 8 hk hk2 hd) Tryz.prog belowOrc 38 100 [.anyInt .i64 65536 0] (.anyStr 5) = true := by kernel_rfl

set_option maxRecDepth 1000000 in
theorem one9 : @runV mk0 Tryz.prog noOrc 38 100 [.int .i64 (-9)] (.str 1 57) = true := by kernel_rfl
set_option maxRecDepth 1000000 in
theorem more9 (k : Nat) (hk : 10 ≤ k) (hk2 : k ≤ 9223372036854775808) (hd : k % 10 = 9) : @runV (belowTab k 9 hk hk2 hd) Tryz.prog belowOrc 38 100 [.anyInt .i64 65536 0] (.anyStr 5) = true := by kernel_rfl

theorem glob0 (w : World) : @Glob mk0 (fun _ => none) w := glob_none _ (fun _ => rfl) (fun _ => rfl) _ _

theorem globB {k d : Nat} {hk : 10 ≤ k} {hk2 : k ≤ 9223372036854775808} {hd : k % 10 = d} (w : World) : @Glob (belowTab k d hk hk2 hd) (fun _ => none) w := glob_none _ (fun _ => rfl) (fun _ => rfl) _ _

theorem less {k : Nat} {x : Nat} (hx : x = 48 + k) (h : k < 10) (hr : @runV mk0 Tryz.prog noOrc 38 100 [.int .i64 (-(k : Int))] (.str 1 x) = true) : Below k := by
  letI : GTab := mk0
  intro w
  refine (@runV_ok mk0 _ _ _ _ _ _ mixed (@noOrc_ok mk0 _) hr w (glob0 w) [.int .i64 (-(k : Int))] (.cons (.int _ _) .nil)).mono fun e w' ⟨⟨v', dv, he⟩, ht, hkept⟩ => ?_
  cases dv
  refine ⟨?_, ht, hkept⟩
  rw [he, Lib.decDigits, dif_pos h, hx]
  simp [dec, digs]

theorem more {k d : Nat} (hk : 10 ≤ k) (hk2 : k ≤ 9223372036854775808) (hd : k % 10 = d) (ih : Below (k / 10)) (hr : @runV (belowTab k d hk hk2 hd) Tryz.prog belowOrc 38 100 [.anyInt .i64 65536 0] (.anyStr 5) = true) : Below k := by
  letI : GTab := belowTab k d hk hk2 hd
  intro w
  refine (@runV_ok (belowTab k d hk hk2 hd) _ _ _ _ _ _ mixed (belowOrc_ok hk hk2 hd ih) hr w (globB w) [.int .i64 (-(k : Int))] (.cons (.anyInt _ _ _ _ ?_) .nil)).mono fun e w' ⟨⟨v', dv, he⟩, ht, hkept⟩ => ?_
  · unfold AnyOK
    rw [if_pos rfl]
    show -(k : Int) = IntKind.i64.wrap (-(k : Int))
    rw [wrapI]
    split <;> omega
  · cases dv
    exact ⟨he, ht, hkept⟩

theorem below_ok : ∀ k : Nat, k ≤ 9223372036854775808 → Below k := by
  intro k
  induction k using Nat.strongRecOn with
  | _ k ih =>
    intro hk2
    by_cases h : k < 10
    · match k, h with
      | 0, h => exact less rfl h one0
      | 1, h => exact less rfl h one1
      | 2, h => exact less rfl h one2
      | 3, h => exact less rfl h one3
      | 4, h => exact less rfl h one4
      | 5, h => exact less rfl h one5
      | 6, h => exact less rfl h one6
      | 7, h => exact less rfl h one7
      | 8, h => exact less rfl h one8
      | 9, h => exact less rfl h one9
    · have hk : 10 ≤ k := by omega
      have ih' := ih (k / 10) (by omega) (by omega)
      have hlt : k % 10 < 10 := Nat.mod_lt _ (by decide)
      generalize hd : k % 10 = d at hlt
      match d, hlt with
      | 0, _ => exact more hk hk2 hd ih' (more0 k hk hk2 hd)
      | 1, _ => exact more hk hk2 hd ih' (more1 k hk hk2 hd)
      | 2, _ => exact more hk hk2 hd ih' (more2 k hk hk2 hd)
      | 3, _ => exact more hk hk2 hd ih' (more3 k hk hk2 hd)
      | 4, _ => exact more hk hk2 hd ih' (more4 k hk hk2 hd)
      | 5, _ => exact more hk hk2 hd ih' (more5 k hk hk2 hd)
      | 6, _ => exact more hk hk2 hd ih' (more6 k hk hk2 hd)
      | 7, _ => exact more hk hk2 hd ih' (more7 k hk hk2 hd)
      | 8, _ => exact more hk hk2 hd ih' (more8 k hk hk2 hd)
      | 9, _ => exact more hk hk2 hd ih' (more9 k hk hk2 hd)

/-! ### Digits -/
noncomputable abbrev digTab (n : Int) (h0 : -9223372036854775808 ≤ n) (h1 : n ≤ 9223372036854775807) (neg : Bool) (hneg : neg = decide (n < 0)) : GTab where
  tab := fun _ => none
  val := fun i => ([n, -n, 0] : List Int).getD i 0
  txt := fun i => Bool.rec ⟨(Lib.decDigits n.natAbs).toArray⟩ ⟨(45 :: Lib.decDigits n.natAbs).toArray⟩ (Nat.beq i 5)
  con := lookI [(0, 2)]
  sub := look2 [(2, 0, 1)]
  lt := look2 [(0, 2, neg)]
  catL := fun n x i => Bool.rec none (Bool.rec none (Bool.rec none (some 5) (Nat.beq i 0)) (Nat.beq x 45)) (Nat.beq n 1)
  conOK := fun n i h => by
    have := lookI_ok h
    simp only [List.mem_cons, List.not_mem_nil, or_false, Prod.mk.injEq] at this
    obtain ⟨rfl, rfl⟩ := this
    exact Same64.self _
  subOK := fun i j r h => by
    have := look2_ok h
    simp only [List.mem_cons, List.not_mem_nil, or_false, Prod.mk.injEq] at this
    obtain ⟨rfl, rfl, rfl⟩ := this
    exact ⟨0, by show (0 : Int) - n = -n + 0 * _; omega⟩
  ltOK := fun i j b h => by
    have := look2_ok h
    simp only [List.mem_cons, List.not_mem_nil, or_false, Prod.mk.injEq] at this
    obtain ⟨rfl, rfl, rfl⟩ := this
    show b = decide (IntKind.i64.wrap n < IntKind.i64.wrap 0)
    have e1 : IntKind.i64.wrap 0 = 0 := by decide
    have e2 : IntKind.i64.wrap n = n := by rw [wrapI]; split <;> omega
    rw [e1, e2, hneg]
  catLOK := fun m x i r h => by
    cases h1 : Nat.beq m 1 with
    | false => rw [h1] at h; cases h
    | true =>
      rw [h1] at h
      cases h2 : Nat.beq x 45 with
      | false => rw [h2] at h; cases h
      | true =>
        rw [h2] at h
        cases h3 : Nat.beq i 0 with
        | false => rw [h3] at h; cases h
        | true =>
          rw [h3] at h
          cases h
          have e1 := Nat.eq_of_beq_eq_true h1
          have e2 := Nat.eq_of_beq_eq_true h2
          have e3 := Nat.eq_of_beq_eq_true h3
          subst e1 e2 e3
          refine ⟨?_, ?_⟩
          · show (⟨(45 :: Lib.decDigits n.natAbs).toArray⟩ : ByteArray) = dec 1 45 ++ ⟨(Lib.decDigits n.natAbs).toArray⟩
            apply ByteArray.ext
            simp [dec, digs]
          · show 1 + (Lib.decDigits n.natAbs).toArray.size ≤ _
            have := dec_len (k := n.natAbs) (by omega)
            simp only [List.size_toArray]
            omega

noncomputable def digOrc (j : Nat) : Orc := fun f args => Bool.rec none (match args with
  | [.anyInt .i64 m i] => match Nat.beq m 65536, Nat.beq i j with
    | true, true => some [.anyStr j]
    | _, _ => none
  | _ => none) (Nat.beq f 38)

theorem digOrc_ok {n : Int} {h0 : -9223372036854775808 ≤ n} {h1 : n ≤ 9223372036854775807} {neg : Bool} {hneg : neg = decide (n < 0)} (j : Nat) (hj : ([n, -n, 0] : List Int).getD j 0 = -((n.natAbs : Nat) : Int)) (hj5 : Nat.beq j 5 = false) :
    @OrcOK (digTab n h0 h1 neg hneg) Tryz.prog (digOrc j) := by
  letI : GTab := digTab n h0 h1 neg hneg
  intro f args l hl σ w args' hg hda
  unfold digOrc at hl
  cases hf : Nat.beq f 38 with
  | false => rw [hf] at hl; cases hl
  | true =>
    rw [hf] at hl
    have e := Nat.eq_of_beq_eq_true hf
    subst e
    simp only at hl
    split at hl <;> first | (cases hl; done) | skip
    rename_i m i
    split at hl <;> first | (cases hl; done) | skip
    rename_i g1 g2
    cases hl
    have e1 := Nat.eq_of_beq_eq_true g1
    have e2 := Nat.eq_of_beq_eq_true g2
    subst e1 e2
    cases hda with
    | cons a1 t1 =>
      cases t1
      cases a1 with
      | anyInt _ _ _ x hn =>
        have hn' : x = IntKind.i64.wrap (([n, -n, 0] : List Int).getD i 0) := by unfold AnyOK at hn; rwa [if_pos rfl] at hn
        rw [hj] at hn'
        have e3 : IntKind.i64.wrap (-((n.natAbs : Nat) : Int)) = -((n.natAbs : Nat) : Int) := by rw [wrapI]; split <;> omega
        rw [e3] at hn'
        subst hn'
        refine (below_ok n.natAbs (by omega) w).mono fun e w' ⟨he, ht, hkept⟩ => ⟨⟨_, _, List.mem_singleton.2 rfl, .anyStr i, ?_⟩, ht, hkept⟩
        rw [he]
        show _ = Ending.returned (Value.string (Bool.rec ⟨(Lib.decDigits n.natAbs).toArray⟩ ⟨(45 :: Lib.decDigits n.natAbs).toArray⟩ (Nat.beq i 5)))
        rw [hj5]

set_option maxRecDepth 1000000 in
theorem dNeg (n : Int) (h0 : -9223372036854775808 ≤ n) (h1 : n ≤ 9223372036854775807) (h : true = decide (n < 0)) : @runV (digTab n h0 h1 true h) Tryz.prog (digOrc 0) 26 100 [.anyInt .i64 65536 0] (.anyStr 5) = true := by kernel_rfl
set_option maxRecDepth 1000000 in
theorem dPos (n : Int) (h0 : -9223372036854775808 ≤ n) (h1 : n ≤ 9223372036854775807) (h : false = decide (n < 0)) : @runV (digTab n h0 h1 false h) Tryz.prog (digOrc 1) 26 100 [.anyInt .i64 65536 0] (.anyStr 1) = true := by kernel_rfl

theorem globD {n : Int} {h0 : -9223372036854775808 ≤ n} {h1 : n ≤ 9223372036854775807} {neg : Bool} {hneg : neg = decide (n < 0)} (w : World) : @Glob (digTab n h0 h1 neg hneg) (fun _ => none) w := glob_none _ (fun _ => rfl) (fun _ => rfl) _ _

theorem dig_ok (n : Int) (w : World) (h0 : -9223372036854775808 ≤ n) (h1 : n ≤ 9223372036854775807) :
    Calls Tryz.prog 26 #[.int .i64 n] w fun e w' => e = .returned (.string ⟨(Lib.itoa n).toArray⟩) ∧ w'.tape = w.tape ∧ Kept w w' := by
  have wn : IntKind.i64.wrap n = n := by rw [wrapI]; split <;> omega
  by_cases hn : n < 0
  · have hd : true = decide (n < 0) := by simp [hn]
    letI : GTab := digTab n h0 h1 true hd
    refine (@runV_ok (digTab n h0 h1 true hd) _ _ _ _ _ _ mixed (digOrc_ok 0 (by show n = _; omega) rfl) (dNeg n h0 h1 hd) w (globD w) [.int .i64 n] (.cons (.anyInt _ _ _ _ ?_) .nil)).mono fun e w' ⟨⟨v', dv, he⟩, ht, hkept⟩ => ?_
    · unfold AnyOK; rw [if_pos rfl]; exact wn.symm
    · cases dv
      refine ⟨?_, ht, hkept⟩
      rw [he]
      have : Lib.itoa n = 45 :: Lib.decDigits n.natAbs := by unfold Lib.itoa; rw [if_pos hn]
      rw [this]
      rfl
  · have hd : false = decide (n < 0) := by simp [hn]
    letI : GTab := digTab n h0 h1 false hd
    refine (@runV_ok (digTab n h0 h1 false hd) _ _ _ _ _ _ mixed (digOrc_ok 1 (by show -n = _; omega) rfl) (dPos n h0 h1 hd) w (globD w) [.int .i64 n] (.cons (.anyInt _ _ _ _ ?_) .nil)).mono fun e w' ⟨⟨v', dv, he⟩, ht, hkept⟩ => ?_
    · unfold AnyOK; rw [if_pos rfl]; exact wn.symm
    · cases dv
      refine ⟨?_, ht, hkept⟩
      rw [he]
      have : Lib.itoa n = Lib.decDigits n.natAbs := by unfold Lib.itoa; rw [if_neg hn]; congr 1; omega
      rw [this]
      rfl

end Go.Proofs.YtdigeeejmgkcoaaGreatDoor
