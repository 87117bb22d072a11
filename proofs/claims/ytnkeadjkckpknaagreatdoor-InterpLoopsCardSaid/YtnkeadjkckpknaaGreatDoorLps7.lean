/-
  Own work. Texts of a proof, laid together; no condition.
-/
import Derived.MakeChecks
import Derived.RowKit
import Derived.Test.YtnkeadjkckpknaaGreatDoorChecked
import Derived.Test.YtnkeadjkckpknaaGreatDoorLps6
import Derived.Test.YtnkeadjkckpknaaGreatDoorLps4
import Derived.Test.YtnkeadjkckpknaaGreatDoorLpsKn
import Derived.Test.YtnkeadjkckpknaaGreatDoorLps5
import Derived.Test.YtnkeadjkckpknaaGreatDoorLpsSrcLoops
set_option linter.unusedSectionVars false
set_option linter.unusedVariables false
set_option linter.unusedSimpArgs false
set_option maxRecDepth 1000000
section
namespace Go.Vs
open Go.Ev (at')
open Go Go.Proofs Go.Bridge Go.Proofs.YtnkeadjkckpknaaGreatDoor
def noSyms : Ev.Syms := { vals := [] }
theorem noSyms_ok : noSyms.OK := by constructor <;> (intro t ht; cases ht)
noncomputable abbrev evTab (o : Obj) : Ev.GTab := noSyms.tab noSyms_ok 0 o
theorem symC {t : TypeId} {fz : Nat × Nat} : @Ev.SymC (evTab (.cells powCells t fz)) Tryz.prog 202 25 :=
 @Ev.SymC.mk (evTab (.cells powCells t fz)) _ _ _ (@Ev.SymOK.mk (evTab (.cells powCells t fz)) _ _ _
  (fun n w h0 h1 hg => @fmt_ok (evTab (.cells powCells t fz)) t fz Ev.Syms.blk n w h0 h1 hg) dig_ok (fun _ => rfl))
noncomputable abbrev gtab (tb : Nat → Option (List AVal)) (o : Obj) : GTab := { tab := tb, blk := fun b => Bool.rec none (some o) (Nat.beq b 0) }
theorem glob_blk {w : World} {o : Obj} {tb : Nat → Option (List AVal)} (hw : w.heap[0]? = some o)
  (ht : ∀ g l, tb g = some l → g < w.heap.size ∧ ∀ (i : Nat) (v : AVal), l[i]? = some v → ∃ v', w.cell? (at' g i) = some v' ∧ ∀ τ : Sg, Den τ v v') : @Glob (gtab tb o) (fun _ => none) w := by
 refine @Glob.mk (gtab tb o) _ _ (fun g l hg => ?_) fun b o' hb => ?_
 ·obtain ⟨h1, h2⟩ := ht g l hg
  exact ⟨h1, (fun _ _ e => by cases e), h2⟩
 ·have hb' : (Bool.rec none (some o) (Nat.beq b 0) : Option Obj) = some o' := hb
  cases he : Nat.beq b 0 with
  | false => rw [he] at hb'; cases hb'
  | true =>
   rw [he] at hb'
   cases hb'
   have := Nat.eq_of_beq_eq_true he
   subst this
   refine ⟨?_, (fun _ _ e => by cases e), hw⟩
   rcases Nat.lt_or_ge 0 w.heap.size with hlt | hge
   ·exact hlt
   ·rw [Array.getElem?_eq_none hge] at hw; cases hw
class Tabs [Ev.GTab] [GTab] (t : TypeId) (fz : Nat × Nat) : Prop where
 ev : ∀ q, Ev.GTab.tab q = none
 same : ∀ q o', Ev.GTab.blk q = some o' → GTab.blk q = some o'
 pow : GTab.blk 0 = some (.cells powCells t fz)
theorem tabs {t : TypeId} {fz : Nat × Nat} {tb : Nat → Option (List AVal)} : @Tabs (evTab (.cells powCells t fz)) (gtab tb (.cells powCells t fz)) t fz :=
 @Tabs.mk (evTab (.cells powCells t fz)) (gtab tb (.cells powCells t fz)) t fz (fun _ => rfl) (fun _ _ e => e) rfl
section
variable [Ev.GTab] [GTab] {t : TypeId} {fz : Nat × Nat}
theorem Tabs.none (T : Tabs t fz) (w : World) (h : Glob (fun _ => none) w) : Ev.Glob (fun _ => none) w := by
 refine ⟨fun q l e => (by rw [T.ev q] at e; cases e), fun q o' e => ?_⟩
 obtain ⟨a1, a2, a3⟩ := h.blk q o' (T.same q o' e)
 exact ⟨a1, (fun b sz e2 => by cases e2), a3⟩
theorem kn_ok [Ev.SymC Tryz.prog 202 25] (T : Tabs t fz) {H : Heap} {nx : Nat} {K : EndP} (hK : K (.ret (.bool true)) H nx) : TriP Tryz.prog 10 [] H nx K :=
 trueTW_ok mixed tk2_ok knRan (fun w h => T.none w h) hK
end
theorem hok_none {H : Heap} {nx : Nat} : HOK (fun _ => none) H nx := fun b cs e => by cases e
theorem fine0 [GTab] {main : Int} {nl fuel : Nat} {room : Int} {inputs : List Int} (hf : fuel < 1000000) (h1 : 1 ≤ room) (h2 : room < 900000) (hi : inputs.length < 1000000) :
  Mst.FineN fuel ⟨[], ⟨main, 0, List.replicate nl 0, []⟩, ⟨[0], room, [], inputs, 0, []⟩, 0, 0⟩ := by
 refine ⟨⟨?_, ?_, ?_⟩, ?_, ?_, ⟨?_, ?_, ?_, ?_, ?_, ?_, ?_, ?_⟩⟩
 ·show 0 + fuel < 1000000; omega
 ·intro x hx; cases hx
 ·intro x hx; rw [List.mem_replicate] at hx; omega
 ·show 0 < 1000; omega
 ·intro f hf; cases hf
 ·show ((1 : Nat) : Int) ≤ room + 1; omega
 ·intro x hx; simp at hx; omega
 ·show 0 + fuel < 1000000; omega
 ·exact hi
 ·exact Nat.zero_le _
 ·show 0 ≤ room; omega
 ·exact h2
 ·intro x hx; cases hx
end Go.Vs
end
section
namespace Go.Vs.Loops
open Go.Proofs Go.Vs
variable [GTab]
def code : List Ins := [(40, 0, 0), (6, 0, 0), (40, 0, 0), (6, 1, 0), (40, 0, 0), (6, 2, 0), (1, 0, 0), (6, 3, 0), (5, 3, 0), (5, 0, 0), (17, 0, 0), (27, 42, 0), (5, 3, 0), (1, 1, 0), (8, 0, 0), (6, 3, 0), (1, 0, 0), (6, 4, 0),
 (5, 4, 0), (1, 1, 0), (8, 0, 0), (6, 4, 0), (5, 4, 0), (5, 1, 0), (19, 0, 0), (27, 27, 0), (26, 41, 0), (5, 3, 0), (5, 4, 0), (10, 0, 0), (5, 2, 0), (15, 0, 0), (27, 34, 0), (26, 18, 0), (1, 2, 0), (5, 3, 0), (10, 0, 0), (5, 4, 0), (8, 0, 0), (39, 1, 0), (26, 18, 0), (26, 8, 0), (41, 0, 0)]
def nums : List Int := [0, 1, 10]
abbrev C : CodeF := codeL [code]
abbrev N : Int → Option Int := numsL nums
abbrev u (n : Int) : Int := IntKind.u64.wrap n
abbrev s (n : Int) : Int := IntKind.i64.wrap n
section
variable (num : Int → List UInt8) (a b c i j : Int) (W : Wd)
theorem b0 (words : List Int) (room : Int) (lits : List Int) : runS num C N 8 (mk 0 [0, 0, 0, 0, 0] [] ⟨words, room, lits, [a, b, c], 0, []⟩) = some (mk 8 [u a, u b, u c, u 0, 0] [] ⟨words, room, lits, [a, b, c], 3, []⟩) := by kernel_rfl
theorem b8 : runS num C N 3 (mk 8 [a, b, c, i, j] [] W) = some (mk 11 [a, b, c, i, j] [bitI (decide (s i < s a))] W) := by kernel_rfl
theorem j11 (x : Bool) : runS num C N 1 (mk 11 [a, b, c, i, j] [bitI x] W) = some (mk (if x then 12 else 42) [a, b, c, i, j] [] W) := by cases x <;> kernel_rfl
theorem b12 : runS num C N 6 (mk 12 [a, b, c, i, j] [] W) = some (mk 18 [a, b, c, u (i + u 1), u 0] [] W) := by kernel_rfl
theorem b18 : runS num C N 7 (mk 18 [a, b, c, i, j] [] W) = some (mk 25 [a, b, c, i, u (j + u 1)] [bitI (decide (s b < s (u (j + u 1))))] W) := by kernel_rfl
theorem j25 (x : Bool) : runS num C N 1 (mk 25 [a, b, c, i, j] [bitI x] W) = some (mk (if x then 26 else 27) [a, b, c, i, j] [] W) := by cases x <;> kernel_rfl
theorem b26 : runS num C N 2 (mk 26 [a, b, c, i, j] [] W) = some (mk 8 [a, b, c, i, j] [] W) := by kernel_rfl
theorem b27 : runS num C N 5 (mk 27 [a, b, c, i, j] [] W) = some (mk 32 [a, b, c, i, j] [bitI (decide (u (i * j) = c))] W) := by kernel_rfl
theorem j32 (x : Bool) : runS num C N 1 (mk 32 [a, b, c, i, j] [bitI x] W) = some (mk (if x then 33 else 34) [a, b, c, i, j] [] W) := by cases x <;> kernel_rfl
theorem b33 : runS num C N 1 (mk 33 [a, b, c, i, j] [] W) = some (mk 18 [a, b, c, i, j] [] W) := by kernel_rfl
theorem b34 : runS num C N 7 (mk 34 [a, b, c, i, j] [] W) = some (mk 18 [a, b, c, i, j] [] (W.line (num (s (u (u (u 10 * i) + j)))))) := by kernel_rfl
theorem e42 : (mk 42 [a, b, c, i, j] [] W).stepC num C N = some (.over W) := by kernel_rfl
end
def inner (b c i : Nat) : Nat → List Int
 | 0 => []
 | n + 1 => (if i * (b - n) = c then [] else [((10 * i + (b - n) : Nat) : Int)]) ++ inner b c i n
def outer (a b c : Nat) : Nat → List Int
 | 0 => []
 | n + 1 => inner b c (a - n) b ++ outer a b c n
theorem inner_len (b c i : Nat) : ∀ n, (inner b c i n).length ≤ n
 | 0 => by simp [inner]
 | n + 1 => by
  have := inner_len b c i n
  unfold inner
  split <;> simp <;> omega
theorem outer_len (a b c : Nat) : ∀ n, (outer a b c n).length ≤ n * b
 | 0 => by simp [outer]
 | n + 1 => by
  have h1 := outer_len a b c n
  have h2 := inner_len b c (a - n) b
  unfold outer
  rw [List.length_append, Nat.add_mul]
  omega
section
variable {num : Int → List UInt8} {words : List Int} {room : Int} {lits inputs : List Int} {taken : Nat}
theorem line_ok {lines : List (List UInt8)} {x : List UInt8} (h : lines.length < 4096) : (⟨words, room, lits, inputs, taken, lines⟩ : Wd).line x = ⟨words, room, lits, inputs, taken, lines ++ [x]⟩ := by
 unfold Wd.line
 rw [if_neg (by show ¬ 4096 ≤ lines.length; omega)]
theorem inner_steps {a b c i : Nat} (ha : a < 7) (hb : b < 7) (hc : c < 9) (hi : i < 8) : ∀ (n : Nat) (lines : List (List UInt8)), n ≤ b → lines.length + n ≤ 4000 →
  ∃ k, k ≤ 22 * (n + 1) ∧ ∃ j' : Int, Steps num C N k (mk 18 [a, b, c, i, ((b - n : Nat) : Int)] [] ⟨words, room, lits, inputs, taken, lines⟩) (mk 8 [a, b, c, i, j'] [] ⟨words, room, lits, inputs, taken, lines ++ (inner b c i n).map num⟩)
 | 0, lines, hn, hl => by
  have e1 : u (((b - 0 : Nat) : Int) + u 1) = ((b + 1 : Nat) : Int) := by
   have : u 1 = 1 := by decide
   rw [this]; show IntKind.u64.wrap _ = _; rw [u_id (by omega) (by omega)]; omega
  have e2 : decide (s (b : Int) < s ((b + 1 : Nat) : Int)) = true := by
   show decide (IntKind.i64.wrap _ < IntKind.i64.wrap _) = true
   rw [s_id (by omega) (by omega), s_id (by omega) (by omega)]; simp; omega
  have h1 := runS_steps (b18 num a b c i ((b - 0 : Nat) : Int) ⟨words, room, lits, inputs, taken, lines⟩)
  rw [e1, e2] at h1
  have h2 := runS_steps (j25 num a b c i ((b + 1 : Nat) : Int) ⟨words, room, lits, inputs, taken, lines⟩ true)
  have h3 := runS_steps (b26 num a b c i ((b + 1 : Nat) : Int) ⟨words, room, lits, inputs, taken, lines⟩)
  refine ⟨_, ?_, ((b + 1 : Nat) : Int), ((h1.trans h2).trans h3).cast rfl (by simp [inner])⟩
  omega
 | n + 1, lines, hn, hl => by
  have e1 : u (((b - (n + 1) : Nat) : Int) + u 1) = ((b - n : Nat) : Int) := by
   have : u 1 = 1 := by decide
   rw [this]; show IntKind.u64.wrap _ = _; rw [u_id (by omega) (by omega)]; omega
  have e2 : decide (s (b : Int) < s ((b - n : Nat) : Int)) = false := by
   show decide (IntKind.i64.wrap _ < IntKind.i64.wrap _) = false
   rw [s_id (by omega) (by omega), s_id (by omega) (by omega)]; simp
  have h1 := runS_steps (b18 num a b c i ((b - (n + 1) : Nat) : Int) ⟨words, room, lits, inputs, taken, lines⟩)
  rw [e1, e2] at h1
  have h2 := runS_steps (j25 num a b c i ((b - n : Nat) : Int) ⟨words, room, lits, inputs, taken, lines⟩ false)
  have h3 := runS_steps (b27 num a b c i ((b - n : Nat) : Int) ⟨words, room, lits, inputs, taken, lines⟩)
  have hm : i * (b - n) ≤ 7 * 7 := Nat.mul_le_mul (by omega) (by omega)
  have e3 : u ((i : Int) * ((b - n : Nat) : Int)) = ((i * (b - n) : Nat) : Int) := by
   have : (i : Int) * ((b - n : Nat) : Int) = ((i * (b - n) : Nat) : Int) := by simp
   rw [this]; exact u_id (by omega) (by omega)
  rw [e3] at h3
  by_cases hq : i * (b - n) = c
  ·have e4 : decide (((i * (b - n) : Nat) : Int) = (c : Int)) = true := by simp [hq]
   rw [e4] at h3
   have h4 := runS_steps (j32 num a b c i ((b - n : Nat) : Int) ⟨words, room, lits, inputs, taken, lines⟩ true)
   have h5 := runS_steps (b33 num a b c i ((b - n : Nat) : Int) ⟨words, room, lits, inputs, taken, lines⟩)
   obtain ⟨k, hk, j', h6⟩ := inner_steps ha hb hc hi n lines (by omega) (by omega)
   refine ⟨_, ?_, j', (((((h1.trans h2).trans h3).trans h4).trans h5).trans h6).cast rfl (by simp [inner, hq])⟩
   omega
  ·have e4 : decide (((i * (b - n) : Nat) : Int) = (c : Int)) = false := by simp; omega
   rw [e4] at h3
   have h4 := runS_steps (j32 num a b c i ((b - n : Nat) : Int) ⟨words, room, lits, inputs, taken, lines⟩ false)
   have h5 := runS_steps (b34 num a b c i ((b - n : Nat) : Int) ⟨words, room, lits, inputs, taken, lines⟩)
   have e5 : s (u (u (u 10 * (i : Int)) + ((b - n : Nat) : Int))) = ((10 * i + (b - n) : Nat) : Int) := by
    have q1 : u 10 = 10 := by decide
    have q2 : u (10 * (i : Int)) = 10 * (i : Int) := u_id (by omega) (by omega)
    rw [q1, q2]
    have q3 : u (10 * (i : Int) + ((b - n : Nat) : Int)) = 10 * (i : Int) + ((b - n : Nat) : Int) := u_id (by omega) (by omega)
    rw [q3]
    show IntKind.i64.wrap _ = _
    rw [s_id (by omega) (by omega)]; omega
   rw [e5, line_ok (by omega)] at h5
   obtain ⟨k, hk, j', h6⟩ := inner_steps ha hb hc hi n (lines ++ [num ((10 * i + (b - n) : Nat) : Int)]) (by omega) (by simp; omega)
   refine ⟨_, ?_, j', (((((h1.trans h2).trans h3).trans h4).trans h5).trans h6).cast rfl (by simp [inner, hq])⟩
   omega
theorem outer_steps {a b c : Nat} (ha : a < 7) (hb : b < 7) (hc : c < 9) : ∀ (n : Nat) (j : Int) (lines : List (List UInt8)), n ≤ a → lines.length + n * b ≤ 3000 →
  ∃ k, k ≤ 200 * n + 20 ∧ ∃ j' : Int, Steps num C N k (mk 8 [a, b, c, ((a - n : Nat) : Int), j] [] ⟨words, room, lits, inputs, taken, lines⟩) (mk 42 [a, b, c, a, j'] [] ⟨words, room, lits, inputs, taken, lines ++ (outer a b c n).map num⟩)
 | 0, j, lines, hn, hl => by
  have e2 : decide (s ((a - 0 : Nat) : Int) < s (a : Int)) = false := by simp
  have h1 := runS_steps (b8 num a b c ((a - 0 : Nat) : Int) j ⟨words, room, lits, inputs, taken, lines⟩)
  rw [e2] at h1
  have h2 := runS_steps (j11 num a b c ((a - 0 : Nat) : Int) j ⟨words, room, lits, inputs, taken, lines⟩ false)
  refine ⟨_, ?_, j, (h1.trans h2).cast rfl (by simp [outer])⟩
  omega
 | n + 1, j, lines, hn, hl => by
  have e2 : decide (s ((a - (n + 1) : Nat) : Int) < s (a : Int)) = true := by
   show decide (IntKind.i64.wrap _ < IntKind.i64.wrap _) = true
   rw [s_id (by omega) (by omega), s_id (by omega) (by omega)]; simp; omega
  have h1 := runS_steps (b8 num a b c ((a - (n + 1) : Nat) : Int) j ⟨words, room, lits, inputs, taken, lines⟩)
  rw [e2] at h1
  have h2 := runS_steps (j11 num a b c ((a - (n + 1) : Nat) : Int) j ⟨words, room, lits, inputs, taken, lines⟩ true)
  have h3 := runS_steps (b12 num a b c ((a - (n + 1) : Nat) : Int) j ⟨words, room, lits, inputs, taken, lines⟩)
  have e1 : u (((a - (n + 1) : Nat) : Int) + u 1) = ((a - n : Nat) : Int) := by
   have : u 1 = 1 := by decide
   rw [this]; show IntKind.u64.wrap _ = _; rw [u_id (by omega) (by omega)]; omega
  have e3 : u 0 = ((b - b : Nat) : Int) := by simp; decide
  rw [e1, e3] at h3
  have hnb : (n + 1) * b = n * b + b := by rw [Nat.add_mul]; omega
  have hil := inner_len b c (a - n) b
  obtain ⟨k1, hk1, j1, h4⟩ := inner_steps (num := num) (words := words) (room := room) (lits := lits) (inputs := inputs) (taken := taken) ha hb hc (i := a - n) (by omega) b lines (Nat.le_refl _) (by omega)
  obtain ⟨k2, hk2, j2, h5⟩ := outer_steps ha hb hc n j1 (lines ++ (inner b c (a - n) b).map num) (by omega) (by simp; omega)
  refine ⟨_, ?_, j2, ((((h1.trans h2).trans h3).trans h4).trans h5).cast rfl (by simp [outer])⟩
  omega
theorem main {a b c : Nat} (ha : a < 7) (hb : b < 7) (hc : c < 9) : ∃ k, k ≤ 2000 ∧ ∃ j' : Int, Steps num C N k (mk 0 [0, 0, 0, 0, 0] [] ⟨words, room, lits, [(a : Int), b, c], 0, []⟩)
  (mk 42 [a, b, c, a, j'] [] ⟨words, room, lits, [(a : Int), b, c], 3, (outer a b c a).map num⟩) := by
 have h1 := runS_steps (b0 num a b c words room lits)
 have q1 : u (a : Int) = a := u_id (by omega) (by omega)
 have q2 : u (b : Int) = b := u_id (by omega) (by omega)
 have q3 : u (c : Int) = c := u_id (by omega) (by omega)
 have q4 : u 0 = ((a - a : Nat) : Int) := by simp; decide
 rw [q1, q2, q3, q4] at h1
 have hab : a * b ≤ 7 * 7 := Nat.mul_le_mul (by omega) (by omega)
 obtain ⟨k2, hk2, j2, h5⟩ := outer_steps (num := num) (words := words) (room := room) (lits := lits) (inputs := [(a : Int), b, c]) (taken := 3) ha hb hc a 0 [] (Nat.le_refl _) (by simp; omega)
 refine ⟨_, ?_, j2, (h1.trans h5).cast rfl (by simp)⟩
 omega
end
end Go.Vs.Loops
end
section
namespace Go.Vs
open Go.Proofs
variable [GTab]
def LOut (call : CallP) (lp : Nat → LoopP) (N : KC) (X : Nat → KC) (R : KC) (Pn : List (AVal × Bool) → KC) (i : Int) (a : Int) (b : Int) (c : Int) (s : Int) (t : Int) (l : AVal) (w : AVal) (H : Heap) (nx : Nat) : Prop :=
 ifB (decide (i ≤ a)) (lp 63 (subAt (subAt (codeOf Tryz.prog 5) [1, 1, 1, 1, 1, 1, 1, 0, 1, 0, 0]) [1, 0, 0, 1, 0, 0]) (envL AVal.und [(13, iv 1), (32, AVal.bool true), (32,
 AVal.bool (decide (i ≤ a))), (31, iv a), (30, iv i), (12, iv i), (11, w), (10, iv t), (9, iv s), (8, l), (2, iv c), (1, iv b), (0, iv a)]) H nx [] none (contAt Tryz.prog call (lp
 63) 63 (subAt (codeOf Tryz.prog 5) [1, 1, 1, 1, 1, 1, 1, 0, 1, 0, 0]) [1, 0, 0, 1, 0] (loopK N X R Pn))) (X 0 (envL AVal.und [(32, AVal.bool false), (32, AVal.bool (decide (i ≤
 a))), (31, iv a), (30, iv i), (12, iv i), (11, w), (10, iv t), (9, iv s), (8, l), (2, iv c), (1, iv b), (0, iv a)]) H nx [] none)
theorem LOut_eq (call : CallP) (lp : Nat → LoopP) (N : KC) (X : Nat → KC) (R : KC) (Pn : List (AVal × Bool) → KC) (i : Int) (a : Int) (b : Int) (c : Int) (s : Int) (t : Int) (l : AVal) (w : AVal) (H : Heap) (nx : Nat) : vK Tryz.prog call (lp 63) 63 (subAt (codeOf Tryz.prog 5) [1,1,1,1,1,1,1,0,1,0,0]) (envL .und [(12, iv i), (11, w), (10, iv t), (9, iv s), (8, l), (2, iv c), (1, iv b), (0, iv a)]) H nx [] none (loopK N X R Pn) = LOut call lp N X R Pn i a b c s t l w H nx := by kernel_rfl
def LInn (call : CallP) (lp : Nat → LoopP) (N : KC) (X : Nat → KC) (R : KC) (Pn : List (AVal × Bool) → KC) (j : Int) (i : Int) (a : Int) (b : Int) (c : Int) (s : Int) (t : Int) (l : AVal) (w : AVal) (H : Heap) (nx : Nat) : Prop :=
 ifB (decide (j ≤ b)) (ifB (!decide (IntKind.i64.wrap (i * j) = c)) (call 9 [iv (IntKind.i64.wrap (IntKind.i64.wrap (10 * i) + j))] H nx fun e0 H1 i2 => onEnd e0 (fun v3 => ∃ s4, v3
 = AVal.str s4 ∧ true = true ∧ ∃ H5, H5 = newB i2 [AVal.str s4] H1 ∧ ∃ i6 l7, aSrc 1 H5 (AVal.slice i2 0 1 1 true) = some (i6, l7) ∧ allCell l7 = true ∧ ∃ v8 H9 i10, appC H5 (i2 + 1)
 1 16 w i6 l7 = some (v8, H9, i10) ∧ N (envL AVal.und [(13, iv (IntKind.i64.wrap (j + 1))), (39, iv (IntKind.i64.wrap (j + 1))), (38, iv j), (11, v8), (52, v8), (51, AVal.slice i2 0
 1 1 true), (50, AVal.str s4), (49, iv (IntKind.i64.wrap (IntKind.i64.wrap (10 * i) + j))), (48, iv j), (47, iv (IntKind.i64.wrap (10 * i))), (46, iv i), (45, w), (44, AVal.bool
 true), (44, AVal.bool !decide (IntKind.i64.wrap (i * j) = c)), (43, iv c), (42, iv (IntKind.i64.wrap (i * j))), (41, iv j), (40, iv i), (37, AVal.bool true), (37, AVal.bool (decide
 (j ≤ b))), (36, iv b), (35, iv j), (13, iv j), (12, iv i), (11, w), (10, iv t), (9, iv s), (8, l), (2, iv c), (1, iv b), (0, iv a)]) H9 i10 [] none) fun l11 => Pn l11 (envL AVal.und
 [(49, iv (IntKind.i64.wrap (IntKind.i64.wrap (10 * i) + j))), (48, iv j), (47, iv (IntKind.i64.wrap (10 * i))), (46, iv i), (45, w), (44, AVal.bool true), (44, AVal.bool !decide
 (IntKind.i64.wrap (i * j) = c)), (43, iv c), (42, iv (IntKind.i64.wrap (i * j))), (41, iv j), (40, iv i), (37, AVal.bool true), (37, AVal.bool (decide (j ≤ b))), (36, iv b), (35, iv
 j), (13, iv j), (12, iv i), (11, w), (10, iv t), (9, iv s), (8, l), (2, iv c), (1, iv b), (0, iv a)]) H1 i2 [] none) (N (envL AVal.und [(13, iv (IntKind.i64.wrap (j + 1))), (39, iv
 (IntKind.i64.wrap (j + 1))), (38, iv j), (44, AVal.bool false), (44, AVal.bool !decide (IntKind.i64.wrap (i * j) = c)), (43, iv c), (42, iv (IntKind.i64.wrap (i * j))), (41, iv j),
 (40, iv i), (37, AVal.bool true), (37, AVal.bool (decide (j ≤ b))), (36, iv b), (35, iv j), (13, iv j), (12, iv i), (11, w), (10, iv t), (9, iv s), (8, l), (2, iv c), (1, iv b), (0,
 iv a)]) H nx [] none)) (X 2 (envL AVal.und [(37, AVal.bool false), (37, AVal.bool (decide (j ≤ b))), (36, iv b), (35, iv j), (13, iv j), (12, iv i), (11, w), (10, iv t), (9, iv s),
 (8, l), (2, iv c), (1, iv b), (0, iv a)]) H nx [] none)
theorem LInn_eq (call : CallP) (lp : Nat → LoopP) (N : KC) (X : Nat → KC) (R : KC) (Pn : List (AVal × Bool) → KC) (j : Int) (i : Int) (a : Int) (b : Int) (c : Int) (s : Int) (t : Int) (l : AVal) (w : AVal) (H : Heap) (nx : Nat) : vK Tryz.prog call (lp 63) 63 (subAt (subAt (codeOf Tryz.prog 5) [1,1,1,1,1,1,1,0,1,0,0]) [1,0,0,1,0,0]) (envL .und [(13, iv j), (12, iv i), (11, w), (10, iv t), (9, iv s), (8, l), (2, iv c), (1, iv b), (0, iv a)]) H nx [] none (loopK N X R Pn) = LInn call lp N X R Pn j i a b c s t l w H nx := by kernel_rfl
def BInn (call : CallP) (lp : Nat → LoopP) (N : KC) (X : Nat → KC) (R : KC) (Pn : List (AVal × Bool) → KC) (i : Int) (a : Int) (b : Int) (c : Int) (s : Int) (t : Int) (l : AVal) (w : AVal) (H : Heap) (nx : Nat) : Prop :=
 N (envL AVal.und [(12, iv (IntKind.i64.wrap (i + 1))), (34, iv (IntKind.i64.wrap (i + 1))), (33, iv i), (12, iv i), (11, w), (10, iv t), (9, iv s), (8, l), (2, iv c), (1, iv b), (0,
 iv a)]) H nx [] none
theorem BInn_eq (call : CallP) (lp : Nat → LoopP) (N : KC) (X : Nat → KC) (R : KC) (Pn : List (AVal × Bool) → KC) (i : Int) (a : Int) (b : Int) (c : Int) (s : Int) (t : Int) (l : AVal) (w : AVal) (H : Heap) (nx : Nat) : contAt Tryz.prog call (lp 63) 63 (subAt (codeOf Tryz.prog 5) [1,1,1,1,1,1,1,0,1,0,0]) [1,0,0,1,0] (loopK N X R Pn) (.exit 2) (envL .und [(12, iv i), (11, w), (10, iv t), (9, iv s), (8, l), (2, iv c), (1, iv b), (0, iv a)]) H nx [] none = BInn call lp N X R Pn i a b c s t l w H nx := by kernel_rfl
def AOut (call : CallP) (lp : Nat → LoopP) (lv : LeaveP) (lvc : LeaveC) (s : Int) (l : AVal) (w : AVal) (H : Heap) (nx : Nat) (K : EndP) : Prop :=
 call 10 [] H nx fun e0 H1 i2 => onEnd e0 (fun v3 => ∃ b4, v3 = AVal.bool b4 ∧ ifB b4 (ifB (decide (s = 1)) (call 11 [l, w] H1 i2 fun e5 H6 i7 => onEnd e5 (fun v8 => ∃ b9, v8 =
 AVal.bool b9 ∧ K (AEnd.ret (AVal.bool b9)) H6 i7) fun l10 => K (AEnd.pan l10) H6 i7) (K (AEnd.ret (AVal.bool false)) H1 i2)) (K (AEnd.ret (AVal.bool false)) H1 i2)) fun l11 => K
 (AEnd.pan l11) H1 i2
theorem AOut_eq (call : CallP) (lp : Nat → LoopP) (lv : LeaveP) (lvc : LeaveC) (s : Int) (l : AVal) (w : AVal) (H : Heap) (nx : Nat) (K : EndP) : contAt Tryz.prog call (lp 63) 63 (codeOf Tryz.prog 5) [1,1,1,1,1,1,1,0,1,0] (endK Tryz.prog lv lvc K (resOf Tryz.prog 5)) (.exit 0) (envL .und [(11, w), (9, iv s), (8, l)]) H nx [] none = AOut call lp lv lvc s l w H nx K := by kernel_rfl
end Go.Vs
end
section
namespace Go.Vs
open Go Go.Proofs Go.Bridge Go.Proofs.YtnkeadjkckpknaaGreatDoor
def Want [GTab] (bl : Nat) (out : List AVal) (w : AVal) (l : List (List UInt8)) (H : Heap) (nx : Nat) : Prop := ∃ Γ own, HOK Γ H nx ∧ RowV Γ own 20 AVal.str w l ∧ Γ bl = some out ∧ own bl = 0
theorem Want.add [GTab] {bl : Nat} {out : List AVal} {w : AVal} {l : List (List UInt8)} {H : Heap} {nx x nx1 : Nat} {s : List UInt8} (h : Want bl out w l H nx) (hx : nx ≤ x) (hx1 : x < nx1) (hl : l.length < 1000000) :
  aSrc 1 (newB x [.str s] H) (.slice x 0 1 1 true) = some (1, [.str s]) ∧ ∃ w' H' nx', appC (newB x [.str s] H) nx1 1 16 w 1 [.str s] = some (w', H', nx') ∧ nx1 ≤ nx' ∧ Want bl out w' (l ++ [s]) H' nx' := by
 obtain ⟨Γ, own, hk, hr, hb, ho⟩ := h
 have k1 := hk.new (b := x) (nx' := nx1) hx hx1 [.str s]
 refine ⟨by rw [k1.src (gup_same _ _ _) (by simp)]; rfl, ?_⟩
 obtain ⟨H', v', Γ', own', nx', p1, p2, p3, p4, p5, p6⟩ := RowV.pushes (eb := 16) k1 (hr.keep (Keep.new (ex := fun _ => False) hk hx _) id) [s] (by simp; omega) (by omega)
 refine ⟨v', H', nx', p1, p2, Γ', own', p4, p5, ?_⟩
 obtain ⟨q1, q2⟩ := p6 bl out (by have := hk.lt hb; rw [gup_ne (by omega)]; exact hb) (by rw [ho]; omega)
 exact ⟨q1, by rw [q2, ho]⟩
theorem RowV.srcStr [GTab] {Γ : GH} {own : Nat → Nat} {role : Nat} {v : AVal} {l : List (List UInt8)} (h : RowV Γ own role AVal.str v l) : SrcV Γ v 1 l.length (l.map AVal.str) := by
 rcases h with ⟨rfl, rfl⟩ | ⟨b, cs, ⟨full, rfl⟩, h1, h2, h3⟩
 ·exact .inl ⟨rfl, rfl, rfl⟩
 ·have := take_len h3 (by simp)
  exact .inr ⟨b, 0, full, cs, rfl, h2, by omega, by rw [List.drop_zero, Nat.mul_one, h3]⟩
section
variable [Ev.GTab] [GTab] [Ev.SymC Tryz.prog 202 25] {t : TypeId} {fz : Nat × Nat}
theorem loops_inner {a b c i : Nat} {s tr : Int} {bl : Nat} {full : Bool} {out : List AVal} {ol : Nat} (ha : a < 7) (hb : b < 7) (hc : c < 9) (hi : i ≤ a) (hi0 : 1 ≤ i) {acc : List Int} (hacc : acc.length ≤ 100) {w : AVal} {H : Heap} {nx : Nat} {env : Env} {C : KP}
  (h : Want bl out w (acc.map Lib.itoa) H nx)
  (hle : EnvLe (envL .und [(13, iv (1 : Nat)), (12, iv i), (11, w), (10, iv tr), (9, iv s), (8, .slice bl 0 ol 1 full), (2, iv c), (1, iv b), (0, iv a)]) env)
  (hC : ∀ w' H' nx', nx ≤ nx' → Want bl out w' ((acc ++ Loops.inner b c i b).map Lib.itoa) H' nx' → C (.exit 2) (envL .und [(12, iv i), (11, w'), (10, iv tr), (9, iv s), (8, .slice bl 0 ol 1 full), (2, iv c), (1, iv b), (0, iv a)]) H' nx' [] none) :
  LpP Tryz.prog 63 (subAt (subAt (codeOf Tryz.prog 5) [1,1,1,1,1,1,1,0,1,0,0]) [1,0,0,1,0,0]) env H nx [] none C := by
 refine loop_c mixed (X := Nat × AVal × List Int) (Y := AVal) (fun p => envL .und [(13, iv p.1), (12, iv i), (11, p.2.1), (10, iv tr), (9, iv s), (8, .slice bl 0 ol 1 full), (2, iv c), (1, iv b), (0, iv a)])
  (fun w => envL .und [(12, iv i), (11, w), (10, iv tr), (9, iv s), (8, .slice bl 0 ol 1 full), (2, iv c), (1, iv b), (0, iv a)])
  (fun μ p H' nx' => μ = b + 1 - p.1 ∧ 1 ≤ p.1 ∧ p.1 ≤ b + 1 ∧ p.2.2 ++ Loops.inner b c i (b + 1 - p.1) = acc ++ Loops.inner b c i b ∧ p.2.2.length < 100 + p.1 ∧ nx ≤ nx' ∧ Want bl out p.2.1 (p.2.2.map Lib.itoa) H' nx')
  (fun id w H' nx' => id = 2 ∧ nx ≤ nx' ∧ Want bl out w ((acc ++ Loops.inner b c i b).map Lib.itoa) H' nx') (b + 1 - 1) (1, w, acc) hle ⟨rfl, by simp, by simp, rfl, by simp; omega, Nat.le_refl _, h⟩ ?_ ?_
 ·rintro μ ⟨j, w1, l1⟩ H1 nx1 ⟨rfl, hj0, hj, hl, hlen, hnx, hw⟩
  dsimp only at hj0 hj hl hlen hw ⊢
  rw [LInn_eq]
  unfold LInn
  rw [ifB_iff]; simp only [decide_eq_true_eq, decide_eq_false_iff_not]
  refine ⟨fun hlt => ?_, fun hge => ?_⟩
  ·have hjb : j ≤ b := by omega
   have ej : IntKind.i64.wrap ((j : Int) + 1) = ((j + 1 : Nat) : Int) := by rw [wrap64_id (by omega) (by omega)]; omega
   have hm : i * j ≤ 7 * 7 := Nat.mul_le_mul (by omega) (by omega)
   have em : IntKind.i64.wrap ((i : Int) * (j : Int)) = ((i * j : Nat) : Int) := by
    have : (i : Int) * (j : Int) = ((i * j : Nat) : Int) := by simp
    rw [this]; exact wrap64_id (by omega) (by omega)
   have hin : Loops.inner b c i (b + 1 - j) = (if i * j = c then [] else [((10 * i + j : Nat) : Int)]) ++ Loops.inner b c i (b + 1 - (j + 1)) := by
    rw [show b + 1 - j = (b - j) + 1 by omega, show b + 1 - (j + 1) = b - j by omega]
    show (if i * (b - (b - j)) = c then [] else [((10 * i + (b - (b - j)) : Nat) : Int)]) ++ Loops.inner b c i (b - j) = _
    rw [show b - (b - j) = j by omega]
   rw [hin] at hl
   rw [ifB_iff]; simp only [Bool.not_eq_true', decide_eq_false_iff_not, Bool.not_eq_false', decide_eq_true_eq]
   refine ⟨fun hq => ?_, fun hq => ?_⟩
   ·rw [em] at hq
    have hq' : ¬ i * j = c := by omega
    rw [if_neg hq'] at hl
    have e10 : IntKind.i64.wrap (IntKind.i64.wrap (10 * (i : Int)) + (j : Int)) = ((10 * i + j : Nat) : Int) := by
     rw [wrap64_id (n := 10 * (i : Int)) (by omega) (by omega), wrap64_id (by omega) (by omega)]; omega
    refine d_ok (t := 0) (fz := (0, 0)) (by rw [e10]; omega) (by rw [e10]; omega) ?_
    rw [onEnd_ret, e10]
    obtain ⟨a1, w2, H2, nx2, a2, a3, a4⟩ := hw.add (x := nx1) (nx1 := nx1 + 1) (s := Lib.itoa ((10 * i + j : Nat) : Int)) (Nat.le_refl _) (by omega) (by simp; omega)
    refine ⟨_, rfl, by first | rfl | trivial, _, rfl, _, _, a1, rfl, _, _, _, a2, ?_⟩
    refine ⟨by first | rfl | trivial, b + 1 - (j + 1), (j + 1, w2, l1 ++ [((10 * i + j : Nat) : Int)]), by omega, EnvLe.of_list ⟨?_, rfl, rfl, rfl, rfl, rfl, rfl, rfl, rfl, trivial⟩, rfl, by simp, by simp; omega, ?_, by simp; omega, by omega, ?_⟩
    ·show AVal.int .i64 _ = _
     rw [ej]
    ·show (l1 ++ _) ++ _ = _
     rw [List.append_assoc]; exact hl
    ·show Want bl out w2 ((l1 ++ _).map Lib.itoa) H2 nx2
     rw [List.map_append]; exact a4
   ·rw [em] at hq
    have hq' : i * j = c := by omega
    rw [if_pos hq', List.nil_append] at hl
    refine ⟨by first | rfl | trivial, b + 1 - (j + 1), (j + 1, w1, l1), by omega, EnvLe.of_list ⟨?_, rfl, rfl, rfl, rfl, rfl, rfl, rfl, rfl, trivial⟩, rfl, by simp, by simp; omega, hl, by simp; omega, by omega, hw⟩
    show AVal.int .i64 _ = _
    rw [ej]
  ·have : b + 1 - j = 0 := by omega
   rw [this] at hl
   have hl' : l1 = acc ++ Loops.inner b c i b := by rw [← hl]; simp [Loops.inner]
   subst hl'
   exact ⟨by first | rfl | trivial, w1, EnvLe.of_list ⟨rfl, rfl, rfl, rfl, rfl, rfl, rfl, rfl, trivial⟩, by first | rfl | trivial, hnx, hw⟩
 ·rintro id w1 H1 nx1 ⟨rfl, hnx, hw⟩
  exact hC _ _ _ hnx hw
theorem loops_outer {a b c : Nat} {s tr : Int} {bl : Nat} {full : Bool} {out : List AVal} {ol : Nat} (ha : a < 7) (hb : b < 7) (hc : c < 9) {H : Heap} {nx : Nat} {env : Env} {C : KP}
  (h : Want bl out .nilSlice [] H nx)
  (hle : EnvLe (envL .und [(12, iv (1 : Nat)), (11, .nilSlice), (10, iv tr), (9, iv s), (8, .slice bl 0 ol 1 full), (2, iv c), (1, iv b), (0, iv a)]) env)
  (hC : ∀ w' H' nx', nx ≤ nx' → Want bl out w' ((Loops.outer a b c a).map Lib.itoa) H' nx' → C (.exit 0) (envL .und [(11, w'), (9, iv s), (8, .slice bl 0 ol 1 full)]) H' nx' [] none) :
  LpP Tryz.prog 63 (subAt (codeOf Tryz.prog 5) [1,1,1,1,1,1,1,0,1,0,0]) env H nx [] none C := by
 refine loop_c mixed (X := Nat × AVal × List Int) (Y := AVal) (fun p => envL .und [(12, iv p.1), (11, p.2.1), (10, iv tr), (9, iv s), (8, .slice bl 0 ol 1 full), (2, iv c), (1, iv b), (0, iv a)])
  (fun w => envL .und [(11, w), (9, iv s), (8, .slice bl 0 ol 1 full)])
  (fun μ p H' nx' => μ = a + 1 - p.1 ∧ 1 ≤ p.1 ∧ p.1 ≤ a + 1 ∧ p.2.2 ++ Loops.outer a b c (a + 1 - p.1) = Loops.outer a b c a ∧ p.2.2.length ≤ 7 * (p.1 - 1) ∧ nx ≤ nx' ∧ Want bl out p.2.1 (p.2.2.map Lib.itoa) H' nx')
  (fun id w H' nx' => id = 0 ∧ nx ≤ nx' ∧ Want bl out w ((Loops.outer a b c a).map Lib.itoa) H' nx') (a + 1 - 1) (1, .nilSlice, []) hle ⟨rfl, by simp, by simp, rfl, by simp, Nat.le_refl _, h⟩ ?_ ?_
 ·rintro μ ⟨i, w1, l1⟩ H1 nx1 ⟨rfl, hi0, hi, hl, hlen, hnx, hw⟩
  dsimp only at hi0 hi hl hlen hw ⊢
  rw [LOut_eq]
  unfold LOut
  rw [ifB_iff]; simp only [decide_eq_true_eq, decide_eq_false_iff_not]
  refine ⟨fun hlt => ?_, fun hge => ?_⟩
  ·have hia : i ≤ a := by omega
   refine loops_inner (acc := l1) ha hb hc hia hi0 (by omega) hw (EnvLe.of_list ⟨rfl, rfl, rfl, rfl, rfl, rfl, rfl, rfl, rfl, trivial⟩) fun w2 H2 nx2 l2 hw2 => ?_
   rw [BInn_eq]
   unfold BInn
   have ei : IntKind.i64.wrap ((i : Int) + 1) = ((i + 1 : Nat) : Int) := by rw [wrap64_id (by omega) (by omega)]; omega
   have ho : Loops.outer a b c (a + 1 - i) = Loops.inner b c i b ++ Loops.outer a b c (a + 1 - (i + 1)) := by
    rw [show a + 1 - i = (a - i) + 1 by omega, show a + 1 - (i + 1) = a - i by omega]
    show Loops.inner b c (a - (a - i)) b ++ _ = _
    rw [show a - (a - i) = i by omega]
   rw [ho] at hl
   have hin := Loops.inner_len b c i b
   refine ⟨by first | rfl | trivial, a + 1 - (i + 1), (i + 1, w2, l1 ++ Loops.inner b c i b), by omega, EnvLe.of_list ⟨?_, rfl, rfl, rfl, rfl, rfl, rfl, rfl, trivial⟩, rfl, by simp, by simp; omega, ?_, ?_, by omega, hw2⟩
   ·show AVal.int .i64 _ = _
    rw [ei]
   ·show (l1 ++ _) ++ _ = _
    rw [List.append_assoc]; exact hl
   ·show (l1 ++ _).length ≤ 7 * (i + 1 - 1)
    rw [List.length_append]; omega
  ·have : a + 1 - i = 0 := by omega
   rw [this] at hl
   have hl' : l1 = Loops.outer a b c a := by rw [← hl]; simp [Loops.outer]
   subst hl'
   exact ⟨by first | rfl | trivial, w1, EnvLe.of_list ⟨rfl, rfl, rfl, trivial⟩, by first | rfl | trivial, hnx, hw⟩
 ·rintro id w1 H1 nx1 ⟨rfl, hnx, hw⟩
  exact hC _ _ _ hnx hw
theorem loops_true (T : Tabs t fz) (a0 b0 c0 : Int) {H : Heap} {nx : Nat} : TriP Tryz.prog 5 [iv a0, iv b0, iv c0] H nx (fun e _ _ => e = .ret (.bool true)) := by
 refine TriP.of_body mixed ?_
 rw [FLLoops_eq]
 unfold FLLoops
 refine pick_ok (m := 7) (by omega) (by omega) fun a ha => ?_
 rw [onEnd_ret]
 refine ⟨_, rfl, ?_⟩
 refine pick_ok (m := 7) (by omega) (by omega) fun b hb => ?_
 rw [onEnd_ret]
 refine ⟨_, rfl, ?_⟩
 refine pick_ok (m := 9) (by omega) (by omega) fun c hc => ?_
 rw [onEnd_ret]
 refine ⟨_, rfl, rfl, rfl, rfl, _, rfl, ?_⟩
 obtain ⟨k, hk, j', hs⟩ := Loops.main (num := Lib.itoa) (words := [0]) (room := 100) (lits := []) ha hb hc
 have k0 := (hok_none (H := H) (nx := nx)).new (b := nx) (nx' := nx + 1) (by omega) (by omega) [iv a, iv b, iv c]
 have hab : a * b ≤ 7 * 7 := Nat.mul_le_mul (by omega) (by omega)
 have hol := Loops.outer_len a b c a
 refine lrun_ok (num_ok T.pow) (srcLoops T.ev T.same) (room := 100) (fuel := 99999) (inputs := [(a : Int), b, c]) (W := ⟨[0], 100, [], [(a : Int), b, c], 3, (Loops.outer a b c a).map Lib.itoa⟩) (st := 1) (P := fun _ => True) (by omega) (by omega) (by omega) (by simp) (by simp; omega) ?_ k0
  (.inr ⟨nx, 0, true, [iv a, iv b, iv c], rfl, gup_same _ _ _, by simp, rfl⟩) fun H1 Γ1 x bl full tr lx lbl k1 s1 hb1 htr => ?_
 ·intro Γ0 pg hc
  exact ⟨.over _, Steps.over (S := ⟨[], ⟨0, 0, List.replicate 5 0, []⟩, ⟨[0], 100, [], [(a : Int), b, c], 0, []⟩, 0, 0⟩) hc hs (fine0 (by omega) (by omega) (by omega) (by simp)) (by omega) rfl (Loops.e42 _ _ _ _ _ _ _), OutIs.over _⟩
 rw [onEnd_ret]
 refine ⟨_, _, _, rfl, ?_⟩
 refine loops_outer ha hb hc (out := ((Loops.outer a b c a).map Lib.itoa).map AVal.str) (bl := bl) (full := full) (ol := ((Loops.outer a b c a).map Lib.itoa).length) (s := 1) (tr := tr) ⟨Γ1, fun _ => 0, k1, .inl ⟨rfl, rfl⟩, hb1, rfl⟩
  (EnvLe.of_list ⟨rfl, rfl, rfl, rfl, rfl, rfl, rfl, rfl, trivial⟩) fun w2 H2 nx2 l2 hw2 => ?_
 rw [AOut_eq]
 unfold AOut
 refine kn_ok T ?_
 rw [onEnd_ret]
 refine ⟨_, rfl, ?_⟩
 rw [ifB_true]
 refine ifB_p rfl ?_
 obtain ⟨Γ2, own, k2, hr, hbl, ho⟩ := hw2
 refine same_ok (l := (Loops.outer a b c a).map Lib.itoa) k2 (.inr ⟨bl, 0, full, _, rfl, hbl, by simp, by rw [List.drop_zero, List.take_of_length_le (by simp)]⟩) hr.srcStr (by simp; omega) fun nx3 l3 => ?_
 rw [onEnd_ret]
 exact ⟨_, rfl, rfl⟩
end
end Go.Vs
end
