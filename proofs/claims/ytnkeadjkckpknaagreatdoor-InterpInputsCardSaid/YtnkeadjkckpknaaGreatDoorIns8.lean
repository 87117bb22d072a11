/-
  Own work. Texts of a proof, laid together; no condition.
-/
import Derived.Test.YtnkeadjkckpknaaGreatDoorChecked
import Derived.Test.YtnkeadjkckpknaaGreatDoorIns7
import Derived.Test.YtnkeadjkckpknaaGreatDoorIns6
import Derived.Test.YtnkeadjkckpknaaGreatDoorIns5
import Derived.Test.YtnkeadjkckpknaaGreatDoorInsSrcIns
set_option linter.unusedSectionVars false
set_option linter.unusedVariables false
set_option linter.unusedSimpArgs false
set_option maxRecDepth 1000000
section
namespace Go.Vs
open Go.Ev (ilt zz)
open Go Go.Proofs Go.Bridge Go.Proofs.YtnkeadjkckpknaaGreatDoor
section
variable [Ev.GTab] [GTab] [Ev.SymC Tryz.prog 202 25] {t : TypeId} {fz : Nat × Nat}
theorem Vd {a : AVal} {l : List Int} (ha : ArgI a l) {H : Heap} {nx : Nat} {K : EndP}
  (hK : ∀ w Γ own H' nx', nx ≤ nx' → HOK Γ H' nx' → RowV Γ own 21 iv w (l.take 40) → K (.ret w) H' nx') : TriP Tryz.prog 13 [a] H nx K := by
 refine TriP.of_body qy ?_
 rw [KV]
 unfold Vu
 refine yO qy (X := Nat × AVal) (Y := AVal) (fun p => envL .und [(4, iv p.1), (3, p.2), (2, .nilSlice), (0, a)]) (fun w => envL .und [(3, w)])
  (fun μ p H' nx' => μ = min 40 l.length - p.1 ∧ p.1 ≤ min 40 l.length ∧ nx ≤ nx' ∧ ∃ Γ own, HOK Γ H' nx' ∧ RowV Γ own 21 iv p.2 (l.take p.1))
  (fun id w H' nx' => id = 0 ∧ nx ≤ nx' ∧ ∃ Γ own, HOK Γ H' nx' ∧ RowV Γ own 21 iv w (l.take 40)) (min 40 l.length - 0) (0, .nilSlice) (ze.of_list ⟨rfl, rfl, rfl, rfl, trivial⟩) ⟨rfl, Nat.zero_le _, Nat.le_refl _, fun _ => none, fun _ => 0, XU, .inl ⟨rfl, by simp⟩⟩ ?_ ?_
 ·rintro μ ⟨i, w⟩ H1 nx1 ⟨rfl, hi, hnx, Γ, own, hk, hr⟩
  dsimp only at hi hr ⊢
  have fin : ¬ (i < l.length ∧ i < 40) → l.take i = l.take 40 := fun h => by
   rcases Nat.lt_or_ge i 40 with h12 | h12
   ·rw [List.take_of_length_le (by omega), List.take_of_length_le (by omega)]
   ·have : i = 40 := by omega
    rw [this]
  rw [qbn]
  unfold LInp
  refine ⟨_, ha.1, ?_⟩
  rw [qK]; simp only [decide_eq_true_eq, decide_eq_false_iff_not, Int.ofNat_eq_natCast]
  refine ⟨fun hlt => ?_, fun hge => ?_⟩
  ·rw [qK]; simp only [decide_eq_true_eq, decide_eq_false_iff_not]
   refine ⟨fun hlt2 => ?_, fun hge => ?_⟩
   ·have hil : i < l.length := by omega
    have ew : IntKind.i64.wrap ((i : Int) + 1) = ((i + 1 : Nat) : Int) := by rw [zm (by omega) (by omega)]; omega
    obtain ⟨p, p1, p2⟩ := ha.2 i hil
    have k1 := hk.new (b := nx1) (nx' := nx1 + 1) (by omega) (by omega) [iv (l.getD i 0)]
    have e1 : aSrc 1 (newB nx1 [iv (l.getD i 0)] H1) (.slice nx1 0 1 1 true) = some (1, [iv (l.getD i 0)]) := by rw [k1.src (qd _ _ _) (by simp)]; rfl
    obtain ⟨H', v', Γ', own', nx', q1, q2, q3, q4, q5, q6⟩ := RowV.pushes (eb := 8) k1 (hr.keep (Keep.new (ex := fun _ => False) hk (Nat.le_refl _) _) id) [l.getD i 0] (by simp; omega) (by omega)
    have et : l.take (i + 1) = l.take i ++ [l.getD i 0] := by
     rw [List.take_add_one]
     simp [List.getD, List.getElem?_eq_getElem hil]
    refine ⟨by omega, _, by rw [Int.toNat_natCast]; exact p1, _, p2 _, by first | rfl | trivial, _, rfl, _, _, e1, by first | rfl | trivial, _, _, _, q1, ?_⟩
    refine ⟨by first | rfl | trivial, min 40 l.length - (i + 1), (i + 1, v'), by omega, ze.of_list ⟨?_, rfl, rfl, rfl, trivial⟩, rfl, by show i + 1 ≤ _; omega, by omega, Γ', own', q4, ?_⟩
    ·show AVal.int .i64 _ = _
     rw [ew]
    ·show RowV Γ' own' 21 iv v' (l.take (i + 1))
     rw [et]; exact q5
   ·refine ⟨by first | rfl | trivial, w, ze.of_list ⟨rfl, trivial⟩, by first | rfl | trivial, hnx, Γ, own, hk, ?_⟩
    rw [← fin (by omega)]; exact hr
  ·refine ⟨by first | rfl | trivial, w, ze.of_list ⟨rfl, trivial⟩, by first | rfl | trivial, hnx, Γ, own, hk, ?_⟩
   rw [← fin (by omega)]; exact hr
 ·rintro id w H1 nx1 ⟨rfl, hnx, Γ, own, hk, hr⟩
  rw [qcf]
  exact hK _ _ _ _ _ hnx hk hr
def told (m : List Int) (k : Nat) : List (List UInt8) := (List.range k).map fun i => Lib.itoa (Inputs.told m i)
theorem Xf (m : List Int) (k : Nat) : told m (k + 1) = told m k ++ [Lib.itoa (Inputs.told m k)] := by simp [told, List.range_succ]
theorem K2 {n : Nat} (hn : n < 20) {m : List Int} (hm : m.length ≤ 40) (hin : ∀ x, x ∈ m → -9223372036854775808 ≤ x ∧ x < 9223372036854775808) {v : AVal} {H : Heap} {nx : Nat} {Γ0 : GH} {own0 : Nat → Nat} {env : Env} {C : KP}
  (hk0 : HOK Γ0 H nx) (hv : RowV Γ0 own0 21 iv v m)
  (hle : ze (envL .und [(8, iv (0 : Nat)), (7, .nilSlice), (6, .str (insHead)), (5, v), (4, .bool false), (1, iv n)]) env)
  (hC : ∀ w Γ own H' nx', nx ≤ nx' → HOK Γ H' nx' → RowV Γ own 21 iv v m → RowV Γ own 20 AVal.str w (told m n) → C (.exit 0) (envL .und [(7, w), (6, .str (insTo n)), (5, v), (4, .bool false), (1, iv n)]) H' nx' [] none) :
  LpP Tryz.prog 82 (z9 (qW Tryz.prog 6) [1,1,1,1,1,0,1,0,0]) env H nx [] none C := by
 refine yO qy (X := Nat × AVal) (Y := AVal) (fun p => envL .und [(8, iv p.1), (7, p.2), (6, .str (insTo p.1)), (5, v), (4, .bool false), (1, iv n)]) (fun w => envL .und [(7, w), (6, .str (insTo n)), (5, v), (4, .bool false), (1, iv n)])
  (fun μ p H' nx' => μ = n - p.1 ∧ p.1 ≤ n ∧ nx ≤ nx' ∧ ∃ Γ own, HOK Γ H' nx' ∧ RowV Γ own 21 iv v m ∧ RowV Γ own 20 AVal.str p.2 (told m p.1))
  (fun id w H' nx' => id = 0 ∧ nx ≤ nx' ∧ ∃ Γ own, HOK Γ H' nx' ∧ RowV Γ own 21 iv v m ∧ RowV Γ own 20 AVal.str w (told m n)) (n - 0) (0, .nilSlice) hle ⟨rfl, Nat.zero_le _, Nat.le_refl _, Γ0, own0, hk0, hv, .inl ⟨rfl, rfl⟩⟩ ?_ ?_
 ·rintro μ ⟨i, w⟩ H1 nx1 ⟨rfl, hi, hnx, Γ, own, hk, hr, hw⟩
  dsimp only at hi hw ⊢
  rw [qgi]
  unfold I1
  rw [qK]; simp only [decide_eq_true_eq, decide_eq_false_iff_not, Int.ofNat_eq_natCast]
  refine ⟨fun hlt => ?_, fun hge => ?_⟩
  ·have ew : IntKind.i64.wrap ((i : Int) + 1) = ((i + 1 : Nat) : Int) := by rw [zm (by omega) (by omega)]; omega
   have hlen := insTo_len i
   have es : insTo i ++ [112, 114, 105, 110, 116, 40, 105, 110, 112, 117, 116, 40, 41, 41, 10] = insTo (i + 1) := rfl
   rw [es]
   have push : ∀ (x : Nat) (s : List UInt8), nx1 ≤ x → s = Lib.itoa (Inputs.told m i) → ∃ w' H' nx', aSrc 1 (newB x [.str s] H1) (.slice x 0 1 1 true) = some (1, [.str s]) ∧ appC (newB x [.str s] H1) (x + 1) 1 16 w 1 [.str s] = some (w', H', nx') ∧ nx ≤ nx' ∧ ∃ Γ own, HOK Γ H' nx' ∧ RowV Γ own 21 iv v m ∧ RowV Γ own 20 AVal.str w' (told m (i + 1)) := by
    rintro x s hx rfl
    have k1 := hk.new (b := x) (nx' := x + 1) hx (by omega) [.str (Lib.itoa (Inputs.told m i))]
    have kp : ∀ ex, Keep Γ own (gup x (some [.str (Lib.itoa (Inputs.told m i))]) Γ) own ex := fun ex => Keep.new hk hx _
    obtain ⟨H', v', Γ', own', nx', q1, q2, q3, q4, q5, q6⟩ := RowV.pushes (eb := 16) k1 (hw.keep (kp (fun _ => False)) id) [Lib.itoa (Inputs.told m i)] (by simp [told]; omega) (by omega)
    refine ⟨v', H', nx', by rw [k1.src (qd _ _ _) (by simp)]; rfl, q1, by omega, Γ', own', q4, hr.keep ((kp _).trans q6) (by omega), ?_⟩
    rw [Xf]; exact q5
   refine ⟨by omega, _, hr.len, ?_⟩
   rw [qK]; simp only [decide_eq_true_eq, decide_eq_false_iff_not]
   refine ⟨fun hlt2 => ?_, fun hge2 => ?_⟩
   ·have him : i < m.length := by omega
    obtain ⟨p, p1, p2⟩ := hr.get hk him 0
    have hx := hin (m.getD i 0) (by simp [List.getD, List.getElem?_eq_getElem him])
    have et : Inputs.told m i = m.getD i 0 := by unfold Inputs.told; rw [if_pos him]
    refine ⟨by omega, _, by rw [Int.toNat_natCast]; exact p1, _, p2, ?_⟩
    refine d_ok (t := 0) (fz := (0, 0)) (by omega) (by omega) ?_
    rw [qc]
    obtain ⟨w', H', nx', a1, a2, a3, a4⟩ := push nx1 (Lib.itoa (m.getD i 0)) (Nat.le_refl _) (by rw [et])
    refine ⟨_, rfl, by first | rfl | trivial, _, rfl, _, _, a1, by first | rfl | trivial, _, _, _, a2, ?_⟩
    refine ⟨by first | rfl | trivial, n - (i + 1), (i + 1, w'), by omega, ze.of_list ⟨?_, rfl, rfl, rfl, rfl, rfl, trivial⟩, rfl, by show i + 1 ≤ _; omega, a3, a4⟩
    show AVal.int .i64 _ = _
    rw [ew]
   ·have et : Lib.itoa (Inputs.told m i) = [48] := by
     have : Inputs.told m i = 0 := by unfold Inputs.told; rw [if_neg (by omega)]
     rw [this]
     unfold Lib.itoa
     rw [if_neg (by omega), Lib.decDigits, dif_pos (by decide)]
     rfl
    obtain ⟨w', H', nx', a1, a2, a3, a4⟩ := push nx1 [48] (Nat.le_refl _) et.symm
    refine ⟨by first | rfl | trivial, _, rfl, _, _, a1, by first | rfl | trivial, _, _, _, a2, ?_⟩
    refine ⟨by first | rfl | trivial, n - (i + 1), (i + 1, w'), by omega, ze.of_list ⟨?_, rfl, rfl, rfl, rfl, rfl, trivial⟩, rfl, by show i + 1 ≤ _; omega, a3, a4⟩
    show AVal.int .i64 _ = _
    rw [ew]
  ·have : i = n := by omega
   subst this
   exact ⟨by first | rfl | trivial, w, ze.of_list ⟨rfl, rfl, rfl, rfl, rfl, trivial⟩, by first | rfl | trivial, hnx, Γ, own, hk, hr, hw⟩
 ·rintro id w H1 nx1 ⟨rfl, hnx, Γ, own, hk, hr, hw⟩
  exact hC _ _ _ _ _ hnx hk hr hw
theorem Ve (T : Tabs t fz) {a : AVal} {l : List Int} (ha : ArgI a l) (hin : ∀ x, x ∈ l → -9223372036854775808 ≤ x ∧ x < 9223372036854775808) (n0 : Int) {H : Heap} {nx : Nat} : TriP Tryz.prog 6 [a, iv n0] H nx (fun e _ _ => e = .ret (.bool true)) := by
 refine TriP.of_body qy ?_
 rw [qab]
 unfold qeg
 refine qcq (m := 20) (by omega) (by omega) fun n hn => ?_
 rw [qc]
 refine ⟨_, rfl, ?_⟩
 refine Vd ha fun v Γ own H1 nx1 l1 hk hr => ?_
 rw [qc]
 have hm : (l.take 40).length ≤ 40 := by rw [List.length_take]; omega
 have hin2 : ∀ x, x ∈ l.take 40 → -9223372036854775808 ≤ x ∧ x < 9223372036854775808 := fun x hx => hin x (List.mem_of_mem_take hx)
 generalize l.take 40 = m at hr hm hin2
 refine K2 hn hm hin2 hk hr (ze.of_list ⟨rfl, rfl, rfl, rfl, rfl, rfl, trivial⟩) fun w Γ2 own2 H2 nx2 l2 k2 hv hw => ?_
 rw [qfb]
 unfold AI1
 have hlen := insTo_len n
 refine ⟨by omega, ?_⟩
 refine srcIns T.ev T.same n hn Γ2 H2 nx2 _ k2 fun H3 Γ3 x p0 p1 p4 lx k3 s3 hp => ?_
 rw [qc]
 have hcv : qD p0 = true ∧ qD p1 = true ∧ qD p4 = true := by
  obtain ⟨G, fb, off, len, e, nt, full, rfl, _, _, _, _, _, _, _, _, _, a11, a12⟩ := hp
  exact ⟨a11, rfl, a12⟩
 have k12 := k3.new (b := x) (nx' := x + 1) (by omega) (by omega) [p0, p1, iv 0, .nilSlice, p4]
 have k13 := k12.new (b := x + 1) (nx' := x + 2) (by omega) (by omega) [iv 0, iv 0]
 have e14 : stC (newB (x + 1) [iv 0, iv 0] (newB x [.nilSlice, .nilSlice, iv 0, .nilSlice, .nilSlice] H3)) (.ptr x 0) [p0, p1, iv 0, .nilSlice, p4] = some (newB (x + 1) [iv 0, iv 0] (newB x [p0, p1, iv 0, .nilSlice, p4] H3)) := by
  have hh : Has (newB (x + 1) [iv 0, iv 0] (newB x [.nilSlice, .nilSlice, iv 0, .nilSlice, .nilSlice] H3)) x [.nilSlice, .nilSlice, iv 0, .nilSlice, .nilSlice] := (Wu x _ H3).ne (by omega)
  rw [Yr hh (by simp) (by simp [qq, hcv.1, hcv.2.1, hcv.2.2]; rfl)]
  congr 1
  funext c
  by_cases hc : c = x
  ·subst hc; rw [kr, jl (by omega), kr]; rfl
  ·rw [jl hc]
   by_cases hc2 : c = x + 1
   ·subst hc2; rw [kr, kr]
   ·rw [jl hc2, jl hc2, jl hc, jl hc]
 have e15 : stC (newB (x + 1) [iv 0, iv 0] (newB x [p0, p1, iv 0, .nilSlice, p4] H3)) (.ptr (x + 1) 0) [iv 0, iv 0] = some (newB (x + 1) [iv 0, iv 0] (newB x [p0, p1, iv 0, .nilSlice, p4] H3)) := Zp rfl rfl
 have l15 : ldN (newB (x + 1) [iv 0, iv 0] (newB x [p0, p1, iv 0, .nilSlice, p4] H3)) 5 (.ptr x 0) = some (.agg [p0, p1, iv 0, .nilSlice, p4]) := by rw [k13.ldN (by rw [qf (by omega), qd]) (by simp)]; rfl
 refine ⟨_, _, _, _, _, _, _, _, rfl, _, rfl, _, rfl, _, e14, _, e15, ?_⟩
 refine qgo T ?_
 rw [qc]
 refine ⟨_, rfl, ?_⟩
 show ifB (!true) _ _
 rw [show (!true) = false from rfl, zk]
 refine y4 rfl ⟨_, _, _, _, _, l15, ?_⟩
 have s13 : ∀ c ds, Γ3 c = some ds → gup (x + 1) (some [iv 0, iv 0]) (gup x (some [p0, p1, iv 0, .nilSlice, p4]) Γ3) c = some ds := fun c ds ec => by have := k3.lt ec; rw [qf (by omega), qf (by omega)]; exact ec
 have hp13 := hp.mono (H' := newB (x + 1) [iv 0, iv 0] (newB x [p0, p1, iv 0, .nilSlice, p4] H3)) (nx' := x + 2) s13 (fun b hb => by rw [jl (by omega), jl (by omega)]) (by omega)
 obtain ⟨G, fb, off, len, e, nt, full, rfl, a2, a3, a4, a5, a6, a7, a8, a9, a10, a11, a12⟩ := hp13
 have s2all : ∀ c ds, Γ2 c = some ds → gup (x + 1) (some [iv 0, iv 0]) (gup x (some [p0, .slice fb off len e full, iv 0, .nilSlice, p4]) Γ3) c = some ds := fun c ds ec => s13 _ _ (s3 _ _ ec)
 refine qfq a2 a3 a4 a5 k13 a6 a7 a8 a9 a10 (hv.srcV.mono s2all) (by omega) ⟨a11, a12⟩ (room := 50) (by omega) (by omega) fun H4 x4 mm pg Γq l4 lm lq hc hpg hms => ?_
 rw [qc]
 refine ⟨_, _, rfl, y4 rfl ⟨false, rfl, ?_⟩⟩
 rw [zk]
 have hs := Inputs.all (num := Lib.itoa) (N := jr []) (words := [0]) (room := 50) (lits := []) (n := n) (inputs := m) (by omega) hin2 n (Nat.le_refl _)
 have hr : Runs Lib.itoa (orG (gup (x + 1) (some [iv 0, iv 0]) (gup x (some [p0, .slice fb off len e full, iv 0, .nilSlice, p4]) Γ3)) Γq) pg 9999 ⟨[], ⟨0, 0, List.replicate 0 0, []⟩, ⟨[0], 50, [], m, 0, []⟩, 0, 0⟩
   (.over ⟨[0], 50, [], m, min n m.length, (List.range n).map fun i => Lib.itoa (Inputs.told m i)⟩) :=
  Steps.over (S := ⟨[], ⟨0, 0, List.replicate 0 0, []⟩, ⟨[0], 50, [], m, 0, []⟩, 0, 0⟩) hc hs (qi7 (by omega) (by omega) (by omega) (by omega)) (by omega) rfl Inputs.over
 refine qfz (qex T.pow) (fuel := 9999) (by omega) hpg hr hms fun rv H5 x5 l5 hov => ?_
 rw [qc]
 obtain ⟨tr, _, hend⟩ := hov.end (OutIs.over _)
 refine ⟨_, rfl, ?_⟩
 refine K9 hend ?_
 rw [qc]
 refine YK hend (by simp; omega) fun b bfull H6 x6 l6 lb h6 => ?_
 rw [qc]
 have htl : ((List.range n).map fun i => Lib.itoa (Inputs.told m i)) = told m n := rfl
 obtain ⟨Γ7, own7, hp7, tv, wv, litv, lv, inb, inf, c0, c1, c2, c3, c4, c6, c9, k7, ro7, em7, wd7⟩ := h6
 have hb7 : Γ7 b = some ((told m n).map AVal.str) := (ro7 b _ (qd _ _ _)).1
 have hw7 : SrcV Γ7 w 1 (told m n).length ((told m n).map AVal.str) := hw.srcV.mono fun c ds ec => by
  have h8 := s2all _ _ ec
  have := k2.lt ec
  refine (ro7 c ds ?_).1
  rw [qf (by omega)]
  exact qgt h8
 have hlt : (told m n).length = n := by simp [told]
 refine qci (l := told m n) k7 (.inr ⟨b, 0, bfull, _, rfl, hb7, by simp [told], by rw [List.drop_zero, List.take_of_length_le (by simp [told])]⟩) hw7 (by omega) fun x8 l8 => ?_
 rw [qc]
 refine ⟨_, rfl, ?_⟩
 rw [qX]
 have hend8 : EndV (gup b (some ((told m n).map AVal.str)) (orG (gup (x + 1) (some [iv 0, iv 0]) (gup x (some [p0, .slice fb off len e full, iv 0, .nilSlice, p4]) Γ3)) Γq)) pg mm 1 tr ⟨[0], 50, [], m, min n m.length, (List.range n).map fun i => Lib.itoa (Inputs.told m i)⟩ H6 x8 :=
  ⟨Γ7, own7, hp7, tv, wv, litv, lv, inb, inf, c0, c1, c2, c3, c4, c6, c9, k7.more l8, ro7, em7, wd7⟩
 refine K9 hend8 ?_
 rw [qc]
 refine XL hend8 ?_
 rw [qc]
 refine ⟨_, rfl, _, hv.len, _, rfl, ?_⟩
 have e1 : (Bool.rec (Bool.rec (n : Int) (Int.ofNat m.length) (ilt (Int.ofNat m.length) n)) (Bool.rec (n : Int) (Int.ofNat m.length) (ilt n (Int.ofNat m.length))) false : Int) = ((min n m.length : Nat) : Int) := by
  show (Bool.rec (n : Int) (Int.ofNat m.length) (ilt (Int.ofNat m.length) n) : Int) = _
  rw [zz]
  by_cases hx : (m.length : Int) < n
  ·simp only [Int.ofNat_eq_natCast, decide_eq_true hx]
   omega
  ·simp only [Int.ofNat_eq_natCast, decide_eq_false hx]
   omega
 rw [e1]
 simp
end
end Go.Vs
end
