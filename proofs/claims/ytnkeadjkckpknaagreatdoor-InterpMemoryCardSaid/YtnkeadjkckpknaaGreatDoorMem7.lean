/-
  Own work. Texts of a proof, laid together; no condition.
-/
import Derived.MakeChecks
import Derived.RowKit
import Derived.Test.YtnkeadjkckpknaaGreatDoorMem6
import Derived.Test.YtnkeadjkckpknaaGreatDoorMem4
import Derived.Test.YtnkeadjkckpknaaGreatDoorMemKn
import Derived.Test.YtnkeadjkckpknaaGreatDoorMemSrcMemory
set_option linter.unusedSectionVars false
set_option linter.unusedVariables false
set_option linter.unusedSimpArgs false
set_option maxRecDepth 1000000
section
namespace Go.Vs
open Go Go.Proofs Go.Bridge Go.Proofs.YtnkeadjkckpknaaGreatDoor
def noSyms : Ev.Syms := { vals := [] }
theorem noSyms_ok : noSyms.OK := by constructor <;> (intro t ht; cases ht)
noncomputable abbrev evTab (o : Obj) : Ev.GTab := noSyms.tab noSyms_ok 0 o
theorem symC {t : TypeId} {fz : Nat × Nat} : @Ev.SymC (evTab (.cells powCells t fz)) Tryz.prog 202 25 :=
 @Ev.SymC.mk (evTab (.cells powCells t fz)) _ _ _ (@Ev.SymOK.mk (evTab (.cells powCells t fz)) _ _ _
  (fun n w h0 h1 hg => @fmt_ok (evTab (.cells powCells t fz)) t fz Ev.Syms.blk n w h0 h1 hg) dig_ok (fun _ => rfl))
noncomputable abbrev gtab (tb : Nat → Option (List AVal)) (o : Obj) : GTab := { tab := tb, blk := fun b => Bool.rec none (some o) (Nat.beq b 0) }
theorem glob_blk {w : World} {o : Obj} {tb : Nat → Option (List AVal)} (hw : w.heap[0]? = some o)
  (ht : ∀ g l, tb g = some l → g < w.heap.size ∧ ∀ (i : Nat) (v : AVal), l[i]? = some v → ∃ v', w.cell? (at' g i) = some v' ∧ ∀ τ : Sg, Den τ v v') : @Glob (gtab tb o) (fun _ => none) w := by
 refine @Glob.mk (gtab tb o) _ _ (fun g l hg => ?_) fun b o' hb => ?_
 ·obtain ⟨h1, h2⟩ := ht g l hg
  exact ⟨h1, (fun _ _ e => by cases e), h2⟩
 ·have hb' : (Bool.rec none (some o) (Nat.beq b 0) : Option Obj) = some o' := hb
  cases he : Nat.beq b 0 with
  | false => rw [he] at hb'; cases hb'
  | true =>
   rw [he] at hb'
   cases hb'
   have := Nat.eq_of_beq_eq_true he
   subst this
   refine ⟨?_, (fun _ _ e => by cases e), hw⟩
   rcases Nat.lt_or_ge 0 w.heap.size with hlt | hge
   ·exact hlt
   ·rw [Array.getElem?_eq_none hge] at hw; cases hw
class Tabs [Ev.GTab] [GTab] (t : TypeId) (fz : Nat × Nat) : Prop where
 ev : ∀ q, Ev.GTab.tab q = none
 same : ∀ q o', Ev.GTab.blk q = some o' → GTab.blk q = some o'
 pow : GTab.blk 0 = some (.cells powCells t fz)
theorem tabs {t : TypeId} {fz : Nat × Nat} {tb : Nat → Option (List AVal)} : @Tabs (evTab (.cells powCells t fz)) (gtab tb (.cells powCells t fz)) t fz :=
 @Tabs.mk (evTab (.cells powCells t fz)) (gtab tb (.cells powCells t fz)) t fz (fun _ => rfl) (fun _ _ e => e) rfl
section
variable [Ev.GTab] [GTab] {t : TypeId} {fz : Nat × Nat}
theorem Tabs.none (T : Tabs t fz) (w : World) (h : Glob (fun _ => none) w) : Ev.Glob (fun _ => none) w := by
 refine ⟨fun q l e => (by rw [T.ev q] at e; cases e), fun q o' e => ?_⟩
 obtain ⟨a1, a2, a3⟩ := h.blk q o' (T.same q o' e)
 exact ⟨a1, (fun b sz e2 => by cases e2), a3⟩
theorem kn_ok [Ev.SymC Tryz.prog 202 25] (T : Tabs t fz) {H : Heap} {nx : Nat} {K : EndP} (hK : K (.ret (.bool true)) H nx) : TriP Tryz.prog 10 [] H nx K :=
 trueTW_ok mixed tk2_ok knRan (fun w h => T.none w h) hK
end
theorem hok_none {H : Heap} {nx : Nat} : HOK (fun _ => none) H nx := fun b cs e => by cases e
theorem fine0 [GTab] {main : Int} {nl fuel : Nat} {room : Int} {inputs : List Int} (hf : fuel < 1000000) (h1 : 1 ≤ room) (h2 : room < 900000) (hi : inputs.length < 1000000) :
  Mst.FineN fuel ⟨[], ⟨main, 0, List.replicate nl 0, []⟩, ⟨[0], room, [], inputs, 0, []⟩, 0, 0⟩ := by
 refine ⟨⟨?_, ?_, ?_⟩, ?_, ?_, ⟨?_, ?_, ?_, ?_, ?_, ?_, ?_, ?_⟩⟩
 ·show 0 + fuel < 1000000; omega
 ·intro x hx; cases hx
 ·intro x hx; rw [List.mem_replicate] at hx; omega
 ·show 0 < 1000; omega
 ·intro f hf; cases hf
 ·show ((1 : Nat) : Int) ≤ room + 1; omega
 ·intro x hx; simp at hx; omega
 ·show 0 + fuel < 1000000; omega
 ·exact hi
 ·exact Nat.zero_le _
 ·show 0 ≤ room; omega
 ·exact h2
 ·intro x hx; cases hx
end Go.Vs
end
section
namespace Go.Vs.Memory
open Go.Proofs Go.Vs
variable [GTab]
def code : List Ins := [(40, 0, 0), (6, 0, 0), (1, 0, 0), (6, 1, 0), (5, 0, 0), (35, 5, 0), (6, 2, 0), (5, 1, 0), (1, 1, 0), (8, 0, 0), (5, 2, 0), (33, 0, 0), (8, 0, 0), (5, 0, 0), (9, 0, 0), (6, 1, 0), (5, 1, 0), (39, 1, 0), (26, 4, 0), (41, 0, 0)]
def nums : List Int := [0, 1]
abbrev C : CodeF := codeL [code]
abbrev N : Int → Option Int := numsL nums
abbrev u (n : Int) : Int := IntKind.u64.wrap n
abbrev s (n : Int) : Int := IntKind.i64.wrap n
def hdr (n : Nat) : Int := u ((BitVec.ofInt 64 (u (u 5 * 4294967296)) ||| BitVec.ofInt 64 (u (n : Int))).toNat : Int)
section
variable (num : Int → List UInt8) (n i r : Int) (W : Wd)
theorem b0 (words : List Int) (room : Int) (lits : List Int) : runS num C N 4 (mk 0 [0, 0, 0] [] ⟨words, room, lits, [n], 0, []⟩) = some (mk 4 [u n, u 0, 0] [] ⟨words, room, lits, [n], 1, []⟩) := by kernel_rfl
theorem b4 : runS num C N 1 (mk 4 [n, i, r] [] W) = some (mk 5 [n, i, r] [n] W) := by kernel_rfl
theorem b6 (w : Int) : runS num C N 13 (mk 6 [n, i, r] [w] W) = some (mk 4 [n, u (u (u (i + u 1) + u (W.len w)) - n), w] [] (W.line (num (s (u (u (u (i + u 1) + u (W.len w)) - n)))))) := by kernel_rfl
end
theorem make_some {n : Nat} {room : Int} {words lits inputs : List Int} {taken : Nat} {lines : List (List UInt8)} {f : Fm} (hn : n < 9) (hs : f.st = [(n : Int)]) (hr : (n : Int) < room - words.length) :
  (⟨[], f, ⟨words, room, lits, inputs, taken, lines⟩, 0, 0⟩ : Mst).make 5 = (⟨[], { f with st := [(words.length : Int)] }, ⟨words ++ [hdr n] ++ List.replicate n 0, room, lits, inputs, taken, lines⟩, 0, 0⟩, 0) := by
 unfold Mst.make
 have hp : pk f.st 0 = n := by rw [hs]; rfl
 rw [if_neg (by show ¬ 2000 < pk f.st 0; rw [hp]; omega)]
 show (match Wd.slice _ 5 (IntKind.i64.wrap (pk f.st 0)) with | none => _ | some (W, r) => _) = _
 rw [hp, s_id (by omega) (by omega)]
 unfold Wd.slice Wd.alloc
 rw [if_neg (by omega), if_neg (by omega), if_neg (by dsimp only; omega)]
 show (_, _) = (_, _)
 simp only [Mst.put, Mst.st, dropL, hs, hdr, Int.toNat_natCast]
 rfl
theorem make_none {n : Nat} {room : Int} {words lits inputs : List Int} {taken : Nat} {lines : List (List UInt8)} {f : Fm} (hn : n < 9) (hs : f.st = [(n : Int)]) (hr : ¬ (n : Int) < room - words.length) :
  (⟨[], f, ⟨words, room, lits, inputs, taken, lines⟩, 0, 0⟩ : Mst).make 5 = (⟨[], f, ⟨words, room, lits, inputs, taken, lines⟩, 0, 0⟩, 7) := by
 unfold Mst.make
 have hp : pk f.st 0 = n := by rw [hs]; rfl
 rw [if_neg (by show ¬ 2000 < pk f.st 0; rw [hp]; omega)]
 show (match Wd.slice _ 5 (IntKind.i64.wrap (pk f.st 0)) with | none => _ | some (W, r) => _) = _
 rw [hp, s_id (by omega) (by omega)]
 unfold Wd.slice Wd.alloc
 rw [if_neg (by omega), if_neg (by omega), if_pos (by dsimp only; omega)]
theorem hdr_len (n : Nat) (hn : n < 9) : IntKind.i64.wrap (IntKind.u64.wrap ((BitVec.ofInt 64 (hdr n) &&& BitVec.ofInt 64 4294967295).toNat : Int)) = n := by
 match n, hn with
 | 0, _ => decide
 | 1, _ => decide
 | 2, _ => decide
 | 3, _ => decide
 | 4, _ => decide
 | 5, _ => decide
 | 6, _ => decide
 | 7, _ => decide
 | 8, _ => decide
 | k + 9, h => exact absurd h (by omega)
section
variable {num : Int → List UInt8} {room : Int} {lits inputs : List Int} {taken : Nat}
theorem b5 {n : Nat} {words : List Int} {lines : List (List UInt8)} {i r : Int} (hn : n < 9) (hr : (n : Int) < room - words.length) :
  runS num C N 1 (mk 5 [n, i, r] [(n : Int)] ⟨words, room, lits, inputs, taken, lines⟩) = some (mk 6 [n, i, r] [(words.length : Int)] ⟨words ++ [hdr n] ++ List.replicate n 0, room, lits, inputs, taken, lines⟩) := by
 have c1 : C 0 5 = some (35, 5, 0) := by kernel_rfl
 have hj : (mk 5 [n, i, r] [(n : Int)] ⟨words, room, lits, inputs, taken, lines⟩).jump 35 5 = none := rfl
 have hd : (mk 5 [n, i, r] [(n : Int)] ⟨words, room, lits, inputs, taken, lines⟩).does num N 35 5 = some ((mk 5 [n, i, r] [(n : Int)] ⟨words, room, lits, inputs, taken, lines⟩).make 5) := by kernel_rfl
 unfold runS Mst.stepG Mst.stepC
 rw [c1]
 dsimp only
 rw [if_pos rfl, if_neg (by omega), if_neg (by omega), if_neg (by omega), hj]
 dsimp only
 rw [hd, make_some hn rfl hr]
 rfl
theorem b5t {n : Nat} {words : List Int} {lines : List (List UInt8)} {i r : Int} (hn : n < 9) (hr : ¬ (n : Int) < room - words.length) :
  runS num C N 1 (mk 5 [n, i, r] [(n : Int)] ⟨words, room, lits, inputs, taken, lines⟩) = some ⟨[], ⟨0, 5, [n, i, r], [(n : Int)]⟩, ⟨words, room, lits, inputs, taken, lines⟩, 2, 7⟩ := by
 have c1 : C 0 5 = some (35, 5, 0) := by kernel_rfl
 have hj : (mk 5 [n, i, r] [(n : Int)] ⟨words, room, lits, inputs, taken, lines⟩).jump 35 5 = none := rfl
 have hd : (mk 5 [n, i, r] [(n : Int)] ⟨words, room, lits, inputs, taken, lines⟩).does num N 35 5 = some ((mk 5 [n, i, r] [(n : Int)] ⟨words, room, lits, inputs, taken, lines⟩).make 5) := by kernel_rfl
 unfold runS Mst.stepG Mst.stepC
 rw [c1]
 dsimp only
 rw [if_pos rfl, if_neg (by omega), if_neg (by omega), if_neg (by omega), hj]
 dsimp only
 rw [hd, make_none hn rfl hr]
 rfl
theorem more {n : Nat} (hn : n < 9) {R : Nat} (hroom : room = R) (hR : R < 300) : ∀ (q : Nat) (words : List Int) (k : Nat) (r : Int) (lines : List (List UInt8)), words.length + q * (n + 1) ≤ R → R < words.length + (q + 1) * (n + 1) → lines.length = k → k + q ≤ 300 →
  ∃ st, st ≤ 20 * (q + 1) ∧ ∃ W : Wd, W.lines.length = k + q ∧ ∃ f, Steps num C N st (mk 4 [n, k, r] [] ⟨words, room, lits, inputs, taken, lines⟩) ⟨[], f, W, 2, 7⟩
 | 0, words, k, r, lines, h1, h2, h3, h4 => by
  have s1 := runS_steps (b4 num n k r ⟨words, room, lits, inputs, taken, lines⟩)
  have s2 := runS_steps (b5t (num := num) (room := room) (lits := lits) (inputs := inputs) (taken := taken) (lines := lines) (i := k) (r := r) hn (words := words) (by subst hroom; omega))
  exact ⟨_, by omega, _, by simpa using h3, _, s1.trans s2⟩
 | q + 1, words, k, r, lines, h1, h2, h3, h4 => by
  have q1 : (q + 1) * (n + 1) = q * (n + 1) + (n + 1) := by rw [Nat.add_mul]; omega
  have q2 : (q + 1 + 1) * (n + 1) = q * (n + 1) + (n + 1) + (n + 1) := by rw [Nat.add_mul, Nat.add_mul]; omega
  have s1 := runS_steps (b4 num n k r ⟨words, room, lits, inputs, taken, lines⟩)
  have s2 := runS_steps (b5 (num := num) (room := room) (lits := lits) (inputs := inputs) (taken := taken) (lines := lines) (i := k) (r := r) hn (words := words) (by subst hroom; omega))
  have s3 := runS_steps (b6 num n k r ⟨words ++ [hdr n] ++ List.replicate n 0, room, lits, inputs, taken, lines⟩ (words.length : Int))
  have hlen : Wd.len ⟨words ++ [hdr n] ++ List.replicate n 0, room, lits, inputs, taken, lines⟩ (words.length : Int) = n := by
   unfold Wd.len Wd.word
   dsimp only
   rw [if_pos (by simp; omega), Int.toNat_natCast]
   have : (words ++ [hdr n] ++ List.replicate n 0).getD words.length 0 = hdr n := by simp [List.getD]
   rw [this]
   exact hdr_len n hn
  have hi : u (u (u ((k : Int) + u 1) + u (n : Int)) - (n : Int)) = ((k + 1 : Nat) : Int) := by
   have w1 : u 1 = 1 := by decide
   have w2 : u ((k : Int) + 1) = k + 1 := u_id (by omega) (by omega)
   have w3 : u (n : Int) = n := u_id (by omega) (by omega)
   have w4 : u ((k : Int) + 1 + n) = k + 1 + n := u_id (by omega) (by omega)
   have w5 : u ((k : Int) + 1 + n - n) = k + 1 + n - n := u_id (by omega) (by omega)
   rw [w1, w2, w3, w4, w5]; omega
  rw [hlen, hi] at s3
  have hl : Wd.line ⟨words ++ [hdr n] ++ List.replicate n 0, room, lits, inputs, taken, lines⟩ (num (s ((k + 1 : Nat) : Int))) = ⟨words ++ [hdr n] ++ List.replicate n 0, room, lits, inputs, taken, lines ++ [num (s ((k + 1 : Nat) : Int))]⟩ := by
   unfold Wd.line
   rw [if_neg (by show ¬ 4096 ≤ lines.length; omega)]
  rw [hl] at s3
  obtain ⟨st, hst, W, hW, f, h5⟩ := more hn hroom hR q (words ++ [hdr n] ++ List.replicate n 0) (k + 1) (words.length : Int) (lines ++ [num (s ((k + 1 : Nat) : Int))]) (by simp; omega) (by simp; omega) (by simp [h3]) (by omega)
  exact ⟨_, by omega, W, by omega, f, (((s1.trans s2).trans s3).trans h5)⟩
theorem main {n R : Nat} (hn : n < 9) (hR : 10 ≤ R) (hR2 : R < 210) : ∃ k, k ≤ 7000 ∧ ∃ W : Wd, W.lines.length = (R - 1) / (n + 1) ∧ ∃ f, Steps num C N k (mk 0 [0, 0, 0] [] ⟨[0], R, lits, [(n : Int)], 0, []⟩) ⟨[], f, W, 2, 7⟩ := by
 have s0 := runS_steps (b0 num n [0] R lits)
 have w1 : u (n : Int) = n := u_id (by omega) (by omega)
 have w2 : u 0 = ((0 : Nat) : Int) := by decide
 rw [w1, w2] at s0
 have hd := Nat.div_add_mod (R - 1) (n + 1)
 have hm := Nat.mod_lt (R - 1) (show 0 < n + 1 by omega)
 have hle : (R - 1) / (n + 1) ≤ R - 1 := Nat.div_le_self _ _
 have hc : (n + 1) * ((R - 1) / (n + 1)) = ((R - 1) / (n + 1)) * (n + 1) := Nat.mul_comm _ _
 have hx : ((R - 1) / (n + 1) + 1) * (n + 1) = ((R - 1) / (n + 1)) * (n + 1) + (n + 1) := by rw [Nat.add_mul]; omega
 obtain ⟨st, hst, W, hW, f, h5⟩ := more (num := num) (room := (R : Int)) (lits := lits) (inputs := [(n : Int)]) (taken := 1) hn rfl (by omega) ((R - 1) / (n + 1)) [0] 0 0 [] (by simp; omega) (by simp; omega) rfl (by omega)
 refine ⟨_, ?_, W, by omega, f, s0.trans h5⟩
 omega
end
end Go.Vs.Memory
end
section
namespace Go.Vs
open Go Go.Proofs Go.Bridge Go.Proofs.YtnkeadjkckpknaaGreatDoor
section
variable [Ev.GTab] [GTab] [Ev.SymC Tryz.prog 202 25] {t : TypeId} {fz : Nat × Nat}
theorem memory_true (T : Tabs t fz) (a b : Int) {H : Heap} {nx : Nat} : TriP Tryz.prog 4 [iv a, iv b] H nx (fun e _ _ => e = .ret (.bool true)) := by
 refine TriP.of_body mixed ?_
 rw [FLMemory_eq]
 unfold FLMemory
 refine pick_ok (m := 200) (by omega) (by omega) fun r hr => ?_
 rw [onEnd_ret]
 refine ⟨_, rfl, ?_⟩
 refine pick_ok (m := 9) (by omega) (by omega) fun n hn => ?_
 rw [onEnd_ret]
 refine ⟨_, rfl, rfl, _, rfl, ?_⟩
 have er : IntKind.i64.wrap (10 + (r : Int)) = ((10 + r : Nat) : Int) := by rw [wrap64_id (by omega) (by omega)]; omega
 rw [er]
 obtain ⟨k, hk, W, hW, f, hs⟩ := Memory.main (num := Lib.itoa) (lits := []) (n := n) (R := 10 + r) hn (by omega) (by omega)
 have k0 := (hok_none (H := H) (nx := nx)).new (b := nx) (nx' := nx + 1) (by omega) (by omega) [iv n]
 have hl : W.lines.length ≤ 300 := by
  rw [hW]
  exact Nat.le_trans (Nat.div_le_self _ _) (by omega)
 refine lrun_ok (num_ok T.pow) (srcMemory T.ev T.same) (room := ((10 + r : Nat) : Int)) (fuel := 99999) (inputs := [(n : Int)]) (W := W) (st := 2) (P := fun t => t = 7) (by omega) (by omega) (by omega) (by simp) (by omega) ?_ k0
  (.inr ⟨nx, 0, true, [iv n], rfl, gup_same _ _ _, by simp, rfl⟩) fun H1 Γ1 x bl full tr lx lbl k1 s1 hb htr => ?_
 ·intro Γ0 pg hc
  exact ⟨.go ⟨[], f, W, 2, 7⟩, Steps.trap (S := ⟨[], ⟨0, 0, List.replicate 3 0, []⟩, ⟨[0], ((10 + r : Nat) : Int), [], [(n : Int)], 0, []⟩, 0, 0⟩) hc hs (fine0 (by omega) (by omega) (by omega) (by simp)) (by omega) (by show (2 : Int) ≠ 0; omega), OutIs.go _⟩
 rw [onEnd_ret]
 refine ⟨_, _, _, rfl, ?_⟩
 refine kn_ok T ?_
 rw [onEnd_ret]
 have e1 : IntKind.i64.wrap ((n : Int) + 1) = ((n + 1 : Nat) : Int) := by rw [wrap64_id (by omega) (by omega)]; omega
 have e2 : IntKind.i64.wrap (((10 + r : Nat) : Int) - 1) = ((10 + r - 1 : Nat) : Int) := by rw [wrap64_id (by omega) (by omega)]; omega
 have e3 : IntKind.i64.wrap ((((10 + r - 1 : Nat) : Int)).tdiv ((n + 1 : Nat) : Int)) = (((10 + r - 1) / (n + 1) : Nat) : Int) := by
  have hle : (10 + r - 1) / (n + 1) ≤ 10 + r - 1 := Nat.div_le_self _ _
  rw [show (((10 + r - 1 : Nat) : Int)).tdiv ((n + 1 : Nat) : Int) = (((10 + r - 1) / (n + 1) : Nat) : Int) from rfl, wrap64_id (by omega) (by omega)]
 refine ⟨_, rfl, ?_⟩
 rw [ifB_true]
 refine ⟨_, rfl, by rw [e1]; omega, ?_⟩
 rw [e1, e2, e3, hW]
 refine ifB_p rfl ?_
 refine ifB_p rfl ?_
 rw [htr]
 rfl
end
end Go.Vs
end
