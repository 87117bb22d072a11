/-
  Own work. Texts of a proof, laid together; no condition.
-/
import Derived.MakeChecks
import Derived.RowKit
import Derived.OpenShut
import Derived.ChangeReads
import Derived.Test.YtnkeadjkckpknaaGreatDoorChecked
import Derived.Test.YtnkeadjkckpknaaGreatDoorIns6
import Derived.Test.YtnkeadjkckpknaaGreatDoorIns4
import Derived.Test.YtnkeadjkckpknaaGreatDoorInsKn
import Derived.Test.YtnkeadjkckpknaaGreatDoorIns5
set_option linter.unusedSectionVars false
set_option linter.unusedVariables false
set_option linter.unusedSimpArgs false
set_option maxRecDepth 1000000
section
namespace Go.Vs
open Go.Ev (at')
open Go Go.Proofs Go.Bridge Go.Proofs.YtnkeadjkckpknaaGreatDoor
def YH : Ev.Syms := { vals := [] }
theorem Xm : YH.OK := by constructor <;> (intro t ht; cases ht)
noncomputable abbrev Jb (o : Obj) : Ev.GTab := YH.tab Xm 0 o
theorem symC {t : TypeId} {fz : Nat × Nat} : @Ev.SymC (Jb (.cells zR t fz)) Tryz.prog 202 25 :=
 @Ev.SymC.mk (Jb (.cells zR t fz)) _ _ _ (@Ev.SymOK.mk (Jb (.cells zR t fz)) _ _ _
  (fun n w h0 h1 hg => @qgb (Jb (.cells zR t fz)) t fz Ev.Syms.blk n w h0 h1 hg) XM (fun _ => rfl))
noncomputable abbrev gtab (tb : Nat → Option (List AVal)) (o : Obj) : GTab := { tab := tb, blk := fun b => Bool.rec none (some o) (Nat.beq b 0) }
theorem Ym {w : World} {o : Obj} {tb : Nat → Option (List AVal)} (hw : w.heap[0]? = some o)
  (ht : ∀ g l, tb g = some l → g < w.heap.size ∧ ∀ (i : Nat) (v : AVal), l[i]? = some v → ∃ v', w.cell? (at' g i) = some v' ∧ ∀ τ : Sg, Den τ v v') : @Glob (gtab tb o) (fun _ => none) w := by
 refine @Glob.mk (gtab tb o) _ _ (fun g l hg => ?_) fun b o' hb => ?_
 ·obtain ⟨h1, h2⟩ := ht g l hg
  exact ⟨h1, (fun _ _ e => by cases e), h2⟩
 ·have hb' : (Bool.rec none (some o) (Nat.beq b 0) : Option Obj) = some o' := hb
  cases he : Nat.beq b 0 with
  | false => rw [he] at hb'; cases hb'
  | true =>
   rw [he] at hb'
   cases hb'
   have := Nat.eq_of_beq_eq_true he
   subst this
   refine ⟨?_, (fun _ _ e => by cases e), hw⟩
   rcases Nat.lt_or_ge 0 w.heap.size with hlt | hge
   ·exact hlt
   ·rw [Array.getElem?_eq_none hge] at hw; cases hw
class Tabs [Ev.GTab] [GTab] (t : TypeId) (fz : Nat × Nat) : Prop where
 ev : ∀ q, Ev.GTab.tab q = none
 same : ∀ q o', Ev.GTab.blk q = some o' → GTab.blk q = some o'
 pow : GTab.blk 0 = some (.cells zR t fz)
theorem tabs {t : TypeId} {fz : Nat × Nat} {tb : Nat → Option (List AVal)} : @Tabs (Jb (.cells zR t fz)) (gtab tb (.cells zR t fz)) t fz :=
 @Tabs.mk (Jb (.cells zR t fz)) (gtab tb (.cells zR t fz)) t fz (fun _ => rfl) (fun _ _ e => e) rfl
section
variable [Ev.GTab] [GTab] {t : TypeId} {fz : Nat × Nat}
theorem Tabs.none (T : Tabs t fz) (w : World) (h : Glob (fun _ => none) w) : Ev.Glob (fun _ => none) w := by
 refine ⟨fun q l e => (by rw [T.ev q] at e; cases e), fun q o' e => ?_⟩
 obtain ⟨a1, a2, a3⟩ := h.blk q o' (T.same q o' e)
 exact ⟨a1, (fun b sz e2 => by cases e2), a3⟩
theorem qgo [Ev.SymC Tryz.prog 202 25] (T : Tabs t fz) {H : Heap} {nx : Nat} {K : EndP} (hK : K (.ret (.bool true)) H nx) : TriP Tryz.prog 10 [] H nx K :=
 WU qy tk2_ok knRan (fun w h => T.none w h) hK
end
theorem XU {H : Heap} {nx : Nat} : HOK (fun _ => none) H nx := fun b cs e => by cases e
theorem qi7 [GTab] {main : Int} {nl fuel : Nat} {room : Int} {inputs : List Int} (hf : fuel < 1000000) (h1 : 1 ≤ room) (h2 : room < 900000) (hi : inputs.length < 1000000) :
  Mst.FineN fuel ⟨[], ⟨main, 0, List.replicate nl 0, []⟩, ⟨[0], room, [], inputs, 0, []⟩, 0, 0⟩ := by
 refine ⟨⟨?_, ?_, ?_⟩, ?_, ?_, ⟨?_, ?_, ?_, ?_, ?_, ?_, ?_, ?_⟩⟩
 ·show 0 + fuel < 1000000; omega
 ·intro x hx; cases hx
 ·intro x hx; rw [List.mem_replicate] at hx; omega
 ·show 0 < 1000; omega
 ·intro f hf; cases hf
 ·show ((1 : Nat) : Int) ≤ room + 1; omega
 ·intro x hx; simp at hx; omega
 ·show 0 + fuel < 1000000; omega
 ·exact hi
 ·exact Nat.zero_le _
 ·show 0 ≤ room; omega
 ·exact h2
 ·intro x hx; cases hx
end Go.Vs
end
section
namespace Go.Vs
open Go Go.Proofs Go.Bridge Go.Proofs.YtnkeadjkckpknaaGreatDoor
def ArgI [GTab] (a : AVal) (l : List Int) : Prop := lenS a = some l.length ∧ ∀ i, i < l.length → ∃ p, idxS a i 1 = some p ∧ ∀ H, ld1 H p = some (iv (l.getD i 0))
theorem Yv [GTab] : ArgI .nilSlice [] := ⟨rfl, fun i h => by simp at h⟩
theorem qf9 {tb : Nat → Option (List AVal)} {o : Obj} {g off : Nat} {l : List Int} (h : tb g = some (List.replicate off AVal.und ++ l.map iv)) : @ArgI (gtab tb o) (.gslice g off l.length 1) l := by
 letI : GTab := gtab tb o
 refine ⟨rfl, fun i hi => ⟨.gptr g (off + i * 1), ?_, fun H => ?_⟩⟩
 ·have : Nat.ble (Nat.succ i) l.length = true := zc hi
  simp only [idxS, this]; rfl
 ·unfold ld1
  show (match tb g with | some l => l[off + i * 1]? | none => none) = _
  rw [h]
  show (List.replicate off AVal.und ++ l.map iv)[off + i * 1]? = _
  rw [List.getElem?_append_right (by simp)]
  simp [List.getD, hi]
section
variable [GTab] {Γ : GH} {own : Nat → Nat} {H : Heap} {nx : Nat}
theorem RowV.get {α : Type} [Inhabited α] {role : Nat} {f : α → AVal} {v : AVal} {l : List α} (hk : HOK Γ H nx) (h : RowV Γ own role f v l) {i : Nat} (hi : i < l.length) (d : α) : ∃ p, idxS v i 1 = some p ∧ ld1 H p = some (f (l.getD i d)) := by
 obtain ⟨b, h1, h2⟩ := h.at hk hi
 exact ⟨_, h1, by rw [h2]; simp [List.getD, hi]⟩
theorem RowV.srcV {α : Type} {role : Nat} {f : α → AVal} {v : AVal} {l : List α} (h : RowV Γ own role f v l) : SrcV Γ v 1 l.length (l.map f) := by
 rcases h with ⟨rfl, rfl⟩ | ⟨b, cs, ⟨full, rfl⟩, h1, h2, h3⟩
 ·exact .inl ⟨rfl, rfl, rfl⟩
 ·have := jP h3 (by simp)
  exact .inr ⟨b, 0, full, cs, rfl, h2, by omega, by rw [List.drop_zero, Nat.mul_one, h3]⟩
end
end Go.Vs
end
section
namespace Go.Vs
open Go.Ev (at')
open Go Go.Proofs Go.ChangeShapes Go.WideShapes Go.RowKit
def VS (W : World) (v : Value) (l : List Int) : Prop :=
 (v = .slice none 0 0 ∧ l = []) ∨ ∃ (a : Addr) (len cap : Nat) (zs : List Int), v = .slice (some a) len cap ∧ len ≤ zs.length ∧ len ≤ cap ∧ l = zs.take len ∧ ∀ i, i < zs.length → W.cell? (a.add i) = some (.int .i64 (zs.getD i 0))
theorem JS {H : Type} {enc : TypeId × Value → H} {P : Program} {W : World} {r : Reach} {b0 : Nat} {t e : TypeId} {v : Value} {d : DataW H} {ps : List MemPlace} (ht : P.underlying t = some (.slice e)) (he : P.underlying e = some (.int .i64)) (hc : P.cellsOf e = 1)
  (hval : Value.okWide P W r b0 t v) (h : DataW.Trod enc P W 0 (fun _ => true) true t v d ps) :
  ∃ l, VS W v l ∧ (∀ n, n ∈ l → (Lit.int .i64 n).wf = true) ∧ ∀ W', Ev.Kept W W' → ∀ sp : Nat → Bool, (∀ p, p ∈ ps → sp p.block = true) → DataW.Trod enc P W' 0 sp true t v d ps := by
 obtain ⟨a0, len, cap, rfl⟩ := okWide_slice ht hval
 obtain ⟨fuel, hf⟩ := h
 rcases open_ints ht he hc hf with ⟨hcs, hx⟩ | ⟨a, len', cap', zs, hcs, _, hle, hmax, hall, hx, hcell, hwf⟩
 ·simp [Value.cells] at hcs
  obtain ⟨rfl, rfl, rfl⟩ := hcs
  simp only [Prod.mk.injEq] at hx
  obtain ⟨rfl, rfl⟩ := hx
  exact ⟨[], .inl ⟨rfl, rfl⟩, fun n hn => (by cases hn), fun W' _ sp _ => shut_slice_nil ht⟩
 ·simp [Value.cells] at hcs
  obtain ⟨rfl, rfl, rfl⟩ := hcs
  simp only [Prod.mk.injEq] at hx
  obtain ⟨rfl, rfl⟩ := hx
  simp only [if_true] at hall
  refine ⟨zs.take len, .inr ⟨a, len, cap, zs, rfl, by omega, hle, rfl, hcell⟩, fun n hn => hwf n (List.mem_of_mem_take hn), fun W' hk sp hsp => ?_⟩
  refine ⟨0 + 2, shut_ints 0 ht he hc (Nat.zero_le _) hle hmax ?_ (fun i hi => ?_) hwf⟩
  ·rw [hall]
   by_cases hz : cap = 0
   ·have : len = 0 := by omega
    rw [hz, this]; simp
   ·have : sp a.block = true := hsp (.cell a.block (a.off + 0)) (MemPlace.mem_row.2 ⟨0, by omega, rfl⟩)
    rw [this]; simp
  ·have hci := hcell i hi
   have hlt := World.block_lt_of_cell? W _ hci
   rw [← hci]
   simp only [World.cell?, hk.2.2.2 _ hlt]
theorem qfr {W : World} {v : Value} {l : List Int} (h : VS W v l) : ∃ (tb : Nat → Option (List AVal)) (a : AVal), (∀ o, @ArgI (gtab tb o) a l) ∧ (∀ σ : Sg, Den σ a v) ∧
  ∀ g m, tb g = some m → g < W.heap.size ∧ ∀ (i : Nat) (u : AVal), m[i]? = some u → ∃ v', W.cell? (at' g i) = some v' ∧ ∀ τ : Sg, Den τ u v' := by
 rcases h with ⟨rfl, rfl⟩ | ⟨a, len, cap, zs, rfl, hlz, hle, rfl, hcell⟩
 ·exact ⟨fun _ => none, .nilSlice, fun o => @Yv (gtab _ o), fun σ => .nilSlice, fun g m e => by cases e⟩
 ·by_cases hz : len = 0
  ·subst hz
   refine ⟨fun _ => none, .gslice a.block a.off 0 1, fun o => ?_, fun σ => .gslice0, fun g m e => by cases e⟩
   rw [List.take_zero]
   exact ⟨rfl, fun i h => by simp at h⟩
  ·obtain ⟨b, off, rfl, hat⟩ := ints_at hcell (by omega)
   have hlen : (zs.take len).length = len := by simp; omega
   have h0 := hat 0 (by omega)
   have hb : b < W.heap.size := World.block_lt_of_cell? W _ h0
   have hex : ∀ i, i < off → ∃ v', W.cell? (at' b i) = some v' := by
    intro i hi
    unfold World.cell? at h0 ⊢
    dsimp only at h0 ⊢
    cases hq : W.heap[b]? with
    | none => rw [hq] at h0; cases h0
    | some o =>
     rw [hq] at h0
     cases o with
     | cells c t fr =>
      dsimp only at h0 ⊢
      have : off + 0 < c.size := by
       rcases Nat.lt_or_ge (off + 0) c.size with h | h
       ·exact h
       ·rw [Array.getElem?_eq_none h] at h0; cases h0
      exact ⟨c[i]'(by omega), Array.getElem?_eq_getElem (by omega)⟩
     | _ => cases h0
   refine ⟨fun g => if g = b then some (List.replicate off AVal.und ++ (zs.take len).map iv) else none, .gslice b off len 1, fun o => ?_, fun σ => .gslice hle, fun g m e => ?_⟩
   ·have := @qf9 (fun g => if g = b then some (List.replicate off AVal.und ++ (zs.take len).map iv) else none) o b off (zs.take len) (by simp)
    rw [hlen] at this; exact this
   ·have e' : (if g = b then some (List.replicate off AVal.und ++ (zs.take len).map iv) else none) = some m := e
    split at e' <;> cases e'
    rename_i hg
    subst hg
    refine ⟨hb, fun i u hu => ?_⟩
    by_cases hi : i < off
    ·obtain ⟨v', hv'⟩ := hex i hi
     rw [List.getElem?_append_left (by simpa using hi)] at hu
     have : u = .und := by
      rw [List.getElem?_replicate] at hu
      split at hu <;> (cases hu; try rfl)
     subst this
     exact ⟨v', hv', fun τ => .und _⟩
    ·rw [List.getElem?_append_right (by simpa using hi), List.length_replicate, List.getElem?_map] at hu
     cases hq : (zs.take len)[i - off]? with
     | none => rw [hq] at hu; cases hu
     | some x =>
      rw [hq] at hu
      cases hu
      have hlt : i - off < len := by
       have := (List.getElem?_eq_some_iff.1 hq).1
       omega
      have hx : zs.getD (i - off) 0 = x := by
       rw [List.getElem?_take_of_lt hlt] at hq
       simp [List.getD, hq]
      have := hat (i - off) (by omega)
      rw [show off + (i - off) = i by omega, hx] at this
      exact ⟨_, this, fun τ => .int _ _⟩
end Go.Vs
end
section
namespace Go.Vs.Inputs
open Go.Proofs Go.Vs
variable [GTab]
def code : Nat → List Ins
 | 0 => [(41, 0, 0)]
 | n + 1 => (40, 0, 0) :: (39, 1, 0) :: code n
theorem Wx : ∀ (n k : Nat), k < n → (code n)[2 * k]? = some (40, 0, 0) ∧ (code n)[2 * k + 1]? = some (39, 1, 0)
 | 0, k, h => by omega
 | n + 1, 0, _ => ⟨rfl, rfl⟩
 | n + 1, k + 1, h => by
  obtain ⟨h1, h2⟩ := Wx n k (by omega)
  refine ⟨?_, ?_⟩
  ·show ((40, 0, 0) :: (39, 1, 0) :: code n)[2 * (k + 1)]? = _
   rw [show 2 * (k + 1) = 2 * k + 1 + 1 by omega]; simpa using h1
  ·show ((40, 0, 0) :: (39, 1, 0) :: code n)[2 * (k + 1) + 1]? = _
   rw [show 2 * (k + 1) + 1 = 2 * k + 1 + 1 + 1 by omega]; simpa using h2
theorem K6 : ∀ n : Nat, (code n)[2 * n]? = some (41, 0, 0)
 | 0 => rfl
 | n + 1 => by
  show ((40, 0, 0) :: (39, 1, 0) :: code n)[2 * (n + 1)]? = _
  rw [show 2 * (n + 1) = 2 * n + 1 + 1 by omega]; simpa using K6 n
abbrev C (n : Nat) : vn := jg [code n]
theorem C_at {n : Nat} {k : Nat} {x : Ins} (h : (code n)[k]? = some x) : C n 0 (k : Int) = some x := by
 show (if 0 ≤ (0 : Int) ∧ 0 ≤ (k : Int) then _ else _) = _
 rw [if_pos ⟨by omega, by omega⟩]
 exact h
def told (inputs : List Int) (k : Nat) : Int := if k < inputs.length then inputs.getD k 0 else 0
section
variable {num : Int → List UInt8} {N : Int → Option Int} {words : List Int} {room : Int} {lits inputs : List Int}
theorem one {n k : Nat} (hk : k < n) (hn : n < 100) {lines : List (List UInt8)} (hl : lines.length < 4096) (hin : ∀ x, x ∈ inputs → -9223372036854775808 ≤ x ∧ x < 9223372036854775808) :
  Steps num (C n) N 2 (mk ((2 * k : Nat) : Int) [] [] ⟨words, room, lits, inputs, min k inputs.length, lines⟩) (mk ((2 * (k + 1) : Nat) : Int) [] [] ⟨words, room, lits, inputs, min (k + 1) inputs.length, lines ++ [num (told inputs k)]⟩) := by
 obtain ⟨h1, h2⟩ := Wx n k hk
 have c1 := C_at h1
 have c2 := C_at h2
 have w1 : IntKind.i64.wrap (((2 * k : Nat) : Int) + 1) = ((2 * k + 1 : Nat) : Int) := by rw [s_id (by omega) (by omega)]; omega
 have w2 : IntKind.i64.wrap (((2 * k + 1 : Nat) : Int) + 1) = ((2 * (k + 1) : Nat) : Int) := by rw [s_id (by omega) (by omega)]; omega
 have hinp : ∃ v, (⟨words, room, lits, inputs, min k inputs.length, lines⟩ : Wd).input = (⟨words, room, lits, inputs, min (k + 1) inputs.length, lines⟩, v) ∧ IntKind.i64.wrap v = told inputs k := by
  unfold Wd.input told
  dsimp only
  by_cases hlt : k < inputs.length
  ·rw [if_neg (by omega), if_pos hlt, Nat.min_eq_left (by omega)]
   refine ⟨_, by rw [Nat.min_eq_left (by omega)], ?_⟩
   have hx := hin (inputs.getD k 0) (by simp [List.getD, List.getElem?_eq_getElem hlt])
   exact qh1 hx.1 hx.2
  ·rw [if_pos (by omega), if_neg hlt, Nat.min_eq_right (by omega), Nat.min_eq_right (by omega)]
   exact ⟨0, rfl, by decide⟩
 obtain ⟨v, hv, hv2⟩ := hinp
 refine .step (S1 := mk ((2 * k + 1 : Nat) : Int) [] [v] ⟨words, room, lits, inputs, min (k + 1) inputs.length, lines⟩) ?_ (.step (S1 := mk ((2 * (k + 1) : Nat) : Int) [] [] ⟨words, room, lits, inputs, min (k + 1) inputs.length, lines ++ [num (told inputs k)]⟩) ?_ (.refl _))
 ·unfold Mst.stepG Mst.stepC
  rw [c1]
  have hd : (mk ((2 * k : Nat) : Int) [] [] ⟨words, room, lits, inputs, min k inputs.length, lines⟩).does num N 40 0 = some (mk ((2 * k : Nat) : Int) [] [v] ⟨words, room, lits, inputs, min (k + 1) inputs.length, lines⟩, 0) := by
   show some ((({ (mk ((2 * k : Nat) : Int) [] [] ⟨words, room, lits, inputs, min k inputs.length, lines⟩) with wd := (⟨words, room, lits, inputs, min k inputs.length, lines⟩ : Wd).input.1 } : Mst).push (⟨words, room, lits, inputs, min k inputs.length, lines⟩ : Wd).input.2), (0 : Int)) = _
   rw [hv]; rfl
  have hj : (mk ((2 * k : Nat) : Int) [] [] ⟨words, room, lits, inputs, min k inputs.length, lines⟩).jump 40 0 = none := rfl
  dsimp only
  rw [if_pos rfl, if_neg (by omega), if_neg (by omega), if_neg (by omega), hj]
  dsimp only
  rw [hd]
  dsimp only
  rw [if_pos rfl]
  dsimp only
  rw [w1]
 ·unfold Mst.stepG Mst.stepC
  rw [c2]
  have hd : (mk ((2 * k + 1 : Nat) : Int) [] [v] ⟨words, room, lits, inputs, min (k + 1) inputs.length, lines⟩).does num N 39 1 = some (mk ((2 * k + 1 : Nat) : Int) [] [] ((⟨words, room, lits, inputs, min (k + 1) inputs.length, lines⟩ : Wd).line (num (IntKind.i64.wrap v))), 0) := by rfl
  have hj : (mk ((2 * k + 1 : Nat) : Int) [] [v] ⟨words, room, lits, inputs, min (k + 1) inputs.length, lines⟩).jump 39 1 = none := rfl
  have hl2 : (⟨words, room, lits, inputs, min (k + 1) inputs.length, lines⟩ : Wd).line (num (IntKind.i64.wrap v)) = ⟨words, room, lits, inputs, min (k + 1) inputs.length, lines ++ [num (told inputs k)]⟩ := by
   unfold Wd.line
   rw [if_neg (by show ¬ 4096 ≤ lines.length; omega), hv2]
  dsimp only
  rw [if_pos rfl, if_neg (by omega), if_neg (by omega), if_neg (by omega), hj]
  dsimp only
  rw [hd, hl2]
  dsimp only
  rw [if_pos rfl]
  dsimp only
  rw [w2]
theorem all {n : Nat} (hn : n < 100) (hin : ∀ x, x ∈ inputs → -9223372036854775808 ≤ x ∧ x < 9223372036854775808) : ∀ k, k ≤ n →
  Steps num (C n) N (2 * k) (mk 0 [] [] ⟨words, room, lits, inputs, 0, []⟩) (mk ((2 * k : Nat) : Int) [] [] ⟨words, room, lits, inputs, min k inputs.length, (List.range k).map fun i => num (told inputs i)⟩)
 | 0, _ => by
  have : min 0 inputs.length = 0 := Nat.min_eq_left (Nat.zero_le _)
  rw [this]
  exact .refl _
 | k + 1, h => by
  have h1 := all hn hin k (by omega)
  have h2 := one (num := num) (N := N) (words := words) (room := room) (lits := lits) (k := k) (n := n) (by omega) hn (lines := (List.range k).map fun i => num (told inputs i)) (by simp; omega) hin
  exact (h1.trans h2).cast (by omega) (by simp [List.range_succ])
theorem over {n : Nat} {W : Wd} : (mk ((2 * n : Nat) : Int) [] [] W).stepC num (C n) N = some (.over W) := by
 have c1 := C_at (K6 n)
 unfold Mst.stepC
 rw [c1]
 rfl
end
end Go.Vs.Inputs
end
section
namespace Go.Vs
open Go.Proofs
variable [GTab]
def S1 (call : qk) (lp : Nat → ql) (N : KC) (X : Nat → KC) (R : KC) (Pn : List (AVal × Bool) → KC) (i : Int) (w : AVal) (a : AVal) (H : Heap) (nx : Nat) : Prop :=
 ∃ i0, lenS a = some i0 ∧ ifB (decide (i < Int.ofNat i0)) (ifB (decide (i < 12)) (0 ≤ i ∧ ∃ v1, idxS a i.toNat 1 = some v1 ∧ ∃ n2 : Int, ld1 H v1 = some (iv n2) ∧ true = true ∧ ∃ H3,
 H3 = newB nx [iv n2] H ∧ ∃ i4 l5, aSrc 1 H3 (AVal.slice nx 0 1 1 true) = some (i4, l5) ∧ qq l5 = true ∧ ∃ v6 H7 i8, appC H3 (nx + 1) 1 8 w i4 l5 = some (v6, H7, i8) ∧ N (envL
 AVal.und [(4, iv (IntKind.i64.wrap (i + 1))), (22, iv (IntKind.i64.wrap (i + 1))), (21, iv i), (3, v6), (29, v6), (28, AVal.slice nx 0 1 1 true), (27, iv n2), (26, v1), (25, iv i),
 (24, a), (23, w), (20, AVal.bool true), (20, AVal.bool (decide (i < 12))), (19, AVal.bool (decide (i < 12))), (17, AVal.bool true), (18, iv i), (17, AVal.bool true), (17, AVal.bool
 (decide (i < Int.ofNat i0))), (16, AVal.bool (decide (i < Int.ofNat i0))), (15, iv (Int.ofNat i0)), (14, a), (13, iv i), (4, iv i), (3, w), (2, AVal.bool false), (0, a)]) H7 i8 []
 none) (X 0 (envL AVal.und [(20, AVal.bool false), (20, AVal.bool (decide (i < 12))), (19, AVal.bool (decide (i < 12))), (17, AVal.bool true), (18, iv i), (17, AVal.bool true), (17,
 AVal.bool (decide (i < Int.ofNat i0))), (16, AVal.bool (decide (i < Int.ofNat i0))), (15, iv (Int.ofNat i0)), (14, a), (13, iv i), (4, iv i), (3, w), (2, AVal.bool false), (0, a)])
 H nx [] none)) (X 0 (envL AVal.und [(20, AVal.bool false), (20, AVal.bool false), (19, AVal.tuple []), (17, AVal.bool false), (18, AVal.tuple []), (17, AVal.bool false), (17,
 AVal.bool (decide (i < Int.ofNat i0))), (16, AVal.bool (decide (i < Int.ofNat i0))), (15, iv (Int.ofNat i0)), (14, a), (13, iv i), (4, iv i), (3, w), (2, AVal.bool false), (0, a)])
 H nx [] none)
def S2 (call : qk) (lp : Nat → ql) (N : KC) (X : Nat → KC) (R : KC) (Pn : List (AVal × Bool) → KC) (i : Int) (t : Int) (s : Int) (w : AVal) (l : AVal) (H : Heap) (nx : Nat) : Prop :=
 ∃ i0, lenS w = some i0 ∧ ifB (decide (i < Int.ofNat i0)) (lp 104 (z9 (z9 (qW Tryz.prog 3) [1, 1, 1, 1, 1, 1, 0, 1, 0, 0]) [1, 0, 0, 1, 0, 0]) (envL AVal.und [(11, iv i),
 (47, iv i), (44, AVal.bool true), (44, AVal.bool (decide (i < Int.ofNat i0))), (43, iv (Int.ofNat i0)), (42, w), (41, iv i), (10, iv i), (9, AVal.nilSlice), (8, iv t), (7, iv s),
 (6, l), (3, w), (2, AVal.bool false)]) H nx [] none (z7 Tryz.prog call (lp 104) 104 (z9 (qW Tryz.prog 3) [1, 1, 1, 1, 1, 1, 0, 1, 0, 0]) [1, 0, 0, 1, 0] (yG N X R
 Pn))) (X 2 (envL AVal.und [(44, AVal.bool false), (44, AVal.bool (decide (i < Int.ofNat i0))), (43, iv (Int.ofNat i0)), (42, w), (41, iv i), (10, iv i), (9, AVal.nilSlice), (8, iv
 t), (7, iv s), (6, l), (3, w), (2, AVal.bool false)]) H nx [] none)
def S3 (call : qk) (lp : Nat → ql) (N : KC) (X : Nat → KC) (R : KC) (Pn : List (AVal × Bool) → KC) (j : Int) (i : Int) (t : Int) (s : Int) (w : AVal) (l : AVal) (H : Heap) (nx : Nat) : Prop :=
 ifB (decide (0 < j)) (0 ≤ j ∧ ∃ v0, idxS w j.toNat 1 = some v0 ∧ ∃ n1 : Int, ld1 H v0 = some (iv n1) ∧ 0 ≤ IntKind.i64.wrap (j - 1) ∧ ∃ v2, idxS w (IntKind.i64.wrap (j - 1)).toNat 1
 = some v2 ∧ ∃ n3 : Int, ld1 H v2 = some (iv n3) ∧ ((∃ n4 : Int, ld1 H v0 = some (iv n4) ∧ iv n4 = iv n1) ∧ (∃ n5 : Int, ld1 H v2 = some (iv n5) ∧ iv n5 = iv n3) ∧ True) ∧ ifB
 (decide (n1 < n3)) (0 ≤ IntKind.i64.wrap (j - 1) ∧ ∃ v6, idxS w (IntKind.i64.wrap (j - 1)).toNat 1 = some v6 ∧ ∃ n7 : Int, ld1 H v6 = some (iv n7) ∧ 0 ≤ j ∧ ∃ v8, idxS w j.toNat 1 =
 some v8 ∧ ∃ n9 : Int, ld1 H v8 = some (iv n9) ∧ 0 ≤ j ∧ ∃ v10, idxS w j.toNat 1 = some v10 ∧ ((∃ n11 : Int, ld1 H v6 = some (iv n11) ∧ iv n11 = iv n7) ∧ (∃ n12 : Int, ld1 H v8 =
 some (iv n12) ∧ iv n12 = iv n9) ∧ True) ∧ true = true ∧ ∃ H13, stC H v10 [iv n7] = some H13 ∧ 0 ≤ IntKind.i64.wrap (j - 1) ∧ ∃ v14, idxS w (IntKind.i64.wrap (j - 1)).toNat 1 = some
 v14 ∧ True ∧ true = true ∧ ∃ H15, stC H13 v14 [iv n9] = some H15 ∧ True ∧ N (envL AVal.und [(11, iv (IntKind.i64.wrap (j - 1))), (63, iv (IntKind.i64.wrap (j - 1))), (62, iv j),
 (79, v14), (78, v10), (77, iv n9), (76, v8), (75, iv j), (74, w), (73, iv n7), (72, v6), (71, iv (IntKind.i64.wrap (j - 1))), (70, iv j), (69, w), (68, iv (IntKind.i64.wrap (j -
 1))), (67, iv j), (66, w), (65, iv j), (64, w), (61, AVal.bool true), (61, AVal.bool (decide (n1 < n3))), (60, AVal.bool (decide (n1 < n3))), (50, AVal.bool true), (59, iv n3), (50,
 AVal.bool true), (58, v2), (50, AVal.bool true), (57, iv (IntKind.i64.wrap (j - 1))), (50, AVal.bool true), (56, iv j), (50, AVal.bool true), (55, w), (50, AVal.bool true), (54, iv
 n1), (50, AVal.bool true), (53, v0), (50, AVal.bool true), (52, iv j), (50, AVal.bool true), (51, w), (50, AVal.bool true), (50, AVal.bool (decide (0 < j))), (49, AVal.bool (decide
 (0 < j))), (48, iv j), (11, iv j), (10, iv i), (9, AVal.nilSlice), (8, iv t), (7, iv s), (6, l), (3, w), (2, AVal.bool false)]) H15 (nx + 14 + 18) [] none) (X 4 (envL AVal.und [(61,
 AVal.bool false), (61, AVal.bool (decide (n1 < n3))), (60, AVal.bool (decide (n1 < n3))), (50, AVal.bool true), (59, iv n3), (50, AVal.bool true), (58, v2), (50, AVal.bool true),
 (57, iv (IntKind.i64.wrap (j - 1))), (50, AVal.bool true), (56, iv j), (50, AVal.bool true), (55, w), (50, AVal.bool true), (54, iv n1), (50, AVal.bool true), (53, v0), (50,
 AVal.bool true), (52, iv j), (50, AVal.bool true), (51, w), (50, AVal.bool true), (50, AVal.bool (decide (0 < j))), (49, AVal.bool (decide (0 < j))), (48, iv j), (11, iv j), (10, iv
 i), (9, AVal.nilSlice), (8, iv t), (7, iv s), (6, l), (3, w), (2, AVal.bool false)]) H (nx + 14) [] none)) ((AVal.tuple [] = AVal.tuple [] ∧ AVal.tuple [] = AVal.tuple [] ∧ True) ∧
 X 4 (envL AVal.und [(61, AVal.bool false), (61, AVal.bool false), (60, AVal.tuple []), (50, AVal.bool false), (59, AVal.tuple []), (50, AVal.bool false), (58, AVal.tuple []), (50,
 AVal.bool false), (57, AVal.tuple []), (50, AVal.bool false), (56, AVal.tuple []), (50, AVal.bool false), (55, AVal.tuple []), (50, AVal.bool false), (54, AVal.tuple []), (50,
 AVal.bool false), (53, AVal.tuple []), (50, AVal.bool false), (52, AVal.tuple []), (50, AVal.bool false), (51, AVal.tuple []), (50, AVal.bool false), (50, AVal.bool (decide (0 <
 j))), (49, AVal.bool (decide (0 < j))), (48, iv j), (11, iv j), (10, iv i), (9, AVal.nilSlice), (8, iv t), (7, iv s), (6, l), (3, w), (2, AVal.bool false)]) H (nx + 14) [] none)
end Go.Vs
end
section
namespace Go.Vs
open Go.Ev (ilt)
open Go.Proofs
variable [GTab]
def I1 (call : qk) (lp : Nat → ql) (N : KC) (X : Nat → KC) (R : KC) (Pn : List (AVal × Bool) → KC) (i : Int) (n : Int) (w : AVal) (v : AVal) (s : List UInt8) (H : Heap) (nx : Nat) : Prop :=
 ifB (decide (i < n)) (s.length + 15 ≤ 9223372036854775807 ∧ ∃ i0, lenS v = some i0 ∧ ifB (decide (i < Int.ofNat i0)) (0 ≤ i ∧ ∃ v1, idxS v i.toNat 1 = some v1 ∧ ∃ n2 : Int, ld1 H v1
 = some (iv n2) ∧ call 9 [iv n2] H nx fun e3 H4 i5 => qh e3 (fun v6 => ∃ s7, v6 = AVal.str s7 ∧ true = true ∧ ∃ H8, H8 = newB i5 [AVal.str s7] H4 ∧ ∃ i9 l10, aSrc 1 H8 (AVal.slice
 i5 0 1 1 true) = some (i9, l10) ∧ qq l10 = true ∧ ∃ v11 H12 i13, appC H8 (i5 + 1) 1 16 w i9 l10 = some (v11, H12, i13) ∧ N (envL AVal.und [(8, iv (IntKind.i64.wrap (i + 1))),
 (22, iv (IntKind.i64.wrap (i + 1))), (21, iv i), (7, v11), (36, v11), (35, AVal.slice i5 0 1 1 true), (34, AVal.str s7), (33, iv n2), (32, v1), (31, iv i), (30, v), (29, w), (28,
 AVal.bool true), (28, AVal.bool (decide (i < Int.ofNat i0))), (27, iv (Int.ofNat i0)), (26, v), (25, iv i), (6, AVal.str (s ++ [112, 114, 105, 110, 116, 40, 105, 110, 112, 117, 116,
 40, 41, 41, 10])), (24, AVal.str (s ++ [112, 114, 105, 110, 116, 40, 105, 110, 112, 117, 116, 40, 41, 41, 10])), (23, AVal.str s), (20, AVal.bool true), (20, AVal.bool (decide (i <
 n))), (19, iv n), (18, iv i), (8, iv i), (7, w), (6, AVal.str s), (5, v), (4, AVal.bool false), (1, iv n)]) H12 i13 [] none) fun l14 => Pn l14 (envL AVal.und [(33, iv n2), (32, v1),
 (31, iv i), (30, v), (29, w), (28, AVal.bool true), (28, AVal.bool (decide (i < Int.ofNat i0))), (27, iv (Int.ofNat i0)), (26, v), (25, iv i), (6, AVal.str (s ++ [112, 114, 105,
 110, 116, 40, 105, 110, 112, 117, 116, 40, 41, 41, 10])), (24, AVal.str (s ++ [112, 114, 105, 110, 116, 40, 105, 110, 112, 117, 116, 40, 41, 41, 10])), (23, AVal.str s), (20,
 AVal.bool true), (20, AVal.bool (decide (i < n))), (19, iv n), (18, iv i), (8, iv i), (7, w), (6, AVal.str s), (5, v), (4, AVal.bool false), (1, iv n)]) H4 i5 [] none) (true = true
 ∧ ∃ H15, H15 = newB nx [AVal.str [48]] H ∧ ∃ i16 l17, aSrc 1 H15 (AVal.slice nx 0 1 1 true) = some (i16, l17) ∧ qq l17 = true ∧ ∃ v18 H19 i20, appC H15 (nx + 1) 1 16 w i16 l17
 = some (v18, H19, i20) ∧ N (envL AVal.und [(8, iv (IntKind.i64.wrap (i + 1))), (22, iv (IntKind.i64.wrap (i + 1))), (21, iv i), (7, v18), (39, v18), (38, AVal.slice nx 0 1 1 true),
 (37, w), (28, AVal.bool false), (28, AVal.bool (decide (i < Int.ofNat i0))), (27, iv (Int.ofNat i0)), (26, v), (25, iv i), (6, AVal.str (s ++ [112, 114, 105, 110, 116, 40, 105, 110,
 112, 117, 116, 40, 41, 41, 10])), (24, AVal.str (s ++ [112, 114, 105, 110, 116, 40, 105, 110, 112, 117, 116, 40, 41, 41, 10])), (23, AVal.str s), (20, AVal.bool true), (20,
 AVal.bool (decide (i < n))), (19, iv n), (18, iv i), (8, iv i), (7, w), (6, AVal.str s), (5, v), (4, AVal.bool false), (1, iv n)]) H19 i20 [] none)) (X 0 (envL AVal.und [(20,
 AVal.bool false), (20, AVal.bool (decide (i < n))), (19, iv n), (18, iv i), (8, iv i), (7, w), (6, AVal.str s), (5, v), (4, AVal.bool false), (1, iv n)]) H nx [] none)
theorem qgi (call : qk) (lp : Nat → ql) (N : KC) (X : Nat → KC) (R : KC) (Pn : List (AVal × Bool) → KC) (i : Int) (n : Int) (w : AVal) (v : AVal) (s : List UInt8) (H : Heap) (nx : Nat) : vK Tryz.prog call (lp 82) 82 (z9 (qW Tryz.prog 6) [1,1,1,1,1,0,1,0,0]) (envL .und [(8, iv i), (7, w), (6, AVal.str s), (5, v), (4, AVal.bool false), (1, iv n)]) H nx [] none (yG N X R Pn) = I1 call lp N X R Pn i n w v s H nx := by kernel_rfl
def AI1 (call : qk) (lp : Nat → ql) (lv : qi) (lvc : qj) (n : Int) (w : AVal) (v : AVal) (s : List UInt8) (H : Heap) (nx : Nat) (K : EndP) : Prop :=
 s.length + 1 ≤ 9223372036854775807 ∧ call 14 [AVal.str (s ++ [125])] H nx fun e0 H1 i2 => qh e0 (fun v3 => ∃ v4 v5 n6 v7 v8 n9 n10 n11, v3 = AVal.tuple [AVal.agg [v4, v5, iv n6,
 v7, v8], AVal.agg [iv n9, iv n10], iv n11] ∧ ∃ H12, H12 = newB i2 [AVal.nilSlice, AVal.nilSlice, iv 0, AVal.nilSlice, AVal.nilSlice] H1 ∧ ∃ H13, H13 = newB (i2 + 1) [iv 0, iv 0] H12
 ∧ ∃ H14, stC H13 (AVal.ptr i2 0) [v4, v5, iv n6, v7, v8] = some H14 ∧ ∃ H15, stC H14 (AVal.ptr (i2 + 1) 0) [iv n9, iv n10] = some H15 ∧ call 10 [] H15 (i2 + 1 + 1) fun e16 H17 i18
 => qh e16 (fun v19 => ∃ b20, v19 = AVal.bool b20 ∧ ifB (!b20) (K (AEnd.ret (AVal.bool false)) H17 i18) (ifB (!decide (n11 = 0)) (K (AEnd.ret (AVal.bool false)) H17 i18) (∃ v21
 v22 n23 v24 v25, ldN H17 5 (AVal.ptr i2 0) = some (AVal.agg [v21, v22, iv n23, v24, v25]) ∧ call 15 [AVal.agg [v21, v22, iv n23, v24, v25], iv 50, v] H17 i18 fun e26 H27 i28 =>
 qh e26 (fun v29 => ∃ v30 n31, v29 = AVal.tuple [v30, iv n31] ∧ ifB (!decide (n31 = 0)) (K (AEnd.ret (AVal.bool false)) H27 i28) (∃ b32, nilK NK.ptr v30 = some b32 ∧ ifB b32 (K
 (AEnd.ret (AVal.bool false)) H27 i28) (call 16 [v30, iv 9999] H27 i28 fun e33 H34 i35 => qh e33 (fun v36 => ∃ n37 : Int, v36 = iv n37 ∧ call 17 [v30] H34 i35 fun e38 H39 i40 =>
 qh e38 (fun v41 => call 18 [v41] H39 i40 fun e42 H43 i44 => qh e42 (fun v45 => call 11 [v45, w] H43 i44 fun e46 H47 i48 => qh e46 (fun v49 => ∃ b50, v49 = AVal.bool b50 ∧
 ifB b50 (call 17 [v30] H47 i48 fun e51 H52 i53 => qh e51 (fun v54 => call 19 [v54] H52 i53 fun e55 H56 i57 => qh e55 (fun v58 => ∃ n59 : Int, v58 = iv n59 ∧ ∃ i60, lenS v =
 some i60 ∧ ∃ n61 : Int, some (Bool.rec (Bool.rec n (Int.ofNat i60) (ilt (Int.ofNat i60) n)) (Bool.rec n (Int.ofNat i60) (ilt n (Int.ofNat i60))) false) = some n61 ∧ K (AEnd.ret
 (AVal.bool (decide (n59 = n61)))) H56 i57) fun l62 => K (AEnd.pan l62) H56 i57) fun l63 => K (AEnd.pan l63) H52 i53) (K (AEnd.ret (AVal.bool false)) H47 i48)) fun l64 => K (AEnd.pan
 l64) H47 i48) fun l65 => K (AEnd.pan l65) H43 i44) fun l66 => K (AEnd.pan l66) H39 i40) fun l67 => K (AEnd.pan l67) H34 i35))) fun l68 => K (AEnd.pan l68) H27 i28))) fun l69 => K
 (AEnd.pan l69) H17 i18) fun l70 => K (AEnd.pan l70) H1 i2
theorem qfb (call : qk) (lp : Nat → ql) (lv : qi) (lvc : qj) (n : Int) (w : AVal) (v : AVal) (s : List UInt8) (H : Heap) (nx : Nat) (K : EndP) : z7 Tryz.prog call (lp 82) 82 (qW Tryz.prog 6) [1,1,1,1,1,0,1,0] (endK Tryz.prog lv lvc K (kO Tryz.prog 6)) (.exit 0) (envL .und [(7, w), (6, AVal.str s), (5, v), (4, AVal.bool false), (1, iv n)]) H nx [] none = AI1 call lp lv lvc n w v s H nx K := by kernel_rfl
def LInp (call : qk) (lp : Nat → ql) (N : KC) (X : Nat → KC) (R : KC) (Pn : List (AVal × Bool) → KC) (i : Int) (w : AVal) (a : AVal) (H : Heap) (nx : Nat) : Prop :=
 ∃ i0, lenS a = some i0 ∧ ifB (decide (i < Int.ofNat i0)) (ifB (decide (i < 40)) (0 ≤ i ∧ ∃ v1, idxS a i.toNat 1 = some v1 ∧ ∃ n2 : Int, ld1 H v1 = some (iv n2) ∧ true = true ∧ ∃ H3,
 H3 = newB nx [iv n2] H ∧ ∃ i4 l5, aSrc 1 H3 (AVal.slice nx 0 1 1 true) = some (i4, l5) ∧ qq l5 = true ∧ ∃ v6 H7 i8, appC H3 (nx + 1) 1 8 w i4 l5 = some (v6, H7, i8) ∧ N (envL
 AVal.und [(4, iv (IntKind.i64.wrap (i + 1))), (14, iv (IntKind.i64.wrap (i + 1))), (13, iv i), (3, v6), (21, v6), (20, AVal.slice nx 0 1 1 true), (19, iv n2), (18, v1), (17, iv i),
 (16, a), (15, w), (12, AVal.bool true), (12, AVal.bool (decide (i < 40))), (11, AVal.bool (decide (i < 40))), (9, AVal.bool true), (10, iv i), (9, AVal.bool true), (9, AVal.bool
 (decide (i < Int.ofNat i0))), (8, AVal.bool (decide (i < Int.ofNat i0))), (7, iv (Int.ofNat i0)), (6, a), (5, iv i), (4, iv i), (3, w), (2, AVal.nilSlice), (0, a)]) H7 i8 [] none)
 (X 0 (envL AVal.und [(12, AVal.bool false), (12, AVal.bool (decide (i < 40))), (11, AVal.bool (decide (i < 40))), (9, AVal.bool true), (10, iv i), (9, AVal.bool true), (9, AVal.bool
 (decide (i < Int.ofNat i0))), (8, AVal.bool (decide (i < Int.ofNat i0))), (7, iv (Int.ofNat i0)), (6, a), (5, iv i), (4, iv i), (3, w), (2, AVal.nilSlice), (0, a)]) H nx [] none))
 (X 0 (envL AVal.und [(12, AVal.bool false), (12, AVal.bool false), (11, AVal.tuple []), (9, AVal.bool false), (10, AVal.tuple []), (9, AVal.bool false), (9, AVal.bool (decide (i <
 Int.ofNat i0))), (8, AVal.bool (decide (i < Int.ofNat i0))), (7, iv (Int.ofNat i0)), (6, a), (5, iv i), (4, iv i), (3, w), (2, AVal.nilSlice), (0, a)]) H nx [] none)
theorem qbn (call : qk) (lp : Nat → ql) (N : KC) (X : Nat → KC) (R : KC) (Pn : List (AVal × Bool) → KC) (i : Int) (w : AVal) (a : AVal) (H : Heap) (nx : Nat) : vK Tryz.prog call (lp 23) 23 (z9 (qW Tryz.prog 13) [1,1,0,1,0,0]) (envL .und [(4, iv i), (3, w), (2, AVal.nilSlice), (0, a)]) H nx [] none (yG N X R Pn) = LInp call lp N X R Pn i w a H nx := by kernel_rfl
def AInp (call : qk) (lp : Nat → ql) (lv : qi) (lvc : qj) (w : AVal) (H : Heap) (nx : Nat) (K : EndP) : Prop :=
 K (AEnd.ret w) H nx
theorem qcf (call : qk) (lp : Nat → ql) (lv : qi) (lvc : qj) (w : AVal) (H : Heap) (nx : Nat) (K : EndP) : z7 Tryz.prog call (lp 23) 23 (qW Tryz.prog 13) [1,1,0,1,0] (endK Tryz.prog lv lvc K (kO Tryz.prog 13)) (.exit 0) (envL .und [(3, w)]) H nx [] none = AInp call lp lv lvc w H nx K := by kernel_rfl
end Go.Vs
end
