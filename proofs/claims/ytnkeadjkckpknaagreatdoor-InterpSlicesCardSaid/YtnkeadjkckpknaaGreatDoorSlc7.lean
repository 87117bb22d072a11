/-
  Own work. Texts of a proof, laid together; no condition.
-/
import Derived.MakeChecks
import Derived.RowKit
import Derived.OpenShut
import Derived.ChangeReads
import Derived.Test.YtnkeadjkckpknaaGreatDoorChecked
import Derived.Test.YtnkeadjkckpknaaGreatDoorSlc6
import Derived.Test.YtnkeadjkckpknaaGreatDoorSlc4
import Derived.Test.YtnkeadjkckpknaaGreatDoorSlcKn
import Derived.Test.YtnkeadjkckpknaaGreatDoorSlc5
import Derived.Test.YtnkeadjkckpknaaGreatDoorSlcSrcSlices
set_option linter.unusedSectionVars false
set_option linter.unusedVariables false
set_option linter.unusedSimpArgs false
set_option maxRecDepth 1000000
section
namespace Go.Vs
open Go.Ev (at')
open Go Go.Proofs Go.Bridge Go.Proofs.YtnkeadjkckpknaaGreatDoor
def qa1 : Ev.Syms := { vals := [] }
theorem XJ : qa1.OK := by constructor <;> (intro t ht; cases ht)
noncomputable abbrev ZS (o : Obj) : Ev.GTab := qa1.tab XJ 0 o
theorem symC {t : TypeId} {fz : Nat × Nat} : @Ev.SymC (ZS (.cells zW t fz)) Tryz.prog 202 25 :=
 @Ev.SymC.mk (ZS (.cells zW t fz)) _ _ _ (@Ev.SymOK.mk (ZS (.cells zW t fz)) _ _ _
  (fun n w h0 h1 hg => @qgc (ZS (.cells zW t fz)) t fz Ev.Syms.blk n w h0 h1 hg) XU (fun _ => rfl))
noncomputable abbrev gtab (tb : Nat → Option (List AVal)) (o : Obj) : GTab := { tab := tb, blk := fun b => Bool.rec none (some o) (Nat.beq b 0) }
theorem Yr {w : World} {o : Obj} {tb : Nat → Option (List AVal)} (hw : w.heap[0]? = some o)
  (ht : ∀ g l, tb g = some l → g < w.heap.size ∧ ∀ (i : Nat) (v : AVal), l[i]? = some v → ∃ v', w.cell? (at' g i) = some v' ∧ ∀ τ : Sg, Den τ v v') : @Glob (gtab tb o) (fun _ => none) w := by
 refine @Glob.mk (gtab tb o) _ _ (fun g l hg => ?_) fun b o' hb => ?_
 ·obtain ⟨h1, h2⟩ := ht g l hg
  exact ⟨h1, (fun _ _ e => by cases e), h2⟩
 ·have hb' : (Bool.rec none (some o) (Nat.beq b 0) : Option Obj) = some o' := hb
  cases he : Nat.beq b 0 with
  | false => rw [he] at hb'; cases hb'
  | true =>
   rw [he] at hb'
   cases hb'
   have := Nat.eq_of_beq_eq_true he
   subst this
   refine ⟨?_, (fun _ _ e => by cases e), hw⟩
   rcases Nat.lt_or_ge 0 w.heap.size with hlt | hge
   ·exact hlt
   ·rw [Array.getElem?_eq_none hge] at hw; cases hw
class Tabs [Ev.GTab] [GTab] (t : TypeId) (fz : Nat × Nat) : Prop where
 ev : ∀ q, Ev.GTab.tab q = none
 same : ∀ q o', Ev.GTab.blk q = some o' → GTab.blk q = some o'
 pow : GTab.blk 0 = some (.cells zW t fz)
theorem tabs {t : TypeId} {fz : Nat × Nat} {tb : Nat → Option (List AVal)} : @Tabs (ZS (.cells zW t fz)) (gtab tb (.cells zW t fz)) t fz :=
 @Tabs.mk (ZS (.cells zW t fz)) (gtab tb (.cells zW t fz)) t fz (fun _ => rfl) (fun _ _ e => e) rfl
section
variable [Ev.GTab] [GTab] {t : TypeId} {fz : Nat × Nat}
theorem Tabs.none (T : Tabs t fz) (w : World) (h : Glob (fun _ => none) w) : Ev.Glob (fun _ => none) w := by
 refine ⟨fun q l e => (by rw [T.ev q] at e; cases e), fun q o' e => ?_⟩
 obtain ⟨a1, a2, a3⟩ := h.blk q o' (T.same q o' e)
 exact ⟨a1, (fun b sz e2 => by cases e2), a3⟩
theorem qjf [Ev.SymC Tryz.prog 202 25] (T : Tabs t fz) {H : Heap} {nx : Nat} {K : EndP} (hK : K (.ret (.bool true)) H nx) : TriP Tryz.prog 10 [] H nx K :=
 XF qx tk2_ok knRan (fun w h => T.none w h) hK
end
theorem qbg {H : Heap} {nx : Nat} : HOK (fun _ => none) H nx := fun b cs e => by cases e
theorem qhf [GTab] {main : Int} {nl fuel : Nat} {room : Int} {inputs : List Int} (hf : fuel < 1000000) (h1 : 1 ≤ room) (h2 : room < 900000) (hi : inputs.length < 1000000) :
  Mst.FineN fuel ⟨[], ⟨main, 0, List.replicate nl 0, []⟩, ⟨[0], room, [], inputs, 0, []⟩, 0, 0⟩ := by
 refine ⟨⟨?_, ?_, ?_⟩, ?_, ?_, ⟨?_, ?_, ?_, ?_, ?_, ?_, ?_, ?_⟩⟩
 ·show 0 + fuel < 1000000; omega
 ·intro x hx; cases hx
 ·intro x hx; rw [List.mem_replicate] at hx; omega
 ·show 0 < 1000; omega
 ·intro f hf; cases hf
 ·show ((1 : Nat) : Int) ≤ room + 1; omega
 ·intro x hx; simp at hx; omega
 ·show 0 + fuel < 1000000; omega
 ·exact hi
 ·exact Nat.zero_le _
 ·show 0 ≤ room; omega
 ·exact h2
 ·intro x hx; cases hx
end Go.Vs
end
section
namespace Go.Vs
open Go Go.Proofs Go.Bridge Go.Proofs.YtnkeadjkckpknaaGreatDoor
def ArgI [GTab] (a : AVal) (l : List Int) : Prop := lenS a = some l.length ∧ ∀ i, i < l.length → ∃ p, idxS a i 1 = some p ∧ ∀ H, ld1 H p = some (iv (l.getD i 0))
theorem Yf [GTab] : ArgI .nilSlice [] := ⟨rfl, fun i h => by simp at h⟩
theorem qf9 {tb : Nat → Option (List AVal)} {o : Obj} {g off : Nat} {l : List Int} (h : tb g = some (List.replicate off AVal.und ++ l.map iv)) : @ArgI (gtab tb o) (.gslice g off l.length 1) l := by
 letI : GTab := gtab tb o
 refine ⟨rfl, fun i hi => ⟨.gptr g (off + i * 1), ?_, fun H => ?_⟩⟩
 ·have : Nat.ble (Nat.succ i) l.length = true := ze hi
  simp only [idxS, this]; rfl
 ·unfold ld1
  show (match tb g with | some l => l[off + i * 1]? | none => none) = _
  rw [h]
  show (List.replicate off AVal.und ++ l.map iv)[off + i * 1]? = _
  rw [List.getElem?_append_right (by simp)]
  simp [List.getD, hi]
section
variable [GTab] {Γ : GH} {own : Nat → Nat} {H : Heap} {nx : Nat}
theorem RowV.put {α : Type} {role : Nat} {f : α → AVal} {v : AVal} {l : List α} (hk : HOK Γ H nx) (h : RowV Γ own role f v l) {i : Nat} (hi : i < l.length) (x : α) (hx : qE (f x) = true) :
  ∃ p H' Γ', idxS v i 1 = some p ∧ stC H p [f x] = some H' ∧ HOK Γ' H' nx ∧ RowV Γ' own role f v (l.set i x) ∧ Keep Γ own Γ' own (fun r => r = role) := by
 rcases h with ⟨rfl, rfl⟩ | ⟨b, cs, ⟨full, rfl⟩, h1, h2, h3⟩
 ·simp at hi
 ·have hlen := jq h3 (by simp)
  obtain ⟨H', e, hk'⟩ := hk.st (off := i) (vs := [f x]) h2 (by simp; omega) (by simp [qr, hx])
  refine ⟨_, H', _, zz hi, ?_, hk', .inr ⟨b, _, ⟨full, by simp⟩, h1, qd _ _ _, ?_⟩, fun c ds hc hn => ?_⟩
  ·rw [Nat.zero_add, Nat.mul_one]; exact e
  ·unfold qY
   rw [List.length_set, List.map_set, ← h3]
   apply List.ext_getElem?
   intro k
   by_cases hk1 : k < l.length
   ·rw [List.getElem?_take_of_lt hk1]
    by_cases hki : k < i
    ·rw [List.append_assoc, List.getElem?_append_left (by simp; omega), List.getElem?_take_of_lt hki, List.getElem?_set_ne (by omega), List.getElem?_take_of_lt hk1]
    ·by_cases hke : k = i
     ·subst hke
      rw [List.append_assoc, List.getElem?_append_right (by simp; omega), List.getElem?_set_self (by simp; omega)]
      simp [show min k cs.length = k by omega]
     ·rw [List.getElem?_append_right (by simp; omega), List.getElem?_drop, List.getElem?_set_ne (by omega), List.getElem?_take_of_lt hk1]
      congr 1
      simp; omega
   ·rw [List.getElem?_eq_none (by simp; omega), List.getElem?_eq_none (by simp; omega)]
  ·have hcb : c ≠ b := fun e => hn (by rw [e, h1])
   exact ⟨by rw [qe hcb]; exact hc, rfl⟩
theorem RowV.get {α : Type} [Inhabited α] {role : Nat} {f : α → AVal} {v : AVal} {l : List α} (hk : HOK Γ H nx) (h : RowV Γ own role f v l) {i : Nat} (hi : i < l.length) (d : α) : ∃ p, idxS v i 1 = some p ∧ ld1 H p = some (f (l.getD i d)) := by
 obtain ⟨b, h1, h2⟩ := h.at hk hi
 exact ⟨_, h1, by rw [h2]; simp [List.getD, hi]⟩
theorem RowV.srcV {α : Type} {role : Nat} {f : α → AVal} {v : AVal} {l : List α} (h : RowV Γ own role f v l) : SrcV Γ v 1 l.length (l.map f) := by
 rcases h with ⟨rfl, rfl⟩ | ⟨b, cs, ⟨full, rfl⟩, h1, h2, h3⟩
 ·exact .inl ⟨rfl, rfl, rfl⟩
 ·have := jq h3 (by simp)
  exact .inr ⟨b, 0, full, cs, rfl, h2, by omega, by rw [List.drop_zero, Nat.mul_one, h3]⟩
theorem qd6 {Γ : GH} {H : Heap} {nx b : Nat} (hk : HOK Γ H nx) {x : AVal} (hb : Γ b = some [x]) {new : List AVal} (hl : new.length < 1000000) :
  ∃ v H' nx' Γ', appC H nx 1 8 (.slice b 0 1 1 true) new.length new = some (v, H', nx') ∧ nx ≤ nx' ∧ HOK Γ' H' nx' ∧ SrcV Γ' v 1 (1 + new.length) (x :: new) ∧ ∀ c ds, Γ c = some ds → Γ' c = some ds := by
 by_cases hz : new.length = 0
 ·have : new = [] := List.length_eq_zero_iff.1 hz
  subst this
  exact ⟨_, H, nx, Γ, rfl, Nat.le_refl _, hk, .inr ⟨b, 0, true, _, rfl, hb, by simp, rfl⟩, fun _ _ e => e⟩
 ·obtain ⟨H', q1, q2⟩ := hk.appFull (b := b) (off := 0) (len := 1) (esz := 1) (ebytes := 8) (k := new.length) (new := new) hb (by simp) (by simp) (by omega) (by omega) (by omega)
  refine ⟨_, H', _, _, q1, by omega, q2, .inr ⟨nx, 0, false, _, rfl, qd _ _ _, by simp; omega, ?_⟩, fun c ds ec => ?_⟩
  ·simp only [List.drop_zero, Nat.mul_one, List.take_succ_cons, List.take_zero]
   exact List.take_of_length_le (by simp; omega)
  ·have := hk.lt ec
   rw [qe (by omega)]; exact ec
end
end Go.Vs
end
section
namespace Go.Vs
open Go.Ev (at')
open Go Go.Proofs Go.ChangeShapes Go.WideShapes Go.RowKit
def VZ (W : World) (v : Value) (l : List Int) : Prop :=
 (v = .slice none 0 0 ∧ l = []) ∨ ∃ (a : Addr) (len cap : Nat) (zs : List Int), v = .slice (some a) len cap ∧ len ≤ zs.length ∧ len ≤ cap ∧ l = zs.take len ∧ ∀ i, i < zs.length → W.cell? (a.add i) = some (.int .i64 (zs.getD i 0))
theorem Kj {H : Type} {enc : TypeId × Value → H} {P : Program} {W : World} {r : Reach} {b0 : Nat} {t e : TypeId} {v : Value} {d : DataW H} {ps : List MemPlace} (ht : P.underlying t = some (.slice e)) (he : P.underlying e = some (.int .i64)) (hc : P.cellsOf e = 1)
  (hval : Value.okWide P W r b0 t v) (h : DataW.Trod enc P W 0 (fun _ => true) true t v d ps) :
  ∃ l, VZ W v l ∧ (∀ n, n ∈ l → (Lit.int .i64 n).wf = true) ∧ ∀ W', Ev.Kept W W' → ∀ sp : Nat → Bool, (∀ p, p ∈ ps → sp p.block = true) → DataW.Trod enc P W' 0 sp true t v d ps := by
 obtain ⟨a0, len, cap, rfl⟩ := okWide_slice ht hval
 obtain ⟨fuel, hf⟩ := h
 rcases open_ints ht he hc hf with ⟨hcs, hx⟩ | ⟨a, len', cap', zs, hcs, _, hle, hmax, hall, hx, hcell, hwf⟩
 ·simp [Value.cells] at hcs
  obtain ⟨rfl, rfl, rfl⟩ := hcs
  simp only [Prod.mk.injEq] at hx
  obtain ⟨rfl, rfl⟩ := hx
  exact ⟨[], .inl ⟨rfl, rfl⟩, fun n hn => (by cases hn), fun W' _ sp _ => shut_slice_nil ht⟩
 ·simp [Value.cells] at hcs
  obtain ⟨rfl, rfl, rfl⟩ := hcs
  simp only [Prod.mk.injEq] at hx
  obtain ⟨rfl, rfl⟩ := hx
  simp only [if_true] at hall
  refine ⟨zs.take len, .inr ⟨a, len, cap, zs, rfl, by omega, hle, rfl, hcell⟩, fun n hn => hwf n (List.mem_of_mem_take hn), fun W' hk sp hsp => ?_⟩
  refine ⟨0 + 2, shut_ints 0 ht he hc (Nat.zero_le _) hle hmax ?_ (fun i hi => ?_) hwf⟩
  ·rw [hall]
   by_cases hz : cap = 0
   ·have : len = 0 := by omega
    rw [hz, this]; simp
   ·have : sp a.block = true := hsp (.cell a.block (a.off + 0)) (MemPlace.mem_row.2 ⟨0, by omega, rfl⟩)
    rw [this]; simp
  ·have hci := hcell i hi
   have hlt := World.block_lt_of_cell? W _ hci
   rw [← hci]
   simp only [World.cell?, hk.2.2.2 _ hlt]
theorem qf6 {W : World} {v : Value} {l : List Int} (h : VZ W v l) : ∃ (tb : Nat → Option (List AVal)) (a : AVal), (∀ o, @ArgI (gtab tb o) a l) ∧ (∀ σ : Sg, Den σ a v) ∧
  ∀ g m, tb g = some m → g < W.heap.size ∧ ∀ (i : Nat) (u : AVal), m[i]? = some u → ∃ v', W.cell? (at' g i) = some v' ∧ ∀ τ : Sg, Den τ u v' := by
 rcases h with ⟨rfl, rfl⟩ | ⟨a, len, cap, zs, rfl, hlz, hle, rfl, hcell⟩
 ·exact ⟨fun _ => none, .nilSlice, fun o => @Yf (gtab _ o), fun σ => .nilSlice, fun g m e => by cases e⟩
 ·by_cases hz : len = 0
  ·subst hz
   refine ⟨fun _ => none, .gslice a.block a.off 0 1, fun o => ?_, fun σ => .gslice0, fun g m e => by cases e⟩
   rw [List.take_zero]
   exact ⟨rfl, fun i h => by simp at h⟩
  ·obtain ⟨b, off, rfl, hat⟩ := ints_at hcell (by omega)
   have hlen : (zs.take len).length = len := by simp; omega
   have h0 := hat 0 (by omega)
   have hb : b < W.heap.size := World.block_lt_of_cell? W _ h0
   have hex : ∀ i, i < off → ∃ v', W.cell? (at' b i) = some v' := by
    intro i hi
    unfold World.cell? at h0 ⊢
    dsimp only at h0 ⊢
    cases hq : W.heap[b]? with
    | none => rw [hq] at h0; cases h0
    | some o =>
     rw [hq] at h0
     cases o with
     | cells c t fr =>
      dsimp only at h0 ⊢
      have : off + 0 < c.size := by
       rcases Nat.lt_or_ge (off + 0) c.size with h | h
       ·exact h
       ·rw [Array.getElem?_eq_none h] at h0; cases h0
      exact ⟨c[i]'(by omega), Array.getElem?_eq_getElem (by omega)⟩
     | _ => cases h0
   refine ⟨fun g => if g = b then some (List.replicate off AVal.und ++ (zs.take len).map iv) else none, .gslice b off len 1, fun o => ?_, fun σ => .gslice hle, fun g m e => ?_⟩
   ·have := @qf9 (fun g => if g = b then some (List.replicate off AVal.und ++ (zs.take len).map iv) else none) o b off (zs.take len) (by simp)
    rw [hlen] at this; exact this
   ·have e' : (if g = b then some (List.replicate off AVal.und ++ (zs.take len).map iv) else none) = some m := e
    split at e' <;> cases e'
    rename_i hg
    subst hg
    refine ⟨hb, fun i u hu => ?_⟩
    by_cases hi : i < off
    ·obtain ⟨v', hv'⟩ := hex i hi
     rw [List.getElem?_append_left (by simpa using hi)] at hu
     have : u = .und := by
      rw [List.getElem?_replicate] at hu
      split at hu <;> (cases hu; try rfl)
     subst this
     exact ⟨v', hv', fun τ => .und _⟩
    ·rw [List.getElem?_append_right (by simpa using hi), List.length_replicate, List.getElem?_map] at hu
     cases hq : (zs.take len)[i - off]? with
     | none => rw [hq] at hu; cases hu
     | some x =>
      rw [hq] at hu
      cases hu
      have hlt : i - off < len := by
       have := (List.getElem?_eq_some_iff.1 hq).1
       omega
      have hx : zs.getD (i - off) 0 = x := by
       rw [List.getElem?_take_of_lt hlt] at hq
       simp [List.getD, hq]
      have := hat (i - off) (by omega)
      rw [show off + (i - off) = i by omega, hx] at this
      exact ⟨_, this, fun τ => .int _ _⟩
end Go.Vs
end
section
namespace Go.Vs
open Go Go.Proofs Go.Bridge Go.Proofs.YtnkeadjkckpknaaGreatDoor
def Want [GTab] (bl : Nat) (out : List AVal) (w : AVal) (l : List (List UInt8)) (H : Heap) (nx : Nat) : Prop := ∃ Γ own, HOK Γ H nx ∧ RowV Γ own 20 AVal.str w l ∧ Γ bl = some out ∧ own bl = 0
theorem RowV.srcStr [GTab] {Γ : GH} {own : Nat → Nat} {role : Nat} {v : AVal} {l : List (List UInt8)} (h : RowV Γ own role AVal.str v l) : SrcV Γ v 1 l.length (l.map AVal.str) := by
 rcases h with ⟨rfl, rfl⟩ | ⟨b, cs, ⟨full, rfl⟩, h1, h2, h3⟩
 ·exact .inl ⟨rfl, rfl, rfl⟩
 ·have := jq h3 (by simp)
  exact .inr ⟨b, 0, full, cs, rfl, h2, by omega, by rw [List.drop_zero, Nat.mul_one, h3]⟩
section
variable [Ev.GTab] [GTab] [Ev.SymC Tryz.prog 202 25] {t : TypeId} {fz : Nat × Nat}
end
end Go.Vs
end
section
namespace Go.Vs.Slices
open Go.Proofs Go.Vs
variable [GTab]
def code : List Ins := [(40, 0, 0), (6, 0, 0), (5, 0, 0), (35, 5, 0), (6, 1, 0), (1, 0, 0), (6, 2, 0), (5, 2, 0), (5, 0, 0), (17, 0, 0), (27, 20, 0), (5, 1, 0), (5, 2, 0), (40, 0, 0), (31, 0, 0), (5, 2, 0), (1, 1, 0), (8, 0, 0), (6, 2, 0), (26, 7, 0),
 (1, 1, 0), (6, 2, 0), (5, 2, 0), (5, 0, 0), (17, 0, 0), (27, 72, 0), (5, 2, 0), (6, 3, 0), (5, 3, 0), (1, 0, 0), (19, 0, 0), (27, 42, 0), (5, 1, 0), (5, 3, 0), (30, 0, 0), (5, 1, 0), (5, 3, 0), (1, 1, 0), (9, 0, 0), (30, 0, 0), (17, 0, 0), (26, 43, 0), (2, 0, 0), (27, 67, 0),
 (5, 1, 0), (5, 3, 0), (30, 0, 0), (6, 4, 0), (5, 1, 0), (5, 3, 0), (5, 1, 0), (5, 3, 0), (1, 1, 0), (9, 0, 0), (30, 0, 0), (31, 0, 0), (5, 1, 0), (5, 3, 0), (1, 1, 0), (9, 0, 0), (5, 4, 0), (31, 0, 0), (5, 3, 0), (1, 1, 0), (9, 0, 0), (6, 3, 0), (26, 28, 0),
 (5, 2, 0), (1, 1, 0), (8, 0, 0), (6, 2, 0), (26, 22, 0), (1, 0, 0), (6, 2, 0), (5, 2, 0), (5, 0, 0), (17, 0, 0), (27, 87, 0), (5, 1, 0), (5, 2, 0), (30, 0, 0), (39, 1, 0), (5, 2, 0), (1, 1, 0), (8, 0, 0), (6, 2, 0), (26, 74, 0), (41, 0, 0)]
def nums : List Int := [0, 1]
abbrev C : kr := JN [code]
abbrev N : Int → Option Int := Vq nums
abbrev u (n : Int) : Int := IntKind.u64.wrap n
abbrev s (n : Int) : Int := IntKind.i64.wrap n
def hdr (n : Nat) : Int := u ((BitVec.ofInt 64 (u (u 5 * 4294967296)) ||| BitVec.ofInt 64 (u (n : Int))).toNat : Int)
theorem qcm (n : Nat) (hn : n < 13) : IntKind.i64.wrap (IntKind.u64.wrap ((BitVec.ofInt 64 (hdr n) &&& BitVec.ofInt 64 4294967295).toNat : Int)) = n := by
 match n, hn with
 | 0, _ => decide
 | 1, _ => decide
 | 2, _ => decide
 | 3, _ => decide
 | 4, _ => decide
 | 5, _ => decide
 | 6, _ => decide
 | 7, _ => decide
 | 8, _ => decide
 | 9, _ => decide
 | 10, _ => decide
 | 11, _ => decide
 | 12, _ => decide
 | k + 13, h => exact absurd h (by omega)
def bub : Nat → List Int → List Int
 | 0, l => l
 | j + 1, l => if l.getD (j + 1) 0 < l.getD j 0 then bub j ((l.set (j + 1) (l.getD j 0)).set j (l.getD (j + 1) 0)) else l
def srtN : Nat → Nat → List Int → List Int
 | 0, _, l => l
 | m + 1, i, l => srtN m (i + 1) (bub i l)
def srt (l : List Int) : List Int := srtN (l.length - 1) 1 l
theorem bub_len : ∀ (j : Nat) (l : List Int), (bub j l).length = l.length
 | 0, l => rfl
 | j + 1, l => by unfold bub; split <;> simp [bub_len j]
theorem Vh : ∀ (m i : Nat) (l : List Int), (srtN m i l).length = l.length
 | 0, _, _ => rfl
 | m + 1, i, l => by unfold srtN; rw [Vh m, bub_len]
theorem srt_len (l : List Int) : (srt l).length = l.length := Vh _ _ _
def InR (l : List Int) : Prop := ∀ x, x ∈ l → -9223372036854775808 ≤ x ∧ x < 9223372036854775808
theorem InR.getD {l : List Int} (h : InR l) (i : Nat) : -9223372036854775808 ≤ l.getD i 0 ∧ l.getD i 0 < 9223372036854775808 := by
 simp only [List.getD]
 cases e : l[i]? with
 | none => simp
 | some x => exact h x (List.mem_of_getElem? e)
theorem InR.set {l : List Int} (h : InR l) {i : Nat} {v : Int} (hv : -9223372036854775808 ≤ v ∧ v < 9223372036854775808) : InR (l.set i v) := fun x hx => by
 rcases List.mem_or_eq_of_mem_set hx with h1 | h1
 ·exact h x h1
 ·rw [h1]; exact hv
theorem InR.bub : ∀ (j : Nat) {l : List Int}, InR l → InR (bub j l)
 | 0, l, h => h
 | j + 1, l, h => by
  unfold Slices.bub
  split
  ·exact InR.bub j ((h.set (h.getD _)).set (h.getD _))
  ·exact h
theorem InR.srtN : ∀ (m i : Nat) {l : List Int}, InR l → InR (srtN m i l)
 | 0, _, _, h => h
 | m + 1, i, l, h => InR.srtN m (i + 1) (h.bub i)
section
variable (num : Int → List UInt8) (n r i j x a b : Int) (W : Wd)
theorem b1 : runS num C N 2 (mk 1 [0, 0, 0, 0, 0] [n] W) = some (mk 3 [n, 0, 0, 0, 0] [n] W) := by kernel_rfl
theorem b4 : runS num C N 3 (mk 4 [n, 0, 0, 0, 0] [r] W) = some (mk 7 [n, r, u 0, 0, 0] [] W) := by kernel_rfl
theorem b7 : runS num C N 3 (mk 7 [n, r, i, j, x] [] W) = some (mk 10 [n, r, i, j, x] [bitI (decide (s i < s n))] W) := by kernel_rfl
theorem j10 (c : Bool) : runS num C N 1 (mk 10 [n, r, i, j, x] [bitI c] W) = some (mk (if c then 11 else 20) [n, r, i, j, x] [] W) := by cases c <;> kernel_rfl
theorem b11 : runS num C N 2 (mk 11 [n, r, i, j, x] [] W) = some (mk 13 [n, r, i, j, x] [r, i] W) := by kernel_rfl
theorem b15 : runS num C N 5 (mk 15 [n, r, i, j, x] [] W) = some (mk 7 [n, r, u (i + u 1), j, x] [] W) := by kernel_rfl
theorem b20 : runS num C N 2 (mk 20 [n, r, i, j, x] [] W) = some (mk 22 [n, r, u 1, j, x] [] W) := by kernel_rfl
theorem b22 : runS num C N 3 (mk 22 [n, r, i, j, x] [] W) = some (mk 25 [n, r, i, j, x] [bitI (decide (s i < s n))] W) := by kernel_rfl
theorem j25 (c : Bool) : runS num C N 1 (mk 25 [n, r, i, j, x] [bitI c] W) = some (mk (if c then 26 else 72) [n, r, i, j, x] [] W) := by cases c <;> kernel_rfl
theorem b26 : runS num C N 2 (mk 26 [n, r, i, j, x] [] W) = some (mk 28 [n, r, i, i, x] [] W) := by kernel_rfl
theorem b28 : runS num C N 3 (mk 28 [n, r, i, j, x] [] W) = some (mk 31 [n, r, i, j, x] [bitI (decide (s (u 0) < s j))] W) := by kernel_rfl
theorem j31 (c : Bool) : runS num C N 1 (mk 31 [n, r, i, j, x] [bitI c] W) = some (mk (if c then 32 else 42) [n, r, i, j, x] [] W) := by cases c <;> kernel_rfl
theorem b32 : runS num C N 2 (mk 32 [n, r, i, j, x] [] W) = some (mk 34 [n, r, i, j, x] [r, j] W) := by kernel_rfl
theorem b35 : runS num C N 4 (mk 35 [n, r, i, j, x] [a] W) = some (mk 39 [n, r, i, j, x] [a, r, u (j - u 1)] W) := by kernel_rfl
theorem b40 : runS num C N 2 (mk 40 [n, r, i, j, x] [a, b] W) = some (mk 43 [n, r, i, j, x] [bitI (decide (s a < s b))] W) := by kernel_rfl
theorem b42 : runS num C N 1 (mk 42 [n, r, i, j, x] [] W) = some (mk 43 [n, r, i, j, x] [bitI false] W) := by kernel_rfl
theorem j43 (c : Bool) : runS num C N 1 (mk 43 [n, r, i, j, x] [bitI c] W) = some (mk (if c then 44 else 67) [n, r, i, j, x] [] W) := by cases c <;> kernel_rfl
theorem b44 : runS num C N 2 (mk 44 [n, r, i, j, x] [] W) = some (mk 46 [n, r, i, j, x] [r, j] W) := by kernel_rfl
theorem b47 : runS num C N 7 (mk 47 [n, r, i, j, x] [a] W) = some (mk 54 [n, r, i, j, a] [r, j, r, u (j - u 1)] W) := by kernel_rfl
theorem b56 : runS num C N 5 (mk 56 [n, r, i, j, x] [] W) = some (mk 61 [n, r, i, j, x] [r, u (j - u 1), x] W) := by kernel_rfl
theorem b62 : runS num C N 5 (mk 62 [n, r, i, j, x] [] W) = some (mk 28 [n, r, i, u (j - u 1), x] [] W) := by kernel_rfl
theorem b67 : runS num C N 5 (mk 67 [n, r, i, j, x] [] W) = some (mk 22 [n, r, u (i + u 1), j, x] [] W) := by kernel_rfl
theorem b72 : runS num C N 2 (mk 72 [n, r, i, j, x] [] W) = some (mk 74 [n, r, u 0, j, x] [] W) := by kernel_rfl
theorem b74 : runS num C N 3 (mk 74 [n, r, i, j, x] [] W) = some (mk 77 [n, r, i, j, x] [bitI (decide (s i < s n))] W) := by kernel_rfl
theorem j77 (c : Bool) : runS num C N 1 (mk 77 [n, r, i, j, x] [bitI c] W) = some (mk (if c then 78 else 87) [n, r, i, j, x] [] W) := by cases c <;> kernel_rfl
theorem b78 : runS num C N 2 (mk 78 [n, r, i, j, x] [] W) = some (mk 80 [n, r, i, j, x] [r, i] W) := by kernel_rfl
theorem b81 : runS num C N 6 (mk 81 [n, r, i, j, x] [a] W) = some (mk 74 [n, r, u (i + u 1), j, x] [] (W.line (num (s a)))) := by kernel_rfl
theorem e87 : (mk 87 [n, r, i, j, x] [] W).stepC num C N = some (.over W) := by kernel_rfl
end
theorem pk_z (p : List Int) (a b : Int) : pk (p ++ [a, b]) 0 = b := by simp [pk, List.getD]
theorem pk_y (p : List Int) (a b : Int) : pk (p ++ [a, b]) 1 = a := by simp [pk, List.getD]
theorem qha (p : List Int) (a b c : Int) : pk (p ++ [a, b, c]) 0 = c := by simp [pk, List.getD]
theorem qjn (p : List Int) (a b c : Int) : pk (p ++ [a, b, c]) 1 = b := by simp [pk, List.getD]
theorem qiv (p : List Int) (a b c : Int) : pk (p ++ [a, b, c]) 2 = a := by simp [pk, List.getD]
theorem qhc (p : List Int) (a b : Int) : zP 2 (p ++ [a, b]) = p := by simp [zP]
theorem qh2 (p : List Int) (a b c : Int) : zP 3 (p ++ [a, b, c]) = p := by simp [zP]
section
variable {num : Int → List UInt8} {room : Int} {lits inputs : List Int} {taken : Nat} {lines : List (List UInt8)} {n : Nat} {xs ls p : List Int} {j : Nat} {pc : Int}
theorem yh (hn : n < 13) : Wd.len ⟨0 :: hdr n :: xs, room, lits, inputs, taken, lines⟩ 1 = n := by
 unfold Wd.len Wd.word
 dsimp only
 rw [if_pos (by simp; omega)]
 exact qcm n hn
theorem VA (hn : n < 13) (hj : j < n) : Wd.at ⟨0 :: hdr n :: xs, room, lits, inputs, taken, lines⟩ 1 j = ((j + 2 : Nat) : Int) := by
 unfold Wd.at
 rw [yh hn, if_neg (by omega), if_neg (by omega)]
 have e1 : IntKind.u64.wrap ((1 : Int) + 1) = 2 := by decide
 have e2 : IntKind.u64.wrap (j : Int) = j := u_id (by omega) (by omega)
 rw [e1, e2, u_id (by omega) (by omega)]
 omega
theorem qb6 (hn : n < 13) (hj : j < n) : ZH (j : Int) (n : Int) = j := by
 unfold ZH
 rw [u_id (by omega) (by omega), if_neg (by omega)]
 exact s_id (by omega) (by omega)
theorem Jr (hn : n < 13) (hx : xs.length = n) (hj : j < n) :
  (mk pc ls (p ++ [1, (j : Int)]) ⟨0 :: hdr n :: xs, room, lits, inputs, taken, lines⟩).part 30 0 = some (mk pc ls (p ++ [xs.getD j 0]) ⟨0 :: hdr n :: xs, room, lits, inputs, taken, lines⟩, 0) := by
 unfold Mst.part
 dsimp only
 rw [if_neg (by omega), if_neg (by omega), if_pos rfl, pk_y, pk_z, if_neg (by omega), yh hn, qb6 hn hj, if_neg (by omega)]
 have hg : Wd.get ⟨0 :: hdr n :: xs, room, lits, inputs, taken, lines⟩ 1 j = xs.getD j 0 := by
  unfold Wd.get
  rw [VA hn hj]
  unfold Wd.word
  dsimp only
  rw [if_pos (by simp; omega), Int.toNat_natCast]
  simp [List.getD]
 rw [hg]
 unfold Mst.put Mst.st
 dsimp only
 rw [qhc]
theorem VK (hn : n < 13) (hx : xs.length = n) (hj : j < n) {v : Int} :
  (mk pc ls (p ++ [1, (j : Int), v]) ⟨0 :: hdr n :: xs, room, lits, inputs, taken, lines⟩).part 31 0 = some (mk pc ls p ⟨0 :: hdr n :: xs.set j v, room, lits, inputs, taken, lines⟩, 0) := by
 unfold Mst.part
 dsimp only
 rw [if_neg (by omega), if_neg (by omega), if_neg (by omega), if_pos rfl, qiv, qjn, qha, if_neg (by omega), yh hn, qb6 hn hj, if_neg (by omega)]
 have hg : Wd.set ⟨0 :: hdr n :: xs, room, lits, inputs, taken, lines⟩ 1 j v = ⟨0 :: hdr n :: xs.set j v, room, lits, inputs, taken, lines⟩ := by
  unfold Wd.set
  rw [VA hn hj, if_neg (by simp; omega), Int.toNat_natCast]
  simp
 rw [hg]
 unfold Mst.st
 dsimp only
 rw [qh2]
theorem Q8 {op : Int} {S' : Mst} (hop : op = 30 ∨ op = 31) {st : List Int} {W : Wd} (hc : C 0 pc = some (op, 0, 0)) (hp : (mk pc ls st W).part op 0 = some (S', 0)) :
  runS num C N 1 (mk pc ls st W) = some { S' with top := { S'.top with pc := IntKind.i64.wrap (S'.top.pc + 1) } } := by
 have hj : (mk pc ls st W).jump op 0 = none := by rcases hop with rfl | rfl <;> rfl
 have hd : (mk pc ls st W).does num N op 0 = (mk pc ls st W).part op 0 := by rcases hop with rfl | rfl <;> kernel_rfl
 unfold runS Mst.stepG Mst.stepC
 rw [hc]
 dsimp only
 rw [if_pos rfl, if_neg (by omega), if_neg (by omega), if_neg (by omega), hj]
 dsimp only
 rw [hd, hp]
 rfl
theorem YA {W : Wd} {st : List Int} (hc : C 0 pc = some (40, 0, 0)) {v : Int} {W' : Wd} (hi : W.input = (W', v)) :
  runS num C N 1 (mk pc ls st W) = some (mk (IntKind.i64.wrap (pc + 1)) ls (st ++ [v]) W') := by
 have hj : (mk pc ls st W).jump 40 0 = none := rfl
 have hd : (mk pc ls st W).does num N 40 0 = some (mk pc ls (st ++ [v]) W', 0) := by
  show some ((({ (mk pc ls st W) with wd := W.input.1 } : Mst).push W.input.2), (0 : Int)) = _
  rw [hi]; rfl
 unfold runS Mst.stepG Mst.stepC
 rw [hc]
 dsimp only
 rw [if_pos rfl, if_neg (by omega), if_neg (by omega), if_neg (by omega), hj]
 dsimp only
 rw [hd]
 rfl
theorem Qc {v : Int} (h : inputs[taken]? = some v) {words : List Int} : Wd.input ⟨words, room, lits, inputs, taken, lines⟩ = (⟨words, room, lits, inputs, taken + 1, lines⟩, u v) := by
 unfold Wd.input
 have hlt := (List.getElem?_eq_some_iff.1 h).1
 dsimp only
 rw [if_neg (by omega)]
 simp [List.getD, h]
theorem qcb (hn : n < 13) (hr : room = 200) : runS num C N 1 (mk 3 [(n : Int), 0, 0, 0, 0] [(n : Int)] ⟨[0], room, lits, inputs, taken, lines⟩) = some (mk 4 [(n : Int), 0, 0, 0, 0] [1] ⟨0 :: hdr n :: List.replicate n 0, room, lits, inputs, taken, lines⟩) := by
 have hc : C 0 3 = some (35, 5, 0) := by kernel_rfl
 have hj : (mk 3 [(n : Int), 0, 0, 0, 0] [(n : Int)] ⟨[0], room, lits, inputs, taken, lines⟩).jump 35 5 = none := rfl
 have hd : (mk 3 [(n : Int), 0, 0, 0, 0] [(n : Int)] ⟨[0], room, lits, inputs, taken, lines⟩).does num N 35 5 = some ((mk 3 [(n : Int), 0, 0, 0, 0] [(n : Int)] ⟨[0], room, lits, inputs, taken, lines⟩).make 5) := by kernel_rfl
 have hm : (mk 3 [(n : Int), 0, 0, 0, 0] [(n : Int)] ⟨[0], room, lits, inputs, taken, lines⟩).make 5 = (mk 3 [(n : Int), 0, 0, 0, 0] [1] ⟨0 :: hdr n :: List.replicate n 0, room, lits, inputs, taken, lines⟩, 0) := by
  unfold Mst.make
  have hp : pk [(n : Int)] 0 = n := rfl
  dsimp only
  rw [if_neg (by rw [hp]; omega)]
  show (match Wd.slice _ 5 (IntKind.i64.wrap (pk [(n : Int)] 0)) with | none => _ | some (W, r) => _) = _
  rw [hp, s_id (by omega) (by omega)]
  unfold Wd.slice Wd.alloc
  rw [if_neg (by omega), if_neg (by omega), if_neg (by dsimp only; simp; omega)]
  show (_, _) = (_, _)
  simp only [Mst.put, Mst.st, zP, hdr, Int.toNat_natCast]
  rfl
 unfold runS Mst.stepG Mst.stepC
 rw [hc]
 dsimp only
 rw [if_pos rfl, if_neg (by omega), if_neg (by omega), if_neg (by omega), hj]
 dsimp only
 rw [hd, hm]
 rfl
end
section
variable {num : Int → List UInt8} {lits : List Int}
theorem one : u 1 = 1 := by decide
theorem zero : u 0 = 0 := by decide
theorem u_up {i : Nat} (h : i < 1000) : u ((i : Int) + u 1) = ((i + 1 : Nat) : Int) := by rw [one]; show IntKind.u64.wrap _ = _; rw [u_id (by omega) (by omega)]; omega
theorem u_dn {i : Nat} (h : i < 1000) : u (((i + 1 : Nat) : Int) - u 1) = ((i : Nat) : Int) := by rw [one]; show IntKind.u64.wrap _ = _; rw [u_id (by omega) (by omega)]; omega
theorem KK {i k : Nat} (h : i < 1000) (hk : k < 1000) : decide (s (i : Int) < s (k : Int)) = decide (i < k) := by
 show decide (IntKind.i64.wrap _ < IntKind.i64.wrap _) = _
 rw [s_id (by omega) (by omega), s_id (by omega) (by omega)]
 by_cases hx : i < k <;> simp [hx]
def part (n : Nat) (l : List Int) (k : Nat) : List Int := (l.take k).map u ++ List.replicate (n - k) 0
theorem Yl {n : Nat} {l : List Int} (hl : l.length = n) {k : Nat} (hk : k ≤ n) : (part n l k).length = n := by
 unfold part; simp; omega
theorem qaf {n : Nat} {l : List Int} (hl : l.length = n) {k : Nat} (hk : k < n) : (part n l k).set k (u (l.getD k 0)) = part n l (k + 1) := by
 unfold part
 have hkl : k < l.length := by omega
 rw [List.set_append_right _ _ (by simp; omega)]
 have e1 : k - ((l.take k).map u).length = 0 := by simp; omega
 rw [e1, show n - k = (n - (k + 1)) + 1 by omega, List.replicate_succ, List.set_cons_zero]
 have e2 : l.take (k + 1) = l.take k ++ [l.getD k 0] := by
  rw [List.take_add_one, List.getElem?_eq_getElem hkl]
  simp [List.getD, List.getElem?_eq_getElem hkl]
 rw [e2]; simp
theorem fill {l : List Int} {n : Nat} (hl : l.length = n) (hn : n < 13) : ∀ (m k : Nat), m + k = n →
  ∃ c, c ≤ 20 * (m + 1) ∧ Steps num C N c (mk 7 [(n : Int), 1, (k : Int), 0, 0] [] ⟨0 :: hdr n :: part n l k, 200, lits, (n : Int) :: l, k + 1, []⟩) (mk 20 [(n : Int), 1, (n : Int), 0, 0] [] ⟨0 :: hdr n :: l.map u, 200, lits, (n : Int) :: l, n + 1, []⟩)
 | 0, k, h => by
  have hk : k = n := by omega
  subst hk
  have h1 := qm (b7 num (k : Int) 1 (k : Int) 0 0 ⟨0 :: hdr k :: part k l k, 200, lits, (k : Int) :: l, k + 1, []⟩)
  have e : decide (s (k : Int) < s (k : Int)) = false := by simp
  rw [e] at h1
  have h2 := qm (j10 num (k : Int) 1 (k : Int) 0 0 ⟨0 :: hdr k :: part k l k, 200, lits, (k : Int) :: l, k + 1, []⟩ false)
  refine ⟨_, ?_, (h1.trans h2).cast rfl ?_⟩
  ·omega
  ·have : part k l k = l.map u := by unfold part; rw [List.take_of_length_le (by omega)]; simp
   rw [this]; rfl
 | m + 1, k, h => by
  have hkl : k < l.length := by omega
  have h1 := qm (b7 num (n : Int) 1 (k : Int) 0 0 ⟨0 :: hdr n :: part n l k, 200, lits, (n : Int) :: l, k + 1, []⟩)
  rw [KK (by omega) (by omega), decide_eq_true (by omega : k < n)] at h1
  have h2 := qm (j10 num (n : Int) 1 (k : Int) 0 0 ⟨0 :: hdr n :: part n l k, 200, lits, (n : Int) :: l, k + 1, []⟩ true)
  have h3 := qm (b11 num (n : Int) 1 (k : Int) 0 0 ⟨0 :: hdr n :: part n l k, 200, lits, (n : Int) :: l, k + 1, []⟩)
  have h4 := qm (YA (num := num) (pc := 13) (ls := [(n : Int), 1, (k : Int), 0, 0]) (st := [1, (k : Int)]) (by kernel_rfl) (Qc (words := 0 :: hdr n :: part n l k) (room := 200) (lits := lits) (inputs := (n : Int) :: l) (taken := k + 1) (lines := []) (v := l.getD k 0) (by simp [List.getD, List.getElem?_eq_getElem hkl])))
  have h5 := qm (Q8 (num := num) (pc := 14) (op := 31) (.inr rfl) (by kernel_rfl) (VK (p := []) (pc := 14) (ls := [(n : Int), 1, (k : Int), 0, 0]) (room := 200) (lits := lits) (inputs := (n : Int) :: l) (taken := k + 1 + 1) (lines := []) hn (Yl hl (show k ≤ n by omega)) (show k < n by omega) (v := u (l.getD k 0))))
  rw [qaf hl (by omega)] at h5
  have h6 := qm (b15 num (n : Int) 1 (k : Int) 0 0 ⟨0 :: hdr n :: part n l (k + 1), 200, lits, (n : Int) :: l, k + 1 + 1, []⟩)
  rw [u_up (by omega)] at h6
  obtain ⟨c, hc, h7⟩ := fill hl hn m (k + 1) (by omega)
  refine ⟨_, ?_, (((((h1.trans h2).trans h3).trans h4).trans h5).trans h6).trans h7⟩
  omega
theorem map_set {l : List Int} {i : Nat} {v : Int} : (l.map u).set i (u v) = (l.set i v).map u := by
 rw [List.map_set]
theorem yb {l : List Int} {i : Nat} : (l.map u).getD i 0 = u (l.getD i 0) := by
 simp only [List.getD, List.getElem?_map]
 cases l[i]? with
 | none => simp [zero]
 | some x => rfl
variable {inputs : List Int} {taken : Nat}
theorem qeg {n : Nat} (hn : n < 13) {i : Int} : ∀ (j : Nat) (l : List Int) (x : Int), l.length = n → j < n → InR l →
  ∃ c, c ≤ 60 * (j + 1) ∧ ∃ j' x', Steps num C N c (mk 28 [(n : Int), 1, i, (j : Int), x] [] ⟨0 :: hdr n :: l.map u, 200, lits, inputs, taken, []⟩) (mk 67 [(n : Int), 1, i, j', x'] [] ⟨0 :: hdr n :: (bub j l).map u, 200, lits, inputs, taken, []⟩)
 | 0, l, x, hl, hj, hr => by
  have h1 := qm (b28 num (n : Int) 1 i ((0 : Nat) : Int) x ⟨0 :: hdr n :: l.map u, 200, lits, inputs, taken, []⟩)
  have e : decide (s (u 0) < s ((0 : Nat) : Int)) = false := by decide
  rw [e] at h1
  have h2 := qm (j31 num (n : Int) 1 i ((0 : Nat) : Int) x ⟨0 :: hdr n :: l.map u, 200, lits, inputs, taken, []⟩ false)
  have h3 := qm (b42 num (n : Int) 1 i ((0 : Nat) : Int) x ⟨0 :: hdr n :: l.map u, 200, lits, inputs, taken, []⟩)
  have h4 := qm (j43 num (n : Int) 1 i ((0 : Nat) : Int) x ⟨0 :: hdr n :: l.map u, 200, lits, inputs, taken, []⟩ false)
  exact ⟨_, by omega, _, _, ((h1.trans h2).trans h3).trans h4⟩
 | j + 1, l, x, hl, hj, hr => by
  have hxl : (l.map u).length = n := by simp [hl]
  have h1 := qm (b28 num (n : Int) 1 i ((j + 1 : Nat) : Int) x ⟨0 :: hdr n :: l.map u, 200, lits, inputs, taken, []⟩)
  have e : decide (s (u 0) < s ((j + 1 : Nat) : Int)) = true := by
   rw [zero]; have := KK (i := 0) (k := j + 1) (by omega) (by omega)
   rw [show ((0 : Nat) : Int) = 0 from rfl] at this
   rw [this]; simp
  rw [e] at h1
  have h2 := qm (j31 num (n : Int) 1 i ((j + 1 : Nat) : Int) x ⟨0 :: hdr n :: l.map u, 200, lits, inputs, taken, []⟩ true)
  have h3 := qm (b32 num (n : Int) 1 i ((j + 1 : Nat) : Int) x ⟨0 :: hdr n :: l.map u, 200, lits, inputs, taken, []⟩)
  have h4 := qm (Q8 (num := num) (pc := 34) (op := 30) (.inl rfl) (by kernel_rfl) (Jr (p := []) (pc := 34) (ls := [(n : Int), 1, i, ((j + 1 : Nat) : Int), x]) (room := 200) (lits := lits) (inputs := inputs) (taken := taken) (lines := []) hn hxl hj))
  rw [yb] at h4
  have h5 := qm (b35 num (n : Int) 1 i ((j + 1 : Nat) : Int) x (u (l.getD (j + 1) 0)) ⟨0 :: hdr n :: l.map u, 200, lits, inputs, taken, []⟩)
  rw [u_dn (by omega)] at h5
  have h6 := qm (Q8 (num := num) (pc := 39) (op := 30) (.inl rfl) (by kernel_rfl) (Jr (p := [u (l.getD (j + 1) 0)]) (pc := 39) (ls := [(n : Int), 1, i, ((j + 1 : Nat) : Int), x]) (room := 200) (lits := lits) (inputs := inputs) (taken := taken) (lines := []) hn hxl (show j < n by omega)))
  rw [yb] at h6
  have h7 := qm (b40 num (n : Int) 1 i ((j + 1 : Nat) : Int) x (u (l.getD (j + 1) 0)) (u (l.getD j 0)) ⟨0 :: hdr n :: l.map u, 200, lits, inputs, taken, []⟩)
  have q1 : s (u (l.getD (j + 1) 0)) = l.getD (j + 1) 0 := qah (hr.getD _).1 (hr.getD _).2
  have q2 : s (u (l.getD j 0)) = l.getD j 0 := qah (hr.getD _).1 (hr.getD _).2
  rw [q1, q2] at h7
  have h17 := (((((h1.trans h2).trans h3).trans h4).trans h5).trans h6).trans h7
  by_cases hq : l.getD (j + 1) 0 < l.getD j 0
  ·rw [decide_eq_true hq] at h17
   have h8 := qm (j43 num (n : Int) 1 i ((j + 1 : Nat) : Int) x ⟨0 :: hdr n :: l.map u, 200, lits, inputs, taken, []⟩ true)
   have h9 := qm (b44 num (n : Int) 1 i ((j + 1 : Nat) : Int) x ⟨0 :: hdr n :: l.map u, 200, lits, inputs, taken, []⟩)
   have h10 := qm (Q8 (num := num) (pc := 46) (op := 30) (.inl rfl) (by kernel_rfl) (Jr (p := []) (pc := 46) (ls := [(n : Int), 1, i, ((j + 1 : Nat) : Int), x]) (room := 200) (lits := lits) (inputs := inputs) (taken := taken) (lines := []) hn hxl hj))
   rw [yb] at h10
   have h11 := qm (b47 num (n : Int) 1 i ((j + 1 : Nat) : Int) x (u (l.getD (j + 1) 0)) ⟨0 :: hdr n :: l.map u, 200, lits, inputs, taken, []⟩)
   rw [u_dn (by omega)] at h11
   have h12 := qm (Q8 (num := num) (pc := 54) (op := 30) (.inl rfl) (by kernel_rfl) (Jr (p := [1, ((j + 1 : Nat) : Int)]) (pc := 54) (ls := [(n : Int), 1, i, ((j + 1 : Nat) : Int), u (l.getD (j + 1) 0)]) (room := 200) (lits := lits) (inputs := inputs) (taken := taken) (lines := []) hn hxl (show j < n by omega)))
   rw [yb] at h12
   have h13 := qm (Q8 (num := num) (pc := 55) (op := 31) (.inr rfl) (by kernel_rfl) (VK (p := []) (pc := 55) (ls := [(n : Int), 1, i, ((j + 1 : Nat) : Int), u (l.getD (j + 1) 0)]) (room := 200) (lits := lits) (inputs := inputs) (taken := taken) (lines := []) hn hxl hj (v := u (l.getD j 0))))
   rw [map_set] at h13
   have h14 := qm (b56 num (n : Int) 1 i ((j + 1 : Nat) : Int) (u (l.getD (j + 1) 0)) ⟨0 :: hdr n :: (l.set (j + 1) (l.getD j 0)).map u, 200, lits, inputs, taken, []⟩)
   rw [u_dn (by omega)] at h14
   have h15 := qm (Q8 (num := num) (pc := 61) (op := 31) (.inr rfl) (by kernel_rfl) (VK (p := []) (pc := 61) (ls := [(n : Int), 1, i, ((j + 1 : Nat) : Int), u (l.getD (j + 1) 0)]) (room := 200) (lits := lits) (inputs := inputs) (taken := taken) (lines := []) (xs := (l.set (j + 1) (l.getD j 0)).map u) hn (by simp [hl]) (show j < n by omega) (v := u (l.getD (j + 1) 0))))
   rw [map_set] at h15
   have h16 := qm (b62 num (n : Int) 1 i ((j + 1 : Nat) : Int) (u (l.getD (j + 1) 0)) ⟨0 :: hdr n :: ((l.set (j + 1) (l.getD j 0)).set j (l.getD (j + 1) 0)).map u, 200, lits, inputs, taken, []⟩)
   rw [u_dn (by omega)] at h16
   obtain ⟨c, hc, j', x', h18⟩ := qeg hn (i := i) j ((l.set (j + 1) (l.getD j 0)).set j (l.getD (j + 1) 0)) (u (l.getD (j + 1) 0)) (by simp [hl]) (by omega) ((hr.set (hr.getD _)).set (hr.getD _))
   refine ⟨_, ?_, j', x', (((((((((h17.trans h8).trans h9).trans h10).trans h11).trans h12).trans h13).trans h14).trans h15).trans h16).trans (h18.cast rfl (by rw [show bub (j + 1) l = _ from if_pos hq]))⟩
   omega
  ·rw [decide_eq_false hq] at h17
   have h8 := qm (j43 num (n : Int) 1 i ((j + 1 : Nat) : Int) x ⟨0 :: hdr n :: l.map u, 200, lits, inputs, taken, []⟩ false)
   refine ⟨_, ?_, _, _, (h17.trans h8).cast rfl (by rw [show bub (j + 1) l = _ from if_neg hq]; rfl)⟩
   omega
theorem qdt {n : Nat} (hn : n < 13) : ∀ (m i : Nat) (l : List Int) (j x : Int), l.length = n → 1 ≤ i → (m + i = n ∨ (m = 0 ∧ n ≤ i)) → i < 100 → InR l →
  ∃ c, c ≤ 1000 * (m + 1) ∧ ∃ i' j' x', Steps num C N c (mk 22 [(n : Int), 1, (i : Int), j, x] [] ⟨0 :: hdr n :: l.map u, 200, lits, inputs, taken, []⟩) (mk 72 [(n : Int), 1, i', j', x'] [] ⟨0 :: hdr n :: (srtN m i l).map u, 200, lits, inputs, taken, []⟩)
 | 0, i, l, j, x, hl, h1, hi, hi2, hr => by
  have h1 := qm (b22 num (n : Int) 1 (i : Int) j x ⟨0 :: hdr n :: l.map u, 200, lits, inputs, taken, []⟩)
  rw [KK (by omega) (by omega), decide_eq_false (by omega : ¬ i < n)] at h1
  have h2 := qm (j25 num (n : Int) 1 (i : Int) j x ⟨0 :: hdr n :: l.map u, 200, lits, inputs, taken, []⟩ false)
  exact ⟨_, by omega, _, _, _, h1.trans h2⟩
 | m + 1, i, l, j, x, hl, hi1, hi, hi2, hr => by
  have h1 := qm (b22 num (n : Int) 1 (i : Int) j x ⟨0 :: hdr n :: l.map u, 200, lits, inputs, taken, []⟩)
  rw [KK (by omega) (by omega), decide_eq_true (by omega : i < n)] at h1
  have h2 := qm (j25 num (n : Int) 1 (i : Int) j x ⟨0 :: hdr n :: l.map u, 200, lits, inputs, taken, []⟩ true)
  have h3 := qm (b26 num (n : Int) 1 (i : Int) j x ⟨0 :: hdr n :: l.map u, 200, lits, inputs, taken, []⟩)
  obtain ⟨c1, hc1, j1, x1, h4⟩ := qeg (num := num) (lits := lits) (inputs := inputs) (taken := taken) hn (i := (i : Int)) i l x hl (by omega) hr
  have h5 := qm (b67 num (n : Int) 1 (i : Int) j1 x1 ⟨0 :: hdr n :: (bub i l).map u, 200, lits, inputs, taken, []⟩)
  rw [u_up (by omega)] at h5
  obtain ⟨c2, hc2, i2, j2, x2, h6⟩ := qdt hn m (i + 1) (bub i l) j1 x1 (by rw [bub_len, hl]) (by omega) (by omega) (by omega) (hr.bub i)
  refine ⟨_, ?_, i2, j2, x2, ((((h1.trans h2).trans h3).trans h4).trans h5).trans h6⟩
  have : 60 * (i + 1) ≤ 60 * 13 := Nat.mul_le_mul (Nat.le_refl _) (by omega)
  omega
theorem YH {n : Nat} (hn : n < 13) {l : List Int} (hl : l.length = n) (hr : InR l) {j x : Int} : ∀ (m k : Nat), m + k = n →
  ∃ c, c ≤ 20 * (m + 1) ∧ Steps num C N c (mk 74 [(n : Int), 1, (k : Int), j, x] [] ⟨0 :: hdr n :: l.map u, 200, lits, inputs, taken, (l.take k).map num⟩) (mk 87 [(n : Int), 1, (n : Int), j, x] [] ⟨0 :: hdr n :: l.map u, 200, lits, inputs, taken, l.map num⟩)
 | 0, k, h => by
  have hk : k = n := by omega
  subst hk
  have h1 := qm (b74 num (k : Int) 1 (k : Int) j x ⟨0 :: hdr k :: l.map u, 200, lits, inputs, taken, (l.take k).map num⟩)
  have e : decide (s (k : Int) < s (k : Int)) = false := by simp
  rw [e] at h1
  have h2 := qm (j77 num (k : Int) 1 (k : Int) j x ⟨0 :: hdr k :: l.map u, 200, lits, inputs, taken, (l.take k).map num⟩ false)
  exact ⟨_, by omega, (h1.trans h2).cast rfl (by rw [List.take_of_length_le (by omega)]; rfl)⟩
 | m + 1, k, h => by
  have hkl : k < l.length := by omega
  have h1 := qm (b74 num (n : Int) 1 (k : Int) j x ⟨0 :: hdr n :: l.map u, 200, lits, inputs, taken, (l.take k).map num⟩)
  rw [KK (by omega) (by omega), decide_eq_true (by omega : k < n)] at h1
  have h2 := qm (j77 num (n : Int) 1 (k : Int) j x ⟨0 :: hdr n :: l.map u, 200, lits, inputs, taken, (l.take k).map num⟩ true)
  have h3 := qm (b78 num (n : Int) 1 (k : Int) j x ⟨0 :: hdr n :: l.map u, 200, lits, inputs, taken, (l.take k).map num⟩)
  have h4 := qm (Q8 (num := num) (pc := 80) (op := 30) (.inl rfl) (by kernel_rfl) (Jr (p := []) (pc := 80) (ls := [(n : Int), 1, (k : Int), j, x]) (room := 200) (lits := lits) (inputs := inputs) (taken := taken) (lines := (l.take k).map num) hn (show (l.map u).length = n by simp [hl]) (show k < n by omega)))
  rw [yb] at h4
  have h5 := qm (b81 num (n : Int) 1 (k : Int) j x (u (l.getD k 0)) ⟨0 :: hdr n :: l.map u, 200, lits, inputs, taken, (l.take k).map num⟩)
  have q1 : s (u (l.getD k 0)) = l.getD k 0 := qah (hr.getD _).1 (hr.getD _).2
  have hln : Wd.line ⟨0 :: hdr n :: l.map u, 200, lits, inputs, taken, (l.take k).map num⟩ (num (l.getD k 0)) = ⟨0 :: hdr n :: l.map u, 200, lits, inputs, taken, (l.take (k + 1)).map num⟩ := by
   unfold Wd.line
   rw [if_neg (by simp; omega)]
   have e2 : l.take (k + 1) = l.take k ++ [l.getD k 0] := by
    rw [List.take_add_one, List.getElem?_eq_getElem hkl]
    simp [List.getD, List.getElem?_eq_getElem hkl]
   rw [e2]; simp
  rw [q1, hln, u_up (by omega)] at h5
  obtain ⟨c, hc, h6⟩ := YH hn hl hr m (k + 1) (by omega)
  exact ⟨_, by omega, ((((h1.trans h2).trans h3).trans h4).trans h5).trans h6⟩
end
theorem main {num : Int → List UInt8} {lits : List Int} {l : List Int} {n : Nat} (hl : l.length = n) (hn : n < 13) (hr : InR l) :
  ∃ c, c ≤ 20000 ∧ ∃ i j x, Steps num C N c (mk 0 [0, 0, 0, 0, 0] [] ⟨[0], 200, lits, (n : Int) :: l, 0, []⟩) (mk 87 [(n : Int), 1, i, j, x] [] ⟨0 :: hdr n :: (srt l).map u, 200, lits, (n : Int) :: l, n + 1, (srt l).map num⟩) := by
 have h0 := qm (YA (num := num) (pc := 0) (ls := [0, 0, 0, 0, 0]) (st := []) (by kernel_rfl) (Qc (words := [0]) (room := 200) (lits := lits) (inputs := (n : Int) :: l) (taken := 0) (lines := []) (v := (n : Int)) rfl))
 have hu : u (n : Int) = n := u_id (by omega) (by omega)
 rw [hu] at h0
 have h1 := qm (b1 num (n : Int) ⟨[0], 200, lits, (n : Int) :: l, 1, []⟩)
 have h2 := qm (qcb (num := num) (lits := lits) (inputs := (n : Int) :: l) (taken := 1) (lines := []) hn rfl)
 have h3 := qm (b4 num (n : Int) 1 ⟨0 :: hdr n :: List.replicate n 0, 200, lits, (n : Int) :: l, 1, []⟩)
 rw [zero] at h3
 obtain ⟨c4, hc4, h4⟩ := fill (num := num) (lits := lits) hl hn n 0 (by omega)
 have h5 := qm (b20 num (n : Int) 1 (n : Int) 0 0 ⟨0 :: hdr n :: l.map u, 200, lits, (n : Int) :: l, n + 1, []⟩)
 rw [one] at h5
 obtain ⟨c6, hc6, i6, j6, x6, h6⟩ := qdt (num := num) (lits := lits) (inputs := (n : Int) :: l) (taken := n + 1) hn (l.length - 1) 1 l 0 0 hl (by omega) (by omega) (by omega) hr
 have h7 := qm (b72 num (n : Int) 1 i6 j6 x6 ⟨0 :: hdr n :: (srtN (l.length - 1) 1 l).map u, 200, lits, (n : Int) :: l, n + 1, []⟩)
 rw [zero] at h7
 obtain ⟨c8, hc8, h8⟩ := YH (num := num) (lits := lits) (inputs := (n : Int) :: l) (taken := n + 1) hn (l := srt l) (j := j6) (x := x6) (by rw [srt_len, hl]) (InR.srtN _ _ hr) n 0 (by omega)
 have e4 : part n l 0 = List.replicate n 0 := by unfold part; simp
 rw [e4] at h4
 have hm : 1000 * (l.length - 1 + 1) ≤ 1000 * 14 := Nat.mul_le_mul (Nat.le_refl _) (by omega)
 refine ⟨_, ?_, _, _, _, (((((((h0.trans h1).trans h2).trans h3).trans h4).trans h5).trans h6).trans h7).trans h8⟩
 omega
end Go.Vs.Slices
end
section
namespace Go.Vs
open Go.Proofs
variable [GTab]
def S1 (call : qk) (lp : Nat → ql) (N : KC) (X : Nat → KC) (R : KC) (Pn : List (AVal × Bool) → KC) (i : Int) (w : AVal) (a : AVal) (H : Heap) (nx : Nat) : Prop :=
 ∃ i0, lenS a = some i0 ∧ ifB (decide (i < Int.ofNat i0)) (ifB (decide (i < 12)) (0 ≤ i ∧ ∃ v1, idxS a i.toNat 1 = some v1 ∧ ∃ n2 : Int, ld1 H v1 = some (iv n2) ∧ true = true ∧ ∃ H3,
 H3 = newB nx [iv n2] H ∧ ∃ i4 l5, aSrc 1 H3 (AVal.slice nx 0 1 1 true) = some (i4, l5) ∧ qr l5 = true ∧ ∃ v6 H7 i8, appC H3 (nx + 1) 1 8 w i4 l5 = some (v6, H7, i8) ∧ N (envL
 AVal.und [(4, iv (IntKind.i64.wrap (i + 1))), (22, iv (IntKind.i64.wrap (i + 1))), (21, iv i), (3, v6), (29, v6), (28, AVal.slice nx 0 1 1 true), (27, iv n2), (26, v1), (25, iv i),
 (24, a), (23, w), (20, AVal.bool true), (20, AVal.bool (decide (i < 12))), (19, AVal.bool (decide (i < 12))), (17, AVal.bool true), (18, iv i), (17, AVal.bool true), (17, AVal.bool
 (decide (i < Int.ofNat i0))), (16, AVal.bool (decide (i < Int.ofNat i0))), (15, iv (Int.ofNat i0)), (14, a), (13, iv i), (4, iv i), (3, w), (2, AVal.bool false), (0, a)]) H7 i8 []
 none) (X 0 (envL AVal.und [(20, AVal.bool false), (20, AVal.bool (decide (i < 12))), (19, AVal.bool (decide (i < 12))), (17, AVal.bool true), (18, iv i), (17, AVal.bool true), (17,
 AVal.bool (decide (i < Int.ofNat i0))), (16, AVal.bool (decide (i < Int.ofNat i0))), (15, iv (Int.ofNat i0)), (14, a), (13, iv i), (4, iv i), (3, w), (2, AVal.bool false), (0, a)])
 H nx [] none)) (X 0 (envL AVal.und [(20, AVal.bool false), (20, AVal.bool false), (19, AVal.tuple []), (17, AVal.bool false), (18, AVal.tuple []), (17, AVal.bool false), (17,
 AVal.bool (decide (i < Int.ofNat i0))), (16, AVal.bool (decide (i < Int.ofNat i0))), (15, iv (Int.ofNat i0)), (14, a), (13, iv i), (4, iv i), (3, w), (2, AVal.bool false), (0, a)])
 H nx [] none)
theorem qjh (call : qk) (lp : Nat → ql) (N : KC) (X : Nat → KC) (R : KC) (Pn : List (AVal × Bool) → KC) (i : Int) (w : AVal) (a : AVal) (H : Heap) (nx : Nat) : vK Tryz.prog call (lp 104) 104 (zn (qA Tryz.prog 3) [1,1,0,1,0,0]) (envL .und [(4, iv i), (3, w), (2, AVal.bool false), (0, a)]) H nx [] none (vR N X R Pn) = S1 call lp N X R Pn i w a H nx := by kernel_rfl
def AS1 (call : qk) (lp : Nat → ql) (lv : qi) (lvc : qj) (w : AVal) (a : AVal) (H : Heap) (nx : Nat) (K : EndP) : Prop :=
 ∃ i0, lenS w = some i0 ∧ true = true ∧ ∃ H1, H1 = newB nx [iv (Int.ofNat i0)] H ∧ ∃ i2 l3, aSrc 1 H1 w = some (i2, l3) ∧ qr l3 = true ∧ ∃ v4 H5 i6, appC H1 (nx + 1) 1 8
 (AVal.slice nx 0 1 1 true) i2 l3 = some (v4, H5, i6) ∧ call 8 [AVal.str [102, 117, 110, 99, 32, 109, 97, 105, 110, 40, 41, 32, 123, 32, 110, 32, 58, 61, 32, 105, 110, 112, 117, 116,
 40, 41, 59, 32, 115, 32, 58, 61, 32, 109, 97, 107, 101, 40, 91, 93, 105, 110, 116, 44, 32, 110, 41, 59, 32, 105, 32, 58, 61, 32, 48, 59, 32, 102, 111, 114, 32, 105, 32, 60, 32, 110,
 32, 123, 32, 115, 91, 105, 93, 32, 61, 32, 105, 110, 112, 117, 116, 40, 41, 59, 32, 105, 32, 61, 32, 105, 32, 43, 32, 49, 32, 125, 10, 105, 32, 61, 32, 49, 10, 102, 111, 114, 32,
 105, 32, 60, 32, 110, 32, 123, 32, 106, 32, 58, 61, 32, 105, 59, 32, 102, 111, 114, 32, 106, 32, 62, 32, 48, 32, 38, 38, 32, 115, 91, 106, 93, 32, 60, 32, 115, 91, 106, 32, 45, 32,
 49, 93, 32, 123, 32, 120, 32, 58, 61, 32, 115, 91, 106, 93, 59, 32, 115, 91, 106, 93, 32, 61, 32, 115, 91, 106, 32, 45, 32, 49, 93, 59, 32, 115, 91, 106, 32, 45, 32, 49, 93, 32, 61,
 32, 120, 59, 32, 106, 32, 61, 32, 106, 32, 45, 32, 49, 32, 125, 59, 32, 105, 32, 61, 32, 105, 32, 43, 32, 49, 32, 125, 10, 105, 32, 61, 32, 48, 10, 102, 111, 114, 32, 105, 32, 60,
 32, 110, 32, 123, 32, 112, 114, 105, 110, 116, 40, 115, 91, 105, 93, 41, 59, 32, 105, 32, 61, 32, 105, 32, 43, 32, 49, 32, 125, 32, 125], iv 200, v4, iv 99999] H5 i6 fun e7 H8 i9 =>
 qh e7 (fun v10 => ∃ v11 n12 n13, v10 = AVal.tuple [v11, iv n12, iv n13] ∧ lp 104 (zn (qA Tryz.prog 3) [1, 1, 1, 1, 1, 1, 0, 1, 0, 0]) (envL AVal.und [(10, iv 1), (9,
 AVal.nilSlice), (8, iv n13), (7, iv n12), (6, v11), (40, iv n13), (39, iv n12), (38, v11), (30, AVal.tuple [v11, iv n12, iv n13]), (37, AVal.tuple [v11, iv n12, iv n13]), (36, v4),
 (35, w), (34, AVal.slice nx 0 1 1 true), (33, iv (Int.ofNat i0)), (32, w), (31, AVal.str [102, 117, 110, 99, 32, 109, 97, 105, 110, 40, 41, 32, 123, 32, 110, 32, 58, 61, 32, 105,
 110, 112, 117, 116, 40, 41, 59, 32, 115, 32, 58, 61, 32, 109, 97, 107, 101, 40, 91, 93, 105, 110, 116, 44, 32, 110, 41, 59, 32, 105, 32, 58, 61, 32, 48, 59, 32, 102, 111, 114, 32,
 105, 32, 60, 32, 110, 32, 123, 32, 115, 91, 105, 93, 32, 61, 32, 105, 110, 112, 117, 116, 40, 41, 59, 32, 105, 32, 61, 32, 105, 32, 43, 32, 49, 32, 125, 10, 105, 32, 61, 32, 49, 10,
 102, 111, 114, 32, 105, 32, 60, 32, 110, 32, 123, 32, 106, 32, 58, 61, 32, 105, 59, 32, 102, 111, 114, 32, 106, 32, 62, 32, 48, 32, 38, 38, 32, 115, 91, 106, 93, 32, 60, 32, 115,
 91, 106, 32, 45, 32, 49, 93, 32, 123, 32, 120, 32, 58, 61, 32, 115, 91, 106, 93, 59, 32, 115, 91, 106, 93, 32, 61, 32, 115, 91, 106, 32, 45, 32, 49, 93, 59, 32, 115, 91, 106, 32,
 45, 32, 49, 93, 32, 61, 32, 120, 59, 32, 106, 32, 61, 32, 106, 32, 45, 32, 49, 32, 125, 59, 32, 105, 32, 61, 32, 105, 32, 43, 32, 49, 32, 125, 10, 105, 32, 61, 32, 48, 10, 102, 111,
 114, 32, 105, 32, 60, 32, 110, 32, 123, 32, 112, 114, 105, 110, 116, 40, 115, 91, 105, 93, 41, 59, 32, 105, 32, 61, 32, 105, 32, 43, 32, 49, 32, 125, 32, 125]), (5, AVal.str [102,
 117, 110, 99, 32, 109, 97, 105, 110, 40, 41, 32, 123, 32, 110, 32, 58, 61, 32, 105, 110, 112, 117, 116, 40, 41, 59, 32, 115, 32, 58, 61, 32, 109, 97, 107, 101, 40, 91, 93, 105, 110,
 116, 44, 32, 110, 41, 59, 32, 105, 32, 58, 61, 32, 48, 59, 32, 102, 111, 114, 32, 105, 32, 60, 32, 110, 32, 123, 32, 115, 91, 105, 93, 32, 61, 32, 105, 110, 112, 117, 116, 40, 41,
 59, 32, 105, 32, 61, 32, 105, 32, 43, 32, 49, 32, 125, 10, 105, 32, 61, 32, 49, 10, 102, 111, 114, 32, 105, 32, 60, 32, 110, 32, 123, 32, 106, 32, 58, 61, 32, 105, 59, 32, 102, 111,
 114, 32, 106, 32, 62, 32, 48, 32, 38, 38, 32, 115, 91, 106, 93, 32, 60, 32, 115, 91, 106, 32, 45, 32, 49, 93, 32, 123, 32, 120, 32, 58, 61, 32, 115, 91, 106, 93, 59, 32, 115, 91,
 106, 93, 32, 61, 32, 115, 91, 106, 32, 45, 32, 49, 93, 59, 32, 115, 91, 106, 32, 45, 32, 49, 93, 32, 61, 32, 120, 59, 32, 106, 32, 61, 32, 106, 32, 45, 32, 49, 32, 125, 59, 32, 105,
 32, 61, 32, 105, 32, 43, 32, 49, 32, 125, 10, 105, 32, 61, 32, 48, 10, 102, 111, 114, 32, 105, 32, 60, 32, 110, 32, 123, 32, 112, 114, 105, 110, 116, 40, 115, 91, 105, 93, 41, 59,
 32, 105, 32, 61, 32, 105, 32, 43, 32, 49, 32, 125, 32, 125]), (3, w), (2, AVal.bool false), (0, a)]) H8 i9 [] none (zE Tryz.prog call (lp 104) 104 (qA Tryz.prog 3) [1, 1, 1,
 1, 1, 1, 0, 1, 0] (endK Tryz.prog lv lvc K (jr Tryz.prog 3)))) fun l14 => K (AEnd.pan l14) H8 i9
theorem qgz (call : qk) (lp : Nat → ql) (lv : qi) (lvc : qj) (w : AVal) (a : AVal) (H : Heap) (nx : Nat) (K : EndP) : zE Tryz.prog call (lp 104) 104 (qA Tryz.prog 3) [1,1,0,1,0] (endK Tryz.prog lv lvc K (jr Tryz.prog 3)) (.exit 0) (envL .und [(3, w), (2, AVal.bool false), (0, a)]) H nx [] none = AS1 call lp lv lvc w a H nx K :=
 (show zE Tryz.prog call (lp 104) 104 (qA Tryz.prog 3) [1,1,0,1,0] (endK Tryz.prog lv lvc K (jr Tryz.prog 3)) (.exit 0) (envL .und [(3, w), (2, AVal.bool false), (0, a)]) H nx [] none = vK Tryz.prog call (lp 104) 104 (zn (qA Tryz.prog 3) [1,1,1]) (envL .und [(3, w), (2, AVal.bool false), (0, a)]) H nx [] none (endK Tryz.prog lv lvc K (jr Tryz.prog 3)) by kernel_rfl).trans (show vK Tryz.prog call (lp 104) 104 (zn (qA Tryz.prog 3) [1,1,1]) (envL .und [(3, w), (2, AVal.bool false), (0, a)]) H nx [] none (endK Tryz.prog lv lvc K (jr Tryz.prog 3)) = AS1 call lp lv lvc w a H nx K by kernel_rfl)
def S2 (call : qk) (lp : Nat → ql) (N : KC) (X : Nat → KC) (R : KC) (Pn : List (AVal × Bool) → KC) (i : Int) (t : Int) (s : Int) (w : AVal) (l : AVal) (H : Heap) (nx : Nat) : Prop :=
 ∃ i0, lenS w = some i0 ∧ ifB (decide (i < Int.ofNat i0)) (lp 104 (zn (zn (qA Tryz.prog 3) [1, 1, 1, 1, 1, 1, 0, 1, 0, 0]) [1, 0, 0, 1, 0, 0]) (envL AVal.und [(11, iv i),
 (47, iv i), (44, AVal.bool true), (44, AVal.bool (decide (i < Int.ofNat i0))), (43, iv (Int.ofNat i0)), (42, w), (41, iv i), (10, iv i), (9, AVal.nilSlice), (8, iv t), (7, iv s),
 (6, l), (3, w), (2, AVal.bool false)]) H nx [] none (zE Tryz.prog call (lp 104) 104 (zn (qA Tryz.prog 3) [1, 1, 1, 1, 1, 1, 0, 1, 0, 0]) [1, 0, 0, 1, 0] (vR N X R
 Pn))) (X 2 (envL AVal.und [(44, AVal.bool false), (44, AVal.bool (decide (i < Int.ofNat i0))), (43, iv (Int.ofNat i0)), (42, w), (41, iv i), (10, iv i), (9, AVal.nilSlice), (8, iv
 t), (7, iv s), (6, l), (3, w), (2, AVal.bool false)]) H nx [] none)
theorem qhg (call : qk) (lp : Nat → ql) (N : KC) (X : Nat → KC) (R : KC) (Pn : List (AVal × Bool) → KC) (i : Int) (t : Int) (s : Int) (w : AVal) (l : AVal) (H : Heap) (nx : Nat) : vK Tryz.prog call (lp 104) 104 (zn (qA Tryz.prog 3) [1,1,1,1,1,1,0,1,0,0]) (envL .und [(10, iv i), (9, AVal.nilSlice), (8, iv t), (7, iv s), (6, l), (3, w), (2, AVal.bool false)]) H nx [] none (vR N X R Pn) = S2 call lp N X R Pn i t s w l H nx := by kernel_rfl
def S3 (call : qk) (lp : Nat → ql) (N : KC) (X : Nat → KC) (R : KC) (Pn : List (AVal × Bool) → KC) (j : Int) (i : Int) (t : Int) (s : Int) (w : AVal) (l : AVal) (H : Heap) (nx : Nat) : Prop :=
 ifB (decide (0 < j)) (0 ≤ j ∧ ∃ v0, idxS w j.toNat 1 = some v0 ∧ ∃ n1 : Int, ld1 H v0 = some (iv n1) ∧ 0 ≤ IntKind.i64.wrap (j - 1) ∧ ∃ v2, idxS w (IntKind.i64.wrap (j - 1)).toNat 1
 = some v2 ∧ ∃ n3 : Int, ld1 H v2 = some (iv n3) ∧ ((∃ n4 : Int, ld1 H v0 = some (iv n4) ∧ iv n4 = iv n1) ∧ (∃ n5 : Int, ld1 H v2 = some (iv n5) ∧ iv n5 = iv n3) ∧ True) ∧ ifB
 (decide (n1 < n3)) (0 ≤ IntKind.i64.wrap (j - 1) ∧ ∃ v6, idxS w (IntKind.i64.wrap (j - 1)).toNat 1 = some v6 ∧ ∃ n7 : Int, ld1 H v6 = some (iv n7) ∧ 0 ≤ j ∧ ∃ v8, idxS w j.toNat 1 =
 some v8 ∧ ∃ n9 : Int, ld1 H v8 = some (iv n9) ∧ 0 ≤ j ∧ ∃ v10, idxS w j.toNat 1 = some v10 ∧ ((∃ n11 : Int, ld1 H v6 = some (iv n11) ∧ iv n11 = iv n7) ∧ (∃ n12 : Int, ld1 H v8 =
 some (iv n12) ∧ iv n12 = iv n9) ∧ True) ∧ true = true ∧ ∃ H13, stC H v10 [iv n7] = some H13 ∧ 0 ≤ IntKind.i64.wrap (j - 1) ∧ ∃ v14, idxS w (IntKind.i64.wrap (j - 1)).toNat 1 = some
 v14 ∧ True ∧ true = true ∧ ∃ H15, stC H13 v14 [iv n9] = some H15 ∧ True ∧ N (envL AVal.und [(11, iv (IntKind.i64.wrap (j - 1))), (63, iv (IntKind.i64.wrap (j - 1))), (62, iv j),
 (79, v14), (78, v10), (77, iv n9), (76, v8), (75, iv j), (74, w), (73, iv n7), (72, v6), (71, iv (IntKind.i64.wrap (j - 1))), (70, iv j), (69, w), (68, iv (IntKind.i64.wrap (j -
 1))), (67, iv j), (66, w), (65, iv j), (64, w), (61, AVal.bool true), (61, AVal.bool (decide (n1 < n3))), (60, AVal.bool (decide (n1 < n3))), (50, AVal.bool true), (59, iv n3), (50,
 AVal.bool true), (58, v2), (50, AVal.bool true), (57, iv (IntKind.i64.wrap (j - 1))), (50, AVal.bool true), (56, iv j), (50, AVal.bool true), (55, w), (50, AVal.bool true), (54, iv
 n1), (50, AVal.bool true), (53, v0), (50, AVal.bool true), (52, iv j), (50, AVal.bool true), (51, w), (50, AVal.bool true), (50, AVal.bool (decide (0 < j))), (49, AVal.bool (decide
 (0 < j))), (48, iv j), (11, iv j), (10, iv i), (9, AVal.nilSlice), (8, iv t), (7, iv s), (6, l), (3, w), (2, AVal.bool false)]) H15 (nx + 14 + 18) [] none) (X 4 (envL AVal.und [(61,
 AVal.bool false), (61, AVal.bool (decide (n1 < n3))), (60, AVal.bool (decide (n1 < n3))), (50, AVal.bool true), (59, iv n3), (50, AVal.bool true), (58, v2), (50, AVal.bool true),
 (57, iv (IntKind.i64.wrap (j - 1))), (50, AVal.bool true), (56, iv j), (50, AVal.bool true), (55, w), (50, AVal.bool true), (54, iv n1), (50, AVal.bool true), (53, v0), (50,
 AVal.bool true), (52, iv j), (50, AVal.bool true), (51, w), (50, AVal.bool true), (50, AVal.bool (decide (0 < j))), (49, AVal.bool (decide (0 < j))), (48, iv j), (11, iv j), (10, iv
 i), (9, AVal.nilSlice), (8, iv t), (7, iv s), (6, l), (3, w), (2, AVal.bool false)]) H (nx + 14) [] none)) ((AVal.tuple [] = AVal.tuple [] ∧ AVal.tuple [] = AVal.tuple [] ∧ True) ∧
 X 4 (envL AVal.und [(61, AVal.bool false), (61, AVal.bool false), (60, AVal.tuple []), (50, AVal.bool false), (59, AVal.tuple []), (50, AVal.bool false), (58, AVal.tuple []), (50,
 AVal.bool false), (57, AVal.tuple []), (50, AVal.bool false), (56, AVal.tuple []), (50, AVal.bool false), (55, AVal.tuple []), (50, AVal.bool false), (54, AVal.tuple []), (50,
 AVal.bool false), (53, AVal.tuple []), (50, AVal.bool false), (52, AVal.tuple []), (50, AVal.bool false), (51, AVal.tuple []), (50, AVal.bool false), (50, AVal.bool (decide (0 <
 j))), (49, AVal.bool (decide (0 < j))), (48, iv j), (11, iv j), (10, iv i), (9, AVal.nilSlice), (8, iv t), (7, iv s), (6, l), (3, w), (2, AVal.bool false)]) H (nx + 14) [] none)
theorem qj3 (call : qk) (lp : Nat → ql) (N : KC) (X : Nat → KC) (R : KC) (Pn : List (AVal × Bool) → KC) (j : Int) (i : Int) (t : Int) (s : Int) (w : AVal) (l : AVal) (H : Heap) (nx : Nat) : vK Tryz.prog call (lp 104) 104 (zn (zn (qA Tryz.prog 3) [1,1,1,1,1,1,0,1,0,0]) [1,0,0,1,0,0]) (envL .und [(11, iv j), (10, iv i), (9, AVal.nilSlice), (8, iv t), (7, iv s), (6, l), (3, w), (2, AVal.bool false)]) H nx [] none (vR N X R Pn) = S3 call lp N X R Pn j i t s w l H nx := by kernel_rfl
def BS3 (call : qk) (lp : Nat → ql) (N : KC) (X : Nat → KC) (R : KC) (Pn : List (AVal × Bool) → KC) (i : Int) (t : Int) (s : Int) (w : AVal) (l : AVal) (H : Heap) (nx : Nat) : Prop :=
 N (envL AVal.und [(10, iv (IntKind.i64.wrap (i + 1))), (46, iv (IntKind.i64.wrap (i + 1))), (45, iv i), (10, iv i), (9, AVal.nilSlice), (8, iv t), (7, iv s), (6, l), (3, w), (2,
 AVal.bool false)]) H nx [] none
theorem qgl (call : qk) (lp : Nat → ql) (N : KC) (X : Nat → KC) (R : KC) (Pn : List (AVal × Bool) → KC) (i : Int) (t : Int) (s : Int) (w : AVal) (l : AVal) (H : Heap) (nx : Nat) : zE Tryz.prog call (lp 104) 104 (zn (qA Tryz.prog 3) [1,1,1,1,1,1,0,1,0,0]) [1,0,0,1,0] (vR N X R Pn) (.exit 4) (envL .und [(10, iv i), (9, AVal.nilSlice), (8, iv t), (7, iv s), (6, l), (3, w), (2, AVal.bool false)]) H nx [] none = BS3 call lp N X R Pn i t s w l H nx := by kernel_rfl
def AS2 (call : qk) (lp : Nat → ql) (lv : qi) (lvc : qj) (t : Int) (s : Int) (w : AVal) (l : AVal) (H : Heap) (nx : Nat) (K : EndP) : Prop :=
 lp 104 (zn (qA Tryz.prog 3) [1, 1, 1, 1, 1, 1, 1, 0, 1, 0, 0]) (envL AVal.und [(12, iv 0), (9, AVal.nilSlice), (8, iv t), (7, iv s), (6, l), (3, w), (2, AVal.bool false)]) H
 nx [] none (zE Tryz.prog call (lp 104) 104 (qA Tryz.prog 3) [1, 1, 1, 1, 1, 1, 1, 0, 1, 0] (endK Tryz.prog lv lvc K (jr Tryz.prog 3)))
theorem qff (call : qk) (lp : Nat → ql) (lv : qi) (lvc : qj) (t : Int) (s : Int) (w : AVal) (l : AVal) (H : Heap) (nx : Nat) (K : EndP) : zE Tryz.prog call (lp 104) 104 (qA Tryz.prog 3) [1,1,1,1,1,1,0,1,0] (endK Tryz.prog lv lvc K (jr Tryz.prog 3)) (.exit 2) (envL .und [(9, AVal.nilSlice), (8, iv t), (7, iv s), (6, l), (3, w), (2, AVal.bool false)]) H nx [] none = AS2 call lp lv lvc t s w l H nx K :=
 (show zE Tryz.prog call (lp 104) 104 (qA Tryz.prog 3) [1,1,1,1,1,1,0,1,0] (endK Tryz.prog lv lvc K (jr Tryz.prog 3)) (.exit 2) (envL .und [(9, AVal.nilSlice), (8, iv t), (7, iv s), (6, l), (3, w), (2, AVal.bool false)]) H nx [] none = vK Tryz.prog call (lp 104) 104 (zn (qA Tryz.prog 3) [1,1,1,1,1,1,1]) (envL .und [(9, AVal.nilSlice), (8, iv t), (7, iv s), (6, l), (3, w), (2, AVal.bool false)]) H nx [] none (endK Tryz.prog lv lvc K (jr Tryz.prog 3)) by kernel_rfl).trans (show vK Tryz.prog call (lp 104) 104 (zn (qA Tryz.prog 3) [1,1,1,1,1,1,1]) (envL .und [(9, AVal.nilSlice), (8, iv t), (7, iv s), (6, l), (3, w), (2, AVal.bool false)]) H nx [] none (endK Tryz.prog lv lvc K (jr Tryz.prog 3)) = AS2 call lp lv lvc t s w l H nx K by kernel_rfl)
def S4 (call : qk) (lp : Nat → ql) (N : KC) (X : Nat → KC) (R : KC) (Pn : List (AVal × Bool) → KC) (i : Int) (t : Int) (s : Int) (w : AVal) (l : AVal) (y : AVal) (H : Heap) (nx : Nat) : Prop :=
 ∃ i0, lenS w = some i0 ∧ ifB (decide (i < Int.ofNat i0)) (0 ≤ i ∧ ∃ v1, idxS w i.toNat 1 = some v1 ∧ ∃ n2 : Int, ld1 H v1 = some (iv n2) ∧ call 9 [iv n2] H nx fun e3 H4 i5 => qh
 e3 (fun v6 => ∃ s7, v6 = AVal.str s7 ∧ true = true ∧ ∃ H8, H8 = newB i5 [AVal.str s7] H4 ∧ ∃ i9 l10, aSrc 1 H8 (AVal.slice i5 0 1 1 true) = some (i9, l10) ∧ qr l10 = true ∧ ∃
 v11 H12 i13, appC H8 (i5 + 1) 1 16 y i9 l10 = some (v11, H12, i13) ∧ N (envL AVal.und [(12, iv (IntKind.i64.wrap (i + 1))), (85, iv (IntKind.i64.wrap (i + 1))), (84, iv i), (9,
 v11), (93, v11), (92, AVal.slice i5 0 1 1 true), (91, AVal.str s7), (90, iv n2), (89, v1), (88, iv i), (87, w), (86, y), (83, AVal.bool true), (83, AVal.bool (decide (i < Int.ofNat
 i0))), (82, iv (Int.ofNat i0)), (81, w), (80, iv i), (12, iv i), (9, y), (8, iv t), (7, iv s), (6, l), (3, w), (2, AVal.bool false)]) H12 i13 [] none) fun l14 => Pn l14 (envL
 AVal.und [(90, iv n2), (89, v1), (88, iv i), (87, w), (86, y), (83, AVal.bool true), (83, AVal.bool (decide (i < Int.ofNat i0))), (82, iv (Int.ofNat i0)), (81, w), (80, iv i), (12,
 iv i), (9, y), (8, iv t), (7, iv s), (6, l), (3, w), (2, AVal.bool false)]) H4 i5 [] none) (X 6 (envL AVal.und [(83, AVal.bool false), (83, AVal.bool (decide (i < Int.ofNat i0))),
 (82, iv (Int.ofNat i0)), (81, w), (80, iv i), (12, iv i), (9, y), (8, iv t), (7, iv s), (6, l), (3, w), (2, AVal.bool false)]) H nx [] none)
theorem qil (call : qk) (lp : Nat → ql) (N : KC) (X : Nat → KC) (R : KC) (Pn : List (AVal × Bool) → KC) (i : Int) (t : Int) (s : Int) (w : AVal) (l : AVal) (y : AVal) (H : Heap) (nx : Nat) : vK Tryz.prog call (lp 104) 104 (zn (qA Tryz.prog 3) [1,1,1,1,1,1,1,0,1,0,0]) (envL .und [(12, iv i), (9, y), (8, iv t), (7, iv s), (6, l), (3, w), (2, AVal.bool false)]) H nx [] none (vR N X R Pn) = S4 call lp N X R Pn i t s w l y H nx := by kernel_rfl
def AS4 (call : qk) (lp : Nat → ql) (lv : qi) (lvc : qj) (t : Int) (s : Int) (w : AVal) (l : AVal) (y : AVal) (H : Heap) (nx : Nat) (K : EndP) : Prop :=
 call 10 [] H nx fun e0 H1 i2 => qh e0 (fun v3 => ∃ b4, v3 = AVal.bool b4 ∧ ifB b4 (ifB (decide (s = 1)) (call 11 [l, y] H1 i2 fun e5 H6 i7 => qh e5 (fun v8 => ∃ b9, v8 =
 AVal.bool b9 ∧ K (AEnd.ret (AVal.bool b9)) H6 i7) fun l10 => K (AEnd.pan l10) H6 i7) (K (AEnd.ret (AVal.bool false)) H1 i2)) (K (AEnd.ret (AVal.bool false)) H1 i2)) fun l11 => K
 (AEnd.pan l11) H1 i2
theorem qgm (call : qk) (lp : Nat → ql) (lv : qi) (lvc : qj) (t : Int) (s : Int) (w : AVal) (l : AVal) (y : AVal) (H : Heap) (nx : Nat) (K : EndP) : zE Tryz.prog call (lp 104) 104 (qA Tryz.prog 3) [1,1,1,1,1,1,1,0,1,0] (endK Tryz.prog lv lvc K (jr Tryz.prog 3)) (.exit 6) (envL .und [(9, y), (8, iv t), (7, iv s), (6, l), (3, w), (2, AVal.bool false)]) H nx [] none = AS4 call lp lv lvc t s w l y H nx K := by kernel_rfl
end Go.Vs
end
section
namespace Go.Vs
open Go Go.Proofs Go.Bridge Go.Proofs.YtnkeadjkckpknaaGreatDoor
def InV [GTab] (bl : Nat) (out : List AVal) (w : AVal) (l : List Int) (H : Heap) (nx : Nat) : Prop := ∃ Γ own, HOK Γ H nx ∧ RowV Γ own 21 iv w l ∧ Γ bl = some out ∧ own bl = 0
section
variable [Ev.GTab] [GTab] [Ev.SymC Tryz.prog 202 25] {t : TypeId} {fz : Nat × Nat}
theorem Xc {a : AVal} {l : List Int} (ha : ArgI a l) {H : Heap} {nx : Nat} {env : Env} {C : KP}
  (hle : qS (envL .und [(4, iv (0 : Nat)), (3, .nilSlice), (2, .bool false), (0, a)]) env)
  (hC : ∀ w Γ own H' nx', nx ≤ nx' → HOK Γ H' nx' → RowV Γ own 21 iv w (l.take 12) → C (.exit 0) (envL .und [(3, w), (2, .bool false), (0, a)]) H' nx' [] none) :
  LpP Tryz.prog 104 (zn (qA Tryz.prog 3) [1,1,0,1,0,0]) env H nx [] none C := by
 refine wH qx (X := Nat × AVal) (Y := AVal) (fun p => envL .und [(4, iv p.1), (3, p.2), (2, .bool false), (0, a)]) (fun w => envL .und [(3, w), (2, .bool false), (0, a)])
  (fun μ p H' nx' => μ = min 12 l.length - p.1 ∧ p.1 ≤ min 12 l.length ∧ nx ≤ nx' ∧ ∃ Γ own, HOK Γ H' nx' ∧ RowV Γ own 21 iv p.2 (l.take p.1))
  (fun id w H' nx' => id = 0 ∧ nx ≤ nx' ∧ ∃ Γ own, HOK Γ H' nx' ∧ RowV Γ own 21 iv w (l.take 12)) (min 12 l.length - 0) (0, .nilSlice) hle ⟨rfl, Nat.zero_le _, Nat.le_refl _, fun _ => none, fun _ => 0, qbg, .inl ⟨rfl, by simp⟩⟩ ?_ ?_
 ·rintro μ ⟨i, w⟩ H1 nx1 ⟨rfl, hi, hnx, Γ, own, hk, hr⟩
  dsimp only at hi hr ⊢
  have fin : ¬ (i < l.length ∧ i < 12) → l.take i = l.take 12 := fun h => by
   rcases Nat.lt_or_ge i 12 with h12 | h12
   ·rw [List.take_of_length_le (by omega), List.take_of_length_le (by omega)]
   ·have : i = 12 := by omega
    rw [this]
  rw [qjh]
  unfold S1
  refine ⟨_, ha.1, ?_⟩
  rw [qI]; simp only [decide_eq_true_eq, decide_eq_false_iff_not, Int.ofNat_eq_natCast]
  refine ⟨fun hlt => ?_, fun hge => ?_⟩
  ·rw [qI]; simp only [decide_eq_true_eq, decide_eq_false_iff_not]
   refine ⟨fun hlt2 => ?_, fun hge => ?_⟩
   ·have hil : i < l.length := by omega
    have ew : IntKind.i64.wrap ((i : Int) + 1) = ((i + 1 : Nat) : Int) := by rw [zc (by omega) (by omega)]; omega
    obtain ⟨p, p1, p2⟩ := ha.2 i hil
    have k1 := hk.new (b := nx1) (nx' := nx1 + 1) (by omega) (by omega) [iv (l.getD i 0)]
    have e1 : aSrc 1 (newB nx1 [iv (l.getD i 0)] H1) (.slice nx1 0 1 1 true) = some (1, [iv (l.getD i 0)]) := by rw [k1.src (qd _ _ _) (by simp)]; rfl
    obtain ⟨H', v', Γ', own', nx', q1, q2, q3, q4, q5, q6⟩ := RowV.pushes (eb := 8) k1 (hr.keep (Keep.new (ex := fun _ => False) hk (Nat.le_refl _) _) id) [l.getD i 0] (by simp; omega) (by omega)
    have et : l.take (i + 1) = l.take i ++ [l.getD i 0] := by
     rw [List.take_add_one]
     simp [List.getD, List.getElem?_eq_getElem hil]
    refine ⟨by omega, _, by rw [Int.toNat_natCast]; exact p1, _, p2 _, by first | rfl | trivial, _, rfl, _, _, e1, by first | rfl | trivial, _, _, _, q1, ?_⟩
    refine ⟨by first | rfl | trivial, min 12 l.length - (i + 1), (i + 1, v'), by omega, qS.of_list ⟨?_, rfl, rfl, rfl, trivial⟩, rfl, by show i + 1 ≤ _; omega, by omega, Γ', own', q4, ?_⟩
    ·show AVal.int .i64 _ = _
     rw [ew]
    ·show RowV Γ' own' 21 iv v' (l.take (i + 1))
     rw [et]; exact q5
   ·refine ⟨by first | rfl | trivial, w, qS.of_list ⟨rfl, rfl, rfl, trivial⟩, by first | rfl | trivial, hnx, Γ, own, hk, ?_⟩
    rw [← fin (by omega)]; exact hr
  ·refine ⟨by first | rfl | trivial, w, qS.of_list ⟨rfl, rfl, rfl, trivial⟩, by first | rfl | trivial, hnx, Γ, own, hk, ?_⟩
   rw [← fin (by omega)]; exact hr
 ·rintro id w H1 nx1 ⟨rfl, hnx, Γ, own, hk, hr⟩
  exact hC _ _ _ _ _ hnx hk hr
theorem V0 {bl : Nat} {full : Bool} {out : List AVal} {ol : Nat} {tr s : Int} {w : AVal} {i : Int} {l : List Int} (hl : l.length < 1000) {j0 : Nat} (hj0 : j0 < l.length) {H : Heap} {nx : Nat} {env : Env} {C : KP}
  (h : InV bl out w l H nx)
  (hle : qS (envL .und [(11, iv j0), (10, iv i), (9, .nilSlice), (8, iv tr), (7, iv s), (6, .slice bl 0 ol 1 full), (3, w), (2, .bool false)]) env)
  (hC : ∀ H' nx', nx ≤ nx' → InV bl out w (Slices.bub j0 l) H' nx' → C (.exit 4) (envL .und [(10, iv i), (9, .nilSlice), (8, iv tr), (7, iv s), (6, .slice bl 0 ol 1 full), (3, w), (2, .bool false)]) H' nx' [] none) :
  LpP Tryz.prog 104 (zn (zn (qA Tryz.prog 3) [1,1,1,1,1,1,0,1,0,0]) [1,0,0,1,0,0]) env H nx [] none C := by
 refine wH qx (X := Nat × List Int) (Y := Unit) (fun p => envL .und [(11, iv p.1), (10, iv i), (9, .nilSlice), (8, iv tr), (7, iv s), (6, .slice bl 0 ol 1 full), (3, w), (2, .bool false)])
  (fun _ => envL .und [(10, iv i), (9, .nilSlice), (8, iv tr), (7, iv s), (6, .slice bl 0 ol 1 full), (3, w), (2, .bool false)])
  (fun μ p H' nx' => μ = p.1 ∧ p.2.length = l.length ∧ p.1 < l.length ∧ nx ≤ nx' ∧ Slices.bub p.1 p.2 = Slices.bub j0 l ∧ InV bl out w p.2 H' nx')
  (fun id _ H' nx' => id = 4 ∧ nx ≤ nx' ∧ InV bl out w (Slices.bub j0 l) H' nx') j0 (j0, l) hle ⟨rfl, rfl, hj0, Nat.le_refl _, rfl, h⟩ ?_ ?_
 ·rintro j ⟨j', c⟩ H1 nx1 ⟨rfl, hc, hj, hnx, hb, Γ, own, hk, hr, hbl, ho⟩
  dsimp only at hc hj hb hr ⊢
  rw [qj3]
  unfold S3
  rw [qI]; simp only [decide_eq_true_eq, decide_eq_false_iff_not]
  refine ⟨fun hlt => ?_, fun hge => ?_⟩
  ·obtain ⟨k, rfl⟩ : ∃ k, j = k + 1 := ⟨j - 1, by omega⟩
   have ew : IntKind.i64.wrap (((k + 1 : Nat) : Int) - 1) = (k : Int) := by rw [zc (by omega) (by omega)]; omega
   obtain ⟨p, p1, p2⟩ := hr.get hk (i := k + 1) (by omega) 0
   obtain ⟨q, q1, q2⟩ := hr.get hk (i := k) (by omega) 0
   have t1 : (((k + 1 : Nat) : Int)).toNat = k + 1 := Int.toNat_natCast _
   have t2 : ((k : Int)).toNat = k := Int.toNat_natCast _
   rw [ew, t1, t2]
   refine ⟨by omega, _, p1, _, p2, by omega, _, q1, _, q2, ⟨⟨_, p2, rfl⟩, ⟨_, q2, rfl⟩, trivial⟩, ?_⟩
   rw [qI]; simp only [decide_eq_true_eq, decide_eq_false_iff_not]
   refine ⟨fun hq => ?_, fun hq => ?_⟩
   ·obtain ⟨p', H2, Γ2, r1, r2, r3, r4, r5⟩ := hr.put hk (i := k + 1) (by omega) (c.getD k 0) rfl
    obtain ⟨q', H3, Γ3, s1, s2, s3, s4, s5⟩ := r4.put r3 (i := k) (by simp; omega) (c.getD (k + 1) 0) rfl
    rw [p1] at r1; cases r1
    rw [q1] at s1; cases s1
    refine ⟨by omega, _, q1, _, q2, by omega, _, p1, _, p2, by omega, _, p1, ⟨⟨_, q2, rfl⟩, ⟨_, p2, rfl⟩, trivial⟩, by first | rfl | trivial, _, r2, by omega, _, q1, trivial, by first | rfl | trivial, _, s2, trivial, ?_⟩
    refine ⟨by first | rfl | trivial, k, (k, (c.set (k + 1) (c.getD k 0)).set k (c.getD (k + 1) 0)), by omega, qS.of_list ⟨rfl, rfl, rfl, rfl, rfl, rfl, rfl, rfl, trivial⟩, rfl, by simp [hc], by show k < l.length; omega, by omega, ?_, Γ3, own, s3.more (by omega), s4, ?_, ho⟩
    ·rw [← hb]
     show _ = Slices.bub (k + 1) c
     rw [show Slices.bub (k + 1) c = _ from if_pos hq]
    ·exact (s5 bl out (r5 bl out hbl (by rw [ho]; omega)).1 (by rw [ho]; omega)).1
   ·refine ⟨by first | rfl | trivial, (), qS.of_list ⟨rfl, rfl, rfl, rfl, rfl, rfl, rfl, trivial⟩, by first | rfl | trivial, by omega, ?_⟩
    rw [← hb, show Slices.bub (k + 1) c = _ from if_neg hq]
    exact ⟨Γ, own, hk.more (by omega), hr, hbl, ho⟩
  ·have : j = 0 := by omega
   subst this
   refine ⟨by first | trivial | exact ⟨rfl, rfl, trivial⟩, by first | rfl | trivial, (), qS.of_list ⟨rfl, rfl, rfl, rfl, rfl, rfl, rfl, trivial⟩, by first | rfl | trivial, by omega, ?_⟩
   rw [← hb]
   exact ⟨Γ, own, hk.more (by omega), hr, hbl, ho⟩
 ·rintro id _ H1 nx1 ⟨rfl, hnx, hw⟩
  exact hC _ _ hnx hw
theorem VC {bl : Nat} {full : Bool} {out : List AVal} {ol : Nat} {tr s : Int} {w : AVal} {l : List Int} (hl : l.length < 1000) {H : Heap} {nx : Nat} {env : Env} {C : KP}
  (h : InV bl out w l H nx)
  (hle : qS (envL .und [(10, iv (1 : Nat)), (9, .nilSlice), (8, iv tr), (7, iv s), (6, .slice bl 0 ol 1 full), (3, w), (2, .bool false)]) env)
  (hC : ∀ H' nx', nx ≤ nx' → InV bl out w (Slices.srt l) H' nx' → C (.exit 2) (envL .und [(9, .nilSlice), (8, iv tr), (7, iv s), (6, .slice bl 0 ol 1 full), (3, w), (2, .bool false)]) H' nx' [] none) :
  LpP Tryz.prog 104 (zn (qA Tryz.prog 3) [1,1,1,1,1,1,0,1,0,0]) env H nx [] none C := by
 refine wH qx (X := Nat × List Int) (Y := Unit) (fun p => envL .und [(10, iv p.1), (9, .nilSlice), (8, iv tr), (7, iv s), (6, .slice bl 0 ol 1 full), (3, w), (2, .bool false)])
  (fun _ => envL .und [(9, .nilSlice), (8, iv tr), (7, iv s), (6, .slice bl 0 ol 1 full), (3, w), (2, .bool false)])
  (fun μ p H' nx' => μ = l.length - p.1 ∧ p.2.length = l.length ∧ 1 ≤ p.1 ∧ (p.1 ≤ l.length ∨ p.1 = 1) ∧ nx ≤ nx' ∧ Slices.srtN (l.length - p.1) p.1 p.2 = Slices.srt l ∧ InV bl out w p.2 H' nx')
  (fun id _ H' nx' => id = 2 ∧ nx ≤ nx' ∧ InV bl out w (Slices.srt l) H' nx') (l.length - 1) (1, l) hle ⟨rfl, rfl, Nat.le_refl _, .inr rfl, Nat.le_refl _, rfl, h⟩ ?_ ?_
 ·rintro μ ⟨i, c⟩ H1 nx1 ⟨rfl, hc, hi1, hi, hnx, hs, Γ, own, hk, hr, hbl, ho⟩
  dsimp only at hc hi1 hi hs hr ⊢
  rw [qhg]
  unfold S2
  have hlen := hr.len
  refine ⟨_, hlen, ?_⟩
  rw [qI]; simp only [decide_eq_true_eq, decide_eq_false_iff_not, Int.ofNat_eq_natCast]
  refine ⟨fun hlt => ?_, fun hge => ?_⟩
  ·have hlt' : i < l.length := by omega
   refine V0 (l := c) (j0 := i) (i := (i : Int)) (by omega) (by omega) ⟨Γ, own, hk, hr, hbl, ho⟩ (qS.of_list ⟨rfl, rfl, rfl, rfl, rfl, rfl, rfl, rfl, trivial⟩) fun H2 nx2 l2 h2 => ?_
   rw [qgl]
   unfold BS3
   have ew : IntKind.i64.wrap ((i : Int) + 1) = ((i + 1 : Nat) : Int) := by rw [zc (by omega) (by omega)]; omega
   refine ⟨by first | rfl | trivial, l.length - (i + 1), (i + 1, Slices.bub i c), by omega, qS.of_list ⟨?_, rfl, rfl, rfl, rfl, rfl, rfl, trivial⟩, rfl, by simp [Slices.bub_len, hc], by simp, .inl (by show i + 1 ≤ _; omega), by omega, ?_, h2⟩
   ·show AVal.int .i64 _ = _
    rw [ew]
   ·rw [← hs, show l.length - i = (l.length - (i + 1)) + 1 by omega]; rfl
  ·have e0 : l.length - i = 0 := by omega
   rw [e0] at hs
   have hs' : c = Slices.srt l := hs
   rw [← hs']
   exact ⟨by first | rfl | trivial, (), qS.of_list ⟨rfl, rfl, rfl, rfl, rfl, rfl, trivial⟩, by first | rfl | trivial, hnx, Γ, own, hk, hr, hbl, ho⟩
 ·rintro id _ H1 nx1 ⟨rfl, hnx, hw⟩
  exact hC _ _ hnx hw
theorem K5 {bl : Nat} {full : Bool} {out : List AVal} {ol : Nat} {tr s : Int} {w : AVal} {l : List Int} (hl : l.length < 1000) (hin : Slices.InR l) {H : Heap} {nx : Nat} {env : Env} {C : KP}
  (h : InV bl out w l H nx)
  (hle : qS (envL .und [(12, iv (0 : Nat)), (9, .nilSlice), (8, iv tr), (7, iv s), (6, .slice bl 0 ol 1 full), (3, w), (2, .bool false)]) env)
  (hC : ∀ y H' nx', nx ≤ nx' → Want bl out y (l.map Lib.itoa) H' nx' → C (.exit 6) (envL .und [(9, y), (8, iv tr), (7, iv s), (6, .slice bl 0 ol 1 full), (3, w), (2, .bool false)]) H' nx' [] none) :
  LpP Tryz.prog 104 (zn (qA Tryz.prog 3) [1,1,1,1,1,1,1,0,1,0,0]) env H nx [] none C := by
 refine wH qx (X := Nat × AVal) (Y := AVal) (fun p => envL .und [(12, iv p.1), (9, p.2), (8, iv tr), (7, iv s), (6, .slice bl 0 ol 1 full), (3, w), (2, .bool false)])
  (fun y => envL .und [(9, y), (8, iv tr), (7, iv s), (6, .slice bl 0 ol 1 full), (3, w), (2, .bool false)])
  (fun μ p H' nx' => μ = l.length - p.1 ∧ p.1 ≤ l.length ∧ nx ≤ nx' ∧ ∃ Γ own, HOK Γ H' nx' ∧ RowV Γ own 21 iv w l ∧ RowV Γ own 20 AVal.str p.2 ((l.take p.1).map Lib.itoa) ∧ Γ bl = some out ∧ own bl = 0)
  (fun id y H' nx' => id = 6 ∧ nx ≤ nx' ∧ Want bl out y (l.map Lib.itoa) H' nx') (l.length - 0) (0, .nilSlice) hle ⟨rfl, Nat.zero_le _, Nat.le_refl _, ?_⟩ ?_ ?_
 ·obtain ⟨Γ, own, hk, hr, hbl, ho⟩ := h
  exact ⟨Γ, own, hk, hr, .inl ⟨rfl, by simp⟩, hbl, ho⟩
 ·rintro μ ⟨i, y⟩ H1 nx1 ⟨rfl, hi, hnx, Γ, own, hk, hr, hy, hbl, ho⟩
  dsimp only at hi hy ⊢
  rw [qil]
  unfold S4
  refine ⟨_, hr.len, ?_⟩
  rw [qI]; simp only [decide_eq_true_eq, decide_eq_false_iff_not, Int.ofNat_eq_natCast]
  refine ⟨fun hlt => ?_, fun hge => ?_⟩
  ·have hil : i < l.length := by omega
   have ew : IntKind.i64.wrap ((i : Int) + 1) = ((i + 1 : Nat) : Int) := by rw [zc (by omega) (by omega)]; omega
   obtain ⟨p, p1, p2⟩ := hr.get hk hil 0
   have hx := hin.getD i
   refine ⟨by omega, _, by rw [Int.toNat_natCast]; exact p1, _, p2, ?_⟩
   refine d_ok (t := 0) (fz := (0, 0)) (by omega) (by omega) ?_
   rw [qc]
   have k1 := hk.new (b := nx1) (nx' := nx1 + 1) (Nat.le_refl _) (by omega) [.str (Lib.itoa (l.getD i 0))]
   have kp : ∀ ex, Keep Γ own (gup nx1 (some [.str (Lib.itoa (l.getD i 0))]) Γ) own ex := fun ex => Keep.new hk (Nat.le_refl _) _
   have e1 : aSrc 1 (newB nx1 [.str (Lib.itoa (l.getD i 0))] H1) (.slice nx1 0 1 1 true) = some (1, [.str (Lib.itoa (l.getD i 0))]) := by rw [k1.src (qd _ _ _) (by simp)]; rfl
   obtain ⟨H', v', Γ', own', nx', q1, q2, q3, q4, q5, q6⟩ := RowV.pushes (eb := 16) k1 (hy.keep (kp (fun _ => False)) id) [Lib.itoa (l.getD i 0)] (by simp; omega) (by omega)
   have et : l.take (i + 1) = l.take i ++ [l.getD i 0] := by
    rw [List.take_add_one]
    simp [List.getD, List.getElem?_eq_getElem hil]
   refine ⟨_, rfl, by first | rfl | trivial, _, rfl, _, _, e1, by first | rfl | trivial, _, _, _, q1, ?_⟩
   refine ⟨by first | rfl | trivial, l.length - (i + 1), (i + 1, v'), by omega, qS.of_list ⟨?_, rfl, rfl, rfl, rfl, rfl, rfl, trivial⟩, rfl, by show i + 1 ≤ _; omega, by omega, Γ', own', q4, hr.keep ((kp _).trans q6) (by omega), ?_, ?_, ?_⟩
   ·show AVal.int .i64 _ = _
    rw [ew]
   ·show RowV Γ' own' 20 AVal.str v' ((l.take (i + 1)).map Lib.itoa)
    rw [et, List.map_append]; exact q5
   ·exact (((kp _).trans q6) bl out hbl (by rw [ho]; omega)).1
   ·exact (((kp _).trans q6) bl out hbl (by rw [ho]; omega)).2.trans ho
  ·have : i = l.length := by omega
   subst this
   rw [List.take_length] at hy
   exact ⟨by first | rfl | trivial, y, qS.of_list ⟨rfl, rfl, rfl, rfl, rfl, rfl, trivial⟩, by first | rfl | trivial, hnx, Γ, own, hk, hy, hbl, ho⟩
 ·rintro id y H1 nx1 ⟨rfl, hnx, hw⟩
  exact hC _ _ _ hnx hw
theorem KH (T : Tabs t fz) {a : AVal} {l : List Int} (ha : ArgI a l) (hin : Slices.InR l) {H : Heap} {nx : Nat} : TriP Tryz.prog 3 [a] H nx (fun e _ _ => e = .ret (.bool true)) := by
 refine TriP.of_body qx ?_
 rw [KD]
 unfold KT
 refine Xc ha (qS.of_list ⟨rfl, rfl, rfl, rfl, trivial⟩) fun w Γ own H1 nx1 l1 hk hr => ?_
 rw [qgz]
 unfold AS1
 have hlen : (l.take 12).length < 13 := by rw [List.length_take]; omega
 have hin2 : Slices.InR (l.take 12) := fun x hx => hin x (List.mem_of_mem_take hx)
 generalize l.take 12 = m at hr hlen hin2
 have k1 := hk.new (b := nx1) (nx' := nx1 + 1) (Nat.le_refl _) (by omega) [iv (m.length : Nat)]
 have sub1 : ∀ c ds, Γ c = some ds → gup nx1 (some [iv (m.length : Nat)]) Γ c = some ds := fun c ds ec => by have := hk.lt ec; rw [qe (by omega)]; exact ec
 obtain ⟨v, H2, nx2, Γ2, q1, q2, k2, hsv, sub2⟩ := qd6 k1 (qd _ _ _) (new := m.map iv) (by simp; omega)
 have esrc := (hr.srcV.mono sub1).src k1
 rw [List.length_map] at q1
 refine ⟨_, hr.len, by first | rfl | trivial, _, rfl, _, _, esrc, kc (f := iv) (fun _ => rfl) _, _, _, _, q1, ?_⟩
 have hsv' : SrcV Γ2 v 1 ((m.length : Int) :: m).length (((m.length : Int) :: m).map iv) := by
  have e : ((m.length : Int) :: m).length = 1 + (m.map iv).length := by simp; omega
  rw [e]; exact hsv
 obtain ⟨c, hc, ci, cj, cx, hs⟩ := Slices.main (num := Lib.itoa) (lits := []) (l := m) rfl (by omega) hin2
 refine qce (qfm T.pow) (srcSlices T.ev T.same) (room := 200) (fuel := 99999) (inputs := (m.length : Int) :: m) (W := ⟨0 :: Slices.hdr m.length :: (Slices.srt m).map Slices.u, 200, [], (m.length : Int) :: m, m.length + 1, (Slices.srt m).map Lib.itoa⟩) (st := 1) (P := fun _ => True)
  (by omega) (by omega) (by omega) (by simp; omega) (by simp [Slices.srt_len]; omega) ?_ k2 hsv' fun H3 Γ3 x bl full tr lx lbl k3 s3 hb3 htr => ?_
 ·intro Γ0 pg hcd
  exact ⟨.over _, Steps.over (S := ⟨[], ⟨0, 0, List.replicate 5 0, []⟩, ⟨[0], 200, [], (m.length : Int) :: m, 0, []⟩, 0, 0⟩) hcd hs (qhf (by omega) (by omega) (by omega) (by simp; omega)) (by omega) rfl (Slices.e87 _ _ _ _ _ _ _), OutIs.over _⟩
 rw [qc]
 refine ⟨_, _, _, rfl, ?_⟩
 have hout : Γ3 bl = some (((Slices.srt m).map Lib.itoa).map AVal.str) := hb3
 have hI : InV bl (((Slices.srt m).map Lib.itoa).map AVal.str) w m H3 x := by
  rcases hr with ⟨rfl, e⟩ | ⟨b, cs, ⟨f', rfl⟩, h1, h2, h3⟩
  ·exact ⟨Γ3, fun _ => 0, k3, .inl ⟨rfl, e⟩, hout, rfl⟩
  ·refine ⟨Γ3, fun c => if c = b then 21 else 0, k3, .inr ⟨b, cs, ⟨f', rfl⟩, by simp, s3 _ _ (sub2 _ _ (sub1 _ _ h2)), h3⟩, hout, ?_⟩
   have hne : bl ≠ b := by
    have := hk.lt h2
    omega
   simp [hne]
 refine VC (by omega) hI (qS.of_list ⟨rfl, rfl, rfl, rfl, rfl, rfl, rfl, trivial⟩) fun H4 nx4 l4 h4 => ?_
 rw [qff]
 unfold AS2
 refine K5 (by have := Slices.srt_len m; show (Slices.srt m).length < 1000; omega) (hin2.srtN _ _) h4 (qS.of_list ⟨rfl, rfl, rfl, rfl, rfl, rfl, rfl, trivial⟩) fun y H5 nx5 l5 h5 => ?_
 rw [qgm]
 unfold AS4
 refine qjf T ?_
 rw [qc]
 refine ⟨_, rfl, ?_⟩
 rw [qZ]
 refine jy rfl ?_
 obtain ⟨Γ6, own6, k6, hr6, hbl6, ho6⟩ := h5
 refine qcv (l := (Slices.srt m).map Lib.itoa) k6 (.inr ⟨bl, 0, full, _, rfl, hbl6, by simp, by rw [List.drop_zero, List.take_of_length_le (by simp)]⟩) hr6.srcStr (by simp [Slices.srt_len]; omega) fun nx7 l7 => ?_
 rw [qc]
 exact ⟨_, rfl, rfl⟩
end
end Go.Vs
end
