/-
  Own work. Texts of a proof, laid together; no condition.
-/
import Derived.Test.YtjjhihcgiogjjaaDoorPpl5
import Derived.Test.YtjjhihcgiogjjaaDoorPpl2
import Derived.Test.YtjjhihcgiogjjaaDoorPpl3
set_option linter.unusedSectionVars false
set_option linter.unusedVariables false
set_option linter.unusedSimpArgs false
set_option maxRecDepth 1000000
section
namespace Go.Vs
open Go.Proofs
variable [GTab] {Z : Nat → Prop}
noncomputable section
def StrsV (N : Nat) (Γ : GH) (v : AVal) : Prop := v = .nilSlice ∨ ∃ (b n : Nat) (full : Bool) (ss : List (List UInt8)), v = .slice b 0 n 1 full ∧ Γ b = some (ss.map .str) ∧ n ≤ ss.length ∧ 0 < n ∧ n ≤ N ∧ ∀ s, s ∈ ss → s.length ≤ 20
abbrev mkC (raw : AVal) (a : Int) (vb : Nat) (full : Bool) (names loops size : Int) (out : List UInt8) (res : Int) (calls : Bool) : List AVal :=
 [raw, iv a, .slice vb 0 7 1 full, iv names, iv loops, iv size, .str out, iv res, .bool calls]
def Dist (cs : List AVal) : Prop := ∀ (i j b n m : Nat) (f g : Bool), i ≠ j → cs[i]? = some (.slice b 0 n 1 f) → cs[j]? = some (.slice b 0 m 1 g) → False
def Mk (Γ : GH) (raw : AVal) (rl : List Int) (k vb c : Nat) (r : Int) (N U L : Nat) : Prop :=
 ∃ (a : Nat) (full : Bool) (names : Nat) (loops size : Int) (out : List UInt8) (calls : Bool), Γ k = some (mkC raw a vb full names loops size out r calls) ∧ a ≤ rl.length ∧ N ≤ names ∧ names ≤ U ∧ r ≤ 6 ∧ out.length ≤ L ∧ (c ≤ 3 ∧ U ≤ 25) ∧
  ∃ cs, Γ vb = some cs ∧ cs.length = 7 ∧ Dist cs ∧ ∀ x, x ∈ cs → StrsV (names + c) Γ x
def MS (Z : Nat → Prop) (raw : AVal) (rl : List Int) (k : Nat) (Γ0 : GH) (n0 vb c : Nat) (r : Int) (N U L : Nat) (H : Heap) (nx : Nat) : Prop :=
 n0 ≤ nx ∧ Γ0 k = none ∧ Γ0 vb = none ∧ ∃ Γ, HZ Z Γ H nx ∧ (∀ b cs, Γ0 b = some cs → Γ b = some cs) ∧ Mk Γ raw rl k vb c r N U L
structure RawR (raw : AVal) (rl : List Int) : Prop where
 arg : ArgN raw rl
 few : rl.length ≤ 9223372036854775807
 cell : cellv raw = true
section
variable {N : Nat}
theorem StrsV.cell {Γ : GH} {v : AVal} (h : StrsV N Γ v) : cellv v = true := by
 rcases h with rfl | ⟨b, n, full, ss, rfl, _⟩ <;> rfl
theorem StrsV.mono {Γ Γ' : GH} {v : AVal} {N' : Nat} (h : StrsV N Γ v) (hs : ∀ b (ss : List (List UInt8)), ss ≠ [] → Γ b = some (ss.map .str) → Γ' b = some (ss.map .str)) (hN : N ≤ N' := by omega) : StrsV N' Γ' v := by
 rcases h with h | ⟨b, n, full, ss, h1, h2, h3, h4, h5, h6⟩
 ·exact .inl h
 ·exact .inr ⟨b, n, full, ss, h1, hs b ss (fun e => by subst e; simp at h3; omega) h2, h3, h4, by omega, h6⟩
theorem StrsV.not_str {Γ : GH} {s : List UInt8} (h : StrsV N Γ (.str s)) : False := by
 rcases h with h | ⟨b, n, full, ss, h1, _⟩
 ·cases h
 ·cases h1
theorem strs_ne_row {Γ : GH} {b vb : Nat} {cs : List AVal} {ss : List (List UInt8)} (hv : Γ vb = some cs) (hl : cs.length = 7) (hc : ∀ c, c ∈ cs → StrsV N Γ c) (hn : ss ≠ []) (hb : Γ b = some (ss.map .str)) : b ≠ vb := by
 intro e; subst e
 rw [hv] at hb; cases hb
 cases ss with
 | nil => exact hn rfl
 | cons s ss => exact (hc (.str s) (by simp)).not_str
end
theorem strs_ne_k {Γ : GH} {b k vb : Nat} {raw : AVal} {a names loops size r : Int} {full calls : Bool} {out : List UInt8} {ss : List (List UInt8)} (hk : Γ k = some (mkC raw a vb full names loops size out r calls)) (hb : Γ b = some (ss.map .str)) : b ≠ k := by
 intro e; subst e
 rw [hk] at hb
 cases ss with
 | nil => cases hb
 | cons s ss => cases ss <;> simp at hb
theorem row_ne_k {Γ : GH} {k vb : Nat} {raw : AVal} {a names loops size r : Int} {full calls : Bool} {out : List UInt8} {cs : List AVal} (hk : Γ k = some (mkC raw a vb full names loops size out r calls)) (hv : Γ vb = some cs) (hl : cs.length = 7) : vb ≠ k := by
 intro e; subst e
 rw [hk] at hv; cases hv; simp at hl
section
variable {raw : AVal} {rl : List Int} {k n0 vb c N U L : Nat} {r : Int} {Γ0 : GH} {H : Heap} {nx : Nat} {K : EndP}
theorem MS.more (S : MS Z raw rl k Γ0 n0 vb c r N U L H nx) {nx' : Nat} (h : nx ≤ nx') : MS Z raw rl k Γ0 n0 vb c r N U L H nx' :=
 let ⟨h0, h1, h2, Γ, h3, h4, h5⟩ := S; ⟨Nat.le_trans h0 h, h1, h2, Γ, h3.more h, h4, h5⟩
theorem MS.le (S : MS Z raw rl k Γ0 n0 vb c r N U L H nx) {N' U' L' : Nat} (hN : N' ≤ N) (hU : U ≤ U') (hU' : U' ≤ 25) (h : L ≤ L') : MS Z raw rl k Γ0 n0 vb c r N' U' L' H nx :=
 let ⟨h0, h1, h2, Γ, h3, h4, a, full, names, loops, size, out, calls, e, e1, e2, e3, e4, e5, e6, h6⟩ := S
 ⟨h0, h1, h2, Γ, h3, h4, a, full, names, loops, size, out, calls, e, e1, Nat.le_trans hN e2, Nat.le_trans e3 hU, e4, Nat.le_trans e5 h, ⟨e6.1, hU'⟩, h6⟩
theorem MS.u25 (S : MS Z raw rl k Γ0 n0 vb c r N U L H nx) : U ≤ 25 ∧ c ≤ 3 := let ⟨_, _, _, _, _, _, _, _, _, _, _, _, _, _, _, _, _, _, _, e6, _⟩ := S; ⟨e6.2, e6.1⟩
theorem sub_none {Γ0 Γ1 : GH} (h : ∀ b cs, Γ1 b = some cs → Γ0 b = some cs) {b : Nat} (hb : Γ0 b = none) : Γ1 b = none := by
 cases e : Γ1 b with
 | none => rfl
 | some cs => rw [h _ _ e] at hb; cases hb
theorem MS.sub (S : MS Z raw rl k Γ0 n0 vb c r N U L H nx) {Γ1 : GH} (h : ∀ b cs, Γ1 b = some cs → Γ0 b = some cs) : MS Z raw rl k Γ1 n0 vb c r N U L H nx :=
 let ⟨h0, h1, h2, Γ, h3, h4, h5⟩ := S
 ⟨h0, sub_none h h1, sub_none h h2, Γ, h3, fun b cs e => h4 b cs (h b cs e), h5⟩
theorem MS.ld (S : MS Z raw rl k Γ0 n0 vb c r N U L H nx) {b : Nat} {cs : List AVal} (e : Γ0 b = some cs) (off : Nat) : ld1 H (.ptr b off) = cs[off]? :=
 let ⟨_, _, _, Γ, h3, h4, _⟩ := S; h3.ld1 (h4 b cs e) off
theorem MS.new (S : MS Z raw rl k Γ0 n0 vb c r N U L H nx) {i nx' : Nat} (hi : nx ≤ i) (hi' : i < nx') (cs : List AVal) : MS Z raw rl k (gup i (some cs) Γ0) n0 vb c r N U L (newB i cs H) nx' ∧ ∀ b ds, Γ0 b = some ds → gup i (some cs) Γ0 b = some ds := by
 obtain ⟨h0, h1, h2, Γ, h3, h4, a, full, names, loops, size, out, calls, e, e1, e2, e3, e4, e5, e6, ds, d1, d2, d4, d3⟩ := S
 have hn : Γ i = none := h3.non hi
 have up : ∀ b cs', Γ b = some cs' → gup i (some cs) Γ b = some cs' := fun b cs' e => (gup_ne (neK e hn)).trans e
 refine ⟨⟨by omega, (gup_ne (neK e hn)).trans h1, (gup_ne (neK d1 hn)).trans h2, gup i (some cs) Γ, h3.new hi hi' cs, fun b cs' e => ?_, a, full, names, loops, size, out, calls, up _ _ e, e1, e2, e3, e4, e5, e6, ds, up _ _ d1, d2, d4, fun x hx => (d3 x hx).mono fun b ss _ hb => up _ _ hb⟩, fun b ds e => ?_⟩
 ·by_cases hb : b = i
  ·subst hb; rw [gup_same] at e ⊢; exact e
  ·rw [gup_ne hb] at e ⊢; exact h4 _ _ e
 ·exact (gup_ne (neK (h4 _ _ e) hn)).trans e
theorem MS.scr (S : MS Z raw rl k Γ0 n0 vb c r N U L H nx) {i nx' : Nat} (hi : nx ≤ i) (hi' : i < nx') {cs : List AVal} {p : Heap → Prop} (hK : ∀ H', MS Z raw rl k (gup i (some cs) Γ0) n0 vb c r N U L H' nx' → (∀ b ds, Γ0 b = some ds → gup i (some cs) Γ0 b = some ds) → p H') : ∃ H0, H0 = newB i cs H ∧ p H0 :=
 ⟨_, rfl, hK _ (S.new hi hi' cs).1 (S.new hi hi' cs).2⟩
theorem MS.cells (S : MS Z raw rl k Γ0 n0 vb c r N U L H nx) : ∃ (a : Nat) (full : Bool) (names : Nat) (loops size : Int) (out : List UInt8) (calls : Bool), a ≤ rl.length ∧ N ≤ names ∧ names ≤ U ∧ r ≤ 6 ∧ out.length ≤ L ∧ U ≤ 25 ∧
  ld1 H (.ptr k 0) = some raw ∧ ld1 H (.ptr k 1) = some (iv a) ∧ ld1 H (.ptr k 2) = some (.slice vb 0 7 1 full) ∧ ld1 H (.ptr k 3) = some (iv names) ∧ ld1 H (.ptr k 4) = some (iv loops) ∧ ld1 H (.ptr k 5) = some (iv size) ∧ ld1 H (.ptr k 6) = some (.str out) ∧ ld1 H (.ptr k 7) = some (iv r) ∧ ld1 H (.ptr k 8) = some (.bool calls) ∧
  MS Z raw rl k Γ0 n0 vb c r names names L H nx := by
 have S' := S
 obtain ⟨h0, h1, h2, Γ, h3, h4, a, full, names, loops, size, out, calls, e, e1, e2, e3, e4, e5, e6, h6⟩ := S
 have T : MS Z raw rl k Γ0 n0 vb c r names names L H nx := ⟨h0, h1, h2, Γ, h3, h4, a, full, names, loops, size, out, calls, e, e1, Nat.le_refl _, Nat.le_refl _, e4, e5, ⟨e6.1, Nat.le_trans e3 e6.2⟩, h6⟩
 refine ⟨a, full, names, loops, size, out, calls, e1, e2, e3, e4, e5, e6.2, ?_, ?_, ?_, ?_, ?_, ?_, ?_, ?_, ?_, T⟩
 all_goals (rw [h3.ld1 e]; rfl)
theorem MS.set (S : MS Z raw rl k Γ0 n0 vb c r N U L H nx) {N' U' L' j : Nat} {v : AVal} {p : Heap → Prop} (hU : U' ≤ 25) (hj : j < 9) (hv : cellv v = true)
  (hc : ∀ (a : Nat) (full : Bool) (names : Nat) (loops size : Int) (out : List UInt8) (calls : Bool), a ≤ rl.length → N ≤ names → names ≤ U → r ≤ 6 → out.length ≤ L →
   ld1 H (.ptr k 1) = some (iv a) → ld1 H (.ptr k 3) = some (iv names) → ld1 H (.ptr k 6) = some (.str out) →
   ∃ (a' : Nat) (full' : Bool) (names' : Nat) (loops' size' : Int) (out' : List UInt8) (calls' : Bool), (mkC raw a vb full names loops size out r calls).set j v = mkC raw a' vb full' names' loops' size' out' r calls' ∧ a' ≤ rl.length ∧ N' ≤ names' ∧ names ≤ names' ∧ names' ≤ U' ∧ r ≤ 6 ∧ out'.length ≤ L')
  (hK : ∀ H', MS Z raw rl k Γ0 n0 vb c r N' U' L' H' nx → p H') : ∃ H1, stC H (.ptr k j) [v] = some H1 ∧ p H1 := by
 obtain ⟨h0, h1, h2, Γ, h3, h4, a, full, names, loops, size, out, calls, e, e1, e2, e3, e4, e5, e6, ds, d1, d2, d4, d3⟩ := S
 obtain ⟨a', full', names', loops', size', out', calls', f, f1, f2, f3, f4, f5, f6⟩ := hc a full names loops size out calls e1 e2 e3 e4 e5 (by rw [h3.ld1 e]; rfl) (by rw [h3.ld1 e]; rfl) (by rw [h3.ld1 e]; rfl)
 refine stOne h3 e (by simpa using hj) hv fun H' hk' => hK H' ?_
 rw [f] at hk'
 have hne := row_ne_k e d1 d2
 refine ⟨h0, h1, h2, _, hk', fun b cs' e' => ?_, a', full', names', loops', size', out', calls', gup_same _ _ _, f1, f2, f4, f5, f6, ⟨e6.1, hU⟩, ds, (gup_ne hne).trans d1, d2, d4, fun x hx => (d3 x hx).mono fun b ss _ hb => (gup_ne (strs_ne_k e hb)).trans hb⟩
 have : b ≠ k := fun x => by subst x; rw [h1] at e'; cases e'
 exact (gup_ne this).trans (h4 _ _ e')
theorem MS.setAt (S : MS Z raw rl k Γ0 n0 vb c r N U L H nx) {a : Nat} (ha : a ≤ rl.length) {p : Heap → Prop} (hK : ∀ H', MS Z raw rl k Γ0 n0 vb c r N U L H' nx → ld1 H' (.ptr k 1) = some (iv a) → p H') : ∃ H1, stC H (.ptr k 1) [iv a] = some H1 ∧ p H1 := by
 obtain ⟨h0, h1, h2, Γ, h3, h4, a0, full, names, loops, size, out, calls, e, e1, e2, e3, e4, e5, e6, ds, d1, d2, d4, d3⟩ := S
 refine stOne h3 e (by simp) rfl fun H' hk' => hK H' ?_ (by rw [hk'.ld1 (gup_same _ _ _)]; rfl)
 have hne := row_ne_k e d1 d2
 refine ⟨h0, h1, h2, _, hk', fun b cs' e' => ?_, a, full, names, loops, size, out, calls, gup_same _ _ _, ha, e2, e3, e4, e5, e6, ds, (gup_ne hne).trans d1, d2, d4, fun x hx => (d3 x hx).mono fun b ss _ hb => (gup_ne (strs_ne_k e hb)).trans hb⟩
 have : b ≠ k := fun x => by subst x; rw [h1] at e'; cases e'
 exact (gup_ne this).trans (h4 _ _ e')
theorem MS.setLoops (S : MS Z raw rl k Γ0 n0 vb c r N U L H nx) {n : Int} {p : Heap → Prop} (hK : ∀ H', MS Z raw rl k Γ0 n0 vb c r N U L H' nx → p H') : ∃ H1, stC H (.ptr k 4) [iv n] = some H1 ∧ p H1 :=
 S.set S.u25.1 (by omega) rfl (fun a full names loops size out calls e1 e2 e3 e4 e5 _ _ _ => ⟨a, full, names, n, size, out, calls, rfl, e1, e2, Nat.le_refl _, e3, e4, e5⟩) hK
theorem MS.setSize (S : MS Z raw rl k Γ0 n0 vb c r N U L H nx) {n : Int} {p : Heap → Prop} (hK : ∀ H', MS Z raw rl k Γ0 n0 vb c r N U L H' nx → p H') : ∃ H1, stC H (.ptr k 5) [iv n] = some H1 ∧ p H1 :=
 S.set S.u25.1 (by omega) rfl (fun a full names loops size out calls e1 e2 e3 e4 e5 _ _ _ => ⟨a, full, names, loops, n, out, calls, rfl, e1, e2, Nat.le_refl _, e3, e4, e5⟩) hK
theorem MS.setOut (S : MS Z raw rl k Γ0 n0 vb c r N U L H nx) {s : List UInt8} {L' : Nat} (hs : s.length ≤ L') {p : Heap → Prop} (hK : ∀ H', MS Z raw rl k Γ0 n0 vb c r N U L' H' nx → p H') : ∃ H1, stC H (.ptr k 6) [.str s] = some H1 ∧ p H1 :=
 S.set S.u25.1 (by omega) rfl (fun a full names loops size out calls e1 e2 e3 e4 e5 _ _ _ => ⟨a, full, names, loops, size, s, calls, rfl, e1, e2, Nat.le_refl _, e3, e4, hs⟩) hK
theorem next_okM (R : RawR raw rl) (S : MS Z raw rl k Γ0 n0 vb c r N U L H nx) {m : Int} (h0 : 0 < m) (h1 : m ≤ 4611686018427387904) (hK : ∀ n H' nx', nx ≤ nx' → MS Z raw rl k Γ0 n0 vb c r N U L H' nx' → 0 ≤ n → n < m → K (.ret (iv n)) H' nx') : TriP PG f_mk_next [.ptr k 0, iv m] H nx K := by
 refine TriP.of_body mixed ?_
 rw [Fmk_next_eq]
 unfold Fmk_next
 obtain ⟨a, full, names, loops, size, out, calls, b1, b2, b3, b4, b5, b6, c0, c1, _⟩ := S.cells
 have hf := R.few
 refine ⟨rfl, _, rfl, _, c1, rfl, _, rfl, _, c0, _, R.arg.1, ⟨⟨_, c1, rfl⟩, ⟨_, c0, rfl⟩, trivial⟩, ifB_iff.2 ⟨fun h => hK 0 _ _ (by omega) (S.more (by omega)) (by omega) h0, fun h => ?_⟩⟩
 have h : ¬ (rl.length : Int) ≤ a := of_decide_eq_false h
 refine ⟨rfl, _, rfl, _, c1, rfl, _, rfl, rfl, ?_⟩
 rw [show IntKind.i64.wrap ((a : Int) + 1) = ((a + 1 : Nat) : Int) by rw [wrap64_id (by omega) (by omega)]; omega]
 refine S.setAt (by omega) fun H1 S1 c1' => ?_
 obtain ⟨_, _, _, _, _, _, _, _, _, _, _, _, _, c0, _⟩ := S1.cells
 obtain ⟨q, q1, q2⟩ := R.arg.2 a (by omega)
 have ew : IntKind.i64.wrap (((a + 1 : Nat) : Int) - 1) = (a : Int) := by rw [wrap64_id (by omega) (by omega)]; omega
 refine ⟨rfl, _, rfl, _, c0, rfl, _, rfl, _, c1', by rw [ew]; omega, q, by rw [ew, Int.toNat_natCast]; exact q1, _, q2 _, ⟨⟨_, c0, rfl⟩, ⟨_, c1', rfl⟩, ⟨_, q2 _, rfl⟩, trivial⟩, ?_⟩
 exact pick_ok h0 h1 (onEnd_ret.2 ⟨_, rfl, trivial, hK _ _ _ (by omega) (S1.more (by omega)) (pick_lt h0).1 (pick_lt h0).2⟩)
theorem MS.rowAt (S : MS Z raw rl k Γ0 n0 vb c r N U L H nx) {t : Nat} (ht : t < 7) : ∃ full v, ld1 H (.ptr k 2) = some (.slice vb 0 7 1 full) ∧ idxS (.slice vb 0 7 1 full) t 1 = some (.ptr vb t) ∧ ld1 H (.ptr vb t) = some v ∧
  (v = .nilSlice ∨ ∃ (b n : Nat) (fl : Bool) (ss : List (List UInt8)), v = .slice b 0 n 1 fl ∧ 0 < n ∧ n ≤ ss.length ∧ n ≤ 28 ∧ (∀ s, s ∈ ss → s.length ≤ 20) ∧ MS Z raw rl k (gup b (some (ss.map .str)) Γ0) n0 vb c r N U L H nx ∧ ∀ b' cs', Γ0 b' = some cs' → gup b (some (ss.map .str)) Γ0 b' = some cs') := by
 obtain ⟨h0, h1, h2, Γ, h3, h4, a, full, names, loops, size, out, calls, e, e1, e2, e3, e4, e5, e6, ds, d1, d2, d4, d3⟩ := S
 have hlt : t < ds.length := by omega
 refine ⟨full, ds[t], by rw [h3.ld1 e]; rfl, by rw [idxS_slice ht]; simp, by rw [h3.ld1 d1]; simp [hlt], ?_⟩
 rcases d3 ds[t] (List.getElem_mem hlt) with h | ⟨b, n, fl, ss, q1, q2, q3, q4, q5, q6⟩
 ·exact .inl h
 ·have hne : ss ≠ [] := fun e => by subst e; simp at q3; omega
  have hbk := strs_ne_k e q2
  have hbv := strs_ne_row d1 d2 d3 hne q2
  have hs : ∀ b' cs', Γ0 b' = some cs' → gup b (some (ss.map .str)) Γ0 b' = some cs' := fun b' cs' e' => by
   by_cases hb : b' = b
   ·subst hb; rw [gup_same, ← q2, h4 _ _ e']
   ·rw [gup_ne hb]; exact e'
  refine .inr ⟨b, n, fl, ss, q1, q4, q3, by omega, q6, ⟨h0, (gup_ne (Ne.symm hbk)).trans h1, (gup_ne (Ne.symm hbv)).trans h2, Γ, h3, fun b' cs' e' => ?_, a, full, names, loops, size, out, calls, e, e1, e2, e3, e4, e5, e6, ds, d1, d2, d4, d3⟩, hs⟩
  by_cases hb : b' = b
  ·subst hb; rw [gup_same] at e'; rw [q2]; exact e'
  ·rw [gup_ne hb] at e'; exact h4 _ _ e'
theorem v_okM (R : RawR raw rl) (S : MS Z raw rl k Γ0 n0 vb c r N U L H nx) {t : Int} (h0 : 0 ≤ t) (h1 : t < 7) (hK : ∀ s H' nx', nx ≤ nx' → MS Z raw rl k Γ0 n0 vb c r N U L H' nx' → s.length ≤ 20 → K (.ret (.str s)) H' nx') : TriP PG f_mk_v [.ptr k 0, iv t] H nx K := by
 refine TriP.of_body mixed ?_
 rw [Fmk_v_eq]
 unfold Fmk_v
 obtain ⟨full, v, c2, i1, i2, hv⟩ := S.rowAt (t := t.toNat) (by omega)
 refine ⟨rfl, _, rfl, _, c2, h0, _, i1, _, i2, ?_⟩
 rcases hv with rfl | ⟨b, n, fl, ss, rfl, q1, q2, q3, q4, S1, hs⟩
 ·exact ⟨0, rfl, ifB_t rfl (hK _ _ _ (Nat.le_refl _) S (by simp))⟩
 ·refine ⟨n, rfl, ifB_f (decide_eq_false (show ¬ (n : Int) = 0 by omega)) ⟨n, rfl, ?_⟩⟩
  refine next_okM R S1 (m := Int.ofNat n) (by show (0 : Int) < (n : Int); omega) (by show (n : Int) ≤ _; omega) fun j H1 nx1 g1 S2 g2 g3 => onEnd_ret.2 ⟨_, rfl, g2, ?_⟩
  have g3 : j < (n : Int) := g3
  have hj : j.toNat < n := by omega
  refine ⟨_, idxS_slice hj, ss[j.toNat]'(by omega), ?_, hK _ _ _ g1 (S2.sub hs) (q4 _ (List.getElem_mem _))⟩
  rw [S2.ld (gup_same _ _ _)]
  simp [show j.toNat < ss.length by omega]
theorem aPart_s (cs : List AVal) (off : Nat) : aPart PG t_str cs off = (match List.drop off cs with | v :: _ => some v | [] => none) := by kernel_rfl
theorem aPart_str (ss : List (List UInt8)) {c B : Nat} (hl : ss.length = c) {j : Int} (h0 : 0 ≤ j) (h1 : j < c) (hB : (ss.all fun s => Nat.ble s.length B) = true) {p : List UInt8 → Prop} (hK : ∀ s, s.length ≤ B → p s) :
  0 ≤ j ∧ j.toNat < c ∧ ∃ s, aPart PG t_str (ss.map .str) (j.toNat * 1) = some (.str s) ∧ p s := by
 have hj : j.toNat < ss.length := by omega
 refine ⟨h0, by omega, ss[j.toNat], ?_, hK _ (Nat.le_of_ble_eq_true (List.all_eq_true.1 hB _ (List.getElem_mem hj)))⟩
 rw [aPart_s, Nat.mul_one, ← List.map_drop, List.drop_eq_getElem_cons hj]
 rfl
theorem leaf_okM (R : RawR raw rl) (S : MS Z raw rl k Γ0 n0 vb c r N U L H nx) {t : Int} (h0 : 0 ≤ t) (h1 : t < 7) (hK : ∀ s H' nx', nx ≤ nx' → MS Z raw rl k Γ0 n0 vb c r N U L H' nx' → s.length ≤ 20 → K (.ret (.str s)) H' nx') : TriP PG f_mk_leaf [.ptr k 0, iv t] H nx K := by
 refine TriP.of_body mixed ?_
 rw [Fmk_leaf_eq]
 unfold Fmk_leaf
 refine v_okM R S h0 h1 fun s H nx2 g S hs => onEnd_ret.2 ⟨_, rfl, ?_⟩
 refine ifB_iff.2 ⟨fun _ => next_okM R S (by omega) (by omega) fun n H nx3 g2 S g3 g4 => onEnd_ret.2 ⟨_, rfl, ifB_iff.2 ⟨fun _ => hK _ _ _ (by omega) S hs, fun _ => ?_⟩⟩, fun _ => ?_⟩
 all_goals refine ifB_iff.2 ⟨fun _ => ?_, fun _ => ifB_iff.2 ⟨fun _ => ?_, fun _ => ifB_iff.2 ⟨fun _ => ?_, fun _ => ifB_iff.2 ⟨fun _ => hK _ _ _ (by omega) S (by decide), fun _ => ifB_iff.2 ⟨fun _ => hK _ _ _ (by omega) S (by decide), fun _ => ifB_iff.2 ⟨fun _ => hK _ _ _ (by omega) S (by decide), fun _ => hK _ _ _ (by omega) S (by decide)⟩⟩⟩⟩⟩⟩
 all_goals first
  | (refine ⟨rfl, rfl, rfl, rfl, rfl, rfl, rfl, rfl, rfl, next_okM R S (by omega) (by omega) fun n H nx4 g5 S g6 g7 => onEnd_ret.2 ⟨_, rfl, ?_⟩⟩; exact aPart_str [[48], [49], [50], [51], [55], [49, 48], [57, 50, 50, 51, 51, 55, 50, 48, 51, 54, 56, 53, 52, 55, 55, 53, 56, 48, 55], [40, 45, 49, 41], [49, 48, 48]] (B := 20) rfl g6 g7 rfl fun s hs => hK _ _ _ (by omega) S hs)
  | (refine ⟨rfl, rfl, rfl, rfl, next_okM R S (by omega) (by omega) fun n H nx4 g5 S g6 g7 => onEnd_ret.2 ⟨_, rfl, ?_⟩⟩; exact aPart_str [[34, 34], [34, 97, 34], [34, 98, 99, 34], [34, 97, 34]] (B := 20) rfl g6 g7 rfl fun s hs => hK _ _ _ (by omega) S hs)
  | (refine ⟨rfl, rfl, next_okM R S (by omega) (by omega) fun n H nx4 g5 S g6 g7 => onEnd_ret.2 ⟨_, rfl, ?_⟩⟩; exact aPart_str [[116, 114, 117, 101], [102, 97, 108, 115, 101]] (B := 20) rfl g6 g7 rfl fun s hs => hK _ _ _ (by omega) S hs)
end
end
end Go.Vs
end
section
namespace Go.Vs
open Go.Proofs
variable [GTab] {Z : Nat → Prop}
noncomputable section
section
variable {raw : AVal} {rl : List Int} {k n0 vb c N U L : Nat} {r : Int} {Γ0 : GH} {H : Heap} {nx : Nat} {K : EndP}
theorem aPart_int (cs : List AVal) (off : Nat) : aPart PG t_int cs off = (match List.drop off cs with | v :: _ => some v | [] => none) := by kernel_rfl
def EB : Nat → Nat
 | 0 => 20
 | d + 1 => 3 * EB d + 40
def ExprK (Z : Nat → Prop) (raw : AVal) (rl : List Int) (k : Nat) (Γ0 : GH) (n0 vb c : Nat) (r : Int) (N U L B : Nat) (nx : Nat) (K : EndP) : Prop :=
 ∀ s H' nx', nx ≤ nx' → MS Z raw rl k Γ0 n0 vb c r N U L H' nx' → s.length ≤ B → K (.ret (.str s)) H' nx'
theorem aP6 {j : Int} (h0 : 0 ≤ j) (h1 : j < 6) {p : List UInt8 → Prop} (hK : ∀ s, s.length ≤ 20 → p s) :
  ∃ s, aPart PG t_str [AVal.str [32, 60, 32], AVal.str [32, 60, 61, 32], AVal.str [32, 62, 32], AVal.str [32, 62, 61, 32], AVal.str [32, 61, 61, 32], AVal.str [32, 33, 61, 32]] (j.toNat * 1) = some (.str s) ∧ p s :=
 (aPart_str [[32, 60, 32], [32, 60, 61, 32], [32, 62, 32], [32, 62, 61, 32], [32, 61, 61, 32], [32, 33, 61, 32]] (B := 20) rfl h0 h1 rfl hK).2.2
theorem aP2 {j : Int} (h0 : 0 ≤ j) (h1 : j < 2) {p : List UInt8 → Prop} (hK : ∀ s, s.length ≤ 20 → p s) :
  ∃ s, aPart PG t_str [AVal.str [32, 61, 61, 32], AVal.str [32, 33, 61, 32]] (j.toNat * 1) = some (.str s) ∧ p s :=
 (aPart_str [[32, 61, 61, 32], [32, 33, 61, 32]] (B := 20) rfl h0 h1 rfl hK).2.2
theorem aP4 {j : Int} (h0 : 0 ≤ j) (h1 : j < 4) {p : List UInt8 → Prop} (hK : ∀ s, s.length ≤ 20 → p s) :
  ∃ s, aPart PG t_str [AVal.str [32, 60, 32], AVal.str [32, 61, 61, 32], AVal.str [32, 62, 61, 32], AVal.str [32, 33, 61, 32]] (j.toNat * 1) = some (.str s) ∧ p s :=
 (aPart_str [[32, 60, 32], [32, 61, 61, 32], [32, 62, 61, 32], [32, 33, 61, 32]] (B := 20) rfl h0 h1 rfl hK).2.2
theorem aPi {j : Int} (h0 : 0 ≤ j) (h1 : j < 2) {p : Int → Prop} (hK : ∀ n, 0 ≤ n → n < 7 → p n) : ∃ n, aPart PG t_int [iv 4, iv 6] (j.toNat * 1) = some (iv n) ∧ p n := by
 have : j = 0 ∨ j = 1 := by omega
 rcases this with rfl | rfl
 ·exact ⟨4, by rw [aPart_int]; rfl, hK _ (by omega) (by omega)⟩
 ·exact ⟨6, by rw [aPart_int]; rfl, hK _ (by omega) (by omega)⟩
theorem MS.calls (S : MS Z raw rl k Γ0 n0 vb c r N U L H nx) {p : Bool → Prop} (hK : ∀ b, p b) : ∃ v, addOff (.ptr k 0) 8 = some v ∧ ∃ b, ld1 H v = some (.bool b) ∧ p b :=
 let ⟨_, _, _, _, _, _, _, _, _, _, _, _, _, _, _, _, _, _, _, _, _, c8, _⟩ := S.cells; ⟨_, rfl, _, c8, hK _⟩
set_option maxHeartbeats 4000000 in
theorem expr_step (R : RawR raw rl) {D : Nat} (hD : D + 1 ≤ 3) (S : MS Z raw rl k Γ0 n0 vb c r N U L H nx) {t d : Int} (ht0 : 0 ≤ t) (ht1 : t < 7) (hd : d.toNat ≤ D + 1)
  (ih : ∀ {Γ0 : GH} {H : Heap} {nx : Nat} {K : EndP} {t d : Int}, MS Z raw rl k Γ0 n0 vb c r N U L H nx → 0 ≤ t → t < 7 → d.toNat ≤ D → ExprK Z raw rl k Γ0 n0 vb c r N U L (EB D) nx K → TriP PG f_mk_expr [.ptr k 0, iv t, iv d] H nx K)
  (hK : ExprK Z raw rl k Γ0 n0 vb c r N U L (EB (D + 1)) nx K) : TriP PG f_mk_expr [.ptr k 0, iv t, iv d] H nx K := by
 refine TriP.of_body mixed ?_
 rw [Fmk_expr_eq]
 unfold Fmk_expr
 have hE : EB (D + 1) = 3 * EB D + 40 := rfl
 have hE2 : EB D ≤ 100000 := by
  have : D = 0 ∨ D = 1 ∨ D = 2 := by omega
  rcases this with rfl | rfl | rfl <;> decide
 have hE3 : 20 ≤ EB D := by
  have : D = 0 ∨ D = 1 ∨ D = 2 := by omega
  rcases this with rfl | rfl | rfl <;> decide
 refine ⟨rfl, S.scr (nx' := nx + 1) (Nat.le_refl _) (by omega) fun H0 S0 s0 => ⟨rfl, S0.scr (nx' := nx + 1 + 1) (Nat.le_refl _) (by omega) fun H1 S1 s1 => ?_⟩⟩
 obtain ⟨Γ1, e1⟩ : ∃ Γ1, Γ1 = gup (nx + 1) (some [iv d]) (gup nx (some [.ptr k 0]) Γ0) := ⟨_, rfl⟩
 replace S1 : MS Z raw rl k Γ1 n0 vb c r N U L H1 (nx + 1 + 1) := by rw [e1]; exact S1
 have gd : Γ1 (nx + 1) = some [iv d] := by rw [e1, gup_same]
 have gk : Γ1 nx = some [.ptr k 0] := by rw [e1, gup_ne (by omega), gup_same]
 have ss : ∀ b ds, Γ0 b = some ds → Γ1 b = some ds := fun b ds e => by rw [e1]; exact s1 _ _ (s0 _ _ e)
 clear e1 s0 s1 S0
 have kp : ∀ {H : Heap} {m : Nat}, MS Z raw rl k Γ1 n0 vb c r N U L H m → ld1 H (.ptr nx 0) = some (.ptr k 0) := fun S => S.ld gk 0
 have dp : ∀ {H : Heap} {m : Nat}, MS Z raw rl k Γ1 n0 vb c r N U L H m → ld1 H (.ptr (nx + 1) 0) = some (iv d) := fun S => S.ld gd 0
 obtain ⟨_, _, _, _, _, _, _, _, _, _, _, _, _, _, _, _, _, _, c5, _⟩ := S1.cells
 refine ⟨_, kp S1, rfl, _, rfl, _, c5, rfl, _, rfl, rfl, S1.setSize fun H6 S => ⟨_, dp S, ?_⟩⟩
 have lf : ∀ {H : Heap} {m m' : Nat}, MS Z raw rl k Γ1 n0 vb c r N U L H m → nx ≤ m → m ≤ m' → ∃ v, ld1 H (.ptr nx 0) = some v ∧ TriP PG f_mk_leaf [v, iv t] H m' (fun e H m => onEnd e (fun v => ∃ s, v = .str s ∧ K (.ret (.str s)) H m) fun l => K (.pan l) H m) := fun S h h' =>
  ⟨_, kp S, leaf_okM R (S.more h') ht0 ht1 fun s H m g S hs => onEnd_ret.2 ⟨_, rfl, hK _ _ _ (by omega) (S.sub ss) (by omega)⟩⟩
 have n_ : ∀ {p : Int} {H : Heap} {m m' : Nat} {K' : EndP}, MS Z raw rl k Γ1 n0 vb c r N U L H m → m ≤ m' → 0 < p → p ≤ 4611686018427387904 → (∀ n H' nx', m' ≤ nx' → MS Z raw rl k Γ1 n0 vb c r N U L H' nx' → 0 ≤ n → n < p → K' (.ret (iv n)) H' nx') → ∃ v, ld1 H (.ptr nx 0) = some v ∧ TriP PG f_mk_next [v, iv p] H m' K' := fun S h h1 h2 hK =>
  ⟨_, kp S, next_okM R (S.more h) h1 h2 hK⟩
 obtain ⟨_, _, _, _, _, _, _, _, _, _, _, _, _, d0, d1, _, _, _, d5, _⟩ := S.cells
 refine ifB_iff.2 ⟨fun _ => ⟨⟨⟨_, dp S, rfl⟩, rfl, rfl, rfl, rfl, rfl, rfl, trivial⟩, lf S (by omega) (by omega)⟩, fun hdp => ⟨_, kp S, rfl, _, rfl, _, d5, ifB_iff.2 ⟨fun _ => ⟨⟨⟨_, dp S, rfl⟩, ⟨_, kp S, rfl⟩, ⟨_, d5, rfl⟩, rfl, rfl, rfl, rfl, trivial⟩, lf S (by omega) (by omega)⟩, fun _ => ?_⟩⟩⟩
 have hdp : ¬ d ≤ 0 := of_decide_eq_false hdp
 refine ⟨_, kp S, rfl, _, rfl, _, d1, _, kp S, rfl, _, rfl, _, d0, _, R.arg.1, ⟨⟨_, dp S, rfl⟩, ⟨_, kp S, rfl⟩, ⟨_, d5, rfl⟩, ⟨_, kp S, rfl⟩, ⟨_, d1, rfl⟩, ⟨_, kp S, rfl⟩, ⟨_, d0, rfl⟩, trivial⟩, ifB_iff.2 ⟨fun _ => lf S (by omega) (by omega), fun _ => ?_⟩⟩
 have e_ : ∀ {t' : Int} {H : Heap} {m m' : Nat} {K' : EndP}, MS Z raw rl k Γ1 n0 vb c r N U L H m → m ≤ m' → 0 ≤ t' → t' < 7 → (∀ s H' nx', m' ≤ nx' → MS Z raw rl k Γ1 n0 vb c r N U L H' nx' → s.length ≤ EB D → K' (.ret (.str s)) H' nx') →
   ∃ x l, some (f_mk_expr_1, [iv t', AVal.ptr nx 0, AVal.ptr (nx + 1) 0]) = some (x, l) ∧ TriP PG x l H m' K' := fun {t'} {H} {m} {m'} {K'} S h h0 h1 hK => by
  refine ⟨_, _, rfl, TriP.of_body mixed ?_⟩
  rw [Fmk_expr_1_eq]
  unfold Fmk_expr_1
  refine ⟨_, kp S, _, dp S, ?_⟩
  rw [wrap64_id (by omega) (by omega)]
  exact ih (S.more h) h0 h1 (by omega) fun s H' nx' g S hs => onEnd_ret.2 ⟨_, rfl, hK s H' nx' g S hs⟩
 clear ih S1 c5 d0 d1 d5
 have hm : nx ≤ nx + 1 + 1 := by omega
 unfold ExprK at hK
 repeat' (with_reducible first
  | exact lf S (by omega) (by omega)
  | (refine ifB_iff.2 ⟨fun _ => ?_, fun _ => ?_⟩)
  | (refine e_ S (by omega) (by omega) (by omega) fun s H m g S hs => onEnd_ret.2 ⟨_, rfl, ?_⟩)
  | (refine n_ S (by omega) (by omega) (by omega) fun n H m g S h0 h1 => onEnd_ret.2 ⟨_, rfl, ?_⟩)
  | (refine next_okM R S (by omega) (by omega) fun n H m g S h0 h1 => onEnd_ret.2 ⟨_, rfl, ?_⟩)
  | exact hK _ _ _ (by omega) (S.sub ss) (by first | omega | (simp only [List.length_append, List.length_cons, List.length_nil]; omega) | (show (_ : Nat) ≤ _; simp only [List.length_cons, List.length_nil]; omega))
  | (refine And.intro (by first | omega | (simp only [List.length_append, List.length_cons, List.length_nil]; omega)) ?_)
  | (refine And.intro (And.intro (Exists.intro _ (And.intro (kp S) rfl)) True.intro) ?_)
  | (refine And.intro True.intro ?_)
  | (refine And.intro rfl ?_)
  | (refine S.calls fun b => ?_)
  | (refine aP6 h0 h1 fun s hs => ?_)
  | (refine aP4 h0 h1 fun s hs => ?_)
  | (refine aP2 h0 h1 fun s hs => ?_)
  | (refine aPi h0 h1 fun n h0 h1 => ?_)
  | (refine Exists.intro _ (And.intro (kp S) ?_)))
theorem expr_okM (R : RawR raw rl) : ∀ (D : Nat) {Γ0 : GH} {H : Heap} {nx : Nat} {K : EndP} {t d : Int}, D ≤ 3 → MS Z raw rl k Γ0 n0 vb c r N U L H nx → 0 ≤ t → t < 7 → d.toNat ≤ D → ExprK Z raw rl k Γ0 n0 vb c r N U L (EB D) nx K → TriP PG f_mk_expr [.ptr k 0, iv t, iv d] H nx K
 | 0, Γ0, H, nx, K, t, d, _, S, h0, h1, hd, hK => by
  refine TriP.of_body mixed ?_
  rw [Fmk_expr_eq]
  unfold Fmk_expr
  refine ⟨rfl, S.scr (nx' := nx + 1) (Nat.le_refl _) (by omega) fun H0 S0 s0 => ⟨rfl, S0.scr (nx' := nx + 1 + 1) (Nat.le_refl _) (by omega) fun H1 S1 s1 => ?_⟩⟩
  have gd : gup (nx + 1) (some [iv d]) (gup nx (some [.ptr k 0]) Γ0) (nx + 1) = some [iv d] := by rw [gup_same]
  have gk : gup (nx + 1) (some [iv d]) (gup nx (some [.ptr k 0]) Γ0) nx = some [.ptr k 0] := by rw [gup_ne (by omega), gup_same]
  obtain ⟨_, _, _, _, _, _, _, _, _, _, _, _, _, _, _, _, _, _, c5, _⟩ := S1.cells
  refine ⟨_, S1.ld gk 0, rfl, _, rfl, _, c5, rfl, _, rfl, rfl, S1.setSize fun H6 S => ⟨_, S.ld gd 0, ?_⟩⟩
  refine ifB_iff.2 ⟨fun _ => ⟨⟨⟨_, S.ld gd 0, rfl⟩, rfl, rfl, rfl, rfl, rfl, rfl, trivial⟩, _, S.ld gk 0, leaf_okM R (S.more (by omega)) h0 h1 fun s H m g S hs => onEnd_ret.2 ⟨_, rfl, hK _ _ _ (by omega) (S.sub fun b ds e => s1 _ _ (s0 _ _ e)) hs⟩⟩, fun h => ?_⟩
  have h : ¬ d ≤ 0 := of_decide_eq_false h
  omega
 | D + 1, Γ0, H, nx, K, t, d, hD, S, h0, h1, hd, hK => expr_step R hD S h0 h1 hd (fun S h0 h1 hd hK => expr_okM R D (by omega) S h0 h1 hd hK) hK
end
end
end Go.Vs
end
section
namespace Go.Vs
open Go.Proofs
variable [GTab]
def LTabs (call : CallP) (lp : Nat → LoopP) (N : KC) (X : Nat → KC) (R : KC) (Pn : List (AVal × Bool) → KC) (k : Nat) (n : Int) (i : Int) (s : List UInt8) (H : Heap) (nx : Nat) : Prop :=
 ifB (decide (i < n)) (s.length + 1 ≤ 9223372036854775807 ∧ N (envL AVal.und [(0, AVal.ptr k 0), (1, iv n), (5, AVal.str (s ++ [9])), (6, iv (IntKind.i64.wrap (i + 1)))]) H nx []
 none) (X 0 (envL AVal.und [(0, AVal.ptr k 0), (1, iv n), (5, AVal.str s), (6, iv i)]) H nx [] none)
theorem LTabs_eq (call : CallP) (lp : Nat → LoopP) (N : KC) (X : Nat → KC) (R : KC) (Pn : List (AVal × Bool) → KC) (k : Nat) (n : Int) (i : Int) (s : List UInt8) (H : Heap) (nx : Nat) : vK PG call (lp 15) 15 (subAt (codeOf PG 29) [1,1,0,1,0,0]) (envL .und [(6, iv i), (5, AVal.str s), (1, iv n), (0, AVal.ptr k 0)]) H nx [] none (trimK [0,1,5,6] (loopK N X R Pn)) = LTabs call lp N X R Pn k n i s H nx := by kernel_rfl
def ATabs (call : CallP) (lp : Nat → LoopP) (lv : LeaveP) (lvc : LeaveC) (k : Nat) (n : Int) (i : Int) (s : List UInt8) (H : Heap) (nx : Nat) (K : EndP) : Prop :=
 K (AEnd.ret (AVal.str s)) H nx
theorem ATabs_eq (call : CallP) (lp : Nat → LoopP) (lv : LeaveP) (lvc : LeaveC) (k : Nat) (n : Int) (i : Int) (s : List UInt8) (H : Heap) (nx : Nat) (K : EndP) : contAt PG call (lp 15) 15 (codeOf PG 29) [1,1,0,1,0] (endK PG lv lvc K (resOf PG 29)) (.exit 0) (envL .und [(6, iv i), (5, AVal.str s), (1, iv n), (0, AVal.ptr k 0)]) H nx [] none = ATabs call lp lv lvc k n i s H nx K := by kernel_rfl
def LStm (call : CallP) (lp : Nat → LoopP) (N : KC) (X : Nat → KC) (R : KC) (Pn : List (AVal × Bool) → KC) (k : Nat) (n : Int) (d : Int) (i : Int) (w : AVal) (H : Heap) (nx : Nat) : Prop :=
 ifB (decide (0 < i)) (call f_mk_stmt [AVal.ptr k 0, iv n, iv d] H nx fun e0 H1 i2 => onEnd e0 (fun v3 => N (envL AVal.und [(0, AVal.ptr k 0), (1, iv n), (2, iv d), (6, w), (7, iv
 (IntKind.i64.wrap (i - 1)))]) H1 i2 [] none) fun l4 => Pn l4 (envL AVal.und [(0, AVal.ptr k 0), (1, iv n), (2, iv d), (6, w), (7, iv i)]) H1 i2 [] none) (X 0 (envL AVal.und [(0,
 AVal.ptr k 0), (1, iv n), (2, iv d), (6, w), (7, iv i)]) H nx [] none)
theorem LStm_eq (call : CallP) (lp : Nat → LoopP) (N : KC) (X : Nat → KC) (R : KC) (Pn : List (AVal × Bool) → KC) (k : Nat) (n : Int) (d : Int) (i : Int) (w : AVal) (H : Heap) (nx : Nat) : vK PG call (lp 29) 29 (subAt (codeOf PG 30) [1,0,1,0,0]) (envL .und [(7, iv i), (6, w), (2, iv d), (1, iv n), (0, AVal.ptr k 0)]) H nx [] none (trimK [0,1,2,6,7] (loopK N X R Pn)) = LStm call lp N X R Pn k n d i w H nx := by kernel_rfl
def AStm (call : CallP) (lp : Nat → LoopP) (lv : LeaveP) (lvc : LeaveC) (k : Nat) (n : Int) (d : Int) (i : Int) (w : AVal) (H : Heap) (nx : Nat) (K : EndP) : Prop :=
 true = true ∧ ∃ v0, some (AVal.ptr k 2) = some v0 ∧ cellv w = true ∧ ∃ H1, stC H v0 [w] = some H1 ∧ K (AEnd.ret (AVal.tuple [])) H1 nx
theorem AStm_eq (call : CallP) (lp : Nat → LoopP) (lv : LeaveP) (lvc : LeaveC) (k : Nat) (n : Int) (d : Int) (i : Int) (w : AVal) (H : Heap) (nx : Nat) (K : EndP) : contAt PG call (lp 29) 29 (codeOf PG 30) [1,0,1,0] (endK PG lv lvc K (resOf PG 30)) (.exit 0) (envL .und [(7, iv i), (6, w), (2, iv d), (1, iv n), (0, AVal.ptr k 0)]) H nx [] none = AStm call lp lv lvc k n d i w H nx K := by kernel_rfl
def LFn (call : CallP) (lp : Nat → LoopP) (N : KC) (X : Nat → KC) (R : KC) (Pn : List (AVal × Bool) → KC) (k : Nat) (h : List UInt8) (ps : AVal) (ts : AVal) (r : Int) (d : Int) (i : Int) (H : Heap) (nx : Nat) : Prop :=
 ∃ i0, lenS ps = some i0 ∧ ifB (decide (i < Int.ofNat i0)) (true = true ∧ ∃ v1, some (AVal.ptr k 2) = some v1 ∧ ∃ v2, ld1 H v1 = some v2 ∧ 0 ≤ i ∧ ∃ v3, idxS ts i.toNat 1 = some v3 ∧
 ∃ n4 : Int, ld1 H v3 = some (iv n4) ∧ true = true ∧ ∃ v5, some (AVal.ptr k 2) = some v5 ∧ ∃ v6, ld1 H v5 = some v6 ∧ 0 ≤ i ∧ ∃ v7, idxS ts i.toNat 1 = some v7 ∧ ∃ n8 : Int, ld1 H v7
 = some (iv n8) ∧ 0 ≤ n8 ∧ ∃ v9, idxS v6 n8.toNat 1 = some v9 ∧ ∃ v10, ld1 H v9 = some v10 ∧ 0 ≤ i ∧ ∃ v11, idxS ps i.toNat 1 = some v11 ∧ ∃ s12, ld1 H v11 = some (AVal.str s12) ∧
 true = true ∧ ∃ H13, H13 = newB (nx + 22) [AVal.str s12] H ∧ ((∃ v14, ld1 H13 v1 = some v14 ∧ v14 = v2) ∧ (∃ n15 : Int, ld1 H13 v3 = some (iv n15) ∧ iv n15 = iv n4) ∧ (∃ v16, ld1
 H13 v5 = some v16 ∧ v16 = v6) ∧ (∃ n17 : Int, ld1 H13 v7 = some (iv n17) ∧ iv n17 = iv n8) ∧ (∃ v18, ld1 H13 v9 = some v18 ∧ v18 = v10) ∧ (∃ s19, ld1 H13 v11 = some (AVal.str s19) ∧
 AVal.str s19 = AVal.str s12) ∧ True) ∧ ∃ i20 l21, aSrc 1 H13 (AVal.slice (nx + 22) 0 1 1 true) = some (i20, l21) ∧ allCell l21 = true ∧ ∃ v22 H23 i24, appC H13 (nx + 26) 1 16 v10
 i20 l21 = some (v22, H23, i24) ∧ 0 ≤ n4 ∧ ∃ v25, idxS v2 n4.toNat 1 = some v25 ∧ ((∃ v26, ld1 H23 v1 = some v26 ∧ v26 = v2) ∧ (∃ n27 : Int, ld1 H23 v3 = some (iv n27) ∧ iv n27 = iv
 n4) ∧ True) ∧ cellv v22 = true ∧ ∃ H28, stC H23 v25 [v22] = some H28 ∧ True ∧ N (envL AVal.und [(0, AVal.ptr k 0), (1, AVal.str h), (2, ps), (3, ts), (4, iv r), (5, iv d), (14, iv
 (IntKind.i64.wrap (i + 1)))]) H28 i24 [] none) (X 0 (envL AVal.und [(0, AVal.ptr k 0), (1, AVal.str h), (2, ps), (3, ts), (4, iv r), (5, iv d), (14, iv i)]) H nx [] none)
theorem LFn_eq (call : CallP) (lp : Nat → LoopP) (N : KC) (X : Nat → KC) (R : KC) (Pn : List (AVal × Bool) → KC) (k : Nat) (h : List UInt8) (ps : AVal) (ts : AVal) (r : Int) (d : Int) (i : Int) (H : Heap) (nx : Nat) : vK PG call (lp 96) 96 (subAt (codeOf PG 16) [1,1,1,1,1,0,1,0,0]) (envL .und [(14, iv i), (5, iv d), (4, iv r), (3, ts), (2, ps), (1, AVal.str h), (0, AVal.ptr k 0)]) H nx [] none (trimK [0,1,2,3,4,5,14] (loopK N X R Pn)) = LFn call lp N X R Pn k h ps ts r d i H nx := by kernel_rfl
def AFn (call : CallP) (lp : Nat → LoopP) (lv : LeaveP) (lvc : LeaveC) (k : Nat) (h : List UInt8) (ps : AVal) (ts : AVal) (r : Int) (d : Int) (i : Int) (H : Heap) (nx : Nat) (K : EndP) : Prop :=
 h.length + 2 ≤ 9223372036854775807 ∧ call f_mk_line [AVal.ptr k 0, iv 0, AVal.str (h ++ [32, 123])] H nx fun e0 H1 i2 => onEnd e0 (fun v3 => call f_mk_line [AVal.ptr k 0, iv 1, AVal.str [118, 97,
 114, 32, 122, 32, 73]] H1 i2 fun e4 H5 i6 => onEnd e4 (fun v7 => true = true ∧ ∃ v8, some (AVal.ptr k 2) = some v8 ∧ ∃ v9, ld1 H5 v8 = some v9 ∧ true = true ∧ ∃ v10, some (AVal.ptr
 k 2) = some v10 ∧ ∃ v11, ld1 H5 v10 = some v11 ∧ (0 : Int) ≤ 6 ∧ ∃ v12, idxS v11 6 1 = some v12 ∧ ∃ v13, ld1 H5 v12 = some v13 ∧ true = true ∧ ∃ H14, H14 = newB (i6 + 10) [AVal.str
 [122]] H5 ∧ ((∃ v15, ld1 H14 v8 = some v15 ∧ v15 = v9) ∧ (∃ v16, ld1 H14 v10 = some v16 ∧ v16 = v11) ∧ (∃ v17, ld1 H14 v12 = some v17 ∧ v17 = v13) ∧ True) ∧ ∃ i18 l19, aSrc 1 H14
 (AVal.slice (i6 + 10) 0 1 1 true) = some (i18, l19) ∧ allCell l19 = true ∧ ∃ v20 H21 i22, appC H14 (i6 + 14) 1 16 v13 i18 l19 = some (v20, H21, i22) ∧ (0 : Int) ≤ 6 ∧ ∃ v23, idxS v9
 6 1 = some v23 ∧ ((∃ v24, ld1 H21 v8 = some v24 ∧ v24 = v9) ∧ True) ∧ cellv v20 = true ∧ ∃ H25, stC H21 v23 [v20] = some H25 ∧ True ∧ call f_mk_stmts [AVal.ptr k 0, iv 1, iv d] H25 i22 fun
 e26 H27 i28 => onEnd e26 (fun v29 => ifB (decide (0 ≤ r)) (call f_mk_expr [AVal.ptr k 0, iv r, iv 2] H27 i28 fun e30 H31 i32 => onEnd e30 (fun v33 => ∃ s34, v33 = AVal.str s34 ∧ 7 +
 s34.length ≤ 9223372036854775807 ∧ call f_mk_line [AVal.ptr k 0, iv 1, AVal.str ([114, 101, 116, 117, 114, 110, 32] ++ s34)] H31 i32 fun e35 H36 i37 => onEnd e35 (fun v38 => call 15
 [AVal.ptr k 0, iv 0, AVal.str [125]] H36 i37 fun e39 H40 i41 => onEnd e39 (fun v42 => K (AEnd.ret (AVal.tuple [])) H40 i41) fun l43 => K (AEnd.pan l43) H40 i41) fun l44 => K
 (AEnd.pan l44) H36 i37) fun l45 => K (AEnd.pan l45) H31 i32) (call f_mk_line [AVal.ptr k 0, iv 0, AVal.str [125]] H27 i28 fun e46 H47 i48 => onEnd e46 (fun v49 => K (AEnd.ret (AVal.tuple
 [])) H47 i48) fun l50 => K (AEnd.pan l50) H47 i48)) fun l51 => K (AEnd.pan l51) H27 i28) fun l52 => K (AEnd.pan l52) H5 i6) fun l53 => K (AEnd.pan l53) H1 i2
theorem AFn_eq (call : CallP) (lp : Nat → LoopP) (lv : LeaveP) (lvc : LeaveC) (k : Nat) (h : List UInt8) (ps : AVal) (ts : AVal) (r : Int) (d : Int) (i : Int) (H : Heap) (nx : Nat) (K : EndP) : contAt PG call (lp 96) 96 (codeOf PG 16) [1,1,1,1,1,0,1,0] (endK PG lv lvc K (resOf PG 16)) (.exit 0) (envL .und [(14, iv i), (5, iv d), (4, iv r), (3, ts), (2, ps), (1, AVal.str h), (0, AVal.ptr k 0)]) H nx [] none = AFn call lp lv lvc k h ps ts r d i H nx K := by kernel_rfl
end Go.Vs
end
section
namespace Go.Vs
open Go.Proofs
variable [GTab] {Z : Nat → Prop}
noncomputable section
section
variable {raw : AVal} {rl : List Int} {k n0 vb c N U L : Nat} {r : Int} {Γ0 Γ : GH} {H : Heap} {nx : Nat} {K : EndP}
theorem tabs_ok {n : Int} (h0 : 0 ≤ n) (h1 : n ≤ 100) (hK : ∀ s, s.length ≤ 100 → K (.ret (.str s)) H nx) : TriP PG f_mk_tabs [.ptr k 0, iv n] H nx K := by
 refine TriP.of_body mixed ?_
 rw [Fmk_tabs_eq]
 unfold Fmk_tabs
 obtain ⟨m, rfl⟩ : ∃ m : Nat, n = m := ⟨n.toNat, by omega⟩
 refine loop_w (P := PG) (X := Nat × List UInt8) (Y := List UInt8) (fun x => envL .und [(6, iv x.1), (5, .str x.2), (1, iv m), (0, .ptr k 0)]) (fun s => envL .und [(6, iv m), (5, .str s), (1, iv m), (0, .ptr k 0)])
  (fun r x H1 nx1 => r = m - x.1 ∧ x.1 ≤ m ∧ x.2.length = x.1 ∧ H1 = H ∧ nx1 = nx) (fun id s H1 nx1 => id = 0 ∧ s.length = m ∧ H1 = H ∧ nx1 = nx) m (0, []) (EnvLe.of_list (by exact ⟨rfl, rfl, rfl, rfl, trivial⟩)) ⟨rfl, by omega, rfl, rfl, rfl⟩ ?_ ?_
 ·rintro r ⟨i, s⟩ H1 nx1 ⟨rfl, hi, hs, rfl, rfl⟩
  dsimp only at hi hs
  refine WpP.part (ts := [0, 1, 5, 6]) mixed ?_
  rw [LTabs_eq]
  unfold LTabs
  refine ifB_iff.2 ⟨fun h => ?_, fun h => ?_⟩
  ·have h : (i : Int) < m := of_decide_eq_true h
   refine ⟨by (show s.length + 1 ≤ _); omega, rfl, m - (i + 1), (i + 1, s ++ [9]), by show _ < m - i; omega, ?_, rfl, by show i + 1 ≤ m; omega, by simp [hs], rfl, rfl⟩
   rw [wrap64_id (by omega) (by omega)]
   exact EnvLe.of_list (by exact ⟨rfl, rfl, rfl, rfl, trivial⟩)
  ·have h : ¬ (i : Int) < m := of_decide_eq_false h
   have : i = m := by omega
   subst this
   exact ⟨rfl, s, EnvLe.of_list (by exact ⟨rfl, rfl, rfl, rfl, trivial⟩), rfl, hs, rfl, rfl⟩
 ·rintro id s H1 nx1 ⟨rfl, hs, rfl, rfl⟩
  rw [ATabs_eq]
  unfold ATabs
  exact hK s (by omega)
theorem line_okM (S : MS Z raw rl k Γ0 n0 vb c r N U L H nx) {n : Int} {s : List UInt8} {L' : Nat} (h0 : 0 ≤ n) (h1 : n ≤ 100) (hL : L + s.length + 101 ≤ L') (hL' : L' ≤ 1000000000000)
  (hK : ∀ H' nx', nx ≤ nx' → MS Z raw rl k Γ0 n0 vb c r N U L' H' nx' → K (.ret (.tuple [])) H' nx') : TriP PG f_mk_line [.ptr k 0, iv n, .str s] H nx K := by
 refine TriP.of_body mixed ?_
 rw [Fmk_line_eq]
 unfold Fmk_line
 obtain ⟨a, full, names, loops, size, out, calls, b1, b2, b3, b4, b5, b6, c0, c1, c2, c3, c4, c5, c6, _⟩ := S.cells
 refine ⟨rfl, _, rfl, _, c6, ⟨⟨_, c6, rfl⟩, trivial⟩, tabs_ok h0 h1 fun t ht => onEnd_ret.2 ⟨_, rfl, by omega, by simp only [List.length_append]; omega, by simp only [List.length_append]; omega, rfl, _, rfl, ⟨⟨_, c6, rfl⟩, trivial⟩, rfl, ?_⟩⟩
 refine (S.more (by omega : nx ≤ nx + 15)).setOut (L' := L') (by simp only [List.length_append, List.length_cons, List.length_nil]; omega) fun H' S' => ⟨trivial, hK _ _ (by omega) S'⟩
theorem app2 {e q : Nat} {M : Nat} {v : AVal} {name : List UInt8} (hk : HZ Z Γ H nx) (he : Γ e = some []) (hq : Γ q = some [.str name]) (hv : StrsV M Γ v) (hl : name.length ≤ 20) (hM : M ≤ 1000)
  {p : AVal → Heap → Nat → Prop} {r1 : AVal → Heap → Nat → Prop}
  (hr : ∀ v H' nx' Γ', HZ Z Γ' H' nx' → (∀ b cs, Γ b = some cs → Γ' b = some cs) → r1 v H' nx')
  (hK : ∀ (v' : AVal) (H' : Heap) (nx' : Nat) (Γ' : GH) (b : Nat) (f : Bool) (ss : List (List UInt8)), nx ≤ nx' → HZ Z Γ' H' nx' → (∀ b cs, Γ b = some cs → Γ' b = some cs) → v' = .slice b 0 ss.length 1 f → Γ' b = some (ss.map .str) → Γ b = none → 0 < ss.length → ss.length ≤ M + 1 → (∀ s, s ∈ ss → s.length ≤ 20) → p v' H' nx') :
  ∃ i l, aSrc 1 H v = some (i, l) ∧ allCell l = true ∧ ∃ v1 H1 i1, appC H nx 1 16 (.slice e 0 0 1 true) i l = some (v1, H1, i1) ∧ r1 v1 H1 i1 ∧ ∃ i2 l2, aSrc 1 H1 (.slice q 0 1 1 true) = some (i2, l2) ∧ allCell l2 = true ∧ ∃ v2 H2 i3, appC H1 i1 1 16 v1 i2 l2 = some (v2, H2, i3) ∧ p v2 H2 i3 := by
 rcases hv with rfl | ⟨b, n, full, ss, rfl, hb, h1, h2, h3, h4⟩
 ·refine ⟨0, [], rfl, rfl, _, H, nx, rfl, hr _ _ _ Γ hk fun _ _ e => e, 1, [.str name], by rw [hk.src hq (by simp)]; simp, rfl, ?_⟩
  have hf := hk.fresh (Nat.le_refl nx)
  obtain ⟨H2, a1, a2⟩ := hk.appFull (esz := 1) (ebytes := 16) (k := 1) (off := 0) (len := 0) (new := [.str name]) he (by simp) (by simp) (by omega) (by omega) (by omega)
  refine ⟨_, H2, _, a1, hK _ _ _ _ nx false [name] (by omega) a2 (fun b cs e => (gup_ne (neK e hf)).trans e) rfl (by rw [gup_same]; simp) hf (by simp) (by simp) fun s hs => ?_⟩
  simp at hs; subst hs; exact hl
 ·have hlen : ((ss.take n).map AVal.str).length = n := by simp; omega
  refine ⟨n, (ss.take n).map .str, by rw [hk.src hb (by simp; omega)]; simp, ?_, ?_⟩
  ·have : ∀ l : List (List UInt8), allCell (l.map .str) = true := fun l => by
    induction l with
    | nil => rfl
    | cons x l ih => exact ih
   exact this _
  have hf := hk.fresh (Nat.le_refl nx)
  obtain ⟨H1, a1, a2⟩ := hk.appFull (esz := 1) (ebytes := 16) (k := n) (off := 0) (len := 0) (new := (ss.take n).map .str) he (by simp) (by rw [hlen]; omega) (by omega) (by omega) (by omega)
  rw [Nat.zero_add] at a1
  have s1 : ∀ b cs, Γ b = some cs → gup nx (some ((ss.take n).map .str)) Γ b = some cs := fun b cs e => (gup_ne (neK e hf)).trans e
  have a2' : HZ Z (gup nx (some ((ss.take n).map .str)) Γ) H1 (nx + 1) := by simpa using a2
  refine ⟨_, H1, _, a1, hr _ _ _ _ a2' s1, 1, [.str name], by rw [a2'.src (s1 _ _ hq) (by simp)]; simp, rfl, ?_⟩
  have hf2 := a2'.fresh (Nat.le_refl (nx + 1))
  obtain ⟨H2, b1, b2⟩ := a2'.app (esz := 1) (ebytes := 16) (k := 1) (len := n) (new := [.str name]) (gup_same _ _ _) (by rw [hlen]; omega) (by simp) (by omega) (by omega) (by omega)
  refine ⟨_, H2, _, b1, hK _ _ _ _ (nx + 1) false (ss.take n ++ [name]) (by omega) b2 (fun b cs e => ?_) ?_ ?_ ?_ ?_ ?_ fun s hs => ?_⟩
  ·rw [gup_ne (neK (s1 _ _ e) hf2), gup_ne (neK e hf), gup_ne (neK e hf)]; exact e
  ·simp [show min n ss.length = n by omega]
  ·rw [gup_same, Nat.mul_one]
   have : ((ss.take n).map AVal.str).take n = (ss.take n).map .str := List.take_of_length_le (by omega)
   rw [this]; simp
  ·cases e : Γ (nx + 1) with
   | none => rfl
   | some cs => rw [s1 _ _ e] at hf2; cases hf2
  ·simp
  ·simp; omega
  ·rcases List.mem_append.1 hs with h | h
   ·exact h4 _ (List.mem_of_mem_take h)
   ·simp at h; subst h; exact hl
theorem MS.setRow {raw : AVal} {rl : List Int} {a : Nat} {full : Bool} {names : Nat} {loops size : Int} {out : List UInt8} {calls : Bool} {ds : List AVal} {M t b : Nat} {f : Bool} {ss : List (List UInt8)} (hk : HZ Z Γ H nx) (h0 : n0 ≤ nx) (h1 : Γ0 k = none) (h2 : Γ0 vb = none) (hs : ∀ b cs, Γ0 b = some cs → Γ b = some cs)
  (e : Γ k = some (mkC raw a vb full names loops size out r calls)) (e1 : a ≤ rl.length) (e2 : N ≤ names) (e3 : names ≤ U) (e4 : r ≤ 6) (e5 : out.length ≤ L) (e6 : c ≤ 3 ∧ U ≤ 25) (d1 : Γ vb = some ds) (d2 : ds.length = 7) (d4 : Dist ds) (d3 : ∀ x, x ∈ ds → StrsV M Γ x) (hM : M ≤ names + c)
  (ht : t < 7) (hb : Γ b = some (ss.map .str)) (hne : ∀ (i n : Nat) (g : Bool), ds[i]? ≠ some (.slice b 0 n 1 g)) (hl0 : 0 < ss.length) (hl : ss.length ≤ names + c) (hls : ∀ s, s ∈ ss → s.length ≤ 20)
  {p : Heap → Prop} (hK : ∀ H', MS Z raw rl k Γ0 n0 vb c r N U L H' nx → p H') : ∃ H1, stC H (.ptr vb t) [.slice b 0 ss.length 1 f] = some H1 ∧ p H1 := by
 refine stOne hk d1 (by omega) rfl fun H' hk' => hK H' ?_
 have hvk := row_ne_k e d1 d2
 have sne : ∀ (b : Nat) (ss : List (List UInt8)), ss ≠ [] → Γ b = some (ss.map .str) → gup vb (some (ds.set t (.slice b 0 ss.length 1 f))) Γ b = some (ss.map .str) := fun b' ss' hn hb' => (gup_ne (strs_ne_row d1 d2 d3 hn hb')).trans hb'
 have hbv : b ≠ vb := strs_ne_row d1 d2 d3 (fun h => by subst h; simp at hl0) hb
 refine ⟨h0, h1, h2, _, hk', fun b' cs' e' => ?_, a, full, names, loops, size, out, calls, (gup_ne (Ne.symm hvk)).trans e, e1, e2, e3, e4, e5, e6, _, gup_same _ _ _, by simp [d2], ?_, fun x hx => ?_⟩
 ·have : b' ≠ vb := fun x => by subst x; rw [h2] at e'; cases e'
  exact (gup_ne this).trans (hs _ _ e')
 ·intro i j b' n m g1 g2 hij hi hj
  rw [List.getElem?_set] at hi hj
  by_cases hti : t = i
  ·subst hti
   rw [if_pos rfl, if_pos (by omega)] at hi
   cases hi
   rw [if_neg (by omega)] at hj
   exact hne _ _ _ hj
  ·rw [if_neg hti] at hi
   by_cases htj : t = j
   ·subst htj
    rw [if_pos rfl, if_pos (by omega)] at hj
    cases hj
    exact hne _ _ _ hi
   ·rw [if_neg htj] at hj
    exact d4 i j b' n m g1 g2 hij hi hj
 ·rcases List.mem_or_eq_of_mem_set hx with h | rfl
  ·exact (d3 x h).mono (fun b' ss' hn hb' => (gup_ne (strs_ne_row d1 d2 d3 hn hb')).trans hb') hM
  ·exact .inr ⟨b, ss.length, f, ss, rfl, (gup_ne hbv).trans hb, Nat.le_refl _, hl0, hl, hls⟩
theorem digitsM (S : MS Z raw rl k Γ0 n0 vb c r N U L H nx) {n : Int} (hn : n ≤ 9223372036854775807) (hK : ∀ s H' nx', nx ≤ nx' → MS Z raw rl k Γ0 n0 vb c r N U L H' nx' → s.length ≤ 19 → K (.ret (.str s)) H' nx') : TriP PG f_h_Digits [iv n] H nx K :=
 let ⟨h0, h1, h2, Γ, h3, h4, h5⟩ := S
 digitsAll hn h3 fun s H' nx' g k' hs _ => hK s H' nx' g ⟨Nat.le_trans h0 g, h1, h2, Γ, k', h4, h5⟩ hs
theorem MS.incNames (S : MS Z raw rl k Γ0 n0 vb (c + 1) r N U L H nx) (hU : U ≤ 24) {m : Int} (c3 : ld1 H (.ptr k 3) = some (iv m)) {p : Heap → Prop} (hK : ∀ H', MS Z raw rl k Γ0 n0 vb c r N (U + 1) L H' nx → p H') :
  ∃ H1, stC H (.ptr k 3) [iv (IntKind.i64.wrap (m + 1))] = some H1 ∧ p H1 := by
 obtain ⟨h0, h1, h2, Γ, h3, h4, a, full, names, loops, size, out, calls, e, e1, e2, e3, e4, e5, e6, ds, d1, d2, d4, d3⟩ := S
 rw [h3.ld1 e] at c3
 have hm : m = names := by
  have : some (iv (names : Int)) = some (iv m) := c3
  injection this with this; injection this with _ this; exact this.symm
 subst hm
 rw [show IntKind.i64.wrap ((names : Int) + 1) = ((names + 1 : Nat) : Int) by rw [wrap64_id (by omega) (by omega)]; omega]
 refine stOne h3 e (by simp) rfl fun H' hk' => hK H' ?_
 have hne := row_ne_k e d1 d2
 refine ⟨h0, h1, h2, _, hk', fun b cs' e' => ?_, a, full, names + 1, loops, size, out, calls, gup_same _ _ _, e1, by omega, by omega, e4, e5, by omega, ds, (gup_ne hne).trans d1, d2, d4, fun x hx => (d3 x hx).mono fun b ss _ hb => (gup_ne (strs_ne_k e hb)).trans hb⟩
 have : b ≠ k := fun x => by subst x; rw [h1] at e'; cases e'
 exact (gup_ne this).trans (h4 _ _ e')
theorem addRow (S : MS Z raw rl k Γ0 n0 vb c r N U L H nx) {t : Int} (ht0 : 0 ≤ t) (ht1 : t < 7) (hc : c + 1 ≤ 3) {x y z : Nat} (hx : x < y) (hy : y < z) {name : List UInt8} (hn : name.length ≤ 20) {p : Heap → Nat → Prop} (hK : ∀ H' nx', nx ≤ nx' → MS Z raw rl k Γ0 n0 vb (c + 1) r N U L H' nx' → p H' nx') :
  true = true ∧ ∃ v15, some (AVal.ptr k 2) = some v15 ∧ ∃ v16, ld1 H v15 = some v16 ∧ ∃ H17, H17 = newB (nx + x) [] H ∧ true = true ∧ ∃ v18, some (AVal.ptr k 2) = some v18 ∧ ∃ v19, ld1 H17 v18 = some v19 ∧ 0 ≤ t ∧ ∃ v20, idxS v19 t.toNat 1 = some v20 ∧ ∃ v21, ld1 H17 v20 = some v21 ∧ true = true ∧ ∃ H22, H22 = newB (nx + y) [AVal.str name] H17 ∧ ((∃ v23, ld1 H22 v15 = some v23 ∧ v23 = v16) ∧ (∃ v24, ld1 H22 v18 = some v24 ∧ v24 = v19) ∧ (∃ v25, ld1 H22 v20 = some v25 ∧ v25 = v21) ∧ True) ∧
  ∃ i26 l27, aSrc 1 H22 v21 = some (i26, l27) ∧ allCell l27 = true ∧ ∃ v28 H29 i30, appC H22 (nx + z) 1 16 (AVal.slice (nx + x) 0 0 1 true) i26 l27 = some (v28, H29, i30) ∧ ((∃ v31, ld1 H29 v15 = some v31 ∧ v31 = v16) ∧ True) ∧ ∃ i32 l33, aSrc 1 H29 (AVal.slice (nx + y) 0 1 1 true) = some (i32, l33) ∧ allCell l33 = true ∧
  ∃ v34 H35 i36, appC H29 i30 1 16 v28 i32 l33 = some (v34, H35, i36) ∧ 0 ≤ t ∧ ∃ v37, idxS v16 t.toNat 1 = some v37 ∧ ((∃ v38, ld1 H35 v15 = some v38 ∧ v38 = v16) ∧ True) ∧ cellv v34 = true ∧ ∃ H39, stC H35 v37 [v34] = some H39 ∧ True ∧ p H39 i36 := by
 obtain ⟨h0, h1, h2, Γ, h3, h4, a, full, names, loops, size, out, calls, e, e1, e2, e3, e4, e5, e6, ds, d1, d2, d4, d3⟩ := S
 have hf := h3.non (show nx ≤ nx + x by omega)
 have k17 : HZ Z (gup (nx + x) (some []) Γ) (newB (nx + x) [] H) (nx + x + 1) := h3.new (by omega) (by omega) []
 have s17 : ∀ b cs, Γ b = some cs → gup (nx + x) (some []) Γ b = some cs := fun b cs e => (gup_ne (neK e hf)).trans e
 have hf2 := k17.non (show nx + x + 1 ≤ nx + y by omega)
 have k22 : HZ Z (gup (nx + y) (some [AVal.str name]) (gup (nx + x) (some []) Γ)) (newB (nx + y) [AVal.str name] (newB (nx + x) [] H)) (nx + z) := k17.new (by omega) (by omega) _
 have s22 : ∀ b cs, Γ b = some cs → gup (nx + y) (some [AVal.str name]) (gup (nx + x) (some []) Γ) b = some cs := fun b cs e => (gup_ne (neK (s17 _ _ e) hf2)).trans (s17 _ _ e)
 have g5 : gup (nx + y) (some [AVal.str name]) (gup (nx + x) (some []) Γ) (nx + x) = some [] := by rw [gup_ne (by omega), gup_same]
 have g15 : gup (nx + y) (some [AVal.str name]) (gup (nx + x) (some []) Γ) (nx + y) = some [AVal.str name] := by rw [gup_same]
 generalize gup (nx + y) (some [AVal.str name]) (gup (nx + x) (some []) Γ) = Γ2 at k22 s22 g5 g15
 have ht : t.toNat < 7 := by omega
 have hlt : t.toNat < ds.length := by omega
 have ix : idxS (.slice vb 0 7 1 full) t.toNat 1 = some (.ptr vb t.toNat) := by rw [idxS_slice ht]; simp
 have lk : ∀ {H' nx' Γ'}, HZ Z Γ' H' nx' → (∀ b cs, Γ b = some cs → Γ' b = some cs) → ld1 H' (.ptr k 2) = some (.slice vb 0 7 1 full) := fun hk hs => by rw [hk.ld1 (hs _ _ e)]; rfl
 have lv : ∀ {H' nx' Γ'}, HZ Z Γ' H' nx' → (∀ b cs, Γ b = some cs → Γ' b = some cs) → ld1 H' (.ptr vb t.toNat) = some ds[t.toNat] := fun hk hs => by rw [hk.ld1 (hs _ _ d1)]; simp [hlt]
 refine ⟨rfl, _, rfl, _, lk h3 fun _ _ e => e, _, rfl, rfl, _, rfl, _, lk k17 s17, ht0, _, ix, _, lv k17 s17, rfl, _, rfl, ⟨⟨_, lk k22 s22, rfl⟩, ⟨_, lk k22 s22, rfl⟩, ⟨_, lv k22 s22, rfl⟩, trivial⟩, ?_⟩
 refine app2 (M := names + c) (v := ds[t.toNat]) k22 g5 g15 ((d3 _ (List.getElem_mem hlt)).mono fun b ss _ hb => s22 _ _ hb) hn (by omega) (fun v H' nx' Γ' hk hs => ⟨⟨_, lk hk fun b cs e => hs _ _ (s22 _ _ e), rfl⟩, trivial⟩) fun v' H' nx' Γ' b f ss g k' s' hv hb hbn hl0 hl hls => ?_
 have s3 : ∀ b cs, Γ b = some cs → Γ' b = some cs := fun b cs e => s' _ _ (s22 _ _ e)
 subst hv
 refine ⟨ht0, _, ix, ⟨⟨_, lk k' s3, rfl⟩, trivial⟩, rfl, ?_⟩
 refine MS.setRow (c := c + 1) (N := N) (U := U) (L := L) k' (by omega) h1 h2 (fun b cs e => s3 _ _ (h4 _ _ e)) (s3 _ _ e) e1 e2 e3 e4 e5 ⟨hc, e6.2⟩ (s3 _ _ d1) d2 d4 (fun x hx => (d3 x hx).mono fun b ss _ hb => s3 _ _ hb) (M := names + c) (by omega) ht hb (fun i n g hi => ?_) hl0 (by omega) hls fun H1 S1 => ⟨trivial, hK _ _ (by omega) S1⟩
 have hmem := List.mem_of_getElem? hi
 rcases d3 _ hmem with h | ⟨b', n', f', ss', q1, q2, _⟩
 ·cases h
 ·cases q1
  rw [s22 _ _ q2] at hbn; cases hbn
theorem declare_okM (S : MS Z raw rl k Γ0 n0 vb (c + 1) r N U L H nx) {t n : Int} {s : List UInt8} {L' : Nat} (ht0 : 0 ≤ t) (ht1 : t < 7) (h0 : 0 ≤ n) (h1 : n ≤ 100) (hU : U ≤ 24) (hL : L + s.length + 200 ≤ L') (hL' : L' ≤ 1000000000000)
  (hK : ∀ H' nx', nx ≤ nx' → MS Z raw rl k Γ0 n0 vb (c + 1) r N (U + 1) L' H' nx' → K (.ret (.tuple [])) H' nx') : TriP PG f_mk_declare [.ptr k 0, iv t, iv n, .str s] H nx K := by
 refine TriP.of_body mixed ?_
 rw [Fmk_declare_eq]
 unfold Fmk_declare
 have hc := S.u25.2
 obtain ⟨a, full, names, loops, size, out, calls, b1, b2, b3, b4, b5, b6, c0, c1, c2, c3, _⟩ := S.cells
 refine ⟨rfl, _, rfl, _, c3, digitsM S (by omega) fun w H nx2 g S hw => onEnd_ret.2 ⟨_, rfl, by omega, rfl, _, rfl, ?_⟩⟩
 obtain ⟨a, full, names, loops, size, out, calls, b1, b2, b3, b4, b5, b6, c0, c1, c2, c3, _⟩ := S.cells
 refine ⟨_, c3, rfl, _, rfl, rfl, S.incNames hU c3 fun H S => ?_⟩
 have hw2 : ([118] ++ w).length ≤ 20 := by simp only [List.length_append, List.length_cons, List.length_nil]; omega
 refine ifB_iff.2 ⟨fun _ => ⟨by omega, by simp only [List.length_append, List.length_cons, List.length_nil]; omega, by simp only [List.length_append, List.length_cons, List.length_nil]; omega, ?_⟩, fun _ => ⟨by omega, by simp only [List.length_append, List.length_cons, List.length_nil]; omega, ?_⟩⟩
 all_goals
  refine line_okM S (L' := L') h0 h1 (by simp only [List.length_append, List.length_cons, List.length_nil]; omega) hL' fun H nx3 g2 S => onEnd_ret.2 ?_
  exact addRow S ht0 ht1 hc (x := 5) (y := 15) (z := 19) (by omega) (by omega) hw2 fun H nx4 g3 S => hK _ _ (by omega) S
theorem MS.full (S : MS Z raw rl k Γ0 n0 vb c r N U L H nx) : ∃ (Γ1 : GH) (M : Nat) (ds : List AVal) (fl : Bool), N ≤ M ∧ M ≤ U ∧ (∀ b cs, Γ0 b = some cs → Γ1 b = some cs) ∧ MS Z raw rl k Γ1 n0 vb c r M M L H nx ∧ ld1 H (.ptr k 2) = some (.slice vb 0 7 1 fl) ∧ aSrc 1 H (.slice vb 0 7 1 fl) = some (7, ds) ∧ ds.length = 7 ∧ Dist ds ∧ (∀ x, x ∈ ds → StrsV (M + c) Γ1 x) ∧ ∀ b, nx ≤ b → Γ1 b = none := by
 obtain ⟨h0, h1, h2, Γ, h3, h4, a, full, names, loops, size, out, calls, e, e1, e2, e3, e4, e5, e6, ds, d1, d2, d4, d3⟩ := S
 have hvk := row_ne_k e d1 d2
 have sub : ∀ b cs, gup k none (gup vb none Γ) b = some cs → Γ b = some cs := fun b cs e => by
  by_cases hb : b = k
  ·subst hb; rw [gup_same] at e; cases e
  ·rw [gup_ne hb] at e
   by_cases hv : b = vb
   ·subst hv; rw [gup_same] at e; cases e
   ·rwa [gup_ne hv] at e
 have sup : ∀ b cs, b ≠ k → b ≠ vb → Γ b = some cs → gup k none (gup vb none Γ) b = some cs := fun b cs hb hv e => by rw [gup_ne hb, gup_ne hv]; exact e
 refine ⟨gup k none (gup vb none Γ), names, ds, full, e2, e3, fun b cs e' => ?_, ⟨h0, gup_same _ _ _, by rw [gup_ne hvk, gup_same], Γ, h3, sub, a, full, names, loops, size, out, calls, e, e1, Nat.le_refl _, Nat.le_refl _, e4, e5, ⟨e6.1, by omega⟩, ds, d1, d2, d4, d3⟩, by rw [h3.ld1 e]; rfl, ?_, d2, d4, fun x hx => (d3 x hx).mono fun b ss hn hb => sup _ _ (strs_ne_k e hb) (strs_ne_row d1 d2 d3 hn hb) hb, fun b hb => ?_⟩
 ·refine sup _ _ (fun x => by subst x; rw [h1] at e'; cases e') (fun x => by subst x; rw [h2] at e'; cases e') (h4 _ _ e')
 ·have := h3.src d1 (off := 0) (n := 7) (sz := 1) (e := 1) (full := full) (by omega)
  rw [this]
  simp only [List.drop_zero]
  rw [List.take_of_length_le (by omega)]
 ·cases hq : gup k none (gup vb none Γ) b with
  | none => rfl
  | some cs => have := h3.lt (sub _ _ hq); omega
theorem MS.appFull (S : MS Z raw rl k Γ0 n0 vb c r N U L H nx) {e : Nat} {ds : List AVal} (he : Γ0 e = some []) (hl : ds.length = 7) :
  ∃ H', appC H nx 1 24 (.slice e 0 0 1 true) 7 ds = some (.slice nx 0 7 1 false, H', nx + 1) ∧ MS Z raw rl k (gup nx (some ds) Γ0) n0 vb c r N U L H' (nx + 1) ∧ Γ0 nx = none := by
 obtain ⟨h0, h1, h2, Γ, h3, h4, a, full, names, loops, size, out, calls, e', e1, e2, e3, e4, e5, e6, qs, d1, d2, d4, d3⟩ := S
 obtain ⟨H', a1, a2⟩ := h3.appFull (esz := 1) (ebytes := 24) (k := 7) (off := 0) (len := 0) (new := ds) (h4 _ _ he) (by simp) (by omega) (by omega) (by omega) (by omega)
 have hn := h3.non (Nat.le_refl nx)
 have up : ∀ b cs', Γ b = some cs' → gup nx (some ds) Γ b = some cs' := fun b cs' e => (gup_ne (neK e hn)).trans e
 have h0n : Γ0 nx = none := by
  cases e : Γ0 nx with
  | none => rfl
  | some cs => rw [h4 _ _ e] at hn; cases hn
 refine ⟨H', a1, ⟨by omega, (gup_ne (neK e' hn)).trans h1, (gup_ne (neK d1 hn)).trans h2, gup nx (some ds) Γ, by simpa using a2, fun b cs' e => ?_, a, full, names, loops, size, out, calls, up _ _ e', e1, e2, e3, e4, e5, e6, qs, up _ _ d1, d2, d4, fun x hx => (d3 x hx).mono fun b ss _ hb => up _ _ hb⟩, h0n⟩
 by_cases hb : b = nx
 ·subst hb; rw [gup_same] at e ⊢; exact e
 ·rw [gup_ne hb] at e ⊢; exact h4 _ _ e
theorem MS.back {Γ1 : GH} (S : MS Z raw rl k Γ1 n0 vb c r N U L H nx) {b : Nat} {ds : List AVal} {fl : Bool} {M : Nat} (hb : Γ1 b = some ds) (hl : ds.length = 7) (hd : Dist ds) (hr : ∀ x, x ∈ ds → StrsV M Γ1 x) (hM : M ≤ N + c) (hs : ∀ b cs, Γ0 b = some cs → Γ1 b = some cs) (hb0 : Γ0 b = none)
  {p : Heap → Prop} (hK : ∀ H', MS Z raw rl k Γ0 n0 b c r N U L H' nx → p H') : ∃ H1, stC H (.ptr k 2) [.slice b 0 7 1 fl] = some H1 ∧ p H1 := by
 obtain ⟨h0, h1, h2, Γ, h3, h4, a, full, names, loops, size, out, calls, e, e1, e2, e3, e4, e5, e6, qs, d1, d2, d4, d3⟩ := S
 refine stOne h3 e (by simp) rfl fun H' hk' => hK H' ?_
 have hbk : b ≠ k := fun x => by subst x; rw [h1] at hb; cases hb
 refine ⟨h0, sub_none hs h1, hb0, _, hk', fun b' cs' e' => ?_, a, fl, names, loops, size, out, calls, gup_same _ _ _, e1, e2, e3, e4, e5, e6, ds, (gup_ne hbk).trans (h4 _ _ hb), hl, hd, fun x hx => (hr x hx).mono (fun b ss _ hb => (gup_ne (strs_ne_k e (h4 _ _ hb))).trans (h4 _ _ hb)) (by omega)⟩
 have : b' ≠ k := fun x => by subst x; rw [sub_none hs h1] at e'; cases e'
 exact (gup_ne this).trans (h4 _ _ (hs _ _ e'))
end
end
end Go.Vs
end
section
namespace Go.Vs
open Go.Proofs
variable [GTab] {Z : Nat → Prop}
noncomputable section
def TB : Nat → Nat
 | 0 => 40000
 | D + 1 => 40000 + 8 * TB D
theorem TB_ge : ∀ D, 40000 ≤ TB D
 | 0 => Nat.le_refl _
 | D + 1 => by unfold TB; omega
def StmtsP (Z : Nat → Prop) (raw : AVal) (rl : List Int) (k : Nat) (r : Int) (D : Nat) : Prop :=
 ∀ {Γ0 : GH} {n0 vb N U L L' : Nat} {H : Heap} {nx : Nat} {K : EndP} {n d : Int}, MS Z raw rl k Γ0 n0 vb 3 r N U L H nx → 0 ≤ n → n + D ≤ 90 → d.toNat ≤ D → d ≤ 3 → -9 ≤ d → L + 4 * TB D ≤ L' → L' ≤ 500000000000 →
  (∀ H' nx' vb', nx ≤ nx' → MS Z raw rl k Γ0 n0 vb' 3 r N 25 L' H' nx' → K (.ret (.tuple [])) H' nx') → TriP PG f_mk_stmts [.ptr k 0, iv n, iv d] H nx K
def StmtP (Z : Nat → Prop) (raw : AVal) (rl : List Int) (k : Nat) (r : Int) (D : Nat) : Prop :=
 ∀ {Γ0 : GH} {n0 vb N U L L' : Nat} {H : Heap} {nx : Nat} {K : EndP} {n d : Int}, MS Z raw rl k Γ0 n0 vb 3 r N U L H nx → 0 ≤ n → n + D ≤ 90 → d.toNat ≤ D → d ≤ 3 → -9 ≤ d → L + TB D ≤ L' → L' ≤ 500000000000 →
  (∀ H' nx' vb', nx ≤ nx' → MS Z raw rl k Γ0 n0 vb' 3 r N 25 L' H' nx' → K (.ret (.tuple [])) H' nx') → TriP PG f_mk_stmt [.ptr k 0, iv n, iv d] H nx K
def LoopP' (Z : Nat → Prop) (raw : AVal) (rl : List Int) (k : Nat) (r : Int) (D : Nat) : Prop :=
 ∀ {Γ0 : GH} {n0 vb N U L L' : Nat} {H : Heap} {nx : Nat} {K : EndP} {n d : Int}, MS Z raw rl k Γ0 n0 vb 3 r N U L H nx → U ≤ 24 → 0 ≤ n → n + D ≤ 90 → d.toNat ≤ D → d ≤ 3 → -9 ≤ d → L + TB D ≤ L' → L' ≤ 500000000000 →
  (∀ H' nx' vb', nx ≤ nx' → MS Z raw rl k Γ0 n0 vb' 3 r N 25 L' H' nx' → K (.ret (.tuple [])) H' nx') → TriP PG f_mk_loop [.ptr k 0, iv n, iv d] H nx K
section
variable {raw : AVal} {rl : List Int} {k n0 vb c N U L : Nat} {r : Int} {Γ0 Γ : GH} {H : Heap} {nx : Nat} {K : EndP}
theorem MS.callsP (S : MS Z raw rl k Γ0 n0 vb c r N U L H nx) {p : Bool → Prop} (hK : ∀ b, p b) : ∃ v, some (AVal.ptr k 8) = some v ∧ ∃ b, ld1 H v = some (.bool b) ∧ p b :=
 let ⟨_, _, _, _, _, _, _, _, _, _, _, _, _, _, _, _, _, _, _, _, _, c8, _⟩ := S.cells; ⟨_, rfl, _, c8, hK _⟩
theorem MS.resP (S : MS Z raw rl k Γ0 n0 vb c r N U L H nx) {p : Int → Prop} (hK : r ≤ 6 → p r) : ∃ v, some (AVal.ptr k 7) = some v ∧ ∃ n : Int, ld1 H v = some (iv n) ∧ p n :=
 let ⟨_, _, _, _, _, _, _, _, _, _, hr, _, _, _, _, _, _, _, _, _, c7, _⟩ := S.cells; ⟨_, rfl, _, c7, hK hr⟩
theorem MS.sizeP (S : MS Z raw rl k Γ0 n0 vb c r N U L H nx) {p : Int → Prop} (hK : ∀ n, p n) : ∃ v, some (AVal.ptr k 5) = some v ∧ ∃ n : Int, ld1 H v = some (iv n) ∧ p n :=
 let ⟨_, _, _, _, _, _, _, _, _, _, _, _, _, _, _, _, _, _, c5, _⟩ := S.cells; ⟨_, rfl, _, c5, hK _⟩
theorem MS.loopsP (S : MS Z raw rl k Γ0 n0 vb c r N U L H nx) {p : Int → Prop} (hK : ∀ n, p n) : ∃ v, some (AVal.ptr k 4) = some v ∧ ∃ n : Int, ld1 H v = some (iv n) ∧ p n :=
 let ⟨_, _, _, _, _, _, _, _, _, _, _, _, _, _, _, _, _, c4, _⟩ := S.cells; ⟨_, rfl, _, c4, hK _⟩
theorem MS.namesP (S : MS Z raw rl k Γ0 n0 vb c r N U L H nx) {p : Int → Prop} (hK : ∀ m : Nat, N ≤ m → m ≤ U → MS Z raw rl k Γ0 n0 vb c r m m L H nx → p m) : ∃ v, some (AVal.ptr k 3) = some v ∧ ∃ n : Int, ld1 H v = some (iv n) ∧ p n :=
 let ⟨_, _, _, _, _, _, _, _, h1, h2, _, _, _, _, _, _, c3, _, _, _, _, _, S'⟩ := S.cells; ⟨_, rfl, _, c3, hK _ h1 h2 S'⟩
theorem lineM (S : MS Z raw rl k Γ0 n0 vb c r N U L H nx) {n : Int} {s : List UInt8} (h0 : 0 ≤ n) (h1 : n ≤ 100) (hs : s.length ≤ 3199) (hL : L ≤ 500000000000)
  (hK : ∀ H' nx', nx ≤ nx' → MS Z raw rl k Γ0 n0 vb c r N U (L + 3300) H' nx' → K (.ret (.tuple [])) H' nx') : TriP PG f_mk_line [.ptr k 0, iv n, .str s] H nx K :=
 line_okM S (L' := L + 3300) h0 h1 (by omega) (by omega) hK
theorem exprM (R : RawR raw rl) (S : MS Z raw rl k Γ0 n0 vb c r N U L H nx) {t d : Int} (h0 : 0 ≤ t) (h1 : t < 7) (hd : d.toNat ≤ 3)
  (hK : ∀ s H' nx', nx ≤ nx' → MS Z raw rl k Γ0 n0 vb c r N U L H' nx' → s.length ≤ 1060 → K (.ret (.str s)) H' nx') : TriP PG f_mk_expr [.ptr k 0, iv t, iv d] H nx K :=
 expr_okM R 3 (by omega) S h0 h1 hd hK
theorem aPb {j : Int} (h0 : 0 ≤ j) (h1 : j < 2) {p : List UInt8 → Prop} (hK : ∀ s, s.length ≤ 20 → p s) :
  ∃ s, aPart PG t_str [AVal.str [98, 114, 101, 97, 107], AVal.str [99, 111, 110, 116, 105, 110, 117, 101]] (j.toNat * 1) = some (.str s) ∧ p s :=
 (aPart_str [[98, 114, 101, 97, 107], [99, 111, 110, 116, 105, 110, 117, 101]] (B := 20) rfl h0 h1 rfl hK).2.2
theorem aPl {j : Int} (h0 : 0 ≤ j) (h1 : j < 4) {p : List UInt8 → Prop} (hK : ∀ s, s.length ≤ 20 → p s) :
  ∃ s, aPart PG t_str [AVal.str [51], AVal.str [49, 48], AVal.str [50, 48], AVal.str [52, 48]] (j.toNat * 1) = some (.str s) ∧ p s :=
 (aPart_str [[51], [49, 48], [50, 48], [52, 48]] (B := 20) rfl h0 h1 rfl hK).2.2
theorem stmts_step (R : RawR raw rl) {D : Nat} (hst : StmtP Z raw rl k r D) : StmtsP Z raw rl k r D := by
 intro Γ0 n0 vb N U L L' H nx K n d S h0 hn hd hd3 hd9 hL hL' hK
 refine TriP.of_body mixed ?_
 rw [Fmk_stmts_eq]
 unfold Fmk_stmts
 have hT := TB_ge D
 refine S.scr (i := nx) (nx' := nx + 1) (Nat.le_refl _) (by omega) fun H0 S s2 => ⟨rfl, _, rfl, ?_⟩
 obtain ⟨Γ1, M, ds, fl, hNM, hMU, hs1, S, l2, sr, dl, dd, dr, dn⟩ := S.full
 obtain ⟨H6, a1, S, hb0⟩ := S.appFull (hs1 _ _ (gup_same _ _ _)) dl
 have hu := S.u25.1
 have hsub : ∀ b cs, Γ0 b = some cs → gup (nx + 1) (some ds) Γ1 b = some cs := fun b cs e => (gup_ne (neK (hs1 _ _ (s2 _ _ e)) hb0)).trans (hs1 _ _ (s2 _ _ e))
 have hΓ0 : Γ0 (nx + 1) = none := sub_none (fun b cs e => hs1 _ _ (s2 _ _ e)) hb0
 have dr' : ∀ x, x ∈ ds → StrsV (M + 3) (gup (nx + 1) (some ds) Γ1) x := fun x hx => (dr x hx).mono fun b ss _ hb => (gup_ne (neK hb hb0)).trans hb
 have hw : allCell ds = true := by
  have : ∀ l : List AVal, (∀ x, x ∈ l → StrsV (M + 3) Γ1 x) → allCell l = true := fun l => by
   induction l with
   | nil => intro _; rfl
   | cons x l ih => intro h; simp only [allCell, (h x (by simp)).cell]; exact ih fun y hy => h y (by simp [hy])
  exact this ds dr
 refine ⟨_, l2, _, _, sr, hw, _, _, _, a1, next_okM R S (by omega) (by omega) fun j H m g S h1 h2 => onEnd_ret.2 ⟨_, rfl, ?_⟩⟩
 rw [wrap64_id (by omega) (by omega)]
 obtain ⟨J, hJ⟩ : ∃ J : Nat, 1 + j = J := ⟨(1 + j).toNat, by omega⟩
 rw [hJ]
 have gb : gup (nx + 1) (some ds) Γ1 (nx + 1) = some ds := gup_same _ _ _
 generalize gup (nx + 1) (some ds) Γ1 = Γ2 at S hsub dr' gb
 refine loop_w (P := PG) (X := Nat) (Y := Nat) (fun i => envL .und [(7, iv i), (6, .slice (nx + 1) 0 7 1 false), (2, iv d), (1, iv n), (0, .ptr k 0)]) (fun i => envL .und [(7, iv i), (6, .slice (nx + 1) 0 7 1 false), (2, iv d), (1, iv n), (0, .ptr k 0)])
  (fun q i H1 nx1 => q = i ∧ i ≤ J ∧ m ≤ nx1 ∧ ∃ vb' N' U', M ≤ N' ∧ MS Z raw rl k Γ2 n0 vb' 3 r N' U' (L + (J - i) * TB D) H1 nx1) (fun id _ H1 nx1 => id = 0 ∧ m ≤ nx1 ∧ ∃ vb' N' U', M ≤ N' ∧ MS Z raw rl k Γ2 n0 vb' 3 r N' U' (L + J * TB D) H1 nx1) J J
  (EnvLe.of_list (by exact ⟨rfl, rfl, rfl, rfl, rfl, trivial⟩)) ⟨rfl, Nat.le_refl _, Nat.le_refl _, vb, M, M, Nat.le_refl _, by simpa using S⟩ ?_ ?_
 ·rintro q i H1 nx1 ⟨rfl, hi, hm, vb', N', U', hN', S⟩
  refine WpP.part (ts := [0, 1, 2, 6, 7]) mixed ?_
  rw [LStm_eq]
  unfold LStm
  refine ifB_iff.2 ⟨fun h => ?_, fun h => ?_⟩
  ·have h : (0 : Int) < q := of_decide_eq_true h
   obtain ⟨i', rfl⟩ : ∃ i', q = i' + 1 := ⟨q - 1, by omega⟩
   have e1 : L + (J - i') * TB D = L + (J - (i' + 1)) * TB D + TB D := by
    rw [show J - i' = (J - (i' + 1)) + 1 by omega, Nat.add_mul, Nat.one_mul]; omega
   have e2 : L + (J - i') * TB D ≤ L + 4 * TB D := Nat.add_le_add_left (Nat.mul_le_mul_right _ (by omega)) _
   refine hst S h0 hn hd hd3 hd9 (L' := L + (J - i') * TB D) (by omega) (by omega) fun H2 nx2 vb2 g2 S => onEnd_ret.2 ⟨rfl, i', i', by omega, ?_, rfl, by omega, by omega, vb2, N', 25, hN', S⟩
   rw [wrap64_id (by omega) (by omega)]
   rw [show ((i' + 1 : Nat) : Int) - 1 = (i' : Int) by omega]
   exact EnvLe.of_list (by exact ⟨rfl, rfl, rfl, rfl, rfl, trivial⟩)
  ·have h : ¬ (0 : Int) < q := of_decide_eq_false h
   have : q = 0 := by omega
   subst this
   exact ⟨rfl, 0, EnvLe.of_list (by exact ⟨rfl, rfl, rfl, rfl, rfl, trivial⟩), rfl, hm, vb', N', U', hN', by simpa using S⟩
 ·rintro id i H1 nx1 ⟨rfl, hm, vb', N', U', hN', S⟩
  rw [AStm_eq]
  unfold AStm
  have hu := S.u25.1
  have e2 : L + J * TB D ≤ L + 4 * TB D := Nat.add_le_add_left (Nat.mul_le_mul_right _ (by omega)) _
  refine ⟨rfl, _, rfl, rfl, S.back (Γ0 := Γ0) gb dl dd dr' (by omega) hsub hΓ0 fun H2 S => hK _ _ _ (by omega) (S.le (by omega) (by omega) (by omega) (by omega))⟩
set_option maxHeartbeats 4000000 in
theorem loop_step (R : RawR raw rl) {D : Nat} (hD3 : D ≤ 3) (ih : ∀ D', D = D' + 1 → StmtsP Z raw rl k r D') : LoopP' Z raw rl k r D := by
 intro Γ0 n0 vb N U L L' H nx K n d S hU h0 hn hd hd3 hd9 hL hL' hK
 refine TriP.of_body mixed ?_
 rw [Fmk_loop_eq]
 unfold Fmk_loop
 have hT := TB_ge D
 have hu := S.u25.1
 refine ifB_iff.2 ⟨fun _ => hK _ _ _ (Nat.le_refl _) (S.le (by omega) (by omega) (by omega) (by omega)), fun hdp => ?_⟩
 replace hdp : ¬ d ≤ 0 := of_decide_eq_false hdp
 obtain ⟨D', rfl⟩ : ∃ D', D = D' + 1 := ⟨D - 1, by omega⟩
 have hT2 : TB (D' + 1) = 40000 + 8 * TB D' := rfl
 have hi : StmtsP Z raw rl k r D' := @ih D' rfl
 have wn : IntKind.i64.wrap (n + 1) = n + 1 := wrap64_id (by omega) (by omega)
 have wd : IntKind.i64.wrap (d - 1) = d - 1 := wrap64_id (by omega) (by omega)
 refine ⟨rfl, S.namesP fun m hm1 hm2 S => digitsM S (by omega) fun w H m1 g1 S hw => onEnd_ret.2 ⟨_, rfl, by omega, rfl, ?_⟩⟩
 have hw2 : ([118] ++ w).length ≤ 20 := by simp only [List.length_append, List.length_cons, List.length_nil]; omega
 obtain ⟨_, _, _, _, _, _, _, _, _, _, _, _, _, _, _, _, c3, _⟩ := S.cells
 refine ⟨_, rfl, _, c3, rfl, _, rfl, rfl, S.incNames (c := 2) (by omega) c3 fun H S => ?_⟩
 clear c3
 refine S.scr (i := m1) (nx' := m1 + 1) (Nat.le_refl _) (by omega) fun H0 S s2 => ⟨rfl, _, rfl, ?_⟩
 obtain ⟨Γ1, M, ds, fl, hNM, hMU, hs1, S, l2, sr, dl, dd, dr, dn⟩ := S.full
 obtain ⟨H6, a1, S, hb0⟩ := S.appFull (hs1 _ _ (gup_same _ _ _)) dl
 have hsub : ∀ b cs, Γ0 b = some cs → gup (m1 + 1) (some ds) Γ1 b = some cs := fun b cs e => (gup_ne (neK (hs1 _ _ (s2 _ _ e)) hb0)).trans (hs1 _ _ (s2 _ _ e))
 have hΓ0 : Γ0 (m1 + 1) = none := sub_none (fun b cs e => hs1 _ _ (s2 _ _ e)) hb0
 have dr' : ∀ x, x ∈ ds → StrsV (M + 2) (gup (m1 + 1) (some ds) Γ1) x := fun x hx => (dr x hx).mono fun b ss _ hb => (gup_ne (neK hb hb0)).trans hb
 have hcell : allCell ds = true := by
  have : ∀ l : List AVal, (∀ x, x ∈ l → StrsV (M + 2) Γ1 x) → allCell l = true := fun l => by
   induction l with
   | nil => intro _; rfl
   | cons x l ih => intro h; simp only [allCell, (h x (by simp)).cell]; exact ih fun y hy => h y (by simp [hy])
  exact this ds dr
 have gb : gup (m1 + 1) (some ds) Γ1 (m1 + 1) = some ds := gup_same _ _ _
 generalize gup (m1 + 1) (some ds) Γ1 = Γ2 at S hsub dr' gb
 clear s2 hs1 dr dn
 have bk : ∀ {vb' N' U' L'' : Nat} {H : Heap} {m : Nat}, MS Z raw rl k Γ2 n0 vb' 3 r N' U' L'' H m → M ≤ N' → nx ≤ m → L'' ≤ L' → ∃ H1, stC H (.ptr k 2) [.slice (m1 + 1) 0 7 1 false] = some H1 ∧ K (.ret (.tuple [])) H1 m := fun S hN hm hl => by
  have hu := S.u25.1
  exact S.back (Γ0 := Γ0) gb dl dd dr' (by omega) hsub hΓ0 fun H2 S => hK _ _ _ hm (S.le (by omega) (by omega) (by omega) hl)
 have st_ : ∀ {Γ0 : GH} {n0 vb N U L : Nat} {H : Heap} {m : Nat} {K : EndP}, MS Z raw rl k Γ0 n0 vb 3 r N U L H m → L + 4 * TB D' ≤ 500000000000 → (∀ H' nx' vb', m ≤ nx' → MS Z raw rl k Γ0 n0 vb' 3 r N 25 (L + 4 * TB D') H' nx' → K (.ret (.tuple [])) H' nx') → TriP PG f_mk_stmts [.ptr k 0, iv (IntKind.i64.wrap (n + 1)), iv (IntKind.i64.wrap (d - 1))] H m K := fun S hl hK => by
  rw [wn, wd]
  exact hi S (by omega) (by omega) (by omega) (by omega) (by omega) (Nat.le_refl _) hl hK
 have ln1 : ∀ {Γ0 : GH} {n0 vb N U L : Nat} {H : Heap} {m : Nat} {K : EndP} {s : List UInt8}, MS Z raw rl k Γ0 n0 vb 3 r N U L H m → s.length ≤ 3199 → L ≤ 500000000000 → (∀ H' nx', m ≤ nx' → MS Z raw rl k Γ0 n0 vb 3 r N U (L + 3300) H' nx' → K (.ret (.tuple [])) H' nx') → TriP PG f_mk_line [.ptr k 0, iv (IntKind.i64.wrap (n + 1)), .str s] H m K := fun S hs hl hK => by
  rw [wn]
  exact lineM S (by omega) (by omega) hs hl hK
 refine ⟨_, l2, _, _, sr, hcell, _, _, _, a1, by omega, ?_⟩
 refine lineM S h0 (by omega) (by simp only [List.length_append, List.length_cons, List.length_nil] at hw2 ⊢; omega) (by omega) fun H m2 g2 S => onEnd_ret.2 ?_
 refine addRow (c := 2) (t := 0) S (by omega) (by omega) (by omega) (x := 4) (y := 13) (z := 17) (by omega) (by omega) hw2 fun H m3 g3 S => ?_
 clear ih hi wn wd a1 l2 sr hcell
 refine next_okM R S (by omega) (by omega) fun j H m g S h1 h2 => onEnd_ret.2 ⟨_, rfl, ?_⟩
 simp only [List.length_append, List.length_cons, List.length_nil] at hw2
 repeat' (with_reducible first
  | (refine ifB_iff.2 ⟨fun _ => ?_, fun _ => ?_⟩)
  | (refine exprM R S (by omega) (by omega) (by decide) fun s H m g S hs => onEnd_ret.2 ⟨_, rfl, ?_⟩)
  | (refine next_okM R S (by omega) (by omega) fun j H m g S h1 h2 => onEnd_ret.2 ⟨_, rfl, ?_⟩)
  | (refine lineM S h0 (by omega) (by first | omega | (simp only [List.length_append, List.length_cons, List.length_nil]; omega) | (simp only [List.length_cons, List.length_nil]; omega)) (by omega) fun H m g S => onEnd_ret.2 ?_)
  | (refine ln1 S (by first | omega | (simp only [List.length_append, List.length_cons, List.length_nil]; omega)) (by omega) fun H m g S => onEnd_ret.2 ?_)
  | (refine st_ S (by omega) fun H m vb' g S => onEnd_ret.2 ?_)
  | (refine And.intro (by first | omega | (simp only [List.length_append, List.length_cons, List.length_nil]; omega)) ?_)
  | (refine aPl h1 h2 fun s hs => ?_)
  | (refine S.loopsP fun q => ?_)
  | (refine And.intro rfl ?_)
  | (refine Exists.intro _ (And.intro rfl ?_))
  | (refine S.setLoops fun H S => ?_)
  | exact bk S (by omega) (by omega) (by omega))
set_option maxHeartbeats 8000000 in
theorem stmt_step (R : RawR raw rl) {D : Nat} (hD3 : D ≤ 3) (ih : ∀ D', D = D' + 1 → StmtsP Z raw rl k r D') : StmtP Z raw rl k r D := by
 intro Γ0 n0 vb N U L L' H nx K n d S h0 hn hd hd3 hd9 hL hL' hK
 refine TriP.of_body mixed ?_
 rw [Fmk_stmt_eq]
 unfold Fmk_stmt
 have hT := TB_ge D
 have hu := S.u25.1
 have lp_ : LoopP' Z raw rl k r D := @loop_step _ _ _ _ _ _ R D hD3 @ih
 have wn : IntKind.i64.wrap (n + 1) = n + 1 := wrap64_id (by omega) (by omega)
 have wd : IntKind.i64.wrap (d - 1) = d - 1 := wrap64_id (by omega) (by omega)
 have st_ : ∀ {vb N U L1 : Nat} {H : Heap} {m : Nat} {K : EndP}, ¬ d ≤ 0 → MS Z raw rl k Γ0 n0 vb 3 r N U L1 H m → (∀ D', D = D' + 1 → L1 + 4 * TB D' ≤ 500000000000) → (∀ D' H' nx' vb', D = D' + 1 → TB D = 40000 + 8 * TB D' → m ≤ nx' → MS Z raw rl k Γ0 n0 vb' 3 r N 25 (L1 + 4 * TB D') H' nx' → K (.ret (.tuple [])) H' nx') → TriP PG f_mk_stmts [.ptr k 0, iv (IntKind.i64.wrap (n + 1)), iv (IntKind.i64.wrap (d - 1))] H m K := fun hdp S hl hK => by
  rw [wn, wd]
  obtain ⟨D', rfl⟩ : ∃ D', D = D' + 1 := ⟨D - 1, by omega⟩
  have hi : StmtsP Z raw rl k r D' := @ih D' rfl
  exact hi S (by omega) (by omega) (by omega) (by omega) (by omega) (Nat.le_refl _) (hl _ rfl) fun H' nx' vb' g S => hK D' H' nx' vb' rfl rfl g S
 have ln1 : ∀ {vb N U L : Nat} {H : Heap} {m : Nat} {K : EndP} {s : List UInt8}, MS Z raw rl k Γ0 n0 vb 3 r N U L H m → s.length ≤ 3199 → L ≤ 500000000000 → (∀ H' nx', m ≤ nx' → MS Z raw rl k Γ0 n0 vb 3 r N U (L + 3300) H' nx' → K (.ret (.tuple [])) H' nx') → TriP PG f_mk_line [.ptr k 0, iv (IntKind.i64.wrap (n + 1)), .str s] H m K := fun S hs hl hK => by
  rw [wn]
  exact lineM S (by omega) (by omega) hs hl hK
 clear wn wd ih
 have lp2 : ∀ {vb N U : Nat} {H : Heap} {m : Nat} {K : EndP}, MS Z raw rl k Γ0 n0 vb 3 r N U L H m → U ≤ 24 → (∀ H' nx' vb', m ≤ nx' → MS Z raw rl k Γ0 n0 vb' 3 r N 25 L' H' nx' → K (.ret (.tuple [])) H' nx') → TriP PG f_mk_loop [.ptr k 0, iv n, iv d] H m K := fun S hU hK => lp_ S hU h0 hn hd hd3 hd9 hL hL' hK
 clear lp_
 have dc : ∀ {vb N U : Nat} {H : Heap} {m : Nat} {K : EndP} {t : Int} {s : List UInt8}, MS Z raw rl k Γ0 n0 vb 3 r N U L H m → U ≤ 24 → 0 ≤ t → t < 7 → s.length ≤ 1060 → (∀ H' nx', m ≤ nx' → MS Z raw rl k Γ0 n0 vb 3 r N (U + 1) (L + 3300) H' nx' → K (.ret (.tuple [])) H' nx') → TriP PG f_mk_declare [.ptr k 0, iv t, iv n, .str s] H m K := fun S hU ht0 ht1 hs hK =>
  declare_okM (c := 2) S ht0 ht1 h0 (by omega) hU (by omega) (by omega) hK
 refine ⟨rfl, S.sizeP fun q => ifB_iff.2 ⟨fun _ => ?_, fun _ => ⟨rfl, S.namesP fun m hm1 hm2 S => ifB_iff.2 ⟨fun _ => ?_, fun h24 => have h24' : m ≤ 24 := (by have : ¬ (24 : Int) < m := of_decide_eq_false h24; omega); ?_⟩⟩⟩⟩
 all_goals repeat' (with_reducible first
  | (refine ifB_iff.2 ⟨fun hb => ?_, fun hb => ?_⟩ <;> first | replace hb := of_decide_eq_true hb | replace hb := of_decide_eq_false hb | skip)
  | (refine exprM R S (by omega) (by omega) (by decide) fun s H m g S hs => onEnd_ret.2 ⟨_, rfl, ?_⟩)
  | (refine next_okM R S (by omega) (by omega) fun j H m g S h1 h2 => onEnd_ret.2 ⟨_, rfl, ?_⟩)
  | (refine leaf_okM R S (by omega) (by omega) fun s H m g S hs => onEnd_ret.2 ⟨_, rfl, ?_⟩)
  | (refine v_okM R S (by omega) (by omega) fun s H m g S hs => onEnd_ret.2 ⟨_, rfl, ?_⟩)
  | (refine lineM S h0 (by omega) (by first | omega | (simp only [List.length_append, List.length_cons, List.length_nil]; omega) | (simp only [List.length_cons, List.length_nil]; omega)) (by omega) fun H m g S => onEnd_ret.2 ?_)
  | (refine ln1 S (by first | omega | (simp only [List.length_append, List.length_cons, List.length_nil]; omega)) (by omega) fun H m g S => onEnd_ret.2 ?_)
  | (refine st_ (by omega) S (by intro D' e; subst e; have : TB (D' + 1) = 40000 + 8 * TB D' := rfl; omega) fun D' H m vb' eD eT g S => onEnd_ret.2 ?_)
  | (refine dc S (by omega) (by omega) (by omega) (by omega) fun H m g S => onEnd_ret.2 ?_)
  | (refine lp2 S (by omega) fun H m vb' g S => onEnd_ret.2 ?_)
  | exact hK _ _ _ (by omega) (S.le (by omega) (by omega) (by omega) (by omega))
  | (refine And.intro (by first | omega | (simp only [List.length_append, List.length_cons, List.length_nil]; omega)) ?_)
  | (refine aPb h1 h2 fun s hs => ?_)
  | (refine S.loopsP fun q => ?_)
  | (refine S.callsP fun q => ?_)
  | (refine S.resP fun hr => ?_)
  | (refine And.intro rfl ?_))
 all_goals skip
end
end
end Go.Vs
end
section
namespace Go.Vs
open Go.Proofs
variable [GTab] {Z : Nat → Prop}
noncomputable section
section
variable {raw : AVal} {rl : List Int} {k n0 vb c N U L : Nat} {r : Int} {Γ0 Γ : GH} {H : Heap} {nx : Nat} {K : EndP}
theorem stmts_all (R : RawR raw rl) (D : Nat) (h : D ≤ 3) : StmtsP Z raw rl k r D := by
 induction D with
 | zero =>
  have h0 : StmtP Z raw rl k r 0 := @stmt_step _ _ _ _ _ _ R 0 h fun D' e => by omega
  exact @stmts_step _ _ _ _ _ _ R 0 @h0
 | succ D ih =>
  have hi : StmtsP Z raw rl k r D := @ih (by omega)
  have h0 : StmtP Z raw rl k r (D + 1) := @stmt_step _ _ _ _ _ _ R (D + 1) h fun D' e => by cases e; exact @hi
  exact @stmts_step _ _ _ _ _ _ R (D + 1) @h0
def MF (Z : Nat → Prop) (raw : AVal) (rl : List Int) (k : Nat) (Γ0 : GH) (n0 vb c : Nat) (r : Int) (L : Nat) (H : Heap) (nx : Nat) : Prop :=
 n0 ≤ nx ∧ Γ0 k = none ∧ Γ0 vb = none ∧ ∃ Γ, HZ Z Γ H nx ∧ (∀ b cs, Γ0 b = some cs → Γ b = some cs) ∧
  ∃ (a : Nat) (full : Bool) (loops size : Int) (out : List UInt8) (calls : Bool) (ds : List AVal), Γ k = some (mkC raw a vb full (0 : Nat) loops size out r calls) ∧ a ≤ rl.length ∧ r ≤ 6 ∧ out.length ≤ L ∧ c ≤ 3 ∧
   Γ vb = some ds ∧ ds.length = 7 ∧ Dist ds ∧ (∀ x, x ∈ ds → StrsV c Γ x) ∧ ∀ (i b n : Nat) (f : Bool), ds[i]? = some (.slice b 0 n 1 f) → Γ0 b = none
theorem MF.ms (S : MF Z raw rl k Γ0 n0 vb c r L H nx) : MS Z raw rl k Γ0 n0 vb 3 r 0 0 L H nx := by
 obtain ⟨h0, h1, h2, Γ, h3, h4, a, full, loops, size, out, calls, ds, e, e1, e4, e5, e6, d1, d2, d4, d3, d5⟩ := S
 exact ⟨h0, h1, h2, Γ, h3, h4, a, full, 0, loops, size, out, calls, e, e1, Nat.le_refl _, Nat.le_refl _, e4, e5, by omega, ds, d1, d2, d4, fun x hx => (d3 x hx).mono fun _ _ _ h => h⟩
theorem app1 {q M : Nat} {v : AVal} {name : List UInt8} (hk : HZ Z Γ H nx) (hq : Γ q = some [.str name]) (hv : StrsV M Γ v) (hl : name.length ≤ 20) (hM : M ≤ 1000)
  {p : AVal → Heap → Nat → Prop}
  (hK : ∀ (v' : AVal) (H' : Heap) (nx' : Nat) (Γ' : GH) (b : Nat) (f : Bool) (ss : List (List UInt8)), nx ≤ nx' → HZ Z Γ' H' nx' → (∀ b' cs, Γ b' = some cs → (∀ n g, v ≠ .slice b' 0 n 1 g) → Γ' b' = some cs) → v' = .slice b 0 ss.length 1 f → Γ' b = some (ss.map .str) → Γ b = none → 0 < ss.length → ss.length ≤ M + 1 → (∀ s, s ∈ ss → s.length ≤ 20) → p v' H' nx') :
  ∃ i2 l2, aSrc 1 H (.slice q 0 1 1 true) = some (i2, l2) ∧ allCell l2 = true ∧ ∃ v2 H2 i3, appC H nx 1 16 v i2 l2 = some (v2, H2, i3) ∧ p v2 H2 i3 := by
 refine ⟨1, [.str name], by rw [hk.src hq (by simp)]; simp, rfl, ?_⟩
 have hf := hk.fresh (Nat.le_refl nx)
 rcases hv with rfl | ⟨b, n, full, ss, rfl, hb, h1, h2, h3, h4⟩
 ·obtain ⟨H2, a1, a2⟩ := hk.appNil (esz := 1) (ebytes := 16) (k := 1) (new := [.str name]) (by simp) (by omega) (by omega) (by omega)
  refine ⟨_, H2, _, a1, hK _ _ _ _ nx false [name] (by omega) a2 (fun b cs e _ => (gup_ne (neK e hf)).trans e) rfl (by rw [gup_same]; simp) hf (by simp) (by simp) fun s hs => ?_⟩
  simp at hs; subst hs; exact hl
 ·have hlen : (ss.map AVal.str).length = ss.length := by simp
  have htk : ((ss.map AVal.str).take (n * 1)) ++ [AVal.str name] = (ss.take n ++ [name]).map .str := by rw [Nat.mul_one]; simp
  have hall : ∀ s, s ∈ ss.take n ++ [name] → s.length ≤ 20 := fun s hs => by
   rcases List.mem_append.1 hs with h | h
   ·exact h4 _ (List.mem_of_mem_take h)
   ·simp at h; subst h; exact hl
  have hsl : (ss.take n ++ [name]).length = n + 1 := by simp; omega
  cases full with
  | true =>
   obtain ⟨H2, a1, a2⟩ := hk.appFull (esz := 1) (ebytes := 16) (k := 1) (off := 0) (len := n) (new := [.str name]) hb (by rw [hlen]; omega) (by simp) (by omega) (by omega) (by omega)
   rw [List.drop_zero, htk] at a2
   exact ⟨_, H2, _, a1, hK _ _ _ _ nx false (ss.take n ++ [name]) (by omega) a2 (fun b cs e _ => (gup_ne (neK e hf)).trans e) (by rw [hsl]) (gup_same _ _ _) hf (by omega) (by omega) hall⟩
  | false =>
   obtain ⟨H2, a1, a2⟩ := hk.app (esz := 1) (ebytes := 16) (k := 1) (len := n) (new := [.str name]) hb (by rw [hlen]; omega) (by simp) (by omega) (by omega) (by omega)
   rw [htk] at a2
   refine ⟨_, H2, _, a1, hK _ _ _ _ nx false (ss.take n ++ [name]) (by omega) a2 (fun b' cs e hne => ?_) (by rw [hsl]) (gup_same _ _ _) hf (by omega) (by omega) hall⟩
   rw [gup_ne (neK e hf), gup_ne fun x => hne n false (by rw [x])]
   exact e
theorem MF.setRow {Γ' : GH} {a : Nat} {full : Bool} {loops size : Int} {out : List UInt8} {calls : Bool} {ds : List AVal} {t b : Nat} {f : Bool} {ss : List (List UInt8)} (hk : HZ Z Γ' H nx) (h0 : n0 ≤ nx) (h1 : Γ0 k = none) (h2 : Γ0 vb = none) (hs : ∀ b cs, Γ0 b = some cs → Γ b = some cs)
  (e : Γ k = some (mkC raw a vb full (0 : Nat) loops size out r calls)) (e1 : a ≤ rl.length) (e4 : r ≤ 6) (e5 : out.length ≤ L) (hc : c + 1 ≤ 3) (d1 : Γ vb = some ds) (d2 : ds.length = 7) (d4 : Dist ds) (d3 : ∀ x, x ∈ ds → StrsV c Γ x) (d5 : ∀ (i b n : Nat) (f : Bool), ds[i]? = some (.slice b 0 n 1 f) → Γ0 b = none)
  (ht : t < 7) {v : AVal} (hv : ds[t]? = some v) (keep : ∀ b' cs, Γ b' = some cs → (∀ n g, v ≠ .slice b' 0 n 1 g) → Γ' b' = some cs) (hb : Γ' b = some (ss.map .str)) (hbn : Γ b = none) (hl0 : 0 < ss.length) (hl : ss.length ≤ c + 1) (hls : ∀ s, s ∈ ss → s.length ≤ 20)
  {p : Heap → Prop} (hK : ∀ H', MF Z raw rl k Γ0 n0 vb (c + 1) r L H' nx → p H') : ∃ H1, stC H (.ptr vb t) [.slice b 0 ss.length 1 f] = some H1 ∧ p H1 := by
 have hvk := row_ne_k e d1 d2
 have vne : ∀ {b' : Nat} {cs : List AVal}, Γ b' = some cs → (b' = k ∨ b' = vb ∨ Γ0 b' ≠ none) → Γ' b' = some cs := fun {b'} {cs} e' h => keep b' cs e' fun n g hx => by
  subst hx
  rcases d3 _ (List.mem_of_getElem? hv) with q | ⟨b2, n2, f2, ss2, q1, q2, q3, q4, _⟩
  ·cases q
  ·cases q1
   rcases h with rfl | rfl | h
   ·exact strs_ne_k e q2 rfl
   ·exact strs_ne_row d1 d2 d3 (fun x => by subst x; simp at q3; omega) q2 rfl
   ·exact h (d5 _ _ _ _ hv)
 have g1 := vne d1 (.inr (.inl rfl))
 refine stOne hk g1 (by omega) rfl fun H' hk' => hK H' ?_
 have bvb : b ≠ vb := fun x => by subst x; rw [d1] at hbn; cases hbn
 have others : ∀ i x, i ≠ t → ds[i]? = some x → StrsV (c + 1) (gup vb (some (ds.set t (.slice b 0 ss.length 1 f))) Γ') x := fun i x hi hx => by
  rcases d3 x (List.mem_of_getElem? hx) with q | ⟨b2, n2, f2, ss2, q1, q2, q3, q4, q5, q6⟩
  ·exact .inl q
  ·refine .inr ⟨b2, n2, f2, ss2, q1, ?_, q3, q4, by omega, q6⟩
   rw [gup_ne (strs_ne_row d1 d2 d3 (fun x => by subst x; simp at q3; omega) q2)]
   refine keep _ _ q2 fun n g hvx => ?_
   subst q1 hvx
   exact d4 i t b2 n2 n f2 g hi hx hv
 refine ⟨h0, h1, h2, _, hk', fun b' cs' e' => ?_, a, full, loops, size, out, calls, _, (gup_ne (Ne.symm hvk)).trans (vne e (.inl rfl)), e1, e4, e5, hc, gup_same _ _ _, by simp [d2], ?_, fun x hx => ?_, fun i b' n g hi => ?_⟩
 ·have : b' ≠ vb := fun x => by subst x; rw [h2] at e'; cases e'
  exact (gup_ne this).trans (vne (hs _ _ e') (.inr (.inr (by rw [e']; simp))))
 ·intro i j b' n m g1 g2 hij hi hj
  rw [List.getElem?_set] at hi hj
  have nb : ∀ (i n : Nat) (g : Bool), ds[i]? ≠ some (.slice b 0 n 1 g) := fun i n g hx => by
   rcases d3 _ (List.mem_of_getElem? hx) with q | ⟨b2, n2, f2, ss2, q1, q2, _⟩
   ·cases q
   ·cases q1; rw [hbn] at q2; cases q2
  by_cases hti : t = i
  ·subst hti
   rw [if_pos rfl, if_pos (by omega)] at hi
   cases hi
   rw [if_neg (by omega)] at hj
   exact nb _ _ _ hj
  ·rw [if_neg hti] at hi
   by_cases htj : t = j
   ·subst htj
    rw [if_pos rfl, if_pos (by omega)] at hj
    cases hj
    exact nb _ _ _ hi
   ·rw [if_neg htj] at hj
    exact d4 i j b' n m g1 g2 hij hi hj
 ·obtain ⟨i, hi⟩ := List.mem_iff_getElem?.1 hx
  rw [List.getElem?_set] at hi
  by_cases hti : t = i
  ·subst hti
   rw [if_pos rfl, if_pos (by omega)] at hi
   cases hi
   exact .inr ⟨b, ss.length, f, ss, rfl, (gup_ne bvb).trans hb, Nat.le_refl _, hl0, hl, hls⟩
  ·rw [if_neg hti] at hi
   exact others i x (Ne.symm hti) hi
 ·rw [List.getElem?_set] at hi
  by_cases hti : t = i
  ·subst hti
   rw [if_pos rfl, if_pos (by omega)] at hi
   cases hi
   exact sub_none hs hbn
  ·rw [if_neg hti] at hi
   exact d5 i b' n g hi
theorem MS.begin_ (S : MS Z raw rl k Γ0 n0 vb c r N U L H nx) {r' : Int} (hr : r' ≤ 6) {cc : Bool} {p : AVal → AVal → AVal → AVal → AVal → Heap → Prop} (hK : ∀ H', MF Z raw rl k Γ0 n0 nx 0 r' L H' (nx + 1) → p (.ptr k 2) (.ptr k 3) (.ptr k 5) (.ptr k 7) (.ptr k 8) H') :
  ∃ H0, H0 = newB nx [AVal.nilSlice, AVal.nilSlice, AVal.nilSlice, AVal.nilSlice, AVal.nilSlice, AVal.nilSlice, AVal.nilSlice] H ∧ true = true ∧ ∃ v1, some (AVal.ptr k 2) = some v1 ∧ true = true ∧ ∃ H2, stC H0 v1 [AVal.slice nx 0 7 1 true] = some H2 ∧ true = true ∧ ∃ v3, some (AVal.ptr k 3) = some v3 ∧ true = true ∧ ∃ H4, stC H2 v3 [iv 0] = some H4 ∧
   true = true ∧ ∃ v5, some (AVal.ptr k 5) = some v5 ∧ true = true ∧ ∃ H6, stC H4 v5 [iv 0] = some H6 ∧ true = true ∧ ∃ v7, some (AVal.ptr k 7) = some v7 ∧ true = true ∧ ∃ H8, stC H6 v7 [iv r'] = some H8 ∧ true = true ∧ ∃ v9, some (AVal.ptr k 8) = some v9 ∧ true = true ∧ ∃ H10, stC H8 v9 [AVal.bool cc] = some H10 ∧ p v1 v3 v5 v7 v9 H10 := by
 obtain ⟨h0, h1, h2, Γ, h3, h4, a, full, names, loops, size, out, calls, e, e1, e2, e3, e4, e5, e6, ds, d1, d2, d4, d3⟩ := S
 have hf := h3.fresh (Nat.le_refl nx)
 have hnk : k ≠ nx := neK e hf
 refine scrN h3 (nx' := nx + 1) (Nat.le_refl _) (by omega) fun H0 k0 => ⟨rfl, _, rfl, rfl, ?_⟩
 have e0 : gup nx (some [AVal.nilSlice, AVal.nilSlice, AVal.nilSlice, AVal.nilSlice, AVal.nilSlice, AVal.nilSlice, AVal.nilSlice]) Γ k = some (mkC raw a vb full names loops size out r calls) := (gup_ne hnk).trans e
 refine stOne k0 e0 (by simp) rfl fun H1 k1 => ⟨rfl, _, rfl, rfl, ?_⟩
 refine stOne k1 (gup_same _ _ _) (by simp) rfl fun H2 k2 => ⟨rfl, _, rfl, rfl, ?_⟩
 refine stOne k2 (gup_same _ _ _) (by simp) rfl fun H3 k3 => ⟨rfl, _, rfl, rfl, ?_⟩
 refine stOne k3 (gup_same _ _ _) (by simp) rfl fun H4 k4 => ⟨rfl, _, rfl, rfl, ?_⟩
 refine stOne k4 (gup_same _ _ _) (by simp) rfl fun H5 k5 => hK H5 ?_
 rw [gup_gup, gup_gup, gup_gup, gup_gup] at k5
 have h0n : Γ0 nx = none := sub_none h4 hf
 refine ⟨by omega, h1, h0n, _, k5, fun b cs e' => ?_, a, true, loops, 0, out, cc, [AVal.nilSlice, AVal.nilSlice, AVal.nilSlice, AVal.nilSlice, AVal.nilSlice, AVal.nilSlice, AVal.nilSlice], gup_same _ _ _, e1, hr, e5, by omega, by rw [gup_ne (Ne.symm hnk), gup_same], rfl, ?_, ?_, ?_⟩
 ·have hb : b ≠ k := fun x => by subst x; rw [h1] at e'; cases e'
  have hb2 : b ≠ nx := fun x => by subst x; rw [h0n] at e'; cases e'
  rw [gup_ne hb, gup_ne hb2]; exact h4 _ _ e'
 ·intro i j b n m f g _ hi _
  have := List.mem_of_getElem? hi
  simp at this
 ·intro x hx
  simp at hx; subst hx; exact .inl rfl
 ·intro i b n f hi
  have := List.mem_of_getElem? hi
  simp at this
theorem lineF (S : MF Z raw rl k Γ0 n0 vb c r L H nx) {n : Int} {s : List UInt8} (h0 : 0 ≤ n) (h1 : n ≤ 100) (hs : s.length ≤ 3199) (hL : L ≤ 500000000000)
  (hK : ∀ H' nx', nx ≤ nx' → MF Z raw rl k Γ0 n0 vb c r (L + 3300) H' nx' → K (.ret (.tuple [])) H' nx') : TriP PG f_mk_line [.ptr k 0, iv n, .str s] H nx K := by
 obtain ⟨g0, g1, g2, Γ, g3, g4, a, full, loops, size, out, calls, ds, e, e1, e4, e5, e6, d1, d2, d4, d3, d5⟩ := S
 refine TriP.of_body mixed ?_
 rw [Fmk_line_eq]
 unfold Fmk_line
 have c6 : ld1 H (.ptr k 6) = some (.str out) := by rw [g3.ld1 e]; rfl
 refine ⟨rfl, _, rfl, _, c6, ⟨⟨_, c6, rfl⟩, trivial⟩, tabs_ok h0 h1 fun t ht => onEnd_ret.2 ⟨_, rfl, by omega, by simp only [List.length_append]; omega, by simp only [List.length_append]; omega, rfl, _, rfl, ⟨⟨_, c6, rfl⟩, trivial⟩, rfl, ?_⟩⟩
 refine stOne (g3.more (by omega : nx ≤ nx + 15)) e (by simp) rfl fun H' hk' => ⟨trivial, hK _ _ (by omega) ?_⟩
 have hne := row_ne_k e d1 d2
 refine ⟨by omega, g1, g2, _, hk', fun b cs' e' => ?_, a, full, loops, size, _, calls, ds, gup_same _ _ _, e1, e4, ?_, e6, (gup_ne hne).trans d1, d2, d4, fun x hx => (d3 x hx).mono fun b ss _ hb => (gup_ne (strs_ne_k e hb)).trans hb, d5⟩
 ·have : b ≠ k := fun x => by subst x; rw [g1] at e'; cases e'
  exact (gup_ne this).trans (g4 _ _ e')
 ·simp only [List.length_append, List.length_cons, List.length_nil]; omega
theorem addZ (S : MF Z raw rl k Γ0 n0 vb c r L H nx) (hc : c + 1 ≤ 3) {p : Heap → Nat → Prop} (hK : ∀ H' nx', nx ≤ nx' → MF Z raw rl k Γ0 n0 vb (c + 1) r L H' nx' → p H' nx') :
  true = true ∧ ∃ v8, some (AVal.ptr k 2) = some v8 ∧ ∃ v9, ld1 H v8 = some v9 ∧ true = true ∧ ∃ v10, some (AVal.ptr k 2) = some v10 ∧ ∃ v11, ld1 H v10 = some v11 ∧ (0 : Int) ≤ 6 ∧ ∃ v12, idxS v11 6 1 = some v12 ∧ ∃ v13, ld1 H v12 = some v13 ∧ true = true ∧ ∃ H14, H14 = newB (nx + 10) [AVal.str [122]] H ∧
   ((∃ v15, ld1 H14 v8 = some v15 ∧ v15 = v9) ∧ (∃ v16, ld1 H14 v10 = some v16 ∧ v16 = v11) ∧ (∃ v17, ld1 H14 v12 = some v17 ∧ v17 = v13) ∧ True) ∧ ∃ i18 l19, aSrc 1 H14 (AVal.slice (nx + 10) 0 1 1 true) = some (i18, l19) ∧ allCell l19 = true ∧ ∃ v20 H21 i22, appC H14 (nx + 14) 1 16 v13 i18 l19 = some (v20, H21, i22) ∧ (0 : Int) ≤ 6 ∧
   ∃ v23, idxS v9 6 1 = some v23 ∧ ((∃ v24, ld1 H21 v8 = some v24 ∧ v24 = v9) ∧ True) ∧ cellv v20 = true ∧ ∃ H25, stC H21 v23 [v20] = some H25 ∧ True ∧ p H25 i22 := by
 obtain ⟨g0, g1, g2, Γ, g3, g4, a, full, loops, size, out, calls, ds, e, e1, e4, e5, e6, d1, d2, d4, d3, d5⟩ := S
 have hf := g3.non (show nx ≤ nx + 10 by omega)
 have k14 : HZ Z (gup (nx + 10) (some [AVal.str [122]]) Γ) (newB (nx + 10) [AVal.str [122]] H) (nx + 14) := g3.new (by omega) (by omega) _
 have s14 : ∀ b cs, Γ b = some cs → gup (nx + 10) (some [AVal.str [122]]) Γ b = some cs := fun b cs e => (gup_ne (neK e hf)).trans e
 have g10 : gup (nx + 10) (some [AVal.str [122]]) Γ (nx + 10) = some [AVal.str [122]] := gup_same _ _ _
 generalize gup (nx + 10) (some [AVal.str [122]]) Γ = Γ2 at k14 s14 g10
 have hlt : 6 < ds.length := by omega
 have ix : idxS (.slice vb 0 7 1 full) 6 1 = some (.ptr vb 6) := by rw [idxS_slice (by omega)]
 have lk : ∀ {H' nx' Γ'}, HZ Z Γ' H' nx' → Γ' k = some (mkC raw a vb full (0 : Nat) loops size out r calls) → ld1 H' (.ptr k 2) = some (.slice vb 0 7 1 full) := fun hk hs => by rw [hk.ld1 hs]; rfl
 have lv : ∀ {H' nx' Γ'}, HZ Z Γ' H' nx' → Γ' vb = some ds → ld1 H' (.ptr vb 6) = some ds[6] := fun hk hs => by rw [hk.ld1 hs]; simp [hlt]
 refine ⟨rfl, _, rfl, _, lk g3 e, rfl, _, rfl, _, lk g3 e, by decide, _, ix, _, lv g3 d1, rfl, _, rfl, ⟨⟨_, lk k14 (s14 _ _ e), rfl⟩, ⟨_, lk k14 (s14 _ _ e), rfl⟩, ⟨_, lv k14 (s14 _ _ d1), rfl⟩, trivial⟩, ?_⟩
 have hv6 : ds[6]? = some ds[6] := List.getElem?_eq_getElem hlt
 have st := d3 _ (List.getElem_mem hlt)
 refine app1 (M := c) (v := ds[6]) (name := [122]) k14 g10 (st.mono fun b ss _ hb => s14 _ _ hb) (by decide) (by omega) fun v' H' nx' Γ' b f ss gx k' keep hv hb hbn hl0 hl hls => ?_
 subst hv
 have rowne : ∀ {b' : Nat} {cs : List AVal}, Γ b' = some cs → (b' = k ∨ b' = vb) → Γ' b' = some cs := fun {b'} {cs} e' h => keep b' cs (s14 _ _ e') fun n g hx => by
  rcases st with q | ⟨b2, n2, f2, ss2, q1, q2, q3, q4, _⟩
  ·rw [q] at hx; cases hx
  ·rw [q1] at hx; cases hx
   rcases h with rfl | rfl
   ·exact strs_ne_k e q2 rfl
   ·exact strs_ne_row d1 d2 d3 (fun x => by subst x; simp at q3; omega) q2 rfl
 refine ⟨by decide, _, ix, ⟨⟨_, lk k' (rowne e (.inl rfl)), rfl⟩, trivial⟩, rfl, ?_⟩
 refine MF.setRow (L := L) k' (by omega) g1 g2 (fun b cs e => s14 _ _ (g4 _ _ e)) (s14 _ _ e) e1 e4 e5 hc (s14 _ _ d1) d2 d4 (fun x hx => (d3 x hx).mono fun b ss _ hb => s14 _ _ hb) d5 (by omega) hv6 keep hb hbn hl0 hl hls fun H1 S1 => ⟨trivial, hK _ _ (by omega) S1⟩
def ParV (Γ : GH) (ps ts : AVal) (pn : List (List UInt8)) (pt : List Int) : Prop :=
 (ps = .nilSlice ∧ pn = []) ∨ ∃ b1 b2, ps = .slice b1 0 pn.length 1 true ∧ ts = .slice b2 0 pn.length 1 true ∧ Γ b1 = some (pn.map .str) ∧ Γ b2 = some (pt.map fun n => AVal.int .i64 n) ∧ pt.length = pn.length
theorem addP (S : MF Z raw rl k Γ0 n0 vb c r L H nx) (hc : c + 1 ≤ 3) {ps ts : AVal} {pn : List (List UInt8)} {pt : List Int} {i : Nat} (hp : ParV Γ0 ps ts pn pt) (hi : i < pn.length) (hn : ∀ s, s ∈ pn → s.length ≤ 20) (ht : ∀ t, t ∈ pt → 0 ≤ t ∧ t < 7) {p : Heap → Nat → Prop} (hK : ∀ H' nx', nx ≤ nx' → MF Z raw rl k Γ0 n0 vb (c + 1) r L H' nx' → p H' nx') :
  true = true ∧ ∃ v1, some (AVal.ptr k 2) = some v1 ∧ ∃ v2, ld1 H v1 = some v2 ∧ (0 : Int) ≤ (i : Int) ∧ ∃ v3, idxS ts (i : Int).toNat 1 = some v3 ∧ ∃ n4 : Int, ld1 H v3 = some (iv n4) ∧ true = true ∧ ∃ v5, some (AVal.ptr k 2) = some v5 ∧ ∃ v6, ld1 H v5 = some v6 ∧ (0 : Int) ≤ (i : Int) ∧ ∃ v7, idxS ts (i : Int).toNat 1 = some v7 ∧ ∃ n8 : Int, ld1 H v7 = some (iv n8) ∧ 0 ≤ n8 ∧
   ∃ v9, idxS v6 n8.toNat 1 = some v9 ∧ ∃ v10, ld1 H v9 = some v10 ∧ (0 : Int) ≤ (i : Int) ∧ ∃ v11, idxS ps (i : Int).toNat 1 = some v11 ∧ ∃ s12, ld1 H v11 = some (AVal.str s12) ∧ true = true ∧ ∃ H13, H13 = newB (nx + 22) [AVal.str s12] H ∧
   ((∃ v14, ld1 H13 v1 = some v14 ∧ v14 = v2) ∧ (∃ n15 : Int, ld1 H13 v3 = some (iv n15) ∧ iv n15 = iv n4) ∧ (∃ v16, ld1 H13 v5 = some v16 ∧ v16 = v6) ∧ (∃ n17 : Int, ld1 H13 v7 = some (iv n17) ∧ iv n17 = iv n8) ∧ (∃ v18, ld1 H13 v9 = some v18 ∧ v18 = v10) ∧ (∃ s19, ld1 H13 v11 = some (AVal.str s19) ∧ AVal.str s19 = AVal.str s12) ∧ True) ∧
   ∃ i20 l21, aSrc 1 H13 (AVal.slice (nx + 22) 0 1 1 true) = some (i20, l21) ∧ allCell l21 = true ∧ ∃ v22 H23 i24, appC H13 (nx + 26) 1 16 v10 i20 l21 = some (v22, H23, i24) ∧ 0 ≤ n4 ∧ ∃ v25, idxS v2 n4.toNat 1 = some v25 ∧ ((∃ v26, ld1 H23 v1 = some v26 ∧ v26 = v2) ∧ (∃ n27 : Int, ld1 H23 v3 = some (iv n27) ∧ iv n27 = iv n4) ∧ True) ∧ cellv v22 = true ∧
   ∃ H28, stC H23 v25 [v22] = some H28 ∧ True ∧ p H28 i24 := by
 obtain ⟨g0, g1, g2, Γ, g3, g4, a, full, loops, size, out, calls, ds, e, e1, e4, e5, e6, d1, d2, d4, d3, d5⟩ := S
 rcases hp with ⟨rfl, rfl⟩ | ⟨b1, b2, rfl, rfl, p1, p2, p3⟩
 ·simp at hi
 have hit : i < pt.length := by omega
 have htm := ht _ (List.getElem_mem hit)
 have hnm := hn _ (List.getElem_mem hi)
 generalize hT : pt[i] = T at htm
 generalize hS : pn[i] = w at hnm
 have hf := g3.non (show nx ≤ nx + 22 by omega)
 have k14 : HZ Z (gup (nx + 22) (some [AVal.str w]) Γ) (newB (nx + 22) [AVal.str w] H) (nx + 26) := g3.new (by omega) (by omega) _
 have s14 : ∀ b cs, Γ b = some cs → gup (nx + 22) (some [AVal.str w]) Γ b = some cs := fun b cs e => (gup_ne (neK e hf)).trans e
 have g10 : gup (nx + 22) (some [AVal.str w]) Γ (nx + 22) = some [AVal.str w] := gup_same _ _ _
 generalize gup (nx + 22) (some [AVal.str w]) Γ = Γ2 at k14 s14 g10
 have hlt : T.toNat < ds.length := by omega
 have ix : idxS (.slice vb 0 7 1 full) T.toNat 1 = some (.ptr vb T.toNat) := by rw [idxS_slice (by omega)]; simp
 have lk : ∀ {H' nx' Γ'}, HZ Z Γ' H' nx' → Γ' k = some (mkC raw a vb full (0 : Nat) loops size out r calls) → ld1 H' (.ptr k 2) = some (.slice vb 0 7 1 full) := fun hk hs => by rw [hk.ld1 hs]; rfl
 have lv : ∀ {H' nx' Γ'}, HZ Z Γ' H' nx' → Γ' vb = some ds → ld1 H' (.ptr vb T.toNat) = some ds[T.toNat] := fun hk hs => by rw [hk.ld1 hs]; simp [hlt]
 have l1 : ∀ {H' nx' Γ'}, HZ Z Γ' H' nx' → Γ' b1 = some (pn.map .str) → ld1 H' (.ptr b1 i) = some (.str w) := fun hk hs => by rw [hk.ld1 hs]; simp [hi, hS]
 have l2 : ∀ {H' nx' Γ'}, HZ Z Γ' H' nx' → Γ' b2 = some (pt.map fun n => AVal.int .i64 n) → ld1 H' (.ptr b2 i) = some (iv T) := fun hk hs => by rw [hk.ld1 hs]; simp [hit, hT]
 have i1 : ∀ b, idxS (.slice b 0 pn.length 1 true) (i : Int).toNat 1 = some (.ptr b i) := fun b => by rw [Int.toNat_natCast, idxS_slice hi]; simp
 have q1 := g4 _ _ p1
 have q2 := g4 _ _ p2
 refine ⟨rfl, _, rfl, _, lk g3 e, by omega, _, i1 _, _, l2 g3 q2, rfl, _, rfl, _, lk g3 e, by omega, _, i1 _, _, l2 g3 q2, htm.1, _, ix, _, lv g3 d1, by omega, _, i1 _, _, l1 g3 q1, rfl, _, rfl, ⟨⟨_, lk k14 (s14 _ _ e), rfl⟩, ⟨_, l2 k14 (s14 _ _ q2), rfl⟩, ⟨_, lk k14 (s14 _ _ e), rfl⟩, ⟨_, l2 k14 (s14 _ _ q2), rfl⟩, ⟨_, lv k14 (s14 _ _ d1), rfl⟩, ⟨_, l1 k14 (s14 _ _ q1), rfl⟩, trivial⟩, ?_⟩
 have hv6 : ds[T.toNat]? = some ds[T.toNat] := List.getElem?_eq_getElem hlt
 have st := d3 _ (List.getElem_mem hlt)
 refine app1 (M := c) (v := ds[T.toNat]) (name := w) k14 g10 (st.mono fun b ss _ hb => s14 _ _ hb) hnm (by omega) fun v' H' nx' Γ' b f ss gx k' keep hv hb hbn hl0 hl hls => ?_
 subst hv
 have rowne : ∀ {b' : Nat} {cs : List AVal}, Γ b' = some cs → (b' = k ∨ b' = vb ∨ Γ0 b' ≠ none) → Γ' b' = some cs := fun {b'} {cs} e' h => keep b' cs (s14 _ _ e') fun n g hx => by
  rcases st with q | ⟨b2, n2, f2, ss2, q1, q2, q3, q4, _⟩
  ·rw [q] at hx; cases hx
  ·rw [hx] at hv6
   rw [q1] at hx; cases hx
   rcases h with rfl | rfl | h
   ·exact strs_ne_k e q2 rfl
   ·exact strs_ne_row d1 d2 d3 (fun x => by subst x; simp at q3; omega) q2 rfl
   ·exact h (d5 _ _ _ _ hv6)
 refine ⟨htm.1, _, ix, ⟨⟨_, lk k' (rowne e (.inl rfl)), rfl⟩, ⟨_, l2 k' (rowne q2 (.inr (.inr (by rw [p2]; simp)))), rfl⟩, trivial⟩, rfl, ?_⟩
 refine MF.setRow (L := L) k' (by omega) g1 g2 (fun b cs e => s14 _ _ (g4 _ _ e)) (s14 _ _ e) e1 e4 e5 hc (s14 _ _ d1) d2 d4 (fun x hx => (d3 x hx).mono fun b ss _ hb => s14 _ _ hb) d5 (by omega) hv6 keep hb hbn hl0 hl hls fun H1 S1 => ⟨trivial, hK _ _ (by omega) S1⟩
theorem fn_okM (R : RawR raw rl) (S : MS Z raw rl k Γ0 n0 vb c r N U L H nx) {h : List UInt8} {ps ts : AVal} {pn : List (List UInt8)} {pt : List Int} {r' d : Int} {cc : Bool} {L' : Nat} (hh : h.length ≤ 100) (hp : ParV Γ0 ps ts pn pt) (hpl : pn.length ≤ 2) (hn : ∀ s, s ∈ pn → s.length ≤ 20) (ht : ∀ t, t ∈ pt → 0 ≤ t ∧ t < 7)
  (hr : r' ≤ 6) (hd0 : 0 ≤ d) (hd : d ≤ 3) (hL : L + 100000000 ≤ L') (hL' : L' ≤ 400000000000) (hK : ∀ H' nx' vb', nx ≤ nx' → MS Z raw rl k Γ0 n0 vb' 3 r' 0 25 L' H' nx' → K (.ret (.tuple [])) H' nx') :
  TriP PG f_mk_fn [.ptr k 0, .str h, ps, ts, iv r', iv d, .bool cc] H nx K := by
 refine TriP.of_body mixed ?_
 rw [Fmk_fn_eq]
 unfold Fmk_fn
 have hlen : lenS ps = some pn.length := by
  rcases hp with ⟨rfl, rfl⟩ | ⟨b1, b2, rfl, _⟩ <;> rfl
 have hT3 : TB 3 = 23400000 := by decide
 refine ⟨rfl, by decide, by decide, by decide, by decide, S.begin_ hr fun H10 S => ?_⟩
 refine loop_w (P := PG) (X := Nat) (Y := Unit) (fun i => envL .und [(14, iv i), (5, iv d), (4, iv r'), (3, ts), (2, ps), (1, .str h), (0, .ptr k 0)]) (fun _ => envL .und [(14, iv pn.length), (5, iv d), (4, iv r'), (3, ts), (2, ps), (1, .str h), (0, .ptr k 0)])
  (fun q i H1 nx1 => q = pn.length - i ∧ i ≤ pn.length ∧ nx ≤ nx1 ∧ MF Z raw rl k Γ0 n0 nx i r' L H1 nx1) (fun id _ H1 nx1 => id = 0 ∧ nx ≤ nx1 ∧ MF Z raw rl k Γ0 n0 nx pn.length r' L H1 nx1) pn.length 0
  (EnvLe.of_list (by exact ⟨rfl, rfl, rfl, rfl, rfl, rfl, rfl, trivial⟩)) ⟨rfl, by omega, by omega, S⟩ ?_ ?_
 ·rintro q i H1 nx1 ⟨rfl, hi, hx, S⟩
  refine WpP.part (ts := [0, 1, 2, 3, 4, 5, 14]) mixed ?_
  rw [LFn_eq]
  unfold LFn
  refine ⟨_, hlen, ifB_iff.2 ⟨fun h => ?_, fun h => ?_⟩⟩
  ·have h : (i : Int) < (pn.length : Int) := of_decide_eq_true h
   refine addP S (by omega) hp (by omega) hn ht fun H2 nx2 g S => ⟨rfl, pn.length - (i + 1), i + 1, by omega, ?_, rfl, by omega, by omega, S⟩
   rw [wrap64_id (by omega) (by omega)]
   exact EnvLe.of_list (by exact ⟨rfl, rfl, rfl, rfl, rfl, rfl, rfl, trivial⟩)
  ·have h : ¬ (i : Int) < (pn.length : Int) := of_decide_eq_false h
   have : i = pn.length := by omega
   subst this
   exact ⟨rfl, (), EnvLe.of_list (by exact ⟨rfl, rfl, rfl, rfl, rfl, rfl, rfl, trivial⟩), rfl, hx, S⟩
 ·rintro id _ H1 nx1 ⟨rfl, hx, S⟩
  rw [AFn_eq]
  unfold AFn
  refine ⟨by omega, lineF S (by omega) (by omega) (by simp only [List.length_append, List.length_cons, List.length_nil]; omega) (by omega) fun H m g1 S => onEnd_ret.2 ?_⟩
  refine lineF S (by omega) (by omega) (by decide) (by omega) fun H m2 g2 S => onEnd_ret.2 ?_
  refine addZ S (by omega) fun H m3 g3 S => ?_
  have S := S.ms
  have hst : StmtsP Z raw rl k r' 3 := @stmts_all _ _ _ _ _ _ R 3 (by omega)
  refine hst S (by omega) (by omega) (by omega) hd (by omega) (Nat.le_refl _) (by omega) fun H m4 vb' g4 S => onEnd_ret.2 ?_
  refine ifB_iff.2 ⟨fun hr0 => ?_, fun _ => ?_⟩
  ·have hr0 : 0 ≤ r' := of_decide_eq_true hr0
   refine exprM R S (by omega) (by omega) (by decide) fun s H m5 g5 S hs => onEnd_ret.2 ⟨_, rfl, by omega, ?_⟩
   refine lineM S (by omega) (by omega) (by simp only [List.length_append, List.length_cons, List.length_nil]; omega) (by omega) fun H m6 g6 S => onEnd_ret.2 ?_
   exact lineM S (by omega) (by omega) (by decide) (by omega) fun H m7 g7 S => onEnd_ret.2 (hK _ _ _ (by omega) (S.le (by omega) (by omega) (by omega) (by omega)))
  ·exact lineM S (by omega) (by omega) (by decide) (by omega) fun H m7 g7 S => onEnd_ret.2 (hK _ _ _ (by omega) (S.le (by omega) (by omega) (by omega) (by omega)))
theorem MS.outP (S : MS Z raw rl k Γ0 n0 vb c r N U L H nx) {p : List UInt8 → Prop} (hK : ∀ s, s.length ≤ L → p s) : ∃ v, some (AVal.ptr k 6) = some v ∧ ∃ s, ld1 H v = some (.str s) ∧ p s :=
 let ⟨_, _, _, _, _, out, _, _, _, _, _, hl, _, _, _, _, _, _, _, c6, _⟩ := S.cells; ⟨_, rfl, _, c6, hK _ hl⟩
theorem text_okM (R : RawR raw rl) (hk : HZ Z Γ H nx) (hK : ∀ s Γ' H' nx', nx ≤ nx' → HZ Z Γ' H' nx' → (∀ b cs, Γ b = some cs → Γ' b = some cs) → s.length ≤ 400000000000 → K (.ret (.str s)) H' nx') : TriP PG f_h_Text [raw] H nx K := by
 refine TriP.of_body mixed ?_
 rw [Fh_Text_eq]
 unfold Fh_Text
 have hf := hk.fresh (Nat.le_refl nx)
 refine ⟨rfl, by decide, by decide, by decide, by decide, scrN hk (nx' := nx + 1) (Nat.le_refl _) (by omega) fun H0 k0 => ⟨R.cell, rfl, rfl, ?_⟩⟩
 have hf2 := k0.fresh (Nat.le_refl (nx + 1))
 have hn2 : Γ (nx + 1) = none := by rwa [gup_ne (by omega)] at hf2
 refine scrN k0 (nx' := nx + 1 + 1) (Nat.le_refl _) (by omega) fun H1 k1 => ?_
 have S : MS Z raw rl (nx + 1) Γ nx nx 0 (-1) 0 0 0 H1 (nx + 1 + 1) := by
  refine ⟨by omega, hn2, hf, _, k1, fun b cs e => ?_, 0, true, 0, 0, 0, [], false, gup_same _ _ _, by omega, by omega, by omega, by omega, by simp, by omega, [AVal.nilSlice, AVal.nilSlice, AVal.nilSlice, AVal.nilSlice, AVal.nilSlice, AVal.nilSlice, AVal.nilSlice], by rw [gup_ne (by omega), gup_same], rfl, ?_, ?_⟩
  ·rw [gup_ne (neK e hn2), gup_ne (neK e hf)]; exact e
  ·intro i j b n m f g _ hi _
   have := List.mem_of_getElem? hi
   simp at this
  ·intro x hx
   simp at hx; subst hx; exact .inl rfl
 have a1 : ∀ s : List UInt8, s ∈ [[97], [98]] → s.length ≤ 20 := by decide
 have a2 : ∀ s : List UInt8, s ∈ [[112]] → s.length ≤ 20 := by decide
 have a3 : ∀ s : List UInt8, s ∈ [[112], [97]] → s.length ≤ 20 := by decide
 have a4 : ∀ s : List UInt8, s ∈ [[113], [97]] → s.length ≤ 20 := by decide
 have t1 : ∀ t : Int, t ∈ [0, 0] → 0 ≤ t ∧ t < 7 := by decide
 have t2 : ∀ t : Int, t ∈ [4] → 0 ≤ t ∧ t < 7 := by decide
 have t3 : ∀ t : Int, t ∈ [4, 0] → 0 ≤ t ∧ t < 7 := by decide
 have t4 : ∀ t : Int, t ∈ [5, 0] → 0 ≤ t ∧ t < 7 := by decide
 refine lineM S (by omega) (by omega) (by decide) (by omega) fun H m g1 S => onEnd_ret.2 ⟨rfl, S.outP fun s hs => ⟨by omega, rfl, _, rfl, rfl, S.setOut (L' := 10000) (by simp only [List.length_append, List.length_cons, List.length_nil]; omega) fun H S => ?_⟩⟩
 refine fn_okM R S (pn := []) (pt := []) (by decide) (.inl ⟨rfl, rfl⟩) (by decide) (by simp) (by simp) (by omega) (by omega) (by omega) (Nat.le_refl _) (by omega) fun H m vb g2 S => onEnd_ret.2 ⟨rfl, rfl, ?_⟩
 refine S.scr (i := m) (nx' := m + 1) (Nat.le_refl _) (by omega) fun H S s1 => ⟨rfl, rfl, S.scr (i := m + 1) (nx' := m + 1 + 1) (Nat.le_refl _) (by omega) fun H S s2 => ?_⟩
 refine next_okM R S (by omega) (by omega) fun j H m' g3 S _ _ => onEnd_ret.2 ⟨_, rfl, ?_⟩
 refine fn_okM R S (pn := [[97], [98]]) (pt := [0, 0]) (by decide) (.inr ⟨_, _, rfl, rfl, s2 _ _ (gup_same _ _ _), gup_same _ _ _, rfl⟩) (by decide) a1 t1 (by omega) (by omega) (by omega) (Nat.le_refl _) (by omega) fun H m2 vb g4 S => onEnd_ret.2 ⟨rfl, ?_⟩
 replace S := S.sub (fun b cs e => s2 _ _ (s1 _ _ e)); clear s1 s2
 refine S.scr (i := m2) (nx' := m2 + 1) (Nat.le_refl _) (by omega) fun H S s1 => ⟨rfl, S.scr (i := m2 + 1) (nx' := m2 + 1 + 1) (Nat.le_refl _) (by omega) fun H S s2 => ?_⟩
 refine next_okM R S (by omega) (by omega) fun j H m' g5 S _ _ => onEnd_ret.2 ⟨_, rfl, ?_⟩
 refine fn_okM R S (pn := [[112]]) (pt := [4]) (by decide) (.inr ⟨_, _, rfl, rfl, s2 _ _ (gup_same _ _ _), gup_same _ _ _, rfl⟩) (by decide) a2 t2 (by omega) (by omega) (by omega) (Nat.le_refl _) (by omega) fun H m3 vb g6 S => onEnd_ret.2 ⟨rfl, rfl, ?_⟩
 replace S := S.sub (fun b cs e => s2 _ _ (s1 _ _ e)); clear s1 s2
 refine S.scr (i := m3) (nx' := m3 + 1) (Nat.le_refl _) (by omega) fun H S s1 => ⟨rfl, rfl, S.scr (i := m3 + 1) (nx' := m3 + 1 + 1) (Nat.le_refl _) (by omega) fun H S s2 => ?_⟩
 refine fn_okM R S (pn := [[112], [97]]) (pt := [4, 0]) (by decide) (.inr ⟨_, _, rfl, rfl, s2 _ _ (gup_same _ _ _), gup_same _ _ _, rfl⟩) (by decide) a3 t3 (by omega) (by omega) (by omega) (Nat.le_refl _) (by omega) fun H m4 vb g7 S => onEnd_ret.2 ⟨rfl, rfl, ?_⟩
 replace S := S.sub (fun b cs e => s2 _ _ (s1 _ _ e)); clear s1 s2
 refine S.scr (i := m4) (nx' := m4 + 1) (Nat.le_refl _) (by omega) fun H S s1 => ⟨rfl, rfl, S.scr (i := m4 + 1) (nx' := m4 + 1 + 1) (Nat.le_refl _) (by omega) fun H S s2 => ?_⟩
 refine fn_okM R S (pn := [[112], [97]]) (pt := [4, 0]) (by decide) (.inr ⟨_, _, rfl, rfl, s2 _ _ (gup_same _ _ _), gup_same _ _ _, rfl⟩) (by decide) a3 t3 (by omega) (by omega) (by omega) (Nat.le_refl _) (by omega) fun H m5 vb g8 S => onEnd_ret.2 ⟨rfl, rfl, ?_⟩
 replace S := S.sub (fun b cs e => s2 _ _ (s1 _ _ e)); clear s1 s2
 refine S.scr (i := m5) (nx' := m5 + 1) (Nat.le_refl _) (by omega) fun H S s1 => ⟨rfl, rfl, S.scr (i := m5 + 1) (nx' := m5 + 1 + 1) (Nat.le_refl _) (by omega) fun H S s2 => ?_⟩
 refine next_okM R S (by omega) (by omega) fun j H m' g9 S _ _ => onEnd_ret.2 ⟨_, rfl, ?_⟩
 refine fn_okM R S (pn := [[113], [97]]) (pt := [5, 0]) (by decide) (.inr ⟨_, _, rfl, rfl, s2 _ _ (gup_same _ _ _), gup_same _ _ _, rfl⟩) (by decide) a4 t4 (by omega) (by omega) (by omega) (Nat.le_refl _) (by omega) fun H m6 vb g10 S => onEnd_ret.2 ⟨rfl, rfl, ?_⟩
 replace S := S.sub (fun b cs e => s2 _ _ (s1 _ _ e)); clear s1 s2
 refine S.scr (i := m6) (nx' := m6 + 1) (Nat.le_refl _) (by omega) fun H S s1 => ⟨rfl, rfl, S.scr (i := m6 + 1) (nx' := m6 + 1 + 1) (Nat.le_refl _) (by omega) fun H S s2 => ?_⟩
 refine fn_okM R S (pn := [[113], [97]]) (pt := [5, 0]) (by decide) (.inr ⟨_, _, rfl, rfl, s2 _ _ (gup_same _ _ _), gup_same _ _ _, rfl⟩) (by decide) a4 t4 (by omega) (by omega) (by omega) (Nat.le_refl _) (by omega) fun H m7 vb g11 S => onEnd_ret.2 ⟨rfl, S.outP fun s hs => ?_⟩
 replace S := S.sub (fun b cs e => s2 _ _ (s1 _ _ e)); clear s1 s2
 obtain ⟨_, _, _, Γ', q1, q2, _⟩ := S
 exact hK s Γ' _ _ (by omega) q1 q2 (by omega)
end
end
end Go.Vs
end
section
namespace Go.Vs
open Go.Proofs
variable [GTab]
def LBent (call : CallP) (lp : Nat → LoopP) (N : KC) (X : Nat → KC) (R : KC) (Pn : List (AVal × Bool) → KC) (raw : AVal) (how : AVal) (s : List UInt8) (i : Int) (H : Heap) (nx : Nat) : Prop :=
 ∃ i0, lenS how = some i0 ∧ ifB (decide (i < Int.ofNat i0)) (ifB (decide (i < 3)) (ifB (decide (Int.ofNat s.length = 0)) (R (envL AVal.und [(0, raw), (1, how), (4, AVal.str s), (5,
 AVal.str s), (6, iv i)]) H nx [] none) (0 ≤ i ∧ ∃ v1, idxS how i.toNat 1 = some v1 ∧ ∃ n2 : Int, ld1 H v1 = some (iv n2) ∧ (50 : Int) ≠ 0 ∧ call f_h_Pick [iv (IntKind.i64.wrap (n2.tdiv
 50)), iv (Int.ofNat s.length)] H nx fun e3 H4 i5 => onEnd e3 (fun v6 => ∃ n7 : Int, v6 = iv n7 ∧ 0 ≤ i ∧ ∃ v8, idxS how i.toNat 1 = some v8 ∧ ∃ n9 : Int, ld1 H4 v8 = some (iv n9) ∧
 call f_h_Pick [iv n9, iv 5] H4 i5 fun e10 H11 i12 => onEnd e10 (fun v13 => ∃ n14 : Int, v13 = iv n14 ∧ ifB (decide (n14 = 0)) (0 ≤ n7 ∧ (some n7.toNat).getD s.length ≤ s.length ∧ 0 ≤ (some
 n7.toNat).getD s.length ∧ 0 ≤ i ∧ ∃ v15, idxS how i.toNat 1 = some v15 ∧ ∃ n16 : Int, ld1 H11 v15 = some (iv n16) ∧ (7 : Int) ≠ 0 ∧ true = true ∧ ∃ H17, H17 = newB (i12 + 9)
 [bv (IntKind.u8.wrap (IntKind.i64.wrap (n16.tdiv 7)))] H11 ∧ ∃ s18, strOf H17 (AVal.slice (i12 + 9) 0 1 1 true) = some s18 ∧ (List.take ((some n7.toNat).getD
 s.length - 0) (List.drop 0 s)).length + s18.length ≤ 9223372036854775807 ∧ 0 ≤ IntKind.i64.wrap (n7 + 1) ∧ none.getD s.length ≤ s.length ∧ (some (IntKind.i64.wrap (n7 +
 1)).toNat).getD 0 ≤ none.getD s.length ∧ (List.take ((some n7.toNat).getD s.length - 0) (List.drop 0 s) ++ s18).length + (List.take (none.getD s.length - (some (IntKind.i64.wrap (n7
 + 1)).toNat).getD 0) (List.drop ((some (IntKind.i64.wrap (n7 + 1)).toNat).getD 0) s)).length ≤ 9223372036854775807 ∧ ((0 ≤ n7 ∧ (some n7.toNat).getD s.length ≤ s.length ∧ 0 ≤ (some
 n7.toNat).getD s.length ∧ AVal.str (List.take ((some n7.toNat).getD s.length - 0) (List.drop 0 s)) = AVal.str (List.take ((some n7.toNat).getD s.length - 0) (List.drop 0 s))) ∧ (∃
 n19 : Int, ld1 H17 v15 = some (iv n19) ∧ iv n19 = iv n16) ∧ bv (IntKind.u8.wrap (IntKind.i64.wrap (n16.tdiv 7))) = bv (IntKind.u8.wrap
 (IntKind.i64.wrap (n16.tdiv 7))) ∧ (∃ s20, strOf H17 (AVal.slice (i12 + 9) 0 1 1 true) = some s20 ∧ AVal.str s20 = AVal.str s18) ∧ (0 ≤ IntKind.i64.wrap (n7 + 1) ∧ none.getD
 s.length ≤ s.length ∧ (some (IntKind.i64.wrap (n7 + 1)).toNat).getD 0 ≤ none.getD s.length ∧ AVal.str (List.take (none.getD s.length - (some (IntKind.i64.wrap (n7 + 1)).toNat).getD
 0) (List.drop ((some (IntKind.i64.wrap (n7 + 1)).toNat).getD 0) s)) = AVal.str (List.take (none.getD s.length - (some (IntKind.i64.wrap (n7 + 1)).toNat).getD 0) (List.drop ((some
 (IntKind.i64.wrap (n7 + 1)).toNat).getD 0) s))) ∧ True) ∧ N (envL AVal.und [(0, raw), (1, how), (4, AVal.und), (5, AVal.str (List.take ((some n7.toNat).getD s.length - 0) (List.drop
 0 s) ++ s18 ++ List.take (none.getD s.length - (some (IntKind.i64.wrap (n7 + 1)).toNat).getD 0) (List.drop ((some (IntKind.i64.wrap (n7 + 1)).toNat).getD 0) s))), (6, iv
 (IntKind.i64.wrap (i + 1)))]) H17 (i12 + 17) [] none) (ifB (decide (n14 = 1)) (0 ≤ n7 ∧ (some n7.toNat).getD s.length ≤ s.length ∧ 0 ≤ (some n7.toNat).getD s.length ∧ (List.take
 ((some n7.toNat).getD s.length - 0) (List.drop 0 s)).length + 1 ≤ 9223372036854775807 ∧ 0 ≤ i ∧ ∃ v21, idxS how i.toNat 1 = some v21 ∧ ∃ n22 : Int, ld1 H11 v21 = some (iv n22) ∧ (5
 : Int) ≠ 0 ∧ 0 ≤ n7 ∧ none.getD s.length ≤ s.length ∧ (some n7.toNat).getD 0 ≤ none.getD s.length ∧ ((0 ≤ n7 ∧ (some n7.toNat).getD s.length ≤ s.length ∧ 0 ≤ (some n7.toNat).getD
 s.length ∧ AVal.str (List.take ((some n7.toNat).getD s.length - 0) (List.drop 0 s)) = AVal.str (List.take ((some n7.toNat).getD s.length - 0) (List.drop 0 s))) ∧ (∃ n23 : Int, ld1
 H11 v21 = some (iv n23) ∧ iv n23 = iv n22) ∧ (0 ≤ n7 ∧ none.getD s.length ≤ s.length ∧ (some n7.toNat).getD 0 ≤ none.getD s.length ∧ AVal.str (List.take (none.getD s.length - (some
 n7.toNat).getD 0) (List.drop ((some n7.toNat).getD 0) s)) = AVal.str (List.take (none.getD s.length - (some n7.toNat).getD 0) (List.drop ((some n7.toNat).getD 0) s))) ∧ True) ∧ call
 4 [iv (IntKind.i64.wrap (n22.tdiv 5)), iv 44] H11 (i12 + 18) fun e24 H25 i26 => onEnd e24 (fun v27 => ∃ n28 : Int, v27 = iv n28 ∧ 0 ≤ n28 ∧ n28.toNat < 44 ∧ ∃ v29, some (AVal.gptr 0
 (0 + n28.toNat * 1)) = some v29 ∧ ∃ s30, ld1 H25 v29 = some (AVal.str s30) ∧ (List.take ((some n7.toNat).getD s.length - 0) (List.drop 0 s) ++ [32]).length + s30.length ≤
 9223372036854775807 ∧ (List.take ((some n7.toNat).getD s.length - 0) (List.drop 0 s) ++ [32] ++ s30).length + 1 ≤ 9223372036854775807 ∧ (List.take ((some n7.toNat).getD s.length -
 0) (List.drop 0 s) ++ [32] ++ s30 ++ [32]).length + (List.take (none.getD s.length - (some n7.toNat).getD 0) (List.drop ((some n7.toNat).getD 0) s)).length ≤ 9223372036854775807 ∧
 ((0 ≤ n7 ∧ (some n7.toNat).getD s.length ≤ s.length ∧ 0 ≤ (some n7.toNat).getD s.length ∧ AVal.str (List.take ((some n7.toNat).getD s.length - 0) (List.drop 0 s)) = AVal.str
 (List.take ((some n7.toNat).getD s.length - 0) (List.drop 0 s))) ∧ (∃ s31, ld1 H25 v29 = some (AVal.str s31) ∧ AVal.str s31 = AVal.str s30) ∧ (0 ≤ n7 ∧ none.getD s.length ≤ s.length
 ∧ (some n7.toNat).getD 0 ≤ none.getD s.length ∧ AVal.str (List.take (none.getD s.length - (some n7.toNat).getD 0) (List.drop ((some n7.toNat).getD 0) s)) = AVal.str (List.take
 (none.getD s.length - (some n7.toNat).getD 0) (List.drop ((some n7.toNat).getD 0) s))) ∧ True) ∧ N (envL AVal.und [(0, raw), (1, how), (4, AVal.und), (5, AVal.str (List.take ((some
 n7.toNat).getD s.length - 0) (List.drop 0 s) ++ [32] ++ s30 ++ [32] ++ List.take (none.getD s.length - (some n7.toNat).getD 0) (List.drop ((some n7.toNat).getD 0) s))), (6, iv
 (IntKind.i64.wrap (i + 1)))]) H25 i26 [] none) fun l32 => Pn l32 (envL AVal.und [(0, raw), (1, how), (4, AVal.und), (5, AVal.str s), (6, iv i)]) H25 i26 [] none) (ifB (decide (n14 =
 2)) (0 ≤ n7 ∧ (some n7.toNat).getD s.length ≤ s.length ∧ 0 ≤ (some n7.toNat).getD s.length ∧ 0 ≤ i ∧ ∃ v33, idxS how i.toNat 1 = some v33 ∧ ∃ n34 : Int, ld1 H11 v33 = some (iv n34)
 ∧ (5 : Int) ≠ 0 ∧ ((0 ≤ n7 ∧ (some n7.toNat).getD s.length ≤ s.length ∧ 0 ≤ (some n7.toNat).getD s.length ∧ AVal.str (List.take ((some n7.toNat).getD s.length - 0) (List.drop 0 s))
 = AVal.str (List.take ((some n7.toNat).getD s.length - 0) (List.drop 0 s))) ∧ (∃ n35 : Int, ld1 H11 v33 = some (iv n35) ∧ iv n35 = iv n34) ∧ True) ∧ call f_h_Pick [iv (IntKind.i64.wrap
 (n34.tdiv 5)), iv 9] H11 (i12 + 18) fun e36 H37 i38 => onEnd e36 (fun v39 => ∃ n40 : Int, v39 = iv n40 ∧ ∃ n41 : Int, some (Bool.rec (Bool.rec (Int.ofNat s.length) (IntKind.i64.wrap
 (IntKind.i64.wrap (n7 + 1) + n40)) (ilt (IntKind.i64.wrap (IntKind.i64.wrap (n7 + 1) + n40)) (Int.ofNat s.length))) (Bool.rec (Int.ofNat s.length) (IntKind.i64.wrap
 (IntKind.i64.wrap (n7 + 1) + n40)) (ilt (Int.ofNat s.length) (IntKind.i64.wrap (IntKind.i64.wrap (n7 + 1) + n40)))) false) = some n41 ∧ 0 ≤ n41 ∧ none.getD s.length ≤ s.length ∧
 (some n41.toNat).getD 0 ≤ none.getD s.length ∧ (List.take ((some n7.toNat).getD s.length - 0) (List.drop 0 s)).length + (List.take (none.getD s.length - (some n41.toNat).getD 0)
 (List.drop ((some n41.toNat).getD 0) s)).length ≤ 9223372036854775807 ∧ ((0 ≤ n7 ∧ (some n7.toNat).getD s.length ≤ s.length ∧ 0 ≤ (some n7.toNat).getD s.length ∧ AVal.str (List.take
 ((some n7.toNat).getD s.length - 0) (List.drop 0 s)) = AVal.str (List.take ((some n7.toNat).getD s.length - 0) (List.drop 0 s))) ∧ (0 ≤ n41 ∧ none.getD s.length ≤ s.length ∧ (some
 n41.toNat).getD 0 ≤ none.getD s.length ∧ AVal.str (List.take (none.getD s.length - (some n41.toNat).getD 0) (List.drop ((some n41.toNat).getD 0) s)) = AVal.str (List.take (none.getD
 s.length - (some n41.toNat).getD 0) (List.drop ((some n41.toNat).getD 0) s))) ∧ True) ∧ N (envL AVal.und [(0, raw), (1, how), (4, AVal.und), (5, AVal.str (List.take ((some
 n7.toNat).getD s.length - 0) (List.drop 0 s) ++ List.take (none.getD s.length - (some n41.toNat).getD 0) (List.drop ((some n41.toNat).getD 0) s))), (6, iv (IntKind.i64.wrap (i +
 1)))]) H37 i38 [] none) fun l42 => Pn l42 (envL AVal.und [(0, raw), (1, how), (4, AVal.und), (5, AVal.str s), (6, iv i)]) H37 i38 [] none) (ifB (decide (n14 = 3)) (0 ≤ n7 ∧ (some
 n7.toNat).getD s.length ≤ s.length ∧ 0 ≤ (some n7.toNat).getD s.length ∧ N (envL AVal.und [(0, raw), (1, how), (4, AVal.und), (5, AVal.str (List.take ((some n7.toNat).getD s.length
 - 0) (List.drop 0 s))), (6, iv (IntKind.i64.wrap (i + 1)))]) H11 i12 [] none) (0 ≤ n7 ∧ (some n7.toNat).getD s.length ≤ s.length ∧ 0 ≤ (some n7.toNat).getD s.length ∧ true = true ∧
 true = true ∧ true = true ∧ true = true ∧ true = true ∧ true = true ∧ true = true ∧ true = true ∧ 0 ≤ i ∧ ∃ v43, idxS how i.toNat 1 = some v43 ∧ ∃ n44 : Int, ld1 H11 v43 = some (iv
 n44) ∧ (5 : Int) ≠ 0 ∧ 0 ≤ n7 ∧ none.getD s.length ≤ s.length ∧ (some n7.toNat).getD 0 ≤ none.getD s.length ∧ ((0 ≤ n7 ∧ (some n7.toNat).getD s.length ≤ s.length ∧ 0 ≤ (some
 n7.toNat).getD s.length ∧ AVal.str (List.take ((some n7.toNat).getD s.length - 0) (List.drop 0 s)) = AVal.str (List.take ((some n7.toNat).getD s.length - 0) (List.drop 0 s))) ∧ (∃
 n45 : Int, ld1 H11 v43 = some (iv n45) ∧ iv n45 = iv n44) ∧ (0 ≤ n7 ∧ none.getD s.length ≤ s.length ∧ (some n7.toNat).getD 0 ≤ none.getD s.length ∧ AVal.str (List.take (none.getD
 s.length - (some n7.toNat).getD 0) (List.drop ((some n7.toNat).getD 0) s)) = AVal.str (List.take (none.getD s.length - (some n7.toNat).getD 0) (List.drop ((some n7.toNat).getD 0)
 s))) ∧ True) ∧ call f_h_Pick [iv (IntKind.i64.wrap (n44.tdiv 5)), iv 8] H11 (i12 + 16) fun e46 H47 i48 => onEnd e46 (fun v49 => ∃ n50 : Int, v49 = iv n50 ∧ 0 ≤ n50 ∧ n50.toNat < 8 ∧ ∃ s51,
 aPart PG t_str [AVal.str [118, 48], AVal.str [122], AVal.str [112], AVal.str [116, 114, 117, 101], AVal.str [48], AVal.str [110, 105, 108], AVal.str [34, 97, 34], AVal.str [110,
 101, 119, 40, 81, 41]] (n50.toNat * 1) = some (AVal.str s51) ∧ (List.take ((some n7.toNat).getD s.length - 0) (List.drop 0 s)).length + s51.length ≤ 9223372036854775807 ∧ (List.take
 ((some n7.toNat).getD s.length - 0) (List.drop 0 s) ++ s51).length + (List.take (none.getD s.length - (some n7.toNat).getD 0) (List.drop ((some n7.toNat).getD 0) s)).length ≤
 9223372036854775807 ∧ ((0 ≤ n7 ∧ (some n7.toNat).getD s.length ≤ s.length ∧ 0 ≤ (some n7.toNat).getD s.length ∧ AVal.str (List.take ((some n7.toNat).getD s.length - 0) (List.drop 0
 s)) = AVal.str (List.take ((some n7.toNat).getD s.length - 0) (List.drop 0 s))) ∧ (0 ≤ n7 ∧ none.getD s.length ≤ s.length ∧ (some n7.toNat).getD 0 ≤ none.getD s.length ∧ AVal.str
 (List.take (none.getD s.length - (some n7.toNat).getD 0) (List.drop ((some n7.toNat).getD 0) s)) = AVal.str (List.take (none.getD s.length - (some n7.toNat).getD 0) (List.drop
 ((some n7.toNat).getD 0) s))) ∧ True) ∧ N (envL AVal.und [(0, raw), (1, how), (4, AVal.und), (5, AVal.str (List.take ((some n7.toNat).getD s.length - 0) (List.drop 0 s) ++ s51 ++
 List.take (none.getD s.length - (some n7.toNat).getD 0) (List.drop ((some n7.toNat).getD 0) s))), (6, iv (IntKind.i64.wrap (i + 1)))]) H47 i48 [] none) fun l52 => Pn l52 (envL
 AVal.und [(0, raw), (1, how), (4, AVal.und), (5, AVal.str s), (6, iv i)]) H47 i48 [] none))))) fun l53 => Pn l53 (envL AVal.und [(0, raw), (1, how), (4, AVal.und), (5, AVal.str s),
 (6, iv i)]) H11 i12 [] none) fun l54 => Pn l54 (envL AVal.und [(0, raw), (1, how), (4, AVal.und), (5, AVal.str s), (6, iv i)]) H4 i5 [] none)) (X 0 (envL AVal.und [(0, raw), (1,
 how), (4, AVal.und), (5, AVal.str s), (6, iv i)]) H nx [] none)) (X 0 (envL AVal.und [(0, raw), (1, how), (4, AVal.und), (5, AVal.str s), (6, iv i)]) H nx [] none)
theorem LBent_eq (call : CallP) (lp : Nat → LoopP) (N : KC) (X : Nat → KC) (R : KC) (Pn : List (AVal × Bool) → KC) (raw : AVal) (how : AVal) (s : List UInt8) (i : Int) (H : Heap) (nx : Nat) : vK PG call (lp 118) 118 (subAt (codeOf PG 5) [1,1,0,1,0,0]) (envL .und [(6, iv i), (5, AVal.str s), (1, how), (0, raw)]) H nx [] none (trimK [0,1,4,5,6] (loopK N X R Pn)) = LBent call lp N X R Pn raw how s i H nx := by kernel_rfl
def ABent (call : CallP) (lp : Nat → LoopP) (lv : LeaveP) (lvc : LeaveC) (raw : AVal) (how : AVal) (s : List UInt8) (i : Int) (H : Heap) (nx : Nat) (K : EndP) : Prop :=
 K (AEnd.ret (AVal.str s)) H nx
theorem ABent_eq (call : CallP) (lp : Nat → LoopP) (lv : LeaveP) (lvc : LeaveC) (raw : AVal) (how : AVal) (s : List UInt8) (i : Int) (H : Heap) (nx : Nat) (K : EndP) : contAt PG call (lp 118) 118 (codeOf PG 5) [1,1,0,1,0] (endK PG lv lvc K (resOf PG 5)) (.exit 0) (envL .und [(6, iv i), (5, AVal.str s), (1, how), (0, raw)]) H nx [] none = ABent call lp lv lvc raw how s i H nx K := by kernel_rfl
end Go.Vs
end
section
namespace Go.Vs
open Go.Proofs
variable [GTab] {Z : Nat → Prop}
noncomputable section
def WordsT : Prop := ∃ ws : List (List UInt8), GTab.tab 0 = some (ws.map .str) ∧ ws.length = 44 ∧ ∀ s, s ∈ ws → s.length ≤ 20
section
variable {raw how : AVal} {rl hl : List Int} {Γ : GH} {H : Heap} {nx : Nat} {K : EndP}
theorem WordsT.at_ (h : WordsT) {n : Int} (h0 : 0 ≤ n) (h1 : n < 44) : ∃ s : List UInt8, s.length ≤ 20 ∧ ∀ H, ld1 H (.gptr 0 (0 + n.toNat * 1)) = some (.str s) := by
 obtain ⟨ws, e, hl, hs⟩ := h
 have hn : n.toNat < ws.length := by omega
 refine ⟨ws[n.toNat], hs _ (List.getElem_mem hn), fun H => ?_⟩
 show (match GTab.tab 0 with | some l => l[0 + n.toNat * 1]? | none => none) = _
 rw [e]; simp [hn]
theorem u8_byte (z : Int) : ∃ b : UInt8, bv (IntKind.u8.wrap z) = AVal.int .u8 (.ofNat b.toNat) := by
 have h : IntKind.u8.wrap z = z % 256 := by
  unfold IntKind.wrap
  simp [IntKind.signed, IntKind.bits]
 refine ⟨UInt8.ofNat (z % 256).toNat, ?_⟩
 rw [h]
 have h0 := Int.emod_nonneg z (show (256 : Int) ≠ 0 by decide)
 have h1 := Int.emod_lt_of_pos z (show (0 : Int) < 256 by decide)
 have : (UInt8.ofNat (z % 256).toNat).toNat = (z % 256).toNat := by
  simp [UInt8.toNat_ofNat']
  omega
 rw [this]
 show AVal.int .u8 (z % 256) = AVal.int .u8 (((z % 256).toNat : Nat) : Int)
 rw [Int.toNat_of_nonneg h0]
theorem Bent_ret (call : CallP) (lp : Nat → LoopP) (lv : LeaveP) (lvc : LeaveC) (raw how : AVal) (s : List UInt8) (i : Int) (H : Heap) (nx : Nat) (K : EndP) :
  contAt PG call (lp 118) 118 (codeOf PG f_h_Bent) [1,1,0,1,0] (endK PG lv lvc K (resOf PG f_h_Bent)) .ret (envL .und [(0, raw), (1, how), (4, AVal.str s), (5, AVal.str s), (6, iv i)]) H nx [] none = K (.ret (.str s)) H nx := by kernel_rfl
theorem bent_okM (R : RawR raw rl) (Hw : ArgN how hl) (hc : cellv how = true) (hf : hl.length ≤ 9223372036854775807) (W : WordsT) (hk : HZ Z Γ H nx)
  (hK : ∀ s Γ' H' nx', nx ≤ nx' → HZ Z Γ' H' nx' → (∀ b cs, Γ b = some cs → Γ' b = some cs) → s.length ≤ 500000000000 → K (.ret (.str s)) H' nx') : TriP PG f_h_Bent [raw, how] H nx K := by
 refine TriP.of_body mixed ?_
 rw [Fh_Bent_eq]
 unfold Fh_Bent
 refine text_okM R hk fun s Γ' H' nx' g0 k1 sub1 hs => onEnd_ret.2 ⟨_, rfl, ?_⟩
 refine loop_w (P := PG) (X := List UInt8 × Nat) (Y := List UInt8 × Nat) (fun x => envL .und [(6, iv x.2), (5, .str x.1), (1, how), (0, raw)]) (fun x => envL .und [(6, iv x.2), (5, .str x.1), (1, how), (0, raw)])
  (fun q x H1 nx1 => q = 3 - x.2 ∧ x.2 ≤ 3 ∧ nx ≤ nx1 ∧ x.1.length ≤ 400000000000 + 100 * x.2 ∧ ∃ Γ1, HZ Z Γ1 H1 nx1 ∧ ∀ b cs, Γ b = some cs → Γ1 b = some cs)
  (fun id x H1 nx1 => id = 0 ∧ x.2 ≤ 3 ∧ nx ≤ nx1 ∧ x.1.length ≤ 400000000000 + 100 * x.2 ∧ ∃ Γ1, HZ Z Γ1 H1 nx1 ∧ ∀ b cs, Γ b = some cs → Γ1 b = some cs) 3 (s, 0)
  (EnvLe.of_list (by exact ⟨rfl, rfl, rfl, rfl, trivial⟩)) ⟨rfl, by omega, by omega, by simpa using hs, _, k1, sub1⟩ ?_ ?_
 ·rintro q ⟨s, i⟩ H1 nx1 ⟨rfl, hi, hx, hs, Γ1, k, sub⟩
  dsimp only at hi hs
  refine WpP.part (ts := [0, 1, 4, 5, 6]) mixed ?_
  refine cast (LBent_eq _ _ _ _ _ _ raw how s (i : Int) _ _).symm ?_
  unfold LBent
  refine ⟨_, Hw.1, ifB_iff.2 ⟨fun h => ?_, fun _ => ⟨rfl, (s, i), EnvLe.of_list (by exact ⟨rfl, rfl, rfl, rfl, trivial⟩), rfl, hi, hx, hs, _, k, sub⟩⟩⟩
  have h : (i : Int) < (hl.length : Int) := of_decide_eq_true h
  have hil : i < hl.length := by omega
  refine ifB_iff.2 ⟨fun h3 => ?_, fun _ => ⟨rfl, (s, i), EnvLe.of_list (by exact ⟨rfl, rfl, rfl, rfl, trivial⟩), rfl, hi, hx, hs, _, k, sub⟩⟩
  have h3 : (i : Int) < 3 := of_decide_eq_true h3
  refine ifB_iff.2 ⟨fun _ => ?_, fun hne => ?_⟩
  ·show contAt _ _ _ _ _ _ _ _ _ _ _ _ _
   rw [Bent_ret]
   exact hK s _ _ _ hx k sub (by omega)
  have hne : ¬ (s.length : Int) = 0 := of_decide_eq_false hne
  obtain ⟨p, p1, p2⟩ := Hw.2 i hil
  have ix : idxS how (i : Int).toNat 1 = some p := by rw [Int.toNat_natCast]; exact p1
  have go : ∀ {H2 : Heap} {nx2 : Nat} {s2 : List UInt8}, nx ≤ nx2 → s2.length ≤ 400000000000 + 100 * (i + 1) → (∃ Γ1, HZ Z Γ1 H2 nx2 ∧ ∀ b cs, Γ b = some cs → Γ1 b = some cs) →
    ∃ m' x', m' < 3 - i ∧ EnvLe (envL .und [(6, iv (x' : List UInt8 × Nat).2), (5, .str x'.1), (1, how), (0, raw)]) (envL .und [(0, raw), (1, how), (4, AVal.und), (5, .str s2), (6, iv (IntKind.i64.wrap ((i : Int) + 1)))]) ∧ m' = 3 - x'.2 ∧ x'.2 ≤ 3 ∧ nx ≤ nx2 ∧ x'.1.length ≤ 400000000000 + 100 * x'.2 ∧ ∃ Γ1, HZ Z Γ1 H2 nx2 ∧ ∀ b cs, Γ b = some cs → Γ1 b = some cs :=
   fun {H2 nx2 s2} h1 h2 h3 => ⟨3 - (i + 1), (s2, i + 1), by omega, by
    rw [wrap64_id (by omega) (by omega)]
    exact EnvLe.of_list (by exact ⟨rfl, rfl, rfl, rfl, trivial⟩), rfl, by dsimp only; omega, h1, h2, h3⟩
  refine ⟨by omega, _, ix, _, p2 _, by decide, pick_ok (m := Int.ofNat s.length) (by show (0 : Int) < (s.length : Int); omega) (by show (s.length : Int) ≤ _; omega) (onEnd_ret.2 ⟨_, rfl, by omega, _, ix, _, p2 _, pick_ok (by omega) (by omega) (onEnd_ret.2 ⟨_, rfl, ?_⟩)⟩)⟩
  obtain ⟨n0, n1⟩ := pick_lt (n := IntKind.i64.wrap ((hl.getD i 0).tdiv 50)) (m := Int.ofNat s.length) (by show (0 : Int) < (s.length : Int); omega)
  generalize IntKind.i64.wrap ((hl.getD i 0).tdiv 50) % Int.ofNat s.length = n7 at n0 n1 ⊢
  have n1 : n7 < (s.length : Int) := n1
  have w1 : IntKind.i64.wrap (n7 + 1) = n7 + 1 := wrap64_id (by omega) (by omega)
  refine ifB_iff.2 ⟨fun _ => ?_, fun _ => ifB_iff.2 ⟨fun _ => ?_, fun _ => ifB_iff.2 ⟨fun _ => ?_, fun _ => ifB_iff.2 ⟨fun _ => ?_, fun _ => ?_⟩⟩⟩⟩
  ·refine ⟨n0, by first | trivial | rfl | assumption | omega | (simp only [Option.getD_some, Option.getD_none, Nat.sub_zero, List.drop_zero, List.length_append, List.length_take, List.length_drop, List.length_cons, List.length_nil]; omega), by first | trivial | rfl | assumption | omega | (simp only [Option.getD_some, Option.getD_none, Nat.sub_zero, List.drop_zero, List.length_append, List.length_take, List.length_drop, List.length_cons, List.length_nil]; omega), by omega, _, ix, _, p2 _, by decide, rfl, ?_⟩
   obtain ⟨b, hb⟩ := u8_byte (IntKind.i64.wrap ((hl.getD i 0).tdiv 7))
   rw [hb]
   refine scrN k (nx' := nx1 + 17) (by omega) (by omega) fun H2 k2 => ?_
   have hs2 : strOf H2 (AVal.slice (nx1 + 9) 0 1 1 true) = some [b] := k2.str (w := [b]) (gup_same _ _ _)
   rw [w1]
   have hf2 := k.non (show nx1 ≤ nx1 + 9 by omega)
   exact ⟨_, hs2, by first | trivial | rfl | assumption | omega | (simp only [Option.getD_some, Option.getD_none, Nat.sub_zero, List.drop_zero, List.length_append, List.length_take, List.length_drop, List.length_cons, List.length_nil]; omega), by first | trivial | rfl | assumption | omega | (simp only [Option.getD_some, Option.getD_none, Nat.sub_zero, List.drop_zero, List.length_append, List.length_take, List.length_drop, List.length_cons, List.length_nil]; omega), by first | trivial | rfl | assumption | omega | (simp only [Option.getD_some, Option.getD_none, Nat.sub_zero, List.drop_zero, List.length_append, List.length_take, List.length_drop, List.length_cons, List.length_nil]; omega), by first | trivial | rfl | assumption | omega | (simp only [Option.getD_some, Option.getD_none, Nat.sub_zero, List.drop_zero, List.length_append, List.length_take, List.length_drop, List.length_cons, List.length_nil]; omega), by first | trivial | rfl | assumption | omega | (simp only [Option.getD_some, Option.getD_none, Nat.sub_zero, List.drop_zero, List.length_append, List.length_take, List.length_drop, List.length_cons, List.length_nil]; omega), ⟨⟨n0, by first | trivial | rfl | assumption | omega | (simp only [Option.getD_some, Option.getD_none, Nat.sub_zero, List.drop_zero, List.length_append, List.length_take, List.length_drop, List.length_cons, List.length_nil]; omega), by first | trivial | rfl | assumption | omega | (simp only [Option.getD_some, Option.getD_none, Nat.sub_zero, List.drop_zero, List.length_append, List.length_take, List.length_drop, List.length_cons, List.length_nil]; omega), rfl⟩, ⟨_, p2 _, rfl⟩, rfl, ⟨_, hs2, rfl⟩, ⟨by first | trivial | rfl | assumption | omega | (simp only [Option.getD_some, Option.getD_none, Nat.sub_zero, List.drop_zero, List.length_append, List.length_take, List.length_drop, List.length_cons, List.length_nil]; omega), by first | trivial | rfl | assumption | omega | (simp only [Option.getD_some, Option.getD_none, Nat.sub_zero, List.drop_zero, List.length_append, List.length_take, List.length_drop, List.length_cons, List.length_nil]; omega), by first | trivial | rfl | assumption | omega | (simp only [Option.getD_some, Option.getD_none, Nat.sub_zero, List.drop_zero, List.length_append, List.length_take, List.length_drop, List.length_cons, List.length_nil]; omega), rfl⟩, trivial⟩, rfl, go (by omega) (by first | trivial | rfl | assumption | omega | (simp only [Option.getD_some, Option.getD_none, Nat.sub_zero, List.drop_zero, List.length_append, List.length_take, List.length_drop, List.length_cons, List.length_nil]; omega)) ⟨_, k2, fun b cs e => (gup_ne (neK (sub _ _ e) hf2)).trans (sub _ _ e)⟩⟩
  ·refine ⟨n0, by first | trivial | rfl | assumption | omega | (simp only [Option.getD_some, Option.getD_none, Nat.sub_zero, List.drop_zero, List.length_append, List.length_take, List.length_drop, List.length_cons, List.length_nil]; omega), by first | trivial | rfl | assumption | omega | (simp only [Option.getD_some, Option.getD_none, Nat.sub_zero, List.drop_zero, List.length_append, List.length_take, List.length_drop, List.length_cons, List.length_nil]; omega), by first | trivial | rfl | assumption | omega | (simp only [Option.getD_some, Option.getD_none, Nat.sub_zero, List.drop_zero, List.length_append, List.length_take, List.length_drop, List.length_cons, List.length_nil]; omega), by omega, _, ix, _, p2 _, by decide, n0, by first | trivial | rfl | assumption | omega | (simp only [Option.getD_some, Option.getD_none, Nat.sub_zero, List.drop_zero, List.length_append, List.length_take, List.length_drop, List.length_cons, List.length_nil]; omega), by first | trivial | rfl | assumption | omega | (simp only [Option.getD_some, Option.getD_none, Nat.sub_zero, List.drop_zero, List.length_append, List.length_take, List.length_drop, List.length_cons, List.length_nil]; omega), ⟨⟨n0, by first | trivial | rfl | assumption | omega | (simp only [Option.getD_some, Option.getD_none, Nat.sub_zero, List.drop_zero, List.length_append, List.length_take, List.length_drop, List.length_cons, List.length_nil]; omega), by first | trivial | rfl | assumption | omega | (simp only [Option.getD_some, Option.getD_none, Nat.sub_zero, List.drop_zero, List.length_append, List.length_take, List.length_drop, List.length_cons, List.length_nil]; omega), rfl⟩, ⟨_, p2 _, rfl⟩, ⟨n0, by first | trivial | rfl | assumption | omega | (simp only [Option.getD_some, Option.getD_none, Nat.sub_zero, List.drop_zero, List.length_append, List.length_take, List.length_drop, List.length_cons, List.length_nil]; omega), by first | trivial | rfl | assumption | omega | (simp only [Option.getD_some, Option.getD_none, Nat.sub_zero, List.drop_zero, List.length_append, List.length_take, List.length_drop, List.length_cons, List.length_nil]; omega), rfl⟩, trivial⟩, pick_ok (by omega) (by omega) (onEnd_ret.2 ⟨_, rfl, (pick_lt (by omega)).1, by have := pick_lt (n := IntKind.i64.wrap ((hl.getD i 0).tdiv 5)) (m := 44) (by omega); omega, ?_⟩)⟩
   obtain ⟨m0, m1⟩ := pick_lt (n := IntKind.i64.wrap ((hl.getD i 0).tdiv 5)) (m := 44) (by omega)
   obtain ⟨w, hw, hh⟩ := W.at_ m0 m1
   exact ⟨_, rfl, w, hh _, by first | trivial | rfl | assumption | omega | (simp only [Option.getD_some, Option.getD_none, Nat.sub_zero, List.drop_zero, List.length_append, List.length_take, List.length_drop, List.length_cons, List.length_nil]; omega), by first | trivial | rfl | assumption | omega | (simp only [Option.getD_some, Option.getD_none, Nat.sub_zero, List.drop_zero, List.length_append, List.length_take, List.length_drop, List.length_cons, List.length_nil]; omega), by first | trivial | rfl | assumption | omega | (simp only [Option.getD_some, Option.getD_none, Nat.sub_zero, List.drop_zero, List.length_append, List.length_take, List.length_drop, List.length_cons, List.length_nil]; omega), ⟨⟨n0, by first | trivial | rfl | assumption | omega | (simp only [Option.getD_some, Option.getD_none, Nat.sub_zero, List.drop_zero, List.length_append, List.length_take, List.length_drop, List.length_cons, List.length_nil]; omega), by first | trivial | rfl | assumption | omega | (simp only [Option.getD_some, Option.getD_none, Nat.sub_zero, List.drop_zero, List.length_append, List.length_take, List.length_drop, List.length_cons, List.length_nil]; omega), rfl⟩, ⟨_, hh _, rfl⟩, ⟨n0, by first | trivial | rfl | assumption | omega | (simp only [Option.getD_some, Option.getD_none, Nat.sub_zero, List.drop_zero, List.length_append, List.length_take, List.length_drop, List.length_cons, List.length_nil]; omega), by first | trivial | rfl | assumption | omega | (simp only [Option.getD_some, Option.getD_none, Nat.sub_zero, List.drop_zero, List.length_append, List.length_take, List.length_drop, List.length_cons, List.length_nil]; omega), rfl⟩, trivial⟩, rfl, go (by omega) (by first | trivial | rfl | assumption | omega | (simp only [Option.getD_some, Option.getD_none, Nat.sub_zero, List.drop_zero, List.length_append, List.length_take, List.length_drop, List.length_cons, List.length_nil]; omega)) ⟨_, k.more (by omega), sub⟩⟩
  ·refine ⟨n0, by first | trivial | rfl | assumption | omega | (simp only [Option.getD_some, Option.getD_none, Nat.sub_zero, List.drop_zero, List.length_append, List.length_take, List.length_drop, List.length_cons, List.length_nil]; omega), by first | trivial | rfl | assumption | omega | (simp only [Option.getD_some, Option.getD_none, Nat.sub_zero, List.drop_zero, List.length_append, List.length_take, List.length_drop, List.length_cons, List.length_nil]; omega), by omega, _, ix, _, p2 _, by decide, ⟨⟨n0, by first | trivial | rfl | assumption | omega | (simp only [Option.getD_some, Option.getD_none, Nat.sub_zero, List.drop_zero, List.length_append, List.length_take, List.length_drop, List.length_cons, List.length_nil]; omega), by first | trivial | rfl | assumption | omega | (simp only [Option.getD_some, Option.getD_none, Nat.sub_zero, List.drop_zero, List.length_append, List.length_take, List.length_drop, List.length_cons, List.length_nil]; omega), rfl⟩, ⟨_, p2 _, rfl⟩, trivial⟩, pick_ok (by omega) (by omega) (onEnd_ret.2 ⟨_, rfl, ?_⟩)⟩
   obtain ⟨m0, m1⟩ := pick_lt (n := IntKind.i64.wrap ((hl.getD i 0).tdiv 5)) (m := 9) (by omega)
   generalize IntKind.i64.wrap ((hl.getD i 0).tdiv 5) % 9 = n40 at m0 m1 ⊢
   rw [w1, wrap64_id (n := n7 + 1 + n40) (by omega) (by omega)]
   have em : ∃ n41 : Int, (Bool.rec (Bool.rec (Int.ofNat s.length) (n7 + 1 + n40) (ilt (n7 + 1 + n40) (Int.ofNat s.length))) (Bool.rec (Int.ofNat s.length) (n7 + 1 + n40) (ilt (Int.ofNat s.length) (n7 + 1 + n40))) false : Int) = n41 ∧ n7 ≤ n41 ∧ n41 ≤ (s.length : Int) := by
    refine ⟨_, rfl, ?_⟩
    show n7 ≤ (Bool.rec (Int.ofNat s.length) (n7 + 1 + n40) (ilt (n7 + 1 + n40) (Int.ofNat s.length)) : Int) ∧ (Bool.rec (Int.ofNat s.length) (n7 + 1 + n40) (ilt (n7 + 1 + n40) (Int.ofNat s.length)) : Int) ≤ _
    rw [ilt_eq]
    by_cases h : n7 + 1 + n40 < (s.length : Int)
    ·rw [show decide (n7 + 1 + n40 < Int.ofNat s.length) = true from decide_eq_true h]; show n7 ≤ n7 + 1 + n40 ∧ n7 + 1 + n40 ≤ _; omega
    ·rw [show decide (n7 + 1 + n40 < Int.ofNat s.length) = false from decide_eq_false h]; show n7 ≤ (s.length : Int) ∧ (s.length : Int) ≤ _; omega
   obtain ⟨n41, e41, q2, q1⟩ := em
   have q0 : 0 ≤ n41 := by omega
   refine ⟨n41, congrArg some e41, q0, by first | trivial | rfl | assumption | omega | (simp only [Option.getD_some, Option.getD_none, Nat.sub_zero, List.drop_zero, List.length_append, List.length_take, List.length_drop, List.length_cons, List.length_nil]; omega), by first | trivial | rfl | assumption | omega | (simp only [Option.getD_some, Option.getD_none, Nat.sub_zero, List.drop_zero, List.length_append, List.length_take, List.length_drop, List.length_cons, List.length_nil]; omega), by first | trivial | rfl | assumption | omega | (simp only [Option.getD_some, Option.getD_none, Nat.sub_zero, List.drop_zero, List.length_append, List.length_take, List.length_drop, List.length_cons, List.length_nil]; omega), ⟨⟨n0, by first | trivial | rfl | assumption | omega | (simp only [Option.getD_some, Option.getD_none, Nat.sub_zero, List.drop_zero, List.length_append, List.length_take, List.length_drop, List.length_cons, List.length_nil]; omega), by first | trivial | rfl | assumption | omega | (simp only [Option.getD_some, Option.getD_none, Nat.sub_zero, List.drop_zero, List.length_append, List.length_take, List.length_drop, List.length_cons, List.length_nil]; omega), rfl⟩, ⟨q0, by first | trivial | rfl | assumption | omega | (simp only [Option.getD_some, Option.getD_none, Nat.sub_zero, List.drop_zero, List.length_append, List.length_take, List.length_drop, List.length_cons, List.length_nil]; omega), by first | trivial | rfl | assumption | omega | (simp only [Option.getD_some, Option.getD_none, Nat.sub_zero, List.drop_zero, List.length_append, List.length_take, List.length_drop, List.length_cons, List.length_nil]; omega), rfl⟩, trivial⟩, rfl, go (by omega) (by first | trivial | rfl | assumption | omega | (simp only [Option.getD_some, Option.getD_none, Nat.sub_zero, List.drop_zero, List.length_append, List.length_take, List.length_drop, List.length_cons, List.length_nil]; omega)) ⟨_, k.more (by omega), sub⟩⟩
  ·exact ⟨n0, by first | trivial | rfl | assumption | omega | (simp only [Option.getD_some, Option.getD_none, Nat.sub_zero, List.drop_zero, List.length_append, List.length_take, List.length_drop, List.length_cons, List.length_nil]; omega), by first | trivial | rfl | assumption | omega | (simp only [Option.getD_some, Option.getD_none, Nat.sub_zero, List.drop_zero, List.length_append, List.length_take, List.length_drop, List.length_cons, List.length_nil]; omega), rfl, go (by omega) (by first | trivial | rfl | assumption | omega | (simp only [Option.getD_some, Option.getD_none, Nat.sub_zero, List.drop_zero, List.length_append, List.length_take, List.length_drop, List.length_cons, List.length_nil]; omega)) ⟨_, k, sub⟩⟩
  ·refine ⟨n0, by first | trivial | rfl | assumption | omega | (simp only [Option.getD_some, Option.getD_none, Nat.sub_zero, List.drop_zero, List.length_append, List.length_take, List.length_drop, List.length_cons, List.length_nil]; omega), by first | trivial | rfl | assumption | omega | (simp only [Option.getD_some, Option.getD_none, Nat.sub_zero, List.drop_zero, List.length_append, List.length_take, List.length_drop, List.length_cons, List.length_nil]; omega), rfl, rfl, rfl, rfl, rfl, rfl, rfl, rfl, by omega, _, ix, _, p2 _, by decide, n0, by first | trivial | rfl | assumption | omega | (simp only [Option.getD_some, Option.getD_none, Nat.sub_zero, List.drop_zero, List.length_append, List.length_take, List.length_drop, List.length_cons, List.length_nil]; omega), by first | trivial | rfl | assumption | omega | (simp only [Option.getD_some, Option.getD_none, Nat.sub_zero, List.drop_zero, List.length_append, List.length_take, List.length_drop, List.length_cons, List.length_nil]; omega), ⟨⟨n0, by first | trivial | rfl | assumption | omega | (simp only [Option.getD_some, Option.getD_none, Nat.sub_zero, List.drop_zero, List.length_append, List.length_take, List.length_drop, List.length_cons, List.length_nil]; omega), by first | trivial | rfl | assumption | omega | (simp only [Option.getD_some, Option.getD_none, Nat.sub_zero, List.drop_zero, List.length_append, List.length_take, List.length_drop, List.length_cons, List.length_nil]; omega), rfl⟩, ⟨_, p2 _, rfl⟩, ⟨n0, by first | trivial | rfl | assumption | omega | (simp only [Option.getD_some, Option.getD_none, Nat.sub_zero, List.drop_zero, List.length_append, List.length_take, List.length_drop, List.length_cons, List.length_nil]; omega), by first | trivial | rfl | assumption | omega | (simp only [Option.getD_some, Option.getD_none, Nat.sub_zero, List.drop_zero, List.length_append, List.length_take, List.length_drop, List.length_cons, List.length_nil]; omega), rfl⟩, trivial⟩, pick_ok (by omega) (by omega) (onEnd_ret.2 ⟨_, rfl, ?_⟩)⟩
   obtain ⟨m0, m1⟩ := pick_lt (n := IntKind.i64.wrap ((hl.getD i 0).tdiv 5)) (m := 8) (by omega)
   exact aPart_str [[118, 48], [122], [112], [116, 114, 117, 101], [48], [110, 105, 108], [34, 97, 34], [110, 101, 119, 40, 81, 41]] (B := 20) rfl m0 m1 rfl fun w hw => ⟨by first | trivial | rfl | assumption | omega | (simp only [Option.getD_some, Option.getD_none, Nat.sub_zero, List.drop_zero, List.length_append, List.length_take, List.length_drop, List.length_cons, List.length_nil]; omega), by first | trivial | rfl | assumption | omega | (simp only [Option.getD_some, Option.getD_none, Nat.sub_zero, List.drop_zero, List.length_append, List.length_take, List.length_drop, List.length_cons, List.length_nil]; omega), ⟨⟨n0, by first | trivial | rfl | assumption | omega | (simp only [Option.getD_some, Option.getD_none, Nat.sub_zero, List.drop_zero, List.length_append, List.length_take, List.length_drop, List.length_cons, List.length_nil]; omega), by first | trivial | rfl | assumption | omega | (simp only [Option.getD_some, Option.getD_none, Nat.sub_zero, List.drop_zero, List.length_append, List.length_take, List.length_drop, List.length_cons, List.length_nil]; omega), rfl⟩, ⟨n0, by first | trivial | rfl | assumption | omega | (simp only [Option.getD_some, Option.getD_none, Nat.sub_zero, List.drop_zero, List.length_append, List.length_take, List.length_drop, List.length_cons, List.length_nil]; omega), by first | trivial | rfl | assumption | omega | (simp only [Option.getD_some, Option.getD_none, Nat.sub_zero, List.drop_zero, List.length_append, List.length_take, List.length_drop, List.length_cons, List.length_nil]; omega), rfl⟩, trivial⟩, rfl, go (by omega) (by first | trivial | rfl | assumption | omega | (simp only [Option.getD_some, Option.getD_none, Nat.sub_zero, List.drop_zero, List.length_append, List.length_take, List.length_drop, List.length_cons, List.length_nil]; omega)) ⟨_, k.more (by omega), sub⟩⟩
 ·rintro id ⟨s, i⟩ H1 nx1 ⟨rfl, hi, hx, hs, Γ1, k, sub⟩
  dsimp only at hi hs
  rw [ABent_eq]
  unfold ABent
  exact hK s _ _ _ hx k sub (by omega)
end
end
end Go.Vs
end
section
namespace Go.Vs
open Go.Proofs Ps
variable [GTab] {Z : Nat → Prop}
noncomputable section
section
variable {raw how : AVal} {rl hl : List Int} {Γ : GH} {H : Heap} {nx : Nat} {K : EndP}
def PR (Γ : GH) (r : Except Flt Tree) (k : Int) (s : List UInt8) (n l c : Int) (w : AVal) (a b e : Int) : Prop := match r with
 | .ok t => a = 0 ∧ b = 0 ∧ e = 0 ∧ ∃ ts, t = .node k s n l c ts ∧ KidsV (fun _ => False) Γ w ts
 | .error f => a = f.line ∧ b = f.col ∧ e = f.e
theorem PR.sub {Γ' : GH} {r : Except Flt Tree} {k n l c a b e : Int} {s : List UInt8} {w : AVal} (h : PR Γ r k s n l c w a b e) (hs : ∀ b cs, Γ b = some cs → Γ' b = some cs) : PR Γ' r k s n l c w a b e := by
 cases r with
 | error f => exact h
 | ok t =>
  obtain ⟨h1, h2, h3, ts, h4, h5⟩ := h
  exact ⟨h1, h2, h3, ts, h4, h5.sub hs⟩
theorem parse_okU {s : List UInt8} {n : Nat} {r : Except Flt Tree} (hrun : Ps.parse s n = some r) (hk : HZ Z Γ H nx)
  (hK : ∀ k s' n l c w a b e Γ' H' nx', nx ≤ nx' → HZ Z Γ' H' nx' → (∀ b cs, Γ b = some cs → Γ' b = some cs) → cellv w = true → PR Γ' r k s' n l c w a b e → K (.ret (.tuple [.agg [iv k, .str s', iv n, iv l, iv c, w], .agg [iv a, iv b], iv e])) H' nx') : TriP PG f_p_Parse [.str s] H nx K := by
 refine parse_ok hrun hk ?_
 cases r with
 | error f => exact fun Γ' H' nx' h1 h2 h3 => hK _ _ _ _ _ _ _ _ _ _ _ _ h1 h2 h3 rfl ⟨rfl, rfl, rfl⟩
 | ok t =>
  intro v Γ' H' nx' h1 h2 h3 h4
  obtain ⟨c, rfl, hn⟩ := h4
  cases hn with
  | @mk _ _ _ _ _ w ts cs hs hki =>
   have hw : KidsV (fun _ => False) Γ' w ts := ⟨cs, hs, hki⟩
   exact hK _ _ _ _ _ _ _ _ _ _ _ _ h1 h2 h3 hw.cell ⟨rfl, rfl, rfl, ts, rfl, hw⟩
theorem lay2 {i : Nat} (hk : HZ Z Γ H i) {k n l c a b : Int} {s : List UInt8} {w : AVal} (hw : cellv w = true) {p : Heap → Prop}
  (hK : ∀ Γ' H', HZ Z Γ' H' (i + 1 + 1) → Γ' i = some [iv k, .str s, iv n, iv l, iv c, w] → Γ' (i + 1) = some [iv a, iv b] → (∀ b cs, Γ b = some cs → Γ' b = some cs) → p H') :
  ∃ H13, H13 = newB i [iv 0, AVal.str [], iv 0, iv 0, iv 0, AVal.nilSlice] H ∧ ∃ H14, H14 = newB (i + 1) [iv 0, iv 0] H13 ∧ ∃ H15, stC H14 (.ptr i 0) [iv k, .str s, iv n, iv l, iv c, w] = some H15 ∧ ∃ H16, stC H15 (.ptr (i + 1) 0) [iv a, iv b] = some H16 ∧ p H16 := by
 have hf1 := hk.fresh (Nat.le_refl i)
 refine scrN hk (nx' := i + 1) (Nat.le_refl _) (by omega) fun H2 k2 => ?_
 have hf2 := k2.fresh (Nat.le_refl (i + 1))
 refine scrN k2 (nx' := i + 1 + 1) (Nat.le_refl _) (by omega) fun H3 k3 => ?_
 refine stAll k3 ((gup_ne (by omega)).trans (gup_same _ _ _)) rfl (by simp only [allCell, hw]; rfl) fun H4 k4 => ?_
 refine stAll k4 ((gup_ne (by omega)).trans (gup_same _ _ _)) rfl rfl fun H5 k5 => ?_
 refine hK _ H5 k5 (by rw [gup_ne (by omega), gup_same]) (gup_same _ _ _) fun b cs e => ?_
 have h0 : b ≠ i := neK e hf1
 have h1 : b ≠ i + 1 := neK e (by rwa [gup_ne (by omega)] at hf2)
 rw [gup_ne h1, gup_ne h0, gup_ne h1, gup_ne h0]; exact e
theorem places_ok (R : RawR raw rl) (Hw : ArgN how hl) (hc : cellv how = true) (hf : hl.length ≤ 9223372036854775807) (W : WordsT) (hk : HZ Z Γ H nx) (n : Int)
  (hK : ∀ Γ' H' nx', nx ≤ nx' → HZ Z Γ' H' nx' → (∀ b cs, Γ b = some cs → Γ' b = some cs) → K (.ret (.bool true)) H' nx') : TriP PG f_law4_ParsePlaces [raw, how, iv n] H nx K := by
 refine TriP.of_body mixed ?_
 rw [Flaw4_ParsePlaces_eq]
 unfold Flaw4_ParsePlaces
 refine pick_ok (by omega) (by omega) (onEnd_ret.2 ⟨_, rfl, ?_⟩)
 obtain ⟨m0, m1⟩ := pick_lt (n := n) (m := 9) (by omega)
 obtain ⟨m, hm⟩ : ∃ m : Nat, n % 9 = m := ⟨(n % 9).toNat, by omega⟩
 rw [hm] at m0 m1 ⊢
 refine bent_okM R Hw hc hf W hk fun s Γ1 H1 nx1 g1 k1 sub1 hs => onEnd_ret.2 ⟨_, rfl, ?_⟩
 refine loop_w (P := PG) (X := Nat) (Y := Nat) (fun i => envL .und [(9, iv i), (8, AVal.str (List.replicate i 10)), (7, AVal.str s), (6, AVal.bool false), (2, iv m), (1, how), (0, raw)]) (fun i => envL .und [(9, iv i), (8, AVal.str (List.replicate i 10)), (7, AVal.str s), (6, AVal.bool false), (2, iv m), (1, how), (0, raw)])
  (fun q i H2 nx2 => q = m - i ∧ i ≤ m ∧ H2 = H1 ∧ nx2 = nx1) (fun id i H2 nx2 => id = 0 ∧ i = m ∧ H2 = H1 ∧ nx2 = nx1) m 0
  (EnvLe.of_list (by exact ⟨rfl, rfl, rfl, rfl, rfl, rfl, rfl, trivial⟩)) ⟨rfl, by omega, rfl, rfl⟩ ?_ ?_
 ·rintro q i _ _ ⟨rfl, hi, rfl, rfl⟩
  refine WpP.part (ts := [0, 1, 2, 6, 7, 8, 9]) mixed ?_
  rw [LPlc_eq]
  unfold LPlc
  refine ifB_iff.2 ⟨fun h => ?_, fun h => ?_⟩
  ·have h : (i : Int) < (m : Int) := of_decide_eq_true h
   refine ⟨by simp; omega, rfl, m - (i + 1), i + 1, by omega, ?_, rfl, by omega, rfl, rfl⟩
   rw [wrap64_id (by omega) (by omega), ← List.replicate_succ']
   exact EnvLe.of_list (by exact ⟨rfl, rfl, rfl, rfl, rfl, rfl, rfl, trivial⟩)
  ·have h : ¬ (i : Int) < (m : Int) := of_decide_eq_false h
   exact ⟨rfl, i, EnvLe.of_list (by exact ⟨rfl, rfl, rfl, rfl, rfl, rfl, rfl, trivial⟩), rfl, by omega, rfl, rfl⟩
 rintro id i _ _ ⟨rfl, rfl, rfl, rfl⟩
 rw [APlc_eq]
 unfold APlc
 obtain ⟨f, r, hr, hfu⟩ := parse_fuel s
 obtain ⟨r2, hr2, hrel⟩ : ∃ r2, Ps.parse (List.replicate i 10 ++ s) f = some r2 ∧ (r2 = shE (dn i) (shT (dn i)) r ∨ r2 = .error ⟨1, 1, 6⟩) := by
  by_cases hlen : i + s.length ≤ 16384
  ·exact ⟨_, by rw [parse_up i s hlen f, hr]; rfl, .inl rfl⟩
  ·exact ⟨_, parse_long (by simp; omega) f, .inr rfl⟩
 refine parse_okU hr k1 fun k s5 n6 l c w a b e Γ2 H2 i2 g2 k2 sub2 hw P1 => onEnd_ret.2 ⟨_, _, _, _, _, _, _, _, _, rfl, ?_⟩
 refine lay2 k2 hw fun Γ3 H3 k3 c1 p1 sub3 => ⟨by simp; omega, ?_⟩
 refine parse_okU hr2 k3 fun k' s5' n6' l' c' w' a' b' e' Γ4 H4 i4 g4 k4 sub4 hw' P2 => onEnd_ret.2 ⟨_, _, _, _, _, _, _, _, _, rfl, ?_⟩
 refine lay2 k4 hw' fun Γ5 H5 k5 c2 p2 sub5 => ?_
 have skip : ∀ {b : Bool} {p q : Prop}, b = false → q → ifB b p q := fun h hq => ifB_f h hq
 have yes : ∀ {b : Bool} {p q : Prop}, b = true → p → ifB b p q := fun h hp => ifB_t h hp
 have s0 : ∀ b cs, Γ b = some cs → Γ5 b = some cs := fun b cs e => sub5 _ _ (sub4 _ _ (sub3 _ _ (sub2 _ _ (sub1 _ _ e))))
 have P1 := P1.sub fun b cs e => sub5 _ _ (sub4 _ _ (sub3 _ _ e))
 have P2 := P2.sub sub5
 have c1 := sub5 _ _ (sub4 _ _ c1)
 have p1 := sub5 _ _ (sub4 _ _ p1)
 refine known_ok k5 fun Γ6 H6 i6 g6 k6 sub6 => onEnd_ret.2 ⟨_, rfl, skip rfl (ifB_iff.2 ⟨fun hne => ?_, fun heq => ?_⟩)⟩
 ·have hne : ¬ e = e' := by simpa using hne
  refine known_ok k6 fun Γ7 H7 i7 g7 k7 sub7 => onEnd_ret.2 ⟨_, rfl, yes rfl (ifB_iff.2 ⟨fun _ => hK _ _ _ (by omega) k7 fun b cs e => sub7 _ _ (sub6 _ _ (s0 _ _ e)), fun h6 => ?_⟩)⟩
  have e6 : e' = 6 := by
   rcases hrel with rfl | rfl
   ·refine absurd ?_ hne
    cases r with
    | error f => obtain ⟨_, _, x1⟩ := P1; obtain ⟨_, _, x2⟩ := P2; rw [x1, x2]; rfl
    | ok t => obtain ⟨_, _, x1, _⟩ := P1; obtain ⟨_, _, x2, _⟩ := P2; rw [x1, x2]
   ·exact P2.2.2
  rw [show decide (e' = 6) = true from decide_eq_true e6]
  exact hK _ _ _ (by omega) k7 fun b cs e => sub7 _ _ (sub6 _ _ (s0 _ _ e))
 ·have heq : e = e' := by simpa using heq
  have done : K (.ret (.bool true)) H6 i6 := hK _ _ _ (by omega) k6 fun b cs e => sub6 _ _ (s0 _ _ e)
  refine ifB_iff.2 ⟨fun hn0 => ?_, fun h0 => ?_⟩
  ·have hn0 : ¬ e = 0 := by simpa using hn0
   have q : ∀ off, ld1 H6 (.ptr (i4 + 1) off) = _ := fun off => k6.ld1 (sub6 _ _ p2) off
   have q' : ∀ off, ld1 H6 (.ptr (i2 + 1) off) = _ := fun off => k6.ld1 (sub6 _ _ p1) off
   have key : (a' = IntKind.i64.wrap (a + i) ∧ b' = b) ∨ e = 6 := by
    rcases hrel with rfl | rfl
    ·left
     cases r with
     | error f => obtain ⟨x1, x2, _⟩ := P1; obtain ⟨y1, y2, _⟩ := P2; rw [x1, x2, y1, y2]; exact ⟨rfl, rfl⟩
     | ok t => exact absurd P1.2.2.1 hn0
    ·right; rw [heq]; exact P2.2.2
   have other : (e = 6 → False) → a' = IntKind.i64.wrap (a + i) ∧ b' = b := fun h => key.elim id fun x => (h x).elim
   refine ⟨_, rfl, _, q 0, _, rfl, _, q' 0, ifB_iff.2 ⟨fun ha => ⟨_, rfl, _, q 1, _, rfl, _, q' 1, ifB_iff.2 ⟨fun _ => done, fun hb => ?_⟩⟩, fun ha => ?_⟩⟩
   ·have hb : ¬ b' = b := of_decide_eq_false hb
    have : e = 6 := Classical.byContradiction fun h => hb (other h).2
    rw [show decide (e = 6) = true from decide_eq_true this]; exact done
   ·have ha : ¬ a' = IntKind.i64.wrap (a + i) := of_decide_eq_false ha
    have : e = 6 := Classical.byContradiction fun h => ha (other h).1
    rw [show decide (e = 6) = true from decide_eq_true this]; exact done
  ·have h0 : e = 0 := by simpa using h0
   obtain ⟨t, rfl⟩ : ∃ t, r = .ok t := by
    cases r with
    | ok t => exact ⟨t, rfl⟩
    | error g => exact absurd (P1.2.2.symm.trans h0) (parse_er _ hr)
   have e2 : r2 = .ok (shT (dn i) t) := by
    rcases hrel with rfl | rfl
    ·rfl
    ·have h6 : e' = 6 := P2.2.2
     rw [← heq, h0] at h6; cases h6
   subst e2
   have hfew : few 300000 t := few_le (by omega) (parse_few hr)
   obtain ⟨_, _, _, ts, x1, x2⟩ := P1
   obtain ⟨_, _, _, us, y1, y2⟩ := P2
   have d1 : ldN H6 6 (.ptr i2 0) = some (.agg [iv k, .str s5, iv n6, iv l, iv c, w]) := ldAll k6 (sub6 _ _ c1) rfl
   have d2 : ldN H6 6 (.ptr i4 0) = some (.agg [iv k', .str s5', iv n6', iv l', iv c', w']) := ldAll k6 (sub6 _ _ c2) rfl
   refine ⟨_, _, _, _, _, _, d1, _, _, _, _, _, _, d2, ?_⟩
   refine same_all (g := dn i) _ t (Nat.lt_succ_self _) hfew x1 y1 (x2.sub sub6) (y2.sub sub6) k6 fun Γ7 H7 i7 g7 k7 sub7 => onEnd_ret.2 ⟨_, rfl, yes rfl ?_⟩
   have d1 : ldN H7 6 (.ptr i2 0) = some (.agg [iv k, .str s5, iv n6, iv l, iv c, w]) := ldAll k7 (sub7 _ _ (sub6 _ _ c1)) rfl
   have d2 : ldN H7 6 (.ptr i4 0) = some (.agg [iv k', .str s5', iv n6', iv l', iv c', w']) := ldAll k7 (sub7 _ _ (sub6 _ _ c2)) rfl
   refine ⟨_, _, _, _, _, _, d1, _, _, _, _, _, _, d2, ?_⟩
   refine down_all (m := i) _ t (Nat.lt_succ_self _) hfew x1 y1 (x2.sub fun b cs e => sub7 _ _ (sub6 _ _ e)) (y2.sub fun b cs e => sub7 _ _ (sub6 _ _ e)) k7 fun Γ8 H8 i8 g8 k8 sub8 => onEnd_ret.2 ⟨_, rfl, ?_⟩
   exact hK _ _ _ (by omega) k8 fun b cs e => sub8 _ _ (sub7 _ _ (sub6 _ _ (s0 _ _ e)))
end
end
end Go.Vs
end
