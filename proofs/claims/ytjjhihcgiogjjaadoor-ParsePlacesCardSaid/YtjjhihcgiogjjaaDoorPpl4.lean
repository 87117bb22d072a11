/-
  Own work. Texts of a proof, laid together; no condition.
-/
import Derived.Test.YtjjhihcgiogjjaaDoorPpl3
import Derived.Test.YtjjhihcgiogjjaaDoorPpl2
set_option linter.unusedSectionVars false
set_option linter.unusedVariables false
set_option linter.unusedSimpArgs false
set_option maxRecDepth 1000000
section
namespace Go.Vs
open Go.Proofs
variable [GTab] {Z : Nat → Prop}
noncomputable section
theorem HZ.drop {Γ : GH} {H : Heap} {nx i : Nat} {x : Option (List AVal)} (h : HZ Z (gup i x Γ) H nx) (hi : Γ i = none) : HZ Z Γ H nx :=
 h.sub fun b cs e => by rw [gup_ne fun y => by rw [y, hi] at e; cases e]; exact e
theorem ret5 {Γ : GH} {H : Heap} {nx i : Nat} {cs : List AVal} {K : EndP} {n x y z : Int} {s : List UInt8} (hk : HZ Z Γ H nx) (hi : Γ i = some cs) (hl : cs.length = 5)
  (hK : ∀ H', HZ Z (gup i (some [iv n, .str s, iv x, iv y, iv z]) Γ) H' nx → K (.ret (.agg [iv n, .str s, iv x, iv y, iv z])) H' nx) :
  ∃ H1, stC H (.ptr i 0) [iv n, .str s, iv x, iv y, iv z] = some H1 ∧ ∃ (n1 : Int) (s1 : List UInt8) (x1 y1 z1 : Int), ldN H1 5 (.ptr i 0) = some (.agg [iv n1, .str s1, iv x1, iv y1, iv z1]) ∧ K (.ret (.agg [iv n1, .str s1, iv x1, iv y1, iv z1])) H1 nx :=
 stAll hk hi (by simp [hl]) rfl fun H1 h => ⟨n, s, x, y, z, ldAll h (gup_same _ _ _) rfl, hK H1 h⟩
theorem ret6 {Γ : GH} {H : Heap} {nx i : Nat} {cs : List AVal} {K : EndP} {n x y z : Int} {s : List UInt8} {v : AVal} (hk : HZ Z Γ H nx) (hi : Γ i = some cs) (hl : cs.length = 6) (hv : cellv v = true)
  (hK : ∀ H', HZ Z (gup i (some [iv n, .str s, iv x, iv y, iv z, v]) Γ) H' nx → K (.ret (.agg [iv n, .str s, iv x, iv y, iv z, v])) H' nx) :
  ∃ H1, stC H (.ptr i 0) [iv n, .str s, iv x, iv y, iv z, v] = some H1 ∧ ∃ (n1 : Int) (s1 : List UInt8) (x1 y1 z1 : Int) (v1 : AVal), ldN H1 6 (.ptr i 0) = some (.agg [iv n1, .str s1, iv x1, iv y1, iv z1, v1]) ∧ K (.ret (.agg [iv n1, .str s1, iv x1, iv y1, iv z1, v1])) H1 nx :=
 stAll hk hi (by simp [hl]) (by simp only [allCell, hv]; rfl) fun H1 h => ⟨n, s, x, y, z, v, ldAll h (gup_same _ _ _) rfl, hK H1 h⟩
section
variable {Γ : GH} {H : Heap} {nx a d : Nat} {C : RC} {K : EndP}
theorem HZ.fresh {Γ : GH} {H : Heap} {nx i : Nat} (h : HZ Z Γ H nx) (hi : nx ≤ i) : Γ i = none := h.non hi
theorem now_ok (hk : HZ Z Γ H nx) (hr : Rd Γ C a d) (hK : ∀ H' nx', nx ≤ nx' → HZ Z Γ H' nx' → K (.ret (tokV (Ps.tk C.l a))) H' nx') : TriP PG f_rd_now [.ptr C.r 0] H nx K := by
 refine TriP.of_body mixed ?_
 rw [Frd_now_eq]
 unfold Frd_now
 have hf := hk.fresh (Nat.le_refl nx)
 refine scrN hk (nx' := nx + 1 + 11) (Nat.le_refl _) (by omega) fun H0 h0 => ?_
 obtain ⟨full, e1, e2, e3, e4, e5⟩ := (hr.new (cs := some [iv 0, AVal.str [], iv 0, iv 0, iv 0]) hf).tok h0
 refine ⟨rfl, _, rfl, _, e1, rfl, _, rfl, _, e2, by omega, _, by rw [Int.toNat_natCast]; exact e4, _, _, _, _, _, e5, ⟨⟨_, e1, rfl⟩, ⟨_, e2, rfl⟩, ⟨_, _, _, _, _, e5, rfl⟩, trivial⟩, ?_⟩
 obtain ⟨H1, g1, g2⟩ := h0.st (gup_same nx _ Γ) (off := 0) (vs := tokC (Ps.tk C.l a)) (by simp [tokC]) rfl
 rw [gup_gup] at g2
 refine ⟨H1, g1, trivial, _, _, _, _, _, ldAll g2 (gup_same _ _ _) rfl, hK _ _ (by omega) (g2.drop hf)⟩
theorem place_ok {t : Tok} (hk : HZ Z Γ H nx) (hK : ∀ H' nx', nx ≤ nx' → HZ Z Γ H' nx' → K (.ret (.agg [iv t.line, iv t.col])) H' nx') : TriP PG f_p_place [tokV t] H nx K := by
 refine TriP.of_body mixed ?_
 rw [Fp_place_eq]
 unfold Fp_place
 have hf := hk.fresh (Nat.le_refl nx)
 refine ⟨_, rfl, ?_⟩
 have h0 : HZ Z (gup nx (some [iv t.kind, .str t.text, iv t.n, iv t.line, iv t.col]) Γ) (newBN nx [iv t.kind, AVal.str t.text, iv t.n, iv t.line, iv t.col].length [iv t.kind, AVal.str t.text, iv t.n, iv t.line, iv t.col] H) (nx + 1) := hk.new (Nat.le_refl _) (by omega) _
 have hf1 := h0.fresh (Nat.le_refl (nx + 1))
 refine scrN h0 (nx' := nx + 1 + 1) (Nat.le_refl _) (by omega) fun H1 h1 => ?_
 have e : gup (nx + 1) (some [iv 0, iv 0]) (gup nx (some [iv t.kind, AVal.str t.text, iv t.n, iv t.line, iv t.col]) Γ) nx = some [iv t.kind, AVal.str t.text, iv t.n, iv t.line, iv t.col] := by rw [gup_ne (by omega), gup_same]
 refine ⟨_, rfl, t.line, by rw [h1.ld1 e]; rfl, _, rfl, t.col, by rw [h1.ld1 e]; rfl, rfl, rfl, ?_⟩
 refine stAll h1 (gup_same _ _ _) rfl rfl fun H2 h2 => ⟨_, _, ldAll h2 (gup_same _ _ _) rfl, hK _ _ (by omega) ?_⟩
 rw [gup_gup] at h2
 exact (h2.drop hf1).drop hf
theorem fault_ok {e : Int} (hk : HZ Z Γ H nx) (hr : Rd Γ C a d) (hK : ∀ H' nx', nx ≤ nx' → HZ Z Γ H' nx' → K (.pan [(fltV (Ps.flt C.l a e), false)]) H' nx') : TriP PG f_rd_fault [.ptr C.r 0, iv e] H nx K := by
 refine TriP.of_body mixed ?_
 rw [Frd_fault_eq]
 unfold Frd_fault
 refine now_ok hk hr fun H1 nx1 h1 hk1 => onEnd_ret.2 ⟨_, _, _, _, _, rfl, place_ok (t := Ps.tk C.l a) hk1 fun H2 nx2 h2 hk2 => onEnd_ret.2 ⟨_, _, rfl, rfl, _, _, rfl, hK _ _ (by omega) hk2⟩⟩
theorem is_ok {s : List UInt8} (hk : HZ Z Γ H nx) (hr : Rd Γ C a d) (hK : ∀ H' nx', nx ≤ nx' → HZ Z Γ H' nx' → K (.ret (.bool (Ps.is C.l a s))) H' nx') : TriP PG f_rd_is [.ptr C.r 0, .str s] H nx K := by
 refine TriP.of_body mixed ?_
 rw [Frd_is_eq]
 unfold Frd_is
 refine now_ok hk hr fun H1 nx1 h1 hk1 => onEnd_ret.2 ⟨_, _, _, _, _, rfl, ?_⟩
 have hf := hk1.fresh (Nat.le_refl nx1)
 refine scr hk1 (nx' := nx1 + 1) (Nat.le_refl _) (by omega) rfl rfl fun H2 h2 => ?_
 have e0 := h2.ld1 (gup_same _ _ _) 0
 have e1 := h2.ld1 (gup_same _ _ _) 1
 have hK' := hK H2 (nx1 + 1) (by omega) (h2.drop hf)
 unfold Ps.is at hK'
 simp only [List.getElem?_cons_zero, List.getElem?_cons_succ] at e0 e1
 refine ⟨_, rfl, _, e0, ifB_iff.2 ⟨fun h => ?_, fun h => ⟨_, rfl, _, e0, ifB_iff.2 ⟨fun h' => ?_, fun h' => ⟨_, rfl, _, e0, ifB_iff.2 ⟨fun h'' => ?_, fun h'' => ?_⟩⟩⟩⟩⟩⟩
 all_goals simp only [decide_eq_true_eq, decide_eq_false_iff_not] at h
 all_goals try simp only [decide_eq_true_eq, decide_eq_false_iff_not] at h'
 all_goals try simp only [decide_eq_true_eq, decide_eq_false_iff_not] at h''
 ·exact ⟨_, rfl, _, e1, by simpa [h] using hK'⟩
 ·exact ⟨_, rfl, _, e1, by simpa [h'] using hK'⟩
 ·exact ⟨_, rfl, _, e1, by simpa [h''] using hK'⟩
 ·have : (((Ps.tk C.l a).kind == 3 || (Ps.tk C.l a).kind == 6 || (Ps.tk C.l a).kind == 1) && (Ps.tk C.l a).text == s) = false := by simp [h, h', h'']
  rw [this] at hK'; exact hK'
theorem Toks.next (W : Toks C.l) (h : (Ps.tk C.l a).kind ≠ 0) (hl : a < C.l.length) : a + 1 < C.l.length := by
 by_cases h1 : a + 1 < C.l.length
 ·exact h1
 ·have := W.last
  rw [show C.l.length - 1 = a by omega] at this
  exact absurd this h
theorem is_kind {s : List UInt8} (h : Ps.is C.l a s = true) : (Ps.tk C.l a).kind ≠ 0 := fun e => by simp [Ps.is, e] at h
theorem has_ok {s : List UInt8} (W : Toks C.l) (hk : HZ Z Γ H nx) (hr : Rd Γ C a d) (hno : Ps.is C.l a s = false → ∀ H' nx', nx ≤ nx' → HZ Z Γ H' nx' → K (.ret (.bool false)) H' nx')
  (hyes : Ps.is C.l a s = true → ∀ Γ' H' nx', nx ≤ nx' → HZ Z Γ' H' nx' → KeepX C.r nx Γ Γ' → Rd Γ' C (a + 1) d → K (.ret (.bool true)) H' nx') : TriP PG f_rd_has [.ptr C.r 0, .str s] H nx K := by
 refine TriP.of_body mixed ?_
 rw [Frd_has_eq]
 unfold Frd_has
 refine is_ok hk hr fun H1 nx1 h1 hk1 => onEnd_ret.2 ⟨_, rfl, ifB_iff.2 ⟨fun h => ?_, fun h => ?_⟩⟩
 ·exact hno (by simpa using h) _ _ h1 hk1
 ·have h : Ps.is C.l a s = true := by simpa using h
  have hn := W.next (is_kind h) hr.lt
  have hW := W.few
  obtain ⟨full, e, hr'⟩ := hr.set (a' := a + 1) (d' := d) hn hr.deep
  refine ⟨rfl, _, rfl, (a : Int), by rw [hk1.ld1 e]; rfl, rfl, _, rfl, rfl, ?_⟩
  rw [wrap64_id (by omega) (by omega)]
  refine stOne hk1 e (j := 1) (by simp) rfl fun H2 h2 => hyes h _ _ _ h1 h2 (.upd e) ?_
  simpa using hr'
theorem need_ok' {s : List UInt8} (W : Toks C.l) (hk : HZ Z Γ H nx) (hr : Rd Γ C a d) (hno : Ps.is C.l a s = false → ∀ H' nx', nx ≤ nx' → HZ Z Γ H' nx' → K (.pan [(fltV (Ps.flt C.l a 13), false)]) H' nx')
  (hyes : Ps.is C.l a s = true → ∀ Γ' H' nx', nx ≤ nx' → HZ Z Γ' H' nx' → KeepX C.r nx Γ Γ' → Rd Γ' C (a + 1) d → K (.ret (tokV (Ps.tk C.l a))) H' nx') : TriP PG f_rd_need [.ptr C.r 0, .str s] H nx K := by
 refine TriP.of_body mixed ?_
 rw [Frd_need_eq]
 unfold Frd_need
 have hf := hk.fresh (Nat.le_refl nx)
 refine scrN hk (nx' := nx + 1) (Nat.le_refl _) (by omega) fun H0 h0 => ?_
 have hr0 := hr.new (cs := some [iv 0, AVal.str [], iv 0, iv 0, iv 0]) hf
 refine now_ok h0 hr0 fun H1 nx1 h1 hk1 => onEnd_ret.2 ⟨_, _, _, _, _, rfl, ?_⟩
 have hf1 := hk1.fresh (Nat.le_refl nx1)
 refine scr hk1 (nx' := nx1 + 1) (Nat.le_refl _) (by omega) rfl rfl fun H2 h2 => ?_
 refine has_ok W h2 (hr0.new hf1) (fun h H3 nx3 h3 hk3 => onEnd_ret.2 ⟨_, rfl, ?_⟩) fun h Γ' H3 nx3 h3 hk3 kp hr3 => onEnd_ret.2 ⟨_, rfl, ?_⟩
 ·show ifB (!false) _ _
  refine fault_ok hk3 (hr0.new hf1) fun H4 nx4 h4 hk4 => onEnd_pan.2 (hno h _ _ (by omega) ((hk4.drop hf1).drop hf))
 ·show ifB (!true) _ _
  have e1 : Γ' nx1 = some (tokC (Ps.tk C.l a)) := kp.1 _ _ (hr0.r_ne hf1) (gup_same _ _ _)
  have e2 : Γ' nx = some [iv 0, AVal.str [], iv 0, iv 0, iv 0] := kp.1 _ _ (hr.r_ne hf) (by rw [gup_ne (by omega), gup_same])
  refine ⟨_, _, _, _, _, ldAll hk3 e1 rfl, ret5 hk3 e2 rfl fun H4 h4 => ?_⟩
  exact hyes h _ _ _ (by omega) h4 ((((KeepX.new (nx := nx) hf).trans (KeepX.new (nx := nx1) hf1)).trans kp).upd' hf) (hr3.upd (hr.r_ne hf) (hr.tb_ne hf))
theorem next_ok (W : Toks C.l) (hk : HZ Z Γ H nx) (hr : Rd Γ C a d) (hkd : (Ps.tk C.l a).kind ≠ 0)
  (hyes : ∀ Γ' H' nx', nx ≤ nx' → HZ Z Γ' H' nx' → KeepX C.r nx Γ Γ' → Rd Γ' C (a + 1) d → K (.ret (tokV (Ps.tk C.l a))) H' nx') : TriP PG f_rd_next [.ptr C.r 0] H nx K := by
 refine TriP.of_body mixed ?_
 rw [Frd_next_eq]
 unfold Frd_next
 have hf := hk.fresh (Nat.le_refl nx)
 refine scrN hk (nx' := nx + 1) (Nat.le_refl _) (by omega) fun H0 h0 => ?_
 have hr0 := hr.new (cs := some [iv 0, AVal.str [], iv 0, iv 0, iv 0]) hf
 refine now_ok h0 hr0 fun H1 nx1 h1 hk1 => onEnd_ret.2 ⟨_, _, _, _, _, rfl, ?_⟩
 have hf1 := hk1.fresh (Nat.le_refl nx1)
 refine scr hk1 (nx' := nx1 + 1) (Nat.le_refl _) (by omega) rfl rfl fun H2 h2 => ?_
 have hr1 := hr0.new (cs := some [iv (Ps.tk C.l a).kind, .str (Ps.tk C.l a).text, iv (Ps.tk C.l a).n, iv (Ps.tk C.l a).line, iv (Ps.tk C.l a).col]) hf1
 have hn := W.next hkd hr.lt
 have hW := W.few
 obtain ⟨full, e, hr'⟩ := hr1.set (a' := a + 1) (d' := d) hn hr.deep
 refine ⟨_, rfl, _, h2.ld1 (gup_same _ _ _) 0, ifB_iff.2 ⟨fun _ => ⟨rfl, _, rfl, (a : Int), by rw [h2.ld1 e]; rfl, rfl, _, rfl, rfl, ?_⟩, fun h => by simp [hkd] at h⟩⟩
 rw [wrap64_id (by omega) (by omega)]
 refine stOne h2 e (j := 1) (by simp) rfl fun H3 h3 => ?_
 have g1 : nx1 ≠ C.r := hr0.r_ne hf1
 have g0 : nx ≠ C.r := hr.r_ne hf
 refine ⟨_, _, _, _, _, ldAll h3 (by rw [gup_ne g1, gup_same]) rfl, ?_⟩
 refine ret5 h3 (cs := [iv 0, AVal.str [], iv 0, iv 0, iv 0]) (by rw [gup_ne g0, gup_ne (by omega), gup_same]) rfl fun H4 h4 => ?_
 exact hyes _ _ _ (by omega) h4 ((((KeepX.new (nx := nx) hf).trans (KeepX.new (nx := nx1) hf1)).trans (KeepX.upd (nx := nx1) e)).upd' hf) (Rd.upd (by simpa using hr') g0 (hr.tb_ne hf))
theorem name_ok' (W : Toks C.l) (hk : HZ Z Γ H nx) (hr : Rd Γ C a d) (hno : (Ps.tk C.l a).kind ≠ 2 → ∀ H' nx', nx ≤ nx' → HZ Z Γ H' nx' → K (.pan [(fltV (Ps.flt C.l a 13), false)]) H' nx')
  (hyes : (Ps.tk C.l a).kind = 2 → ∀ Γ' H' nx', nx ≤ nx' → HZ Z Γ' H' nx' → KeepX C.r nx Γ Γ' → Rd Γ' C (a + 1) d → K (.ret (tokV (Ps.tk C.l a))) H' nx') : TriP PG f_rd_name [.ptr C.r 0] H nx K := by
 refine TriP.of_body mixed ?_
 rw [Frd_name_eq]
 unfold Frd_name
 have hf := hk.fresh (Nat.le_refl nx)
 refine scrN hk (nx' := nx + 1) (Nat.le_refl _) (by omega) fun H0 h0 => ?_
 have hr0 := hr.new (cs := some [iv 0, AVal.str [], iv 0, iv 0, iv 0]) hf
 refine now_ok h0 hr0 fun H1 nx1 h1 hk1 => onEnd_ret.2 ⟨_, _, _, _, _, rfl, ifB_iff.2 ⟨fun h => ?_, fun h => ?_⟩⟩
 ·refine fault_ok hk1 hr0 fun H2 nx2 h2 hk2 => onEnd_pan.2 (hno (by simpa using h) _ _ (by omega) (hk2.drop hf))
 ·have h : (Ps.tk C.l a).kind = 2 := by simpa using h
  refine next_ok W hk1 hr0 (by omega) fun Γ' H2 nx2 h2 hk2 kp hr2 => onEnd_ret.2 ⟨_, _, _, _, _, rfl, ?_⟩
  refine ret5 hk2 (kp.1 _ _ (hr.r_ne hf) (gup_same _ _ _)) rfl fun H3 h3 => ?_
  exact hyes h _ _ _ (by omega) h3 (((KeepX.new (nx := nx) hf).trans kp).upd' hf) (hr2.upd (hr.r_ne hf) (hr.tb_ne hf))
theorem enter_ok (hk : HZ Z Γ H nx) (hr : Rd Γ C a d) (hd : d ≤ 40) (hno : 40 ≤ d → ∀ Γ' H' nx', nx ≤ nx' → HZ Z Γ' H' nx' → KeepX C.r nx Γ Γ' → Rd Γ' C a (d + 1) → K (.pan [(fltV (Ps.flt C.l a 14), false)]) H' nx')
  (hyes : ¬ 40 ≤ d → ∀ Γ' H' nx', nx ≤ nx' → HZ Z Γ' H' nx' → KeepX C.r nx Γ Γ' → Rd Γ' C a (d + 1) → K (.ret (.tuple [])) H' nx') : TriP PG f_rd_enter [.ptr C.r 0] H nx K := by
 refine TriP.of_body mixed ?_
 rw [Frd_enter_eq]
 unfold Frd_enter
 obtain ⟨full, e, hr'⟩ := hr.set (a' := a) (d' := d + 1) hr.lt (by omega)
 refine ⟨rfl, _, rfl, (d : Int), by rw [hk.ld1 e]; rfl, rfl, _, rfl, rfl, ?_⟩
 rw [wrap64_id (by omega) (by omega)]
 refine stOne hk e (j := 2) (by simp) rfl fun H1 h1 => ⟨rfl, _, rfl, (d : Int) + 1, by rw [h1.ld1 (gup_same _ _ _)]; simp, ifB_iff.2 ⟨fun h => ?_, fun h => ?_⟩⟩
 ·have hd' : 40 ≤ d := by simp at h; omega
  refine fault_ok h1 (a := a) (d := d + 1) (by simpa using hr') fun H2 nx2 h2 hk2 => onEnd_pan.2 (hno hd' _ _ _ h2 hk2 (.upd e) (by simpa using hr'))
 ·have hd' : ¬ 40 ≤ d := by simp at h; omega
  exact hyes hd' _ _ _ (Nat.le_refl _) h1 (.upd e) (by simpa using hr')
theorem node_ok {t : Tok} {k : Int} {s : List UInt8} {v : AVal} (hv : cellv v = true) (hk : HZ Z Γ H nx) (hK : ∀ H' nx', nx ≤ nx' → HZ Z Γ H' nx' → K (.ret (.agg [iv k, .str s, iv 0, iv t.line, iv t.col, v])) H' nx') : TriP PG f_p_node [tokV t, iv k, .str s, v] H nx K := by
 refine TriP.of_body mixed ?_
 rw [Fp_node_eq]
 unfold Fp_node
 have hf := hk.fresh (Nat.le_refl nx)
 refine ⟨_, rfl, ?_⟩
 have h0 : HZ Z (gup nx (some [iv t.kind, .str t.text, iv t.n, iv t.line, iv t.col]) Γ) (newBN nx [iv t.kind, AVal.str t.text, iv t.n, iv t.line, iv t.col].length [iv t.kind, AVal.str t.text, iv t.n, iv t.line, iv t.col] H) (nx + 1) := hk.new (Nat.le_refl _) (by omega) _
 have hf1 := h0.fresh (Nat.le_refl (nx + 1))
 refine scrN h0 (nx' := nx + 1 + 1) (Nat.le_refl _) (by omega) fun H1 h1 => ?_
 have e : gup (nx + 1) (some [iv 0, AVal.str [], iv 0, iv 0, iv 0, AVal.nilSlice]) (gup nx (some [iv t.kind, AVal.str t.text, iv t.n, iv t.line, iv t.col]) Γ) nx = some [iv t.kind, AVal.str t.text, iv t.n, iv t.line, iv t.col] := by rw [gup_ne (by omega), gup_same]
 refine ⟨_, rfl, t.line, by rw [h1.ld1 e]; rfl, _, rfl, t.col, by rw [h1.ld1 e]; rfl, rfl, rfl, rfl, rfl, hv, ?_⟩
 refine stAll h1 (gup_same _ _ _) rfl (by simp only [allCell, hv]; rfl) fun H2 h2 => ⟨_, _, _, _, _, _, ldAll h2 (gup_same _ _ _) rfl, hK _ _ (by omega) ?_⟩
 rw [gup_gup] at h2
 exact (h2.drop hf1).drop hf
theorem none_ok (hk : HZ Z Γ H nx) (hK : ∀ H' nx', nx ≤ nx' → HZ Z Γ H' nx' → K (.ret (.agg [iv 38, .str [], iv 0, iv 0, iv 0, .nilSlice])) H' nx') : TriP PG f_p_none [] H nx K := by
 refine TriP.of_body mixed ?_
 rw [Fp_none_eq (_u := 0)]
 unfold Fp_none
 have hf := hk.fresh (Nat.le_refl nx)
 refine scrN hk (nx' := nx + 1) (Nat.le_refl _) (by omega) fun H0 h0 => ?_
 refine node_ok (t := ⟨0, [], 0, 0, 0⟩) rfl h0 fun H1 nx1 h1 hk1 => onEnd_ret.2 ⟨_, _, _, _, _, _, rfl, ?_⟩
 exact ret6 hk1 (gup_same _ _ _) rfl rfl fun H2 h2 => hK _ _ (by omega) (by rw [gup_gup] at h2; exact h2.drop hf)
end
end
end Go.Vs
end
section
namespace Go.Vs
open Go.Proofs
variable [GTab] {Z : Nat → Prop}
noncomputable section
structure Sst where
 s : List UInt8
 a : Nat
 line : Int
 col : Int
 out : List Tok
 bad : Int
 wl : Int
 wc : Int
def outV (ob : Nat) : List Tok → AVal
 | [] => .nilSlice
 | t :: l => .slice ob 0 (t :: l).length 5 false
def scC (ob : Nat) (σ : Sst) : List AVal := [.str σ.s, iv σ.a, iv σ.line, iv σ.col, outV ob σ.out, iv σ.bad, iv 0, .str [], iv 0, iv σ.wl, iv σ.wc]
def scO (Γ0 : GH) (ob : Nat) : List Tok → GH
 | [] => Γ0
 | t :: l => gup ob (some ((t :: l).flatMap tokC)) Γ0
def scG (Γ0 : GH) (r ob : Nat) (σ : Sst) : GH := gup r (some (scC ob σ)) (scO Γ0 ob σ.out)
structure ScI (Γ0 : GH) (r ob : Nat) (σ : Sst) : Prop where
 r0 : Γ0 r = none
 o0 : Γ0 ob = none
 ne : ob ≠ r
 le : σ.a ≤ σ.s.length
 len : σ.s.length ≤ 16384
 few : σ.out.length ≤ 4000
 ln : 0 ≤ σ.line ∧ σ.line ≤ σ.a + 1
 cl : 0 ≤ σ.col ∧ σ.col ≤ σ.a + 1
theorem outV_snoc {ob : Nat} {l : List Tok} {t : Tok} : outV ob (l ++ [t]) = .slice ob 0 (l.length + 1) 5 false := by
 cases l with
 | nil => rfl
 | cons x l => simp [outV]
theorem scO_snoc {Γ0 : GH} {ob : Nat} {l : List Tok} {t : Tok} : scO Γ0 ob (l ++ [t]) = gup ob (some ((l ++ [t]).flatMap tokC)) Γ0 := by
 cases l <;> rfl
theorem outV_len {ob : Nat} {l : List Tok} : lenS (outV ob l) = some l.length := by cases l <;> rfl
section
variable {Γ0 : GH} {r ob nx : Nat} {σ σ' : Sst} {H : Heap} {K : EndP}
theorem neK {Γ : GH} {b i : Nat} {cs : List AVal} (h1 : Γ b = some cs) (h2 : Γ i = none) : b ≠ i := fun x => by rw [x, h2] at h1; cases h1
theorem scG_sub (I : ScI Γ0 r ob σ) (b : Nat) (cs : List AVal) (e : Γ0 b = some cs) : scG Γ0 r ob σ b = some cs := by
 unfold scG
 rw [gup_ne fun x => by rw [x, I.r0] at e; cases e]
 cases σ.out with
 | nil => exact e
 | cons t l => exact (gup_ne fun x => by rw [x, I.o0] at e; cases e).trans e
theorem scG_r : scG Γ0 r ob σ r = some (scC ob σ) := gup_same _ _ _
theorem scG_o (I : ScI Γ0 r ob σ) (h : σ.out ≠ []) : scG Γ0 r ob σ ob = some (σ.out.flatMap tokC) := by
 unfold scG
 rw [gup_ne I.ne]
 cases ho : σ.out with
 | nil => exact absurd ho h
 | cons t l => exact gup_same _ _ _
theorem scG_set (h : σ'.out = σ.out) : gup r (some (scC ob σ')) (scG Γ0 r ob σ) = scG Γ0 r ob σ' := by
 unfold scG; rw [gup_gup, h]
theorem scSt (σ' : Sst) (hk : HZ Z (scG Γ0 r ob σ) H nx) {j : Nat} {v : AVal} (hv : cellv v = true) (hj : j < 11) (e : (scC ob σ).set j v = scC ob σ') (eo : σ'.out = σ.out) {k : Heap → Prop} (hK : ∀ H', HZ Z (scG Γ0 r ob σ') H' nx → k H') : ∃ H', stC H (.ptr r j) [v] = some H' ∧ k H' := by
 refine stOne hk scG_r (by simpa [scC] using hj) hv fun H' h => hK H' ?_
 rw [e, scG_set eo] at h; exact h
theorem scSt5 (σ' : Sst) (hk : HZ Z (scG Γ0 r ob σ) H nx) {x y : Int} (e : σ' = { σ with wl := x, wc := y }) {k : Heap → Prop} (hK : ∀ H', HZ Z (scG Γ0 r ob σ') H' nx → k H') : ∃ H', stC H (.ptr r 6) [iv 0, .str [], iv 0, iv x, iv y] = some H' ∧ k H' := by
 obtain ⟨H', e1, e2⟩ := hk.st (b := r) (off := 6) (vs := [iv 0, .str [], iv 0, iv x, iv y]) scG_r (by simp [scC]) rfl
 refine ⟨H', e1, hK H' ?_⟩
 have : splice (scC ob σ) 6 [iv 0, .str [], iv 0, iv x, iv y] = scC ob σ' := by subst e; rfl
 rw [this, scG_set (by subst e; rfl)] at e2; exact e2
theorem next_okS {c : UInt8} (I : ScI Γ0 r ob σ) (hk : HZ Z (scG Γ0 r ob σ) H nx) (hc : σ.s[σ.a]? = some c) (hK : ∀ nx', nx ≤ nx' → HZ Z (scG Γ0 r ob σ) H nx' → K (.ret (bv (Int.ofNat c.toNat))) H nx') : TriP PG f_sc_next [.ptr r 0] H nx K := by
 refine TriP.of_body mixed ?_
 rw [Fsc_next_eq]
 unfold Fsc_next
 have l1 : ld1 H (.ptr r 1) = some (iv σ.a) := by rw [hk.ld1 scG_r]; rfl
 have l0 : ld1 H (.ptr r 0) = some (.str σ.s) := by rw [hk.ld1 scG_r]; rfl
 have hlt : σ.a < σ.s.length := by
  by_cases h : σ.a < σ.s.length
  ·exact h
  ·rw [List.getElem?_eq_none (by omega)] at hc; cases hc
 refine ⟨rfl, _, rfl, _, l1, rfl, _, rfl, _, l0, ⟨⟨_, l1, rfl⟩, ⟨_, l0, rfl⟩, trivial⟩, ifB_iff.2 ⟨fun h => ?_, fun h => ⟨rfl, _, rfl, _, l0, rfl, _, rfl, _, l1, by omega, c, ?_, ⟨⟨_, l0, rfl⟩, ⟨_, l1, rfl⟩, trivial⟩, hK _ (by omega) (hk.more (by omega))⟩⟩⟩
 ·have h := of_decide_eq_true h
  have : (σ.a : Int) = (σ.s.length : Int) := h
  omega
 ·simpa using hc
theorem rest_okS (I : ScI Γ0 r ob σ) (hk : HZ Z (scG Γ0 r ob σ) H nx) (hK : ∀ nx', nx ≤ nx' → HZ Z (scG Γ0 r ob σ) H nx' → K (.ret (.str (σ.s.drop σ.a))) H nx') : TriP PG f_sc_rest [.ptr r 0] H nx K := by
 refine TriP.of_body mixed ?_
 rw [Fsc_rest_eq]
 unfold Fsc_rest
 have l1 : ld1 H (.ptr r 1) = some (iv σ.a) := by rw [hk.ld1 scG_r]; rfl
 have l0 : ld1 H (.ptr r 0) = some (.str σ.s) := by rw [hk.ld1 scG_r]; rfl
 have hle := I.le
 have hx : (some ((σ.a : Int)).toNat).getD 0 ≤ (none : Option Nat).getD σ.s.length := by simpa using hle
 refine ⟨rfl, _, rfl, _, l0, rfl, _, rfl, _, l1, by omega, Nat.le_refl _, hx, ⟨⟨_, l0, rfl⟩, ⟨_, l1, rfl⟩, ⟨by omega, Nat.le_refl _, hx, rfl⟩, trivial⟩, ?_⟩
 have e : List.take ((none : Option Nat).getD σ.s.length - (some ((σ.a : Int)).toNat).getD 0) (List.drop ((some ((σ.a : Int)).toNat).getD 0) σ.s) = σ.s.drop σ.a := by
  simp only [Option.getD_none, Option.getD_some, Int.toNat_natCast]
  exact List.take_of_length_le (by simp)
 rw [e]
 exact hK _ (by omega) (hk.more (by omega))
theorem skip_okS {n : Nat} (I : ScI Γ0 r ob σ) (hk : HZ Z (scG Γ0 r ob σ) H nx) (hn : n ≤ 20000) (hK : ∀ H', HZ Z (scG Γ0 r ob { σ with a := σ.a + n, col := σ.col + n }) H' nx → K (.ret (.tuple [])) H' nx) : TriP PG f_sc_skip [.ptr r 0, iv n] H nx K := by
 refine TriP.of_body mixed ?_
 rw [Fsc_skip_eq]
 unfold Fsc_skip
 have hle := I.le; have hlen := I.len; have hcl := I.cl
 refine ⟨rfl, _, rfl, (σ.a : Int), by rw [hk.ld1 scG_r]; rfl, rfl, _, rfl, rfl, ?_⟩
 rw [wrap64_id (by omega) (by omega), show ((σ.a : Int) + (n : Int)) = ((σ.a + n : Nat) : Int) by omega]
 refine scSt { σ with a := σ.a + n } hk rfl (by omega) rfl rfl fun H1 h1 => ?_
 refine ⟨rfl, _, rfl, σ.col, by rw [h1.ld1 scG_r]; rfl, rfl, _, rfl, rfl, ?_⟩
 rw [wrap64_id (by omega) (by omega)]
 exact scSt { σ with a := σ.a + n, col := σ.col + n } h1 rfl (by omega) rfl rfl fun H2 h2 => hK H2 h2
theorem fault_okS {e : Int} (I : ScI Γ0 r ob σ) (hb : σ.bad = 0) (hk : HZ Z (scG Γ0 r ob σ) H nx) (hK : ∀ H' nx', nx ≤ nx' → HZ Z (scG Γ0 r ob { σ with bad := e, wl := σ.line, wc := σ.col }) H' nx' → K (.ret (.tuple [])) H' nx') : TriP PG f_sc_fault [.ptr r 0, iv e] H nx K := by
 refine TriP.of_body mixed ?_
 rw [Fsc_fault_eq]
 unfold Fsc_fault
 have l2 : ld1 H (.ptr r 2) = some (iv σ.line) := by rw [hk.ld1 scG_r]; rfl
 have l3 : ld1 H (.ptr r 3) = some (iv σ.col) := by rw [hk.ld1 scG_r]; rfl
 refine ⟨rfl, _, rfl, σ.bad, by rw [hk.ld1 scG_r]; rfl, ifB_iff.2 ⟨fun h => ⟨rfl, _, rfl, _, l2, rfl, _, rfl, _, l3, rfl, rfl, rfl, _, rfl, ⟨⟨_, l2, rfl⟩, ⟨_, l3, rfl⟩, trivial⟩, rfl, ?_⟩, fun h => absurd hb (of_decide_eq_false h)⟩⟩
 refine scSt { σ with bad := e } hk rfl (by omega) rfl rfl fun H1 h1 => ⟨rfl, _, rfl, trivial, ?_⟩
 exact scSt5 { σ with bad := e, wl := σ.line, wc := σ.col } h1 rfl fun H2 h2 => ⟨trivial, hK _ _ (by omega) (h2.more (by omega))⟩
theorem flat_len : ∀ (l : List Tok), (l.flatMap tokC).length = l.length * 5
 | [] => rfl
 | t :: l => by rw [List.flatMap_cons, List.length_append, flat_len l, List.length_cons]; simp [tokC]; omega
theorem put_okS {k n : Int} {s : List UInt8} (I : ScI Γ0 r ob σ) (hk : HZ Z (scG Γ0 r ob σ) H nx)
  (hfull : 4000 ≤ σ.out.length → ∀ H' nx', nx ≤ nx' → HZ Z (scG Γ0 r ob { σ with bad := 6, wl := σ.line, wc := σ.col }) H' nx' → K (.ret (.tuple [])) H' nx')
  (hput : ¬ 4000 ≤ σ.out.length → ∀ ob' H' nx', nx ≤ nx' → Γ0 ob' = none → ob' ≠ r → HZ Z (scG Γ0 r ob' { σ with out := σ.out ++ [⟨k, s, n, σ.line, σ.col⟩] }) H' nx' → K (.ret (.tuple [])) H' nx') : TriP PG f_sc_put [.ptr r 0, iv k, .str s, iv n] H nx K := by
 refine TriP.of_body mixed ?_
 rw [Fsc_put_eq]
 unfold Fsc_put
 have l2 : ld1 H (.ptr r 2) = some (iv σ.line) := by rw [hk.ld1 scG_r]; rfl
 have l3 : ld1 H (.ptr r 3) = some (iv σ.col) := by rw [hk.ld1 scG_r]; rfl
 have l4 : ld1 H (.ptr r 4) = some (outV ob σ.out) := by rw [hk.ld1 scG_r]; rfl
 have hfew := I.few
 refine ⟨rfl, _, rfl, _, l4, _, outV_len, ifB_iff.2 ⟨fun h => ?_, fun h => ?_⟩⟩
 ·have h : (σ.out.length : Int) = 4000 := of_decide_eq_true h
  refine ⟨rfl, _, rfl, _, l2, rfl, _, rfl, _, l3, rfl, rfl, rfl, _, rfl, ⟨⟨_, l2, rfl⟩, ⟨_, l3, rfl⟩, trivial⟩, rfl, ?_⟩
  refine scSt { σ with bad := 6 } hk rfl (by omega) rfl rfl fun H1 h1 => ⟨rfl, _, rfl, trivial, ?_⟩
  exact scSt5 { σ with bad := 6, wl := σ.line, wc := σ.col } h1 rfl fun H2 h2 => ⟨trivial, hfull (by omega) _ _ (by omega) (h2.more (by omega))⟩
 ·have h : ¬ (σ.out.length : Int) = 4000 := of_decide_eq_false h
  refine ⟨rfl, _, rfl, _, l4, rfl, _, rfl, _, l2, rfl, _, rfl, _, l3, rfl, rfl, rfl, rfl, rfl, ?_⟩
  have hf := hk.fresh (by omega : nx ≤ nx + 17)
  refine scrN hk (nx' := nx + 22) (by omega) (by omega) fun H1 h1 => ?_
  have hne : r ≠ nx + 17 := neK scG_r hf
  have er : gup (nx + 17) (some [iv k, .str s, iv n, iv σ.line, iv σ.col]) (scG Γ0 r ob σ) r = some (scC ob σ) := (gup_ne hne).trans scG_r
  have m2 : ld1 H1 (.ptr r 2) = some (iv σ.line) := by rw [h1.ld1 er]; rfl
  have m3 : ld1 H1 (.ptr r 3) = some (iv σ.col) := by rw [h1.ld1 er]; rfl
  have m4 : ld1 H1 (.ptr r 4) = some (outV ob σ.out) := by rw [h1.ld1 er]; rfl
  refine ⟨⟨⟨_, m4, rfl⟩, ⟨_, m2, rfl⟩, ⟨_, m3, rfl⟩, trivial⟩, 1, [iv k, .str s, iv n, iv σ.line, iv σ.col], by rw [h1.src (gup_same _ _ _) (by simp)]; simp, rfl, ?_⟩
  have hf2 := h1.fresh (Nat.le_refl (nx + 22))
  have hn2 : nx + 22 ≠ r := fun x => by rw [x, er] at hf2; cases hf2
  have h02 : Γ0 (nx + 22) = none := by
   cases e : Γ0 (nx + 22) with
   | none => rfl
   | some cs => rw [gup_ne (by omega), scG_sub I _ _ e] at hf2; cases hf2
  have h017 : Γ0 (nx + 17) = none := by
   cases e : Γ0 (nx + 17) with
   | none => rfl
   | some cs => have := scG_sub I _ _ e; rw [hf] at this; cases this
  have fin : ∀ (Γ' : GH) (H2 : Heap), HZ Z Γ' H2 (nx + 23) → Γ' r = some (scC ob σ) → Γ' (nx + 22) = some ((σ.out ++ [(⟨k, s, n, σ.line, σ.col⟩ : Tok)]).flatMap tokC) → (∀ b cs, Γ0 b = some cs → Γ' b = some cs) →
    ∃ H3, stC H2 (.ptr r 4) [.slice (nx + 22) 0 (σ.out.length + 1) 5 false] = some H3 ∧ True ∧ K (.ret (.tuple [])) H3 (nx + 23) := by
   intro Γ' H2 h2 e1 e2 e3
   refine stOne (k := fun H3 => True ∧ K (.ret (.tuple [])) H3 (nx + 23)) h2 e1 (j := 4) (by simp [scC]) rfl fun H3 h3 => And.intro trivial (hput (by omega) (nx + 22) _ _ (by omega) h02 hn2 (h3.sub fun b cs e => ?_))
   unfold scG at e
   by_cases hb : b = r
   ·subst hb
    rw [gup_same] at e ⊢
    rw [← e]
    simp only [scC, outV_snoc]
    rfl
   ·rw [gup_ne hb] at e ⊢
    rw [scO_snoc] at e
    by_cases hb2 : b = nx + 22
    ·subst hb2; rw [gup_same] at e; rw [← e]; exact e2
    ·rw [gup_ne hb2] at e; exact e3 b cs e
  have hsub : ∀ b cs, Γ0 b = some cs → gup (nx + 17) (some [iv k, .str s, iv n, iv σ.line, iv σ.col]) (scG Γ0 r ob σ) b = some cs := fun b cs e => by
   rw [gup_ne fun x => by rw [x, h017] at e; cases e]; exact scG_sub I b cs e
  cases hout : σ.out with
  | nil =>
   obtain ⟨H2, a1, a2⟩ := h1.appNil (esz := 5) (ebytes := 48) (k := 1) (new := [iv k, .str s, iv n, iv σ.line, iv σ.col]) (by simp) (by omega) (by omega) (by omega)
   refine ⟨_, H2, _, a1, rfl, _, rfl, trivial, rfl, ?_⟩
   have := fin _ H2 a2 ((gup_ne (Ne.symm hn2)).trans er) (by rw [gup_same, hout]; rfl) fun b cs e => (gup_ne (neK e h02)).trans (hsub b cs e)
   rw [hout] at this
   exact this
  | cons t l =>
   have ho : σ.out ≠ [] := by rw [hout]; simp
   have hob : ob ≠ nx + 17 := neK (scG_o I ho) hf
   have eo : gup (nx + 17) (some [iv k, .str s, iv n, iv σ.line, iv σ.col]) (scG Γ0 r ob σ) ob = some (σ.out.flatMap tokC) := (gup_ne hob).trans (scG_o I ho)
   have hfl := flat_len σ.out
   obtain ⟨H2, a1, a2⟩ := h1.app (esz := 5) (ebytes := 48) (k := 1) (len := σ.out.length) (new := [iv k, .str s, iv n, iv σ.line, iv σ.col]) eo (by omega) (by simp) (by omega) (by omega) (by omega)
   have ev : outV ob (t :: l) = .slice ob 0 σ.out.length 5 false := by rw [hout]; rfl
   rw [ev]
   refine ⟨_, H2, _, a1, rfl, _, rfl, trivial, rfl, ?_⟩
   refine fin _ H2 a2 ?_ ?_ fun b cs e => ?_
   ·rw [gup_ne (Ne.symm hn2), gup_ne (Ne.symm I.ne)]; exact er
   ·rw [gup_same, ← hfl, List.take_length, List.flatMap_append]; rfl
   ·exact (gup_ne (neK e h02)).trans ((gup_ne (neK e I.o0)).trans (hsub b cs e))
theorem u8_le {a b : UInt8} : a ≤ b ↔ a.toNat ≤ b.toNat := UInt8.le_iff_toNat_le
theorem letter_iff {c : UInt8} : Pt.letter c = true ↔ (97 ≤ c.toNat ∧ c.toNat ≤ 122) ∨ (65 ≤ c.toNat ∧ c.toNat ≤ 90) ∨ c.toNat = 95 := by
 unfold Pt.letter
 simp only [Bool.or_eq_true, Bool.and_eq_true, decide_eq_true_eq, beq_iff_eq, u8_le, ← UInt8.toNat_inj]
 show ((97 ≤ c.toNat ∧ c.toNat ≤ 122) ∨ (65 ≤ c.toNat ∧ c.toNat ≤ 90)) ∨ c.toNat = 95 ↔ _
 rw [or_assoc]
theorem digit_iff {c : UInt8} : Pt.digit c = true ↔ 48 ≤ c.toNat ∧ c.toNat ≤ 57 := by
 unfold Pt.digit
 simp only [Bool.and_eq_true, decide_eq_true_eq, u8_le]
 rfl
theorem bool_is {a b : Bool} (h : a = true ↔ b = true) : a = b := by cases a <;> cases b <;> simp_all
theorem letter_okS {c : UInt8} (h : K (.ret (.bool (Pt.letter c))) H nx) : TriP PG f_tk_letter [bv (Int.ofNat c.toNat)] H nx K := by
 refine TriP.of_body mixed ?_
 rw [Ftk_letter_eq]
 unfold Ftk_letter
 have yes : (97 ≤ c.toNat ∧ c.toNat ≤ 122) ∨ (65 ≤ c.toNat ∧ c.toNat ≤ 90) ∨ c.toNat = 95 → K (.ret (.bool true)) H nx := fun e => by rw [letter_iff.2 e] at h; exact h
 have last : ¬ (97 ≤ c.toNat ∧ c.toNat ≤ 122) → ¬ (65 ≤ c.toNat ∧ c.toNat ≤ 90) → K (.ret (.bool (decide (Int.ofNat c.toNat = 95)))) H nx := fun e1 e2 => by
  have : Pt.letter c = decide (Int.ofNat c.toNat = 95) := bool_is (letter_iff.trans ⟨fun x => by simp; omega, fun x => by simp at x; omega⟩)
  rw [this] at h; exact h
 have mid : ¬ (97 ≤ c.toNat ∧ c.toNat ≤ 122) → ifB (decide (65 ≤ Int.ofNat c.toNat)) (ifB (decide (Int.ofNat c.toNat ≤ 90)) (K (.ret (.bool true)) H nx) (K (.ret (.bool (decide (Int.ofNat c.toNat = 95)))) H nx)) (K (.ret (.bool (decide (Int.ofNat c.toNat = 95)))) H nx) := fun e => by
  refine ifB_iff.2 ⟨fun h1 => ifB_iff.2 ⟨fun h2 => yes ?_, fun h2 => last e ?_⟩, fun h1 => last e ?_⟩
  ·have h1 : 65 ≤ (c.toNat : Int) := of_decide_eq_true h1
   have h2 : (c.toNat : Int) ≤ 90 := of_decide_eq_true h2
   omega
  ·have h2 : ¬ (c.toNat : Int) ≤ 90 := of_decide_eq_false h2
   omega
  ·have h1 : ¬ 65 ≤ (c.toNat : Int) := of_decide_eq_false h1
   omega
 refine ifB_iff.2 ⟨fun h1 => ifB_iff.2 ⟨fun h2 => yes ?_, fun h2 => mid ?_⟩, fun h1 => mid ?_⟩
 ·have h1 : 97 ≤ (c.toNat : Int) := of_decide_eq_true h1
  have h2 : (c.toNat : Int) ≤ 122 := of_decide_eq_true h2
  omega
 ·have h2 : ¬ (c.toNat : Int) ≤ 122 := of_decide_eq_false h2
  omega
 ·have h1 : ¬ 97 ≤ (c.toNat : Int) := of_decide_eq_false h1
  omega
theorem digit_okS {c : UInt8} (h : K (.ret (.bool (Pt.digit c))) H nx) : TriP PG f_tk_digit [bv (Int.ofNat c.toNat)] H nx K := by
 refine TriP.of_body mixed ?_
 rw [Ftk_digit_eq]
 unfold Ftk_digit
 refine ifB_iff.2 ⟨fun h1 => ?_, fun h1 => ?_⟩
 ·have h1 : 48 ≤ (c.toNat : Int) := of_decide_eq_true h1
  have : Pt.digit c = decide (Int.ofNat c.toNat ≤ 57) := bool_is (digit_iff.trans ⟨fun x => by simp; omega, fun x => by simp at x; omega⟩)
  rw [this] at h; exact h
 ·have h1 : ¬ 48 ≤ (c.toNat : Int) := of_decide_eq_false h1
  have : Pt.digit c = false := by
   cases e : Pt.digit c with
   | false => rfl
   | true => have := digit_iff.1 e; omega
  rw [this] at h; exact h
theorem st_if {s u : List UInt8} {p q : Prop} (h1 : s = u → p) (h2 : s ≠ u → q) : ifB (s == u) p q := ifB_iff.2 ⟨fun e => h1 (by simpa using e), fun e => h2 (by simpa using e)⟩
theorem isWord_okS {s : List UInt8} (h : K (.ret (.bool (Pt.isWord s))) H nx) : TriP PG f_tk_IsWord [.str s] H nx K := by
 refine TriP.of_body mixed ?_
 rw [Ftk_IsWord_eq]
 unfold Ftk_IsWord
 have yes : s ∈ Pt.words → K (.ret (.bool true)) H nx := fun e => by unfold Pt.isWord at h; rw [decide_eq_true e] at h; exact h
 refine st_if (fun e => yes (by subst e; decide)) fun e0 => ?_
 refine st_if (fun e => yes (by subst e; decide)) fun e1 => ?_
 refine st_if (fun e => yes (by subst e; decide)) fun e2 => ?_
 refine st_if (fun e => yes (by subst e; decide)) fun e3 => ?_
 refine st_if (fun e => yes (by subst e; decide)) fun e4 => ?_
 refine st_if (fun e => yes (by subst e; decide)) fun e5 => ?_
 refine st_if (fun e => yes (by subst e; decide)) fun e6 => ?_
 refine st_if (fun e => yes (by subst e; decide)) fun e7 => ?_
 refine st_if (fun e => yes (by subst e; decide)) fun e8 => ?_
 refine st_if (fun e => yes (by subst e; decide)) fun e9 => ?_
 refine st_if (fun e => yes (by subst e; decide)) fun e10 => ?_
 refine st_if (fun e => yes (by subst e; decide)) fun e11 => ?_
 refine st_if (fun e => yes (by subst e; decide)) fun e12 => ?_
 refine st_if (fun e => yes (by subst e; decide)) fun e13 => ?_
 refine st_if (fun e => yes (by subst e; decide)) fun e14 => ?_
 refine st_if (fun e => yes (by subst e; decide)) fun e15 => ?_
 refine st_if (fun e => yes (by subst e; decide)) fun e16 => ?_
 refine st_if (fun e => yes (by subst e; decide)) fun e17 => ?_
 refine st_if (fun e => yes (by subst e; decide)) fun e18 => ?_
 refine st_if (fun e => yes (by subst e; decide)) fun e19 => ?_
 refine st_if (fun e => yes (by subst e; decide)) fun e20 => ?_
 refine st_if (fun e => yes (by subst e; decide)) fun e21 => ?_
 have : Pt.isWord s = false := decide_eq_false fun e => by
  simp only [Pt.words, List.mem_cons, List.not_mem_nil, or_false] at e
  rcases e with e | e | e | e | e | e | e | e | e | e | e | e | e | e | e | e | e | e | e | e | e | e
  ·exact e0 e
  ·exact e1 e
  ·exact e2 e
  ·exact e3 e
  ·exact e4 e
  ·exact e5 e
  ·exact e6 e
  ·exact e7 e
  ·exact e8 e
  ·exact e9 e
  ·exact e10 e
  ·exact e11 e
  ·exact e12 e
  ·exact e13 e
  ·exact e14 e
  ·exact e15 e
  ·exact e16 e
  ·exact e17 e
  ·exact e18 e
  ·exact e19 e
  ·exact e20 e
  ·exact e21 e
 rw [this] at h; exact h
theorem escape_okS {c : UInt8} (h : K (.ret (.tuple (if c = 110 then [bv 10, .bool true] else if c = 116 then [bv 9, .bool true] else if c = 34 ∨ c = 92 then [bv (Int.ofNat c.toNat), .bool true] else [bv 0, .bool false]))) H nx) : TriP PG f_tk_escape [bv (Int.ofNat c.toNat)] H nx K := by
 refine TriP.of_body mixed ?_
 rw [Ftk_escape_eq]
 unfold Ftk_escape
 have ec : ∀ m : UInt8, c = m ↔ Int.ofNat c.toNat = Int.ofNat m.toNat := fun m => by rw [← UInt8.toNat_inj]; show _ ↔ ((c.toNat : Int) = (m.toNat : Int)); omega
 have st : ∀ {m : UInt8} {p q : Prop}, (c = m → p) → (c ≠ m → q) → ifB (decide (Int.ofNat c.toNat = Int.ofNat m.toNat)) p q := fun h1 h2 => ifB_iff.2 ⟨fun e => h1 ((ec _).2 (of_decide_eq_true e)), fun e => h2 fun x => of_decide_eq_false e ((ec _).1 x)⟩
 refine st (m := 110) (fun e => by rw [if_pos e] at h; exact h) fun e1 => ?_
 refine st (m := 116) (fun e => by rw [if_neg e1, if_pos e] at h; exact h) fun e2 => ?_
 rw [if_neg e1, if_neg e2] at h
 refine st (m := 34) (fun e => by rw [if_pos (.inl e)] at h; exact h) fun e3 => ?_
 refine st (m := 92) (fun e => by rw [if_pos (.inr e)] at h; exact h) fun e4 => ?_
 rw [if_neg (by intro x; exact x.elim e3 e4)] at h
 exact h
theorem ends_okS (I : ScI Γ0 r ob σ) (hk : HZ Z (scG Γ0 r ob σ) H nx) (hK : ∀ H' nx', nx ≤ nx' → HZ Z (scG Γ0 r ob σ) H' nx' → K (.ret (.bool (Pt.ends σ.out))) H' nx') : TriP PG f_sc_ends [.ptr r 0] H nx K := by
 refine TriP.of_body mixed ?_
 rw [Fsc_ends_eq]
 unfold Fsc_ends
 have l4 : ld1 H (.ptr r 4) = some (outV ob σ.out) := by rw [hk.ld1 scG_r]; rfl
 have hfew := I.few
 refine ⟨rfl, _, rfl, _, l4, _, outV_len, ifB_iff.2 ⟨fun h => ?_, fun h => ?_⟩⟩
 ·have h : (σ.out.length : Int) = 0 := of_decide_eq_true h
  have e : σ.out = [] := List.length_eq_zero_iff.1 (by omega)
  have := hK H nx (Nat.le_refl _) hk
  rw [e] at this; exact this
 ·have h : ¬ (σ.out.length : Int) = 0 := of_decide_eq_false h
  have ho : σ.out ≠ [] := fun e => by rw [e] at h; exact h rfl
  have hl : 0 < σ.out.length := by omega
  have ev : outV ob σ.out = .slice ob 0 σ.out.length 5 false := by
   cases e : σ.out with
   | nil => exact absurd e ho
   | cons t l => rfl
  obtain ⟨t, ht⟩ : ∃ t, t = σ.out[σ.out.length - 1]'(by omega) := ⟨_, rfl⟩
  have hend : Pt.ends σ.out = Pt.endsTok t := by
   unfold Pt.ends
   rw [List.getLast?_eq_getElem?, List.getElem?_eq_getElem (by omega), ht]
  have ei : idxS (outV ob σ.out) (IntKind.i64.wrap (Int.ofNat σ.out.length - 1)).toNat 5 = some (.ptr ob ((σ.out.length - 1) * 5)) := by
   have : (IntKind.i64.wrap (Int.ofNat σ.out.length - 1)).toNat = σ.out.length - 1 := by
    rw [wrap64_id (by show _ ≤ (σ.out.length : Int) - 1; omega) (by show (σ.out.length : Int) - 1 ≤ _; omega)]
    show ((σ.out.length : Int) - 1).toNat = _
    omega
   rw [this, ev, idxS_slice (by omega), Nat.zero_add]
  have hfl := flat_len σ.out
  have lt : ldN H 5 (.ptr ob ((σ.out.length - 1) * 5)) = some (tokV t) := by
   rw [hk.ldN (scG_o I ho) (by omega), flat_get (by omega), ht]; rfl
  have hf := hk.fresh (by omega : nx ≤ nx + 12)
  refine ⟨rfl, _, rfl, _, l4, rfl, _, rfl, _, l4, _, outV_len, by rw [wrap64_id (by show _ ≤ (σ.out.length : Int) - 1; omega) (by show (σ.out.length : Int) - 1 ≤ _; omega)]; show 0 ≤ (σ.out.length : Int) - 1; omega, _, ei, _, _, _, _, _, lt, ?_⟩
  refine scrN hk (nx' := nx + 14) (by omega) (by omega) fun H1 h1 => ?_
  have hne : r ≠ nx + 12 := neK scG_r hf
  have hob : ob ≠ nx + 12 := neK (scG_o I ho) hf
  have m4 : ld1 H1 (.ptr r 4) = some (outV ob σ.out) := by rw [h1.ld1 ((gup_ne hne).trans scG_r)]; rfl
  have mt : ldN H1 5 (.ptr ob ((σ.out.length - 1) * 5)) = some (tokV t) := by
   rw [h1.ldN ((gup_ne hob).trans (scG_o I ho)) (by omega), flat_get (by omega), ht]; rfl
  refine ⟨⟨⟨_, m4, rfl⟩, ⟨_, m4, rfl⟩, ⟨_, _, _, _, _, mt, rfl⟩, trivial⟩, ?_⟩
  refine stAll h1 (gup_same _ _ _) rfl rfl fun H2 h2 => ⟨trivial, _, rfl, t.kind, by rw [h2.ld1 (gup_same _ _ _)]; rfl, ?_⟩
  rw [gup_gup] at h2
  have fin : ∀ {b : Bool}, Pt.endsTok t = b → K (.ret (.bool b)) H2 (nx + 14) := fun e => by rw [← e, ← hend]; exact hK _ _ (by omega) (h2.drop hf)
  have l1 : ld1 H2 (.ptr (nx + 12) 1) = some (.str t.text) := by rw [h2.ld1 (gup_same _ _ _)]; rfl
  have kd : ∀ {m : Int} {p q : Prop}, (t.kind = m → p) → (t.kind ≠ m → q) → ifB (decide (t.kind = m)) p q := fun h1 h2 => ifB_iff.2 ⟨fun e => h1 (of_decide_eq_true e), fun e => h2 (of_decide_eq_false e)⟩
  refine kd (fun e => fin (by simp [Pt.endsTok, e])) fun e1 => ?_
  refine kd (fun e => fin (by simp [Pt.endsTok, e])) fun e2 => ?_
  refine kd (fun e => fin (by simp [Pt.endsTok, e])) fun e3 => ?_
  refine kd (fun e => ⟨_, rfl, _, l1, ?_⟩) fun e4 => ?_
  ·have et : Pt.endsTok t = decide (t.text ∈ Pt.endWords) := by unfold Pt.endsTok; rw [if_neg (by omega), if_pos e]
   have yes : t.text ∈ Pt.endWords → K (.ret (.bool true)) H2 (nx + 14) := fun e => fin (by rw [et, decide_eq_true e])
   refine st_if (fun e => yes (by rw [e]; decide)) fun f0 => ?_
   refine st_if (fun e => yes (by rw [e]; decide)) fun f1 => ?_
   refine st_if (fun e => yes (by rw [e]; decide)) fun f2 => ?_
   refine st_if (fun e => yes (by rw [e]; decide)) fun f3 => ?_
   refine st_if (fun e => yes (by rw [e]; decide)) fun f4 => ?_
   refine st_if (fun e => yes (by rw [e]; decide)) fun f5 => ?_
   refine st_if (fun e => yes (by rw [e]; decide)) fun f6 => ?_
   refine st_if (fun e => yes (by rw [e]; decide)) fun f7 => ?_
   refine st_if (fun e => yes (by rw [e]; decide)) fun f8 => ?_
   refine fin (by rw [et]; refine decide_eq_false fun e => ?_; simp only [Pt.endWords, List.mem_cons, List.not_mem_nil, or_false] at e; rcases e with e | e | e | e | e | e | e | e | e; exact f0 e; exact f1 e; exact f2 e; exact f3 e; exact f4 e; exact f5 e; exact f6 e; exact f7 e; exact f8 e)
  ·refine kd (fun e => ⟨_, rfl, _, l1, ?_⟩) fun e5 => fin (by unfold Pt.endsTok; rw [if_neg (by omega), if_neg e4, if_neg e5])
   have et : Pt.endsTok t = (t.text = [41] || t.text = [93] || t.text = [125] : Bool) := by unfold Pt.endsTok; rw [if_neg (by omega), if_neg e4, if_pos e]
   refine st_if (fun e => fin (by rw [et, e]; rfl)) fun f1 => ⟨_, rfl, _, l1, ?_⟩
   refine st_if (fun e => fin (by rw [et, e]; rfl)) fun f2 => ⟨_, rfl, _, l1, ?_⟩
   exact fin (by rw [et]; simp only [f1, f2, decide_false, Bool.false_or]; rw [Bool.eq_iff_iff]; simp)
end
end
end Go.Vs
end
section
namespace Go.Vs
open Go.Proofs
variable [GTab] {Z : Nat → Prop}
noncomputable section
theorem tw_step {p : UInt8 → Bool} : ∀ {u : List UInt8} {n : Nat}, n ≤ (u.takeWhile p).length → (∀ c, u[n]? = some c → (p c = true → n + 1 ≤ (u.takeWhile p).length) ∧ (p c = false → (u.takeWhile p).length = n)) ∧ (u[n]? = none → (u.takeWhile p).length = n)
 | [], n, h => ⟨fun c e => by simp at e, fun _ => by simp at h ⊢; omega⟩
 | x :: u, 0, h => by
  refine ⟨fun c e => ?_, fun e => by simp at e⟩
  have : x = c := by simpa using e
  subst this
  refine ⟨fun hp => by rw [List.takeWhile_cons, if_pos hp]; simp, fun hp => by rw [List.takeWhile_cons, if_neg (by rw [hp]; simp)]; rfl⟩
 | x :: u, n + 1, h => by
  by_cases hx : p x = true
  ·rw [List.takeWhile_cons, if_pos hx] at h ⊢
   have := tw_step (p := p) (u := u) (n := n) (by simpa using h)
   simp only [List.getElem?_cons_succ, List.length_cons]
   refine ⟨fun c e => ⟨fun hp => by have := (this.1 c e).1 hp; omega, fun hp => by have := (this.1 c e).2 hp; omega⟩, fun e => by have := this.2 e; omega⟩
  ·rw [List.takeWhile_cons, if_neg hx] at h; simp at h
theorem tw_take {p : UInt8 → Bool} : ∀ {u : List UInt8}, u.take (u.takeWhile p).length = u.takeWhile p
 | [] => rfl
 | x :: u => by
  rw [List.takeWhile_cons]
  split
  ·simp [tw_take (p := p) (u := u)]
  ·rfl
theorem tw_le {p : UInt8 → Bool} {u : List UInt8} : (u.takeWhile p).length ≤ u.length := by
 have := congrArg List.length (tw_take (p := p) (u := u))
 rw [List.length_take] at this; omega
theorem RNum_eq (call : CallP) (lp : Nat → LoopP) (lv : LeaveP) (lvc : LeaveC) (r : Nat) (x n v : Int) (s : List UInt8) (H : Heap) (nx : Nat) (K : EndP) :
  contAt PG call (lp 45) 45 (codeOf PG f_sc_number) [1, 1, 1, 1, 0, 0] (endK PG lv lvc K (resOf PG f_sc_number)) .ret (envL .und [(0, .ptr r 0), (2, iv x), (3, .str s), (4, iv n), (5, uv v)]) H nx [] none = K (.ret (iv x)) H nx := by kernel_rfl
section
variable {Γ0 : GH} {r ob nx : Nat} {σ : Sst} {H : Heap} {K : EndP}
def RdK (Z : Nat → Prop) (Γ0 : GH) (r nx : Nat) (σ : Sst) (K : EndP) (res : Except Int (Int × List UInt8 × Int × Nat)) : Prop := match res with
 | .ok (k, tx, v, n) => (4000 ≤ σ.out.length → ∀ ob H' nx', nx ≤ nx' → Γ0 ob = none → ob ≠ r → HZ Z (scG Γ0 r ob { σ with bad := 6, wl := σ.line, wc := σ.col }) H' nx' → K (.ret (iv n)) H' nx') ∧
  (¬ 4000 ≤ σ.out.length → ∀ ob H' nx', nx ≤ nx' → Γ0 ob = none → ob ≠ r → HZ Z (scG Γ0 r ob { σ with out := σ.out ++ [⟨k, tx, v, σ.line, σ.col⟩] }) H' nx' → K (.ret (iv n)) H' nx')
 | .error e => ∀ ob H' nx', nx ≤ nx' → Γ0 ob = none → ob ≠ r → HZ Z (scG Γ0 r ob { σ with bad := e, wl := σ.line, wc := σ.col }) H' nx' → K (.ret (iv 0)) H' nx'
theorem RdK.put {k v : Int} {tx : List UInt8} {n : Nat} {m : Int} (h : RdK Z Γ0 r nx σ K (.ok (k, tx, v, n))) (hm : m = n) (I : ScI Γ0 r ob σ) {nx1 : Nat} (hn : nx ≤ nx1) (hk : HZ Z (scG Γ0 r ob σ) H nx1) {pK : List (AVal × Bool) → Heap → Nat → Prop} :
  TriP PG f_sc_put [.ptr r 0, iv k, .str tx, iv v] H nx1 fun e H' nx' => onEnd e (fun _ => K (.ret (iv m)) H' nx') fun l => pK l H' nx' := by
 subst hm
 exact put_okS I hk (fun hf H' nx' h1 h2 => onEnd_ret.2 (h.1 hf ob H' nx' (by omega) I.o0 I.ne h2)) fun hf ob' H' nx' h1 h2 h3 h4 => onEnd_ret.2 (h.2 hf ob' H' nx' (by omega) h2 h3 h4)
theorem RdK.flt {e : Int} (h : RdK Z Γ0 r nx σ K (.error e)) (I : ScI Γ0 r ob σ) (hb : σ.bad = 0) {nx1 : Nat} (hn : nx ≤ nx1) (hk : HZ Z (scG Γ0 r ob σ) H nx1) {pK : List (AVal × Bool) → Heap → Nat → Prop} :
  TriP PG f_sc_fault [.ptr r 0, iv e] H nx1 fun e H' nx' => onEnd e (fun _ => K (.ret (iv 0)) H' nx') fun l => pK l H' nx' :=
 fault_okS I hb hk fun H' nx' h1 h2 => onEnd_ret.2 (h ob H' nx' (by omega) I.o0 I.ne h2)
theorem comment_okS (I : ScI Γ0 r ob σ) (hk : HZ Z (scG Γ0 r ob σ) H nx) (hK : ∀ nx', nx ≤ nx' → HZ Z (scG Γ0 r ob σ) H nx' → K (.ret (iv ((σ.s.drop σ.a).takeWhile fun c => c != 10).length)) H nx') : TriP PG f_sc_comment [.ptr r 0] H nx K := by
 refine TriP.of_body mixed ?_
 rw [Fsc_comment_eq]
 unfold Fsc_comment
 obtain ⟨u, hu⟩ : ∃ u, u = σ.s.drop σ.a := ⟨_, rfl⟩
 rw [← hu] at hK
 have hul : u.length ≤ 16384 := by have := I.len; rw [hu, List.length_drop]; omega
 refine rest_okS I hk fun nx1 h1 hk1 => onEnd_ret.2 ⟨_, rfl, ?_⟩
 rw [← hu]
 have htw := tw_le (p := fun c : UInt8 => c != 10) (u := u)
 refine loop_w (P := PG) (X := Nat) (Y := Nat) (fun n => envL .und [(0, .ptr r 0), (2, iv 0), (3, iv n), (4, .str u)]) (fun n => envL .und [(4, .str u), (3, iv n), (0, .ptr r 0)])
  (fun m n H2 nx2 => H2 = H ∧ nx2 = nx1 ∧ m = u.length - n ∧ n ≤ (u.takeWhile fun c => c != 10).length)
  (fun id n H2 nx2 => id = 0 ∧ H2 = H ∧ nx2 = nx1 ∧ n = (u.takeWhile fun c => c != 10).length) (u.length - 0) 0 (EnvLe.of_list (by exact ⟨rfl, rfl, rfl, rfl, trivial⟩)) ⟨rfl, rfl, rfl, by omega⟩ ?_ ?_
 ·rintro m n H2 nx2 ⟨rfl, rfl, rfl, hn⟩
  refine WpP.trim (ts := [0, 2, 3, 4]) (WpP.weaken (e := envL .und [(4, .str u), (3, iv n), (2, iv 0), (0, .ptr r 0)]) (EnvLe.of_list (by exact ⟨rfl, rfl, rfl, rfl, trivial⟩)) (WpP.of_vK mixed ?_))
  rw [LComm_eq]
  unfold LComm
  have hs := tw_step hn
  have out : (u.takeWhile fun c => c != 10).length = n → _ := fun e => (⟨rfl, n, EnvLe.of_list (by exact ⟨rfl, rfl, rfl, trivial⟩), rfl, rfl, rfl, e.symm⟩ : ([] : Dfs) = ([] : Dfs) ∧ ∃ y, EnvLe (envL .und [(4, .str u), (3, iv (y : Nat)), (0, .ptr r 0)]) (envL .und [(0, .ptr r 0), (2, iv 0), (3, iv n), (4, .str u)]) ∧ 0 = 0 ∧ H2 = H2 ∧ nx2 = nx2 ∧ y = (u.takeWhile fun c => c != 10).length)
  refine ifB_iff.2 ⟨fun h => ?_, fun h => ?_⟩
  ·have h : (n : Int) < (u.length : Int) := of_decide_eq_true h
   have hlt : n < u.length := by omega
   refine ⟨by omega, u[n], by simp [hlt], ifB_iff.2 ⟨fun h2 => ?_, fun h2 => ?_⟩⟩
   ·have hp : (u[n] != 10) = true := by
     rw [bne_iff_ne]; intro e
     have h2 : ¬ (Int.ofNat u[n].toNat = 10) := by simpa using h2
     rw [e] at h2; exact h2 rfl
    have := (hs.1 u[n] (by simp [hlt])).1 hp
    refine ⟨rfl, u.length - (n + 1), n + 1, by omega, EnvLe.of_list (by rw [wrap64_id (by omega) (by omega)]; exact ⟨rfl, rfl, rfl, rfl, trivial⟩), rfl, rfl, rfl, this⟩
   ·have hp : (u[n] != 10) = false := by
     have h2 : Int.ofNat u[n].toNat = 10 := by simpa using h2
     have : u[n] = 10 := by rw [← UInt8.toNat_inj]; show u[n].toNat = 10; have h2 : (u[n].toNat : Int) = 10 := h2; omega
     simp [this]
    exact out ((hs.1 u[n] (by simp [hlt])).2 hp)
  ·have h : ¬ (n : Int) < (u.length : Int) := of_decide_eq_false h
   exact out (hs.2 (by rw [List.getElem?_eq_none (by omega)]))
 ·rintro id n H2 nx2 ⟨rfl, rfl, rfl, hn⟩
  refine Eq.mpr (AComm_eq (TriP PG) (LpP PG) (lvSem (TriDP PG)) (lvcSem PG (TriDP PG)) r n u H2 nx2 K) ?_
  unfold AComm
  rw [hn]
  exact hK _ h1 hk1
theorem sl_eq {u : List UInt8} {n : Nat} : List.take ((some ((n : Nat) : Int).toNat).getD u.length - 0) (List.drop 0 u) = u.take n := by simp
theorem sl_le {u : List UInt8} {n : Nat} (h : n ≤ u.length) : (some ((n : Nat) : Int).toNat).getD u.length ≤ u.length := by simpa using h
theorem word_okS (I : ScI Γ0 r ob σ) (hk : HZ Z (scG Γ0 r ob σ) H nx) {w : List UInt8} (hw : w = (σ.s.drop σ.a).takeWhile fun c => Pt.letter c || Pt.digit c) (hK : RdK Z Γ0 r nx σ K (.ok (if Pt.isWord w then 3 else 2, w, 0, w.length))) : TriP PG f_sc_word [.ptr r 0] H nx K := by
 refine TriP.of_body mixed ?_
 rw [Fsc_word_eq]
 unfold Fsc_word
 obtain ⟨u, hu⟩ : ∃ u, u = σ.s.drop σ.a := ⟨_, rfl⟩
 rw [← hu] at hw
 have hul : u.length ≤ 16384 := by have := I.len; rw [hu, List.length_drop]; omega
 refine rest_okS I hk fun nx1 h1 hk1 => onEnd_ret.2 ⟨_, rfl, ?_⟩
 rw [← hu]
 have htw := tw_le (p := fun c : UInt8 => Pt.letter c || Pt.digit c) (u := u)
 refine loop_w (P := PG) (X := Nat) (Y := Nat) (fun n => envL .und [(0, .ptr r 0), (2, iv 0), (3, .str u), (4, iv n)]) (fun n => envL .und [(4, iv n), (3, .str u), (0, .ptr r 0)])
  (fun m n H2 nx2 => H2 = H ∧ nx2 = nx1 ∧ m = u.length - n ∧ n ≤ w.length)
  (fun id n H2 nx2 => id = 0 ∧ H2 = H ∧ nx2 = nx1 ∧ n = w.length) (u.length - 0) 0 (EnvLe.of_list (by exact ⟨rfl, rfl, rfl, rfl, trivial⟩)) ⟨rfl, rfl, rfl, by omega⟩ ?_ ?_
 ·rintro m n H2 nx2 ⟨rfl, rfl, rfl, hn⟩
  refine WpP.trim (ts := [0, 2, 3, 4]) (WpP.weaken (e := envL .und [(4, iv n), (3, .str u), (2, iv 0), (0, .ptr r 0)]) (EnvLe.of_list (by exact ⟨rfl, rfl, rfl, rfl, trivial⟩)) (WpP.of_vK mixed ?_))
  rw [LWord_eq]
  unfold LWord
  rw [hw] at hn
  have hs := tw_step hn
  rw [← hw] at hs
  have out : w.length = n → _ := fun e => (⟨rfl, n, EnvLe.of_list (by exact ⟨rfl, rfl, rfl, trivial⟩), rfl, rfl, rfl, e.symm⟩ : ([] : Dfs) = ([] : Dfs) ∧ ∃ y, EnvLe (envL .und [(4, iv (y : Nat)), (3, .str u), (0, .ptr r 0)]) (envL .und [(0, .ptr r 0), (2, iv 0), (3, .str u), (4, iv n)]) ∧ 0 = 0 ∧ H2 = H2 ∧ nx2 = nx2 ∧ y = w.length)
  refine ifB_iff.2 ⟨fun h => ?_, fun h => ?_⟩
  ·have h : (n : Int) < (u.length : Int) := of_decide_eq_true h
   have hlt : n < u.length := by omega
   have hget : u[(n : Int).toNat]? = some u[n] := by simp [hlt]
   have on : (Pt.letter u[n] || Pt.digit u[n]) = true → _ := fun hp => (⟨rfl, u.length - (n + 1), n + 1, by omega, EnvLe.of_list (by rw [wrap64_id (by omega) (by omega)]; exact ⟨rfl, rfl, rfl, rfl, trivial⟩), rfl, rfl, rfl, (hs.1 u[n] (by simp [hlt])).1 hp⟩ :
    ([] : Dfs) = ([] : Dfs) ∧ ∃ m' n', m' < u.length - n ∧ EnvLe (envL .und [(0, .ptr r 0), (2, iv 0), (3, .str u), (4, iv (n' : Nat))]) (envL .und [(0, .ptr r 0), (2, iv 0), (3, .str u), (4, iv (IntKind.i64.wrap (n + 1)))]) ∧ H2 = H2 ∧ nx2 = nx2 ∧ m' = u.length - n' ∧ n' ≤ w.length)
   refine ⟨by omega, u[n], hget, letter_okS (onEnd_ret.2 ⟨_, rfl, ifB_iff.2 ⟨fun h2 => on (by simp [h2]), fun h2 => ⟨by omega, u[n], hget, digit_okS (onEnd_ret.2 ⟨_, rfl, ifB_iff.2 ⟨fun h3 => on (by simp [h3]), fun h3 => ?_⟩⟩)⟩⟩⟩)⟩
   exact out ((hs.1 u[n] (by simp [hlt])).2 (by simp [h2, h3]))
  ·have h : ¬ (n : Int) < (u.length : Int) := of_decide_eq_false h
   exact out (hs.2 (by rw [List.getElem?_eq_none (by omega)]))
 ·rintro id n H2 nx2 ⟨rfl, rfl, rfl, hn⟩
  refine Eq.mpr (AWord_eq (TriP PG) (LpP PG) (lvSem (TriDP PG)) (lvcSem PG (TriDP PG)) r n u H2 nx2 K) ?_
  unfold AWord
  have hle : n ≤ u.length := by rw [hn, hw]; exact htw
  have ew : List.take ((some ((n : Nat) : Int).toNat).getD u.length - 0) (List.drop 0 u) = w := by rw [sl_eq, hn, hw, tw_take]
  rw [ew]
  refine ⟨by omega, sl_le hle, by omega, isWord_okS (onEnd_ret.2 ⟨_, rfl, ifB_iff.2 ⟨fun h2 => ⟨by omega, sl_le hle, by omega, ?_⟩, fun h2 => ⟨by omega, sl_le hle, by omega, ?_⟩⟩⟩)⟩
  ·rw [h2] at hK
   exact hK.put (by omega) I (by omega) hk1
  ·rw [h2] at hK
   exact hK.put (by omega) I (by omega) hk1
theorem wu64 {n : Int} (h0 : 0 ≤ n) (h1 : n < 18446744073709551616) : IntKind.u64.wrap n = n := by simp only [IntKind.wrap, IntKind.signed, IntKind.bits]; simp; omega
theorem wu8 {n : Int} (h0 : 0 ≤ n) (h1 : n < 256) : IntKind.u8.wrap n = n := by simp only [IntKind.wrap, IntKind.signed, IntKind.bits]; simp; omega
theorem drop_cons {u : List UInt8} {n : Nat} (h : n < u.length) : u.drop n = u[n] :: u.drop (n + 1) := List.drop_eq_getElem_cons h
theorem number_okS (I : ScI Γ0 r ob σ) (hb : σ.bad = 0) (hk : HZ Z (scG Γ0 r ob σ) H nx) {w : List UInt8} (hw : w = (σ.s.drop σ.a).takeWhile Pt.digit)
  (hK : RdK Z Γ0 r nx σ K (match Pt.numGo 0 (σ.s.drop σ.a) with | some v => .ok (4, w, v, w.length) | none => .error 12)) : TriP PG f_sc_number [.ptr r 0] H nx K := by
 refine TriP.of_body mixed ?_
 rw [Fsc_number_eq]
 unfold Fsc_number
 obtain ⟨u, hu⟩ : ∃ u, u = σ.s.drop σ.a := ⟨_, rfl⟩
 rw [← hu] at hw hK
 have hul : u.length ≤ 16384 := by have := I.len; rw [hu, List.length_drop]; omega
 refine rest_okS I hk fun nx1 h1 hk1 => onEnd_ret.2 ⟨_, rfl, ?_⟩
 rw [← hu]
 have htw := tw_le (p := Pt.digit) (u := u)
 refine loop_w (P := PG) (X := Nat × Nat) (Y := Nat × Nat) (fun n => envL .und [(0, .ptr r 0), (2, iv 0), (3, .str u), (4, iv n.1), (5, uv n.2)]) (fun n => envL .und [(5, uv n.2), (4, iv n.1), (3, .str u), (0, .ptr r 0)])
  (fun m n H2 nx2 => H2 = H ∧ nx2 = nx1 ∧ m = u.length - n.1 ∧ n.1 ≤ w.length ∧ n.2 ≤ 9223372036854775807 ∧ Pt.numGo 0 u = Pt.numGo n.2 (u.drop n.1))
  (fun id n H2 nx2 => id = 0 ∧ H2 = H ∧ nx2 = nx1 ∧ n.1 = w.length ∧ n.2 ≤ 9223372036854775807 ∧ Pt.numGo 0 u = some n.2) (u.length - 0) (0, 0) (EnvLe.of_list (by exact ⟨rfl, rfl, rfl, rfl, rfl, trivial⟩)) ⟨rfl, rfl, rfl, by simp, by simp, rfl⟩ ?_ ?_
 ·rintro m ⟨n, v⟩ H2 nx2 ⟨rfl, rfl, rfl, hn, hv, hg⟩
  dsimp only at hn hv hg ⊢
  refine WpP.trim (ts := [0, 2, 3, 4, 5]) (WpP.weaken (e := envL .und [(5, uv v), (4, iv n), (3, .str u), (2, iv 0), (0, .ptr r 0)]) (EnvLe.of_list (by exact ⟨rfl, rfl, rfl, rfl, rfl, trivial⟩)) (WpP.of_vK mixed ?_))
  rw [LNum_eq]
  unfold LNum
  rw [hw] at hn
  have hs := tw_step hn
  rw [← hw] at hs
  have out : w.length = n → Pt.numGo v (u.drop n) = some v → _ := fun e e2 => (⟨rfl, (n, v), EnvLe.of_list (by exact ⟨rfl, rfl, rfl, rfl, trivial⟩), rfl, rfl, rfl, e.symm, hv, hg.trans e2⟩ :
   ([] : Dfs) = ([] : Dfs) ∧ ∃ y : Nat × Nat, EnvLe (envL .und [(5, uv y.2), (4, iv y.1), (3, .str u), (0, .ptr r 0)]) (envL .und [(0, .ptr r 0), (2, iv 0), (3, .str u), (4, iv n), (5, uv v)]) ∧ 0 = 0 ∧ H2 = H2 ∧ nx2 = nx2 ∧ y.1 = w.length ∧ y.2 ≤ 9223372036854775807 ∧ Pt.numGo 0 u = some y.2)
  refine ifB_iff.2 ⟨fun h => ?_, fun h => ?_⟩
  ·have h : (n : Int) < (u.length : Int) := of_decide_eq_true h
   have hlt : n < u.length := by omega
   have hget : u[(n : Int).toNat]? = some u[n] := by simp [hlt]
   have hd : u.drop n = u[n] :: u.drop (n + 1) := drop_cons hlt
   refine ⟨by omega, u[n], hget, digit_okS (onEnd_ret.2 ⟨_, rfl, ifB_iff.2 ⟨fun h2 => ?_, fun h2 => ?_⟩⟩)⟩
   ·obtain ⟨d1, d2⟩ := digit_iff.1 h2
    obtain ⟨d, hd0⟩ : ∃ d, d = u[n].toNat - 48 := ⟨_, rfl⟩
    have e1 : IntKind.u64.wrap (IntKind.u8.wrap (Int.ofNat u[n].toNat - 48)) = (d : Int) := by
     have : Int.ofNat u[n].toNat - 48 = (d : Int) := by show (u[n].toNat : Int) - 48 = _; omega
     rw [this, wu8 (by omega) (by omega), wu64 (by omega) (by omega)]
    have e2 : (IntKind.u64.wrap (9223372036854775807 - (d : Int))).tdiv 10 = (((9223372036854775807 - d) / 10 : Nat) : Int) := by
     rw [wu64 (by omega) (by omega), Int.tdiv_eq_ediv_of_nonneg (by omega)]; omega
    have hg' : Pt.numGo 0 u = if (9223372036854775807 - d) / 10 < v then none else Pt.numGo (10 * v + d) (u.drop (n + 1)) := by
     rw [hg, hd, Pt.numGo, if_pos h2, ← hd0]
    refine ⟨by omega, u[n], hget, by decide, ?_⟩
    rw [e1, e2, wu64 (n := (((9223372036854775807 - d) / 10 : Nat) : Int)) (by omega) (by omega)]
    refine ifB_iff.2 ⟨fun h3 => ?_, fun h3 => ?_⟩
    ·have h3 : (((9223372036854775807 - d) / 10 : Nat) : Int) < (v : Int) := of_decide_eq_true h3
     rw [if_pos (by omega)] at hg'
     rw [hg'] at hK
     refine fault_okS I hb hk1 fun H' nx' g1 g2 => onEnd_ret.2 ?_
     exact Eq.mpr (RNum_eq (TriP PG) (LpP PG) (lvSem (TriDP PG)) (lvcSem PG (TriDP PG)) r 0 n v u H' nx' K) (hK ob H' nx' (by omega) I.o0 I.ne g2)
    ·have h3 : ¬ (((9223372036854775807 - d) / 10 : Nat) : Int) < (v : Int) := of_decide_eq_false h3
     rw [if_neg (by omega)] at hg'
     have := (hs.1 u[n] (by simp [hlt])).1 h2
     refine ⟨rfl, u.length - (n + 1), (n + 1, 10 * v + d), by omega, EnvLe.of_list ?_, rfl, rfl, rfl, this, ?_, hg'⟩
     ·rw [wrap64_id (by omega) (by omega), wu64 (n := 10 * (v : Int)) (by omega) (by omega), wu64 (by omega) (by omega), show (10 * (v : Int) + (d : Int)) = ((10 * v + d : Nat) : Int) by omega]
      exact ⟨rfl, rfl, rfl, rfl, rfl, trivial⟩
     ·show 10 * v + d ≤ _; omega
   ·exact out ((hs.1 u[n] (by simp [hlt])).2 h2) (by rw [hd, Pt.numGo, if_neg (by rw [h2]; simp)])
  ·have h : ¬ (n : Int) < (u.length : Int) := of_decide_eq_false h
   exact out (hs.2 (by rw [List.getElem?_eq_none (by omega)])) (by rw [List.drop_eq_nil_of_le (by omega)]; rfl)
 ·rintro id ⟨n, v⟩ H2 nx2 ⟨rfl, rfl, rfl, hn, hv, hg⟩
  dsimp only at hn hv hg ⊢
  refine Eq.mpr (ANum_eq (TriP PG) (LpP PG) (lvSem (TriDP PG)) (lvcSem PG (TriDP PG)) r n v u H2 nx2 K) ?_
  unfold ANum
  have hle : n ≤ u.length := by rw [hn, hw]; exact htw
  have ew : List.take ((some ((n : Nat) : Int).toNat).getD u.length - 0) (List.drop 0 u) = w := by rw [sl_eq, hn, hw, tw_take]
  rw [ew, wrap64_id (by omega) (by omega)]
  rw [hg] at hK
  exact ⟨by omega, sl_le hle, by omega, hK.put (by omega) I (by omega) hk1⟩
end
end
end Go.Vs
end
section
namespace Go.Vs
open Go.Proofs
variable [GTab] {Z : Nat → Prop}
noncomputable section
section
variable {Γ0 : GH} {r ob nx : Nat} {σ : Sst} {H : Heap} {K : EndP}
theorem sign_okS {c : UInt8} {s' : List UInt8} (I : ScI Γ0 r ob σ) (hb : σ.bad = 0) (hk : HZ Z (scG Γ0 r ob σ) H nx) (hu : σ.s.drop σ.a = c :: s') (hK : RdK Z Γ0 r nx σ K (Pt.sign c s')) : TriP PG f_sc_sign [.ptr r 0] H nx K := by
 refine TriP.of_body mixed ?_
 rw [Fsc_sign_eq]
 unfold Fsc_sign
 refine rest_okS I hk fun nx1 h1 hk1 => onEnd_ret.2 ⟨_, rfl, ?_⟩
 rw [hu]
 have ec : ∀ m : UInt8, c = m ↔ Int.ofNat c.toNat = Int.ofNat m.toNat := fun m => by rw [← UInt8.toNat_inj]; show _ ↔ ((c.toNat : Int) = (m.toNat : Int)); omega
 have st : ∀ {m : UInt8} {p q : Prop}, (c = m → p) → (c ≠ m → q) → ifB (decide (Int.ofNat c.toNat = Int.ofNat m.toNat)) p q := fun h1 h2 => ifB_iff.2 ⟨fun e => h1 ((ec _).2 (of_decide_eq_true e)), fun e => h2 fun x => of_decide_eq_false e ((ec _).1 x)⟩
 have e1 : List.take ((some 1).getD (c :: s').length - 0) (List.drop 0 (c :: s')) = [c] := rfl
 have one : Pt.sign c s' = (if c = 59 then .ok (1, [59], 0, 1) else if c ∈ Pt.signs then .ok (6, [c], 0, 1) else .error 10) →
  ((0 : Int) ≤ 0 ∧ ∃ x40, (c :: s')[0]? = some x40 ∧ ifB (decide (Int.ofNat x40.toNat = 59)) (TriP PG f_sc_put [AVal.ptr r 0, iv 1, AVal.str [59], iv 0] H nx1 fun e H i => onEnd e (fun _ => K (.ret (iv 1)) H i) fun l => K (.pan l) H i)
   (ifB (decide (Int.ofNat x40.toNat = 43)) ((0 : Int) ≤ 1 ∧ (some 1).getD (c :: s').length ≤ (c :: s').length ∧ 0 ≤ (some 1).getD (c :: s').length ∧ TriP PG f_sc_put [AVal.ptr r 0, iv 6, AVal.str (List.take ((some 1).getD (c :: s').length - 0) (List.drop 0 (c :: s'))), iv 0] H nx1 fun e H i => onEnd e (fun _ => K (.ret (iv 1)) H i) fun l => K (.pan l) H i)
   (ifB (decide (Int.ofNat x40.toNat = 45)) ((0 : Int) ≤ 1 ∧ (some 1).getD (c :: s').length ≤ (c :: s').length ∧ 0 ≤ (some 1).getD (c :: s').length ∧ TriP PG f_sc_put [AVal.ptr r 0, iv 6, AVal.str (List.take ((some 1).getD (c :: s').length - 0) (List.drop 0 (c :: s'))), iv 0] H nx1 fun e H i => onEnd e (fun _ => K (.ret (iv 1)) H i) fun l => K (.pan l) H i)
   (ifB (decide (Int.ofNat x40.toNat = 42)) ((0 : Int) ≤ 1 ∧ (some 1).getD (c :: s').length ≤ (c :: s').length ∧ 0 ≤ (some 1).getD (c :: s').length ∧ TriP PG f_sc_put [AVal.ptr r 0, iv 6, AVal.str (List.take ((some 1).getD (c :: s').length - 0) (List.drop 0 (c :: s'))), iv 0] H nx1 fun e H i => onEnd e (fun _ => K (.ret (iv 1)) H i) fun l => K (.pan l) H i)
   (ifB (decide (Int.ofNat x40.toNat = 47)) ((0 : Int) ≤ 1 ∧ (some 1).getD (c :: s').length ≤ (c :: s').length ∧ 0 ≤ (some 1).getD (c :: s').length ∧ TriP PG f_sc_put [AVal.ptr r 0, iv 6, AVal.str (List.take ((some 1).getD (c :: s').length - 0) (List.drop 0 (c :: s'))), iv 0] H nx1 fun e H i => onEnd e (fun _ => K (.ret (iv 1)) H i) fun l => K (.pan l) H i)
   (ifB (decide (Int.ofNat x40.toNat = 37)) ((0 : Int) ≤ 1 ∧ (some 1).getD (c :: s').length ≤ (c :: s').length ∧ 0 ≤ (some 1).getD (c :: s').length ∧ TriP PG f_sc_put [AVal.ptr r 0, iv 6, AVal.str (List.take ((some 1).getD (c :: s').length - 0) (List.drop 0 (c :: s'))), iv 0] H nx1 fun e H i => onEnd e (fun _ => K (.ret (iv 1)) H i) fun l => K (.pan l) H i)
   (ifB (decide (Int.ofNat x40.toNat = 60)) ((0 : Int) ≤ 1 ∧ (some 1).getD (c :: s').length ≤ (c :: s').length ∧ 0 ≤ (some 1).getD (c :: s').length ∧ TriP PG f_sc_put [AVal.ptr r 0, iv 6, AVal.str (List.take ((some 1).getD (c :: s').length - 0) (List.drop 0 (c :: s'))), iv 0] H nx1 fun e H i => onEnd e (fun _ => K (.ret (iv 1)) H i) fun l => K (.pan l) H i)
   (ifB (decide (Int.ofNat x40.toNat = 62)) ((0 : Int) ≤ 1 ∧ (some 1).getD (c :: s').length ≤ (c :: s').length ∧ 0 ≤ (some 1).getD (c :: s').length ∧ TriP PG f_sc_put [AVal.ptr r 0, iv 6, AVal.str (List.take ((some 1).getD (c :: s').length - 0) (List.drop 0 (c :: s'))), iv 0] H nx1 fun e H i => onEnd e (fun _ => K (.ret (iv 1)) H i) fun l => K (.pan l) H i)
   (ifB (decide (Int.ofNat x40.toNat = 61)) ((0 : Int) ≤ 1 ∧ (some 1).getD (c :: s').length ≤ (c :: s').length ∧ 0 ≤ (some 1).getD (c :: s').length ∧ TriP PG f_sc_put [AVal.ptr r 0, iv 6, AVal.str (List.take ((some 1).getD (c :: s').length - 0) (List.drop 0 (c :: s'))), iv 0] H nx1 fun e H i => onEnd e (fun _ => K (.ret (iv 1)) H i) fun l => K (.pan l) H i)
   (ifB (decide (Int.ofNat x40.toNat = 33)) ((0 : Int) ≤ 1 ∧ (some 1).getD (c :: s').length ≤ (c :: s').length ∧ 0 ≤ (some 1).getD (c :: s').length ∧ TriP PG f_sc_put [AVal.ptr r 0, iv 6, AVal.str (List.take ((some 1).getD (c :: s').length - 0) (List.drop 0 (c :: s'))), iv 0] H nx1 fun e H i => onEnd e (fun _ => K (.ret (iv 1)) H i) fun l => K (.pan l) H i)
   (ifB (decide (Int.ofNat x40.toNat = 40)) ((0 : Int) ≤ 1 ∧ (some 1).getD (c :: s').length ≤ (c :: s').length ∧ 0 ≤ (some 1).getD (c :: s').length ∧ TriP PG f_sc_put [AVal.ptr r 0, iv 6, AVal.str (List.take ((some 1).getD (c :: s').length - 0) (List.drop 0 (c :: s'))), iv 0] H nx1 fun e H i => onEnd e (fun _ => K (.ret (iv 1)) H i) fun l => K (.pan l) H i)
   (ifB (decide (Int.ofNat x40.toNat = 41)) ((0 : Int) ≤ 1 ∧ (some 1).getD (c :: s').length ≤ (c :: s').length ∧ 0 ≤ (some 1).getD (c :: s').length ∧ TriP PG f_sc_put [AVal.ptr r 0, iv 6, AVal.str (List.take ((some 1).getD (c :: s').length - 0) (List.drop 0 (c :: s'))), iv 0] H nx1 fun e H i => onEnd e (fun _ => K (.ret (iv 1)) H i) fun l => K (.pan l) H i)
   (ifB (decide (Int.ofNat x40.toNat = 91)) ((0 : Int) ≤ 1 ∧ (some 1).getD (c :: s').length ≤ (c :: s').length ∧ 0 ≤ (some 1).getD (c :: s').length ∧ TriP PG f_sc_put [AVal.ptr r 0, iv 6, AVal.str (List.take ((some 1).getD (c :: s').length - 0) (List.drop 0 (c :: s'))), iv 0] H nx1 fun e H i => onEnd e (fun _ => K (.ret (iv 1)) H i) fun l => K (.pan l) H i)
   (ifB (decide (Int.ofNat x40.toNat = 93)) ((0 : Int) ≤ 1 ∧ (some 1).getD (c :: s').length ≤ (c :: s').length ∧ 0 ≤ (some 1).getD (c :: s').length ∧ TriP PG f_sc_put [AVal.ptr r 0, iv 6, AVal.str (List.take ((some 1).getD (c :: s').length - 0) (List.drop 0 (c :: s'))), iv 0] H nx1 fun e H i => onEnd e (fun _ => K (.ret (iv 1)) H i) fun l => K (.pan l) H i)
   (ifB (decide (Int.ofNat x40.toNat = 123)) ((0 : Int) ≤ 1 ∧ (some 1).getD (c :: s').length ≤ (c :: s').length ∧ 0 ≤ (some 1).getD (c :: s').length ∧ TriP PG f_sc_put [AVal.ptr r 0, iv 6, AVal.str (List.take ((some 1).getD (c :: s').length - 0) (List.drop 0 (c :: s'))), iv 0] H nx1 fun e H i => onEnd e (fun _ => K (.ret (iv 1)) H i) fun l => K (.pan l) H i)
   (ifB (decide (Int.ofNat x40.toNat = 125)) ((0 : Int) ≤ 1 ∧ (some 1).getD (c :: s').length ≤ (c :: s').length ∧ 0 ≤ (some 1).getD (c :: s').length ∧ TriP PG f_sc_put [AVal.ptr r 0, iv 6, AVal.str (List.take ((some 1).getD (c :: s').length - 0) (List.drop 0 (c :: s'))), iv 0] H nx1 fun e H i => onEnd e (fun _ => K (.ret (iv 1)) H i) fun l => K (.pan l) H i)
   (ifB (decide (Int.ofNat x40.toNat = 44)) ((0 : Int) ≤ 1 ∧ (some 1).getD (c :: s').length ≤ (c :: s').length ∧ 0 ≤ (some 1).getD (c :: s').length ∧ TriP PG f_sc_put [AVal.ptr r 0, iv 6, AVal.str (List.take ((some 1).getD (c :: s').length - 0) (List.drop 0 (c :: s'))), iv 0] H nx1 fun e H i => onEnd e (fun _ => K (.ret (iv 1)) H i) fun l => K (.pan l) H i)
   (ifB (decide (Int.ofNat x40.toNat = 46)) ((0 : Int) ≤ 1 ∧ (some 1).getD (c :: s').length ≤ (c :: s').length ∧ 0 ≤ (some 1).getD (c :: s').length ∧ TriP PG f_sc_put [AVal.ptr r 0, iv 6, AVal.str (List.take ((some 1).getD (c :: s').length - 0) (List.drop 0 (c :: s'))), iv 0] H nx1 fun e H i => onEnd e (fun _ => K (.ret (iv 1)) H i) fun l => K (.pan l) H i)
   (TriP PG f_sc_fault [AVal.ptr r 0, iv 10] H nx1 fun e H i => onEnd e (fun _ => K (.ret (iv 0)) H i) fun l => K (.pan l) H i))))))))))))))))))) := fun e => by
  rw [e] at hK
  refine ⟨by omega, c, rfl, st (m := 59) (fun h => ?_) fun h0 => ?_⟩
  ·rw [if_pos h] at hK; exact hK.put (by rfl) I (by omega) hk1
  rw [if_neg h0] at hK
  have yes : c ∈ Pt.signs → ((0 : Int) ≤ 1 ∧ (some 1).getD (c :: s').length ≤ (c :: s').length ∧ 0 ≤ (some 1).getD (c :: s').length ∧ TriP PG f_sc_put [AVal.ptr r 0, iv 6, AVal.str (List.take ((some 1).getD (c :: s').length - 0) (List.drop 0 (c :: s'))), iv 0] H nx1 fun e H i => onEnd e (fun _ => K (.ret (iv 1)) H i) fun l => K (.pan l) H i) := fun h => by
   rw [if_pos h] at hK
   exact ⟨by omega, by simp, by simp, by rw [e1]; exact hK.put (by rfl) I (by omega) hk1⟩
  refine st (m := 43) (fun h => yes (by rw [h]; decide)) fun h1 => ?_
  refine st (m := 45) (fun h => yes (by rw [h]; decide)) fun h2 => ?_
  refine st (m := 42) (fun h => yes (by rw [h]; decide)) fun h3 => ?_
  refine st (m := 47) (fun h => yes (by rw [h]; decide)) fun h4 => ?_
  refine st (m := 37) (fun h => yes (by rw [h]; decide)) fun h5 => ?_
  refine st (m := 60) (fun h => yes (by rw [h]; decide)) fun h6 => ?_
  refine st (m := 62) (fun h => yes (by rw [h]; decide)) fun h7 => ?_
  refine st (m := 61) (fun h => yes (by rw [h]; decide)) fun h8 => ?_
  refine st (m := 33) (fun h => yes (by rw [h]; decide)) fun h9 => ?_
  refine st (m := 40) (fun h => yes (by rw [h]; decide)) fun h10 => ?_
  refine st (m := 41) (fun h => yes (by rw [h]; decide)) fun h11 => ?_
  refine st (m := 91) (fun h => yes (by rw [h]; decide)) fun h12 => ?_
  refine st (m := 93) (fun h => yes (by rw [h]; decide)) fun h13 => ?_
  refine st (m := 123) (fun h => yes (by rw [h]; decide)) fun h14 => ?_
  refine st (m := 125) (fun h => yes (by rw [h]; decide)) fun h15 => ?_
  refine st (m := 44) (fun h => yes (by rw [h]; decide)) fun h16 => ?_
  refine st (m := 46) (fun h => yes (by rw [h]; decide)) fun h17 => ?_
  rw [if_neg (by intro h; simp only [Pt.signs, List.mem_cons, List.not_mem_nil, or_false] at h; rcases h with h | h | h | h | h | h | h | h | h | h | h | h | h | h | h | h | h; exact h1 h; exact h2 h; exact h3 h; exact h4 h; exact h5 h; exact h6 h; exact h7 h; exact h8 h; exact h9 h; exact h10 h; exact h11 h; exact h12 h; exact h13 h; exact h14 h; exact h15 h; exact h16 h; exact h17 h)] at hK
  exact hK.flt I hb (by omega) hk1
 refine ifB_iff.2 ⟨fun h => ?_, fun h => ?_⟩
 ·have h : (1 : Int) < ((c :: s').length : Int) := of_decide_eq_true h
  cases s' with
  | nil => simp at h
  | cons e s' =>
   have e2 : List.take ((some 2).getD (c :: e :: s').length - 0) (List.drop 0 (c :: e :: s')) = [c, e] := rfl
   have yes : [c, e] ∈ Pt.pairs → ((0 : Int) ≤ 2 ∧ (some 2).getD (c :: e :: s').length ≤ (c :: e :: s').length ∧ 0 ≤ (some 2).getD (c :: e :: s').length ∧ TriP PG f_sc_put [AVal.ptr r 0, iv 6, AVal.str (List.take ((some 2).getD (c :: e :: s').length - 0) (List.drop 0 (c :: e :: s'))), iv 0] H nx1 fun e H i => onEnd e (fun _ => K (.ret (iv 2)) H i) fun l => K (.pan l) H i) := fun h => by
    have : Pt.sign c (e :: s') = .ok (6, [c, e], 0, 2) := by unfold Pt.sign; dsimp only; rw [if_pos h]
    rw [this] at hK
    exact ⟨by omega, by simp, by simp, by rw [e2]; exact hK.put (by rfl) I (by omega) hk1⟩
   refine ⟨by omega, by simp, by simp, st_if (fun h => yes (by rw [show [c, e] = [58, 61] from h]; decide)) fun h0 => ?_⟩
   refine st_if (fun h => yes (by rw [show [c, e] = [61, 61] from h]; decide)) fun h1 => ?_
   refine st_if (fun h => yes (by rw [show [c, e] = [33, 61] from h]; decide)) fun h2 => ?_
   refine st_if (fun h => yes (by rw [show [c, e] = [60, 61] from h]; decide)) fun h3 => ?_
   refine st_if (fun h => yes (by rw [show [c, e] = [62, 61] from h]; decide)) fun h4 => ?_
   refine st_if (fun h => yes (by rw [show [c, e] = [38, 38] from h]; decide)) fun h5 => ?_
   refine st_if (fun h => yes (by rw [show [c, e] = [124, 124] from h]; decide)) fun h6 => ?_
   refine one ?_
   unfold Pt.sign
   dsimp only
   rw [if_neg (by intro h; simp only [Pt.pairs, List.mem_cons, List.not_mem_nil, or_false] at h; rcases h with h | h | h | h | h | h | h; exact h0 h; exact h1 h; exact h2 h; exact h3 h; exact h4 h; exact h5 h; exact h6 h)]
 ·have h : ¬ (1 : Int) < ((c :: s').length : Int) := of_decide_eq_false h
  cases s' with
  | nil => exact one rfl
  | cons e s' => simp at h; omega
end
end
end Go.Vs
end
section
namespace Go.Vs
namespace Pt
theorem textGo_len : ∀ (m : Nat) (s : List UInt8) {n : Nat} {out w : List UInt8} {k : Nat}, s.length ≤ m → textGo n out s = some (w, k) → n + 1 ≤ k ∧ k ≤ n + s.length
 | _, [], _, _, _, _, _, h => by simp [textGo] at h
 | m + 1, c :: s, n, out, w, k, hm, h => by
  have hm' : s.length ≤ m := by simpa using hm
  rw [textGo.eq_def] at h
  dsimp only at h
  split at h
  ·cases h; simp
  ·split at h
   ·cases s with
    | nil => simp at h
    | cons e s =>
     simp at hm'
     simp only at h
     split at h
     ·have := textGo_len m s (by omega) h; simp; omega
     ·split at h
      ·have := textGo_len m s (by omega) h; simp; omega
      ·split at h
       ·have := textGo_len m s (by omega) h; simp; omega
       ·cases h
   ·split at h
    ·cases h
    ·have := textGo_len m s hm' h; simp; omega
theorem tw_le' {p : UInt8 → Bool} : ∀ {u : List UInt8}, (u.takeWhile p).length ≤ u.length
 | [] => Nat.le_refl _
 | x :: u => by rw [List.takeWhile_cons]; split <;> simp [tw_le' (p := p) (u := u)]
theorem sign_len {c : UInt8} {s : List UInt8} {k : Int} {tx : List UInt8} {v : Int} {n : Nat} (h : sign c s = .ok (k, tx, v, n)) : 1 ≤ n ∧ n ≤ s.length + 1 ∧ k ≠ 0 := by
 unfold sign at h
 cases s with
 | nil =>
  dsimp only at h
  split at h
  ·cases h; simp
  ·split at h
   ·cases h; simp
   ·cases h
 | cons e s =>
  dsimp only at h
  split at h
  ·cases h; simp
  ·split at h
   ·cases h; simp
   ·split at h
    ·cases h; simp
    ·cases h
theorem one_len {c : UInt8} {s : List UInt8} {k : Int} {tx : List UInt8} {v : Int} {n : Nat} (h : one c s = .ok (k, tx, v, n)) : 1 ≤ n ∧ n ≤ s.length + 1 ∧ k ≠ 0 := by
 unfold one at h
 dsimp only at h
 split at h
 ·cases h
  have := tw_le' (p := fun c => letter c || digit c) (u := s)
  refine ⟨by simp, by simp; exact this, ?_⟩
  split <;> decide
 ·split at h
  ·split at h
   ·cases h
    have := tw_le' (p := digit) (u := s)
    exact ⟨by omega, by omega, by decide⟩
   ·cases h
  ·split at h
   ·split at h
    ·rename_i hg
     cases h
     have := textGo_len s.length s (Nat.le_refl _) hg
     exact ⟨by omega, by omega, by decide⟩
    ·cases h
   ·exact sign_len h
theorem one_err {c : UInt8} {s : List UInt8} {e : Int} (h : one c s = .error e) : e ≠ 0 := by
 unfold one at h
 dsimp only at h
 split at h
 ·cases h
 ·split at h
  ·split at h
   ·cases h
   ·cases h; decide
  ·split at h
   ·split at h
    ·cases h
    ·cases h; decide
   ·unfold sign at h
    cases s with
    | nil => dsimp only at h; split at h <;> first | (cases h; done) | (split at h <;> first | (cases h; done) | (cases h; decide))
    | cons e s => dsimp only at h; split at h <;> first | (cases h; done) | (split at h <;> first | (cases h; done) | (split at h <;> first | (cases h; done) | (cases h; decide)))
theorem put_ok {out : List Tok} {t : Tok} {l : List Tok} (h : put out t = .ok l) : l = out ++ [t] ∧ out.length < 4000 := by
 unfold put at h
 split at h
 ·cases h
 ·cases h; exact ⟨rfl, by omega⟩
theorem put_bad {out : List Tok} {t : Tok} {f : Flt} (h : put out t = .error f) : f.e = 6 := by
 unfold put at h
 split at h
 ·cases h; rfl
 ·cases h
theorem putEnd_ok {out : List Tok} {line col : Int} {l : List Tok} (h : putEnd out line col = .ok l) (ho : ∀ t, t ∈ out → t.kind ≠ 0) : ∀ t, t ∈ l → t.kind ≠ 0 := by
 unfold putEnd at h
 split at h
 ·obtain ⟨rfl, _⟩ := put_ok h
  intro t ht
  rw [List.mem_append] at ht
  rcases ht with ht | ht
  ·exact ho t ht
  ·simp at ht; subst ht; show (1 : Int) ≠ 0; decide
 ·cases h; exact ho
def Good (l : List Tok) : Prop := ∃ l' L C, l = l' ++ [⟨0, [], 0, L, C⟩] ∧ (∀ t, t ∈ l' → t.kind ≠ 0) ∧ l'.length < 4000
theorem scan_good : ∀ f s line col out l, scan f s line col out = .ok l → (∀ t, t ∈ out → t.kind ≠ 0) → Good l
 | f, [], line, col, out, l, h, ho => by
  have h : (putEnd out line col >>= fun out => put out ⟨0, [], 0, line, col⟩) = .ok l := by cases f <;> exact h
  cases he : putEnd out line col with
  | error e => rw [he] at h; cases h
  | ok o =>
   rw [he] at h
   obtain ⟨rfl, hl⟩ := put_ok h
   exact ⟨o, line, col, rfl, putEnd_ok he ho, hl⟩
 | 0, c :: s, _, _, _, _, h, _ => by cases h
 | f + 1, c :: s, line, col, out, l, h, ho => by
  rw [scan] at h
  split at h
  ·cases he : putEnd out line col with
   | error e => rw [he] at h; cases h
   | ok o =>
    rw [he] at h
    exact scan_good f s _ _ o l h (putEnd_ok he ho)
  ·split at h
   ·exact scan_good f s _ _ out l h ho
   ·split at h
    ·exact scan_good f _ _ _ out l h ho
    ·split at h
     ·cases h
     ·rename_i k tx v n h1
      cases he : put out ⟨k, tx, v, line, col⟩ with
      | error e => rw [he] at h; cases h
      | ok o =>
       rw [he] at h
       obtain ⟨rfl, _⟩ := put_ok he
       refine scan_good f _ _ _ _ l h fun t ht => ?_
       rw [List.mem_append] at ht
       rcases ht with ht | ht
       ·exact ho t ht
       ·simp at ht; subst ht; exact (one_len h1).2.2
theorem Good.toks {l : List Tok} (h : Good l) : Toks l := by
 obtain ⟨l', L, C, rfl, h1, h2⟩ := h
 refine ⟨by simp, by simp; omega, ?_, fun i hi => ?_⟩
 ·unfold Ps.tk
  simp [List.getD]
 ·simp at hi
  unfold Ps.tk
  rw [List.getD, List.getElem?_append_left hi, List.getElem?_eq_getElem hi]
  exact h1 _ (List.getElem_mem hi)
theorem toks_good {s : List UInt8} {l : List Tok} (h : toks s = .ok l) : Good l := by
 unfold toks at h
 split at h
 ·cases h
 ·exact scan_good _ _ _ _ _ _ h (by simp)
theorem scan_err : ∀ f s line col out e, s.length ≤ f → scan f s line col out = .error e → e.e ≠ 0
 | f, [], line, col, out, e, _, h => by
  have h : (putEnd out line col >>= fun out => put out ⟨0, [], 0, line, col⟩) = .error e := by cases f <;> exact h
  cases he : putEnd out line col with
  | error e' =>
   rw [he] at h
   have : e' = e := by cases h; rfl
   subst this
   unfold putEnd at he
   split at he
   ·rw [put_bad he]; decide
   ·cases he
  | ok o => rw [he] at h; rw [put_bad h]; decide
 | 0, c :: s, _, _, _, _, hl, _ => by simp at hl
 | f + 1, c :: s, line, col, out, e, hl, h => by
  have hl : s.length ≤ f := by simpa using hl
  rw [scan] at h
  split at h
  ·cases he : putEnd out line col with
   | error e' =>
    rw [he] at h
    have : e' = e := by cases h; rfl
    subst this
    unfold putEnd at he
    split at he
    ·rw [put_bad he]; decide
    ·cases he
   | ok o => rw [he] at h; exact scan_err f s _ _ o e hl h
  ·split at h
   ·exact scan_err f s _ _ out e hl h
   ·split at h
    ·exact scan_err f _ _ _ out e (by simp; omega) h
    ·split at h
     ·rename_i e' h1
      cases h
      exact one_err h1
     ·rename_i k tx v n h1
      cases he : put out ⟨k, tx, v, line, col⟩ with
      | error e' =>
       rw [he] at h
       have : e' = e := by cases h; rfl
       subst this
       rw [put_bad he]; decide
      | ok o => rw [he] at h; exact scan_err f _ _ _ o e (by simp; omega) h
theorem toks_err {s : List UInt8} {e : Flt} (h : toks s = .error e) : e.e ≠ 0 := by
 unfold toks at h
 split at h
 ·cases h; decide
 ·exact scan_err _ _ _ _ _ _ (Nat.le_refl _) h
end Pt
end Go.Vs
end
section
namespace Go.Vs
open Go.Proofs
variable [GTab] {Z : Nat → Prop}
noncomputable section
theorem WpP.part {P : Program} {nt : Nat} {c : Code} {env : Env} {H : Heap} {nx : Nat} {dfs : Dfs} {K : KP} {ts : List Nat} (hm : P.follows .mixedOrders = true)
  (h : vK P (TriP P) (LpP P nt) nt c env H nx dfs none (trimK ts (loopK (fun e H n d _ => K .normal e H n d none) (fun id e H n d _ => K (.exit id) e H n d none) (fun e H n d _ => K .ret e H n d none) (fun l e H n d _ => K (.pan l) e H n d none)))) : WpP P nt c env H nx dfs K :=
 WpP.trim (WpP.mono (WpP.of_vK hm h) (by intro ex env' H' nx' dfs' h; cases ex <;> exact h))
def bytesV (w : List UInt8) : List AVal := w.map fun b => AVal.int .u8 (.ofNat b.toNat)
theorem bytesOf_v : ∀ w : List UInt8, bytesOf (bytesV w) = some w
 | [] => rfl
 | c :: w => by
  have hb : Nat.ble c.toNat 255 = true := Nat.ble_eq_true_of_le (by have := c.toNat_lt; omega)
  show bytesOf (AVal.int .u8 (.ofNat c.toNat) :: bytesV w) = _
  rw [bytesOf, hb, bytesOf_v w]
  simp
theorem HZ.str {Γ : GH} {H : Heap} {nx b : Nat} {w : List UInt8} {full : Bool} (h : HZ Z Γ H nx) (e : Γ b = some (bytesV w)) : strOf H (.slice b 0 w.length 1 full) = some w := by
 obtain ⟨_, olds, ⟨ct, hb, hc⟩, _⟩ := h.2 b _ e
 unfold strOf
 simp only [get5]
 rw [hb]
 have hl : (bytesV w).length = w.length := by simp [bytesV]
 have : Nat.ble (Nat.add 0 w.length) (bytesV w).length = true := Nat.ble_eq_true_of_le (by rw [hl]; simp)
 simp only [this]
 rw [slab_take hc (by rw [hl]; omega)]
 rw [List.drop_zero, ← hl, List.take_length]
 exact bytesOf_v w
def wordV (bb : Nat) : List UInt8 → AVal
 | [] => .nilSlice
 | c :: w => .slice bb 0 (c :: w).length 1 false
def wordG (Γ : GH) (bb : Nat) : List UInt8 → GH
 | [] => Γ
 | c :: w => gup bb (some (bytesV (c :: w))) Γ
theorem wordV_len {bb : Nat} {w : List UInt8} : lenS (wordV bb w) = some w.length := by cases w <;> rfl
theorem wordV_str {Γ : GH} {H : Heap} {nx bb : Nat} {w : List UInt8} (h : HZ Z (wordG Γ bb w) H nx) : strOf H (wordV bb w) = some w := by
 cases w with
 | nil => rfl
 | cons c w => exact h.str (gup_same _ _ _)
theorem wordG_sub {Γ : GH} {bb : Nat} {w : List UInt8} (hb : Γ bb = none) (b : Nat) (cs : List AVal) (e : Γ b = some cs) : wordG Γ bb w b = some cs := by
 cases w with
 | nil => exact e
 | cons c w => exact (gup_ne (neK e hb)).trans e
theorem word_more {Γ : GH} {H : Heap} {nx bb : Nat} {w : List UInt8} {c : UInt8} (hk : HZ Z (wordG Γ bb w) H nx) (hb : Γ bb = none) (hw : w.length ≤ 20000) {k : AVal → Heap → Nat → Prop}
  (hK : ∀ bb' H' nx', nx ≤ nx' → Γ bb' = none → HZ Z (wordG Γ bb' (w ++ [c])) H' nx' → k (wordV bb' (w ++ [c])) H' nx') :
  ∃ H0, H0 = newB nx [bv (Int.ofNat c.toNat)] H ∧ ∃ i13 l14, aSrc 1 H0 (AVal.slice nx 0 1 1 true) = some (i13, l14) ∧ allCell l14 = true ∧ ∃ v15 H16 i17, appC H0 (nx + 1) 1 1 (wordV bb w) i13 l14 = some (v15, H16, i17) ∧ k v15 H16 i17 := by
 have hf := hk.fresh (Nat.le_refl nx)
 refine scrN hk (nx' := nx + 1) (Nat.le_refl _) (by omega) fun H1 h1 => ⟨1, [bv (Int.ofNat c.toNat)], by rw [h1.src (gup_same _ _ _) (by simp)]; simp, rfl, ?_⟩
 have hf2 := h1.fresh (Nat.le_refl (nx + 1))
 have hg1 : Γ nx = none := by
  cases e : Γ nx with
  | none => rfl
  | some cs => rw [wordG_sub hb _ _ e] at hf; cases hf
 have hg2 : Γ (nx + 1) = none := by
  cases e : Γ (nx + 1) with
  | none => rfl
  | some cs => rw [gup_ne (by omega), wordG_sub hb _ _ e] at hf2; cases hf2
 have hs : ∀ b cs, Γ b = some cs → gup nx (some [bv (Int.ofNat c.toNat)]) (wordG Γ bb w) b = some cs := fun b cs e => (gup_ne (neK e hg1)).trans (wordG_sub hb b cs e)
 cases w with
 | nil =>
  obtain ⟨H2, a1, a2⟩ := h1.appNil (esz := 1) (ebytes := 1) (k := 1) (new := [bv (Int.ofNat c.toNat)]) (by simp) (by omega) (by omega) (by omega)
  refine ⟨_, H2, _, a1, hK (nx + 1) _ _ (by omega) hg2 (a2.sub fun b cs e => ?_)⟩
  have e : gup (nx + 1) (some (bytesV [c])) Γ b = some cs := e
  by_cases hb2 : b = nx + 1
  ·subst hb2; rw [gup_same] at e ⊢; exact e
  ·rw [gup_ne hb2] at e ⊢; exact hs b cs e
 | cons x w =>
  have hbn : bb ≠ nx := neK (gup_same bb (some (bytesV (x :: w))) Γ) hf
  have hl : (bytesV (x :: w)).length = (x :: w).length := by simp [bytesV]
  obtain ⟨H2, a1, a2⟩ := h1.app (b := bb) (cs := bytesV (x :: w)) (esz := 1) (ebytes := 1) (k := 1) (len := (x :: w).length) (new := [bv (Int.ofNat c.toNat)]) ((gup_ne hbn).trans (gup_same _ _ _)) (by omega) (by simp) (by omega) (by omega) (by omega)
  refine ⟨_, H2, _, a1, ?_⟩
  have ev : wordV (nx + 1) (x :: w ++ [c]) = .slice (nx + 1) 0 ((x :: w).length + 1) 1 false := by simp [wordV]
  rw [← ev]
  refine hK (nx + 1) _ _ (by omega) hg2 (a2.sub fun b cs e => ?_)
  have e : gup (nx + 1) (some (bytesV (x :: w ++ [c]))) Γ b = some cs := e
  by_cases hb2 : b = nx + 1
  ·subst hb2
   rw [gup_same] at e ⊢
   rw [← e]
   have : (bytesV (x :: w)).take ((x :: w).length * 1) = bytesV (x :: w) := by rw [Nat.mul_one, ← hl, List.take_length]
   rw [this]
   simp [bytesV]
  ·rw [gup_ne hb2] at e ⊢
   rw [gup_ne (neK e hb)]
   exact hs b cs e
theorem RText_eq (call : CallP) (lp : Nat → LoopP) (lv : LeaveP) (lvc : LeaveC) (r : Nat) (x n c : Int) (o : AVal) (s : List UInt8) (H : Heap) (nx : Nat) (K : EndP) :
  contAt PG call (lp 84) 84 (codeOf PG f_sc_text) [1, 1, 1, 0, 1, 0] (endK PG lv lvc K (resOf PG f_sc_text)) .ret (envL .und [(0, .ptr r 0), (2, iv x), (3, .str s), (4, o), (5, iv n), (6, bv c)]) H nx [] none = K (.ret (iv x)) H nx := by kernel_rfl
theorem XT_code : subAt (codeOf PG f_sc_text) [1,1,1,0,1,0,0] = .seq (subAt (codeOf PG f_sc_text) [1,1,1,0,1,0,0,0]) (.seq (.block 1 (.seq (subAt (codeOf PG f_sc_text) [1,1,1,0,1,0,0,1,0,0,0]) (.block 2 (.seq (subAt (codeOf PG f_sc_text) [1,1,1,0,1,0,0,1,0,0,1,0,0]) (.cond (.tmp 24) (subAt (codeOf PG f_sc_text) [1,1,1,0,1,0,0,1,0,0,1,0,1,0])
  (.seq (subAt (codeOf PG f_sc_text) [1,1,1,0,1,0,0,1,0,0,1,0,1,1,0]) (.cond (.tmp 38) (subAt (codeOf PG f_sc_text) [1,1,1,0,1,0,0,1,0,0,1,0,1,1,1,0]) (subAt (codeOf PG f_sc_text) [1,1,1,0,1,0,0,1,0,0,1,0,1,1,1,1]))))))))  (subAt (codeOf PG f_sc_text) [1,1,1,0,1,0,0,1,1])) := by kernel_rfl
section
variable {Γ0 : GH} {r ob nx : Nat} {σ : Sst} {H : Heap} {K : EndP}
def txtR (u : List UInt8) : Except Int (Int × List UInt8 × Int × Nat) := match Pt.textGo 1 [] (u.drop 1) with
 | some (w, n) => .ok (5, w, 0, n)
 | none => .error 11
theorem else_ok {K0 : KP} {u w : List UInt8} {c : UInt8} {n bb nx2 : Nat} {H2 : Heap} (I : ScI Γ0 r ob σ) (hbad : σ.bad = 0) (hul : u.length ≤ 16384) (hk2 : HZ Z (wordG (scG Γ0 r ob σ) bb w) H2 nx2) (hbb : scG Γ0 r ob σ bb = none) (hn1 : 1 ≤ n) (hlt : n < u.length) (hwn : w.length ≤ n) (hd : u.drop n = c :: u.drop (n + 1))
  (hno : ¬ (c = 34 ∧ w.length ≤ 2000)) (hg : Pt.textGo 1 [] (u.drop 1) = Pt.textGo n w (c :: u.drop (n + 1)))
  (hgo : ∀ bb' w' n' H3 nx3, nx2 ≤ nx3 → scG Γ0 r ob σ bb' = none → HZ Z (wordG (scG Γ0 r ob σ) bb' w') H3 nx3 → n ≤ n' → n' + 1 ≤ u.length → w'.length ≤ n' + 1 → Pt.textGo 1 [] (u.drop 1) = Pt.textGo (n' + 1) w' (u.drop (n' + 1)) →
   K0 .normal (envL .und [(0, .ptr r 0), (2, iv 0), (3, .str u), (4, wordV bb' w'), (5, iv (n' : Nat)), (6, bv (Int.ofNat c.toNat))]) H3 nx3 [] none)
  (hflt : Pt.textGo 1 [] (u.drop 1) = none → ∀ (n' : Int) H3 nx3, nx2 ≤ nx3 → HZ Z (scG Γ0 r ob { σ with bad := 11, wl := σ.line, wc := σ.col }) H3 nx3 →
   K0 .ret (envL .und [(0, .ptr r 0), (2, iv 0), (3, .str u), (4, wordV bb w), (5, iv n'), (6, bv (Int.ofNat c.toNat))]) H3 nx3 [] none) :
  WpP PG 84 (.seq (subAt (codeOf PG f_sc_text) [1,1,1,0,1,0,0,1,0,0,1,0,1,1,0]) (.cond (.tmp 38) (subAt (codeOf PG f_sc_text) [1,1,1,0,1,0,0,1,0,0,1,0,1,1,1,0]) (subAt (codeOf PG f_sc_text) [1,1,1,0,1,0,0,1,0,0,1,0,1,1,1,1])))
   (envL .und [(6, bv (Int.ofNat c.toNat)), (5, iv n), (4, wordV bb w), (3, .str u), (2, iv 0), (0, .ptr r 0)]) H2 nx2 [] K0 := by
 have hk0 : HZ Z (scG Γ0 r ob σ) H2 nx2 := hk2.sub (wordG_sub hbb)
 have ec : ∀ m : UInt8, c = m ↔ Int.ofNat c.toNat = Int.ofNat m.toNat := fun m => by rw [← UInt8.toNat_inj]; show _ ↔ ((c.toNat : Int) = (m.toNat : Int)); omega
 have hq := Pt.textGo.eq_def n w (c :: u.drop (n + 1))
 dsimp only at hq
 rw [hq] at hg
 clear hq
 rw [if_neg hno] at hg
 have part3 : c ≠ 92 ∨ u.drop (n + 1) = [] → ∀ {env : Env}, EnvLe (envL .und [(6, bv (Int.ofNat c.toNat)), (5, iv n), (4, wordV bb w), (3, .str u), (2, iv 0), (0, .ptr r 0)]) env → WpP PG 84 (subAt (codeOf PG f_sc_text) [1,1,1,0,1,0,0,1,0,0,1,0,1,1,1,1]) env H2 nx2 [] K0 := fun h92 {env} hle => by
  refine WpP.weaken hle (WpP.part (ts := [0, 2, 3, 4, 5, 6]) mixed ?_)
  rw [XT4_eq]
  unfold XT4
  have bad : Pt.textGo 1 [] (u.drop 1) = none → ∀ {pK : List (AVal × Bool) → Heap → Nat → Prop}, TriP PG f_sc_fault [.ptr r 0, iv 11] H2 nx2 fun e H1 i2 => onEnd e (fun _ => K0 .ret (envL .und [(0, .ptr r 0), (2, iv 0), (3, .str u), (4, wordV bb w), (5, iv n), (6, bv (Int.ofNat c.toNat))]) H1 i2 [] none) fun l => pK l H1 i2 :=
   fun e {pK} => fault_okS I hbad hk0 fun H' nx' g1 g2 => onEnd_ret.2 (hflt e n H' nx' g1 g2)
  by_cases h5 : c = 92
  ·have hnil : u.drop (n + 1) = [] := h92.resolve_left (by simp [h5])
   rw [if_pos h5, hnil] at hg
   subst h5
   refine ifB_iff.2 ⟨fun h => absurd (of_decide_eq_true h) (by decide), fun _ => ifB_iff.2 ⟨fun h => absurd (of_decide_eq_true h) (by decide), fun _ => ifB_iff.2 ⟨fun h => absurd (of_decide_eq_true h) (by decide), fun _ => ifB_iff.2 ⟨fun _ => bad hg, fun h => absurd rfl (of_decide_eq_false h)⟩⟩⟩⟩
  ·rw [if_neg h5] at hg
   refine ifB_iff.2 ⟨fun h => ?_, fun h => ifB_iff.2 ⟨fun h2 => ?_, fun h2 => ifB_iff.2 ⟨fun h3 => ?_, fun h3 => ifB_iff.2 ⟨fun h4 => absurd ((ec 92).2 (of_decide_eq_true h4)) h5, fun _ => ?_⟩⟩⟩⟩
   ·have h : (c.toNat : Int) < 32 := of_decide_eq_true h
    rw [if_pos (.inl (by rw [UInt8.lt_iff_toNat_lt]; show c.toNat < 32; omega))] at hg
    exact bad hg
   ·have h2 : (126 : Int) < (c.toNat : Int) := of_decide_eq_true h2
    rw [if_pos (.inr (.inl (by rw [UInt8.lt_iff_toNat_lt]; show 126 < c.toNat; omega)))] at hg
    exact bad hg
   ·rw [if_pos (.inr (.inr ((ec 34).2 (of_decide_eq_true h3))))] at hg
    exact bad hg
   ·have h : ¬ (c.toNat : Int) < 32 := of_decide_eq_false h
    have h2 : ¬ (126 : Int) < (c.toNat : Int) := of_decide_eq_false h2
    rw [if_neg (by
     rintro (x | x | x)
     ·rw [UInt8.lt_iff_toNat_lt] at x; have x : c.toNat < 32 := x; omega
     ·rw [UInt8.lt_iff_toNat_lt] at x; have x : 126 < c.toNat := x; omega
     ·exact of_decide_eq_false h3 ((ec 34).1 x))] at hg
    refine ⟨rfl, word_more hk2 hbb (by omega) fun bb' H3 nx3 g1 g2 g3 => ?_⟩
    exact hgo bb' (w ++ [c]) n H3 nx3 g1 g2 g3 (Nat.le_refl _) (by omega) (by simp; omega) hg
 refine WpP.seq (WpP.part (ts := [0, 2, 3, 4, 5, 6, 38]) mixed ?_)
 rw [XC2_eq]
 unfold XC2
 refine ifB_iff.2 ⟨fun h => ?_, fun h => ?_⟩
 ·have h5 : c = 92 := (ec 92).2 (of_decide_eq_true h)
  rw [wrap64_id (by omega) (by omega)]
  show WpP _ _ (.cond _ _ _) _ _ _ _ _
  by_cases hl : n + 1 < u.length
  ·refine WpP.cond (p := true) (by show AVal.bool (decide _) = _; rw [decide_eq_true (by show (n : Int) + 1 < (u.length : Int); omega)]) ?_
   show WpP _ _ _ _ _ _ _ _
   refine WpP.weaken (e := envL .und [(6, bv (Int.ofNat c.toNat)), (5, iv n), (4, wordV bb w), (3, .str u), (2, iv 0), (0, .ptr r 0)]) (EnvLe.of_list (by exact ⟨rfl, rfl, rfl, rfl, rfl, rfl, trivial⟩)) (WpP.part (ts := [0, 2, 3, 4, 5, 6]) mixed ?_)
   rw [XT3_eq]
   unfold XT3
   rw [wrap64_id (by omega) (by omega)]
   obtain ⟨e, he⟩ : ∃ e, e = u[n + 1] := ⟨_, rfl⟩
   have hd2 : u.drop (n + 1) = e :: u.drop (n + 2) := by rw [he]; exact drop_cons hl
   rw [if_pos h5, hd2] at hg
   dsimp only at hg
   refine ⟨by omega, e, by rw [show ((n : Int) + 1).toNat = n + 1 by omega]; simp [hl, he], escape_okS (onEnd_ret.2 ?_)⟩
   by_cases q1 : e = 110
   ·rw [if_pos q1] at hg ⊢; exact ⟨Int.ofNat (10 : UInt8).toNat, true, rfl, ifB_iff.2 ⟨fun h => Bool.noConfusion h, fun _ => ⟨rfl, word_more (c := 10) hk2 hbb (by omega) fun bb' H3 nx3 g1 g2 g3 => hgo bb' (w ++ [10]) (n + 1) H3 nx3 g1 g2 g3 (by omega) (by omega) (by simp; omega) hg⟩⟩⟩
   rw [if_neg q1] at hg ⊢
   by_cases q2 : e = 116
   ·rw [if_pos q2] at hg ⊢; exact ⟨Int.ofNat (9 : UInt8).toNat, true, rfl, ifB_iff.2 ⟨fun h => Bool.noConfusion h, fun _ => ⟨rfl, word_more (c := 9) hk2 hbb (by omega) fun bb' H3 nx3 g1 g2 g3 => hgo bb' (w ++ [9]) (n + 1) H3 nx3 g1 g2 g3 (by omega) (by omega) (by simp; omega) hg⟩⟩⟩
   rw [if_neg q2] at hg ⊢
   by_cases q3 : e = 34 ∨ e = 92
   ·rw [if_pos q3] at hg ⊢; exact ⟨Int.ofNat (e : UInt8).toNat, true, rfl, ifB_iff.2 ⟨fun h => Bool.noConfusion h, fun _ => ⟨rfl, word_more (c := e) hk2 hbb (by omega) fun bb' H3 nx3 g1 g2 g3 => hgo bb' (w ++ [e]) (n + 1) H3 nx3 g1 g2 g3 (by omega) (by omega) (by simp; omega) hg⟩⟩⟩
   rw [if_neg q3] at hg ⊢
   exact ⟨0, false, rfl, ifB_iff.2 ⟨fun _ => fault_okS I hbad hk0 fun H' nx' g1 g2 => onEnd_ret.2 (hflt hg _ H' nx' g1 g2), fun h => Bool.noConfusion h⟩⟩
  ·refine WpP.cond (p := false) (by show AVal.bool (decide _) = _; rw [decide_eq_false (by show ¬ (n : Int) + 1 < (u.length : Int); omega)]) ?_
   exact part3 (.inr (List.drop_eq_nil_of_le (by omega))) (EnvLe.of_list (by exact ⟨rfl, rfl, rfl, rfl, rfl, rfl, trivial⟩))
 ·have h5 : c ≠ 92 := fun x => of_decide_eq_false h ((ec 92).1 x)
  show WpP _ _ (.cond _ _ _) _ _ _ _ _
  refine WpP.cond (p := false) rfl ?_
  exact part3 (.inl h5) (EnvLe.of_list (by exact ⟨rfl, rfl, rfl, rfl, rfl, rfl, trivial⟩))
theorem text_okS (I : ScI Γ0 r ob σ) (hbad : σ.bad = 0) (hk : HZ Z (scG Γ0 r ob σ) H nx) (hne : 1 ≤ (σ.s.drop σ.a).length) (hK : RdK Z Γ0 r nx σ K (txtR (σ.s.drop σ.a))) : TriP PG f_sc_text [.ptr r 0] H nx K := by
 refine TriP.of_body mixed ?_
 rw [Fsc_text_eq]
 unfold Fsc_text
 obtain ⟨u, hu⟩ : ∃ u, u = σ.s.drop σ.a := ⟨_, rfl⟩
 rw [← hu] at hK hne
 have hul : u.length ≤ 16384 := by have := I.len; rw [hu, List.length_drop]; omega
 refine rest_okS I hk fun nx1 h1 hk1 => onEnd_ret.2 ⟨_, rfl, ?_⟩
 rw [← hu]
 refine loop_w (P := PG) (X := Nat × AVal) (Y := Unit) (fun n => envL .und [(5, iv n.1), (4, n.2), (3, .str u), (2, iv 0), (0, .ptr r 0)]) (fun n => envL .und [(0, .ptr r 0)])
  (fun m n H2 nx2 => nx ≤ nx2 ∧ ∃ bb w, n.2 = wordV bb w ∧ scG Γ0 r ob σ bb = none ∧ HZ Z (wordG (scG Γ0 r ob σ) bb w) H2 nx2 ∧ m = u.length - n.1 ∧ 1 ≤ n.1 ∧ n.1 ≤ u.length ∧ w.length ≤ n.1 ∧ Pt.textGo 1 [] (u.drop 1) = Pt.textGo n.1 w (u.drop n.1))
  (fun id n H2 nx2 => id = 0 ∧ nx ≤ nx2 ∧ HZ Z (scG Γ0 r ob σ) H2 nx2 ∧ Pt.textGo 1 [] (u.drop 1) = none) (u.length - 1) (1, .nilSlice) (EnvLe.of_list (by exact ⟨rfl, rfl, rfl, rfl, rfl, trivial⟩))
  ⟨h1, nx1, [], rfl, hk1.fresh (Nat.le_refl _), hk1, rfl, Nat.le_refl _, hne, by simp, rfl⟩ ?_ ?_
 ·rintro m ⟨n, o⟩ H2 nx2 ⟨h2, bb, w, ho, hbb, hk2, rfl, hn1, hn2, hwn, hg⟩
  dsimp only at ho hn1 hn2 hwn hg ⊢
  subst ho
  have hk0 : HZ Z (scG Γ0 r ob σ) H2 nx2 := hk2.sub (wordG_sub hbb)
  rw [XT_code]
  refine WpP.seq (WpP.part (ts := [0, 2, 3, 4, 5]) mixed ?_)
  rw [XT0_eq]
  unfold XT0
  refine ifB_iff.2 ⟨fun h => ?_, fun h => ?_⟩
  ·have h : (n : Int) < (u.length : Int) := of_decide_eq_true h
   have hlt : n < u.length := by omega
   have hd : u.drop n = u[n] :: u.drop (n + 1) := drop_cons hlt
   obtain ⟨c, hc⟩ : ∃ c, c = u[n] := ⟨_, rfl⟩
   rw [← hc] at hd
   rw [hd] at hg
   have ec : ∀ m : UInt8, c = m ↔ Int.ofNat c.toNat = Int.ofNat m.toNat := fun m => by rw [← UInt8.toNat_inj]; show _ ↔ ((c.toNat : Int) = (m.toNat : Int)); omega
   have go : ∀ {bb' : Nat} {w' : List UInt8} {n' : Nat} {H3 : Heap} {nx3 : Nat}, nx ≤ nx3 → scG Γ0 r ob σ bb' = none → HZ Z (wordG (scG Γ0 r ob σ) bb' w') H3 nx3 → n < n' → n' ≤ u.length → w'.length ≤ n' → Pt.textGo 1 [] (u.drop 1) = Pt.textGo n' w' (u.drop n') →
     (([] : Dfs) = ([] : Dfs) ∧ ∃ m' x', m' < u.length - n ∧ EnvLe (envL .und [(5, iv ((x' : Nat × AVal).1 : Nat)), (4, x'.2), (3, .str u), (2, iv 0), (0, .ptr r 0)]) (envL .und [(0, .ptr r 0), (2, iv 0), (3, .str u), (4, wordV bb' w'), (5, iv n')]) ∧
      nx ≤ nx3 ∧ ∃ bb w, x'.2 = wordV bb w ∧ scG Γ0 r ob σ bb = none ∧ HZ Z (wordG (scG Γ0 r ob σ) bb w) H3 nx3 ∧ m' = u.length - x'.1 ∧ 1 ≤ x'.1 ∧ x'.1 ≤ u.length ∧ w.length ≤ x'.1 ∧ Pt.textGo 1 [] (u.drop 1) = Pt.textGo x'.1 w (u.drop x'.1)) :=
    fun {bb'} {w'} {n'} {H3} {nx3} g1 g2 g3 g4 g5 g6 g7 => ⟨rfl, u.length - n', (n', wordV bb' w'), by omega, EnvLe.of_list (by exact ⟨rfl, rfl, rfl, rfl, rfl, trivial⟩), g1, bb', w', rfl, g2, g3, rfl, by show 1 ≤ n'; omega, g5, g6, g7⟩
   show WpP _ _ (.seq _ _) _ _ _ _ _
   refine WpP.weaken (e := envL .und [(5, iv n), (4, wordV bb w), (3, .str u), (2, iv 0), (0, .ptr r 0)]) (EnvLe.of_list (by exact ⟨rfl, rfl, rfl, rfl, rfl, trivial⟩)) ?_
   refine WpP.seq (WpP.block (WpP.seq (WpP.part (ts := [0, 2, 3, 4, 5, 6]) mixed ?_)))
   rw [XT1_eq]
   unfold XT1
   refine ⟨by omega, c, by simp [hlt, hc], ?_⟩
   show WpP _ _ (.block 2 _) _ _ _ _ _
   refine WpP.weaken (e := envL .und [(6, bv (Int.ofNat c.toNat)), (5, iv n), (4, wordV bb w), (3, .str u), (2, iv 0), (0, .ptr r 0)]) (EnvLe.of_list (by exact ⟨rfl, rfl, rfl, rfl, rfl, rfl, trivial⟩)) ?_
   refine WpP.block (WpP.seq (WpP.part (ts := [0, 2, 3, 4, 5, 6, 24]) mixed ?_))
   rw [XC1_eq]
   unfold XC1
   refine ifB_iff.2 ⟨fun h3 => ?_, fun h3 => ?_⟩
   ·have h3 : c = 34 := (ec 34).2 (of_decide_eq_true h3)
    refine ⟨_, wordV_len, ?_⟩
    show WpP _ _ (.cond _ _ _) _ _ _ _ _
    by_cases hl : w.length ≤ 2000
    ·refine WpP.cond (p := true) (by show AVal.bool (decide _) = _; rw [decide_eq_true (by show (w.length : Int) ≤ 2000; omega)]) ?_
     show WpP _ _ _ _ _ _ _ _
     refine WpP.weaken (e := envL .und [(6, bv (Int.ofNat c.toNat)), (5, iv n), (4, wordV bb w), (3, .str u), (2, iv 0), (0, .ptr r 0)]) (EnvLe.of_list (by exact ⟨rfl, rfl, rfl, rfl, rfl, rfl, trivial⟩)) (WpP.part (ts := [0, 2, 3, 4, 5, 6]) mixed ?_)
     rw [XT2_eq]
     unfold XT2
     rw [wrap64_id (by omega) (by omega), show ((n : Int) + 1) = ((n + 1 : Nat) : Int) by omega]
     have hr : Pt.textGo 1 [] (u.drop 1) = some (w, n + 1) := by rw [hg, Pt.textGo.eq_def]; dsimp only; rw [if_pos ⟨h3, hl⟩]
     unfold txtR at hK
     rw [hr] at hK
     refine ⟨w, wordV_str hk2, put_okS I hk0 (fun hf H' nx' g1 g2 => onEnd_ret.2 ?_) fun hf ob' H' nx' g1 g2 g3 g4 => onEnd_ret.2 ?_⟩
     ·exact Eq.mpr (RText_eq (TriP PG) (LpP PG) (lvSem (TriDP PG)) (lvcSem PG (TriDP PG)) r _ n _ _ u H' nx' K) (hK.1 hf ob H' nx' (by omega) I.o0 I.ne g2)
     ·exact Eq.mpr (RText_eq (TriP PG) (LpP PG) (lvSem (TriDP PG)) (lvcSem PG (TriDP PG)) r _ n _ _ u H' nx' K) (hK.2 hf ob' H' nx' (by omega) g2 g3 g4)
    ·refine WpP.cond (p := false) (by show AVal.bool (decide _) = _; rw [decide_eq_false (by show ¬ (w.length : Int) ≤ 2000; omega)]) ?_
     refine WpP.weaken (e := envL .und [(6, bv (Int.ofNat c.toNat)), (5, iv n), (4, wordV bb w), (3, .str u), (2, iv 0), (0, .ptr r 0)]) (EnvLe.of_list (by exact ⟨rfl, rfl, rfl, rfl, rfl, rfl, trivial⟩)) (else_ok I hbad hul hk2 hbb hn1 hlt hwn hd (fun x => hl x.2) hg (fun bb' w' n' H3 nx3 g1 g2 g3 g4 g5 g6 g7 => ?_) fun hn n' H3 nx3 g1 g2 => ?_)
     ·show WpP _ _ _ _ _ _ _ _
      refine WpP.weaken (e := envL .und [(5, iv n'), (4, wordV bb' w'), (3, .str u), (2, iv 0), (0, .ptr r 0)]) (EnvLe.of_list (by exact ⟨rfl, rfl, rfl, rfl, rfl, trivial⟩)) (WpP.part (ts := [0, 2, 3, 4, 5]) mixed ?_)
      rw [XT5_eq]
      unfold XT5
      rw [wrap64_id (by omega) (by omega), show ((n' : Int) + 1) = ((n' + 1 : Nat) : Int) by omega]
      exact go (by omega) g2 g3 (by omega) g5 g6 g7
     ·unfold txtR at hK
      rw [hn] at hK
      exact Eq.mpr (RText_eq (TriP PG) (LpP PG) (lvSem (TriDP PG)) (lvcSem PG (TriDP PG)) r 0 n' _ _ u H3 nx3 K) (hK ob H3 nx3 (by omega) I.o0 I.ne g2)
   ·have h3 : c ≠ 34 := fun x => of_decide_eq_false h3 ((ec 34).1 x)
    show WpP _ _ (.cond _ _ _) _ _ _ _ _
    refine WpP.cond (p := false) rfl ?_
    refine WpP.weaken (e := envL .und [(6, bv (Int.ofNat c.toNat)), (5, iv n), (4, wordV bb w), (3, .str u), (2, iv 0), (0, .ptr r 0)]) (EnvLe.of_list (by exact ⟨rfl, rfl, rfl, rfl, rfl, rfl, trivial⟩)) (else_ok I hbad hul hk2 hbb hn1 hlt hwn hd (fun x => h3 x.1) hg (fun bb' w' n' H3 nx3 g1 g2 g3 g4 g5 g6 g7 => ?_) fun hn n' H3 nx3 g1 g2 => ?_)
    ·show WpP _ _ _ _ _ _ _ _
     refine WpP.weaken (e := envL .und [(5, iv n'), (4, wordV bb' w'), (3, .str u), (2, iv 0), (0, .ptr r 0)]) (EnvLe.of_list (by exact ⟨rfl, rfl, rfl, rfl, rfl, trivial⟩)) (WpP.part (ts := [0, 2, 3, 4, 5]) mixed ?_)
     rw [XT5_eq]
     unfold XT5
     rw [wrap64_id (by omega) (by omega), show ((n' : Int) + 1) = ((n' + 1 : Nat) : Int) by omega]
     exact go (by omega) g2 g3 (by omega) g5 g6 g7
    ·unfold txtR at hK
     rw [hn] at hK
     exact Eq.mpr (RText_eq (TriP PG) (LpP PG) (lvSem (TriDP PG)) (lvcSem PG (TriDP PG)) r 0 n' _ _ u H3 nx3 K) (hK ob H3 nx3 (by omega) I.o0 I.ne g2)
  ·have h : ¬ (n : Int) < (u.length : Int) := of_decide_eq_false h
   have he : n = u.length := by omega
   refine ⟨rfl, (), EnvLe.of_list (by exact ⟨rfl, trivial⟩), rfl, h2, hk0, ?_⟩
   rw [hg, List.drop_eq_nil_of_le (by omega)]
   rw [Pt.textGo.eq_def]
 ·rintro id ⟨⟩ H2 nx2 ⟨rfl, h2, hk2, hg⟩
  rw [AText_eq]
  unfold AText
  unfold txtR at hK
  rw [hg] at hK
  exact hK.flt I hbad h2 hk2
end
end
end Go.Vs
end
section
namespace Go.Vs
open Go.Proofs
variable [GTab] {Z : Nat → Prop}
noncomputable section
section
variable {Γ0 : GH} {r ob nx f : Nat} {σ : Sst} {H : Heap} {K : EndP} {R : Except Flt (List Tok)}
theorem nl_tail (I : ScI Γ0 r ob σ) (hlt : σ.a < σ.s.length) (hk : HZ Z (scG Γ0 r ob σ) H nx) (h : ∀ H', HZ Z (scG Γ0 r ob { σ with a := σ.a + 1, line := σ.line + 1, col := 1 }) H' nx → K (.ret (.tuple [])) H' nx) :
  true = true ∧ ∃ v14, some (AVal.ptr r 1) = some v14 ∧ ∃ n15 : Int, ld1 H v14 = some (iv n15) ∧ true = true ∧ ∃ v16, some (AVal.ptr r 1) = some v16 ∧ true = true ∧ ∃ H17, stC H v16 [iv (IntKind.i64.wrap (n15 + 1))] = some H17 ∧ true = true ∧ ∃ v18, some (AVal.ptr r 2) = some v18 ∧ ∃ n19 : Int, ld1 H17 v18 = some (iv n19) ∧ true = true ∧
   ∃ v20, some (AVal.ptr r 2) = some v20 ∧ true = true ∧ ∃ H21, stC H17 v20 [iv (IntKind.i64.wrap (n19 + 1))] = some H21 ∧ true = true ∧ ∃ v22, some (AVal.ptr r 3) = some v22 ∧ true = true ∧ ∃ H23, stC H21 v22 [iv 1] = some H23 ∧ K (AEnd.ret (AVal.tuple [])) H23 nx := by
 have hlen := I.len; have hln := I.ln
 refine ⟨rfl, _, rfl, (σ.a : Int), by rw [hk.ld1 scG_r]; rfl, rfl, _, rfl, rfl, ?_⟩
 rw [wrap64_id (by omega) (by omega), show ((σ.a : Int) + 1) = ((σ.a + 1 : Nat) : Int) by omega]
 refine scSt { σ with a := σ.a + 1 } hk rfl (by omega) rfl rfl fun H1 h1 => ⟨rfl, _, rfl, σ.line, by rw [h1.ld1 scG_r]; rfl, rfl, _, rfl, rfl, ?_⟩
 rw [wrap64_id (by omega) (by omega)]
 refine scSt { σ with a := σ.a + 1, line := σ.line + 1 } h1 rfl (by omega) rfl rfl fun H2 h2 => ⟨rfl, _, rfl, rfl, ?_⟩
 exact scSt { σ with a := σ.a + 1, line := σ.line + 1, col := 1 } h2 rfl (by omega) rfl rfl fun H3 h3 => h H3 h3
def StepK (Z : Nat → Prop) (Γ0 : GH) (r nx f : Nat) (σ : Sst) (R : Except Flt (List Tok)) (K : EndP) : Prop := ∀ σ' ob' H' nx', nx ≤ nx' → ScI Γ0 r ob' σ' → σ'.s = σ.s →
 ((σ'.bad = 0 ∧ Pt.scan f (σ.s.drop σ'.a) σ'.line σ'.col σ'.out = R ∧ σ.a < σ'.a) ∨ (σ'.bad ≠ 0 ∧ R = .error ⟨σ'.wl, σ'.wc, σ'.bad⟩)) → HZ Z (scG Γ0 r ob' σ') H' nx' → K (.ret (.tuple [])) H' nx'
theorem StepK.from {nx1 : Nat} (h : StepK Z Γ0 r nx f σ R K) (hn : nx ≤ nx1) : StepK Z Γ0 r nx1 f σ R K := fun σ' ob' H' nx' h1 => h σ' ob' H' nx' (by omega)
def StepR (f : Nat) (σ : Sst) (s' : List UInt8) (res : Except Int (Int × List UInt8 × Int × Nat)) : Except Flt (List Tok) := match res with | .error e => .error ⟨σ.line, σ.col, e⟩ | .ok (k, tx, v, n) => Pt.put σ.out ⟨k, tx, v, σ.line, σ.col⟩ >>= fun out => Pt.scan f (s'.drop (n - 1)) σ.line (σ.col + n) out
def ReadP (K : EndP) (r g : Nat) (H : Heap) (nx : Nat) : Prop := ∃ (x : FuncId) (l : List AVal), some ((g : FuncId), [AVal.ptr r 0]) = some (x, l) ∧ TriP PG x l H nx fun e H i => onEnd e (fun v => ∃ n : Int, v = iv n ∧ TriP PG f_sc_skip [.ptr r 0, iv n] H i fun e H i => onEnd e (fun _ => K (.ret (.tuple [])) H i) fun l => K (.pan l) H i) fun l => K (.pan l) H i
theorem read_ok {c : UInt8} {s' : List UInt8} (I : ScI Γ0 r ob σ) (hb : σ.bad = 0) (hu : σ.s.drop σ.a = c :: s') {res : Except Int (Int × List UInt8 × Int × Nat)} (hres : Pt.one c s' = res)
  (hR : StepR f σ s' res = R) (hK : StepK Z Γ0 r nx f σ R K) :
  RdK Z Γ0 r nx σ (fun e H i => onEnd e (fun v => ∃ n : Int, v = iv n ∧ TriP PG f_sc_skip [.ptr r 0, iv n] H i fun e H i => onEnd e (fun _ => K (.ret (.tuple [])) H i) fun l => K (.pan l) H i) fun l => K (.pan l) H i) res := by
 have hle := I.le; have hlen := I.len; have hfew := I.few; have hln := I.ln; have hcl := I.cl
 have hdl : σ.s.length = σ.a + (s'.length + 1) := by
  have := congrArg List.length hu
  rw [List.length_drop, List.length_cons] at this; omega
 cases res with
 | error e =>
  have he := Pt.one_err hres
  intro ob' H' nx' g1 g2 g3 g4
  refine onEnd_ret.2 ⟨0, rfl, ?_⟩
  have I' : ScI Γ0 r ob' { σ with bad := e, wl := σ.line, wc := σ.col } := ⟨I.r0, g2, g3, hle, hlen, hfew, hln, hcl⟩
  exact skip_okS (n := 0) I' g4 (by omega) fun H2 h2 => onEnd_ret.2 (hK { σ with a := σ.a + 0, col := σ.col + ((0 : Nat) : Int), bad := e, wl := σ.line, wc := σ.col } ob' H2 nx' g1 ⟨I.r0, g2, g3, hle, hlen, hfew, ⟨hln.1, by show σ.line ≤ ((σ.a + 0 : Nat) : Int) + 1; simpa using hln.2⟩, by show 0 ≤ σ.col + ((0 : Nat) : Int) ∧ σ.col + ((0 : Nat) : Int) ≤ ((σ.a + 0 : Nat) : Int) + 1; simpa using hcl⟩ rfl (.inr ⟨he, hR.symm⟩) h2)
 | ok p =>
  obtain ⟨k, tx, v, n⟩ := p
  obtain ⟨n1, n2, hkd⟩ := Pt.one_len hres
  have hdrop : σ.s.drop (σ.a + n) = s'.drop (n - 1) := by
   rw [← List.drop_drop, hu]
   obtain ⟨m, rfl⟩ : ∃ m, n = m + 1 := ⟨n - 1, by omega⟩
   rfl
  refine ⟨fun hf ob' H' nx' g1 g2 g3 g4 => onEnd_ret.2 ⟨n, rfl, ?_⟩, fun hf ob' H' nx' g1 g2 g3 g4 => onEnd_ret.2 ⟨n, rfl, ?_⟩⟩
  ·have I' : ScI Γ0 r ob' { σ with bad := 6, wl := σ.line, wc := σ.col } := ⟨I.r0, g2, g3, hle, hlen, hfew, hln, hcl⟩
   refine skip_okS (n := n) I' g4 (by omega) fun H2 h2 => onEnd_ret.2 (hK { σ with a := σ.a + n, col := σ.col + (n : Int), bad := 6, wl := σ.line, wc := σ.col } ob' H2 nx' g1 ⟨I.r0, g2, g3, by show σ.a + n ≤ σ.s.length; omega, hlen, hfew, ⟨hln.1, by show σ.line ≤ ((σ.a + n : Nat) : Int) + 1; omega⟩, by show 0 ≤ σ.col + (n : Int) ∧ σ.col + (n : Int) ≤ ((σ.a + n : Nat) : Int) + 1; omega⟩ rfl (.inr ⟨by show (6 : Int) ≠ 0; decide, ?_⟩) h2)
   rw [← hR]
   simp only [StepR, Pt.put, if_pos hf]
   rfl
  ·have I' : ScI Γ0 r ob' { σ with out := σ.out ++ [⟨k, tx, v, σ.line, σ.col⟩] } := ⟨I.r0, g2, g3, hle, hlen, by simp; omega, hln, hcl⟩
   refine skip_okS (n := n) I' g4 (by omega) fun H2 h2 => onEnd_ret.2 (hK { σ with a := σ.a + n, col := σ.col + (n : Int), out := σ.out ++ [⟨k, tx, v, σ.line, σ.col⟩] } ob' H2 nx' g1 ⟨I.r0, g2, g3, by show σ.a + n ≤ σ.s.length; omega, hlen, by simp; omega, ⟨hln.1, by show σ.line ≤ ((σ.a + n : Nat) : Int) + 1; omega⟩, by show 0 ≤ σ.col + (n : Int) ∧ σ.col + (n : Int) ≤ ((σ.a + n : Nat) : Int) + 1; omega⟩ rfl (.inl ⟨hb, ?_, by show σ.a < σ.a + n; omega⟩) h2)
   rw [← hR]
   simp only [StepR, Pt.put, if_neg hf]
   show Pt.scan f (σ.s.drop (σ.a + n)) _ _ _ = Pt.scan f (s'.drop (n - 1)) _ _ _
   rw [hdrop]
theorem tail_ok {c : UInt8} {s' : List UInt8} (I : ScI Γ0 r ob σ) (hb : σ.bad = 0) (hu : σ.s.drop σ.a = c :: s')
  (hR : StepR f σ s' (Pt.one c s') = R) (hK : StepK Z Γ0 r nx f σ R K) (hk : HZ Z (scG Γ0 r ob σ) H nx) :
  TriP PG f_tk_letter [bv (Int.ofNat c.toNat)] H nx fun e H i => onEnd e (fun v => ∃ b, v = .bool b ∧ ifB b (ReadP K r f_sc_word H i) (TriP PG f_tk_digit [bv (Int.ofNat c.toNat)] H i fun e H i => onEnd e (fun v => ∃ b, v = .bool b ∧ ifB b (ReadP K r f_sc_number H i)
   (ifB (decide (Int.ofNat c.toNat = 34)) (ReadP K r f_sc_text H i) (ReadP K r f_sc_sign H i))) fun l => K (.pan l) H i)) fun l => K (.pan l) H i := by
 have ec : ∀ m : UInt8, c = m ↔ Int.ofNat c.toNat = Int.ofNat m.toNat := fun m => by rw [← UInt8.toNat_inj]; show _ ↔ ((c.toNat : Int) = (m.toNat : Int)); omega
 refine letter_okS (onEnd_ret.2 ⟨_, rfl, ifB_iff.2 ⟨fun h1 => ?_, fun h1 => ?_⟩⟩)
 ·have hp : (Pt.letter c || Pt.digit c) = true := by rw [h1]; rfl
  have ew : (c :: s'.takeWhile fun c => Pt.letter c || Pt.digit c) = (σ.s.drop σ.a).takeWhile fun c => Pt.letter c || Pt.digit c := by rw [hu, List.takeWhile_cons, if_pos hp]
  have e1 : Pt.one c s' = .ok (if Pt.isWord (c :: s'.takeWhile fun c => Pt.letter c || Pt.digit c) then 3 else 2, (c :: s'.takeWhile fun c => Pt.letter c || Pt.digit c), 0, (c :: s'.takeWhile fun c => Pt.letter c || Pt.digit c).length) := by unfold Pt.one; rw [if_pos h1]
  exact ⟨_, _, rfl, word_okS I hk ew (read_ok I hb hu e1 (by rw [e1] at hR; exact hR) hK)⟩
 refine digit_okS (onEnd_ret.2 ⟨_, rfl, ifB_iff.2 ⟨fun h2 => ?_, fun h2 => ?_⟩⟩)
 ·have ew : (c :: s'.takeWhile Pt.digit) = (σ.s.drop σ.a).takeWhile Pt.digit := by rw [hu, List.takeWhile_cons, if_pos h2]
  have e1 : Pt.one c s' = (match Pt.numGo 0 (σ.s.drop σ.a) with | some v => .ok (4, c :: s'.takeWhile Pt.digit, v, (c :: s'.takeWhile Pt.digit).length) | none => .error 12) := by
   unfold Pt.one; rw [if_neg (by rw [h1]; simp), if_pos h2, hu, List.length_cons, Nat.add_comm 1]
   rfl
  exact ⟨_, _, rfl, number_okS I hb hk ew (read_ok I hb hu e1 (by rw [e1] at hR; exact hR) hK)⟩
 refine ifB_iff.2 ⟨fun h3 => ?_, fun h3 => ?_⟩
 ·have h3 : c = 34 := (ec 34).2 (of_decide_eq_true h3)
  have e1 : Pt.one c s' = txtR (σ.s.drop σ.a) := by
   unfold Pt.one txtR; rw [if_neg (by rw [h1]; simp), if_neg (by rw [h2]; simp), if_pos h3, hu]; rfl
  exact ⟨_, _, rfl, text_okS I hb hk (by rw [hu]; simp) (read_ok I hb hu e1 (by rw [e1] at hR; exact hR) hK)⟩
 ·have h3 : c ≠ 34 := fun x => of_decide_eq_false h3 ((ec 34).1 x)
  have e1 : Pt.one c s' = Pt.sign c s' := by unfold Pt.one; rw [if_neg (by rw [h1]; simp), if_neg (by rw [h2]; simp), if_neg h3]
  exact ⟨_, _, rfl, sign_okS I hb hk hu (read_ok I hb hu e1 (by rw [e1] at hR; exact hR) hK)⟩
theorem one_okS {c : UInt8} {s' : List UInt8} (I : ScI Γ0 r ob σ) (hb : σ.bad = 0) (hu : σ.s.drop σ.a = c :: s') (hR : Pt.scan (f + 1) (c :: s') σ.line σ.col σ.out = R) (hK : StepK Z Γ0 r nx f σ R K) (hk : HZ Z (scG Γ0 r ob σ) H nx) : TriP PG f_sc_one [.ptr r 0] H nx K := by
 refine TriP.of_body mixed ?_
 rw [Fsc_one_eq]
 unfold Fsc_one
 have hle := I.le; have hlen := I.len; have hfew := I.few; have hln := I.ln; have hcl := I.cl
 have hdl : σ.s.length = σ.a + (s'.length + 1) := by
  have := congrArg List.length hu
  rw [List.length_drop, List.length_cons] at this; omega
 have hd1 : σ.s.drop (σ.a + 1) = s' := by rw [← List.drop_drop, hu]; rfl
 have hget : σ.s[σ.a]? = some c := by
  have := congrArg (fun l => l[0]?) hu
  simpa using this
 have ec : ∀ m : UInt8, c = m ↔ Int.ofNat c.toNat = Int.ofNat m.toNat := fun m => by rw [← UInt8.toNat_inj]; show _ ↔ ((c.toNat : Int) = (m.toNat : Int)); omega
 have st : ∀ {m : UInt8} {p q : Prop}, (c = m → p) → (c ≠ m → q) → ifB (decide (Int.ofNat c.toNat = Int.ofNat m.toNat)) p q := fun h1 h2 => ifB_iff.2 ⟨fun e => h1 ((ec _).2 (of_decide_eq_true e)), fun e => h2 fun x => of_decide_eq_false e ((ec _).1 x)⟩
 refine next_okS I hk hget fun nx1 h1 hk1 => onEnd_ret.2 ⟨_, rfl, ?_⟩
 replace hK := hK.from h1
 rw [Pt.scan] at hR
 refine st (m := 10) (fun e => ?_) fun e10 => ?_
 ·rw [if_pos e] at hR
  refine ends_okS I hk1 fun H2 nx2 h2 hk2 => onEnd_ret.2 ⟨_, rfl, ifB_iff.2 ⟨fun h3 => ?_, fun h3 => ?_⟩⟩
  ·unfold Pt.putEnd at hR
   rw [if_pos h3] at hR
   refine put_okS I hk2 (fun hf H3 nx3 h4 hk3 => onEnd_ret.2 ?_) fun hf ob' H3 nx3 h4 g2 g3 hk3 => onEnd_ret.2 ?_
   ·refine nl_tail (σ := { σ with bad := 6, wl := σ.line, wc := σ.col }) ⟨I.r0, I.o0, I.ne, hle, hlen, hfew, hln, hcl⟩ (by show σ.a < σ.s.length; omega) hk3 fun H4 hk4 => ?_
    refine hK { σ with a := σ.a + 1, line := σ.line + 1, col := 1, bad := 6, wl := σ.line, wc := σ.col } ob H4 nx3 (by omega) ⟨I.r0, I.o0, I.ne, by show σ.a + 1 ≤ σ.s.length; omega, hlen, hfew, ⟨by show 0 ≤ σ.line + 1; omega, by show σ.line + 1 ≤ ((σ.a + 1 : Nat) : Int) + 1; omega⟩, by show (0 : Int) ≤ 1 ∧ (1 : Int) ≤ ((σ.a + 1 : Nat) : Int) + 1; omega⟩ rfl (.inr ⟨by show (6 : Int) ≠ 0; decide, ?_⟩) hk4
    rw [← hR]
    simp only [Pt.put, if_pos hf]
    rfl
   ·refine nl_tail (σ := { σ with out := σ.out ++ [⟨1, [59], 0, σ.line, σ.col⟩] }) ⟨I.r0, g2, g3, hle, hlen, by simp; omega, hln, hcl⟩ (by show σ.a < σ.s.length; omega) hk3 fun H4 hk4 => ?_
    refine hK { σ with a := σ.a + 1, line := σ.line + 1, col := 1, out := σ.out ++ [⟨1, [59], 0, σ.line, σ.col⟩] } ob' H4 nx3 (by omega) ⟨I.r0, g2, g3, by show σ.a + 1 ≤ σ.s.length; omega, hlen, by simp; omega, ⟨by show 0 ≤ σ.line + 1; omega, by show σ.line + 1 ≤ ((σ.a + 1 : Nat) : Int) + 1; omega⟩, by show (0 : Int) ≤ 1 ∧ (1 : Int) ≤ ((σ.a + 1 : Nat) : Int) + 1; omega⟩ rfl (.inl ⟨hb, ?_, by show σ.a < σ.a + 1; omega⟩) hk4
    rw [← hR]
    simp only [Pt.put, if_neg hf]
    show Pt.scan f (σ.s.drop (σ.a + 1)) _ _ _ = Pt.scan f s' _ _ _
    rw [hd1]
    rfl
  ·unfold Pt.putEnd at hR
   rw [if_neg (by rw [h3]; simp)] at hR
   refine nl_tail I (by omega) hk2 fun H4 hk4 => ?_
   refine hK { σ with a := σ.a + 1, line := σ.line + 1, col := 1 } ob H4 nx2 (by omega) ⟨I.r0, I.o0, I.ne, by show σ.a + 1 ≤ σ.s.length; omega, hlen, hfew, ⟨by show 0 ≤ σ.line + 1; omega, by show σ.line + 1 ≤ ((σ.a + 1 : Nat) : Int) + 1; omega⟩, by show (0 : Int) ≤ 1 ∧ (1 : Int) ≤ ((σ.a + 1 : Nat) : Int) + 1; omega⟩ rfl (.inl ⟨hb, ?_, by show σ.a < σ.a + 1; omega⟩) hk4
   rw [← hR]
   show Pt.scan f (σ.s.drop (σ.a + 1)) _ _ _ = Pt.scan f s' _ _ _
   rw [hd1]
 rw [if_neg e10] at hR
 have skip : ∀ {n : Nat} {H2 : Heap} {nx2 : Nat}, nx1 ≤ nx2 → HZ Z (scG Γ0 r ob σ) H2 nx2 → 1 ≤ n ∧ n ≤ s'.length + 1 → Pt.scan f (σ.s.drop (σ.a + n)) σ.line (σ.col + n) σ.out = R →
   TriP PG f_sc_skip [.ptr r 0, iv (n : Nat)] H2 nx2 fun e H i => onEnd e (fun _ => K (.ret (.tuple [])) H i) fun l => K (.pan l) H i := fun {n} {H2} {nx2} h2 hk2 hn hR =>
  skip_okS I hk2 (by omega) fun H3 hk3 => onEnd_ret.2 (hK { σ with a := σ.a + n, col := σ.col + (n : Int) } ob H3 nx2 h2 ⟨I.r0, I.o0, I.ne, by show σ.a + n ≤ σ.s.length; omega, hlen, hfew, ⟨hln.1, by show σ.line ≤ ((σ.a + n : Nat) : Int) + 1; omega⟩, by show 0 ≤ σ.col + (n : Int) ∧ σ.col + (n : Int) ≤ ((σ.a + n : Nat) : Int) + 1; omega⟩ rfl (.inl ⟨hb, hR, by show σ.a < σ.a + n; omega⟩) hk3)
 have white : (c = 32 ∨ c = 9 ∨ c = 13) → TriP PG f_sc_skip [.ptr r 0, iv 1] H nx1 fun e H i => onEnd e (fun _ => K (.ret (.tuple [])) H i) fun l => K (.pan l) H i := fun e => by
  rw [if_pos e] at hR
  exact skip (n := 1) (Nat.le_refl _) hk1 ⟨by omega, by omega⟩ (by rw [hd1]; exact hR)
 refine st (m := 32) (fun e => white (.inl e)) fun e32 => ?_
 refine st (m := 9) (fun e => white (.inr (.inl e))) fun e9 => ?_
 refine st (m := 13) (fun e => white (.inr (.inr e))) fun e13 => ?_
 rw [if_neg (by rintro (x | x | x); exact e32 x; exact e9 x; exact e13 x)] at hR
 have last : ¬ (c = 47 ∧ s'.head? = some 47) → ∀ {H2 : Heap} {nx2 : Nat}, nx1 ≤ nx2 → HZ Z (scG Γ0 r ob σ) H2 nx2 → _ := fun hno {H2} {nx2} h2 hk2 => tail_ok (K := K) (R := R) (f := f) (H := H2) (nx := nx2) I hb hu (by
  rw [if_neg hno] at hR
  rw [← hR]
  unfold StepR
  cases Pt.one c s' with
  | error e => rfl
  | ok p => rfl) (hK.from h2) hk2
 refine st (m := 47) (fun e => ?_) fun e47 => last (fun x => e47 x.1) (Nat.le_refl _) hk1
 refine rest_okS I hk1 fun nx2 h2 hk2 => onEnd_ret.2 ⟨_, rfl, ifB_iff.2 ⟨fun h3 => ?_, fun h3 => ?_⟩⟩
 ·rw [hu] at h3
  have h3 : (1 : Int) < ((c :: s').length : Int) := of_decide_eq_true h3
  cases hs : s' with
  | nil => rw [hs] at h3; simp at h3
  | cons d s'' =>
   refine rest_okS I hk2 fun nx3 h4 hk3 => onEnd_ret.2 ⟨_, rfl, by omega, d, by rw [hu, hs]; rfl, ?_⟩
   have ed : d = 47 ↔ Int.ofNat d.toNat = 47 := by rw [← UInt8.toNat_inj]; show _ ↔ ((d.toNat : Int) = 47); show d.toNat = 47 ↔ _; omega
   refine ifB_iff.2 ⟨fun h5 => ?_, fun h5 => ?_⟩
   ·have h5 : d = 47 := ed.2 (of_decide_eq_true h5)
    rw [if_pos ⟨e, by rw [hs, h5]; rfl⟩] at hR
    refine ⟨_, _, rfl, comment_okS I hk3 fun nx4 h6 hk4 => onEnd_ret.2 ⟨_, rfl, ?_⟩⟩
    have etw : (σ.s.drop σ.a).takeWhile (fun c => c != 10) = c :: s'.takeWhile fun c => c != 10 := by rw [hu, List.takeWhile_cons, if_pos (by rw [bne_iff_ne]; exact e10)]
    have hl := tw_le (p := fun c : UInt8 => c != 10) (u := s')
    refine skip (by omega) hk4 ⟨by rw [etw]; simp, by rw [etw]; simp; exact hl⟩ ?_
    rw [etw, List.length_cons, ← hR]
    have : σ.s.drop (σ.a + ((s'.takeWhile fun c => c != 10).length + 1)) = s'.drop (s'.takeWhile fun c => c != 10).length := by
     rw [Nat.add_comm _ 1, ← Nat.add_assoc, ← List.drop_drop, hd1]
    rw [this]
    congr 1
    omega
   ·have h5 : d ≠ 47 := fun x => of_decide_eq_false h5 (ed.1 x)
    exact last (fun x => by rw [hs] at x; exact h5 (by simpa using x.2)) (by omega) hk3
 ·rw [hu] at h3
  have h3 : ¬ (1 : Int) < ((c :: s').length : Int) := of_decide_eq_false h3
  have hs : s' = [] := by
   cases hs : s' with
   | nil => rfl
   | cons d s'' => rw [hs] at h3; simp at h3; omega
  exact last (fun x => by rw [hs] at x; simp at x) (by omega) hk2
end
end
end Go.Vs
end
section
namespace Go.Vs
open Go.Proofs
variable [GTab] {Z : Nat → Prop}
noncomputable section
section
variable {Γ Γ0 : GH} {r ob c nx : Nat} {σ : Sst} {H : Heap} {K : EndP} {R : Except Flt (List Tok)}
def TokK (Z : Nat → Prop) (Γ : GH) (nx : Nat) (R : Except Flt (List Tok)) (K : EndP) : Prop := match R with
 | .ok l => ∀ tb H' nx', nx ≤ nx' → Γ tb = none → HZ Z (gup tb (some (l.flatMap tokC)) Γ) H' nx' → K (.ret (.tuple [.slice tb 0 l.length 5 false, tokV ⟨0, [], 0, 0, 0⟩, iv 0])) H' nx'
 | .error f => ∀ H' nx', nx ≤ nx' → HZ Z Γ H' nx' → K (.ret (.tuple [.nilSlice, tokV ⟨0, [], 0, f.line, f.col⟩, iv f.e])) H' nx'
theorem fin_okS {cc : List AVal} {Γ : GH} {n0 : Nat} (hΓ : Γ c = none) (hcc : cc.length = 5) (I : ScI (gup c (some cc) Γ) r ob σ) (hk : HZ Z (scG (gup c (some cc) Γ) r ob σ) H nx) (hn : n0 ≤ nx) (hK : TokK Z Γ n0 R K)
  (hR : (σ.bad = 0 ∧ R = .ok σ.out ∧ σ.out ≠ []) ∨ (σ.bad ≠ 0 ∧ R = .error ⟨σ.wl, σ.wc, σ.bad⟩)) :
  true = true ∧ ∃ v17, some (AVal.ptr r 5) = some v17 ∧ ∃ n18 : Int, ld1 H v17 = some (iv n18) ∧ ifB (!decide (n18 = 0))
   (true = true ∧ ∃ v19, some (AVal.ptr r 6) = some v19 ∧ ∃ (n20 : Int) (s21 : List UInt8) (n22 n23 n24 : Int), ldN H 5 v19 = some (AVal.agg [iv n20, AVal.str s21, iv n22, iv n23, iv n24]) ∧ true = true ∧ ∃ v25, some (AVal.ptr r 5) = some v25 ∧ ∃ n26 : Int, ld1 H v25 = some (iv n26) ∧
    ((∃ (n27 : Int) (s28 : List UInt8) (n29 n30 n31 : Int), ldN H 5 v19 = some (AVal.agg [iv n27, AVal.str s28, iv n29, iv n30, iv n31]) ∧ AVal.agg [iv n27, AVal.str s28, iv n29, iv n30, iv n31] = AVal.agg [iv n20, AVal.str s21, iv n22, iv n23, iv n24]) ∧ (∃ n32 : Int, ld1 H v25 = some (iv n32) ∧ iv n32 = iv n26) ∧ True) ∧
    ∃ H33, stC H (AVal.ptr c 0) [iv n20, AVal.str s21, iv n22, iv n23, iv n24] = some H33 ∧ ((∃ n34 : Int, ld1 H33 v25 = some (iv n34) ∧ iv n34 = iv n26) ∧ True) ∧ ∃ (n20 : Int) (s21 : List UInt8) (n22 n23 n24 : Int), ldN H33 5 (AVal.ptr c 0) = some (AVal.agg [iv n20, AVal.str s21, iv n22, iv n23, iv n24]) ∧
    K (AEnd.ret (AVal.tuple [AVal.nilSlice, AVal.agg [iv n20, AVal.str s21, iv n22, iv n23, iv n24], iv n26])) H33 (nx + 11))
   (true = true ∧ ∃ v40, some (AVal.ptr r 4) = some v40 ∧ ∃ v41, ld1 H v40 = some v41 ∧ ∃ H42, stC H (AVal.ptr c 0) [iv 0, AVal.str [], iv 0, iv 0, iv 0] = some H42 ∧ ∃ (n20 : Int) (s21 : List UInt8) (n22 n23 n24 : Int), ldN H42 5 (AVal.ptr c 0) = some (AVal.agg [iv n20, AVal.str s21, iv n22, iv n23, iv n24]) ∧
    K (AEnd.ret (AVal.tuple [v41, AVal.agg [iv n20, AVal.str s21, iv n22, iv n23, iv n24], iv 0])) H42 nx) := by
 have hcr : c ≠ r := neK (gup_same c (some cc) Γ) I.r0
 have ec : scG (gup c (some cc) Γ) r ob σ c = some cc := scG_sub I c cc (gup_same _ _ _)
 have l5 : ld1 H (.ptr r 5) = some (iv σ.bad) := by rw [hk.ld1 scG_r]; rfl
 have l4 : ld1 H (.ptr r 4) = some (outV ob σ.out) := by rw [hk.ld1 scG_r]; rfl
 have l6 : ldN H 5 (.ptr r 6) = some (tokV ⟨0, [], 0, σ.wl, σ.wc⟩) := by rw [hk.ldN scG_r (by simp [scC])]; rfl
 have sub : ∀ {b : Nat} {cs : List AVal} {ds : List AVal}, Γ b = some cs → gup c (some ds) (scG (gup c (some cc) Γ) r ob σ) b = some cs := fun e => (gup_ne (neK e hΓ)).trans (scG_sub I _ _ ((gup_ne (neK e hΓ)).trans e))
 refine ⟨rfl, _, rfl, _, l5, ifB_iff.2 ⟨fun h => ?_, fun h => ?_⟩⟩
 ·have h : ¬ σ.bad = 0 := by simpa using h
  rcases hR with hR | ⟨_, hR⟩
  ·exact absurd hR.1 h
  subst hR
  refine ⟨rfl, _, rfl, _, _, _, _, _, l6, rfl, _, rfl, _, l5, ⟨⟨_, _, _, _, _, l6, rfl⟩, ⟨_, l5, rfl⟩, trivial⟩, ?_⟩
  refine stAll hk ec (by simp [hcc]) rfl fun H1 h1 => ?_
  have m5 : ld1 H1 (.ptr r 5) = some (iv σ.bad) := by rw [h1.ld1 ((gup_ne (Ne.symm hcr)).trans scG_r)]; rfl
  exact ⟨⟨⟨_, m5, rfl⟩, trivial⟩, _, _, _, _, _, ldAll h1 (gup_same _ _ _) rfl, hK _ _ (by omega) ((h1.more (by omega)).sub fun b cs e => sub e)⟩
 ·have h : σ.bad = 0 := by simpa using h
  rcases hR with ⟨_, hR, ho⟩ | hR
  ·subst hR
   refine ⟨rfl, _, rfl, _, l4, stAll hk ec (by simp [hcc]) rfl fun H1 h1 => ⟨_, _, _, _, _, ldAll h1 (gup_same _ _ _) rfl, ?_⟩⟩
   have hco : c ≠ ob := neK (gup_same c (some cc) Γ) I.o0
   have hob : Γ ob = none := by have := I.o0; rwa [gup_ne (Ne.symm hco)] at this
   have ev : outV ob σ.out = .slice ob 0 σ.out.length 5 false := by
    cases e : σ.out with
    | nil => exact absurd e ho
    | cons t l => rfl
   rw [ev]
   refine hK ob H1 nx hn hob (h1.sub fun b cs e => ?_)
   by_cases hb : b = ob
   ·subst hb
    rw [gup_same] at e
    rw [gup_ne (Ne.symm hco), scG_o I ho, e]
   ·rw [gup_ne hb] at e; exact sub e
  ·exact absurd h hR.1
theorem all_okS {s : List UInt8} (hk : HZ Z Γ H nx) (hK : TokK Z Γ nx (Pt.toks s) K) : TriP PG f_tk_All [.str s] H nx K := by
 refine TriP.of_body mixed ?_
 rw [Ftk_All_eq]
 unfold Ftk_All
 have hf := hk.fresh (Nat.le_refl nx)
 refine scrN hk (nx' := nx + 1) (Nat.le_refl _) (by omega) fun H0 hk0 => ifB_iff.2 ⟨fun h => ?_, fun h => ?_⟩
 ·have h : (16384 : Int) < (s.length : Int) := of_decide_eq_true h
  have e : Pt.toks s = .error ⟨1, 1, 6⟩ := by unfold Pt.toks; rw [if_pos (by omega)]
  rw [e] at hK
  refine ⟨rfl, rfl, stAll hk0 (gup_same _ _ _) rfl rfl fun H1 h1 => ⟨_, _, _, _, _, ldAll h1 (gup_same _ _ _) rfl, hK _ _ (by omega) ?_⟩⟩
  rw [gup_gup] at h1
  exact h1.drop hf
 ·have h : ¬ (16384 : Int) < (s.length : Int) := of_decide_eq_false h
  have hR : Pt.scan s.length s 1 1 [] = Pt.toks s := by unfold Pt.toks; rw [if_neg (by omega)]
  obtain ⟨R, eR⟩ : ∃ R, R = Pt.toks s := ⟨_, rfl⟩
  rw [← eR] at hR hK
  refine ⟨rfl, rfl, rfl, ?_⟩
  obtain ⟨cc, ecc⟩ : ∃ cc : List AVal, cc = [iv 0, AVal.str [], iv 0, iv 0, iv 0] := ⟨_, rfl⟩
  rw [← ecc] at hk0
  have hcc : cc.length = 5 := by rw [ecc]; rfl
  have hf1 := hk0.fresh (Nat.le_refl (nx + 1))
  have hk1 : HZ Z (gup (nx + 1) (some (scC (nx + 2) ⟨s, 0, 1, 1, [], 0, 0, 0⟩)) (gup nx (some cc) Γ)) (newB (nx + 1) (scC (nx + 2) ⟨s, 0, 1, 1, [], 0, 0, 0⟩) H0) (nx + 1 + 1) := hk0.new (Nat.le_refl _) (by omega) _
  have hf2 : gup nx (some cc) Γ (nx + 2) = none := hk0.fresh (by omega)
  refine ⟨_, rfl, ?_⟩
  have I0 : ScI (gup nx (some cc) Γ) (nx + 1) (nx + 2) ⟨s, 0, 1, 1, [], 0, 0, 0⟩ := ⟨hf1, hf2, by omega, Nat.zero_le _, by show s.length ≤ _; omega, by simp, by simp, by simp⟩
  refine loop_w (P := PG) (X := Unit) (Y := Unit) (fun _ => envL .und [(5, .ptr (nx + 1) 0), (4, iv 0), (3, .ptr nx 0), (2, .nilSlice), (0, .str s)]) (fun _ => envL .und [(5, .ptr (nx + 1) 0), (4, iv 0), (3, .ptr nx 0), (2, .nilSlice), (0, .str s)])
   (fun m _ H2 nx2 => nx ≤ nx2 ∧ ∃ ob σ, ScI (gup nx (some cc) Γ) (nx + 1) ob σ ∧ σ.s = s ∧ HZ Z (scG (gup nx (some cc) Γ) (nx + 1) ob σ) H2 nx2 ∧ ((σ.bad = 0 ∧ Pt.scan m (s.drop σ.a) σ.line σ.col σ.out = R ∧ s.length - σ.a ≤ m) ∨ (σ.bad ≠ 0 ∧ R = .error ⟨σ.wl, σ.wc, σ.bad⟩)))
   (fun id _ H2 nx2 => id = 0 ∧ nx ≤ nx2 ∧ ∃ ob σ, ScI (gup nx (some cc) Γ) (nx + 1) ob σ ∧ HZ Z (scG (gup nx (some cc) Γ) (nx + 1) ob σ) H2 nx2 ∧ ((σ.bad = 0 ∧ Pt.scan 0 [] σ.line σ.col σ.out = R) ∨ (σ.bad ≠ 0 ∧ R = .error ⟨σ.wl, σ.wc, σ.bad⟩))) s.length () (EnvLe.of_list (by exact ⟨rfl, rfl, rfl, rfl, rfl, trivial⟩))
   ⟨by omega, _, _, I0, rfl, hk1, .inl ⟨rfl, hR, by simp⟩⟩ ?_ ?_
  ·rintro m _ H2 nx2 ⟨h2, ob, σ, I, hs, hk2, hst⟩
   refine WpP.trim (ts := [0, 2, 3, 4, 5]) (WpP.of_vK mixed ?_)
   rw [LAll_eq]
   unfold LAll
   refine ⟨rfl, _, rfl, (σ.a : Int), by rw [hk2.ld1 scG_r]; rfl, ifB_iff.2 ⟨fun h3 => ?_, fun h3 => ?_⟩⟩
   ·have h3 : (σ.a : Int) < (s.length : Int) := of_decide_eq_true h3
    refine ⟨rfl, _, rfl, σ.bad, by rw [hk2.ld1 scG_r]; rfl, ifB_iff.2 ⟨fun h4 => ?_, fun h4 => ?_⟩⟩
    ·have h4 : σ.bad = 0 := of_decide_eq_true h4
     obtain ⟨_, hsc, hm⟩ := hst.resolve_right fun x => x.1 h4
     have hlt : σ.a < s.length := by omega
     have hd : s.drop σ.a = s[σ.a] :: s.drop (σ.a + 1) := drop_cons hlt
     cases m with
     | zero =>
      omega
     | succ m =>
      rw [hd] at hsc
      refine one_okS (f := m) I h4 (by rw [hs]; exact hd) hsc (fun σ' ob' H' nx' g1 g2 g3 g4 g5 => onEnd_ret.2 ?_) hk2
      refine ⟨rfl, m, (), Nat.lt_succ_self m, EnvLe.of_list (by exact ⟨rfl, rfl, rfl, rfl, rfl, trivial⟩), by omega, ob', σ', g2, g3.trans hs, g5, ?_⟩
      rcases g4 with g4 | g4
      ·exact .inl ⟨g4.1, by rw [← hs]; exact g4.2.1, by have := g4.2.2; omega⟩
      ·exact .inr g4
    ·have h4 : ¬ σ.bad = 0 := of_decide_eq_false h4
     exact ⟨rfl, (), EnvLe.of_list (by exact ⟨rfl, rfl, rfl, rfl, rfl, trivial⟩), rfl, h2, ob, σ, I, hk2, .inr (hst.resolve_left fun x => h4 x.1)⟩
   ·have h3 : ¬ (σ.a : Int) < (s.length : Int) := of_decide_eq_false h3
    refine ⟨rfl, (), EnvLe.of_list (by exact ⟨rfl, rfl, rfl, rfl, rfl, trivial⟩), rfl, h2, ob, σ, I, hk2, ?_⟩
    rcases hst with ⟨h5, h6, _⟩ | h5
    ·refine .inl ⟨h5, ?_⟩
     rw [List.drop_eq_nil_of_le (by omega)] at h6
     rw [← h6]
     cases m <;> rfl
    ·exact .inr h5
  ·rintro id _ H2 nx2 ⟨rfl, h2, ob, σ, I, hk2, hst⟩
   rw [AAll_eq]
   unfold AAll
   have fin : ∀ {ob' : Nat} {σ' : Sst} {H3 : Heap} {nx3 : Nat}, nx ≤ nx3 → ScI (gup nx (some cc) Γ) (nx + 1) ob' σ' → HZ Z (scG (gup nx (some cc) Γ) (nx + 1) ob' σ') H3 nx3 → ((σ'.bad = 0 ∧ R = .ok σ'.out ∧ σ'.out ≠ []) ∨ (σ'.bad ≠ 0 ∧ R = .error ⟨σ'.wl, σ'.wc, σ'.bad⟩)) → _ := fun {ob'} {σ'} {H3} {nx3} g1 g2 g3 g4 => fin_okS (R := R) (K := K) (r := nx + 1) (c := nx) (ob := ob') (σ := σ') (H := H3) (nx := nx3) hf hcc g2 g3 g1 hK g4
   have last : ∀ {ob' : Nat} {σ' : Sst} {H3 : Heap} {nx3 : Nat}, nx ≤ nx3 → ScI (gup nx (some cc) Γ) (nx + 1) ob' σ' → HZ Z (scG (gup nx (some cc) Γ) (nx + 1) ob' σ') H3 nx3 → σ'.bad = 0 → Pt.put σ'.out ⟨0, [], 0, σ'.line, σ'.col⟩ = R →
     ∀ {Q : AEnd → Heap → Nat → Prop}, (∀ ob'' σ'' H4 nx4, nx ≤ nx4 → ScI (gup nx (some cc) Γ) (nx + 1) ob'' σ'' → HZ Z (scG (gup nx (some cc) Γ) (nx + 1) ob'' σ'') H4 nx4 → ((σ''.bad = 0 ∧ R = .ok σ''.out ∧ σ''.out ≠ []) ∨ (σ''.bad ≠ 0 ∧ R = .error ⟨σ''.wl, σ''.wc, σ''.bad⟩)) → Q (.ret (.tuple [])) H4 nx4) →
     TriP PG f_sc_put [.ptr (nx + 1) 0, iv 0, .str [], iv 0] H3 nx3 Q := by
    intro ob' σ' H3 nx3 g1 g2 g3 g4 g5 Q hQ
    refine put_okS g2 g3 (fun hfull H4 nx4 q1 q2 => hQ ob' { σ' with bad := 6, wl := σ'.line, wc := σ'.col } H4 nx4 (by omega) ⟨g2.r0, g2.o0, g2.ne, g2.le, g2.len, g2.few, g2.ln, g2.cl⟩ q2 (.inr ⟨by show (6 : Int) ≠ 0; decide, ?_⟩)) fun hfull ob'' H4 nx4 q1 q2 q3 q4 => hQ ob'' { σ' with out := σ'.out ++ [⟨0, [], 0, σ'.line, σ'.col⟩] } H4 nx4 (by omega) ⟨g2.r0, q2, q3, g2.le, g2.len, by have := g2.few; simp; omega, g2.ln, g2.cl⟩ q4 (.inl ⟨g4, ?_, by simp⟩)
    ·rw [← g5]; simp only [Pt.put, if_pos hfull]
    ·rw [← g5]; simp only [Pt.put, if_neg hfull]
   refine ⟨rfl, _, rfl, σ.bad, by rw [hk2.ld1 scG_r]; rfl, ifB_iff.2 ⟨fun h3 => ?_, fun h3 => ?_⟩⟩
   ·have h3 : σ.bad = 0 := of_decide_eq_true h3
    obtain ⟨_, hsc⟩ := hst.resolve_right fun x => x.1 h3
    have hsc : (Pt.putEnd σ.out σ.line σ.col >>= fun out => Pt.put out ⟨0, [], 0, σ.line, σ.col⟩) = R := hsc
    refine ends_okS I hk2 fun H3 nx3 h4 hk3 => onEnd_ret.2 ⟨_, rfl, ifB_iff.2 ⟨fun h5 => ?_, fun h5 => ?_⟩⟩
    ·unfold Pt.putEnd at hsc
     rw [if_pos h5] at hsc
     refine put_okS I hk3 (fun hfull H4 nx4 q1 q2 => onEnd_ret.2 ⟨rfl, _, rfl, 6, by rw [q2.ld1 scG_r]; rfl, ifB_iff.2 ⟨fun x => absurd (of_decide_eq_true x) (by decide), fun _ => ?_⟩⟩) fun hfull ob' H4 nx4 q1 q2 q3 q4 => onEnd_ret.2 ⟨rfl, _, rfl, σ.bad, by rw [q4.ld1 scG_r]; rfl, ifB_iff.2 ⟨fun _ => ?_, fun x => absurd h3 (of_decide_eq_false x)⟩⟩
     ·refine fin (σ' := { σ with bad := 6, wl := σ.line, wc := σ.col }) (by omega) ⟨I.r0, I.o0, I.ne, I.le, I.len, I.few, I.ln, I.cl⟩ q2 (.inr ⟨by show (6 : Int) ≠ 0; decide, ?_⟩)
      rw [← hsc]; simp only [Pt.put, if_pos hfull]; rfl
     ·refine last (σ' := { σ with out := σ.out ++ [⟨1, [59], 0, σ.line, σ.col⟩] }) (by omega) ⟨I.r0, q2, q3, I.le, I.len, by have := I.few; simp; omega, I.ln, I.cl⟩ q4 h3 (by rw [← hsc]; simp only [Pt.put, if_neg hfull]; rfl) fun ob'' σ'' H5 nx5 p1 p2 p3 p4 => onEnd_ret.2 (fin p1 p2 p3 p4)
    ·unfold Pt.putEnd at hsc
     rw [if_neg (by rw [h5]; simp)] at hsc
     refine ⟨rfl, _, rfl, σ.bad, by rw [hk3.ld1 scG_r]; rfl, ifB_iff.2 ⟨fun _ => ?_, fun x => absurd h3 (of_decide_eq_false x)⟩⟩
     exact last (by omega) I hk3 h3 hsc fun ob'' σ'' H5 nx5 p1 p2 p3 p4 => onEnd_ret.2 (fin p1 p2 p3 p4)
   ·have h3 : ¬ σ.bad = 0 := of_decide_eq_false h3
    refine ⟨rfl, _, rfl, σ.bad, by rw [hk2.ld1 scG_r]; rfl, ifB_iff.2 ⟨fun x => absurd (of_decide_eq_true x) h3, fun _ => ?_⟩⟩
    exact fin h2 I hk2 (.inr (hst.resolve_left fun x => h3 x.1))
end
end
end Go.Vs
end
section
namespace Go.Vs
open Go.Proofs
variable [GTab]
def LGaps (call : CallP) (lp : Nat → LoopP) (N : KC) (X : Nat → KC) (R : KC) (Pn : List (AVal × Bool) → KC) (r : Nat) (H : Heap) (nx : Nat) : Prop :=
 call f_rd_has [AVal.ptr r 0, AVal.str [59]] H nx fun e0 H1 i2 => onEnd e0 (fun v3 => ∃ b4, v3 = AVal.bool b4 ∧ ifB b4 (N (envL AVal.und [(0, AVal.ptr r 0)]) H1 i2 [] none) (X 0 (envL
 AVal.und [(0, AVal.ptr r 0)]) H1 i2 [] none)) fun l5 => Pn l5 (envL AVal.und [(0, AVal.ptr r 0)]) H1 i2 [] none
theorem LGaps_eq (call : CallP) (lp : Nat → LoopP) (N : KC) (X : Nat → KC) (R : KC) (Pn : List (AVal × Bool) → KC) (r : Nat) (H : Heap) (nx : Nat) : vK PG call (lp 4) 4 (subAt (codeOf PG 22) [0,0]) (envL .und [(0, AVal.ptr r 0)]) H nx [] none (trimK [0] (loopK N X R Pn)) = LGaps call lp N X R Pn r H nx := by kernel_rfl
def AGaps (call : CallP) (lp : Nat → LoopP) (lv : LeaveP) (lvc : LeaveC) (r : Nat) (H : Heap) (nx : Nat) (K : EndP) : Prop :=
 K (AEnd.ret (AVal.tuple [])) H nx
theorem AGaps_eq (call : CallP) (lp : Nat → LoopP) (lv : LeaveP) (lvc : LeaveC) (r : Nat) (H : Heap) (nx : Nat) (K : EndP) : contAt PG call (lp 4) 4 (codeOf PG 22) [0] (endK PG lv lvc K (resOf PG 22)) (.exit 0) (envL .und [(0, AVal.ptr r 0)]) H nx [] none = AGaps call lp lv lvc r H nx K := by kernel_rfl
def LList (call : CallP) (lp : Nat → LoopP) (N : KC) (X : Nat → KC) (R : KC) (Pn : List (AVal × Bool) → KC) (r : Nat) (g : Nat) (fs : List AVal) (cs : List AVal) (o : AVal) (H : Heap) (nx : Nat) : Prop :=
 call f_rd_has [AVal.ptr r 0, AVal.str [125]] H nx fun e0 H1 i2 => onEnd e0 (fun v3 => ∃ b4, v3 = AVal.bool b4 ∧ ifB (!b4) (∃ x5 l6, callTo PG (AVal.func (Fn.func g) fs cs) [] =
 some (x5, l6) ∧ call x5 l6 H1 i2 fun e7 H8 i9 => onEnd e7 (fun v10 => ∃ n11 s12 n13 n14 n15 v16, v10 = AVal.agg [iv n11, AVal.str s12, iv n13, iv n14, iv n15, v16] ∧ ∃ H17, H17 =
 newB i9 [iv n11, AVal.str s12, iv n13, iv n14, iv n15, v16] H8 ∧ ∃ i18 l19, aSrc 6 H17 (AVal.slice i9 0 1 6 true) = some (i18, l19) ∧ allCell l19 = true ∧ ∃ v20 H21 i22, appC H17
 (i9 + 1) 6 72 o i18 l19 = some (v20, H21, i22) ∧ call f_rd_ends [AVal.ptr r 0] H21 i22 fun e23 H24 i25 => onEnd e23 (fun v26 => N (envL AVal.und [(0, AVal.ptr r 0), (1, AVal.func (Fn.func
 g) fs cs), (5, v20)]) H24 i25 [] none) fun l27 => Pn l27 (envL AVal.und [(0, AVal.ptr r 0), (1, AVal.func (Fn.func g) fs cs), (5, v20)]) H24 i25 [] none) fun l28 => Pn l28 (envL
 AVal.und [(0, AVal.ptr r 0), (1, AVal.func (Fn.func g) fs cs), (5, o)]) H8 i9 [] none) (X 0 (envL AVal.und [(0, AVal.ptr r 0), (1, AVal.func (Fn.func g) fs cs), (5, o)]) H1 i2 []
 none)) fun l29 => Pn l29 (envL AVal.und [(0, AVal.ptr r 0), (1, AVal.func (Fn.func g) fs cs), (5, o)]) H1 i2 [] none
theorem LList_eq (call : CallP) (lp : Nat → LoopP) (N : KC) (X : Nat → KC) (R : KC) (Pn : List (AVal × Bool) → KC) (r : Nat) (g : Nat) (fs : List AVal) (cs : List AVal) (o : AVal) (H : Heap) (nx : Nat) : vK PG call (lp 21) 21 (subAt (codeOf PG 44) [1,1,1,1,0,0,0]) (envL .und [(5, o), (1, AVal.func (.func g) fs cs), (0, AVal.ptr r 0)]) H nx [] none (trimK [0,1,5] (loopK N X R Pn)) = LList call lp N X R Pn r g fs cs o H nx := by kernel_rfl
def AList (call : CallP) (lp : Nat → LoopP) (lv : LeaveP) (lvc : LeaveC) (o : AVal) (H : Heap) (nx : Nat) (K : EndP) : Prop :=
 K (AEnd.ret o) H nx
theorem AList_eq (call : CallP) (lp : Nat → LoopP) (lv : LeaveP) (lvc : LeaveC) (o : AVal) (H : Heap) (nx : Nat) (K : EndP) : contAt PG call (lp 21) 21 (codeOf PG 44) [1,1,1,1,0,0] (endK PG lv lvc K (resOf PG 44)) (.exit 0) (envL .und [(5, o)]) H nx [] none = AList call lp lv lvc o H nx K := by kernel_rfl
def LRow (call : CallP) (lp : Nat → LoopP) (N : KC) (X : Nat → KC) (R : KC) (Pn : List (AVal × Bool) → KC) (r : Nat) (g : Nat) (fs : List AVal) (cs : List AVal) (o : AVal) (H : Heap) (nx : Nat) : Prop :=
 ∃ x0 l1, callTo PG (AVal.func (Fn.func g) fs cs) [] = some (x0, l1) ∧ call x0 l1 H nx fun e2 H3 i4 => onEnd e2 (fun v5 => ∃ n6 s7 n8 n9 n10 v11, v5 = AVal.agg [iv n6,
 AVal.str s7, iv n8, iv n9, iv n10, v11] ∧ ∃ H12, H12 = newB i4 [iv n6, AVal.str s7, iv n8, iv n9, iv n10, v11] H3 ∧ ∃ i13 l14, aSrc 6 H12 (AVal.slice i4 0 1 6 true) = some (i13,
 l14) ∧ allCell l14 = true ∧ ∃ v15 H16 i17, appC H12 (i4 + 1) 6 72 o i13 l14 = some (v15, H16, i17) ∧ call f_rd_has [AVal.ptr r 0, AVal.str [44]] H16 i17 fun e18 H19 i20 => onEnd e18 (fun
 v21 => ∃ b22, v21 = AVal.bool b22 ∧ ifB (!b22) (call f_rd_need [AVal.ptr r 0, AVal.str [41]] H19 i20 fun e23 H24 i25 => onEnd e23 (fun v26 => ∃ n27 s28 n29 n30 n31, v26 = AVal.agg [iv n27,
 AVal.str s28, iv n29, iv n30, iv n31] ∧ R (envL AVal.und [(0, AVal.ptr r 0), (1, AVal.func (Fn.func g) fs cs), (4, v15), (5, v15)]) H24 i25 [] none) fun l32 => Pn l32 (envL AVal.und
 [(0, AVal.ptr r 0), (1, AVal.func (Fn.func g) fs cs), (4, AVal.und), (5, v15)]) H24 i25 [] none) (N (envL AVal.und [(0, AVal.ptr r 0), (1, AVal.func (Fn.func g) fs cs), (4,
 AVal.und), (5, v15)]) H19 i20 [] none)) fun l33 => Pn l33 (envL AVal.und [(0, AVal.ptr r 0), (1, AVal.func (Fn.func g) fs cs), (4, AVal.und), (5, v15)]) H19 i20 [] none) fun l34 =>
 Pn l34 (envL AVal.und [(0, AVal.ptr r 0), (1, AVal.func (Fn.func g) fs cs), (4, AVal.und), (5, o)]) H3 i4 [] none
theorem LRow_eq (call : CallP) (lp : Nat → LoopP) (N : KC) (X : Nat → KC) (R : KC) (Pn : List (AVal × Bool) → KC) (r : Nat) (g : Nat) (fs : List AVal) (cs : List AVal) (o : AVal) (H : Heap) (nx : Nat) : vK PG call (lp 22) 22 (subAt (codeOf PG 48) [1,1,1,1,0,0]) (envL .und [(5, o), (1, AVal.func (.func g) fs cs), (0, AVal.ptr r 0)]) H nx [] none (trimK [0,1,4,5] (loopK N X R Pn)) = LRow call lp N X R Pn r g fs cs o H nx := by kernel_rfl
def LBin (call : CallP) (lp : Nat → LoopP) (N : KC) (X : Nat → KC) (R : KC) (Pn : List (AVal × Bool) → KC) (r : Nat) (x : Nat) (c : Nat) (k : Int) (H : Heap) (nx : Nat) : Prop :=
 call f_rd_now [AVal.ptr r 0] H nx fun e0 H1 i2 => onEnd e0 (fun v3 => ∃ n4 s5 n6 n7 n8, v3 = AVal.agg [iv n4, AVal.str s5, iv n6, iv n7, iv n8] ∧ ∃ H9, H9 = newB i2 [iv 0, AVal.str [], iv
 0, iv 0, iv 0] H1 ∧ ∃ H10, stC H9 (AVal.ptr i2 0) [iv n4, AVal.str s5, iv n6, iv n7, iv n8] = some H10 ∧ ∃ v11, some (AVal.ptr i2 1) = some v11 ∧ ∃ s12, ld1 H10 v11 = some (AVal.str
 s12) ∧ call f_p_rank [AVal.str s12] H10 (i2 + 1) fun e13 H14 i15 => onEnd e13 (fun v16 => ∃ n17 : Int, v16 = iv n17 ∧ ∃ v18, some (AVal.ptr i2 0) = some v18 ∧ ∃ n19 : Int, ld1 H14 v18 =
 some (iv n19) ∧ ifB (!decide (n19 = 6)) (∃ n20 s21 n22 n23 n24 v25, ldN H14 6 (AVal.ptr x 0) = some (AVal.agg [iv n20, AVal.str s21, iv n22, iv n23, iv n24, v25]) ∧ ∃ H26, stC H14
 (AVal.ptr c 0) [iv n20, AVal.str s21, iv n22, iv n23, iv n24, v25] = some H26 ∧ R (envL AVal.und [(0, AVal.ptr r 0), (1, iv k), (4, AVal.ptr c 0), (5, AVal.ptr x 0)]) H26 i15 []
 none) (ifB (decide (n17 < k)) (∃ n27 s28 n29 n30 n31 v32, ldN H14 6 (AVal.ptr x 0) = some (AVal.agg [iv n27, AVal.str s28, iv n29, iv n30, iv n31, v32]) ∧ ∃ H33, stC H14 (AVal.ptr c
 0) [iv n27, AVal.str s28, iv n29, iv n30, iv n31, v32] = some H33 ∧ R (envL AVal.und [(0, AVal.ptr r 0), (1, iv k), (4, AVal.ptr c 0), (5, AVal.ptr x 0)]) H33 i15 [] none) (call 58
 [AVal.ptr r 0] H14 i15 fun e34 H35 i36 => onEnd e34 (fun v37 => ∃ n38 s39 n40 n41 n42, v37 = AVal.agg [iv n38, AVal.str s39, iv n40, iv n41, iv n42] ∧ ∃ n43 s44 n45 n46 n47, ldN H35
 5 (AVal.ptr i2 0) = some (AVal.agg [iv n43, AVal.str s44, iv n45, iv n46, iv n47]) ∧ ∃ v48, some (AVal.ptr i2 1) = some v48 ∧ ∃ s49, ld1 H35 v48 = some (AVal.str s49) ∧ ∃ n50 s51
 n52 n53 n54 v55, ldN H35 6 (AVal.ptr x 0) = some (AVal.agg [iv n50, AVal.str s51, iv n52, iv n53, iv n54, v55]) ∧ ((∃ n56 s57 n58 n59 n60, ldN H35 5 (AVal.ptr i2 0) = some (AVal.agg
 [iv n56, AVal.str s57, iv n58, iv n59, iv n60]) ∧ AVal.agg [iv n56, AVal.str s57, iv n58, iv n59, iv n60] = AVal.agg [iv n43, AVal.str s44, iv n45, iv n46, iv n47]) ∧ (∃ s61, ld1
 H35 v48 = some (AVal.str s61) ∧ AVal.str s61 = AVal.str s49) ∧ (∃ n62 s63 n64 n65 n66 v67, ldN H35 6 (AVal.ptr x 0) = some (AVal.agg [iv n62, AVal.str s63, iv n64, iv n65, iv n66,
 v67]) ∧ AVal.agg [iv n62, AVal.str s63, iv n64, iv n65, iv n66, v67] = AVal.agg [iv n50, AVal.str s51, iv n52, iv n53, iv n54, v55]) ∧ True) ∧ call f_rd_binary [AVal.ptr r 0, iv
 (IntKind.i64.wrap (n17 + 1))] H35 (i36 + 11) fun e68 H69 i70 => onEnd e68 (fun v71 => ∃ n72 s73 n74 n75 n76 v77, v71 = AVal.agg [iv n72, AVal.str s73, iv n74, iv n75, iv n76, v77] ∧
 ∃ H78, H78 = newB (i36 + 8) [iv n50, AVal.str s51, iv n52, iv n53, iv n54, v55, iv n72, AVal.str s73, iv n74, iv n75, iv n76, v77] H69 ∧ ((∃ n79 s80 n81 n82 n83, ldN H78 5 (AVal.ptr
 i2 0) = some (AVal.agg [iv n79, AVal.str s80, iv n81, iv n82, iv n83]) ∧ AVal.agg [iv n79, AVal.str s80, iv n81, iv n82, iv n83] = AVal.agg [iv n43, AVal.str s44, iv n45, iv n46, iv
 n47]) ∧ (∃ s84, ld1 H78 v48 = some (AVal.str s84) ∧ AVal.str s84 = AVal.str s49) ∧ (∃ n85 s86 n87 n88 n89 v90, ldN H78 6 (AVal.ptr x 0) = some (AVal.agg [iv n85, AVal.str s86, iv
 n87, iv n88, iv n89, v90]) ∧ AVal.agg [iv n85, AVal.str s86, iv n87, iv n88, iv n89, v90] = AVal.agg [iv n50, AVal.str s51, iv n52, iv n53, iv n54, v55]) ∧ True) ∧ call f_p_node [AVal.agg
 [iv n43, AVal.str s44, iv n45, iv n46, iv n47], iv 28, AVal.str s49, AVal.slice (i36 + 8) 0 2 6 true] H78 i70 fun e91 H92 i93 => onEnd e91 (fun v94 => ∃ n95 s96 n97 n98 n99 v100,
 v94 = AVal.agg [iv n95, AVal.str s96, iv n97, iv n98, iv n99, v100] ∧ True ∧ ∃ H101, stC H92 (AVal.ptr x 0) [iv n95, AVal.str s96, iv n97, iv n98, iv n99, v100] = some H101 ∧ True ∧
 N (envL AVal.und [(0, AVal.ptr r 0), (1, iv k), (4, AVal.ptr c 0), (5, AVal.ptr x 0)]) H101 i93 [] none) fun l102 => Pn l102 (envL AVal.und [(0, AVal.ptr r 0), (1, iv k), (4,
 AVal.ptr c 0), (5, AVal.ptr x 0)]) H92 i93 [] none) fun l103 => Pn l103 (envL AVal.und [(0, AVal.ptr r 0), (1, iv k), (4, AVal.ptr c 0), (5, AVal.ptr x 0)]) H69 i70 [] none) fun
 l104 => Pn l104 (envL AVal.und [(0, AVal.ptr r 0), (1, iv k), (4, AVal.ptr c 0), (5, AVal.ptr x 0)]) H35 i36 [] none))) fun l105 => Pn l105 (envL AVal.und [(0, AVal.ptr r 0), (1, iv
 k), (4, AVal.ptr c 0), (5, AVal.ptr x 0)]) H14 i15 [] none) fun l106 => Pn l106 (envL AVal.und [(0, AVal.ptr r 0), (1, iv k), (4, AVal.ptr c 0), (5, AVal.ptr x 0)]) H1 i2 [] none
theorem LBin_eq (call : CallP) (lp : Nat → LoopP) (N : KC) (X : Nat → KC) (R : KC) (Pn : List (AVal × Bool) → KC) (r : Nat) (x : Nat) (c : Nat) (k : Int) (H : Heap) (nx : Nat) : vK PG call (lp 36) 36 (subAt (codeOf PG 73) [1,1,0,0]) (envL .und [(5, AVal.ptr x 0), (4, AVal.ptr c 0), (1, iv k), (0, AVal.ptr r 0)]) H nx [] none (trimK [0,1,4,5] (loopK N X R Pn)) = LBin call lp N X R Pn r x c k H nx := by kernel_rfl
def LPost (call : CallP) (lp : Nat → LoopP) (N : KC) (X : Nat → KC) (R : KC) (Pn : List (AVal × Bool) → KC) (r : Nat) (x : Nat) (c : Nat) (H : Heap) (nx : Nat) : Prop :=
 call f_rd_now [AVal.ptr r 0] H nx fun e0 H1 i2 => onEnd e0 (fun v3 => ∃ n4 s5 n6 n7 n8, v3 = AVal.agg [iv n4, AVal.str s5, iv n6, iv n7, iv n8] ∧ ∃ H9, H9 = newB i2 [iv 0, AVal.str [], iv
 0, iv 0, iv 0] H1 ∧ ∃ H10, stC H9 (AVal.ptr i2 0) [iv n4, AVal.str s5, iv n6, iv n7, iv n8] = some H10 ∧ call f_rd_has [AVal.ptr r 0, AVal.str [91]] H10 (i2 + 1) fun e11 H12 i13 => onEnd
 e11 (fun v14 => ∃ b15, v14 = AVal.bool b15 ∧ ifB b15 (call f_rd_expr [AVal.ptr r 0] H12 i13 fun e16 H17 i18 => onEnd e16 (fun v19 => ∃ n20 s21 n22 n23 n24 v25, v19 = AVal.agg [iv n20,
 AVal.str s21, iv n22, iv n23, iv n24, v25] ∧ ∃ H26, H26 = newB i18 [iv 0, AVal.str [], iv 0, iv 0, iv 0, AVal.nilSlice] H17 ∧ ∃ H27, stC H26 (AVal.ptr i18 0) [iv n20, AVal.str s21,
 iv n22, iv n23, iv n24, v25] = some H27 ∧ call f_rd_need [AVal.ptr r 0, AVal.str [93]] H27 (i18 + 1) fun e28 H29 i30 => onEnd e28 (fun v31 => ∃ n32 s33 n34 n35 n36, v31 = AVal.agg [iv n32,
 AVal.str s33, iv n34, iv n35, iv n36] ∧ ∃ n37 s38 n39 n40 n41, ldN H29 5 (AVal.ptr i2 0) = some (AVal.agg [iv n37, AVal.str s38, iv n39, iv n40, iv n41]) ∧ ∃ n42 s43 n44 n45 n46
 v47, ldN H29 6 (AVal.ptr x 0) = some (AVal.agg [iv n42, AVal.str s43, iv n44, iv n45, iv n46, v47]) ∧ ∃ n48 s49 n50 n51 n52 v53, ldN H29 6 (AVal.ptr i18 0) = some (AVal.agg [iv n48,
 AVal.str s49, iv n50, iv n51, iv n52, v53]) ∧ ∃ H54, H54 = newB i30 [iv n42, AVal.str s43, iv n44, iv n45, iv n46, v47, iv n48, AVal.str s49, iv n50, iv n51, iv n52, v53] H29 ∧ call
 28 [AVal.agg [iv n37, AVal.str s38, iv n39, iv n40, iv n41], iv 32, AVal.str [], AVal.slice i30 0 2 6 true] H54 (i30 + 1) fun e55 H56 i57 => onEnd e55 (fun v58 => ∃ n59 s60 n61 n62
 n63 v64, v58 = AVal.agg [iv n59, AVal.str s60, iv n61, iv n62, iv n63, v64] ∧ ∃ H65, stC H56 (AVal.ptr x 0) [iv n59, AVal.str s60, iv n61, iv n62, iv n63, v64] = some H65 ∧ N (envL
 AVal.und [(0, AVal.ptr r 0), (2, AVal.ptr c 0), (3, AVal.ptr x 0)]) H65 i57 [] none) fun l66 => Pn l66 (envL AVal.und [(0, AVal.ptr r 0), (2, AVal.ptr c 0), (3, AVal.ptr x 0)]) H56
 i57 [] none) fun l67 => Pn l67 (envL AVal.und [(0, AVal.ptr r 0), (2, AVal.ptr c 0), (3, AVal.ptr x 0)]) H29 i30 [] none) fun l68 => Pn l68 (envL AVal.und [(0, AVal.ptr r 0), (2,
 AVal.ptr c 0), (3, AVal.ptr x 0)]) H17 i18 [] none) (call f_rd_has [AVal.ptr r 0, AVal.str [46]] H12 i13 fun e69 H70 i71 => onEnd e69 (fun v72 => ∃ b73, v72 = AVal.bool b73 ∧ ifB b73 (∃
 n74 s75 n76 n77 n78, ldN H70 5 (AVal.ptr i2 0) = some (AVal.agg [iv n74, AVal.str s75, iv n76, iv n77, iv n78]) ∧ ∃ n79 s80 n81 n82 n83 v84, ldN H70 6 (AVal.ptr x 0) = some
 (AVal.agg [iv n79, AVal.str s80, iv n81, iv n82, iv n83, v84]) ∧ call f_rd_dot [AVal.ptr r 0, AVal.agg [iv n74, AVal.str s75, iv n76, iv n77, iv n78], AVal.agg [iv n79, AVal.str s80, iv
 n81, iv n82, iv n83, v84]] H70 i71 fun e85 H86 i87 => onEnd e85 (fun v88 => ∃ n89 s90 n91 n92 n93 v94, v88 = AVal.agg [iv n89, AVal.str s90, iv n91, iv n92, iv n93, v94] ∧ ∃ H95,
 stC H86 (AVal.ptr x 0) [iv n89, AVal.str s90, iv n91, iv n92, iv n93, v94] = some H95 ∧ N (envL AVal.und [(0, AVal.ptr r 0), (2, AVal.ptr c 0), (3, AVal.ptr x 0)]) H95 i87 [] none)
 fun l96 => Pn l96 (envL AVal.und [(0, AVal.ptr r 0), (2, AVal.ptr c 0), (3, AVal.ptr x 0)]) H86 i87 [] none) (∃ n97 s98 n99 n100 n101 v102, ldN H70 6 (AVal.ptr x 0) = some (AVal.agg
 [iv n97, AVal.str s98, iv n99, iv n100, iv n101, v102]) ∧ ∃ H103, stC H70 (AVal.ptr c 0) [iv n97, AVal.str s98, iv n99, iv n100, iv n101, v102] = some H103 ∧ R (envL AVal.und [(0,
 AVal.ptr r 0), (2, AVal.ptr c 0), (3, AVal.ptr x 0)]) H103 i71 [] none)) fun l104 => Pn l104 (envL AVal.und [(0, AVal.ptr r 0), (2, AVal.ptr c 0), (3, AVal.ptr x 0)]) H70 i71 []
 none)) fun l105 => Pn l105 (envL AVal.und [(0, AVal.ptr r 0), (2, AVal.ptr c 0), (3, AVal.ptr x 0)]) H12 i13 [] none) fun l106 => Pn l106 (envL AVal.und [(0, AVal.ptr r 0), (2,
 AVal.ptr c 0), (3, AVal.ptr x 0)]) H1 i2 [] none
theorem LPost_eq (call : CallP) (lp : Nat → LoopP) (N : KC) (X : Nat → KC) (R : KC) (Pn : List (AVal × Bool) → KC) (r : Nat) (x : Nat) (c : Nat) (H : Heap) (nx : Nat) : vK PG call (lp 30) 30 (subAt (codeOf PG 76) [1,1,0,0]) (envL .und [(3, AVal.ptr x 0), (2, AVal.ptr c 0), (0, AVal.ptr r 0)]) H nx [] none (trimK [0,2,3] (loopK N X R Pn)) = LPost call lp N X R Pn r x c H nx := by kernel_rfl
def LFile (call : CallP) (lp : Nat → LoopP) (N : KC) (X : Nat → KC) (R : KC) (Pn : List (AVal × Bool) → KC) (r : Nat) (f : Nat) (c : Nat) (o : AVal) (H : Heap) (nx : Nat) : Prop :=
 call f_rd_now [AVal.ptr r 0] H nx fun e0 H1 i2 => onEnd e0 (fun v3 => ∃ n4 s5 n6 n7 n8, v3 = AVal.agg [iv n4, AVal.str s5, iv n6, iv n7, iv n8] ∧ ifB (!decide (n4 = 0)) (call f_rd_is [AVal.ptr
 r 0, AVal.str [116, 121, 112, 101]] H1 i2 fun e9 H10 i11 => onEnd e9 (fun v12 => ∃ b13, v12 = AVal.bool b13 ∧ ifB b13 (call f_rd_typeDecl [AVal.ptr r 0] H10 i11 fun e14 H15 i16 => onEnd e14
 (fun v17 => ∃ n18 s19 n20 n21 n22 v23, v17 = AVal.agg [iv n18, AVal.str s19, iv n20, iv n21, iv n22, v23] ∧ ∃ H24, H24 = newB i16 [iv n18, AVal.str s19, iv n20, iv n21, iv n22, v23]
 H15 ∧ ∃ i25 l26, aSrc 6 H24 (AVal.slice i16 0 1 6 true) = some (i25, l26) ∧ allCell l26 = true ∧ ∃ v27 H28 i29, appC H24 (i16 + 1) 6 72 o i25 l26 = some (v27, H28, i29) ∧ call 27
 [AVal.ptr r 0, AVal.str [59]] H28 i29 fun e30 H31 i32 => onEnd e30 (fun v33 => ∃ n34 s35 n36 n37 n38, v33 = AVal.agg [iv n34, AVal.str s35, iv n36, iv n37, iv n38] ∧ call 22
 [AVal.ptr r 0] H31 i32 fun e39 H40 i41 => onEnd e39 (fun v42 => N (envL AVal.und [(0, AVal.ptr r 0), (2, AVal.ptr c 0), (3, AVal.ptr f 0), (4, v27)]) H40 i41 [] none) fun l43 => Pn
 l43 (envL AVal.und [(0, AVal.ptr r 0), (2, AVal.ptr c 0), (3, AVal.ptr f 0), (4, v27)]) H40 i41 [] none) fun l44 => Pn l44 (envL AVal.und [(0, AVal.ptr r 0), (2, AVal.ptr c 0), (3,
 AVal.ptr f 0), (4, v27)]) H31 i32 [] none) fun l45 => Pn l45 (envL AVal.und [(0, AVal.ptr r 0), (2, AVal.ptr c 0), (3, AVal.ptr f 0), (4, o)]) H15 i16 [] none) (call f_rd_is [AVal.ptr r
 0, AVal.str [102, 117, 110, 99]] H10 i11 fun e46 H47 i48 => onEnd e46 (fun v49 => ∃ b50, v49 = AVal.bool b50 ∧ ifB b50 (call f_rd_funcDecl [AVal.ptr r 0] H47 i48 fun e51 H52 i53 => onEnd e51
 (fun v54 => ∃ n55 s56 n57 n58 n59 v60, v54 = AVal.agg [iv n55, AVal.str s56, iv n57, iv n58, iv n59, v60] ∧ ∃ H61, H61 = newB i53 [iv n55, AVal.str s56, iv n57, iv n58, iv n59, v60]
 H52 ∧ ∃ i62 l63, aSrc 6 H61 (AVal.slice i53 0 1 6 true) = some (i62, l63) ∧ allCell l63 = true ∧ ∃ v64 H65 i66, appC H61 (i53 + 1) 6 72 o i62 l63 = some (v64, H65, i66) ∧ call 27
 [AVal.ptr r 0, AVal.str [59]] H65 i66 fun e67 H68 i69 => onEnd e67 (fun v70 => ∃ n71 s72 n73 n74 n75, v70 = AVal.agg [iv n71, AVal.str s72, iv n73, iv n74, iv n75] ∧ call 22
 [AVal.ptr r 0] H68 i69 fun e76 H77 i78 => onEnd e76 (fun v79 => N (envL AVal.und [(0, AVal.ptr r 0), (2, AVal.ptr c 0), (3, AVal.ptr f 0), (4, v64)]) H77 i78 [] none) fun l80 => Pn
 l80 (envL AVal.und [(0, AVal.ptr r 0), (2, AVal.ptr c 0), (3, AVal.ptr f 0), (4, v64)]) H77 i78 [] none) fun l81 => Pn l81 (envL AVal.und [(0, AVal.ptr r 0), (2, AVal.ptr c 0), (3,
 AVal.ptr f 0), (4, v64)]) H68 i69 [] none) fun l82 => Pn l82 (envL AVal.und [(0, AVal.ptr r 0), (2, AVal.ptr c 0), (3, AVal.ptr f 0), (4, o)]) H52 i53 [] none) (call f_rd_fault [AVal.ptr r
 0, iv 13] H47 i48 fun e83 H84 i85 => onEnd e83 (fun v86 => call f_rd_need [AVal.ptr r 0, AVal.str [59]] H84 i85 fun e87 H88 i89 => onEnd e87 (fun v90 => ∃ n91 s92 n93 n94 n95, v90 =
 AVal.agg [iv n91, AVal.str s92, iv n93, iv n94, iv n95] ∧ call f_rd_gaps [AVal.ptr r 0] H88 i89 fun e96 H97 i98 => onEnd e96 (fun v99 => N (envL AVal.und [(0, AVal.ptr r 0), (2, AVal.ptr c
 0), (3, AVal.ptr f 0), (4, o)]) H97 i98 [] none) fun l100 => Pn l100 (envL AVal.und [(0, AVal.ptr r 0), (2, AVal.ptr c 0), (3, AVal.ptr f 0), (4, o)]) H97 i98 [] none) fun l101 =>
 Pn l101 (envL AVal.und [(0, AVal.ptr r 0), (2, AVal.ptr c 0), (3, AVal.ptr f 0), (4, o)]) H88 i89 [] none) fun l102 => Pn l102 (envL AVal.und [(0, AVal.ptr r 0), (2, AVal.ptr c 0),
 (3, AVal.ptr f 0), (4, o)]) H84 i85 [] none)) fun l103 => Pn l103 (envL AVal.und [(0, AVal.ptr r 0), (2, AVal.ptr c 0), (3, AVal.ptr f 0), (4, o)]) H47 i48 [] none)) fun l104 => Pn
 l104 (envL AVal.und [(0, AVal.ptr r 0), (2, AVal.ptr c 0), (3, AVal.ptr f 0), (4, o)]) H10 i11 [] none) (X 0 (envL AVal.und [(0, AVal.ptr r 0), (2, AVal.ptr c 0), (3, AVal.ptr f 0),
 (4, o)]) H1 i2 [] none)) fun l105 => Pn l105 (envL AVal.und [(0, AVal.ptr r 0), (2, AVal.ptr c 0), (3, AVal.ptr f 0), (4, o)]) H1 i2 [] none
theorem LFile_eq (call : CallP) (lp : Nat → LoopP) (N : KC) (X : Nat → KC) (R : KC) (Pn : List (AVal × Bool) → KC) (r : Nat) (f : Nat) (c : Nat) (o : AVal) (H : Heap) (nx : Nat) : vK PG call (lp 38) 38 (subAt (codeOf PG 14) [1,1,1,1,0,0,0]) (envL .und [(4, o), (3, AVal.ptr f 0), (2, AVal.ptr c 0), (0, AVal.ptr r 0)]) H nx [] none (trimK [0,2,3,4] (loopK N X R Pn)) = LFile call lp N X R Pn r f c o H nx := by kernel_rfl
def AFile (call : CallP) (lp : Nat → LoopP) (lv : LeaveP) (lvc : LeaveC) (f : Nat) (c : Nat) (o : AVal) (H : Heap) (nx : Nat) (K : EndP) : Prop :=
 ∃ n0 s1 n2 n3 n4, ldN H 5 (AVal.ptr f 0) = some (AVal.agg [iv n0, AVal.str s1, iv n2, iv n3, iv n4]) ∧ call f_p_node [AVal.agg [iv n0, AVal.str s1, iv n2, iv n3, iv n4], iv 1, AVal.str
 [], o] H nx fun e5 H6 i7 => onEnd e5 (fun v8 => ∃ n9 s10 n11 n12 n13 v14, v8 = AVal.agg [iv n9, AVal.str s10, iv n11, iv n12, iv n13, v14] ∧ ∃ H15, stC H6 (AVal.ptr c 0) [iv n9,
 AVal.str s10, iv n11, iv n12, iv n13, v14] = some H15 ∧ ∃ n16 s17 n18 n19 n20 v21, ldN H15 6 (AVal.ptr c 0) = some (AVal.agg [iv n16, AVal.str s17, iv n18, iv n19, iv n20, v21]) ∧ K
 (AEnd.ret (AVal.agg [iv n16, AVal.str s17, iv n18, iv n19, iv n20, v21])) H15 i7) fun l22 => K (AEnd.pan l22) H6 i7
theorem AFile_eq (call : CallP) (lp : Nat → LoopP) (lv : LeaveP) (lvc : LeaveC) (f : Nat) (c : Nat) (o : AVal) (H : Heap) (nx : Nat) (K : EndP) : contAt PG call (lp 38) 38 (codeOf PG 14) [1,1,1,1,0,0] (endK PG lv lvc K (resOf PG 14)) (.exit 0) (envL .und [(4, o), (3, AVal.ptr f 0), (2, AVal.ptr c 0)]) H nx [] none = AFile call lp lv lvc f c o H nx K := by kernel_rfl
end Go.Vs
end
section
namespace Go.Vs
open Go.Proofs
variable [GTab] {Z : Nat → Prop}
noncomputable section
theorem leave_body : hasBody PG f_rd_leave = true := by kernel_rfl
theorem leaveD {Γ : GH} {H : Heap} {nx r : Nat} {x y : AVal} {n : Int} {m : AMode} {K : AEnd → AMode → Heap → Nat → Prop} (hk : HZ Z Γ H nx) (hp : Γ r = some [x, y, iv n])
  (hK : ∀ H', HZ Z (gup r (some [x, y, iv (IntKind.i64.wrap (n - 1))]) Γ) H' nx → K (.ret (.tuple [])) m H' nx) : TriDP PG f_rd_leave [.ptr r 0] m H nx K := by
 refine TriDP.of_end mixed leave_body ?_
 rw [Frd_leave_eq]
 unfold Frd_leave
 refine ⟨rfl, _, rfl, n, by rw [hk.ld1 hp]; rfl, rfl, _, rfl, rfl, stOne hk hp (j := 2) (by simp) rfl fun H1 h1 => hK H1 ?_⟩
 simpa using h1
theorem vLoad_node {H : Heap} {a : AVal} {k : AVal → Prop} : vLoad PG t_node H a k = (∃ (n : Int) (s : List UInt8) (x y z : Int) (v : AVal), ldN H 6 a = some (.agg [.int .i64 n, .str s, .int .i64 x, .int .i64 y, .int .i64 z, v]) ∧ k (.agg [.int .i64 n, .str s, .int .i64 x, .int .i64 y, .int .i64 z, v])) := by kernel_rfl
section
variable {Γ : GH} {H : Heap} {nx a d i : Nat} {C : RC} {K : EndP}
theorem lv_pan {f : Flt} (hk : HZ Z Γ H nx) (hp : RdP Γ C.r) (hK : ∀ Γ' H', HZ Z Γ' H' nx → KeepX C.r nx Γ Γ' → RdP Γ' C.r → K (.pan [(fltV f, false)]) H' nx) :
  lvcSem PG (TriDP PG) [.cell (.ptr i 0) t_node] [(f_rd_leave, [.ptr C.r 0])] (.panicking [(fltV f, false)]) H nx K := by
 obtain ⟨x, y, n, e⟩ := hp
 exact leaveD hk e fun H' h => onEnd_ret.2 (hK _ _ h (.upd e) ⟨x, y, _, gup_same _ _ _⟩)
theorem lv_ret {n x y z : Int} {s : List UInt8} {v : AVal} (hk : HZ Z Γ H nx) (hr : Rd Γ C a (d + 1)) (hi : Γ i = some [iv n, .str s, iv x, iv y, iv z, v]) (hne : i ≠ C.r)
  (hK : ∀ Γ' H', HZ Z Γ' H' nx → KeepX C.r nx Γ Γ' → Rd Γ' C a d → K (.ret (.agg [iv n, .str s, iv x, iv y, iv z, v])) H' nx) :
  lvcSem PG (TriDP PG) [.cell (.ptr i 0) t_node] [(f_rd_leave, [.ptr C.r 0])] .returning H nx K := by
 obtain ⟨full, e, hr'⟩ := hr.set (a' := a) (d' := d) hr.lt (by have := hr.deep; omega)
 refine leaveD hk e fun H' h => onEnd_ret.2 ?_
 show vLoad PG t_node H' (.ptr i 0) fun v => K (.ret v) H' nx
 rw [vLoad_node]
 have hd := hr.deep
 rw [wrap64_id (by omega) (by omega), show ((d + 1 : Nat) : Int) - 1 = (d : Int) by omega] at h
 exact ⟨_, _, _, _, _, _, ldAll h (by rw [gup_ne hne]; exact hi) rfl, hK _ _ h (.upd e) hr'⟩
theorem gaps_ok (W : Toks C.l) (hk : HZ Z Γ H nx) (hr : Rd Γ C a d)
  (hK : ∀ Γ' H' nx', nx ≤ nx' → HZ Z Γ' H' nx' → KeepX C.r nx Γ Γ' → Rd Γ' C (Ps.gaps C.l a) d → K (.ret (.tuple [])) H' nx') : TriP PG f_rd_gaps [.ptr C.r 0] H nx K := by
 refine TriP.of_body mixed ?_
 rw [Frd_gaps_eq]
 unfold Frd_gaps
 refine loop_w (P := PG) (X := Nat) (Y := Unit) (fun _ => envL .und [(0, .ptr C.r 0)]) (fun _ => envL .und [(0, .ptr C.r 0)])
  (fun m b H1 nx1 => nx ≤ nx1 ∧ ∃ Γ1, HZ Z Γ1 H1 nx1 ∧ KeepX C.r nx Γ Γ1 ∧ Rd Γ1 C b d ∧ m = C.l.length - b ∧ Ps.gapsN C.l m b = Ps.gaps C.l a)
  (fun id _ H1 nx1 => id = 0 ∧ nx ≤ nx1 ∧ ∃ Γ1, HZ Z Γ1 H1 nx1 ∧ KeepX C.r nx Γ Γ1 ∧ Rd Γ1 C (Ps.gaps C.l a) d) (C.l.length - a) a (EnvLe.of_list (by exact ⟨rfl, trivial⟩))
  ⟨Nat.le_refl _, Γ, hk, .refl _ _ _, hr, rfl, rfl⟩ ?_ ?_
 ·rintro m b H1 nx1 ⟨h1, Γ1, hk1, kp, hr1, rfl, hg⟩
  refine WpP.trim (ts := [0]) (WpP.of_vK mixed ?_)
  rw [LGaps_eq]
  unfold LGaps
  have hlt := hr1.lt
  obtain ⟨m, hm⟩ : ∃ m, C.l.length - b = m + 1 := ⟨C.l.length - b - 1, by omega⟩
  refine has_ok W hk1 hr1 (fun h H2 nx2 h2 hk2 => onEnd_ret.2 ⟨_, rfl, ?_⟩) fun h Γ2 H2 nx2 h2 hk2 kp2 hr2 => onEnd_ret.2 ⟨_, rfl, ?_⟩
  ·refine ⟨rfl, (), EnvLe.refl _, rfl, by omega, Γ1, hk2, kp, ?_⟩
   rw [← hg, hm]
   unfold Ps.gapsN
   rw [h]; exact hr1
  ·refine ⟨rfl, _, b + 1, Nat.sub_lt_sub_left hlt (Nat.lt_succ_self b), EnvLe.refl _, by omega, Γ2, hk2, kp.trans kp2, hr2, rfl, ?_⟩
   rw [← hg, hm]
   rw [show C.l.length - (b + 1) = m by omega]
   conv => rhs; unfold Ps.gapsN
   rw [h]; rfl
 ·rintro id _ H1 nx1 ⟨rfl, h1, Γ1, hk1, kp, hr1⟩
  rw [AGaps_eq]
  exact hK _ _ _ h1 hk1 kp hr1
theorem ends_ok' (W : Toks C.l) (hk : HZ Z Γ H nx) (hr : Rd Γ C a d)
  (hno : ∀ f, Ps.ends C.l a = .error f → ∀ H' nx', nx ≤ nx' → HZ Z Γ H' nx' → K (.pan [(fltV f, false)]) H' nx')
  (hK : ∀ b, Ps.ends C.l a = .ok b → ∀ Γ' H' nx', nx ≤ nx' → HZ Z Γ' H' nx' → KeepX C.r nx Γ Γ' → Rd Γ' C b d → K (.ret (.tuple [])) H' nx') : TriP PG f_rd_ends [.ptr C.r 0] H nx K := by
 refine TriP.of_body mixed ?_
 rw [Frd_ends_eq]
 unfold Frd_ends
 refine is_ok hk hr fun H1 nx1 h1 hk1 => onEnd_ret.2 ⟨_, rfl, ifB_iff.2 ⟨fun h => ?_, fun h => ?_⟩⟩
 ·have h : Ps.is C.l a [125] = false := by simpa using h
  refine need_ok' W hk1 hr (fun h2 H2 nx2 g2 hk2 => onEnd_pan.2 (hno _ ?_ _ _ (by omega) hk2)) fun h2 Γ2 H2 nx2 g2 hk2 kp2 hr2 => onEnd_ret.2 ⟨_, _, _, _, _, rfl, ?_⟩
  ·simp [Ps.ends, h, Ps.need, h2]
  ·refine gaps_ok W hk2 hr2 fun Γ3 H3 nx3 g3 hk3 kp3 hr3 => onEnd_ret.2 (hK _ ?_ _ _ _ (by omega) hk3 ((kp2.trans kp3).le) hr3)
   simp [Ps.ends, h, Ps.need, h2]
 ·have h : Ps.is C.l a [125] = true := by simpa using h
  refine gaps_ok W hk1 hr fun Γ3 H3 nx3 g3 hk3 kp3 hr3 => onEnd_ret.2 (hK _ ?_ _ _ _ (by omega) hk3 kp3.le hr3)
  simp [Ps.ends, h]
def Grow (C : RC) (N : Nat) (Γ : GH) (Γ1 : GH) (o : AVal) (ts : List Tree) : Prop :=
 (o = .nilSlice ∧ ts = [] ∧ Γ1 = Γ) ∨ ∃ b cs, o = .slice b 0 ts.length 6 false ∧ (Γ b = none ∧ N ≤ b) ∧ Γ1 = gup b (some cs) Γ ∧ KidsC C.ex Γ cs ts
def RC.own (C : RC) (o : AVal) : RC := match o with
 | .slice b _ _ _ _ => C.add b
 | _ => C
theorem RC.own_r (C : RC) (o : AVal) : (C.own o).r = C.r := by unfold RC.own; split <;> rfl
theorem RC.own_l (C : RC) (o : AVal) : (C.own o).l = C.l := by unfold RC.own; split <;> rfl
theorem Grow.rd {Γ1 : GH} {o : AVal} {ts : List Tree} {N : Nat} (h : Grow C N Γ Γ1 o ts) (hr : Rd Γ C a d) : Rd Γ1 (C.own o) a d := by
 rcases h with ⟨rfl, rfl, rfl⟩ | ⟨b, cs, rfl, ⟨h1, hN⟩, rfl, h2⟩
 ·exact hr
 ·exact hr.newAdd h1
theorem Grow.rd' {Γ1 : GH} {o : AVal} {ts : List Tree} {N : Nat} (h : Grow C N Γ Γ1 o ts) (hr : Rd Γ C a d) : Rd Γ1 C a d := by
 rcases h with ⟨rfl, rfl, rfl⟩ | ⟨b, cs, rfl, ⟨h1, hN⟩, rfl, h2⟩
 ·exact hr
 ·exact hr.new h1
theorem Grow.keep {Γ1 : GH} {o : AVal} {ts : List Tree} {N : Nat} (h : Grow C N Γ Γ1 o ts) : KeepX C.r N Γ Γ1 := by
 rcases h with ⟨rfl, rfl, rfl⟩ | ⟨b, cs, rfl, ⟨h1, hN⟩, rfl, h2⟩
 ·exact .refl _ _ _
 ·exact .new h1
theorem Rd.notex {b : Nat} (h : Rd Γ C a d) (hb : Γ b = none) : ¬ C.ex b := fun x => h.exs b x hb
theorem Grow.v {Γ1 : GH} {o : AVal} {ts : List Tree} {N : Nat} (h : Grow C N Γ Γ1 o ts) (hr : Rd Γ C a d) : KidsV C.ex Γ1 o ts := by
 rcases h with ⟨rfl, rfl, rfl⟩ | ⟨b, cs, rfl, ⟨h1, hN⟩, rfl, h2⟩
 ·exact .nil
 ·exact .blk (hr.notex h1) (gup_same _ _ _) (h2.mono (fun _ h => h) fun c ds _ e => by rw [gup_ne fun x => by rw [x, h1] at e; cases e]; exact e) rfl
theorem Grow.more {Γ1 Γ2 : GH} {o : AVal} {ts : List Tree} {x : List AVal} {t : Tree} {a0 d0 : Nat} {N : Nat} (h : Grow C N Γ Γ1 o ts) (hr0 : Rd Γ C a0 d0)
  (hk : HZ Z Γ2 H nx) {nk : Nat} (kp : KeepX C.r nk Γ1 Γ2) (hNk : N ≤ nk) (hNx : N ≤ nx) (hr : Rd Γ2 (C.own o) a d) (hn : NodeC (C.own o).ex Γ2 x t) (hfew : ts.length < 100000) :
  ∃ v H3 nx3 Γ3 Γ4, appC H nx 6 72 o 1 x = some (v, H3, nx3) ∧ nx ≤ nx3 ∧ HZ Z Γ4 H3 nx3 ∧ KeepX C.r N Γ Γ3 ∧ Rd Γ3 C a d ∧ Grow C N Γ3 Γ4 v (ts ++ [t]) := by
 have hx := hn.len
 have hf := hk.fresh (Nat.le_refl nx)
 rcases h with ⟨rfl, rfl, rfl⟩ | ⟨b, cs, rfl, ⟨h1, hN⟩, rfl, h2⟩
 ·obtain ⟨H3, e1, e2⟩ := hk.appNil (esz := 6) (ebytes := 72) (k := 1) (new := x) (by omega) (by omega) (by omega) (by omega)
  exact ⟨_, H3, _, Γ2, _, e1, by omega, e2, kp.le, hr, .inr ⟨nx, x, rfl, ⟨hf, hNx⟩, rfl, hn.one⟩⟩
 ·have hbr : b ≠ C.r := hr0.r_ne h1
  have hl := h2.len
  have eb : Γ2 b = some cs := kp.1 b cs hbr (gup_same _ _ _)
  obtain ⟨H3, e1, e2⟩ := hk.app (esz := 6) (ebytes := 72) (k := 1) (new := x) (len := ts.length) eb (by omega) (by omega) (by omega) (by omega) (by omega)
  have hcs : cs.take (ts.length * 6) = cs := by rw [← hl]; exact List.take_length
  rw [hcs] at e2
  have hsub : ∀ c ds, Γ c = some ds → c ≠ b := fun c ds e x => by rw [x, h1] at e; cases e
  have k3 : KeepX C.r N Γ (gup b none Γ2) := ⟨fun c ds hc e => by rw [gup_ne (hsub c ds e)]; exact kp.1 c ds hc (by rw [gup_ne (hsub c ds e)]; exact e), fun c hc e => by
   rw [gup_ne (by omega)]; exact kp.2 c (by omega) (by rw [gup_ne (by omega)]; exact e)⟩
  refine ⟨_, H3, _, gup b none Γ2, _, e1, by omega, e2, k3, ?_, .inr ⟨nx, cs ++ x, by simp, ⟨?_, hNx⟩, rfl, ?_⟩⟩
  ·have hr' : Rd Γ2 (C.add b) a d := hr
   refine ⟨hr'.lt, hr'.deep, hr'.ne, hr0.rex, fun c hc => ?_, ?_, ?_⟩
   ·have : c ≠ b := fun x => hr0.exs c hc (by rw [x]; exact h1)
    rw [gup_ne this]; exact hr'.exs c (.inr hc)
   ·obtain ⟨f, e⟩ := hr'.rd
    exact ⟨f, by rw [gup_ne (Ne.symm hbr)]; exact e⟩
   ·obtain ⟨ds, e, e'⟩ := hr'.tk
    exact ⟨ds, by rw [gup_ne (Ne.symm (hr0.tb_ne h1))]; exact e, e'⟩
  ·by_cases hb : nx = b
   ·rw [hb, gup_same]
   ·rw [gup_ne hb]; exact hf
  ·refine KidsC.app (h2.keep hr0.rex k3) (NodeC.one (hn.mono (fun c hc => .inr hc) fun c ds hc e => ?_))
   rw [gup_ne fun x => hc (.inl x)]; exact e
theorem Grow.next {Γ1 Γ2 : GH} {o : AVal} {ts : List Tree} {a0 d0 : Nat} {N : Nat} (h : Grow C N Γ Γ1 o ts) (hr0 : Rd Γ C a0 d0) {nk : Nat} (kp : KeepX C.r nk Γ1 Γ2) (hNk : N ≤ nk) (hr : Rd Γ2 C a d) :
  ∃ Γ3, Grow C N Γ3 Γ2 o ts ∧ KeepX C.r N Γ Γ3 ∧ Rd Γ3 C a d := by
 rcases h with ⟨rfl, rfl, rfl⟩ | ⟨b, cs, rfl, ⟨h1, hN⟩, rfl, h2⟩
 ·exact ⟨Γ2, .inl ⟨rfl, rfl, rfl⟩, kp.le, hr⟩
 ·have hbr : b ≠ C.r := hr0.r_ne h1
  have eb : Γ2 b = some cs := kp.1 b cs hbr (gup_same _ _ _)
  have hsub : ∀ c ds, Γ c = some ds → c ≠ b := fun c ds e x => by rw [x, h1] at e; cases e
  have k3 : KeepX C.r N Γ (gup b none Γ2) := ⟨fun c ds hc e => by rw [gup_ne (hsub c ds e)]; exact kp.1 c ds hc (by rw [gup_ne (hsub c ds e)]; exact e), fun c hc e => by
   rw [gup_ne (by omega)]; exact kp.2 c (by omega) (by rw [gup_ne (by omega)]; exact e)⟩
  refine ⟨gup b none Γ2, .inr ⟨b, cs, rfl, ⟨gup_same _ _ _, hN⟩, by rw [gup_gup, gup_eq eb], h2.keep hr0.rex k3⟩, k3, hr.lt, hr.deep, hr.ne, hr0.rex, fun c hc => ?_, ?_, ?_⟩
  ·have : c ≠ b := fun x => hr0.exs c hc (by rw [x]; exact h1)
   rw [gup_ne this]; exact hr.exs c hc
  ·obtain ⟨f, e⟩ := hr.rd
   exact ⟨f, by rw [gup_ne (Ne.symm hbr)]; exact e⟩
  ·obtain ⟨ds, e, e'⟩ := hr.tk
   exact ⟨ds, by rw [gup_ne (Ne.symm (hr0.tb_ne h1))]; exact e, e'⟩
def RuleOK (l : List Tok) (r tb : Nat) (d : Nat) (g : FuncId) (one : Nat → Rs (Tree × Nat)) : Prop :=
 ∀ Z ex a res Γ H nx K, one a = some res → HZ Z Γ H nx → Rd Γ ⟨r, tb, l, ex⟩ a d → Meets Z K Γ nx ⟨r, tb, l, ex⟩ d res (NodeV ex) → TriP PG g [.ptr r 0] H nx K
theorem RuleOK.on {g : FuncId} {one : Nat → Rs (Tree × Nat)} (h : RuleOK C.l C.r C.tb d g one) {CC : RC} (e1 : CC.l = C.l) (e2 : CC.r = C.r) (e3 : CC.tb = C.tb) {res : Except Flt (Tree × Nat)}
  (h1 : one a = some res) (hk : HZ Z Γ H nx) (hr : Rd Γ CC a d) (hK : Meets Z K Γ nx CC d res (NodeV CC.ex)) : TriP PG g [.ptr C.r 0] H nx K := by
 obtain ⟨r, tb, l, ex⟩ := CC
 simp only at e1 e2 e3
 subst e1; subst e2; subst e3
 exact h Z ex a res Γ H nx K h1 hk hr hK
theorem RC.own_tb (C : RC) (o : AVal) : (C.own o).tb = C.tb := by unfold RC.own; split <;> rfl
theorem list_ok {g : FuncId} {one : Nat → Rs (Tree × Nat)} {n : Nat} {res : Except Flt (List Tree × Nat)} (W : Toks C.l) (hadv1 : Ps.AdvOK one) (hg : callTo PG (.func (.func g) [.ptr C.r 0] []) [] = some (g, [.ptr C.r 0])) (hone : RuleOK C.l C.r C.tb d g one)
  (hrun : Ps.list C.l one n a = some res) (hk : HZ Z Γ H nx) (hr : Rd Γ C a d) (hK : Meets Z K Γ nx C d res (KidsV C.ex)) : TriP PG f_rd_list [.ptr C.r 0, .func (.func g) [.ptr C.r 0] []] H nx K := by
 refine TriP.of_body mixed ?_
 rw [Frd_list_eq]
 unfold Frd_list
 unfold Ps.list at hrun
 refine need_ok' W hk hr (fun h H1 nx1 h1 hk1 => onEnd_pan.2 (hK.2 _ _ _ _ ?_ h1 hk1 (.refl _ _ _) hr.p)) fun h Γ1 H1 nx1 h1 hk1 kp1 hr1 => onEnd_ret.2 ⟨_, _, _, _, _, rfl, ?_⟩
 ·simp [Ps.need, h, Ps.lift] at hrun; exact hrun.symm
 have hrun : Ps.listGo C.l one n (Ps.gaps C.l (a + 1)) = some res := by simpa [Ps.need, h, Ps.lift] using hrun
 refine gaps_ok W hk1 hr1 fun Γ2 H2 nx2 h2 hk2 kp2 hr2 => onEnd_ret.2 ?_
 have hK2 := hK.from (by omega : nx ≤ nx2) ((kp1.trans kp2).le)
 refine loop_w (P := PG) (X := AVal) (Y := AVal) (fun o => envL .und [(0, .ptr C.r 0), (1, .func (.func g) [.ptr C.r 0] []), (5, o)]) (fun o => envL .und [(5, o)])
  (fun m o H3 nx3 => nx2 ≤ nx3 ∧ ∃ Γ3 Γ4 ts b res', HZ Z Γ4 H3 nx3 ∧ KeepX C.r nx2 Γ2 Γ3 ∧ Rd Γ3 C b d ∧ Grow C nx2 Γ3 Γ4 o ts ∧ ts.length ≤ b ∧ Ps.listGo C.l one m b = some res' ∧ res = (match res' with | .ok (xs, c) => .ok (ts ++ xs, c) | .error f => .error f))
  (fun id o H3 nx3 => id = 0 ∧ nx2 ≤ nx3 ∧ ∃ Γ3 ts b, HZ Z Γ3 H3 nx3 ∧ KeepX C.r nx2 Γ2 Γ3 ∧ Rd Γ3 C b d ∧ KidsV C.ex Γ3 o ts ∧ res = .ok (ts, b)) n .nilSlice (EnvLe.of_list (by exact ⟨rfl, rfl, rfl, trivial⟩))
  ⟨Nat.le_refl _, Γ2, Γ2, [], _, res, hk2, .refl _ _ _, hr2, .inl ⟨rfl, rfl, rfl⟩, by simp, hrun, by cases res <;> rfl⟩ ?_ ?_
 ·rintro m o H3 nx3 ⟨h3, Γ3, Γ4, ts, b, res', hk4, kp3, hr3, gr, hts, hgo, hres⟩
  refine WpP.trim (ts := [0, 1, 5]) (WpP.weaken (e := envL .und [(5, o), (1, .func (.func g) [.ptr C.r 0] []), (0, .ptr C.r 0)]) (EnvLe.of_list (by exact ⟨rfl, rfl, rfl, trivial⟩)) (WpP.of_vK mixed ?_))
  rw [LList_eq]
  unfold LList
  have hr4 := gr.rd' hr3
  cases m with
  | zero => simp [Ps.listGo] at hgo
  | succ m =>
  unfold Ps.listGo at hgo
  refine has_ok W hk4 hr4 (fun h H5 nx5 h5 hk5 => onEnd_ret.2 ⟨_, rfl, ?_⟩) fun h Γ5 H5 nx5 h5 hk5 kp5 hr5 => onEnd_ret.2 ⟨_, rfl, ?_⟩
  ·rw [h] at hgo
   have hgo : Rs.bind (one b) (fun (x, b) => Ps.lift (Ps.ends C.l b) fun c => Rs.bind (Ps.listGo C.l one m c) fun (xs, d) => .ok (x :: xs, d)) = some res' := hgo
   refine ⟨_, _, hg, ?_⟩
   rcases Ps.bind_some hgo with ⟨f, e1, e2⟩ | ⟨⟨x, c⟩, e1, hgo⟩
   ·refine hone.on (C.own_l o) (C.own_r o) (C.own_tb o) e1 hk5 (gr.rd hr3) (.on (fun x b v Γ' H' nx' e => by cases e) fun f' Γ' H' nx' e g1 g2 g3 g4 => ?_)
    cases e
    subst e2
    rw [C.own_r] at g3 g4
    exact hK2.2 f _ _ _ hres (by omega) g2 ((kp3.trans gr.keep).trans g3) g4
   ·refine hone.on (C.own_l o) (C.own_r o) (C.own_tb o) e1 hk5 (gr.rd hr3) (.on (fun x' b' v Γ6 H6 nx6 e g1 g2 g3 g4 g5 => ?_) fun f' Γ' H' nx' e => by cases e)
    cases e
    obtain ⟨k, s, nn, li, co, w, rfl, hw, hn⟩ := g4.cells
    rw [C.own_r] at g3
    have hf6 := g2.fresh (Nat.le_refl nx6)
    refine ⟨_, _, _, _, _, _, rfl, scrN g2 (nx' := nx6 + 1) (Nat.le_refl _) (by omega) fun H7 g7 => ?_⟩
    have hn7 : NodeC (C.own o).ex (gup nx6 (some [iv k, .str s, iv nn, iv li, iv co, w]) Γ6) [iv k, .str s, iv nn, iv li, iv co, w] x := hn.mono (fun _ h => h) fun c ds _ e => by rw [gup_ne fun x => by rw [x, hf6] at e; cases e]; exact e
    have hr7 : Rd (gup nx6 (some [iv k, .str s, iv nn, iv li, iv co, w]) Γ6) (C.own o) c d := g5.new hf6
    have hcl := hr7.lt
    have hWf := W.few
    rw [C.own_l] at hcl
    have hadv := hr3.lt
    obtain ⟨v, H8, nx8, Γ8, Γ9, a1, a2, a3, a4, a5, a6⟩ := gr.more hr3 g7 (g3.trans (.new (nx := nx6) hf6)) (by omega) (by omega) hr7 hn7 (by omega)
    refine ⟨1, [iv k, .str s, iv nn, iv li, iv co, w], ?_, by simp only [allCell, hw]; rfl, v, H8, nx8, a1, ?_⟩
    ·rw [g7.src (gup_same _ _ _) (by simp)]; simp
    have hr9 := a6.rd' a5
    refine ends_ok' W a3 hr9 (fun f e3 H10 nx10 g10 hk10 => onEnd_pan.2 ?_) fun c' e3 Γ10 H10 nx10 g10 hk10 kp10 hr10 => onEnd_ret.2 ?_
    ·simp only [e3, Ps.lift] at hgo
     cases hgo
     exact hK2.2 f _ _ _ hres (by omega) hk10 ((kp3.trans a4).trans a6.keep) hr9.p
    ·simp only [e3, Ps.lift] at hgo
     have ha1 := hadv1 _ _ _ e1
     have ha2 := Ps.ends_ok e3
     obtain ⟨Γ11, b1, b2, b3⟩ := a6.next a5 kp10 (by omega) hr10
     rcases Ps.bind_some hgo with ⟨f, e4, e5⟩ | ⟨⟨xs, c2⟩, e4, e5⟩
     ·exact ⟨rfl, m, v, Nat.lt_succ_self m, EnvLe.refl _, by omega, Γ11, Γ10, ts ++ [x], c', _, hk10, (kp3.trans a4).trans b2, b3, b1, by simp; omega, e4, by rw [hres, e5]⟩
     ·refine ⟨rfl, m, v, Nat.lt_succ_self m, EnvLe.refl _, by omega, Γ11, Γ10, ts ++ [x], c', _, hk10, (kp3.trans a4).trans b2, b3, b1, by simp; omega, e4, ?_⟩
      cases e5
      rw [hres]; simp
  ·rw [h] at hgo
   cases hgo
   refine ⟨rfl, o, EnvLe.of_list (by exact ⟨rfl, trivial⟩), rfl, by omega, Γ5, ts, b + 1, hk5, (kp3.trans gr.keep).trans kp5, hr5, (gr.v hr3).keep hr3.rex kp5, by simpa using hres⟩
 ·rintro id o H3 nx3 ⟨rfl, h3, Γ3, ts, b, hk3, kp3, hr3, hv, hres⟩
  rw [AList_eq]
  exact hK2.1 _ _ _ _ _ _ hres h3 hk3 kp3 hv hr3
end
end
end Go.Vs
end
section
namespace Go.Vs
open Go.Proofs
variable [GTab] {Z : Nat → Prop}
noncomputable section
structure At (Γ : GH) (r i : Nat) (cs : List AVal) : Prop where
 e : Γ i = some cs
 ne : i ≠ r
theorem At.keep {Γ Γ' : GH} {r i nx : Nat} {cs : List AVal} (h : At Γ r i cs) (k : KeepX r nx Γ Γ') : At Γ' r i cs := ⟨k.1 _ _ h.ne h.e, h.ne⟩
theorem At.tok {Γ : GH} {H : Heap} {nx r i : Nat} {t : Tok} (h : At Γ r i (tokC t)) (hk : HZ Z Γ H nx) : ldN H 5 (.ptr i 0) = some (tokV t) := ldAll hk h.e rfl
theorem At.ld {Γ : GH} {H : Heap} {nx r i : Nat} {cs : List AVal} (h : At Γ r i cs) (hk : HZ Z Γ H nx) (j : Nat) : ld1 H (.ptr i j) = cs[j]? := hk.ld1 h.e j
structure Res (Γ : GH) (C : RC) (i : Nat) : Prop where
 e : ∃ cs, Γ i = some cs ∧ cs.length = 6
 nr : i ≠ C.r
 nt : i ≠ C.tb
theorem Res.keep {Γ Γ' : GH} {C : RC} {i nx : Nat} (h : Res Γ C i) (k : KeepX C.r nx Γ Γ') : Res Γ' C i := ⟨let ⟨cs, e, l⟩ := h.e; ⟨cs, k.1 _ _ h.nr e, l⟩, h.nr, h.nt⟩
section
variable {α β : Type} {Γ0 Γ : GH} {n0 : Nat} {H : Heap} {nx a d i : Nat} {C : RC} {K : EndP} {V : GH → AVal → β → Prop} {res : Except Flt (β × Nat)}
variable {rK : AVal → Heap → Nat → Prop} {pK : List (AVal × Bool) → Heap → Nat → Prop}
def Owe (Z : Nat → Prop) (K : EndP) (Γ0 : GH) (n0 : Nat) (Γ : GH) (nx : Nat) (C : RC) (d : Nat) (res : Except Flt (β × Nat)) (V : GH → AVal → β → Prop) : Prop := Meets Z K Γ0 n0 C d res V ∧ KeepX C.r n0 Γ0 Γ ∧ n0 ≤ nx
theorem Meets.owe (hK : Meets Z K Γ nx C d res V) : Owe Z K Γ nx Γ nx C d res V := ⟨hK, .refl _ _ _, Nat.le_refl _⟩
theorem Owe.from {Γ1 : GH} {nx1 : Nat} (h : Owe Z K Γ0 n0 Γ nx C d res V) (hn : nx ≤ nx1) (hk : KeepX C.r nx Γ Γ1) : Owe Z K Γ0 n0 Γ1 nx1 C d res V := let ⟨h1, h2, h3⟩ := h; ⟨h1, h2.trans hk, by omega⟩
theorem Owe.pan {f : Flt} (h : Owe Z K Γ0 n0 Γ nx C d res V) (e : res = .error f) (hk : HZ Z Γ H nx) (hp : RdP Γ C.r) : K (.pan [(fltV f, false)]) H nx := let ⟨h1, h2, h3⟩ := h; h1.2 f Γ H nx e h3 hk h2 hp
theorem Owe.ret {x : β} {b : Nat} {v : AVal} (h : Owe Z K Γ0 n0 Γ nx C d res V) (e : res = .ok (x, b)) (hk : HZ Z Γ H nx) (hv : V Γ v x) (hr : Rd Γ C b d) : K (.ret v) H nx := let ⟨h1, h2, h3⟩ := h; h1.1 x b v Γ H nx e h3 hk h2 hv hr
theorem Owe.upd {i : Nat} {cs : Option (List AVal)} (h : Owe Z K Γ0 n0 Γ nx C d res V) (hi : Γ0 i = none) (hn : n0 ≤ i) : Owe Z K Γ0 n0 (gup i cs Γ) nx C d res V := let ⟨h1, h2, h3⟩ := h; ⟨h1, h2.upd' hi (.inl hn), h3⟩
def PanOK (Z : Nat → Prop) (K : EndP) (r : Nat) (pK : List (AVal × Bool) → Heap → Nat → Prop) : Prop :=
 ∀ f Γ H nx, HZ Z Γ H nx → RdP Γ r → (∀ Γ' H', HZ Z Γ' H' nx → KeepX r nx Γ Γ' → RdP Γ' r → K (.pan [(fltV f, false)]) H' nx) → pK [(fltV f, false)] H nx
theorem PanOK.id {r : Nat} : PanOK Z K r fun l H nx => K (.pan l) H nx := fun f Γ H nx hk hp h => h Γ H hk (.refl _ _ _) hp
theorem PanOK.lv {i : Nat} : PanOK Z K C.r fun l H nx => lvcSem PG (TriDP PG) [.cell (.ptr i 0) t_node] [(f_rd_leave, [.ptr C.r 0])] (.panicking l) H nx K := fun f Γ H nx hk hp h => lv_pan hk hp fun Γ' H' h1 h2 h3 => h Γ' H' h1 h2 h3
theorem PanOK.of {f : Flt} {d' : Nat} (h : PanOK Z K C.r pK) (hK : Owe Z K Γ0 n0 Γ nx C d' res V) (e : res = .error f) (hk : HZ Z Γ H nx) (hp : RdP Γ C.r) : pK [(fltV f, false)] H nx :=
 h f Γ H nx hk hp fun Γ' H' h1 h2 h3 => (hK.from (Nat.le_refl _) h2).pan e h1 h3
theorem rule_call {g : FuncId} {args : List AVal} {one : Nat → Rs (Tree × Nat)} {k : Tree × Nat → Rs (β × Nat)} {Cb : RC} {db : Nat}
  (hone : ∀ Z ex res Γ H nx K, one a = some res → HZ Z Γ H nx → Rd Γ ⟨C.r, C.tb, C.l, ex⟩ a d → Meets Z K Γ nx ⟨C.r, C.tb, C.l, ex⟩ d res (NodeV ex) → TriP PG g args H nx K)
  (hrun : Rs.bind (one a) k = some res) {Zc : Nat → Prop} (hk : HZ Zc Γ H nx) (hr : Rd Γ C a d) (hK : Owe Z K Γ0 n0 Γ nx Cb db res V) (hb : Cb.r = C.r) (hp : PanOK Z K Cb.r pK) (hz : ∀ b, Z b → Zc b)
  (hok : ∀ t b kk s n li co w Γ' H' nx', one a = some (.ok (t, b)) → k (t, b) = some res → nx ≤ nx' → HZ Zc Γ' H' nx' → KeepX C.r nx Γ Γ' → cellv w = true → NodeC C.ex Γ' [iv kk, .str s, iv n, iv li, iv co, w] t → Rd Γ' C b d →
   Owe Z K Γ0 n0 Γ' nx' Cb db res V → rK (.agg [iv kk, .str s, iv n, iv li, iv co, w]) H' nx') :
  TriP PG g args H nx fun e H' nx' => onEnd e (fun v => rK v H' nx') fun l => pK l H' nx' := by
 rcases Ps.bind_some hrun with ⟨f, e1, e2⟩ | ⟨⟨t, b⟩, e1, e2⟩
 ·refine hone _ C.ex _ Γ H nx _ e1 hk hr (.on (fun x b v Γ' H' nx' e => by cases e) fun f' Γ' H' nx' e g1 g2 g3 g4 => ?_)
  cases e
  rw [show (⟨C.r, C.tb, C.l, C.ex⟩ : RC).r = Cb.r from hb.symm] at g3 g4
  exact hp.of (hK.from g1 g3) e2 (g2.less hz) g4
 ·refine hone _ C.ex _ Γ H nx _ e1 hk hr (.on (fun x b' v Γ' H' nx' e g1 g2 g3 g4 g5 => ?_) fun f' Γ' H' nx' e => by cases e)
  cases e
  obtain ⟨kk, s, n, li, co, w, rfl, hw, hn⟩ := g4.cells
  exact hok _ _ _ _ _ _ _ _ _ _ _ e1 e2 g1 g2 g3 hw hn g5 (hK.from g1 (by rw [hb]; exact g3))
theorem rule_last {g : FuncId} {args : List AVal} {one : Nat → Rs (Tree × Nat)} {res : Except Flt (Tree × Nat)} {V : GH → AVal → Tree → Prop} {Cb : RC} {db : Nat}
  (hone : ∀ Z ex res Γ H nx K, one a = some res → HZ Z Γ H nx → Rd Γ ⟨C.r, C.tb, C.l, ex⟩ a d → Meets Z K Γ nx ⟨C.r, C.tb, C.l, ex⟩ d res (NodeV ex) → TriP PG g args H nx K)
  (hrun : one a = some res) {Zc : Nat → Prop} (hk : HZ Zc Γ H nx) (hr : Rd Γ C a d) (hK : Owe Z K Γ0 n0 Γ nx Cb db res V) (hb : Cb.r = C.r) (hp : PanOK Z K Cb.r pK) (hz : ∀ b, Z b → Zc b)
  (hok : ∀ t b kk s n li co w Γ' H' nx', one a = some (.ok (t, b)) → res = .ok (t, b) → nx ≤ nx' → HZ Zc Γ' H' nx' → KeepX C.r nx Γ Γ' → cellv w = true → NodeC C.ex Γ' [iv kk, .str s, iv n, iv li, iv co, w] t → Rd Γ' C b d →
   Owe Z K Γ0 n0 Γ' nx' Cb db res V → rK (.agg [iv kk, .str s, iv n, iv li, iv co, w]) H' nx') :
  TriP PG g args H nx fun e H' nx' => onEnd e (fun v => rK v H' nx') fun l => pK l H' nx' :=
 rule_call (k := fun x => Rs.ok x) hone (by rw [hrun]; cases res <;> rfl) hk hr hK hb hp hz fun t b kk s n li co w Γ' H' nx' h1 h2 => hok t b kk s n li co w Γ' H' nx' h1 (by cases h2; rfl)
theorem need_call {s : List UInt8} {k : Nat → Rs (β × Nat)} {Cb : RC} {db : Nat} (W : Toks C.l) (hrun : Ps.lift (Ps.need C.l a s) k = some res) {Zc : Nat → Prop} (hk : HZ Zc Γ H nx) (hr : Rd Γ C a d) (hK : Owe Z K Γ0 n0 Γ nx Cb db res V) (hb : Cb.r = C.r) (hp : PanOK Z K Cb.r pK) (hz : ∀ b, Z b → Zc b)
  (hok : ∀ Γ' H' nx', Ps.is C.l a s = true → k (a + 1) = some res → nx ≤ nx' → HZ Zc Γ' H' nx' → KeepX C.r nx Γ Γ' → Rd Γ' C (a + 1) d → Owe Z K Γ0 n0 Γ' nx' Cb db res V → rK (tokV (Ps.tk C.l a)) H' nx') :
  TriP PG f_rd_need [.ptr C.r 0, .str s] H nx fun e H' nx' => onEnd e (fun v => rK v H' nx') fun l => pK l H' nx' := by
 refine need_ok' W hk hr (fun h H1 nx1 h1 hk1 => onEnd_pan.2 ?_) fun h Γ1 H1 nx1 h1 hk1 kp1 hr1 => onEnd_ret.2 ?_
 ·refine hp.of (hK.from h1 (.refl _ _ _)) ?_ (hk1.less hz) (by rw [hb]; exact hr.p)
  simp [Ps.need, h, Ps.lift] at hrun; exact hrun.symm
 ·exact hok _ _ _ h (by simpa [Ps.need, h, Ps.lift] using hrun) h1 hk1 kp1 hr1 (hK.from h1 (by rw [hb]; exact kp1))
theorem name_call {k : Nat → Rs (β × Nat)} {Cb : RC} {db : Nat} (W : Toks C.l) (hrun : Ps.lift (Ps.name C.l a) k = some res) {Zc : Nat → Prop} (hk : HZ Zc Γ H nx) (hr : Rd Γ C a d) (hK : Owe Z K Γ0 n0 Γ nx Cb db res V) (hb : Cb.r = C.r) (hp : PanOK Z K Cb.r pK) (hz : ∀ b, Z b → Zc b)
  (hok : ∀ Γ' H' nx', (Ps.tk C.l a).kind = 2 → k (a + 1) = some res → nx ≤ nx' → HZ Zc Γ' H' nx' → KeepX C.r nx Γ Γ' → Rd Γ' C (a + 1) d → Owe Z K Γ0 n0 Γ' nx' Cb db res V → rK (tokV (Ps.tk C.l a)) H' nx') :
  TriP PG f_rd_name [.ptr C.r 0] H nx fun e H' nx' => onEnd e (fun v => rK v H' nx') fun l => pK l H' nx' := by
 refine name_ok' W hk hr (fun h H1 nx1 h1 hk1 => onEnd_pan.2 ?_) fun h Γ1 H1 nx1 h1 hk1 kp1 hr1 => onEnd_ret.2 ?_
 ·refine hp.of (hK.from h1 (.refl _ _ _)) ?_ (hk1.less hz) (by rw [hb]; exact hr.p)
  have h' : ((Ps.tk C.l a).kind == 2) = false := by simp [h]
  simp [Ps.name, h, Ps.lift] at hrun; exact hrun.symm
 ·exact hok _ _ _ h (by simpa [Ps.name, h, Ps.lift] using hrun) h1 hk1 kp1 hr1 (hK.from h1 (by rw [hb]; exact kp1))
theorem has_call {s : List UInt8} {x y : Rs (β × Nat)} {Cb : RC} {db : Nat} (W : Toks C.l) (hrun : (if Ps.is C.l a s = true then x else y) = some res) {Zc : Nat → Prop} (hk : HZ Zc Γ H nx) (hr : Rd Γ C a d) (hK : Owe Z K Γ0 n0 Γ nx Cb db res V) (hb : Cb.r = C.r) (hz : ∀ b, Z b → Zc b)
  (hyes : ∀ Γ' H' nx', Ps.is C.l a s = true → x = some res → nx ≤ nx' → HZ Zc Γ' H' nx' → KeepX C.r nx Γ Γ' → Rd Γ' C (a + 1) d → Owe Z K Γ0 n0 Γ' nx' Cb db res V → rK (.bool true) H' nx')
  (hno : ∀ H' nx', Ps.is C.l a s = false → y = some res → nx ≤ nx' → HZ Zc Γ H' nx' → Owe Z K Γ0 n0 Γ nx' Cb db res V → rK (.bool false) H' nx') :
  TriP PG f_rd_has [.ptr C.r 0, .str s] H nx fun e H' nx' => onEnd e (fun v => rK v H' nx') fun l => pK l H' nx' :=
 has_ok W hk hr (fun h H1 nx1 h1 hk1 => onEnd_ret.2 (hno _ _ h (by simpa [h] using hrun) h1 hk1 (hK.from h1 (.refl _ _ _))))
  fun h Γ1 H1 nx1 h1 hk1 kp1 hr1 => onEnd_ret.2 (hyes _ _ _ h (by simpa [h] using hrun) h1 hk1 kp1 hr1 (hK.from h1 (by rw [hb]; exact kp1)))
theorem fin6 {K : EndP} {Cb : RC} {kk n li co : Int} {s : List UInt8} {w : AVal} {t : Tree} {b d : Nat} {res : Except Flt (Tree × Nat)} (hk : HZ Z Γ H nx) (hr : Rd Γ (Cb.add i) b d) (hi : Res Γ Cb i) (h0 : Γ0 i = none ∧ n0 ≤ i) (hrex : Cb.ex Cb.r) (hw : cellv w = true)
  (hn : NodeC (Cb.add i).ex Γ [iv kk, .str s, iv n, iv li, iv co, w] t) (e : res = .ok (t, b)) (hK : Owe Z K Γ0 n0 Γ nx Cb d res (NodeV Cb.ex)) :
  ∃ H1, stC H (.ptr i 0) [iv kk, .str s, iv n, iv li, iv co, w] = some H1 ∧ ∃ (n1 : Int) (s1 : List UInt8) (x1 y1 z1 : Int) (v1 : AVal), ldN H1 6 (.ptr i 0) = some (.agg [iv n1, .str s1, iv x1, iv y1, iv z1, v1]) ∧ K (.ret (.agg [iv n1, .str s1, iv x1, iv y1, iv z1, v1])) H1 nx := by
 obtain ⟨cs, e0, hl⟩ := hi.e
 refine ret6 hk e0 hl hw fun H1 h1 => (hK.upd h0.1 h0.2).ret e h1 ?_ ((hr.upd hi.nr hi.nt).less hrex)
 exact (hn.mono (fun _ h => .inr h) fun c ds hc e => by rw [gup_ne fun x => hc (.inl x)]; exact e).v
theorem begin6 {k : Heap → Prop} (hk : HZ Z Γ H nx) (hr : Rd Γ C a d) (hK : Meets Z K Γ nx C d res V)
  (h : ∀ Γ' H', HZ Z Γ' H' (nx + 1) → Rd Γ' (C.add nx) a d → Res Γ' C nx → (Γ nx = none ∧ nx ≤ nx) → Owe Z K Γ nx Γ' (nx + 1) C d res V → KeepX C.r nx Γ Γ' → k H') : ∃ H0, H0 = newB nx [iv 0, AVal.str [], iv 0, iv 0, iv 0, AVal.nilSlice] H ∧ k H0 := by
 have hf := hk.fresh (Nat.le_refl nx)
 refine scrN hk (nx' := nx + 1) (Nat.le_refl _) (by omega) fun H0 h0 => ?_
 exact h _ _ h0 (hr.newAdd hf) ⟨⟨_, gup_same _ _ _, rfl⟩, hr.r_ne hf, hr.tb_ne hf⟩ ⟨hf, Nat.le_refl _⟩ (hK.owe.from (by omega) (.new hf)) (.new hf)
theorem tokIn {k : Heap → Prop} {t : Tok} {Cb : RC} {db : Nat} {Zc : Nat → Prop} (hk : HZ Zc Γ H nx) (hr : Rd Γ C a d) (hK : Owe Z K Γ0 n0 Γ nx Cb db res V) (hb : Cb.r = C.r)
  (h : ∀ Γ' H', HZ Zc Γ' H' (nx + 1) → Rd Γ' C a d → At Γ' C.r nx (tokC t) → KeepX C.r nx Γ Γ' → Owe Z K Γ0 n0 Γ' (nx + 1) Cb db res V → k H') :
  ∃ H0, H0 = newB nx [iv 0, AVal.str [], iv 0, iv 0, iv 0] H ∧ ∃ H1, stC H0 (.ptr nx 0) [iv t.kind, .str t.text, iv t.n, iv t.line, iv t.col] = some H1 ∧ k H1 := by
 have hf := hk.fresh (Nat.le_refl nx)
 refine scr hk (nx' := nx + 1) (Nat.le_refl _) (by omega) rfl rfl fun H1 h1 => ?_
 exact h _ _ h1 (hr.new hf) ⟨gup_same _ _ _, hr.r_ne hf⟩ (.new hf) (hK.from (by omega) (.new hf))
theorem nodeIn {k : Heap → Prop} {kk n li co : Int} {s : List UInt8} {w : AVal} {Cb : RC} {db : Nat} {Zc : Nat → Prop} (hk : HZ Zc Γ H nx) (hr : Rd Γ C a d) (hw : cellv w = true) (hK : Owe Z K Γ0 n0 Γ nx Cb db res V) (hb : Cb.r = C.r)
  (h : ∀ Γ' H', HZ Zc Γ' H' (nx + 1) → Rd Γ' C a d → At Γ' C.r nx [iv kk, .str s, iv n, iv li, iv co, w] → KeepX C.r nx Γ Γ' → Owe Z K Γ0 n0 Γ' (nx + 1) Cb db res V → k H') :
  ∃ H0, H0 = newB nx [iv 0, AVal.str [], iv 0, iv 0, iv 0, AVal.nilSlice] H ∧ ∃ H1, stC H0 (.ptr nx 0) [iv kk, .str s, iv n, iv li, iv co, w] = some H1 ∧ k H1 := by
 have hf := hk.fresh (Nat.le_refl nx)
 refine scr hk (nx' := nx + 1) (Nat.le_refl _) (by omega) rfl (by simp only [allCell, hw]; rfl) fun H1 h1 => ?_
 exact h _ _ h1 (hr.new hf) ⟨gup_same _ _ _, hr.r_ne hf⟩ (.new hf) (hK.from (by omega) (.new hf))
theorem blkIn {k : Heap → Prop} {i nx' : Nat} {cs : List AVal} {Cb : RC} {db : Nat} {Zc : Nat → Prop} (hk : HZ Zc Γ H nx) (hi : nx ≤ i) (hi' : i < nx') (hr : Rd Γ C a d) (hK : Owe Z K Γ0 n0 Γ nx Cb db res V) (hb : Cb.r = C.r)
  (h : ∀ Γ' H', HZ Zc Γ' H' nx' → Rd Γ' C a d → At Γ' C.r i cs → ¬ C.ex i → KeepX C.r nx Γ Γ' → Owe Z K Γ0 n0 Γ' nx' Cb db res V → k H') :
  ∃ H0, H0 = newB i cs H ∧ k H0 := by
 have hf := hk.fresh hi
 refine scrN hk hi hi' fun H1 h1 => ?_
 exact h _ _ h1 (hr.new hf) ⟨gup_same _ _ _, hr.r_ne hf⟩ (hr.notex hf) (.new hf) (hK.from (by omega) (.new hf))
def rz (Z : Nat → Prop) (i : Nat) : Nat → Prop := fun b => b = i ∨ Z b
theorem rz_in {Z : Nat → Prop} {i : Nat} : ∀ b, Z b → rz Z i b := fun _ h => .inr h
theorem reserve {i nx' : Nat} (hk : HZ Z Γ H nx) (hi : nx ≤ i) (hi' : i < nx') : HZ (rz Z i) Γ H nx' ∧ ¬ Z i :=
 ⟨hk.res (fun b h => h.elim (fun e => .inr ⟨by omega, by omega⟩) .inl) (by omega), fun h => by have := hk.1 i h; omega⟩
theorem Owe.from' {Γ1 : GH} {nx1 m : Nat} (h : Owe Z K Γ0 n0 Γ nx C d res V) (hn : nx ≤ nx1) (hk : KeepX C.r m Γ Γ1) (hm : n0 ≤ m) : Owe Z K Γ0 n0 Γ1 nx1 C d res V := let ⟨h1, h2, h3⟩ := h; ⟨h1, h2.trans hk, by omega⟩
theorem blkTake {k : Heap → Prop} {i : Nat} {cs : List AVal} {Cb : RC} {db : Nat} (hk : HZ (rz Z i) Γ H nx) (hni : ¬ Z i) (hr : Rd Γ C a d) (hK : Owe Z K Γ0 n0 Γ nx Cb db res V) (hb : Cb.r = C.r) (h0 : n0 ≤ i)
  (h : ∀ Γ' H', HZ Z Γ' H' nx → Rd Γ' C a d → At Γ' C.r i cs → ¬ C.ex i → KeepX C.r i Γ Γ' → Owe Z K Γ0 n0 Γ' nx Cb db res V → k H') :
  ∃ H0, H0 = newB i cs H ∧ k H0 := by
 have hf := hk.free (.inl rfl)
 exact ⟨_, rfl, h _ _ (hk.take (.inl rfl) (fun b hb => ⟨.inr hb, fun e => hni (by rw [← e]; exact hb)⟩) cs) (hr.new hf) ⟨gup_same _ _ _, hr.r_ne hf⟩ (hr.notex hf) (.new hf) (hK.from' (Nat.le_refl _) (.new hf) h0)⟩
theorem list_call {g : FuncId} {n : Nat} {one : Nat → Rs (Tree × Nat)} {k : List Tree × Nat → Rs (β × Nat)} {Cb : RC} {db : Nat} (W : Toks C.l) (hadv : Ps.AdvOK one) (hg : callTo PG (.func (.func g) [.ptr C.r 0] []) [] = some (g, [.ptr C.r 0]))
  (hone : RuleOK C.l C.r C.tb d g one) (hrun : Rs.bind (Ps.list C.l one n a) k = some res) {Zc : Nat → Prop} (hk : HZ Zc Γ H nx) (hr : Rd Γ C a d) (hK : Owe Z K Γ0 n0 Γ nx Cb db res V) (hb : Cb.r = C.r) (hp : PanOK Z K Cb.r pK) (hz : ∀ b, Z b → Zc b)
  (hok : ∀ ts b v Γ' H' nx', k (ts, b) = some res → nx ≤ nx' → HZ Zc Γ' H' nx' → KeepX C.r nx Γ Γ' → KidsV C.ex Γ' v ts → Rd Γ' C b d → Owe Z K Γ0 n0 Γ' nx' Cb db res V → rK v H' nx') :
  TriP PG f_rd_list [.ptr C.r 0, .func (.func g) [.ptr C.r 0] []] H nx fun e H' nx' => onEnd e (fun v => rK v H' nx') fun l => pK l H' nx' := by
 rcases Ps.bind_some hrun with ⟨f, e1, e2⟩ | ⟨⟨t, b⟩, e1, e2⟩
 ·refine list_ok W hadv hg hone e1 hk hr (.on (fun x b v Γ' H' nx' e => by cases e) fun f' Γ' H' nx' e g1 g2 g3 g4 => ?_)
  cases e
  rw [← hb] at g3 g4
  exact hp.of (hK.from g1 g3) e2 (g2.less hz) g4
 ·refine list_ok W hadv hg hone e1 hk hr (.on (fun x b' v Γ' H' nx' e g1 g2 g3 g4 g5 => ?_) fun f' Γ' H' nx' e => by cases e)
  cases e
  exact hok _ _ _ _ _ _ e2 g1 g2 g3 g4 g5 (hK.from g1 (by rw [hb]; exact g3))
theorem node_call {t : Tok} {kk : Int} {s : List UInt8} {v : AVal} {ts : List Tree} {Cb : RC} {db : Nat} {Zc : Nat → Prop} (hk : HZ Zc Γ H nx) (hv : KidsV C.ex Γ v ts) (hK : Owe Z K Γ0 n0 Γ nx Cb db res V)
  (hok : ∀ H' nx', nx ≤ nx' → HZ Zc Γ H' nx' → NodeC C.ex Γ [iv kk, .str s, iv 0, iv t.line, iv t.col, v] (Ps.mk t kk s ts) → cellv v = true → Owe Z K Γ0 n0 Γ nx' Cb db res V → rK (.agg [iv kk, .str s, iv 0, iv t.line, iv t.col, v]) H' nx') :
  TriP PG f_p_node [tokV t, iv kk, .str s, v] H nx fun e H' nx' => onEnd e (fun v => rK v H' nx') fun l => pK l H' nx' :=
 node_ok hv.cell hk fun H1 nx1 h1 hk1 => onEnd_ret.2 (hok _ _ h1 hk1 (by obtain ⟨c, e, h⟩ := hv.node (k := kk) (n := 0) (line := t.line) (col := t.col) (s := s); cases e; exact h) hv.cell (hK.from h1 (.refl _ _ _)))
theorem none_call {Cb : RC} {db : Nat} {Zc : Nat → Prop} (hk : HZ Zc Γ H nx) (hK : Owe Z K Γ0 n0 Γ nx Cb db res V)
  (hok : ∀ H' nx', nx ≤ nx' → HZ Zc Γ H' nx' → NodeC C.ex Γ [iv 38, .str [], iv 0, iv 0, iv 0, .nilSlice] Ps.none_ → Owe Z K Γ0 n0 Γ nx' Cb db res V → rK (.agg [iv 38, .str [], iv 0, iv 0, iv 0, .nilSlice]) H' nx') :
  TriP PG f_p_none [] H nx fun e H' nx' => onEnd e (fun v => rK v H' nx') fun l => pK l H' nx' :=
 none_ok hk fun H1 nx1 h1 hk1 => onEnd_ret.2 (hok _ _ h1 hk1 (.mk [] (.inl ⟨rfl, rfl, rfl⟩) .nil) (hK.from h1 (.refl _ _ _)))
theorem now_call {Cb : RC} {db : Nat} {Zc : Nat → Prop} (hk : HZ Zc Γ H nx) (hr : Rd Γ C a d) (hK : Owe Z K Γ0 n0 Γ nx Cb db res V)
  (hok : ∀ H' nx', nx ≤ nx' → HZ Zc Γ H' nx' → Owe Z K Γ0 n0 Γ nx' Cb db res V → rK (tokV (Ps.tk C.l a)) H' nx') :
  TriP PG f_rd_now [.ptr C.r 0] H nx fun e H' nx' => onEnd e (fun v => rK v H' nx') fun l => pK l H' nx' :=
 now_ok hk hr fun H1 nx1 h1 hk1 => onEnd_ret.2 (hok _ _ h1 hk1 (hK.from h1 (.refl _ _ _)))
theorem is_call {s : List UInt8} {Cb : RC} {db : Nat} {Zc : Nat → Prop} (hk : HZ Zc Γ H nx) (hr : Rd Γ C a d) (hK : Owe Z K Γ0 n0 Γ nx Cb db res V)
  (hok : ∀ H' nx', nx ≤ nx' → HZ Zc Γ H' nx' → Owe Z K Γ0 n0 Γ nx' Cb db res V → rK (.bool (Ps.is C.l a s)) H' nx') :
  TriP PG f_rd_is [.ptr C.r 0, .str s] H nx fun e H' nx' => onEnd e (fun v => rK v H' nx') fun l => pK l H' nx' :=
 is_ok hk hr fun H1 nx1 h1 hk1 => onEnd_ret.2 (hok _ _ h1 hk1 (hK.from h1 (.refl _ _ _)))
end
end
end Go.Vs
end
section
namespace Go.Vs
open Go.Proofs
variable [GTab] {Z : Nat → Prop}
noncomputable section
structure IH (l : List Tok) (r tb n : Nat) : Prop where
 typ : ∀ d, d ≤ 40 → RuleOK l r tb d f_rd_typ (Ps.run l n .typ d)
 field : ∀ d, d ≤ 40 → RuleOK l r tb d f_rd_field (Ps.run l n .field d)
 method : ∀ d, d ≤ 40 → RuleOK l r tb d f_rd_method (Ps.run l n .method d)
 param : ∀ d, d ≤ 40 → RuleOK l r tb d f_rd_param (Ps.run l n .param d)
 stmt : ∀ d, d ≤ 40 → RuleOK l r tb d f_rd_stmt (Ps.run l n .stmt d)
 ifs : ∀ d, d ≤ 40 → RuleOK l r tb d f_rd_ifs (Ps.run l n .ifs d)
 block : ∀ d, d ≤ 40 → RuleOK l r tb d f_rd_block (Ps.run l n .block d)
 expr : ∀ d, d ≤ 40 → RuleOK l r tb d f_rd_expr (Ps.run l n .expr d)
 unary : ∀ d, d ≤ 40 → RuleOK l r tb d f_rd_unary (Ps.run l n .unary d)
 post : ∀ d, d ≤ 40 → RuleOK l r tb d f_rd_post (Ps.run l n .post d)
 prime : ∀ d, d ≤ 40 → RuleOK l r tb d f_rd_prime (Ps.run l n .prime d)
 binary : ∀ (k : Nat) d, d ≤ 40 → ∀ Z ex a res Γ H nx K, Ps.run l n (.binary k) d a = some res → HZ Z Γ H nx → Rd Γ ⟨r, tb, l, ex⟩ a d → Meets Z K Γ nx ⟨r, tb, l, ex⟩ d res (NodeV ex) → TriP PG f_rd_binary [.ptr r 0, iv k] H nx K
theorem adv1 {l : List Tok} {n d : Nat} {rule : Ps.Rule} (h : Ps.adv rule = 1) : Ps.AdvOK (Ps.run l n rule d) := fun a t b e => by have := Ps.run_adv l n rule d a t b e; omega
section
variable {Γ : GH} {H : Heap} {nx a d n : Nat} {C : RC} {K : EndP} {res : Except Flt (Tree × Nat)}
theorem to_typ {r : Nat} : callTo PG (.func (.func f_rd_typ) [.ptr r 0] []) [] = some (f_rd_typ, [.ptr r 0]) := by kernel_rfl
theorem to_expr {r : Nat} : callTo PG (.func (.func f_rd_expr) [.ptr r 0] []) [] = some (f_rd_expr, [.ptr r 0]) := by kernel_rfl
theorem to_stmt {r : Nat} : callTo PG (.func (.func f_rd_stmt) [.ptr r 0] []) [] = some (f_rd_stmt, [.ptr r 0]) := by kernel_rfl
theorem to_field {r : Nat} : callTo PG (.func (.func f_rd_field) [.ptr r 0] []) [] = some (f_rd_field, [.ptr r 0]) := by kernel_rfl
theorem to_method {r : Nat} : callTo PG (.func (.func f_rd_method) [.ptr r 0] []) [] = some (f_rd_method, [.ptr r 0]) := by kernel_rfl
theorem to_param {r : Nat} : callTo PG (.func (.func f_rd_param) [.ptr r 0] []) [] = some (f_rd_param, [.ptr r 0]) := by kernel_rfl
theorem block_ok (W : Toks C.l) (ih : IH C.l C.r C.tb n) (hd : d ≤ 40) (hrun : Ps.run C.l (n + 1) .block d a = some res) (hk : HZ Z Γ H nx) (hr : Rd Γ C a d) (hK : Meets Z K Γ nx C d res (NodeV C.ex)) : TriP PG f_rd_block [.ptr C.r 0] H nx K := by
 refine TriP.of_body mixed ?_
 rw [Frd_block_eq]
 unfold Frd_block
 simp only [Ps.run] at hrun
 refine begin6 hk hr hK fun Γ1 H1 hk1 hr1 hi1 hf hK1 kp1 => now_call (C := C.add nx) hk1 hr1 hK1 fun H2 nx2 h2 hk2 hK2 => ⟨_, _, _, _, _, rfl, ?_⟩
 refine tokIn (C := C.add nx) hk2 hr1 hK2 rfl fun Γ3 H3 hk3 hr3 ht3 kp3 hK3 => ?_
 refine ⟨_, _, _, _, _, ht3.tok hk3, ⟨⟨_, _, _, _, _, ht3.tok hk3, rfl⟩, trivial⟩, ?_⟩
 refine list_call (C := C.add nx) W (adv1 rfl) to_stmt (ih.stmt d hd) hrun (hk3.more (by omega)) hr3 (hK3.from (by omega) (.refl _ _ _)) rfl .id (fun _ h => h) fun ts b v Γ4 H4 nx4 e4 h4 hk4 kp4 hv hr4 hK4 => ?_
 have ht4 := ht3.keep kp4
 refine ⟨⟨⟨_, _, _, _, _, ht4.tok hk4, rfl⟩, trivial⟩, node_call hk4 hv hK4 fun H5 nx5 h5 hk5 hn hw hK5 => ⟨_, _, _, _, _, _, rfl, trivial, ?_⟩⟩
 cases e4
 have := fin6 hk5 hr4 (hi1.keep (kp3.trans kp4)) hf hr.rex hw hn rfl hK5
 obtain ⟨H6, e6, e7⟩ := this
 exact ⟨H6, e6, trivial, e7⟩
theorem nested_ok {n : Nat} (ih : IH C.l C.r C.tb n) (hd : d ≤ 40) (hrun : Ps.run C.l n .ifs d a = some res) (hk : HZ Z Γ H nx) (hr : Rd Γ C a d) (hK : Meets Z K Γ nx C d res (NodeV C.ex)) : TriP PG f_rd_nested [.ptr C.r 0] H nx K := by
 refine TriP.of_body mixed ?_
 rw [Frd_nested_eq]
 unfold Frd_nested
 refine begin6 hk hr hK fun Γ1 H1 hk1 hr1 hi1 hf hK1 kp1 => ?_
 refine rule_last (C := C.add nx) (fun Z ex res Γ H nx K h => ih.ifs d hd Z ex a res Γ H nx K h) hrun hk1 hr1 hK1 rfl .id (fun _ h => h) fun t b kk s n li co w Γ2 H2 nx2 e1 e2 h2 hk2 kp2 hw hn hr2 hK2 => ⟨_, _, _, _, _, _, rfl, ?_⟩
 exact fin6 hk2 hr2 (hi1.keep kp2) hf hr.rex hw hn e2 hK2
theorem field_ok (W : Toks C.l) (ih : IH C.l C.r C.tb n) (hd : d ≤ 40) (hrun : Ps.run C.l (n + 1) .field d a = some res) (hk : HZ Z Γ H nx) (hr : Rd Γ C a d) (hK : Meets Z K Γ nx C d res (NodeV C.ex)) : TriP PG f_rd_field [.ptr C.r 0] H nx K := by
 refine TriP.of_body mixed ?_
 rw [Frd_field_eq]
 unfold Frd_field
 simp only [Ps.run] at hrun
 refine begin6 hk hr hK fun Γ1 H1 hk1 hr1 hi1 hf hK1 kp1 => ?_
 refine name_call (C := C.add nx) W hrun hk1 hr1 hK1 rfl .id (fun _ h => h) fun Γ2 H2 nx2 hkd e2 h2 hk2 kp2 hr2 hK2 => ⟨_, _, _, _, _, rfl, ?_⟩
 refine tokIn (C := C.add nx) hk2 hr2 hK2 rfl fun Γ3 H3 hk3 hr3 ht3 kp3 hK3 => ?_
 refine ⟨_, _, _, _, _, ht3.tok hk3, _, rfl, _, ht3.ld hk3 1, ⟨⟨_, _, _, _, _, ht3.tok hk3, rfl⟩, ⟨_, ht3.ld hk3 1, rfl⟩, trivial⟩, ?_⟩
 obtain ⟨hk3', hni⟩ := reserve (i := nx2 + 1 + 5) (nx' := nx2 + 1 + 8) hk3 (by omega) (by omega)
 refine rule_call (C := C.add nx) (fun Z ex res Γ H nx K h => ih.typ d hd Z ex (a + 1) res Γ H nx K h) e2 hk3' hr3 (hK3.from (by omega) (.refl _ _ _)) rfl .id rz_in fun t b kk s n li co w Γ4 H4 nx4 e3 e4 h4 hk4 kp4 hw hn hr4 hK4 => ⟨_, _, _, _, _, _, rfl, ?_⟩
 refine blkTake (C := C.add nx) hk4 hni hr4 hK4 rfl (by omega) fun Γ5 H5 hk5 hr5 hb5 hx5 kp5 hK5 => ?_
 have ht5 := (ht3.keep kp4).keep kp5
 refine ⟨⟨⟨_, _, _, _, _, ht5.tok hk5, rfl⟩, ⟨_, ht5.ld hk5 1, rfl⟩, trivial⟩, ?_⟩
 refine node_call (C := C.add nx) hk5 (.blk hx5 hb5.e (hn.keep hr5.rex kp5).one rfl) hK5 fun H6 nx6 h6 hk6 hn6 hw6 hK6 => ⟨_, _, _, _, _, _, rfl, trivial, ?_⟩
 cases e4
 obtain ⟨H7, e6, e7⟩ := fin6 hk6 hr5 ((((hi1.keep kp2).keep kp3).keep kp4).keep kp5) hf hr.rex hw6 hn6 rfl hK6
 exact ⟨H7, e6, trivial, e7⟩
theorem param_ok (W : Toks C.l) (ih : IH C.l C.r C.tb n) (hd : d ≤ 40) (hrun : Ps.run C.l (n + 1) .param d a = some res) (hk : HZ Z Γ H nx) (hr : Rd Γ C a d) (hK : Meets Z K Γ nx C d res (NodeV C.ex)) : TriP PG f_rd_param [.ptr C.r 0] H nx K := by
 refine TriP.of_body mixed ?_
 rw [Frd_param_eq]
 unfold Frd_param
 simp only [Ps.run] at hrun
 refine begin6 hk hr hK fun Γ1 H1 hk1 hr1 hi1 hf hK1 kp1 => ?_
 refine name_call (C := C.add nx) W hrun hk1 hr1 hK1 rfl .id (fun _ h => h) fun Γ2 H2 nx2 hkd e2 h2 hk2 kp2 hr2 hK2 => ⟨_, _, _, _, _, rfl, ?_⟩
 refine tokIn (C := C.add nx) hk2 hr2 hK2 rfl fun Γ3 H3 hk3 hr3 ht3 kp3 hK3 => ?_
 refine ⟨_, _, _, _, _, ht3.tok hk3, _, rfl, _, ht3.ld hk3 1, ⟨⟨_, _, _, _, _, ht3.tok hk3, rfl⟩, ⟨_, ht3.ld hk3 1, rfl⟩, trivial⟩, ?_⟩
 obtain ⟨hk3', hni⟩ := reserve (i := nx2 + 1 + 5) (nx' := nx2 + 1 + 8) hk3 (by omega) (by omega)
 refine rule_call (C := C.add nx) (fun Z ex res Γ H nx K h => ih.typ d hd Z ex (a + 1) res Γ H nx K h) e2 hk3' hr3 (hK3.from (by omega) (.refl _ _ _)) rfl .id rz_in fun t b kk s n li co w Γ4 H4 nx4 e3 e4 h4 hk4 kp4 hw hn hr4 hK4 => ⟨_, _, _, _, _, _, rfl, ?_⟩
 refine blkTake (C := C.add nx) hk4 hni hr4 hK4 rfl (by omega) fun Γ5 H5 hk5 hr5 hb5 hx5 kp5 hK5 => ?_
 have ht5 := (ht3.keep kp4).keep kp5
 refine ⟨⟨⟨_, _, _, _, _, ht5.tok hk5, rfl⟩, ⟨_, ht5.ld hk5 1, rfl⟩, trivial⟩, ?_⟩
 refine node_call (C := C.add nx) hk5 (.blk hx5 hb5.e (hn.keep hr5.rex kp5).one rfl) hK5 fun H6 nx6 h6 hk6 hn6 hw6 hK6 => ⟨_, _, _, _, _, _, rfl, trivial, ?_⟩
 cases e4
 obtain ⟨H7, e6, e7⟩ := fin6 hk6 hr5 ((((hi1.keep kp2).keep kp3).keep kp4).keep kp5) hf hr.rex hw6 hn6 rfl hK6
 exact ⟨H7, e6, trivial, e7⟩
end
end
end Go.Vs
end
section
namespace Go.Vs
open Go.Proofs
variable [GTab] {Z : Nat → Prop}
noncomputable section
theorem ifB_f {b : Bool} {p q : Prop} (h : b = false) (hq : q) : ifB b p q := by rw [h]; exact hq
theorem ifB_t {b : Bool} {p q : Prop} (h : b = true) (hq : p) : ifB b p q := by rw [h]; exact hq
theorem or_if {α : Type} {p q : Bool} {x y : α} : (if (p || q) = true then x else y) = (if p = true then x else if q = true then x else y) := by cases p <;> cases q <;> rfl
theorem isTyp_if {α : Type} {l : List Tok} {a : Nat} {x y : α} : (if Ps.isTyp l a = true then x else y) = (if Ps.is l a Ps.wInt = true then x else if Ps.is l a Ps.wBool = true then x else if Ps.is l a Ps.wString = true then x else y) := by
 unfold Ps.isTyp
 rw [or_if]; cases h : Ps.is l a Ps.wInt <;> cases h2 : Ps.is l a Ps.wBool <;> simp [h, h2]
section
variable {Γ0 Γ : GH} {n0 : Nat} {H : Heap} {nx a d n i : Nat} {C : RC} {K : EndP} {res : Except Flt (Tree × Nat)}
theorem fin6d {Cb : RC} {kk nn li co : Int} {s : List UInt8} {w : AVal} {t : Tree} {b d : Nat} (hk : HZ Z Γ H nx) (hr : Rd Γ (Cb.add i) b (d + 1)) (hi : Res Γ Cb i) (h0 : Γ0 i = none ∧ n0 ≤ i) (hrex : Cb.ex Cb.r) (hw : cellv w = true)
  (hn : NodeC (Cb.add i).ex Γ [iv kk, .str s, iv nn, iv li, iv co, w] t) (e : res = .ok (t, b)) (hK : Owe Z K Γ0 n0 Γ nx Cb d res (NodeV Cb.ex)) :
  ∃ H1, stC H (.ptr i 0) [iv kk, .str s, iv nn, iv li, iv co, w] = some H1 ∧ lvcSem PG (TriDP PG) [.cell (.ptr i 0) t_node] [(f_rd_leave, [.ptr Cb.r 0])] .returning H1 nx fun e H' nx' => K e H' nx' := by
 obtain ⟨cs, e0, hl⟩ := hi.e
 refine stAll hk e0 (by simp [hl]) (by simp only [allCell, hw]; rfl) fun H1 h1 => ?_
 refine lv_ret (C := Cb) (a := b) (d := d) h1 ((hr.upd hi.nr hi.nt).less hrex) (gup_same _ _ _) hi.nr fun Γ2 H2 h2 k2 hr2 => ?_
 have hn1 : NodeC Cb.ex (gup i (some [iv kk, .str s, iv nn, iv li, iv co, w]) Γ) [iv kk, .str s, iv nn, iv li, iv co, w] t := hn.mono (fun _ h => .inr h) fun c ds hc e => by rw [gup_ne fun x => hc (.inl x)]; exact e
 exact ((hK.upd h0.1 h0.2).from (Nat.le_refl _) k2).ret e h2 (hn1.keep hrex k2).v hr2
theorem maybe_ok {s : List UInt8} (W : Toks C.l) (ih : IH C.l C.r C.tb n) (hd : d ≤ 40) (hrun : (if Ps.is C.l a s = true then Ps.run C.l n .expr d (a + 1) else Rs.ok (Ps.none_, a)) = some res) (hk : HZ Z Γ H nx) (hr : Rd Γ C a d) (hK : Meets Z K Γ nx C d res (NodeV C.ex)) :
  TriP PG f_rd_maybe [.ptr C.r 0, .str s] H nx K := by
 refine TriP.of_body mixed ?_
 rw [Frd_maybe_eq]
 unfold Frd_maybe
 refine begin6 hk hr hK fun Γ1 H1 hk1 hr1 hi1 hf hK1 kp1 => ?_
 refine has_call (C := C.add nx) W hrun hk1 hr1 hK1 rfl (fun _ h => h) (fun Γ2 H2 nx2 his e2 h2 hk2 kp2 hr2 hK2 => ⟨_, rfl, ifB_f rfl ?_⟩) (fun H2 nx2 his e2 h2 hk2 hK2 => ⟨_, rfl, ifB_t rfl ?_⟩)
 ·refine rule_last (C := C.add nx) (fun Z ex res Γ H nx K h => ih.expr d hd Z ex (a + 1) res Γ H nx K h) e2 hk2 hr2 hK2 rfl .id (fun _ h => h) fun t b kk s n li co w Γ3 H3 nx3 e3 e4 h3 hk3 kp3 hw hn hr3 hK3 => ⟨_, _, _, _, _, _, rfl, ?_⟩
  exact fin6 hk3 hr3 ((hi1.keep kp2).keep kp3) hf hr.rex hw hn e4 hK3
 ·refine none_call (C := C.add nx) hk2 hK2 fun H3 nx3 h3 hk3 hn hK3 => ⟨_, _, _, _, _, _, rfl, ?_⟩
  cases e2
  exact fin6 hk3 hr1 hi1 hf hr.rex rfl hn rfl hK3
theorem expr_ok (W : Toks C.l) (ih : IH C.l C.r C.tb n) (hd : d ≤ 40) (hrun : Ps.run C.l (n + 1) .expr d a = some res) (hk : HZ Z Γ H nx) (hr : Rd Γ C a d) (hK : Meets Z K Γ nx C d res (NodeV C.ex)) : TriP PG f_rd_expr [.ptr C.r 0] H nx K := by
 refine TriP.of_body mixed ?_
 rw [Frd_expr_eq]
 unfold Frd_expr
 simp only [Ps.run] at hrun
 refine begin6 hk hr hK fun Γ1 H1 hk1 hr1 hi1 hf hK1 kp1 => ?_
 refine enter_ok (C := C.add nx) hk1 hr1 hd (fun h Γ2 H2 nx2 h2 hk2 kp2 hr2 => onEnd_pan.2 ?_) (fun h Γ2 H2 nx2 h2 hk2 kp2 hr2 => onEnd_ret.2 ?_)
 ·rw [if_pos h] at hrun
  cases hrun
  exact (hK1.from h2 kp2).pan rfl hk2 hr2.p
 ·rw [if_neg h] at hrun
  refine rule_last (C := C.add nx) (fun Z ex res Γ H nx K h => ih.binary 1 (d + 1) (by omega) Z ex a res Γ H nx K h) hrun hk2 hr2 (hK1.from h2 kp2) rfl .lv (fun _ h => h) fun t b kk s n li co w Γ3 H3 nx3 e3 e4 h3 hk3 kp3 hw hn hr3 hK3 => ⟨_, _, _, _, _, _, rfl, ?_⟩
  exact fin6d hk3 hr3 ((hi1.keep kp2).keep kp3) hf hr.rex hw hn e4 hK3
theorem result_ok (W : Toks C.l) (ih : IH C.l C.r C.tb n) (hd : d ≤ 40) (hrun : (if ((Ps.tk C.l a).kind == 2 || Ps.isTyp C.l a || Ps.is C.l a [91]) = true then Ps.run C.l n .typ d a else Rs.ok (Ps.none_, a)) = some res)
  (hk : HZ Z Γ H nx) (hr : Rd Γ C a d) (hK : Meets Z K Γ nx C d res (NodeV C.ex)) : TriP PG f_rd_result [.ptr C.r 0] H nx K := by
 refine TriP.of_body mixed ?_
 rw [Frd_result_eq]
 unfold Frd_result
 refine begin6 hk hr hK fun Γ1 H1 hk1 hr1 hi1 hf hK1 kp1 => ?_
 refine now_call (C := C.add nx) hk1 hr1 hK1 fun H2 nx2 h2 hk2 hK2 => ⟨_, _, _, _, _, rfl, ?_⟩
 refine tokIn (C := C.add nx) hk2 hr1 hK2 rfl fun Γ3 H3 hk3 hr3 ht3 kp3 hK3 => ?_
 refine ⟨_, rfl, _, ht3.ld hk3 0, ?_⟩
 have last : ∀ {H5 nx5}, nx2 + 1 ≤ nx5 → HZ Z Γ3 H5 nx5 → Ps.run C.l n .typ d a = some res → Owe Z K Γ nx Γ3 nx5 C d res (NodeV C.ex) → TriP PG f_rd_typ [.ptr C.r 0] H5 nx5 fun e14 H15 i16 => onEnd e14 (fun v17 => ∃ (n18 : Int) (s19 : List UInt8) (n20 n21 n22 : Int) (v23 : AVal), v17 = AVal.agg [iv n18, AVal.str s19, iv n20, iv n21, iv n22, v23] ∧ ∃ H24, stC H15 (AVal.ptr nx 0) [iv n18, AVal.str s19, iv n20,
   iv n21, iv n22, v23] = some H24 ∧ ∃ (n25 : Int) (s26 : List UInt8) (n27 n28 n29 : Int) (v30 : AVal), ldN H24 6 (AVal.ptr nx 0) = some (AVal.agg [iv n25, AVal.str s26, iv n27, iv n28, iv n29, v30]) ∧ K (AEnd.ret (AVal.agg
   [iv n25, AVal.str s26, iv n27, iv n28, iv n29, v30])) H24 i16) fun l31 => K (AEnd.pan l31) H15 i16 := fun h5 hk5 e5 hK5 => by
  refine rule_last (C := C.add nx) (fun Z ex res Γ H nx K h => ih.typ d hd Z ex a res Γ H nx K h) e5 hk5 hr3 hK5 rfl .id (fun _ h => h) fun t b kk s n li co w Γ6 H6 nx6 e3 e4 h6 hk6 kp6 hw hn hr6 hK6 => ⟨_, _, _, _, _, _, rfl, ?_⟩
  exact fin6 hk6 hr6 ((hi1.keep kp3).keep kp6) hf hr.rex hw hn e4 hK6
 refine ifB_iff.2 ⟨fun h => ?_, fun h => ?_⟩
 ·have h : (Ps.tk C.l a).kind = 2 := by simpa using h
  exact last (Nat.le_refl _) hk3 (by simpa [h] using hrun) hK3
 ·have h : ((Ps.tk C.l a).kind == 2) = false := by simpa using h
  rw [h, Bool.false_or, or_if, isTyp_if] at hrun
  refine is_call (C := C.add nx) (s := Ps.wInt) hk3 hr3 hK3 fun H4 nx4 h4 hk4 hK4 => ⟨_, rfl, ifB_iff.2 ⟨fun h1 => ?_, fun h1 => ?_⟩⟩
  ·exact last h4 hk4 (by rw [show Ps.is C.l a Ps.wInt = true from h1] at hrun; simpa using hrun) hK4
  rw [show Ps.is C.l a Ps.wInt = false from h1] at hrun
  refine is_call (C := C.add nx) (s := Ps.wBool) hk4 hr3 hK4 fun H5 nx5 h5 hk5 hK5 => ⟨_, rfl, ifB_iff.2 ⟨fun h2 => ?_, fun h2 => ?_⟩⟩
  ·exact last (by omega) hk5 (by rw [show Ps.is C.l a Ps.wBool = true from h2] at hrun; simpa using hrun) hK5
  rw [show Ps.is C.l a Ps.wBool = false from h2] at hrun
  refine is_call (C := C.add nx) (s := Ps.wString) hk5 hr3 hK5 fun H6 nx6 h6 hk6 hK6 => ⟨_, rfl, ifB_iff.2 ⟨fun h3 => ?_, fun h3 => ?_⟩⟩
  ·exact last (by omega) hk6 (by rw [show Ps.is C.l a Ps.wString = true from h3] at hrun; simpa using hrun) hK6
  rw [show Ps.is C.l a Ps.wString = false from h3] at hrun
  refine is_call (C := C.add nx) (s := [91]) hk6 hr3 hK6 fun H7 nx7 h7 hk7 hK7 => ⟨_, rfl, ifB_iff.2 ⟨fun h4 => ?_, fun h4 => ?_⟩⟩
  ·exact last (by omega) hk7 (by rw [show Ps.is C.l a [91] = true from h4] at hrun; simpa using hrun) hK7
  rw [show Ps.is C.l a [91] = false from h4] at hrun
  refine none_call (C := C.add nx) hk7 hK7 fun H8 nx8 h8 hk8 hn hK8 => ⟨_, _, _, _, _, _, rfl, ?_⟩
  have e : res = .ok (Ps.none_, a) := by simp [Rs.ok] at hrun; exact hrun.symm
  exact fin6 hk8 hr3 (hi1.keep kp3) hf hr.rex rfl hn e hK8
theorem typ_ok (W : Toks C.l) (ih : IH C.l C.r C.tb n) (hd : d ≤ 40) (hrun : Ps.run C.l (n + 1) .typ d a = some res) (hk : HZ Z Γ H nx) (hr : Rd Γ C a d) (hK : Meets Z K Γ nx C d res (NodeV C.ex)) : TriP PG f_rd_typ [.ptr C.r 0] H nx K := by
 refine TriP.of_body mixed ?_
 rw [Frd_typ_eq]
 unfold Frd_typ
 simp only [Ps.run, isTyp_if] at hrun
 refine begin6 hk hr hK fun Γ1 H1 hk1 hr1 hi1 hf hK1 kp1 => ?_
 refine enter_ok (C := C.add nx) hk1 hr1 hd (fun h Γ2 H2 nx2 h2 hk2 kp2 hr2 => onEnd_pan.2 ?_) (fun h Γ2 H2 nx2 h2 hk2 kp2 hr2 => onEnd_ret.2 ?_)
 ·rw [if_pos h] at hrun
  cases hrun
  exact (hK1.from h2 kp2).pan rfl hk2 hr2.p
 rw [if_neg h] at hrun
 refine now_call (C := C.add nx) hk2 hr2 (hK1.from h2 kp2) fun H3 nx3 h3 hk3 hK3 => ⟨_, _, _, _, _, rfl, ?_⟩
 refine tokIn (C := C.add nx) hk3 hr2 hK3 rfl fun Γ4 H4 hk4 hr4 ht4 kp4 hK4 => ?_
 have hi4 := (hi1.keep kp2).keep kp4
 refine has_call (C := C.add nx) W hrun hk4 hr4 hK4 rfl (fun _ h => h) (fun Γ5 H5 nx5 his e5 h5 hk5 kp5 hr5 hK5 => ⟨_, rfl, ifB_t rfl ?_⟩) (fun H5 nx5 his e5 h5 hk5 hK5 => ⟨_, rfl, ifB_f rfl ?_⟩)
 ·refine need_call (C := C.add nx) W e5 hk5 hr5 hK5 rfl .lv (fun _ h => h) fun Γ6 H6 nx6 his6 e6 h6 hk6 kp6 hr6 hK6 => ⟨_, _, _, _, _, rfl, ?_⟩
  have ht6 := (ht4.keep kp5).keep kp6
  refine ⟨_, _, _, _, _, ht6.tok hk6, ⟨⟨_, _, _, _, _, ht6.tok hk6, rfl⟩, trivial⟩, ?_⟩
  obtain ⟨hk6', hni⟩ := reserve (i := nx6 + 3) (nx' := nx6 + 6) hk6 (by omega) (by omega)
  refine rule_call (C := C.add nx) (fun Z ex res Γ H nx K h => ih.typ (d + 1) (by omega) Z ex _ res Γ H nx K h) e6 hk6' hr6 (hK6.from (by omega) (.refl _ _ _)) rfl .lv rz_in fun t b kk s n li co w Γ7 H7 nx7 e7 e8 h7 hk7 kp7 hw hn hr7 hK7 => ⟨_, _, _, _, _, _, rfl, ?_⟩
  refine blkTake (C := C.add nx) hk7 hni hr7 hK7 rfl (by omega) fun Γ8 H8 hk8 hr8 hb8 hx8 kp8 hK8 => ?_
  have ht8 := (ht6.keep kp7).keep kp8
  refine ⟨⟨⟨_, _, _, _, _, ht8.tok hk8, rfl⟩, trivial⟩, ?_⟩
  refine node_call (C := C.add nx) hk8 (.blk hx8 hb8.e (hn.keep hr8.rex kp8).one rfl) hK8 fun H9 nx9 h9 hk9 hn9 hw9 hK9 => ⟨_, _, _, _, _, _, rfl, trivial, ?_⟩
  cases e8
  obtain ⟨H10, q1, q2⟩ := fin6d hk9 hr8 ((((hi4.keep kp5).keep kp6).keep kp7).keep kp8) hf hr.rex hw9 hn9 rfl hK9
  exact ⟨H10, q1, trivial, q2⟩
 have fin : ∀ {Γ6 H6 nx6}, nx3 + 1 ≤ nx6 → HZ Z Γ6 H6 nx6 → Rd Γ6 (C.add nx) (a + 1) (d + 1) → At Γ6 C.r nx3 (tokC (Ps.tk C.l a)) → Res Γ6 C nx → Owe Z K Γ nx Γ6 nx6 C d res (NodeV C.ex) → res = .ok (Ps.leaf (Ps.tk C.l a) 8 (Ps.tk C.l a).text, a + 1) →
   TriP PG f_p_node [tokV (Ps.tk C.l a), iv 8, AVal.str (Ps.tk C.l a).text, AVal.nilSlice] H6 nx6 fun e94 H95 i96 => onEnd e94 (fun v97 => ∃ (n98 : Int) (s99 : List UInt8) (n100 n101 n102 : Int) (v103 : AVal), v97 = AVal.agg [iv n98, AVal.str s99, iv
    n100, iv n101, iv n102, v103] ∧ ∃ H104, stC H95 (AVal.ptr nx 0) [iv n98, AVal.str s99, iv n100, iv n101, iv n102, v103] = some H104 ∧ lvcSem PG (TriDP PG) [RVal.cell (AVal.ptr nx 0) t_node] [(f_rd_leave,
    [AVal.ptr C.r 0])] AMode.returning H104 i96 fun e105 H106 i107 => K e105 H106 i107) fun l108 => lvcSem PG (TriDP PG) [RVal.cell (AVal.ptr nx 0) t_node] [(f_rd_leave, [AVal.ptr C.r 0])] (AMode.panicking l108) H95
    i96 fun e109 H110 i111 => K e109 H110 i111 := fun h6 hk6 hr6 ht6 hi6 hK6 e6 => by
  refine node_call (C := C.add nx) hk6 .nil hK6 fun H9 nx9 h9 hk9 hn9 hw9 hK9 => ⟨_, _, _, _, _, _, rfl, ?_⟩
  exact fin6d hk9 hr6 hi6 hf hr.rex hw9 hn9 e6 hK9
 refine has_call (C := C.add nx) W e5 hk5 hr4 hK5 rfl (fun _ h => h) (fun Γ6 H6 nx6 his e6 h6 hk6 kp6 hr6 hK6 => ⟨_, rfl, ifB_t rfl ?_⟩) (fun H6 nx6 his e6 h6 hk6 hK6 => ⟨_, rfl, ifB_f rfl ?_⟩)
 ·have ht6 := ht4.keep kp6
  cases e6
  exact ⟨_, _, _, _, _, ht6.tok hk6, _, rfl, _, ht6.ld hk6 1, fin (by omega) hk6 hr6 ht6 (hi4.keep kp6) hK6 rfl⟩
 refine has_call (C := C.add nx) W e6 hk6 hr4 hK6 rfl (fun _ h => h) (fun Γ7 H7 nx7 his e7 h7 hk7 kp7 hr7 hK7 => ⟨_, rfl, ifB_t rfl ?_⟩) (fun H7 nx7 his e7 h7 hk7 hK7 => ⟨_, rfl, ifB_f rfl ?_⟩)
 ·have ht7 := ht4.keep kp7
  cases e7
  exact ⟨_, _, _, _, _, ht7.tok hk7, _, rfl, _, ht7.ld hk7 1, fin (by omega) hk7 hr7 ht7 (hi4.keep kp7) hK7 rfl⟩
 refine has_call (C := C.add nx) W e7 hk7 hr4 hK7 rfl (fun _ h => h) (fun Γ8 H8 nx8 his e8 h8 hk8 kp8 hr8 hK8 => ⟨_, rfl, ifB_t rfl ?_⟩) (fun H8 nx8 his e8 h8 hk8 hK8 => ⟨_, rfl, ifB_f rfl ?_⟩)
 ·have ht8 := ht4.keep kp8
  cases e8
  exact ⟨_, _, _, _, _, ht8.tok hk8, _, rfl, _, ht8.ld hk8 1, fin (by omega) hk8 hr8 ht8 (hi4.keep kp8) hK8 rfl⟩
 refine ⟨_, rfl, _, ht4.ld hk8 1, ⟨⟨_, ht4.ld hk8 1, rfl⟩, trivial⟩, ?_⟩
 refine name_call (C := C.add nx) W e8 (hk8.more (by omega)) hr4 (hK8.from (by omega) (.refl _ _ _)) rfl .lv (fun _ h => h) fun Γ9 H9 nx9 hkd e9 h9 hk9 kp9 hr9 hK9 => ⟨_, _, _, _, _, rfl, ?_⟩
 have ht9 := ht4.keep kp9
 refine ⟨⟨⟨_, ht9.ld hk9 1, rfl⟩, trivial⟩, ?_⟩
 refine node_call (C := C.add nx) hk9 .nil hK9 fun H10 nx10 h10 hk10 hn10 hw10 hK10 => ⟨_, _, _, _, _, _, rfl, trivial, ?_⟩
 cases e9
 obtain ⟨H11, q1, q2⟩ := fin6d hk10 hr9 (hi4.keep kp9) hf hr.rex hw10 hn10 rfl hK10
 exact ⟨H11, q1, trivial, q2⟩
theorem unary_ok (W : Toks C.l) (ih : IH C.l C.r C.tb n) (hd : d ≤ 40) (hrun : Ps.run C.l (n + 1) .unary d a = some res) (hk : HZ Z Γ H nx) (hr : Rd Γ C a d) (hK : Meets Z K Γ nx C d res (NodeV C.ex)) : TriP PG f_rd_unary [.ptr C.r 0] H nx K := by
 refine TriP.of_body mixed ?_
 rw [Frd_unary_eq]
 unfold Frd_unary
 simp only [Ps.run, or_if] at hrun
 refine begin6 hk hr hK fun Γ1 H1 hk1 hr1 hi1 hf hK1 kp1 => ?_
 refine now_call (C := C.add nx) hk1 hr1 hK1 fun H3 nx3 h3 hk3 hK3 => ⟨_, _, _, _, _, rfl, ?_⟩
 refine tokIn (C := C.add nx) hk3 hr1 hK3 rfl fun Γ4 H4 hk4 hr4 ht4 kp4 hK4 => ?_
 have hi4 := hi1.keep kp4
 have one : ∀ {Γ5 H5 nx5}, nx3 + 1 ≤ nx5 → HZ Z Γ5 H5 nx5 → Rd Γ5 (C.add nx) (a + 1) d → At Γ5 C.r nx3 (tokC (Ps.tk C.l a)) → Res Γ5 C nx → Owe Z K Γ nx Γ5 nx5 C d res (NodeV C.ex) →
   (Rs.bind (Ps.run C.l n .unary d (a + 1)) fun (x, b) => Rs.ok (Ps.mk (Ps.tk C.l a) 27 (Ps.tk C.l a).text [x], b)) = some res →
   (∃ (n17 : Int) (s18 : List UInt8) (n19 n20 n21 : Int), ldN H5 5 (AVal.ptr nx3 0) = some (AVal.agg [iv n17, AVal.str s18, iv n19, iv n20, iv n21]) ∧ ∃ v22, some (AVal.ptr nx3 1) = some v22 ∧ ∃ s23, ld1 H5 v22 = some (AVal.str s23) ∧ ((∃ (n24 : Int) (s25 : List UInt8) (
    n26 n27 n28 : Int), ldN H5 5 (AVal.ptr nx3 0) = some (AVal.agg [iv n24, AVal.str s25, iv n26, iv n27, iv n28]) ∧ AVal.agg [iv n24, AVal.str s25, iv n26, iv n27, iv n28] = AVal.agg [iv n17,
    AVal.str s18, iv n19, iv n20, iv n21]) ∧ (∃ s29, ld1 H5 v22 = some (AVal.str s29) ∧ AVal.str s29 = AVal.str s23) ∧ True) ∧ TriP PG f_rd_unary [AVal.ptr C.r 0] H5 (nx5 + 8) fun e30 H31 i32 =>
    onEnd e30 (fun v33 => ∃ (n34 : Int) (s35 : List UInt8) (n36 n37 n38 : Int) (v39 : AVal), v33 = AVal.agg [iv n34, AVal.str s35, iv n36, iv n37, iv n38, v39] ∧ ∃ H40, H40 = newB (nx5 + 5) [iv n34, AVal.str s35, iv n36, iv
    n37, iv n38, v39] H31 ∧ ((∃ (n41 : Int) (s42 : List UInt8) (n43 n44 n45 : Int), ldN H40 5 (AVal.ptr nx3 0) = some (AVal.agg [iv n41, AVal.str s42, iv n43, iv n44, iv n45]) ∧ AVal.agg [iv n41, AVal.str s42, iv n43,
    iv n44, iv n45] = AVal.agg [iv n17, AVal.str s18, iv n19, iv n20, iv n21]) ∧ (∃ s46, ld1 H40 v22 = some (AVal.str s46) ∧ AVal.str s46 = AVal.str s23) ∧ True) ∧ TriP PG f_p_node [AVal.agg [iv
    n17, AVal.str s18, iv n19, iv n20, iv n21], iv 27, AVal.str s23, AVal.slice (nx5 + 5) 0 1 6 true] H40 i32 fun e47 H48 i49 => onEnd e47 (fun v50 => ∃ (n51 : Int) (s52 : List UInt8) (n53 n54 n55 : Int) (v56 : AVal), v50 =
    AVal.agg [iv n51, AVal.str s52, iv n53, iv n54, iv n55, v56] ∧ True ∧ ∃ H57, stC H48 (AVal.ptr nx 0) [iv n51, AVal.str s52, iv n53, iv n54, iv n55, v56] = some H57 ∧ True ∧ ∃ (n58 : Int) (
    s59 : List UInt8) (n60 n61 n62 : Int) (v63 : AVal), ldN H57 6 (AVal.ptr nx 0) = some (AVal.agg [iv n58, AVal.str s59, iv n60, iv n61, iv n62, v63]) ∧ K (AEnd.ret (AVal.agg [iv n58, AVal.str s59, iv n60, iv n61,
    iv n62, v63])) H57 i49) fun l64 => K (AEnd.pan l64) H48 i49) fun l65 => K (AEnd.pan l65) H31 i32) := @fun Γ5 H5 nx5 h5 hk5 hr5 ht5 hi5 hK5 e5 => by
  refine ⟨_, _, _, _, _, ht5.tok hk5, _, rfl, _, ht5.ld hk5 1, ⟨⟨_, _, _, _, _, ht5.tok hk5, rfl⟩, ⟨_, ht5.ld hk5 1, rfl⟩, trivial⟩, ?_⟩
  obtain ⟨hk5', hni⟩ := reserve (i := nx5 + 5) (nx' := nx5 + 8) hk5 (by omega) (by omega)
  refine rule_call (C := C.add nx) (fun Z ex res Γ H nx K h => ih.unary d hd Z ex (a + 1) res Γ H nx K h) e5 hk5' hr5 (hK5.from (by omega) (.refl _ _ _)) rfl .id rz_in fun t b kk s n li co w Γ7 H7 nx7 e7 e8 h7 hk7 kp7 hw hn hr7 hK7 => ⟨_, _, _, _, _, _, rfl, ?_⟩
  refine blkTake (C := C.add nx) hk7 hni hr7 hK7 rfl (by omega) fun Γ8 H8 hk8 hr8 hb8 hx8 kp8 hK8 => ?_
  have ht8 := (ht5.keep kp7).keep kp8
  refine ⟨⟨⟨_, _, _, _, _, ht8.tok hk8, rfl⟩, ⟨_, ht8.ld hk8 1, rfl⟩, trivial⟩, ?_⟩
  refine node_call (C := C.add nx) hk8 (.blk hx8 hb8.e (hn.keep hr8.rex kp8).one rfl) hK8 fun H9 nx9 h9 hk9 hn9 hw9 hK9 => ⟨_, _, _, _, _, _, rfl, trivial, ?_⟩
  cases e8
  obtain ⟨H10, q1, q2⟩ := fin6 hk9 hr8 ((hi5.keep kp7).keep kp8) hf hr.rex hw9 hn9 rfl hK9
  exact ⟨H10, q1, trivial, q2⟩
 refine has_call (C := C.add nx) W hrun hk4 hr4 hK4 rfl (fun _ h => h) (fun Γ5 H5 nx5 his e5 h5 hk5 kp5 hr5 hK5 => ⟨_, rfl, ifB_t rfl ?_⟩) (fun H5 nx5 his e5 h5 hk5 hK5 => ⟨_, rfl, ifB_f rfl ?_⟩)
 ·exact one (by omega) hk5 hr5 (ht4.keep kp5) (hi4.keep kp5) hK5 e5
 refine has_call (C := C.add nx) W e5 hk5 hr4 hK5 rfl (fun _ h => h) (fun Γ6 H6 nx6 his e6 h6 hk6 kp6 hr6 hK6 => ⟨_, rfl, ifB_t rfl ?_⟩) (fun H6 nx6 his e6 h6 hk6 hK6 => ⟨_, rfl, ifB_f rfl ?_⟩)
 ·exact one (by omega) hk6 hr6 (ht4.keep kp6) (hi4.keep kp6) hK6 e6
 refine rule_last (C := C.add nx) (fun Z ex res Γ H nx K h => ih.post d hd Z ex a res Γ H nx K h) e6 hk6 hr4 hK6 rfl .id (fun _ h => h) fun t b kk s n li co w Γ7 H7 nx7 e3 e4 h7 hk7 kp7 hw hn hr7 hK7 => ⟨_, _, _, _, _, _, rfl, ?_⟩
 exact fin6 hk7 hr7 (hi4.keep kp7) hf hr.rex hw hn e4 hK7
end
end
end Go.Vs
end
