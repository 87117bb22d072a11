/-
  Own work. Texts of a proof, laid together; no condition.
-/
import Derived.Test.YtjjhihcgiogjjaaPlsPRow
import Derived.Test.YtjjhihcgiogjjaaPls4
import Derived.Test.YtjjhihcgiogjjaaPls2
import Derived.Test.YtjjhihcgiogjjaaPls3
set_option linter.unusedSectionVars false
set_option linter.unusedVariables false
set_option linter.unusedSimpArgs false
set_option maxRecDepth 1000000
section
namespace Go.Vs
open Go.Proofs
variable [GTab] {Z : Nat → Prop}
noncomputable section
abbrev resOne (l : List Tok) (n d : Nat) : Nat → Rs (Tree × Nat) := fun b => if ((Ps.tk l b).kind == 2 || Ps.isTyp l b || Ps.is l b [91]) = true then Ps.run l n .typ d b else Rs.ok (Ps.none_, b)
theorem KidsC.all {ex : Nat → Prop} {Γ : GH} : ∀ {c : List AVal} {t : List Tree}, KidsC ex Γ c t → allCell c = true
 | _, _, .nil => rfl
 | _, _, .cons (.mk cs hs hk) hl => by
  have h1 := KidsV.cell ⟨cs, hs, hk⟩
  have h2 := KidsC.all hl
  show allCell (_ :: _ :: _ :: _ :: _ :: _ :: _) = true
  simp only [allCell, h1]
  exact h2
theorem row_len {l : List Tok} {one : Nat → Rs (Tree × Nat)} (ho : Ps.AdvOK one) {n a : Nat} {xs : List Tree} {b : Nat} (h : Ps.row l one n a = some (.ok (xs, b))) : xs.length + a ≤ b := by
 unfold Ps.row at h
 refine Ps.lift_el h fun c h1 h => ?_
 have := Ps.need_ok h1
 refine Ps.ite_el h (fun _ h => Ps.ok_el h fun h4 h5 => ?_) fun _ h => ?_
 ·subst h4 h5; simp; omega
 ·have := rowGo_len ho _ _ _ _ h; omega
section
variable {Γ0 Γ : GH} {n0 : Nat} {H : Heap} {nx a d n i : Nat} {C : RC} {K : EndP} {res : Except Flt (Tree × Nat)}
theorem appK {x : List AVal} {t1 ts : List Tree} {v : AVal} (hk : HZ Z Γ H nx) (hr : Rd Γ C a d) (hb : Γ i = some x) (hx : ¬ C.ex i) (hc : KidsC C.ex Γ x t1) (h1 : 0 < t1.length) (hv : KidsV C.ex Γ v ts) (hfew : t1.length + ts.length ≤ 6000) {n1 : Nat} (hn1 : n1 = t1.length)
  {k : AVal → Heap → Nat → Prop} (h : ∀ w Γ' H' nx', nx ≤ nx' → HZ Z Γ' H' nx' → KeepX C.r nx Γ Γ' → Rd Γ' C a d → KidsV C.ex Γ' w (t1 ++ ts) → k w H' nx') :
  ∃ m l, aSrc 6 H v = some (m, l) ∧ allCell l = true ∧ ∃ w H' nx', appC H nx 6 72 (.slice i 0 n1 6 true) m l = some (w, H', nx') ∧ k w H' nx' := by
 subst hn1
 obtain ⟨cs, hs, hkc⟩ := hv
 have hs' : SrcV Γ v 6 ts.length cs := hs.mono fun c ds e => by
  by_cases hex : C.ex c
  ·rw [hide_ex hex] at e; cases e
  ·rw [hide_not hex] at e; exact e
 refine ⟨ts.length, cs, hs'.src hk, hkc.all, ?_⟩
 have hl := hc.len
 cases hts : ts with
 | nil =>
  subst hts
  refine ⟨_, _, _, rfl, h _ Γ _ _ (Nat.le_refl _) hk (.refl _ _ _) hr ?_⟩
  rw [List.append_nil]
  exact .blk hx hb hc rfl
 | cons t r =>
  rw [← hts]
  obtain ⟨H', e1, e2⟩ := hk.appFull (off := 0) (len := t1.length) (esz := 6) (ebytes := 72) (k := ts.length) (new := cs) hb (by omega) hkc.len (by rw [hts]; simp) (by omega) (by omega)
  have hf := hk.fresh (Nat.le_refl nx)
  refine ⟨_, H', _, e1, h _ _ _ _ (by omega) e2 (.new hf) (hr.new hf) ?_⟩
  refine .blk (hr.notex hf) (gup_same _ _ _) ?_ (by simp)
  have hd : (x.drop 0).take (t1.length * 6) = x := by rw [← hl]; simp
  rw [hd]
  exact KidsC.app (hc.keep hr.rex (.new (nx := nx) hf)) (hkc.keep hr.rex (.new (nx := nx) hf))
variable {Cb : RC} {t : Tok} {kk : Int} {s : List UInt8} {v : AVal} {ts : List Tree} {b : Nat} {pK : List (AVal × Bool) → Heap → Nat → Prop}
theorem node_fin (hk : HZ Z Γ H nx) (hr : Rd Γ (Cb.add i) b d) (hi : Res Γ Cb i) (h0 : Γ0 i = none ∧ n0 ≤ i) (hrex : Cb.ex Cb.r) (hv : KidsV (Cb.add i).ex Γ v ts) (e : res = .ok (Ps.mk t kk s ts, b)) (hK : Owe Z K Γ0 n0 Γ nx Cb d res (NodeV Cb.ex)) :
  TriP PG f_p_node [tokV t, iv kk, .str s, v] H nx fun e H' nx' => onEnd e (fun v => ∃ (n1 : Int) (s1 : List UInt8) (x1 y1 z1 : Int) (v1 : AVal), v = .agg [iv n1, .str s1, iv x1, iv y1, iv z1, v1] ∧ ∃ H1, stC H' (.ptr i 0) [iv n1, .str s1, iv x1, iv y1, iv z1, v1] = some H1 ∧
   ∃ (n1 : Int) (s1 : List UInt8) (x1 y1 z1 : Int) (v1 : AVal), ldN H1 6 (.ptr i 0) = some (.agg [iv n1, .str s1, iv x1, iv y1, iv z1, v1]) ∧ K (.ret (.agg [iv n1, .str s1, iv x1, iv y1, iv z1, v1])) H1 nx') fun l => pK l H' nx' := by
 refine node_call (C := Cb.add i) hk hv hK fun H6 nx6 h6 hk6 hn6 hw6 hK6 => ⟨_, _, _, _, _, _, rfl, ?_⟩
 exact fin6 hk6 hr hi h0 hrex hw6 hn6 e hK6
theorem node_finT (hk : HZ Z Γ H nx) (hr : Rd Γ (Cb.add i) b d) (hi : Res Γ Cb i) (h0 : Γ0 i = none ∧ n0 ≤ i) (hrex : Cb.ex Cb.r) (hv : KidsV (Cb.add i).ex Γ v ts) (e : res = .ok (Ps.mk t kk s ts, b)) (hK : Owe Z K Γ0 n0 Γ nx Cb d res (NodeV Cb.ex)) :
  TriP PG f_p_node [tokV t, iv kk, .str s, v] H nx fun e H' nx' => onEnd e (fun v => ∃ (n1 : Int) (s1 : List UInt8) (x1 y1 z1 : Int) (v1 : AVal), v = .agg [iv n1, .str s1, iv x1, iv y1, iv z1, v1] ∧ True ∧ ∃ H1, stC H' (.ptr i 0) [iv n1, .str s1, iv x1, iv y1, iv z1, v1] = some H1 ∧ True ∧
   ∃ (n1 : Int) (s1 : List UInt8) (x1 y1 z1 : Int) (v1 : AVal), ldN H1 6 (.ptr i 0) = some (.agg [iv n1, .str s1, iv x1, iv y1, iv z1, v1]) ∧ K (.ret (.agg [iv n1, .str s1, iv x1, iv y1, iv z1, v1])) H1 nx') fun l => pK l H' nx' := by
 refine node_call (C := Cb.add i) hk hv hK fun H6 nx6 h6 hk6 hn6 hw6 hK6 => ⟨_, _, _, _, _, _, rfl, trivial, ?_⟩
 obtain ⟨H7, q1, q2⟩ := fin6 hk6 hr hi h0 hrex hw6 hn6 e hK6
 exact ⟨H7, q1, trivial, q2⟩
theorem node_finD (hk : HZ Z Γ H nx) (hr : Rd Γ (Cb.add i) b (d + 1)) (hi : Res Γ Cb i) (h0 : Γ0 i = none ∧ n0 ≤ i) (hrex : Cb.ex Cb.r) (hv : KidsV (Cb.add i).ex Γ v ts) (e : res = .ok (Ps.mk t kk s ts, b)) (hK : Owe Z K Γ0 n0 Γ nx Cb d res (NodeV Cb.ex)) :
  TriP PG f_p_node [tokV t, iv kk, .str s, v] H nx fun e H' nx' => onEnd e (fun v => ∃ (n1 : Int) (s1 : List UInt8) (x1 y1 z1 : Int) (v1 : AVal), v = .agg [iv n1, .str s1, iv x1, iv y1, iv z1, v1] ∧ ∃ H1, stC H' (.ptr i 0) [iv n1, .str s1, iv x1, iv y1, iv z1, v1] = some H1 ∧
   lvcSem PG (TriDP PG) [.cell (.ptr i 0) t_node] [(f_rd_leave, [.ptr Cb.r 0])] .returning H1 nx' fun e H' nx' => K e H' nx') fun l => pK l H' nx' := by
 refine node_call (C := Cb.add i) hk hv hK fun H6 nx6 h6 hk6 hn6 hw6 hK6 => ⟨_, _, _, _, _, _, rfl, ?_⟩
 exact fin6d hk6 hr hi h0 hrex hw6 hn6 e hK6
theorem node_finTD (hk : HZ Z Γ H nx) (hr : Rd Γ (Cb.add i) b (d + 1)) (hi : Res Γ Cb i) (h0 : Γ0 i = none ∧ n0 ≤ i) (hrex : Cb.ex Cb.r) (hv : KidsV (Cb.add i).ex Γ v ts) (e : res = .ok (Ps.mk t kk s ts, b)) (hK : Owe Z K Γ0 n0 Γ nx Cb d res (NodeV Cb.ex)) :
  TriP PG f_p_node [tokV t, iv kk, .str s, v] H nx fun e H' nx' => onEnd e (fun v => ∃ (n1 : Int) (s1 : List UInt8) (x1 y1 z1 : Int) (v1 : AVal), v = .agg [iv n1, .str s1, iv x1, iv y1, iv z1, v1] ∧ True ∧ ∃ H1, stC H' (.ptr i 0) [iv n1, .str s1, iv x1, iv y1, iv z1, v1] = some H1 ∧ True ∧
   lvcSem PG (TriDP PG) [.cell (.ptr i 0) t_node] [(f_rd_leave, [.ptr Cb.r 0])] .returning H1 nx' fun e H' nx' => K e H' nx') fun l => pK l H' nx' := by
 refine node_call (C := Cb.add i) hk hv hK fun H6 nx6 h6 hk6 hn6 hw6 hK6 => ⟨_, _, _, _, _, _, rfl, trivial, ?_⟩
 obtain ⟨H7, q1, q2⟩ := fin6d hk6 hr hi h0 hrex hw6 hn6 e hK6
 exact ⟨H7, q1, trivial, q2⟩
theorem mk_cells {ex : Nat → Prop} {Γ : GH} {kk n li co : Int} {s : List UInt8} {w : AVal} {t : Tree} (h : NodeC ex Γ [iv kk, .str s, iv n, iv li, iv co, w] t) : cellv w = true := by
 cases h with
 | mk cs hs hk => exact KidsV.cell ⟨cs, hs, hk⟩
end
section
variable {Γ : GH} {H : Heap} {nx a d n : Nat} {C : RC} {K : EndP} {res : Except Flt (Tree × Nat)}
theorem method_ok (W : Toks C.l) (ih : IH C.l C.r C.tb n) (hd : d ≤ 40) (hrun : Ps.run C.l (n + 1) .method d a = some res) (hk : HZ Z Γ H nx) (hr : Rd Γ C a d) (hK : Meets Z K Γ nx C d res (NodeV C.ex)) : TriP PG f_rd_method [.ptr C.r 0] H nx K := by
 refine TriP.of_body mixed ?_
 rw [Frd_method_eq]
 unfold Frd_method
 simp only [Ps.run] at hrun
 have hrex := hr.rex
 refine begin6 hk hr hK fun Γ H hk hr hi hf hK kp => ?_
 refine name_call (C := C.add nx) W hrun hk hr hK rfl .id (fun _ h => h) fun Γ H m hkd hrun h hk kp hr hK => ⟨_, _, _, _, _, rfl, ?_⟩
 replace hi := hi.keep kp
 refine tokIn (C := C.add nx) hk hr hK rfl fun Γ H hk hr ht kp hK => ?_
 replace hi := hi.keep kp
 refine row_call (C := C.add nx) W (adv1 rfl) to_typ (ih.typ d hd) hrun hk hr hK rfl .id (fun _ h => h) fun ts b v Γ H m' erow hrun h hk kp hv hr hK => ?_
 replace hi := hi.keep kp; replace ht := ht.keep kp
 refine ⟨_, _, _, _, _, ht.tok hk, _, rfl, _, ht.ld hk 1, ⟨⟨_, _, _, _, _, ht.tok hk, rfl⟩, ⟨_, ht.ld hk 1, rfl⟩, trivial⟩, ?_⟩
 have hlen := row_len (adv1 (by rfl)) erow
 have hlt : b < C.l.length := hr.lt
 have hW := W.few
 obtain ⟨hk', hni⟩ := reserve (i := m' + 5) (nx' := m' + 10) hk (by omega) (by omega)
 refine rule_call (one := resOne C.l n d) (C := C.add nx) (fun Z ex res Γ H nx K h1 h2 h3 h4 => result_ok (C := ⟨C.r, C.tb, C.l, ex⟩) W ih hd h1 h2 h3 h4) hrun hk' hr (hK.from (by omega) (.refl _ _ _)) rfl .id rz_in fun t c kk s n li co w Γ H m'' e1 hrun h hk kp hw hn hr hK => ⟨_, _, _, _, _, _, rfl, ?_⟩
 replace hi := hi.keep kp; replace ht := ht.keep kp; replace hv := hv.keep hr.rex kp
 refine blkTake (C := C.add nx) hk hni hr hK rfl (by omega) fun Γ H hk hr hb hx kp hK => ?_
 replace hi := hi.keep kp; replace ht := ht.keep kp; replace hv := hv.keep hr.rex kp; replace hn := hn.keep hr.rex kp
 refine ⟨⟨⟨_, _, _, _, _, ht.tok hk, rfl⟩, ⟨_, ht.ld hk 1, rfl⟩, trivial⟩, ?_⟩
 refine appK (C := C.add nx) hk hr hb.e hx hn.one (by simp) hv (by simp; omega) rfl fun w Γ H m3 h hk kp hr hv => ?_
 replace hi := hi.keep kp; replace ht := ht.keep kp; replace hK := hK.from h kp
 refine ⟨⟨⟨_, _, _, _, _, ht.tok hk, rfl⟩, ⟨_, ht.ld hk 1, rfl⟩, trivial⟩, ?_⟩
 cases hrun
 exact node_finT hk hr hi hf hrex hv rfl hK
end
end
end Go.Vs
end
section
namespace Go.Vs
open Go.Proofs
variable [GTab] {Z : Nat → Prop}
noncomputable section
section
variable {Γ : GH} {H : Heap} {nx a d n : Nat} {C : RC} {K : EndP} {res : Except Flt (Tree × Nat)}
theorem simple_ok (W : Toks C.l) (ih : IH C.l C.r C.tb n) (hd : d ≤ 40)
  (hrun : (Rs.bind (Ps.run C.l n .expr d a) fun (e, b) => if Ps.is C.l b [58, 61] then Rs.bind (Ps.run C.l n .expr d (b + 1)) fun (y, c) => Rs.ok (Ps.mk (Ps.tk C.l b) 12 [] [e, y], c)
    else if Ps.is C.l b [61] then Rs.bind (Ps.run C.l n .expr d (b + 1)) fun (y, c) => Rs.ok (Ps.mk (Ps.tk C.l b) 13 [] [e, y], c)
    else Rs.ok (Ps.mk (Ps.tk C.l a) 19 [] [e], b)) = some res)
  (hk : HZ Z Γ H nx) (hr : Rd Γ C a d) (hK : Meets Z K Γ nx C d res (NodeV C.ex)) : TriP PG f_rd_simple [.ptr C.r 0] H nx K := by
 refine TriP.of_body mixed ?_
 rw [Frd_simple_eq]
 unfold Frd_simple
 have hrex := hr.rex
 refine begin6 hk hr hK fun Γ H hk hr hi hf hK kp => ?_
 refine now_call (C := C.add nx) hk hr hK fun H m1 h hk hK => ⟨_, _, _, _, _, rfl, ?_⟩
 refine tokIn (C := C.add nx) hk hr hK rfl fun Γ H hk hr ht kp hK => ?_
 replace hi := hi.keep kp
 refine rule_call (C := C.add nx) (fun Z ex res Γ H nx K h => ih.expr d hd Z ex a res Γ H nx K h) hrun hk hr hK rfl .id (fun _ h => h) fun t c kk s n1 li co w Γ H m2 e1 hrun h hk kp hw hn hr hK => ⟨_, _, _, _, _, _, rfl, ?_⟩
 replace hi := hi.keep kp; replace ht := ht.keep kp
 refine nodeIn (C := C.add nx) hk hr hw hK rfl fun Γ H hk hr hb kp hK => ?_
 replace hi := hi.keep kp; replace ht := ht.keep kp; replace hn := hn.keep hr.rex kp
 refine now_call (C := C.add nx) hk hr hK fun H m3 h hk hK => ⟨_, _, _, _, _, rfl, ?_⟩
 refine tokIn (C := C.add nx) hk hr hK rfl fun Γ H hk hr ht2 kp hK => ?_
 replace hi := hi.keep kp; replace ht := ht.keep kp; replace hb := hb.keep kp; replace hn := hn.keep hr.rex kp
 refine has_call (C := C.add nx) W hrun hk hr hK rfl (fun _ h => h) (fun Γ H m4 his hrun h hk kp hr hK => ⟨_, rfl, ifB_t rfl ?_⟩) (fun H m4 his hrun h hk hK => ⟨_, rfl, ifB_f rfl ?_⟩)
 ·replace hi := hi.keep kp; replace ht := ht.keep kp; replace ht2 := ht2.keep kp; replace hb := hb.keep kp; replace hn := hn.keep hr.rex kp
  refine ⟨_, _, _, _, _, ht2.tok hk, _, _, _, _, _, _, ldAll hk hb.e rfl, ⟨⟨_, _, _, _, _, ht2.tok hk, rfl⟩, ⟨_, _, _, _, _, _, ldAll hk hb.e rfl, rfl⟩, trivial⟩, ?_⟩
  obtain ⟨hk', hni⟩ := reserve (i := m4 + 4) (nx' := m4 + 7) hk (by omega) (by omega)
  refine rule_call (C := C.add nx) (fun Z ex res Γ H nx K h => ih.expr d hd Z ex _ res Γ H nx K h) hrun hk' hr (hK.from (by omega) (.refl _ _ _)) rfl .id rz_in fun t c2 kk2 s2 n2 li2 co2 w2 Γ H m5 e2 hrun h hk kp hw2 hn2 hr hK => ⟨_, _, _, _, _, _, rfl, ?_⟩
  replace hi := hi.keep kp; replace ht := ht.keep kp; replace ht2 := ht2.keep kp; replace hb := hb.keep kp; replace hn := hn.keep hr.rex kp
  refine blkTake (C := C.add nx) hk hni hr hK rfl (by omega) fun Γ H hk hr hb2 hx kp hK => ?_
  replace hi := hi.keep kp; replace ht := ht.keep kp; replace ht2 := ht2.keep kp; replace hb := hb.keep kp; replace hn := hn.keep hr.rex kp; replace hn2 := hn2.keep hr.rex kp
  refine ⟨⟨⟨_, _, _, _, _, ht2.tok hk, rfl⟩, ⟨_, _, _, _, _, _, ldAll hk hb.e rfl, rfl⟩, trivial⟩, ?_⟩
  cases hrun
  exact node_finT hk hr hi hf hrex (.blk hx hb2.e (.cons hn hn2.one) rfl) rfl hK
 refine has_call (C := C.add nx) W hrun hk hr hK rfl (fun _ h => h) (fun Γ H m4 his hrun h hk kp hr hK => ⟨_, rfl, ifB_t rfl ?_⟩) (fun H m4 his hrun h hk hK => ⟨_, rfl, ifB_f rfl ?_⟩)
 ·replace hi := hi.keep kp; replace ht := ht.keep kp; replace ht2 := ht2.keep kp; replace hb := hb.keep kp; replace hn := hn.keep hr.rex kp
  refine ⟨_, _, _, _, _, ht2.tok hk, _, _, _, _, _, _, ldAll hk hb.e rfl, ⟨⟨_, _, _, _, _, ht2.tok hk, rfl⟩, ⟨_, _, _, _, _, _, ldAll hk hb.e rfl, rfl⟩, trivial⟩, ?_⟩
  obtain ⟨hk', hni⟩ := reserve (i := m4 + 4) (nx' := m4 + 7) hk (by omega) (by omega)
  refine rule_call (C := C.add nx) (fun Z ex res Γ H nx K h => ih.expr d hd Z ex _ res Γ H nx K h) hrun hk' hr (hK.from (by omega) (.refl _ _ _)) rfl .id rz_in fun t c2 kk2 s2 n2 li2 co2 w2 Γ H m5 e2 hrun h hk kp hw2 hn2 hr hK => ⟨_, _, _, _, _, _, rfl, ?_⟩
  replace hi := hi.keep kp; replace ht := ht.keep kp; replace ht2 := ht2.keep kp; replace hb := hb.keep kp; replace hn := hn.keep hr.rex kp
  refine blkTake (C := C.add nx) hk hni hr hK rfl (by omega) fun Γ H hk hr hb2 hx kp hK => ?_
  replace hi := hi.keep kp; replace ht := ht.keep kp; replace ht2 := ht2.keep kp; replace hb := hb.keep kp; replace hn := hn.keep hr.rex kp; replace hn2 := hn2.keep hr.rex kp
  refine ⟨⟨⟨_, _, _, _, _, ht2.tok hk, rfl⟩, ⟨_, _, _, _, _, _, ldAll hk hb.e rfl, rfl⟩, trivial⟩, ?_⟩
  cases hrun
  exact node_finT hk hr hi hf hrex (.blk hx hb2.e (.cons hn hn2.one) rfl) rfl hK
 refine ⟨_, _, _, _, _, ht.tok hk, _, _, _, _, _, _, ldAll hk hb.e rfl, ?_⟩
 refine blkIn (nx' := m4 + 1) (C := C.add nx) hk (Nat.le_refl _) (by omega) hr hK rfl fun Γ H hk hr hb2 hx kp hK => ?_
 replace hi := hi.keep kp; replace hn := hn.keep hr.rex kp
 cases hrun
 exact node_fin hk hr hi hf hrex (.blk hx hb2.e hn.one rfl) rfl hK
end
end
end Go.Vs
end
section
namespace Go.Vs
open Go.Proofs
variable [GTab] {Z : Nat → Prop}
noncomputable section
section
variable {ex ex' : Nat → Prop} {Γ Γ' : GH}
mutual
theorem NodeC.via (hk : ∀ b cs, hide ex Γ b = some cs → hide ex' Γ' b = some cs) : ∀ {c : List AVal} {t : Tree}, NodeC ex Γ c t → NodeC ex' Γ' c t
 | _, _, .mk cs hs h => .mk cs (hs.mono hk) (KidsC.via hk h)
theorem KidsC.via (hk : ∀ b cs, hide ex Γ b = some cs → hide ex' Γ' b = some cs) : ∀ {c : List AVal} {t : List Tree}, KidsC ex Γ c t → KidsC ex' Γ' c t
 | _, _, .nil => .nil
 | _, _, .cons h hl => .cons (NodeC.via hk h) (KidsC.via hk hl)
end
end
theorem NodeC.raise {C : RC} {Γ : GH} {i : Nat} {c : List AVal} {t : Tree} (hi : Γ i = none) (h : NodeC C.ex Γ c t) : NodeC (C.add i).ex Γ c t := h.via fun b cs e => by
 by_cases hb : C.ex b
 ·rw [hide_ex hb] at e; cases e
 ·rw [hide_not hb] at e
  rw [hide_not fun x => x.elim (fun x => by rw [x, hi] at e; cases e) hb]
  exact e
theorem Res.set {C : RC} {Γ : GH} {i nx : Nat} {cs : Option (List AVal)} (h : Res Γ C nx) (hne : nx ≠ i) : Res (gup i cs Γ) C nx := ⟨let ⟨ds, e, l⟩ := h.e; ⟨ds, (gup_ne hne).trans e, l⟩, h.nr, h.nt⟩
theorem At.set {Γ : GH} {r i j : Nat} {cs : List AVal} {ds : Option (List AVal)} (h : At Γ r i cs) (hne : i ≠ j) : At (gup j ds Γ) r i cs := ⟨(gup_ne hne).trans h.e, h.ne⟩
theorem At.same {Γ : GH} {r i : Nat} {cs ds : List AVal} (h : At Γ r i cs) : At (gup i (some ds) Γ) r i ds := ⟨gup_same _ _ _, h.ne⟩
theorem NodeC.set {C : RC} {Γ : GH} {i : Nat} {cs : Option (List AVal)} {c : List AVal} {t : Tree} (h : NodeC (C.add i).ex Γ c t) : NodeC (C.add i).ex (gup i cs Γ) c t := h.mono (fun _ h => h) fun b ds hb e => (gup_ne fun x => hb (.inl x)).trans e
section
variable {Γ0 Γ : GH} {n0 : Nat} {H : Heap} {nx a d n : Nat} {C : RC} {K : EndP} {res : Except Flt (Tree × Nat)}
theorem Owe.none {β : Type} {V : GH → AVal → β → Prop} {res : Except Flt (β × Nat)} {i : Nat} (h : Owe Z K Γ0 n0 Γ nx C d res V) (hi : Γ i = none) (hr : i ≠ C.r) : Γ0 i = Option.none := by
 cases e : Γ0 i with
 | none => rfl
 | some cs => have := h.2.1.1 i cs hr e; rw [hi] at this; cases this
theorem ifs_ok (W : Toks C.l) (ih : IH C.l C.r C.tb n) (hd : d ≤ 40) (hrun : Ps.run C.l (n + 1) .ifs d a = some res) (hk : HZ Z Γ H nx) (hr : Rd Γ C a d) (hK : Meets Z K Γ nx C d res (NodeV C.ex)) : TriP PG f_rd_ifs [.ptr C.r 0] H nx K := by
 refine TriP.of_body mixed ?_
 rw [Frd_ifs_eq]
 unfold Frd_ifs
 simp only [Ps.run] at hrun
 have hrex := hr.rex
 refine begin6 hk hr hK fun Γ H hk hr hi hf hK kp => ?_
 refine need_call (C := C.add nx) W hrun hk hr hK rfl .id (fun _ h => h) fun Γ H m1 his hrun h hk kp hr hK => ⟨_, _, _, _, _, rfl, ?_⟩
 replace hi := hi.keep kp
 refine tokIn (C := C.add nx) hk hr hK rfl fun Γ H hk hr ht kp hK => ?_
 replace hi := hi.keep kp
 refine rule_call (C := C.add nx) (fun Z ex res Γ H nx K h => ih.expr d hd Z ex _ res Γ H nx K h) hrun hk hr hK rfl .id (fun _ h => h) fun t1 c1 kk1 s1 n1 li1 co1 w1 Γ H m2 e1 hrun h hk kp hw1 hn1 hr hK => ⟨_, _, _, _, _, _, rfl, ?_⟩
 replace hi := hi.keep kp; replace ht := ht.keep kp
 refine nodeIn (C := C.add nx) hk hr hw1 hK rfl fun Γ H hk hr hb1 kp hK => ?_
 replace hi := hi.keep kp; replace ht := ht.keep kp; replace hn1 := hn1.keep hr.rex kp
 refine rule_call (C := C.add nx) (fun Z ex res Γ H nx K h => ih.block d hd Z ex _ res Γ H nx K h) hrun hk hr hK rfl .id (fun _ h => h) fun t2 c2 kk2 s2 n2 li2 co2 w2 Γ H m3 e2 hrun h hk kp hw2 hn2 hr hK => ⟨_, _, _, _, _, _, rfl, ?_⟩
 replace hi := hi.keep kp; replace ht := ht.keep kp; replace hb1 := hb1.keep kp; replace hn1 := hn1.keep hr.rex kp
 refine nodeIn (C := C.add nx) hk hr hw2 hK rfl fun Γ H hk hr hb2 kp hK => ?_
 replace hi := hi.keep kp; replace ht := ht.keep kp; replace hb1 := hb1.keep kp; replace hn1 := hn1.keep hr.rex kp; replace hn2 := hn2.keep hr.rex kp
 refine none_call (C := C.add nx) hk hK fun H m4 h hk hn3 hK => ⟨_, _, _, _, _, _, rfl, ?_⟩
 have hm4 := hk.fresh (Nat.le_refl m4)
 have hm0 := hK.none hm4 (hr.r_ne hm4)
 have hm3 := hr.tb_ne hm4
 replace hn1 := hn1.raise hm4; replace hn2 := hn2.raise hm4; replace hn3 := hn3.raise hm4
 refine nodeIn (C := C.add nx) hk hr rfl hK rfl fun Γ H hk hr hb3 kp hK => ?_
 replace hr : Rd Γ ((C.add nx).add m4) _ d := hr.add (by rw [hb3.e]; simp)
 replace hi := hi.keep kp; replace ht := ht.keep kp; replace hb1 := hb1.keep kp; replace hb2 := hb2.keep kp; replace hn1 := hn1.keep hr.rex kp; replace hn2 := hn2.keep hr.rex kp; replace hn3 := hn3.keep hr.rex kp
 refine has_call (C := (C.add nx).add m4) W hrun hk hr hK rfl (fun _ h => h) (fun Γ H m5 his hrun h hk kp hr hK => ⟨_, rfl, ifB_t rfl ?_⟩) (fun H m5 his hrun h hk hK => ⟨_, rfl, ifB_f rfl ?_⟩)
 ·replace hi := hi.keep kp; replace ht := ht.keep kp; replace hb1 := hb1.keep kp; replace hb2 := hb2.keep kp; replace hb3 := hb3.keep kp; replace hn1 := hn1.keep hr.rex kp; replace hn2 := hn2.keep hr.rex kp; replace hn3 := hn3.keep hr.rex kp
  refine is_call (C := (C.add nx).add m4) hk hr hK fun H m6 h hk hK => ⟨_, rfl, ifB_iff.2 ⟨fun h1 => ?_, fun h1 => ?_⟩⟩
  ·replace hrun := (if_pos (show Ps.is C.l _ Ps.wIf = true from h1)).symm.trans hrun
   refine rule_call (one := Ps.run C.l n .ifs d) (C := (C.add nx).add m4) (fun Z ex res Γ H nx K h h2 h3 h4 => nested_ok (C := ⟨C.r, C.tb, C.l, ex⟩) ih hd h h2 h3 h4) hrun hk hr hK rfl .id (fun _ h => h) fun t c kk s n li co w Γ H m7 e3 hrun h hk kp hw hn hr hK => ⟨_, _, _, _, _, _, rfl, ?_⟩
   replace hi := hi.keep kp; replace ht := ht.keep kp; replace hb1 := hb1.keep kp; replace hb2 := hb2.keep kp; replace hb3 := hb3.keep kp; replace hn1 := hn1.keep hr.rex kp; replace hn2 := hn2.keep hr.rex kp
   refine stAll hk hb3.e rfl (by simp only [allCell, hw]; rfl) fun H hk => ?_
   replace hK := hK.upd (i := m4) (cs := some [iv kk, .str s, iv n, iv li, iv co, w]) hm0 (by omega)
   replace hr := hr.upd (cs := [iv kk, .str s, iv n, iv li, iv co, w]) (b := m4) hb3.ne hm3
   replace hi := hi.set (i := m4) (cs := some [iv kk, .str s, iv n, iv li, iv co, w]) (by omega)
   replace ht := ht.set (j := m4) (ds := some [iv kk, .str s, iv n, iv li, iv co, w]) (by omega)
   replace hb1 := hb1.set (j := m4) (ds := some [iv kk, .str s, iv n, iv li, iv co, w]) (by omega)
   replace hb2 := hb2.set (j := m4) (ds := some [iv kk, .str s, iv n, iv li, iv co, w]) (by omega)
   replace hb3 := hb3.same (ds := [iv kk, .str s, iv n, iv li, iv co, w])
   replace hn1 := hn1.set (cs := some [iv kk, .str s, iv n, iv li, iv co, w])
   replace hn2 := hn2.set (cs := some [iv kk, .str s, iv n, iv li, iv co, w])
   have hn3 := hn.set (cs := some [iv kk, .str s, iv n, iv li, iv co, w])
   refine ⟨_, _, _, _, _, ht.tok hk, _, _, _, _, _, _, ldAll hk hb1.e rfl, _, _, _, _, _, _, ldAll hk hb2.e rfl, _, _, _, _, _, _, ldAll hk hb3.e rfl, ?_⟩
   refine blkIn (nx' := m7 + 1) (C := (C.add nx).add m4) hk (Nat.le_refl _) (by omega) hr hK rfl fun Γ H hk hr hb hx kp hK => ?_
   replace hi := hi.keep kp; replace hn1 := hn1.keep hr.rex kp; replace hn2 := hn2.keep hr.rex kp; replace hn3 := hn3.keep hr.rex kp
   cases hrun
   exact node_fin hk (hr.less (.inr hrex)) hi hf hrex ((KidsV.blk (n := 3) hx hb.e (.cons hn1 (.cons hn2 hn3.one)) rfl).mono (fun _ h => .inr h) fun _ _ _ h => h) rfl hK
  ·replace hrun := (if_neg (show ¬ Ps.is C.l _ Ps.wIf = true by rw [show Ps.is C.l _ Ps.wIf = false from h1]; simp)).symm.trans hrun
   refine is_call (C := (C.add nx).add m4) hk hr hK fun H m7 h hk hK => ⟨_, rfl, ifB_iff.2 ⟨fun h1 => ?_, fun h1 => ?_⟩⟩
   ·replace hrun := (if_pos (show Ps.is C.l _ [123] = true from h1)).symm.trans hrun
    refine rule_call (C := (C.add nx).add m4) (fun Z ex res Γ H nx K h => ih.block d hd Z ex _ res Γ H nx K h) hrun hk hr hK rfl .id (fun _ h => h) fun t c kk s n li co w Γ H m8 e3 hrun h hk kp hw hn hr hK => ⟨_, _, _, _, _, _, rfl, ?_⟩
    replace hi := hi.keep kp; replace ht := ht.keep kp; replace hb1 := hb1.keep kp; replace hb2 := hb2.keep kp; replace hb3 := hb3.keep kp; replace hn1 := hn1.keep hr.rex kp; replace hn2 := hn2.keep hr.rex kp
    refine stAll hk hb3.e rfl (by simp only [allCell, hw]; rfl) fun H hk => ?_
    replace hK := hK.upd (i := m4) (cs := some [iv kk, .str s, iv n, iv li, iv co, w]) hm0 (by omega)
    replace hr := hr.upd (cs := [iv kk, .str s, iv n, iv li, iv co, w]) (b := m4) hb3.ne hm3
    replace hi := hi.set (i := m4) (cs := some [iv kk, .str s, iv n, iv li, iv co, w]) (by omega)
    replace ht := ht.set (j := m4) (ds := some [iv kk, .str s, iv n, iv li, iv co, w]) (by omega)
    replace hb1 := hb1.set (j := m4) (ds := some [iv kk, .str s, iv n, iv li, iv co, w]) (by omega)
    replace hb2 := hb2.set (j := m4) (ds := some [iv kk, .str s, iv n, iv li, iv co, w]) (by omega)
    replace hb3 := hb3.same (ds := [iv kk, .str s, iv n, iv li, iv co, w])
    replace hn1 := hn1.set (cs := some [iv kk, .str s, iv n, iv li, iv co, w])
    replace hn2 := hn2.set (cs := some [iv kk, .str s, iv n, iv li, iv co, w])
    have hn3 := hn.set (cs := some [iv kk, .str s, iv n, iv li, iv co, w])
    refine ⟨_, _, _, _, _, ht.tok hk, _, _, _, _, _, _, ldAll hk hb1.e rfl, _, _, _, _, _, _, ldAll hk hb2.e rfl, _, _, _, _, _, _, ldAll hk hb3.e rfl, ?_⟩
    refine blkIn (nx' := m8 + 1) (C := (C.add nx).add m4) hk (Nat.le_refl _) (by omega) hr hK rfl fun Γ H hk hr hb hx kp hK => ?_
    replace hi := hi.keep kp; replace hn1 := hn1.keep hr.rex kp; replace hn2 := hn2.keep hr.rex kp; replace hn3 := hn3.keep hr.rex kp
    cases hrun
    exact node_fin hk (hr.less (.inr hrex)) hi hf hrex ((KidsV.blk (n := 3) hx hb.e (.cons hn1 (.cons hn2 hn3.one)) rfl).mono (fun _ h => .inr h) fun _ _ _ h => h) rfl hK
   ·replace hrun := (if_neg (show ¬ Ps.is C.l _ [123] = true by rw [show Ps.is C.l _ [123] = false from h1]; simp)).symm.trans hrun
    cases hrun
    exact fault_ok (C := (C.add nx).add m4) hk hr fun H nx2 h2 hk => onEnd_pan.2 ((hK.from h2 (.refl _ _ _)).pan rfl hk hr.p)
 ·refine ⟨_, _, _, _, _, ht.tok hk, _, _, _, _, _, _, ldAll hk hb1.e rfl, _, _, _, _, _, _, ldAll hk hb2.e rfl, _, _, _, _, _, _, ldAll hk hb3.e rfl, ?_⟩
  refine blkIn (nx' := m5 + 1) (C := (C.add nx).add m4) hk (Nat.le_refl _) (by omega) hr hK rfl fun Γ H hk hr hb hx kp hK => ?_
  replace hi := hi.keep kp; replace hn1 := hn1.keep hr.rex kp; replace hn2 := hn2.keep hr.rex kp; replace hn3 := hn3.keep hr.rex kp
  cases hrun
  exact node_fin hk (hr.less (.inr hrex)) hi hf hrex ((KidsV.blk (n := 3) hx hb.e (.cons hn1 (.cons hn2 hn3.one)) rfl).mono (fun _ h => .inr h) fun _ _ _ h => h) rfl hK
theorem typeDecl_ok (W : Toks C.l) (ih : IH C.l C.r C.tb n) (hrun : Ps.typeDecl C.l n a = some res) (hk : HZ Z Γ H nx) (hr : Rd Γ C a 0) (hK : Meets Z K Γ nx C 0 res (NodeV C.ex)) : TriP PG f_rd_typeDecl [.ptr C.r 0] H nx K := by
 refine TriP.of_body mixed ?_
 rw [Frd_typeDecl_eq]
 unfold Frd_typeDecl
 unfold Ps.typeDecl at hrun
 have hrex := hr.rex
 refine begin6 hk hr hK fun Γ H hk hr hi hf hK kp => ?_
 refine need_call (C := C.add nx) W hrun hk hr hK rfl .id (fun _ h => h) fun Γ H m1 his hrun h hk kp hr hK => ⟨_, _, _, _, _, rfl, ?_⟩
 replace hi := hi.keep kp
 refine tokIn (C := C.add nx) hk hr hK rfl fun Γ H hk hr ht kp hK => ?_
 replace hi := hi.keep kp
 refine name_call (C := C.add nx) W hrun hk hr hK rfl .id (fun _ h => h) fun Γ H m2 hkd hrun h hk kp hr hK => ⟨_, _, _, _, _, rfl, ?_⟩
 replace hi := hi.keep kp; replace ht := ht.keep kp
 refine has_call (C := C.add nx) W hrun hk hr hK rfl (fun _ h => h) (fun Γ H m3 his hrun h hk kp hr hK => ⟨_, rfl, ifB_t rfl ?_⟩) (fun H m3 his hrun h hk hK => ⟨_, rfl, ifB_f rfl ?_⟩)
 ·replace hi := hi.keep kp; replace ht := ht.keep kp
  refine ⟨_, _, _, _, _, ht.tok hk, ⟨⟨_, _, _, _, _, ht.tok hk, rfl⟩, trivial⟩, ?_⟩
  refine list_call (C := C.add nx) W (adv1 rfl) to_method (ih.method 0 (by omega)) hrun (hk.more (by omega)) hr (hK.from (by omega) (.refl _ _ _)) rfl .id (fun _ h => h) fun ts b v Γ H m4 hrun h hk kp hv hr hK => ?_
  replace hi := hi.keep kp; replace ht := ht.keep kp
  cases hrun
  exact ⟨⟨⟨_, _, _, _, _, ht.tok hk, rfl⟩, trivial⟩, node_finT hk hr hi hf hrex hv rfl hK⟩
 ·refine need_call (C := C.add nx) W hrun hk hr hK rfl .id (fun _ h => h) fun Γ H m4 his hrun h hk kp hr hK => ⟨_, _, _, _, _, rfl, ?_⟩
  replace hi := hi.keep kp; replace ht := ht.keep kp
  refine ⟨_, _, _, _, _, ht.tok hk, ⟨⟨_, _, _, _, _, ht.tok hk, rfl⟩, trivial⟩, ?_⟩
  refine list_call (C := C.add nx) W (adv1 rfl) to_field (ih.field 0 (by omega)) hrun (hk.more (by omega)) hr (hK.from (by omega) (.refl _ _ _)) rfl .id (fun _ h => h) fun ts b v Γ H m5 hrun h hk kp hv hr hK => ?_
  replace hi := hi.keep kp; replace ht := ht.keep kp
  cases hrun
  exact ⟨⟨⟨_, _, _, _, _, ht.tok hk, rfl⟩, trivial⟩, node_finT hk hr hi hf hrex hv rfl hK⟩
end
end
end Go.Vs
end
section
namespace Go.Vs
open Go.Proofs
variable [GTab] {Z : Nat → Prop}
noncomputable section
section
variable {Γ0 Γ : GH} {n0 : Nat} {H : Heap} {nx a d n i : Nat} {C : RC} {K : EndP} {res : Except Flt (Tree × Nat)}
theorem stmt_ok (W : Toks C.l) (ih : IH C.l C.r C.tb n) (hd : d ≤ 40) (hrun : Ps.run C.l (n + 1) .stmt d a = some res) (hk : HZ Z Γ H nx) (hr : Rd Γ C a d) (hK : Meets Z K Γ nx C d res (NodeV C.ex)) : TriP PG f_rd_stmt [.ptr C.r 0] H nx K := by
 refine TriP.of_body mixed ?_
 rw [Frd_stmt_eq]
 unfold Frd_stmt
 simp only [Ps.run] at hrun
 have hrex := hr.rex
 refine begin6 hk hr hK fun Γ H hk hr hi hf hK kp => ?_
 refine enter_ok (C := C.add nx) hk hr hd (fun hd1 Γ H m0 h hk kp hr => onEnd_pan.2 ?_) (fun hd1 Γ H m0 h hk kp hr => onEnd_ret.2 ?_)
 ·rw [if_pos hd1] at hrun
  cases hrun
  exact (hK.from h kp).pan rfl hk hr.p
 rw [if_neg hd1] at hrun
 replace hd1 : d + 1 ≤ 40 := by omega
 replace hK := hK.from h kp
 replace hi := hi.keep kp
 refine now_call (C := (C.add nx)) hk hr hK fun H m1_10 h hk hK => ⟨_, _, _, _, _, rfl, ?_⟩
 refine tokIn (C := (C.add nx)) hk hr hK rfl fun Γ H hk hr ht kp hK => ?_
 replace hi := hi.keep kp
 refine is_call (C := (C.add nx)) (s := [123]) hk hr hK fun H m2_13 h hk hK => ⟨_, rfl, ifB_iff.2 ⟨fun h1 => ?_, fun h1 => ?_⟩⟩
 ·
  replace hrun := (if_pos (show Ps.is C.l _ [123] = true by simpa using h1)).symm.trans hrun
  refine rule_last (C := (C.add nx)) (fun Z ex res Γ H nx K h => ih.block (d + 1) hd1 Z ex _ res Γ H nx K h) hrun hk hr hK rfl .lv (fun _ h => h) fun t c kk s n1 li co w Γ H m9 e3 e4 h hk kp hw hn hr hK => ⟨_, _, _, _, _, _, rfl, ?_⟩
  replace hi := hi.keep kp; replace ht := ht.keep kp
  exact fin6d hk hr hi hf hrex hw hn e4 hK
 ·
  replace hrun := (if_neg (show ¬ Ps.is C.l _ [123] = true by simpa using h1)).symm.trans hrun
  refine has_call (C := (C.add nx)) W hrun hk hr hK rfl (fun _ h => h) (fun Γ H m3_21 his hrun h hk kp hr hK => ⟨_, rfl, ifB_t rfl ?_⟩) (fun H m3_21 his hrun h hk hK => ⟨_, rfl, ifB_f rfl ?_⟩)
  ·
   replace hi := hi.keep kp; replace ht := ht.keep kp
   refine name_call (C := (C.add nx)) W hrun hk hr hK rfl .lv (fun _ h => h) fun Γ H m4_24 hkd hrun h hk kp hr hK => ⟨_, _, _, _, _, rfl, ?_⟩
   replace hi := hi.keep kp; replace ht := ht.keep kp
   refine rule_call (C := (C.add nx)) (fun Z ex res Γ H nx K h => ih.typ (d + 1) hd1 Z ex _ res Γ H nx K h) hrun hk hr hK rfl .lv (fun _ h => h) fun t1 c1 kk1 s1 n1 li1 co1 w1 Γ H m5_26 e1 hrun h hk kp hw1 hn1 hr hK => ⟨_, _, _, _, _, _, rfl, ?_⟩
   replace hi := hi.keep kp; replace ht := ht.keep kp
   refine nodeIn (C := (C.add nx)) hk hr hw1 hK rfl fun Γ H hk hr hb1 kp hK => ?_
   replace hi := hi.keep kp; replace ht := ht.keep kp; replace hn1 := hn1.keep hr.rex kp
   refine ⟨_, _, _, _, _, ht.tok hk, _, _, _, _, _, _, ldAll hk hb1.e rfl, ⟨⟨_, _, _, _, _, ht.tok hk, rfl⟩, ⟨_, _, _, _, _, _, ldAll hk hb1.e rfl, rfl⟩, trivial⟩, ?_⟩
   obtain ⟨hk', hni⟩ := reserve (i := m5_26 + 1 + 5) (nx' := m5_26 + 1 + 8) hk (by omega) (by omega)
   replace hrun : Rs.bind (if Ps.is C.l c1 [61] = true then Ps.run C.l n .expr (d + 1) (c1 + 1) else Rs.ok (Ps.none_, c1)) (fun x => Rs.ok (Ps.mk (Ps.tk C.l a) 11 (Ps.tk C.l (a + 1)).text [t1, x.1], x.2)) = some res := by rw [← hrun]; dsimp only; split <;> rfl
   refine rule_call (one := fun c => if Ps.is C.l c [61] = true then Ps.run C.l n .expr (d + 1) (c + 1) else Rs.ok (Ps.none_, c)) (C := (C.add nx)) (fun Z ex res Γ H nx K h h2 h3 h4 => maybe_ok (C := ⟨C.r, C.tb, C.l, ex⟩) W ih hd1 h h2 h3 h4) hrun hk' hr (hK.from (by omega) (.refl _ _ _)) rfl .lv rz_in fun t2 c2 kk2 s2 n2 li2 co2 w2 Γ H m6_33 e2 hrun h hk kp hw2 hn2 hr hK => ⟨_, _, _, _, _, _, rfl, ?_⟩
   replace hi := hi.keep kp; replace ht := ht.keep kp; replace hn1 := hn1.keep hr.rex kp; replace hb1 := hb1.keep kp
   refine blkTake (C := (C.add nx)) hk hni hr hK rfl (by omega) fun Γ H hk hr hb hxhb kp hK => ?_
   replace hi := hi.keep kp; replace ht := ht.keep kp; replace hn1 := hn1.keep hr.rex kp; replace hb1 := hb1.keep kp; replace hn2 := hn2.keep hr.rex kp
   refine ⟨⟨⟨_, _, _, _, _, ht.tok hk, rfl⟩, ⟨_, _, _, _, _, _, ldAll hk hb1.e rfl, rfl⟩, trivial⟩, ?_⟩
   cases hrun
   exact node_finTD hk hr hi hf hrex (KidsV.blk (n := 2) hxhb hb.e (.cons hn1 hn2.one) rfl) rfl hK
  refine is_call (C := (C.add nx)) (s := Ps.wIf) hk hr hK fun H m4_40 h hk hK => ⟨_, rfl, ifB_iff.2 ⟨fun h1 => ?_, fun h1 => ?_⟩⟩
  ·
   replace hrun := (if_pos (show Ps.is C.l _ Ps.wIf = true by simpa using h1)).symm.trans hrun
   refine rule_last (C := (C.add nx)) (fun Z ex res Γ H nx K h => ih.ifs (d + 1) hd1 Z ex _ res Γ H nx K h) hrun hk hr hK rfl .lv (fun _ h => h) fun t c kk s n1 li co w Γ H m9 e3 e4 h hk kp hw hn hr hK => ⟨_, _, _, _, _, _, rfl, ?_⟩
   replace hi := hi.keep kp; replace ht := ht.keep kp
   exact fin6d hk hr hi hf hrex hw hn e4 hK
  ·
   replace hrun := (if_neg (show ¬ Ps.is C.l _ Ps.wIf = true by simpa using h1)).symm.trans hrun
   refine has_call (C := (C.add nx)) W hrun hk hr hK rfl (fun _ h => h) (fun Γ H m5_48 his hrun h hk kp hr hK => ⟨_, rfl, ifB_t rfl ?_⟩) (fun H m5_48 his hrun h hk hK => ⟨_, rfl, ifB_f rfl ?_⟩)
   ·
    replace hi := hi.keep kp; replace ht := ht.keep kp
    refine none_call (C := C.add nx) hk hK fun H mE h hk hn1 hK => ⟨_, _, _, _, _, _, rfl, ?_⟩
    have hmE := hk.fresh (Nat.le_refl mE)
    have hm0 := hK.none hmE (hr.r_ne hmE)
    have hm3 := hr.tb_ne hmE
    replace hn1 := hn1.raise hmE
    refine nodeIn (C := (C.add nx)) hk hr rfl hK rfl fun Γ H hk hr hbE kp hK => ?_
    replace hi := hi.keep kp; replace ht := ht.keep kp
    replace hr : Rd Γ ((C.add nx).add mE) _ (d + 1) := hr.add (by rw [hbE.e]; simp)
    replace hn1 := hn1.keep hr.rex kp
    refine is_call (C := ((C.add nx).add mE)) (s := [123]) hk hr hK fun H m6_60 h hk hK => ⟨_, rfl, ifB_iff.2 ⟨fun h1 => ?_, fun h1 => ?_⟩⟩
    ·
     replace hrun := (if_neg (show ¬ Ps.is C.l _ [123] = true by simpa using h1)).symm.trans hrun
     refine rule_call (C := ((C.add nx).add mE)) (fun Z ex res Γ H nx K h => ih.expr (d + 1) hd1 Z ex _ res Γ H nx K h) hrun hk hr hK rfl .lv (fun _ h => h) fun t3 c3 kk3 s3 n3 li3 co3 w3 Γ H m7_63 e3 hrun h hk kp hw3 hn3 hr hK => ⟨_, _, _, _, _, _, rfl, ?_⟩
     replace hi := hi.keep kp; replace ht := ht.keep kp; replace hbE := hbE.keep kp; replace hn1 := hn1.keep hr.rex kp
     refine stAll hk hbE.e rfl (by simp only [allCell, hw3]; rfl) fun H hk => ?_
     replace hK := hK.upd (i := mE) (cs := some [iv kk3, .str s3, iv n3, iv li3, iv co3, w3]) hm0 (by omega)
     replace hr := hr.upd (cs := [iv kk3, .str s3, iv n3, iv li3, iv co3, w3]) (b := mE) hbE.ne hm3
     replace hi := hi.set (i := mE) (cs := some [iv kk3, .str s3, iv n3, iv li3, iv co3, w3]) (by omega)
     replace ht := ht.set (j := mE) (ds := some [iv kk3, .str s3, iv n3, iv li3, iv co3, w3]) (by omega)
     replace hbE := hbE.same (ds := [iv kk3, .str s3, iv n3, iv li3, iv co3, w3])
     replace hn1 := hn3.set (cs := some [iv kk3, .str s3, iv n3, iv li3, iv co3, w3])
     refine ⟨_, _, _, _, _, ht.tok hk, _, _, _, _, _, _, ldAll hk hbE.e rfl, ⟨⟨_, _, _, _, _, ht.tok hk, rfl⟩, ⟨_, _, _, _, _, _, ldAll hk hbE.e rfl, rfl⟩, trivial⟩, ?_⟩
     obtain ⟨hk', hni⟩ := reserve (i := m7_63 + 4) (nx' := m7_63 + 7) hk (by omega) (by omega)
     refine rule_call (C := ((C.add nx).add mE)) (fun Z ex res Γ H nx K h => ih.block (d + 1) hd1 Z ex _ res Γ H nx K h) hrun hk' hr (hK.from (by omega) (.refl _ _ _)) rfl .lv rz_in fun t2 c2 kk2 s2 n2 li2 co2 w2 Γ H m8_74 e2 hrun h hk kp hw2 hn2 hr hK => ⟨_, _, _, _, _, _, rfl, ?_⟩
     replace hi := hi.keep kp; replace ht := ht.keep kp; replace hbE := hbE.keep kp; replace hn1 := hn1.keep hr.rex kp
     refine blkTake (C := ((C.add nx).add mE)) hk hni hr hK rfl (by omega) fun Γ H hk hr hb hxhb kp hK => ?_
     replace hi := hi.keep kp; replace ht := ht.keep kp; replace hbE := hbE.keep kp; replace hn1 := hn1.keep hr.rex kp; replace hn2 := hn2.keep hr.rex kp
     refine ⟨⟨⟨_, _, _, _, _, ht.tok hk, rfl⟩, ⟨_, _, _, _, _, _, ldAll hk hbE.e rfl, rfl⟩, trivial⟩, ?_⟩
     cases hrun
     exact node_finTD hk (hr.less (.inr hrex)) hi hf hrex ((KidsV.blk (n := 2) hxhb hb.e (.cons hn1 hn2.one) rfl).mono (fun _ h => .inr h) fun _ _ _ h => h) rfl hK
    ·
     replace hrun := (if_pos (show Ps.is C.l _ [123] = true by simpa using h1)).symm.trans hrun
     refine ⟨_, _, _, _, _, ht.tok hk, _, _, _, _, _, _, ldAll hk hbE.e rfl, ⟨⟨_, _, _, _, _, ht.tok hk, rfl⟩, ⟨_, _, _, _, _, _, ldAll hk hbE.e rfl, rfl⟩, trivial⟩, ?_⟩
     obtain ⟨hk', hni⟩ := reserve (i := m6_60 + 4) (nx' := m6_60 + 7) hk (by omega) (by omega)
     refine rule_call (C := ((C.add nx).add mE)) (fun Z ex res Γ H nx K h => ih.block (d + 1) hd1 Z ex _ res Γ H nx K h) hrun hk' hr (hK.from (by omega) (.refl _ _ _)) rfl .lv rz_in fun t2 c2 kk2 s2 n2 li2 co2 w2 Γ H m7_85 e2 hrun h hk kp hw2 hn2 hr hK => ⟨_, _, _, _, _, _, rfl, ?_⟩
     replace hi := hi.keep kp; replace ht := ht.keep kp; replace hbE := hbE.keep kp; replace hn1 := hn1.keep hr.rex kp
     refine blkTake (C := ((C.add nx).add mE)) hk hni hr hK rfl (by omega) fun Γ H hk hr hb hxhb kp hK => ?_
     replace hi := hi.keep kp; replace ht := ht.keep kp; replace hbE := hbE.keep kp; replace hn1 := hn1.keep hr.rex kp; replace hn2 := hn2.keep hr.rex kp
     refine ⟨⟨⟨_, _, _, _, _, ht.tok hk, rfl⟩, ⟨_, _, _, _, _, _, ldAll hk hbE.e rfl, rfl⟩, trivial⟩, ?_⟩
     cases hrun
     exact node_finTD hk (hr.less (.inr hrex)) hi hf hrex ((KidsV.blk (n := 2) hxhb hb.e (.cons hn1 hn2.one) rfl).mono (fun _ h => .inr h) fun _ _ _ h => h) rfl hK
   refine has_call (C := (C.add nx)) W hrun hk hr hK rfl (fun _ h => h) (fun Γ H m6_92 his hrun h hk kp hr hK => ⟨_, rfl, ifB_t rfl ?_⟩) (fun H m6_92 his hrun h hk hK => ⟨_, rfl, ifB_f rfl ?_⟩)
   ·
    replace hi := hi.keep kp; replace ht := ht.keep kp
    refine ⟨_, _, _, _, _, ht.tok hk, ?_⟩
    cases hrun
    exact node_finD hk hr hi hf hrex .nil rfl hK
   refine has_call (C := (C.add nx)) W hrun hk hr hK rfl (fun _ h => h) (fun Γ H m7_98 his hrun h hk kp hr hK => ⟨_, rfl, ifB_t rfl ?_⟩) (fun H m7_98 his hrun h hk hK => ⟨_, rfl, ifB_f rfl ?_⟩)
   ·
    replace hi := hi.keep kp; replace ht := ht.keep kp
    refine ⟨_, _, _, _, _, ht.tok hk, ?_⟩
    cases hrun
    exact node_finD hk hr hi hf hrex .nil rfl hK
   refine has_call (C := (C.add nx)) W hrun hk hr hK rfl (fun _ h => h) (fun Γ H m8_104 his hrun h hk kp hr hK => ⟨_, rfl, ifB_t rfl ?_⟩) (fun H m8_104 his hrun h hk hK => ⟨_, rfl, ifB_f rfl ?_⟩)
   ·
    replace hi := hi.keep kp; replace ht := ht.keep kp
    rw [or_if] at hrun
    refine is_call (C := (C.add nx)) (s := [59]) hk hr hK fun H m9_108 h hk hK => ⟨_, rfl, ifB_iff.2 ⟨fun h1 => ?_, fun h1 => ?_⟩⟩
    ·
     replace hrun := (if_pos (show Ps.is C.l _ [59] = true by simpa using h1)).symm.trans hrun
     refine ⟨_, _, _, _, _, ht.tok hk, ⟨⟨_, _, _, _, _, ht.tok hk, rfl⟩, trivial⟩, ?_⟩
     obtain ⟨hk', hni⟩ := reserve (i := m9_108 + 2) (nx' := m9_108 + 5) hk (by omega) (by omega)
     refine none_call (C := C.add nx) hk' (hK.from (by omega) (.refl _ _ _)) fun H m9 h hk hn1 hK => ⟨_, _, _, _, _, _, rfl, ?_⟩
     refine blkTake (C := (C.add nx)) hk hni hr hK rfl (by omega) fun Γ H hk hr hb hxhb kp hK => ?_
     replace hi := hi.keep kp; replace ht := ht.keep kp; replace hn1 := hn1.keep hr.rex kp
     refine ⟨⟨⟨_, _, _, _, _, ht.tok hk, rfl⟩, trivial⟩, ?_⟩
     cases hrun
     exact node_finTD hk hr hi hf hrex (KidsV.blk (n := 1) hxhb hb.e hn1.one rfl) rfl hK
    ·
     replace hrun := (if_neg (show ¬ Ps.is C.l _ [59] = true by simpa using h1)).symm.trans hrun
     refine is_call (C := (C.add nx)) (s := [125]) hk hr hK fun H m10_121 h hk hK => ⟨_, rfl, ifB_iff.2 ⟨fun h1 => ?_, fun h1 => ?_⟩⟩
     ·
      replace hrun := (if_pos (show Ps.is C.l _ [125] = true by simpa using h1)).symm.trans hrun
      refine ⟨_, _, _, _, _, ht.tok hk, ⟨⟨_, _, _, _, _, ht.tok hk, rfl⟩, trivial⟩, ?_⟩
      obtain ⟨hk', hni⟩ := reserve (i := m10_121 + 2) (nx' := m10_121 + 5) hk (by omega) (by omega)
      refine none_call (C := C.add nx) hk' (hK.from (by omega) (.refl _ _ _)) fun H m9 h hk hn1 hK => ⟨_, _, _, _, _, _, rfl, ?_⟩
      refine blkTake (C := (C.add nx)) hk hni hr hK rfl (by omega) fun Γ H hk hr hb hxhb kp hK => ?_
      replace hi := hi.keep kp; replace ht := ht.keep kp; replace hn1 := hn1.keep hr.rex kp
      refine ⟨⟨⟨_, _, _, _, _, ht.tok hk, rfl⟩, trivial⟩, ?_⟩
      cases hrun
      exact node_finTD hk hr hi hf hrex (KidsV.blk (n := 1) hxhb hb.e hn1.one rfl) rfl hK
     ·
      replace hrun := (if_neg (show ¬ Ps.is C.l _ [125] = true by simpa using h1)).symm.trans hrun
      refine ⟨_, _, _, _, _, ht.tok hk, ⟨⟨_, _, _, _, _, ht.tok hk, rfl⟩, trivial⟩, ?_⟩
      obtain ⟨hk', hni⟩ := reserve (i := m10_121 + 3) (nx' := m10_121 + 6) hk (by omega) (by omega)
      refine rule_call (C := (C.add nx)) (fun Z ex res Γ H nx K h => ih.expr (d + 1) hd1 Z ex _ res Γ H nx K h) hrun hk' hr (hK.from (by omega) (.refl _ _ _)) rfl .lv rz_in fun t1 c1 kk1 s1 n1 li1 co1 w1 Γ H m11_136 e1 hrun h hk kp hw1 hn1 hr hK => ⟨_, _, _, _, _, _, rfl, ?_⟩
      replace hi := hi.keep kp; replace ht := ht.keep kp
      refine blkTake (C := (C.add nx)) hk hni hr hK rfl (by omega) fun Γ H hk hr hb hxhb kp hK => ?_
      replace hi := hi.keep kp; replace ht := ht.keep kp; replace hn1 := hn1.keep hr.rex kp
      refine ⟨⟨⟨_, _, _, _, _, ht.tok hk, rfl⟩, trivial⟩, ?_⟩
      cases hrun
      exact node_finTD hk hr hi hf hrex (KidsV.blk (n := 1) hxhb hb.e hn1.one rfl) rfl hK
   refine has_call (C := (C.add nx)) W hrun hk hr hK rfl (fun _ h => h) (fun Γ H m9_143 his hrun h hk kp hr hK => ⟨_, rfl, ifB_t rfl ?_⟩) (fun H m9_143 his hrun h hk hK => ⟨_, rfl, ifB_f rfl ?_⟩)
   ·
    replace hi := hi.keep kp; replace ht := ht.keep kp
    refine need_call (C := (C.add nx)) W hrun hk hr hK rfl .lv (fun _ h => h) fun Γ H m10_146 his hrun h hk kp hr hK => ⟨_, _, _, _, _, rfl, ?_⟩
    replace hi := hi.keep kp; replace ht := ht.keep kp
    refine rule_call (C := (C.add nx)) (fun Z ex res Γ H nx K h => ih.expr (d + 1) hd1 Z ex _ res Γ H nx K h) hrun hk hr hK rfl .lv (fun _ h => h) fun t1 c1 kk1 s1 n1 li1 co1 w1 Γ H m11_148 e1 hrun h hk kp hw1 hn1 hr hK => ⟨_, _, _, _, _, _, rfl, ?_⟩
    replace hi := hi.keep kp; replace ht := ht.keep kp
    refine nodeIn (C := (C.add nx)) hk hr hw1 hK rfl fun Γ H hk hr hb1 kp hK => ?_
    replace hi := hi.keep kp; replace ht := ht.keep kp; replace hn1 := hn1.keep hr.rex kp
    refine need_call (C := (C.add nx)) W hrun hk hr hK rfl .lv (fun _ h => h) fun Γ H m12_152 his hrun h hk kp hr hK => ⟨_, _, _, _, _, rfl, ?_⟩
    replace hi := hi.keep kp; replace ht := ht.keep kp; replace hn1 := hn1.keep hr.rex kp; replace hb1 := hb1.keep kp
    refine ⟨_, _, _, _, _, ht.tok hk, _, _, _, _, _, _, ldAll hk hb1.e rfl, ?_⟩
    refine blkIn (nx' := m12_152 + 1) (C := (C.add nx)) hk (Nat.le_refl _) (by omega) hr hK rfl fun Γ H hk hr hb hxhb kp hK => ?_
    replace hi := hi.keep kp; replace ht := ht.keep kp; replace hn1 := hn1.keep hr.rex kp; replace hb1 := hb1.keep kp
    cases hrun
    exact node_finD hk hr hi hf hrex (KidsV.blk (n := 1) hxhb hb.e hn1.one rfl) rfl hK
   refine rule_last (one := fun a => Rs.bind (Ps.run C.l n .expr (d + 1) a) fun (e, b) => if Ps.is C.l b [58, 61] then Rs.bind (Ps.run C.l n .expr (d + 1) (b + 1)) fun (y, c) => Rs.ok (Ps.mk (Ps.tk C.l b) 12 [] [e, y], c) else if Ps.is C.l b [61] then Rs.bind (Ps.run C.l n .expr (d + 1) (b + 1)) fun (y, c) => Rs.ok (Ps.mk (Ps.tk C.l b) 13 [] [e, y], c) else Rs.ok (Ps.mk (Ps.tk C.l a) 19 [] [e], b)) (C := (C.add nx)) (fun Z ex res Γ H nx K h h2 h3 h4 => simple_ok (C := ⟨C.r, C.tb, C.l, ex⟩) W ih hd1 h h2 h3 h4) hrun hk hr hK rfl .lv (fun _ h => h) fun t c kk s n1 li co w Γ H m9 e3 e4 h hk kp hw hn hr hK => ⟨_, _, _, _, _, _, rfl, ?_⟩
   replace hi := hi.keep kp; replace ht := ht.keep kp
   exact fin6d hk hr hi hf hrex hw hn e4 hK
end
end
end Go.Vs
end
section
namespace Go.Vs
open Go.Proofs
variable [GTab] {Z : Nat → Prop}
noncomputable section
section
variable {Γ0 Γ : GH} {n0 : Nat} {H : Heap} {nx a d n i : Nat} {C : RC} {K : EndP} {res : Except Flt (Tree × Nat)}
abbrev oneR (l : List Tok) (one : Nat → Rs (Tree × Nat)) : Nat → Rs (Tree × Nat) := fun a => Ps.lift (Ps.need l a [40]) fun b => Rs.bind (one b) fun (x, c) => Ps.lift (Ps.need l c [41]) fun e => Rs.ok (x, e)
theorem one_bind {β : Type} {l : List Tok} {one : Nat → Rs (Tree × Nat)} {a : Nat} {k : Tree × Nat → Rs β} : Rs.bind (oneR l one a) k = Ps.lift (Ps.need l a [40]) fun b => Rs.bind (one b) fun (x, c) => Ps.lift (Ps.need l c [41]) fun e => k (x, e) := by
 unfold oneR
 cases Ps.need l a [40] with
 | error f => rfl
 | ok b =>
  show Rs.bind (Rs.bind (one b) _) k = Rs.bind (one b) _
  cases one b with
  | none => rfl
  | some r => cases r with
   | error f => rfl
   | ok p =>
    obtain ⟨x, c⟩ := p
    show Rs.bind (Ps.lift (Ps.need l c [41]) fun e => Rs.ok (x, e)) k = Ps.lift (Ps.need l c [41]) fun e => k (x, e)
    cases Ps.need l c [41] <;> rfl
theorem prime_ok (W : Toks C.l) (ih : IH C.l C.r C.tb n) (hd : d ≤ 40) (hrun : Ps.run C.l (n + 1) .prime d a = some res) (hk : HZ Z Γ H nx) (hr : Rd Γ C a d) (hK : Meets Z K Γ nx C d res (NodeV C.ex)) : TriP PG f_rd_prime [.ptr C.r 0] H nx K := by
 refine TriP.of_body mixed ?_
 rw [Frd_prime_eq]
 unfold Frd_prime
 simp only [Ps.run] at hrun
 have hrex := hr.rex
 refine begin6 hk hr hK fun Γ H hk hr hi hf hK kp => ?_
 refine now_call (C := (C.add nx)) hk hr hK fun H m1_2 h hk hK => ⟨_, _, _, _, _, rfl, ?_⟩
 refine tokIn (C := (C.add nx)) hk hr hK rfl fun Γ H hk hr ht kp hK => ?_
 replace hi := hi.keep kp
 refine ⟨_, rfl, _, ht.ld hk 0, ifB_iff.2 ⟨fun h1 => ?_, fun h1 => ?_⟩⟩
 ·
  replace h1 : (Ps.tk C.l a).kind = 4 := of_decide_eq_true h1
  rw [if_pos (by simp [h1])] at hrun
  refine next_ok (C := C.add nx) W hk hr (by show (Ps.tk C.l a).kind ≠ 0; rw [h1]; decide) fun Γ H mN h hk kp hr => onEnd_ret.2 ⟨_, _, _, _, _, rfl, ?_⟩
  replace hK := hK.from h kp
  replace hi := hi.keep kp; replace ht := ht.keep kp
  refine ⟨_, _, _, _, _, ht.tok hk, ?_⟩
  refine node_call (C := C.add nx) (ts := []) hk .nil hK fun H m2 h hk hn hw hK => ⟨_, _, _, _, _, _, rfl, ?_⟩
  have hmE := hk.fresh (Nat.le_refl m2)
  have hm0 := hK.none hmE (hr.r_ne hmE)
  have hm3 := hr.tb_ne hmE
  refine nodeIn (C := (C.add nx)) hk hr rfl hK rfl fun Γ H hk hr hb kp hK => ?_
  replace hi := hi.keep kp; replace ht := ht.keep kp
  refine ⟨_, rfl, _, ht.ld hk 2, _, rfl, rfl, ?_⟩
  refine stOne hk hb.e (j := 2) (by simp) rfl fun H hk => ?_
  refine ⟨_, _, _, _, _, _, ldAll hk (gup_same _ _ _) rfl, ?_⟩
  cases hrun
  exact fin6 hk (hr.upd hb.ne hm3) (hi.set (by omega)) hf hrex rfl (.mk [] (.inl ⟨rfl, rfl, rfl⟩) .nil) rfl (hK.upd hm0 (by omega))
 replace h1 : ¬ (Ps.tk C.l a).kind = 4 := of_decide_eq_false h1
 rw [if_neg (by simp [h1])] at hrun
 refine ifB_iff.2 ⟨fun h1 => ?_, fun h1 => ?_⟩
 ·
  replace h1 : (Ps.tk C.l a).kind = 5 := of_decide_eq_true h1
  rw [if_pos (by simp [h1])] at hrun
  refine next_ok (C := C.add nx) W hk hr (by show (Ps.tk C.l a).kind ≠ 0; rw [h1]; decide) fun Γ H mN h hk kp hr => onEnd_ret.2 ⟨_, _, _, _, _, rfl, ?_⟩
  replace hK := hK.from h kp
  replace hi := hi.keep kp; replace ht := ht.keep kp
  refine ⟨_, _, _, _, _, ht.tok hk, _, rfl, _, ht.ld hk 1, ?_⟩
  cases hrun
  exact node_fin hk hr hi hf hrex .nil rfl hK
 replace h1 : ¬ (Ps.tk C.l a).kind = 5 := of_decide_eq_false h1
 rw [if_neg (by simp [h1])] at hrun
 refine ifB_iff.2 ⟨fun h1 => ?_, fun h1 => ?_⟩
 ·
  replace h1 : (Ps.tk C.l a).kind = 2 := of_decide_eq_true h1
  rw [if_pos (by simp [h1])] at hrun
  refine next_ok (C := C.add nx) W hk hr (by show (Ps.tk C.l a).kind ≠ 0; rw [h1]; decide) fun Γ H mN h hk kp hr => onEnd_ret.2 ⟨_, _, _, _, _, rfl, ?_⟩
  replace hK := hK.from h kp
  replace hi := hi.keep kp; replace ht := ht.keep kp
  refine is_call (C := (C.add nx)) (s := [40]) hk hr hK fun H m2_45 h hk hK => ⟨_, rfl, ifB_iff.2 ⟨fun h1 => ?_, fun h1 => ?_⟩⟩
  ·
   replace hrun := (if_pos (show Ps.is C.l _ [40] = true by simpa using h1)).symm.trans hrun
   refine ⟨_, _, _, _, _, ht.tok hk, _, rfl, _, ht.ld hk 1, ⟨⟨_, _, _, _, _, ht.tok hk, rfl⟩, ⟨_, ht.ld hk 1, rfl⟩, trivial⟩, ?_⟩
   refine row_call (C := C.add nx) W (adv1 rfl) to_expr (ih.expr d hd) hrun (hk.more (by omega)) hr (hK.from (by omega) (.refl _ _ _)) rfl .id (fun _ h => h) fun ts b v Γ H m6 erow hrun h hk kp hv hr hK => ?_
   replace hi := hi.keep kp; replace ht := ht.keep kp
   cases hrun
   exact ⟨⟨⟨_, _, _, _, _, ht.tok hk, rfl⟩, ⟨_, ht.ld hk 1, rfl⟩, trivial⟩, node_finT hk hr hi hf hrex hv rfl hK⟩
  ·
   replace hrun := (if_neg (show ¬ Ps.is C.l _ [40] = true by simpa using h1)).symm.trans hrun
   refine ⟨_, _, _, _, _, ht.tok hk, _, rfl, _, ht.ld hk 1, ?_⟩
   cases hrun
   exact node_fin hk hr hi hf hrex .nil rfl hK
 replace h1 : ¬ (Ps.tk C.l a).kind = 2 := of_decide_eq_false h1
 rw [if_neg (by simp [h1])] at hrun
 refine has_call (C := (C.add nx)) W hrun hk hr hK rfl (fun _ h => h) (fun Γ H m2_60 his hrun h hk kp hr hK => ⟨_, rfl, ifB_t rfl ?_⟩) (fun H m2_60 his hrun h hk hK => ⟨_, rfl, ifB_f rfl ?_⟩)
 ·
  replace hi := hi.keep kp; replace ht := ht.keep kp
  refine ⟨_, _, _, _, _, ht.tok hk, ?_⟩
  cases hrun
  exact node_fin hk hr hi hf hrex .nil rfl hK
 refine has_call (C := (C.add nx)) W hrun hk hr hK rfl (fun _ h => h) (fun Γ H m3_66 his hrun h hk kp hr hK => ⟨_, rfl, ifB_t rfl ?_⟩) (fun H m3_66 his hrun h hk hK => ⟨_, rfl, ifB_f rfl ?_⟩)
 ·
  replace hi := hi.keep kp; replace ht := ht.keep kp
  refine ⟨_, _, _, _, _, ht.tok hk, ?_⟩
  cases hrun
  exact node_fin hk hr hi hf hrex .nil rfl hK
 refine has_call (C := (C.add nx)) W hrun hk hr hK rfl (fun _ h => h) (fun Γ H m4_72 his hrun h hk kp hr hK => ⟨_, rfl, ifB_t rfl ?_⟩) (fun H m4_72 his hrun h hk hK => ⟨_, rfl, ifB_f rfl ?_⟩)
 ·
  replace hi := hi.keep kp; replace ht := ht.keep kp
  refine ⟨_, _, _, _, _, ht.tok hk, ?_⟩
  cases hrun
  exact node_fin hk hr hi hf hrex .nil rfl hK
 refine is_call (C := (C.add nx)) (s := [40]) hk hr hK fun H m5_78 h hk hK => ⟨_, rfl, ifB_iff.2 ⟨fun h1 => ?_, fun h1 => ?_⟩⟩
 ·
  replace hrun := (if_pos (show Ps.is C.l _ [40] = true by simpa using h1)).symm.trans hrun
  replace hrun : oneR C.l (Ps.run C.l n .expr d) a = some res := by unfold oneR Ps.need; rw [show Ps.is C.l a [40] = true by simpa using h1]; exact hrun
  refine rule_last (one := oneR C.l (Ps.run C.l n .expr d)) (C := (C.add nx)) (fun Z ex res Γ H nx K h h2 h3 h4 => one_ok (C := ⟨C.r, C.tb, C.l, ex⟩) W to_expr (ih.expr d hd) h h2 h3 h4) hrun hk hr hK rfl .id (fun _ h => h) fun t c kk s n1 li co w Γ H m9 e3 e4 h hk kp hw hn hr hK => ⟨_, _, _, _, _, _, rfl, ?_⟩
  replace hi := hi.keep kp; replace ht := ht.keep kp
  exact fin6 hk hr hi hf hrex hw hn e4 hK
 ·
  replace hrun := (if_neg (show ¬ Ps.is C.l _ [40] = true by simpa using h1)).symm.trans hrun
  refine has_call (C := (C.add nx)) W hrun hk hr hK rfl (fun _ h => h) (fun Γ H m6_87 his hrun h hk kp hr hK => ⟨_, rfl, ifB_t rfl ?_⟩) (fun H m6_87 his hrun h hk hK => ⟨_, rfl, ifB_f rfl ?_⟩)
  ·
   replace hi := hi.keep kp; replace ht := ht.keep kp
   refine ⟨_, _, _, _, _, ht.tok hk, ⟨⟨_, _, _, _, _, ht.tok hk, rfl⟩, trivial⟩, ?_⟩
   replace hrun := (one_bind (l := C.l) (one := Ps.run C.l n .expr d) (k := fun x => Rs.ok (Ps.mk (Ps.tk C.l a) 33 [] [x.1], x.2))).trans hrun
   obtain ⟨hk', hni⟩ := reserve (i := m6_87 + 5) (nx' := m6_87 + 8) hk (by omega) (by omega)
   refine rule_call (one := oneR C.l (Ps.run C.l n .expr d)) (C := (C.add nx)) (fun Z ex res Γ H nx K h h2 h3 h4 => one_ok (C := ⟨C.r, C.tb, C.l, ex⟩) W to_expr (ih.expr d hd) h h2 h3 h4) hrun hk' hr (hK.from (by omega) (.refl _ _ _)) rfl .id rz_in fun t1 c1 kk1 s1 n1 li1 co1 w1 Γ H m7_93 e1 hrun h hk kp hw1 hn1 hr hK => ⟨_, _, _, _, _, _, rfl, ?_⟩
   replace hi := hi.keep kp; replace ht := ht.keep kp
   refine blkTake (C := (C.add nx)) hk hni hr hK rfl (by omega) fun Γ H hk hr hb hxhb kp hK => ?_
   replace hi := hi.keep kp; replace ht := ht.keep kp; replace hn1 := hn1.keep hr.rex kp
   refine ⟨⟨⟨_, _, _, _, _, ht.tok hk, rfl⟩, trivial⟩, ?_⟩
   cases hrun
   exact node_finT hk hr hi hf hrex (KidsV.blk (n := 1) hxhb hb.e hn1.one rfl) rfl hK
  refine has_call (C := (C.add nx)) W hrun hk hr hK rfl (fun _ h => h) (fun Γ H m7_100 his hrun h hk kp hr hK => ⟨_, rfl, ifB_t rfl ?_⟩) (fun H m7_100 his hrun h hk hK => ⟨_, rfl, ifB_f rfl ?_⟩)
  ·
   replace hi := hi.keep kp; replace ht := ht.keep kp
   refine ⟨_, _, _, _, _, ht.tok hk, ⟨⟨_, _, _, _, _, ht.tok hk, rfl⟩, trivial⟩, ?_⟩
   replace hrun := (one_bind (l := C.l) (one := Ps.run C.l n .typ d) (k := fun x => Rs.ok (Ps.mk (Ps.tk C.l a) 35 [] [x.1], x.2))).trans hrun
   obtain ⟨hk', hni⟩ := reserve (i := m7_100 + 5) (nx' := m7_100 + 8) hk (by omega) (by omega)
   refine rule_call (one := oneR C.l (Ps.run C.l n .typ d)) (C := (C.add nx)) (fun Z ex res Γ H nx K h h2 h3 h4 => one_ok (C := ⟨C.r, C.tb, C.l, ex⟩) W to_typ (ih.typ d hd) h h2 h3 h4) hrun hk' hr (hK.from (by omega) (.refl _ _ _)) rfl .id rz_in fun t1 c1 kk1 s1 n1 li1 co1 w1 Γ H m8_106 e1 hrun h hk kp hw1 hn1 hr hK => ⟨_, _, _, _, _, _, rfl, ?_⟩
   replace hi := hi.keep kp; replace ht := ht.keep kp
   refine blkTake (C := (C.add nx)) hk hni hr hK rfl (by omega) fun Γ H hk hr hb hxhb kp hK => ?_
   replace hi := hi.keep kp; replace ht := ht.keep kp; replace hn1 := hn1.keep hr.rex kp
   refine ⟨⟨⟨_, _, _, _, _, ht.tok hk, rfl⟩, trivial⟩, ?_⟩
   cases hrun
   exact node_finT hk hr hi hf hrex (KidsV.blk (n := 1) hxhb hb.e hn1.one rfl) rfl hK
  refine has_call (C := (C.add nx)) W hrun hk hr hK rfl (fun _ h => h) (fun Γ H m8_113 his hrun h hk kp hr hK => ⟨_, rfl, ifB_t rfl ?_⟩) (fun H m8_113 his hrun h hk hK => ⟨_, rfl, ifB_f rfl ?_⟩)
  ·
   replace hi := hi.keep kp; replace ht := ht.keep kp
   refine need_call (C := (C.add nx)) W hrun hk hr hK rfl .id (fun _ h => h) fun Γ H m9_116 his hrun h hk kp hr hK => ⟨_, _, _, _, _, rfl, ?_⟩
   replace hi := hi.keep kp; replace ht := ht.keep kp
   refine rule_call (C := (C.add nx)) (fun Z ex res Γ H nx K h => ih.typ d hd Z ex _ res Γ H nx K h) hrun hk hr hK rfl .id (fun _ h => h) fun t1 c1 kk1 s1 n1 li1 co1 w1 Γ H m10_118 e1 hrun h hk kp hw1 hn1 hr hK => ⟨_, _, _, _, _, _, rfl, ?_⟩
   replace hi := hi.keep kp; replace ht := ht.keep kp
   refine nodeIn (C := (C.add nx)) hk hr hw1 hK rfl fun Γ H hk hr hb1 kp hK => ?_
   replace hi := hi.keep kp; replace ht := ht.keep kp; replace hn1 := hn1.keep hr.rex kp
   refine need_call (C := (C.add nx)) W hrun hk hr hK rfl .id (fun _ h => h) fun Γ H m11_122 his hrun h hk kp hr hK => ⟨_, _, _, _, _, rfl, ?_⟩
   replace hi := hi.keep kp; replace ht := ht.keep kp; replace hn1 := hn1.keep hr.rex kp; replace hb1 := hb1.keep kp
   refine rule_call (C := (C.add nx)) (fun Z ex res Γ H nx K h => ih.expr d hd Z ex _ res Γ H nx K h) hrun hk hr hK rfl .id (fun _ h => h) fun t2 c2 kk2 s2 n2 li2 co2 w2 Γ H m12_124 e2 hrun h hk kp hw2 hn2 hr hK => ⟨_, _, _, _, _, _, rfl, ?_⟩
   replace hi := hi.keep kp; replace ht := ht.keep kp; replace hn1 := hn1.keep hr.rex kp; replace hb1 := hb1.keep kp
   refine nodeIn (C := (C.add nx)) hk hr hw2 hK rfl fun Γ H hk hr hb2 kp hK => ?_
   replace hi := hi.keep kp; replace ht := ht.keep kp; replace hn1 := hn1.keep hr.rex kp; replace hb1 := hb1.keep kp; replace hn2 := hn2.keep hr.rex kp
   refine need_call (C := (C.add nx)) W hrun hk hr hK rfl .id (fun _ h => h) fun Γ H m13_128 his hrun h hk kp hr hK => ⟨_, _, _, _, _, rfl, ?_⟩
   replace hi := hi.keep kp; replace ht := ht.keep kp; replace hn1 := hn1.keep hr.rex kp; replace hb1 := hb1.keep kp; replace hn2 := hn2.keep hr.rex kp; replace hb2 := hb2.keep kp
   refine ⟨_, _, _, _, _, ht.tok hk, _, _, _, _, _, _, ldAll hk hb1.e rfl, _, _, _, _, _, _, ldAll hk hb2.e rfl, ?_⟩
   refine blkIn (nx' := m13_128 + 1) (C := (C.add nx)) hk (Nat.le_refl _) (by omega) hr hK rfl fun Γ H hk hr hb hxhb kp hK => ?_
   replace hi := hi.keep kp; replace ht := ht.keep kp; replace hn1 := hn1.keep hr.rex kp; replace hb1 := hb1.keep kp; replace hn2 := hn2.keep hr.rex kp; replace hb2 := hb2.keep kp
   cases hrun
   exact node_fin hk hr hi hf hrex (KidsV.blk (n := 2) hxhb hb.e (.cons hn1 hn2.one) rfl) rfl hK
  refine has_call (C := (C.add nx)) W hrun hk hr hK rfl (fun _ h => h) (fun Γ H m9_135 his hrun h hk kp hr hK => ⟨_, rfl, ifB_t rfl ?_⟩) (fun H m9_135 his hrun h hk hK => ⟨_, rfl, ifB_f rfl ?_⟩)
  ·
   replace hi := hi.keep kp; replace ht := ht.keep kp
   refine need_call (C := (C.add nx)) W hrun hk hr hK rfl .id (fun _ h => h) fun Γ H m10_138 his hrun h hk kp hr hK => ⟨_, _, _, _, _, rfl, ?_⟩
   replace hi := hi.keep kp; replace ht := ht.keep kp
   refine need_call (C := (C.add nx)) W hrun hk hr hK rfl .id (fun _ h => h) fun Γ H m11_140 his hrun h hk kp hr hK => ⟨_, _, _, _, _, rfl, ?_⟩
   replace hi := hi.keep kp; replace ht := ht.keep kp
   refine ⟨_, _, _, _, _, ht.tok hk, ?_⟩
   cases hrun
   exact node_fin hk hr hi hf hrex .nil rfl hK
  cases hrun
  exact fault_ok (C := C.add nx) hk hr fun H nx2 h2 hk => onEnd_pan.2 ((hK.from h2 (.refl _ _ _)).pan rfl hk hr.p)
end
end
end Go.Vs
end
section
namespace Go.Vs
open Go.Proofs
variable [GTab] {Z : Nat → Prop}
noncomputable section
section
variable {Γ0 Γ : GH} {n0 : Nat} {H : Heap} {nx a d n i : Nat} {C : RC} {K : EndP} {res : Except Flt (Tree × Nat)}
abbrev dotR (l : List Tok) (n d : Nat) (t : Tok) (x : Tree) : Nat → Rs (Tree × Nat) := fun a =>
 if Ps.is l a [40] then Rs.bind (Ps.run l n .typ d (a + 1)) fun (ty, b) => Ps.lift (Ps.need l b [41]) fun c => Rs.ok (Ps.mk t 37 [] [x, ty], c)
 else Ps.lift (Ps.name l a) fun b =>
  if Ps.is l b [40] then Rs.bind (Ps.row l (Ps.run l n .expr d) n b) fun (xs, c) => Rs.ok (Ps.mk t 31 (Ps.tk l a).text (x :: xs), c)
  else Rs.ok (Ps.mk t 30 (Ps.tk l a).text [x], b)
theorem dot_ok {t0 : Tok} {x0 : Tree} {kk0 n0 li0 co0 : Int} {s0 : List UInt8} {w0 : AVal} (W : Toks C.l) (ih : IH C.l C.r C.tb n) (hd : d ≤ 40) (hrun : dotR C.l n d t0 x0 a = some res) (hn0 : NodeC C.ex Γ [iv kk0, .str s0, iv n0, iv li0, iv co0, w0] x0) (hk : HZ Z Γ H nx) (hr : Rd Γ C a d) (hK : Meets Z K Γ nx C d res (NodeV C.ex)) :
  TriP PG f_rd_dot [.ptr C.r 0, tokV t0, .agg [iv kk0, .str s0, iv n0, iv li0, iv co0, w0]] H nx K := by
 refine TriP.of_body mixed ?_
 rw [Frd_dot_eq]
 unfold Frd_dot
 have hrex := hr.rex
 have hf0 := hk.fresh (Nat.le_refl nx)
 have hf : Γ (nx + 1 + 1) = none ∧ nx ≤ nx + 1 + 1 := ⟨hk.fresh (by omega), by omega⟩
 refine ⟨_, rfl, ?_⟩
 have h0 : HZ Z (gup nx (some (tokC t0)) Γ) (newBN nx [iv t0.kind, AVal.str t0.text, iv t0.n, iv t0.line, iv t0.col].length [iv t0.kind, AVal.str t0.text, iv t0.n, iv t0.line, iv t0.col] H) (nx + 1) := hk.new (Nat.le_refl _) (by omega) _
 have hr0 := hr.new (cs := some (tokC t0)) hf0
 have hf1 := h0.fresh (Nat.le_refl (nx + 1))
 refine ⟨_, rfl, ?_⟩
 have h1 : HZ Z (gup (nx + 1) (some [iv kk0, .str s0, iv n0, iv li0, iv co0, w0]) (gup nx (some (tokC t0)) Γ)) (newBN (nx + 1) [iv kk0, .str s0, iv n0, iv li0, iv co0, w0].length [iv kk0, .str s0, iv n0, iv li0, iv co0, w0] (newBN nx [iv t0.kind, AVal.str t0.text, iv t0.n, iv t0.line, iv t0.col].length [iv t0.kind, AVal.str t0.text, iv t0.n, iv t0.line, iv t0.col] H)) (nx + 1 + 1) := h0.new (Nat.le_refl _) (by omega) _
 have hr1 := hr0.new (cs := some [iv kk0, .str s0, iv n0, iv li0, iv co0, w0]) hf1
 have hf2 := h1.fresh (Nat.le_refl (nx + 1 + 1))
 have kp1 : KeepX C.r nx Γ (gup (nx + 1) (some [iv kk0, .str s0, iv n0, iv li0, iv co0, w0]) (gup nx (some (tokC t0)) Γ)) := (KeepX.new (nx := nx) hf0).trans (KeepX.new (nx := nx) hf1)
 have ht : At (gup (nx + 1) (some [iv kk0, .str s0, iv n0, iv li0, iv co0, w0]) (gup nx (some (tokC t0)) Γ)) C.r nx (tokC t0) := ⟨(gup_ne (by omega)).trans (gup_same _ _ _), hr.r_ne hf0⟩
 have hx : At (gup (nx + 1) (some [iv kk0, .str s0, iv n0, iv li0, iv co0, w0]) (gup nx (some (tokC t0)) Γ)) C.r (nx + 1) [iv kk0, .str s0, iv n0, iv li0, iv co0, w0] := ⟨gup_same _ _ _, hr0.r_ne hf1⟩
 replace hn0 := (hn0.keep hr.rex kp1).raise (i := nx + 1 + 1) hf2
 replace hK := hK.owe.from (by omega : nx ≤ nx + 1 + 1 + 1) kp1
 refine scrN h1 (nx' := nx + 1 + 1 + 1) (Nat.le_refl _) (by omega) fun H hk => ?_
 replace hr := hr1.newAdd (cs := [iv 0, AVal.str [], iv 0, iv 0, iv 0, AVal.nilSlice]) hf2
 have hi : Res (gup (nx + 1 + 1) (some [iv 0, AVal.str [], iv 0, iv 0, iv 0, AVal.nilSlice]) (gup (nx + 1) (some [iv kk0, .str s0, iv n0, iv li0, iv co0, w0]) (gup nx (some (tokC t0)) Γ))) C (nx + 1 + 1) := ⟨⟨_, gup_same _ _ _, rfl⟩, hr1.r_ne hf2, hr1.tb_ne hf2⟩
 have kp : KeepX C.r (nx + 1 + 1) _ _ := KeepX.new (cs := [iv 0, AVal.str [], iv 0, iv 0, iv 0, AVal.nilSlice]) hf2
 replace ht := ht.keep kp; replace hx := hx.keep kp; replace hn0 := hn0.keep hr.rex kp; replace hK := hK.from' (Nat.le_refl _) kp (by omega)
 refine has_call (C := (C.add (nx + 1 + 1))) W hrun hk hr hK rfl (fun _ h => h) (fun Γ H m1_0 his hrun h hk kp hr hK => ⟨_, rfl, ifB_t rfl ?_⟩) (fun H m1_0 his hrun h hk hK => ⟨_, rfl, ifB_f rfl ?_⟩)
 ·
  replace hi := hi.keep kp; replace ht := ht.keep kp; replace hx := hx.keep kp; replace hn0 := hn0.keep hr.rex kp
  refine rule_call (C := (C.add (nx + 1 + 1))) (fun Z ex res Γ H nx K h => ih.typ d hd Z ex _ res Γ H nx K h) hrun hk hr hK rfl .id (fun _ h => h) fun t1 c1 kk1 s1 n1 li1 co1 w1 Γ H m2_3 e1 hrun h hk kp hw1 hn1 hr hK => ⟨_, _, _, _, _, _, rfl, ?_⟩
  replace hi := hi.keep kp; replace ht := ht.keep kp; replace hx := hx.keep kp; replace hn0 := hn0.keep hr.rex kp
  refine nodeIn (C := (C.add (nx + 1 + 1))) hk hr hw1 hK rfl fun Γ H hk hr hb1 kp hK => ?_
  replace hi := hi.keep kp; replace ht := ht.keep kp; replace hx := hx.keep kp; replace hn0 := hn0.keep hr.rex kp; replace hn1 := hn1.keep hr.rex kp
  refine need_call (C := (C.add (nx + 1 + 1))) W hrun hk hr hK rfl .id (fun _ h => h) fun Γ H m3_7 his hrun h hk kp hr hK => ⟨_, _, _, _, _, rfl, ?_⟩
  replace hi := hi.keep kp; replace ht := ht.keep kp; replace hx := hx.keep kp; replace hn0 := hn0.keep hr.rex kp; replace hn1 := hn1.keep hr.rex kp; replace hb1 := hb1.keep kp
  refine ⟨_, _, _, _, _, ht.tok hk, _, _, _, _, _, _, ldAll hk hx.e rfl, _, _, _, _, _, _, ldAll hk hb1.e rfl, ?_⟩
  refine blkIn (nx' := m3_7 + 1) (C := (C.add (nx + 1 + 1))) hk (Nat.le_refl _) (by omega) hr hK rfl fun Γ H hk hr hb hxhb kp hK => ?_
  replace hi := hi.keep kp; replace ht := ht.keep kp; replace hx := hx.keep kp; replace hn0 := hn0.keep hr.rex kp; replace hn1 := hn1.keep hr.rex kp; replace hb1 := hb1.keep kp
  cases hrun
  exact node_fin hk hr hi hf hrex (KidsV.blk (n := 2) hxhb hb.e (.cons hn0 hn1.one) rfl) rfl hK
 refine name_call (C := (C.add (nx + 1 + 1))) W hrun hk hr hK rfl .id (fun _ h => h) fun Γ H m2_14 hkd hrun h hk kp hr hK => ⟨_, _, _, _, _, rfl, ?_⟩
 replace hi := hi.keep kp; replace ht := ht.keep kp; replace hx := hx.keep kp; replace hn0 := hn0.keep hr.rex kp
 refine is_call (C := (C.add (nx + 1 + 1))) (s := [40]) hk hr hK fun H m3_16 h hk hK => ⟨_, rfl, ifB_iff.2 ⟨fun h1 => ?_, fun h1 => ?_⟩⟩
 ·
  replace hrun := (if_neg (show ¬ Ps.is C.l _ [40] = true by simpa using h1)).symm.trans hrun
  refine ⟨_, _, _, _, _, ht.tok hk, _, _, _, _, _, _, ldAll hk hx.e rfl, ?_⟩
  refine blkIn (nx' := m3_16 + 1) (C := (C.add (nx + 1 + 1))) hk (Nat.le_refl _) (by omega) hr hK rfl fun Γ H hk hr hb hxhb kp hK => ?_
  replace hi := hi.keep kp; replace ht := ht.keep kp; replace hx := hx.keep kp; replace hn0 := hn0.keep hr.rex kp
  cases hrun
  exact node_fin hk hr hi hf hrex (KidsV.blk (n := 1) hxhb hb.e hn0.one rfl) rfl hK
 ·
  replace hrun := (if_pos (show Ps.is C.l _ [40] = true by simpa using h1)).symm.trans hrun
  refine ⟨_, _, _, _, _, ht.tok hk, _, _, _, _, _, _, ldAll hk hx.e rfl, ?_⟩
  refine blkIn (i := m3_16 + 3) (nx' := m3_16 + 11) (C := (C.add (nx + 1 + 1))) hk (by omega) (by omega) hr hK rfl fun Γ H hk hr hb hxhb kp hK => ?_
  replace hi := hi.keep kp; replace ht := ht.keep kp; replace hx := hx.keep kp; replace hn0 := hn0.keep hr.rex kp
  refine ⟨⟨⟨_, _, _, _, _, ht.tok hk, rfl⟩, ⟨_, _, _, _, _, _, ldAll hk hx.e rfl, rfl⟩, trivial⟩, ?_⟩
  refine row_call (C := (C.add (nx + 1 + 1))) W (adv1 rfl) to_expr (ih.expr d hd) hrun hk hr hK rfl .id (fun _ h => h) fun ts b v Γ H m6 erow hrun h hk kp hv hr hK => ?_
  replace hi := hi.keep kp; replace ht := ht.keep kp; replace hx := hx.keep kp; replace hn0 := hn0.keep hr.rex kp; replace hb := hb.keep kp
  have hlen := row_len (adv1 (by rfl)) erow
  have hlt : b < C.l.length := hr.lt
  have hW := W.few
  refine ⟨⟨⟨_, _, _, _, _, ht.tok hk, rfl⟩, ⟨_, _, _, _, _, _, ldAll hk hx.e rfl, rfl⟩, trivial⟩, ?_⟩
  refine appK (C := (C.add (nx + 1 + 1))) hk hr hb.e hxhb hn0.one (by simp) hv (by simp; omega) rfl fun w Γ H m7 h hk kp hr hv => ?_
  replace hi := hi.keep kp; replace ht := ht.keep kp; replace hx := hx.keep kp; replace hn0 := hn0.keep hr.rex kp; replace hb := hb.keep kp
  replace hK := hK.from h kp
  cases hrun
  exact ⟨⟨⟨_, _, _, _, _, ht.tok hk, rfl⟩, trivial⟩, node_finT hk hr hi hf hrex hv rfl hK⟩
end
end
end Go.Vs
end
section
namespace Go.Vs
open Go.Proofs
variable [GTab] {Z : Nat → Prop}
noncomputable section
section
variable {Γ0 Γ : GH} {n0 : Nat} {H : Heap} {nx a d n i : Nat} {C : RC} {K : EndP} {res : Except Flt (Tree × Nat)}
theorem rule_one {β : Type} {V : GH → AVal → β → Prop} {res : Except Flt (β × Nat)} {rK : AVal → Heap → Nat → Prop} {pK : List (AVal × Bool) → Heap → Nat → Prop} {g : FuncId} {args : List AVal} {one : Nat → Rs (Tree × Nat)} {k : Tree × Nat → Rs (β × Nat)} {Cb : RC} {db : Nat} {Zc : Nat → Prop}
  (hone : ∀ res K, one a = some res → Meets Zc K Γ nx C d res (NodeV C.ex) → TriP PG g args H nx K)
  (hrun : Rs.bind (one a) k = some res) (hK : Owe Z K Γ0 n0 Γ nx Cb db res V) (hb : Cb.r = C.r) (hp : PanOK Z K Cb.r pK) (hz : ∀ b, Z b → Zc b)
  (hok : ∀ t b kk s n li co w Γ' H' nx', one a = some (.ok (t, b)) → k (t, b) = some res → nx ≤ nx' → HZ Zc Γ' H' nx' → KeepX C.r nx Γ Γ' → cellv w = true → NodeC C.ex Γ' [iv kk, .str s, iv n, iv li, iv co, w] t → Rd Γ' C b d →
   Owe Z K Γ0 n0 Γ' nx' Cb db res V → rK (.agg [iv kk, .str s, iv n, iv li, iv co, w]) H' nx') :
  TriP PG g args H nx fun e H' nx' => onEnd e (fun v => rK v H' nx') fun l => pK l H' nx' := by
 rcases Ps.bind_some hrun with ⟨f, e1, e2⟩ | ⟨⟨t, b⟩, e1, e2⟩
 ·refine hone _ _ e1 (.on (fun x b v Γ' H' nx' e => by cases e) fun f' Γ' H' nx' e g1 g2 g3 g4 => ?_)
  cases e
  rw [← hb] at g3 g4
  exact hp.of (hK.from g1 g3) e2 (g2.less hz) g4
 ·refine hone _ _ e1 (.on (fun x b' v Γ' H' nx' e g1 g2 g3 g4 g5 => ?_) fun f' Γ' H' nx' e => by cases e)
  cases e
  obtain ⟨kk, s, n, li, co, w, rfl, hw, hn⟩ := g4.cells
  exact hok _ _ _ _ _ _ _ _ _ _ _ e1 e2 g1 g2 g3 hw hn g5 (hK.from g1 (by rw [hb]; exact g3))
theorem dot_bind {β : Type} {l : List Tok} {n d a : Nat} {t : Tok} {x : Tree} {k : Tree → Nat → Rs β} : Rs.bind (dotR l n d t x a) (fun p => k p.1 p.2) =
  (if Ps.is l a [40] then Rs.bind (Ps.run l n .typ d (a + 1)) fun (ty, b) => Ps.lift (Ps.need l b [41]) fun c => k (Ps.mk t 37 [] [x, ty]) c
  else Ps.lift (Ps.name l a) fun b =>
   if Ps.is l b [40] then Rs.bind (Ps.row l (Ps.run l n .expr d) n b) fun (xs, c) => k (Ps.mk t 31 (Ps.tk l a).text (x :: xs)) c
   else k (Ps.mk t 30 (Ps.tk l a).text [x]) b) := by
 unfold dotR
 split
 ·cases Ps.run l n .typ d (a + 1) with
  | none => rfl
  | some r => cases r with
   | error f => rfl
   | ok p =>
    obtain ⟨ty, b⟩ := p
    show Rs.bind (Ps.lift (Ps.need l b [41]) _) _ = Ps.lift (Ps.need l b [41]) _
    cases Ps.need l b [41] <;> rfl
 ·cases Ps.name l a with
  | error f => rfl
  | ok b =>
   show Rs.bind (if Ps.is l b [40] = true then _ else _) _ = if Ps.is l b [40] = true then _ else _
   split
   ·cases Ps.row l (Ps.run l n .expr d) n b with
    | none => rfl
    | some r => cases r <;> rfl
   ·rfl
theorem RPost_eq (call : CallP) (lp : Nat → LoopP) (lv : LeaveP) (lvc : LeaveC) (r c x : Nat) (H : Heap) (nx : Nat) (K : EndP) :
  contAt PG call (lp 30) 30 (codeOf PG f_rd_post) [1, 1, 0] (endK PG lv lvc K (resOf PG f_rd_post)) .ret (envL .und [(0, .ptr r 0), (2, .ptr c 0), (3, .ptr x 0)]) H nx [] none = vLoad PG t_node H (.ptr c 0) fun v => K (.ret v) H nx := by kernel_rfl
theorem PPost_eq (call : CallP) (lp : Nat → LoopP) (lv : LeaveP) (lvc : LeaveC) (r c x : Nat) (H : Heap) (nx : Nat) (K : EndP) (l : List (AVal × Bool)) :
  contAt PG call (lp 30) 30 (codeOf PG f_rd_post) [1, 1, 0] (endK PG lv lvc K (resOf PG f_rd_post)) (.pan l) (envL .und [(0, .ptr r 0), (2, .ptr c 0), (3, .ptr x 0)]) H nx [] none = K (.pan l) H nx := by kernel_rfl
theorem RBin_eq (call : CallP) (lp : Nat → LoopP) (lv : LeaveP) (lvc : LeaveC) (r c x : Nat) (k : Int) (H : Heap) (nx : Nat) (K : EndP) :
  contAt PG call (lp 36) 36 (codeOf PG f_rd_binary) [1, 1, 0] (endK PG lv lvc K (resOf PG f_rd_binary)) .ret (envL .und [(0, .ptr r 0), (1, iv k), (4, .ptr c 0), (5, .ptr x 0)]) H nx [] none = vLoad PG t_node H (.ptr c 0) fun v => K (.ret v) H nx := by kernel_rfl
theorem PBin_eq (call : CallP) (lp : Nat → LoopP) (lv : LeaveP) (lvc : LeaveC) (r c x : Nat) (k : Int) (H : Heap) (nx : Nat) (K : EndP) (l : List (AVal × Bool)) :
  contAt PG call (lp 36) 36 (codeOf PG f_rd_binary) [1, 1, 0] (endK PG lv lvc K (resOf PG f_rd_binary)) (.pan l) (envL .und [(0, .ptr r 0), (1, iv k), (4, .ptr c 0), (5, .ptr x 0)]) H nx [] none = K (.pan l) H nx := by kernel_rfl
theorem PanOK.eq {r : Nat} {pK : List (AVal × Bool) → Heap → Nat → Prop} (h : ∀ l H nx, pK l H nx = K (.pan l) H nx) : PanOK Z K r pK := fun f Γ H nx hk hp h2 => by rw [h]; exact h2 Γ H hk (.refl _ _ _) hp
theorem fin6x {Cb : RC} {x : Nat} {kk nn li co : Int} {s : List UInt8} {w : AVal} {t : Tree} {b : Nat} (hk : HZ Z Γ H nx) (hr : Rd Γ ((Cb.add i).add x) b d) (hi : Res Γ Cb i) (h0 : Γ0 i = none ∧ n0 ≤ i) (hrex : Cb.ex Cb.r) (hw : cellv w = true)
  (hn : NodeC ((Cb.add i).add x).ex Γ [iv kk, .str s, iv nn, iv li, iv co, w] t) (e : res = .ok (t, b)) (hK : Owe Z K Γ0 n0 Γ nx Cb d res (NodeV Cb.ex)) :
  ∃ H1, stC H (.ptr i 0) [iv kk, .str s, iv nn, iv li, iv co, w] = some H1 ∧ vLoad PG t_node H1 (.ptr i 0) fun v => K (.ret v) H1 nx := by
 obtain ⟨cs, e0, hl⟩ := hi.e
 refine stAll hk e0 (by simp [hl]) (by simp only [allCell, hw]; rfl) fun H1 h1 => ?_
 rw [vLoad_node]
 refine ⟨_, _, _, _, _, _, ldAll h1 (gup_same _ _ _) rfl, (hK.upd h0.1 h0.2).ret e h1 ?_ (((hr.less (.inr hrex)).upd hi.nr hi.nt).less hrex)⟩
 exact (hn.mono (fun _ h => .inr (.inr h)) fun c ds hc e => by rw [gup_ne fun x => hc (.inr (.inl x))]; exact e).v
theorem rank_ok {s : List UInt8} {K : EndP} (h : K (.ret (iv (Ps.rank s))) H nx) : TriP PG f_p_rank [.str s] H nx K := by
 refine TriP.of_body mixed ?_
 rw [Fp_rank_eq]
 unfold Fp_rank
 have st : ∀ {u : List UInt8} {p q : Prop}, (s = u → p) → (s ≠ u → q) → ifB (s == u) p q := fun h1 h2 => ifB_iff.2 ⟨fun e => h1 (by simpa using e), fun e => h2 (by simpa using e)⟩
 unfold Ps.rank at h
 refine st (fun e => by subst e; simpa using h) fun e1 => ?_
 refine st (fun e => by subst e; simpa using h) fun e2 => ?_
 refine st (fun e => by subst e; simpa using h) fun e3 => ?_
 refine st (fun e => by subst e; simpa using h) fun e4 => ?_
 refine st (fun e => by subst e; simpa using h) fun e5 => ?_
 refine st (fun e => by subst e; simpa using h) fun e6 => ?_
 refine st (fun e => by subst e; simpa using h) fun e7 => ?_
 refine st (fun e => by subst e; simpa using h) fun e8 => ?_
 refine st (fun e => by subst e; simpa using h) fun e9 => ?_
 refine st (fun e => by subst e; simpa using h) fun e10 => ?_
 refine st (fun e => by subst e; simpa using h) fun e11 => ?_
 refine st (fun e => by subst e; simpa using h) fun e12 => ?_
 refine st (fun e => by subst e; simpa using h) fun e13 => ?_
 simpa [e1, e2, e3, e4, e5, e6, e7, e8, e9, e10, e11, e12, e13] using h
theorem rank_nat (s : List UInt8) : ∃ r : Nat, r ≤ 5 ∧ Ps.rank s = (r : Int) := by
 unfold Ps.rank
 split
 ·exact ⟨1, by omega, rfl⟩
 split
 ·exact ⟨2, by omega, rfl⟩
 split
 ·exact ⟨3, by omega, rfl⟩
 split
 ·exact ⟨4, by omega, rfl⟩
 split
 ·exact ⟨5, by omega, rfl⟩
 ·exact ⟨0, by omega, rfl⟩
theorem post_ok (W : Toks C.l) (ihs : ∀ m, m ≤ n → IH C.l C.r C.tb m) (hd : d ≤ 40) (hrun : Ps.run C.l (n + 1) .post d a = some res) (hk : HZ Z Γ H nx) (hr : Rd Γ C a d) (hK : Meets Z K Γ nx C d res (NodeV C.ex)) : TriP PG f_rd_post [.ptr C.r 0] H nx K := by
 refine TriP.of_body mixed ?_
 rw [Frd_post_eq]
 unfold Frd_post
 simp only [Ps.run] at hrun
 have ih := ihs n (Nat.le_refl n)
 have hrex := hr.rex
 refine begin6 hk hr hK fun Γ H hk hr hi hf hK kp => ?_
 refine rule_call (C := (C.add nx)) (fun Z ex res Γ H nx K h => ih.prime d hd Z ex _ res Γ H nx K h) hrun hk hr hK rfl .id (fun _ h => h) fun t0 c0 kk0 s0 n0 li0 co0 w0 Γ H x e0 hrun h hk kp hw0 hn0 hr hK => ⟨_, _, _, _, _, _, rfl, ?_⟩
 replace hi := hi.keep kp
 have hmE := hk.fresh (Nat.le_refl x)
 have hm0 := hK.none hmE (hr.r_ne hmE)
 have hm3 := hr.tb_ne hmE
 replace hn0 := hn0.raise hmE
 refine nodeIn (C := (C.add nx)) hk hr hw0 hK rfl fun Γ H hk hr hx kp hK => ?_
 replace hi := hi.keep kp
 replace hr : Rd Γ ((C.add nx).add x) _ d := hr.add (by rw [hx.e]; simp)
 replace hn0 := hn0.keep hr.rex kp
 refine loop_w (P := PG) (X := Unit) (Y := Unit) (fun _ => envL .und [(0, .ptr C.r 0), (2, .ptr nx 0), (3, .ptr x 0)]) (fun _ => envL .und [])
  (fun m _ H1 m1 => x + 1 ≤ m1 ∧ m ≤ n ∧ ∃ Γ1 t b kk s n1 li co w, HZ Z Γ1 H1 m1 ∧ Rd Γ1 ((C.add nx).add x) b d ∧ Res Γ1 C nx ∧ At Γ1 C.r x [iv kk, .str s, iv n1, iv li, iv co, w] ∧ NodeC ((C.add nx).add x).ex Γ1 [iv kk, .str s, iv n1, iv li, iv co, w] t ∧ Ps.run C.l m (.postGo t) d b = some res ∧ Owe Z K _ nx Γ1 m1 C d res (NodeV C.ex))
  (fun id _ H3 nx3 => False) n () (EnvLe.of_list (by exact ⟨rfl, rfl, rfl, trivial⟩))
  ⟨Nat.le_refl _, Nat.le_refl _, Γ, t0, c0, _, _, _, _, _, _, hk, hr, hi, hx, hn0, hrun, hK⟩ ?_ ?_
 ·rintro m _ H m1 ⟨h, hmn, Γ, t, b, kk, s, n1, li, co, w, hk, hr, hi, hx, hnx, hrun, hK⟩
  refine WpP.trim (ts := [0, 2, 3]) (WpP.weaken (e := envL .und [(3, .ptr x 0), (2, .ptr nx 0), (0, .ptr C.r 0)]) (EnvLe.of_list (by exact ⟨rfl, rfl, rfl, trivial⟩)) (WpP.of_vK mixed ?_))
  rw [LPost_eq]
  unfold LPost
  cases m with
  | zero => simp [Ps.run] at hrun
  | succ m =>
  have ih := ihs m (by omega)
  simp only [Ps.run] at hrun
  have hpan : PanOK Z K C.r fun l H nx2 => contAt PG (TriP PG) (LpP PG 30) 30 (codeOf PG f_rd_post) [1, 1, 0] (endK PG (lvSem (TriDP PG)) (lvcSem PG (TriDP PG)) K (resOf PG f_rd_post)) (.pan l) (envL .und [(0, .ptr C.r 0), (2, .ptr nx 0), (3, .ptr x 0)]) H nx2 [] none := .eq fun l H nx2 => PPost_eq (TriP PG) (LpP PG) (lvSem (TriDP PG)) (lvcSem PG (TriDP PG)) C.r nx x H nx2 K l
  refine now_call (C := ((C.add nx).add x)) hk hr hK fun H m1_26 h hk hK => ⟨_, _, _, _, _, rfl, ?_⟩
  refine tokIn (C := ((C.add nx).add x)) hk hr hK rfl fun Γ H hk hr ht kp hK => ?_
  replace hi := hi.keep kp; replace hx := hx.keep kp; replace hnx := hnx.keep hr.rex kp
  refine has_call (C := ((C.add nx).add x)) W hrun hk hr hK rfl (fun _ h => h) (fun Γ H m2_29 his hrun h hk kp hr hK => ⟨_, rfl, ifB_t rfl ?_⟩) (fun H m2_29 his hrun h hk hK => ⟨_, rfl, ifB_f rfl ?_⟩)
  ·
   replace hi := hi.keep kp; replace hx := hx.keep kp; replace hnx := hnx.keep hr.rex kp; replace ht := ht.keep kp
   refine rule_call (C := ((C.add nx).add x)) (fun Z ex res Γ H nx K h => ih.expr d hd Z ex _ res Γ H nx K h) hrun hk hr hK rfl hpan (fun _ h => h) fun t1 c1 kk1 s1 n1 li1 co1 w1 Γ H m3_32 e1 hrun h hk kp hw1 hn1 hr hK => ⟨_, _, _, _, _, _, rfl, ?_⟩
   replace hi := hi.keep kp; replace hx := hx.keep kp; replace hnx := hnx.keep hr.rex kp; replace ht := ht.keep kp
   refine nodeIn (C := ((C.add nx).add x)) hk hr hw1 hK rfl fun Γ H hk hr hb1 kp hK => ?_
   replace hi := hi.keep kp; replace hx := hx.keep kp; replace hnx := hnx.keep hr.rex kp; replace ht := ht.keep kp; replace hn1 := hn1.keep hr.rex kp
   refine need_call (C := ((C.add nx).add x)) W hrun hk hr hK rfl hpan (fun _ h => h) fun Γ H m4_36 his hrun h hk kp hr hK => ⟨_, _, _, _, _, rfl, ?_⟩
   replace hi := hi.keep kp; replace hx := hx.keep kp; replace hnx := hnx.keep hr.rex kp; replace ht := ht.keep kp; replace hn1 := hn1.keep hr.rex kp; replace hb1 := hb1.keep kp
   refine ⟨_, _, _, _, _, ht.tok hk, _, _, _, _, _, _, ldAll hk hx.e rfl, _, _, _, _, _, _, ldAll hk hb1.e rfl, ?_⟩
   refine blkIn (nx' := m4_36 + 1) (C := ((C.add nx).add x)) hk (Nat.le_refl _) (by omega) hr hK rfl fun Γ H hk hr hb hxhb kp hK => ?_
   replace hi := hi.keep kp; replace hx := hx.keep kp; replace hnx := hnx.keep hr.rex kp; replace ht := ht.keep kp; replace hn1 := hn1.keep hr.rex kp; replace hb1 := hb1.keep kp
   refine node_call (C := ((C.add nx).add x)) hk (KidsV.blk (n := 2) hxhb hb.e (.cons hnx hn1.one) rfl) hK fun H m8 h hk hn2 hw2 hK => ⟨_, _, _, _, _, _, rfl, ?_⟩
   refine stAll hk hx.e rfl (by simp only [allCell, hw2]; rfl) fun H hk => ?_
   replace hK := hK.upd (i := x) (cs := some [iv 32, .str [], iv 0, iv (Ps.tk C.l b).line, iv (Ps.tk C.l b).col, AVal.slice m4_36 0 2 6 true]) hm0 (by omega)
   replace hr := hr.upd (cs := [iv 32, .str [], iv 0, iv (Ps.tk C.l b).line, iv (Ps.tk C.l b).col, AVal.slice m4_36 0 2 6 true]) (b := x) hx.ne hm3
   replace hi := hi.set (i := x) (cs := some [iv 32, .str [], iv 0, iv (Ps.tk C.l b).line, iv (Ps.tk C.l b).col, AVal.slice m4_36 0 2 6 true]) (by omega)
   replace hx := hx.same (ds := [iv 32, .str [], iv 0, iv (Ps.tk C.l b).line, iv (Ps.tk C.l b).col, AVal.slice m4_36 0 2 6 true])
   replace hn2 := hn2.set (cs := some [iv 32, .str [], iv 0, iv (Ps.tk C.l b).line, iv (Ps.tk C.l b).col, AVal.slice m4_36 0 2 6 true])
   exact ⟨rfl, m, (), Nat.lt_succ_self m, EnvLe.of_list (by exact ⟨rfl, rfl, rfl, trivial⟩), by omega, by omega, _, _, _, _, _, _, _, _, _, hk, hr, hi, hx, hn2, hrun, hK⟩
  refine has_call (C := ((C.add nx).add x)) W hrun hk hr hK rfl (fun _ h => h) (fun Γ H m3_49 his hrun h hk kp hr hK => ⟨_, rfl, ifB_t rfl ?_⟩) (fun H m3_49 his hrun h hk hK => ⟨_, rfl, ifB_f rfl ?_⟩)
  ·
   replace hi := hi.keep kp; replace hx := hx.keep kp; replace hnx := hnx.keep hr.rex kp; replace ht := ht.keep kp
   replace hrun := (dot_bind (k := fun y c => Ps.run C.l m (.postGo y) d c)).trans hrun
   refine ⟨_, _, _, _, _, ht.tok hk, _, _, _, _, _, _, ldAll hk hx.e rfl, ?_⟩
   refine rule_one (one := dotR C.l m d (Ps.tk C.l b) t) (C := ((C.add nx).add x)) (fun res K h hM => dot_ok (C := ((C.add nx).add x)) W ih hd h hnx hk hr hM) hrun hK rfl hpan (fun _ h => h) fun t2 c2 kk2 s2 n2 li2 co2 w2 Γ H m8 e2 hrun h hk kp hw2 hn2 hr hK => ⟨_, _, _, _, _, _, rfl, ?_⟩
   replace hi := hi.keep kp; replace hx := hx.keep kp; replace hnx := hnx.keep hr.rex kp; replace ht := ht.keep kp
   refine stAll hk hx.e rfl (by simp only [allCell, hw2]; rfl) fun H hk => ?_
   replace hK := hK.upd (i := x) (cs := some [iv kk2, .str s2, iv n2, iv li2, iv co2, w2]) hm0 (by omega)
   replace hr := hr.upd (cs := [iv kk2, .str s2, iv n2, iv li2, iv co2, w2]) (b := x) hx.ne hm3
   replace hi := hi.set (i := x) (cs := some [iv kk2, .str s2, iv n2, iv li2, iv co2, w2]) (by omega)
   replace hx := hx.same (ds := [iv kk2, .str s2, iv n2, iv li2, iv co2, w2])
   replace hn2 := hn2.set (cs := some [iv kk2, .str s2, iv n2, iv li2, iv co2, w2])
   exact ⟨rfl, m, (), Nat.lt_succ_self m, EnvLe.of_list (by exact ⟨rfl, rfl, rfl, trivial⟩), by omega, by omega, _, _, _, _, _, _, _, _, _, hk, hr, hi, hx, hn2, hrun, hK⟩
  refine ⟨_, _, _, _, _, _, ldAll hk hx.e rfl, ?_⟩
  cases hrun
  obtain ⟨H2, q1, q2⟩ := fin6x hk hr hi hf hrex (mk_cells hnx) hnx rfl hK
  exact ⟨H2, q1, Eq.mpr (RPost_eq (TriP PG) (LpP PG) (lvSem (TriDP PG)) (lvcSem PG (TriDP PG)) C.r nx x H2 _ K) q2⟩
 ·rintro id _ H3 nx3 hx
  exact hx.elim
theorem binary_ok {k : Nat} (W : Toks C.l) (ihs : ∀ m, m ≤ n → IH C.l C.r C.tb m) (hd : d ≤ 40) (hrun : Ps.run C.l (n + 1) (.binary k) d a = some res) (hk : HZ Z Γ H nx) (hr : Rd Γ C a d) (hK : Meets Z K Γ nx C d res (NodeV C.ex)) : TriP PG f_rd_binary [.ptr C.r 0, iv k] H nx K := by
 refine TriP.of_body mixed ?_
 rw [Frd_binary_eq]
 unfold Frd_binary
 simp only [Ps.run] at hrun
 have ih := ihs n (Nat.le_refl n)
 have hrex := hr.rex
 refine begin6 hk hr hK fun Γ H hk hr hi hf hK kp => ?_
 refine rule_call (C := (C.add nx)) (fun Z ex res Γ H nx K h => ih.unary d hd Z ex _ res Γ H nx K h) hrun hk hr hK rfl .id (fun _ h => h) fun t0 c0 kk0 s0 n0 li0 co0 w0 Γ H x e0 hrun h hk kp hw0 hn0 hr hK => ⟨_, _, _, _, _, _, rfl, ?_⟩
 replace hi := hi.keep kp
 have hmE := hk.fresh (Nat.le_refl x)
 have hm0 := hK.none hmE (hr.r_ne hmE)
 have hm3 := hr.tb_ne hmE
 replace hn0 := hn0.raise hmE
 refine nodeIn (C := (C.add nx)) hk hr hw0 hK rfl fun Γ H hk hr hx kp hK => ?_
 replace hi := hi.keep kp
 replace hr : Rd Γ ((C.add nx).add x) _ d := hr.add (by rw [hx.e]; simp)
 replace hn0 := hn0.keep hr.rex kp
 refine loop_w (P := PG) (X := Unit) (Y := Unit) (fun _ => envL .und [(0, .ptr C.r 0), (1, iv k), (4, .ptr nx 0), (5, .ptr x 0)]) (fun _ => envL .und [])
  (fun m _ H1 m1 => x + 1 ≤ m1 ∧ m ≤ n ∧ ∃ Γ1 t b kk s n1 li co w, HZ Z Γ1 H1 m1 ∧ Rd Γ1 ((C.add nx).add x) b d ∧ Res Γ1 C nx ∧ At Γ1 C.r x [iv kk, .str s, iv n1, iv li, iv co, w] ∧ NodeC ((C.add nx).add x).ex Γ1 [iv kk, .str s, iv n1, iv li, iv co, w] t ∧ Ps.run C.l m (.binGo k t) d b = some res ∧ Owe Z K _ nx Γ1 m1 C d res (NodeV C.ex))
  (fun id _ H3 nx3 => False) n () (EnvLe.of_list (by exact ⟨rfl, rfl, rfl, rfl, trivial⟩))
  ⟨Nat.le_refl _, Nat.le_refl _, Γ, t0, c0, _, _, _, _, _, _, hk, hr, hi, hx, hn0, hrun, hK⟩ ?_ ?_
 ·rintro m _ H m1 ⟨h, hmn, Γ, t, b, kk, s, n1, li, co, w, hk, hr, hi, hx, hnx, hrun, hK⟩
  refine WpP.trim (ts := [0, 1, 4, 5]) (WpP.weaken (e := envL .und [(5, .ptr x 0), (4, .ptr nx 0), (1, iv k), (0, .ptr C.r 0)]) (EnvLe.of_list (by exact ⟨rfl, rfl, rfl, rfl, trivial⟩)) (WpP.of_vK mixed ?_))
  rw [LBin_eq]
  unfold LBin
  cases m with
  | zero => simp [Ps.run] at hrun
  | succ m =>
  have ih := ihs m (by omega)
  simp only [Ps.run] at hrun
  have hpan : PanOK Z K C.r fun l H nx2 => contAt PG (TriP PG) (LpP PG 36) 36 (codeOf PG f_rd_binary) [1, 1, 0] (endK PG (lvSem (TriDP PG)) (lvcSem PG (TriDP PG)) K (resOf PG f_rd_binary)) (.pan l) (envL .und [(0, .ptr C.r 0), (1, iv k), (4, .ptr nx 0), (5, .ptr x 0)]) H nx2 [] none := .eq fun l H nx2 => PBin_eq (TriP PG) (LpP PG) (lvSem (TriDP PG)) (lvcSem PG (TriDP PG)) C.r nx x k H nx2 K l
  refine now_call (C := ((C.add nx).add x)) hk hr hK fun H m1_26 h hk hK => ⟨_, _, _, _, _, rfl, ?_⟩
  refine tokIn (C := ((C.add nx).add x)) hk hr hK rfl fun Γ H hk hr ht kp hK => ?_
  replace hi := hi.keep kp; replace hx := hx.keep kp; replace hnx := hnx.keep hr.rex kp
  refine ⟨_, rfl, _, ht.ld hk 1, rank_ok (onEnd_ret.2 ⟨_, rfl, _, rfl, _, ht.ld hk 0, ?_⟩)⟩
  refine ifB_iff.2 ⟨fun h1 => ?_, fun h1 => ?_⟩
  ·
   have h1 : ¬ (Ps.tk C.l b).kind = 6 := by simpa using h1
   rw [if_neg (by simp [h1])] at hrun
   cases hrun
   obtain ⟨H2, q1, q2⟩ := fin6x hk hr hi hf hrex (mk_cells hnx) hnx rfl hK
   exact ⟨_, _, _, _, _, _, ldAll hk hx.e rfl, H2, q1, Eq.mpr (RBin_eq (TriP PG) (LpP PG) (lvSem (TriDP PG)) (lvcSem PG (TriDP PG)) C.r nx x k H2 _ K) q2⟩
  have h1 : (Ps.tk C.l b).kind = 6 := by simpa using h1
  refine ifB_iff.2 ⟨fun h2 => ?_, fun h2 => ?_⟩
  ·
   have h2 : Ps.rank (Ps.tk C.l b).text < (k : Int) := of_decide_eq_true h2
   rw [if_neg (by simp [h1]; omega)] at hrun
   cases hrun
   obtain ⟨H2, q1, q2⟩ := fin6x hk hr hi hf hrex (mk_cells hnx) hnx rfl hK
   exact ⟨_, _, _, _, _, _, ldAll hk hx.e rfl, H2, q1, Eq.mpr (RBin_eq (TriP PG) (LpP PG) (lvSem (TriDP PG)) (lvcSem PG (TriDP PG)) C.r nx x k H2 _ K) q2⟩
  have h2 : ¬ Ps.rank (Ps.tk C.l b).text < (k : Int) := of_decide_eq_false h2
  rw [if_pos (by simp [h1]; omega)] at hrun
  obtain ⟨rk, hrk, erk⟩ := rank_nat (Ps.tk C.l b).text
  refine next_ok (C := ((C.add nx).add x)) W hk hr (by show (Ps.tk C.l b).kind ≠ 0; rw [h1]; decide) fun Γ H mN h hk kp hr => onEnd_ret.2 ⟨_, _, _, _, _, rfl, ?_⟩
  replace hK := hK.from h kp
  replace hi := hi.keep kp; replace hx := hx.keep kp; replace hnx := hnx.keep hr.rex kp; replace ht := ht.keep kp
  refine ⟨_, _, _, _, _, ht.tok hk, _, rfl, _, ht.ld hk 1, _, _, _, _, _, _, ldAll hk hx.e rfl, ⟨⟨_, _, _, _, _, ht.tok hk, rfl⟩, ⟨_, ht.ld hk 1, rfl⟩, ⟨_, _, _, _, _, _, ldAll hk hx.e rfl, rfl⟩, trivial⟩, ?_⟩
  show TriP PG f_rd_binary [.ptr C.r 0, iv (IntKind.i64.wrap (Ps.rank (Ps.tk C.l b).text + 1))] H (mN + 11) _
  rw [erk] at hrun ⊢
  rw [wrap64_id (by omega) (by omega), show ((rk : Int) + 1) = ((rk + 1 : Nat) : Int) by omega]
  rw [show ((rk : Int) + 1) = ((rk + 1 : Nat) : Int) by omega] at hrun
  obtain ⟨hk', hni⟩ := reserve (i := mN + 8) (nx' := mN + 11) hk (by omega) (by omega)
  refine rule_call (C := ((C.add nx).add x)) (fun Z ex res Γ H nx K h => ih.binary (rk + 1) d hd Z ex _ res Γ H nx K h) hrun hk' hr (hK.from (by omega) (.refl _ _ _)) rfl hpan rz_in fun t1 c1 kk1 s1 n1 li1 co1 w1 Γ H m2_57 e1 hrun h hk kp hw1 hn1 hr hK => ⟨_, _, _, _, _, _, rfl, ?_⟩
  replace hi := hi.keep kp; replace hx := hx.keep kp; replace hnx := hnx.keep hr.rex kp; replace ht := ht.keep kp
  refine blkTake (C := ((C.add nx).add x)) hk hni hr hK rfl (by omega) fun Γ H hk hr hb hxhb kp hK => ?_
  replace hi := hi.keep kp; replace hx := hx.keep kp; replace hnx := hnx.keep hr.rex kp; replace ht := ht.keep kp; replace hn1 := hn1.keep hr.rex kp
  refine ⟨⟨⟨_, _, _, _, _, ht.tok hk, rfl⟩, ⟨_, ht.ld hk 1, rfl⟩, ⟨_, _, _, _, _, _, ldAll hk hx.e rfl, rfl⟩, trivial⟩, ?_⟩
  refine node_call (C := ((C.add nx).add x)) hk (KidsV.blk (n := 2) hxhb hb.e (.cons hnx hn1.one) rfl) hK fun H m8 h hk hn2 hw2 hK => ⟨_, _, _, _, _, _, rfl, trivial, ?_⟩
  obtain ⟨H2, q1, q2⟩ := stAll (k := fun H => HZ Z (gup x (some [iv 28, .str (Ps.tk C.l b).text, iv 0, iv (Ps.tk C.l b).line, iv (Ps.tk C.l b).col, AVal.slice (mN + 8) 0 2 6 true]) _) H _) hk hx.e (vs := [iv 28, .str (Ps.tk C.l b).text, iv 0, iv (Ps.tk C.l b).line, iv (Ps.tk C.l b).col, AVal.slice (mN + 8) 0 2 6 true]) rfl (by simp only [allCell, hw2]; rfl) fun H hk => hk
  refine ⟨H2, q1, trivial, ?_⟩
  replace hk := q2
  replace hK := hK.upd (i := x) (cs := some [iv 28, .str (Ps.tk C.l b).text, iv 0, iv (Ps.tk C.l b).line, iv (Ps.tk C.l b).col, AVal.slice (mN + 8) 0 2 6 true]) hm0 (by omega)
  replace hr := hr.upd (cs := [iv 28, .str (Ps.tk C.l b).text, iv 0, iv (Ps.tk C.l b).line, iv (Ps.tk C.l b).col, AVal.slice (mN + 8) 0 2 6 true]) (b := x) hx.ne hm3
  replace hi := hi.set (i := x) (cs := some [iv 28, .str (Ps.tk C.l b).text, iv 0, iv (Ps.tk C.l b).line, iv (Ps.tk C.l b).col, AVal.slice (mN + 8) 0 2 6 true]) (by omega)
  replace hx := hx.same (ds := [iv 28, .str (Ps.tk C.l b).text, iv 0, iv (Ps.tk C.l b).line, iv (Ps.tk C.l b).col, AVal.slice (mN + 8) 0 2 6 true])
  replace hn2 := hn2.set (cs := some [iv 28, .str (Ps.tk C.l b).text, iv 0, iv (Ps.tk C.l b).line, iv (Ps.tk C.l b).col, AVal.slice (mN + 8) 0 2 6 true])
  exact ⟨rfl, m, (), Nat.lt_succ_self m, EnvLe.of_list (by exact ⟨rfl, rfl, rfl, rfl, trivial⟩), by omega, by omega, _, _, _, _, _, _, _, _, _, hk, hr, hi, hx, hn2, hrun, hK⟩
 ·rintro id _ H3 nx3 hx
  exact hx.elim
end
end
end Go.Vs
end
section
namespace Go.Vs
open Go.Proofs
variable [GTab] {Z : Nat → Prop}
noncomputable section
section
variable {Γ0 Γ : GH} {n0 : Nat} {H : Heap} {nx a d n i : Nat} {C : RC} {K : EndP} {res : Except Flt (Tree × Nat)}
theorem recv_bind {β : Type} {l : List Tok} {a : Nat} {k : Tree × Nat → Rs β} : Ps.lift (Ps.recv l a) k = (if Ps.is l a [40] = true then Ps.lift (Ps.name l (a + 1)) fun b => Ps.lift (Ps.name l b) fun c => Ps.lift (Ps.need l c [41]) fun d => k (Ps.mk (Ps.tk l (a + 1)) 7 (Ps.tk l (a + 1)).text [Ps.mk (Ps.tk l b) 8 (Ps.tk l b).text []], d) else k (Ps.none_, a)) := by
 unfold Ps.recv
 split
 ·cases Ps.name l (a + 1) with
  | error f => rfl
  | ok b =>
   show Ps.lift (Ps.name l b >>= _) k = Ps.lift (Ps.name l b) _
   cases Ps.name l b with
   | error f => rfl
   | ok c =>
    show Ps.lift (Ps.need l c [41] >>= _) k = Ps.lift (Ps.need l c [41]) _
    cases Ps.need l c [41] <;> rfl
 ·rfl
theorem funcDecl_ok (W : Toks C.l) (ih : IH C.l C.r C.tb n) (hrun : Ps.funcDecl C.l n a = some res) (hk : HZ Z Γ H nx) (hr : Rd Γ C a 0) (hK : Meets Z K Γ nx C 0 res (NodeV C.ex)) : TriP PG f_rd_funcDecl [.ptr C.r 0] H nx K := by
 refine TriP.of_body mixed ?_
 rw [Frd_funcDecl_eq]
 unfold Frd_funcDecl
 unfold Ps.funcDecl Ps.result at hrun
 have hrex := hr.rex
 refine begin6 hk hr hK fun Γ H hk hr hi hf hK kp => ?_
 refine need_call (C := (C.add nx)) W hrun hk hr hK rfl .id (fun _ h => h) fun Γ H m1_2 his hrun h hk kp hr hK => ⟨_, _, _, _, _, rfl, ?_⟩
 replace hi := hi.keep kp
 refine tokIn (C := (C.add nx)) hk hr hK rfl fun Γ H hk hr ht kp hK => ?_
 replace hi := hi.keep kp
 refine none_call (C := C.add nx) hk hK fun H x h hk hn0 hK => ⟨_, _, _, _, _, _, rfl, ?_⟩
 have hmE := hk.fresh (Nat.le_refl x)
 have hm0 := hK.none hmE (hr.r_ne hmE)
 have hm3 := hr.tb_ne hmE
 replace hn0 := hn0.raise hmE
 refine nodeIn (C := (C.add nx)) hk hr rfl hK rfl fun Γ H hk hr hx kp hK => ?_
 replace hi := hi.keep kp; replace ht := ht.keep kp
 replace hr : Rd Γ ((C.add nx).add x) _ 0 := hr.add (by rw [hx.e]; simp)
 replace hn0 := hn0.keep hr.rex kp
 replace hrun := recv_bind.symm.trans hrun
 refine has_call (C := ((C.add nx).add x)) W hrun hk hr hK rfl (fun _ h => h) (fun Γ H m2_16 his hrun h hk kp hr hK => ⟨_, rfl, ifB_t rfl ?_⟩) (fun H m2_16 his hrun h hk hK => ⟨_, rfl, ifB_f rfl ?_⟩)
 ·
  replace hi := hi.keep kp; replace ht := ht.keep kp; replace hx := hx.keep kp; replace hn0 := hn0.keep hr.rex kp
  refine name_call (C := ((C.add nx).add x)) W hrun hk hr hK rfl .id (fun _ h => h) fun Γ H m3_19 hkd hrun h hk kp hr hK => ⟨_, _, _, _, _, rfl, ?_⟩
  replace hi := hi.keep kp; replace ht := ht.keep kp; replace hx := hx.keep kp; replace hn0 := hn0.keep hr.rex kp
  refine tokIn (C := ((C.add nx).add x)) hk hr hK rfl fun Γ H hk hr h1 kp hK => ?_
  replace hi := hi.keep kp; replace ht := ht.keep kp; replace hx := hx.keep kp; replace hn0 := hn0.keep hr.rex kp
  refine name_call (C := ((C.add nx).add x)) W hrun hk hr hK rfl .id (fun _ h => h) fun Γ H m4_23 hkd hrun h hk kp hr hK => ⟨_, _, _, _, _, rfl, ?_⟩
  replace hi := hi.keep kp; replace ht := ht.keep kp; replace hx := hx.keep kp; replace hn0 := hn0.keep hr.rex kp; replace h1 := h1.keep kp
  refine tokIn (C := ((C.add nx).add x)) hk hr hK rfl fun Γ H hk hr h2 kp hK => ?_
  replace hi := hi.keep kp; replace ht := ht.keep kp; replace hx := hx.keep kp; replace hn0 := hn0.keep hr.rex kp; replace h1 := h1.keep kp
  refine ⟨_, _, _, _, _, h1.tok hk, _, rfl, _, h1.ld hk 1, _, _, _, _, _, h2.tok hk, _, rfl, _, h2.ld hk 1, ⟨⟨_, _, _, _, _, h1.tok hk, rfl⟩, ⟨_, h1.ld hk 1, rfl⟩, ⟨_, _, _, _, _, h2.tok hk, rfl⟩, ⟨_, h2.ld hk 1, rfl⟩, trivial⟩, ?_⟩
  obtain ⟨hk', hni⟩ := reserve (i := m4_23 + 1 + 7) (nx' := m4_23 + 1 + 10) hk (by omega) (by omega)
  refine node_call (C := ((C.add nx).add x)) (ts := []) hk' .nil (hK.from (by omega) (.refl _ _ _)) fun H m7 h hk hn7 hw7 hK => ⟨_, _, _, _, _, _, rfl, ?_⟩
  refine blkTake (C := ((C.add nx).add x)) hk hni hr hK rfl (by omega) fun Γ H hk hr hb hxhb kp hK => ?_
  replace hi := hi.keep kp; replace ht := ht.keep kp; replace hx := hx.keep kp; replace hn0 := hn0.keep hr.rex kp; replace h1 := h1.keep kp; replace h2 := h2.keep kp
  replace hn7 := hn7.keep hr.rex kp
  refine ⟨⟨⟨_, _, _, _, _, h1.tok hk, rfl⟩, ⟨_, h1.ld hk 1, rfl⟩, trivial⟩, ?_⟩
  refine node_call (C := ((C.add nx).add x)) hk (KidsV.blk (n := 1) hxhb hb.e hn7.one rfl) hK fun H m8 h hk hn8 hw8 hK => ⟨_, _, _, _, _, _, rfl, trivial, ?_⟩
  obtain ⟨cs8, ecs8⟩ : ∃ cs, cs = [iv 7, .str (Ps.tk C.l (a + 1 + 1)).text, iv 0, iv (Ps.tk C.l (a + 1 + 1)).line, iv (Ps.tk C.l (a + 1 + 1)).col, AVal.slice (m4_23 + 1 + 7) 0 1 6 true] := ⟨_, rfl⟩
  obtain ⟨H2, q1, q2⟩ := stAll (k := fun H => HZ Z (gup x (some cs8) _) H _) hk hx.e (vs := cs8) (by rw [ecs8]; rfl) (by rw [ecs8]; simp only [allCell, hw8]; rfl) fun H hk => hk
  refine ⟨H2, by rw [ecs8] at q1; exact q1, trivial, ?_⟩
  replace hk := q2
  replace hK := hK.upd (i := x) (cs := some cs8) hm0 (by omega)
  replace hr := hr.upd (cs := cs8) (b := x) hx.ne hm3
  replace hi := hi.set (i := x) (cs := some cs8) (by omega)
  replace ht := ht.set (j := x) (ds := some cs8) (by omega)
  replace hx := hx.same (ds := cs8)
  replace hn0 := hn8.set (cs := some cs8)
  subst ecs8
  refine need_call (C := ((C.add nx).add x)) W hrun hk hr hK rfl .id (fun _ h => h) fun Γ H m5_46 his hrun h hk kp hr hK => ⟨_, _, _, _, _, rfl, ?_⟩
  replace hi := hi.keep kp; replace ht := ht.keep kp; replace hx := hx.keep kp; replace hn0 := hn0.keep hr.rex kp
  refine name_call (C := ((C.add nx).add x)) W hrun hk hr hK rfl .id (fun _ h => h) fun Γ H m6_48 hkd hrun h hk kp hr hK => ⟨_, _, _, _, _, rfl, ?_⟩
  replace hi := hi.keep kp; replace ht := ht.keep kp; replace hx := hx.keep kp; replace hn0 := hn0.keep hr.rex kp
  refine row_call (C := ((C.add nx).add x)) W (adv1 rfl) to_param (ih.param 0 (by omega)) hrun hk hr hK rfl .id (fun _ h => h) fun ts b v Γ H m7_50 erow hrun h hk kp hv hr hK => ?_
  replace hi := hi.keep kp; replace ht := ht.keep kp; replace hx := hx.keep kp; replace hn0 := hn0.keep hr.rex kp
  have hlen := row_len (adv1 (by rfl)) erow
  have hlt : b < C.l.length := hr.lt
  have hW := W.few
  refine rule_call (one := resOne C.l n 0) (C := ((C.add nx).add x)) (fun Z ex res Γ H nx K h h2 h3 h4 => result_ok (C := ⟨C.r, C.tb, C.l, ex⟩) W ih (by omega) h h2 h3 h4) hrun hk hr hK rfl .id (fun _ h => h) fun t1 c1 kk1 s1 n1 li1 co1 w1 Γ H m8_55 e1 hrun h hk kp hw1 hn1 hr hK => ⟨_, _, _, _, _, _, rfl, ?_⟩
  replace hi := hi.keep kp; replace ht := ht.keep kp; replace hx := hx.keep kp; replace hn0 := hn0.keep hr.rex kp; replace hv := hv.keep hr.rex kp
  refine nodeIn (C := ((C.add nx).add x)) hk hr hw1 hK rfl fun Γ H hk hr hb1 kp hK => ?_
  replace hi := hi.keep kp; replace ht := ht.keep kp; replace hx := hx.keep kp; replace hn0 := hn0.keep hr.rex kp; replace hv := hv.keep hr.rex kp; replace hn1 := hn1.keep hr.rex kp
  refine ⟨_, _, _, _, _, ht.tok hk, _, _, _, _, _, _, ldAll hk hx.e rfl, _, _, _, _, _, _, ldAll hk hb1.e rfl, ⟨⟨_, _, _, _, _, ht.tok hk, rfl⟩, ⟨_, _, _, _, _, _, ldAll hk hx.e rfl, rfl⟩, ⟨_, _, _, _, _, _, ldAll hk hb1.e rfl, rfl⟩, trivial⟩, ?_⟩
  obtain ⟨hk', hni⟩ := reserve (i := m8_55 + 1 + 6) (nx' := m8_55 + 1 + 11) hk (by omega) (by omega)
  refine rule_call (C := ((C.add nx).add x)) (fun Z ex res Γ H nx K h => ih.block 0 (by omega) Z ex _ res Γ H nx K h) hrun hk' hr (hK.from (by omega) (.refl _ _ _)) rfl .id rz_in fun t2 c2 kk2 s2 n2 li2 co2 w2 Γ H m9_61 e2 hrun h hk kp hw2 hn2 hr hK => ⟨_, _, _, _, _, _, rfl, ?_⟩
  replace hi := hi.keep kp; replace ht := ht.keep kp; replace hx := hx.keep kp; replace hn0 := hn0.keep hr.rex kp; replace hv := hv.keep hr.rex kp; replace hn1 := hn1.keep hr.rex kp
  replace hb1 := hb1.keep kp
  refine blkTake (C := ((C.add nx).add x)) hk hni hr hK rfl (by omega) fun Γ H hk hr hb hxhb kp hK => ?_
  replace hi := hi.keep kp; replace ht := ht.keep kp; replace hx := hx.keep kp; replace hn0 := hn0.keep hr.rex kp; replace hv := hv.keep hr.rex kp; replace hn1 := hn1.keep hr.rex kp
  replace hb1 := hb1.keep kp; replace hn2 := hn2.keep hr.rex kp
  refine ⟨⟨⟨_, _, _, _, _, ht.tok hk, rfl⟩, ⟨_, _, _, _, _, _, ldAll hk hx.e rfl, rfl⟩, ⟨_, _, _, _, _, _, ldAll hk hb1.e rfl, rfl⟩, trivial⟩, ?_⟩
  refine appK (t1 := [_, _, _]) (C := ((C.add nx).add x)) hk hr hb.e hxhb (.cons hn0 (.cons hn1 hn2.one)) (by simp) hv (by simp; omega) rfl fun w Γ H m9 h hk kp hr hv => ?_
  replace hi := hi.keep kp; replace ht := ht.keep kp; replace hx := hx.keep kp; replace hn0 := hn0.keep hr.rex kp; replace hn1 := hn1.keep hr.rex kp; replace hb1 := hb1.keep kp
  replace hn2 := hn2.keep hr.rex kp; replace hb := hb.keep kp
  replace hK := hK.from h kp
  cases hrun
  exact ⟨⟨⟨_, _, _, _, _, ht.tok hk, rfl⟩, trivial⟩, node_finT hk (hr.less (.inr hrex)) hi hf hrex (hv.mono (fun _ h => .inr h) fun _ _ _ h => h) rfl hK⟩
 refine name_call (C := ((C.add nx).add x)) W hrun hk hr hK rfl .id (fun _ h => h) fun Γ H m3_74 hkd hrun h hk kp hr hK => ⟨_, _, _, _, _, rfl, ?_⟩
 replace hi := hi.keep kp; replace ht := ht.keep kp; replace hx := hx.keep kp; replace hn0 := hn0.keep hr.rex kp
 refine row_call (C := ((C.add nx).add x)) W (adv1 rfl) to_param (ih.param 0 (by omega)) hrun hk hr hK rfl .id (fun _ h => h) fun ts b v Γ H m4_76 erow hrun h hk kp hv hr hK => ?_
 replace hi := hi.keep kp; replace ht := ht.keep kp; replace hx := hx.keep kp; replace hn0 := hn0.keep hr.rex kp
 have hlen := row_len (adv1 (by rfl)) erow
 have hlt : b < C.l.length := hr.lt
 have hW := W.few
 refine rule_call (one := resOne C.l n 0) (C := ((C.add nx).add x)) (fun Z ex res Γ H nx K h h2 h3 h4 => result_ok (C := ⟨C.r, C.tb, C.l, ex⟩) W ih (by omega) h h2 h3 h4) hrun hk hr hK rfl .id (fun _ h => h) fun t1 c1 kk1 s1 n1 li1 co1 w1 Γ H m5_81 e1 hrun h hk kp hw1 hn1 hr hK => ⟨_, _, _, _, _, _, rfl, ?_⟩
 replace hi := hi.keep kp; replace ht := ht.keep kp; replace hx := hx.keep kp; replace hn0 := hn0.keep hr.rex kp; replace hv := hv.keep hr.rex kp
 refine nodeIn (C := ((C.add nx).add x)) hk hr hw1 hK rfl fun Γ H hk hr hb1 kp hK => ?_
 replace hi := hi.keep kp; replace ht := ht.keep kp; replace hx := hx.keep kp; replace hn0 := hn0.keep hr.rex kp; replace hv := hv.keep hr.rex kp; replace hn1 := hn1.keep hr.rex kp
 refine ⟨_, _, _, _, _, ht.tok hk, _, _, _, _, _, _, ldAll hk hx.e rfl, _, _, _, _, _, _, ldAll hk hb1.e rfl, ⟨⟨_, _, _, _, _, ht.tok hk, rfl⟩, ⟨_, _, _, _, _, _, ldAll hk hx.e rfl, rfl⟩, ⟨_, _, _, _, _, _, ldAll hk hb1.e rfl, rfl⟩, trivial⟩, ?_⟩
 obtain ⟨hk', hni⟩ := reserve (i := m5_81 + 1 + 6) (nx' := m5_81 + 1 + 11) hk (by omega) (by omega)
 refine rule_call (C := ((C.add nx).add x)) (fun Z ex res Γ H nx K h => ih.block 0 (by omega) Z ex _ res Γ H nx K h) hrun hk' hr (hK.from (by omega) (.refl _ _ _)) rfl .id rz_in fun t2 c2 kk2 s2 n2 li2 co2 w2 Γ H m6_87 e2 hrun h hk kp hw2 hn2 hr hK => ⟨_, _, _, _, _, _, rfl, ?_⟩
 replace hi := hi.keep kp; replace ht := ht.keep kp; replace hx := hx.keep kp; replace hn0 := hn0.keep hr.rex kp; replace hv := hv.keep hr.rex kp; replace hn1 := hn1.keep hr.rex kp
 replace hb1 := hb1.keep kp
 refine blkTake (C := ((C.add nx).add x)) hk hni hr hK rfl (by omega) fun Γ H hk hr hb hxhb kp hK => ?_
 replace hi := hi.keep kp; replace ht := ht.keep kp; replace hx := hx.keep kp; replace hn0 := hn0.keep hr.rex kp; replace hv := hv.keep hr.rex kp; replace hn1 := hn1.keep hr.rex kp
 replace hb1 := hb1.keep kp; replace hn2 := hn2.keep hr.rex kp
 refine ⟨⟨⟨_, _, _, _, _, ht.tok hk, rfl⟩, ⟨_, _, _, _, _, _, ldAll hk hx.e rfl, rfl⟩, ⟨_, _, _, _, _, _, ldAll hk hb1.e rfl, rfl⟩, trivial⟩, ?_⟩
 refine appK (t1 := [_, _, _]) (C := ((C.add nx).add x)) hk hr hb.e hxhb (.cons hn0 (.cons hn1 hn2.one)) (by simp) hv (by simp; omega) rfl fun w Γ H m9 h hk kp hr hv => ?_
 replace hi := hi.keep kp; replace ht := ht.keep kp; replace hx := hx.keep kp; replace hn0 := hn0.keep hr.rex kp; replace hn1 := hn1.keep hr.rex kp; replace hb1 := hb1.keep kp
 replace hn2 := hn2.keep hr.rex kp; replace hb := hb.keep kp
 replace hK := hK.from h kp
 cases hrun
 exact ⟨⟨⟨_, _, _, _, _, ht.tok hk, rfl⟩, trivial⟩, node_finT hk (hr.less (.inr hrex)) hi hf hrex (hv.mono (fun _ h => .inr h) fun _ _ _ h => h) rfl hK⟩
theorem decl_tail {Γ3 Γ4 Γ6 : GH} {N nk nx6 b c : Nat} {o : AVal} {ts : List Tree} {x : Tree} {H6 : Heap} {kk nn li co : Int} {s : List UInt8} {w : AVal} {N' : AVal → Heap → Nat → Prop} {P1 P2 : List (AVal × Bool) → AVal → Heap → Nat → Prop} (W : Toks C.l) (gr : Grow C N Γ3 Γ4 o ts) (hr3 : Rd Γ3 C b 0)
  (g2 : HZ Z Γ6 H6 nx6) (g3 : KeepX C.r nk Γ4 Γ6) (h1 : N ≤ nk) (h2 : N ≤ nx6) (g5 : Rd Γ6 (C.own o) c 0) (hw : cellv w = true) (hn : NodeC (C.own o).ex Γ6 [iv kk, .str s, iv nn, iv li, iv co, w] x) (hts : ts.length ≤ 50000)
  (hneed : Ps.is C.l c [59] = false → ∀ v Γ7 H nx, N ≤ nx → HZ Z Γ7 H nx → KeepX C.r N Γ3 Γ7 → RdP Γ7 C.r → P2 [(fltV (Ps.flt C.l c 13), false)] v H nx)
  (hgo : Ps.is C.l c [59] = true → ∀ v Γ9 Γ10 H nx, nx6 ≤ nx → HZ Z Γ10 H nx → KeepX C.r N Γ3 Γ9 → Rd Γ9 C (Ps.gaps C.l (c + 1)) 0 → Grow C N Γ9 Γ10 v (ts ++ [x]) → N' v H nx) :
  ∃ H24, H24 = newB nx6 [iv kk, .str s, iv nn, iv li, iv co, w] H6 ∧ ∃ i25 l26, aSrc 6 H24 (AVal.slice nx6 0 1 6 true) = some (i25, l26) ∧ allCell l26 = true ∧ ∃ v27 H28 i29, appC H24 (nx6 + 1) 6 72 o i25 l26 = some (v27, H28, i29) ∧
   TriP PG f_rd_need [AVal.ptr C.r 0, AVal.str [59]] H28 i29 fun e H31 i32 => onEnd e (fun v33 => ∃ (n34 : Int) (s35 : List UInt8) (n36 n37 n38 : Int), v33 = AVal.agg [iv n34, AVal.str s35, iv n36, iv n37, iv n38] ∧
    TriP PG f_rd_gaps [AVal.ptr C.r 0] H31 i32 fun e H40 i41 => onEnd e (fun v42 => N' v27 H40 i41) fun l43 => P1 l43 v27 H40 i41) fun l44 => P2 l44 v27 H31 i32 := by
 have hf6 := g2.fresh (Nat.le_refl nx6)
 refine scrN g2 (nx' := nx6 + 1) (Nat.le_refl _) (by omega) fun H7 g7 => ?_
 have hn7 : NodeC (C.own o).ex (gup nx6 (some [iv kk, .str s, iv nn, iv li, iv co, w]) Γ6) [iv kk, .str s, iv nn, iv li, iv co, w] x := hn.mono (fun _ h => h) fun c ds _ e => by rw [gup_ne fun x => by rw [x, hf6] at e; cases e]; exact e
 have hr7 : Rd (gup nx6 (some [iv kk, .str s, iv nn, iv li, iv co, w]) Γ6) (C.own o) c 0 := g5.new hf6
 have g37 : KeepX C.r N Γ4 (gup nx6 (some [iv kk, .str s, iv nn, iv li, iv co, w]) Γ6) := g3.le.trans (.new (nx := N) hf6)
 obtain ⟨v, H8, nx8, Γ8, Γ9, a1, a2, a3, a4, a5, a6⟩ := gr.more hr3 g7 g37 (by omega) (by omega) hr7 hn7 (by omega)
 refine ⟨1, [iv kk, .str s, iv nn, iv li, iv co, w], ?_, by simp only [allCell, hw]; rfl, v, H8, nx8, a1, ?_⟩
 ·rw [g7.src (gup_same _ _ _) (by simp)]; simp
 have hr9 := a6.rd' a5
 refine need_ok' W a3 hr9 (fun h11 H11 nx11 g11 hk11 => onEnd_pan.2 (hneed h11 _ _ _ _ (by omega) hk11 (a4.trans a6.keep) hr9.p)) fun h11 Γ11 H11 nx11 g11 hk11 kp11 hr11 => onEnd_ret.2 ⟨_, _, _, _, _, rfl, ?_⟩
 refine gaps_ok W hk11 hr11 fun Γ12 H12 nx12 h12 hk12 kp12 hr12 => onEnd_ret.2 ?_
 obtain ⟨Γ13, b1, b2, b3⟩ := a6.next a5 (kp11.trans kp12) (by omega) hr12
 exact hgo h11 _ _ _ _ _ (by omega) hk12 (a4.trans b2) b3 b1
theorem typeDecl_adv {l : List Tok} {n : Nat} : Ps.AdvOK (Ps.typeDecl l n) := fun a t b h => by
 unfold Ps.typeDecl at h
 refine Ps.lift_el h fun a1 h1 h => Ps.lift_el h fun b1 h2 h => Ps.ite_el h (fun _ h => Ps.bind_el h fun xs c h3 h => Ps.ok_el h fun h4 h5 => ?_) fun _ h => Ps.lift_el h fun b2 h6 h => Ps.bind_el h fun xs c h3 h => Ps.ok_el h fun h4 h5 => ?_
 ·have := Ps.need_ok h1; have := Ps.name_ok h2; have := Ps.list_adv (adv1 rfl) h3; omega
 ·have := Ps.need_ok h1; have := Ps.name_ok h2; have := Ps.need_ok h6; have := Ps.list_adv (adv1 rfl) h3; omega
theorem funcDecl_adv {l : List Tok} {n : Nat} : Ps.AdvOK (Ps.funcDecl l n) := fun a t b h => by
 unfold Ps.funcDecl Ps.result at h
 refine Ps.lift_el h fun a1 h1 h => ?_
 replace h := recv_bind.symm.trans h
 have h1 := Ps.need_ok h1
 have key : ∀ {rv : Tree} {a2 : Nat} {h' : Ps.lift (Ps.name l a2) (fun c => Rs.bind (Ps.row l (Ps.run l n .param 0) n c) fun (ps, d) => Rs.bind (if ((Ps.tk l d).kind == 2 || Ps.isTyp l d || Ps.is l d [91]) = true then Ps.run l n .typ 0 d else Rs.ok (Ps.none_, d)) fun (y, e) => Rs.bind (Ps.run l n .block 0 e) fun (body, f) => Rs.ok (Ps.mk (Ps.tk l a) 6 (Ps.tk l a2).text (rv :: y :: body :: ps), f)) = some (.ok (t, b))}, a2 + 1 ≤ b := by
  intro rv a2 h
  refine Ps.lift_el h fun c h2 h => Ps.bind_el h fun ps d h3 h => Ps.bind_el h fun y e h4 h => Ps.bind_el h fun body f h5 h => Ps.ok_el h fun _ h6 => ?_
  have := Ps.name_ok h2; have := Ps.row_adv (adv1 rfl) h3; have := Ps.run_adv l n .block 0 e body f h5
  have h4 : d ≤ e := by
   refine Ps.ite_el h4 (fun _ h => ?_) fun _ h => Ps.ok_el h fun _ h => by omega
   have := Ps.run_adv l n .typ 0 d y e h; omega
  omega
 refine Ps.ite_el h (fun _ h => Ps.lift_el h fun b1 h2 h => Ps.lift_el h fun c1 h3 h => Ps.lift_el h fun d1 h4 h => ?_) fun _ h => ?_
 ·have := key (h' := h); have := Ps.name_ok h2; have := Ps.name_ok h3; have := Ps.need_ok h4; omega
 ·have := key (h' := h); omega
theorem file_ok {res0 : Except Flt Tree} (W : Toks C.l) (ih : IH C.l C.r C.tb n) (hrun : Ps.file C.l n = some res0) (hk : HZ Z Γ H nx) (hr : Rd Γ C 0 0)
  (hK : Meets Z K Γ nx C 0 (match res0 with | .ok t => .ok (t, C.l.length - 1) | .error f => .error f) (NodeV C.ex)) : TriP PG f_rd_file [.ptr C.r 0] H nx K := by
 refine TriP.of_body mixed ?_
 rw [Frd_file_eq]
 unfold Frd_file
 have hrex := hr.rex
 refine begin6 hk hr hK fun Γ1 H hk hr hi hf hK kp => ?_
 refine now_call (C := C.add nx) hk hr hK fun H m1 h hk hK => ⟨_, _, _, _, _, rfl, ?_⟩
 refine tokIn (C := C.add nx) hk hr hK rfl fun Γ1 H hk hr ht kp hK => ?_
 replace hi := hi.keep kp
 refine gaps_ok (C := C.add nx) W hk hr fun Γ2 H nx2 h2 hk2 kp2 hr2 => onEnd_ret.2 ?_
 replace hi := hi.keep kp2; replace ht := ht.keep kp2; replace hK := hK.from h2 kp2
 obtain ⟨res', hgo, hres⟩ : ∃ res', Ps.declsGo C.l n n (Ps.gaps C.l 0) = some res' ∧ res0 = (match res' with | .ok xs => .ok (Ps.mk (Ps.tk C.l 0) 1 [] xs) | .error f => .error f) := by
  unfold Ps.file at hrun
  rcases Ps.bind_some hrun with ⟨f, e1, e2⟩ | ⟨xs, e1, e2⟩
  ·exact ⟨_, e1, e2⟩
  ·exact ⟨_, e1, by cases e2; rfl⟩
 refine loop_w (P := PG) (X := AVal) (Y := AVal) (fun o => envL .und [(0, .ptr C.r 0), (2, .ptr nx 0), (3, .ptr m1 0), (4, o)]) (fun o => envL .und [(2, .ptr nx 0), (3, .ptr m1 0), (4, o)])
  (fun m o H3 nx3 => nx2 ≤ nx3 ∧ ∃ Γ3 Γ4 ts b res', HZ Z Γ4 H3 nx3 ∧ KeepX C.r nx2 Γ2 Γ3 ∧ Rd Γ3 (C.add nx) b 0 ∧ Grow (C.add nx) nx2 Γ3 Γ4 o ts ∧ ts.length ≤ b ∧ Ps.declsGo C.l n m b = some res' ∧ res0 = (match res' with | .ok xs => .ok (Ps.mk (Ps.tk C.l 0) 1 [] (ts ++ xs)) | .error f => .error f))
  (fun id o H3 nx3 => id = 0 ∧ nx2 ≤ nx3 ∧ ∃ Γ3 ts b, HZ Z Γ3 H3 nx3 ∧ KeepX C.r nx2 Γ2 Γ3 ∧ Rd Γ3 (C.add nx) b 0 ∧ b = C.l.length - 1 ∧ KidsV (C.add nx).ex Γ3 o ts ∧ res0 = .ok (Ps.mk (Ps.tk C.l 0) 1 [] ts)) n .nilSlice (EnvLe.of_list (by exact ⟨rfl, rfl, rfl, rfl, trivial⟩))
  ⟨Nat.le_refl _, Γ2, Γ2, [], _, res', hk2, .refl _ _ _, hr2, .inl ⟨rfl, rfl, rfl⟩, by simp, hgo, by rw [hres]; rfl⟩ ?_ ?_
 ·rintro m o H3 nx3 ⟨h3, Γ3, Γ4, ts, b, res', hk4, kp3, hr3, gr, hts, hgo, hres⟩
  refine WpP.trim (ts := [0, 2, 3, 4]) (WpP.weaken (e := envL .und [(4, o), (3, .ptr m1 0), (2, .ptr nx 0), (0, .ptr C.r 0)]) (EnvLe.of_list (by exact ⟨rfl, rfl, rfl, rfl, trivial⟩)) (WpP.of_vK mixed ?_))
  rw [LFile_eq]
  unfold LFile
  have hr4 := gr.rd' hr3
  cases m with
  | zero => simp [Ps.declsGo] at hgo
  | succ m =>
  unfold Ps.declsGo at hgo
  refine now_ok (C := C.add nx) hk4 hr4 fun H5 nx5 h5 hk5 => onEnd_ret.2 ⟨_, _, _, _, _, rfl, ifB_iff.2 ⟨fun h1 => ?_, fun h1 => ?_⟩⟩
  ·have h1 : ¬ (Ps.tk C.l b).kind = 0 := by simpa using h1
   rw [if_neg (by simp [h1])] at hgo
   have hWf := W.few
   have hcl : b < C.l.length := hr3.lt
   have on : ∀ {g : FuncId} {one : Nat → Rs (Tree × Nat)} {H6 nx6} {R1 : AVal → Heap → Nat → Prop} {P0 : List (AVal × Bool) → Heap → Nat → Prop}, RuleOK C.l C.r C.tb 0 g one → Ps.AdvOK one → nx3 ≤ nx6 → HZ Z Γ4 H6 nx6 →
     (Rs.bind (one b) fun (x, b) => Ps.lift (Ps.need C.l b [59]) fun c => Rs.bind (Ps.declsGo C.l n m (Ps.gaps C.l c)) fun xs => Rs.ok (x :: xs)) = some res' →
     (∀ f Γ7 H7 nx7, res' = .error f → nx2 ≤ nx7 → HZ Z Γ7 H7 nx7 → KeepX C.r nx2 Γ2 Γ7 → RdP Γ7 C.r → P0 [(fltV f, false)] H7 nx7) →
     (∀ x c kk s nn li co w Γ7 H7 nx7, one b = some (.ok (x, c)) → nx6 ≤ nx7 → HZ Z Γ7 H7 nx7 → KeepX C.r nx6 Γ4 Γ7 → cellv w = true → NodeC ((C.add nx).own o).ex Γ7 [iv kk, .str s, iv nn, iv li, iv co, w] x → Rd Γ7 ((C.add nx).own o) c 0 →
      (Ps.lift (Ps.need C.l c [59]) fun c => Rs.bind (Ps.declsGo C.l n m (Ps.gaps C.l c)) fun xs => Rs.ok (x :: xs)) = some res' → R1 (.agg [iv kk, .str s, iv nn, iv li, iv co, w]) H7 nx7) →
     TriP PG g [.ptr C.r 0] H6 nx6 fun e H' nx' => onEnd e (fun v => R1 v H' nx') fun l => P0 l H' nx' := by
    intro g one H6 nx6 R1 P0 hone hadv h6 hk6 hgo hbad hok
    rcases Ps.bind_some hgo with ⟨f, e1, e2⟩ | ⟨⟨x, c⟩, e1, hgo⟩
    ·refine hone.on (CC := (C.add nx).own o) ((C.add nx).own_l o) ((C.add nx).own_r o) ((C.add nx).own_tb o) e1 hk6 (gr.rd hr3) (.on (fun x b v Γ' H' nx' e => by cases e) fun f' Γ' H' nx' e g1 g2 g3 g4 => ?_)
     cases e
     rw [RC.own_r] at g3 g4
     exact hbad f _ _ _ e2 (by omega) g2 ((kp3.trans gr.keep).trans g3) g4
    ·refine hone.on (CC := (C.add nx).own o) ((C.add nx).own_l o) ((C.add nx).own_r o) ((C.add nx).own_tb o) e1 hk6 (gr.rd hr3) (.on (fun x' b' v Γ6 H6 nx6 e g1 g2 g3 g4 g5 => ?_) fun f' Γ' H' nx' e => by cases e)
     cases e
     obtain ⟨k, s, nn, li, co, w, rfl, hw, hn⟩ := g4.cells
     rw [RC.own_r] at g3
     exact hok _ _ _ _ _ _ _ _ _ _ _ e1 g1 g2 g3 hw hn g5 hgo
   refine is_ok (C := C.add nx) hk5 hr4 fun H6 nx6 h6 hk6 => onEnd_ret.2 ⟨_, rfl, ifB_iff.2 ⟨fun h7 => ?_, fun h7 => ?_⟩⟩
   ·have h7 : Ps.is C.l b Ps.wType = true := h7
    rw [h7] at hgo
    refine on (one := Ps.typeDecl C.l n) (fun Z ex a res Γ H nx K e1 e2 e3 e4 => typeDecl_ok (C := ⟨C.r, C.tb, C.l, ex⟩) W ih e1 e2 e3 e4) typeDecl_adv (by omega) hk6 hgo (fun f Γ7 H7 nx7 e g1 g2 g3 g4 => ?_) fun x c kk s nn li co w Γ7 H7 nx7 e1 g1 g2 g3 g4 g5 g6 hgo => ⟨_, _, _, _, _, _, rfl, ?_⟩
    ·subst e
     exact (hK.from g1 g3).pan (by rw [hres]) g2 g4
    ·have hadv := typeDecl_adv _ _ _ e1
     have hcl : c < C.l.length := by have := g6.lt; rwa [RC.own_l] at this
     refine decl_tail (C := C.add nx) W gr hr3 g2 g3 (by omega) (by omega) g6 g4 g5 (by omega) (fun e v Γ8 H8 nx8 q1 q2 q3 q4 => ?_) fun e v Γ9 Γ10 H8 nx8 q1 q2 q3 q4 q5 => ?_
     ·have e' : res' = .error (Ps.flt C.l c 13) := by simp [Ps.need, e, Ps.lift] at hgo; exact hgo.symm
      exact (hK.from q1 (kp3.trans q3)).pan (by rw [hres, e']) q2 q4
     ·have hgo : Rs.bind (Ps.declsGo C.l n m (Ps.gaps C.l (c + 1))) (fun xs => Rs.ok (x :: xs)) = some res' := by simpa [Ps.need, e, Ps.lift] using hgo
      have := Ps.gaps_le C.l (c + 1)
      rcases Ps.bind_some hgo with ⟨f, e4, e5⟩ | ⟨xs, e4, e5⟩
      ·exact ⟨rfl, m, v, Nat.lt_succ_self m, EnvLe.refl _, by omega, Γ9, Γ10, ts ++ [x], _, _, q2, kp3.trans q3, q4, q5, by simp; omega, e4, by rw [hres, e5]⟩
      ·exact ⟨rfl, m, v, Nat.lt_succ_self m, EnvLe.refl _, by omega, Γ9, Γ10, ts ++ [x], _, _, q2, kp3.trans q3, q4, q5, by simp; omega, e4, by cases e5; rw [hres]; simp⟩
   ·have h7 : Ps.is C.l b Ps.wType = false := h7
    rw [h7] at hgo
    refine is_ok (C := C.add nx) hk6 hr4 fun H6 nx6 h6 hk6 => onEnd_ret.2 ⟨_, rfl, ifB_iff.2 ⟨fun h8 => ?_, fun h8 => ?_⟩⟩
    ·have h8 : Ps.is C.l b Ps.wFunc = true := h8
     rw [h8] at hgo
     refine on (one := Ps.funcDecl C.l n) (fun Z ex a res Γ H nx K e1 e2 e3 e4 => funcDecl_ok (C := ⟨C.r, C.tb, C.l, ex⟩) W ih e1 e2 e3 e4) funcDecl_adv (by omega) hk6 hgo (fun f Γ7 H7 nx7 e g1 g2 g3 g4 => ?_) fun x c kk s nn li co w Γ7 H7 nx7 e1 g1 g2 g3 g4 g5 g6 hgo => ⟨_, _, _, _, _, _, rfl, ?_⟩
     ·subst e
      exact (hK.from g1 g3).pan (by rw [hres]) g2 g4
     ·have hadv := funcDecl_adv _ _ _ e1
      have hcl : c < C.l.length := by have := g6.lt; rwa [RC.own_l] at this
      refine decl_tail (C := C.add nx) W gr hr3 g2 g3 (by omega) (by omega) g6 g4 g5 (by omega) (fun e v Γ8 H8 nx8 q1 q2 q3 q4 => ?_) fun e v Γ9 Γ10 H8 nx8 q1 q2 q3 q4 q5 => ?_
      ·have e' : res' = .error (Ps.flt C.l c 13) := by simp [Ps.need, e, Ps.lift] at hgo; exact hgo.symm
       exact (hK.from q1 (kp3.trans q3)).pan (by rw [hres, e']) q2 q4
      ·have hgo : Rs.bind (Ps.declsGo C.l n m (Ps.gaps C.l (c + 1))) (fun xs => Rs.ok (x :: xs)) = some res' := by simpa [Ps.need, e, Ps.lift] using hgo
       have := Ps.gaps_le C.l (c + 1)
       rcases Ps.bind_some hgo with ⟨f, e4, e5⟩ | ⟨xs, e4, e5⟩
       ·exact ⟨rfl, m, v, Nat.lt_succ_self m, EnvLe.refl _, by omega, Γ9, Γ10, ts ++ [x], _, _, q2, kp3.trans q3, q4, q5, by simp; omega, e4, by rw [hres, e5]⟩
       ·exact ⟨rfl, m, v, Nat.lt_succ_self m, EnvLe.refl _, by omega, Γ9, Γ10, ts ++ [x], _, _, q2, kp3.trans q3, q4, q5, by simp; omega, e4, by cases e5; rw [hres]; simp⟩
    ·have h8 : Ps.is C.l b Ps.wFunc = false := h8
     rw [h8] at hgo
     have e' : res' = .error (Ps.flt C.l b 13) := by cases hgo; rfl
     exact fault_ok (C := C.add nx) hk6 hr4 fun H9 nx9 h9 hk9 => onEnd_pan.2 ((hK.from (by omega : nx2 ≤ nx9) (kp3.trans gr.keep)).pan (by rw [hres, e']) hk9 hr4.p)
  ·have h1 : (Ps.tk C.l b).kind = 0 := by simpa using h1
   rw [if_pos (by simp [h1])] at hgo
   cases hgo
   have hb : b = C.l.length - 1 := by
    have := hr3.lt
    by_cases hb : b + 1 < C.l.length
    ·exact absurd h1 (W.rest b hb)
    ·have : b < C.l.length := this
     omega
   exact ⟨rfl, o, EnvLe.of_list (by exact ⟨rfl, rfl, rfl, trivial⟩), rfl, by omega, Γ4, ts, b, hk5, kp3.trans gr.keep, hr4, hb, gr.v hr3, by simpa using hres⟩
 ·rintro id o H3 nx3 ⟨rfl, h3, Γ3, ts, b, hk3, kp3, hr3, hb, hv, hres⟩
  refine Eq.mpr (AFile_eq (TriP PG) (LpP PG) (lvSem (TriDP PG)) (lvcSem PG (TriDP PG)) m1 nx o H3 nx3 K) ?_
  unfold AFile
  replace hi := hi.keep kp3; replace ht := ht.keep kp3; replace hK := hK.from h3 kp3
  subst hb
  refine ⟨_, _, _, _, _, ht.tok hk3, node_fin hk3 hr3 hi hf hrex hv (by rw [hres]) hK⟩
end
end
end Go.Vs
end
section
namespace Go.Vs
open Go.Proofs
variable [GTab]
noncomputable section
theorem ih_all {l : List Tok} {r tb : Nat} (W : Toks l) (n : Nat) : IH l r tb n := by
 induction n using Nat.strongRecOn with
 | _ n ih =>
  cases n with
  | zero =>
   refine ⟨?_, ?_, ?_, ?_, ?_, ?_, ?_, ?_, ?_, ?_, ?_, ?_⟩
   all_goals first
    | (intro d hd Z ex a res Γ H nx K h; simp [Ps.run] at h; done)
    | (intro k d hd Z ex a res Γ H nx K h; simp [Ps.run] at h; done)
  | succ n =>
   have i := ih n (Nat.lt_succ_self n)
   have is : ∀ m, m ≤ n → IH l r tb m := fun m h => ih m (by omega)
   exact ⟨fun d hd Z ex a res Γ H nx K h1 h2 h3 h4 => typ_ok (C := ⟨r, tb, l, ex⟩) W i hd h1 h2 h3 h4,
    fun d hd Z ex a res Γ H nx K h1 h2 h3 h4 => field_ok (C := ⟨r, tb, l, ex⟩) W i hd h1 h2 h3 h4,
    fun d hd Z ex a res Γ H nx K h1 h2 h3 h4 => method_ok (C := ⟨r, tb, l, ex⟩) W i hd h1 h2 h3 h4,
    fun d hd Z ex a res Γ H nx K h1 h2 h3 h4 => param_ok (C := ⟨r, tb, l, ex⟩) W i hd h1 h2 h3 h4,
    fun d hd Z ex a res Γ H nx K h1 h2 h3 h4 => stmt_ok (C := ⟨r, tb, l, ex⟩) W i hd h1 h2 h3 h4,
    fun d hd Z ex a res Γ H nx K h1 h2 h3 h4 => ifs_ok (C := ⟨r, tb, l, ex⟩) W i hd h1 h2 h3 h4,
    fun d hd Z ex a res Γ H nx K h1 h2 h3 h4 => block_ok (C := ⟨r, tb, l, ex⟩) W i hd h1 h2 h3 h4,
    fun d hd Z ex a res Γ H nx K h1 h2 h3 h4 => expr_ok (C := ⟨r, tb, l, ex⟩) W i hd h1 h2 h3 h4,
    fun d hd Z ex a res Γ H nx K h1 h2 h3 h4 => unary_ok (C := ⟨r, tb, l, ex⟩) W i hd h1 h2 h3 h4,
    fun d hd Z ex a res Γ H nx K h1 h2 h3 h4 => post_ok (C := ⟨r, tb, l, ex⟩) W is hd h1 h2 h3 h4,
    fun d hd Z ex a res Γ H nx K h1 h2 h3 h4 => prime_ok (C := ⟨r, tb, l, ex⟩) W i hd h1 h2 h3 h4,
    fun k d hd Z ex a res Γ H nx K h1 h2 h3 h4 => binary_ok (C := ⟨r, tb, l, ex⟩) W is hd h1 h2 h3 h4⟩
end
end Go.Vs
end
section
namespace Go.Vs
open Go.Proofs
variable [GTab] {Z : Nat → Prop}
noncomputable section
namespace Ps
def parse (s : List UInt8) (n : Nat) : Rs Tree := match Pt.toks s with
 | .ok l => file l n
 | .error f => some (.error f)
end Ps
theorem vLoad_place {H : Heap} {a : AVal} {k : AVal → Prop} : vLoad PG t_place H a k = (∃ n1 n2 : Int, ldN H 2 a = some (.agg [.int .i64 n1, .int .i64 n2]) ∧ k (.agg [.int .i64 n1, .int .i64 n2])) := by kernel_rfl
theorem vLoad_errno {H : Heap} {a : AVal} {k : AVal → Prop} : vLoad PG t_errno H a k = (∃ n1 : Int, ld1 H a = some (.int .i64 n1) ∧ k (.int .i64 n1)) := by kernel_rfl
theorem parse1_body : hasBody PG f_p_Parse_1 = true := by kernel_rfl
def nodeZ : List AVal := [iv 0, .str [], iv 0, iv 0, iv 0, .nilSlice]
def ParseK (Z : Nat → Prop) (Γ : GH) (nx : Nat) (R : Except Flt Tree) (K : EndP) : Prop := match R with
 | .ok t => ∀ v Γ' H' nx', nx ≤ nx' → HZ Z Γ' H' nx' → (∀ b cs, Γ b = some cs → Γ' b = some cs) → NodeV (fun _ => False) Γ' v t → K (.ret (.tuple [v, .agg [iv 0, iv 0], iv 0])) H' nx'
 | .error f => ∀ Γ' H' nx', nx ≤ nx' → HZ Z Γ' H' nx' → (∀ b cs, Γ b = some cs → Γ' b = some cs) → K (.ret (.tuple [.agg nodeZ, .agg [iv f.line, iv f.col], iv f.e])) H' nx'
section
variable {Γ : GH} {H : Heap} {nx : Nat} {K : EndP}
theorem loads3 {a b c : Nat} {n x y z e l m : Int} {s : List UInt8} {v : AVal} (hk : HZ Z Γ H nx) (ha : Γ a = some [iv n, .str s, iv x, iv y, iv z, v]) (hb : Γ b = some [iv l, iv m]) (hc : Γ c = some [iv e])
  (h : K (.ret (.tuple [.agg [iv n, .str s, iv x, iv y, iv z, v], .agg [iv l, iv m], iv e])) H nx) : vResV PG H [.cell (.ptr a 0) t_node, .cell (.ptr b 0) t_place, .cell (.ptr c 0) t_errno] fun vs => K (.ret (oneOf vs)) H nx := by
 show vLoad PG t_node H (.ptr a 0) fun v => vLoad PG t_place H (.ptr b 0) fun w => vLoad PG t_errno H (.ptr c 0) fun e => K (.ret (.tuple [v, w, e])) H nx
 rw [vLoad_node]
 refine ⟨_, _, _, _, _, _, ldAll hk ha rfl, ?_⟩
 rw [vLoad_place]
 refine ⟨_, _, ldAll hk hb rfl, ?_⟩
 rw [vLoad_errno]
 exact ⟨_, by rw [hk.ld1 hc]; rfl, h⟩
theorem parse_ok {s : List UInt8} {n : Nat} {res : Except Flt Tree} (hrun : Ps.parse s n = some res) (hk : HZ Z Γ H nx) (hK : ParseK Z Γ nx res K) : TriP PG f_p_Parse [.str s] H nx K := by
 refine TriP.of_body mixed ?_
 rw [Fp_Parse_eq]
 unfold Fp_Parse
 have hf0 := hk.fresh (Nat.le_refl nx)
 refine scrN hk (nx' := nx + 1) (Nat.le_refl _) (by omega) fun H0 k0 => ?_
 have hf1 := k0.fresh (Nat.le_refl (nx + 1))
 refine scrN k0 (nx' := nx + 1 + 1) (Nat.le_refl _) (by omega) fun H1 k1 => ?_
 have hf2 := k1.fresh (Nat.le_refl (nx + 1 + 1))
 refine scrN k1 (nx' := nx + 1 + 1 + 1) (Nat.le_refl _) (by omega) fun H2 k2 => ?_
 obtain ⟨Γ3, e3⟩ : ∃ Γ3, Γ3 = gup (nx + 1 + 1) (some [iv 0]) (gup (nx + 1) (some [iv 0, iv 0]) (gup nx (some nodeZ) Γ)) := ⟨_, rfl⟩
 replace k2 : HZ Z Γ3 H2 (nx + 1 + 1 + 1) := by rw [e3]; exact k2
 have gn : Γ3 nx = some nodeZ := by rw [e3, gup_ne (by omega), gup_ne (by omega), gup_same]
 have gp : Γ3 (nx + 1) = some [iv 0, iv 0] := by rw [e3, gup_ne (by omega), gup_same]
 have ge : Γ3 (nx + 1 + 1) = some [iv 0] := by rw [e3, gup_same]
 have s3 : ∀ b cs, Γ b = some cs → Γ3 b = some cs ∧ b ≠ nx ∧ b ≠ nx + 1 ∧ b ≠ nx + 1 + 1 := fun b cs e => by
  have h0 : b ≠ nx := neK e hf0
  have h1 : b ≠ nx + 1 := neK e (by rwa [gup_ne (by omega)] at hf1)
  have h2 : b ≠ nx + 1 + 1 := neK e (by rwa [gup_ne (by omega), gup_ne (by omega)] at hf2)
  exact ⟨by rw [e3, gup_ne h2, gup_ne h1, gup_ne h0]; exact e, h0, h1, h2⟩
 clear e3 hf0 hf1 hf2
 cases ht : Pt.toks s with
 | error f =>
  have he := Pt.toks_err ht
  have hres : res = .error f := by unfold Ps.parse at hrun; rw [ht] at hrun; cases hrun; rfl
  subst hres
  refine all_okS k2 ?_
  rw [ht]
  refine fun H4 i5 h4 k4 => onEnd_ret.2 ⟨_, _, _, _, _, _, _, rfl, ?_⟩
  have hf5 := k4.fresh (Nat.le_refl i5)
  refine scr k4 (nx' := i5 + 1) (Nat.le_refl _) (by omega) rfl rfl fun H5 k5 => ⟨rfl, ?_⟩
  have ne : ∀ {b cs}, Γ3 b = some cs → b ≠ i5 := fun e => neK e hf5
  refine stAll k5 ((gup_ne (ne ge)).trans ge) rfl rfl fun H6 k6 => ⟨f.e, by rw [k6.ld1 (gup_same _ _ _)]; rfl, ifB_iff.2 ⟨fun _ => ?_, fun h => by simp at h; exact absurd h he⟩⟩
  have lt : ldN H6 5 (.ptr i5 0) = some (tokV ⟨0, [], 0, f.line, f.col⟩) := ldAll k6 ((gup_ne (Ne.symm (ne ge))).trans (gup_same _ _ _)) rfl
  have le6 : ld1 H6 (.ptr (nx + 1 + 1) 0) = some (iv f.e) := by rw [k6.ld1 (gup_same _ _ _)]; rfl
  refine ⟨_, _, _, _, _, lt, _, le6, ⟨⟨_, _, _, _, _, lt, rfl⟩, ⟨_, le6, rfl⟩, trivial⟩, ?_⟩
  refine place_ok (t := ⟨0, [], 0, f.line, f.col⟩) (k6.more (by omega : i5 + 1 ≤ i5 + 1 + 7)) fun H7 nx7 h7 k7 => onEnd_ret.2 ⟨_, _, rfl, ⟨⟨_, by rw [k7.ld1 (gup_same _ _ _)]; rfl, rfl⟩, trivial⟩, ?_⟩
  refine stAll k7 ((gup_ne (by omega)).trans ((gup_ne (ne gn)).trans gn)) rfl rfl fun H8 k8 => ⟨⟨⟨_, by rw [k8.ld1 ((gup_ne (by omega)).trans (gup_same _ _ _))]; rfl, rfl⟩, trivial⟩, ?_⟩
  refine stAll k8 ((gup_ne (by omega)).trans ((gup_ne (by omega)).trans ((gup_ne (ne gp)).trans gp))) rfl rfl fun H9 k9 => ⟨⟨⟨_, by rw [k9.ld1 ((gup_ne (by omega)).trans ((gup_ne (by omega)).trans (gup_same _ _ _)))]; rfl, rfl⟩, trivial⟩, rfl, ?_⟩
  refine stAll k9 ((gup_ne (by omega)).trans ((gup_ne (by omega)).trans (gup_same _ _ _))) rfl rfl fun H10 k10 => ⟨trivial, _, _, _, _, _, _, ldAll k10 ((gup_ne (by omega)).trans ((gup_ne (by omega)).trans (gup_same _ _ _))) rfl, _, _, ldAll k10 ((gup_ne (by omega)).trans (gup_same _ _ _)) rfl, _, by rw [k10.ld1 (gup_same _ _ _)]; rfl, hK _ _ _ (by omega) k10 fun b cs e => ?_⟩
  obtain ⟨q, q0, q1, q2⟩ := s3 b cs e
  rw [gup_ne q2, gup_ne q1, gup_ne q0, gup_ne q2, gup_ne (ne q)]
  exact q
 | ok l =>
  have hfile : Ps.file l n = some res := by unfold Ps.parse at hrun; rw [ht] at hrun; exact hrun
  have W : Toks l := (Pt.toks_good ht).toks
  refine all_okS k2 ?_
  rw [ht]
  refine fun tb H4 i5 h4 htb k4 => onEnd_ret.2 ⟨_, _, _, _, _, _, _, rfl, ?_⟩
  have s4 : ∀ {b cs}, Γ3 b = some cs → gup tb (some (l.flatMap tokC)) Γ3 b = some cs := fun e => (gup_ne (neK e htb)).trans e
  have hf5 := k4.fresh (Nat.le_refl i5)
  refine scr k4 (nx' := i5 + 1) (Nat.le_refl _) (by omega) rfl rfl fun H5 k5 => ⟨rfl, ?_⟩
  have s5 : ∀ {b cs}, Γ3 b = some cs → gup i5 (some (tokC ⟨0, [], 0, 0, 0⟩)) (gup tb (some (l.flatMap tokC)) Γ3) b = some cs := fun e => (gup_ne (neK (s4 e) hf5)).trans (s4 e)
  have tb5 : tb ≠ i5 := neK (gup_same tb (some (l.flatMap tokC)) Γ3) hf5
  refine stAll k5 (s5 ge) rfl rfl fun H6 k6 => ⟨0, by rw [k6.ld1 (gup_same _ _ _)]; rfl, ifB_iff.2 ⟨fun h => by simp at h, fun _ => ⟨_, _, rfl, rfl, _, rfl, ?_⟩⟩⟩
  obtain ⟨Γ6, e6⟩ : ∃ Γ6, Γ6 = gup (nx + 1 + 1) (some [iv 0]) (gup i5 (some (tokC ⟨0, [], 0, 0, 0⟩)) (gup tb (some (l.flatMap tokC)) Γ3)) := ⟨_, rfl⟩
  replace k6 : HZ Z Γ6 H6 (i5 + 1) := by rw [e6]; exact k6
  have s6 : ∀ {b cs}, Γ3 b = some cs → Γ6 b = some cs := fun {b} {cs} e => by
   rw [e6]
   by_cases hb : b = nx + 1 + 1
   ·subst hb; rw [gup_same, ← ge, e]
   ·rw [gup_ne hb]; exact s5 e
  have t6 : Γ6 tb = some (l.flatMap tokC) := by rw [e6, gup_ne (Ne.symm (neK ge htb)), gup_ne tb5, gup_same]
  clear e6
  have hf6 := k6.fresh (Nat.le_refl (i5 + 1))
  have k7 : HZ Z (gup (i5 + 1) (some [.slice tb 0 l.length 5 false, iv 0, iv 0]) Γ6) (newBN (i5 + 1) [.slice tb 0 l.length 5 false, iv 0, iv 0].length [.slice tb 0 l.length 5 false, iv 0, iv 0] H6) (i5 + 1 + 1) := k6.new (Nat.le_refl _) (by omega) _
  have s7 : ∀ {b cs}, Γ6 b = some cs → b ≠ i5 + 1 ∧ gup (i5 + 1) (some [.slice tb 0 l.length 5 false, iv 0, iv 0]) Γ6 b = some cs := fun e => ⟨neK e hf6, (gup_ne (neK e hf6)).trans e⟩
  have hfl := flat_len l
  have hr : Rd (gup (i5 + 1) (some [.slice tb 0 l.length 5 false, iv 0, iv 0]) Γ6) ⟨i5 + 1, tb, l, fun b => b = i5 + 1 ∨ b = nx ∨ b = nx + 1 ∨ b = nx + 1 + 1⟩ 0 0 := by
   refine ⟨W.pos, by omega, (s7 t6).1, .inl rfl, fun b hb => ?_, ⟨false, gup_same _ _ _⟩, ⟨_, (s7 t6).2, by rw [hfl]; exact Nat.le_refl _, by show List.take (l.length * 5) _ = _; rw [← hfl, List.take_length]⟩⟩
   rcases hb with rfl | rfl | rfl | rfl
   ·rw [gup_same]; simp
   ·rw [(s7 (s6 gn)).2]; simp
   ·rw [(s7 (s6 gp)).2]; simp
   ·rw [(s7 (s6 ge)).2]; simp
  refine file_ok (C := ⟨i5 + 1, tb, l, fun b => b = i5 + 1 ∨ b = nx ∨ b = nx + 1 ∨ b = nx + 1 + 1⟩) W (ih_all W n) hfile k7 hr (.on (fun t b v Γ' H' nx' e g1 g2 g3 g4 g5 => ?_) fun f Γ' H' nx' e g1 g2 g3 g4 => ?_)
  ·have hres : res = .ok t := by cases res with
    | ok t' => cases e; rfl
    | error f => cases e
   subst hres
   obtain ⟨kk, ss, nn, li, co, w, rfl, hw, hn⟩ := g4.cells
   have q : ∀ {b cs}, Γ3 b = some cs → Γ' b = some cs := fun e => g3.1 _ _ (s7 (s6 e)).1 (s7 (s6 e)).2
   refine ⟨_, _, _, _, _, _, rfl, stAll g2 (q gn) rfl (by simp only [allCell, hw]; rfl) fun H8 k8 => ?_⟩
   refine stAll k8 ((gup_ne (by omega)).trans (q gp)) rfl rfl fun H9 k9 => ⟨rfl, ?_⟩
   refine stAll k9 ((gup_ne (by omega)).trans ((gup_ne (by omega)).trans (q ge))) rfl rfl fun H10 k10 => ?_
   refine TriDP.of_bodyS mixed parse1_body ?_
   rw [DParse0_eq]
   unfold DParse0
   refine ⟨true, rfl, ifB_t rfl (onEnd_ret.2 ?_)⟩
   refine loads3 k10 ((gup_ne (by omega)).trans ((gup_ne (by omega)).trans (gup_same _ _ _))) ((gup_ne (by omega)).trans (gup_same _ _ _)) (gup_same _ _ _) ?_
   refine hK _ _ _ _ (by omega) k10 (fun b cs e => ?_) (hn.mono (fun _ h => h.elim) fun b cs hb e => ?_).v
   ·obtain ⟨q', q0, q1, q2⟩ := s3 b cs e
    rw [gup_ne q2, gup_ne q1, gup_ne q0]; exact q q'
   ·rw [gup_ne fun x => hb (.inr (.inr (.inr x))), gup_ne fun x => hb (.inr (.inr (.inl x))), gup_ne fun x => hb (.inr (.inl x))]; exact e
  ·have hres : res = .error f := by cases res with
    | ok t' => cases e
    | error f' => cases e; rfl
   subst hres
   have q : ∀ {b cs}, Γ3 b = some cs → Γ' b = some cs := fun e => g3.1 _ _ (s7 (s6 e)).1 (s7 (s6 e)).2
   refine TriDP.of_bodyS mixed parse1_body ?_
   rw [show fltV f = .iface t_fault (.agg [iv f.line, iv f.col, iv f.e]) from rfl, DParse1_eq]
   unfold DParse1
   refine ⟨false, rfl, ifB_f rfl ?_⟩
   have hf8 := g2.fresh (Nat.le_refl nx')
   refine scr g2 (nx' := nx' + 1) (Nat.le_refl _) (by omega) rfl rfl fun H8 k8 => ?_
   have n8 : ∀ {b cs}, Γ3 b = some cs → b ≠ nx' := fun e => neK (q e) hf8
   have lp : ∀ {Γa : GH} {Ha : Heap} {na : Nat}, HZ Z Γa Ha na → Γa nx' = some [iv f.line, iv f.col, iv f.e] → ldN Ha 2 (.ptr nx' 0) = some (.agg [iv f.line, iv f.col]) ∧ ld1 Ha (.ptr nx' 2) = some (iv f.e) := fun h e => ⟨by rw [h.ldN e (by simp)]; rfl, by rw [h.ld1 e]; rfl⟩
   obtain ⟨p1, p2⟩ := lp k8 (gup_same _ _ _)
   refine ⟨_, rfl, _, _, p1, _, rfl, _, p2, ⟨⟨_, _, p1, rfl⟩, ⟨_, p2, rfl⟩, trivial⟩, ?_⟩
   refine stAll k8 ((gup_ne (n8 gn)).trans (q gn)) rfl rfl fun H9 k9 => ?_
   obtain ⟨p1, p2⟩ := lp k9 ((gup_ne (Ne.symm (n8 gn))).trans (gup_same _ _ _))
   refine ⟨⟨⟨_, _, p1, rfl⟩, ⟨_, p2, rfl⟩, trivial⟩, ?_⟩
   refine stAll k9 ((gup_ne (by omega)).trans ((gup_ne (n8 gp)).trans (q gp))) rfl rfl fun H10 k10 => ?_
   obtain ⟨_, p2⟩ := lp k10 ((gup_ne (Ne.symm (n8 gp))).trans ((gup_ne (Ne.symm (n8 gn))).trans (gup_same _ _ _)))
   refine ⟨⟨⟨_, p2, rfl⟩, trivial⟩, rfl, ?_⟩
   refine stAll k10 ((gup_ne (by omega)).trans ((gup_ne (by omega)).trans ((gup_ne (n8 ge)).trans (q ge)))) rfl rfl fun H11 k11 => ⟨trivial, onEnd_ret.2 ?_⟩
   refine loads3 (k11.more (by omega : nx' + 1 ≤ nx' + 1 + 8)) ((gup_ne (by omega)).trans ((gup_ne (by omega)).trans (gup_same _ _ _))) ((gup_ne (by omega)).trans (gup_same _ _ _)) (gup_same _ _ _) ?_
   refine hK _ _ _ (by omega) (k11.more (by omega)) fun b cs e => ?_
   obtain ⟨q', q0, q1, q2⟩ := s3 b cs e
   rw [gup_ne q2, gup_ne q1, gup_ne q0, gup_ne (n8 q')]; exact q q'
end
end
end Go.Vs
end
section
namespace Go.Vs
open Go.Proofs
variable [GTab] {Z : Nat → Prop}
noncomputable section
theorem KidsC.get {ex : Nat → Prop} {Γ : GH} : ∀ {cs : List AVal} {ts : List Tree} {j : Nat}, KidsC ex Γ cs ts → (h : j < ts.length) → NodeC ex Γ ((cs.drop (j * 6)).take 6) ts[j] ∧ j * 6 + 6 ≤ cs.length
 | _, _, _, .nil, h => by simp at h
 | _, _, 0, .cons (c := c) (cs := cs) hn hl, _ => by
  have e := hn.len
  have e2 : ((c ++ cs).drop (0 * 6)).take 6 = c := by rw [Nat.zero_mul, List.drop_zero, ← e, List.take_left']; rfl
  rw [e2]
  exact ⟨hn, by rw [List.length_append, e]; omega⟩
 | _, _, j + 1, .cons (c := c) (cs := cs) hn hl, h => by
  have e := hn.len
  have e2 : (c ++ cs).drop ((j + 1) * 6) = cs.drop (j * 6) := by
   rw [show (j + 1) * 6 = c.length + j * 6 by rw [e]; omega, ← List.drop_drop, List.drop_left']; rfl
  rw [e2]
  obtain ⟨h1, h2⟩ := KidsC.get (j := j) hl (by simpa using h)
  exact ⟨h1, by rw [List.length_append, e]; omega⟩
section
variable {ex : Nat → Prop} {Γ : GH} {H : Heap} {nx : Nat}
theorem KidsV.len {w : AVal} {ts : List Tree} (h : KidsV ex Γ w ts) : lenS w = some ts.length := let ⟨_, h, _⟩ := h; h.len
structure NodeAt (ex : Nat → Prop) (Γ : GH) (H : Heap) (b off : Nat) (k : Int) (s : List UInt8) (n l c : Int) (w : AVal) (ts : List Tree) : Prop where
 all : ldN H 6 (.ptr b off) = some (.agg [iv k, .str s, iv n, iv l, iv c, w])
 c0 : ld1 H (.ptr b off) = some (iv k)
 c1 : ld1 H (.ptr b (off + 1)) = some (.str s)
 c2 : ld1 H (.ptr b (off + 2)) = some (iv n)
 c3 : ld1 H (.ptr b (off + 3)) = some (iv l)
 c4 : ld1 H (.ptr b (off + 4)) = some (iv c)
 c5 : ld1 H (.ptr b (off + 5)) = some w
 kids : KidsV ex Γ w ts
theorem six_at {cs : List AVal} {off : Nat} {a0 a1 a2 a3 a4 a5 : AVal} (h : (cs.drop off).take 6 = [a0, a1, a2, a3, a4, a5]) : cs[off]? = some a0 ∧ cs[off + 1]? = some a1 ∧ cs[off + 2]? = some a2 ∧ cs[off + 3]? = some a3 ∧ cs[off + 4]? = some a4 ∧ cs[off + 5]? = some a5 := by
 have g : ∀ i, i < 6 → cs[off + i]? = [a0, a1, a2, a3, a4, a5][i]? := fun i hi => by
  rw [← h, List.getElem?_take_of_lt hi, List.getElem?_drop]
 exact ⟨g 0 (by omega), g 1 (by omega), g 2 (by omega), g 3 (by omega), g 4 (by omega), g 5 (by omega)⟩
structure NodeIn (ex : Nat → Prop) (Γ : GH) (b off : Nat) (k : Int) (s : List UInt8) (n l c : Int) (w : AVal) (ts : List Tree) : Prop where
 cells : ∃ cs, Γ b = some cs ∧ (cs.drop off).take 6 = [iv k, .str s, iv n, iv l, iv c, w] ∧ off + 6 ≤ cs.length
 kids : KidsV ex Γ w ts
theorem NodeIn.at {b off : Nat} {k n l c : Int} {s : List UInt8} {w : AVal} {ts : List Tree} (h : NodeIn ex Γ b off k s n l c w ts) (hk : HZ Z Γ H nx) : NodeAt ex Γ H b off k s n l c w ts := by
 obtain ⟨⟨cs, hb, hc, hl⟩, hw⟩ := h
 obtain ⟨g0, g1, g2, g3, g4, g5⟩ := six_at hc
 refine ⟨?_, ?_, ?_, ?_, ?_, ?_, ?_, hw⟩
 ·rw [hk.ldN hb hl, hc]
 all_goals (rw [hk.ld1 hb]; assumption)
theorem kid_in {w : AVal} {ts : List Tree} (h : KidsV ex Γ w ts) {j : Nat} (hj : j < ts.length) :
  ∃ b off k s n l c w' ts', idxS w j 6 = some (.ptr b off) ∧ ts[j] = .node k s n l c ts' ∧ NodeIn ex Γ b off k s n l c w' ts' := by
 obtain ⟨cs, hs, hc⟩ := h
 obtain ⟨h1, h2⟩ := hc.get hj
 rcases hs with ⟨rfl, hn, rfl⟩ | ⟨b, o, full, ds, rfl, hb, hl, rfl⟩
 ·omega
 ·have hb' : Γ b = some ds := by
   by_cases hx : ex b
   ·rw [hide_ex hx] at hb; cases hb
   ·rwa [hide_not hx] at hb
  have e1 : (((ds.drop o).take (ts.length * 6)).drop (j * 6)).take 6 = (ds.drop (o + j * 6)).take 6 := by
   rw [List.drop_take, List.take_take, List.drop_drop, Nat.min_eq_left (by omega)]
  rw [e1] at h1
  generalize hcs : (ds.drop (o + j * 6)).take 6 = cells at h1
  generalize hn : ts[j] = t at h1
  cases h1 with
  | @mk k n l c s w' ks cs' hs hki => exact ⟨b, o + j * 6, k, s, n, l, c, w', ks, idxS_slice hj, rfl, ⟨ds, hb', hcs, by omega⟩, cs', hs, hki⟩
theorem kid_at {w : AVal} {ts : List Tree} (hk : HZ Z Γ H nx) (h : KidsV ex Γ w ts) {j : Nat} (hj : j < ts.length) :
  ∃ b off k s n l c w' ts', idxS w j 6 = some (.ptr b off) ∧ ts[j] = .node k s n l c ts' ∧ NodeAt ex Γ H b off k s n l c w' ts' :=
 let ⟨b, off, k, s, n, l, c, w', ts', h1, h2, h3⟩ := kid_in h hj
 ⟨b, off, k, s, n, l, c, w', ts', h1, h2, h3.at hk⟩
end
end
end Go.Vs
end
section
namespace Go.Vs
open Go.Proofs
variable [GTab] {Z : Nat → Prop}
noncomputable section
section
variable {Γ : GH} {H : Heap} {nx : Nat} {K : EndP}
theorem pick_ok {n m : Int} (h0 : 0 < m) (h1 : m ≤ 4611686018427387904) (hK : K (.ret (iv (n % m))) H nx) : TriP PG f_h_Pick [iv n, iv m] H nx K := by
 refine TriP.of_body mixed ?_
 rw [Fh_Pick_eq]
 unfold Fh_Pick
 have hb := Int.tmod_lt_of_pos n h0
 have hl : -m < n.tmod m := by
  have h2 := Int.tmod_lt_of_pos (-n) h0
  rw [Int.neg_tmod] at h2; omega
 have e : n % m = if n.tmod m < 0 then n.tmod m + m else n.tmod m := by
  rw [Int.emod_eq_tmod]
  by_cases hn : 0 ≤ n
  ·rw [if_pos (.inl hn)]
   have := Int.tmod_nonneg m hn
   rw [if_neg (by omega)]; omega
  ·have hle : n.tmod m ≤ 0 := by
    have := Int.tmod_nonneg m (a := -n) (by omega)
    rw [Int.neg_tmod] at this; omega
   by_cases hd : m ∣ n
   ·rw [if_pos (.inr hd)]
    have := Int.tmod_eq_zero_of_dvd hd
    rw [if_neg (by omega)]; omega
   ·rw [if_neg (by rintro (h | h); exact hn h; exact hd h)]
    have hz : n.tmod m ≠ 0 := fun h => hd (Int.dvd_of_tmod_eq_zero h)
    rw [if_pos (by omega)]
    omega
 rw [e] at hK
 refine ⟨by omega, ifB_iff.2 ⟨fun h => ?_, fun h => ?_⟩⟩
 ·have h : n.tmod m < 0 := of_decide_eq_true h
  rw [if_pos h] at hK
  rw [wrap64_id (by omega) (by omega)]; exact hK
 ·have h : ¬ n.tmod m < 0 := of_decide_eq_false h
  rw [if_neg h] at hK
  exact hK
theorem pick_lt {n m : Int} (h0 : 0 < m) : 0 ≤ n % m ∧ n % m < m := ⟨Int.emod_nonneg _ (by omega), Int.emod_lt_of_pos _ h0⟩
theorem digit_ok {n : Int} (hn : n < 10) (hk : HZ Z Γ H nx) (hK : ∀ s H' nx', nx ≤ nx' → HZ Z Γ H' nx' → s.length = 1 → (0 ≤ n → s = Pl.dig n.toNat) → K (.ret (.str s)) H' nx') : TriP PG f_h_Digits [iv n] H nx K := by
 refine TriP.of_body mixed ?_
 rw [Fh_Digits_eq]
 unfold Fh_Digits
 refine ifB_iff.2 ⟨fun _ => ⟨_, rfl, rfl, ?_⟩, fun h => absurd hn (of_decide_eq_false h)⟩
 obtain ⟨d, hd⟩ : ∃ d : Nat, d = n.toNat := ⟨_, rfl⟩
 have hd9 : d ≤ 9 := by omega
 have e0 : (Bool.rec (Bool.rec 0 n (ilt n 0)) (Bool.rec 0 n (ilt 0 n)) true : Int) = d := by
  show (Bool.rec 0 n (ilt 0 n) : Int) = d
  rw [ilt_eq]
  by_cases h : 0 < n
  ·rw [decide_eq_true h]; show n = _; omega
  ·rw [decide_eq_false h]; show (0 : Int) = _; omega
 rw [e0]
 have e1 : AVal.int IntKind.u8 (IntKind.u8.wrap (IntKind.i64.wrap (48 + (d : Int)))) = AVal.int .u8 (.ofNat (UInt8.ofNat (48 + d)).toNat) := by
  rw [wrap64_id (by omega) (by omega)]
  have : d = 0 ∨ d = 1 ∨ d = 2 ∨ d = 3 ∨ d = 4 ∨ d = 5 ∨ d = 6 ∨ d = 7 ∨ d = 8 ∨ d = 9 := by omega
  rcases this with h | h | h | h | h | h | h | h | h | h <;> subst h <;> rfl
 rw [e1]
 refine scrN hk (nx' := nx + 1) (Nat.le_refl _) (by omega) fun H1 k1 => ?_
 refine ⟨[UInt8.ofNat (48 + d)], k1.str (w := [UInt8.ofNat (48 + d)]) (gup_same _ _ _), ?_⟩
 have hf := hk.fresh (Nat.le_refl nx)
 refine hK _ _ _ (by omega) (k1.sub fun b cs e => (gup_ne (neK e hf)).trans e) (by simp) fun h0 => ?_
 unfold Pl.dig; rw [if_pos (by omega), hd]
theorem digits_ok : ∀ (k : Nat) {n : Int} {H : Heap} {nx : Nat} {K : EndP}, k ≤ 18 → n < 10 ^ (k + 1) → n ≤ 9223372036854775807 → HZ Z Γ H nx →
  (∀ s H' nx', nx ≤ nx' → HZ Z Γ H' nx' → s.length ≤ k + 1 → (0 ≤ n → n < 100 → s = Pl.dig n.toNat) → K (.ret (.str s)) H' nx') → TriP PG f_h_Digits [iv n] H nx K := by
 intro k
 induction k with
 | zero =>
  intro n H nx K _ hn _ hk hK
  exact digit_ok (by simpa using hn) hk fun s H' nx' h1 h2 h3 h4 => hK s H' nx' h1 h2 (by omega) fun h5 _ => h4 h5
 | succ k ih =>
  intro n H nx K hk19 hn hmax hk hK
  by_cases h10 : n < 10
  ·exact digit_ok h10 hk fun s H' nx' h1 h2 h3 h4 => hK s H' nx' h1 h2 (by omega) fun h5 _ => h4 h5
  refine TriP.of_body mixed ?_
  rw [Fh_Digits_eq]
  unfold Fh_Digits
  have hp : (10 : Int) ^ (k + 1 + 1) = 10 ^ (k + 1) * 10 := by rw [Int.pow_succ]
  have hq : n.tdiv 10 = n / 10 := Int.tdiv_eq_ediv_of_nonneg (by omega)
  have hm : n.tmod 10 = n % 10 := Int.tmod_eq_emod_of_nonneg (by omega)
  refine ifB_iff.2 ⟨fun h => absurd (of_decide_eq_true h) h10, fun _ => ⟨by decide, ?_⟩⟩
  rw [hq, hm, wrap64_id (by omega) (by omega)]
  refine ih (by omega) (by omega) (by omega) hk fun s H1 nx1 h1 k1 h3 h4 => onEnd_ret.2 ⟨_, rfl, by decide, ?_⟩
  refine digit_ok (n := n % 10) (by omega) k1 fun s2 H2 nx2 h5 k2 h6 h7 => onEnd_ret.2 ⟨_, rfl, by omega, ?_⟩
  refine hK _ _ _ (by omega) k2 (by simp; omega) fun h0 h100 => ?_
  rw [h4 (by omega) (by omega), h7 (by omega)]
  unfold Pl.dig
  rw [if_pos (show (n / 10).toNat < 10 by omega), if_pos (show (n % 10).toNat < 10 by omega), if_neg (show ¬ n.toNat < 10 by omega)]
  rw [show (n / 10).toNat = n.toNat / 10 by omega, show (n % 10).toNat = n.toNat % 10 by omega]
  rfl
theorem digitsAll {n : Int} (hn : n ≤ 9223372036854775807) (hk : HZ Z Γ H nx) (hK : ∀ s H' nx', nx ≤ nx' → HZ Z Γ H' nx' → s.length ≤ 19 → (0 ≤ n → n < 100 → s = Pl.dig n.toNat) → K (.ret (.str s)) H' nx') : TriP PG f_h_Digits [iv n] H nx K :=
 digits_ok 18 (by omega) (by omega) hn hk hK
end
end
end Go.Vs
end
section
namespace Go.Vs
open Go.Proofs
variable [GTab]
def Flaw4_known (call : CallP) (lp : Nat → LoopP) (lv : LeaveP) (lvc : LeaveC) (_u : Nat) (H : Heap) (nx : Nat) (K : EndP) : Prop :=
 call f_p_Parse [AVal.str [102, 117, 110, 99, 32, 109, 97, 105, 110, 40, 41, 32, 123, 32, 112, 114, 105, 110, 116, 40, 49, 32, 43, 32, 50, 32, 42, 32, 120, 41, 32, 125]] H nx fun e0 H1 i2 =>
 onEnd e0 (fun v3 => ∃ n4 s5 n6 n7 n8 v9 n10 n11 n12, v3 = AVal.tuple [AVal.agg [iv n4, AVal.str s5, iv n6, iv n7, iv n8, v9], AVal.agg [iv n10, iv n11], iv n12] ∧ ∃ H13, H13 = newB
 i2 [iv 0, AVal.str [], iv 0, iv 0, iv 0, AVal.nilSlice] H1 ∧ ∃ H14, H14 = newB (i2 + 1) [iv 0, iv 0] H13 ∧ ∃ H15, stC H14 (AVal.ptr i2 0) [iv n4, AVal.str s5, iv n6, iv n7, iv n8,
 v9] = some H15 ∧ ∃ H16, stC H15 (AVal.ptr (i2 + 1) 0) [iv n10, iv n11] = some H16 ∧ call f_p_Parse [AVal.str [102, 117, 110, 99, 32, 109, 97, 105, 110, 40, 41, 32, 123, 32, 120, 32, 61, 32,
 125]] H16 (i2 + 1 + 1) fun e17 H18 i19 => onEnd e17 (fun v20 => ∃ n21 s22 n23 n24 n25 v26 n27 n28 n29, v20 = AVal.tuple [AVal.agg [iv n21, AVal.str s22, iv n23, iv n24, iv n25,
 v26], AVal.agg [iv n27, iv n28], iv n29] ∧ ∃ H30, H30 = newB i19 [iv 0, AVal.str [], iv 0, iv 0, iv 0, AVal.nilSlice] H18 ∧ ∃ H31, H31 = newB (i19 + 1) [iv 0, iv 0] H30 ∧ ∃ H32, stC
 H31 (AVal.ptr i19 0) [iv n21, AVal.str s22, iv n23, iv n24, iv n25, v26] = some H32 ∧ ∃ H33, stC H32 (AVal.ptr (i19 + 1) 0) [iv n27, iv n28] = some H33 ∧ ifB (!decide (n12 = 0)) (K
 (AEnd.ret (AVal.bool false)) H33 (i19 + 1 + 1)) (∃ v34, some (AVal.ptr i2 0) = some v34 ∧ ∃ n35 : Int, ld1 H33 v34 = some (iv n35) ∧ ifB (!decide (n35 = 1)) (K (AEnd.ret (AVal.bool
 false)) H33 (i19 + 1 + 1)) (∃ v36, some (AVal.ptr i2 5) = some v36 ∧ ∃ v37, ld1 H33 v36 = some v37 ∧ ∃ i38, lenS v37 = some i38 ∧ ifB (!decide (Int.ofNat i38 = 1)) (K (AEnd.ret
 (AVal.bool false)) H33 (i19 + 1 + 1)) (∃ v39, some (AVal.ptr i2 5) = some v39 ∧ ∃ v40, ld1 H33 v39 = some v40 ∧ (0 : Int) ≤ 0 ∧ ∃ v41, idxS v40 0 6 = some v41 ∧ ∃ v42, addOff v41 5
 = some v42 ∧ ∃ v43, ld1 H33 v42 = some v43 ∧ ∃ i44, lenS v43 = some i44 ∧ ifB (!decide (Int.ofNat i44 = 3)) (K (AEnd.ret (AVal.bool false)) H33 (i19 + 1 + 1)) (∃ v45, some (AVal.ptr
 i2 5) = some v45 ∧ ∃ v46, ld1 H33 v45 = some v46 ∧ (0 : Int) ≤ 0 ∧ ∃ v47, idxS v46 0 6 = some v47 ∧ ∃ v48, addOff v47 5 = some v48 ∧ ∃ v49, ld1 H33 v48 = some v49 ∧ (0 : Int) ≤ 2 ∧
 ∃ v50, idxS v49 2 6 = some v50 ∧ ∃ v51, addOff v50 5 = some v51 ∧ ∃ v52, ld1 H33 v51 = some v52 ∧ ∃ i53, lenS v52 = some i53 ∧ ifB (!decide (Int.ofNat i53 = 1)) (K (AEnd.ret
 (AVal.bool false)) H33 (i19 + 1 + 1)) (∃ v54, some (AVal.ptr i2 5) = some v54 ∧ ∃ v55, ld1 H33 v54 = some v55 ∧ (0 : Int) ≤ 0 ∧ ∃ v56, idxS v55 0 6 = some v56 ∧ ∃ v57, addOff v56 5
 = some v57 ∧ ∃ v58, ld1 H33 v57 = some v58 ∧ (0 : Int) ≤ 2 ∧ ∃ v59, idxS v58 2 6 = some v59 ∧ ∃ v60, addOff v59 5 = some v60 ∧ ∃ v61, ld1 H33 v60 = some v61 ∧ (0 : Int) ≤ 0 ∧ ∃ v62,
 idxS v61 0 6 = some v62 ∧ ∃ v63, addOff v62 5 = some v63 ∧ ∃ v64, ld1 H33 v63 = some v64 ∧ ∃ i65, lenS v64 = some i65 ∧ ifB (!decide (Int.ofNat i65 = 1)) (K (AEnd.ret (AVal.bool
 false)) H33 (i19 + 1 + 1)) (∃ v66, some (AVal.ptr i2 5) = some v66 ∧ ∃ v67, ld1 H33 v66 = some v67 ∧ (0 : Int) ≤ 0 ∧ ∃ v68, idxS v67 0 6 = some v68 ∧ ∃ v69, addOff v68 5 = some v69
 ∧ ∃ v70, ld1 H33 v69 = some v70 ∧ (0 : Int) ≤ 2 ∧ ∃ v71, idxS v70 2 6 = some v71 ∧ ∃ v72, addOff v71 5 = some v72 ∧ ∃ v73, ld1 H33 v72 = some v73 ∧ (0 : Int) ≤ 0 ∧ ∃ v74, idxS v73 0
 6 = some v74 ∧ ∃ v75, addOff v74 5 = some v75 ∧ ∃ v76, ld1 H33 v75 = some v76 ∧ (0 : Int) ≤ 0 ∧ ∃ v77, idxS v76 0 6 = some v77 ∧ ∃ n78 s79 n80 n81 n82 v83, ldN H33 6 v77 = some
 (AVal.agg [iv n78, AVal.str s79, iv n80, iv n81, iv n82, v83]) ∧ ∃ H84, H84 = newB (i19 + 1 + 1) [iv 0, AVal.str [], iv 0, iv 0, iv 0, AVal.nilSlice] H33 ∧ ∃ H85, stC H84 (AVal.ptr
 (i19 + 1 + 1) 0) [iv n78, AVal.str s79, iv n80, iv n81, iv n82, v83] = some H85 ∧ ∃ v86, some (AVal.ptr (i19 + 1 + 1) 0) = some v86 ∧ ∃ n87 : Int, ld1 H85 v86 = some (iv n87) ∧ ifB
 (decide (n87 = 28)) (∃ v88, some (AVal.ptr (i19 + 1 + 1) 1) = some v88 ∧ ∃ s89, ld1 H85 v88 = some (AVal.str s89) ∧ ifB (s89 == [43]) (∃ v90, some (AVal.ptr (i19 + 1 + 1) 5) = some
 v90 ∧ ∃ v91, ld1 H85 v90 = some v91 ∧ ∃ i92, lenS v91 = some i92 ∧ ifB (decide (Int.ofNat i92 = 2)) (∃ v93, some (AVal.ptr (i19 + 1 + 1) 5) = some v93 ∧ ∃ v94, ld1 H85 v93 = some
 v94 ∧ (0 : Int) ≤ 1 ∧ ∃ v95, idxS v94 1 6 = some v95 ∧ ∃ v96, addOff v95 1 = some v96 ∧ ∃ s97, ld1 H85 v96 = some (AVal.str s97) ∧ ifB (s97 == [42]) (∃ v98, some (AVal.ptr (i19 + 1
 + 1) 4) = some v98 ∧ ∃ n99 : Int, ld1 H85 v98 = some (iv n99) ∧ ifB (decide (n99 = 23)) (ifB (decide (n29 = 13)) (∃ v100, some (AVal.ptr (i19 + 1) 0) = some v100 ∧ ∃ n101 : Int, ld1
 H85 v100 = some (iv n101) ∧ ifB (decide (n101 = 1)) (∃ v102, some (AVal.ptr (i19 + 1) 1) = some v102 ∧ ∃ n103 : Int, ld1 H85 v102 = some (iv n103) ∧ K (AEnd.ret (AVal.bool (decide
 (n103 = 19)))) H85 (i19 + 1 + 1 + 1)) (K (AEnd.ret (AVal.bool false)) H85 (i19 + 1 + 1 + 1))) (K (AEnd.ret (AVal.bool false)) H85 (i19 + 1 + 1 + 1))) (K (AEnd.ret (AVal.bool false))
 H85 (i19 + 1 + 1 + 1))) (K (AEnd.ret (AVal.bool false)) H85 (i19 + 1 + 1 + 1))) (K (AEnd.ret (AVal.bool false)) H85 (i19 + 1 + 1 + 1))) (K (AEnd.ret (AVal.bool false)) H85 (i19 + 1
 + 1 + 1))) (K (AEnd.ret (AVal.bool false)) H85 (i19 + 1 + 1 + 1))))))))) fun l104 => K (AEnd.pan l104) H18 i19) fun l105 => K (AEnd.pan l105) H1 i2
theorem Flaw4_known_eq (call : CallP) (lp : Nat → LoopP) (lv : LeaveP) (lvc : LeaveC) (_u : Nat) (H : Heap) (nx : Nat) (K : EndP) : vBody PG call lp f_law4_known ([] : List AVal) H nx (endK PG lv lvc K) = Flaw4_known call lp lv lvc _u H nx K := by kernel_rfl
end Go.Vs
end
section
namespace Go.Vs
open Go.Proofs
variable [GTab] {Z : Nat → Prop}
noncomputable section
def kn1 : List UInt8 := [102, 117, 110, 99, 32, 109, 97, 105, 110, 40, 41, 32, 123, 32, 112, 114, 105, 110, 116, 40, 49, 32, 43, 32, 50, 32, 42, 32, 120, 41, 32, 125]
def kn2 : List UInt8 := [102, 117, 110, 99, 32, 109, 97, 105, 110, 40, 41, 32, 123, 32, 120, 32, 61, 32, 125]
def knX : Tree := .node 28 [43] 0 1 23 [.node 21 [] 1 1 21 [], .node 28 [42] 0 1 27 [.node 21 [] 2 1 25 [], .node 26 [120] 0 1 29 []]]
def knB : Tree := .node 10 [] 0 1 13 [.node 20 [] 0 1 15 [knX]]
def knF : Tree := .node 6 [109, 97, 105, 110] 0 1 1 [.node 38 [] 0 0 0 [], .node 38 [] 0 0 0 [], knB]
theorem kn1_run : Ps.parse kn1 100 = some (.ok (.node 1 [] 0 1 1 [knF])) := by kernel_rfl
theorem kn2_run : Ps.parse kn2 100 = some (.error ⟨1, 19, 13⟩) := by kernel_rfl
section
variable {Γ : GH} {H : Heap} {nx : Nat} {K : EndP}
theorem known_ok (hk : HZ Z Γ H nx) (hK : ∀ Γ' H' nx', nx ≤ nx' → HZ Z Γ' H' nx' → (∀ b cs, Γ b = some cs → Γ' b = some cs) → K (.ret (.bool true)) H' nx') : TriP PG f_law4_known [] H nx K := by
 refine TriP.of_body mixed ?_
 rw [Flaw4_known_eq _ _ _ _ 0]
 unfold Flaw4_known
 refine parse_ok (s := kn1) kn1_run hk fun v Γ1 H1 i2 h1 k1 s1 hv => onEnd_ret.2 ?_
 obtain ⟨c, rfl, hn⟩ := hv
 cases hn with
 | @mk _ _ _ _ _ w _ cs hs hki =>
 have hw : KidsV (fun _ => False) Γ1 w [knF] := ⟨cs, hs, hki⟩
 refine ⟨_, _, _, _, _, _, _, _, _, rfl, ?_⟩
 have hf1 := k1.fresh (Nat.le_refl i2)
 refine scrN k1 (nx' := i2 + 1) (Nat.le_refl _) (by omega) fun H2 k2 => ?_
 have hf2 := k2.fresh (Nat.le_refl (i2 + 1))
 refine scrN k2 (nx' := i2 + 1 + 1) (Nat.le_refl _) (by omega) fun H3 k3 => ?_
 refine stAll k3 ((gup_ne (by omega)).trans (gup_same _ _ _)) rfl (by simp only [allCell, hw.cell]; rfl) fun H4 k4 => ?_
 refine stAll k4 ((gup_ne (by omega)).trans (gup_same _ _ _)) rfl rfl fun H5 k5 => ?_
 obtain ⟨Γ5, e5⟩ : ∃ Γ5, Γ5 = gup (i2 + 1) (some [iv 0, iv 0]) (gup i2 (some [iv 1, AVal.str [], iv 0, iv 1, iv 1, w]) (gup (i2 + 1) (some [iv 0, iv 0]) (gup i2 (some [iv 0, AVal.str [], iv 0, iv 0, iv 0, AVal.nilSlice]) Γ1))) := ⟨_, rfl⟩
 replace k5 : HZ Z Γ5 H5 (i2 + 1 + 1) := by rw [e5]; exact k5
 have g5 : Γ5 i2 = some [iv 1, AVal.str [], iv 0, iv 1, iv 1, w] := by rw [e5, gup_ne (by omega), gup_same]
 have s5 : ∀ b cs, Γ1 b = some cs → Γ5 b = some cs := fun b cs e => by
  have h0 : b ≠ i2 := neK e hf1
  have h1 : b ≠ i2 + 1 := neK e (by rwa [gup_ne (by omega)] at hf2)
  rw [e5, gup_ne h1, gup_ne h0, gup_ne h1, gup_ne h0]; exact e
 clear e5 hf1 hf2
 refine parse_ok (s := kn2) kn2_run k5 fun Γ6 H6 i7 h6 k6 s6 => onEnd_ret.2 ⟨_, _, _, _, _, _, _, _, _, rfl, ?_⟩
 have hf1 := k6.fresh (Nat.le_refl i7)
 refine scrN k6 (nx' := i7 + 1) (Nat.le_refl _) (by omega) fun H7 k7 => ?_
 have hf2 := k7.fresh (Nat.le_refl (i7 + 1))
 refine scrN k7 (nx' := i7 + 1 + 1) (Nat.le_refl _) (by omega) fun H8 k8 => ?_
 refine stAll k8 ((gup_ne (by omega)).trans (gup_same _ _ _)) rfl rfl fun H9 k9 => ?_
 refine stAll k9 ((gup_ne (by omega)).trans (gup_same _ _ _)) rfl rfl fun H10 k10 => ?_
 obtain ⟨Γ9, e9⟩ : ∃ Γ9, Γ9 = gup (i7 + 1) (some [iv 1, iv 19]) (gup i7 (some nodeZ) (gup (i7 + 1) (some [iv 0, iv 0]) (gup i7 (some nodeZ) Γ6))) := ⟨_, rfl⟩
 replace k10 : HZ Z Γ9 H10 (i7 + 1 + 1) := by rw [e9]; exact k10
 have g9 : Γ9 (i7 + 1) = some [iv 1, iv 19] := by rw [e9, gup_same]
 have s9 : ∀ b cs, Γ6 b = some cs → Γ9 b = some cs := fun b cs e => by
  have h0 : b ≠ i7 := neK e hf1
  have h1 : b ≠ i7 + 1 := neK e (by rwa [gup_ne (by omega)] at hf2)
  rw [e9, gup_ne h1, gup_ne h0, gup_ne h1, gup_ne h0]; exact e
 have gi : Γ9 i2 = some [iv 1, AVal.str [], iv 0, iv 1, iv 1, w] := s9 _ _ (s6 _ _ g5)
 have hw9 : KidsV (fun _ => False) Γ9 w [knF] := hw.mono (fun _ h => h) fun b cs _ e => s9 _ _ (s6 _ _ (s5 _ _ e))
 have l0 : ld1 H10 (.ptr i2 0) = some (iv 1) := by rw [k10.ld1 gi]; rfl
 have l5 : ld1 H10 (.ptr i2 5) = some w := by rw [k10.ld1 gi]; rfl
 obtain ⟨b1, o1, _, _, _, _, _, w1, ts1, x1, y1, N1⟩ := kid_at k10 hw9 (j := 0) (by decide)
 cases y1
 have hl1 := N1.kids.len
 obtain ⟨b2, o2, _, _, _, _, _, w2, ts2, x2, y2, N2⟩ := kid_at k10 N1.kids (j := 2) (by decide)
 cases y2
 have hl2 := N2.kids.len
 obtain ⟨b3, o3, _, _, _, _, _, w3, ts3, x3, y3, N3⟩ := kid_at k10 N2.kids (j := 0) (by decide)
 cases y3
 have hl3 := N3.kids.len
 obtain ⟨b4, o4, _, _, _, _, _, w4, ts4, x4, y4, N4⟩ := kid_at k10 N3.kids (j := 0) (by decide)
 cases y4
 have hl4 := N4.kids.len
 have skip : ∀ {b : Bool} {p q : Prop}, b = false → q → ifB b p q := fun h hq => ifB_f h hq
 refine skip rfl ⟨_, rfl, _, l0, skip rfl ⟨_, rfl, _, l5, _, hw9.len, skip rfl ?_⟩⟩
 have st1 : ∀ {p : AVal → Prop}, p w1 → ∃ v, some (AVal.ptr i2 5) = some v ∧ ∃ v', ld1 H10 v = some v' ∧ (0 : Int) ≤ 0 ∧ ∃ v'', idxS v' 0 6 = some v'' ∧ ∃ v3, addOff v'' 5 = some v3 ∧ ∃ v4, ld1 H10 v3 = some v4 ∧ p v4 := fun h => ⟨_, rfl, _, l5, by decide, _, x1, _, rfl, _, N1.c5, h⟩
 refine st1 ⟨_, hl1, skip rfl ?_⟩
 refine st1 ⟨by decide, _, x2, _, rfl, _, N2.c5, _, hl2, skip rfl ?_⟩
 refine st1 ⟨by decide, _, x2, _, rfl, _, N2.c5, by decide, _, x3, _, rfl, _, N3.c5, _, hl3, skip rfl ?_⟩
 refine st1 ⟨by decide, _, x2, _, rfl, _, N2.c5, by decide, _, x3, _, rfl, _, N3.c5, by decide, _, x4, _, _, _, _, _, _, N4.all, ?_⟩
 have hf3 := k10.fresh (Nat.le_refl (i7 + 1 + 1))
 refine scrN k10 (nx' := i7 + 1 + 1 + 1) (Nat.le_refl _) (by omega) fun H11 k11 => ?_
 refine stAll k11 (gup_same _ _ _) rfl (by simp only [allCell, N4.kids.cell]; rfl) fun H12 k12 => ?_
 obtain ⟨Γ12, e12⟩ : ∃ Γ12, Γ12 = gup (i7 + 1 + 1) (some [iv 28, AVal.str [43], iv 0, iv 1, iv 23, w4]) (gup (i7 + 1 + 1) (some [iv 0, AVal.str [], iv 0, iv 0, iv 0, AVal.nilSlice]) Γ9) := ⟨_, rfl⟩
 replace k12 : HZ Z Γ12 H12 (i7 + 1 + 1 + 1) := by rw [e12]; exact k12
 have s12 : ∀ b cs, Γ9 b = some cs → Γ12 b = some cs := fun b cs e => by
  have h0 : b ≠ i7 + 1 + 1 := neK e hf3
  rw [e12, gup_ne h0, gup_ne h0]; exact e
 have g12 : Γ12 (i7 + 1 + 1) = some [iv 28, AVal.str [43], iv 0, iv 1, iv 23, w4] := by rw [e12, gup_same]
 have hw12 := N4.kids.mono (fun _ h => h) fun b cs _ e => s12 b cs e
 have q : ∀ off, ld1 H12 (.ptr (i7 + 1 + 1) off) = [iv 28, AVal.str [43], iv 0, iv 1, iv 23, w4][off]? := fun off => k12.ld1 g12 off
 have qp : ∀ off, ld1 H12 (.ptr (i7 + 1) off) = [iv 1, iv 19][off]? := fun off => k12.ld1 (s12 _ _ g9) off
 obtain ⟨b5, o5, _, _, _, _, _, w5, ts5, x5, y5, N5⟩ := kid_at k12 hw12 (j := 1) (by decide)
 cases y5
 have yes : ∀ {b : Bool} {p q : Prop}, b = true → p → ifB b p q := fun h hp => ifB_t h hp
 refine ⟨_, rfl, _, q 0, yes rfl ⟨_, rfl, _, q 1, yes rfl ⟨_, rfl, _, q 5, _, hw12.len, yes rfl ⟨_, rfl, _, q 5, by decide, _, x5, _, rfl, _, N5.c1, yes rfl ⟨_, rfl, _, q 4, yes rfl (yes rfl ⟨_, rfl, _, qp 0, yes rfl ⟨_, rfl, _, qp 1, ?_⟩⟩)⟩⟩⟩⟩⟩
 exact hK _ _ _ (by omega) k12 fun b cs e => s12 _ _ (s9 _ _ (s6 _ _ (s5 _ _ (s1 _ _ e))))
end
end
end Go.Vs
end
section
namespace Go.Vs
open Go.Proofs
variable [GTab] {Z : Nat → Prop}
noncomputable section
namespace Pl
theorem prm_len : ∀ i, (prm i).length ≤ i * 9
 | 0 => by simp [prm]
 | i + 1 => by
  have := prm_len i
  have := dig_len i
  simp only [prm, List.length_append, List.length_cons]
  split <;> simp <;> omega
theorem Rows_get {P : Nat → Tree → Prop} : ∀ {ts : List Tree} {i j : Nat}, Rows P i ts → (h : j < ts.length) → P (i + j) ts[j]
 | t :: ts, i, 0, h, _ => h.1
 | t :: ts, i, j + 1, h, hj => by
  have := Rows_get (i := i + 1) (j := j) h.2 (by simpa using hj)
  rw [show i + (j + 1) = i + 1 + j by omega]; exact this
end Pl
section
variable {Γ : GH} {H : Heap} {nx : Nat} {K : EndP}
theorem nav_f {w : AVal} {k : Int} {s : List UInt8} {n l c : Int} {ts : List Tree} {j : Nat} {us : List Tree} (hk : HZ Z Γ H nx) (h : KidsV (fun _ => False) Γ w ts) (hj : j < ts.length) (he : ts[j] = .node k s n l c us) :
  ∃ b off w', idxS w j 6 = some (.ptr b off) ∧ NodeAt (fun _ => False) Γ H b off k s n l c w' us := by
 obtain ⟨b, off, k', s', n', l', c', w', ts', h1, h2, h3⟩ := kid_at hk h hj
 rw [he] at h2; cases h2
 exact ⟨b, off, w', h1, h3⟩
theorem nav_i {w : AVal} {k : Int} {s : List UInt8} {n l c : Int} {ts : List Tree} {j : Nat} {us : List Tree} (h : KidsV (fun _ => False) Γ w ts) (hj : j < ts.length) (he : ts[j] = .node k s n l c us) :
  ∃ b off w', idxS w j 6 = some (.ptr b off) ∧ NodeIn (fun _ => False) Γ b off k s n l c w' us := by
 obtain ⟨b, off, k', s', n', l', c', w', ts', h1, h2, h3⟩ := kid_in h hj
 rw [he] at h2; cases h2
 exact ⟨b, off, w', h1, h3⟩
theorem lists4 {n t : Nat} {w : AVal} {l0 c0 l1 c1 l2 c2 : Int} {rv y : Tree} {ss ps : List Tree} {lv : LeaveP} {lvc : LeaveC} (hk : HZ Z Γ H nx) (ht : Γ t = some [iv 1, .str [], iv 0, iv l0, iv c0, w]) (hw : KidsV (fun _ => False) Γ w [.node 6 [102] 0 l1 c1 (rv :: y :: .node 10 [] 0 l2 c2 ss :: ps)])
  (hn : n < 30) (hss : ss.length = n) (hst : Pl.Rows Pl.IsStmt 0 ss) (hK : ∀ H' nx', K (.ret (.bool true)) H' nx') {env : Env} (hle : EnvLe (envL .und [(14, iv 0), (10, AVal.ptr t 0), (6, AVal.bool false), (0, iv n)]) env) :
  LpP PG 156 (subAt (codeOf PG f_law4_ParseLists) [1, 1, 1, 1, 1, 1, 1, 1, 1, 1, 0, 1, 0, 0]) env H nx [] none
   (contAt PG (TriP PG) (LpP PG 156) 156 (codeOf PG f_law4_ParseLists) [1, 1, 1, 1, 1, 1, 1, 1, 1, 1, 0, 1, 0] (endK PG lv lvc K (resOf PG f_law4_ParseLists))) := by
 refine loop_w (P := PG) (X := Nat) (Y := Unit) (fun i => envL .und [(14, iv i), (10, .ptr t 0), (6, .bool false), (0, iv n)]) (fun _ => envL .und [(14, iv n), (10, .ptr t 0), (6, .bool false), (0, iv n)])
  (fun m i H1 nx1 => m = n - i ∧ i ≤ n ∧ ∃ Γ1, HZ Z Γ1 H1 nx1 ∧ ∀ b cs, Γ b = some cs → Γ1 b = some cs) (fun id _ H1 nx1 => id = 6) n 0 hle ⟨rfl, by omega, Γ, hk, fun _ _ e => e⟩ ?_ ?_
 ·rintro m i H1 nx1 ⟨rfl, hi, Γ1, k1, s1⟩
  refine WpP.part (ts := [0, 6, 10, 14]) mixed ?_
  rw [L4_eq]
  unfold L4
  refine ifB_iff.2 ⟨fun h => ?_, fun h => ?_⟩
  ·have h : (i : Int) < n := of_decide_eq_true h
   have hin : i < n := by omega
   have hw1 := hw.mono (fun _ h => h) fun b cs _ e => s1 b cs e
   obtain ⟨b1, o1, w1, x1, N1⟩ := nav_f k1 hw1 (j := 0) (by simp) rfl
   obtain ⟨b2, o2, w2, x2, N2⟩ := nav_f k1 N1.kids (j := 2) (by simp) rfl
   obtain ⟨l3, c3, l4, c4, he⟩ := Pl.Rows_get hst (j := i) (by omega)
   obtain ⟨b3, o3, w3, x3, N3⟩ := nav_f k1 N2.kids (j := i) (by omega) he
   refine ⟨_, rfl, _, by rw [k1.ld1 (s1 _ _ ht)]; rfl, by decide, _, x1, _, rfl, _, N1.c5, by decide, _, x2, _, rfl, _, N2.c5, by omega, _, x3, _, _, _, _, _, _, N3.all, ?_⟩
   have hf := k1.fresh (Nat.le_refl nx1)
   refine scrN k1 (nx' := nx1 + 1) (Nat.le_refl _) (by omega) fun H2 k2 => ?_
   refine stAll k2 (gup_same _ _ _) rfl (by simp only [allCell, N3.kids.cell]; rfl) fun H3 k3 => ?_
   obtain ⟨Γ3, e3⟩ : ∃ Γ3, Γ3 = gup nx1 (some [iv 20, AVal.str [], iv 0, iv l3, iv c3, w3]) (gup nx1 (some [iv 0, AVal.str [], iv 0, iv 0, iv 0, AVal.nilSlice]) Γ1) := ⟨_, rfl⟩
   replace k3 : HZ Z Γ3 H3 (nx1 + 1) := by rw [e3]; exact k3
   have s3 : ∀ b cs, Γ1 b = some cs → Γ3 b = some cs := fun b cs e => by
    have h0 : b ≠ nx1 := neK e hf
    rw [e3, gup_ne h0, gup_ne h0]; exact e
   have g3 : Γ3 nx1 = some [iv 20, AVal.str [], iv 0, iv l3, iv c3, w3] := by rw [e3, gup_same]
   have q : ∀ off, ld1 H3 (.ptr nx1 off) = [iv 20, AVal.str [], iv 0, iv l3, iv c3, w3][off]? := fun off => k3.ld1 g3 off
   have hw3 := N3.kids.mono (fun _ h => h) fun b cs _ e => s3 b cs e
   obtain ⟨b4, o4, w4, x4, N4⟩ := nav_f k3 hw3 (j := 0) (by simp) rfl
   refine ⟨_, rfl, _, q 0, ifB_f rfl ⟨_, rfl, _, q 5, _, hw3.len, ifB_f rfl ⟨_, rfl, _, q 5, by decide, _, x4, _, rfl, _, N4.c2, ifB_f ?_ ?_⟩⟩⟩
   ·rw [Nat.zero_add]; simp
   ·refine ⟨rfl, n - (i + 1), i + 1, by omega, ?_, rfl, by omega, Γ3, k3, fun b cs e => s3 b cs (s1 b cs e)⟩
    rw [wrap64_id (by omega) (by omega)]
    exact EnvLe.of_list (by exact ⟨rfl, rfl, rfl, rfl, trivial⟩)
  ·have h : ¬ (i : Int) < n := of_decide_eq_false h
   have : i = n := by omega
   subst this
   exact ⟨rfl, (), EnvLe.of_list (by exact ⟨rfl, rfl, rfl, rfl, trivial⟩), rfl⟩
 ·rintro id _ H1 nx1 rfl
  rw [A4_eq]
  exact hK _ _
theorem lists3 {n m t : Nat} {w : AVal} {l0 c0 l1 c1 l2 c2 : Int} {rv y : Tree} {ss ps : List Tree} {lv : LeaveP} {lvc : LeaveC} (hk : HZ Z Γ H nx) (ht : Γ t = some [iv 1, .str [], iv 0, iv l0, iv c0, w]) (hw : KidsV (fun _ => False) Γ w [.node 6 [102] 0 l1 c1 (rv :: y :: .node 10 [] 0 l2 c2 ss :: ps)])
  (hn : n < 30) (hm : m < 9) (hss : ss.length = n) (hst : Pl.Rows Pl.IsStmt 0 ss) (hps : ps.length = m) (hpt : Pl.Rows Pl.IsParam 0 ps) (hK : ∀ H' nx', K (.ret (.bool true)) H' nx') {env : Env} (hle : EnvLe (envL .und [(13, iv 0), (10, AVal.ptr t 0), (6, AVal.bool false), (1, iv m), (0, iv n)]) env) :
  LpP PG 156 (subAt (codeOf PG f_law4_ParseLists) [1, 1, 1, 1, 1, 1, 1, 1, 1, 0, 1, 0, 0]) env H nx [] none
   (contAt PG (TriP PG) (LpP PG 156) 156 (codeOf PG f_law4_ParseLists) [1, 1, 1, 1, 1, 1, 1, 1, 1, 0, 1, 0] (endK PG lv lvc K (resOf PG f_law4_ParseLists))) := by
 refine loop_w (P := PG) (X := Nat) (Y := Unit) (fun i => envL .und [(13, iv i), (10, .ptr t 0), (6, .bool false), (1, iv m), (0, iv n)]) (fun _ => envL .und [(13, iv m), (10, .ptr t 0), (6, .bool false), (1, iv m), (0, iv n)])
  (fun x i H1 nx1 => x = m - i ∧ i ≤ m ∧ HZ Z Γ H1 nx1) (fun id _ H1 nx1 => id = 4 ∧ HZ Z Γ H1 nx1) m 0 hle ⟨rfl, by omega, hk⟩ ?_ ?_
 ·rintro x i H1 nx1 ⟨rfl, hi, k1⟩
  refine WpP.part (ts := [0, 1, 6, 10, 13]) mixed ?_
  rw [L3_eq]
  unfold L3
  refine ifB_iff.2 ⟨fun h => ?_, fun h => ?_⟩
  ·have h : (i : Int) < m := of_decide_eq_true h
   have him : i < m := by omega
   obtain ⟨b1, o1, w1, x1, M1⟩ := nav_i hw (j := 0) (by simp) rfl
   have N1 := M1.at k1
   obtain ⟨tt, l3, c3, he⟩ := Pl.Rows_get hpt (j := i) (by omega)
   obtain ⟨b3, o3, w3, x3, M3⟩ := nav_i M1.kids (j := 3 + i) (by simp; omega) (us := [tt]) (by
    rw [← he]
    simp [show 3 + i = i + 1 + 1 + 1 by omega])
   rw [Nat.zero_add] at M3
   have N3 := M3.at k1
   have e3 : (IntKind.i64.wrap (3 + (i : Int))).toNat = 3 + i := by rw [wrap64_id (by omega) (by omega)]; omega
   refine ⟨_, rfl, _, by rw [k1.ld1 ht]; rfl, by decide, _, x1, _, rfl, _, N1.c5, by rw [wrap64_id (by omega) (by omega)]; omega, _, by rw [e3]; exact x3, _, rfl, _, N3.c1, ⟨⟨_, by rw [k1.ld1 ht]; rfl, rfl⟩, ⟨_, N1.c5, rfl⟩, ⟨_, N3.c1, rfl⟩, trivial⟩, ?_⟩
   refine digitsAll (by omega) (k1.more (by omega : nx1 ≤ nx1 + 14)) fun s H2 nx2 h2 k2 h3 h4 => onEnd_ret.2 ⟨_, rfl, by omega, ?_⟩
   have hs := h4 (by omega) (by omega)
   refine ⟨⟨⟨_, by rw [k2.ld1 ht]; rfl, rfl⟩, ⟨_, (M1.at k2).c5, rfl⟩, ⟨_, (M3.at k2).c1, rfl⟩, trivial⟩, ifB_f ?_ ?_⟩
   ·rw [hs]; simp
   ·refine ⟨rfl, m - (i + 1), i + 1, by omega, ?_, rfl, by omega, k2⟩
    rw [wrap64_id (by omega) (by omega)]
    exact EnvLe.of_list (by exact ⟨rfl, rfl, rfl, rfl, rfl, trivial⟩)
  ·have h : ¬ (i : Int) < m := of_decide_eq_false h
   have : i = m := by omega
   subst this
   exact ⟨rfl, (), EnvLe.of_list (by exact ⟨rfl, rfl, rfl, rfl, rfl, trivial⟩), rfl, k1⟩
 ·rintro id _ H1 nx1 ⟨rfl, k1⟩
  rw [A3_eq]
  unfold A3
  exact lists4 k1 ht hw hn hss hst hK (EnvLe.of_list (by exact ⟨rfl, rfl, rfl, rfl, trivial⟩))
theorem lists2 {n m : Nat} {a : AVal} {sem : List Bool} {sf : Nat → Bool} (hsf : ∀ i, sf i = sem.getD i false) {lv : LeaveP} {lvc : LeaveC} (hk : HZ Z Γ H nx) (ha : ArgB a sem) (hn : n < 30) (hm : m < 9) (hK : ∀ H' nx', K (.ret (.bool true)) H' nx') {env : Env} (hle : EnvLe (envL .und [(9, iv 0), (7, AVal.str (Pl.head m)), (6, AVal.bool false), (2, a), (1, iv m), (0, iv n)]) env) :
  LpP PG 156 (subAt (codeOf PG f_law4_ParseLists) [1, 1, 1, 1, 1, 1, 0, 1, 0, 0]) env H nx [] none
   (contAt PG (TriP PG) (LpP PG 156) 156 (codeOf PG f_law4_ParseLists) [1, 1, 1, 1, 1, 1, 0, 1, 0] (endK PG lv lvc K (resOf PG f_law4_ParseLists))) := by
 have hh := (Pl.head_len m hm).1
 have hbl := Pl.body_len sf
 refine loop_w (P := PG) (X := Nat) (Y := Unit) (fun i => envL .und [(9, iv i), (7, .str (Pl.head m ++ Pl.body sf i)), (6, .bool false), (2, a), (1, iv m), (0, iv n)]) (fun _ => envL .und [(9, iv n), (7, .str (Pl.head m ++ Pl.body sf n)), (6, .bool false), (2, a), (1, iv m), (0, iv n)])
  (fun x i H1 nx1 => x = n - i ∧ i ≤ n ∧ HZ Z Γ H1 nx1) (fun id _ H1 nx1 => id = 2 ∧ HZ Z Γ H1 nx1) n 0 (by simpa [Pl.body] using hle) ⟨rfl, by omega, hk⟩ ?_ ?_
 ·rintro x i H1 nx1 ⟨rfl, hi, k1⟩
  have hb := hbl i
  refine WpP.part (ts := [0, 1, 2, 6, 7, 9]) mixed ?_
  rw [L2_eq]
  unfold L2
  refine ifB_iff.2 ⟨fun h => ?_, fun h => ?_⟩
  ·have h : (i : Int) < n := of_decide_eq_true h
   have him : i < n := by omega
   refine ⟨by simp; omega, digitsAll (by omega) k1 fun s H2 nx2 h2 k2 h3 h4 => onEnd_ret.2 ⟨_, rfl, by simp; omega, by simp; omega, _, ha.1, ?_⟩⟩
   have hs := h4 (by omega) (by omega)
   rw [Int.toNat_natCast] at hs
   subst hs
   have go : ∀ (b : Bool) (txt : List UInt8), sf i = b → txt = (Pl.head m ++ Pl.body sf i) ++ Pl.stmtT i b →
     ([] : Dfs) = [] ∧ ∃ m' x', m' < n - i ∧ EnvLe (envL .und [(9, iv ((x' : Nat) : Int)), (7, .str (Pl.head m ++ Pl.body sf x')), (6, .bool false), (2, a), (1, iv m), (0, iv n)]) (envL .und [(0, iv n), (1, iv m), (2, a), (6, .bool false), (7, .str txt), (9, iv (IntKind.i64.wrap ((i : Int) + 1)))]) ∧ m' = n - x' ∧ x' ≤ n ∧ HZ Z Γ H2 nx2 := fun b txt hb he => by
    refine ⟨rfl, n - (i + 1), i + 1, by omega, ?_, rfl, by omega, k2⟩
    rw [wrap64_id (by omega) (by omega), he, Pl.body, hb, List.append_assoc]
    exact EnvLe.of_list (by exact ⟨rfl, rfl, rfl, rfl, rfl, rfl, trivial⟩)
   refine ifB_iff.2 ⟨fun h => ?_, fun h => ?_⟩
   ·have h : (i : Int) < (sem.length : Int) := of_decide_eq_true h
    obtain ⟨p, hp, hl⟩ := ha.2 i (by omega)
    refine ⟨by omega, p, by rw [Int.toNat_natCast]; exact hp, _, hl _, ?_⟩
    have hd := Pl.dig_len i
    rw [← hsf]
    refine ifB_iff.2 ⟨fun h => ⟨by simp; omega, go _ _ h ?_⟩, fun h => go _ _ h ?_⟩
    ·simp [Pl.stmtT]
    ·simp [Pl.stmtT]
   ·have h : ¬ (i : Int) < (sem.length : Int) := of_decide_eq_false h
    refine go false _ ?_ ?_
    ·rw [hsf]; simp [List.getD, List.getElem?_eq_none (show sem.length ≤ i by omega)]
    ·simp [Pl.stmtT]
  ·have h : ¬ (i : Int) < n := of_decide_eq_false h
   have : i = n := by omega
   subst this
   exact ⟨rfl, (), EnvLe.of_list (by exact ⟨rfl, rfl, rfl, rfl, rfl, rfl, trivial⟩), rfl, k1⟩
 ·rintro id _ H1 nx1 ⟨rfl, k1⟩
  have hb := hbl n
  rw [A2_eq]
  unfold A2
  refine ⟨by simp; omega, ?_⟩
  obtain ⟨l, t, e1, e2, hsh⟩ := Pl.text_tree hm hn sf
  obtain ⟨l0, c0, l1, c1, rv, y, l2, c2, ss, ps, rfl, hps, hpt, hss, hst⟩ := hsh
  have hrun : Ps.parse (Pl.head m ++ Pl.body sf n ++ [125, 10, 59, 59, 10]) 100 = some (.ok (.node 1 [] 0 l0 c0 [.node 6 [102] 0 l1 c1 (rv :: y :: .node 10 [] 0 l2 c2 ss :: ps)])) := by
   have : Pl.head m ++ Pl.body sf n ++ [125, 10, 59, 59, 10] = Pl.text m n sf := by simp [Pl.text, Pl.foot]
   rw [this]; unfold Ps.parse; rw [e1]; exact e2
  refine parse_ok hrun k1 fun v Γ2 H2 i2 h2 k2 s2 hv => onEnd_ret.2 ?_
  obtain ⟨c, rfl, hn'⟩ := hv
  cases hn' with
  | @mk _ _ _ _ _ w _ cs hs hki =>
  have hw : KidsV (fun _ => False) Γ2 w [.node 6 [102] 0 l1 c1 (rv :: y :: .node 10 [] 0 l2 c2 ss :: ps)] := ⟨cs, hs, hki⟩
  refine ⟨_, _, _, _, _, _, _, _, _, rfl, ?_⟩
  have hf1 := k2.fresh (Nat.le_refl i2)
  refine scrN k2 (nx' := i2 + 1) (Nat.le_refl _) (by omega) fun H3 k3 => ?_
  have hf2 := k3.fresh (Nat.le_refl (i2 + 1))
  refine scrN k3 (nx' := i2 + 1 + 1) (Nat.le_refl _) (by omega) fun H4 k4 => ?_
  refine stAll k4 ((gup_ne (by omega)).trans (gup_same _ _ _)) rfl (by simp only [allCell, hw.cell]; rfl) fun H5 k5 => ?_
  refine stAll k5 ((gup_ne (by omega)).trans (gup_same _ _ _)) rfl rfl fun H6 k6 => ?_
  obtain ⟨Γ6, e6⟩ : ∃ Γ6, Γ6 = gup (i2 + 1) (some [iv 0, iv 0]) (gup i2 (some [iv 1, AVal.str [], iv 0, iv l0, iv c0, w]) (gup (i2 + 1) (some [iv 0, iv 0]) (gup i2 (some [iv 0, AVal.str [], iv 0, iv 0, iv 0, AVal.nilSlice]) Γ2))) := ⟨_, rfl⟩
  replace k6 : HZ Z Γ6 H6 (i2 + 1 + 1) := by rw [e6]; exact k6
  have g6 : Γ6 i2 = some [iv 1, AVal.str [], iv 0, iv l0, iv c0, w] := by rw [e6, gup_ne (by omega), gup_same]
  have s6 : ∀ b cs, Γ2 b = some cs → Γ6 b = some cs := fun b cs e => by
   have h0 : b ≠ i2 := neK e hf1
   have h1 : b ≠ i2 + 1 := neK e (by rwa [gup_ne (by omega)] at hf2)
   rw [e6, gup_ne h1, gup_ne h0, gup_ne h1, gup_ne h0]; exact e
  clear e6 hf1 hf2
  refine known_ok k6 fun Γ7 H7 nx7 h7 k7 s7 => onEnd_ret.2 ⟨_, rfl, ifB_f rfl (ifB_f rfl ?_)⟩
  have g7 := s7 _ _ g6
  have hw7 := hw.mono (fun _ h => h) fun b cs _ e => s7 b cs (s6 b cs e)
  have lt5 : ld1 H7 (.ptr i2 5) = some w := by rw [k7.ld1 g7]; rfl
  obtain ⟨b1, o1, w1, x1, N1⟩ := nav_f k7 hw7 (j := 0) (by simp) rfl
  obtain ⟨b2, o2, w2, x2, N2⟩ := nav_f k7 N1.kids (j := 2) (by simp) rfl
  refine ⟨_, rfl, _, lt5, _, hw7.len, ifB_f rfl ⟨_, rfl, _, lt5, by decide, _, x1, _, rfl, _, N1.c5, _, N1.kids.len, ifB_f ?_ ⟨_, rfl, _, lt5, by decide, _, x1, _, rfl, _, N1.c5, by decide, _, x2, _, rfl, _, N2.c5, _, N2.kids.len, ifB_f ?_ ?_⟩⟩⟩
  ·rw [wrap64_id (by omega) (by omega)]
   have : Int.ofNat (rv :: y :: Tree.node 10 [] 0 l2 c2 ss :: ps).length = 3 + (m : Int) := by simp [hps]; omega
   rw [decide_eq_true this]; rfl
  ·have : Int.ofNat ss.length = (n : Int) := by simp [hss]
   rw [decide_eq_true this]; rfl
  ·exact lists3 k7 g7 hw7 hn hm hss hst hps hpt hK (EnvLe.of_list (by exact ⟨rfl, rfl, rfl, rfl, rfl, trivial⟩))
theorem lists_ok {n m : Int} {a : AVal} {sem : List Bool} (ha : ArgB a sem) (hk : HZ Z Γ H nx) (hK : ∀ H' nx', K (.ret (.bool true)) H' nx') : TriP PG f_law4_ParseLists [iv n, iv m, a] H nx K := by
 refine TriP.of_body mixed ?_
 rw [Flaw4_ParseLists_eq]
 unfold Flaw4_ParseLists
 refine pick_ok (by omega) (by omega) (onEnd_ret.2 ⟨_, rfl, pick_ok (by omega) (by omega) (onEnd_ret.2 ⟨_, rfl, ?_⟩)⟩)
 have p1 := pick_lt (n := n) (m := 30) (by omega)
 have p2 := pick_lt (n := m) (m := 9) (by omega)
 generalize n % 30 = n' at p1
 generalize m % 9 = m' at p2
 obtain ⟨N, rfl⟩ : ∃ N : Nat, n' = N := ⟨n'.toNat, by omega⟩
 obtain ⟨M, rfl⟩ : ∃ M : Nat, m' = M := ⟨m'.toNat, by omega⟩
 have hpl := Pl.prm_len
 refine loop_w (P := PG) (X := Nat) (Y := Unit) (fun i => envL .und [(8, iv i), (7, .str ([102, 117, 110, 99, 32, 102, 40] ++ Pl.prm i)), (6, .bool false), (2, a), (1, iv M), (0, iv N)]) (fun _ => envL .und [(8, iv M), (7, .str ([102, 117, 110, 99, 32, 102, 40] ++ Pl.prm M)), (6, .bool false), (2, a), (1, iv M), (0, iv N)])
  (fun x i H1 nx1 => x = M - i ∧ i ≤ M ∧ HZ Z Γ H1 nx1) (fun id _ H1 nx1 => id = 0 ∧ HZ Z Γ H1 nx1) M 0 (EnvLe.of_list (by exact ⟨rfl, rfl, rfl, rfl, rfl, rfl, trivial⟩)) ⟨rfl, by omega, hk⟩ ?_ ?_
 ·rintro x i H1 nx1 ⟨rfl, hi, k1⟩
  have hb := hpl i
  refine WpP.part (ts := [0, 1, 2, 6, 7, 8]) mixed ?_
  rw [L1_eq]
  unfold L1
  refine ifB_iff.2 ⟨fun h => ?_, fun h => ?_⟩
  ·have h : (i : Int) < M := of_decide_eq_true h
   have him : i < M := by omega
   have go : ∀ (H2 : Heap) (nx2 : Nat) (txt : List UInt8), HZ Z Γ H2 nx2 → txt = ([102, 117, 110, 99, 32, 102, 40] ++ Pl.prm i) ++ ((if 0 < i then [44, 32] else []) ++ (112 :: (Pl.dig i ++ [32, 105, 110, 116]))) →
     ([] : Dfs) = [] ∧ ∃ m' x', m' < M - i ∧ EnvLe (envL .und [(8, iv ((x' : Nat) : Int)), (7, .str ([102, 117, 110, 99, 32, 102, 40] ++ Pl.prm x')), (6, .bool false), (2, a), (1, iv M), (0, iv N)]) (envL .und [(0, iv N), (1, iv M), (2, a), (6, .bool false), (7, .str txt), (8, iv (IntKind.i64.wrap ((i : Int) + 1)))]) ∧ m' = M - x' ∧ x' ≤ M ∧ HZ Z Γ H2 nx2 := fun H2 nx2 txt k2 he => by
    refine ⟨rfl, M - (i + 1), i + 1, by omega, ?_, rfl, by omega, k2⟩
    rw [wrap64_id (by omega) (by omega), he, Pl.prm, List.append_assoc]
    exact EnvLe.of_list (by exact ⟨rfl, rfl, rfl, rfl, rfl, rfl, trivial⟩)
   refine ifB_iff.2 ⟨fun h => ?_, fun h => ?_⟩
   ·have h : (0 : Int) < i := of_decide_eq_true h
    refine ⟨by simp; omega, by simp; omega, digitsAll (by omega) k1 fun s H2 nx2 h2 k2 h3 h4 => onEnd_ret.2 ⟨_, rfl, by simp; omega, by simp; omega, ?_⟩⟩
    have hs := h4 (by omega) (by omega)
    rw [Int.toNat_natCast] at hs
    subst hs
    refine go _ _ _ k2 ?_
    rw [if_pos (by omega)]; simp
   ·have h : ¬ (0 : Int) < i := of_decide_eq_false h
    refine ⟨by simp; omega, digitsAll (by omega) k1 fun s H2 nx2 h2 k2 h3 h4 => onEnd_ret.2 ⟨_, rfl, by simp; omega, by simp; omega, ?_⟩⟩
    have hs := h4 (by omega) (by omega)
    rw [Int.toNat_natCast] at hs
    subst hs
    refine go _ _ _ k2 ?_
    rw [if_neg (by omega)]; simp
  ·have h : ¬ (i : Int) < M := of_decide_eq_false h
   have : i = M := by omega
   subst this
   exact ⟨rfl, (), EnvLe.of_list (by exact ⟨rfl, rfl, rfl, rfl, rfl, rfl, trivial⟩), rfl, k1⟩
 ·rintro id _ H1 nx1 ⟨rfl, k1⟩
  have hb := hpl M
  rw [A1_eq]
  unfold A1
  refine ⟨by simp; omega, lists2 (n := N) (m := M) (fun _ => rfl) k1 ha (by omega) (by omega) hK (EnvLe.of_list ?_)⟩
  exact ⟨rfl, by show AVal.str _ = AVal.str _; simp [Pl.head], rfl, rfl, rfl, rfl, trivial⟩
end
end
end Go.Vs
end
