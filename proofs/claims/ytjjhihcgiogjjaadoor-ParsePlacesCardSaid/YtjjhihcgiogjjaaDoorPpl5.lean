/-
  Own work. Texts of a proof, laid together; no condition.
-/
import Derived.Test.YtjjhihcgiogjjaaDoorPplPRow
import Derived.Test.YtjjhihcgiogjjaaDoorPpl4
import Derived.Test.YtjjhihcgiogjjaaDoorPpl2
import Derived.Test.YtjjhihcgiogjjaaDoorPpl3
set_option linter.unusedSectionVars false
set_option linter.unusedVariables false
set_option linter.unusedSimpArgs false
set_option maxRecDepth 1000000
section
namespace Go.Vs
open Go.Proofs
variable [GTab] {Z : Nat → Prop}
noncomputable section
abbrev resOne (l : List Tok) (n d : Nat) : Nat → Rs (Tree × Nat) := fun b => if ((Ps.tk l b).kind == 2 || Ps.isTyp l b || Ps.is l b [91]) = true then Ps.run l n .typ d b else Rs.ok (Ps.none_, b)
theorem KidsC.all {ex : Nat → Prop} {Γ : GH} : ∀ {c : List AVal} {t : List Tree}, KidsC ex Γ c t → allCell c = true
 | _, _, .nil => rfl
 | _, _, .cons (.mk cs hs hk) hl => by
  have h1 := KidsV.cell ⟨cs, hs, hk⟩
  have h2 := KidsC.all hl
  show allCell (_ :: _ :: _ :: _ :: _ :: _ :: _) = true
  simp only [allCell, h1]
  exact h2
theorem row_len {l : List Tok} {one : Nat → Rs (Tree × Nat)} (ho : Ps.AdvOK one) {n a : Nat} {xs : List Tree} {b : Nat} (h : Ps.row l one n a = some (.ok (xs, b))) : xs.length + a ≤ b := by
 unfold Ps.row at h
 refine Ps.lift_el h fun c h1 h => ?_
 have := Ps.need_ok h1
 refine Ps.ite_el h (fun _ h => Ps.ok_el h fun h4 h5 => ?_) fun _ h => ?_
 ·subst h4 h5; simp; omega
 ·have := rowGo_len ho _ _ _ _ h; omega
section
variable {Γ0 Γ : GH} {n0 : Nat} {H : Heap} {nx a d n i : Nat} {C : RC} {K : EndP} {res : Except Flt (Tree × Nat)}
theorem appK {x : List AVal} {t1 ts : List Tree} {v : AVal} (hk : HZ Z Γ H nx) (hr : Rd Γ C a d) (hb : Γ i = some x) (hx : ¬ C.ex i) (hc : KidsC C.ex Γ x t1) (h1 : 0 < t1.length) (hv : KidsV C.ex Γ v ts) (hfew : t1.length + ts.length ≤ 6000) {n1 : Nat} (hn1 : n1 = t1.length)
  {k : AVal → Heap → Nat → Prop} (h : ∀ w Γ' H' nx', nx ≤ nx' → HZ Z Γ' H' nx' → KeepX C.r nx Γ Γ' → Rd Γ' C a d → KidsV C.ex Γ' w (t1 ++ ts) → k w H' nx') :
  ∃ m l, aSrc 6 H v = some (m, l) ∧ allCell l = true ∧ ∃ w H' nx', appC H nx 6 72 (.slice i 0 n1 6 true) m l = some (w, H', nx') ∧ k w H' nx' := by
 subst hn1
 obtain ⟨cs, hs, hkc⟩ := hv
 have hs' : SrcV Γ v 6 ts.length cs := hs.mono fun c ds e => by
  by_cases hex : C.ex c
  ·rw [hide_ex hex] at e; cases e
  ·rw [hide_not hex] at e; exact e
 refine ⟨ts.length, cs, hs'.src hk, hkc.all, ?_⟩
 have hl := hc.len
 cases hts : ts with
 | nil =>
  subst hts
  refine ⟨_, _, _, rfl, h _ Γ _ _ (Nat.le_refl _) hk (.refl _ _ _) hr ?_⟩
  rw [List.append_nil]
  exact .blk hx hb hc rfl
 | cons t r =>
  rw [← hts]
  obtain ⟨H', e1, e2⟩ := hk.appFull (off := 0) (len := t1.length) (esz := 6) (ebytes := 72) (k := ts.length) (new := cs) hb (by omega) hkc.len (by rw [hts]; simp) (by omega) (by omega)
  have hf := hk.fresh (Nat.le_refl nx)
  refine ⟨_, H', _, e1, h _ _ _ _ (by omega) e2 (.new hf) (hr.new hf) ?_⟩
  refine .blk (hr.notex hf) (gup_same _ _ _) ?_ (by simp)
  have hd : (x.drop 0).take (t1.length * 6) = x := by rw [← hl]; simp
  rw [hd]
  exact KidsC.app (hc.keep hr.rex (.new (nx := nx) hf)) (hkc.keep hr.rex (.new (nx := nx) hf))
variable {Cb : RC} {t : Tok} {kk : Int} {s : List UInt8} {v : AVal} {ts : List Tree} {b : Nat} {pK : List (AVal × Bool) → Heap → Nat → Prop}
theorem node_fin (hk : HZ Z Γ H nx) (hr : Rd Γ (Cb.add i) b d) (hi : Res Γ Cb i) (h0 : Γ0 i = none ∧ n0 ≤ i) (hrex : Cb.ex Cb.r) (hv : KidsV (Cb.add i).ex Γ v ts) (e : res = .ok (Ps.mk t kk s ts, b)) (hK : Owe Z K Γ0 n0 Γ nx Cb d res (NodeV Cb.ex)) :
  TriP PG f_p_node [tokV t, iv kk, .str s, v] H nx fun e H' nx' => onEnd e (fun v => ∃ (n1 : Int) (s1 : List UInt8) (x1 y1 z1 : Int) (v1 : AVal), v = .agg [iv n1, .str s1, iv x1, iv y1, iv z1, v1] ∧ ∃ H1, stC H' (.ptr i 0) [iv n1, .str s1, iv x1, iv y1, iv z1, v1] = some H1 ∧
   ∃ (n1 : Int) (s1 : List UInt8) (x1 y1 z1 : Int) (v1 : AVal), ldN H1 6 (.ptr i 0) = some (.agg [iv n1, .str s1, iv x1, iv y1, iv z1, v1]) ∧ K (.ret (.agg [iv n1, .str s1, iv x1, iv y1, iv z1, v1])) H1 nx') fun l => pK l H' nx' := by
 refine node_call (C := Cb.add i) hk hv hK fun H6 nx6 h6 hk6 hn6 hw6 hK6 => ⟨_, _, _, _, _, _, rfl, ?_⟩
 exact fin6 hk6 hr hi h0 hrex hw6 hn6 e hK6
theorem node_finT (hk : HZ Z Γ H nx) (hr : Rd Γ (Cb.add i) b d) (hi : Res Γ Cb i) (h0 : Γ0 i = none ∧ n0 ≤ i) (hrex : Cb.ex Cb.r) (hv : KidsV (Cb.add i).ex Γ v ts) (e : res = .ok (Ps.mk t kk s ts, b)) (hK : Owe Z K Γ0 n0 Γ nx Cb d res (NodeV Cb.ex)) :
  TriP PG f_p_node [tokV t, iv kk, .str s, v] H nx fun e H' nx' => onEnd e (fun v => ∃ (n1 : Int) (s1 : List UInt8) (x1 y1 z1 : Int) (v1 : AVal), v = .agg [iv n1, .str s1, iv x1, iv y1, iv z1, v1] ∧ True ∧ ∃ H1, stC H' (.ptr i 0) [iv n1, .str s1, iv x1, iv y1, iv z1, v1] = some H1 ∧ True ∧
   ∃ (n1 : Int) (s1 : List UInt8) (x1 y1 z1 : Int) (v1 : AVal), ldN H1 6 (.ptr i 0) = some (.agg [iv n1, .str s1, iv x1, iv y1, iv z1, v1]) ∧ K (.ret (.agg [iv n1, .str s1, iv x1, iv y1, iv z1, v1])) H1 nx') fun l => pK l H' nx' := by
 refine node_call (C := Cb.add i) hk hv hK fun H6 nx6 h6 hk6 hn6 hw6 hK6 => ⟨_, _, _, _, _, _, rfl, trivial, ?_⟩
 obtain ⟨H7, q1, q2⟩ := fin6 hk6 hr hi h0 hrex hw6 hn6 e hK6
 exact ⟨H7, q1, trivial, q2⟩
theorem node_finD (hk : HZ Z Γ H nx) (hr : Rd Γ (Cb.add i) b (d + 1)) (hi : Res Γ Cb i) (h0 : Γ0 i = none ∧ n0 ≤ i) (hrex : Cb.ex Cb.r) (hv : KidsV (Cb.add i).ex Γ v ts) (e : res = .ok (Ps.mk t kk s ts, b)) (hK : Owe Z K Γ0 n0 Γ nx Cb d res (NodeV Cb.ex)) :
  TriP PG f_p_node [tokV t, iv kk, .str s, v] H nx fun e H' nx' => onEnd e (fun v => ∃ (n1 : Int) (s1 : List UInt8) (x1 y1 z1 : Int) (v1 : AVal), v = .agg [iv n1, .str s1, iv x1, iv y1, iv z1, v1] ∧ ∃ H1, stC H' (.ptr i 0) [iv n1, .str s1, iv x1, iv y1, iv z1, v1] = some H1 ∧
   lvcSem PG (TriDP PG) [.cell (.ptr i 0) t_node] [(f_rd_leave, [.ptr Cb.r 0])] .returning H1 nx' fun e H' nx' => K e H' nx') fun l => pK l H' nx' := by
 refine node_call (C := Cb.add i) hk hv hK fun H6 nx6 h6 hk6 hn6 hw6 hK6 => ⟨_, _, _, _, _, _, rfl, ?_⟩
 exact fin6d hk6 hr hi h0 hrex hw6 hn6 e hK6
theorem node_finTD (hk : HZ Z Γ H nx) (hr : Rd Γ (Cb.add i) b (d + 1)) (hi : Res Γ Cb i) (h0 : Γ0 i = none ∧ n0 ≤ i) (hrex : Cb.ex Cb.r) (hv : KidsV (Cb.add i).ex Γ v ts) (e : res = .ok (Ps.mk t kk s ts, b)) (hK : Owe Z K Γ0 n0 Γ nx Cb d res (NodeV Cb.ex)) :
  TriP PG f_p_node [tokV t, iv kk, .str s, v] H nx fun e H' nx' => onEnd e (fun v => ∃ (n1 : Int) (s1 : List UInt8) (x1 y1 z1 : Int) (v1 : AVal), v = .agg [iv n1, .str s1, iv x1, iv y1, iv z1, v1] ∧ True ∧ ∃ H1, stC H' (.ptr i 0) [iv n1, .str s1, iv x1, iv y1, iv z1, v1] = some H1 ∧ True ∧
   lvcSem PG (TriDP PG) [.cell (.ptr i 0) t_node] [(f_rd_leave, [.ptr Cb.r 0])] .returning H1 nx' fun e H' nx' => K e H' nx') fun l => pK l H' nx' := by
 refine node_call (C := Cb.add i) hk hv hK fun H6 nx6 h6 hk6 hn6 hw6 hK6 => ⟨_, _, _, _, _, _, rfl, trivial, ?_⟩
 obtain ⟨H7, q1, q2⟩ := fin6d hk6 hr hi h0 hrex hw6 hn6 e hK6
 exact ⟨H7, q1, trivial, q2⟩
theorem mk_cells {ex : Nat → Prop} {Γ : GH} {kk n li co : Int} {s : List UInt8} {w : AVal} {t : Tree} (h : NodeC ex Γ [iv kk, .str s, iv n, iv li, iv co, w] t) : cellv w = true := by
 cases h with
 | mk cs hs hk => exact KidsV.cell ⟨cs, hs, hk⟩
end
section
variable {Γ : GH} {H : Heap} {nx a d n : Nat} {C : RC} {K : EndP} {res : Except Flt (Tree × Nat)}
theorem method_ok (W : Toks C.l) (ih : IH C.l C.r C.tb n) (hd : d ≤ 40) (hrun : Ps.run C.l (n + 1) .method d a = some res) (hk : HZ Z Γ H nx) (hr : Rd Γ C a d) (hK : Meets Z K Γ nx C d res (NodeV C.ex)) : TriP PG f_rd_method [.ptr C.r 0] H nx K := by
 refine TriP.of_body mixed ?_
 rw [Frd_method_eq]
 unfold Frd_method
 simp only [Ps.run] at hrun
 have hrex := hr.rex
 refine begin6 hk hr hK fun Γ H hk hr hi hf hK kp => ?_
 refine name_call (C := C.add nx) W hrun hk hr hK rfl .id (fun _ h => h) fun Γ H m hkd hrun h hk kp hr hK => ⟨_, _, _, _, _, rfl, ?_⟩
 replace hi := hi.keep kp
 refine tokIn (C := C.add nx) hk hr hK rfl fun Γ H hk hr ht kp hK => ?_
 replace hi := hi.keep kp
 refine row_call (C := C.add nx) W (adv1 rfl) to_typ (ih.typ d hd) hrun hk hr hK rfl .id (fun _ h => h) fun ts b v Γ H m' erow hrun h hk kp hv hr hK => ?_
 replace hi := hi.keep kp; replace ht := ht.keep kp
 refine ⟨_, _, _, _, _, ht.tok hk, _, rfl, _, ht.ld hk 1, ⟨⟨_, _, _, _, _, ht.tok hk, rfl⟩, ⟨_, ht.ld hk 1, rfl⟩, trivial⟩, ?_⟩
 have hlen := row_len (adv1 (by rfl)) erow
 have hlt : b < C.l.length := hr.lt
 have hW := W.few
 obtain ⟨hk', hni⟩ := reserve (i := m' + 5) (nx' := m' + 10) hk (by omega) (by omega)
 refine rule_call (one := resOne C.l n d) (C := C.add nx) (fun Z ex res Γ H nx K h1 h2 h3 h4 => result_ok (C := ⟨C.r, C.tb, C.l, ex⟩) W ih hd h1 h2 h3 h4) hrun hk' hr (hK.from (by omega) (.refl _ _ _)) rfl .id rz_in fun t c kk s n li co w Γ H m'' e1 hrun h hk kp hw hn hr hK => ⟨_, _, _, _, _, _, rfl, ?_⟩
 replace hi := hi.keep kp; replace ht := ht.keep kp; replace hv := hv.keep hr.rex kp
 refine blkTake (C := C.add nx) hk hni hr hK rfl (by omega) fun Γ H hk hr hb hx kp hK => ?_
 replace hi := hi.keep kp; replace ht := ht.keep kp; replace hv := hv.keep hr.rex kp; replace hn := hn.keep hr.rex kp
 refine ⟨⟨⟨_, _, _, _, _, ht.tok hk, rfl⟩, ⟨_, ht.ld hk 1, rfl⟩, trivial⟩, ?_⟩
 refine appK (C := C.add nx) hk hr hb.e hx hn.one (by simp) hv (by simp; omega) rfl fun w Γ H m3 h hk kp hr hv => ?_
 replace hi := hi.keep kp; replace ht := ht.keep kp; replace hK := hK.from h kp
 refine ⟨⟨⟨_, _, _, _, _, ht.tok hk, rfl⟩, ⟨_, ht.ld hk 1, rfl⟩, trivial⟩, ?_⟩
 cases hrun
 exact node_finT hk hr hi hf hrex hv rfl hK
end
end
end Go.Vs
end
section
namespace Go.Vs
open Go.Proofs
variable [GTab] {Z : Nat → Prop}
noncomputable section
section
variable {Γ : GH} {H : Heap} {nx a d n : Nat} {C : RC} {K : EndP} {res : Except Flt (Tree × Nat)}
theorem simple_ok (W : Toks C.l) (ih : IH C.l C.r C.tb n) (hd : d ≤ 40)
  (hrun : (Rs.bind (Ps.run C.l n .expr d a) fun (e, b) => if Ps.is C.l b [58, 61] then Rs.bind (Ps.run C.l n .expr d (b + 1)) fun (y, c) => Rs.ok (Ps.mk (Ps.tk C.l b) 12 [] [e, y], c)
    else if Ps.is C.l b [61] then Rs.bind (Ps.run C.l n .expr d (b + 1)) fun (y, c) => Rs.ok (Ps.mk (Ps.tk C.l b) 13 [] [e, y], c)
    else Rs.ok (Ps.mk (Ps.tk C.l a) 19 [] [e], b)) = some res)
  (hk : HZ Z Γ H nx) (hr : Rd Γ C a d) (hK : Meets Z K Γ nx C d res (NodeV C.ex)) : TriP PG f_rd_simple [.ptr C.r 0] H nx K := by
 refine TriP.of_body mixed ?_
 rw [Frd_simple_eq]
 unfold Frd_simple
 have hrex := hr.rex
 refine begin6 hk hr hK fun Γ H hk hr hi hf hK kp => ?_
 refine now_call (C := C.add nx) hk hr hK fun H m1 h hk hK => ⟨_, _, _, _, _, rfl, ?_⟩
 refine tokIn (C := C.add nx) hk hr hK rfl fun Γ H hk hr ht kp hK => ?_
 replace hi := hi.keep kp
 refine rule_call (C := C.add nx) (fun Z ex res Γ H nx K h => ih.expr d hd Z ex a res Γ H nx K h) hrun hk hr hK rfl .id (fun _ h => h) fun t c kk s n1 li co w Γ H m2 e1 hrun h hk kp hw hn hr hK => ⟨_, _, _, _, _, _, rfl, ?_⟩
 replace hi := hi.keep kp; replace ht := ht.keep kp
 refine nodeIn (C := C.add nx) hk hr hw hK rfl fun Γ H hk hr hb kp hK => ?_
 replace hi := hi.keep kp; replace ht := ht.keep kp; replace hn := hn.keep hr.rex kp
 refine now_call (C := C.add nx) hk hr hK fun H m3 h hk hK => ⟨_, _, _, _, _, rfl, ?_⟩
 refine tokIn (C := C.add nx) hk hr hK rfl fun Γ H hk hr ht2 kp hK => ?_
 replace hi := hi.keep kp; replace ht := ht.keep kp; replace hb := hb.keep kp; replace hn := hn.keep hr.rex kp
 refine has_call (C := C.add nx) W hrun hk hr hK rfl (fun _ h => h) (fun Γ H m4 his hrun h hk kp hr hK => ⟨_, rfl, ifB_t rfl ?_⟩) (fun H m4 his hrun h hk hK => ⟨_, rfl, ifB_f rfl ?_⟩)
 ·replace hi := hi.keep kp; replace ht := ht.keep kp; replace ht2 := ht2.keep kp; replace hb := hb.keep kp; replace hn := hn.keep hr.rex kp
  refine ⟨_, _, _, _, _, ht2.tok hk, _, _, _, _, _, _, ldAll hk hb.e rfl, ⟨⟨_, _, _, _, _, ht2.tok hk, rfl⟩, ⟨_, _, _, _, _, _, ldAll hk hb.e rfl, rfl⟩, trivial⟩, ?_⟩
  obtain ⟨hk', hni⟩ := reserve (i := m4 + 4) (nx' := m4 + 7) hk (by omega) (by omega)
  refine rule_call (C := C.add nx) (fun Z ex res Γ H nx K h => ih.expr d hd Z ex _ res Γ H nx K h) hrun hk' hr (hK.from (by omega) (.refl _ _ _)) rfl .id rz_in fun t c2 kk2 s2 n2 li2 co2 w2 Γ H m5 e2 hrun h hk kp hw2 hn2 hr hK => ⟨_, _, _, _, _, _, rfl, ?_⟩
  replace hi := hi.keep kp; replace ht := ht.keep kp; replace ht2 := ht2.keep kp; replace hb := hb.keep kp; replace hn := hn.keep hr.rex kp
  refine blkTake (C := C.add nx) hk hni hr hK rfl (by omega) fun Γ H hk hr hb2 hx kp hK => ?_
  replace hi := hi.keep kp; replace ht := ht.keep kp; replace ht2 := ht2.keep kp; replace hb := hb.keep kp; replace hn := hn.keep hr.rex kp; replace hn2 := hn2.keep hr.rex kp
  refine ⟨⟨⟨_, _, _, _, _, ht2.tok hk, rfl⟩, ⟨_, _, _, _, _, _, ldAll hk hb.e rfl, rfl⟩, trivial⟩, ?_⟩
  cases hrun
  exact node_finT hk hr hi hf hrex (.blk hx hb2.e (.cons hn hn2.one) rfl) rfl hK
 refine has_call (C := C.add nx) W hrun hk hr hK rfl (fun _ h => h) (fun Γ H m4 his hrun h hk kp hr hK => ⟨_, rfl, ifB_t rfl ?_⟩) (fun H m4 his hrun h hk hK => ⟨_, rfl, ifB_f rfl ?_⟩)
 ·replace hi := hi.keep kp; replace ht := ht.keep kp; replace ht2 := ht2.keep kp; replace hb := hb.keep kp; replace hn := hn.keep hr.rex kp
  refine ⟨_, _, _, _, _, ht2.tok hk, _, _, _, _, _, _, ldAll hk hb.e rfl, ⟨⟨_, _, _, _, _, ht2.tok hk, rfl⟩, ⟨_, _, _, _, _, _, ldAll hk hb.e rfl, rfl⟩, trivial⟩, ?_⟩
  obtain ⟨hk', hni⟩ := reserve (i := m4 + 4) (nx' := m4 + 7) hk (by omega) (by omega)
  refine rule_call (C := C.add nx) (fun Z ex res Γ H nx K h => ih.expr d hd Z ex _ res Γ H nx K h) hrun hk' hr (hK.from (by omega) (.refl _ _ _)) rfl .id rz_in fun t c2 kk2 s2 n2 li2 co2 w2 Γ H m5 e2 hrun h hk kp hw2 hn2 hr hK => ⟨_, _, _, _, _, _, rfl, ?_⟩
  replace hi := hi.keep kp; replace ht := ht.keep kp; replace ht2 := ht2.keep kp; replace hb := hb.keep kp; replace hn := hn.keep hr.rex kp
  refine blkTake (C := C.add nx) hk hni hr hK rfl (by omega) fun Γ H hk hr hb2 hx kp hK => ?_
  replace hi := hi.keep kp; replace ht := ht.keep kp; replace ht2 := ht2.keep kp; replace hb := hb.keep kp; replace hn := hn.keep hr.rex kp; replace hn2 := hn2.keep hr.rex kp
  refine ⟨⟨⟨_, _, _, _, _, ht2.tok hk, rfl⟩, ⟨_, _, _, _, _, _, ldAll hk hb.e rfl, rfl⟩, trivial⟩, ?_⟩
  cases hrun
  exact node_finT hk hr hi hf hrex (.blk hx hb2.e (.cons hn hn2.one) rfl) rfl hK
 refine ⟨_, _, _, _, _, ht.tok hk, _, _, _, _, _, _, ldAll hk hb.e rfl, ?_⟩
 refine blkIn (nx' := m4 + 1) (C := C.add nx) hk (Nat.le_refl _) (by omega) hr hK rfl fun Γ H hk hr hb2 hx kp hK => ?_
 replace hi := hi.keep kp; replace hn := hn.keep hr.rex kp
 cases hrun
 exact node_fin hk hr hi hf hrex (.blk hx hb2.e hn.one rfl) rfl hK
end
end
end Go.Vs
end
section
namespace Go.Vs
open Go.Proofs
variable [GTab] {Z : Nat → Prop}
noncomputable section
section
variable {ex ex' : Nat → Prop} {Γ Γ' : GH}
mutual
theorem NodeC.via (hk : ∀ b cs, hide ex Γ b = some cs → hide ex' Γ' b = some cs) : ∀ {c : List AVal} {t : Tree}, NodeC ex Γ c t → NodeC ex' Γ' c t
 | _, _, .mk cs hs h => .mk cs (hs.mono hk) (KidsC.via hk h)
theorem KidsC.via (hk : ∀ b cs, hide ex Γ b = some cs → hide ex' Γ' b = some cs) : ∀ {c : List AVal} {t : List Tree}, KidsC ex Γ c t → KidsC ex' Γ' c t
 | _, _, .nil => .nil
 | _, _, .cons h hl => .cons (NodeC.via hk h) (KidsC.via hk hl)
end
end
theorem NodeC.raise {C : RC} {Γ : GH} {i : Nat} {c : List AVal} {t : Tree} (hi : Γ i = none) (h : NodeC C.ex Γ c t) : NodeC (C.add i).ex Γ c t := h.via fun b cs e => by
 by_cases hb : C.ex b
 ·rw [hide_ex hb] at e; cases e
 ·rw [hide_not hb] at e
  rw [hide_not fun x => x.elim (fun x => by rw [x, hi] at e; cases e) hb]
  exact e
theorem Res.set {C : RC} {Γ : GH} {i nx : Nat} {cs : Option (List AVal)} (h : Res Γ C nx) (hne : nx ≠ i) : Res (gup i cs Γ) C nx := ⟨let ⟨ds, e, l⟩ := h.e; ⟨ds, (gup_ne hne).trans e, l⟩, h.nr, h.nt⟩
theorem At.set {Γ : GH} {r i j : Nat} {cs : List AVal} {ds : Option (List AVal)} (h : At Γ r i cs) (hne : i ≠ j) : At (gup j ds Γ) r i cs := ⟨(gup_ne hne).trans h.e, h.ne⟩
theorem At.same {Γ : GH} {r i : Nat} {cs ds : List AVal} (h : At Γ r i cs) : At (gup i (some ds) Γ) r i ds := ⟨gup_same _ _ _, h.ne⟩
theorem NodeC.set {C : RC} {Γ : GH} {i : Nat} {cs : Option (List AVal)} {c : List AVal} {t : Tree} (h : NodeC (C.add i).ex Γ c t) : NodeC (C.add i).ex (gup i cs Γ) c t := h.mono (fun _ h => h) fun b ds hb e => (gup_ne fun x => hb (.inl x)).trans e
section
variable {Γ0 Γ : GH} {n0 : Nat} {H : Heap} {nx a d n : Nat} {C : RC} {K : EndP} {res : Except Flt (Tree × Nat)}
theorem Owe.none {β : Type} {V : GH → AVal → β → Prop} {res : Except Flt (β × Nat)} {i : Nat} (h : Owe Z K Γ0 n0 Γ nx C d res V) (hi : Γ i = none) (hr : i ≠ C.r) : Γ0 i = Option.none := by
 cases e : Γ0 i with
 | none => rfl
 | some cs => have := h.2.1.1 i cs hr e; rw [hi] at this; cases this
theorem ifs_ok (W : Toks C.l) (ih : IH C.l C.r C.tb n) (hd : d ≤ 40) (hrun : Ps.run C.l (n + 1) .ifs d a = some res) (hk : HZ Z Γ H nx) (hr : Rd Γ C a d) (hK : Meets Z K Γ nx C d res (NodeV C.ex)) : TriP PG f_rd_ifs [.ptr C.r 0] H nx K := by
 refine TriP.of_body mixed ?_
 rw [Frd_ifs_eq]
 unfold Frd_ifs
 simp only [Ps.run] at hrun
 have hrex := hr.rex
 refine begin6 hk hr hK fun Γ H hk hr hi hf hK kp => ?_
 refine need_call (C := C.add nx) W hrun hk hr hK rfl .id (fun _ h => h) fun Γ H m1 his hrun h hk kp hr hK => ⟨_, _, _, _, _, rfl, ?_⟩
 replace hi := hi.keep kp
 refine tokIn (C := C.add nx) hk hr hK rfl fun Γ H hk hr ht kp hK => ?_
 replace hi := hi.keep kp
 refine rule_call (C := C.add nx) (fun Z ex res Γ H nx K h => ih.expr d hd Z ex _ res Γ H nx K h) hrun hk hr hK rfl .id (fun _ h => h) fun t1 c1 kk1 s1 n1 li1 co1 w1 Γ H m2 e1 hrun h hk kp hw1 hn1 hr hK => ⟨_, _, _, _, _, _, rfl, ?_⟩
 replace hi := hi.keep kp; replace ht := ht.keep kp
 refine nodeIn (C := C.add nx) hk hr hw1 hK rfl fun Γ H hk hr hb1 kp hK => ?_
 replace hi := hi.keep kp; replace ht := ht.keep kp; replace hn1 := hn1.keep hr.rex kp
 refine rule_call (C := C.add nx) (fun Z ex res Γ H nx K h => ih.block d hd Z ex _ res Γ H nx K h) hrun hk hr hK rfl .id (fun _ h => h) fun t2 c2 kk2 s2 n2 li2 co2 w2 Γ H m3 e2 hrun h hk kp hw2 hn2 hr hK => ⟨_, _, _, _, _, _, rfl, ?_⟩
 replace hi := hi.keep kp; replace ht := ht.keep kp; replace hb1 := hb1.keep kp; replace hn1 := hn1.keep hr.rex kp
 refine nodeIn (C := C.add nx) hk hr hw2 hK rfl fun Γ H hk hr hb2 kp hK => ?_
 replace hi := hi.keep kp; replace ht := ht.keep kp; replace hb1 := hb1.keep kp; replace hn1 := hn1.keep hr.rex kp; replace hn2 := hn2.keep hr.rex kp
 refine none_call (C := C.add nx) hk hK fun H m4 h hk hn3 hK => ⟨_, _, _, _, _, _, rfl, ?_⟩
 have hm4 := hk.fresh (Nat.le_refl m4)
 have hm0 := hK.none hm4 (hr.r_ne hm4)
 have hm3 := hr.tb_ne hm4
 replace hn1 := hn1.raise hm4; replace hn2 := hn2.raise hm4; replace hn3 := hn3.raise hm4
 refine nodeIn (C := C.add nx) hk hr rfl hK rfl fun Γ H hk hr hb3 kp hK => ?_
 replace hr : Rd Γ ((C.add nx).add m4) _ d := hr.add (by rw [hb3.e]; simp)
 replace hi := hi.keep kp; replace ht := ht.keep kp; replace hb1 := hb1.keep kp; replace hb2 := hb2.keep kp; replace hn1 := hn1.keep hr.rex kp; replace hn2 := hn2.keep hr.rex kp; replace hn3 := hn3.keep hr.rex kp
 refine has_call (C := (C.add nx).add m4) W hrun hk hr hK rfl (fun _ h => h) (fun Γ H m5 his hrun h hk kp hr hK => ⟨_, rfl, ifB_t rfl ?_⟩) (fun H m5 his hrun h hk hK => ⟨_, rfl, ifB_f rfl ?_⟩)
 ·replace hi := hi.keep kp; replace ht := ht.keep kp; replace hb1 := hb1.keep kp; replace hb2 := hb2.keep kp; replace hb3 := hb3.keep kp; replace hn1 := hn1.keep hr.rex kp; replace hn2 := hn2.keep hr.rex kp; replace hn3 := hn3.keep hr.rex kp
  refine is_call (C := (C.add nx).add m4) hk hr hK fun H m6 h hk hK => ⟨_, rfl, ifB_iff.2 ⟨fun h1 => ?_, fun h1 => ?_⟩⟩
  ·replace hrun := (if_pos (show Ps.is C.l _ Ps.wIf = true from h1)).symm.trans hrun
   refine rule_call (one := Ps.run C.l n .ifs d) (C := (C.add nx).add m4) (fun Z ex res Γ H nx K h h2 h3 h4 => nested_ok (C := ⟨C.r, C.tb, C.l, ex⟩) ih hd h h2 h3 h4) hrun hk hr hK rfl .id (fun _ h => h) fun t c kk s n li co w Γ H m7 e3 hrun h hk kp hw hn hr hK => ⟨_, _, _, _, _, _, rfl, ?_⟩
   replace hi := hi.keep kp; replace ht := ht.keep kp; replace hb1 := hb1.keep kp; replace hb2 := hb2.keep kp; replace hb3 := hb3.keep kp; replace hn1 := hn1.keep hr.rex kp; replace hn2 := hn2.keep hr.rex kp
   refine stAll hk hb3.e rfl (by simp only [allCell, hw]; rfl) fun H hk => ?_
   replace hK := hK.upd (i := m4) (cs := some [iv kk, .str s, iv n, iv li, iv co, w]) hm0 (by omega)
   replace hr := hr.upd (cs := [iv kk, .str s, iv n, iv li, iv co, w]) (b := m4) hb3.ne hm3
   replace hi := hi.set (i := m4) (cs := some [iv kk, .str s, iv n, iv li, iv co, w]) (by omega)
   replace ht := ht.set (j := m4) (ds := some [iv kk, .str s, iv n, iv li, iv co, w]) (by omega)
   replace hb1 := hb1.set (j := m4) (ds := some [iv kk, .str s, iv n, iv li, iv co, w]) (by omega)
   replace hb2 := hb2.set (j := m4) (ds := some [iv kk, .str s, iv n, iv li, iv co, w]) (by omega)
   replace hb3 := hb3.same (ds := [iv kk, .str s, iv n, iv li, iv co, w])
   replace hn1 := hn1.set (cs := some [iv kk, .str s, iv n, iv li, iv co, w])
   replace hn2 := hn2.set (cs := some [iv kk, .str s, iv n, iv li, iv co, w])
   have hn3 := hn.set (cs := some [iv kk, .str s, iv n, iv li, iv co, w])
   refine ⟨_, _, _, _, _, ht.tok hk, _, _, _, _, _, _, ldAll hk hb1.e rfl, _, _, _, _, _, _, ldAll hk hb2.e rfl, _, _, _, _, _, _, ldAll hk hb3.e rfl, ?_⟩
   refine blkIn (nx' := m7 + 1) (C := (C.add nx).add m4) hk (Nat.le_refl _) (by omega) hr hK rfl fun Γ H hk hr hb hx kp hK => ?_
   replace hi := hi.keep kp; replace hn1 := hn1.keep hr.rex kp; replace hn2 := hn2.keep hr.rex kp; replace hn3 := hn3.keep hr.rex kp
   cases hrun
   exact node_fin hk (hr.less (.inr hrex)) hi hf hrex ((KidsV.blk (n := 3) hx hb.e (.cons hn1 (.cons hn2 hn3.one)) rfl).mono (fun _ h => .inr h) fun _ _ _ h => h) rfl hK
  ·replace hrun := (if_neg (show ¬ Ps.is C.l _ Ps.wIf = true by rw [show Ps.is C.l _ Ps.wIf = false from h1]; simp)).symm.trans hrun
   refine is_call (C := (C.add nx).add m4) hk hr hK fun H m7 h hk hK => ⟨_, rfl, ifB_iff.2 ⟨fun h1 => ?_, fun h1 => ?_⟩⟩
   ·replace hrun := (if_pos (show Ps.is C.l _ [123] = true from h1)).symm.trans hrun
    refine rule_call (C := (C.add nx).add m4) (fun Z ex res Γ H nx K h => ih.block d hd Z ex _ res Γ H nx K h) hrun hk hr hK rfl .id (fun _ h => h) fun t c kk s n li co w Γ H m8 e3 hrun h hk kp hw hn hr hK => ⟨_, _, _, _, _, _, rfl, ?_⟩
    replace hi := hi.keep kp; replace ht := ht.keep kp; replace hb1 := hb1.keep kp; replace hb2 := hb2.keep kp; replace hb3 := hb3.keep kp; replace hn1 := hn1.keep hr.rex kp; replace hn2 := hn2.keep hr.rex kp
    refine stAll hk hb3.e rfl (by simp only [allCell, hw]; rfl) fun H hk => ?_
    replace hK := hK.upd (i := m4) (cs := some [iv kk, .str s, iv n, iv li, iv co, w]) hm0 (by omega)
    replace hr := hr.upd (cs := [iv kk, .str s, iv n, iv li, iv co, w]) (b := m4) hb3.ne hm3
    replace hi := hi.set (i := m4) (cs := some [iv kk, .str s, iv n, iv li, iv co, w]) (by omega)
    replace ht := ht.set (j := m4) (ds := some [iv kk, .str s, iv n, iv li, iv co, w]) (by omega)
    replace hb1 := hb1.set (j := m4) (ds := some [iv kk, .str s, iv n, iv li, iv co, w]) (by omega)
    replace hb2 := hb2.set (j := m4) (ds := some [iv kk, .str s, iv n, iv li, iv co, w]) (by omega)
    replace hb3 := hb3.same (ds := [iv kk, .str s, iv n, iv li, iv co, w])
    replace hn1 := hn1.set (cs := some [iv kk, .str s, iv n, iv li, iv co, w])
    replace hn2 := hn2.set (cs := some [iv kk, .str s, iv n, iv li, iv co, w])
    have hn3 := hn.set (cs := some [iv kk, .str s, iv n, iv li, iv co, w])
    refine ⟨_, _, _, _, _, ht.tok hk, _, _, _, _, _, _, ldAll hk hb1.e rfl, _, _, _, _, _, _, ldAll hk hb2.e rfl, _, _, _, _, _, _, ldAll hk hb3.e rfl, ?_⟩
    refine blkIn (nx' := m8 + 1) (C := (C.add nx).add m4) hk (Nat.le_refl _) (by omega) hr hK rfl fun Γ H hk hr hb hx kp hK => ?_
    replace hi := hi.keep kp; replace hn1 := hn1.keep hr.rex kp; replace hn2 := hn2.keep hr.rex kp; replace hn3 := hn3.keep hr.rex kp
    cases hrun
    exact node_fin hk (hr.less (.inr hrex)) hi hf hrex ((KidsV.blk (n := 3) hx hb.e (.cons hn1 (.cons hn2 hn3.one)) rfl).mono (fun _ h => .inr h) fun _ _ _ h => h) rfl hK
   ·replace hrun := (if_neg (show ¬ Ps.is C.l _ [123] = true by rw [show Ps.is C.l _ [123] = false from h1]; simp)).symm.trans hrun
    cases hrun
    exact fault_ok (C := (C.add nx).add m4) hk hr fun H nx2 h2 hk => onEnd_pan.2 ((hK.from h2 (.refl _ _ _)).pan rfl hk hr.p)
 ·refine ⟨_, _, _, _, _, ht.tok hk, _, _, _, _, _, _, ldAll hk hb1.e rfl, _, _, _, _, _, _, ldAll hk hb2.e rfl, _, _, _, _, _, _, ldAll hk hb3.e rfl, ?_⟩
  refine blkIn (nx' := m5 + 1) (C := (C.add nx).add m4) hk (Nat.le_refl _) (by omega) hr hK rfl fun Γ H hk hr hb hx kp hK => ?_
  replace hi := hi.keep kp; replace hn1 := hn1.keep hr.rex kp; replace hn2 := hn2.keep hr.rex kp; replace hn3 := hn3.keep hr.rex kp
  cases hrun
  exact node_fin hk (hr.less (.inr hrex)) hi hf hrex ((KidsV.blk (n := 3) hx hb.e (.cons hn1 (.cons hn2 hn3.one)) rfl).mono (fun _ h => .inr h) fun _ _ _ h => h) rfl hK
theorem typeDecl_ok (W : Toks C.l) (ih : IH C.l C.r C.tb n) (hrun : Ps.typeDecl C.l n a = some res) (hk : HZ Z Γ H nx) (hr : Rd Γ C a 0) (hK : Meets Z K Γ nx C 0 res (NodeV C.ex)) : TriP PG f_rd_typeDecl [.ptr C.r 0] H nx K := by
 refine TriP.of_body mixed ?_
 rw [Frd_typeDecl_eq]
 unfold Frd_typeDecl
 unfold Ps.typeDecl at hrun
 have hrex := hr.rex
 refine begin6 hk hr hK fun Γ H hk hr hi hf hK kp => ?_
 refine need_call (C := C.add nx) W hrun hk hr hK rfl .id (fun _ h => h) fun Γ H m1 his hrun h hk kp hr hK => ⟨_, _, _, _, _, rfl, ?_⟩
 replace hi := hi.keep kp
 refine tokIn (C := C.add nx) hk hr hK rfl fun Γ H hk hr ht kp hK => ?_
 replace hi := hi.keep kp
 refine name_call (C := C.add nx) W hrun hk hr hK rfl .id (fun _ h => h) fun Γ H m2 hkd hrun h hk kp hr hK => ⟨_, _, _, _, _, rfl, ?_⟩
 replace hi := hi.keep kp; replace ht := ht.keep kp
 refine has_call (C := C.add nx) W hrun hk hr hK rfl (fun _ h => h) (fun Γ H m3 his hrun h hk kp hr hK => ⟨_, rfl, ifB_t rfl ?_⟩) (fun H m3 his hrun h hk hK => ⟨_, rfl, ifB_f rfl ?_⟩)
 ·replace hi := hi.keep kp; replace ht := ht.keep kp
  refine ⟨_, _, _, _, _, ht.tok hk, ⟨⟨_, _, _, _, _, ht.tok hk, rfl⟩, trivial⟩, ?_⟩
  refine list_call (C := C.add nx) W (adv1 rfl) to_method (ih.method 0 (by omega)) hrun (hk.more (by omega)) hr (hK.from (by omega) (.refl _ _ _)) rfl .id (fun _ h => h) fun ts b v Γ H m4 hrun h hk kp hv hr hK => ?_
  replace hi := hi.keep kp; replace ht := ht.keep kp
  cases hrun
  exact ⟨⟨⟨_, _, _, _, _, ht.tok hk, rfl⟩, trivial⟩, node_finT hk hr hi hf hrex hv rfl hK⟩
 ·refine need_call (C := C.add nx) W hrun hk hr hK rfl .id (fun _ h => h) fun Γ H m4 his hrun h hk kp hr hK => ⟨_, _, _, _, _, rfl, ?_⟩
  replace hi := hi.keep kp; replace ht := ht.keep kp
  refine ⟨_, _, _, _, _, ht.tok hk, ⟨⟨_, _, _, _, _, ht.tok hk, rfl⟩, trivial⟩, ?_⟩
  refine list_call (C := C.add nx) W (adv1 rfl) to_field (ih.field 0 (by omega)) hrun (hk.more (by omega)) hr (hK.from (by omega) (.refl _ _ _)) rfl .id (fun _ h => h) fun ts b v Γ H m5 hrun h hk kp hv hr hK => ?_
  replace hi := hi.keep kp; replace ht := ht.keep kp
  cases hrun
  exact ⟨⟨⟨_, _, _, _, _, ht.tok hk, rfl⟩, trivial⟩, node_finT hk hr hi hf hrex hv rfl hK⟩
end
end
end Go.Vs
end
section
namespace Go.Vs
open Go.Proofs
variable [GTab] {Z : Nat → Prop}
noncomputable section
section
variable {Γ0 Γ : GH} {n0 : Nat} {H : Heap} {nx a d n i : Nat} {C : RC} {K : EndP} {res : Except Flt (Tree × Nat)}
theorem stmt_ok (W : Toks C.l) (ih : IH C.l C.r C.tb n) (hd : d ≤ 40) (hrun : Ps.run C.l (n + 1) .stmt d a = some res) (hk : HZ Z Γ H nx) (hr : Rd Γ C a d) (hK : Meets Z K Γ nx C d res (NodeV C.ex)) : TriP PG f_rd_stmt [.ptr C.r 0] H nx K := by
 refine TriP.of_body mixed ?_
 rw [Frd_stmt_eq]
 unfold Frd_stmt
 simp only [Ps.run] at hrun
 have hrex := hr.rex
 refine begin6 hk hr hK fun Γ H hk hr hi hf hK kp => ?_
 refine enter_ok (C := C.add nx) hk hr hd (fun hd1 Γ H m0 h hk kp hr => onEnd_pan.2 ?_) (fun hd1 Γ H m0 h hk kp hr => onEnd_ret.2 ?_)
 ·rw [if_pos hd1] at hrun
  cases hrun
  exact (hK.from h kp).pan rfl hk hr.p
 rw [if_neg hd1] at hrun
 replace hd1 : d + 1 ≤ 40 := by omega
 replace hK := hK.from h kp
 replace hi := hi.keep kp
 refine now_call (C := (C.add nx)) hk hr hK fun H m1_10 h hk hK => ⟨_, _, _, _, _, rfl, ?_⟩
 refine tokIn (C := (C.add nx)) hk hr hK rfl fun Γ H hk hr ht kp hK => ?_
 replace hi := hi.keep kp
 refine is_call (C := (C.add nx)) (s := [123]) hk hr hK fun H m2_13 h hk hK => ⟨_, rfl, ifB_iff.2 ⟨fun h1 => ?_, fun h1 => ?_⟩⟩
 ·
  replace hrun := (if_pos (show Ps.is C.l _ [123] = true by simpa using h1)).symm.trans hrun
  refine rule_last (C := (C.add nx)) (fun Z ex res Γ H nx K h => ih.block (d + 1) hd1 Z ex _ res Γ H nx K h) hrun hk hr hK rfl .lv (fun _ h => h) fun t c kk s n1 li co w Γ H m9 e3 e4 h hk kp hw hn hr hK => ⟨_, _, _, _, _, _, rfl, ?_⟩
  replace hi := hi.keep kp; replace ht := ht.keep kp
  exact fin6d hk hr hi hf hrex hw hn e4 hK
 ·
  replace hrun := (if_neg (show ¬ Ps.is C.l _ [123] = true by simpa using h1)).symm.trans hrun
  refine has_call (C := (C.add nx)) W hrun hk hr hK rfl (fun _ h => h) (fun Γ H m3_21 his hrun h hk kp hr hK => ⟨_, rfl, ifB_t rfl ?_⟩) (fun H m3_21 his hrun h hk hK => ⟨_, rfl, ifB_f rfl ?_⟩)
  ·
   replace hi := hi.keep kp; replace ht := ht.keep kp
   refine name_call (C := (C.add nx)) W hrun hk hr hK rfl .lv (fun _ h => h) fun Γ H m4_24 hkd hrun h hk kp hr hK => ⟨_, _, _, _, _, rfl, ?_⟩
   replace hi := hi.keep kp; replace ht := ht.keep kp
   refine rule_call (C := (C.add nx)) (fun Z ex res Γ H nx K h => ih.typ (d + 1) hd1 Z ex _ res Γ H nx K h) hrun hk hr hK rfl .lv (fun _ h => h) fun t1 c1 kk1 s1 n1 li1 co1 w1 Γ H m5_26 e1 hrun h hk kp hw1 hn1 hr hK => ⟨_, _, _, _, _, _, rfl, ?_⟩
   replace hi := hi.keep kp; replace ht := ht.keep kp
   refine nodeIn (C := (C.add nx)) hk hr hw1 hK rfl fun Γ H hk hr hb1 kp hK => ?_
   replace hi := hi.keep kp; replace ht := ht.keep kp; replace hn1 := hn1.keep hr.rex kp
   refine ⟨_, _, _, _, _, ht.tok hk, _, _, _, _, _, _, ldAll hk hb1.e rfl, ⟨⟨_, _, _, _, _, ht.tok hk, rfl⟩, ⟨_, _, _, _, _, _, ldAll hk hb1.e rfl, rfl⟩, trivial⟩, ?_⟩
   obtain ⟨hk', hni⟩ := reserve (i := m5_26 + 1 + 5) (nx' := m5_26 + 1 + 8) hk (by omega) (by omega)
   replace hrun : Rs.bind (if Ps.is C.l c1 [61] = true then Ps.run C.l n .expr (d + 1) (c1 + 1) else Rs.ok (Ps.none_, c1)) (fun x => Rs.ok (Ps.mk (Ps.tk C.l a) 11 (Ps.tk C.l (a + 1)).text [t1, x.1], x.2)) = some res := by rw [← hrun]; dsimp only; split <;> rfl
   refine rule_call (one := fun c => if Ps.is C.l c [61] = true then Ps.run C.l n .expr (d + 1) (c + 1) else Rs.ok (Ps.none_, c)) (C := (C.add nx)) (fun Z ex res Γ H nx K h h2 h3 h4 => maybe_ok (C := ⟨C.r, C.tb, C.l, ex⟩) W ih hd1 h h2 h3 h4) hrun hk' hr (hK.from (by omega) (.refl _ _ _)) rfl .lv rz_in fun t2 c2 kk2 s2 n2 li2 co2 w2 Γ H m6_33 e2 hrun h hk kp hw2 hn2 hr hK => ⟨_, _, _, _, _, _, rfl, ?_⟩
   replace hi := hi.keep kp; replace ht := ht.keep kp; replace hn1 := hn1.keep hr.rex kp; replace hb1 := hb1.keep kp
   refine blkTake (C := (C.add nx)) hk hni hr hK rfl (by omega) fun Γ H hk hr hb hxhb kp hK => ?_
   replace hi := hi.keep kp; replace ht := ht.keep kp; replace hn1 := hn1.keep hr.rex kp; replace hb1 := hb1.keep kp; replace hn2 := hn2.keep hr.rex kp
   refine ⟨⟨⟨_, _, _, _, _, ht.tok hk, rfl⟩, ⟨_, _, _, _, _, _, ldAll hk hb1.e rfl, rfl⟩, trivial⟩, ?_⟩
   cases hrun
   exact node_finTD hk hr hi hf hrex (KidsV.blk (n := 2) hxhb hb.e (.cons hn1 hn2.one) rfl) rfl hK
  refine is_call (C := (C.add nx)) (s := Ps.wIf) hk hr hK fun H m4_40 h hk hK => ⟨_, rfl, ifB_iff.2 ⟨fun h1 => ?_, fun h1 => ?_⟩⟩
  ·
   replace hrun := (if_pos (show Ps.is C.l _ Ps.wIf = true by simpa using h1)).symm.trans hrun
   refine rule_last (C := (C.add nx)) (fun Z ex res Γ H nx K h => ih.ifs (d + 1) hd1 Z ex _ res Γ H nx K h) hrun hk hr hK rfl .lv (fun _ h => h) fun t c kk s n1 li co w Γ H m9 e3 e4 h hk kp hw hn hr hK => ⟨_, _, _, _, _, _, rfl, ?_⟩
   replace hi := hi.keep kp; replace ht := ht.keep kp
   exact fin6d hk hr hi hf hrex hw hn e4 hK
  ·
   replace hrun := (if_neg (show ¬ Ps.is C.l _ Ps.wIf = true by simpa using h1)).symm.trans hrun
   refine has_call (C := (C.add nx)) W hrun hk hr hK rfl (fun _ h => h) (fun Γ H m5_48 his hrun h hk kp hr hK => ⟨_, rfl, ifB_t rfl ?_⟩) (fun H m5_48 his hrun h hk hK => ⟨_, rfl, ifB_f rfl ?_⟩)
   ·
    replace hi := hi.keep kp; replace ht := ht.keep kp
    refine none_call (C := C.add nx) hk hK fun H mE h hk hn1 hK => ⟨_, _, _, _, _, _, rfl, ?_⟩
    have hmE := hk.fresh (Nat.le_refl mE)
    have hm0 := hK.none hmE (hr.r_ne hmE)
    have hm3 := hr.tb_ne hmE
    replace hn1 := hn1.raise hmE
    refine nodeIn (C := (C.add nx)) hk hr rfl hK rfl fun Γ H hk hr hbE kp hK => ?_
    replace hi := hi.keep kp; replace ht := ht.keep kp
    replace hr : Rd Γ ((C.add nx).add mE) _ (d + 1) := hr.add (by rw [hbE.e]; simp)
    replace hn1 := hn1.keep hr.rex kp
    refine is_call (C := ((C.add nx).add mE)) (s := [123]) hk hr hK fun H m6_60 h hk hK => ⟨_, rfl, ifB_iff.2 ⟨fun h1 => ?_, fun h1 => ?_⟩⟩
    ·
     replace hrun := (if_neg (show ¬ Ps.is C.l _ [123] = true by simpa using h1)).symm.trans hrun
     refine rule_call (C := ((C.add nx).add mE)) (fun Z ex res Γ H nx K h => ih.expr (d + 1) hd1 Z ex _ res Γ H nx K h) hrun hk hr hK rfl .lv (fun _ h => h) fun t3 c3 kk3 s3 n3 li3 co3 w3 Γ H m7_63 e3 hrun h hk kp hw3 hn3 hr hK => ⟨_, _, _, _, _, _, rfl, ?_⟩
     replace hi := hi.keep kp; replace ht := ht.keep kp; replace hbE := hbE.keep kp; replace hn1 := hn1.keep hr.rex kp
     refine stAll hk hbE.e rfl (by simp only [allCell, hw3]; rfl) fun H hk => ?_
     replace hK := hK.upd (i := mE) (cs := some [iv kk3, .str s3, iv n3, iv li3, iv co3, w3]) hm0 (by omega)
     replace hr := hr.upd (cs := [iv kk3, .str s3, iv n3, iv li3, iv co3, w3]) (b := mE) hbE.ne hm3
     replace hi := hi.set (i := mE) (cs := some [iv kk3, .str s3, iv n3, iv li3, iv co3, w3]) (by omega)
     replace ht := ht.set (j := mE) (ds := some [iv kk3, .str s3, iv n3, iv li3, iv co3, w3]) (by omega)
     replace hbE := hbE.same (ds := [iv kk3, .str s3, iv n3, iv li3, iv co3, w3])
     replace hn1 := hn3.set (cs := some [iv kk3, .str s3, iv n3, iv li3, iv co3, w3])
     refine ⟨_, _, _, _, _, ht.tok hk, _, _, _, _, _, _, ldAll hk hbE.e rfl, ⟨⟨_, _, _, _, _, ht.tok hk, rfl⟩, ⟨_, _, _, _, _, _, ldAll hk hbE.e rfl, rfl⟩, trivial⟩, ?_⟩
     obtain ⟨hk', hni⟩ := reserve (i := m7_63 + 4) (nx' := m7_63 + 7) hk (by omega) (by omega)
     refine rule_call (C := ((C.add nx).add mE)) (fun Z ex res Γ H nx K h => ih.block (d + 1) hd1 Z ex _ res Γ H nx K h) hrun hk' hr (hK.from (by omega) (.refl _ _ _)) rfl .lv rz_in fun t2 c2 kk2 s2 n2 li2 co2 w2 Γ H m8_74 e2 hrun h hk kp hw2 hn2 hr hK => ⟨_, _, _, _, _, _, rfl, ?_⟩
     replace hi := hi.keep kp; replace ht := ht.keep kp; replace hbE := hbE.keep kp; replace hn1 := hn1.keep hr.rex kp
     refine blkTake (C := ((C.add nx).add mE)) hk hni hr hK rfl (by omega) fun Γ H hk hr hb hxhb kp hK => ?_
     replace hi := hi.keep kp; replace ht := ht.keep kp; replace hbE := hbE.keep kp; replace hn1 := hn1.keep hr.rex kp; replace hn2 := hn2.keep hr.rex kp
     refine ⟨⟨⟨_, _, _, _, _, ht.tok hk, rfl⟩, ⟨_, _, _, _, _, _, ldAll hk hbE.e rfl, rfl⟩, trivial⟩, ?_⟩
     cases hrun
     exact node_finTD hk (hr.less (.inr hrex)) hi hf hrex ((KidsV.blk (n := 2) hxhb hb.e (.cons hn1 hn2.one) rfl).mono (fun _ h => .inr h) fun _ _ _ h => h) rfl hK
    ·
     replace hrun := (if_pos (show Ps.is C.l _ [123] = true by simpa using h1)).symm.trans hrun
     refine ⟨_, _, _, _, _, ht.tok hk, _, _, _, _, _, _, ldAll hk hbE.e rfl, ⟨⟨_, _, _, _, _, ht.tok hk, rfl⟩, ⟨_, _, _, _, _, _, ldAll hk hbE.e rfl, rfl⟩, trivial⟩, ?_⟩
     obtain ⟨hk', hni⟩ := reserve (i := m6_60 + 4) (nx' := m6_60 + 7) hk (by omega) (by omega)
     refine rule_call (C := ((C.add nx).add mE)) (fun Z ex res Γ H nx K h => ih.block (d + 1) hd1 Z ex _ res Γ H nx K h) hrun hk' hr (hK.from (by omega) (.refl _ _ _)) rfl .lv rz_in fun t2 c2 kk2 s2 n2 li2 co2 w2 Γ H m7_85 e2 hrun h hk kp hw2 hn2 hr hK => ⟨_, _, _, _, _, _, rfl, ?_⟩
     replace hi := hi.keep kp; replace ht := ht.keep kp; replace hbE := hbE.keep kp; replace hn1 := hn1.keep hr.rex kp
     refine blkTake (C := ((C.add nx).add mE)) hk hni hr hK rfl (by omega) fun Γ H hk hr hb hxhb kp hK => ?_
     replace hi := hi.keep kp; replace ht := ht.keep kp; replace hbE := hbE.keep kp; replace hn1 := hn1.keep hr.rex kp; replace hn2 := hn2.keep hr.rex kp
     refine ⟨⟨⟨_, _, _, _, _, ht.tok hk, rfl⟩, ⟨_, _, _, _, _, _, ldAll hk hbE.e rfl, rfl⟩, trivial⟩, ?_⟩
     cases hrun
     exact node_finTD hk (hr.less (.inr hrex)) hi hf hrex ((KidsV.blk (n := 2) hxhb hb.e (.cons hn1 hn2.one) rfl).mono (fun _ h => .inr h) fun _ _ _ h => h) rfl hK
   refine has_call (C := (C.add nx)) W hrun hk hr hK rfl (fun _ h => h) (fun Γ H m6_92 his hrun h hk kp hr hK => ⟨_, rfl, ifB_t rfl ?_⟩) (fun H m6_92 his hrun h hk hK => ⟨_, rfl, ifB_f rfl ?_⟩)
   ·
    replace hi := hi.keep kp; replace ht := ht.keep kp
    refine ⟨_, _, _, _, _, ht.tok hk, ?_⟩
    cases hrun
    exact node_finD hk hr hi hf hrex .nil rfl hK
   refine has_call (C := (C.add nx)) W hrun hk hr hK rfl (fun _ h => h) (fun Γ H m7_98 his hrun h hk kp hr hK => ⟨_, rfl, ifB_t rfl ?_⟩) (fun H m7_98 his hrun h hk hK => ⟨_, rfl, ifB_f rfl ?_⟩)
   ·
    replace hi := hi.keep kp; replace ht := ht.keep kp
    refine ⟨_, _, _, _, _, ht.tok hk, ?_⟩
    cases hrun
    exact node_finD hk hr hi hf hrex .nil rfl hK
   refine has_call (C := (C.add nx)) W hrun hk hr hK rfl (fun _ h => h) (fun Γ H m8_104 his hrun h hk kp hr hK => ⟨_, rfl, ifB_t rfl ?_⟩) (fun H m8_104 his hrun h hk hK => ⟨_, rfl, ifB_f rfl ?_⟩)
   ·
    replace hi := hi.keep kp; replace ht := ht.keep kp
    rw [or_if] at hrun
    refine is_call (C := (C.add nx)) (s := [59]) hk hr hK fun H m9_108 h hk hK => ⟨_, rfl, ifB_iff.2 ⟨fun h1 => ?_, fun h1 => ?_⟩⟩
    ·
     replace hrun := (if_pos (show Ps.is C.l _ [59] = true by simpa using h1)).symm.trans hrun
     refine ⟨_, _, _, _, _, ht.tok hk, ⟨⟨_, _, _, _, _, ht.tok hk, rfl⟩, trivial⟩, ?_⟩
     obtain ⟨hk', hni⟩ := reserve (i := m9_108 + 2) (nx' := m9_108 + 5) hk (by omega) (by omega)
     refine none_call (C := C.add nx) hk' (hK.from (by omega) (.refl _ _ _)) fun H m9 h hk hn1 hK => ⟨_, _, _, _, _, _, rfl, ?_⟩
     refine blkTake (C := (C.add nx)) hk hni hr hK rfl (by omega) fun Γ H hk hr hb hxhb kp hK => ?_
     replace hi := hi.keep kp; replace ht := ht.keep kp; replace hn1 := hn1.keep hr.rex kp
     refine ⟨⟨⟨_, _, _, _, _, ht.tok hk, rfl⟩, trivial⟩, ?_⟩
     cases hrun
     exact node_finTD hk hr hi hf hrex (KidsV.blk (n := 1) hxhb hb.e hn1.one rfl) rfl hK
    ·
     replace hrun := (if_neg (show ¬ Ps.is C.l _ [59] = true by simpa using h1)).symm.trans hrun
     refine is_call (C := (C.add nx)) (s := [125]) hk hr hK fun H m10_121 h hk hK => ⟨_, rfl, ifB_iff.2 ⟨fun h1 => ?_, fun h1 => ?_⟩⟩
     ·
      replace hrun := (if_pos (show Ps.is C.l _ [125] = true by simpa using h1)).symm.trans hrun
      refine ⟨_, _, _, _, _, ht.tok hk, ⟨⟨_, _, _, _, _, ht.tok hk, rfl⟩, trivial⟩, ?_⟩
      obtain ⟨hk', hni⟩ := reserve (i := m10_121 + 2) (nx' := m10_121 + 5) hk (by omega) (by omega)
      refine none_call (C := C.add nx) hk' (hK.from (by omega) (.refl _ _ _)) fun H m9 h hk hn1 hK => ⟨_, _, _, _, _, _, rfl, ?_⟩
      refine blkTake (C := (C.add nx)) hk hni hr hK rfl (by omega) fun Γ H hk hr hb hxhb kp hK => ?_
      replace hi := hi.keep kp; replace ht := ht.keep kp; replace hn1 := hn1.keep hr.rex kp
      refine ⟨⟨⟨_, _, _, _, _, ht.tok hk, rfl⟩, trivial⟩, ?_⟩
      cases hrun
      exact node_finTD hk hr hi hf hrex (KidsV.blk (n := 1) hxhb hb.e hn1.one rfl) rfl hK
     ·
      replace hrun := (if_neg (show ¬ Ps.is C.l _ [125] = true by simpa using h1)).symm.trans hrun
      refine ⟨_, _, _, _, _, ht.tok hk, ⟨⟨_, _, _, _, _, ht.tok hk, rfl⟩, trivial⟩, ?_⟩
      obtain ⟨hk', hni⟩ := reserve (i := m10_121 + 3) (nx' := m10_121 + 6) hk (by omega) (by omega)
      refine rule_call (C := (C.add nx)) (fun Z ex res Γ H nx K h => ih.expr (d + 1) hd1 Z ex _ res Γ H nx K h) hrun hk' hr (hK.from (by omega) (.refl _ _ _)) rfl .lv rz_in fun t1 c1 kk1 s1 n1 li1 co1 w1 Γ H m11_136 e1 hrun h hk kp hw1 hn1 hr hK => ⟨_, _, _, _, _, _, rfl, ?_⟩
      replace hi := hi.keep kp; replace ht := ht.keep kp
      refine blkTake (C := (C.add nx)) hk hni hr hK rfl (by omega) fun Γ H hk hr hb hxhb kp hK => ?_
      replace hi := hi.keep kp; replace ht := ht.keep kp; replace hn1 := hn1.keep hr.rex kp
      refine ⟨⟨⟨_, _, _, _, _, ht.tok hk, rfl⟩, trivial⟩, ?_⟩
      cases hrun
      exact node_finTD hk hr hi hf hrex (KidsV.blk (n := 1) hxhb hb.e hn1.one rfl) rfl hK
   refine has_call (C := (C.add nx)) W hrun hk hr hK rfl (fun _ h => h) (fun Γ H m9_143 his hrun h hk kp hr hK => ⟨_, rfl, ifB_t rfl ?_⟩) (fun H m9_143 his hrun h hk hK => ⟨_, rfl, ifB_f rfl ?_⟩)
   ·
    replace hi := hi.keep kp; replace ht := ht.keep kp
    refine need_call (C := (C.add nx)) W hrun hk hr hK rfl .lv (fun _ h => h) fun Γ H m10_146 his hrun h hk kp hr hK => ⟨_, _, _, _, _, rfl, ?_⟩
    replace hi := hi.keep kp; replace ht := ht.keep kp
    refine rule_call (C := (C.add nx)) (fun Z ex res Γ H nx K h => ih.expr (d + 1) hd1 Z ex _ res Γ H nx K h) hrun hk hr hK rfl .lv (fun _ h => h) fun t1 c1 kk1 s1 n1 li1 co1 w1 Γ H m11_148 e1 hrun h hk kp hw1 hn1 hr hK => ⟨_, _, _, _, _, _, rfl, ?_⟩
    replace hi := hi.keep kp; replace ht := ht.keep kp
    refine nodeIn (C := (C.add nx)) hk hr hw1 hK rfl fun Γ H hk hr hb1 kp hK => ?_
    replace hi := hi.keep kp; replace ht := ht.keep kp; replace hn1 := hn1.keep hr.rex kp
    refine need_call (C := (C.add nx)) W hrun hk hr hK rfl .lv (fun _ h => h) fun Γ H m12_152 his hrun h hk kp hr hK => ⟨_, _, _, _, _, rfl, ?_⟩
    replace hi := hi.keep kp; replace ht := ht.keep kp; replace hn1 := hn1.keep hr.rex kp; replace hb1 := hb1.keep kp
    refine ⟨_, _, _, _, _, ht.tok hk, _, _, _, _, _, _, ldAll hk hb1.e rfl, ?_⟩
    refine blkIn (nx' := m12_152 + 1) (C := (C.add nx)) hk (Nat.le_refl _) (by omega) hr hK rfl fun Γ H hk hr hb hxhb kp hK => ?_
    replace hi := hi.keep kp; replace ht := ht.keep kp; replace hn1 := hn1.keep hr.rex kp; replace hb1 := hb1.keep kp
    cases hrun
    exact node_finD hk hr hi hf hrex (KidsV.blk (n := 1) hxhb hb.e hn1.one rfl) rfl hK
   refine rule_last (one := fun a => Rs.bind (Ps.run C.l n .expr (d + 1) a) fun (e, b) => if Ps.is C.l b [58, 61] then Rs.bind (Ps.run C.l n .expr (d + 1) (b + 1)) fun (y, c) => Rs.ok (Ps.mk (Ps.tk C.l b) 12 [] [e, y], c) else if Ps.is C.l b [61] then Rs.bind (Ps.run C.l n .expr (d + 1) (b + 1)) fun (y, c) => Rs.ok (Ps.mk (Ps.tk C.l b) 13 [] [e, y], c) else Rs.ok (Ps.mk (Ps.tk C.l a) 19 [] [e], b)) (C := (C.add nx)) (fun Z ex res Γ H nx K h h2 h3 h4 => simple_ok (C := ⟨C.r, C.tb, C.l, ex⟩) W ih hd1 h h2 h3 h4) hrun hk hr hK rfl .lv (fun _ h => h) fun t c kk s n1 li co w Γ H m9 e3 e4 h hk kp hw hn hr hK => ⟨_, _, _, _, _, _, rfl, ?_⟩
   replace hi := hi.keep kp; replace ht := ht.keep kp
   exact fin6d hk hr hi hf hrex hw hn e4 hK
end
end
end Go.Vs
end
section
namespace Go.Vs
open Go.Proofs
variable [GTab] {Z : Nat → Prop}
noncomputable section
section
variable {Γ0 Γ : GH} {n0 : Nat} {H : Heap} {nx a d n i : Nat} {C : RC} {K : EndP} {res : Except Flt (Tree × Nat)}
abbrev oneR (l : List Tok) (one : Nat → Rs (Tree × Nat)) : Nat → Rs (Tree × Nat) := fun a => Ps.lift (Ps.need l a [40]) fun b => Rs.bind (one b) fun (x, c) => Ps.lift (Ps.need l c [41]) fun e => Rs.ok (x, e)
theorem one_bind {β : Type} {l : List Tok} {one : Nat → Rs (Tree × Nat)} {a : Nat} {k : Tree × Nat → Rs β} : Rs.bind (oneR l one a) k = Ps.lift (Ps.need l a [40]) fun b => Rs.bind (one b) fun (x, c) => Ps.lift (Ps.need l c [41]) fun e => k (x, e) := by
 unfold oneR
 cases Ps.need l a [40] with
 | error f => rfl
 | ok b =>
  show Rs.bind (Rs.bind (one b) _) k = Rs.bind (one b) _
  cases one b with
  | none => rfl
  | some r => cases r with
   | error f => rfl
   | ok p =>
    obtain ⟨x, c⟩ := p
    show Rs.bind (Ps.lift (Ps.need l c [41]) fun e => Rs.ok (x, e)) k = Ps.lift (Ps.need l c [41]) fun e => k (x, e)
    cases Ps.need l c [41] <;> rfl
theorem prime_ok (W : Toks C.l) (ih : IH C.l C.r C.tb n) (hd : d ≤ 40) (hrun : Ps.run C.l (n + 1) .prime d a = some res) (hk : HZ Z Γ H nx) (hr : Rd Γ C a d) (hK : Meets Z K Γ nx C d res (NodeV C.ex)) : TriP PG f_rd_prime [.ptr C.r 0] H nx K := by
 refine TriP.of_body mixed ?_
 rw [Frd_prime_eq]
 unfold Frd_prime
 simp only [Ps.run] at hrun
 have hrex := hr.rex
 refine begin6 hk hr hK fun Γ H hk hr hi hf hK kp => ?_
 refine now_call (C := (C.add nx)) hk hr hK fun H m1_2 h hk hK => ⟨_, _, _, _, _, rfl, ?_⟩
 refine tokIn (C := (C.add nx)) hk hr hK rfl fun Γ H hk hr ht kp hK => ?_
 replace hi := hi.keep kp
 refine ⟨_, rfl, _, ht.ld hk 0, ifB_iff.2 ⟨fun h1 => ?_, fun h1 => ?_⟩⟩
 ·
  replace h1 : (Ps.tk C.l a).kind = 4 := of_decide_eq_true h1
  rw [if_pos (by simp [h1])] at hrun
  refine next_ok (C := C.add nx) W hk hr (by show (Ps.tk C.l a).kind ≠ 0; rw [h1]; decide) fun Γ H mN h hk kp hr => onEnd_ret.2 ⟨_, _, _, _, _, rfl, ?_⟩
  replace hK := hK.from h kp
  replace hi := hi.keep kp; replace ht := ht.keep kp
  refine ⟨_, _, _, _, _, ht.tok hk, ?_⟩
  refine node_call (C := C.add nx) (ts := []) hk .nil hK fun H m2 h hk hn hw hK => ⟨_, _, _, _, _, _, rfl, ?_⟩
  have hmE := hk.fresh (Nat.le_refl m2)
  have hm0 := hK.none hmE (hr.r_ne hmE)
  have hm3 := hr.tb_ne hmE
  refine nodeIn (C := (C.add nx)) hk hr rfl hK rfl fun Γ H hk hr hb kp hK => ?_
  replace hi := hi.keep kp; replace ht := ht.keep kp
  refine ⟨_, rfl, _, ht.ld hk 2, _, rfl, rfl, ?_⟩
  refine stOne hk hb.e (j := 2) (by simp) rfl fun H hk => ?_
  refine ⟨_, _, _, _, _, _, ldAll hk (gup_same _ _ _) rfl, ?_⟩
  cases hrun
  exact fin6 hk (hr.upd hb.ne hm3) (hi.set (by omega)) hf hrex rfl (.mk [] (.inl ⟨rfl, rfl, rfl⟩) .nil) rfl (hK.upd hm0 (by omega))
 replace h1 : ¬ (Ps.tk C.l a).kind = 4 := of_decide_eq_false h1
 rw [if_neg (by simp [h1])] at hrun
 refine ifB_iff.2 ⟨fun h1 => ?_, fun h1 => ?_⟩
 ·
  replace h1 : (Ps.tk C.l a).kind = 5 := of_decide_eq_true h1
  rw [if_pos (by simp [h1])] at hrun
  refine next_ok (C := C.add nx) W hk hr (by show (Ps.tk C.l a).kind ≠ 0; rw [h1]; decide) fun Γ H mN h hk kp hr => onEnd_ret.2 ⟨_, _, _, _, _, rfl, ?_⟩
  replace hK := hK.from h kp
  replace hi := hi.keep kp; replace ht := ht.keep kp
  refine ⟨_, _, _, _, _, ht.tok hk, _, rfl, _, ht.ld hk 1, ?_⟩
  cases hrun
  exact node_fin hk hr hi hf hrex .nil rfl hK
 replace h1 : ¬ (Ps.tk C.l a).kind = 5 := of_decide_eq_false h1
 rw [if_neg (by simp [h1])] at hrun
 refine ifB_iff.2 ⟨fun h1 => ?_, fun h1 => ?_⟩
 ·
  replace h1 : (Ps.tk C.l a).kind = 2 := of_decide_eq_true h1
  rw [if_pos (by simp [h1])] at hrun
  refine next_ok (C := C.add nx) W hk hr (by show (Ps.tk C.l a).kind ≠ 0; rw [h1]; decide) fun Γ H mN h hk kp hr => onEnd_ret.2 ⟨_, _, _, _, _, rfl, ?_⟩
  replace hK := hK.from h kp
  replace hi := hi.keep kp; replace ht := ht.keep kp
  refine is_call (C := (C.add nx)) (s := [40]) hk hr hK fun H m2_45 h hk hK => ⟨_, rfl, ifB_iff.2 ⟨fun h1 => ?_, fun h1 => ?_⟩⟩
  ·
   replace hrun := (if_pos (show Ps.is C.l _ [40] = true by simpa using h1)).symm.trans hrun
   refine ⟨_, _, _, _, _, ht.tok hk, _, rfl, _, ht.ld hk 1, ⟨⟨_, _, _, _, _, ht.tok hk, rfl⟩, ⟨_, ht.ld hk 1, rfl⟩, trivial⟩, ?_⟩
   refine row_call (C := C.add nx) W (adv1 rfl) to_expr (ih.expr d hd) hrun (hk.more (by omega)) hr (hK.from (by omega) (.refl _ _ _)) rfl .id (fun _ h => h) fun ts b v Γ H m6 erow hrun h hk kp hv hr hK => ?_
   replace hi := hi.keep kp; replace ht := ht.keep kp
   cases hrun
   exact ⟨⟨⟨_, _, _, _, _, ht.tok hk, rfl⟩, ⟨_, ht.ld hk 1, rfl⟩, trivial⟩, node_finT hk hr hi hf hrex hv rfl hK⟩
  ·
   replace hrun := (if_neg (show ¬ Ps.is C.l _ [40] = true by simpa using h1)).symm.trans hrun
   refine ⟨_, _, _, _, _, ht.tok hk, _, rfl, _, ht.ld hk 1, ?_⟩
   cases hrun
   exact node_fin hk hr hi hf hrex .nil rfl hK
 replace h1 : ¬ (Ps.tk C.l a).kind = 2 := of_decide_eq_false h1
 rw [if_neg (by simp [h1])] at hrun
 refine has_call (C := (C.add nx)) W hrun hk hr hK rfl (fun _ h => h) (fun Γ H m2_60 his hrun h hk kp hr hK => ⟨_, rfl, ifB_t rfl ?_⟩) (fun H m2_60 his hrun h hk hK => ⟨_, rfl, ifB_f rfl ?_⟩)
 ·
  replace hi := hi.keep kp; replace ht := ht.keep kp
  refine ⟨_, _, _, _, _, ht.tok hk, ?_⟩
  cases hrun
  exact node_fin hk hr hi hf hrex .nil rfl hK
 refine has_call (C := (C.add nx)) W hrun hk hr hK rfl (fun _ h => h) (fun Γ H m3_66 his hrun h hk kp hr hK => ⟨_, rfl, ifB_t rfl ?_⟩) (fun H m3_66 his hrun h hk hK => ⟨_, rfl, ifB_f rfl ?_⟩)
 ·
  replace hi := hi.keep kp; replace ht := ht.keep kp
  refine ⟨_, _, _, _, _, ht.tok hk, ?_⟩
  cases hrun
  exact node_fin hk hr hi hf hrex .nil rfl hK
 refine has_call (C := (C.add nx)) W hrun hk hr hK rfl (fun _ h => h) (fun Γ H m4_72 his hrun h hk kp hr hK => ⟨_, rfl, ifB_t rfl ?_⟩) (fun H m4_72 his hrun h hk hK => ⟨_, rfl, ifB_f rfl ?_⟩)
 ·
  replace hi := hi.keep kp; replace ht := ht.keep kp
  refine ⟨_, _, _, _, _, ht.tok hk, ?_⟩
  cases hrun
  exact node_fin hk hr hi hf hrex .nil rfl hK
 refine is_call (C := (C.add nx)) (s := [40]) hk hr hK fun H m5_78 h hk hK => ⟨_, rfl, ifB_iff.2 ⟨fun h1 => ?_, fun h1 => ?_⟩⟩
 ·
  replace hrun := (if_pos (show Ps.is C.l _ [40] = true by simpa using h1)).symm.trans hrun
  replace hrun : oneR C.l (Ps.run C.l n .expr d) a = some res := by unfold oneR Ps.need; rw [show Ps.is C.l a [40] = true by simpa using h1]; exact hrun
  refine rule_last (one := oneR C.l (Ps.run C.l n .expr d)) (C := (C.add nx)) (fun Z ex res Γ H nx K h h2 h3 h4 => one_ok (C := ⟨C.r, C.tb, C.l, ex⟩) W to_expr (ih.expr d hd) h h2 h3 h4) hrun hk hr hK rfl .id (fun _ h => h) fun t c kk s n1 li co w Γ H m9 e3 e4 h hk kp hw hn hr hK => ⟨_, _, _, _, _, _, rfl, ?_⟩
  replace hi := hi.keep kp; replace ht := ht.keep kp
  exact fin6 hk hr hi hf hrex hw hn e4 hK
 ·
  replace hrun := (if_neg (show ¬ Ps.is C.l _ [40] = true by simpa using h1)).symm.trans hrun
  refine has_call (C := (C.add nx)) W hrun hk hr hK rfl (fun _ h => h) (fun Γ H m6_87 his hrun h hk kp hr hK => ⟨_, rfl, ifB_t rfl ?_⟩) (fun H m6_87 his hrun h hk hK => ⟨_, rfl, ifB_f rfl ?_⟩)
  ·
   replace hi := hi.keep kp; replace ht := ht.keep kp
   refine ⟨_, _, _, _, _, ht.tok hk, ⟨⟨_, _, _, _, _, ht.tok hk, rfl⟩, trivial⟩, ?_⟩
   replace hrun := (one_bind (l := C.l) (one := Ps.run C.l n .expr d) (k := fun x => Rs.ok (Ps.mk (Ps.tk C.l a) 33 [] [x.1], x.2))).trans hrun
   obtain ⟨hk', hni⟩ := reserve (i := m6_87 + 5) (nx' := m6_87 + 8) hk (by omega) (by omega)
   refine rule_call (one := oneR C.l (Ps.run C.l n .expr d)) (C := (C.add nx)) (fun Z ex res Γ H nx K h h2 h3 h4 => one_ok (C := ⟨C.r, C.tb, C.l, ex⟩) W to_expr (ih.expr d hd) h h2 h3 h4) hrun hk' hr (hK.from (by omega) (.refl _ _ _)) rfl .id rz_in fun t1 c1 kk1 s1 n1 li1 co1 w1 Γ H m7_93 e1 hrun h hk kp hw1 hn1 hr hK => ⟨_, _, _, _, _, _, rfl, ?_⟩
   replace hi := hi.keep kp; replace ht := ht.keep kp
   refine blkTake (C := (C.add nx)) hk hni hr hK rfl (by omega) fun Γ H hk hr hb hxhb kp hK => ?_
   replace hi := hi.keep kp; replace ht := ht.keep kp; replace hn1 := hn1.keep hr.rex kp
   refine ⟨⟨⟨_, _, _, _, _, ht.tok hk, rfl⟩, trivial⟩, ?_⟩
   cases hrun
   exact node_finT hk hr hi hf hrex (KidsV.blk (n := 1) hxhb hb.e hn1.one rfl) rfl hK
  refine has_call (C := (C.add nx)) W hrun hk hr hK rfl (fun _ h => h) (fun Γ H m7_100 his hrun h hk kp hr hK => ⟨_, rfl, ifB_t rfl ?_⟩) (fun H m7_100 his hrun h hk hK => ⟨_, rfl, ifB_f rfl ?_⟩)
  ·
   replace hi := hi.keep kp; replace ht := ht.keep kp
   refine ⟨_, _, _, _, _, ht.tok hk, ⟨⟨_, _, _, _, _, ht.tok hk, rfl⟩, trivial⟩, ?_⟩
   replace hrun := (one_bind (l := C.l) (one := Ps.run C.l n .typ d) (k := fun x => Rs.ok (Ps.mk (Ps.tk C.l a) 35 [] [x.1], x.2))).trans hrun
   obtain ⟨hk', hni⟩ := reserve (i := m7_100 + 5) (nx' := m7_100 + 8) hk (by omega) (by omega)
   refine rule_call (one := oneR C.l (Ps.run C.l n .typ d)) (C := (C.add nx)) (fun Z ex res Γ H nx K h h2 h3 h4 => one_ok (C := ⟨C.r, C.tb, C.l, ex⟩) W to_typ (ih.typ d hd) h h2 h3 h4) hrun hk' hr (hK.from (by omega) (.refl _ _ _)) rfl .id rz_in fun t1 c1 kk1 s1 n1 li1 co1 w1 Γ H m8_106 e1 hrun h hk kp hw1 hn1 hr hK => ⟨_, _, _, _, _, _, rfl, ?_⟩
   replace hi := hi.keep kp; replace ht := ht.keep kp
   refine blkTake (C := (C.add nx)) hk hni hr hK rfl (by omega) fun Γ H hk hr hb hxhb kp hK => ?_
   replace hi := hi.keep kp; replace ht := ht.keep kp; replace hn1 := hn1.keep hr.rex kp
   refine ⟨⟨⟨_, _, _, _, _, ht.tok hk, rfl⟩, trivial⟩, ?_⟩
   cases hrun
   exact node_finT hk hr hi hf hrex (KidsV.blk (n := 1) hxhb hb.e hn1.one rfl) rfl hK
  refine has_call (C := (C.add nx)) W hrun hk hr hK rfl (fun _ h => h) (fun Γ H m8_113 his hrun h hk kp hr hK => ⟨_, rfl, ifB_t rfl ?_⟩) (fun H m8_113 his hrun h hk hK => ⟨_, rfl, ifB_f rfl ?_⟩)
  ·
   replace hi := hi.keep kp; replace ht := ht.keep kp
   refine need_call (C := (C.add nx)) W hrun hk hr hK rfl .id (fun _ h => h) fun Γ H m9_116 his hrun h hk kp hr hK => ⟨_, _, _, _, _, rfl, ?_⟩
   replace hi := hi.keep kp; replace ht := ht.keep kp
   refine rule_call (C := (C.add nx)) (fun Z ex res Γ H nx K h => ih.typ d hd Z ex _ res Γ H nx K h) hrun hk hr hK rfl .id (fun _ h => h) fun t1 c1 kk1 s1 n1 li1 co1 w1 Γ H m10_118 e1 hrun h hk kp hw1 hn1 hr hK => ⟨_, _, _, _, _, _, rfl, ?_⟩
   replace hi := hi.keep kp; replace ht := ht.keep kp
   refine nodeIn (C := (C.add nx)) hk hr hw1 hK rfl fun Γ H hk hr hb1 kp hK => ?_
   replace hi := hi.keep kp; replace ht := ht.keep kp; replace hn1 := hn1.keep hr.rex kp
   refine need_call (C := (C.add nx)) W hrun hk hr hK rfl .id (fun _ h => h) fun Γ H m11_122 his hrun h hk kp hr hK => ⟨_, _, _, _, _, rfl, ?_⟩
   replace hi := hi.keep kp; replace ht := ht.keep kp; replace hn1 := hn1.keep hr.rex kp; replace hb1 := hb1.keep kp
   refine rule_call (C := (C.add nx)) (fun Z ex res Γ H nx K h => ih.expr d hd Z ex _ res Γ H nx K h) hrun hk hr hK rfl .id (fun _ h => h) fun t2 c2 kk2 s2 n2 li2 co2 w2 Γ H m12_124 e2 hrun h hk kp hw2 hn2 hr hK => ⟨_, _, _, _, _, _, rfl, ?_⟩
   replace hi := hi.keep kp; replace ht := ht.keep kp; replace hn1 := hn1.keep hr.rex kp; replace hb1 := hb1.keep kp
   refine nodeIn (C := (C.add nx)) hk hr hw2 hK rfl fun Γ H hk hr hb2 kp hK => ?_
   replace hi := hi.keep kp; replace ht := ht.keep kp; replace hn1 := hn1.keep hr.rex kp; replace hb1 := hb1.keep kp; replace hn2 := hn2.keep hr.rex kp
   refine need_call (C := (C.add nx)) W hrun hk hr hK rfl .id (fun _ h => h) fun Γ H m13_128 his hrun h hk kp hr hK => ⟨_, _, _, _, _, rfl, ?_⟩
   replace hi := hi.keep kp; replace ht := ht.keep kp; replace hn1 := hn1.keep hr.rex kp; replace hb1 := hb1.keep kp; replace hn2 := hn2.keep hr.rex kp; replace hb2 := hb2.keep kp
   refine ⟨_, _, _, _, _, ht.tok hk, _, _, _, _, _, _, ldAll hk hb1.e rfl, _, _, _, _, _, _, ldAll hk hb2.e rfl, ?_⟩
   refine blkIn (nx' := m13_128 + 1) (C := (C.add nx)) hk (Nat.le_refl _) (by omega) hr hK rfl fun Γ H hk hr hb hxhb kp hK => ?_
   replace hi := hi.keep kp; replace ht := ht.keep kp; replace hn1 := hn1.keep hr.rex kp; replace hb1 := hb1.keep kp; replace hn2 := hn2.keep hr.rex kp; replace hb2 := hb2.keep kp
   cases hrun
   exact node_fin hk hr hi hf hrex (KidsV.blk (n := 2) hxhb hb.e (.cons hn1 hn2.one) rfl) rfl hK
  refine has_call (C := (C.add nx)) W hrun hk hr hK rfl (fun _ h => h) (fun Γ H m9_135 his hrun h hk kp hr hK => ⟨_, rfl, ifB_t rfl ?_⟩) (fun H m9_135 his hrun h hk hK => ⟨_, rfl, ifB_f rfl ?_⟩)
  ·
   replace hi := hi.keep kp; replace ht := ht.keep kp
   refine need_call (C := (C.add nx)) W hrun hk hr hK rfl .id (fun _ h => h) fun Γ H m10_138 his hrun h hk kp hr hK => ⟨_, _, _, _, _, rfl, ?_⟩
   replace hi := hi.keep kp; replace ht := ht.keep kp
   refine need_call (C := (C.add nx)) W hrun hk hr hK rfl .id (fun _ h => h) fun Γ H m11_140 his hrun h hk kp hr hK => ⟨_, _, _, _, _, rfl, ?_⟩
   replace hi := hi.keep kp; replace ht := ht.keep kp
   refine ⟨_, _, _, _, _, ht.tok hk, ?_⟩
   cases hrun
   exact node_fin hk hr hi hf hrex .nil rfl hK
  cases hrun
  exact fault_ok (C := C.add nx) hk hr fun H nx2 h2 hk => onEnd_pan.2 ((hK.from h2 (.refl _ _ _)).pan rfl hk hr.p)
end
end
end Go.Vs
end
section
namespace Go.Vs
open Go.Proofs
variable [GTab] {Z : Nat → Prop}
noncomputable section
section
variable {Γ0 Γ : GH} {n0 : Nat} {H : Heap} {nx a d n i : Nat} {C : RC} {K : EndP} {res : Except Flt (Tree × Nat)}
abbrev dotR (l : List Tok) (n d : Nat) (t : Tok) (x : Tree) : Nat → Rs (Tree × Nat) := fun a =>
 if Ps.is l a [40] then Rs.bind (Ps.run l n .typ d (a + 1)) fun (ty, b) => Ps.lift (Ps.need l b [41]) fun c => Rs.ok (Ps.mk t 37 [] [x, ty], c)
 else Ps.lift (Ps.name l a) fun b =>
  if Ps.is l b [40] then Rs.bind (Ps.row l (Ps.run l n .expr d) n b) fun (xs, c) => Rs.ok (Ps.mk t 31 (Ps.tk l a).text (x :: xs), c)
  else Rs.ok (Ps.mk t 30 (Ps.tk l a).text [x], b)
theorem dot_ok {t0 : Tok} {x0 : Tree} {kk0 n0 li0 co0 : Int} {s0 : List UInt8} {w0 : AVal} (W : Toks C.l) (ih : IH C.l C.r C.tb n) (hd : d ≤ 40) (hrun : dotR C.l n d t0 x0 a = some res) (hn0 : NodeC C.ex Γ [iv kk0, .str s0, iv n0, iv li0, iv co0, w0] x0) (hk : HZ Z Γ H nx) (hr : Rd Γ C a d) (hK : Meets Z K Γ nx C d res (NodeV C.ex)) :
  TriP PG f_rd_dot [.ptr C.r 0, tokV t0, .agg [iv kk0, .str s0, iv n0, iv li0, iv co0, w0]] H nx K := by
 refine TriP.of_body mixed ?_
 rw [Frd_dot_eq]
 unfold Frd_dot
 have hrex := hr.rex
 have hf0 := hk.fresh (Nat.le_refl nx)
 have hf : Γ (nx + 1 + 1) = none ∧ nx ≤ nx + 1 + 1 := ⟨hk.fresh (by omega), by omega⟩
 refine ⟨_, rfl, ?_⟩
 have h0 : HZ Z (gup nx (some (tokC t0)) Γ) (newBN nx [iv t0.kind, AVal.str t0.text, iv t0.n, iv t0.line, iv t0.col].length [iv t0.kind, AVal.str t0.text, iv t0.n, iv t0.line, iv t0.col] H) (nx + 1) := hk.new (Nat.le_refl _) (by omega) _
 have hr0 := hr.new (cs := some (tokC t0)) hf0
 have hf1 := h0.fresh (Nat.le_refl (nx + 1))
 refine ⟨_, rfl, ?_⟩
 have h1 : HZ Z (gup (nx + 1) (some [iv kk0, .str s0, iv n0, iv li0, iv co0, w0]) (gup nx (some (tokC t0)) Γ)) (newBN (nx + 1) [iv kk0, .str s0, iv n0, iv li0, iv co0, w0].length [iv kk0, .str s0, iv n0, iv li0, iv co0, w0] (newBN nx [iv t0.kind, AVal.str t0.text, iv t0.n, iv t0.line, iv t0.col].length [iv t0.kind, AVal.str t0.text, iv t0.n, iv t0.line, iv t0.col] H)) (nx + 1 + 1) := h0.new (Nat.le_refl _) (by omega) _
 have hr1 := hr0.new (cs := some [iv kk0, .str s0, iv n0, iv li0, iv co0, w0]) hf1
 have hf2 := h1.fresh (Nat.le_refl (nx + 1 + 1))
 have kp1 : KeepX C.r nx Γ (gup (nx + 1) (some [iv kk0, .str s0, iv n0, iv li0, iv co0, w0]) (gup nx (some (tokC t0)) Γ)) := (KeepX.new (nx := nx) hf0).trans (KeepX.new (nx := nx) hf1)
 have ht : At (gup (nx + 1) (some [iv kk0, .str s0, iv n0, iv li0, iv co0, w0]) (gup nx (some (tokC t0)) Γ)) C.r nx (tokC t0) := ⟨(gup_ne (by omega)).trans (gup_same _ _ _), hr.r_ne hf0⟩
 have hx : At (gup (nx + 1) (some [iv kk0, .str s0, iv n0, iv li0, iv co0, w0]) (gup nx (some (tokC t0)) Γ)) C.r (nx + 1) [iv kk0, .str s0, iv n0, iv li0, iv co0, w0] := ⟨gup_same _ _ _, hr0.r_ne hf1⟩
 replace hn0 := (hn0.keep hr.rex kp1).raise (i := nx + 1 + 1) hf2
 replace hK := hK.owe.from (by omega : nx ≤ nx + 1 + 1 + 1) kp1
 refine scrN h1 (nx' := nx + 1 + 1 + 1) (Nat.le_refl _) (by omega) fun H hk => ?_
 replace hr := hr1.newAdd (cs := [iv 0, AVal.str [], iv 0, iv 0, iv 0, AVal.nilSlice]) hf2
 have hi : Res (gup (nx + 1 + 1) (some [iv 0, AVal.str [], iv 0, iv 0, iv 0, AVal.nilSlice]) (gup (nx + 1) (some [iv kk0, .str s0, iv n0, iv li0, iv co0, w0]) (gup nx (some (tokC t0)) Γ))) C (nx + 1 + 1) := ⟨⟨_, gup_same _ _ _, rfl⟩, hr1.r_ne hf2, hr1.tb_ne hf2⟩
 have kp : KeepX C.r (nx + 1 + 1) _ _ := KeepX.new (cs := [iv 0, AVal.str [], iv 0, iv 0, iv 0, AVal.nilSlice]) hf2
 replace ht := ht.keep kp; replace hx := hx.keep kp; replace hn0 := hn0.keep hr.rex kp; replace hK := hK.from' (Nat.le_refl _) kp (by omega)
 refine has_call (C := (C.add (nx + 1 + 1))) W hrun hk hr hK rfl (fun _ h => h) (fun Γ H m1_0 his hrun h hk kp hr hK => ⟨_, rfl, ifB_t rfl ?_⟩) (fun H m1_0 his hrun h hk hK => ⟨_, rfl, ifB_f rfl ?_⟩)
 ·
  replace hi := hi.keep kp; replace ht := ht.keep kp; replace hx := hx.keep kp; replace hn0 := hn0.keep hr.rex kp
  refine rule_call (C := (C.add (nx + 1 + 1))) (fun Z ex res Γ H nx K h => ih.typ d hd Z ex _ res Γ H nx K h) hrun hk hr hK rfl .id (fun _ h => h) fun t1 c1 kk1 s1 n1 li1 co1 w1 Γ H m2_3 e1 hrun h hk kp hw1 hn1 hr hK => ⟨_, _, _, _, _, _, rfl, ?_⟩
  replace hi := hi.keep kp; replace ht := ht.keep kp; replace hx := hx.keep kp; replace hn0 := hn0.keep hr.rex kp
  refine nodeIn (C := (C.add (nx + 1 + 1))) hk hr hw1 hK rfl fun Γ H hk hr hb1 kp hK => ?_
  replace hi := hi.keep kp; replace ht := ht.keep kp; replace hx := hx.keep kp; replace hn0 := hn0.keep hr.rex kp; replace hn1 := hn1.keep hr.rex kp
  refine need_call (C := (C.add (nx + 1 + 1))) W hrun hk hr hK rfl .id (fun _ h => h) fun Γ H m3_7 his hrun h hk kp hr hK => ⟨_, _, _, _, _, rfl, ?_⟩
  replace hi := hi.keep kp; replace ht := ht.keep kp; replace hx := hx.keep kp; replace hn0 := hn0.keep hr.rex kp; replace hn1 := hn1.keep hr.rex kp; replace hb1 := hb1.keep kp
  refine ⟨_, _, _, _, _, ht.tok hk, _, _, _, _, _, _, ldAll hk hx.e rfl, _, _, _, _, _, _, ldAll hk hb1.e rfl, ?_⟩
  refine blkIn (nx' := m3_7 + 1) (C := (C.add (nx + 1 + 1))) hk (Nat.le_refl _) (by omega) hr hK rfl fun Γ H hk hr hb hxhb kp hK => ?_
  replace hi := hi.keep kp; replace ht := ht.keep kp; replace hx := hx.keep kp; replace hn0 := hn0.keep hr.rex kp; replace hn1 := hn1.keep hr.rex kp; replace hb1 := hb1.keep kp
  cases hrun
  exact node_fin hk hr hi hf hrex (KidsV.blk (n := 2) hxhb hb.e (.cons hn0 hn1.one) rfl) rfl hK
 refine name_call (C := (C.add (nx + 1 + 1))) W hrun hk hr hK rfl .id (fun _ h => h) fun Γ H m2_14 hkd hrun h hk kp hr hK => ⟨_, _, _, _, _, rfl, ?_⟩
 replace hi := hi.keep kp; replace ht := ht.keep kp; replace hx := hx.keep kp; replace hn0 := hn0.keep hr.rex kp
 refine is_call (C := (C.add (nx + 1 + 1))) (s := [40]) hk hr hK fun H m3_16 h hk hK => ⟨_, rfl, ifB_iff.2 ⟨fun h1 => ?_, fun h1 => ?_⟩⟩
 ·
  replace hrun := (if_neg (show ¬ Ps.is C.l _ [40] = true by simpa using h1)).symm.trans hrun
  refine ⟨_, _, _, _, _, ht.tok hk, _, _, _, _, _, _, ldAll hk hx.e rfl, ?_⟩
  refine blkIn (nx' := m3_16 + 1) (C := (C.add (nx + 1 + 1))) hk (Nat.le_refl _) (by omega) hr hK rfl fun Γ H hk hr hb hxhb kp hK => ?_
  replace hi := hi.keep kp; replace ht := ht.keep kp; replace hx := hx.keep kp; replace hn0 := hn0.keep hr.rex kp
  cases hrun
  exact node_fin hk hr hi hf hrex (KidsV.blk (n := 1) hxhb hb.e hn0.one rfl) rfl hK
 ·
  replace hrun := (if_pos (show Ps.is C.l _ [40] = true by simpa using h1)).symm.trans hrun
  refine ⟨_, _, _, _, _, ht.tok hk, _, _, _, _, _, _, ldAll hk hx.e rfl, ?_⟩
  refine blkIn (i := m3_16 + 3) (nx' := m3_16 + 11) (C := (C.add (nx + 1 + 1))) hk (by omega) (by omega) hr hK rfl fun Γ H hk hr hb hxhb kp hK => ?_
  replace hi := hi.keep kp; replace ht := ht.keep kp; replace hx := hx.keep kp; replace hn0 := hn0.keep hr.rex kp
  refine ⟨⟨⟨_, _, _, _, _, ht.tok hk, rfl⟩, ⟨_, _, _, _, _, _, ldAll hk hx.e rfl, rfl⟩, trivial⟩, ?_⟩
  refine row_call (C := (C.add (nx + 1 + 1))) W (adv1 rfl) to_expr (ih.expr d hd) hrun hk hr hK rfl .id (fun _ h => h) fun ts b v Γ H m6 erow hrun h hk kp hv hr hK => ?_
  replace hi := hi.keep kp; replace ht := ht.keep kp; replace hx := hx.keep kp; replace hn0 := hn0.keep hr.rex kp; replace hb := hb.keep kp
  have hlen := row_len (adv1 (by rfl)) erow
  have hlt : b < C.l.length := hr.lt
  have hW := W.few
  refine ⟨⟨⟨_, _, _, _, _, ht.tok hk, rfl⟩, ⟨_, _, _, _, _, _, ldAll hk hx.e rfl, rfl⟩, trivial⟩, ?_⟩
  refine appK (C := (C.add (nx + 1 + 1))) hk hr hb.e hxhb hn0.one (by simp) hv (by simp; omega) rfl fun w Γ H m7 h hk kp hr hv => ?_
  replace hi := hi.keep kp; replace ht := ht.keep kp; replace hx := hx.keep kp; replace hn0 := hn0.keep hr.rex kp; replace hb := hb.keep kp
  replace hK := hK.from h kp
  cases hrun
  exact ⟨⟨⟨_, _, _, _, _, ht.tok hk, rfl⟩, trivial⟩, node_finT hk hr hi hf hrex hv rfl hK⟩
end
end
end Go.Vs
end
section
namespace Go.Vs
open Go.Proofs
variable [GTab] {Z : Nat → Prop}
noncomputable section
section
variable {Γ0 Γ : GH} {n0 : Nat} {H : Heap} {nx a d n i : Nat} {C : RC} {K : EndP} {res : Except Flt (Tree × Nat)}
theorem rule_one {β : Type} {V : GH → AVal → β → Prop} {res : Except Flt (β × Nat)} {rK : AVal → Heap → Nat → Prop} {pK : List (AVal × Bool) → Heap → Nat → Prop} {g : FuncId} {args : List AVal} {one : Nat → Rs (Tree × Nat)} {k : Tree × Nat → Rs (β × Nat)} {Cb : RC} {db : Nat} {Zc : Nat → Prop}
  (hone : ∀ res K, one a = some res → Meets Zc K Γ nx C d res (NodeV C.ex) → TriP PG g args H nx K)
  (hrun : Rs.bind (one a) k = some res) (hK : Owe Z K Γ0 n0 Γ nx Cb db res V) (hb : Cb.r = C.r) (hp : PanOK Z K Cb.r pK) (hz : ∀ b, Z b → Zc b)
  (hok : ∀ t b kk s n li co w Γ' H' nx', one a = some (.ok (t, b)) → k (t, b) = some res → nx ≤ nx' → HZ Zc Γ' H' nx' → KeepX C.r nx Γ Γ' → cellv w = true → NodeC C.ex Γ' [iv kk, .str s, iv n, iv li, iv co, w] t → Rd Γ' C b d →
   Owe Z K Γ0 n0 Γ' nx' Cb db res V → rK (.agg [iv kk, .str s, iv n, iv li, iv co, w]) H' nx') :
  TriP PG g args H nx fun e H' nx' => onEnd e (fun v => rK v H' nx') fun l => pK l H' nx' := by
 rcases Ps.bind_some hrun with ⟨f, e1, e2⟩ | ⟨⟨t, b⟩, e1, e2⟩
 ·refine hone _ _ e1 (.on (fun x b v Γ' H' nx' e => by cases e) fun f' Γ' H' nx' e g1 g2 g3 g4 => ?_)
  cases e
  rw [← hb] at g3 g4
  exact hp.of (hK.from g1 g3) e2 (g2.less hz) g4
 ·refine hone _ _ e1 (.on (fun x b' v Γ' H' nx' e g1 g2 g3 g4 g5 => ?_) fun f' Γ' H' nx' e => by cases e)
  cases e
  obtain ⟨kk, s, n, li, co, w, rfl, hw, hn⟩ := g4.cells
  exact hok _ _ _ _ _ _ _ _ _ _ _ e1 e2 g1 g2 g3 hw hn g5 (hK.from g1 (by rw [hb]; exact g3))
theorem dot_bind {β : Type} {l : List Tok} {n d a : Nat} {t : Tok} {x : Tree} {k : Tree → Nat → Rs β} : Rs.bind (dotR l n d t x a) (fun p => k p.1 p.2) =
  (if Ps.is l a [40] then Rs.bind (Ps.run l n .typ d (a + 1)) fun (ty, b) => Ps.lift (Ps.need l b [41]) fun c => k (Ps.mk t 37 [] [x, ty]) c
  else Ps.lift (Ps.name l a) fun b =>
   if Ps.is l b [40] then Rs.bind (Ps.row l (Ps.run l n .expr d) n b) fun (xs, c) => k (Ps.mk t 31 (Ps.tk l a).text (x :: xs)) c
   else k (Ps.mk t 30 (Ps.tk l a).text [x]) b) := by
 unfold dotR
 split
 ·cases Ps.run l n .typ d (a + 1) with
  | none => rfl
  | some r => cases r with
   | error f => rfl
   | ok p =>
    obtain ⟨ty, b⟩ := p
    show Rs.bind (Ps.lift (Ps.need l b [41]) _) _ = Ps.lift (Ps.need l b [41]) _
    cases Ps.need l b [41] <;> rfl
 ·cases Ps.name l a with
  | error f => rfl
  | ok b =>
   show Rs.bind (if Ps.is l b [40] = true then _ else _) _ = if Ps.is l b [40] = true then _ else _
   split
   ·cases Ps.row l (Ps.run l n .expr d) n b with
    | none => rfl
    | some r => cases r <;> rfl
   ·rfl
theorem RPost_eq (call : CallP) (lp : Nat → LoopP) (lv : LeaveP) (lvc : LeaveC) (r c x : Nat) (H : Heap) (nx : Nat) (K : EndP) :
  contAt PG call (lp 30) 30 (codeOf PG f_rd_post) [1, 1, 0] (endK PG lv lvc K (resOf PG f_rd_post)) .ret (envL .und [(0, .ptr r 0), (2, .ptr c 0), (3, .ptr x 0)]) H nx [] none = vLoad PG t_node H (.ptr c 0) fun v => K (.ret v) H nx := by kernel_rfl
theorem PPost_eq (call : CallP) (lp : Nat → LoopP) (lv : LeaveP) (lvc : LeaveC) (r c x : Nat) (H : Heap) (nx : Nat) (K : EndP) (l : List (AVal × Bool)) :
  contAt PG call (lp 30) 30 (codeOf PG f_rd_post) [1, 1, 0] (endK PG lv lvc K (resOf PG f_rd_post)) (.pan l) (envL .und [(0, .ptr r 0), (2, .ptr c 0), (3, .ptr x 0)]) H nx [] none = K (.pan l) H nx := by kernel_rfl
theorem RBin_eq (call : CallP) (lp : Nat → LoopP) (lv : LeaveP) (lvc : LeaveC) (r c x : Nat) (k : Int) (H : Heap) (nx : Nat) (K : EndP) :
  contAt PG call (lp 36) 36 (codeOf PG f_rd_binary) [1, 1, 0] (endK PG lv lvc K (resOf PG f_rd_binary)) .ret (envL .und [(0, .ptr r 0), (1, iv k), (4, .ptr c 0), (5, .ptr x 0)]) H nx [] none = vLoad PG t_node H (.ptr c 0) fun v => K (.ret v) H nx := by kernel_rfl
theorem PBin_eq (call : CallP) (lp : Nat → LoopP) (lv : LeaveP) (lvc : LeaveC) (r c x : Nat) (k : Int) (H : Heap) (nx : Nat) (K : EndP) (l : List (AVal × Bool)) :
  contAt PG call (lp 36) 36 (codeOf PG f_rd_binary) [1, 1, 0] (endK PG lv lvc K (resOf PG f_rd_binary)) (.pan l) (envL .und [(0, .ptr r 0), (1, iv k), (4, .ptr c 0), (5, .ptr x 0)]) H nx [] none = K (.pan l) H nx := by kernel_rfl
theorem PanOK.eq {r : Nat} {pK : List (AVal × Bool) → Heap → Nat → Prop} (h : ∀ l H nx, pK l H nx = K (.pan l) H nx) : PanOK Z K r pK := fun f Γ H nx hk hp h2 => by rw [h]; exact h2 Γ H hk (.refl _ _ _) hp
theorem fin6x {Cb : RC} {x : Nat} {kk nn li co : Int} {s : List UInt8} {w : AVal} {t : Tree} {b : Nat} (hk : HZ Z Γ H nx) (hr : Rd Γ ((Cb.add i).add x) b d) (hi : Res Γ Cb i) (h0 : Γ0 i = none ∧ n0 ≤ i) (hrex : Cb.ex Cb.r) (hw : cellv w = true)
  (hn : NodeC ((Cb.add i).add x).ex Γ [iv kk, .str s, iv nn, iv li, iv co, w] t) (e : res = .ok (t, b)) (hK : Owe Z K Γ0 n0 Γ nx Cb d res (NodeV Cb.ex)) :
  ∃ H1, stC H (.ptr i 0) [iv kk, .str s, iv nn, iv li, iv co, w] = some H1 ∧ vLoad PG t_node H1 (.ptr i 0) fun v => K (.ret v) H1 nx := by
 obtain ⟨cs, e0, hl⟩ := hi.e
 refine stAll hk e0 (by simp [hl]) (by simp only [allCell, hw]; rfl) fun H1 h1 => ?_
 rw [vLoad_node]
 refine ⟨_, _, _, _, _, _, ldAll h1 (gup_same _ _ _) rfl, (hK.upd h0.1 h0.2).ret e h1 ?_ (((hr.less (.inr hrex)).upd hi.nr hi.nt).less hrex)⟩
 exact (hn.mono (fun _ h => .inr (.inr h)) fun c ds hc e => by rw [gup_ne fun x => hc (.inr (.inl x))]; exact e).v
theorem rank_ok {s : List UInt8} {K : EndP} (h : K (.ret (iv (Ps.rank s))) H nx) : TriP PG f_p_rank [.str s] H nx K := by
 refine TriP.of_body mixed ?_
 rw [Fp_rank_eq]
 unfold Fp_rank
 have st : ∀ {u : List UInt8} {p q : Prop}, (s = u → p) → (s ≠ u → q) → ifB (s == u) p q := fun h1 h2 => ifB_iff.2 ⟨fun e => h1 (by simpa using e), fun e => h2 (by simpa using e)⟩
 unfold Ps.rank at h
 refine st (fun e => by subst e; simpa using h) fun e1 => ?_
 refine st (fun e => by subst e; simpa using h) fun e2 => ?_
 refine st (fun e => by subst e; simpa using h) fun e3 => ?_
 refine st (fun e => by subst e; simpa using h) fun e4 => ?_
 refine st (fun e => by subst e; simpa using h) fun e5 => ?_
 refine st (fun e => by subst e; simpa using h) fun e6 => ?_
 refine st (fun e => by subst e; simpa using h) fun e7 => ?_
 refine st (fun e => by subst e; simpa using h) fun e8 => ?_
 refine st (fun e => by subst e; simpa using h) fun e9 => ?_
 refine st (fun e => by subst e; simpa using h) fun e10 => ?_
 refine st (fun e => by subst e; simpa using h) fun e11 => ?_
 refine st (fun e => by subst e; simpa using h) fun e12 => ?_
 refine st (fun e => by subst e; simpa using h) fun e13 => ?_
 simpa [e1, e2, e3, e4, e5, e6, e7, e8, e9, e10, e11, e12, e13] using h
theorem rank_nat (s : List UInt8) : ∃ r : Nat, r ≤ 5 ∧ Ps.rank s = (r : Int) := by
 unfold Ps.rank
 split
 ·exact ⟨1, by omega, rfl⟩
 split
 ·exact ⟨2, by omega, rfl⟩
 split
 ·exact ⟨3, by omega, rfl⟩
 split
 ·exact ⟨4, by omega, rfl⟩
 split
 ·exact ⟨5, by omega, rfl⟩
 ·exact ⟨0, by omega, rfl⟩
theorem post_ok (W : Toks C.l) (ihs : ∀ m, m ≤ n → IH C.l C.r C.tb m) (hd : d ≤ 40) (hrun : Ps.run C.l (n + 1) .post d a = some res) (hk : HZ Z Γ H nx) (hr : Rd Γ C a d) (hK : Meets Z K Γ nx C d res (NodeV C.ex)) : TriP PG f_rd_post [.ptr C.r 0] H nx K := by
 refine TriP.of_body mixed ?_
 rw [Frd_post_eq]
 unfold Frd_post
 simp only [Ps.run] at hrun
 have ih := ihs n (Nat.le_refl n)
 have hrex := hr.rex
 refine begin6 hk hr hK fun Γ H hk hr hi hf hK kp => ?_
 refine rule_call (C := (C.add nx)) (fun Z ex res Γ H nx K h => ih.prime d hd Z ex _ res Γ H nx K h) hrun hk hr hK rfl .id (fun _ h => h) fun t0 c0 kk0 s0 n0 li0 co0 w0 Γ H x e0 hrun h hk kp hw0 hn0 hr hK => ⟨_, _, _, _, _, _, rfl, ?_⟩
 replace hi := hi.keep kp
 have hmE := hk.fresh (Nat.le_refl x)
 have hm0 := hK.none hmE (hr.r_ne hmE)
 have hm3 := hr.tb_ne hmE
 replace hn0 := hn0.raise hmE
 refine nodeIn (C := (C.add nx)) hk hr hw0 hK rfl fun Γ H hk hr hx kp hK => ?_
 replace hi := hi.keep kp
 replace hr : Rd Γ ((C.add nx).add x) _ d := hr.add (by rw [hx.e]; simp)
 replace hn0 := hn0.keep hr.rex kp
 refine loop_w (P := PG) (X := Unit) (Y := Unit) (fun _ => envL .und [(0, .ptr C.r 0), (2, .ptr nx 0), (3, .ptr x 0)]) (fun _ => envL .und [])
  (fun m _ H1 m1 => x + 1 ≤ m1 ∧ m ≤ n ∧ ∃ Γ1 t b kk s n1 li co w, HZ Z Γ1 H1 m1 ∧ Rd Γ1 ((C.add nx).add x) b d ∧ Res Γ1 C nx ∧ At Γ1 C.r x [iv kk, .str s, iv n1, iv li, iv co, w] ∧ NodeC ((C.add nx).add x).ex Γ1 [iv kk, .str s, iv n1, iv li, iv co, w] t ∧ Ps.run C.l m (.postGo t) d b = some res ∧ Owe Z K _ nx Γ1 m1 C d res (NodeV C.ex))
  (fun id _ H3 nx3 => False) n () (EnvLe.of_list (by exact ⟨rfl, rfl, rfl, trivial⟩))
  ⟨Nat.le_refl _, Nat.le_refl _, Γ, t0, c0, _, _, _, _, _, _, hk, hr, hi, hx, hn0, hrun, hK⟩ ?_ ?_
 ·rintro m _ H m1 ⟨h, hmn, Γ, t, b, kk, s, n1, li, co, w, hk, hr, hi, hx, hnx, hrun, hK⟩
  refine WpP.trim (ts := [0, 2, 3]) (WpP.weaken (e := envL .und [(3, .ptr x 0), (2, .ptr nx 0), (0, .ptr C.r 0)]) (EnvLe.of_list (by exact ⟨rfl, rfl, rfl, trivial⟩)) (WpP.of_vK mixed ?_))
  rw [LPost_eq]
  unfold LPost
  cases m with
  | zero => simp [Ps.run] at hrun
  | succ m =>
  have ih := ihs m (by omega)
  simp only [Ps.run] at hrun
  have hpan : PanOK Z K C.r fun l H nx2 => contAt PG (TriP PG) (LpP PG 30) 30 (codeOf PG f_rd_post) [1, 1, 0] (endK PG (lvSem (TriDP PG)) (lvcSem PG (TriDP PG)) K (resOf PG f_rd_post)) (.pan l) (envL .und [(0, .ptr C.r 0), (2, .ptr nx 0), (3, .ptr x 0)]) H nx2 [] none := .eq fun l H nx2 => PPost_eq (TriP PG) (LpP PG) (lvSem (TriDP PG)) (lvcSem PG (TriDP PG)) C.r nx x H nx2 K l
  refine now_call (C := ((C.add nx).add x)) hk hr hK fun H m1_26 h hk hK => ⟨_, _, _, _, _, rfl, ?_⟩
  refine tokIn (C := ((C.add nx).add x)) hk hr hK rfl fun Γ H hk hr ht kp hK => ?_
  replace hi := hi.keep kp; replace hx := hx.keep kp; replace hnx := hnx.keep hr.rex kp
  refine has_call (C := ((C.add nx).add x)) W hrun hk hr hK rfl (fun _ h => h) (fun Γ H m2_29 his hrun h hk kp hr hK => ⟨_, rfl, ifB_t rfl ?_⟩) (fun H m2_29 his hrun h hk hK => ⟨_, rfl, ifB_f rfl ?_⟩)
  ·
   replace hi := hi.keep kp; replace hx := hx.keep kp; replace hnx := hnx.keep hr.rex kp; replace ht := ht.keep kp
   refine rule_call (C := ((C.add nx).add x)) (fun Z ex res Γ H nx K h => ih.expr d hd Z ex _ res Γ H nx K h) hrun hk hr hK rfl hpan (fun _ h => h) fun t1 c1 kk1 s1 n1 li1 co1 w1 Γ H m3_32 e1 hrun h hk kp hw1 hn1 hr hK => ⟨_, _, _, _, _, _, rfl, ?_⟩
   replace hi := hi.keep kp; replace hx := hx.keep kp; replace hnx := hnx.keep hr.rex kp; replace ht := ht.keep kp
   refine nodeIn (C := ((C.add nx).add x)) hk hr hw1 hK rfl fun Γ H hk hr hb1 kp hK => ?_
   replace hi := hi.keep kp; replace hx := hx.keep kp; replace hnx := hnx.keep hr.rex kp; replace ht := ht.keep kp; replace hn1 := hn1.keep hr.rex kp
   refine need_call (C := ((C.add nx).add x)) W hrun hk hr hK rfl hpan (fun _ h => h) fun Γ H m4_36 his hrun h hk kp hr hK => ⟨_, _, _, _, _, rfl, ?_⟩
   replace hi := hi.keep kp; replace hx := hx.keep kp; replace hnx := hnx.keep hr.rex kp; replace ht := ht.keep kp; replace hn1 := hn1.keep hr.rex kp; replace hb1 := hb1.keep kp
   refine ⟨_, _, _, _, _, ht.tok hk, _, _, _, _, _, _, ldAll hk hx.e rfl, _, _, _, _, _, _, ldAll hk hb1.e rfl, ?_⟩
   refine blkIn (nx' := m4_36 + 1) (C := ((C.add nx).add x)) hk (Nat.le_refl _) (by omega) hr hK rfl fun Γ H hk hr hb hxhb kp hK => ?_
   replace hi := hi.keep kp; replace hx := hx.keep kp; replace hnx := hnx.keep hr.rex kp; replace ht := ht.keep kp; replace hn1 := hn1.keep hr.rex kp; replace hb1 := hb1.keep kp
   refine node_call (C := ((C.add nx).add x)) hk (KidsV.blk (n := 2) hxhb hb.e (.cons hnx hn1.one) rfl) hK fun H m8 h hk hn2 hw2 hK => ⟨_, _, _, _, _, _, rfl, ?_⟩
   refine stAll hk hx.e rfl (by simp only [allCell, hw2]; rfl) fun H hk => ?_
   replace hK := hK.upd (i := x) (cs := some [iv 32, .str [], iv 0, iv (Ps.tk C.l b).line, iv (Ps.tk C.l b).col, AVal.slice m4_36 0 2 6 true]) hm0 (by omega)
   replace hr := hr.upd (cs := [iv 32, .str [], iv 0, iv (Ps.tk C.l b).line, iv (Ps.tk C.l b).col, AVal.slice m4_36 0 2 6 true]) (b := x) hx.ne hm3
   replace hi := hi.set (i := x) (cs := some [iv 32, .str [], iv 0, iv (Ps.tk C.l b).line, iv (Ps.tk C.l b).col, AVal.slice m4_36 0 2 6 true]) (by omega)
   replace hx := hx.same (ds := [iv 32, .str [], iv 0, iv (Ps.tk C.l b).line, iv (Ps.tk C.l b).col, AVal.slice m4_36 0 2 6 true])
   replace hn2 := hn2.set (cs := some [iv 32, .str [], iv 0, iv (Ps.tk C.l b).line, iv (Ps.tk C.l b).col, AVal.slice m4_36 0 2 6 true])
   exact ⟨rfl, m, (), Nat.lt_succ_self m, EnvLe.of_list (by exact ⟨rfl, rfl, rfl, trivial⟩), by omega, by omega, _, _, _, _, _, _, _, _, _, hk, hr, hi, hx, hn2, hrun, hK⟩
  refine has_call (C := ((C.add nx).add x)) W hrun hk hr hK rfl (fun _ h => h) (fun Γ H m3_49 his hrun h hk kp hr hK => ⟨_, rfl, ifB_t rfl ?_⟩) (fun H m3_49 his hrun h hk hK => ⟨_, rfl, ifB_f rfl ?_⟩)
  ·
   replace hi := hi.keep kp; replace hx := hx.keep kp; replace hnx := hnx.keep hr.rex kp; replace ht := ht.keep kp
   replace hrun := (dot_bind (k := fun y c => Ps.run C.l m (.postGo y) d c)).trans hrun
   refine ⟨_, _, _, _, _, ht.tok hk, _, _, _, _, _, _, ldAll hk hx.e rfl, ?_⟩
   refine rule_one (one := dotR C.l m d (Ps.tk C.l b) t) (C := ((C.add nx).add x)) (fun res K h hM => dot_ok (C := ((C.add nx).add x)) W ih hd h hnx hk hr hM) hrun hK rfl hpan (fun _ h => h) fun t2 c2 kk2 s2 n2 li2 co2 w2 Γ H m8 e2 hrun h hk kp hw2 hn2 hr hK => ⟨_, _, _, _, _, _, rfl, ?_⟩
   replace hi := hi.keep kp; replace hx := hx.keep kp; replace hnx := hnx.keep hr.rex kp; replace ht := ht.keep kp
   refine stAll hk hx.e rfl (by simp only [allCell, hw2]; rfl) fun H hk => ?_
   replace hK := hK.upd (i := x) (cs := some [iv kk2, .str s2, iv n2, iv li2, iv co2, w2]) hm0 (by omega)
   replace hr := hr.upd (cs := [iv kk2, .str s2, iv n2, iv li2, iv co2, w2]) (b := x) hx.ne hm3
   replace hi := hi.set (i := x) (cs := some [iv kk2, .str s2, iv n2, iv li2, iv co2, w2]) (by omega)
   replace hx := hx.same (ds := [iv kk2, .str s2, iv n2, iv li2, iv co2, w2])
   replace hn2 := hn2.set (cs := some [iv kk2, .str s2, iv n2, iv li2, iv co2, w2])
   exact ⟨rfl, m, (), Nat.lt_succ_self m, EnvLe.of_list (by exact ⟨rfl, rfl, rfl, trivial⟩), by omega, by omega, _, _, _, _, _, _, _, _, _, hk, hr, hi, hx, hn2, hrun, hK⟩
  refine ⟨_, _, _, _, _, _, ldAll hk hx.e rfl, ?_⟩
  cases hrun
  obtain ⟨H2, q1, q2⟩ := fin6x hk hr hi hf hrex (mk_cells hnx) hnx rfl hK
  exact ⟨H2, q1, Eq.mpr (RPost_eq (TriP PG) (LpP PG) (lvSem (TriDP PG)) (lvcSem PG (TriDP PG)) C.r nx x H2 _ K) q2⟩
 ·rintro id _ H3 nx3 hx
  exact hx.elim
theorem binary_ok {k : Nat} (W : Toks C.l) (ihs : ∀ m, m ≤ n → IH C.l C.r C.tb m) (hd : d ≤ 40) (hrun : Ps.run C.l (n + 1) (.binary k) d a = some res) (hk : HZ Z Γ H nx) (hr : Rd Γ C a d) (hK : Meets Z K Γ nx C d res (NodeV C.ex)) : TriP PG f_rd_binary [.ptr C.r 0, iv k] H nx K := by
 refine TriP.of_body mixed ?_
 rw [Frd_binary_eq]
 unfold Frd_binary
 simp only [Ps.run] at hrun
 have ih := ihs n (Nat.le_refl n)
 have hrex := hr.rex
 refine begin6 hk hr hK fun Γ H hk hr hi hf hK kp => ?_
 refine rule_call (C := (C.add nx)) (fun Z ex res Γ H nx K h => ih.unary d hd Z ex _ res Γ H nx K h) hrun hk hr hK rfl .id (fun _ h => h) fun t0 c0 kk0 s0 n0 li0 co0 w0 Γ H x e0 hrun h hk kp hw0 hn0 hr hK => ⟨_, _, _, _, _, _, rfl, ?_⟩
 replace hi := hi.keep kp
 have hmE := hk.fresh (Nat.le_refl x)
 have hm0 := hK.none hmE (hr.r_ne hmE)
 have hm3 := hr.tb_ne hmE
 replace hn0 := hn0.raise hmE
 refine nodeIn (C := (C.add nx)) hk hr hw0 hK rfl fun Γ H hk hr hx kp hK => ?_
 replace hi := hi.keep kp
 replace hr : Rd Γ ((C.add nx).add x) _ d := hr.add (by rw [hx.e]; simp)
 replace hn0 := hn0.keep hr.rex kp
 refine loop_w (P := PG) (X := Unit) (Y := Unit) (fun _ => envL .und [(0, .ptr C.r 0), (1, iv k), (4, .ptr nx 0), (5, .ptr x 0)]) (fun _ => envL .und [])
  (fun m _ H1 m1 => x + 1 ≤ m1 ∧ m ≤ n ∧ ∃ Γ1 t b kk s n1 li co w, HZ Z Γ1 H1 m1 ∧ Rd Γ1 ((C.add nx).add x) b d ∧ Res Γ1 C nx ∧ At Γ1 C.r x [iv kk, .str s, iv n1, iv li, iv co, w] ∧ NodeC ((C.add nx).add x).ex Γ1 [iv kk, .str s, iv n1, iv li, iv co, w] t ∧ Ps.run C.l m (.binGo k t) d b = some res ∧ Owe Z K _ nx Γ1 m1 C d res (NodeV C.ex))
  (fun id _ H3 nx3 => False) n () (EnvLe.of_list (by exact ⟨rfl, rfl, rfl, rfl, trivial⟩))
  ⟨Nat.le_refl _, Nat.le_refl _, Γ, t0, c0, _, _, _, _, _, _, hk, hr, hi, hx, hn0, hrun, hK⟩ ?_ ?_
 ·rintro m _ H m1 ⟨h, hmn, Γ, t, b, kk, s, n1, li, co, w, hk, hr, hi, hx, hnx, hrun, hK⟩
  refine WpP.trim (ts := [0, 1, 4, 5]) (WpP.weaken (e := envL .und [(5, .ptr x 0), (4, .ptr nx 0), (1, iv k), (0, .ptr C.r 0)]) (EnvLe.of_list (by exact ⟨rfl, rfl, rfl, rfl, trivial⟩)) (WpP.of_vK mixed ?_))
  rw [LBin_eq]
  unfold LBin
  cases m with
  | zero => simp [Ps.run] at hrun
  | succ m =>
  have ih := ihs m (by omega)
  simp only [Ps.run] at hrun
  have hpan : PanOK Z K C.r fun l H nx2 => contAt PG (TriP PG) (LpP PG 36) 36 (codeOf PG f_rd_binary) [1, 1, 0] (endK PG (lvSem (TriDP PG)) (lvcSem PG (TriDP PG)) K (resOf PG f_rd_binary)) (.pan l) (envL .und [(0, .ptr C.r 0), (1, iv k), (4, .ptr nx 0), (5, .ptr x 0)]) H nx2 [] none := .eq fun l H nx2 => PBin_eq (TriP PG) (LpP PG) (lvSem (TriDP PG)) (lvcSem PG (TriDP PG)) C.r nx x k H nx2 K l
  refine now_call (C := ((C.add nx).add x)) hk hr hK fun H m1_26 h hk hK => ⟨_, _, _, _, _, rfl, ?_⟩
  refine tokIn (C := ((C.add nx).add x)) hk hr hK rfl fun Γ H hk hr ht kp hK => ?_
  replace hi := hi.keep kp; replace hx := hx.keep kp; replace hnx := hnx.keep hr.rex kp
  refine ⟨_, rfl, _, ht.ld hk 1, rank_ok (onEnd_ret.2 ⟨_, rfl, _, rfl, _, ht.ld hk 0, ?_⟩)⟩
  refine ifB_iff.2 ⟨fun h1 => ?_, fun h1 => ?_⟩
  ·
   have h1 : ¬ (Ps.tk C.l b).kind = 6 := by simpa using h1
   rw [if_neg (by simp [h1])] at hrun
   cases hrun
   obtain ⟨H2, q1, q2⟩ := fin6x hk hr hi hf hrex (mk_cells hnx) hnx rfl hK
   exact ⟨_, _, _, _, _, _, ldAll hk hx.e rfl, H2, q1, Eq.mpr (RBin_eq (TriP PG) (LpP PG) (lvSem (TriDP PG)) (lvcSem PG (TriDP PG)) C.r nx x k H2 _ K) q2⟩
  have h1 : (Ps.tk C.l b).kind = 6 := by simpa using h1
  refine ifB_iff.2 ⟨fun h2 => ?_, fun h2 => ?_⟩
  ·
   have h2 : Ps.rank (Ps.tk C.l b).text < (k : Int) := of_decide_eq_true h2
   rw [if_neg (by simp [h1]; omega)] at hrun
   cases hrun
   obtain ⟨H2, q1, q2⟩ := fin6x hk hr hi hf hrex (mk_cells hnx) hnx rfl hK
   exact ⟨_, _, _, _, _, _, ldAll hk hx.e rfl, H2, q1, Eq.mpr (RBin_eq (TriP PG) (LpP PG) (lvSem (TriDP PG)) (lvcSem PG (TriDP PG)) C.r nx x k H2 _ K) q2⟩
  have h2 : ¬ Ps.rank (Ps.tk C.l b).text < (k : Int) := of_decide_eq_false h2
  rw [if_pos (by simp [h1]; omega)] at hrun
  obtain ⟨rk, hrk, erk⟩ := rank_nat (Ps.tk C.l b).text
  refine next_ok (C := ((C.add nx).add x)) W hk hr (by show (Ps.tk C.l b).kind ≠ 0; rw [h1]; decide) fun Γ H mN h hk kp hr => onEnd_ret.2 ⟨_, _, _, _, _, rfl, ?_⟩
  replace hK := hK.from h kp
  replace hi := hi.keep kp; replace hx := hx.keep kp; replace hnx := hnx.keep hr.rex kp; replace ht := ht.keep kp
  refine ⟨_, _, _, _, _, ht.tok hk, _, rfl, _, ht.ld hk 1, _, _, _, _, _, _, ldAll hk hx.e rfl, ⟨⟨_, _, _, _, _, ht.tok hk, rfl⟩, ⟨_, ht.ld hk 1, rfl⟩, ⟨_, _, _, _, _, _, ldAll hk hx.e rfl, rfl⟩, trivial⟩, ?_⟩
  show TriP PG f_rd_binary [.ptr C.r 0, iv (IntKind.i64.wrap (Ps.rank (Ps.tk C.l b).text + 1))] H (mN + 11) _
  rw [erk] at hrun ⊢
  rw [wrap64_id (by omega) (by omega), show ((rk : Int) + 1) = ((rk + 1 : Nat) : Int) by omega]
  rw [show ((rk : Int) + 1) = ((rk + 1 : Nat) : Int) by omega] at hrun
  obtain ⟨hk', hni⟩ := reserve (i := mN + 8) (nx' := mN + 11) hk (by omega) (by omega)
  refine rule_call (C := ((C.add nx).add x)) (fun Z ex res Γ H nx K h => ih.binary (rk + 1) d hd Z ex _ res Γ H nx K h) hrun hk' hr (hK.from (by omega) (.refl _ _ _)) rfl hpan rz_in fun t1 c1 kk1 s1 n1 li1 co1 w1 Γ H m2_57 e1 hrun h hk kp hw1 hn1 hr hK => ⟨_, _, _, _, _, _, rfl, ?_⟩
  replace hi := hi.keep kp; replace hx := hx.keep kp; replace hnx := hnx.keep hr.rex kp; replace ht := ht.keep kp
  refine blkTake (C := ((C.add nx).add x)) hk hni hr hK rfl (by omega) fun Γ H hk hr hb hxhb kp hK => ?_
  replace hi := hi.keep kp; replace hx := hx.keep kp; replace hnx := hnx.keep hr.rex kp; replace ht := ht.keep kp; replace hn1 := hn1.keep hr.rex kp
  refine ⟨⟨⟨_, _, _, _, _, ht.tok hk, rfl⟩, ⟨_, ht.ld hk 1, rfl⟩, ⟨_, _, _, _, _, _, ldAll hk hx.e rfl, rfl⟩, trivial⟩, ?_⟩
  refine node_call (C := ((C.add nx).add x)) hk (KidsV.blk (n := 2) hxhb hb.e (.cons hnx hn1.one) rfl) hK fun H m8 h hk hn2 hw2 hK => ⟨_, _, _, _, _, _, rfl, trivial, ?_⟩
  obtain ⟨H2, q1, q2⟩ := stAll (k := fun H => HZ Z (gup x (some [iv 28, .str (Ps.tk C.l b).text, iv 0, iv (Ps.tk C.l b).line, iv (Ps.tk C.l b).col, AVal.slice (mN + 8) 0 2 6 true]) _) H _) hk hx.e (vs := [iv 28, .str (Ps.tk C.l b).text, iv 0, iv (Ps.tk C.l b).line, iv (Ps.tk C.l b).col, AVal.slice (mN + 8) 0 2 6 true]) rfl (by simp only [allCell, hw2]; rfl) fun H hk => hk
  refine ⟨H2, q1, trivial, ?_⟩
  replace hk := q2
  replace hK := hK.upd (i := x) (cs := some [iv 28, .str (Ps.tk C.l b).text, iv 0, iv (Ps.tk C.l b).line, iv (Ps.tk C.l b).col, AVal.slice (mN + 8) 0 2 6 true]) hm0 (by omega)
  replace hr := hr.upd (cs := [iv 28, .str (Ps.tk C.l b).text, iv 0, iv (Ps.tk C.l b).line, iv (Ps.tk C.l b).col, AVal.slice (mN + 8) 0 2 6 true]) (b := x) hx.ne hm3
  replace hi := hi.set (i := x) (cs := some [iv 28, .str (Ps.tk C.l b).text, iv 0, iv (Ps.tk C.l b).line, iv (Ps.tk C.l b).col, AVal.slice (mN + 8) 0 2 6 true]) (by omega)
  replace hx := hx.same (ds := [iv 28, .str (Ps.tk C.l b).text, iv 0, iv (Ps.tk C.l b).line, iv (Ps.tk C.l b).col, AVal.slice (mN + 8) 0 2 6 true])
  replace hn2 := hn2.set (cs := some [iv 28, .str (Ps.tk C.l b).text, iv 0, iv (Ps.tk C.l b).line, iv (Ps.tk C.l b).col, AVal.slice (mN + 8) 0 2 6 true])
  exact ⟨rfl, m, (), Nat.lt_succ_self m, EnvLe.of_list (by exact ⟨rfl, rfl, rfl, rfl, trivial⟩), by omega, by omega, _, _, _, _, _, _, _, _, _, hk, hr, hi, hx, hn2, hrun, hK⟩
 ·rintro id _ H3 nx3 hx
  exact hx.elim
end
end
end Go.Vs
end
section
namespace Go.Vs
open Go.Proofs
variable [GTab] {Z : Nat → Prop}
noncomputable section
section
variable {Γ0 Γ : GH} {n0 : Nat} {H : Heap} {nx a d n i : Nat} {C : RC} {K : EndP} {res : Except Flt (Tree × Nat)}
theorem recv_bind {β : Type} {l : List Tok} {a : Nat} {k : Tree × Nat → Rs β} : Ps.lift (Ps.recv l a) k = (if Ps.is l a [40] = true then Ps.lift (Ps.name l (a + 1)) fun b => Ps.lift (Ps.name l b) fun c => Ps.lift (Ps.need l c [41]) fun d => k (Ps.mk (Ps.tk l (a + 1)) 7 (Ps.tk l (a + 1)).text [Ps.mk (Ps.tk l b) 8 (Ps.tk l b).text []], d) else k (Ps.none_, a)) := by
 unfold Ps.recv
 split
 ·cases Ps.name l (a + 1) with
  | error f => rfl
  | ok b =>
   show Ps.lift (Ps.name l b >>= _) k = Ps.lift (Ps.name l b) _
   cases Ps.name l b with
   | error f => rfl
   | ok c =>
    show Ps.lift (Ps.need l c [41] >>= _) k = Ps.lift (Ps.need l c [41]) _
    cases Ps.need l c [41] <;> rfl
 ·rfl
theorem funcDecl_ok (W : Toks C.l) (ih : IH C.l C.r C.tb n) (hrun : Ps.funcDecl C.l n a = some res) (hk : HZ Z Γ H nx) (hr : Rd Γ C a 0) (hK : Meets Z K Γ nx C 0 res (NodeV C.ex)) : TriP PG f_rd_funcDecl [.ptr C.r 0] H nx K := by
 refine TriP.of_body mixed ?_
 rw [Frd_funcDecl_eq]
 unfold Frd_funcDecl
 unfold Ps.funcDecl Ps.result at hrun
 have hrex := hr.rex
 refine begin6 hk hr hK fun Γ H hk hr hi hf hK kp => ?_
 refine need_call (C := (C.add nx)) W hrun hk hr hK rfl .id (fun _ h => h) fun Γ H m1_2 his hrun h hk kp hr hK => ⟨_, _, _, _, _, rfl, ?_⟩
 replace hi := hi.keep kp
 refine tokIn (C := (C.add nx)) hk hr hK rfl fun Γ H hk hr ht kp hK => ?_
 replace hi := hi.keep kp
 refine none_call (C := C.add nx) hk hK fun H x h hk hn0 hK => ⟨_, _, _, _, _, _, rfl, ?_⟩
 have hmE := hk.fresh (Nat.le_refl x)
 have hm0 := hK.none hmE (hr.r_ne hmE)
 have hm3 := hr.tb_ne hmE
 replace hn0 := hn0.raise hmE
 refine nodeIn (C := (C.add nx)) hk hr rfl hK rfl fun Γ H hk hr hx kp hK => ?_
 replace hi := hi.keep kp; replace ht := ht.keep kp
 replace hr : Rd Γ ((C.add nx).add x) _ 0 := hr.add (by rw [hx.e]; simp)
 replace hn0 := hn0.keep hr.rex kp
 replace hrun := recv_bind.symm.trans hrun
 refine has_call (C := ((C.add nx).add x)) W hrun hk hr hK rfl (fun _ h => h) (fun Γ H m2_16 his hrun h hk kp hr hK => ⟨_, rfl, ifB_t rfl ?_⟩) (fun H m2_16 his hrun h hk hK => ⟨_, rfl, ifB_f rfl ?_⟩)
 ·
  replace hi := hi.keep kp; replace ht := ht.keep kp; replace hx := hx.keep kp; replace hn0 := hn0.keep hr.rex kp
  refine name_call (C := ((C.add nx).add x)) W hrun hk hr hK rfl .id (fun _ h => h) fun Γ H m3_19 hkd hrun h hk kp hr hK => ⟨_, _, _, _, _, rfl, ?_⟩
  replace hi := hi.keep kp; replace ht := ht.keep kp; replace hx := hx.keep kp; replace hn0 := hn0.keep hr.rex kp
  refine tokIn (C := ((C.add nx).add x)) hk hr hK rfl fun Γ H hk hr h1 kp hK => ?_
  replace hi := hi.keep kp; replace ht := ht.keep kp; replace hx := hx.keep kp; replace hn0 := hn0.keep hr.rex kp
  refine name_call (C := ((C.add nx).add x)) W hrun hk hr hK rfl .id (fun _ h => h) fun Γ H m4_23 hkd hrun h hk kp hr hK => ⟨_, _, _, _, _, rfl, ?_⟩
  replace hi := hi.keep kp; replace ht := ht.keep kp; replace hx := hx.keep kp; replace hn0 := hn0.keep hr.rex kp; replace h1 := h1.keep kp
  refine tokIn (C := ((C.add nx).add x)) hk hr hK rfl fun Γ H hk hr h2 kp hK => ?_
  replace hi := hi.keep kp; replace ht := ht.keep kp; replace hx := hx.keep kp; replace hn0 := hn0.keep hr.rex kp; replace h1 := h1.keep kp
  refine ⟨_, _, _, _, _, h1.tok hk, _, rfl, _, h1.ld hk 1, _, _, _, _, _, h2.tok hk, _, rfl, _, h2.ld hk 1, ⟨⟨_, _, _, _, _, h1.tok hk, rfl⟩, ⟨_, h1.ld hk 1, rfl⟩, ⟨_, _, _, _, _, h2.tok hk, rfl⟩, ⟨_, h2.ld hk 1, rfl⟩, trivial⟩, ?_⟩
  obtain ⟨hk', hni⟩ := reserve (i := m4_23 + 1 + 7) (nx' := m4_23 + 1 + 10) hk (by omega) (by omega)
  refine node_call (C := ((C.add nx).add x)) (ts := []) hk' .nil (hK.from (by omega) (.refl _ _ _)) fun H m7 h hk hn7 hw7 hK => ⟨_, _, _, _, _, _, rfl, ?_⟩
  refine blkTake (C := ((C.add nx).add x)) hk hni hr hK rfl (by omega) fun Γ H hk hr hb hxhb kp hK => ?_
  replace hi := hi.keep kp; replace ht := ht.keep kp; replace hx := hx.keep kp; replace hn0 := hn0.keep hr.rex kp; replace h1 := h1.keep kp; replace h2 := h2.keep kp
  replace hn7 := hn7.keep hr.rex kp
  refine ⟨⟨⟨_, _, _, _, _, h1.tok hk, rfl⟩, ⟨_, h1.ld hk 1, rfl⟩, trivial⟩, ?_⟩
  refine node_call (C := ((C.add nx).add x)) hk (KidsV.blk (n := 1) hxhb hb.e hn7.one rfl) hK fun H m8 h hk hn8 hw8 hK => ⟨_, _, _, _, _, _, rfl, trivial, ?_⟩
  obtain ⟨cs8, ecs8⟩ : ∃ cs, cs = [iv 7, .str (Ps.tk C.l (a + 1 + 1)).text, iv 0, iv (Ps.tk C.l (a + 1 + 1)).line, iv (Ps.tk C.l (a + 1 + 1)).col, AVal.slice (m4_23 + 1 + 7) 0 1 6 true] := ⟨_, rfl⟩
  obtain ⟨H2, q1, q2⟩ := stAll (k := fun H => HZ Z (gup x (some cs8) _) H _) hk hx.e (vs := cs8) (by rw [ecs8]; rfl) (by rw [ecs8]; simp only [allCell, hw8]; rfl) fun H hk => hk
  refine ⟨H2, by rw [ecs8] at q1; exact q1, trivial, ?_⟩
  replace hk := q2
  replace hK := hK.upd (i := x) (cs := some cs8) hm0 (by omega)
  replace hr := hr.upd (cs := cs8) (b := x) hx.ne hm3
  replace hi := hi.set (i := x) (cs := some cs8) (by omega)
  replace ht := ht.set (j := x) (ds := some cs8) (by omega)
  replace hx := hx.same (ds := cs8)
  replace hn0 := hn8.set (cs := some cs8)
  subst ecs8
  refine need_call (C := ((C.add nx).add x)) W hrun hk hr hK rfl .id (fun _ h => h) fun Γ H m5_46 his hrun h hk kp hr hK => ⟨_, _, _, _, _, rfl, ?_⟩
  replace hi := hi.keep kp; replace ht := ht.keep kp; replace hx := hx.keep kp; replace hn0 := hn0.keep hr.rex kp
  refine name_call (C := ((C.add nx).add x)) W hrun hk hr hK rfl .id (fun _ h => h) fun Γ H m6_48 hkd hrun h hk kp hr hK => ⟨_, _, _, _, _, rfl, ?_⟩
  replace hi := hi.keep kp; replace ht := ht.keep kp; replace hx := hx.keep kp; replace hn0 := hn0.keep hr.rex kp
  refine row_call (C := ((C.add nx).add x)) W (adv1 rfl) to_param (ih.param 0 (by omega)) hrun hk hr hK rfl .id (fun _ h => h) fun ts b v Γ H m7_50 erow hrun h hk kp hv hr hK => ?_
  replace hi := hi.keep kp; replace ht := ht.keep kp; replace hx := hx.keep kp; replace hn0 := hn0.keep hr.rex kp
  have hlen := row_len (adv1 (by rfl)) erow
  have hlt : b < C.l.length := hr.lt
  have hW := W.few
  refine rule_call (one := resOne C.l n 0) (C := ((C.add nx).add x)) (fun Z ex res Γ H nx K h h2 h3 h4 => result_ok (C := ⟨C.r, C.tb, C.l, ex⟩) W ih (by omega) h h2 h3 h4) hrun hk hr hK rfl .id (fun _ h => h) fun t1 c1 kk1 s1 n1 li1 co1 w1 Γ H m8_55 e1 hrun h hk kp hw1 hn1 hr hK => ⟨_, _, _, _, _, _, rfl, ?_⟩
  replace hi := hi.keep kp; replace ht := ht.keep kp; replace hx := hx.keep kp; replace hn0 := hn0.keep hr.rex kp; replace hv := hv.keep hr.rex kp
  refine nodeIn (C := ((C.add nx).add x)) hk hr hw1 hK rfl fun Γ H hk hr hb1 kp hK => ?_
  replace hi := hi.keep kp; replace ht := ht.keep kp; replace hx := hx.keep kp; replace hn0 := hn0.keep hr.rex kp; replace hv := hv.keep hr.rex kp; replace hn1 := hn1.keep hr.rex kp
  refine ⟨_, _, _, _, _, ht.tok hk, _, _, _, _, _, _, ldAll hk hx.e rfl, _, _, _, _, _, _, ldAll hk hb1.e rfl, ⟨⟨_, _, _, _, _, ht.tok hk, rfl⟩, ⟨_, _, _, _, _, _, ldAll hk hx.e rfl, rfl⟩, ⟨_, _, _, _, _, _, ldAll hk hb1.e rfl, rfl⟩, trivial⟩, ?_⟩
  obtain ⟨hk', hni⟩ := reserve (i := m8_55 + 1 + 6) (nx' := m8_55 + 1 + 11) hk (by omega) (by omega)
  refine rule_call (C := ((C.add nx).add x)) (fun Z ex res Γ H nx K h => ih.block 0 (by omega) Z ex _ res Γ H nx K h) hrun hk' hr (hK.from (by omega) (.refl _ _ _)) rfl .id rz_in fun t2 c2 kk2 s2 n2 li2 co2 w2 Γ H m9_61 e2 hrun h hk kp hw2 hn2 hr hK => ⟨_, _, _, _, _, _, rfl, ?_⟩
  replace hi := hi.keep kp; replace ht := ht.keep kp; replace hx := hx.keep kp; replace hn0 := hn0.keep hr.rex kp; replace hv := hv.keep hr.rex kp; replace hn1 := hn1.keep hr.rex kp
  replace hb1 := hb1.keep kp
  refine blkTake (C := ((C.add nx).add x)) hk hni hr hK rfl (by omega) fun Γ H hk hr hb hxhb kp hK => ?_
  replace hi := hi.keep kp; replace ht := ht.keep kp; replace hx := hx.keep kp; replace hn0 := hn0.keep hr.rex kp; replace hv := hv.keep hr.rex kp; replace hn1 := hn1.keep hr.rex kp
  replace hb1 := hb1.keep kp; replace hn2 := hn2.keep hr.rex kp
  refine ⟨⟨⟨_, _, _, _, _, ht.tok hk, rfl⟩, ⟨_, _, _, _, _, _, ldAll hk hx.e rfl, rfl⟩, ⟨_, _, _, _, _, _, ldAll hk hb1.e rfl, rfl⟩, trivial⟩, ?_⟩
  refine appK (t1 := [_, _, _]) (C := ((C.add nx).add x)) hk hr hb.e hxhb (.cons hn0 (.cons hn1 hn2.one)) (by simp) hv (by simp; omega) rfl fun w Γ H m9 h hk kp hr hv => ?_
  replace hi := hi.keep kp; replace ht := ht.keep kp; replace hx := hx.keep kp; replace hn0 := hn0.keep hr.rex kp; replace hn1 := hn1.keep hr.rex kp; replace hb1 := hb1.keep kp
  replace hn2 := hn2.keep hr.rex kp; replace hb := hb.keep kp
  replace hK := hK.from h kp
  cases hrun
  exact ⟨⟨⟨_, _, _, _, _, ht.tok hk, rfl⟩, trivial⟩, node_finT hk (hr.less (.inr hrex)) hi hf hrex (hv.mono (fun _ h => .inr h) fun _ _ _ h => h) rfl hK⟩
 refine name_call (C := ((C.add nx).add x)) W hrun hk hr hK rfl .id (fun _ h => h) fun Γ H m3_74 hkd hrun h hk kp hr hK => ⟨_, _, _, _, _, rfl, ?_⟩
 replace hi := hi.keep kp; replace ht := ht.keep kp; replace hx := hx.keep kp; replace hn0 := hn0.keep hr.rex kp
 refine row_call (C := ((C.add nx).add x)) W (adv1 rfl) to_param (ih.param 0 (by omega)) hrun hk hr hK rfl .id (fun _ h => h) fun ts b v Γ H m4_76 erow hrun h hk kp hv hr hK => ?_
 replace hi := hi.keep kp; replace ht := ht.keep kp; replace hx := hx.keep kp; replace hn0 := hn0.keep hr.rex kp
 have hlen := row_len (adv1 (by rfl)) erow
 have hlt : b < C.l.length := hr.lt
 have hW := W.few
 refine rule_call (one := resOne C.l n 0) (C := ((C.add nx).add x)) (fun Z ex res Γ H nx K h h2 h3 h4 => result_ok (C := ⟨C.r, C.tb, C.l, ex⟩) W ih (by omega) h h2 h3 h4) hrun hk hr hK rfl .id (fun _ h => h) fun t1 c1 kk1 s1 n1 li1 co1 w1 Γ H m5_81 e1 hrun h hk kp hw1 hn1 hr hK => ⟨_, _, _, _, _, _, rfl, ?_⟩
 replace hi := hi.keep kp; replace ht := ht.keep kp; replace hx := hx.keep kp; replace hn0 := hn0.keep hr.rex kp; replace hv := hv.keep hr.rex kp
 refine nodeIn (C := ((C.add nx).add x)) hk hr hw1 hK rfl fun Γ H hk hr hb1 kp hK => ?_
 replace hi := hi.keep kp; replace ht := ht.keep kp; replace hx := hx.keep kp; replace hn0 := hn0.keep hr.rex kp; replace hv := hv.keep hr.rex kp; replace hn1 := hn1.keep hr.rex kp
 refine ⟨_, _, _, _, _, ht.tok hk, _, _, _, _, _, _, ldAll hk hx.e rfl, _, _, _, _, _, _, ldAll hk hb1.e rfl, ⟨⟨_, _, _, _, _, ht.tok hk, rfl⟩, ⟨_, _, _, _, _, _, ldAll hk hx.e rfl, rfl⟩, ⟨_, _, _, _, _, _, ldAll hk hb1.e rfl, rfl⟩, trivial⟩, ?_⟩
 obtain ⟨hk', hni⟩ := reserve (i := m5_81 + 1 + 6) (nx' := m5_81 + 1 + 11) hk (by omega) (by omega)
 refine rule_call (C := ((C.add nx).add x)) (fun Z ex res Γ H nx K h => ih.block 0 (by omega) Z ex _ res Γ H nx K h) hrun hk' hr (hK.from (by omega) (.refl _ _ _)) rfl .id rz_in fun t2 c2 kk2 s2 n2 li2 co2 w2 Γ H m6_87 e2 hrun h hk kp hw2 hn2 hr hK => ⟨_, _, _, _, _, _, rfl, ?_⟩
 replace hi := hi.keep kp; replace ht := ht.keep kp; replace hx := hx.keep kp; replace hn0 := hn0.keep hr.rex kp; replace hv := hv.keep hr.rex kp; replace hn1 := hn1.keep hr.rex kp
 replace hb1 := hb1.keep kp
 refine blkTake (C := ((C.add nx).add x)) hk hni hr hK rfl (by omega) fun Γ H hk hr hb hxhb kp hK => ?_
 replace hi := hi.keep kp; replace ht := ht.keep kp; replace hx := hx.keep kp; replace hn0 := hn0.keep hr.rex kp; replace hv := hv.keep hr.rex kp; replace hn1 := hn1.keep hr.rex kp
 replace hb1 := hb1.keep kp; replace hn2 := hn2.keep hr.rex kp
 refine ⟨⟨⟨_, _, _, _, _, ht.tok hk, rfl⟩, ⟨_, _, _, _, _, _, ldAll hk hx.e rfl, rfl⟩, ⟨_, _, _, _, _, _, ldAll hk hb1.e rfl, rfl⟩, trivial⟩, ?_⟩
 refine appK (t1 := [_, _, _]) (C := ((C.add nx).add x)) hk hr hb.e hxhb (.cons hn0 (.cons hn1 hn2.one)) (by simp) hv (by simp; omega) rfl fun w Γ H m9 h hk kp hr hv => ?_
 replace hi := hi.keep kp; replace ht := ht.keep kp; replace hx := hx.keep kp; replace hn0 := hn0.keep hr.rex kp; replace hn1 := hn1.keep hr.rex kp; replace hb1 := hb1.keep kp
 replace hn2 := hn2.keep hr.rex kp; replace hb := hb.keep kp
 replace hK := hK.from h kp
 cases hrun
 exact ⟨⟨⟨_, _, _, _, _, ht.tok hk, rfl⟩, trivial⟩, node_finT hk (hr.less (.inr hrex)) hi hf hrex (hv.mono (fun _ h => .inr h) fun _ _ _ h => h) rfl hK⟩
theorem decl_tail {Γ3 Γ4 Γ6 : GH} {N nk nx6 b c : Nat} {o : AVal} {ts : List Tree} {x : Tree} {H6 : Heap} {kk nn li co : Int} {s : List UInt8} {w : AVal} {N' : AVal → Heap → Nat → Prop} {P1 P2 : List (AVal × Bool) → AVal → Heap → Nat → Prop} (W : Toks C.l) (gr : Grow C N Γ3 Γ4 o ts) (hr3 : Rd Γ3 C b 0)
  (g2 : HZ Z Γ6 H6 nx6) (g3 : KeepX C.r nk Γ4 Γ6) (h1 : N ≤ nk) (h2 : N ≤ nx6) (g5 : Rd Γ6 (C.own o) c 0) (hw : cellv w = true) (hn : NodeC (C.own o).ex Γ6 [iv kk, .str s, iv nn, iv li, iv co, w] x) (hts : ts.length ≤ 50000)
  (hneed : Ps.is C.l c [59] = false → ∀ v Γ7 H nx, N ≤ nx → HZ Z Γ7 H nx → KeepX C.r N Γ3 Γ7 → RdP Γ7 C.r → P2 [(fltV (Ps.flt C.l c 13), false)] v H nx)
  (hgo : Ps.is C.l c [59] = true → ∀ v Γ9 Γ10 H nx, nx6 ≤ nx → HZ Z Γ10 H nx → KeepX C.r N Γ3 Γ9 → Rd Γ9 C (Ps.gaps C.l (c + 1)) 0 → Grow C N Γ9 Γ10 v (ts ++ [x]) → N' v H nx) :
  ∃ H24, H24 = newB nx6 [iv kk, .str s, iv nn, iv li, iv co, w] H6 ∧ ∃ i25 l26, aSrc 6 H24 (AVal.slice nx6 0 1 6 true) = some (i25, l26) ∧ allCell l26 = true ∧ ∃ v27 H28 i29, appC H24 (nx6 + 1) 6 72 o i25 l26 = some (v27, H28, i29) ∧
   TriP PG f_rd_need [AVal.ptr C.r 0, AVal.str [59]] H28 i29 fun e H31 i32 => onEnd e (fun v33 => ∃ (n34 : Int) (s35 : List UInt8) (n36 n37 n38 : Int), v33 = AVal.agg [iv n34, AVal.str s35, iv n36, iv n37, iv n38] ∧
    TriP PG f_rd_gaps [AVal.ptr C.r 0] H31 i32 fun e H40 i41 => onEnd e (fun v42 => N' v27 H40 i41) fun l43 => P1 l43 v27 H40 i41) fun l44 => P2 l44 v27 H31 i32 := by
 have hf6 := g2.fresh (Nat.le_refl nx6)
 refine scrN g2 (nx' := nx6 + 1) (Nat.le_refl _) (by omega) fun H7 g7 => ?_
 have hn7 : NodeC (C.own o).ex (gup nx6 (some [iv kk, .str s, iv nn, iv li, iv co, w]) Γ6) [iv kk, .str s, iv nn, iv li, iv co, w] x := hn.mono (fun _ h => h) fun c ds _ e => by rw [gup_ne fun x => by rw [x, hf6] at e; cases e]; exact e
 have hr7 : Rd (gup nx6 (some [iv kk, .str s, iv nn, iv li, iv co, w]) Γ6) (C.own o) c 0 := g5.new hf6
 have g37 : KeepX C.r N Γ4 (gup nx6 (some [iv kk, .str s, iv nn, iv li, iv co, w]) Γ6) := g3.le.trans (.new (nx := N) hf6)
 obtain ⟨v, H8, nx8, Γ8, Γ9, a1, a2, a3, a4, a5, a6⟩ := gr.more hr3 g7 g37 (by omega) (by omega) hr7 hn7 (by omega)
 refine ⟨1, [iv kk, .str s, iv nn, iv li, iv co, w], ?_, by simp only [allCell, hw]; rfl, v, H8, nx8, a1, ?_⟩
 ·rw [g7.src (gup_same _ _ _) (by simp)]; simp
 have hr9 := a6.rd' a5
 refine need_ok' W a3 hr9 (fun h11 H11 nx11 g11 hk11 => onEnd_pan.2 (hneed h11 _ _ _ _ (by omega) hk11 (a4.trans a6.keep) hr9.p)) fun h11 Γ11 H11 nx11 g11 hk11 kp11 hr11 => onEnd_ret.2 ⟨_, _, _, _, _, rfl, ?_⟩
 refine gaps_ok W hk11 hr11 fun Γ12 H12 nx12 h12 hk12 kp12 hr12 => onEnd_ret.2 ?_
 obtain ⟨Γ13, b1, b2, b3⟩ := a6.next a5 (kp11.trans kp12) (by omega) hr12
 exact hgo h11 _ _ _ _ _ (by omega) hk12 (a4.trans b2) b3 b1
theorem typeDecl_adv {l : List Tok} {n : Nat} : Ps.AdvOK (Ps.typeDecl l n) := fun a t b h => by
 unfold Ps.typeDecl at h
 refine Ps.lift_el h fun a1 h1 h => Ps.lift_el h fun b1 h2 h => Ps.ite_el h (fun _ h => Ps.bind_el h fun xs c h3 h => Ps.ok_el h fun h4 h5 => ?_) fun _ h => Ps.lift_el h fun b2 h6 h => Ps.bind_el h fun xs c h3 h => Ps.ok_el h fun h4 h5 => ?_
 ·have := Ps.need_ok h1; have := Ps.name_ok h2; have := Ps.list_adv (adv1 rfl) h3; omega
 ·have := Ps.need_ok h1; have := Ps.name_ok h2; have := Ps.need_ok h6; have := Ps.list_adv (adv1 rfl) h3; omega
theorem funcDecl_adv {l : List Tok} {n : Nat} : Ps.AdvOK (Ps.funcDecl l n) := fun a t b h => by
 unfold Ps.funcDecl Ps.result at h
 refine Ps.lift_el h fun a1 h1 h => ?_
 replace h := recv_bind.symm.trans h
 have h1 := Ps.need_ok h1
 have key : ∀ {rv : Tree} {a2 : Nat} {h' : Ps.lift (Ps.name l a2) (fun c => Rs.bind (Ps.row l (Ps.run l n .param 0) n c) fun (ps, d) => Rs.bind (if ((Ps.tk l d).kind == 2 || Ps.isTyp l d || Ps.is l d [91]) = true then Ps.run l n .typ 0 d else Rs.ok (Ps.none_, d)) fun (y, e) => Rs.bind (Ps.run l n .block 0 e) fun (body, f) => Rs.ok (Ps.mk (Ps.tk l a) 6 (Ps.tk l a2).text (rv :: y :: body :: ps), f)) = some (.ok (t, b))}, a2 + 1 ≤ b := by
  intro rv a2 h
  refine Ps.lift_el h fun c h2 h => Ps.bind_el h fun ps d h3 h => Ps.bind_el h fun y e h4 h => Ps.bind_el h fun body f h5 h => Ps.ok_el h fun _ h6 => ?_
  have := Ps.name_ok h2; have := Ps.row_adv (adv1 rfl) h3; have := Ps.run_adv l n .block 0 e body f h5
  have h4 : d ≤ e := by
   refine Ps.ite_el h4 (fun _ h => ?_) fun _ h => Ps.ok_el h fun _ h => by omega
   have := Ps.run_adv l n .typ 0 d y e h; omega
  omega
 refine Ps.ite_el h (fun _ h => Ps.lift_el h fun b1 h2 h => Ps.lift_el h fun c1 h3 h => Ps.lift_el h fun d1 h4 h => ?_) fun _ h => ?_
 ·have := key (h' := h); have := Ps.name_ok h2; have := Ps.name_ok h3; have := Ps.need_ok h4; omega
 ·have := key (h' := h); omega
theorem file_ok {res0 : Except Flt Tree} (W : Toks C.l) (ih : IH C.l C.r C.tb n) (hrun : Ps.file C.l n = some res0) (hk : HZ Z Γ H nx) (hr : Rd Γ C 0 0)
  (hK : Meets Z K Γ nx C 0 (match res0 with | .ok t => .ok (t, C.l.length - 1) | .error f => .error f) (NodeV C.ex)) : TriP PG f_rd_file [.ptr C.r 0] H nx K := by
 refine TriP.of_body mixed ?_
 rw [Frd_file_eq]
 unfold Frd_file
 have hrex := hr.rex
 refine begin6 hk hr hK fun Γ1 H hk hr hi hf hK kp => ?_
 refine now_call (C := C.add nx) hk hr hK fun H m1 h hk hK => ⟨_, _, _, _, _, rfl, ?_⟩
 refine tokIn (C := C.add nx) hk hr hK rfl fun Γ1 H hk hr ht kp hK => ?_
 replace hi := hi.keep kp
 refine gaps_ok (C := C.add nx) W hk hr fun Γ2 H nx2 h2 hk2 kp2 hr2 => onEnd_ret.2 ?_
 replace hi := hi.keep kp2; replace ht := ht.keep kp2; replace hK := hK.from h2 kp2
 obtain ⟨res', hgo, hres⟩ : ∃ res', Ps.declsGo C.l n n (Ps.gaps C.l 0) = some res' ∧ res0 = (match res' with | .ok xs => .ok (Ps.mk (Ps.tk C.l 0) 1 [] xs) | .error f => .error f) := by
  unfold Ps.file at hrun
  rcases Ps.bind_some hrun with ⟨f, e1, e2⟩ | ⟨xs, e1, e2⟩
  ·exact ⟨_, e1, e2⟩
  ·exact ⟨_, e1, by cases e2; rfl⟩
 refine loop_w (P := PG) (X := AVal) (Y := AVal) (fun o => envL .und [(0, .ptr C.r 0), (2, .ptr nx 0), (3, .ptr m1 0), (4, o)]) (fun o => envL .und [(2, .ptr nx 0), (3, .ptr m1 0), (4, o)])
  (fun m o H3 nx3 => nx2 ≤ nx3 ∧ ∃ Γ3 Γ4 ts b res', HZ Z Γ4 H3 nx3 ∧ KeepX C.r nx2 Γ2 Γ3 ∧ Rd Γ3 (C.add nx) b 0 ∧ Grow (C.add nx) nx2 Γ3 Γ4 o ts ∧ ts.length ≤ b ∧ Ps.declsGo C.l n m b = some res' ∧ res0 = (match res' with | .ok xs => .ok (Ps.mk (Ps.tk C.l 0) 1 [] (ts ++ xs)) | .error f => .error f))
  (fun id o H3 nx3 => id = 0 ∧ nx2 ≤ nx3 ∧ ∃ Γ3 ts b, HZ Z Γ3 H3 nx3 ∧ KeepX C.r nx2 Γ2 Γ3 ∧ Rd Γ3 (C.add nx) b 0 ∧ b = C.l.length - 1 ∧ KidsV (C.add nx).ex Γ3 o ts ∧ res0 = .ok (Ps.mk (Ps.tk C.l 0) 1 [] ts)) n .nilSlice (EnvLe.of_list (by exact ⟨rfl, rfl, rfl, rfl, trivial⟩))
  ⟨Nat.le_refl _, Γ2, Γ2, [], _, res', hk2, .refl _ _ _, hr2, .inl ⟨rfl, rfl, rfl⟩, by simp, hgo, by rw [hres]; rfl⟩ ?_ ?_
 ·rintro m o H3 nx3 ⟨h3, Γ3, Γ4, ts, b, res', hk4, kp3, hr3, gr, hts, hgo, hres⟩
  refine WpP.trim (ts := [0, 2, 3, 4]) (WpP.weaken (e := envL .und [(4, o), (3, .ptr m1 0), (2, .ptr nx 0), (0, .ptr C.r 0)]) (EnvLe.of_list (by exact ⟨rfl, rfl, rfl, rfl, trivial⟩)) (WpP.of_vK mixed ?_))
  rw [LFile_eq]
  unfold LFile
  have hr4 := gr.rd' hr3
  cases m with
  | zero => simp [Ps.declsGo] at hgo
  | succ m =>
  unfold Ps.declsGo at hgo
  refine now_ok (C := C.add nx) hk4 hr4 fun H5 nx5 h5 hk5 => onEnd_ret.2 ⟨_, _, _, _, _, rfl, ifB_iff.2 ⟨fun h1 => ?_, fun h1 => ?_⟩⟩
  ·have h1 : ¬ (Ps.tk C.l b).kind = 0 := by simpa using h1
   rw [if_neg (by simp [h1])] at hgo
   have hWf := W.few
   have hcl : b < C.l.length := hr3.lt
   have on : ∀ {g : FuncId} {one : Nat → Rs (Tree × Nat)} {H6 nx6} {R1 : AVal → Heap → Nat → Prop} {P0 : List (AVal × Bool) → Heap → Nat → Prop}, RuleOK C.l C.r C.tb 0 g one → Ps.AdvOK one → nx3 ≤ nx6 → HZ Z Γ4 H6 nx6 →
     (Rs.bind (one b) fun (x, b) => Ps.lift (Ps.need C.l b [59]) fun c => Rs.bind (Ps.declsGo C.l n m (Ps.gaps C.l c)) fun xs => Rs.ok (x :: xs)) = some res' →
     (∀ f Γ7 H7 nx7, res' = .error f → nx2 ≤ nx7 → HZ Z Γ7 H7 nx7 → KeepX C.r nx2 Γ2 Γ7 → RdP Γ7 C.r → P0 [(fltV f, false)] H7 nx7) →
     (∀ x c kk s nn li co w Γ7 H7 nx7, one b = some (.ok (x, c)) → nx6 ≤ nx7 → HZ Z Γ7 H7 nx7 → KeepX C.r nx6 Γ4 Γ7 → cellv w = true → NodeC ((C.add nx).own o).ex Γ7 [iv kk, .str s, iv nn, iv li, iv co, w] x → Rd Γ7 ((C.add nx).own o) c 0 →
      (Ps.lift (Ps.need C.l c [59]) fun c => Rs.bind (Ps.declsGo C.l n m (Ps.gaps C.l c)) fun xs => Rs.ok (x :: xs)) = some res' → R1 (.agg [iv kk, .str s, iv nn, iv li, iv co, w]) H7 nx7) →
     TriP PG g [.ptr C.r 0] H6 nx6 fun e H' nx' => onEnd e (fun v => R1 v H' nx') fun l => P0 l H' nx' := by
    intro g one H6 nx6 R1 P0 hone hadv h6 hk6 hgo hbad hok
    rcases Ps.bind_some hgo with ⟨f, e1, e2⟩ | ⟨⟨x, c⟩, e1, hgo⟩
    ·refine hone.on (CC := (C.add nx).own o) ((C.add nx).own_l o) ((C.add nx).own_r o) ((C.add nx).own_tb o) e1 hk6 (gr.rd hr3) (.on (fun x b v Γ' H' nx' e => by cases e) fun f' Γ' H' nx' e g1 g2 g3 g4 => ?_)
     cases e
     rw [RC.own_r] at g3 g4
     exact hbad f _ _ _ e2 (by omega) g2 ((kp3.trans gr.keep).trans g3) g4
    ·refine hone.on (CC := (C.add nx).own o) ((C.add nx).own_l o) ((C.add nx).own_r o) ((C.add nx).own_tb o) e1 hk6 (gr.rd hr3) (.on (fun x' b' v Γ6 H6 nx6 e g1 g2 g3 g4 g5 => ?_) fun f' Γ' H' nx' e => by cases e)
     cases e
     obtain ⟨k, s, nn, li, co, w, rfl, hw, hn⟩ := g4.cells
     rw [RC.own_r] at g3
     exact hok _ _ _ _ _ _ _ _ _ _ _ e1 g1 g2 g3 hw hn g5 hgo
   refine is_ok (C := C.add nx) hk5 hr4 fun H6 nx6 h6 hk6 => onEnd_ret.2 ⟨_, rfl, ifB_iff.2 ⟨fun h7 => ?_, fun h7 => ?_⟩⟩
   ·have h7 : Ps.is C.l b Ps.wType = true := h7
    rw [h7] at hgo
    refine on (one := Ps.typeDecl C.l n) (fun Z ex a res Γ H nx K e1 e2 e3 e4 => typeDecl_ok (C := ⟨C.r, C.tb, C.l, ex⟩) W ih e1 e2 e3 e4) typeDecl_adv (by omega) hk6 hgo (fun f Γ7 H7 nx7 e g1 g2 g3 g4 => ?_) fun x c kk s nn li co w Γ7 H7 nx7 e1 g1 g2 g3 g4 g5 g6 hgo => ⟨_, _, _, _, _, _, rfl, ?_⟩
    ·subst e
     exact (hK.from g1 g3).pan (by rw [hres]) g2 g4
    ·have hadv := typeDecl_adv _ _ _ e1
     have hcl : c < C.l.length := by have := g6.lt; rwa [RC.own_l] at this
     refine decl_tail (C := C.add nx) W gr hr3 g2 g3 (by omega) (by omega) g6 g4 g5 (by omega) (fun e v Γ8 H8 nx8 q1 q2 q3 q4 => ?_) fun e v Γ9 Γ10 H8 nx8 q1 q2 q3 q4 q5 => ?_
     ·have e' : res' = .error (Ps.flt C.l c 13) := by simp [Ps.need, e, Ps.lift] at hgo; exact hgo.symm
      exact (hK.from q1 (kp3.trans q3)).pan (by rw [hres, e']) q2 q4
     ·have hgo : Rs.bind (Ps.declsGo C.l n m (Ps.gaps C.l (c + 1))) (fun xs => Rs.ok (x :: xs)) = some res' := by simpa [Ps.need, e, Ps.lift] using hgo
      have := Ps.gaps_le C.l (c + 1)
      rcases Ps.bind_some hgo with ⟨f, e4, e5⟩ | ⟨xs, e4, e5⟩
      ·exact ⟨rfl, m, v, Nat.lt_succ_self m, EnvLe.refl _, by omega, Γ9, Γ10, ts ++ [x], _, _, q2, kp3.trans q3, q4, q5, by simp; omega, e4, by rw [hres, e5]⟩
      ·exact ⟨rfl, m, v, Nat.lt_succ_self m, EnvLe.refl _, by omega, Γ9, Γ10, ts ++ [x], _, _, q2, kp3.trans q3, q4, q5, by simp; omega, e4, by cases e5; rw [hres]; simp⟩
   ·have h7 : Ps.is C.l b Ps.wType = false := h7
    rw [h7] at hgo
    refine is_ok (C := C.add nx) hk6 hr4 fun H6 nx6 h6 hk6 => onEnd_ret.2 ⟨_, rfl, ifB_iff.2 ⟨fun h8 => ?_, fun h8 => ?_⟩⟩
    ·have h8 : Ps.is C.l b Ps.wFunc = true := h8
     rw [h8] at hgo
     refine on (one := Ps.funcDecl C.l n) (fun Z ex a res Γ H nx K e1 e2 e3 e4 => funcDecl_ok (C := ⟨C.r, C.tb, C.l, ex⟩) W ih e1 e2 e3 e4) funcDecl_adv (by omega) hk6 hgo (fun f Γ7 H7 nx7 e g1 g2 g3 g4 => ?_) fun x c kk s nn li co w Γ7 H7 nx7 e1 g1 g2 g3 g4 g5 g6 hgo => ⟨_, _, _, _, _, _, rfl, ?_⟩
     ·subst e
      exact (hK.from g1 g3).pan (by rw [hres]) g2 g4
     ·have hadv := funcDecl_adv _ _ _ e1
      have hcl : c < C.l.length := by have := g6.lt; rwa [RC.own_l] at this
      refine decl_tail (C := C.add nx) W gr hr3 g2 g3 (by omega) (by omega) g6 g4 g5 (by omega) (fun e v Γ8 H8 nx8 q1 q2 q3 q4 => ?_) fun e v Γ9 Γ10 H8 nx8 q1 q2 q3 q4 q5 => ?_
      ·have e' : res' = .error (Ps.flt C.l c 13) := by simp [Ps.need, e, Ps.lift] at hgo; exact hgo.symm
       exact (hK.from q1 (kp3.trans q3)).pan (by rw [hres, e']) q2 q4
      ·have hgo : Rs.bind (Ps.declsGo C.l n m (Ps.gaps C.l (c + 1))) (fun xs => Rs.ok (x :: xs)) = some res' := by simpa [Ps.need, e, Ps.lift] using hgo
       have := Ps.gaps_le C.l (c + 1)
       rcases Ps.bind_some hgo with ⟨f, e4, e5⟩ | ⟨xs, e4, e5⟩
       ·exact ⟨rfl, m, v, Nat.lt_succ_self m, EnvLe.refl _, by omega, Γ9, Γ10, ts ++ [x], _, _, q2, kp3.trans q3, q4, q5, by simp; omega, e4, by rw [hres, e5]⟩
       ·exact ⟨rfl, m, v, Nat.lt_succ_self m, EnvLe.refl _, by omega, Γ9, Γ10, ts ++ [x], _, _, q2, kp3.trans q3, q4, q5, by simp; omega, e4, by cases e5; rw [hres]; simp⟩
    ·have h8 : Ps.is C.l b Ps.wFunc = false := h8
     rw [h8] at hgo
     have e' : res' = .error (Ps.flt C.l b 13) := by cases hgo; rfl
     exact fault_ok (C := C.add nx) hk6 hr4 fun H9 nx9 h9 hk9 => onEnd_pan.2 ((hK.from (by omega : nx2 ≤ nx9) (kp3.trans gr.keep)).pan (by rw [hres, e']) hk9 hr4.p)
  ·have h1 : (Ps.tk C.l b).kind = 0 := by simpa using h1
   rw [if_pos (by simp [h1])] at hgo
   cases hgo
   have hb : b = C.l.length - 1 := by
    have := hr3.lt
    by_cases hb : b + 1 < C.l.length
    ·exact absurd h1 (W.rest b hb)
    ·have : b < C.l.length := this
     omega
   exact ⟨rfl, o, EnvLe.of_list (by exact ⟨rfl, rfl, rfl, trivial⟩), rfl, by omega, Γ4, ts, b, hk5, kp3.trans gr.keep, hr4, hb, gr.v hr3, by simpa using hres⟩
 ·rintro id o H3 nx3 ⟨rfl, h3, Γ3, ts, b, hk3, kp3, hr3, hb, hv, hres⟩
  refine Eq.mpr (AFile_eq (TriP PG) (LpP PG) (lvSem (TriDP PG)) (lvcSem PG (TriDP PG)) m1 nx o H3 nx3 K) ?_
  unfold AFile
  replace hi := hi.keep kp3; replace ht := ht.keep kp3; replace hK := hK.from h3 kp3
  subst hb
  refine ⟨_, _, _, _, _, ht.tok hk3, node_fin hk3 hr3 hi hf hrex hv (by rw [hres]) hK⟩
end
end
end Go.Vs
end
section
namespace Go.Vs
open Go.Proofs
variable [GTab]
noncomputable section
theorem ih_all {l : List Tok} {r tb : Nat} (W : Toks l) (n : Nat) : IH l r tb n := by
 induction n using Nat.strongRecOn with
 | _ n ih =>
  cases n with
  | zero =>
   refine ⟨?_, ?_, ?_, ?_, ?_, ?_, ?_, ?_, ?_, ?_, ?_, ?_⟩
   all_goals first
    | (intro d hd Z ex a res Γ H nx K h; simp [Ps.run] at h; done)
    | (intro k d hd Z ex a res Γ H nx K h; simp [Ps.run] at h; done)
  | succ n =>
   have i := ih n (Nat.lt_succ_self n)
   have is : ∀ m, m ≤ n → IH l r tb m := fun m h => ih m (by omega)
   exact ⟨fun d hd Z ex a res Γ H nx K h1 h2 h3 h4 => typ_ok (C := ⟨r, tb, l, ex⟩) W i hd h1 h2 h3 h4,
    fun d hd Z ex a res Γ H nx K h1 h2 h3 h4 => field_ok (C := ⟨r, tb, l, ex⟩) W i hd h1 h2 h3 h4,
    fun d hd Z ex a res Γ H nx K h1 h2 h3 h4 => method_ok (C := ⟨r, tb, l, ex⟩) W i hd h1 h2 h3 h4,
    fun d hd Z ex a res Γ H nx K h1 h2 h3 h4 => param_ok (C := ⟨r, tb, l, ex⟩) W i hd h1 h2 h3 h4,
    fun d hd Z ex a res Γ H nx K h1 h2 h3 h4 => stmt_ok (C := ⟨r, tb, l, ex⟩) W i hd h1 h2 h3 h4,
    fun d hd Z ex a res Γ H nx K h1 h2 h3 h4 => ifs_ok (C := ⟨r, tb, l, ex⟩) W i hd h1 h2 h3 h4,
    fun d hd Z ex a res Γ H nx K h1 h2 h3 h4 => block_ok (C := ⟨r, tb, l, ex⟩) W i hd h1 h2 h3 h4,
    fun d hd Z ex a res Γ H nx K h1 h2 h3 h4 => expr_ok (C := ⟨r, tb, l, ex⟩) W i hd h1 h2 h3 h4,
    fun d hd Z ex a res Γ H nx K h1 h2 h3 h4 => unary_ok (C := ⟨r, tb, l, ex⟩) W i hd h1 h2 h3 h4,
    fun d hd Z ex a res Γ H nx K h1 h2 h3 h4 => post_ok (C := ⟨r, tb, l, ex⟩) W is hd h1 h2 h3 h4,
    fun d hd Z ex a res Γ H nx K h1 h2 h3 h4 => prime_ok (C := ⟨r, tb, l, ex⟩) W i hd h1 h2 h3 h4,
    fun k d hd Z ex a res Γ H nx K h1 h2 h3 h4 => binary_ok (C := ⟨r, tb, l, ex⟩) W is hd h1 h2 h3 h4⟩
end
end Go.Vs
end
section
namespace Go.Vs
open Go.Proofs
variable [GTab] {Z : Nat → Prop}
noncomputable section
namespace Ps
def parse (s : List UInt8) (n : Nat) : Rs Tree := match Pt.toks s with
 | .ok l => file l n
 | .error f => some (.error f)
end Ps
theorem vLoad_place {H : Heap} {a : AVal} {k : AVal → Prop} : vLoad PG t_place H a k = (∃ n1 n2 : Int, ldN H 2 a = some (.agg [.int .i64 n1, .int .i64 n2]) ∧ k (.agg [.int .i64 n1, .int .i64 n2])) := by kernel_rfl
theorem vLoad_errno {H : Heap} {a : AVal} {k : AVal → Prop} : vLoad PG t_errno H a k = (∃ n1 : Int, ld1 H a = some (.int .i64 n1) ∧ k (.int .i64 n1)) := by kernel_rfl
theorem parse1_body : hasBody PG f_p_Parse_1 = true := by kernel_rfl
def nodeZ : List AVal := [iv 0, .str [], iv 0, iv 0, iv 0, .nilSlice]
def ParseK (Z : Nat → Prop) (Γ : GH) (nx : Nat) (R : Except Flt Tree) (K : EndP) : Prop := match R with
 | .ok t => ∀ v Γ' H' nx', nx ≤ nx' → HZ Z Γ' H' nx' → (∀ b cs, Γ b = some cs → Γ' b = some cs) → NodeV (fun _ => False) Γ' v t → K (.ret (.tuple [v, .agg [iv 0, iv 0], iv 0])) H' nx'
 | .error f => ∀ Γ' H' nx', nx ≤ nx' → HZ Z Γ' H' nx' → (∀ b cs, Γ b = some cs → Γ' b = some cs) → K (.ret (.tuple [.agg nodeZ, .agg [iv f.line, iv f.col], iv f.e])) H' nx'
section
variable {Γ : GH} {H : Heap} {nx : Nat} {K : EndP}
theorem loads3 {a b c : Nat} {n x y z e l m : Int} {s : List UInt8} {v : AVal} (hk : HZ Z Γ H nx) (ha : Γ a = some [iv n, .str s, iv x, iv y, iv z, v]) (hb : Γ b = some [iv l, iv m]) (hc : Γ c = some [iv e])
  (h : K (.ret (.tuple [.agg [iv n, .str s, iv x, iv y, iv z, v], .agg [iv l, iv m], iv e])) H nx) : vResV PG H [.cell (.ptr a 0) t_node, .cell (.ptr b 0) t_place, .cell (.ptr c 0) t_errno] fun vs => K (.ret (oneOf vs)) H nx := by
 show vLoad PG t_node H (.ptr a 0) fun v => vLoad PG t_place H (.ptr b 0) fun w => vLoad PG t_errno H (.ptr c 0) fun e => K (.ret (.tuple [v, w, e])) H nx
 rw [vLoad_node]
 refine ⟨_, _, _, _, _, _, ldAll hk ha rfl, ?_⟩
 rw [vLoad_place]
 refine ⟨_, _, ldAll hk hb rfl, ?_⟩
 rw [vLoad_errno]
 exact ⟨_, by rw [hk.ld1 hc]; rfl, h⟩
theorem parse_ok {s : List UInt8} {n : Nat} {res : Except Flt Tree} (hrun : Ps.parse s n = some res) (hk : HZ Z Γ H nx) (hK : ParseK Z Γ nx res K) : TriP PG f_p_Parse [.str s] H nx K := by
 refine TriP.of_body mixed ?_
 rw [Fp_Parse_eq]
 unfold Fp_Parse
 have hf0 := hk.fresh (Nat.le_refl nx)
 refine scrN hk (nx' := nx + 1) (Nat.le_refl _) (by omega) fun H0 k0 => ?_
 have hf1 := k0.fresh (Nat.le_refl (nx + 1))
 refine scrN k0 (nx' := nx + 1 + 1) (Nat.le_refl _) (by omega) fun H1 k1 => ?_
 have hf2 := k1.fresh (Nat.le_refl (nx + 1 + 1))
 refine scrN k1 (nx' := nx + 1 + 1 + 1) (Nat.le_refl _) (by omega) fun H2 k2 => ?_
 obtain ⟨Γ3, e3⟩ : ∃ Γ3, Γ3 = gup (nx + 1 + 1) (some [iv 0]) (gup (nx + 1) (some [iv 0, iv 0]) (gup nx (some nodeZ) Γ)) := ⟨_, rfl⟩
 replace k2 : HZ Z Γ3 H2 (nx + 1 + 1 + 1) := by rw [e3]; exact k2
 have gn : Γ3 nx = some nodeZ := by rw [e3, gup_ne (by omega), gup_ne (by omega), gup_same]
 have gp : Γ3 (nx + 1) = some [iv 0, iv 0] := by rw [e3, gup_ne (by omega), gup_same]
 have ge : Γ3 (nx + 1 + 1) = some [iv 0] := by rw [e3, gup_same]
 have s3 : ∀ b cs, Γ b = some cs → Γ3 b = some cs ∧ b ≠ nx ∧ b ≠ nx + 1 ∧ b ≠ nx + 1 + 1 := fun b cs e => by
  have h0 : b ≠ nx := neK e hf0
  have h1 : b ≠ nx + 1 := neK e (by rwa [gup_ne (by omega)] at hf1)
  have h2 : b ≠ nx + 1 + 1 := neK e (by rwa [gup_ne (by omega), gup_ne (by omega)] at hf2)
  exact ⟨by rw [e3, gup_ne h2, gup_ne h1, gup_ne h0]; exact e, h0, h1, h2⟩
 clear e3 hf0 hf1 hf2
 cases ht : Pt.toks s with
 | error f =>
  have he := Pt.toks_err ht
  have hres : res = .error f := by unfold Ps.parse at hrun; rw [ht] at hrun; cases hrun; rfl
  subst hres
  refine all_okS k2 ?_
  rw [ht]
  refine fun H4 i5 h4 k4 => onEnd_ret.2 ⟨_, _, _, _, _, _, _, rfl, ?_⟩
  have hf5 := k4.fresh (Nat.le_refl i5)
  refine scr k4 (nx' := i5 + 1) (Nat.le_refl _) (by omega) rfl rfl fun H5 k5 => ⟨rfl, ?_⟩
  have ne : ∀ {b cs}, Γ3 b = some cs → b ≠ i5 := fun e => neK e hf5
  refine stAll k5 ((gup_ne (ne ge)).trans ge) rfl rfl fun H6 k6 => ⟨f.e, by rw [k6.ld1 (gup_same _ _ _)]; rfl, ifB_iff.2 ⟨fun _ => ?_, fun h => by simp at h; exact absurd h he⟩⟩
  have lt : ldN H6 5 (.ptr i5 0) = some (tokV ⟨0, [], 0, f.line, f.col⟩) := ldAll k6 ((gup_ne (Ne.symm (ne ge))).trans (gup_same _ _ _)) rfl
  have le6 : ld1 H6 (.ptr (nx + 1 + 1) 0) = some (iv f.e) := by rw [k6.ld1 (gup_same _ _ _)]; rfl
  refine ⟨_, _, _, _, _, lt, _, le6, ⟨⟨_, _, _, _, _, lt, rfl⟩, ⟨_, le6, rfl⟩, trivial⟩, ?_⟩
  refine place_ok (t := ⟨0, [], 0, f.line, f.col⟩) (k6.more (by omega : i5 + 1 ≤ i5 + 1 + 7)) fun H7 nx7 h7 k7 => onEnd_ret.2 ⟨_, _, rfl, ⟨⟨_, by rw [k7.ld1 (gup_same _ _ _)]; rfl, rfl⟩, trivial⟩, ?_⟩
  refine stAll k7 ((gup_ne (by omega)).trans ((gup_ne (ne gn)).trans gn)) rfl rfl fun H8 k8 => ⟨⟨⟨_, by rw [k8.ld1 ((gup_ne (by omega)).trans (gup_same _ _ _))]; rfl, rfl⟩, trivial⟩, ?_⟩
  refine stAll k8 ((gup_ne (by omega)).trans ((gup_ne (by omega)).trans ((gup_ne (ne gp)).trans gp))) rfl rfl fun H9 k9 => ⟨⟨⟨_, by rw [k9.ld1 ((gup_ne (by omega)).trans ((gup_ne (by omega)).trans (gup_same _ _ _)))]; rfl, rfl⟩, trivial⟩, rfl, ?_⟩
  refine stAll k9 ((gup_ne (by omega)).trans ((gup_ne (by omega)).trans (gup_same _ _ _))) rfl rfl fun H10 k10 => ⟨trivial, _, _, _, _, _, _, ldAll k10 ((gup_ne (by omega)).trans ((gup_ne (by omega)).trans (gup_same _ _ _))) rfl, _, _, ldAll k10 ((gup_ne (by omega)).trans (gup_same _ _ _)) rfl, _, by rw [k10.ld1 (gup_same _ _ _)]; rfl, hK _ _ _ (by omega) k10 fun b cs e => ?_⟩
  obtain ⟨q, q0, q1, q2⟩ := s3 b cs e
  rw [gup_ne q2, gup_ne q1, gup_ne q0, gup_ne q2, gup_ne (ne q)]
  exact q
 | ok l =>
  have hfile : Ps.file l n = some res := by unfold Ps.parse at hrun; rw [ht] at hrun; exact hrun
  have W : Toks l := (Pt.toks_good ht).toks
  refine all_okS k2 ?_
  rw [ht]
  refine fun tb H4 i5 h4 htb k4 => onEnd_ret.2 ⟨_, _, _, _, _, _, _, rfl, ?_⟩
  have s4 : ∀ {b cs}, Γ3 b = some cs → gup tb (some (l.flatMap tokC)) Γ3 b = some cs := fun e => (gup_ne (neK e htb)).trans e
  have hf5 := k4.fresh (Nat.le_refl i5)
  refine scr k4 (nx' := i5 + 1) (Nat.le_refl _) (by omega) rfl rfl fun H5 k5 => ⟨rfl, ?_⟩
  have s5 : ∀ {b cs}, Γ3 b = some cs → gup i5 (some (tokC ⟨0, [], 0, 0, 0⟩)) (gup tb (some (l.flatMap tokC)) Γ3) b = some cs := fun e => (gup_ne (neK (s4 e) hf5)).trans (s4 e)
  have tb5 : tb ≠ i5 := neK (gup_same tb (some (l.flatMap tokC)) Γ3) hf5
  refine stAll k5 (s5 ge) rfl rfl fun H6 k6 => ⟨0, by rw [k6.ld1 (gup_same _ _ _)]; rfl, ifB_iff.2 ⟨fun h => by simp at h, fun _ => ⟨_, _, rfl, rfl, _, rfl, ?_⟩⟩⟩
  obtain ⟨Γ6, e6⟩ : ∃ Γ6, Γ6 = gup (nx + 1 + 1) (some [iv 0]) (gup i5 (some (tokC ⟨0, [], 0, 0, 0⟩)) (gup tb (some (l.flatMap tokC)) Γ3)) := ⟨_, rfl⟩
  replace k6 : HZ Z Γ6 H6 (i5 + 1) := by rw [e6]; exact k6
  have s6 : ∀ {b cs}, Γ3 b = some cs → Γ6 b = some cs := fun {b} {cs} e => by
   rw [e6]
   by_cases hb : b = nx + 1 + 1
   ·subst hb; rw [gup_same, ← ge, e]
   ·rw [gup_ne hb]; exact s5 e
  have t6 : Γ6 tb = some (l.flatMap tokC) := by rw [e6, gup_ne (Ne.symm (neK ge htb)), gup_ne tb5, gup_same]
  clear e6
  have hf6 := k6.fresh (Nat.le_refl (i5 + 1))
  have k7 : HZ Z (gup (i5 + 1) (some [.slice tb 0 l.length 5 false, iv 0, iv 0]) Γ6) (newBN (i5 + 1) [.slice tb 0 l.length 5 false, iv 0, iv 0].length [.slice tb 0 l.length 5 false, iv 0, iv 0] H6) (i5 + 1 + 1) := k6.new (Nat.le_refl _) (by omega) _
  have s7 : ∀ {b cs}, Γ6 b = some cs → b ≠ i5 + 1 ∧ gup (i5 + 1) (some [.slice tb 0 l.length 5 false, iv 0, iv 0]) Γ6 b = some cs := fun e => ⟨neK e hf6, (gup_ne (neK e hf6)).trans e⟩
  have hfl := flat_len l
  have hr : Rd (gup (i5 + 1) (some [.slice tb 0 l.length 5 false, iv 0, iv 0]) Γ6) ⟨i5 + 1, tb, l, fun b => b = i5 + 1 ∨ b = nx ∨ b = nx + 1 ∨ b = nx + 1 + 1⟩ 0 0 := by
   refine ⟨W.pos, by omega, (s7 t6).1, .inl rfl, fun b hb => ?_, ⟨false, gup_same _ _ _⟩, ⟨_, (s7 t6).2, by rw [hfl]; exact Nat.le_refl _, by show List.take (l.length * 5) _ = _; rw [← hfl, List.take_length]⟩⟩
   rcases hb with rfl | rfl | rfl | rfl
   ·rw [gup_same]; simp
   ·rw [(s7 (s6 gn)).2]; simp
   ·rw [(s7 (s6 gp)).2]; simp
   ·rw [(s7 (s6 ge)).2]; simp
  refine file_ok (C := ⟨i5 + 1, tb, l, fun b => b = i5 + 1 ∨ b = nx ∨ b = nx + 1 ∨ b = nx + 1 + 1⟩) W (ih_all W n) hfile k7 hr (.on (fun t b v Γ' H' nx' e g1 g2 g3 g4 g5 => ?_) fun f Γ' H' nx' e g1 g2 g3 g4 => ?_)
  ·have hres : res = .ok t := by cases res with
    | ok t' => cases e; rfl
    | error f => cases e
   subst hres
   obtain ⟨kk, ss, nn, li, co, w, rfl, hw, hn⟩ := g4.cells
   have q : ∀ {b cs}, Γ3 b = some cs → Γ' b = some cs := fun e => g3.1 _ _ (s7 (s6 e)).1 (s7 (s6 e)).2
   refine ⟨_, _, _, _, _, _, rfl, stAll g2 (q gn) rfl (by simp only [allCell, hw]; rfl) fun H8 k8 => ?_⟩
   refine stAll k8 ((gup_ne (by omega)).trans (q gp)) rfl rfl fun H9 k9 => ⟨rfl, ?_⟩
   refine stAll k9 ((gup_ne (by omega)).trans ((gup_ne (by omega)).trans (q ge))) rfl rfl fun H10 k10 => ?_
   refine TriDP.of_bodyS mixed parse1_body ?_
   rw [DParse0_eq]
   unfold DParse0
   refine ⟨true, rfl, ifB_t rfl (onEnd_ret.2 ?_)⟩
   refine loads3 k10 ((gup_ne (by omega)).trans ((gup_ne (by omega)).trans (gup_same _ _ _))) ((gup_ne (by omega)).trans (gup_same _ _ _)) (gup_same _ _ _) ?_
   refine hK _ _ _ _ (by omega) k10 (fun b cs e => ?_) (hn.mono (fun _ h => h.elim) fun b cs hb e => ?_).v
   ·obtain ⟨q', q0, q1, q2⟩ := s3 b cs e
    rw [gup_ne q2, gup_ne q1, gup_ne q0]; exact q q'
   ·rw [gup_ne fun x => hb (.inr (.inr (.inr x))), gup_ne fun x => hb (.inr (.inr (.inl x))), gup_ne fun x => hb (.inr (.inl x))]; exact e
  ·have hres : res = .error f := by cases res with
    | ok t' => cases e
    | error f' => cases e; rfl
   subst hres
   have q : ∀ {b cs}, Γ3 b = some cs → Γ' b = some cs := fun e => g3.1 _ _ (s7 (s6 e)).1 (s7 (s6 e)).2
   refine TriDP.of_bodyS mixed parse1_body ?_
   rw [show fltV f = .iface t_fault (.agg [iv f.line, iv f.col, iv f.e]) from rfl, DParse1_eq]
   unfold DParse1
   refine ⟨false, rfl, ifB_f rfl ?_⟩
   have hf8 := g2.fresh (Nat.le_refl nx')
   refine scr g2 (nx' := nx' + 1) (Nat.le_refl _) (by omega) rfl rfl fun H8 k8 => ?_
   have n8 : ∀ {b cs}, Γ3 b = some cs → b ≠ nx' := fun e => neK (q e) hf8
   have lp : ∀ {Γa : GH} {Ha : Heap} {na : Nat}, HZ Z Γa Ha na → Γa nx' = some [iv f.line, iv f.col, iv f.e] → ldN Ha 2 (.ptr nx' 0) = some (.agg [iv f.line, iv f.col]) ∧ ld1 Ha (.ptr nx' 2) = some (iv f.e) := fun h e => ⟨by rw [h.ldN e (by simp)]; rfl, by rw [h.ld1 e]; rfl⟩
   obtain ⟨p1, p2⟩ := lp k8 (gup_same _ _ _)
   refine ⟨_, rfl, _, _, p1, _, rfl, _, p2, ⟨⟨_, _, p1, rfl⟩, ⟨_, p2, rfl⟩, trivial⟩, ?_⟩
   refine stAll k8 ((gup_ne (n8 gn)).trans (q gn)) rfl rfl fun H9 k9 => ?_
   obtain ⟨p1, p2⟩ := lp k9 ((gup_ne (Ne.symm (n8 gn))).trans (gup_same _ _ _))
   refine ⟨⟨⟨_, _, p1, rfl⟩, ⟨_, p2, rfl⟩, trivial⟩, ?_⟩
   refine stAll k9 ((gup_ne (by omega)).trans ((gup_ne (n8 gp)).trans (q gp))) rfl rfl fun H10 k10 => ?_
   obtain ⟨_, p2⟩ := lp k10 ((gup_ne (Ne.symm (n8 gp))).trans ((gup_ne (Ne.symm (n8 gn))).trans (gup_same _ _ _)))
   refine ⟨⟨⟨_, p2, rfl⟩, trivial⟩, rfl, ?_⟩
   refine stAll k10 ((gup_ne (by omega)).trans ((gup_ne (by omega)).trans ((gup_ne (n8 ge)).trans (q ge)))) rfl rfl fun H11 k11 => ⟨trivial, onEnd_ret.2 ?_⟩
   refine loads3 (k11.more (by omega : nx' + 1 ≤ nx' + 1 + 8)) ((gup_ne (by omega)).trans ((gup_ne (by omega)).trans (gup_same _ _ _))) ((gup_ne (by omega)).trans (gup_same _ _ _)) (gup_same _ _ _) ?_
   refine hK _ _ _ (by omega) (k11.more (by omega)) fun b cs e => ?_
   obtain ⟨q', q0, q1, q2⟩ := s3 b cs e
   rw [gup_ne q2, gup_ne q1, gup_ne q0, gup_ne (n8 q')]; exact q q'
end
end
end Go.Vs
end
section
namespace Go.Vs
namespace Ps
theorem bind_ne2 {α β : Type} {x : Rs α} {k : α → Rs β} (hx : x ≠ none) (hk : ∀ t, x = some (.ok t) → k t ≠ none) : Rs.bind x k ≠ none := by
 cases x with
 | none => exact absurd rfl hx
 | some r => cases r with
  | error e => intro h; cases h
  | ok a => exact hk a rfl
theorem result_ne {l : List Tok} {n a : Nat} (h : 30 * (l.length + 2) ≤ n) : result l n a ≠ none := by
 unfold result
 exact ite_ne (fun _ => run_ne l n .typ 0 a (by simp only [rk]; omega)) fun _ => ok_ne
theorem typeDecl_ne {l : List Tok} {n a : Nat} (h : 30 * (l.length + 2) ≤ n) : typeDecl l n a ≠ none := by
 unfold typeDecl
 refine lift_ne fun a1 h1 => lift_ne fun b h2 => ite_ne (fun hi => ?_) fun _ => lift_ne fun b1 h3 => ?_
 ·exact bind_ne (list_ne (fun a t b h => by have := run_adv l n _ _ _ _ _ h; simp only [adv] at this; omega) (fun c _ _ => run_ne l n .method 0 c (by simp only [rk]; omega)) (by omega)) fun x c _ => ok_ne
 ·exact bind_ne (list_ne (fun a t b h => by have := run_adv l n _ _ _ _ _ h; simp only [adv] at this; omega) (fun c _ _ => run_ne l n .field 0 c (by simp only [rk]; omega)) (by omega)) fun x c _ => ok_ne
theorem funcDecl_ne {l : List Tok} {n a : Nat} (h : 30 * (l.length + 2) ≤ n) : funcDecl l n a ≠ none := by
 unfold funcDecl
 refine lift_ne fun a1 h1 => lift_ne fun x h2 => lift_ne fun c h3 => bind_ne (row_ne (fun a t b h => by have := run_adv l n _ _ _ _ _ h; simp only [adv] at this; omega) (fun c _ _ => run_ne l n .param 0 c (by simp only [rk]; omega)) (by omega)) fun ps d _ => bind_ne (result_ne h) fun y e _ => bind_ne (run_ne l n .block 0 e (by simp only [rk]; omega)) fun body f _ => ok_ne
theorem typeDecl_adv {l : List Tok} {n a b : Nat} {t : Tree} (h : typeDecl l n a = some (.ok (t, b))) : a ≤ b := by
 unfold typeDecl at h
 obtain ⟨a1, h1, h⟩ := lift_ok h
 obtain ⟨b1, h2, h⟩ := lift_ok h
 have e1 := (need_ok h1).2
 have e2 := (name_ok h2).2
 have ho : ∀ r, adv r = 1 → AdvOK (run l n r 0) := fun r hr a t b h => by have := run_adv l n _ _ _ _ _ h; omega
 rcases ite_or h with ⟨_, h⟩ | ⟨_, h⟩
 ·obtain ⟨⟨xs, c⟩, h3, h⟩ := bind_ok h
  have := list_adv (ho .method rfl) h3
  cases h; omega
 ·obtain ⟨b2, h3, h⟩ := lift_ok h
  have e3 := (need_ok h3).2
  obtain ⟨⟨xs, c⟩, h4, h⟩ := bind_ok h
  have := list_adv (ho .field rfl) h4
  cases h; omega
theorem recv_adv {l : List Tok} {a : Nat} {x : Tree × Nat} (h : recv l a = .ok x) : a ≤ x.2 := by
 unfold recv at h
 split at h
 ·obtain ⟨b, h1, h⟩ := ebind_ok h
  obtain ⟨c, h2, h⟩ := ebind_ok h
  obtain ⟨d, h3, h⟩ := ebind_ok h
  have := (name_ok h1).2; have := (name_ok h2).2; have := (need_ok h3).2
  cases h; show a ≤ d; omega
 ·cases h; exact Nat.le_refl _
theorem result_adv {l : List Tok} {n a b : Nat} {t : Tree} (h : result l n a = some (.ok (t, b))) : a ≤ b := by
 unfold result at h
 rcases ite_or h with ⟨_, h⟩ | ⟨_, h⟩
 ·have := run_adv l n _ _ _ _ _ h; omega
 ·cases h; exact Nat.le_refl _
theorem funcDecl_adv {l : List Tok} {n a b : Nat} {t : Tree} (h : funcDecl l n a = some (.ok (t, b))) : a ≤ b := by
 unfold funcDecl at h
 obtain ⟨a1, h1, h⟩ := lift_ok h
 obtain ⟨⟨rv, b1⟩, h2, h⟩ := lift_ok h
 obtain ⟨c, h3, h⟩ := lift_ok h
 obtain ⟨⟨ps, d⟩, h4, h⟩ := bind_ok h
 obtain ⟨⟨y, e⟩, h5, h⟩ := bind_ok h
 obtain ⟨⟨body, f⟩, h6, h⟩ := bind_ok h
 have := (need_ok h1).2
 have : a1 ≤ b1 := recv_adv h2
 have := (name_ok h3).2
 have := row_adv (fun a t b h => by have := run_adv l n _ _ _ _ _ h; simp only [adv] at this; omega) h4
 have := result_adv h5
 have := run_adv l n _ _ _ _ _ h6
 cases h; omega
theorem declsGo_ne {l : List Tok} {n : Nat} (h : 30 * (l.length + 2) ≤ n) : ∀ k a, l.length + 1 - a < k → declsGo l n k a ≠ none
 | 0, a, hk => by omega
 | k + 1, a, hk => by
  unfold declsGo
  refine ite_ne (fun _ => ok_ne) fun h0 => ?_
  have hne : (if is l a wType then typeDecl l n a else if is l a wFunc then funcDecl l n a else Rs.bad (flt l a 13)) ≠ none := ite_ne (fun _ => typeDecl_ne h) fun _ => ite_ne (fun _ => funcDecl_ne h) fun _ => bad_ne
  refine bind_ne hne fun x b hx => lift_ne fun c h2 => bind_ne2 (declsGo_ne h k _ ?_) fun xs _ => ok_ne
  have hb : a ≤ b := by
   rcases ite_or hx with ⟨_, hx⟩ | ⟨_, hx⟩
   ·exact typeDecl_adv hx
   ·rcases ite_or hx with ⟨_, hx⟩ | ⟨_, hx⟩
    ·exact funcDecl_adv hx
    ·cases hx
  have := (need_ok h2).2
  have := gaps_le l c
  have := kind_lt (l := l) (a := a) (by simpa using h0)
  omega
theorem file_ne {l : List Tok} {n : Nat} (h : 30 * (l.length + 2) ≤ n) : file l n ≠ none := by
 unfold file
 exact bind_ne2 (declsGo_ne h n _ (by omega)) fun xs _ => ok_ne
theorem good_ends {l : List Tok} (h : Toks l) : EndsL l := endsL_of h.last h.rest
theorem parse_up (n : Nat) (s : List UInt8) (hl : n + s.length ≤ 16384) (m : Nat) : parse (List.replicate n 10 ++ s) m = shX (dn n) (shT (dn n)) (parse s m) := by
 unfold parse
 rw [toks_up n s hl]
 cases h : Pt.toks s with
 | error f => rfl
 | ok l =>
  have W := (Pt.toks_good h).toks
  exact file_sh (good_ends W) W.pos
theorem parse_long {s : List UInt8} (h : 16384 < s.length) (m : Nat) : parse s m = some (.error ⟨1, 1, 6⟩) := by
 unfold parse Pt.toks
 rw [if_pos h]
end Ps
end Go.Vs
end
section
namespace Go.Vs
namespace Ps
mutual
def few (M : Nat) : Tree → Prop
 | .node _ _ _ _ _ ts => ts.length ≤ M ∧ fewL M ts
def fewL (M : Nat) : List Tree → Prop
 | [] => True
 | t :: ts => few M t ∧ fewL M ts
end
def fewR (M : Nat) : Rule → Prop
 | .binGo _ x => few M x
 | .postGo x => few M x
 | _ => True
theorem fewL_get {M : Nat} : ∀ {ts : List Tree}, fewL M ts → ∀ (i : Nat) (h : i < ts.length), few M ts[i]
 | t :: ts, h, 0, _ => h.1
 | t :: ts, h, i + 1, hi => fewL_get h.2 i (by simpa using hi)
mutual
theorem few_le {M N : Nat} (h : M ≤ N) : ∀ {t : Tree}, few M t → few N t
 | .node _ _ _ _ _ ts, ⟨h1, h2⟩ => ⟨Nat.le_trans h1 h, fewL_le h h2⟩
theorem fewL_le {M N : Nat} (h : M ≤ N) : ∀ {ts : List Tree}, fewL M ts → fewL N ts
 | [], _ => trivial
 | _ :: _, ⟨h1, h2⟩ => ⟨few_le h h1, fewL_le h h2⟩
end
section
variable {l : List Tok} {M : Nat} {one : Nat → Rs (Tree × Nat)}
def FewOK (M : Nat) (one : Nat → Rs (Tree × Nat)) : Prop := ∀ a t b, one a = some (.ok (t, b)) → few M t
theorem rowGo_few (ho : FewOK M one) : ∀ n a xs b, rowGo l one n a = some (.ok (xs, b)) → xs.length ≤ n ∧ fewL M xs
 | 0, _, _, _, h => by simp [rowGo] at h
 | n + 1, a, xs, b, h => by
  unfold rowGo at h
  obtain ⟨⟨x, c⟩, h1, h⟩ := bind_ok h
  have h1 := ho _ _ _ h1
  dsimp only at h
  split at h
  ·obtain ⟨⟨ys, d⟩, h2, h⟩ := bind_ok h
   have := rowGo_few ho n _ _ _ h2
   cases h; exact ⟨by simp; omega, h1, this.2⟩
  ·obtain ⟨d, h2, h⟩ := lift_ok h
   cases h; exact ⟨by simp, h1, trivial⟩
theorem row_few (ho : FewOK M one) {n a : Nat} {xs : List Tree} {b : Nat} (h : row l one n a = some (.ok (xs, b))) : xs.length ≤ n ∧ fewL M xs := by
 unfold row at h
 obtain ⟨c, h1, h⟩ := lift_ok h
 split at h
 ·cases h; exact ⟨by simp, trivial⟩
 ·exact rowGo_few ho _ _ _ _ h
theorem listGo_few (ho : FewOK M one) : ∀ n a xs b, listGo l one n a = some (.ok (xs, b)) → xs.length ≤ n ∧ fewL M xs
 | 0, _, _, _, h => by simp [listGo] at h
 | n + 1, a, xs, b, h => by
  unfold listGo at h
  split at h
  ·cases h; exact ⟨by simp, trivial⟩
  ·obtain ⟨⟨x, c⟩, h1, h⟩ := bind_ok h
   have h1 := ho _ _ _ h1
   obtain ⟨d, h2, h⟩ := lift_ok h
   obtain ⟨⟨ys, e⟩, h3, h⟩ := bind_ok h
   have := listGo_few ho n _ _ _ h3
   cases h; exact ⟨by simp; omega, h1, this.2⟩
theorem list_few (ho : FewOK M one) {n a : Nat} {xs : List Tree} {b : Nat} (h : list l one n a = some (.ok (xs, b))) : xs.length ≤ n ∧ fewL M xs := by
 unfold list at h
 obtain ⟨c, h1, h⟩ := lift_ok h
 exact listGo_few ho _ _ _ _ h
theorem run_few (l : List Tok) (M : Nat) : ∀ n rule d a t b, n + 5 ≤ M → fewR M rule → run l n rule d a = some (.ok (t, b)) → few M t := by
 intro n
 induction n with
 | zero => intro rule d a t b _ _ h; simp [run] at h
 | succ n ih =>
  intro rule d a t b hM hr h
  have hM' : n + 5 ≤ M := by omega
  have ih' : ∀ {rule : Rule} {d a : Nat} {t : Tree} {b : Nat}, run l n rule d a = some (.ok (t, b)) → fewR M rule → few M t := fun h hr => ih _ _ _ _ _ hM' hr h
  have go1 : ∀ rule d, fewR M rule → FewOK M (run l n rule d) := fun rule d e a t b h => ih _ _ _ _ _ hM' e h
  have non : few M none_ := ⟨by simp, trivial⟩
  have res1 : ∀ {c d : Nat} {x : Tree × Nat} {p : Prop} [Decidable p], (if p then run l n .typ d c else Rs.ok (none_, c)) = some (.ok x) → few M x.1 := fun h => by
   rcases ite_or h with ⟨_, h⟩ | ⟨_, h⟩
   ·exact ih .typ _ _ _ _ hM' trivial h
   ·cases h; exact non
  cases rule <;> simp only [run] at h <;> simp only [fewR] at hr
  all_goals repeat' (with_reducible first
   | (refine ite_el h (fun hc h => ?_) (fun hc h => ?_))
   | exact (bad_no h).elim
   | (refine ok_el h fun h1 h2 => ?_; subst h1; clear h2; (try simp only [mk, leaf, few, fewL, List.length_cons, List.length_nil]); repeat' (first | assumption | trivial | omega | apply And.intro))
   | (refine lift_el h fun c h1 h => ?_; clear h1)
   | (refine bind_el h fun x c h1 h => ?_; first | (replace h1 := row_few (go1 _ _ (by simp only [fewR])) h1; obtain ⟨_, _⟩ := h1) | (replace h1 := list_few (go1 _ _ (by simp only [fewR])) h1; obtain ⟨_, _⟩ := h1) | (replace h1 := ih' h1 (by simp only [fewR])) | (replace h1 := res1 h1; dsimp only at h1))
   | (refine ih' h ?_; simp only [fewR, mk, leaf, few, fewL, List.length_cons, List.length_nil]; repeat' (first | assumption | trivial | omega | apply And.intro)))
variable {n a b : Nat}
theorem run_fewOK (hM : n + 5 ≤ M) {r : Rule} (hr : fewR M r) (d : Nat) : FewOK M (run l n r d) := fun a t b h => run_few l M n r d a t b hM hr h
theorem result_few (hM : n + 5 ≤ M) {t : Tree} (h : result l n a = some (.ok (t, b))) : few M t := by
 unfold result at h
 rcases ite_or h with ⟨_, h⟩ | ⟨_, h⟩
 ·exact run_fewOK hM (r := .typ) trivial _ _ _ _ h
 ·cases h; ((try simp only [mk, leaf, none_, few, fewL, List.length_cons, List.length_nil]); repeat' (first | assumption | trivial | omega | apply And.intro))
theorem typeDecl_few (hM : n + 5 ≤ M) {t : Tree} (h : typeDecl l n a = some (.ok (t, b))) : few M t := by
 unfold typeDecl at h
 obtain ⟨a1, h1, h⟩ := lift_ok h
 obtain ⟨b1, h2, h⟩ := lift_ok h
 rcases ite_or h with ⟨_, h⟩ | ⟨_, h⟩
 ·obtain ⟨⟨xs, c⟩, h3, h⟩ := bind_ok h
  obtain ⟨g1, g2⟩ := list_few (run_fewOK hM (r := .method) trivial 0) h3
  cases h; ((try simp only [mk, leaf, none_, few, fewL, List.length_cons, List.length_nil]); repeat' (first | assumption | trivial | omega | apply And.intro))
 ·obtain ⟨b2, h3, h⟩ := lift_ok h
  obtain ⟨⟨xs, c⟩, h4, h⟩ := bind_ok h
  obtain ⟨g1, g2⟩ := list_few (run_fewOK hM (r := .field) trivial 0) h4
  cases h; ((try simp only [mk, leaf, none_, few, fewL, List.length_cons, List.length_nil]); repeat' (first | assumption | trivial | omega | apply And.intro))
theorem recv_few (hM : 5 ≤ M) {x : Tree × Nat} (h : recv l a = .ok x) : few M x.1 := by
 unfold recv at h
 split at h
 ·obtain ⟨b, h1, h⟩ := ebind_ok h
  obtain ⟨c, h2, h⟩ := ebind_ok h
  obtain ⟨d, h3, h⟩ := ebind_ok h
  cases h; ((try simp only [mk, leaf, none_, few, fewL, List.length_cons, List.length_nil]); repeat' (first | assumption | trivial | omega | apply And.intro))
 ·cases h; ((try simp only [mk, leaf, none_, few, fewL, List.length_cons, List.length_nil]); repeat' (first | assumption | trivial | omega | apply And.intro))
theorem funcDecl_few (hM : n + 5 ≤ M) {t : Tree} (h : funcDecl l n a = some (.ok (t, b))) : few M t := by
 unfold funcDecl at h
 obtain ⟨a1, h1, h⟩ := lift_ok h
 obtain ⟨⟨rv, b1⟩, h2, h⟩ := lift_ok h
 obtain ⟨c, h3, h⟩ := lift_ok h
 obtain ⟨⟨ps, d⟩, h4, h⟩ := bind_ok h
 obtain ⟨⟨y, e⟩, h5, h⟩ := bind_ok h
 obtain ⟨⟨body, f⟩, h6, h⟩ := bind_ok h
 have g0 : few M rv := recv_few (x := (rv, b1)) (by omega) h2
 obtain ⟨g1, g2⟩ := row_few (run_fewOK hM (r := .param) trivial 0) h4
 have g3 := result_few hM h5
 have g4 : few M body := run_fewOK hM (r := .block) trivial _ _ _ _ h6
 cases h; ((try simp only [mk, leaf, none_, few, fewL, List.length_cons, List.length_nil]); repeat' (first | assumption | trivial | omega | apply And.intro))
theorem declsGo_few (hM : n + 5 ≤ M) : ∀ k a xs, declsGo l n k a = some (.ok xs) → xs.length ≤ k ∧ fewL M xs
 | 0, a, xs, h => by simp [declsGo] at h
 | k + 1, a, xs, h => by
  unfold declsGo at h
  rcases ite_or h with ⟨_, h⟩ | ⟨_, h⟩
  ·cases h; exact ⟨by simp, trivial⟩
  ·obtain ⟨⟨x, b⟩, hx, h⟩ := bind_ok h
   obtain ⟨c, h2, h⟩ := lift_ok h
   obtain ⟨ys, h3, h⟩ := bind_ok h
   have := declsGo_few hM k _ _ h3
   have hf : few M x := by
    rcases ite_or hx with ⟨_, hx⟩ | ⟨_, hx⟩
    ·exact typeDecl_few hM hx
    ·rcases ite_or hx with ⟨_, hx⟩ | ⟨_, hx⟩
     ·exact funcDecl_few hM hx
     ·cases hx
   cases h; exact ⟨by simp; omega, hf, this.2⟩
theorem file_few (hM : n + 5 ≤ M) {t : Tree} (h : file l n = some (.ok t)) : few M t := by
 unfold file at h
 obtain ⟨xs, h1, h⟩ := bind_ok h
 obtain ⟨g1, g2⟩ := declsGo_few hM _ _ _ h1
 cases h; ((try simp only [mk, leaf, none_, few, fewL, List.length_cons, List.length_nil]); repeat' (first | assumption | trivial | omega | apply And.intro))
theorem parse_few {s : List UInt8} {t : Tree} (h : parse s n = some (.ok t)) : few (n + 5) t := by
 unfold parse at h
 split at h
 ·exact file_few (Nat.le_refl _) h
 ·cases h
theorem parse_fuel (s : List UInt8) : ∃ m r, parse s m = some r ∧ m ≤ 200000 := by
 unfold parse
 cases ht : Pt.toks s with
 | error f => exact ⟨0, _, rfl, by omega⟩
 | ok l =>
  have W := (Pt.toks_good ht).toks
  refine ⟨30 * (l.length + 2), ?_⟩
  have := file_ne (l := l) (Nat.le_refl (30 * (l.length + 2)))
  dsimp only
  cases h : file l (30 * (l.length + 2)) with
  | none => exact absurd h this
  | some r => exact ⟨r, rfl, by have := W.few; omega⟩
end
end Ps
end Go.Vs
end
section
namespace Go.Vs
open Go.Proofs
variable [GTab] {Z : Nat → Prop}
noncomputable section
theorem KidsC.get {ex : Nat → Prop} {Γ : GH} : ∀ {cs : List AVal} {ts : List Tree} {j : Nat}, KidsC ex Γ cs ts → (h : j < ts.length) → NodeC ex Γ ((cs.drop (j * 6)).take 6) ts[j] ∧ j * 6 + 6 ≤ cs.length
 | _, _, _, .nil, h => by simp at h
 | _, _, 0, .cons (c := c) (cs := cs) hn hl, _ => by
  have e := hn.len
  have e2 : ((c ++ cs).drop (0 * 6)).take 6 = c := by rw [Nat.zero_mul, List.drop_zero, ← e, List.take_left']; rfl
  rw [e2]
  exact ⟨hn, by rw [List.length_append, e]; omega⟩
 | _, _, j + 1, .cons (c := c) (cs := cs) hn hl, h => by
  have e := hn.len
  have e2 : (c ++ cs).drop ((j + 1) * 6) = cs.drop (j * 6) := by
   rw [show (j + 1) * 6 = c.length + j * 6 by rw [e]; omega, ← List.drop_drop, List.drop_left']; rfl
  rw [e2]
  obtain ⟨h1, h2⟩ := KidsC.get (j := j) hl (by simpa using h)
  exact ⟨h1, by rw [List.length_append, e]; omega⟩
section
variable {ex : Nat → Prop} {Γ : GH} {H : Heap} {nx : Nat}
theorem KidsV.len {w : AVal} {ts : List Tree} (h : KidsV ex Γ w ts) : lenS w = some ts.length := let ⟨_, h, _⟩ := h; h.len
structure NodeAt (ex : Nat → Prop) (Γ : GH) (H : Heap) (b off : Nat) (k : Int) (s : List UInt8) (n l c : Int) (w : AVal) (ts : List Tree) : Prop where
 all : ldN H 6 (.ptr b off) = some (.agg [iv k, .str s, iv n, iv l, iv c, w])
 c0 : ld1 H (.ptr b off) = some (iv k)
 c1 : ld1 H (.ptr b (off + 1)) = some (.str s)
 c2 : ld1 H (.ptr b (off + 2)) = some (iv n)
 c3 : ld1 H (.ptr b (off + 3)) = some (iv l)
 c4 : ld1 H (.ptr b (off + 4)) = some (iv c)
 c5 : ld1 H (.ptr b (off + 5)) = some w
 kids : KidsV ex Γ w ts
theorem six_at {cs : List AVal} {off : Nat} {a0 a1 a2 a3 a4 a5 : AVal} (h : (cs.drop off).take 6 = [a0, a1, a2, a3, a4, a5]) : cs[off]? = some a0 ∧ cs[off + 1]? = some a1 ∧ cs[off + 2]? = some a2 ∧ cs[off + 3]? = some a3 ∧ cs[off + 4]? = some a4 ∧ cs[off + 5]? = some a5 := by
 have g : ∀ i, i < 6 → cs[off + i]? = [a0, a1, a2, a3, a4, a5][i]? := fun i hi => by
  rw [← h, List.getElem?_take_of_lt hi, List.getElem?_drop]
 exact ⟨g 0 (by omega), g 1 (by omega), g 2 (by omega), g 3 (by omega), g 4 (by omega), g 5 (by omega)⟩
structure NodeIn (ex : Nat → Prop) (Γ : GH) (b off : Nat) (k : Int) (s : List UInt8) (n l c : Int) (w : AVal) (ts : List Tree) : Prop where
 cells : ∃ cs, Γ b = some cs ∧ (cs.drop off).take 6 = [iv k, .str s, iv n, iv l, iv c, w] ∧ off + 6 ≤ cs.length
 kids : KidsV ex Γ w ts
theorem NodeIn.at {b off : Nat} {k n l c : Int} {s : List UInt8} {w : AVal} {ts : List Tree} (h : NodeIn ex Γ b off k s n l c w ts) (hk : HZ Z Γ H nx) : NodeAt ex Γ H b off k s n l c w ts := by
 obtain ⟨⟨cs, hb, hc, hl⟩, hw⟩ := h
 obtain ⟨g0, g1, g2, g3, g4, g5⟩ := six_at hc
 refine ⟨?_, ?_, ?_, ?_, ?_, ?_, ?_, hw⟩
 ·rw [hk.ldN hb hl, hc]
 all_goals (rw [hk.ld1 hb]; assumption)
theorem kid_in {w : AVal} {ts : List Tree} (h : KidsV ex Γ w ts) {j : Nat} (hj : j < ts.length) :
  ∃ b off k s n l c w' ts', idxS w j 6 = some (.ptr b off) ∧ ts[j] = .node k s n l c ts' ∧ NodeIn ex Γ b off k s n l c w' ts' := by
 obtain ⟨cs, hs, hc⟩ := h
 obtain ⟨h1, h2⟩ := hc.get hj
 rcases hs with ⟨rfl, hn, rfl⟩ | ⟨b, o, full, ds, rfl, hb, hl, rfl⟩
 ·omega
 ·have hb' : Γ b = some ds := by
   by_cases hx : ex b
   ·rw [hide_ex hx] at hb; cases hb
   ·rwa [hide_not hx] at hb
  have e1 : (((ds.drop o).take (ts.length * 6)).drop (j * 6)).take 6 = (ds.drop (o + j * 6)).take 6 := by
   rw [List.drop_take, List.take_take, List.drop_drop, Nat.min_eq_left (by omega)]
  rw [e1] at h1
  generalize hcs : (ds.drop (o + j * 6)).take 6 = cells at h1
  generalize hn : ts[j] = t at h1
  cases h1 with
  | @mk k n l c s w' ks cs' hs hki => exact ⟨b, o + j * 6, k, s, n, l, c, w', ks, idxS_slice hj, rfl, ⟨ds, hb', hcs, by omega⟩, cs', hs, hki⟩
theorem kid_at {w : AVal} {ts : List Tree} (hk : HZ Z Γ H nx) (h : KidsV ex Γ w ts) {j : Nat} (hj : j < ts.length) :
  ∃ b off k s n l c w' ts', idxS w j 6 = some (.ptr b off) ∧ ts[j] = .node k s n l c ts' ∧ NodeAt ex Γ H b off k s n l c w' ts' :=
 let ⟨b, off, k, s, n, l, c, w', ts', h1, h2, h3⟩ := kid_in h hj
 ⟨b, off, k, s, n, l, c, w', ts', h1, h2, h3.at hk⟩
end
end
end Go.Vs
end
section
namespace Go.Vs
open Go.Proofs Ps
variable [GTab] {Z : Nat → Prop}
noncomputable section
theorem shL_len (g : Int → Int) : ∀ ts : List Tree, (shL g ts).length = ts.length
 | [] => rfl
 | t :: ts => by simp [shL, shL_len g ts]
theorem shL_get (g : Int → Int) : ∀ (ts : List Tree) (j : Nat) (h : j < ts.length), (shL g ts)[j]'(by rw [shL_len]; exact h) = shT g ts[j]
 | t :: ts, 0, _ => rfl
 | t :: ts, j + 1, h => by
  simp only [shL, List.getElem_cons_succ]
  exact shL_get g ts j (by simpa using h)
section
variable {g : Int → Int} {Γ : GH} {H : Heap} {nx : Nat} {K : EndP}
theorem KidsV.sub {ex : Nat → Prop} {Γ' : GH} {v : AVal} {ts : List Tree} (h : KidsV ex Γ v ts) (s : ∀ b cs, Γ b = some cs → Γ' b = some cs) : KidsV ex Γ' v ts := h.mono (fun _ h => h) fun b cs _ e => s b cs e
def SameP (Z : Nat → Prop) (g : Int → Int) (t : Tree) : Prop := few 300000 t → ∀ {Γ : GH} {H : Heap} {nx : Nat} {K : EndP} {k n l c k' n' l' c' : Int} {s s' : List UInt8} {w w' : AVal} {ts us : List Tree}, t = .node k s n l c ts → shT g t = .node k' s' n' l' c' us →
 KidsV (fun _ => False) Γ w ts → KidsV (fun _ => False) Γ w' us → HZ Z Γ H nx →
 (∀ Γ' H' nx', nx ≤ nx' → HZ Z Γ' H' nx' → (∀ b cs, Γ b = some cs → Γ' b = some cs) → K (.ret (.bool true)) H' nx') →
 TriP PG f_r3_Same [.agg [iv k, .str s, iv n, iv l, iv c, w], .agg [iv k', .str s', iv n', iv l', iv c', w']] H nx K
theorem same_ok (t : Tree) (ih : ∀ u : Tree, SizeOf.sizeOf u < SizeOf.sizeOf t → SameP Z g u) : SameP Z g t := by
 intro hfew Γ H nx K k n l c k' n' l' c' s s' w w' ts us e e' hw hw' hk hK
 subst e
 rw [shT] at e'
 cases e'
 refine TriP.of_body mixed ?_
 rw [Fr3_Same_eq]
 unfold Fr3_Same
 have hf := hk.fresh (Nat.le_refl nx)
 refine scrN hk (nx' := nx + 1) (Nat.le_refl _) (by omega) fun H0 k0 => ?_
 have hf2 := k0.fresh (Nat.le_refl (nx + 1))
 have hn2 : Γ (nx + 1) = none := by rwa [gup_ne (by omega)] at hf2
 refine scrN k0 (nx' := nx + 1 + 1) (Nat.le_refl _) (by omega) fun H1 k1 => ?_
 obtain ⟨Γ1, e1⟩ : ∃ Γ1, Γ1 = gup (nx + 1) (some [iv k, AVal.str s, iv n, iv (if k = 38 then l else g l), iv c, w']) (gup nx (some [iv k, AVal.str s, iv n, iv l, iv c, w]) Γ) := ⟨_, rfl⟩
 rw [← e1] at k1
 have s1 : ∀ b cs, Γ b = some cs → Γ1 b = some cs := fun b cs e => by rw [e1, gup_ne (neK e hn2), gup_ne (neK e hf)]; exact e
 have gp : Γ1 nx = some [iv k, AVal.str s, iv n, iv l, iv c, w] := by rw [e1, gup_ne (by omega), gup_same]
 have gq : Γ1 (nx + 1) = some [iv k, AVal.str s, iv n, iv (if k = 38 then l else g l), iv c, w'] := by rw [e1, gup_same]
 have lp : ∀ off, ld1 H1 (.ptr nx off) = _ := fun off => k1.ld1 gp off
 have lq : ∀ off, ld1 H1 (.ptr (nx + 1) off) = _ := fun off => k1.ld1 gq off
 have skip : ∀ {b : Bool} {p q : Prop}, b = false → q → ifB b p q := fun h hq => ifB_f h hq
 have hl := hw.len
 have hfl := hfew.1
 have hl' := hw'.len
 rw [shL_len] at hl'
 refine ⟨_, rfl, _, lp 0, _, rfl, _, lq 0, skip (by simp) ⟨_, rfl, _, lp 1, _, rfl, _, lq 1, skip (by simp) ⟨_, rfl, _, lp 2, _, rfl, _, lq 2, skip (by simp) ⟨_, rfl, _, lp 5, _, hl, _, rfl, _, lq 5, _, hl', skip (by simp) ?_⟩⟩⟩⟩
 refine loop_w (P := PG) (X := Nat) (Y := Nat) (fun i => envL .und [(5, iv i), (4, AVal.bool false), (3, AVal.ptr (nx + 1) 0), (2, AVal.ptr nx 0)]) (fun i => envL .und [(5, iv i), (4, AVal.bool false), (3, AVal.ptr (nx + 1) 0), (2, AVal.ptr nx 0)])
  (fun q i H2 nx2 => q = ts.length - i ∧ i ≤ ts.length ∧ nx ≤ nx2 ∧ ∃ Γ2, HZ Z Γ2 H2 nx2 ∧ ∀ b cs, Γ1 b = some cs → Γ2 b = some cs) (fun id i H2 nx2 => id = 0 ∧ nx ≤ nx2 ∧ ∃ Γ2, HZ Z Γ2 H2 nx2 ∧ ∀ b cs, Γ1 b = some cs → Γ2 b = some cs) ts.length 0
  (EnvLe.of_list (by exact ⟨rfl, rfl, rfl, rfl, trivial⟩)) ⟨rfl, by omega, by omega, Γ1, k1, fun _ _ h => h⟩ ?_ ?_
 ·rintro q i H2 nx2 ⟨rfl, hi, hx, Γ2, k2, s2⟩
  refine WpP.part (ts := [2, 3, 4, 5]) mixed ?_
  rw [LSame_eq]
  unfold LSame
  have lp2 : ld1 H2 (.ptr nx 5) = some w := by rw [k2.ld1 (s2 _ _ gp)]; rfl
  have lq2 : ld1 H2 (.ptr (nx + 1) 5) = some w' := by rw [k2.ld1 (s2 _ _ gq)]; rfl
  refine ⟨_, rfl, _, lp2, _, hl, ifB_iff.2 ⟨fun h => ?_, fun h => ?_⟩⟩
  ·have h : (i : Int) < (ts.length : Int) := of_decide_eq_true h
   have hi2 : i < ts.length := by omega
   have hi3 : i < (shL g ts).length := by rw [shL_len]; exact hi2
   have hw2 : KidsV (fun _ => False) Γ2 w ts := hw.sub fun b cs e => s2 _ _ (s1 _ _ e)
   have hw3 : KidsV (fun _ => False) Γ2 w' (shL g ts) := hw'.sub fun b cs e => s2 _ _ (s1 _ _ e)
   obtain ⟨b1, o1, k1', t1, m1, l1, c1, w1, ts1, x1, y1, N1⟩ := kid_at k2 hw2 hi2
   obtain ⟨b2, o2, k2', t2, m2, l2, c2, w2, ts2, x2, y2, N2⟩ := kid_at k2 hw3 hi3
   rw [shL_get g ts i hi2] at y2
   refine ⟨_, rfl, _, lp2, by omega, _, by rw [Int.toNat_natCast]; exact x1, _, _, _, _, _, _, N1.all, _, rfl, _, lq2, by omega, _, by rw [Int.toNat_natCast]; exact x2, _, _, _, _, _, _, N2.all, ⟨⟨_, lp2, rfl⟩, ⟨_, _, _, _, _, _, N1.all, rfl⟩, ⟨_, lq2, rfl⟩, ⟨_, _, _, _, _, _, N2.all, rfl⟩, trivial⟩, ?_⟩
   have hsz : SizeOf.sizeOf ts[i] < SizeOf.sizeOf (Tree.node k s n l c ts) := by
    have := List.sizeOf_lt_of_mem (List.getElem_mem hi2)
    rw [Tree.node.sizeOf_spec]
    omega
   refine ih _ hsz (fewL_get hfew.2 i hi2) y1 y2 N1.kids N2.kids (k2.more (by omega)) fun Γ3 H3 nx3 h3 k3 s3 => onEnd_ret.2 ⟨_, rfl, trivial, skip rfl ⟨rfl, ts.length - (i + 1), i + 1, by omega, ?_, rfl, by omega, by omega, Γ3, k3, fun b cs e => s3 _ _ (s2 _ _ e)⟩⟩
   rw [wrap64_id (by omega) (by omega)]
   exact EnvLe.of_list (by exact ⟨rfl, rfl, rfl, rfl, trivial⟩)
  ·exact ⟨rfl, i, EnvLe.of_list (by exact ⟨rfl, rfl, rfl, rfl, trivial⟩), rfl, hx, Γ2, k2, s2⟩
 ·rintro id i H2 nx2 ⟨rfl, hx, Γ2, k2, s2⟩
  rw [ASame_eq]
  unfold ASame
  exact hK _ _ _ hx k2 fun b cs e => s2 _ _ (s1 _ _ e)
def DownP (Z : Nat → Prop) (m : Int) (t : Tree) : Prop := few 300000 t → ∀ {Γ : GH} {H : Heap} {nx : Nat} {K : EndP} {k n l c k' n' l' c' : Int} {s s' : List UInt8} {w w' : AVal} {ts us : List Tree}, t = .node k s n l c ts → shT (dn m) t = .node k' s' n' l' c' us →
 KidsV (fun _ => False) Γ w ts → KidsV (fun _ => False) Γ w' us → HZ Z Γ H nx →
 (∀ Γ' H' nx', nx ≤ nx' → HZ Z Γ' H' nx' → (∀ b cs, Γ b = some cs → Γ' b = some cs) → K (.ret (.bool true)) H' nx') →
 TriP PG f_law4_down [.agg [iv k, .str s, iv n, iv l, iv c, w], .agg [iv k', .str s', iv n', iv l', iv c', w'], iv m] H nx K
theorem down_ok {m : Int} (t : Tree) (ih : ∀ u : Tree, SizeOf.sizeOf u < SizeOf.sizeOf t → DownP Z m u) : DownP Z m t := by
 intro hfew Γ H nx K k n l c k' n' l' c' s s' w w' ts us e e' hw hw' hk hK
 subst e
 rw [shT] at e'
 cases e'
 refine TriP.of_body mixed ?_
 rw [Flaw4_down_eq]
 unfold Flaw4_down
 have hf := hk.fresh (Nat.le_refl nx)
 refine scrN hk (nx' := nx + 1) (Nat.le_refl _) (by omega) fun H0 k0 => ?_
 have hf2 := k0.fresh (Nat.le_refl (nx + 1))
 have hn2 : Γ (nx + 1) = none := by rwa [gup_ne (by omega)] at hf2
 refine scrN k0 (nx' := nx + 1 + 1) (Nat.le_refl _) (by omega) fun H1 k1 => ?_
 obtain ⟨Γ1, e1⟩ : ∃ Γ1, Γ1 = gup (nx + 1) (some [iv k, AVal.str s, iv n, iv (if k = 38 then l else dn m l), iv c, w']) (gup nx (some [iv k, AVal.str s, iv n, iv l, iv c, w]) Γ) := ⟨_, rfl⟩
 rw [← e1] at k1
 have s1 : ∀ b cs, Γ b = some cs → Γ1 b = some cs := fun b cs e => by rw [e1, gup_ne (neK e hn2), gup_ne (neK e hf)]; exact e
 have gp : Γ1 nx = some [iv k, AVal.str s, iv n, iv l, iv c, w] := by rw [e1, gup_ne (by omega), gup_same]
 have gq : Γ1 (nx + 1) = some [iv k, AVal.str s, iv n, iv (if k = 38 then l else dn m l), iv c, w'] := by rw [e1, gup_same]
 have lp : ∀ off, ld1 H1 (.ptr nx off) = _ := fun off => k1.ld1 gp off
 have lq : ∀ off, ld1 H1 (.ptr (nx + 1) off) = _ := fun off => k1.ld1 gq off
 have skip : ∀ {b : Bool} {p q : Prop}, b = false → q → ifB b p q := fun h hq => ifB_f h hq
 have hl := hw.len
 have hfl := hfew.1
 have hl' := hw'.len
 rw [shL_len] at hl'
 have loop : ∀ env, EnvLe (envL .und [(7, iv 0), (6, AVal.bool false), (4, AVal.ptr (nx + 1) 0), (3, AVal.ptr nx 0), (2, iv m)]) env →
   LpP PG 56 (subAt (codeOf PG f_law4_down) [1, 1, 0, 1, 0, 0]) env H1 (nx + 1 + 1) [] none (contAt PG (TriP PG) (LpP PG 56) 56 (codeOf PG f_law4_down) [1, 1, 0, 1, 0] (endK PG (lvSem (TriDP PG)) (lvcSem PG (TriDP PG)) K (resOf PG f_law4_down))) := by
  intro env henv
  refine loop_w (P := PG) (X := Nat) (Y := Nat) (fun i => envL .und [(7, iv i), (6, AVal.bool false), (4, AVal.ptr (nx + 1) 0), (3, AVal.ptr nx 0), (2, iv m)]) (fun i => envL .und [(7, iv i), (6, AVal.bool false), (4, AVal.ptr (nx + 1) 0), (3, AVal.ptr nx 0), (2, iv m)])
   (fun q i H2 nx2 => q = ts.length - i ∧ i ≤ ts.length ∧ nx ≤ nx2 ∧ ∃ Γ2, HZ Z Γ2 H2 nx2 ∧ ∀ b cs, Γ1 b = some cs → Γ2 b = some cs) (fun id i H2 nx2 => id = 0 ∧ nx ≤ nx2 ∧ ∃ Γ2, HZ Z Γ2 H2 nx2 ∧ ∀ b cs, Γ1 b = some cs → Γ2 b = some cs) ts.length 0
   henv ⟨rfl, by omega, by omega, Γ1, k1, fun _ _ h => h⟩ ?_ ?_
  ·rintro q i H2 nx2 ⟨rfl, hi, hx, Γ2, k2, s2⟩
   refine WpP.part (ts := [2, 3, 4, 6, 7]) mixed ?_
   rw [LDown_eq]
   unfold LDown
   have lp2 : ld1 H2 (.ptr nx 5) = some w := by rw [k2.ld1 (s2 _ _ gp)]; rfl
   have lq2 : ld1 H2 (.ptr (nx + 1) 5) = some w' := by rw [k2.ld1 (s2 _ _ gq)]; rfl
   refine ⟨_, rfl, _, lp2, _, hl, ifB_iff.2 ⟨fun h => ?_, fun h => ?_⟩⟩
   ·have h : (i : Int) < (ts.length : Int) := of_decide_eq_true h
    have hi2 : i < ts.length := by omega
    have hi3 : i < (shL (dn m) ts).length := by rw [shL_len]; exact hi2
    have hw2 : KidsV (fun _ => False) Γ2 w ts := hw.sub fun b cs e => s2 _ _ (s1 _ _ e)
    have hw3 : KidsV (fun _ => False) Γ2 w' (shL (dn m) ts) := hw'.sub fun b cs e => s2 _ _ (s1 _ _ e)
    obtain ⟨b1, o1, k1', t1, m1, l1, c1, w1, ts1, x1, y1, N1⟩ := kid_at k2 hw2 hi2
    obtain ⟨b2, o2, k2', t2, m2, l2, c2, w2, ts2, x2, y2, N2⟩ := kid_at k2 hw3 hi3
    rw [shL_get (dn m) ts i hi2] at y2
    refine ⟨_, rfl, _, lp2, by omega, _, by rw [Int.toNat_natCast]; exact x1, _, _, _, _, _, _, N1.all, _, rfl, _, lq2, by omega, _, by rw [Int.toNat_natCast]; exact x2, _, _, _, _, _, _, N2.all, ⟨⟨_, lp2, rfl⟩, ⟨_, _, _, _, _, _, N1.all, rfl⟩, ⟨_, lq2, rfl⟩, ⟨_, _, _, _, _, _, N2.all, rfl⟩, trivial⟩, ?_⟩
    have hsz : SizeOf.sizeOf ts[i] < SizeOf.sizeOf (Tree.node k s n l c ts) := by
     have := List.sizeOf_lt_of_mem (List.getElem_mem hi2)
     rw [Tree.node.sizeOf_spec]
     omega
    refine ih _ hsz (fewL_get hfew.2 i hi2) y1 y2 N1.kids N2.kids (k2.more (by omega)) fun Γ3 H3 nx3 h3 k3 s3 => onEnd_ret.2 ⟨_, rfl, trivial, skip rfl ⟨rfl, ts.length - (i + 1), i + 1, by omega, ?_, rfl, by omega, by omega, Γ3, k3, fun b cs e => s3 _ _ (s2 _ _ e)⟩⟩
    rw [wrap64_id (by omega) (by omega)]
    exact EnvLe.of_list (by exact ⟨rfl, rfl, rfl, rfl, rfl, trivial⟩)
   ·exact ⟨rfl, i, EnvLe.of_list (by exact ⟨rfl, rfl, rfl, rfl, rfl, trivial⟩), rfl, hx, Γ2, k2, s2⟩
  ·rintro id i H2 nx2 ⟨rfl, hx, Γ2, k2, s2⟩
   rw [ADown_eq]
   unfold ADown
   exact hK _ _ _ hx k2 fun b cs e => s2 _ _ (s1 _ _ e)
 refine ⟨_, rfl, _, lp 0, ifB_iff.2 ⟨fun h38 => ?_, fun h38 => ?_⟩⟩
 ·have h38 : ¬ k = 38 := by simpa using h38
  rw [if_neg h38] at lq
  refine ⟨_, rfl, _, lp 3, _, rfl, _, lq 3, skip (by simp [dn]) ⟨_, rfl, _, lp 4, _, rfl, _, lq 4, skip (by simp) ⟨_, rfl, _, lp 5, _, hl, _, rfl, _, lq 5, _, hl', skip (by simp) (loop _ (EnvLe.of_list (by exact ⟨rfl, rfl, rfl, rfl, rfl, trivial⟩)))⟩⟩⟩
 ·refine ⟨_, rfl, _, lp 5, _, hl, _, rfl, _, lq 5, _, hl', skip (by simp) (loop _ (EnvLe.of_list (by exact ⟨rfl, rfl, rfl, rfl, rfl, trivial⟩)))⟩
theorem same_all : ∀ (n : Nat) (t : Tree), SizeOf.sizeOf t < n → SameP Z g t
 | 0, t, h => by omega
 | n + 1, t, h => by
  have h0 : ∀ u : Tree, SizeOf.sizeOf u < SizeOf.sizeOf t → SameP Z g u := fun u hu => @same_all n u (by omega)
  exact @same_ok _ _ _ t @h0
theorem down_all {m : Int} : ∀ (n : Nat) (t : Tree), SizeOf.sizeOf t < n → DownP Z m t
 | 0, t, h => by omega
 | n + 1, t, h => by
  have h0 : ∀ u : Tree, SizeOf.sizeOf u < SizeOf.sizeOf t → DownP Z m u := fun u hu => @down_all m n u (by omega)
  exact @down_ok _ _ m t @h0
end
end
end Go.Vs
end
section
namespace Go.Vs
namespace Ps
def Er {α : Type} (x : Rs α) : Prop := ∀ f, x = some (.error f) → f.e ≠ 0
def ErE {α : Type} (x : Except Flt α) : Prop := ∀ f, x = .error f → f.e ≠ 0
section
variable {l : List Tok} {one : Nat → Rs (Tree × Nat)} {n a : Nat}
theorem er_bind {α β : Type} {x : Rs α} {k : α → Rs β} (hx : Er x) (hk : ∀ a, Er (k a)) : Er (Rs.bind x k) := fun f h => by
 rcases bind_some h with ⟨g, h1, h2⟩ | ⟨a, _, h⟩
 ·cases h2; exact hx _ h1
 ·exact hk a f h
theorem er_lift {α β : Type} {x : Except Flt α} {k : α → Rs β} (hx : ErE x) (hk : ∀ a, Er (k a)) : Er (lift x k) := fun f h => by
 rcases lift_some h with ⟨g, h1, h2⟩ | ⟨a, _, h⟩
 ·cases h2; exact hx _ h1
 ·exact hk a f h
theorem er_ite {α : Type} {c : Prop} [Decidable c] {x y : Rs α} (hx : Er x) (hy : Er y) : Er (if c then x else y) := by
 split <;> assumption
theorem er_ok {α : Type} {x : α} : Er (Rs.ok x) := fun f h => by cases h
theorem er_13 {α : Type} {a : Nat} : Er (Rs.bad (flt l a 13) : Rs α) := fun f h => by cases h; exact fun x => by cases x
theorem er_14 {α : Type} {a : Nat} : Er (Rs.bad (flt l a 14) : Rs α) := fun f h => by cases h; exact fun x => by cases x
theorem er_need {s : List UInt8} : ErE (need l a s) := fun f h => by unfold need at h; split at h <;> cases h; exact fun x => by cases x
theorem er_name : ErE (name l a) := fun f h => by unfold name at h; split at h <;> cases h; exact fun x => by cases x
theorem er_ends : ErE (ends l a) := fun f h => by
 unfold ends at h
 split at h
 ·cases h
 ·cases hn : need l a [59] with
  | ok b => rw [hn] at h; cases h
  | error g => rw [hn] at h; cases h; exact er_need _ hn
theorem er_rowGo (ho : ∀ a, Er (one a)) : ∀ n a, Er (rowGo l one n a)
 | 0, a => fun f h => by simp [rowGo] at h
 | n + 1, a => by
  unfold rowGo
  exact er_bind (ho a) fun x => er_ite (er_bind (er_rowGo ho n _) fun y => er_ok) (er_lift er_need fun c => er_ok)
theorem er_row (ho : ∀ a, Er (one a)) : Er (row l one n a) := by
 unfold row
 exact er_lift er_need fun b => er_ite er_ok (er_rowGo ho n b)
theorem er_listGo (ho : ∀ a, Er (one a)) : ∀ n a, Er (listGo l one n a)
 | 0, a => fun f h => by simp [listGo] at h
 | n + 1, a => by
  unfold listGo
  exact er_ite er_ok (er_bind (ho a) fun x => er_lift er_ends fun c => er_bind (er_listGo ho n _) fun y => er_ok)
theorem er_list (ho : ∀ a, Er (one a)) : Er (list l one n a) := by
 unfold list
 exact er_lift er_need fun b => er_listGo ho n _
theorem run_er (l : List Tok) : ∀ n rule d a, Er (run l n rule d a) := by
 intro n
 induction n with
 | zero => intro rule d a f h; simp [run] at h
 | succ n ih =>
  intro rule d a
  cases rule <;> simp only [run]
  all_goals repeat' (with_reducible first
   | exact er_ok
   | exact er_13
   | exact er_14
   | exact ih _ _ _
   | (refine er_ite ?_ ?_)
   | (refine er_lift er_need fun c => ?_)
   | (refine er_lift er_name fun c => ?_)
   | (refine er_bind (er_row fun c => ih _ _ c) fun x => ?_)
   | (refine er_bind (er_list fun c => ih _ _ c) fun x => ?_)
   | (refine er_bind ?_ fun x => ?_))
theorem result_er : Er (result l n a) := by unfold result; exact er_ite (run_er l n _ _ _) er_ok
theorem typeDecl_er : Er (typeDecl l n a) := by
 unfold typeDecl
 exact er_lift er_need fun a1 => er_lift er_name fun b => er_ite (er_bind (er_list fun c => run_er l n _ _ c) fun x => er_ok) (er_lift er_need fun b => er_bind (er_list fun c => run_er l n _ _ c) fun x => er_ok)
theorem er_ebind {α β : Type} {x : Except Flt α} {k : α → Except Flt β} (hx : ErE x) (hk : ∀ a, ErE (k a)) : ErE (x >>= k) := by
 cases x with
 | error e => exact fun f h => by cases h; exact hx _ rfl
 | ok a => exact hk a
theorem er_eok {α : Type} {x : α} : ErE (Except.ok x) := fun f h => by cases h
theorem recv_er : ErE (recv l a) := by
 unfold recv
 split
 ·exact er_ebind er_name fun b => er_ebind er_name fun c => er_ebind er_need fun d => er_eok
 ·exact er_eok
theorem funcDecl_er : Er (funcDecl l n a) := by
 unfold funcDecl
 exact er_lift er_need fun a1 => er_lift recv_er fun x => er_lift er_name fun c => er_bind (er_row fun c => run_er l n _ _ c) fun ps => er_bind result_er fun y => er_bind (run_er l n _ _ _) fun b => er_ok
theorem declsGo_er : ∀ k a, Er (declsGo l n k a)
 | 0, a => fun f h => by simp [declsGo] at h
 | k + 1, a => by
  unfold declsGo
  exact er_ite er_ok (er_bind (er_ite typeDecl_er (er_ite funcDecl_er er_13)) fun x => er_lift er_need fun c => er_bind (declsGo_er k _) fun xs => er_ok)
theorem file_er : Er (file l n) := by unfold file; exact er_bind (declsGo_er n _) fun xs => er_ok
theorem parse_er {s : List UInt8} : Er (parse s n) := fun f h => by
 unfold parse at h
 split at h
 ·exact file_er _ h
 ·rename_i g hg
  cases h
  exact Pt.toks_err hg
end
end Ps
end Go.Vs
end
section
namespace Go.Vs
open Go.Proofs
variable [GTab]
def Flaw4_known (call : CallP) (lp : Nat → LoopP) (lv : LeaveP) (lvc : LeaveC) (_u : Nat) (H : Heap) (nx : Nat) (K : EndP) : Prop :=
 call f_p_Parse [AVal.str [102, 117, 110, 99, 32, 109, 97, 105, 110, 40, 41, 32, 123, 32, 112, 114, 105, 110, 116, 40, 49, 32, 43, 32, 50, 32, 42, 32, 120, 41, 32, 125]] H nx fun e0 H1 i2 =>
 onEnd e0 (fun v3 => ∃ n4 s5 n6 n7 n8 v9 n10 n11 n12, v3 = AVal.tuple [AVal.agg [iv n4, AVal.str s5, iv n6, iv n7, iv n8, v9], AVal.agg [iv n10, iv n11], iv n12] ∧ ∃ H13, H13 = newB
 i2 [iv 0, AVal.str [], iv 0, iv 0, iv 0, AVal.nilSlice] H1 ∧ ∃ H14, H14 = newB (i2 + 1) [iv 0, iv 0] H13 ∧ ∃ H15, stC H14 (AVal.ptr i2 0) [iv n4, AVal.str s5, iv n6, iv n7, iv n8,
 v9] = some H15 ∧ ∃ H16, stC H15 (AVal.ptr (i2 + 1) 0) [iv n10, iv n11] = some H16 ∧ call f_p_Parse [AVal.str [102, 117, 110, 99, 32, 109, 97, 105, 110, 40, 41, 32, 123, 32, 120, 32, 61, 32,
 125]] H16 (i2 + 1 + 1) fun e17 H18 i19 => onEnd e17 (fun v20 => ∃ n21 s22 n23 n24 n25 v26 n27 n28 n29, v20 = AVal.tuple [AVal.agg [iv n21, AVal.str s22, iv n23, iv n24, iv n25,
 v26], AVal.agg [iv n27, iv n28], iv n29] ∧ ∃ H30, H30 = newB i19 [iv 0, AVal.str [], iv 0, iv 0, iv 0, AVal.nilSlice] H18 ∧ ∃ H31, H31 = newB (i19 + 1) [iv 0, iv 0] H30 ∧ ∃ H32, stC
 H31 (AVal.ptr i19 0) [iv n21, AVal.str s22, iv n23, iv n24, iv n25, v26] = some H32 ∧ ∃ H33, stC H32 (AVal.ptr (i19 + 1) 0) [iv n27, iv n28] = some H33 ∧ ifB (!decide (n12 = 0)) (K
 (AEnd.ret (AVal.bool false)) H33 (i19 + 1 + 1)) (∃ v34, some (AVal.ptr i2 0) = some v34 ∧ ∃ n35 : Int, ld1 H33 v34 = some (iv n35) ∧ ifB (!decide (n35 = 1)) (K (AEnd.ret (AVal.bool
 false)) H33 (i19 + 1 + 1)) (∃ v36, some (AVal.ptr i2 5) = some v36 ∧ ∃ v37, ld1 H33 v36 = some v37 ∧ ∃ i38, lenS v37 = some i38 ∧ ifB (!decide (Int.ofNat i38 = 1)) (K (AEnd.ret
 (AVal.bool false)) H33 (i19 + 1 + 1)) (∃ v39, some (AVal.ptr i2 5) = some v39 ∧ ∃ v40, ld1 H33 v39 = some v40 ∧ (0 : Int) ≤ 0 ∧ ∃ v41, idxS v40 0 6 = some v41 ∧ ∃ v42, addOff v41 5
 = some v42 ∧ ∃ v43, ld1 H33 v42 = some v43 ∧ ∃ i44, lenS v43 = some i44 ∧ ifB (!decide (Int.ofNat i44 = 3)) (K (AEnd.ret (AVal.bool false)) H33 (i19 + 1 + 1)) (∃ v45, some (AVal.ptr
 i2 5) = some v45 ∧ ∃ v46, ld1 H33 v45 = some v46 ∧ (0 : Int) ≤ 0 ∧ ∃ v47, idxS v46 0 6 = some v47 ∧ ∃ v48, addOff v47 5 = some v48 ∧ ∃ v49, ld1 H33 v48 = some v49 ∧ (0 : Int) ≤ 2 ∧
 ∃ v50, idxS v49 2 6 = some v50 ∧ ∃ v51, addOff v50 5 = some v51 ∧ ∃ v52, ld1 H33 v51 = some v52 ∧ ∃ i53, lenS v52 = some i53 ∧ ifB (!decide (Int.ofNat i53 = 1)) (K (AEnd.ret
 (AVal.bool false)) H33 (i19 + 1 + 1)) (∃ v54, some (AVal.ptr i2 5) = some v54 ∧ ∃ v55, ld1 H33 v54 = some v55 ∧ (0 : Int) ≤ 0 ∧ ∃ v56, idxS v55 0 6 = some v56 ∧ ∃ v57, addOff v56 5
 = some v57 ∧ ∃ v58, ld1 H33 v57 = some v58 ∧ (0 : Int) ≤ 2 ∧ ∃ v59, idxS v58 2 6 = some v59 ∧ ∃ v60, addOff v59 5 = some v60 ∧ ∃ v61, ld1 H33 v60 = some v61 ∧ (0 : Int) ≤ 0 ∧ ∃ v62,
 idxS v61 0 6 = some v62 ∧ ∃ v63, addOff v62 5 = some v63 ∧ ∃ v64, ld1 H33 v63 = some v64 ∧ ∃ i65, lenS v64 = some i65 ∧ ifB (!decide (Int.ofNat i65 = 1)) (K (AEnd.ret (AVal.bool
 false)) H33 (i19 + 1 + 1)) (∃ v66, some (AVal.ptr i2 5) = some v66 ∧ ∃ v67, ld1 H33 v66 = some v67 ∧ (0 : Int) ≤ 0 ∧ ∃ v68, idxS v67 0 6 = some v68 ∧ ∃ v69, addOff v68 5 = some v69
 ∧ ∃ v70, ld1 H33 v69 = some v70 ∧ (0 : Int) ≤ 2 ∧ ∃ v71, idxS v70 2 6 = some v71 ∧ ∃ v72, addOff v71 5 = some v72 ∧ ∃ v73, ld1 H33 v72 = some v73 ∧ (0 : Int) ≤ 0 ∧ ∃ v74, idxS v73 0
 6 = some v74 ∧ ∃ v75, addOff v74 5 = some v75 ∧ ∃ v76, ld1 H33 v75 = some v76 ∧ (0 : Int) ≤ 0 ∧ ∃ v77, idxS v76 0 6 = some v77 ∧ ∃ n78 s79 n80 n81 n82 v83, ldN H33 6 v77 = some
 (AVal.agg [iv n78, AVal.str s79, iv n80, iv n81, iv n82, v83]) ∧ ∃ H84, H84 = newB (i19 + 1 + 1) [iv 0, AVal.str [], iv 0, iv 0, iv 0, AVal.nilSlice] H33 ∧ ∃ H85, stC H84 (AVal.ptr
 (i19 + 1 + 1) 0) [iv n78, AVal.str s79, iv n80, iv n81, iv n82, v83] = some H85 ∧ ∃ v86, some (AVal.ptr (i19 + 1 + 1) 0) = some v86 ∧ ∃ n87 : Int, ld1 H85 v86 = some (iv n87) ∧ ifB
 (decide (n87 = 28)) (∃ v88, some (AVal.ptr (i19 + 1 + 1) 1) = some v88 ∧ ∃ s89, ld1 H85 v88 = some (AVal.str s89) ∧ ifB (s89 == [43]) (∃ v90, some (AVal.ptr (i19 + 1 + 1) 5) = some
 v90 ∧ ∃ v91, ld1 H85 v90 = some v91 ∧ ∃ i92, lenS v91 = some i92 ∧ ifB (decide (Int.ofNat i92 = 2)) (∃ v93, some (AVal.ptr (i19 + 1 + 1) 5) = some v93 ∧ ∃ v94, ld1 H85 v93 = some
 v94 ∧ (0 : Int) ≤ 1 ∧ ∃ v95, idxS v94 1 6 = some v95 ∧ ∃ v96, addOff v95 1 = some v96 ∧ ∃ s97, ld1 H85 v96 = some (AVal.str s97) ∧ ifB (s97 == [42]) (∃ v98, some (AVal.ptr (i19 + 1
 + 1) 4) = some v98 ∧ ∃ n99 : Int, ld1 H85 v98 = some (iv n99) ∧ ifB (decide (n99 = 23)) (ifB (decide (n29 = 13)) (∃ v100, some (AVal.ptr (i19 + 1) 0) = some v100 ∧ ∃ n101 : Int, ld1
 H85 v100 = some (iv n101) ∧ ifB (decide (n101 = 1)) (∃ v102, some (AVal.ptr (i19 + 1) 1) = some v102 ∧ ∃ n103 : Int, ld1 H85 v102 = some (iv n103) ∧ K (AEnd.ret (AVal.bool (decide
 (n103 = 19)))) H85 (i19 + 1 + 1 + 1)) (K (AEnd.ret (AVal.bool false)) H85 (i19 + 1 + 1 + 1))) (K (AEnd.ret (AVal.bool false)) H85 (i19 + 1 + 1 + 1))) (K (AEnd.ret (AVal.bool false))
 H85 (i19 + 1 + 1 + 1))) (K (AEnd.ret (AVal.bool false)) H85 (i19 + 1 + 1 + 1))) (K (AEnd.ret (AVal.bool false)) H85 (i19 + 1 + 1 + 1))) (K (AEnd.ret (AVal.bool false)) H85 (i19 + 1
 + 1 + 1))) (K (AEnd.ret (AVal.bool false)) H85 (i19 + 1 + 1 + 1))))))))) fun l104 => K (AEnd.pan l104) H18 i19) fun l105 => K (AEnd.pan l105) H1 i2
theorem Flaw4_known_eq (call : CallP) (lp : Nat → LoopP) (lv : LeaveP) (lvc : LeaveC) (_u : Nat) (H : Heap) (nx : Nat) (K : EndP) : vBody PG call lp f_law4_known ([] : List AVal) H nx (endK PG lv lvc K) = Flaw4_known call lp lv lvc _u H nx K := by kernel_rfl
end Go.Vs
end
section
namespace Go.Vs
open Go.Proofs
variable [GTab] {Z : Nat → Prop}
noncomputable section
def kn1 : List UInt8 := [102, 117, 110, 99, 32, 109, 97, 105, 110, 40, 41, 32, 123, 32, 112, 114, 105, 110, 116, 40, 49, 32, 43, 32, 50, 32, 42, 32, 120, 41, 32, 125]
def kn2 : List UInt8 := [102, 117, 110, 99, 32, 109, 97, 105, 110, 40, 41, 32, 123, 32, 120, 32, 61, 32, 125]
def knX : Tree := .node 28 [43] 0 1 23 [.node 21 [] 1 1 21 [], .node 28 [42] 0 1 27 [.node 21 [] 2 1 25 [], .node 26 [120] 0 1 29 []]]
def knB : Tree := .node 10 [] 0 1 13 [.node 20 [] 0 1 15 [knX]]
def knF : Tree := .node 6 [109, 97, 105, 110] 0 1 1 [.node 38 [] 0 0 0 [], .node 38 [] 0 0 0 [], knB]
theorem kn1_run : Ps.parse kn1 100 = some (.ok (.node 1 [] 0 1 1 [knF])) := by kernel_rfl
theorem kn2_run : Ps.parse kn2 100 = some (.error ⟨1, 19, 13⟩) := by kernel_rfl
section
variable {Γ : GH} {H : Heap} {nx : Nat} {K : EndP}
theorem known_ok (hk : HZ Z Γ H nx) (hK : ∀ Γ' H' nx', nx ≤ nx' → HZ Z Γ' H' nx' → (∀ b cs, Γ b = some cs → Γ' b = some cs) → K (.ret (.bool true)) H' nx') : TriP PG f_law4_known [] H nx K := by
 refine TriP.of_body mixed ?_
 rw [Flaw4_known_eq _ _ _ _ 0]
 unfold Flaw4_known
 refine parse_ok (s := kn1) kn1_run hk fun v Γ1 H1 i2 h1 k1 s1 hv => onEnd_ret.2 ?_
 obtain ⟨c, rfl, hn⟩ := hv
 cases hn with
 | @mk _ _ _ _ _ w _ cs hs hki =>
 have hw : KidsV (fun _ => False) Γ1 w [knF] := ⟨cs, hs, hki⟩
 refine ⟨_, _, _, _, _, _, _, _, _, rfl, ?_⟩
 have hf1 := k1.fresh (Nat.le_refl i2)
 refine scrN k1 (nx' := i2 + 1) (Nat.le_refl _) (by omega) fun H2 k2 => ?_
 have hf2 := k2.fresh (Nat.le_refl (i2 + 1))
 refine scrN k2 (nx' := i2 + 1 + 1) (Nat.le_refl _) (by omega) fun H3 k3 => ?_
 refine stAll k3 ((gup_ne (by omega)).trans (gup_same _ _ _)) rfl (by simp only [allCell, hw.cell]; rfl) fun H4 k4 => ?_
 refine stAll k4 ((gup_ne (by omega)).trans (gup_same _ _ _)) rfl rfl fun H5 k5 => ?_
 obtain ⟨Γ5, e5⟩ : ∃ Γ5, Γ5 = gup (i2 + 1) (some [iv 0, iv 0]) (gup i2 (some [iv 1, AVal.str [], iv 0, iv 1, iv 1, w]) (gup (i2 + 1) (some [iv 0, iv 0]) (gup i2 (some [iv 0, AVal.str [], iv 0, iv 0, iv 0, AVal.nilSlice]) Γ1))) := ⟨_, rfl⟩
 replace k5 : HZ Z Γ5 H5 (i2 + 1 + 1) := by rw [e5]; exact k5
 have g5 : Γ5 i2 = some [iv 1, AVal.str [], iv 0, iv 1, iv 1, w] := by rw [e5, gup_ne (by omega), gup_same]
 have s5 : ∀ b cs, Γ1 b = some cs → Γ5 b = some cs := fun b cs e => by
  have h0 : b ≠ i2 := neK e hf1
  have h1 : b ≠ i2 + 1 := neK e (by rwa [gup_ne (by omega)] at hf2)
  rw [e5, gup_ne h1, gup_ne h0, gup_ne h1, gup_ne h0]; exact e
 clear e5 hf1 hf2
 refine parse_ok (s := kn2) kn2_run k5 fun Γ6 H6 i7 h6 k6 s6 => onEnd_ret.2 ⟨_, _, _, _, _, _, _, _, _, rfl, ?_⟩
 have hf1 := k6.fresh (Nat.le_refl i7)
 refine scrN k6 (nx' := i7 + 1) (Nat.le_refl _) (by omega) fun H7 k7 => ?_
 have hf2 := k7.fresh (Nat.le_refl (i7 + 1))
 refine scrN k7 (nx' := i7 + 1 + 1) (Nat.le_refl _) (by omega) fun H8 k8 => ?_
 refine stAll k8 ((gup_ne (by omega)).trans (gup_same _ _ _)) rfl rfl fun H9 k9 => ?_
 refine stAll k9 ((gup_ne (by omega)).trans (gup_same _ _ _)) rfl rfl fun H10 k10 => ?_
 obtain ⟨Γ9, e9⟩ : ∃ Γ9, Γ9 = gup (i7 + 1) (some [iv 1, iv 19]) (gup i7 (some nodeZ) (gup (i7 + 1) (some [iv 0, iv 0]) (gup i7 (some nodeZ) Γ6))) := ⟨_, rfl⟩
 replace k10 : HZ Z Γ9 H10 (i7 + 1 + 1) := by rw [e9]; exact k10
 have g9 : Γ9 (i7 + 1) = some [iv 1, iv 19] := by rw [e9, gup_same]
 have s9 : ∀ b cs, Γ6 b = some cs → Γ9 b = some cs := fun b cs e => by
  have h0 : b ≠ i7 := neK e hf1
  have h1 : b ≠ i7 + 1 := neK e (by rwa [gup_ne (by omega)] at hf2)
  rw [e9, gup_ne h1, gup_ne h0, gup_ne h1, gup_ne h0]; exact e
 have gi : Γ9 i2 = some [iv 1, AVal.str [], iv 0, iv 1, iv 1, w] := s9 _ _ (s6 _ _ g5)
 have hw9 : KidsV (fun _ => False) Γ9 w [knF] := hw.mono (fun _ h => h) fun b cs _ e => s9 _ _ (s6 _ _ (s5 _ _ e))
 have l0 : ld1 H10 (.ptr i2 0) = some (iv 1) := by rw [k10.ld1 gi]; rfl
 have l5 : ld1 H10 (.ptr i2 5) = some w := by rw [k10.ld1 gi]; rfl
 obtain ⟨b1, o1, _, _, _, _, _, w1, ts1, x1, y1, N1⟩ := kid_at k10 hw9 (j := 0) (by decide)
 cases y1
 have hl1 := N1.kids.len
 obtain ⟨b2, o2, _, _, _, _, _, w2, ts2, x2, y2, N2⟩ := kid_at k10 N1.kids (j := 2) (by decide)
 cases y2
 have hl2 := N2.kids.len
 obtain ⟨b3, o3, _, _, _, _, _, w3, ts3, x3, y3, N3⟩ := kid_at k10 N2.kids (j := 0) (by decide)
 cases y3
 have hl3 := N3.kids.len
 obtain ⟨b4, o4, _, _, _, _, _, w4, ts4, x4, y4, N4⟩ := kid_at k10 N3.kids (j := 0) (by decide)
 cases y4
 have hl4 := N4.kids.len
 have skip : ∀ {b : Bool} {p q : Prop}, b = false → q → ifB b p q := fun h hq => ifB_f h hq
 refine skip rfl ⟨_, rfl, _, l0, skip rfl ⟨_, rfl, _, l5, _, hw9.len, skip rfl ?_⟩⟩
 have st1 : ∀ {p : AVal → Prop}, p w1 → ∃ v, some (AVal.ptr i2 5) = some v ∧ ∃ v', ld1 H10 v = some v' ∧ (0 : Int) ≤ 0 ∧ ∃ v'', idxS v' 0 6 = some v'' ∧ ∃ v3, addOff v'' 5 = some v3 ∧ ∃ v4, ld1 H10 v3 = some v4 ∧ p v4 := fun h => ⟨_, rfl, _, l5, by decide, _, x1, _, rfl, _, N1.c5, h⟩
 refine st1 ⟨_, hl1, skip rfl ?_⟩
 refine st1 ⟨by decide, _, x2, _, rfl, _, N2.c5, _, hl2, skip rfl ?_⟩
 refine st1 ⟨by decide, _, x2, _, rfl, _, N2.c5, by decide, _, x3, _, rfl, _, N3.c5, _, hl3, skip rfl ?_⟩
 refine st1 ⟨by decide, _, x2, _, rfl, _, N2.c5, by decide, _, x3, _, rfl, _, N3.c5, by decide, _, x4, _, _, _, _, _, _, N4.all, ?_⟩
 have hf3 := k10.fresh (Nat.le_refl (i7 + 1 + 1))
 refine scrN k10 (nx' := i7 + 1 + 1 + 1) (Nat.le_refl _) (by omega) fun H11 k11 => ?_
 refine stAll k11 (gup_same _ _ _) rfl (by simp only [allCell, N4.kids.cell]; rfl) fun H12 k12 => ?_
 obtain ⟨Γ12, e12⟩ : ∃ Γ12, Γ12 = gup (i7 + 1 + 1) (some [iv 28, AVal.str [43], iv 0, iv 1, iv 23, w4]) (gup (i7 + 1 + 1) (some [iv 0, AVal.str [], iv 0, iv 0, iv 0, AVal.nilSlice]) Γ9) := ⟨_, rfl⟩
 replace k12 : HZ Z Γ12 H12 (i7 + 1 + 1 + 1) := by rw [e12]; exact k12
 have s12 : ∀ b cs, Γ9 b = some cs → Γ12 b = some cs := fun b cs e => by
  have h0 : b ≠ i7 + 1 + 1 := neK e hf3
  rw [e12, gup_ne h0, gup_ne h0]; exact e
 have g12 : Γ12 (i7 + 1 + 1) = some [iv 28, AVal.str [43], iv 0, iv 1, iv 23, w4] := by rw [e12, gup_same]
 have hw12 := N4.kids.mono (fun _ h => h) fun b cs _ e => s12 b cs e
 have q : ∀ off, ld1 H12 (.ptr (i7 + 1 + 1) off) = [iv 28, AVal.str [43], iv 0, iv 1, iv 23, w4][off]? := fun off => k12.ld1 g12 off
 have qp : ∀ off, ld1 H12 (.ptr (i7 + 1) off) = [iv 1, iv 19][off]? := fun off => k12.ld1 (s12 _ _ g9) off
 obtain ⟨b5, o5, _, _, _, _, _, w5, ts5, x5, y5, N5⟩ := kid_at k12 hw12 (j := 1) (by decide)
 cases y5
 have yes : ∀ {b : Bool} {p q : Prop}, b = true → p → ifB b p q := fun h hp => ifB_t h hp
 refine ⟨_, rfl, _, q 0, yes rfl ⟨_, rfl, _, q 1, yes rfl ⟨_, rfl, _, q 5, _, hw12.len, yes rfl ⟨_, rfl, _, q 5, by decide, _, x5, _, rfl, _, N5.c1, yes rfl ⟨_, rfl, _, q 4, yes rfl (yes rfl ⟨_, rfl, _, qp 0, yes rfl ⟨_, rfl, _, qp 1, ?_⟩⟩)⟩⟩⟩⟩⟩
 exact hK _ _ _ (by omega) k12 fun b cs e => s12 _ _ (s9 _ _ (s6 _ _ (s5 _ _ (s1 _ _ e))))
end
end
end Go.Vs
end
section
namespace Go.Vs
open Go.Proofs
variable [GTab]
def Fmk_next (call : CallP) (lp : Nat → LoopP) (lv : LeaveP) (lvc : LeaveC) (k : Nat) (m : Int) (H : Heap) (nx : Nat) (K : EndP) : Prop :=
 true = true ∧ ∃ v0, some (AVal.ptr k 1) = some v0 ∧ ∃ n1 : Int, ld1 H v0 = some (iv n1) ∧ true = true ∧ ∃ v2, some (AVal.ptr k 0) = some v2 ∧ ∃ v3, ld1 H v2 = some v3 ∧ ∃ i4, lenS
 v3 = some i4 ∧ ((∃ n5 : Int, ld1 H v0 = some (iv n5) ∧ iv n5 = iv n1) ∧ (∃ v6, ld1 H v2 = some v6 ∧ v6 = v3) ∧ True) ∧ ifB (decide (Int.ofNat i4 ≤ n1)) (K (AEnd.ret (iv 0)) H (nx +
 10)) (true = true ∧ ∃ v7, some (AVal.ptr k 1) = some v7 ∧ ∃ n8 : Int, ld1 H v7 = some (iv n8) ∧ true = true ∧ ∃ v9, some (AVal.ptr k 1) = some v9 ∧ true = true ∧ ∃ H10, stC H v9 [iv
 (IntKind.i64.wrap (n8 + 1))] = some H10 ∧ true = true ∧ ∃ v11, some (AVal.ptr k 0) = some v11 ∧ ∃ v12, ld1 H10 v11 = some v12 ∧ true = true ∧ ∃ v13, some (AVal.ptr k 1) = some v13 ∧
 ∃ n14 : Int, ld1 H10 v13 = some (iv n14) ∧ 0 ≤ IntKind.i64.wrap (n14 - 1) ∧ ∃ v15, idxS v12 (IntKind.i64.wrap (n14 - 1)).toNat 1 = some v15 ∧ ∃ n16 : Int, ld1 H10 v15 = some (iv
 n16) ∧ ((∃ v17, ld1 H10 v11 = some v17 ∧ v17 = v12) ∧ (∃ n18 : Int, ld1 H10 v13 = some (iv n18) ∧ iv n18 = iv n14) ∧ (∃ n19 : Int, ld1 H10 v15 = some (iv n19) ∧ iv n19 = iv n16) ∧
 True) ∧ call f_h_Pick [iv n16, iv m] H10 (nx + 10 + 14) fun e20 H21 i22 => onEnd e20 (fun v23 => ∃ n24 : Int, v23 = iv n24 ∧ True ∧ K (AEnd.ret (iv n24)) H21 i22) fun l25 => K (AEnd.pan
 l25) H21 i22)
theorem Fmk_next_eq (call : CallP) (lp : Nat → LoopP) (lv : LeaveP) (lvc : LeaveC) (k : Nat) (m : Int) (H : Heap) (nx : Nat) (K : EndP) : vBody PG call lp f_mk_next [AVal.ptr k 0, iv m] H nx (endK PG lv lvc K) = Fmk_next call lp lv lvc k m H nx K := by kernel_rfl
def Fmk_v (call : CallP) (lp : Nat → LoopP) (lv : LeaveP) (lvc : LeaveC) (k : Nat) (t : Int) (H : Heap) (nx : Nat) (K : EndP) : Prop :=
 true = true ∧ ∃ v0, some (AVal.ptr k 2) = some v0 ∧ ∃ v1, ld1 H v0 = some v1 ∧ 0 ≤ t ∧ ∃ v2, idxS v1 t.toNat 1 = some v2 ∧ ∃ v3, ld1 H v2 = some v3 ∧ ∃ i4, lenS v3 = some i4 ∧ ifB
 (decide (Int.ofNat i4 = 0)) (K (AEnd.ret (AVal.str [])) H nx) (∃ i5, lenS v3 = some i5 ∧ call f_mk_next [AVal.ptr k 0, iv (Int.ofNat i5)] H nx fun e6 H7 i8 => onEnd e6 (fun v9 => ∃ n10 :
 Int, v9 = iv n10 ∧ 0 ≤ n10 ∧ ∃ v11, idxS v3 n10.toNat 1 = some v11 ∧ ∃ s12, ld1 H7 v11 = some (AVal.str s12) ∧ K (AEnd.ret (AVal.str s12)) H7 i8) fun l13 => K (AEnd.pan l13) H7 i8)
theorem Fmk_v_eq (call : CallP) (lp : Nat → LoopP) (lv : LeaveP) (lvc : LeaveC) (k : Nat) (t : Int) (H : Heap) (nx : Nat) (K : EndP) : vBody PG call lp f_mk_v [AVal.ptr k 0, iv t] H nx (endK PG lv lvc K) = Fmk_v call lp lv lvc k t H nx K := by kernel_rfl
def Fmk_leaf (call : CallP) (lp : Nat → LoopP) (lv : LeaveP) (lvc : LeaveC) (k : Nat) (t : Int) (H : Heap) (nx : Nat) (K : EndP) : Prop :=
 call f_mk_v [AVal.ptr k 0, iv t] H nx fun e0 H1 i2 => onEnd e0 (fun v3 => ∃ s4, v3 = AVal.str s4 ∧ ifB (!s4 == []) (call f_mk_next [AVal.ptr k 0, iv 4] H1 i2 fun e5 H6 i7 => onEnd e5 (fun v8
 => ∃ n9 : Int, v8 = iv n9 ∧ ifB (decide (0 < n9)) (K (AEnd.ret (AVal.str s4)) H6 i7) (ifB (decide (t = 0)) (true = true ∧ true = true ∧ true = true ∧ true = true ∧ true = true ∧
 true = true ∧ true = true ∧ true = true ∧ true = true ∧ call f_mk_next [AVal.ptr k 0, iv 9] H6 i7 fun e10 H11 i12 => onEnd e10 (fun v13 => ∃ n14 : Int, v13 = iv n14 ∧ 0 ≤ n14 ∧ n14.toNat <
 9 ∧ ∃ s15, aPart PG t_str [AVal.str [48], AVal.str [49], AVal.str [50], AVal.str [51], AVal.str [55], AVal.str [49, 48], AVal.str [57, 50, 50, 51, 51, 55, 50, 48, 51, 54, 56, 53,
 52, 55, 55, 53, 56, 48, 55], AVal.str [40, 45, 49, 41], AVal.str [49, 48, 48]] (n14.toNat * 1) = some (AVal.str s15) ∧ K (AEnd.ret (AVal.str s15)) H11 i12) fun l16 => K (AEnd.pan
 l16) H11 i12) (ifB (decide (t = 1)) (true = true ∧ true = true ∧ call f_mk_next [AVal.ptr k 0, iv 2] H6 i7 fun e17 H18 i19 => onEnd e17 (fun v20 => ∃ n21 : Int, v20 = iv n21 ∧ 0 ≤ n21 ∧
 n21.toNat < 2 ∧ ∃ s22, aPart PG t_str [AVal.str [116, 114, 117, 101], AVal.str [102, 97, 108, 115, 101]] (n21.toNat * 1) = some (AVal.str s22) ∧ K (AEnd.ret (AVal.str s22)) H18
 i19) fun l23 => K (AEnd.pan l23) H18 i19) (ifB (decide (t = 2)) (true = true ∧ true = true ∧ true = true ∧ true = true ∧ call f_mk_next [AVal.ptr k 0, iv 4] H6 i7 fun e24 H25 i26 => onEnd
 e24 (fun v27 => ∃ n28 : Int, v27 = iv n28 ∧ 0 ≤ n28 ∧ n28.toNat < 4 ∧ ∃ s29, aPart PG t_str [AVal.str [34, 34], AVal.str [34, 97, 34], AVal.str [34, 98, 99, 34], AVal.str [34,
 97, 34]] (n28.toNat * 1) = some (AVal.str s29) ∧ K (AEnd.ret (AVal.str s29)) H25 i26) fun l30 => K (AEnd.pan l30) H25 i26) (ifB (decide (t = 3)) (K (AEnd.ret (AVal.str [109, 97,
 107, 101, 40, 91, 93, 105, 110, 116, 44, 32, 51, 41])) H6 i7) (ifB (decide (t = 4)) (K (AEnd.ret (AVal.str [110, 101, 119, 40, 80, 41])) H6 i7) (ifB (decide (t = 5)) (K (AEnd.ret
 (AVal.str [110, 101, 119, 40, 81, 41])) H6 i7) (K (AEnd.ret (AVal.str [122])) H6 i7)))))))) fun l31 => K (AEnd.pan l31) H6 i7) (ifB (decide (t = 0)) (true = true ∧ true = true ∧
 true = true ∧ true = true ∧ true = true ∧ true = true ∧ true = true ∧ true = true ∧ true = true ∧ call f_mk_next [AVal.ptr k 0, iv 9] H1 i2 fun e32 H33 i34 => onEnd e32 (fun v35 => ∃ n36 :
 Int, v35 = iv n36 ∧ 0 ≤ n36 ∧ n36.toNat < 9 ∧ ∃ s37, aPart PG t_str [AVal.str [48], AVal.str [49], AVal.str [50], AVal.str [51], AVal.str [55], AVal.str [49, 48], AVal.str [57,
 50, 50, 51, 51, 55, 50, 48, 51, 54, 56, 53, 52, 55, 55, 53, 56, 48, 55], AVal.str [40, 45, 49, 41], AVal.str [49, 48, 48]] (n36.toNat * 1) = some (AVal.str s37) ∧ K (AEnd.ret
 (AVal.str s37)) H33 i34) fun l38 => K (AEnd.pan l38) H33 i34) (ifB (decide (t = 1)) (true = true ∧ true = true ∧ call f_mk_next [AVal.ptr k 0, iv 2] H1 i2 fun e39 H40 i41 => onEnd e39 (fun
 v42 => ∃ n43 : Int, v42 = iv n43 ∧ 0 ≤ n43 ∧ n43.toNat < 2 ∧ ∃ s44, aPart PG t_str [AVal.str [116, 114, 117, 101], AVal.str [102, 97, 108, 115, 101]] (n43.toNat * 1) = some
 (AVal.str s44) ∧ K (AEnd.ret (AVal.str s44)) H40 i41) fun l45 => K (AEnd.pan l45) H40 i41) (ifB (decide (t = 2)) (true = true ∧ true = true ∧ true = true ∧ true = true ∧ call 17
 [AVal.ptr k 0, iv 4] H1 i2 fun e46 H47 i48 => onEnd e46 (fun v49 => ∃ n50 : Int, v49 = iv n50 ∧ 0 ≤ n50 ∧ n50.toNat < 4 ∧ ∃ s51, aPart PG t_str [AVal.str [34, 34], AVal.str [34,
 97, 34], AVal.str [34, 98, 99, 34], AVal.str [34, 97, 34]] (n50.toNat * 1) = some (AVal.str s51) ∧ K (AEnd.ret (AVal.str s51)) H47 i48) fun l52 => K (AEnd.pan l52) H47 i48) (ifB
 (decide (t = 3)) (K (AEnd.ret (AVal.str [109, 97, 107, 101, 40, 91, 93, 105, 110, 116, 44, 32, 51, 41])) H1 i2) (ifB (decide (t = 4)) (K (AEnd.ret (AVal.str [110, 101, 119, 40, 80,
 41])) H1 i2) (ifB (decide (t = 5)) (K (AEnd.ret (AVal.str [110, 101, 119, 40, 81, 41])) H1 i2) (K (AEnd.ret (AVal.str [122])) H1 i2)))))))) fun l53 => K (AEnd.pan l53) H1 i2
theorem Fmk_leaf_eq (call : CallP) (lp : Nat → LoopP) (lv : LeaveP) (lvc : LeaveC) (k : Nat) (t : Int) (H : Heap) (nx : Nat) (K : EndP) : vBody PG call lp f_mk_leaf [AVal.ptr k 0, iv t] H nx (endK PG lv lvc K) = Fmk_leaf call lp lv lvc k t H nx K := by kernel_rfl
def Fmk_tabs (call : CallP) (lp : Nat → LoopP) (lv : LeaveP) (lvc : LeaveC) (k : Nat) (n : Int) (H : Heap) (nx : Nat) (K : EndP) : Prop :=
 lp 15 (subAt (codeOf PG 29) [1, 1, 0, 1, 0, 0]) (envL (AVal.tuple []) [(6, iv 0), (5, AVal.str []), (4, AVal.str []), (1, iv n), (0, AVal.ptr k 0)]) H nx [] none (contAt
 PG call (lp 15) 15 (codeOf PG 29) [1, 1, 0, 1, 0] (endK PG lv lvc K (resOf PG 29)))
theorem Fmk_tabs_eq (call : CallP) (lp : Nat → LoopP) (lv : LeaveP) (lvc : LeaveC) (k : Nat) (n : Int) (H : Heap) (nx : Nat) (K : EndP) : vBody PG call lp f_mk_tabs [AVal.ptr k 0, iv n] H nx (endK PG lv lvc K) = Fmk_tabs call lp lv lvc k n H nx K := by kernel_rfl
def Fmk_line (call : CallP) (lp : Nat → LoopP) (lv : LeaveP) (lvc : LeaveC) (k : Nat) (n : Int) (s : List UInt8) (H : Heap) (nx : Nat) (K : EndP) : Prop :=
 true = true ∧ ∃ v0, some (AVal.ptr k 6) = some v0 ∧ ∃ s1, ld1 H v0 = some (AVal.str s1) ∧ ((∃ s2, ld1 H v0 = some (AVal.str s2) ∧ AVal.str s2 = AVal.str s1) ∧ True) ∧ call 29
 [AVal.ptr k 0, iv n] H (nx + 15) fun e3 H4 i5 => onEnd e3 (fun v6 => ∃ s7, v6 = AVal.str s7 ∧ s1.length + s7.length ≤ 9223372036854775807 ∧ (s1 ++ s7).length + s.length ≤
 9223372036854775807 ∧ (s1 ++ s7 ++ s).length + 1 ≤ 9223372036854775807 ∧ true = true ∧ ∃ v8, some (AVal.ptr k 6) = some v8 ∧ ((∃ s9, ld1 H4 v0 = some (AVal.str s9) ∧ AVal.str s9 =
 AVal.str s1) ∧ True) ∧ true = true ∧ ∃ H10, stC H4 v8 [AVal.str (s1 ++ s7 ++ s ++ [10])] = some H10 ∧ True ∧ K (AEnd.ret (AVal.tuple [])) H10 i5) fun l11 => K (AEnd.pan l11) H4 i5
theorem Fmk_line_eq (call : CallP) (lp : Nat → LoopP) (lv : LeaveP) (lvc : LeaveC) (k : Nat) (n : Int) (s : List UInt8) (H : Heap) (nx : Nat) (K : EndP) : vBody PG call lp f_mk_line [AVal.ptr k 0, iv n, AVal.str s] H nx (endK PG lv lvc K) = Fmk_line call lp lv lvc k n s H nx K := by kernel_rfl
def Fmk_declare (call : CallP) (lp : Nat → LoopP) (lv : LeaveP) (lvc : LeaveC) (k : Nat) (t : Int) (n : Int) (s : List UInt8) (H : Heap) (nx : Nat) (K : EndP) : Prop :=
 true = true ∧ ∃ v0, some (AVal.ptr k 3) = some v0 ∧ ∃ n1 : Int, ld1 H v0 = some (iv n1) ∧ call f_h_Digits [iv n1] H nx fun e2 H3 i4 => onEnd e2 (fun v5 => ∃ s6, v5 = AVal.str s6 ∧ 1 +
 s6.length ≤ 9223372036854775807 ∧ true = true ∧ ∃ v7, some (AVal.ptr k 3) = some v7 ∧ ∃ n8 : Int, ld1 H3 v7 = some (iv n8) ∧ true = true ∧ ∃ v9, some (AVal.ptr k 3) = some v9 ∧ true
 = true ∧ ∃ H10, stC H3 v9 [iv (IntKind.i64.wrap (n8 + 1))] = some H10 ∧ ifB (decide (t = 6)) (4 + ([118] ++ s6).length ≤ 9223372036854775807 ∧ ([118, 97, 114, 32] ++ ([118] ++
 s6)).length + 5 ≤ 9223372036854775807 ∧ ([118, 97, 114, 32] ++ ([118] ++ s6) ++ [32, 73, 32, 61, 32]).length + s.length ≤ 9223372036854775807 ∧ call f_mk_line [AVal.ptr k 0, iv n, AVal.str
 ([118, 97, 114, 32] ++ ([118] ++ s6) ++ [32, 73, 32, 61, 32] ++ s)] H10 i4 fun e11 H12 i13 => onEnd e11 (fun v14 => true = true ∧ ∃ v15, some (AVal.ptr k 2) = some v15 ∧ ∃ v16, ld1
 H12 v15 = some v16 ∧ ∃ H17, H17 = newB (i13 + 5) [] H12 ∧ true = true ∧ ∃ v18, some (AVal.ptr k 2) = some v18 ∧ ∃ v19, ld1 H17 v18 = some v19 ∧ 0 ≤ t ∧ ∃ v20, idxS v19 t.toNat 1 =
 some v20 ∧ ∃ v21, ld1 H17 v20 = some v21 ∧ true = true ∧ ∃ H22, H22 = newB (i13 + 15) [AVal.str ([118] ++ s6)] H17 ∧ ((∃ v23, ld1 H22 v15 = some v23 ∧ v23 = v16) ∧ (∃ v24, ld1 H22
 v18 = some v24 ∧ v24 = v19) ∧ (∃ v25, ld1 H22 v20 = some v25 ∧ v25 = v21) ∧ True) ∧ ∃ i26 l27, aSrc 1 H22 v21 = some (i26, l27) ∧ allCell l27 = true ∧ ∃ v28 H29 i30, appC H22 (i13 +
 19) 1 16 (AVal.slice (i13 + 5) 0 0 1 true) i26 l27 = some (v28, H29, i30) ∧ ((∃ v31, ld1 H29 v15 = some v31 ∧ v31 = v16) ∧ True) ∧ ∃ i32 l33, aSrc 1 H29 (AVal.slice (i13 + 15) 0 1 1
 true) = some (i32, l33) ∧ allCell l33 = true ∧ ∃ v34 H35 i36, appC H29 i30 1 16 v28 i32 l33 = some (v34, H35, i36) ∧ 0 ≤ t ∧ ∃ v37, idxS v16 t.toNat 1 = some v37 ∧ ((∃ v38, ld1 H35
 v15 = some v38 ∧ v38 = v16) ∧ True) ∧ cellv v34 = true ∧ ∃ H39, stC H35 v37 [v34] = some H39 ∧ True ∧ K (AEnd.ret (AVal.tuple [])) H39 i36) fun l40 => K (AEnd.pan l40) H12 i13)
 (([118] ++ s6).length + 4 ≤ 9223372036854775807 ∧ ([118] ++ s6 ++ [32, 58, 61, 32]).length + s.length ≤ 9223372036854775807 ∧ call f_mk_line [AVal.ptr k 0, iv n, AVal.str ([118] ++ s6 ++
 [32, 58, 61, 32] ++ s)] H10 i4 fun e41 H42 i43 => onEnd e41 (fun v44 => true = true ∧ ∃ v45, some (AVal.ptr k 2) = some v45 ∧ ∃ v46, ld1 H42 v45 = some v46 ∧ ∃ H47, H47 = newB (i43
 + 5) [] H42 ∧ true = true ∧ ∃ v48, some (AVal.ptr k 2) = some v48 ∧ ∃ v49, ld1 H47 v48 = some v49 ∧ 0 ≤ t ∧ ∃ v50, idxS v49 t.toNat 1 = some v50 ∧ ∃ v51, ld1 H47 v50 = some v51 ∧
 true = true ∧ ∃ H52, H52 = newB (i43 + 15) [AVal.str ([118] ++ s6)] H47 ∧ ((∃ v53, ld1 H52 v45 = some v53 ∧ v53 = v46) ∧ (∃ v54, ld1 H52 v48 = some v54 ∧ v54 = v49) ∧ (∃ v55, ld1
 H52 v50 = some v55 ∧ v55 = v51) ∧ True) ∧ ∃ i56 l57, aSrc 1 H52 v51 = some (i56, l57) ∧ allCell l57 = true ∧ ∃ v58 H59 i60, appC H52 (i43 + 19) 1 16 (AVal.slice (i43 + 5) 0 0 1
 true) i56 l57 = some (v58, H59, i60) ∧ ((∃ v61, ld1 H59 v45 = some v61 ∧ v61 = v46) ∧ True) ∧ ∃ i62 l63, aSrc 1 H59 (AVal.slice (i43 + 15) 0 1 1 true) = some (i62, l63) ∧ allCell
 l63 = true ∧ ∃ v64 H65 i66, appC H59 i60 1 16 v58 i62 l63 = some (v64, H65, i66) ∧ 0 ≤ t ∧ ∃ v67, idxS v46 t.toNat 1 = some v67 ∧ ((∃ v68, ld1 H65 v45 = some v68 ∧ v68 = v46) ∧
 True) ∧ cellv v64 = true ∧ ∃ H69, stC H65 v67 [v64] = some H69 ∧ True ∧ K (AEnd.ret (AVal.tuple [])) H69 i66) fun l70 => K (AEnd.pan l70) H42 i43)) fun l71 => K (AEnd.pan l71) H3 i4
theorem Fmk_declare_eq (call : CallP) (lp : Nat → LoopP) (lv : LeaveP) (lvc : LeaveC) (k : Nat) (t : Int) (n : Int) (s : List UInt8) (H : Heap) (nx : Nat) (K : EndP) : vBody PG call lp f_mk_declare [AVal.ptr k 0, iv t, iv n, AVal.str s] H nx (endK PG lv lvc K) = Fmk_declare call lp lv lvc k t n s H nx K := by kernel_rfl
def Fmk_expr (call : CallP) (lp : Nat → LoopP) (lv : LeaveP) (lvc : LeaveC) (k : Nat) (t : Int) (d : Int) (H : Heap) (nx : Nat) (K : EndP) : Prop :=
 true = true ∧ ∃ H0, H0 = newBN nx [AVal.ptr k 0].length [AVal.ptr k 0] H ∧ true = true ∧ ∃ H1, H1 = newBN (nx + 1) [iv d].length [iv d] H0 ∧ ∃ v2, ld1 H1 (AVal.ptr nx 0) = some v2 ∧
 notNil v2 = true ∧ ∃ v3, addOff v2 5 = some v3 ∧ ∃ n4 : Int, ld1 H1 v3 = some (iv n4) ∧ notNil v2 = true ∧ ∃ v5, addOff v2 5 = some v5 ∧ true = true ∧ ∃ H6, stC H1 v5 [iv
 (IntKind.i64.wrap (n4 + 1))] = some H6 ∧ ∃ n7 : Int, ld1 H6 (AVal.ptr (nx + 1) 0) = some (iv n7) ∧ ifB (decide (n7 ≤ 0)) (((∃ n8 : Int, ld1 H6 (AVal.ptr (nx + 1) 0) = some (iv n8) ∧
 iv n8 = iv n7) ∧ AVal.tuple [] = AVal.tuple [] ∧ AVal.tuple [] = AVal.tuple [] ∧ AVal.tuple [] = AVal.tuple [] ∧ AVal.tuple [] = AVal.tuple [] ∧ AVal.tuple [] = AVal.tuple [] ∧
 AVal.tuple [] = AVal.tuple [] ∧ True) ∧ ∃ v9, ld1 H6 (AVal.ptr nx 0) = some v9 ∧ call f_mk_leaf [v9, iv t] H6 (nx + 1 + 1 + 21) fun e10 H11 i12 => onEnd e10 (fun v13 => ∃ s14, v13 =
 AVal.str s14 ∧ K (AEnd.ret (AVal.str s14)) H11 i12) fun l15 => K (AEnd.pan l15) H11 i12) (∃ v16, ld1 H6 (AVal.ptr nx 0) = some v16 ∧ notNil v16 = true ∧ ∃ v17, addOff v16 5 = some
 v17 ∧ ∃ n18 : Int, ld1 H6 v17 = some (iv n18) ∧ ifB (decide (70 < n18)) (((∃ n19 : Int, ld1 H6 (AVal.ptr (nx + 1) 0) = some (iv n19) ∧ iv n19 = iv n7) ∧ (∃ v20, ld1 H6 (AVal.ptr nx
 0) = some v20 ∧ v20 = v16) ∧ (∃ n21 : Int, ld1 H6 v17 = some (iv n21) ∧ iv n21 = iv n18) ∧ AVal.tuple [] = AVal.tuple [] ∧ AVal.tuple [] = AVal.tuple [] ∧ AVal.tuple [] = AVal.tuple
 [] ∧ AVal.tuple [] = AVal.tuple [] ∧ True) ∧ ∃ v22, ld1 H6 (AVal.ptr nx 0) = some v22 ∧ call f_mk_leaf [v22, iv t] H6 (nx + 1 + 1 + 21) fun e23 H24 i25 => onEnd e23 (fun v26 => ∃ s27, v26
 = AVal.str s27 ∧ K (AEnd.ret (AVal.str s27)) H24 i25) fun l28 => K (AEnd.pan l28) H24 i25) (∃ v29, ld1 H6 (AVal.ptr nx 0) = some v29 ∧ notNil v29 = true ∧ ∃ v30, addOff v29 1 = some
 v30 ∧ ∃ n31 : Int, ld1 H6 v30 = some (iv n31) ∧ ∃ v32, ld1 H6 (AVal.ptr nx 0) = some v32 ∧ notNil v32 = true ∧ ∃ v33, addOff v32 0 = some v33 ∧ ∃ v34, ld1 H6 v33 = some v34 ∧ ∃ i35,
 lenS v34 = some i35 ∧ ((∃ n36 : Int, ld1 H6 (AVal.ptr (nx + 1) 0) = some (iv n36) ∧ iv n36 = iv n7) ∧ (∃ v37, ld1 H6 (AVal.ptr nx 0) = some v37 ∧ v37 = v16) ∧ (∃ n38 : Int, ld1 H6
 v17 = some (iv n38) ∧ iv n38 = iv n18) ∧ (∃ v39, ld1 H6 (AVal.ptr nx 0) = some v39 ∧ v39 = v29) ∧ (∃ n40 : Int, ld1 H6 v30 = some (iv n40) ∧ iv n40 = iv n31) ∧ (∃ v41, ld1 H6
 (AVal.ptr nx 0) = some v41 ∧ v41 = v32) ∧ (∃ v42, ld1 H6 v33 = some v42 ∧ v42 = v34) ∧ True) ∧ ifB (decide (Int.ofNat i35 ≤ n31)) (∃ v43, ld1 H6 (AVal.ptr nx 0) = some v43 ∧ call 53
 [v43, iv t] H6 (nx + 1 + 1 + 21) fun e44 H45 i46 => onEnd e44 (fun v47 => ∃ s48, v47 = AVal.str s48 ∧ K (AEnd.ret (AVal.str s48)) H45 i46) fun l49 => K (AEnd.pan l49) H45 i46) (ifB
 (decide (t = 0)) (∃ v50, ld1 H6 (AVal.ptr nx 0) = some v50 ∧ call f_mk_next [v50, iv 16] H6 (nx + 1 + 1 + 21) fun e51 H52 i53 => onEnd e51 (fun v54 => ∃ n55 : Int, v54 = iv n55 ∧ ifB
 (decide (n55 = 0)) (∃ x56 l57, some (54, [iv 0, AVal.ptr nx 0, AVal.ptr (nx + 1) 0]) = some (x56, l57) ∧ call x56 l57 H52 i53 fun e58 H59 i60 => onEnd e58 (fun v61 => ∃ s62, v61 =
 AVal.str s62 ∧ 1 + s62.length ≤ 9223372036854775807 ∧ ([40] ++ s62).length + 3 ≤ 9223372036854775807 ∧ ∃ x63 l64, some (54, [iv 0, AVal.ptr nx 0, AVal.ptr (nx + 1) 0]) = some (x63,
 l64) ∧ call x63 l64 H59 i60 fun e65 H66 i67 => onEnd e65 (fun v68 => ∃ s69, v68 = AVal.str s69 ∧ ([40] ++ s62 ++ [32, 43, 32]).length + s69.length ≤ 9223372036854775807 ∧ ([40] ++
 s62 ++ [32, 43, 32] ++ s69).length + 1 ≤ 9223372036854775807 ∧ K (AEnd.ret (AVal.str ([40] ++ s62 ++ [32, 43, 32] ++ s69 ++ [41]))) H66 i67) fun l70 => K (AEnd.pan l70) H66 i67) fun
 l71 => K (AEnd.pan l71) H59 i60) (ifB (decide (n55 = 1)) (∃ x72 l73, some (54, [iv 0, AVal.ptr nx 0, AVal.ptr (nx + 1) 0]) = some (x72, l73) ∧ call x72 l73 H52 i53 fun e74 H75 i76
 => onEnd e74 (fun v77 => ∃ s78, v77 = AVal.str s78 ∧ 1 + s78.length ≤ 9223372036854775807 ∧ ([40] ++ s78).length + 3 ≤ 9223372036854775807 ∧ ∃ x79 l80, some (54, [iv 0, AVal.ptr nx
 0, AVal.ptr (nx + 1) 0]) = some (x79, l80) ∧ call x79 l80 H75 i76 fun e81 H82 i83 => onEnd e81 (fun v84 => ∃ s85, v84 = AVal.str s85 ∧ ([40] ++ s78 ++ [32, 43, 32]).length +
 s85.length ≤ 9223372036854775807 ∧ ([40] ++ s78 ++ [32, 43, 32] ++ s85).length + 1 ≤ 9223372036854775807 ∧ K (AEnd.ret (AVal.str ([40] ++ s78 ++ [32, 43, 32] ++ s85 ++ [41]))) H82
 i83) fun l86 => K (AEnd.pan l86) H82 i83) fun l87 => K (AEnd.pan l87) H75 i76) (ifB (decide (n55 = 2)) (∃ x88 l89, some (54, [iv 0, AVal.ptr nx 0, AVal.ptr (nx + 1) 0]) = some (x88,
 l89) ∧ call x88 l89 H52 i53 fun e90 H91 i92 => onEnd e90 (fun v93 => ∃ s94, v93 = AVal.str s94 ∧ 1 + s94.length ≤ 9223372036854775807 ∧ ([40] ++ s94).length + 3 ≤
 9223372036854775807 ∧ ∃ x95 l96, some (54, [iv 0, AVal.ptr nx 0, AVal.ptr (nx + 1) 0]) = some (x95, l96) ∧ call x95 l96 H91 i92 fun e97 H98 i99 => onEnd e97 (fun v100 => ∃ s101,
 v100 = AVal.str s101 ∧ ([40] ++ s94 ++ [32, 45, 32]).length + s101.length ≤ 9223372036854775807 ∧ ([40] ++ s94 ++ [32, 45, 32] ++ s101).length + 1 ≤ 9223372036854775807 ∧ K
 (AEnd.ret (AVal.str ([40] ++ s94 ++ [32, 45, 32] ++ s101 ++ [41]))) H98 i99) fun l102 => K (AEnd.pan l102) H98 i99) fun l103 => K (AEnd.pan l103) H91 i92) (ifB (decide (n55 = 3)) (∃
 x104 l105, some (54, [iv 0, AVal.ptr nx 0, AVal.ptr (nx + 1) 0]) = some (x104, l105) ∧ call x104 l105 H52 i53 fun e106 H107 i108 => onEnd e106 (fun v109 => ∃ s110, v109 = AVal.str
 s110 ∧ 1 + s110.length ≤ 9223372036854775807 ∧ ([40] ++ s110).length + 3 ≤ 9223372036854775807 ∧ ∃ x111 l112, some (54, [iv 0, AVal.ptr nx 0, AVal.ptr (nx + 1) 0]) = some (x111,
 l112) ∧ call x111 l112 H107 i108 fun e113 H114 i115 => onEnd e113 (fun v116 => ∃ s117, v116 = AVal.str s117 ∧ ([40] ++ s110 ++ [32, 42, 32]).length + s117.length ≤
 9223372036854775807 ∧ ([40] ++ s110 ++ [32, 42, 32] ++ s117).length + 1 ≤ 9223372036854775807 ∧ K (AEnd.ret (AVal.str ([40] ++ s110 ++ [32, 42, 32] ++ s117 ++ [41]))) H114 i115) fun
 l118 => K (AEnd.pan l118) H114 i115) fun l119 => K (AEnd.pan l119) H107 i108) (ifB (decide (n55 = 4)) (∃ x120 l121, some (54, [iv 0, AVal.ptr nx 0, AVal.ptr (nx + 1) 0]) = some
 (x120, l121) ∧ call x120 l121 H52 i53 fun e122 H123 i124 => onEnd e122 (fun v125 => ∃ s126, v125 = AVal.str s126 ∧ 1 + s126.length ≤ 9223372036854775807 ∧ ([40] ++ s126).length + 3
 ≤ 9223372036854775807 ∧ ∃ x127 l128, some (54, [iv 0, AVal.ptr nx 0, AVal.ptr (nx + 1) 0]) = some (x127, l128) ∧ call x127 l128 H123 i124 fun e129 H130 i131 => onEnd e129 (fun v132
 => ∃ s133, v132 = AVal.str s133 ∧ ([40] ++ s126 ++ [32, 47, 32]).length + s133.length ≤ 9223372036854775807 ∧ ([40] ++ s126 ++ [32, 47, 32] ++ s133).length + 1 ≤ 9223372036854775807
 ∧ K (AEnd.ret (AVal.str ([40] ++ s126 ++ [32, 47, 32] ++ s133 ++ [41]))) H130 i131) fun l134 => K (AEnd.pan l134) H130 i131) fun l135 => K (AEnd.pan l135) H123 i124) (ifB (decide
 (n55 = 5)) (∃ x136 l137, some (54, [iv 0, AVal.ptr nx 0, AVal.ptr (nx + 1) 0]) = some (x136, l137) ∧ call x136 l137 H52 i53 fun e138 H139 i140 => onEnd e138 (fun v141 => ∃ s142,
 v141 = AVal.str s142 ∧ 1 + s142.length ≤ 9223372036854775807 ∧ ([40] ++ s142).length + 3 ≤ 9223372036854775807 ∧ ∃ x143 l144, some (54, [iv 0, AVal.ptr nx 0, AVal.ptr (nx + 1) 0]) =
 some (x143, l144) ∧ call x143 l144 H139 i140 fun e145 H146 i147 => onEnd e145 (fun v148 => ∃ s149, v148 = AVal.str s149 ∧ ([40] ++ s142 ++ [32, 37, 32]).length + s149.length ≤
 9223372036854775807 ∧ ([40] ++ s142 ++ [32, 37, 32] ++ s149).length + 1 ≤ 9223372036854775807 ∧ K (AEnd.ret (AVal.str ([40] ++ s142 ++ [32, 37, 32] ++ s149 ++ [41]))) H146 i147) fun
 l150 => K (AEnd.pan l150) H146 i147) fun l151 => K (AEnd.pan l151) H139 i140) (ifB (decide (n55 = 6)) (∃ x152 l153, some (54, [iv 0, AVal.ptr nx 0, AVal.ptr (nx + 1) 0]) = some
 (x152, l153) ∧ call x152 l153 H52 i53 fun e154 H155 i156 => onEnd e154 (fun v157 => ∃ s158, v157 = AVal.str s158 ∧ 2 + s158.length ≤ 9223372036854775807 ∧ ([40, 45] ++ s158).length
 + 1 ≤ 9223372036854775807 ∧ K (AEnd.ret (AVal.str ([40, 45] ++ s158 ++ [41]))) H155 i156) fun l159 => K (AEnd.pan l159) H155 i156) (ifB (decide (n55 = 7)) (∃ x160 l161, some (54,
 [iv 3, AVal.ptr nx 0, AVal.ptr (nx + 1) 0]) = some (x160, l161) ∧ call x160 l161 H52 i53 fun e162 H163 i164 => onEnd e162 (fun v165 => ∃ s166, v165 = AVal.str s166 ∧ 4 + s166.length
 ≤ 9223372036854775807 ∧ ([108, 101, 110, 40] ++ s166).length + 1 ≤ 9223372036854775807 ∧ K (AEnd.ret (AVal.str ([108, 101, 110, 40] ++ s166 ++ [41]))) H163 i164) fun l167 => K
 (AEnd.pan l167) H163 i164) (ifB (decide (n55 = 8)) (∃ x168 l169, some (54, [iv 3, AVal.ptr nx 0, AVal.ptr (nx + 1) 0]) = some (x168, l169) ∧ call x168 l169 H52 i53 fun e170 H171
 i172 => onEnd e170 (fun v173 => ∃ s174, v173 = AVal.str s174 ∧ s174.length + 1 ≤ 9223372036854775807 ∧ ∃ x175 l176, some (54, [iv 0, AVal.ptr nx 0, AVal.ptr (nx + 1) 0]) = some
 (x175, l176) ∧ call x175 l176 H171 i172 fun e177 H178 i179 => onEnd e177 (fun v180 => ∃ s181, v180 = AVal.str s181 ∧ (s174 ++ [91]).length + s181.length ≤ 9223372036854775807 ∧
 (s174 ++ [91] ++ s181).length + 1 ≤ 9223372036854775807 ∧ K (AEnd.ret (AVal.str (s174 ++ [91] ++ s181 ++ [93]))) H178 i179) fun l182 => K (AEnd.pan l182) H178 i179) fun l183 => K
 (AEnd.pan l183) H171 i172) (ifB (decide (n55 = 9)) (∃ x184 l185, some (54, [iv 4, AVal.ptr nx 0, AVal.ptr (nx + 1) 0]) = some (x184, l185) ∧ call x184 l185 H52 i53 fun e186 H187
 i188 => onEnd e186 (fun v189 => ∃ s190, v189 = AVal.str s190 ∧ s190.length + 2 ≤ 9223372036854775807 ∧ K (AEnd.ret (AVal.str (s190 ++ [46, 97]))) H187 i188) fun l191 => K (AEnd.pan
 l191) H187 i188) (ifB (decide (n55 = 10)) (∃ x192 l193, some (54, [iv 5, AVal.ptr nx 0, AVal.ptr (nx + 1) 0]) = some (x192, l193) ∧ call x192 l193 H52 i53 fun e194 H195 i196 =>
 onEnd e194 (fun v197 => ∃ s198, v197 = AVal.str s198 ∧ s198.length + 2 ≤ 9223372036854775807 ∧ K (AEnd.ret (AVal.str (s198 ++ [46, 120]))) H195 i196) fun l199 => K (AEnd.pan l199)
 H195 i196) (ifB (decide (n55 = 11)) (∃ v200, ld1 H52 (AVal.ptr nx 0) = some v200 ∧ notNil v200 = true ∧ ∃ v201, addOff v200 8 = some v201 ∧ ∃ b202, ld1 H52 v201 = some (AVal.bool
 b202) ∧ ifB b202 (∃ x203 l204, some (54, [iv 0, AVal.ptr nx 0, AVal.ptr (nx + 1) 0]) = some (x203, l204) ∧ call x203 l204 H52 i53 fun e205 H206 i207 => onEnd e205 (fun v208 => ∃
 s209, v208 = AVal.str s209 ∧ 2 + s209.length ≤ 9223372036854775807 ∧ ([102, 40] ++ s209).length + 2 ≤ 9223372036854775807 ∧ ∃ x210 l211, some (54, [iv 0, AVal.ptr nx 0, AVal.ptr (nx
 + 1) 0]) = some (x210, l211) ∧ call x210 l211 H206 i207 fun e212 H213 i214 => onEnd e212 (fun v215 => ∃ s216, v215 = AVal.str s216 ∧ ([102, 40] ++ s209 ++ [44, 32]).length +
 s216.length ≤ 9223372036854775807 ∧ ([102, 40] ++ s209 ++ [44, 32] ++ s216).length + 1 ≤ 9223372036854775807 ∧ K (AEnd.ret (AVal.str ([102, 40] ++ s209 ++ [44, 32] ++ s216 ++
 [41]))) H213 i214) fun l217 => K (AEnd.pan l217) H213 i214) fun l218 => K (AEnd.pan l218) H206 i207) (∃ v219, ld1 H52 (AVal.ptr nx 0) = some v219 ∧ call f_mk_leaf [v219, iv t] H52 i53 fun
 e220 H221 i222 => onEnd e220 (fun v223 => ∃ s224, v223 = AVal.str s224 ∧ K (AEnd.ret (AVal.str s224)) H221 i222) fun l225 => K (AEnd.pan l225) H221 i222)) (ifB (decide (n55 = 12))
 (∃ v226, ld1 H52 (AVal.ptr nx 0) = some v226 ∧ notNil v226 = true ∧ ∃ v227, addOff v226 8 = some v227 ∧ ∃ b228, ld1 H52 v227 = some (AVal.bool b228) ∧ ifB b228 (∃ x229 l230, some
 (54, [iv 6, AVal.ptr nx 0, AVal.ptr (nx + 1) 0]) = some (x229, l230) ∧ call x229 l230 H52 i53 fun e231 H232 i233 => onEnd e231 (fun v234 => ∃ s235, v234 = AVal.str s235 ∧
 s235.length + 5 ≤ 9223372036854775807 ∧ ∃ x236 l237, some (54, [iv 0, AVal.ptr nx 0, AVal.ptr (nx + 1) 0]) = some (x236, l237) ∧ call x236 l237 H232 i233 fun e238 H239 i240 => onEnd
 e238 (fun v241 => ∃ s242, v241 = AVal.str s242 ∧ (s235 ++ [46, 103, 101, 116, 40]).length + s242.length ≤ 9223372036854775807 ∧ (s235 ++ [46, 103, 101, 116, 40] ++ s242).length + 1
 ≤ 9223372036854775807 ∧ K (AEnd.ret (AVal.str (s235 ++ [46, 103, 101, 116, 40] ++ s242 ++ [41]))) H239 i240) fun l243 => K (AEnd.pan l243) H239 i240) fun l244 => K (AEnd.pan l244)
 H232 i233) (∃ v245, ld1 H52 (AVal.ptr nx 0) = some v245 ∧ call f_mk_leaf [v245, iv t] H52 i53 fun e246 H247 i248 => onEnd e246 (fun v249 => ∃ s250, v249 = AVal.str s250 ∧ K (AEnd.ret
 (AVal.str s250)) H247 i248) fun l251 => K (AEnd.pan l251) H247 i248)) (ifB (decide (n55 = 13)) (∃ v252, ld1 H52 (AVal.ptr nx 0) = some v252 ∧ notNil v252 = true ∧ ∃ v253, addOff
 v252 8 = some v253 ∧ ∃ b254, ld1 H52 v253 = some (AVal.bool b254) ∧ ifB b254 (∃ x255 l256, some (54, [iv 4, AVal.ptr nx 0, AVal.ptr (nx + 1) 0]) = some (x255, l256) ∧ call x255 l256
 H52 i53 fun e257 H258 i259 => onEnd e257 (fun v260 => ∃ s261, v260 = AVal.str s261 ∧ s261.length + 5 ≤ 9223372036854775807 ∧ ∃ x262 l263, some (54, [iv 0, AVal.ptr nx 0, AVal.ptr
 (nx + 1) 0]) = some (x262, l263) ∧ call x262 l263 H258 i259 fun e264 H265 i266 => onEnd e264 (fun v267 => ∃ s268, v267 = AVal.str s268 ∧ (s261 ++ [46, 103, 101, 116, 40]).length +
 s268.length ≤ 9223372036854775807 ∧ (s261 ++ [46, 103, 101, 116, 40] ++ s268).length + 1 ≤ 9223372036854775807 ∧ K (AEnd.ret (AVal.str (s261 ++ [46, 103, 101, 116, 40] ++ s268 ++
 [41]))) H265 i266) fun l269 => K (AEnd.pan l269) H265 i266) fun l270 => K (AEnd.pan l270) H258 i259) (∃ v271, ld1 H52 (AVal.ptr nx 0) = some v271 ∧ call f_mk_leaf [v271, iv t] H52 i53 fun
 e272 H273 i274 => onEnd e272 (fun v275 => ∃ s276, v275 = AVal.str s276 ∧ K (AEnd.ret (AVal.str s276)) H273 i274) fun l277 => K (AEnd.pan l277) H273 i274)) (ifB (decide (n55 = 14))
 (∃ x278 l279, some (54, [iv 2, AVal.ptr nx 0, AVal.ptr (nx + 1) 0]) = some (x278, l279) ∧ call x278 l279 H52 i53 fun e280 H281 i282 => onEnd e280 (fun v283 => ∃ s284, v283 =
 AVal.str s284 ∧ s284.length + 1 ≤ 9223372036854775807 ∧ ∃ x285 l286, some (54, [iv 0, AVal.ptr nx 0, AVal.ptr (nx + 1) 0]) = some (x285, l286) ∧ call x285 l286 H281 i282 fun e287
 H288 i289 => onEnd e287 (fun v290 => ∃ s291, v290 = AVal.str s291 ∧ (s284 ++ [91]).length + s291.length ≤ 9223372036854775807 ∧ (s284 ++ [91] ++ s291).length + 1 ≤
 9223372036854775807 ∧ K (AEnd.ret (AVal.str (s284 ++ [91] ++ s291 ++ [93]))) H288 i289) fun l292 => K (AEnd.pan l292) H288 i289) fun l293 => K (AEnd.pan l293) H281 i282) (∃ v294,
 ld1 H52 (AVal.ptr nx 0) = some v294 ∧ call f_mk_leaf [v294, iv t] H52 i53 fun e295 H296 i297 => onEnd e295 (fun v298 => ∃ s299, v298 = AVal.str s299 ∧ K (AEnd.ret (AVal.str s299)) H296
 i297) fun l300 => K (AEnd.pan l300) H296 i297)))))))))))))))) fun l301 => K (AEnd.pan l301) H52 i53) (ifB (decide (t = 1)) (∃ v302, ld1 H6 (AVal.ptr nx 0) = some v302 ∧ call 17
 [v302, iv 10] H6 (nx + 1 + 1 + 21) fun e303 H304 i305 => onEnd e303 (fun v306 => ∃ n307 : Int, v306 = iv n307 ∧ ifB (decide (n307 = 0)) (true = true ∧ true = true ∧ true = true ∧
 true = true ∧ true = true ∧ true = true ∧ ∃ v308, ld1 H304 (AVal.ptr nx 0) = some v308 ∧ ((∃ v309, ld1 H304 (AVal.ptr nx 0) = some v309 ∧ v309 = v308) ∧ True) ∧ ∃ x310 l311, some
 (54, [iv 0, AVal.ptr nx 0, AVal.ptr (nx + 1) 0]) = some (x310, l311) ∧ call x310 l311 H304 (i305 + 13) fun e312 H313 i314 => onEnd e312 (fun v315 => ∃ s316, v315 = AVal.str s316 ∧ 1
 + s316.length ≤ 9223372036854775807 ∧ ((∃ v317, ld1 H313 (AVal.ptr nx 0) = some v317 ∧ v317 = v308) ∧ True) ∧ call f_mk_next [v308, iv 6] H313 i314 fun e318 H319 i320 => onEnd e318 (fun
 v321 => ∃ n322 : Int, v321 = iv n322 ∧ 0 ≤ n322 ∧ n322.toNat < 6 ∧ ∃ s323, aPart PG t_str [AVal.str [32, 60, 32], AVal.str [32, 60, 61, 32], AVal.str [32, 62, 32], AVal.str [32,
 62, 61, 32], AVal.str [32, 61, 61, 32], AVal.str [32, 33, 61, 32]] (n322.toNat * 1) = some (AVal.str s323) ∧ ([40] ++ s316).length + s323.length ≤ 9223372036854775807 ∧ True ∧ ∃
 x324 l325, some (54, [iv 0, AVal.ptr nx 0, AVal.ptr (nx + 1) 0]) = some (x324, l325) ∧ call x324 l325 H319 i320 fun e326 H327 i328 => onEnd e326 (fun v329 => ∃ s330, v329 = AVal.str
 s330 ∧ ([40] ++ s316 ++ s323).length + s330.length ≤ 9223372036854775807 ∧ ([40] ++ s316 ++ s323 ++ s330).length + 1 ≤ 9223372036854775807 ∧ True ∧ K (AEnd.ret (AVal.str ([40] ++
 s316 ++ s323 ++ s330 ++ [41]))) H327 i328) fun l331 => K (AEnd.pan l331) H327 i328) fun l332 => K (AEnd.pan l332) H319 i320) fun l333 => K (AEnd.pan l333) H313 i314) (ifB (decide
 (n307 = 1)) (true = true ∧ true = true ∧ true = true ∧ true = true ∧ true = true ∧ true = true ∧ ∃ v334, ld1 H304 (AVal.ptr nx 0) = some v334 ∧ ((∃ v335, ld1 H304 (AVal.ptr nx 0) =
 some v335 ∧ v335 = v334) ∧ True) ∧ ∃ x336 l337, some (54, [iv 0, AVal.ptr nx 0, AVal.ptr (nx + 1) 0]) = some (x336, l337) ∧ call x336 l337 H304 (i305 + 13) fun e338 H339 i340 =>
 onEnd e338 (fun v341 => ∃ s342, v341 = AVal.str s342 ∧ 1 + s342.length ≤ 9223372036854775807 ∧ ((∃ v343, ld1 H339 (AVal.ptr nx 0) = some v343 ∧ v343 = v334) ∧ True) ∧ call f_mk_next [v334,
 iv 6] H339 i340 fun e344 H345 i346 => onEnd e344 (fun v347 => ∃ n348 : Int, v347 = iv n348 ∧ 0 ≤ n348 ∧ n348.toNat < 6 ∧ ∃ s349, aPart PG t_str [AVal.str [32, 60, 32], AVal.str
 [32, 60, 61, 32], AVal.str [32, 62, 32], AVal.str [32, 62, 61, 32], AVal.str [32, 61, 61, 32], AVal.str [32, 33, 61, 32]] (n348.toNat * 1) = some (AVal.str s349) ∧ ([40] ++
 s342).length + s349.length ≤ 9223372036854775807 ∧ True ∧ ∃ x350 l351, some (54, [iv 0, AVal.ptr nx 0, AVal.ptr (nx + 1) 0]) = some (x350, l351) ∧ call x350 l351 H345 i346 fun e352
 H353 i354 => onEnd e352 (fun v355 => ∃ s356, v355 = AVal.str s356 ∧ ([40] ++ s342 ++ s349).length + s356.length ≤ 9223372036854775807 ∧ ([40] ++ s342 ++ s349 ++ s356).length + 1 ≤
 9223372036854775807 ∧ True ∧ K (AEnd.ret (AVal.str ([40] ++ s342 ++ s349 ++ s356 ++ [41]))) H353 i354) fun l357 => K (AEnd.pan l357) H353 i354) fun l358 => K (AEnd.pan l358) H345
 i346) fun l359 => K (AEnd.pan l359) H339 i340) (ifB (decide (n307 = 2)) (true = true ∧ true = true ∧ true = true ∧ true = true ∧ true = true ∧ true = true ∧ ∃ v360, ld1 H304
 (AVal.ptr nx 0) = some v360 ∧ ((∃ v361, ld1 H304 (AVal.ptr nx 0) = some v361 ∧ v361 = v360) ∧ True) ∧ ∃ x362 l363, some (54, [iv 0, AVal.ptr nx 0, AVal.ptr (nx + 1) 0]) = some
 (x362, l363) ∧ call x362 l363 H304 (i305 + 13) fun e364 H365 i366 => onEnd e364 (fun v367 => ∃ s368, v367 = AVal.str s368 ∧ 1 + s368.length ≤ 9223372036854775807 ∧ ((∃ v369, ld1
 H365 (AVal.ptr nx 0) = some v369 ∧ v369 = v360) ∧ True) ∧ call f_mk_next [v360, iv 6] H365 i366 fun e370 H371 i372 => onEnd e370 (fun v373 => ∃ n374 : Int, v373 = iv n374 ∧ 0 ≤ n374 ∧
 n374.toNat < 6 ∧ ∃ s375, aPart PG t_str [AVal.str [32, 60, 32], AVal.str [32, 60, 61, 32], AVal.str [32, 62, 32], AVal.str [32, 62, 61, 32], AVal.str [32, 61, 61, 32], AVal.str
 [32, 33, 61, 32]] (n374.toNat * 1) = some (AVal.str s375) ∧ ([40] ++ s368).length + s375.length ≤ 9223372036854775807 ∧ True ∧ ∃ x376 l377, some (54, [iv 0, AVal.ptr nx 0, AVal.ptr
 (nx + 1) 0]) = some (x376, l377) ∧ call x376 l377 H371 i372 fun e378 H379 i380 => onEnd e378 (fun v381 => ∃ s382, v381 = AVal.str s382 ∧ ([40] ++ s368 ++ s375).length + s382.length
 ≤ 9223372036854775807 ∧ ([40] ++ s368 ++ s375 ++ s382).length + 1 ≤ 9223372036854775807 ∧ True ∧ K (AEnd.ret (AVal.str ([40] ++ s368 ++ s375 ++ s382 ++ [41]))) H379 i380) fun l383
 => K (AEnd.pan l383) H379 i380) fun l384 => K (AEnd.pan l384) H371 i372) fun l385 => K (AEnd.pan l385) H365 i366) (ifB (decide (n307 = 3)) (∃ x386 l387, some (54, [iv 1, AVal.ptr nx
 0, AVal.ptr (nx + 1) 0]) = some (x386, l387) ∧ call x386 l387 H304 i305 fun e388 H389 i390 => onEnd e388 (fun v391 => ∃ s392, v391 = AVal.str s392 ∧ 1 + s392.length ≤
 9223372036854775807 ∧ ([40] ++ s392).length + 4 ≤ 9223372036854775807 ∧ ∃ x393 l394, some (54, [iv 1, AVal.ptr nx 0, AVal.ptr (nx + 1) 0]) = some (x393, l394) ∧ call x393 l394 H389
 i390 fun e395 H396 i397 => onEnd e395 (fun v398 => ∃ s399, v398 = AVal.str s399 ∧ ([40] ++ s392 ++ [32, 38, 38, 32]).length + s399.length ≤ 9223372036854775807 ∧ ([40] ++ s392 ++
 [32, 38, 38, 32] ++ s399).length + 1 ≤ 9223372036854775807 ∧ K (AEnd.ret (AVal.str ([40] ++ s392 ++ [32, 38, 38, 32] ++ s399 ++ [41]))) H396 i397) fun l400 => K (AEnd.pan l400) H396
 i397) fun l401 => K (AEnd.pan l401) H389 i390) (ifB (decide (n307 = 4)) (∃ x402 l403, some (54, [iv 1, AVal.ptr nx 0, AVal.ptr (nx + 1) 0]) = some (x402, l403) ∧ call x402 l403 H304
 i305 fun e404 H405 i406 => onEnd e404 (fun v407 => ∃ s408, v407 = AVal.str s408 ∧ 1 + s408.length ≤ 9223372036854775807 ∧ ([40] ++ s408).length + 4 ≤ 9223372036854775807 ∧ ∃ x409
 l410, some (54, [iv 1, AVal.ptr nx 0, AVal.ptr (nx + 1) 0]) = some (x409, l410) ∧ call x409 l410 H405 i406 fun e411 H412 i413 => onEnd e411 (fun v414 => ∃ s415, v414 = AVal.str s415
 ∧ ([40] ++ s408 ++ [32, 124, 124, 32]).length + s415.length ≤ 9223372036854775807 ∧ ([40] ++ s408 ++ [32, 124, 124, 32] ++ s415).length + 1 ≤ 9223372036854775807 ∧ K (AEnd.ret
 (AVal.str ([40] ++ s408 ++ [32, 124, 124, 32] ++ s415 ++ [41]))) H412 i413) fun l416 => K (AEnd.pan l416) H412 i413) fun l417 => K (AEnd.pan l417) H405 i406) (ifB (decide (n307 =
 5)) (∃ x418 l419, some (54, [iv 1, AVal.ptr nx 0, AVal.ptr (nx + 1) 0]) = some (x418, l419) ∧ call x418 l419 H304 i305 fun e420 H421 i422 => onEnd e420 (fun v423 => ∃ s424, v423 =
 AVal.str s424 ∧ 2 + s424.length ≤ 9223372036854775807 ∧ ([40, 33] ++ s424).length + 1 ≤ 9223372036854775807 ∧ K (AEnd.ret (AVal.str ([40, 33] ++ s424 ++ [41]))) H421 i422) fun l425
 => K (AEnd.pan l425) H421 i422) (ifB (decide (n307 = 6)) (true = true ∧ true = true ∧ ∃ v426, ld1 H304 (AVal.ptr nx 0) = some v426 ∧ ((∃ v427, ld1 H304 (AVal.ptr nx 0) = some v427 ∧
 v427 = v426) ∧ True) ∧ ∃ x428 l429, some (54, [iv 4, AVal.ptr nx 0, AVal.ptr (nx + 1) 0]) = some (x428, l429) ∧ call x428 l429 H304 (i305 + 10) fun e430 H431 i432 => onEnd e430 (fun
 v433 => ∃ s434, v433 = AVal.str s434 ∧ 1 + s434.length ≤ 9223372036854775807 ∧ ((∃ v435, ld1 H431 (AVal.ptr nx 0) = some v435 ∧ v435 = v426) ∧ True) ∧ call f_mk_next [v426, iv 2] H431 i432
 fun e436 H437 i438 => onEnd e436 (fun v439 => ∃ n440 : Int, v439 = iv n440 ∧ 0 ≤ n440 ∧ n440.toNat < 2 ∧ ∃ s441, aPart PG t_str [AVal.str [32, 61, 61, 32], AVal.str [32, 33, 61,
 32]] (n440.toNat * 1) = some (AVal.str s441) ∧ ([40] ++ s434).length + s441.length ≤ 9223372036854775807 ∧ ([40] ++ s434 ++ s441).length + 4 ≤ 9223372036854775807 ∧ True ∧ K
 (AEnd.ret (AVal.str ([40] ++ s434 ++ s441 ++ [110, 105, 108, 41]))) H437 i438) fun l442 => K (AEnd.pan l442) H437 i438) fun l443 => K (AEnd.pan l443) H431 i432) (ifB (decide (n307 =
 7)) (true = true ∧ true = true ∧ ∃ v444, ld1 H304 (AVal.ptr nx 0) = some v444 ∧ ((∃ v445, ld1 H304 (AVal.ptr nx 0) = some v445 ∧ v445 = v444) ∧ True) ∧ ∃ x446 l447, some (54, [iv 6,
 AVal.ptr nx 0, AVal.ptr (nx + 1) 0]) = some (x446, l447) ∧ call x446 l447 H304 (i305 + 13) fun e448 H449 i450 => onEnd e448 (fun v451 => ∃ s452, v451 = AVal.str s452 ∧ 1 +
 s452.length ≤ 9223372036854775807 ∧ ([40] ++ s452).length + 4 ≤ 9223372036854775807 ∧ ((∃ v453, ld1 H449 (AVal.ptr nx 0) = some v453 ∧ v453 = v444) ∧ True) ∧ call f_mk_next [v444, iv 2]
 H449 i450 fun e454 H455 i456 => onEnd e454 (fun v457 => ∃ n458 : Int, v457 = iv n458 ∧ 0 ≤ n458 ∧ n458.toNat < 2 ∧ ∃ n459 : Int, aPart PG t_int [iv 4, iv 6] (n458.toNat * 1) =
 some (iv n459) ∧ True ∧ ∃ x460 l461, some (54, [iv n459, AVal.ptr nx 0, AVal.ptr (nx + 1) 0]) = some (x460, l461) ∧ call x460 l461 H455 i456 fun e462 H463 i464 => onEnd e462 (fun
 v465 => ∃ s466, v465 = AVal.str s466 ∧ ([40] ++ s452 ++ [32, 61, 61, 32]).length + s466.length ≤ 9223372036854775807 ∧ ([40] ++ s452 ++ [32, 61, 61, 32] ++ s466).length + 1 ≤
 9223372036854775807 ∧ True ∧ K (AEnd.ret (AVal.str ([40] ++ s452 ++ [32, 61, 61, 32] ++ s466 ++ [41]))) H463 i464) fun l467 => K (AEnd.pan l467) H463 i464) fun l468 => K (AEnd.pan
 l468) H455 i456) fun l469 => K (AEnd.pan l469) H449 i450) (ifB (decide (n307 = 8)) (true = true ∧ true = true ∧ true = true ∧ true = true ∧ ∃ v470, ld1 H304 (AVal.ptr nx 0) = some
 v470 ∧ ((∃ v471, ld1 H304 (AVal.ptr nx 0) = some v471 ∧ v471 = v470) ∧ True) ∧ ∃ x472 l473, some (54, [iv 2, AVal.ptr nx 0, AVal.ptr (nx + 1) 0]) = some (x472, l473) ∧ call x472
 l473 H304 (i305 + 13) fun e474 H475 i476 => onEnd e474 (fun v477 => ∃ s478, v477 = AVal.str s478 ∧ 1 + s478.length ≤ 9223372036854775807 ∧ ((∃ v479, ld1 H475 (AVal.ptr nx 0) = some
 v479 ∧ v479 = v470) ∧ True) ∧ call f_mk_next [v470, iv 4] H475 i476 fun e480 H481 i482 => onEnd e480 (fun v483 => ∃ n484 : Int, v483 = iv n484 ∧ 0 ≤ n484 ∧ n484.toNat < 4 ∧ ∃ s485, aPart PG t_str [AVal.str [32, 60, 32], AVal.str [32, 61, 61, 32], AVal.str [32, 62, 61, 32], AVal.str [32, 33, 61, 32]] (n484.toNat * 1) = some (AVal.str s485) ∧ ([40] ++ s478).length
 + s485.length ≤ 9223372036854775807 ∧ True ∧ ∃ x486 l487, some (54, [iv 2, AVal.ptr nx 0, AVal.ptr (nx + 1) 0]) = some (x486, l487) ∧ call x486 l487 H481 i482 fun e488 H489 i490 =>
 onEnd e488 (fun v491 => ∃ s492, v491 = AVal.str s492 ∧ ([40] ++ s478 ++ s485).length + s492.length ≤ 9223372036854775807 ∧ ([40] ++ s478 ++ s485 ++ s492).length + 1 ≤
 9223372036854775807 ∧ True ∧ K (AEnd.ret (AVal.str ([40] ++ s478 ++ s485 ++ s492 ++ [41]))) H489 i490) fun l493 => K (AEnd.pan l493) H489 i490) fun l494 => K (AEnd.pan l494) H481
 i482) fun l495 => K (AEnd.pan l495) H475 i476) (∃ v496, ld1 H304 (AVal.ptr nx 0) = some v496 ∧ call f_mk_leaf [v496, iv t] H304 i305 fun e497 H498 i499 => onEnd e497 (fun v500 => ∃ s501,
 v500 = AVal.str s501 ∧ K (AEnd.ret (AVal.str s501)) H498 i499) fun l502 => K (AEnd.pan l502) H498 i499)))))))))) fun l503 => K (AEnd.pan l503) H304 i305) (ifB (decide (t = 2)) (∃
 v504, ld1 H6 (AVal.ptr nx 0) = some v504 ∧ call f_mk_next [v504, iv 3] H6 (nx + 1 + 1 + 21) fun e505 H506 i507 => onEnd e505 (fun v508 => ∃ n509 : Int, v508 = iv n509 ∧ ifB (decide (n509 =
 0)) (∃ x510 l511, some (54, [iv 2, AVal.ptr nx 0, AVal.ptr (nx + 1) 0]) = some (x510, l511) ∧ call x510 l511 H506 i507 fun e512 H513 i514 => onEnd e512 (fun v515 => ∃ s516, v515 =
 AVal.str s516 ∧ 1 + s516.length ≤ 9223372036854775807 ∧ ([40] ++ s516).length + 3 ≤ 9223372036854775807 ∧ ∃ x517 l518, some (54, [iv 2, AVal.ptr nx 0, AVal.ptr (nx + 1) 0]) = some
 (x517, l518) ∧ call x517 l518 H513 i514 fun e519 H520 i521 => onEnd e519 (fun v522 => ∃ s523, v522 = AVal.str s523 ∧ ([40] ++ s516 ++ [32, 43, 32]).length + s523.length ≤
 9223372036854775807 ∧ ([40] ++ s516 ++ [32, 43, 32] ++ s523).length + 1 ≤ 9223372036854775807 ∧ K (AEnd.ret (AVal.str ([40] ++ s516 ++ [32, 43, 32] ++ s523 ++ [41]))) H520 i521) fun
 l524 => K (AEnd.pan l524) H520 i521) fun l525 => K (AEnd.pan l525) H513 i514) (∃ v526, ld1 H506 (AVal.ptr nx 0) = some v526 ∧ call f_mk_leaf [v526, iv t] H506 i507 fun e527 H528 i529 =>
 onEnd e527 (fun v530 => ∃ s531, v530 = AVal.str s531 ∧ K (AEnd.ret (AVal.str s531)) H528 i529) fun l532 => K (AEnd.pan l532) H528 i529)) fun l533 => K (AEnd.pan l533) H506 i507)
 (ifB (decide (t = 3)) (∃ v534, ld1 H6 (AVal.ptr nx 0) = some v534 ∧ call f_mk_next [v534, iv 5] H6 (nx + 1 + 1 + 21) fun e535 H536 i537 => onEnd e535 (fun v538 => ∃ n539 : Int, v538 = iv
 n539 ∧ ifB (decide (n539 = 0)) (∃ x540 l541, some (54, [iv 0, AVal.ptr nx 0, AVal.ptr (nx + 1) 0]) = some (x540, l541) ∧ call x540 l541 H536 i537 fun e542 H543 i544 => onEnd e542
 (fun v545 => ∃ s546, v545 = AVal.str s546 ∧ 12 + s546.length ≤ 9223372036854775807 ∧ ([109, 97, 107, 101, 40, 91, 93, 105, 110, 116, 44, 32] ++ s546).length + 1 ≤
 9223372036854775807 ∧ K (AEnd.ret (AVal.str ([109, 97, 107, 101, 40, 91, 93, 105, 110, 116, 44, 32] ++ s546 ++ [41]))) H543 i544) fun l547 => K (AEnd.pan l547) H543 i544) (ifB
 (decide (n539 = 1)) (∃ x548 l549, some (54, [iv 5, AVal.ptr nx 0, AVal.ptr (nx + 1) 0]) = some (x548, l549) ∧ call x548 l549 H536 i537 fun e550 H551 i552 => onEnd e550 (fun v553 =>
 ∃ s554, v553 = AVal.str s554 ∧ s554.length + 2 ≤ 9223372036854775807 ∧ K (AEnd.ret (AVal.str (s554 ++ [46, 115]))) H551 i552) fun l555 => K (AEnd.pan l555) H551 i552) (∃ v556, ld1
 H536 (AVal.ptr nx 0) = some v556 ∧ call f_mk_leaf [v556, iv t] H536 i537 fun e557 H558 i559 => onEnd e557 (fun v560 => ∃ s561, v560 = AVal.str s561 ∧ K (AEnd.ret (AVal.str s561)) H558
 i559) fun l562 => K (AEnd.pan l562) H558 i559))) fun l563 => K (AEnd.pan l563) H536 i537) (ifB (decide (t = 4)) (∃ v564, ld1 H6 (AVal.ptr nx 0) = some v564 ∧ call f_mk_next [v564, iv 6] H6
 (nx + 1 + 1 + 21) fun e565 H566 i567 => onEnd e565 (fun v568 => ∃ n569 : Int, v568 = iv n569 ∧ ifB (decide (n569 = 0)) (K (AEnd.ret (AVal.str [110, 101, 119, 40, 80, 41])) H566
 i567) (ifB (decide (n569 = 1)) (∃ x570 l571, some (54, [iv 4, AVal.ptr nx 0, AVal.ptr (nx + 1) 0]) = some (x570, l571) ∧ call x570 l571 H566 i567 fun e572 H573 i574 => onEnd e572
 (fun v575 => ∃ s576, v575 = AVal.str s576 ∧ s576.length + 2 ≤ 9223372036854775807 ∧ K (AEnd.ret (AVal.str (s576 ++ [46, 110]))) H573 i574) fun l577 => K (AEnd.pan l577) H573 i574)
 (ifB (decide (n569 = 2)) (∃ x578 l579, some (54, [iv 6, AVal.ptr nx 0, AVal.ptr (nx + 1) 0]) = some (x578, l579) ∧ call x578 l579 H566 i567 fun e580 H581 i582 => onEnd e580 (fun
 v583 => ∃ s584, v583 = AVal.str s584 ∧ s584.length + 4 ≤ 9223372036854775807 ∧ K (AEnd.ret (AVal.str (s584 ++ [46, 40, 80, 41]))) H581 i582) fun l585 => K (AEnd.pan l585) H581 i582)
 (ifB (decide (n569 = 3)) (∃ v586, ld1 H566 (AVal.ptr nx 0) = some v586 ∧ notNil v586 = true ∧ ∃ v587, addOff v586 8 = some v587 ∧ ∃ b588, ld1 H566 v587 = some (AVal.bool b588) ∧ ifB
 b588 (∃ x589 l590, some (54, [iv 4, AVal.ptr nx 0, AVal.ptr (nx + 1) 0]) = some (x589, l590) ∧ call x589 l590 H566 i567 fun e591 H592 i593 => onEnd e591 (fun v594 => ∃ s595, v594 =
 AVal.str s595 ∧ 2 + s595.length ≤ 9223372036854775807 ∧ ([104, 40] ++ s595).length + 1 ≤ 9223372036854775807 ∧ K (AEnd.ret (AVal.str ([104, 40] ++ s595 ++ [41]))) H592 i593) fun
 l596 => K (AEnd.pan l596) H592 i593) (∃ v597, ld1 H566 (AVal.ptr nx 0) = some v597 ∧ call f_mk_leaf [v597, iv t] H566 i567 fun e598 H599 i600 => onEnd e598 (fun v601 => ∃ s602, v601 =
 AVal.str s602 ∧ K (AEnd.ret (AVal.str s602)) H599 i600) fun l603 => K (AEnd.pan l603) H599 i600)) (∃ v604, ld1 H566 (AVal.ptr nx 0) = some v604 ∧ call f_mk_leaf [v604, iv t] H566 i567 fun
 e605 H606 i607 => onEnd e605 (fun v608 => ∃ s609, v608 = AVal.str s609 ∧ K (AEnd.ret (AVal.str s609)) H606 i607) fun l610 => K (AEnd.pan l610) H606 i607))))) fun l611 => K (AEnd.pan
 l611) H566 i567) (ifB (decide (t = 5)) (∃ v612, ld1 H6 (AVal.ptr nx 0) = some v612 ∧ call f_mk_next [v612, iv 3] H6 (nx + 1 + 1 + 21) fun e613 H614 i615 => onEnd e613 (fun v616 => ∃ n617 :
 Int, v616 = iv n617 ∧ ifB (decide (n617 = 0)) (K (AEnd.ret (AVal.str [110, 101, 119, 40, 81, 41])) H614 i615) (∃ v618, ld1 H614 (AVal.ptr nx 0) = some v618 ∧ call f_mk_leaf [v618, iv t]
 H614 i615 fun e619 H620 i621 => onEnd e619 (fun v622 => ∃ s623, v622 = AVal.str s623 ∧ K (AEnd.ret (AVal.str s623)) H620 i621) fun l624 => K (AEnd.pan l624) H620 i621)) fun l625 =>
 K (AEnd.pan l625) H614 i615) (ifB (decide (t = 6)) (∃ v626, ld1 H6 (AVal.ptr nx 0) = some v626 ∧ call f_mk_next [v626, iv 5] H6 (nx + 1 + 1 + 21) fun e627 H628 i629 => onEnd e627 (fun v630
 => ∃ n631 : Int, v630 = iv n631 ∧ ifB (decide (n631 = 0)) (∃ x632 l633, some (54, [iv 4, AVal.ptr nx 0, AVal.ptr (nx + 1) 0]) = some (x632, l633) ∧ call x632 l633 H628 i629 fun e634
 H635 i636 => onEnd e634 (fun v637 => ∃ s638, v637 = AVal.str s638 ∧ s638.length + 2 ≤ 9223372036854775807 ∧ K (AEnd.ret (AVal.str (s638 ++ [46, 105]))) H635 i636) fun l639 => K
 (AEnd.pan l639) H635 i636) (∃ v640, ld1 H628 (AVal.ptr nx 0) = some v640 ∧ call f_mk_leaf [v640, iv t] H628 i629 fun e641 H642 i643 => onEnd e641 (fun v644 => ∃ s645, v644 = AVal.str s645
 ∧ K (AEnd.ret (AVal.str s645)) H642 i643) fun l646 => K (AEnd.pan l646) H642 i643)) fun l647 => K (AEnd.pan l647) H628 i629) (∃ v648, ld1 H6 (AVal.ptr nx 0) = some v648 ∧ call 53
 [v648, iv t] H6 (nx + 1 + 1 + 21) fun e649 H650 i651 => onEnd e649 (fun v652 => ∃ s653, v652 = AVal.str s653 ∧ K (AEnd.ret (AVal.str s653)) H650 i651) fun l654 => K (AEnd.pan l654)
 H650 i651))))))))))
theorem Fmk_expr_eq (call : CallP) (lp : Nat → LoopP) (lv : LeaveP) (lvc : LeaveC) (k : Nat) (t : Int) (d : Int) (H : Heap) (nx : Nat) (K : EndP) : vBody PG call lp f_mk_expr [AVal.ptr k 0, iv t, iv d] H nx (endK PG lv lvc K) = Fmk_expr call lp lv lvc k t d H nx K := by kernel_rfl
def Fmk_expr_1 (call : CallP) (lp : Nat → LoopP) (lv : LeaveP) (lvc : LeaveC) (t : Int) (kc : Nat) (dc : Nat) (H : Heap) (nx : Nat) (K : EndP) : Prop :=
 ∃ v0, ld1 H (AVal.ptr kc 0) = some v0 ∧ ∃ n1 : Int, ld1 H (AVal.ptr dc 0) = some (iv n1) ∧ call f_mk_expr [v0, iv t, iv (IntKind.i64.wrap (n1 - 1))] H nx fun e2 H3 i4 => onEnd e2 (fun v5
 => ∃ s6, v5 = AVal.str s6 ∧ K (AEnd.ret (AVal.str s6)) H3 i4) fun l7 => K (AEnd.pan l7) H3 i4
theorem Fmk_expr_1_eq (call : CallP) (lp : Nat → LoopP) (lv : LeaveP) (lvc : LeaveC) (t : Int) (kc : Nat) (dc : Nat) (H : Heap) (nx : Nat) (K : EndP) : vBody PG call lp f_mk_expr_1 [iv t, AVal.ptr kc 0, AVal.ptr dc 0] H nx (endK PG lv lvc K) = Fmk_expr_1 call lp lv lvc t kc dc H nx K := by kernel_rfl
def Fmk_stmts (call : CallP) (lp : Nat → LoopP) (lv : LeaveP) (lvc : LeaveC) (k : Nat) (n : Int) (d : Int) (H : Heap) (nx : Nat) (K : EndP) : Prop :=
 ∃ H0, H0 = newB nx [] H ∧ true = true ∧ ∃ v1, some (AVal.ptr k 2) = some v1 ∧ ∃ v2, ld1 H0 v1 = some v2 ∧ ∃ i3 l4, aSrc 1 H0 v2 = some (i3, l4) ∧ allCell l4 = true ∧ ∃ v5 H6 i7,
 appC H0 (nx + 1) 1 24 (AVal.slice nx 0 0 1 true) i3 l4 = some (v5, H6, i7) ∧ call f_mk_next [AVal.ptr k 0, iv 4] H6 i7 fun e8 H9 i10 => onEnd e8 (fun v11 => ∃ n12 : Int, v11 = iv n12 ∧ lp
 29 (subAt (codeOf PG 30) [1, 0, 1, 0, 0]) (envL (AVal.tuple []) [(7, iv (IntKind.i64.wrap (1 + n12))), (16, iv (IntKind.i64.wrap (1 + n12))), (15, iv n12), (14, AVal.ptr k
 0), (6, v5), (13, v5), (12, v2), (11, v1), (10, AVal.ptr k 0), (9, AVal.ptr k 0), (8, AVal.slice nx 0 0 1 true), (2, iv d), (1, iv n), (0, AVal.ptr k 0)]) H9 i10 [] none (contAt
 PG call (lp 29) 29 (codeOf PG 30) [1, 0, 1, 0] (endK PG lv lvc K (resOf PG 30)))) fun l13 => K (AEnd.pan l13) H9 i10
theorem Fmk_stmts_eq (call : CallP) (lp : Nat → LoopP) (lv : LeaveP) (lvc : LeaveC) (k : Nat) (n : Int) (d : Int) (H : Heap) (nx : Nat) (K : EndP) : vBody PG call lp f_mk_stmts [AVal.ptr k 0, iv n, iv d] H nx (endK PG lv lvc K) = Fmk_stmts call lp lv lvc k n d H nx K := by kernel_rfl
def Fmk_stmt (call : CallP) (lp : Nat → LoopP) (lv : LeaveP) (lvc : LeaveC) (k : Nat) (n : Int) (d : Int) (H : Heap) (nx : Nat) (K : EndP) : Prop :=
 true = true ∧ ∃ v0, some (AVal.ptr k 5) = some v0 ∧ ∃ n1 : Int, ld1 H v0 = some (iv n1) ∧ ifB (decide (70 < n1)) (call f_mk_leaf [AVal.ptr k 0, iv 0] H nx fun e2 H3 i4 => onEnd e2 (fun v5
 => ∃ s6, v5 = AVal.str s6 ∧ 6 + s6.length ≤ 9223372036854775807 ∧ ([112, 114, 105, 110, 116, 40] ++ s6).length + 1 ≤ 9223372036854775807 ∧ call f_mk_line [AVal.ptr k 0, iv n, AVal.str
 ([112, 114, 105, 110, 116, 40] ++ s6 ++ [41])] H3 i4 fun e7 H8 i9 => onEnd e7 (fun v10 => K (AEnd.ret (AVal.tuple [])) H8 i9) fun l11 => K (AEnd.pan l11) H8 i9) fun l12 => K
 (AEnd.pan l12) H3 i4) (true = true ∧ ∃ v13, some (AVal.ptr k 3) = some v13 ∧ ∃ n14 : Int, ld1 H v13 = some (iv n14) ∧ ifB (decide (24 < n14)) (call f_mk_leaf [AVal.ptr k 0, iv 0] H nx fun
 e15 H16 i17 => onEnd e15 (fun v18 => ∃ s19, v18 = AVal.str s19 ∧ 6 + s19.length ≤ 9223372036854775807 ∧ ([112, 114, 105, 110, 116, 40] ++ s19).length + 1 ≤ 9223372036854775807 ∧
 call f_mk_line [AVal.ptr k 0, iv n, AVal.str ([112, 114, 105, 110, 116, 40] ++ s19 ++ [41])] H16 i17 fun e20 H21 i22 => onEnd e20 (fun v23 => K (AEnd.ret (AVal.tuple [])) H21 i22) fun l24
 => K (AEnd.pan l24) H21 i22) fun l25 => K (AEnd.pan l25) H16 i17) (call f_mk_next [AVal.ptr k 0, iv 15] H nx fun e26 H27 i28 => onEnd e26 (fun v29 => ∃ n30 : Int, v29 = iv n30 ∧ ifB
 (decide (n30 = 0)) (call f_mk_next [AVal.ptr k 0, iv 7] H27 i28 fun e31 H32 i33 => onEnd e31 (fun v34 => ∃ n35 : Int, v34 = iv n35 ∧ call f_mk_expr [AVal.ptr k 0, iv n35, iv 2] H32 i33 fun e36
 H37 i38 => onEnd e36 (fun v39 => ∃ s40, v39 = AVal.str s40 ∧ call f_mk_declare [AVal.ptr k 0, iv n35, iv n, AVal.str s40] H37 i38 fun e41 H42 i43 => onEnd e41 (fun v44 => K (AEnd.ret
 (AVal.tuple [])) H42 i43) fun l45 => K (AEnd.pan l45) H42 i43) fun l46 => K (AEnd.pan l46) H37 i38) fun l47 => K (AEnd.pan l47) H32 i33) (ifB (decide (n30 = 1)) (call f_mk_next [AVal.ptr k
 0, iv 7] H27 i28 fun e48 H49 i50 => onEnd e48 (fun v51 => ∃ n52 : Int, v51 = iv n52 ∧ call f_mk_expr [AVal.ptr k 0, iv n52, iv 2] H49 i50 fun e53 H54 i55 => onEnd e53 (fun v56 => ∃ s57,
 v56 = AVal.str s57 ∧ call f_mk_declare [AVal.ptr k 0, iv n52, iv n, AVal.str s57] H54 i55 fun e58 H59 i60 => onEnd e58 (fun v61 => K (AEnd.ret (AVal.tuple [])) H59 i60) fun l62 => K (AEnd.pan
 l62) H59 i60) fun l63 => K (AEnd.pan l63) H54 i55) fun l64 => K (AEnd.pan l64) H49 i50) (ifB (decide (n30 = 2)) (call f_mk_v [AVal.ptr k 0, iv 0] H27 i28 fun e65 H66 i67 => onEnd e65
 (fun v68 => ∃ s69, v68 = AVal.str s69 ∧ ifB (!s69 == []) (s69.length + 3 ≤ 9223372036854775807 ∧ call f_mk_expr [AVal.ptr k 0, iv 0, iv 3] H66 i67 fun e70 H71 i72 => onEnd e70 (fun v73 =>
 ∃ s74, v73 = AVal.str s74 ∧ (s69 ++ [32, 61, 32]).length + s74.length ≤ 9223372036854775807 ∧ call f_mk_line [AVal.ptr k 0, iv n, AVal.str (s69 ++ [32, 61, 32] ++ s74)] H71 i72 fun e75 H76
 i77 => onEnd e75 (fun v78 => K (AEnd.ret (AVal.tuple [])) H76 i77) fun l79 => K (AEnd.pan l79) H76 i77) fun l80 => K (AEnd.pan l80) H71 i72) (K (AEnd.ret (AVal.tuple [])) H66 i67))
 fun l81 => K (AEnd.pan l81) H66 i67) (ifB (decide (n30 = 3)) (call f_mk_v [AVal.ptr k 0, iv 0] H27 i28 fun e82 H83 i84 => onEnd e82 (fun v85 => ∃ s86, v85 = AVal.str s86 ∧ ifB (!s86 ==
 []) (s86.length + 3 ≤ 9223372036854775807 ∧ call f_mk_expr [AVal.ptr k 0, iv 0, iv 3] H83 i84 fun e87 H88 i89 => onEnd e87 (fun v90 => ∃ s91, v90 = AVal.str s91 ∧ (s86 ++ [32, 61,
 32]).length + s91.length ≤ 9223372036854775807 ∧ call f_mk_line [AVal.ptr k 0, iv n, AVal.str (s86 ++ [32, 61, 32] ++ s91)] H88 i89 fun e92 H93 i94 => onEnd e92 (fun v95 => K (AEnd.ret
 (AVal.tuple [])) H93 i94) fun l96 => K (AEnd.pan l96) H93 i94) fun l97 => K (AEnd.pan l97) H88 i89) (K (AEnd.ret (AVal.tuple [])) H83 i84)) fun l98 => K (AEnd.pan l98) H83 i84) (ifB
 (decide (n30 = 4)) (call f_mk_v [AVal.ptr k 0, iv 0] H27 i28 fun e99 H100 i101 => onEnd e99 (fun v102 => ∃ s103, v102 = AVal.str s103 ∧ ifB (!s103 == []) (s103.length + 3 ≤
 9223372036854775807 ∧ call f_mk_expr [AVal.ptr k 0, iv 0, iv 3] H100 i101 fun e104 H105 i106 => onEnd e104 (fun v107 => ∃ s108, v107 = AVal.str s108 ∧ (s103 ++ [32, 61, 32]).length +
 s108.length ≤ 9223372036854775807 ∧ call f_mk_line [AVal.ptr k 0, iv n, AVal.str (s103 ++ [32, 61, 32] ++ s108)] H105 i106 fun e109 H110 i111 => onEnd e109 (fun v112 => K (AEnd.ret
 (AVal.tuple [])) H110 i111) fun l113 => K (AEnd.pan l113) H110 i111) fun l114 => K (AEnd.pan l114) H105 i106) (K (AEnd.ret (AVal.tuple [])) H100 i101)) fun l115 => K (AEnd.pan l115)
 H100 i101) (ifB (decide (n30 = 5)) (call f_mk_v [AVal.ptr k 0, iv 1] H27 i28 fun e116 H117 i118 => onEnd e116 (fun v119 => ∃ s120, v119 = AVal.str s120 ∧ ifB (!s120 == []) (s120.length
 + 3 ≤ 9223372036854775807 ∧ call f_mk_expr [AVal.ptr k 0, iv 1, iv 2] H117 i118 fun e121 H122 i123 => onEnd e121 (fun v124 => ∃ s125, v124 = AVal.str s125 ∧ (s120 ++ [32, 61, 32]).length +
 s125.length ≤ 9223372036854775807 ∧ call f_mk_line [AVal.ptr k 0, iv n, AVal.str (s120 ++ [32, 61, 32] ++ s125)] H122 i123 fun e126 H127 i128 => onEnd e126 (fun v129 => K (AEnd.ret
 (AVal.tuple [])) H127 i128) fun l130 => K (AEnd.pan l130) H127 i128) fun l131 => K (AEnd.pan l131) H122 i123) (K (AEnd.ret (AVal.tuple [])) H117 i118)) fun l132 => K (AEnd.pan l132)
 H117 i118) (ifB (decide (n30 = 6)) (call f_mk_next [AVal.ptr k 0, iv 3] H27 i28 fun e133 H134 i135 => onEnd e133 (fun v136 => ∃ n137 : Int, v136 = iv n137 ∧ call f_mk_expr [AVal.ptr k 0, iv n137,
 iv 2] H134 i135 fun e138 H139 i140 => onEnd e138 (fun v141 => ∃ s142, v141 = AVal.str s142 ∧ 6 + s142.length ≤ 9223372036854775807 ∧ ([112, 114, 105, 110, 116, 40] ++ s142).length +
 1 ≤ 9223372036854775807 ∧ call f_mk_line [AVal.ptr k 0, iv n, AVal.str ([112, 114, 105, 110, 116, 40] ++ s142 ++ [41])] H139 i140 fun e143 H144 i145 => onEnd e143 (fun v146 => K (AEnd.ret
 (AVal.tuple [])) H144 i145) fun l147 => K (AEnd.pan l147) H144 i145) fun l148 => K (AEnd.pan l148) H139 i140) fun l149 => K (AEnd.pan l149) H134 i135) (ifB (decide (n30 = 7)) (ifB
 (decide (d ≤ 0)) (K (AEnd.ret (AVal.tuple [])) H27 i28) (call f_mk_expr [AVal.ptr k 0, iv 1, iv 2] H27 i28 fun e150 H151 i152 => onEnd e150 (fun v153 => ∃ s154, v153 = AVal.str s154 ∧ 3 +
 s154.length ≤ 9223372036854775807 ∧ ([105, 102, 32] ++ s154).length + 2 ≤ 9223372036854775807 ∧ call f_mk_line [AVal.ptr k 0, iv n, AVal.str ([105, 102, 32] ++ s154 ++ [32, 123])] H151
 i152 fun e155 H156 i157 => onEnd e155 (fun v158 => call f_mk_stmts [AVal.ptr k 0, iv (IntKind.i64.wrap (n + 1)), iv (IntKind.i64.wrap (d - 1))] H156 i157 fun e159 H160 i161 => onEnd e159
 (fun v162 => call f_mk_next [AVal.ptr k 0, iv 2] H160 i161 fun e163 H164 i165 => onEnd e163 (fun v166 => ∃ n167 : Int, v166 = iv n167 ∧ ifB (decide (n167 = 0)) (call f_mk_line [AVal.ptr k 0, iv
 n, AVal.str [125, 32, 101, 108, 115, 101, 32, 123]] H164 i165 fun e168 H169 i170 => onEnd e168 (fun v171 => call f_mk_stmts [AVal.ptr k 0, iv (IntKind.i64.wrap (n + 1)), iv
 (IntKind.i64.wrap (d - 1))] H169 i170 fun e172 H173 i174 => onEnd e172 (fun v175 => call f_mk_line [AVal.ptr k 0, iv n, AVal.str [125]] H173 i174 fun e176 H177 i178 => onEnd e176 (fun v179
 => K (AEnd.ret (AVal.tuple [])) H177 i178) fun l180 => K (AEnd.pan l180) H177 i178) fun l181 => K (AEnd.pan l181) H173 i174) fun l182 => K (AEnd.pan l182) H169 i170) (call 15
 [AVal.ptr k 0, iv n, AVal.str [125]] H164 i165 fun e183 H184 i185 => onEnd e183 (fun v186 => K (AEnd.ret (AVal.tuple [])) H184 i185) fun l187 => K (AEnd.pan l187) H184 i185)) fun
 l188 => K (AEnd.pan l188) H164 i165) fun l189 => K (AEnd.pan l189) H160 i161) fun l190 => K (AEnd.pan l190) H156 i157) fun l191 => K (AEnd.pan l191) H151 i152)) (ifB (decide (n30 =
 8)) (ifB (decide (d ≤ 0)) (K (AEnd.ret (AVal.tuple [])) H27 i28) (call f_mk_expr [AVal.ptr k 0, iv 1, iv 2] H27 i28 fun e192 H193 i194 => onEnd e192 (fun v195 => ∃ s196, v195 = AVal.str
 s196 ∧ 3 + s196.length ≤ 9223372036854775807 ∧ ([105, 102, 32] ++ s196).length + 2 ≤ 9223372036854775807 ∧ call f_mk_line [AVal.ptr k 0, iv n, AVal.str ([105, 102, 32] ++ s196 ++ [32,
 123])] H193 i194 fun e197 H198 i199 => onEnd e197 (fun v200 => call f_mk_stmts [AVal.ptr k 0, iv (IntKind.i64.wrap (n + 1)), iv (IntKind.i64.wrap (d - 1))] H198 i199 fun e201 H202 i203 =>
 onEnd e201 (fun v204 => call f_mk_next [AVal.ptr k 0, iv 2] H202 i203 fun e205 H206 i207 => onEnd e205 (fun v208 => ∃ n209 : Int, v208 = iv n209 ∧ ifB (decide (n209 = 0)) (call 15
 [AVal.ptr k 0, iv n, AVal.str [125, 32, 101, 108, 115, 101, 32, 123]] H206 i207 fun e210 H211 i212 => onEnd e210 (fun v213 => call f_mk_stmts [AVal.ptr k 0, iv (IntKind.i64.wrap (n + 1)),
 iv (IntKind.i64.wrap (d - 1))] H211 i212 fun e214 H215 i216 => onEnd e214 (fun v217 => call f_mk_line [AVal.ptr k 0, iv n, AVal.str [125]] H215 i216 fun e218 H219 i220 => onEnd e218 (fun
 v221 => K (AEnd.ret (AVal.tuple [])) H219 i220) fun l222 => K (AEnd.pan l222) H219 i220) fun l223 => K (AEnd.pan l223) H215 i216) fun l224 => K (AEnd.pan l224) H211 i212) (call 15
 [AVal.ptr k 0, iv n, AVal.str [125]] H206 i207 fun e225 H226 i227 => onEnd e225 (fun v228 => K (AEnd.ret (AVal.tuple [])) H226 i227) fun l229 => K (AEnd.pan l229) H226 i227)) fun
 l230 => K (AEnd.pan l230) H206 i207) fun l231 => K (AEnd.pan l231) H202 i203) fun l232 => K (AEnd.pan l232) H198 i199) fun l233 => K (AEnd.pan l233) H193 i194)) (ifB (decide (n30 =
 9)) (call f_mk_loop [AVal.ptr k 0, iv n, iv d] H27 i28 fun e234 H235 i236 => onEnd e234 (fun v237 => K (AEnd.ret (AVal.tuple [])) H235 i236) fun l238 => K (AEnd.pan l238) H235 i236) (ifB
 (decide (n30 = 10)) (call f_mk_loop [AVal.ptr k 0, iv n, iv d] H27 i28 fun e239 H240 i241 => onEnd e239 (fun v242 => K (AEnd.ret (AVal.tuple [])) H240 i241) fun l243 => K (AEnd.pan l243)
 H240 i241) (ifB (decide (n30 = 11)) (call f_mk_expr [AVal.ptr k 0, iv 3, iv 1] H27 i28 fun e244 H245 i246 => onEnd e244 (fun v247 => ∃ s248, v247 = AVal.str s248 ∧ s248.length + 1 ≤
 9223372036854775807 ∧ call f_mk_expr [AVal.ptr k 0, iv 0, iv 2] H245 i246 fun e249 H250 i251 => onEnd e249 (fun v252 => ∃ s253, v252 = AVal.str s253 ∧ (s248 ++ [91]).length + s253.length ≤
 9223372036854775807 ∧ (s248 ++ [91] ++ s253).length + 4 ≤ 9223372036854775807 ∧ call f_mk_expr [AVal.ptr k 0, iv 0, iv 2] H250 i251 fun e254 H255 i256 => onEnd e254 (fun v257 => ∃ s258,
 v257 = AVal.str s258 ∧ (s248 ++ [91] ++ s253 ++ [93, 32, 61, 32]).length + s258.length ≤ 9223372036854775807 ∧ call f_mk_line [AVal.ptr k 0, iv n, AVal.str (s248 ++ [91] ++ s253 ++ [93,
 32, 61, 32] ++ s258)] H255 i256 fun e259 H260 i261 => onEnd e259 (fun v262 => K (AEnd.ret (AVal.tuple [])) H260 i261) fun l263 => K (AEnd.pan l263) H260 i261) fun l264 => K
 (AEnd.pan l264) H255 i256) fun l265 => K (AEnd.pan l265) H250 i251) fun l266 => K (AEnd.pan l266) H245 i246) (ifB (decide (n30 = 12)) (call f_mk_next [AVal.ptr k 0, iv 5] H27 i28 fun e267
 H268 i269 => onEnd e267 (fun v270 => ∃ n271 : Int, v270 = iv n271 ∧ ifB (decide (n271 = 0)) (call f_mk_expr [AVal.ptr k 0, iv 4, iv 1] H268 i269 fun e272 H273 i274 => onEnd e272 (fun v275
 => ∃ s276, v275 = AVal.str s276 ∧ s276.length + 5 ≤ 9223372036854775807 ∧ call f_mk_expr [AVal.ptr k 0, iv 0, iv 2] H273 i274 fun e277 H278 i279 => onEnd e277 (fun v280 => ∃ s281, v280 =
 AVal.str s281 ∧ (s276 ++ [46, 97, 32, 61, 32]).length + s281.length ≤ 9223372036854775807 ∧ call f_mk_line [AVal.ptr k 0, iv n, AVal.str (s276 ++ [46, 97, 32, 61, 32] ++ s281)] H278 i279
 fun e282 H283 i284 => onEnd e282 (fun v285 => K (AEnd.ret (AVal.tuple [])) H283 i284) fun l286 => K (AEnd.pan l286) H283 i284) fun l287 => K (AEnd.pan l287) H278 i279) fun l288 => K
 (AEnd.pan l288) H273 i274) (ifB (decide (n271 = 1)) (call f_mk_expr [AVal.ptr k 0, iv 4, iv 1] H268 i269 fun e289 H290 i291 => onEnd e289 (fun v292 => ∃ s293, v292 = AVal.str s293 ∧
 s293.length + 5 ≤ 9223372036854775807 ∧ call f_mk_expr [AVal.ptr k 0, iv 4, iv 1] H290 i291 fun e294 H295 i296 => onEnd e294 (fun v297 => ∃ s298, v297 = AVal.str s298 ∧ (s293 ++ [46, 110,
 32, 61, 32]).length + s298.length ≤ 9223372036854775807 ∧ call f_mk_line [AVal.ptr k 0, iv n, AVal.str (s293 ++ [46, 110, 32, 61, 32] ++ s298)] H295 i296 fun e299 H300 i301 => onEnd e299
 (fun v302 => K (AEnd.ret (AVal.tuple [])) H300 i301) fun l303 => K (AEnd.pan l303) H300 i301) fun l304 => K (AEnd.pan l304) H295 i296) fun l305 => K (AEnd.pan l305) H290 i291) (ifB
 (decide (n271 = 2)) (call f_mk_expr [AVal.ptr k 0, iv 4, iv 1] H268 i269 fun e306 H307 i308 => onEnd e306 (fun v309 => ∃ s310, v309 = AVal.str s310 ∧ s310.length + 5 ≤ 9223372036854775807
 ∧ call f_mk_expr [AVal.ptr k 0, iv 6, iv 1] H307 i308 fun e311 H312 i313 => onEnd e311 (fun v314 => ∃ s315, v314 = AVal.str s315 ∧ (s310 ++ [46, 105, 32, 61, 32]).length + s315.length ≤
 9223372036854775807 ∧ call f_mk_line [AVal.ptr k 0, iv n, AVal.str (s310 ++ [46, 105, 32, 61, 32] ++ s315)] H312 i313 fun e316 H317 i318 => onEnd e316 (fun v319 => K (AEnd.ret (AVal.tuple
 [])) H317 i318) fun l320 => K (AEnd.pan l320) H317 i318) fun l321 => K (AEnd.pan l321) H312 i313) fun l322 => K (AEnd.pan l322) H307 i308) (ifB (decide (n271 = 3)) (call 31
 [AVal.ptr k 0, iv 5, iv 1] H268 i269 fun e323 H324 i325 => onEnd e323 (fun v326 => ∃ s327, v326 = AVal.str s327 ∧ s327.length + 5 ≤ 9223372036854775807 ∧ call f_mk_expr [AVal.ptr k 0, iv
 3, iv 1] H324 i325 fun e328 H329 i330 => onEnd e328 (fun v331 => ∃ s332, v331 = AVal.str s332 ∧ (s327 ++ [46, 115, 32, 61, 32]).length + s332.length ≤ 9223372036854775807 ∧ call 15
 [AVal.ptr k 0, iv n, AVal.str (s327 ++ [46, 115, 32, 61, 32] ++ s332)] H329 i330 fun e333 H334 i335 => onEnd e333 (fun v336 => K (AEnd.ret (AVal.tuple [])) H334 i335) fun l337 => K
 (AEnd.pan l337) H334 i335) fun l338 => K (AEnd.pan l338) H329 i330) fun l339 => K (AEnd.pan l339) H324 i325) (call f_mk_expr [AVal.ptr k 0, iv 5, iv 1] H268 i269 fun e340 H341 i342 =>
 onEnd e340 (fun v343 => ∃ s344, v343 = AVal.str s344 ∧ s344.length + 5 ≤ 9223372036854775807 ∧ call f_mk_expr [AVal.ptr k 0, iv 0, iv 2] H341 i342 fun e345 H346 i347 => onEnd e345 (fun
 v348 => ∃ s349, v348 = AVal.str s349 ∧ (s344 ++ [46, 120, 32, 61, 32]).length + s349.length ≤ 9223372036854775807 ∧ call f_mk_line [AVal.ptr k 0, iv n, AVal.str (s344 ++ [46, 120, 32, 61,
 32] ++ s349)] H346 i347 fun e350 H351 i352 => onEnd e350 (fun v353 => K (AEnd.ret (AVal.tuple [])) H351 i352) fun l354 => K (AEnd.pan l354) H351 i352) fun l355 => K (AEnd.pan l355)
 H346 i347) fun l356 => K (AEnd.pan l356) H341 i342))))) fun l357 => K (AEnd.pan l357) H268 i269) (ifB (decide (n30 = 13)) (true = true ∧ ∃ v358, some (AVal.ptr k 8) = some v358 ∧ ∃
 b359, ld1 H27 v358 = some (AVal.bool b359) ∧ ifB b359 (call f_mk_expr [AVal.ptr k 0, iv 6, iv 1] H27 i28 fun e360 H361 i362 => onEnd e360 (fun v363 => ∃ s364, v363 = AVal.str s364 ∧
 s364.length + 5 ≤ 9223372036854775807 ∧ call f_mk_expr [AVal.ptr k 0, iv 0, iv 1] H361 i362 fun e365 H366 i367 => onEnd e365 (fun v368 => ∃ s369, v368 = AVal.str s369 ∧ (s364 ++ [46, 115,
 101, 116, 40]).length + s369.length ≤ 9223372036854775807 ∧ (s364 ++ [46, 115, 101, 116, 40] ++ s369).length + 1 ≤ 9223372036854775807 ∧ call f_mk_line [AVal.ptr k 0, iv n, AVal.str (s364
 ++ [46, 115, 101, 116, 40] ++ s369 ++ [41])] H366 i367 fun e370 H371 i372 => onEnd e370 (fun v373 => K (AEnd.ret (AVal.tuple [])) H371 i372) fun l374 => K (AEnd.pan l374) H371 i372)
 fun l375 => K (AEnd.pan l375) H366 i367) fun l376 => K (AEnd.pan l376) H361 i362) (K (AEnd.ret (AVal.tuple [])) H27 i28)) (true = true ∧ ∃ v377, some (AVal.ptr k 4) = some v377 ∧ ∃
 n378 : Int, ld1 H27 v377 = some (iv n378) ∧ ifB (decide (0 < n378)) (call f_mk_next [AVal.ptr k 0, iv 3] H27 i28 fun e379 H380 i381 => onEnd e379 (fun v382 => ∃ n383 : Int, v382 = iv n383
 ∧ ifB (decide (n383 = 0)) (call f_mk_expr [AVal.ptr k 0, iv 1, iv 1] H380 i381 fun e384 H385 i386 => onEnd e384 (fun v387 => ∃ s388, v387 = AVal.str s388 ∧ 3 + s388.length ≤
 9223372036854775807 ∧ ([105, 102, 32] ++ s388).length + 2 ≤ 9223372036854775807 ∧ call f_mk_line [AVal.ptr k 0, iv n, AVal.str ([105, 102, 32] ++ s388 ++ [32, 123])] H385 i386 fun e389
 H390 i391 => onEnd e389 (fun v392 => true = true ∧ true = true ∧ call f_mk_next [AVal.ptr k 0, iv 2] H390 i391 fun e393 H394 i395 => onEnd e393 (fun v396 => ∃ n397 : Int, v396 = iv n397 ∧
 0 ≤ n397 ∧ n397.toNat < 2 ∧ ∃ s398, aPart PG t_str [AVal.str [98, 114, 101, 97, 107], AVal.str [99, 111, 110, 116, 105, 110, 117, 101]] (n397.toNat * 1) = some (AVal.str s398) ∧
 call f_mk_line [AVal.ptr k 0, iv (IntKind.i64.wrap (n + 1)), AVal.str s398] H394 i395 fun e399 H400 i401 => onEnd e399 (fun v402 => call f_mk_line [AVal.ptr k 0, iv n, AVal.str [125]] H400 i401
 fun e403 H404 i405 => onEnd e403 (fun v406 => K (AEnd.ret (AVal.tuple [])) H404 i405) fun l407 => K (AEnd.pan l407) H404 i405) fun l408 => K (AEnd.pan l408) H400 i401) fun l409 => K
 (AEnd.pan l409) H394 i395) fun l410 => K (AEnd.pan l410) H390 i391) fun l411 => K (AEnd.pan l411) H385 i386) (call f_mk_next [AVal.ptr k 0, iv 6] H380 i381 fun e412 H413 i414 => onEnd e412
 (fun v415 => ∃ n416 : Int, v415 = iv n416 ∧ ifB (decide (n416 = 0)) (true = true ∧ ∃ v417, some (AVal.ptr k 7) = some v417 ∧ ∃ n418 : Int, ld1 H413 v417 = some (iv n418) ∧ ifB
 (decide (0 ≤ n418)) (call f_mk_expr [AVal.ptr k 0, iv 1, iv 1] H413 i414 fun e419 H420 i421 => onEnd e419 (fun v422 => ∃ s423, v422 = AVal.str s423 ∧ 3 + s423.length ≤ 9223372036854775807
 ∧ ([105, 102, 32] ++ s423).length + 2 ≤ 9223372036854775807 ∧ call f_mk_line [AVal.ptr k 0, iv n, AVal.str ([105, 102, 32] ++ s423 ++ [32, 123])] H420 i421 fun e424 H425 i426 => onEnd e424
 (fun v427 => true = true ∧ ∃ v428, some (AVal.ptr k 7) = some v428 ∧ ∃ n429 : Int, ld1 H425 v428 = some (iv n429) ∧ call f_mk_expr [AVal.ptr k 0, iv n429, iv 2] H425 i426 fun e430 H431
 i432 => onEnd e430 (fun v433 => ∃ s434, v433 = AVal.str s434 ∧ 7 + s434.length ≤ 9223372036854775807 ∧ call f_mk_line [AVal.ptr k 0, iv (IntKind.i64.wrap (n + 1)), AVal.str ([114, 101,
 116, 117, 114, 110, 32] ++ s434)] H431 i432 fun e435 H436 i437 => onEnd e435 (fun v438 => call f_mk_line [AVal.ptr k 0, iv n, AVal.str [125]] H436 i437 fun e439 H440 i441 => onEnd e439
 (fun v442 => K (AEnd.ret (AVal.tuple [])) H440 i441) fun l443 => K (AEnd.pan l443) H440 i441) fun l444 => K (AEnd.pan l444) H436 i437) fun l445 => K (AEnd.pan l445) H431 i432) fun
 l446 => K (AEnd.pan l446) H425 i426) fun l447 => K (AEnd.pan l447) H420 i421) (call f_mk_line [AVal.ptr k 0, iv n, AVal.str [112, 114, 105, 110, 116, 40, 105, 110, 112, 117, 116, 40, 41,
 41]] H413 i414 fun e448 H449 i450 => onEnd e448 (fun v451 => K (AEnd.ret (AVal.tuple [])) H449 i450) fun l452 => K (AEnd.pan l452) H449 i450)) (call f_mk_line [AVal.ptr k 0, iv n, AVal.str
 [112, 114, 105, 110, 116, 40, 105, 110, 112, 117, 116, 40, 41, 41]] H413 i414 fun e453 H454 i455 => onEnd e453 (fun v456 => K (AEnd.ret (AVal.tuple [])) H454 i455) fun l457 => K
 (AEnd.pan l457) H454 i455)) fun l458 => K (AEnd.pan l458) H413 i414)) fun l459 => K (AEnd.pan l459) H380 i381) (call f_mk_next [AVal.ptr k 0, iv 6] H27 i28 fun e460 H461 i462 => onEnd e460
 (fun v463 => ∃ n464 : Int, v463 = iv n464 ∧ ifB (decide (n464 = 0)) (true = true ∧ ∃ v465, some (AVal.ptr k 7) = some v465 ∧ ∃ n466 : Int, ld1 H461 v465 = some (iv n466) ∧ ifB
 (decide (0 ≤ n466)) (call f_mk_expr [AVal.ptr k 0, iv 1, iv 1] H461 i462 fun e467 H468 i469 => onEnd e467 (fun v470 => ∃ s471, v470 = AVal.str s471 ∧ 3 + s471.length ≤ 9223372036854775807
 ∧ ([105, 102, 32] ++ s471).length + 2 ≤ 9223372036854775807 ∧ call f_mk_line [AVal.ptr k 0, iv n, AVal.str ([105, 102, 32] ++ s471 ++ [32, 123])] H468 i469 fun e472 H473 i474 => onEnd e472
 (fun v475 => true = true ∧ ∃ v476, some (AVal.ptr k 7) = some v476 ∧ ∃ n477 : Int, ld1 H473 v476 = some (iv n477) ∧ call f_mk_expr [AVal.ptr k 0, iv n477, iv 2] H473 i474 fun e478 H479
 i480 => onEnd e478 (fun v481 => ∃ s482, v481 = AVal.str s482 ∧ 7 + s482.length ≤ 9223372036854775807 ∧ call f_mk_line [AVal.ptr k 0, iv (IntKind.i64.wrap (n + 1)), AVal.str ([114, 101,
 116, 117, 114, 110, 32] ++ s482)] H479 i480 fun e483 H484 i485 => onEnd e483 (fun v486 => call f_mk_line [AVal.ptr k 0, iv n, AVal.str [125]] H484 i485 fun e487 H488 i489 => onEnd e487
 (fun v490 => K (AEnd.ret (AVal.tuple [])) H488 i489) fun l491 => K (AEnd.pan l491) H488 i489) fun l492 => K (AEnd.pan l492) H484 i485) fun l493 => K (AEnd.pan l493) H479 i480) fun
 l494 => K (AEnd.pan l494) H473 i474) fun l495 => K (AEnd.pan l495) H468 i469) (call f_mk_line [AVal.ptr k 0, iv n, AVal.str [112, 114, 105, 110, 116, 40, 105, 110, 112, 117, 116, 40, 41,
 41]] H461 i462 fun e496 H497 i498 => onEnd e496 (fun v499 => K (AEnd.ret (AVal.tuple [])) H497 i498) fun l500 => K (AEnd.pan l500) H497 i498)) (call f_mk_line [AVal.ptr k 0, iv n, AVal.str
 [112, 114, 105, 110, 116, 40, 105, 110, 112, 117, 116, 40, 41, 41]] H461 i462 fun e501 H502 i503 => onEnd e501 (fun v504 => K (AEnd.ret (AVal.tuple [])) H502 i503) fun l505 => K
 (AEnd.pan l505) H502 i503)) fun l506 => K (AEnd.pan l506) H461 i462)))))))))))))))) fun l507 => K (AEnd.pan l507) H27 i28))
theorem Fmk_stmt_eq (call : CallP) (lp : Nat → LoopP) (lv : LeaveP) (lvc : LeaveC) (k : Nat) (n : Int) (d : Int) (H : Heap) (nx : Nat) (K : EndP) : vBody PG call lp f_mk_stmt [AVal.ptr k 0, iv n, iv d] H nx (endK PG lv lvc K) = Fmk_stmt call lp lv lvc k n d H nx K := by kernel_rfl
def Fmk_loop (call : CallP) (lp : Nat → LoopP) (lv : LeaveP) (lvc : LeaveC) (k : Nat) (n : Int) (d : Int) (H : Heap) (nx : Nat) (K : EndP) : Prop :=
 ifB (decide (d ≤ 0)) (K (AEnd.ret (AVal.tuple [])) H nx) (true = true ∧ ∃ v0, some (AVal.ptr k 3) = some v0 ∧ ∃ n1 : Int, ld1 H v0 = some (iv n1) ∧ call f_h_Digits [iv n1] H nx fun e2 H3 i4
 => onEnd e2 (fun v5 => ∃ s6, v5 = AVal.str s6 ∧ 1 + s6.length ≤ 9223372036854775807 ∧ true = true ∧ ∃ v7, some (AVal.ptr k 3) = some v7 ∧ ∃ n8 : Int, ld1 H3 v7 = some (iv n8) ∧ true
 = true ∧ ∃ v9, some (AVal.ptr k 3) = some v9 ∧ true = true ∧ ∃ H10, stC H3 v9 [iv (IntKind.i64.wrap (n8 + 1))] = some H10 ∧ ∃ H11, H11 = newB i4 [] H10 ∧ true = true ∧ ∃ v12, some
 (AVal.ptr k 2) = some v12 ∧ ∃ v13, ld1 H11 v12 = some v13 ∧ ∃ i14 l15, aSrc 1 H11 v13 = some (i14, l15) ∧ allCell l15 = true ∧ ∃ v16 H17 i18, appC H11 (i4 + 1) 1 24 (AVal.slice i4 0
 0 1 true) i14 l15 = some (v16, H17, i18) ∧ ([118] ++ s6).length + 5 ≤ 9223372036854775807 ∧ call f_mk_line [AVal.ptr k 0, iv n, AVal.str ([118] ++ s6 ++ [32, 58, 61, 32, 48])] H17 i18 fun
 e19 H20 i21 => onEnd e19 (fun v22 => true = true ∧ ∃ v23, some (AVal.ptr k 2) = some v23 ∧ ∃ v24, ld1 H20 v23 = some v24 ∧ ∃ H25, H25 = newB (i21 + 4) [] H20 ∧ true = true ∧ ∃ v26,
 some (AVal.ptr k 2) = some v26 ∧ ∃ v27, ld1 H25 v26 = some v27 ∧ (0 : Int) ≤ 0 ∧ ∃ v28, idxS v27 0 1 = some v28 ∧ ∃ v29, ld1 H25 v28 = some v29 ∧ true = true ∧ ∃ H30, H30 = newB
 (i21 + 13) [AVal.str ([118] ++ s6)] H25 ∧ ((∃ v31, ld1 H30 v23 = some v31 ∧ v31 = v24) ∧ (∃ v32, ld1 H30 v26 = some v32 ∧ v32 = v27) ∧ (∃ v33, ld1 H30 v28 = some v33 ∧ v33 = v29) ∧
 True) ∧ ∃ i34 l35, aSrc 1 H30 v29 = some (i34, l35) ∧ allCell l35 = true ∧ ∃ v36 H37 i38, appC H30 (i21 + 17) 1 16 (AVal.slice (i21 + 4) 0 0 1 true) i34 l35 = some (v36, H37, i38) ∧
 ((∃ v39, ld1 H37 v23 = some v39 ∧ v39 = v24) ∧ True) ∧ ∃ i40 l41, aSrc 1 H37 (AVal.slice (i21 + 13) 0 1 1 true) = some (i40, l41) ∧ allCell l41 = true ∧ ∃ v42 H43 i44, appC H37 i38
 1 16 v36 i40 l41 = some (v42, H43, i44) ∧ (0 : Int) ≤ 0 ∧ ∃ v45, idxS v24 0 1 = some v45 ∧ ((∃ v46, ld1 H43 v23 = some v46 ∧ v46 = v24) ∧ True) ∧ cellv v42 = true ∧ ∃ H47, stC H43
 v45 [v42] = some H47 ∧ True ∧ call f_mk_next [AVal.ptr k 0, iv 9] H47 i44 fun e48 H49 i50 => onEnd e48 (fun v51 => ∃ n52 : Int, v51 = iv n52 ∧ ifB (decide (n52 = 0)) (call f_mk_expr [AVal.ptr k
 0, iv 1, iv 2] H49 i50 fun e53 H54 i55 => onEnd e53 (fun v56 => ∃ s57, v56 = AVal.str s57 ∧ 4 + s57.length ≤ 9223372036854775807 ∧ ([102, 111, 114, 32] ++ s57).length + 2 ≤
 9223372036854775807 ∧ call f_mk_line [AVal.ptr k 0, iv n, AVal.str ([102, 111, 114, 32] ++ s57 ++ [32, 123])] H54 i55 fun e58 H59 i60 => onEnd e58 (fun v61 => ([118] ++ s6).length + 3 ≤
 9223372036854775807 ∧ ([118] ++ s6 ++ [32, 61, 32]).length + ([118] ++ s6).length ≤ 9223372036854775807 ∧ ([118] ++ s6 ++ [32, 61, 32] ++ ([118] ++ s6)).length + 4 ≤
 9223372036854775807 ∧ call f_mk_line [AVal.ptr k 0, iv (IntKind.i64.wrap (n + 1)), AVal.str ([118] ++ s6 ++ [32, 61, 32] ++ ([118] ++ s6) ++ [32, 43, 32, 49])] H59 i60 fun e62 H63 i64 =>
 onEnd e62 (fun v65 => true = true ∧ ∃ v66, some (AVal.ptr k 4) = some v66 ∧ ∃ n67 : Int, ld1 H63 v66 = some (iv n67) ∧ true = true ∧ ∃ v68, some (AVal.ptr k 4) = some v68 ∧ true =
 true ∧ ∃ H69, stC H63 v68 [iv (IntKind.i64.wrap (n67 + 1))] = some H69 ∧ call f_mk_stmts [AVal.ptr k 0, iv (IntKind.i64.wrap (n + 1)), iv (IntKind.i64.wrap (d - 1))] H69 i64 fun e70 H71 i72
 => onEnd e70 (fun v73 => true = true ∧ ∃ v74, some (AVal.ptr k 4) = some v74 ∧ ∃ n75 : Int, ld1 H71 v74 = some (iv n75) ∧ true = true ∧ ∃ v76, some (AVal.ptr k 4) = some v76 ∧ true
 = true ∧ ∃ H77, stC H71 v76 [iv (IntKind.i64.wrap (n75 - 1))] = some H77 ∧ call f_mk_line [AVal.ptr k 0, iv n, AVal.str [125]] H77 i72 fun e78 H79 i80 => onEnd e78 (fun v81 => true = true
 ∧ ∃ v82, some (AVal.ptr k 2) = some v82 ∧ cellv v16 = true ∧ ∃ H83, stC H79 v82 [v16] = some H83 ∧ K (AEnd.ret (AVal.tuple [])) H83 i80) fun l84 => K (AEnd.pan l84) H79 i80) fun l85
 => K (AEnd.pan l85) H71 i72) fun l86 => K (AEnd.pan l86) H63 i64) fun l87 => K (AEnd.pan l87) H59 i60) fun l88 => K (AEnd.pan l88) H54 i55) (4 + ([118] ++ s6).length ≤
 9223372036854775807 ∧ ([102, 111, 114, 32] ++ ([118] ++ s6)).length + 3 ≤ 9223372036854775807 ∧ true = true ∧ true = true ∧ true = true ∧ true = true ∧ call f_mk_next [AVal.ptr k 0, iv 4]
 H49 i50 fun e89 H90 i91 => onEnd e89 (fun v92 => ∃ n93 : Int, v92 = iv n93 ∧ 0 ≤ n93 ∧ n93.toNat < 4 ∧ ∃ s94, aPart PG t_str [AVal.str [51], AVal.str [49, 48], AVal.str [50, 48],
 AVal.str [52, 48]] (n93.toNat * 1) = some (AVal.str s94) ∧ ([102, 111, 114, 32] ++ ([118] ++ s6) ++ [32, 60, 32]).length + s94.length ≤ 9223372036854775807 ∧ ([102, 111, 114, 32] ++
 ([118] ++ s6) ++ [32, 60, 32] ++ s94).length + 2 ≤ 9223372036854775807 ∧ call f_mk_line [AVal.ptr k 0, iv n, AVal.str ([102, 111, 114, 32] ++ ([118] ++ s6) ++ [32, 60, 32] ++ s94 ++ [32,
 123])] H90 i91 fun e95 H96 i97 => onEnd e95 (fun v98 => ([118] ++ s6).length + 3 ≤ 9223372036854775807 ∧ ([118] ++ s6 ++ [32, 61, 32]).length + ([118] ++ s6).length ≤
 9223372036854775807 ∧ ([118] ++ s6 ++ [32, 61, 32] ++ ([118] ++ s6)).length + 4 ≤ 9223372036854775807 ∧ call f_mk_line [AVal.ptr k 0, iv (IntKind.i64.wrap (n + 1)), AVal.str ([118] ++ s6
 ++ [32, 61, 32] ++ ([118] ++ s6) ++ [32, 43, 32, 49])] H96 i97 fun e99 H100 i101 => onEnd e99 (fun v102 => true = true ∧ ∃ v103, some (AVal.ptr k 4) = some v103 ∧ ∃ n104 : Int, ld1
 H100 v103 = some (iv n104) ∧ true = true ∧ ∃ v105, some (AVal.ptr k 4) = some v105 ∧ true = true ∧ ∃ H106, stC H100 v105 [iv (IntKind.i64.wrap (n104 + 1))] = some H106 ∧ call 30
 [AVal.ptr k 0, iv (IntKind.i64.wrap (n + 1)), iv (IntKind.i64.wrap (d - 1))] H106 i101 fun e107 H108 i109 => onEnd e107 (fun v110 => true = true ∧ ∃ v111, some (AVal.ptr k 4) = some
 v111 ∧ ∃ n112 : Int, ld1 H108 v111 = some (iv n112) ∧ true = true ∧ ∃ v113, some (AVal.ptr k 4) = some v113 ∧ true = true ∧ ∃ H114, stC H108 v113 [iv (IntKind.i64.wrap (n112 - 1))]
 = some H114 ∧ call f_mk_line [AVal.ptr k 0, iv n, AVal.str [125]] H114 i109 fun e115 H116 i117 => onEnd e115 (fun v118 => true = true ∧ ∃ v119, some (AVal.ptr k 2) = some v119 ∧ cellv v16
 = true ∧ ∃ H120, stC H116 v119 [v16] = some H120 ∧ K (AEnd.ret (AVal.tuple [])) H120 i117) fun l121 => K (AEnd.pan l121) H116 i117) fun l122 => K (AEnd.pan l122) H108 i109) fun l123
 => K (AEnd.pan l123) H100 i101) fun l124 => K (AEnd.pan l124) H96 i97) fun l125 => K (AEnd.pan l125) H90 i91)) fun l126 => K (AEnd.pan l126) H49 i50) fun l127 => K (AEnd.pan l127)
 H20 i21) fun l128 => K (AEnd.pan l128) H3 i4)
theorem Fmk_loop_eq (call : CallP) (lp : Nat → LoopP) (lv : LeaveP) (lvc : LeaveC) (k : Nat) (n : Int) (d : Int) (H : Heap) (nx : Nat) (K : EndP) : vBody PG call lp f_mk_loop [AVal.ptr k 0, iv n, iv d] H nx (endK PG lv lvc K) = Fmk_loop call lp lv lvc k n d H nx K := by kernel_rfl
def Fmk_fn (call : CallP) (lp : Nat → LoopP) (lv : LeaveP) (lvc : LeaveC) (k : Nat) (h : List UInt8) (ps : AVal) (ts : AVal) (r : Int) (d : Int) (c : Bool) (H : Heap) (nx : Nat) (K : EndP) : Prop :=
 (7 : Int) = 7 ∧ (0 : Int) ≤ 7 ∧ (7 : Nat) ≤ 9223372036854775807 ∧ (168 : Nat) ≤ 140737488355328 ∧ (7 : Nat) ≤ 9223372036854775807 ∧ ∃ H0, H0 = newB nx [AVal.nilSlice, AVal.nilSlice,
 AVal.nilSlice, AVal.nilSlice, AVal.nilSlice, AVal.nilSlice, AVal.nilSlice] H ∧ true = true ∧ ∃ v1, some (AVal.ptr k 2) = some v1 ∧ true = true ∧ ∃ H2, stC H0 v1 [AVal.slice nx 0 7 1
 true] = some H2 ∧ true = true ∧ ∃ v3, some (AVal.ptr k 3) = some v3 ∧ true = true ∧ ∃ H4, stC H2 v3 [iv 0] = some H4 ∧ true = true ∧ ∃ v5, some (AVal.ptr k 5) = some v5 ∧ true =
 true ∧ ∃ H6, stC H4 v5 [iv 0] = some H6 ∧ true = true ∧ ∃ v7, some (AVal.ptr k 7) = some v7 ∧ true = true ∧ ∃ H8, stC H6 v7 [iv r] = some H8 ∧ true = true ∧ ∃ v9, some (AVal.ptr k
 8) = some v9 ∧ true = true ∧ ∃ H10, stC H8 v9 [AVal.bool c] = some H10 ∧ lp 96 (subAt (codeOf PG 16) [1, 1, 1, 1, 1, 0, 1, 0, 0]) (envL (AVal.tuple []) [(14, iv 0), (32, v9),
 (31, AVal.ptr k 0), (30, AVal.bool c), (29, AVal.ptr k 0), (28, v7), (27, AVal.ptr k 0), (26, iv r), (25, AVal.ptr k 0), (24, v5), (23, AVal.ptr k 0), (22, AVal.ptr k 0), (21, v3),
 (20, AVal.ptr k 0), (19, AVal.ptr k 0), (18, v1), (17, AVal.ptr k 0), (16, AVal.slice nx 0 7 1 true), (15, AVal.ptr k 0), (6, AVal.bool c), (5, iv d), (4, iv r), (3, ts), (2, ps),
 (1, AVal.str h), (0, AVal.ptr k 0)]) H10 (nx + 1) [] none (contAt PG call (lp 96) 96 (codeOf PG 16) [1, 1, 1, 1, 1, 0, 1, 0] (endK PG lv lvc K (resOf PG
 16)))
theorem Fmk_fn_eq (call : CallP) (lp : Nat → LoopP) (lv : LeaveP) (lvc : LeaveC) (k : Nat) (h : List UInt8) (ps : AVal) (ts : AVal) (r : Int) (d : Int) (c : Bool) (H : Heap) (nx : Nat) (K : EndP) : vBody PG call lp f_mk_fn [AVal.ptr k 0, AVal.str h, ps, ts, iv r, iv d, AVal.bool c] H nx (endK PG lv lvc K) = Fmk_fn call lp lv lvc k h ps ts r d c H nx K := by kernel_rfl
def Fh_Text (call : CallP) (lp : Nat → LoopP) (lv : LeaveP) (lvc : LeaveC) (raw : AVal) (H : Heap) (nx : Nat) (K : EndP) : Prop :=
 (7 : Int) = 7 ∧ (0 : Int) ≤ 7 ∧ (7 : Nat) ≤ 9223372036854775807 ∧ (168 : Nat) ≤ 140737488355328 ∧ (7 : Nat) ≤ 9223372036854775807 ∧ ∃ H0, H0 = newB nx [AVal.nilSlice, AVal.nilSlice,
 AVal.nilSlice, AVal.nilSlice, AVal.nilSlice, AVal.nilSlice, AVal.nilSlice] H ∧ cellv raw = true ∧ true = true ∧ true = true ∧ ∃ H1, H1 = newBN (nx + 1) [raw, iv 0, AVal.slice nx 0 7
 1 true, iv 0, iv 0, iv 0, AVal.str [], iv (-1), AVal.bool false].length [raw, iv 0, AVal.slice nx 0 7 1 true, iv 0, iv 0, iv 0, AVal.str [], iv (-1), AVal.bool false] H0 ∧ call 15
 [AVal.ptr (nx + 1) 0, iv 0, AVal.str [116, 121, 112, 101, 32, 80, 32, 115, 116, 114, 117, 99, 116, 32, 123]] H1 (nx + 1 + 1) fun e2 H3 i4 => onEnd e2 (fun v5 => true = true ∧ ∃ v6,
 some (AVal.ptr (nx + 1) 6) = some v6 ∧ ∃ s7, ld1 H3 v6 = some (AVal.str s7) ∧ s7.length + 106 ≤ 9223372036854775807 ∧ true = true ∧ ∃ v8, some (AVal.ptr (nx + 1) 6) = some v8 ∧ true
 = true ∧ ∃ H9, stC H3 v8 [AVal.str (s7 ++ [9, 97, 32, 105, 110, 116, 10, 9, 98, 32, 98, 111, 111, 108, 10, 9, 110, 32, 80, 10, 9, 105, 32, 73, 10, 125, 10, 116, 121, 112, 101, 32,
 81, 32, 115, 116, 114, 117, 99, 116, 32, 123, 10, 9, 120, 32, 105, 110, 116, 10, 9, 115, 32, 91, 93, 105, 110, 116, 10, 125, 10, 116, 121, 112, 101, 32, 73, 32, 105, 110, 116, 101,
 114, 102, 97, 99, 101, 32, 123, 10, 9, 103, 101, 116, 40, 105, 110, 116, 41, 32, 105, 110, 116, 10, 9, 115, 101, 116, 40, 105, 110, 116, 41, 10, 125, 10])] = some H9 ∧ call 16
 [AVal.ptr (nx + 1) 0, AVal.str [102, 117, 110, 99, 32, 109, 97, 105, 110, 40, 41], AVal.nilSlice, AVal.nilSlice, iv (-1), iv 3, AVal.bool true] H9 i4 fun e10 H11 i12 => onEnd e10
 (fun v13 => true = true ∧ true = true ∧ ∃ H14, H14 = newB i12 [AVal.str [97], AVal.str [98]] H11 ∧ true = true ∧ true = true ∧ ∃ H15, H15 = newB (i12 + 1) [iv 0, iv 0] H14 ∧ call 17
 [AVal.ptr (nx + 1) 0, iv 4] H15 (i12 + 1 + 1) fun e16 H17 i18 => onEnd e16 (fun v19 => ∃ n20 : Int, v19 = iv n20 ∧ call f_mk_fn [AVal.ptr (nx + 1) 0, AVal.str [102, 117, 110, 99, 32,
 102, 40, 97, 32, 105, 110, 116, 44, 32, 98, 32, 105, 110, 116, 41, 32, 105, 110, 116], AVal.slice i12 0 2 1 true, AVal.slice (i12 + 1) 0 2 1 true, iv 0, iv 2, AVal.bool (decide (n20
 = 0))] H17 i18 fun e21 H22 i23 => onEnd e21 (fun v24 => true = true ∧ ∃ H25, H25 = newB i23 [AVal.str [112]] H22 ∧ true = true ∧ ∃ H26, H26 = newB (i23 + 1) [iv 4] H25 ∧ call 17
 [AVal.ptr (nx + 1) 0, iv 6] H26 (i23 + 1 + 1) fun e27 H28 i29 => onEnd e27 (fun v30 => ∃ n31 : Int, v30 = iv n31 ∧ call f_mk_fn [AVal.ptr (nx + 1) 0, AVal.str [102, 117, 110, 99, 32,
 104, 40, 112, 32, 80, 41, 32, 80], AVal.slice i23 0 1 1 true, AVal.slice (i23 + 1) 0 1 1 true, iv 4, iv 1, AVal.bool (decide (n31 = 0))] H28 i29 fun e32 H33 i34 => onEnd e32 (fun
 v35 => true = true ∧ true = true ∧ ∃ H36, H36 = newB i34 [AVal.str [112], AVal.str [97]] H33 ∧ true = true ∧ true = true ∧ ∃ H37, H37 = newB (i34 + 1) [iv 4, iv 0] H36 ∧ call 16
 [AVal.ptr (nx + 1) 0, AVal.str [102, 117, 110, 99, 32, 40, 112, 32, 80, 41, 32, 103, 101, 116, 40, 97, 32, 105, 110, 116, 41, 32, 105, 110, 116], AVal.slice i34 0 2 1 true,
 AVal.slice (i34 + 1) 0 2 1 true, iv 0, iv 1, AVal.bool false] H37 (i34 + 1 + 1) fun e38 H39 i40 => onEnd e38 (fun v41 => true = true ∧ true = true ∧ ∃ H42, H42 = newB i40 [AVal.str
 [112], AVal.str [97]] H39 ∧ true = true ∧ true = true ∧ ∃ H43, H43 = newB (i40 + 1) [iv 4, iv 0] H42 ∧ call f_mk_fn [AVal.ptr (nx + 1) 0, AVal.str [102, 117, 110, 99, 32, 40, 112, 32,
 80, 41, 32, 115, 101, 116, 40, 97, 32, 105, 110, 116, 41], AVal.slice i40 0 2 1 true, AVal.slice (i40 + 1) 0 2 1 true, iv (-1), iv 1, AVal.bool false] H43 (i40 + 1 + 1) fun e44 H45
 i46 => onEnd e44 (fun v47 => true = true ∧ true = true ∧ ∃ H48, H48 = newB i46 [AVal.str [113], AVal.str [97]] H45 ∧ true = true ∧ true = true ∧ ∃ H49, H49 = newB (i46 + 1) [iv 5,
 iv 0] H48 ∧ call f_mk_next [AVal.ptr (nx + 1) 0, iv 3] H49 (i46 + 1 + 1) fun e50 H51 i52 => onEnd e50 (fun v53 => ∃ n54 : Int, v53 = iv n54 ∧ call f_mk_fn [AVal.ptr (nx + 1) 0, AVal.str [102,
 117, 110, 99, 32, 40, 113, 32, 81, 41, 32, 103, 101, 116, 40, 97, 32, 105, 110, 116, 41, 32, 105, 110, 116], AVal.slice i46 0 2 1 true, AVal.slice (i46 + 1) 0 2 1 true, iv 0, iv 1,
 AVal.bool (decide (n54 = 0))] H51 i52 fun e55 H56 i57 => onEnd e55 (fun v58 => true = true ∧ true = true ∧ ∃ H59, H59 = newB i57 [AVal.str [113], AVal.str [97]] H56 ∧ true = true ∧
 true = true ∧ ∃ H60, H60 = newB (i57 + 1) [iv 5, iv 0] H59 ∧ call f_mk_fn [AVal.ptr (nx + 1) 0, AVal.str [102, 117, 110, 99, 32, 40, 113, 32, 81, 41, 32, 115, 101, 116, 40, 97, 32, 105,
 110, 116, 41], AVal.slice i57 0 2 1 true, AVal.slice (i57 + 1) 0 2 1 true, iv (-1), iv 1, AVal.bool false] H60 (i57 + 1 + 1) fun e61 H62 i63 => onEnd e61 (fun v64 => true = true ∧ ∃
 v65, some (AVal.ptr (nx + 1) 6) = some v65 ∧ ∃ s66, ld1 H62 v65 = some (AVal.str s66) ∧ K (AEnd.ret (AVal.str s66)) H62 i63) fun l67 => K (AEnd.pan l67) H62 i63) fun l68 => K
 (AEnd.pan l68) H56 i57) fun l69 => K (AEnd.pan l69) H51 i52) fun l70 => K (AEnd.pan l70) H45 i46) fun l71 => K (AEnd.pan l71) H39 i40) fun l72 => K (AEnd.pan l72) H33 i34) fun l73
 => K (AEnd.pan l73) H28 i29) fun l74 => K (AEnd.pan l74) H22 i23) fun l75 => K (AEnd.pan l75) H17 i18) fun l76 => K (AEnd.pan l76) H11 i12) fun l77 => K (AEnd.pan l77) H3 i4
theorem Fh_Text_eq (call : CallP) (lp : Nat → LoopP) (lv : LeaveP) (lvc : LeaveC) (raw : AVal) (H : Heap) (nx : Nat) (K : EndP) : vBody PG call lp f_h_Text [raw] H nx (endK PG lv lvc K) = Fh_Text call lp lv lvc raw H nx K := by kernel_rfl
def Fh_Bent (call : CallP) (lp : Nat → LoopP) (lv : LeaveP) (lvc : LeaveC) (raw : AVal) (how : AVal) (H : Heap) (nx : Nat) (K : EndP) : Prop :=
 call f_h_Text [raw] H nx fun e0 H1 i2 => onEnd e0 (fun v3 => ∃ s4, v3 = AVal.str s4 ∧ lp 118 (subAt (codeOf PG 5) [1, 1, 0, 1, 0, 0]) (envL (AVal.tuple []) [(6, iv 0), (5, AVal.str
 s4), (9, AVal.str s4), (8, raw), (4, AVal.str []), (1, how), (0, raw)]) H1 i2 [] none (contAt PG call (lp 118) 118 (codeOf PG 5) [1, 1, 0, 1, 0] (endK PG lv lvc
 K (resOf PG 5)))) fun l5 => K (AEnd.pan l5) H1 i2
theorem Fh_Bent_eq (call : CallP) (lp : Nat → LoopP) (lv : LeaveP) (lvc : LeaveC) (raw : AVal) (how : AVal) (H : Heap) (nx : Nat) (K : EndP) : vBody PG call lp f_h_Bent [raw, how] H nx (endK PG lv lvc K) = Fh_Bent call lp lv lvc raw how H nx K := by kernel_rfl
end Go.Vs
end
section
namespace Go.Vs
open Go.Proofs
variable [GTab]
def Fh_Pick (call : CallP) (lp : Nat → LoopP) (lv : LeaveP) (lvc : LeaveC) (n : Int) (m : Int) (H : Heap) (nx : Nat) (K : EndP) : Prop :=
 m ≠ 0 ∧ ifB (decide (n.tmod m < 0)) (K (AEnd.ret (iv (IntKind.i64.wrap (n.tmod m + m)))) H nx) (K (AEnd.ret (iv (n.tmod m))) H nx)
theorem Fh_Pick_eq (call : CallP) (lp : Nat → LoopP) (lv : LeaveP) (lvc : LeaveC) (n : Int) (m : Int) (H : Heap) (nx : Nat) (K : EndP) : vBody PG call lp f_h_Pick [iv n, iv m] H nx (endK PG lv lvc K) = Fh_Pick call lp lv lvc n m H nx K := by kernel_rfl
def Fh_Digits (call : CallP) (lp : Nat → LoopP) (lv : LeaveP) (lvc : LeaveC) (n : Int) (H : Heap) (nx : Nat) (K : EndP) : Prop :=
 ifB (decide (n < 10)) (∃ n0 : Int, some (Bool.rec (Bool.rec 0 n (ilt n 0)) (Bool.rec 0 n (ilt 0 n)) true) = some n0 ∧ true = true ∧ ∃ H1, H1 = newB nx [AVal.int IntKind.u8
 (IntKind.u8.wrap (IntKind.i64.wrap (48 + n0)))] H ∧ ∃ s2, strOf H1 (AVal.slice nx 0 1 1 true) = some s2 ∧ K (AEnd.ret (AVal.str s2)) H1 (nx + 1)) ((10 : Int) ≠ 0 ∧ call f_h_Digits [iv
 (IntKind.i64.wrap (n.tdiv 10))] H nx fun e3 H4 i5 => onEnd e3 (fun v6 => ∃ s7, v6 = AVal.str s7 ∧ (10 : Int) ≠ 0 ∧ call f_h_Digits [iv (n.tmod 10)] H4 i5 fun e8 H9 i10 => onEnd e8 (fun v11
 => ∃ s12, v11 = AVal.str s12 ∧ s7.length + s12.length ≤ 9223372036854775807 ∧ K (AEnd.ret (AVal.str (s7 ++ s12))) H9 i10) fun l13 => K (AEnd.pan l13) H9 i10) fun l14 => K (AEnd.pan
 l14) H4 i5)
theorem Fh_Digits_eq (call : CallP) (lp : Nat → LoopP) (lv : LeaveP) (lvc : LeaveC) (n : Int) (H : Heap) (nx : Nat) (K : EndP) : vBody PG call lp f_h_Digits [iv n] H nx (endK PG lv lvc K) = Fh_Digits call lp lv lvc n H nx K := by kernel_rfl
end Go.Vs
end
section
namespace Go.Vs
open Go.Proofs
variable [GTab] {Z : Nat → Prop}
noncomputable section
section
variable {Γ : GH} {H : Heap} {nx : Nat} {K : EndP}
theorem pick_ok {n m : Int} (h0 : 0 < m) (h1 : m ≤ 4611686018427387904) (hK : K (.ret (iv (n % m))) H nx) : TriP PG f_h_Pick [iv n, iv m] H nx K := by
 refine TriP.of_body mixed ?_
 rw [Fh_Pick_eq]
 unfold Fh_Pick
 have hb := Int.tmod_lt_of_pos n h0
 have hl : -m < n.tmod m := by
  have h2 := Int.tmod_lt_of_pos (-n) h0
  rw [Int.neg_tmod] at h2; omega
 have e : n % m = if n.tmod m < 0 then n.tmod m + m else n.tmod m := by
  rw [Int.emod_eq_tmod]
  by_cases hn : 0 ≤ n
  ·rw [if_pos (.inl hn)]
   have := Int.tmod_nonneg m hn
   rw [if_neg (by omega)]; omega
  ·have hle : n.tmod m ≤ 0 := by
    have := Int.tmod_nonneg m (a := -n) (by omega)
    rw [Int.neg_tmod] at this; omega
   by_cases hd : m ∣ n
   ·rw [if_pos (.inr hd)]
    have := Int.tmod_eq_zero_of_dvd hd
    rw [if_neg (by omega)]; omega
   ·rw [if_neg (by rintro (h | h); exact hn h; exact hd h)]
    have hz : n.tmod m ≠ 0 := fun h => hd (Int.dvd_of_tmod_eq_zero h)
    rw [if_pos (by omega)]
    omega
 rw [e] at hK
 refine ⟨by omega, ifB_iff.2 ⟨fun h => ?_, fun h => ?_⟩⟩
 ·have h : n.tmod m < 0 := of_decide_eq_true h
  rw [if_pos h] at hK
  rw [wrap64_id (by omega) (by omega)]; exact hK
 ·have h : ¬ n.tmod m < 0 := of_decide_eq_false h
  rw [if_neg h] at hK
  exact hK
theorem pick_lt {n m : Int} (h0 : 0 < m) : 0 ≤ n % m ∧ n % m < m := ⟨Int.emod_nonneg _ (by omega), Int.emod_lt_of_pos _ h0⟩
theorem digit_ok {n : Int} (hn : n < 10) (hk : HZ Z Γ H nx) (hK : ∀ s H' nx', nx ≤ nx' → HZ Z Γ H' nx' → s.length = 1 → (0 ≤ n → s = Pl.dig n.toNat) → K (.ret (.str s)) H' nx') : TriP PG f_h_Digits [iv n] H nx K := by
 refine TriP.of_body mixed ?_
 rw [Fh_Digits_eq]
 unfold Fh_Digits
 refine ifB_iff.2 ⟨fun _ => ⟨_, rfl, rfl, ?_⟩, fun h => absurd hn (of_decide_eq_false h)⟩
 obtain ⟨d, hd⟩ : ∃ d : Nat, d = n.toNat := ⟨_, rfl⟩
 have hd9 : d ≤ 9 := by omega
 have e0 : (Bool.rec (Bool.rec 0 n (ilt n 0)) (Bool.rec 0 n (ilt 0 n)) true : Int) = d := by
  show (Bool.rec 0 n (ilt 0 n) : Int) = d
  rw [ilt_eq]
  by_cases h : 0 < n
  ·rw [decide_eq_true h]; show n = _; omega
  ·rw [decide_eq_false h]; show (0 : Int) = _; omega
 rw [e0]
 have e1 : AVal.int IntKind.u8 (IntKind.u8.wrap (IntKind.i64.wrap (48 + (d : Int)))) = AVal.int .u8 (.ofNat (UInt8.ofNat (48 + d)).toNat) := by
  rw [wrap64_id (by omega) (by omega)]
  have : d = 0 ∨ d = 1 ∨ d = 2 ∨ d = 3 ∨ d = 4 ∨ d = 5 ∨ d = 6 ∨ d = 7 ∨ d = 8 ∨ d = 9 := by omega
  rcases this with h | h | h | h | h | h | h | h | h | h <;> subst h <;> rfl
 rw [e1]
 refine scrN hk (nx' := nx + 1) (Nat.le_refl _) (by omega) fun H1 k1 => ?_
 refine ⟨[UInt8.ofNat (48 + d)], k1.str (w := [UInt8.ofNat (48 + d)]) (gup_same _ _ _), ?_⟩
 have hf := hk.fresh (Nat.le_refl nx)
 refine hK _ _ _ (by omega) (k1.sub fun b cs e => (gup_ne (neK e hf)).trans e) (by simp) fun h0 => ?_
 unfold Pl.dig; rw [if_pos (by omega), hd]
theorem digits_ok : ∀ (k : Nat) {n : Int} {H : Heap} {nx : Nat} {K : EndP}, k ≤ 18 → n < 10 ^ (k + 1) → n ≤ 9223372036854775807 → HZ Z Γ H nx →
  (∀ s H' nx', nx ≤ nx' → HZ Z Γ H' nx' → s.length ≤ k + 1 → (0 ≤ n → n < 100 → s = Pl.dig n.toNat) → K (.ret (.str s)) H' nx') → TriP PG f_h_Digits [iv n] H nx K := by
 intro k
 induction k with
 | zero =>
  intro n H nx K _ hn _ hk hK
  exact digit_ok (by simpa using hn) hk fun s H' nx' h1 h2 h3 h4 => hK s H' nx' h1 h2 (by omega) fun h5 _ => h4 h5
 | succ k ih =>
  intro n H nx K hk19 hn hmax hk hK
  by_cases h10 : n < 10
  ·exact digit_ok h10 hk fun s H' nx' h1 h2 h3 h4 => hK s H' nx' h1 h2 (by omega) fun h5 _ => h4 h5
  refine TriP.of_body mixed ?_
  rw [Fh_Digits_eq]
  unfold Fh_Digits
  have hp : (10 : Int) ^ (k + 1 + 1) = 10 ^ (k + 1) * 10 := by rw [Int.pow_succ]
  have hq : n.tdiv 10 = n / 10 := Int.tdiv_eq_ediv_of_nonneg (by omega)
  have hm : n.tmod 10 = n % 10 := Int.tmod_eq_emod_of_nonneg (by omega)
  refine ifB_iff.2 ⟨fun h => absurd (of_decide_eq_true h) h10, fun _ => ⟨by decide, ?_⟩⟩
  rw [hq, hm, wrap64_id (by omega) (by omega)]
  refine ih (by omega) (by omega) (by omega) hk fun s H1 nx1 h1 k1 h3 h4 => onEnd_ret.2 ⟨_, rfl, by decide, ?_⟩
  refine digit_ok (n := n % 10) (by omega) k1 fun s2 H2 nx2 h5 k2 h6 h7 => onEnd_ret.2 ⟨_, rfl, by omega, ?_⟩
  refine hK _ _ _ (by omega) k2 (by simp; omega) fun h0 h100 => ?_
  rw [h4 (by omega) (by omega), h7 (by omega)]
  unfold Pl.dig
  rw [if_pos (show (n / 10).toNat < 10 by omega), if_pos (show (n % 10).toNat < 10 by omega), if_neg (show ¬ n.toNat < 10 by omega)]
  rw [show (n / 10).toNat = n.toNat / 10 by omega, show (n % 10).toNat = n.toNat % 10 by omega]
  rfl
theorem digitsAll {n : Int} (hn : n ≤ 9223372036854775807) (hk : HZ Z Γ H nx) (hK : ∀ s H' nx', nx ≤ nx' → HZ Z Γ H' nx' → s.length ≤ 19 → (0 ≤ n → n < 100 → s = Pl.dig n.toNat) → K (.ret (.str s)) H' nx') : TriP PG f_h_Digits [iv n] H nx K :=
 digits_ok 18 (by omega) (by omega) hn hk hK
end
end
end Go.Vs
end
