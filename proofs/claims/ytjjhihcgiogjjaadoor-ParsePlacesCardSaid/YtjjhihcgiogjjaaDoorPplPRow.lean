/-
  Own work. Rows in brackets; one rule in brackets.
-/
import Derived.Test.YtjjhihcgiogjjaaDoorPpl4
set_option linter.unusedSectionVars false
set_option linter.unusedVariables false
set_option linter.unusedSimpArgs false
set_option maxRecDepth 1000000
namespace Go.Vs
open Go.Proofs
variable [GTab] {Z : Nat → Prop}
noncomputable section
theorem RRow_eq (call : CallP) (lp : Nat → LoopP) (lv : LeaveP) (lvc : LeaveC) (r g : Nat) (fs cs : List AVal) (v o : AVal) (H : Heap) (nx : Nat) (K : EndP) :
  contAt PG call (lp 22) 22 (codeOf PG f_rd_row) [1, 1, 1, 1, 0] (endK PG lv lvc K (resOf PG f_rd_row)) .ret (envL .und [(0, .ptr r 0), (1, .func (.func g) fs cs), (4, v), (5, o)]) H nx [] none = K (.ret v) H nx := by kernel_rfl
theorem rowGo_len {l : List Tok} {one : Nat → Rs (Tree × Nat)} (ho : Ps.AdvOK one) : ∀ n a xs b, Ps.rowGo l one n a = some (.ok (xs, b)) → xs.length + a ≤ b
 | 0, _, _, _, h => by simp [Ps.rowGo] at h
 | n + 1, a, xs, b, h => by
  unfold Ps.rowGo at h
  refine Ps.bind_el h fun x c h1 h => ?_
  have := ho _ _ _ h1
  refine Ps.ite_el h (fun _ h => Ps.bind_el h fun ys g h3 h => Ps.ok_el h fun h4 h5 => ?_) fun _ h => Ps.lift_el h fun e h2 h => Ps.ok_el h fun h4 h5 => ?_
  ·have := rowGo_len ho n _ _ _ h3
   subst h4 h5; simp; omega
  ·have := Ps.need_ok h2
   subst h4 h5; simp; omega
section
variable {Γ0 Γ : GH} {n0 : Nat} {H : Heap} {nx a d n i : Nat} {C : RC} {K : EndP}
theorem row_ok {g : FuncId} {one : Nat → Rs (Tree × Nat)} {n : Nat} {res : Except Flt (List Tree × Nat)} (W : Toks C.l) (hadv1 : Ps.AdvOK one) (hg : callTo PG (.func (.func g) [.ptr C.r 0] []) [] = some (g, [.ptr C.r 0])) (hone : RuleOK C.l C.r C.tb d g one)
  (hrun : Ps.row C.l one n a = some res) (hk : HZ Z Γ H nx) (hr : Rd Γ C a d) (hK : Meets Z K Γ nx C d res (KidsV C.ex)) : TriP PG f_rd_row [.ptr C.r 0, .func (.func g) [.ptr C.r 0] []] H nx K := by
 refine TriP.of_body mixed ?_
 rw [Frd_row_eq]
 unfold Frd_row
 unfold Ps.row at hrun
 refine need_ok' W hk hr (fun h H1 nx1 h1 hk1 => onEnd_pan.2 (hK.2 _ _ _ _ ?_ h1 hk1 (.refl _ _ _) hr.p)) fun h Γ1 H1 nx1 h1 hk1 kp1 hr1 => onEnd_ret.2 ⟨_, _, _, _, _, rfl, ?_⟩
 ·simp [Ps.need, h, Ps.lift] at hrun; exact hrun.symm
 have hrun : (if Ps.is C.l (a + 1) [41] = true then Rs.ok ([], a + 1 + 1) else Ps.rowGo C.l one n (a + 1)) = some res := by simpa [Ps.need, h, Ps.lift] using hrun
 refine has_ok W hk1 hr1 (fun h5 H2 nx2 h2 hk2 => onEnd_ret.2 ⟨_, rfl, ifB_f rfl ?_⟩) fun h5 Γ2 H2 nx2 h2 hk2 kp2 hr2 => onEnd_ret.2 ⟨_, rfl, ifB_t rfl ?_⟩
 ·have hrun : Ps.rowGo C.l one n (a + 1) = some res := by simpa [h5] using hrun
  have hK2 := hK.from (by omega : nx ≤ nx2) kp1.le
  refine loop_w (P := PG) (X := AVal) (Y := Unit) (fun o => envL .und [(0, .ptr C.r 0), (1, .func (.func g) [.ptr C.r 0] []), (5, o)]) (fun _ => envL .und [])
   (fun m o H3 nx3 => nx2 ≤ nx3 ∧ ∃ Γ3 Γ4 ts b res', HZ Z Γ4 H3 nx3 ∧ KeepX C.r nx2 Γ1 Γ3 ∧ Rd Γ3 C b d ∧ Grow C nx2 Γ3 Γ4 o ts ∧ ts.length ≤ b ∧ Ps.rowGo C.l one m b = some res' ∧ res = (match res' with | .ok (xs, c) => .ok (ts ++ xs, c) | .error f => .error f))
   (fun id _ H3 nx3 => False) n .nilSlice (EnvLe.of_list (by exact ⟨rfl, rfl, rfl, trivial⟩))
   ⟨Nat.le_refl _, Γ1, Γ1, [], _, res, hk2, .refl _ _ _, hr1, .inl ⟨rfl, rfl, rfl⟩, by simp, hrun, by cases res <;> rfl⟩ ?_ ?_
  ·rintro m o H3 nx3 ⟨h3, Γ3, Γ4, ts, b, res', hk4, kp3, hr3, gr, hts, hgo, hres⟩
   refine WpP.trim (ts := [0, 1, 4, 5]) (WpP.weaken (e := envL .und [(5, o), (1, .func (.func g) [.ptr C.r 0] []), (0, .ptr C.r 0)]) (EnvLe.of_list (by exact ⟨rfl, rfl, rfl, trivial⟩)) (WpP.of_vK mixed ?_))
   rw [LRow_eq]
   unfold LRow
   cases m with
   | zero => simp [Ps.rowGo] at hgo
   | succ m =>
   unfold Ps.rowGo at hgo
   refine ⟨_, _, hg, ?_⟩
   rcases Ps.bind_some hgo with ⟨f, e1, e2⟩ | ⟨⟨x, c⟩, e1, hgo⟩
   ·refine hone.on (C.own_l o) (C.own_r o) (C.own_tb o) e1 hk4 (gr.rd hr3) (.on (fun x b v Γ' H' nx' e => by cases e) fun f' Γ' H' nx' e g1 g2 g3 g4 => ?_)
    cases e
    subst e2
    rw [C.own_r] at g3 g4
    exact hK2.2 f _ _ _ hres (by omega) g2 ((kp3.trans gr.keep).trans g3) g4
   ·refine hone.on (C.own_l o) (C.own_r o) (C.own_tb o) e1 hk4 (gr.rd hr3) (.on (fun x' b' v Γ6 H6 nx6 e g1 g2 g3 g4 g5 => ?_) fun f' Γ' H' nx' e => by cases e)
    cases e
    obtain ⟨k, s, nn, li, co, w, rfl, hw, hn⟩ := g4.cells
    rw [C.own_r] at g3
    have hf6 := g2.fresh (Nat.le_refl nx6)
    refine ⟨_, _, _, _, _, _, rfl, scrN g2 (nx' := nx6 + 1) (Nat.le_refl _) (by omega) fun H7 g7 => ?_⟩
    have hn7 : NodeC (C.own o).ex (gup nx6 (some [iv k, .str s, iv nn, iv li, iv co, w]) Γ6) [iv k, .str s, iv nn, iv li, iv co, w] x := hn.mono (fun _ h => h) fun c ds _ e => by rw [gup_ne fun x => by rw [x, hf6] at e; cases e]; exact e
    have hr7 : Rd (gup nx6 (some [iv k, .str s, iv nn, iv li, iv co, w]) Γ6) (C.own o) c d := g5.new hf6
    have hcl := hr7.lt
    have hWf := W.few
    rw [C.own_l] at hcl
    have hadv := hr3.lt
    obtain ⟨v, H8, nx8, Γ8, Γ9, a1, a2, a3, a4, a5, a6⟩ := gr.more hr3 g7 (g3.trans (.new (nx := nx6) hf6)) (by omega) (by omega) hr7 hn7 (by omega)
    refine ⟨1, [iv k, .str s, iv nn, iv li, iv co, w], ?_, by simp only [allCell, hw]; rfl, v, H8, nx8, a1, ?_⟩
    ·rw [g7.src (gup_same _ _ _) (by simp)]; simp
    have hr9 := a6.rd' a5
    have ha1 := hadv1 _ _ _ e1
    refine has_ok W a3 hr9 (fun h9 H10 nx10 g10 hk10 => onEnd_ret.2 ⟨_, rfl, ifB_t rfl ?_⟩) fun h9 Γ10 H10 nx10 g10 hk10 kp10 hr10 => onEnd_ret.2 ⟨_, rfl, ifB_f rfl ?_⟩
    ·have hgo : Ps.lift (Ps.need C.l c [41]) (fun c => Rs.ok ([x], c)) = some res' := by simpa [h9] using hgo
     refine need_ok' W hk10 hr9 (fun h11 H11 nx11 g11 hk11 => onEnd_pan.2 ?_) fun h11 Γ11 H11 nx11 g11 hk11 kp11 hr11 => onEnd_ret.2 ⟨_, _, _, _, _, rfl, ?_⟩
     ·have : res' = .error (Ps.flt C.l c 13) := by simp [Ps.need, h11, Ps.lift] at hgo; exact hgo.symm
      subst this
      exact hK2.2 _ _ _ _ hres (by omega) hk11 ((kp3.trans a4).trans a6.keep) hr9.p
     ·have : res' = .ok ([x], c + 1) := by simp [Ps.need, h11, Ps.lift, Rs.ok] at hgo; exact hgo.symm
      subst this
      refine Eq.mpr (RRow_eq (TriP PG) (LpP PG) (lvSem (TriDP PG)) (lvcSem PG (TriDP PG)) C.r g [.ptr C.r 0] [] v v H11 nx11 K) ?_
      exact hK2.1 _ _ _ _ _ _ hres (by omega) hk11 (((kp3.trans a4).trans a6.keep).trans kp11.le) ((a6.v a5).keep a5.rex kp11) hr11
    ·have hgo : Rs.bind (Ps.rowGo C.l one m (c + 1)) (fun (xs, e) => Rs.ok (x :: xs, e)) = some res' := by simpa [h9] using hgo
     obtain ⟨Γ11, b1, b2, b3⟩ := a6.next a5 kp10 (by omega) hr10
     rcases Ps.bind_some hgo with ⟨f, e4, e5⟩ | ⟨⟨xs, c2⟩, e4, e5⟩
     ·exact ⟨rfl, m, v, Nat.lt_succ_self m, EnvLe.of_list (by exact ⟨rfl, rfl, rfl, trivial⟩), by omega, Γ11, Γ10, ts ++ [x], c + 1, _, hk10, (kp3.trans a4).trans b2, b3, b1, by simp; omega, e4, by rw [hres, e5]⟩
     ·refine ⟨rfl, m, v, Nat.lt_succ_self m, EnvLe.of_list (by exact ⟨rfl, rfl, rfl, trivial⟩), by omega, Γ11, Γ10, ts ++ [x], c + 1, _, hk10, (kp3.trans a4).trans b2, b3, b1, by simp; omega, e4, ?_⟩
      cases e5
      rw [hres]; simp
  ·rintro id o H3 nx3 hx
   exact hx.elim
 ·rw [h5] at hrun
  have e : res = .ok ([], a + 1 + 1) := by simp [Rs.ok] at hrun; exact hrun.symm
  exact hK.1 [] _ _ _ _ _ e (by omega) hk2 ((kp1.trans kp2).le) .nil hr2
theorem row_call {β : Type} {V : GH → AVal → β → Prop} {res : Except Flt (β × Nat)} {rK : AVal → Heap → Nat → Prop} {pK : List (AVal × Bool) → Heap → Nat → Prop} {g : FuncId} {n : Nat} {one : Nat → Rs (Tree × Nat)} {k : List Tree × Nat → Rs (β × Nat)} {Cb : RC} {db : Nat} (W : Toks C.l) (hadv : Ps.AdvOK one) (hg : callTo PG (.func (.func g) [.ptr C.r 0] []) [] = some (g, [.ptr C.r 0]))
  (hone : RuleOK C.l C.r C.tb d g one) (hrun : Rs.bind (Ps.row C.l one n a) k = some res) {Zc : Nat → Prop} (hk : HZ Zc Γ H nx) (hr : Rd Γ C a d) (hK : Owe Z K Γ0 n0 Γ nx Cb db res V) (hb : Cb.r = C.r) (hp : PanOK Z K Cb.r pK) (hz : ∀ b, Z b → Zc b)
  (hok : ∀ ts b v Γ' H' nx', Ps.row C.l one n a = some (.ok (ts, b)) → k (ts, b) = some res → nx ≤ nx' → HZ Zc Γ' H' nx' → KeepX C.r nx Γ Γ' → KidsV C.ex Γ' v ts → Rd Γ' C b d → Owe Z K Γ0 n0 Γ' nx' Cb db res V → rK v H' nx') :
  TriP PG f_rd_row [.ptr C.r 0, .func (.func g) [.ptr C.r 0] []] H nx fun e H' nx' => onEnd e (fun v => rK v H' nx') fun l => pK l H' nx' := by
 rcases Ps.bind_some hrun with ⟨f, e1, e2⟩ | ⟨⟨t, b⟩, e1, e2⟩
 ·refine row_ok W hadv hg hone e1 hk hr (.on (fun x b v Γ' H' nx' e => by cases e) fun f' Γ' H' nx' e g1 g2 g3 g4 => ?_)
  cases e
  rw [← hb] at g3 g4
  exact hp.of (hK.from g1 g3) e2 (g2.less hz) g4
 ·refine row_ok W hadv hg hone e1 hk hr (.on (fun x b' v Γ' H' nx' e g1 g2 g3 g4 g5 => ?_) fun f' Γ' H' nx' e => by cases e)
  cases e
  exact hok _ _ _ _ _ _ e1 e2 g1 g2 g3 g4 g5 (hK.from g1 (by rw [hb]; exact g3))
theorem one_ok {g : FuncId} {one : Nat → Rs (Tree × Nat)} {res : Except Flt (Tree × Nat)} (W : Toks C.l) (hg : callTo PG (.func (.func g) [.ptr C.r 0] []) [] = some (g, [.ptr C.r 0])) (hone : RuleOK C.l C.r C.tb d g one)
  (hrun : (Ps.lift (Ps.need C.l a [40]) fun b => Rs.bind (one b) fun (x, c) => Ps.lift (Ps.need C.l c [41]) fun e => Rs.ok (x, e)) = some res) (hk : HZ Z Γ H nx) (hr : Rd Γ C a d) (hK : Meets Z K Γ nx C d res (NodeV C.ex)) :
  TriP PG f_rd_one [.ptr C.r 0, .func (.func g) [.ptr C.r 0] []] H nx K := by
 refine TriP.of_body mixed ?_
 rw [Frd_one_eq]
 unfold Frd_one
 refine begin6 hk hr hK fun Γ1 H1 hk1 hr1 hi1 hf hK1 kp1 => ?_
 refine need_call (C := C.add nx) W hrun hk1 hr1 hK1 rfl .id (fun _ h => h) fun Γ2 H2 nx2 his2 e2 h2 hk2 kp2 hr2 hK2 => ⟨_, _, _, _, _, rfl, _, _, hg, ?_⟩
 refine rule_call (C := C.add nx) (fun Z ex res Γ H nx K h => hone Z ex _ res Γ H nx K h) e2 hk2 hr2 hK2 rfl .id (fun _ h => h) fun t b kk s n li co w Γ3 H3 nx3 e3 e4 h3 hk3 kp3 hw hn hr3 hK3 => ⟨_, _, _, _, _, _, rfl, ?_⟩
 refine nodeIn (C := C.add nx) hk3 hr3 hw hK3 rfl fun Γ4 H4 hk4 hr4 hb4 kp4 hK4 => ?_
 refine need_call (C := C.add nx) W e4 hk4 hr4 hK4 rfl .id (fun _ h => h) fun Γ5 H5 nx5 his5 e5 h5 hk5 kp5 hr5 hK5 => ⟨_, _, _, _, _, rfl, _, _, _, _, _, _, ldAll hk5 (hb4.keep kp5).e rfl, ?_⟩
 cases e5
 exact fin6 hk5 hr5 ((((hi1.keep kp2).keep kp3).keep kp4).keep kp5) hf hr.rex hw ((hn.keep hr3.rex kp4).keep hr4.rex kp5) rfl hK5
end
end
end Go.Vs
