/-
  Own work. Regions whose order is open. Part 6: the whole region.
-/
import Derived.Test.YtekidjgkiebicaaEvDrawn5
namespace Go.Ev

theorem stagesK_ok {P : Program} {call : CallK} {nt : Nat} {ops : Array Oper} {as : List Nat} {res : Nat} {dfs : Dfs} {rc : Option AMode} {K : Kont} {env0 : Env}
    (hc : CallSound P call) (F : OpsFact nt ops as) (hn : nt ≤ 256) (hlim : res + ops.size ≤ 1048576) :
    ∀ (rest : List Stage) (prev : Option Nat) (past : List Nat) (env : Env) (H : Heap) (nx : Nat), chkS ops as rest prev past = true → (∀ i, i ∈ past → ∃ o, ops[i]? = some o ∧ (cls o.op = 0 ∨ cls o.op = 1)) →
      (∀ t, t < 256 → get2 t env0 = .und ∨ ((∀ (j : Nat) (q : Oper), ops[j]? = some q → q.dst ≠ some t) ∧ get2 t env0 = get2 t env)) → stagesK P call ops res dfs rc K env0 rest env H nx = true →
      ∃ ex env' H' nx', K ex env' H' nx' dfs rc = true ∧ ∀ σ0 H0 w0 Q, (∀ σ' w' a' e, Rel σ' H' nx' w' → Ext σ0 σ' H0 H' res nx' w0 w' → ARel σ' nt env' dfs a' → ExRel σ' ex e → Q e a' w') →
        ∀ fuel listed σ w a, Inv P nt ops as res σ0 H0 w0 dfs past rest env H nx listed σ w a → left ops listed ≤ fuel → wpAny P .any ops Q fuel listed a w
  | [], prev, past, env, H, nx, _, hpast, _, h => by
    refine ⟨.normal, env, H, nx, h, fun σ0 H0 w0 Q hQ => ?_⟩
    have done : ∀ listed σ w a, Inv P nt ops as res σ0 H0 w0 dfs past [] env H nx listed σ w a → (∀ i, i < ops.size → isL listed i) → Q .normal a w := fun listed σ w a I hall =>
      hQ σ w a .normal I.rel I.ext ⟨⟨I.tsize, hn, fun t ht => I.den t ht fun j q hj _ => hall j (Array.getElem?_eq_some_iff.1 hj).1⟩, I.dfs⟩ trivial
    intro fuel
    induction fuel with
    | zero =>
      intro listed σ w a I hl
      have hall := left_zero (by omega : left ops listed = 0)
      refine ⟨?_, done listed σ w a I hall⟩
      refine List.eq_nil_iff_forall_not_mem.2 fun i hi => ?_
      obtain ⟨o, ho, hnl, _⟩ := (mem_ready I.size).1 hi
      exact hnl (hall i (Array.getElem?_eq_some_iff.1 ho).1)
    | succ fuel ih =>
      intro listed σ w a I hl
      refine ⟨fun hnil => done listed σ w a I (ready_nil F I.size hnil), fun i hi => ?_⟩
      obtain ⟨o, ho, hnl, hed⟩ := (mem_ready I.size).1 hi
      have hlt : i < ops.size := (Array.getElem?_eq_some_iff.1 ho).1
      have hr : ∀ j, bit (as.getD i 0) j = true → isL listed j := fun j hj => by
        obtain ⟨e, he, hb, hc'⟩ := F.ahead i o ho j hj
        rcases hc' with rfl | hc'
        · exact hed e he hb
        · exact I.closed _ j (hed e he hb) hc'
      have hp : i ∈ past := by
        rcases I.all i hlt with h | h | h
        · exact h
        · cases h
        · exact (hnl h).elim
      obtain ⟨o', ho', hcl⟩ := hpast i hp
      rw [ho] at ho'
      cases ho'
      refine I.float F hn ho hp hnl hcl hr (by intro h; cases h) fun σ1 w1 a1 I1 => ih _ σ1 w1 a1 I1 ?_
      have := left_set I.size hlt hnl
      omega
  | (e, L, A) :: rest, prev, past, env, H, nx, hchk, hpast, hblank, h => by
    have h' : (match ops[e]? with
      | some o => actK P call ops o env H nx dfs rc (fun env' H' nx' => floatsK P ops res nx' (fun env'' H'' => match againK P ops env'' H'' nx' A with
          | true => stagesK P call ops res dfs rc K env0 rest env'' H'' nx'
          | false => false) L env' H') K env0
      | none => false) = true := h
    unfold chkS at hchk
    split at hchk <;> first | (cases hchk; done) | skip
    rename_i oe hoe hprev
    split at hchk <;> first | (cases hchk; done) | skip
    rename_i hfresh hL
    split at hchk <;> first | (cases hchk; done) | skip
    rename_i past' hF
    split at hchk <;> first | (cases hchk; done) | skip
    rename_i hA
    rw [hoe] at h'
    simp only [] at h'
    have hde := F.dst e oe hoe
    have helt : e < ops.size := (Array.getElem?_eq_some_iff.1 hoe).1
    have pastiff := chkF_past hF
    -- who may come up
    have who : ∀ {σ0 H0 w0 listed σ w a}, Inv P nt ops as res σ0 H0 w0 dfs past ((e, L, A) :: rest) env H nx listed σ w a → ∀ i o, ops[i]? = some o → (∀ j, bit (as.getD i 0) j = true → isL listed j) → i ∈ named ((e, L, A) :: rest) → i = e := by
      intro σ0 H0 w0 listed σ w a I i o ho hr hi
      have hine := hi
      unfold named at hi
      rcases List.mem_cons.1 hi with rfl | hi
      · rfl
      · have ebad : ¬ isL listed e := I.todo e (by unfold named; exact List.mem_cons_self ..)
        rcases List.mem_append.1 hi with hi | hi
        · exact (ebad (hr e (allL_ok hL i hi))).elim
        · obtain ⟨j, hj, hb⟩ := chkS_pred hchk i hi
          rcases hj with rfl | hj
          · exact (ebad (hr j hb)).elim
          · exact (I.todo j (by unfold named; exact List.mem_cons_of_mem _ (List.mem_append_right _ hj)) (hr j hb)).elim
    -- the loop over those that do not act, and the acting one
    have loop : ∀ {σ0 : Sg} {H0 : Heap} {w0 : World} {Q : Exit → Act → World → Prop}, (∀ fuel listed σ w a, Inv P nt ops as res σ0 H0 w0 dfs past ((e, L, A) :: rest) env H nx listed σ w a → left ops listed ≤ fuel + 1 → (∀ j, bit (as.getD e 0) j = true → isL listed j) →
        wpOp P ops Q e (wpAny P .any ops Q fuel (listed.setIfInBounds e true)) a w) →
        ∀ fuel listed σ w a, Inv P nt ops as res σ0 H0 w0 dfs past ((e, L, A) :: rest) env H nx listed σ w a → left ops listed ≤ fuel → wpAny P .any ops Q fuel listed a w := by
      intro σ0 H0 w0 Q hact fuel
      have eun : ∀ {listed σ w a}, Inv P nt ops as res σ0 H0 w0 dfs past ((e, L, A) :: rest) env H nx listed σ w a → ¬ isL listed e := fun I => I.todo e (by unfold named; exact List.mem_cons_self ..)
      induction fuel with
      | zero =>
        intro listed σ w a I hl
        exact (eun I (left_zero (by omega : left ops listed = 0) e helt)).elim
      | succ fuel ih =>
        intro listed σ w a I hl
        refine ⟨fun hnil => (eun I (ready_nil F I.size hnil e helt)).elim, fun i hi => ?_⟩
        obtain ⟨o, ho, hnl, hed⟩ := (mem_ready I.size).1 hi
        have hlt : i < ops.size := (Array.getElem?_eq_some_iff.1 ho).1
        have hr : ∀ j, bit (as.getD i 0) j = true → isL listed j := fun j hj => by
          obtain ⟨g, hg, hb, hc'⟩ := F.ahead i o ho j hj
          rcases hc' with rfl | hc'
          · exact hed g hg hb
          · exact I.closed _ j (hed g hg hb) hc'
        by_cases hin : i ∈ named ((e, L, A) :: rest)
        · have := who I i o ho hr hin
          subst this
          exact hact fuel listed σ w a I hl hr
        · have hp : i ∈ past := by
            rcases I.all i hlt with h | h | h
            · exact h
            · exact (hin h).elim
            · exact (hnl h).elim
          obtain ⟨o', ho', hcl⟩ := hpast i hp
          rw [ho] at ho'
          cases ho'
          refine I.float F hn ho hp hnl hcl hr hin fun σ1 w1 a1 I1 => ih _ σ1 w1 a1 I1 ?_
          have := left_set I.size hlt hnl
          omega
    rcases actK_ok (nt := nt) hc h' with ⟨v, H1, nx1, hk, step⟩ | ⟨l, H1, nx1, hk, step⟩
    · obtain ⟨env2, H2, hk2, b1, b2, b3, b4⟩ := floatsK_ok F hn hlim L past past' _ H1 hF hk
      split at hk2 <;> first | (cases hk2; done) | skip
      rename_i hag
      have hpast' : ∀ i, i ∈ past' → ∃ o, ops[i]? = some o ∧ (cls o.op = 0 ∨ cls o.op = 1) := by
        intro i hi
        rcases (pastiff i).1 hi with hi | hi
        · exact hpast i hi
        · obtain ⟨o, ho, hne⟩ := chkF_cls hF i hi
          refine ⟨o, ho, ?_⟩
          have : cls o.op = 0 ∨ cls o.op = 1 ∨ cls o.op = 2 := by
            unfold cls
            split <;> first | exact .inl rfl | exact .inr (.inl rfl) | exact .inr (.inr rfl) | skip
            split <;> first | exact .inl rfl | exact .inr (.inr rfl)
          rcases this with h | h | h
          · exact .inl h
          · exact .inr h
          · exact (hne h).elim
      have hblank' : ∀ t, t < 256 → get2 t env0 = .und ∨ ((∀ (j : Nat) (q : Oper), ops[j]? = some q → q.dst ≠ some t) ∧ get2 t env0 = get2 t env2) := by
        intro t ht
        rcases hblank t ht with h | ⟨h1, h2⟩
        · exact .inl h
        · refine .inr ⟨h1, ?_⟩
          rw [b1 t ht (fun j q _ hq => h1 j q hq), get2_put' hde hn ht (h1 e oe hoe), h2]
      obtain ⟨ex, env', H', nx', hK, rec'⟩ := stagesK_ok hc F hn hlim rest (some e) past' env2 H2 nx1 hchk hpast' hblank' hk2
      refine ⟨ex, env', H', nx', hK, fun σ0 H0 w0 Q hQ => loop fun fuel listed σ w a I hl hr => ?_⟩
      have eun : ¬ isL listed e := I.todo e (by unfold named; exact List.mem_cons_self ..)
      have Lun : ∀ j, j ∈ L → ¬ isL listed j := fun j hj => I.todo j (by unfold named; exact List.mem_cons_of_mem _ (List.mem_append_left _ hj))
      have Lne : ∀ j, j ∈ L → j ≠ e := fun j hj q => by
        subst q
        have := F.lt j oe hoe j (allL_ok hL j hj)
        omega
      have Llt : ∀ j, j ∈ L → j < ops.size := fun j hj => by
        obtain ⟨o, ho, _⟩ := chkF_cls hF j hj
        exact (Array.getElem?_eq_some_iff.1 ho).1
      have S : ∀ j, isL (listed.setIfInBounds e true) j ↔ (j = e ∨ isL listed j) := fun j => isL_set (by rw [I.size]; exact helt)
      obtain ⟨envm, M, hw, hx⟩ := I.view F hn hoe hr
      unfold wpOp
      rw [hoe]
      refine step envm σ w a _ Q I.rel M hw hx fun σ1 w1 v' R E D => ?_
      have hnx := E.le
      have hpl := I.lim
      have pend1 : ∀ j, j < ops.size → ¬ isL listed j → σ1 (res + j) = none ∧ get5 (res + j) H1 = get5 (res + j) H := fun j hj hnl => E.pend (res + j) (by omega) (I.pend j hj hnl)
      refine rec' σ0 H0 w0 Q hQ fuel _ σ1 w1 _ ⟨?_, ?_, ?_, ?_, ?_, ?_, ?_, ?_, ?_, ?_, ?_, ?_, ?_⟩ ?_
      · rw [Array.size_setIfInBounds]; exact I.size
      · cases hdst : oe.dst with
        | none => exact I.tsize
        | some d => show (a.tmps.setIfInBounds d v').size = nt; rw [Array.size_setIfInBounds]; exact I.tsize
      · intro j k hj hb
        rw [S] at hj ⊢
        rcases hj with rfl | hj
        · exact .inr (hr k hb)
        · exact .inr (I.closed j k hj hb)
      · intro j hj hlj
        rw [S] at hlj
        have hj' : j ∈ named ((e, L, A) :: rest) := by unfold named; exact List.mem_cons_of_mem _ (List.mem_append_right _ hj)
        rcases hlj with rfl | hlj
        · obtain ⟨g, hg, hb⟩ := chkS_pred hchk j hj
          rcases hg with rfl | hg
          · exact eun (hr g hb)
          · exact I.todo g (by unfold named; exact List.mem_cons_of_mem _ (List.mem_append_right _ hg)) (hr g hb)
        · exact I.todo j hj' hlj
      · intro j hj
        rw [S]
        rcases I.all j hj with h | h | h
        · exact .inl ((pastiff j).2 (.inl h))
        · unfold named at h
          rcases List.mem_cons.1 h with rfl | h
          · exact .inr (.inr (.inl rfl))
          · rcases List.mem_append.1 h with h | h
            · exact .inl ((pastiff j).2 (.inr h))
            · exact .inr (.inl h)
        · exact .inr (.inr (.inr h))
      · intro t ht hown
        have hnotL : ∀ (j : Nat) (q : Oper), j ∈ L → ops[j]? = some q → q.dst ≠ some t := by
          intro j q hj hq hd
          have := hown j q hq hd
          rw [S] at this
          rcases this with h | h
          · exact Lne j hj h
          · exact Lun j hj h
        rw [b1 t ht hnotL]
        by_cases ed : oe.dst = some t
        · rw [ed]
          show Den σ1 (get2 t (put (some t) v env)) ((a.tmps.setIfInBounds t v').getD t undef)
          have : t < a.tmps.size := by rw [I.tsize]; rw [ed] at hde; exact Nat.le_of_ble_eq_true hde
          rw [getD_put _ _ _ _ this, if_pos rfl, get2_put_same]
          exact D
        · rw [get2_put' hde hn ht ed]
          have h1 : (a.put oe.dst v').tmps.getD t undef = a.tmps.getD t undef := by
            cases hdst : oe.dst with
            | none => rfl
            | some d =>
              show (a.tmps.setIfInBounds d v').getD t undef = _
              have : d < a.tmps.size := by rw [I.tsize]; rw [hdst] at hde; exact Nat.le_of_ble_eq_true hde
              rw [getD_put _ _ _ _ this, if_neg (fun q => ed (by rw [hdst, q]))]
          rw [h1]
          refine (I.den t ht fun j q hj hq => ?_).mono E.sub
          have := hown j q hj hq
          rw [S] at this
          rcases this with rfl | h
          · rw [hoe] at hj; cases hj; exact (ed hq).elim
          · exact h
      · intro j q hj hq hlj hcl
        have h1 := allL_ok hA j hj
        rw [hq] at h1
        simp only [hcl] at h1
        have hmem : j ∈ A := by
          have h2 : (match Nat.beq 0 0 with | true => (match memN j A with | true => true | false => bit (as.getD e 0) j) | false => true) = true := h1
          simp only at h2
          split at h2
          · exact memN_ok ‹_›
          · exact (hlj ((S j).2 (.inr (hr j h2)))).elim
        have h3 := allL_ok hag j hmem
        rw [hq] at h3
        exact h3
      · intro j q hj hq hlj hcl
        have hnl : ¬ isL listed j := fun h => hlj ((S j).2 (.inr h))
        have hjne : j ≠ e := fun h => hlj ((S j).2 (.inl h))
        have hjlt : j < ops.size := (Array.getElem?_eq_some_iff.1 hq).1
        rcases (pastiff j).1 hj with hj | hj
        · obtain ⟨_, q0, hq0, hfr⟩ := freshOf_ok hfresh j hj
          rw [hq] at hq0
          cases hq0
          refine (I.fl1 j q hj hq hnl hcl).keep ?_ ?_ ?_
          · intro t ht hlt
            rw [b1 t hlt fun j' q' hj' hq' ed => ?_]
            · exact get2_put' hde hn hlt fun ed => hfr t ed ht
            · obtain ⟨_, q1, o1, e1, e2, e3⟩ := chkF_fresh hF j hj j' hj'
              rw [hq] at e1; cases e1
              rw [hq'] at e2; cases e2
              exact e3 t ed ht
          · intro d hd
            have hdl : d < 256 := Nat.lt_of_lt_of_le (by have := F.dst j q hq; rw [hd] at this; exact Nat.le_of_ble_eq_true this) hn
            rw [b1 d hdl fun j' q' hj' hq' ed => (chkF_fresh hF j hj j' hj').1 (F.uniq j j' q q' d hq hq' hd ed)]
            exact get2_put' hde hn hdl fun ed => hjne (F.uniq j e q oe d hq hoe hd ed)
          · rw [b2 _ (by omega) fun j' hj' ed => (chkF_fresh hF j hj j' hj').1 (by omega)]
            exact (pend1 j hjlt hnl).2
        · exact b4 j q hj hq hcl
      · intro j hj hlj
        exact (pend1 j hj fun h => hlj ((S j).2 (.inr h))).1
      · omega
      · exact b3 σ1 w1 R fun j hj => (pend1 j (Llt j hj) (Lun j hj)).1
      · have E2 := I.ext.trans E
        refine ⟨E2.sub, E2.rng, ?_, E2.le, E2.os, E2.tape, E2.output, E2.size, E2.frame⟩
        intro b hb h0
        obtain ⟨p1, p2⟩ := E2.pend b hb h0
        exact ⟨p1, (b2 b (by omega) fun j _ => by omega).trans p2⟩
      · have : (a.put oe.dst v').defers = a.defers := by cases oe.dst <;> rfl
        rw [this]; exact I.dfs.mono E.sub
      · have := left_set I.size helt eun
        omega
    · refine ⟨.pan l, env0, H1, nx1, hk, fun σ0 H0 w0 Q hQ => loop fun fuel listed σ w a I hl hr => ?_⟩
      obtain ⟨envm, M, hw, hx⟩ := I.view F hn hoe hr
      unfold wpOp
      rw [hoe]
      refine step envm σ w a _ Q I.rel M hw hx fun σ1 w1 c R E C => ?_
      refine hQ σ1 w1 a (.panic c) R (I.ext.trans E) ⟨⟨I.tsize, hn, fun t ht => ?_⟩, I.dfs.mono E.sub⟩ C
      rcases hblank t ht with h | ⟨h1, h2⟩
      · rw [h]; exact .und _
      · rw [h2]; exact (I.den t ht fun j q hj hq => (h1 j q hj hq).elim).mono E.sub

theorem blank_get {nt : Nat} (hn : nt ≤ 256) : ∀ (l : List Oper) (env : Env) (t : Nat), t < 256 → (∀ o, o ∈ l → dstOK nt o.dst = true) → get2 t (blank l env) = .und ∨ ((∀ o, o ∈ l → o.dst ≠ some t) ∧ get2 t (blank l env) = get2 t env)
  | [], env, t, _, _ => .inr ⟨fun o ho => (by cases ho), rfl⟩
  | o :: l, env, t, ht, hd => by
    have e : blank (o :: l) env = blank l (put o.dst .und env) := rfl
    rw [e]
    rcases blank_get hn l (put o.dst .und env) t ht (fun q hq => hd q (List.mem_cons_of_mem _ hq)) with h | ⟨h1, h2⟩
    · exact .inl h
    · by_cases ed : o.dst = some t
      · refine .inl ?_
        rw [h2, ed]; exact get2_put_same
      · refine .inr ⟨fun q hq => ?_, ?_⟩
        · rcases List.mem_cons.1 hq with rfl | hq
          · exact ed
          · exact h1 q hq
        · rw [h2, get2_put' (hd o (List.mem_cons_self ..)) hn ht ed]

end Go.Ev
