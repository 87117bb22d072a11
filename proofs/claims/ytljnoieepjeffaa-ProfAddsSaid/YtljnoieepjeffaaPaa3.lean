/-
  Own work. Texts of a proof, laid together; no condition.
-/
import Derived.Test.YtljnoieepjeffaaChecked
import Derived.Shelf.SlSortCmp.InsertionK
import Derived.Shelf.SlSortCmp.Insertion
import Derived.Shelf.SlSortCmp.WholeK
import Derived.Shelf.SlGeneric
import Derived.Ground.SlsfProg
import Derived.Shelf.SlSortCmp.NoneTotal
import Derived.Test.YtljnoieepjeffaaPaa2
set_option linter.unusedSectionVars false
set_option linter.unusedVariables false
set_option linter.unusedSimpArgs false
set_option maxRecDepth 1000000
section
namespace Go.Vs
open Go.Proofs
noncomputable abbrev PG : Program := Try.prog
abbrev iv (n : Int) : AVal := .int .i64 n
theorem mixed : PG.follows .mixedOrders = true := by kernel_rfl
abbrev f_law13_ProfAdds : FuncId := 4
abbrev f_pr_New : FuncId := 5
abbrev f_law13_known : FuncId := 6
abbrev f_h_Pick : FuncId := 7
abbrev f_pf_Add : FuncId := 8
abbrev f_pf_Hot : FuncId := 9
abbrev f_pf_All : FuncId := 10
abbrev f_r10p_Add : FuncId := 11
abbrev f_r10_SameCount : FuncId := 12
abbrev f_pf_Of : FuncId := 13
abbrev f_r10p_Of : FuncId := 14
abbrev f_r10p_Hot : FuncId := 15
abbrev f_law13_same : FuncId := 16
abbrev f_pr_small : FuncId := 17
abbrev f_sl_ContainsFunc___prof_Seen_prof_Seen_ : FuncId := 18
abbrev f_pf_Add_1 : FuncId := 19
abbrev f_pr_copied : FuncId := 20
abbrev f_heap_Push : FuncId := 21
abbrev f_heap_Pop : FuncId := 22
abbrev f_sl_SortFunc___prof_Count_prof_Count_ : FuncId := 23
abbrev f_pr_byPlace : FuncId := 24
abbrev f_r10p_set : FuncId := 25
abbrev f_r10p_find : FuncId := 26
abbrev f_sl_IndexFunc___prof_Seen_prof_Seen_ : FuncId := 27
abbrev f_heap_up : FuncId := 28
abbrev f_heap_down : FuncId := 29
abbrev f_cmp_Or_int_ : FuncId := 32
abbrev f_cmp_Compare_int_ : FuncId := 33
abbrev f_cmp_isNaN_int_ : FuncId := 44
abbrev f_ht_Len : FuncId := 68
abbrev f_ht_Less : FuncId := 69
abbrev f_ht_Swap : FuncId := 70
abbrev f_hp_Pop : FuncId := 71
abbrev f_hp_Push : FuncId := 72
abbrev t_Count : TypeId := 30
abbrev t_hotp : TypeId := 56
end Go.Vs
end
section
namespace Go.Vs
open Go.Proofs
variable [GTab]
def Fpr_New (call : CallP) (lp : Nat → LoopP) (lv : LeaveP) (lvc : LeaveC) (_u : Nat) (H : Heap) (nx : Nat) (K : EndP) : Prop :=
 ∃ H0, H0 = set5 nx (some (AObj.map [] 0)) H ∧ true = true ∧ ∃ H1, H1 = newBN (nx + 1) [AVal.map nx].length [AVal.map nx] H0 ∧ K (AEnd.ret (AVal.ptr (nx + 1) 0)) H1 (nx + 1 + 1)
theorem Fpr_New_eq (call : CallP) (lp : Nat → LoopP) (lv : LeaveP) (lvc : LeaveC) (_u : Nat) (H : Heap) (nx : Nat) (K : EndP) : vBody PG call lp f_pr_New ([] : List AVal) H nx (endK PG lv lvc K) = Fpr_New call lp lv lvc _u H nx K := by kernel_rfl
def Fpf_Add (call : CallP) (lp : Nat → LoopP) (lv : LeaveP) (lvc : LeaveC) (p : Nat) (a : Int) (b : Int) (c : Int) (d : Int) (t : AVal) (H : Heap) (nx : Nat) (K : EndP) : Prop :=
 ∃ H0, H0 = newBN nx [iv a, iv b, iv c, iv d, t].length [iv a, iv b, iv c, iv d, t] H ∧ ∃ v1, some (AVal.ptr nx 0) = some v1 ∧ ∃ n2 : Int, ld1 H0 v1 = some (iv n2) ∧ call f_pr_small [iv n2]
 H0 (nx + 1) fun e3 H4 i5 => onEnd e3 (fun v6 => ∃ b7, v6 = AVal.bool b7 ∧ ifB (!b7) (K (AEnd.ret (AVal.bool false)) H4 i5) (∃ v8, some (AVal.ptr nx 1) = some v8 ∧ ∃ n9 : Int, ld1 H4
 v8 = some (iv n9) ∧ call f_pr_small [iv n9] H4 i5 fun e10 H11 i12 => onEnd e10 (fun v13 => ∃ b14, v13 = AVal.bool b14 ∧ ifB (!b14) (K (AEnd.ret (AVal.bool false)) H11 i12) (∃ v15, some
 (AVal.ptr nx 2) = some v15 ∧ ∃ n16 : Int, ld1 H11 v15 = some (iv n16) ∧ call f_pr_small [iv n16] H11 i12 fun e17 H18 i19 => onEnd e17 (fun v20 => ∃ b21, v20 = AVal.bool b21 ∧ ifB (!b21) (K
 (AEnd.ret (AVal.bool false)) H18 i19) (∃ v22, some (AVal.ptr nx 3) = some v22 ∧ ∃ n23 : Int, ld1 H18 v22 = some (iv n23) ∧ call f_pr_small [iv n23] H18 i19 fun e24 H25 i26 => onEnd e24 (fun
 v27 => ∃ b28, v27 = AVal.bool b28 ∧ ifB (!b28) (K (AEnd.ret (AVal.bool false)) H25 i26) (∃ v29, some (AVal.ptr nx 4) = some v29 ∧ ∃ v30, ld1 H25 v29 = some v30 ∧ ∃ i31, lenS v30 =
 some i31 ∧ ifB (decide (4 < Int.ofNat i31)) (K (AEnd.ret (AVal.bool false)) H25 i26) (∃ v32, some (AVal.ptr nx 4) = some v32 ∧ ∃ v33, ld1 H25 v32 = some v33 ∧ ∃ i34, lenS v33 = some
 i34 ∧ lp 74 (subAt (codeOf PG 8) [1, 1, 0, 1, 0, 0]) (envL (AVal.tuple []) [(39, iv 0), (38, iv (Int.ofNat i34)), (37, v33), (36, v32), (35, AVal.bool false), (35, AVal.bool
 (decide (4 < Int.ofNat i31))), (34, AVal.bool (decide (4 < Int.ofNat i31))), (30, AVal.bool false), (33, iv (Int.ofNat i31)), (30, AVal.bool false), (32, v30), (30, AVal.bool
 false), (31, v29), (30, AVal.bool false), (30, AVal.bool !b28), (29, AVal.bool !b28), (28, AVal.bool !b28), (24, AVal.bool false), (27, AVal.bool b28), (24, AVal.bool false), (26,
 iv n23), (24, AVal.bool false), (25, v22), (24, AVal.bool false), (24, AVal.bool !b21), (23, AVal.bool !b21), (22, AVal.bool !b21), (18, AVal.bool false), (21, AVal.bool b21), (18,
 AVal.bool false), (20, iv n16), (18, AVal.bool false), (19, v15), (18, AVal.bool false), (18, AVal.bool !b14), (17, AVal.bool !b14), (16, AVal.bool !b14), (12, AVal.bool false),
 (15, AVal.bool b14), (12, AVal.bool false), (14, iv n9), (12, AVal.bool false), (13, v8), (12, AVal.bool false), (12, AVal.bool !b7), (11, AVal.bool !b7), (10, AVal.bool b7), (9, iv
 n2), (8, v1), (4, AVal.bool false), (3, AVal.ptr nx 0), (1, AVal.agg [iv a, iv b, iv c, iv d, t]), (0, AVal.ptr p 0)]) H25 i26 [] none (contAt PG call (lp 74) 74 (codeOf
 PG 8) [1, 1, 0, 1, 0] (endK PG lv lvc K (resOf PG 8)))))) fun l35 => K (AEnd.pan l35) H25 i26)) fun l36 => K (AEnd.pan l36) H18 i19)) fun l37 => K (AEnd.pan l37)
 H11 i12)) fun l38 => K (AEnd.pan l38) H4 i5
theorem Fpf_Add_eq (call : CallP) (lp : Nat → LoopP) (lv : LeaveP) (lvc : LeaveC) (p : Nat) (a : Int) (b : Int) (c : Int) (d : Int) (t : AVal) (H : Heap) (nx : Nat) (K : EndP) : vBody PG call lp f_pf_Add [AVal.ptr p 0, AVal.agg [iv a, iv b, iv c, iv d, t]] H nx (endK PG lv lvc K) = Fpf_Add call lp lv lvc p a b c d t H nx K := by kernel_rfl
def Fpr_small (call : CallP) (lp : Nat → LoopP) (lv : LeaveP) (lvc : LeaveC) (n : Int) (H : Heap) (nx : Nat) (K : EndP) : Prop :=
 ifB (decide (0 ≤ n)) (K (AEnd.ret (AVal.bool (decide (n ≤ 1073741824)))) H nx) (K (AEnd.ret (AVal.bool false)) H nx)
theorem Fpr_small_eq (call : CallP) (lp : Nat → LoopP) (lv : LeaveP) (lvc : LeaveC) (n : Int) (H : Heap) (nx : Nat) (K : EndP) : vBody PG call lp f_pr_small [iv n] H nx (endK PG lv lvc K) = Fpr_small call lp lv lvc n H nx K := by kernel_rfl
def Fpr_copied (call : CallP) (lp : Nat → LoopP) (lv : LeaveP) (lvc : LeaveC) (a : Int) (b : Int) (c : Int) (d : Int) (t : AVal) (H : Heap) (nx : Nat) (K : EndP) : Prop :=
 ∃ H0, H0 = newBN nx [iv a, iv b, iv c, iv d, t].length [iv a, iv b, iv c, iv d, t] H ∧ ∃ H1, H1 = newB (nx + 1) [iv 0, iv 0, iv 0, iv 0, AVal.nilSlice] H0 ∧ ∃ H2, H2 = newB (nx + 1
 + 1) [] H1 ∧ ∃ v3, some (AVal.ptr nx 4) = some v3 ∧ ∃ v4, ld1 H2 v3 = some v4 ∧ ∃ i5 l6, aSrc 2 H2 v4 = some (i5, l6) ∧ allCell l6 = true ∧ ∃ v7 H8 i9, appC H2 (nx + 1 + 1 + 1) 2 16
 (AVal.slice (nx + 1 + 1) 0 0 2 true) i5 l6 = some (v7, H8, i9) ∧ ∃ v10, some (AVal.ptr nx 4) = some v10 ∧ cellv v7 = true ∧ ∃ H11, stC H8 v10 [v7] = some H11 ∧ ∃ n12 n13 n14 n15
 v16, ldN H11 5 (AVal.ptr nx 0) = some (AVal.agg [iv n12, iv n13, iv n14, iv n15, v16]) ∧ ∃ H17, stC H11 (AVal.ptr (nx + 1) 0) [iv n12, iv n13, iv n14, iv n15, v16] = some H17 ∧ ∃
 n18 n19 n20 n21 v22, ldN H17 5 (AVal.ptr (nx + 1) 0) = some (AVal.agg [iv n18, iv n19, iv n20, iv n21, v22]) ∧ K (AEnd.ret (AVal.agg [iv n18, iv n19, iv n20, iv n21, v22])) H17 i9
theorem Fpr_copied_eq (call : CallP) (lp : Nat → LoopP) (lv : LeaveP) (lvc : LeaveC) (a : Int) (b : Int) (c : Int) (d : Int) (t : AVal) (H : Heap) (nx : Nat) (K : EndP) : vBody PG call lp f_pr_copied [AVal.agg [iv a, iv b, iv c, iv d, t]] H nx (endK PG lv lvc K) = Fpr_copied call lp lv lvc a b c d t H nx K := by kernel_rfl
def Fpr_byPlace (call : CallP) (lp : Nat → LoopP) (lv : LeaveP) (lvc : LeaveC) (a : Int) (b : Int) (c : Int) (d : Int) (t : AVal) (f : Int) (g : Int) (h : Int) (i : Int) (u : AVal) (H : Heap) (nx : Nat) (K : EndP) : Prop :=
 ∃ H0, H0 = newBN nx [iv a, iv b, iv c, iv d, t].length [iv a, iv b, iv c, iv d, t] H ∧ ∃ H1, H1 = newBN (nx + 1) [iv f, iv g, iv h, iv i, u].length [iv f, iv g, iv h, iv i, u] H0 ∧
 ∃ v2, some (AVal.ptr nx 0) = some v2 ∧ ∃ n3 : Int, ld1 H1 v2 = some (iv n3) ∧ ∃ v4, some (AVal.ptr (nx + 1) 0) = some v4 ∧ ∃ n5 : Int, ld1 H1 v4 = some (iv n5) ∧ ∃ v6, some
 (AVal.ptr nx 1) = some v6 ∧ ∃ n7 : Int, ld1 H1 v6 = some (iv n7) ∧ ∃ v8, some (AVal.ptr (nx + 1) 1) = some v8 ∧ ∃ n9 : Int, ld1 H1 v8 = some (iv n9) ∧ ((∃ n10 : Int, ld1 H1 v2 =
 some (iv n10) ∧ iv n10 = iv n3) ∧ (∃ n11 : Int, ld1 H1 v4 = some (iv n11) ∧ iv n11 = iv n5) ∧ (∃ n12 : Int, ld1 H1 v6 = some (iv n12) ∧ iv n12 = iv n7) ∧ (∃ n13 : Int, ld1 H1 v8 =
 some (iv n13) ∧ iv n13 = iv n9) ∧ True) ∧ call f_cmp_Compare_int_ [iv n3, iv n5] H1 (nx + 1 + 1 + 13) fun e14 H15 i16 => onEnd e14 (fun v17 => ∃ n18 : Int, v17 = iv n18 ∧ ((∃ n19 : Int, ld1 H15 v6
 = some (iv n19) ∧ iv n19 = iv n7) ∧ (∃ n20 : Int, ld1 H15 v8 = some (iv n20) ∧ iv n20 = iv n9) ∧ True) ∧ call f_cmp_Compare_int_ [iv n7, iv n9] H15 i16 fun e21 H22 i23 => onEnd e21 (fun v24 => ∃
 n25 : Int, v24 = iv n25 ∧ true = true ∧ true = true ∧ ∃ H26, H26 = newB (nx + 1 + 1 + 10) [iv n18, iv n25] H22 ∧ True ∧ call f_cmp_Or_int_ [AVal.slice (nx + 1 + 1 + 10) 0 2 1 true] H26 i23 fun
 e27 H28 i29 => onEnd e27 (fun v30 => ∃ n31 : Int, v30 = iv n31 ∧ True ∧ K (AEnd.ret (iv n31)) H28 i29) fun l32 => K (AEnd.pan l32) H28 i29) fun l33 => K (AEnd.pan l33) H22 i23) fun
 l34 => K (AEnd.pan l34) H15 i16
theorem Fpr_byPlace_eq (call : CallP) (lp : Nat → LoopP) (lv : LeaveP) (lvc : LeaveC) (a : Int) (b : Int) (c : Int) (d : Int) (t : AVal) (f : Int) (g : Int) (h : Int) (i : Int) (u : AVal) (H : Heap) (nx : Nat) (K : EndP) : vBody PG call lp f_pr_byPlace [AVal.agg [iv a, iv b, iv c, iv d, t], AVal.agg [iv f, iv g, iv h, iv i, u]] H nx (endK PG lv lvc K) = Fpr_byPlace call lp lv lvc a b c d t f g h i u H nx K := by kernel_rfl
def Fcmp_Compare_int_ (call : CallP) (lp : Nat → LoopP) (lv : LeaveP) (lvc : LeaveC) (x : Int) (y : Int) (H : Heap) (nx : Nat) (K : EndP) : Prop :=
 call f_cmp_isNaN_int_ [iv x] H nx fun e0 H1 i2 => onEnd e0 (fun v3 => ∃ b4, v3 = AVal.bool b4 ∧ call f_cmp_isNaN_int_ [iv y] H1 i2 fun e5 H6 i7 => onEnd e5 (fun v8 => ∃ b9, v8 = AVal.bool b9 ∧ ifB b4 (ifB b9
 (K (AEnd.ret (iv 0)) H6 i7) (K (AEnd.ret (iv (-1))) H6 i7)) (ifB b9 (K (AEnd.ret (iv 1)) H6 i7) (ifB (decide (x < y)) (K (AEnd.ret (iv (-1))) H6 i7) (ifB (decide (y < x)) (K
 (AEnd.ret (iv 1)) H6 i7) (K (AEnd.ret (iv 0)) H6 i7))))) fun l10 => K (AEnd.pan l10) H6 i7) fun l11 => K (AEnd.pan l11) H1 i2
theorem Fcmp_Compare_int__eq (call : CallP) (lp : Nat → LoopP) (lv : LeaveP) (lvc : LeaveC) (x : Int) (y : Int) (H : Heap) (nx : Nat) (K : EndP) : vBody PG call lp f_cmp_Compare_int_ [iv x, iv y] H nx (endK PG lv lvc K) = Fcmp_Compare_int_ call lp lv lvc x y H nx K := by kernel_rfl
def Fcmp_isNaN_int_ (call : CallP) (lp : Nat → LoopP) (lv : LeaveP) (lvc : LeaveC) (x : Int) (H : Heap) (nx : Nat) (K : EndP) : Prop :=
 K (AEnd.ret (AVal.bool !decide (x = x))) H nx
theorem Fcmp_isNaN_int__eq (call : CallP) (lp : Nat → LoopP) (lv : LeaveP) (lvc : LeaveC) (x : Int) (H : Heap) (nx : Nat) (K : EndP) : vBody PG call lp f_cmp_isNaN_int_ [iv x] H nx (endK PG lv lvc K) = Fcmp_isNaN_int_ call lp lv lvc x H nx K := by kernel_rfl
def Fcmp_Or_int_ (call : CallP) (lp : Nat → LoopP) (lv : LeaveP) (lvc : LeaveC) (o : AVal) (H : Heap) (nx : Nat) (K : EndP) : Prop :=
 ∃ i0, lenS o = some i0 ∧ lp 18 (subAt (codeOf PG 32) [1, 1, 0, 1, 0, 0]) (envL (AVal.tuple []) [(8, iv 0), (7, iv (Int.ofNat i0)), (6, o), (3, iv 0), (2, iv 0), (0, o)]) H nx
 [] none (contAt PG call (lp 18) 18 (codeOf PG 32) [1, 1, 0, 1, 0] (endK PG lv lvc K (resOf PG 32)))
theorem Fcmp_Or_int__eq (call : CallP) (lp : Nat → LoopP) (lv : LeaveP) (lvc : LeaveC) (o : AVal) (H : Heap) (nx : Nat) (K : EndP) : vBody PG call lp f_cmp_Or_int_ [o] H nx (endK PG lv lvc K) = Fcmp_Or_int_ call lp lv lvc o H nx K := by kernel_rfl
def Fpf_All (call : CallP) (lp : Nat → LoopP) (lv : LeaveP) (lvc : LeaveC) (p : Nat) (H : Heap) (nx : Nat) (K : EndP) : Prop :=
 true = true ∧ ∃ v0, some (AVal.ptr p 0) = some v0 ∧ ∃ v1, ld1 H v0 = some v1 ∧ ∃ i2 l3 i4, v1 = AVal.map i2 ∧ get5 i2 H = some (AObj.map l3 i4) ∧ ∃ H5, H5 = set5 nx (some (AObj.iter
 i2 i4 [] i4)) H ∧ lp 45 (subAt (codeOf PG 10) [1, 1, 0, 1, 0, 0]) (envL (AVal.tuple []) [(10, AVal.ptr nx 0), (9, v1), (8, v0), (7, AVal.ptr p 0), (6, AVal.ptr p 0), (3,
 AVal.nilSlice), (2, AVal.nilSlice), (0, AVal.ptr p 0)]) H5 (nx + 1) [] none (contAt PG call (lp 45) 45 (codeOf PG 10) [1, 1, 0, 1, 0] (endK PG lv lvc K (resOf
 PG 10)))
theorem Fpf_All_eq (call : CallP) (lp : Nat → LoopP) (lv : LeaveP) (lvc : LeaveC) (p : Nat) (H : Heap) (nx : Nat) (K : EndP) : vBody PG call lp f_pf_All [AVal.ptr p 0] H nx (endK PG lv lvc K) = Fpf_All call lp lv lvc p H nx K := by kernel_rfl
def Fpf_Hot (call : CallP) (lp : Nat → LoopP) (lv : LeaveP) (lvc : LeaveC) (p : Nat) (n : Int) (H : Heap) (nx : Nat) (K : EndP) : Prop :=
 ∃ H0, H0 = newB nx [] H ∧ ∃ H1, H1 = newB (nx + 1) [AVal.nilSlice] H0 ∧ true = true ∧ ∃ H2, stC H1 (AVal.ptr (nx + 1) 0) [AVal.slice nx 0 0 5 true] = some H2 ∧ call f_pf_All [AVal.ptr p
 0] H2 (nx + 1 + 1) fun e3 H4 i5 => onEnd e3 (fun v6 => ∃ i7, lenS v6 = some i7 ∧ lp 41 (subAt (codeOf PG 9) [1, 1, 0, 1, 0, 0]) (envL (AVal.tuple []) [(13, iv 0), (12, iv
 (Int.ofNat i7)), (11, v6), (10, AVal.ptr p 0), (5, AVal.ptr (nx + 1) 0), (9, AVal.slice nx 0 0 5 true), (4, AVal.nilSlice), (1, iv n), (0, AVal.ptr p 0)]) H4 i5 [] none (contAt
 PG call (lp 41) 41 (codeOf PG 9) [1, 1, 0, 1, 0] (endK PG lv lvc K (resOf PG 9)))) fun l8 => K (AEnd.pan l8) H4 i5
theorem Fpf_Hot_eq (call : CallP) (lp : Nat → LoopP) (lv : LeaveP) (lvc : LeaveC) (p : Nat) (n : Int) (H : Heap) (nx : Nat) (K : EndP) : vBody PG call lp f_pf_Hot [AVal.ptr p 0, iv n] H nx (endK PG lv lvc K) = Fpf_Hot call lp lv lvc p n H nx K := by kernel_rfl
def Fheap_Push (call : CallP) (lp : Nat → LoopP) (lv : LeaveP) (lvc : LeaveC) (l : Nat) (a : Int) (b : Int) (c : Int) (d : Int) (t : AVal) (H : Heap) (nx : Nat) (K : EndP) : Prop :=
 ∃ x0 v1 x2 b3 v4, AVal.iface t_hotp (AVal.ptr l 0) = AVal.iface x0 v1 ∧ methodA PG x0 "Push" = some (x2, b3) ∧ hasBody PG x2 = true ∧ recvA PG H x0 v1 b3 = some v4 ∧
 call x2 [v4, AVal.iface t_Count (AVal.agg [iv a, iv b, iv c, iv d, t])] H nx fun e5 H6 i7 => onEnd e5 (fun v8 => ∃ x9 v10 x11 b12 v13, AVal.iface t_hotp (AVal.ptr l 0) = AVal.iface x9 v10 ∧
 methodA PG x9 "Len" = some (x11, b12) ∧ hasBody PG x11 = true ∧ recvA PG H6 x9 v10 b12 = some v13 ∧ call x11 [v13] H6 i7 fun e14 H15 i16 => onEnd e14 (fun v17 => ∃
 n18 : Int, v17 = iv n18 ∧ call f_heap_up [AVal.iface t_hotp (AVal.ptr l 0), iv (IntKind.i64.wrap (n18 - 1))] H15 i16 fun e19 H20 i21 => onEnd e19 (fun v22 => K (AEnd.ret (AVal.tuple [])) H20
 i21) fun l23 => K (AEnd.pan l23) H20 i21) fun l24 => K (AEnd.pan l24) H15 i16) fun l25 => K (AEnd.pan l25) H6 i7
theorem Fheap_Push_eq (call : CallP) (lp : Nat → LoopP) (lv : LeaveP) (lvc : LeaveC) (l : Nat) (a : Int) (b : Int) (c : Int) (d : Int) (t : AVal) (H : Heap) (nx : Nat) (K : EndP) : vBody PG call lp f_heap_Push [AVal.iface t_hotp (AVal.ptr l 0), AVal.iface t_Count (AVal.agg [iv a, iv b, iv c, iv d, t])] H nx (endK PG lv lvc K) = Fheap_Push call lp lv lvc l a b c d t H nx K := by kernel_rfl
def Fheap_Pop (call : CallP) (lp : Nat → LoopP) (lv : LeaveP) (lvc : LeaveC) (l : Nat) (H : Heap) (nx : Nat) (K : EndP) : Prop :=
 ∃ x0 v1 x2 b3 v4, AVal.iface t_hotp (AVal.ptr l 0) = AVal.iface x0 v1 ∧ methodA PG x0 "Len" = some (x2, b3) ∧ hasBody PG x2 = true ∧ recvA PG H x0 v1 b3 = some v4 ∧
 call x2 [v4] H nx fun e5 H6 i7 => onEnd e5 (fun v8 => ∃ n9 : Int, v8 = iv n9 ∧ ∃ x10 v11 x12 b13 v14, AVal.iface t_hotp (AVal.ptr l 0) = AVal.iface x10 v11 ∧ methodA PG x10 "Swap"
 = some (x12, b13) ∧ hasBody PG x12 = true ∧ recvA PG H6 x10 v11 b13 = some v14 ∧ call x12 [v14, iv 0, iv (IntKind.i64.wrap (n9 - 1))] H6 i7 fun e15 H16 i17 => onEnd e15
 (fun v18 => call f_heap_down [AVal.iface t_hotp (AVal.ptr l 0), iv 0, iv (IntKind.i64.wrap (n9 - 1))] H16 i17 fun e19 H20 i21 => onEnd e19 (fun v22 => ∃ b23, v22 = AVal.bool b23 ∧ ∃ x24 v25 x26
 b27 v28, AVal.iface t_hotp (AVal.ptr l 0) = AVal.iface x24 v25 ∧ methodA PG x24 "Pop" = some (x26, b27) ∧ hasBody PG x26 = true ∧ recvA PG H20 x24 v25 b27 = some v28 ∧
 call x26 [v28] H20 i21 fun e29 H30 i31 => onEnd e29 (fun v32 => K (AEnd.ret v32) H30 i31) fun l33 => K (AEnd.pan l33) H30 i31) fun l34 => K (AEnd.pan l34) H20 i21) fun l35 => K
 (AEnd.pan l35) H16 i17) fun l36 => K (AEnd.pan l36) H6 i7
theorem Fheap_Pop_eq (call : CallP) (lp : Nat → LoopP) (lv : LeaveP) (lvc : LeaveC) (l : Nat) (H : Heap) (nx : Nat) (K : EndP) : vBody PG call lp f_heap_Pop [AVal.iface t_hotp (AVal.ptr l 0)] H nx (endK PG lv lvc K) = Fheap_Pop call lp lv lvc l H nx K := by kernel_rfl
def Fheap_up (call : CallP) (lp : Nat → LoopP) (lv : LeaveP) (lvc : LeaveC) (l : Nat) (j : Int) (H : Heap) (nx : Nat) (K : EndP) : Prop :=
 lp 23 (subAt (codeOf PG 28) [0, 0]) (envL (AVal.tuple []) [(1, iv j), (0, AVal.iface t_hotp (AVal.ptr l 0))]) H nx [] none (contAt PG call (lp 23) 23 (codeOf PG 28)
 [0] (endK PG lv lvc K (resOf PG 28)))
theorem Fheap_up_eq (call : CallP) (lp : Nat → LoopP) (lv : LeaveP) (lvc : LeaveC) (l : Nat) (j : Int) (H : Heap) (nx : Nat) (K : EndP) : vBody PG call lp f_heap_up [AVal.iface t_hotp (AVal.ptr l 0), iv j] H nx (endK PG lv lvc K) = Fheap_up call lp lv lvc l j H nx K := by kernel_rfl
def Fheap_down (call : CallP) (lp : Nat → LoopP) (lv : LeaveP) (lvc : LeaveC) (l : Nat) (i : Int) (n : Int) (H : Heap) (nx : Nat) (K : EndP) : Prop :=
 lp 48 (subAt (codeOf PG 29) [1, 1, 0, 0, 0]) (envL (AVal.tuple []) [(7, iv i), (11, iv i), (6, AVal.bool false), (2, iv n), (1, iv i), (0, AVal.iface t_hotp (AVal.ptr l 0))]) H nx
 [] none (contAt PG call (lp 48) 48 (codeOf PG 29) [1, 1, 0, 0] (endK PG lv lvc K (resOf PG 29)))
theorem Fheap_down_eq (call : CallP) (lp : Nat → LoopP) (lv : LeaveP) (lvc : LeaveC) (l : Nat) (i : Int) (n : Int) (H : Heap) (nx : Nat) (K : EndP) : vBody PG call lp f_heap_down [AVal.iface t_hotp (AVal.ptr l 0), iv i, iv n] H nx (endK PG lv lvc K) = Fheap_down call lp lv lvc l i n H nx K := by kernel_rfl
def Fht_Len (call : CallP) (lp : Nat → LoopP) (lv : LeaveP) (lvc : LeaveC) (o : AVal) (H : Heap) (nx : Nat) (K : EndP) : Prop :=
 ∃ i0, lenS o = some i0 ∧ K (AEnd.ret (iv (Int.ofNat i0))) H nx
theorem Fht_Len_eq (call : CallP) (lp : Nat → LoopP) (lv : LeaveP) (lvc : LeaveC) (o : AVal) (H : Heap) (nx : Nat) (K : EndP) : vBody PG call lp f_ht_Len [o] H nx (endK PG lv lvc K) = Fht_Len call lp lv lvc o H nx K := by kernel_rfl
def Fht_Less (call : CallP) (lp : Nat → LoopP) (lv : LeaveP) (lvc : LeaveC) (o : AVal) (i : Int) (j : Int) (H : Heap) (nx : Nat) (K : EndP) : Prop :=
 0 ≤ i ∧ ∃ v0, idxS o i.toNat 5 = some v0 ∧ ∃ v1, addOff v0 2 = some v1 ∧ ∃ n2 : Int, ld1 H v1 = some (iv n2) ∧ 0 ≤ j ∧ ∃ v3, idxS o j.toNat 5 = some v3 ∧ ∃ v4, addOff v3 2 = some v4
 ∧ ∃ n5 : Int, ld1 H v4 = some (iv n5) ∧ ((∃ n6 : Int, ld1 H v1 = some (iv n6) ∧ iv n6 = iv n2) ∧ (∃ n7 : Int, ld1 H v4 = some (iv n7) ∧ iv n7 = iv n5) ∧ True) ∧ ifB (!decide (n2 =
 n5)) (0 ≤ i ∧ ∃ v8, idxS o i.toNat 5 = some v8 ∧ ∃ v9, addOff v8 2 = some v9 ∧ ∃ n10 : Int, ld1 H v9 = some (iv n10) ∧ 0 ≤ j ∧ ∃ v11, idxS o j.toNat 5 = some v11 ∧ ∃ v12, addOff v11
 2 = some v12 ∧ ∃ n13 : Int, ld1 H v12 = some (iv n13) ∧ ((∃ n14 : Int, ld1 H v9 = some (iv n14) ∧ iv n14 = iv n10) ∧ (∃ n15 : Int, ld1 H v12 = some (iv n15) ∧ iv n15 = iv n13) ∧
 True) ∧ K (AEnd.ret (AVal.bool (decide (n13 < n10)))) H (nx + 11 + 12)) (0 ≤ i ∧ ∃ v16, idxS o i.toNat 5 = some v16 ∧ ∃ n17 n18 n19 n20 v21, ldN H 5 v16 = some (AVal.agg [iv n17, iv
 n18, iv n19, iv n20, v21]) ∧ 0 ≤ j ∧ ∃ v22, idxS o j.toNat 5 = some v22 ∧ ∃ n23 n24 n25 n26 v27, ldN H 5 v22 = some (AVal.agg [iv n23, iv n24, iv n25, iv n26, v27]) ∧ ((∃ n28 n29
 n30 n31 v32, ldN H 5 v16 = some (AVal.agg [iv n28, iv n29, iv n30, iv n31, v32]) ∧ AVal.agg [iv n28, iv n29, iv n30, iv n31, v32] = AVal.agg [iv n17, iv n18, iv n19, iv n20, v21]) ∧
 (∃ n33 n34 n35 n36 v37, ldN H 5 v22 = some (AVal.agg [iv n33, iv n34, iv n35, iv n36, v37]) ∧ AVal.agg [iv n33, iv n34, iv n35, iv n36, v37] = AVal.agg [iv n23, iv n24, iv n25, iv
 n26, v27]) ∧ True) ∧ call f_pr_byPlace [AVal.agg [iv n17, iv n18, iv n19, iv n20, v21], AVal.agg [iv n23, iv n24, iv n25, iv n26, v27]] H (nx + 11 + 11) fun e38 H39 i40 => onEnd e38 (fun v41
 => ∃ n42 : Int, v41 = iv n42 ∧ True ∧ K (AEnd.ret (AVal.bool (decide (n42 < 0)))) H39 i40) fun l43 => K (AEnd.pan l43) H39 i40)
theorem Fht_Less_eq (call : CallP) (lp : Nat → LoopP) (lv : LeaveP) (lvc : LeaveC) (o : AVal) (i : Int) (j : Int) (H : Heap) (nx : Nat) (K : EndP) : vBody PG call lp f_ht_Less [o, iv i, iv j] H nx (endK PG lv lvc K) = Fht_Less call lp lv lvc o i j H nx K := by kernel_rfl
def Fht_Swap (call : CallP) (lp : Nat → LoopP) (lv : LeaveP) (lvc : LeaveC) (o : AVal) (i : Int) (j : Int) (H : Heap) (nx : Nat) (K : EndP) : Prop :=
 0 ≤ j ∧ ∃ v0, idxS o j.toNat 5 = some v0 ∧ ∃ n1 n2 n3 n4 v5, ldN H 5 v0 = some (AVal.agg [iv n1, iv n2, iv n3, iv n4, v5]) ∧ 0 ≤ i ∧ ∃ v6, idxS o i.toNat 5 = some v6 ∧ ∃ n7 n8 n9
 n10 v11, ldN H 5 v6 = some (AVal.agg [iv n7, iv n8, iv n9, iv n10, v11]) ∧ 0 ≤ i ∧ ∃ v12, idxS o i.toNat 5 = some v12 ∧ ((∃ n13 n14 n15 n16 v17, ldN H 5 v0 = some (AVal.agg [iv n13,
 iv n14, iv n15, iv n16, v17]) ∧ AVal.agg [iv n13, iv n14, iv n15, iv n16, v17] = AVal.agg [iv n1, iv n2, iv n3, iv n4, v5]) ∧ (∃ n18 n19 n20 n21 v22, ldN H 5 v6 = some (AVal.agg [iv
 n18, iv n19, iv n20, iv n21, v22]) ∧ AVal.agg [iv n18, iv n19, iv n20, iv n21, v22] = AVal.agg [iv n7, iv n8, iv n9, iv n10, v11]) ∧ True) ∧ ∃ H23, stC H v12 [iv n1, iv n2, iv n3,
 iv n4, v5] = some H23 ∧ 0 ≤ j ∧ ∃ v24, idxS o j.toNat 5 = some v24 ∧ True ∧ ∃ H25, stC H23 v24 [iv n7, iv n8, iv n9, iv n10, v11] = some H25 ∧ True ∧ K (AEnd.ret (AVal.tuple []))
 H25 (nx + 16)
theorem Fht_Swap_eq (call : CallP) (lp : Nat → LoopP) (lv : LeaveP) (lvc : LeaveC) (o : AVal) (i : Int) (j : Int) (H : Heap) (nx : Nat) (K : EndP) : vBody PG call lp f_ht_Swap [o, iv i, iv j] H nx (endK PG lv lvc K) = Fht_Swap call lp lv lvc o i j H nx K := by kernel_rfl
def Fhp_Push (call : CallP) (lp : Nat → LoopP) (lv : LeaveP) (lvc : LeaveC) (l : Nat) (a : Int) (b : Int) (c : Int) (d : Int) (t : AVal) (H : Heap) (nx : Nat) (K : EndP) : Prop :=
 true = true ∧ ∃ v0, ld1 H (AVal.ptr l 0) = some v0 ∧ ∃ v1, some (AVal.agg [iv a, iv b, iv c, iv d, t]) = some v1 ∧ ∃ n2 n3 n4 n5 v6, v1 = AVal.agg [iv n2, iv n3, iv n4, iv n5, v6] ∧
 ∃ H7, H7 = newB (nx + 6) [iv n2, iv n3, iv n4, iv n5, v6] H ∧ ((∃ v8, ld1 H7 (AVal.ptr l 0) = some v8 ∧ v8 = v0) ∧ True) ∧ ∃ i9 l10, aSrc 5 H7 (AVal.slice (nx + 6) 0 1 5 true) =
 some (i9, l10) ∧ allCell l10 = true ∧ ∃ v11 H12 i13, appC H7 (nx + 10) 5 56 v0 i9 l10 = some (v11, H12, i13) ∧ true = true ∧ True ∧ cellv v11 = true ∧ ∃ H14, stC H12 (AVal.ptr l 0)
 [v11] = some H14 ∧ True ∧ K (AEnd.ret (AVal.tuple [])) H14 i13
theorem Fhp_Push_eq (call : CallP) (lp : Nat → LoopP) (lv : LeaveP) (lvc : LeaveC) (l : Nat) (a : Int) (b : Int) (c : Int) (d : Int) (t : AVal) (H : Heap) (nx : Nat) (K : EndP) : vBody PG call lp f_hp_Push [AVal.ptr l 0, AVal.iface t_Count (AVal.agg [iv a, iv b, iv c, iv d, t])] H nx (endK PG lv lvc K) = Fhp_Push call lp lv lvc l a b c d t H nx K := by kernel_rfl
def Fhp_Pop (call : CallP) (lp : Nat → LoopP) (lv : LeaveP) (lvc : LeaveC) (l : Nat) (H : Heap) (nx : Nat) (K : EndP) : Prop :=
 true = true ∧ ∃ v0, ld1 H (AVal.ptr l 0) = some v0 ∧ ∃ i1, lenS v0 = some i1 ∧ true = true ∧ ∃ v2, ld1 H (AVal.ptr l 0) = some v2 ∧ 0 ≤ IntKind.i64.wrap (Int.ofNat i1 - 1) ∧ ∃ v3,
 idxS v2 (IntKind.i64.wrap (Int.ofNat i1 - 1)).toNat 5 = some v3 ∧ ∃ n4 n5 n6 n7 v8, ldN H 5 v3 = some (AVal.agg [iv n4, iv n5, iv n6, iv n7, v8]) ∧ ∃ H9, H9 = newB nx [iv 0, iv 0,
 iv 0, iv 0, AVal.nilSlice] H ∧ ∃ H10, stC H9 (AVal.ptr nx 0) [iv n4, iv n5, iv n6, iv n7, v8] = some H10 ∧ true = true ∧ ∃ v11, ld1 H10 (AVal.ptr l 0) = some v11 ∧ 0 ≤
 IntKind.i64.wrap (Int.ofNat i1 - 1) ∧ ∃ v12, slcS v11 5 0 (some (IntKind.i64.wrap (Int.ofNat i1 - 1)).toNat) = some v12 ∧ true = true ∧ cellv v12 = true ∧ ∃ H13, stC H10 (AVal.ptr l
 0) [v12] = some H13 ∧ ∃ n14 n15 n16 n17 v18, ldN H13 5 (AVal.ptr nx 0) = some (AVal.agg [iv n14, iv n15, iv n16, iv n17, v18]) ∧ K (AEnd.ret (AVal.iface t_Count (AVal.agg [iv n14, iv
 n15, iv n16, iv n17, v18]))) H13 (nx + 1)
theorem Fhp_Pop_eq (call : CallP) (lp : Nat → LoopP) (lv : LeaveP) (lvc : LeaveC) (l : Nat) (H : Heap) (nx : Nat) (K : EndP) : vBody PG call lp f_hp_Pop [AVal.ptr l 0] H nx (endK PG lv lvc K) = Fhp_Pop call lp lv lvc l H nx K := by kernel_rfl
def Flaw13_known (call : CallP) (lp : Nat → LoopP) (lv : LeaveP) (lvc : LeaveC) (_u : Nat) (H : Heap) (nx : Nat) (K : EndP) : Prop :=
 call f_pr_New [] H nx fun e0 H1 i2 => onEnd e0 (fun v3 => ∃ b4, nilK NK.ptr v3 = some b4 ∧ ifB b4 (K (AEnd.ret (AVal.bool false)) H1 i2) (true = true ∧ true = true ∧ true = true ∧ call 8
 [v3, AVal.agg [iv 1, iv 5, iv 3, iv 0, AVal.nilSlice]] H1 i2 fun e5 H6 i7 => onEnd e5 (fun v8 => ∃ b9, v8 = AVal.bool b9 ∧ ifB (!b9) (K (AEnd.ret (AVal.bool false)) H6 i7) (true =
 true ∧ true = true ∧ true = true ∧ call f_pf_Add [v3, AVal.agg [iv 0, iv 2, iv 9, iv 0, AVal.nilSlice]] H6 i7 fun e10 H11 i12 => onEnd e10 (fun v13 => ∃ b14, v13 = AVal.bool b14 ∧ ifB
 (!b14) (K (AEnd.ret (AVal.bool false)) H11 i12) (call f_pf_Hot [v3, iv 3] H11 i12 fun e15 H16 i17 => onEnd e15 (fun v18 => ∃ i19, lenS v18 = some i19 ∧ ifB (decide (Int.ofNat i19 = 2)) ((0
 : Int) ≤ 0 ∧ ∃ v20, idxS v18 0 5 = some v20 ∧ ∃ v21, addOff v20 2 = some v21 ∧ ∃ n22 : Int, ld1 H16 v21 = some (iv n22) ∧ ifB (decide (n22 = 9)) ((0 : Int) ≤ 1 ∧ ∃ v23, idxS v18 1 5
 = some v23 ∧ ∃ v24, addOff v23 1 = some v24 ∧ ∃ n25 : Int, ld1 H16 v24 = some (iv n25) ∧ K (AEnd.ret (AVal.bool (decide (n25 = 5)))) H16 i17) (K (AEnd.ret (AVal.bool false)) H16
 i17)) (K (AEnd.ret (AVal.bool false)) H16 i17)) fun l26 => K (AEnd.pan l26) H16 i17)) fun l27 => K (AEnd.pan l27) H11 i12)) fun l28 => K (AEnd.pan l28) H6 i7)) fun l29 => K
 (AEnd.pan l29) H1 i2
theorem Flaw13_known_eq (call : CallP) (lp : Nat → LoopP) (lv : LeaveP) (lvc : LeaveC) (_u : Nat) (H : Heap) (nx : Nat) (K : EndP) : vBody PG call lp f_law13_known ([] : List AVal) H nx (endK PG lv lvc K) = Flaw13_known call lp lv lvc _u H nx K := by kernel_rfl
def Fh_Pick (call : CallP) (lp : Nat → LoopP) (lv : LeaveP) (lvc : LeaveC) (n : Int) (m : Int) (H : Heap) (nx : Nat) (K : EndP) : Prop :=
 m ≠ 0 ∧ ifB (decide (n.tmod m < 0)) (K (AEnd.ret (iv (IntKind.i64.wrap (n.tmod m + m)))) H nx) (K (AEnd.ret (iv (n.tmod m))) H nx)
theorem Fh_Pick_eq (call : CallP) (lp : Nat → LoopP) (lv : LeaveP) (lvc : LeaveC) (n : Int) (m : Int) (H : Heap) (nx : Nat) (K : EndP) : vBody PG call lp f_h_Pick [iv n, iv m] H nx (endK PG lv lvc K) = Fh_Pick call lp lv lvc n m H nx K := by kernel_rfl
end Go.Vs
end
section
namespace Go.Vs
open Go.Proofs
variable [GTab]
def LOr (call : CallP) (lp : Nat → LoopP) (N : KC) (X : Nat → KC) (R : KC) (Pn : List (AVal × Bool) → KC) (o : AVal) (i : Int) (n : Int) (H : Heap) (nx : Nat) : Prop :=
 ifB (decide (i < n)) (0 ≤ i ∧ ∃ v0, idxS o i.toNat 1 = some v0 ∧ ∃ n1 : Int, ld1 H v0 = some (iv n1) ∧ ifB (!decide (n1 = 0)) (R (envL AVal.und [(2, iv n1), (3, iv 0), (6, o), (7,
 iv n), (8, iv i)]) H nx [] none) (N (envL AVal.und [(2, iv 0), (3, iv 0), (6, o), (7, iv n), (8, iv (IntKind.i64.wrap (i + 1)))]) H nx [] none)) (X 0 (envL AVal.und [(2, iv 0), (3,
 iv 0), (6, o), (7, iv n), (8, iv i)]) H nx [] none)
theorem LOr_eq (call : CallP) (lp : Nat → LoopP) (N : KC) (X : Nat → KC) (R : KC) (Pn : List (AVal × Bool) → KC) (o : AVal) (i : Int) (n : Int) (H : Heap) (nx : Nat) : vK PG call (lp 18) 18 (subAt (codeOf PG 32) [1,1,0,1,0,0]) (envL .und [(8, iv i), (7, iv n), (6, o), (3, iv 0), (2, iv 0)]) H nx [] none (trimK [2,3,6,7,8] (loopK N X R Pn)) = LOr call lp N X R Pn o i n H nx := by kernel_rfl
def AOr (call : CallP) (lp : Nat → LoopP) (lv : LeaveP) (lvc : LeaveC) (_u : Nat) (H : Heap) (nx : Nat) (K : EndP) : Prop :=
 K (AEnd.ret (iv 0)) H nx
theorem AOr_eq (call : CallP) (lp : Nat → LoopP) (lv : LeaveP) (lvc : LeaveC) (_u : Nat) (H : Heap) (nx : Nat) (K : EndP) : contAt PG call (lp 18) 18 (codeOf PG 32) [1,1,0,1,0] (endK PG lv lvc K (resOf PG 32)) (.exit 0) (envL .und [(3, iv 0)]) H nx [] none = AOr call lp lv lvc _u H nx K := by kernel_rfl
def LAllS (call : CallP) (lp : Nat → LoopP) (N : KC) (X : Nat → KC) (R : KC) (Pn : List (AVal × Bool) → KC) (r : Nat) (o : AVal) (H : Heap) (nx : Nat) : Prop :=
 ∃ i0 i1 i2 l3 i4 l5 i6, AVal.ptr r 0 = AVal.ptr i0 0 ∧ get5 i0 H = some (AObj.iter i1 i2 l3 i4) ∧ get5 i1 H = some (AObj.map l5 i6) ∧ allBelow l5 i2 = true ∧ i2.ble i4 = true ∧
 (allSeen l5 l3 = true → N (envL AVal.und [(3, o), (10, AVal.ptr r 0), (12, AVal.bool false)]) H nx [] none) ∧ ∀ (v7 v8 : AVal) (i9 : Nat), entIn l5 v7 v8 i9 = true → isNew i9 l3 =
 true → ∃ H10, H10 = set5 i0 (some (AObj.iter i1 i2 (l3 ++ [i9]) i6)) H ∧ N (envL AVal.und [(3, o), (10, AVal.ptr r 0), (12, AVal.bool true)]) H10 nx [] none
theorem LAllS_eq (call : CallP) (lp : Nat → LoopP) (N : KC) (X : Nat → KC) (R : KC) (Pn : List (AVal × Bool) → KC) (r : Nat) (o : AVal) (H : Heap) (nx : Nat) : vK PG call (lp 45) 45 (subAt (codeOf PG 10) [1,1,0,1,0,0,0]) (envL .und [(3, o), (10, AVal.ptr r 0)]) H nx [] none (trimK [3,10,12] (loopK N X R Pn)) = LAllS call lp N X R Pn r o H nx := by kernel_rfl
def LAllE (call : CallP) (lp : Nat → LoopP) (N : KC) (X : Nat → KC) (R : KC) (Pn : List (AVal × Bool) → KC) (r : Nat) (o : AVal) (H : Heap) (nx : Nat) : Prop :=
 ∃ i0 i1 i2 l3 i4 l5 v6 v7 i8, AVal.ptr r 0 = AVal.ptr i0 0 ∧ get5 i0 H = some (AObj.iter i1 i2 (l3 ++ [i8]) i4) ∧ get5 i1 H = some (AObj.map l5 i4) ∧ entIn l5 v6 v7 i8 = true ∧
 bornOnce l5 = true ∧ N (envL AVal.und [(3, o), (5, v7), (10, AVal.ptr r 0)]) H nx [] none
theorem LAllE_eq (call : CallP) (lp : Nat → LoopP) (N : KC) (X : Nat → KC) (R : KC) (Pn : List (AVal × Bool) → KC) (r : Nat) (o : AVal) (H : Heap) (nx : Nat) : vK PG call (lp 45) 45 (subAt (codeOf PG 10) [1,1,0,1,0,0,1,1,0,0]) (envL .und [(3, o), (10, AVal.ptr r 0), (12, AVal.bool true)]) H nx [] none (trimK [3,5,10] (loopK N X R Pn)) = LAllE call lp N X R Pn r o H nx := by kernel_rfl
def LAllC (call : CallP) (lp : Nat → LoopP) (N : KC) (X : Nat → KC) (R : KC) (Pn : List (AVal × Bool) → KC) (r : Nat) (q : Nat) (o : AVal) (H : Heap) (nx : Nat) : Prop :=
 true = true ∧ ∃ v0, some (AVal.ptr q 2) = some v0 ∧ ∃ n1 : Int, ld1 H v0 = some (iv n1) ∧ ifB (!decide (n1 = 0)) (N (envL AVal.und [(3, o), (5, AVal.ptr q 0), (10, AVal.ptr r 0),
 (34, AVal.bool true)]) H nx [] none) (true = true ∧ ∃ v2, some (AVal.ptr q 3) = some v2 ∧ ∃ n3 : Int, ld1 H v2 = some (iv n3) ∧ ifB (!decide (n3 = 0)) (N (envL AVal.und [(3, o), (5,
 AVal.ptr q 0), (10, AVal.ptr r 0), (34, AVal.bool true)]) H nx [] none) (true = true ∧ ∃ v4, some (AVal.ptr q 4) = some v4 ∧ ∃ v5, ld1 H v4 = some v5 ∧ ∃ i6, lenS v5 = some i6 ∧ N
 (envL AVal.und [(3, o), (5, AVal.ptr q 0), (10, AVal.ptr r 0), (34, AVal.bool (decide (0 < Int.ofNat i6)))]) H nx [] none))
theorem LAllC_eq (call : CallP) (lp : Nat → LoopP) (N : KC) (X : Nat → KC) (R : KC) (Pn : List (AVal × Bool) → KC) (r : Nat) (q : Nat) (o : AVal) (H : Heap) (nx : Nat) : vK PG call (lp 45) 45 (subAt (codeOf PG 10) [1,1,0,1,0,0,1,1,0,1,0]) (envL .und [(3, o), (5, AVal.ptr q 0), (10, AVal.ptr r 0)]) H nx [] none (trimK [3,5,10,34] (loopK N X R Pn)) = LAllC call lp N X R Pn r q o H nx := by kernel_rfl
def LAllA (call : CallP) (lp : Nat → LoopP) (N : KC) (X : Nat → KC) (R : KC) (Pn : List (AVal × Bool) → KC) (r : Nat) (q : Nat) (o : AVal) (H : Heap) (nx : Nat) : Prop :=
 true = true ∧ ∃ n0 n1 n2 n3 v4, ldN H 5 (AVal.ptr q 0) = some (AVal.agg [iv n0, iv n1, iv n2, iv n3, v4]) ∧ call f_pr_copied [AVal.agg [iv n0, iv n1, iv n2, iv n3, v4]] H nx fun e5 H6 i7 =>
 onEnd e5 (fun v8 => ∃ n9 n10 n11 n12 v13, v8 = AVal.agg [iv n9, iv n10, iv n11, iv n12, v13] ∧ ∃ H14, H14 = newB i7 [iv n9, iv n10, iv n11, iv n12, v13] H6 ∧ ∃ i15 l16, aSrc 5 H14
 (AVal.slice i7 0 1 5 true) = some (i15, l16) ∧ allCell l16 = true ∧ ∃ v17 H18 i19, appC H14 (i7 + 1) 5 56 o i15 l16 = some (v17, H18, i19) ∧ N (envL AVal.und [(3, v17), (10,
 AVal.ptr r 0)]) H18 i19 [] none) fun l20 => Pn l20 (envL AVal.und [(3, o), (10, AVal.ptr r 0)]) H6 i7 [] none
theorem LAllA_eq (call : CallP) (lp : Nat → LoopP) (N : KC) (X : Nat → KC) (R : KC) (Pn : List (AVal × Bool) → KC) (r : Nat) (q : Nat) (o : AVal) (H : Heap) (nx : Nat) : vK PG call (lp 45) 45 (subAt (codeOf PG 10) [1,1,0,1,0,0,1,1,0,1,1,0]) (envL .und [(3, o), (5, AVal.ptr q 0), (10, AVal.ptr r 0), (34, AVal.bool true)]) H nx [] none (trimK [3,10] (loopK N X R Pn)) = LAllA call lp N X R Pn r q o H nx := by kernel_rfl
def AAll (call : CallP) (lp : Nat → LoopP) (lv : LeaveP) (lvc : LeaveC) (o : AVal) (H : Heap) (nx : Nat) (K : EndP) : Prop :=
 call f_sl_SortFunc___prof_Count_prof_Count_ [o, AVal.func (Fn.func 24) [] []] H nx fun e0 H1 i2 => onEnd e0 (fun v3 => K (AEnd.ret o) H1 i2) fun l4 => K (AEnd.pan l4) H1 i2
theorem AAll_eq (call : CallP) (lp : Nat → LoopP) (lv : LeaveP) (lvc : LeaveC) (o : AVal) (H : Heap) (nx : Nat) (K : EndP) : contAt PG call (lp 45) 45 (codeOf PG 10) [1,1,0,1,0] (endK PG lv lvc K (resOf PG 10)) (.exit 0) (envL .und [(3, o)]) H nx [] none = AAll call lp lv lvc o H nx K := by kernel_rfl
def LHot1 (call : CallP) (lp : Nat → LoopP) (N : KC) (X : Nat → KC) (R : KC) (Pn : List (AVal × Bool) → KC) (l : Nat) (o : AVal) (i : Int) (m : Int) (n : Int) (H : Heap) (nx : Nat) : Prop :=
 ifB (decide (i < m)) (0 ≤ i ∧ ∃ v0, idxS o i.toNat 5 = some v0 ∧ ∃ n1 n2 n3 n4 v5, ldN H 5 v0 = some (AVal.agg [iv n1, iv n2, iv n3, iv n4, v5]) ∧ ∃ H6, H6 = newB nx [iv 0, iv 0, iv
 0, iv 0, AVal.nilSlice] H ∧ ∃ H7, stC H6 (AVal.ptr nx 0) [iv n1, iv n2, iv n3, iv n4, v5] = some H7 ∧ ∃ v8, some (AVal.ptr nx 2) = some v8 ∧ ∃ n9 : Int, ld1 H7 v8 = some (iv n9) ∧
 ifB (decide (n ≤ n9)) (∃ n10 n11 n12 n13 v14, ldN H7 5 (AVal.ptr nx 0) = some (AVal.agg [iv n10, iv n11, iv n12, iv n13, v14]) ∧ call f_heap_Push [AVal.iface t_hotp (AVal.ptr l 0), AVal.iface t_Count
 (AVal.agg [iv n10, iv n11, iv n12, iv n13, v14])] H7 (nx + 1) fun e15 H16 i17 => onEnd e15 (fun v18 => N (envL AVal.und [(1, iv n), (5, AVal.ptr l 0), (11, o), (12, iv m), (13, iv
 (IntKind.i64.wrap (i + 1)))]) H16 i17 [] none) fun l19 => Pn l19 (envL AVal.und [(1, iv n), (5, AVal.ptr l 0), (11, o), (12, iv m), (13, iv i)]) H16 i17 [] none) (N (envL AVal.und
 [(1, iv n), (5, AVal.ptr l 0), (11, o), (12, iv m), (13, iv (IntKind.i64.wrap (i + 1)))]) H7 (nx + 1) [] none)) (X 0 (envL AVal.und [(1, iv n), (5, AVal.ptr l 0), (11, o), (12, iv
 m), (13, iv i)]) H nx [] none)
theorem LHot1_eq (call : CallP) (lp : Nat → LoopP) (N : KC) (X : Nat → KC) (R : KC) (Pn : List (AVal × Bool) → KC) (l : Nat) (o : AVal) (i : Int) (m : Int) (n : Int) (H : Heap) (nx : Nat) : vK PG call (lp 41) 41 (subAt (codeOf PG 9) [1,1,0,1,0,0]) (envL .und [(13, iv i), (12, iv m), (11, o), (5, AVal.ptr l 0), (1, iv n)]) H nx [] none (trimK [1,5,11,12,13] (loopK N X R Pn)) = LHot1 call lp N X R Pn l o i m n H nx := by kernel_rfl
def VHot (call : CallP) (lp : Nat → LoopP) (lv : LeaveP) (lvc : LeaveC) (l : Nat) (H : Heap) (nx : Nat) (K : EndP) : Prop :=
 lp 41 (subAt (codeOf PG 9) [1, 1, 1, 1, 0, 0, 0]) (envL AVal.und [(8, AVal.nilSlice), (5, AVal.ptr l 0)]) H nx [] none (contAt PG call (lp 41) 41 (codeOf PG 9) [1,
 1, 1, 1, 0, 0] (endK PG lv lvc K (resOf PG 9)))
theorem VHot_eq (call : CallP) (lp : Nat → LoopP) (lv : LeaveP) (lvc : LeaveC) (l : Nat) (H : Heap) (nx : Nat) (K : EndP) : contAt PG call (lp 41) 41 (codeOf PG 9) [1,1,0,1,0] (endK PG lv lvc K (resOf PG 9)) (.exit 0) (envL .und [(5, AVal.ptr l 0)]) H nx [] none = VHot call lp lv lvc l H nx K :=
 (show contAt PG call (lp 41) 41 (codeOf PG 9) [1,1,0,1,0] (endK PG lv lvc K (resOf PG 9)) (.exit 0) (envL .und [(5, AVal.ptr l 0)]) H nx [] none = vK PG call (lp 41) 41 (subAt (codeOf PG 9) [1,1,1]) (envL .und [(5, AVal.ptr l 0)]) H nx [] none (endK PG lv lvc K (resOf PG 9)) by kernel_rfl).trans (show vK PG call (lp 41) 41 (subAt (codeOf PG 9) [1,1,1]) (envL .und [(5, AVal.ptr l 0)]) H nx [] none (endK PG lv lvc K (resOf PG 9)) = VHot call lp lv lvc l H nx K by kernel_rfl)
def LUp (call : CallP) (lp : Nat → LoopP) (N : KC) (X : Nat → KC) (R : KC) (Pn : List (AVal × Bool) → KC) (l : Nat) (j : Int) (H : Heap) (nx : Nat) : Prop :=
 (2 : Int) ≠ 0 ∧ ifB (decide (IntKind.i64.wrap ((IntKind.i64.wrap (j - 1)).tdiv 2) = j)) (X 0 (envL AVal.und [(0, AVal.iface t_hotp (AVal.ptr l 0)), (1, iv j)]) H nx [] none) (∃ x0 v1 x2 b3 v4,
 AVal.iface t_hotp (AVal.ptr l 0) = AVal.iface x0 v1 ∧ methodA PG x0 "Less" = some (x2, b3) ∧ hasBody PG x2 = true ∧ recvA PG H x0 v1 b3 = some v4 ∧ call x2 [v4, iv j,
 iv (IntKind.i64.wrap ((IntKind.i64.wrap (j - 1)).tdiv 2))] H nx fun e5 H6 i7 => onEnd e5 (fun v8 => ∃ b9, v8 = AVal.bool b9 ∧ ifB (!b9) (X 0 (envL AVal.und [(0, AVal.iface t_hotp
 (AVal.ptr l 0)), (1, iv j)]) H6 i7 [] none) (∃ x10 v11 x12 b13 v14, AVal.iface t_hotp (AVal.ptr l 0) = AVal.iface x10 v11 ∧ methodA PG x10 "Swap" = some (x12, b13) ∧ hasBody
 PG x12 = true ∧ recvA PG H6 x10 v11 b13 = some v14 ∧ call x12 [v14, iv (IntKind.i64.wrap ((IntKind.i64.wrap (j - 1)).tdiv 2)), iv j] H6 i7 fun e15 H16 i17 => onEnd e15
 (fun v18 => N (envL AVal.und [(0, AVal.iface t_hotp (AVal.ptr l 0)), (1, iv (IntKind.i64.wrap ((IntKind.i64.wrap (j - 1)).tdiv 2)))]) H16 i17 [] none) fun l19 => Pn l19 (envL AVal.und
 [(0, AVal.iface t_hotp (AVal.ptr l 0)), (1, iv j)]) H16 i17 [] none)) fun l20 => Pn l20 (envL AVal.und [(0, AVal.iface t_hotp (AVal.ptr l 0)), (1, iv j)]) H6 i7 [] none)
theorem LUp_eq (call : CallP) (lp : Nat → LoopP) (N : KC) (X : Nat → KC) (R : KC) (Pn : List (AVal × Bool) → KC) (l : Nat) (j : Int) (H : Heap) (nx : Nat) : vK PG call (lp 23) 23 (subAt (codeOf PG 28) [0,0]) (envL .und [(1, iv j), (0, AVal.iface t_hotp (AVal.ptr l 0))]) H nx [] none (trimK [0,1] (loopK N X R Pn)) = LUp call lp N X R Pn l j H nx := by kernel_rfl
def AUp (call : CallP) (lp : Nat → LoopP) (lv : LeaveP) (lvc : LeaveC) (_u : Nat) (H : Heap) (nx : Nat) (K : EndP) : Prop :=
 K (AEnd.ret (AVal.tuple [])) H nx
theorem AUp_eq (call : CallP) (lp : Nat → LoopP) (lv : LeaveP) (lvc : LeaveC) (_u : Nat) (H : Heap) (nx : Nat) (K : EndP) : contAt PG call (lp 23) 23 (codeOf PG 28) [0] (endK PG lv lvc K (resOf PG 28)) (.exit 0) (envL .und ([] : List (Nat × AVal))) H nx [] none = AUp call lp lv lvc _u H nx K := by kernel_rfl
def LDnA (call : CallP) (lp : Nat → LoopP) (N : KC) (X : Nat → KC) (R : KC) (Pn : List (AVal × Bool) → KC) (l : Nat) (k : Int) (n : Int) (i : Int) (H : Heap) (nx : Nat) : Prop :=
 N (envL AVal.und [(0, AVal.iface t_hotp (AVal.ptr l 0)), (1, iv k), (2, iv n), (7, iv i), (8, iv (IntKind.i64.wrap (IntKind.i64.wrap (2 * i) + 1)))]) H nx [] none
theorem LDnA_eq (call : CallP) (lp : Nat → LoopP) (N : KC) (X : Nat → KC) (R : KC) (Pn : List (AVal × Bool) → KC) (l : Nat) (k : Int) (n : Int) (i : Int) (H : Heap) (nx : Nat) : vK PG call (lp 48) 48 (subAt (codeOf PG 29) [1,1,0,0,0,0,0]) (envL .und [(7, iv i), (2, iv n), (1, iv k), (0, AVal.iface t_hotp (AVal.ptr l 0))]) H nx [] none (trimK [0,1,2,7,8] (loopK N X R Pn)) = LDnA call lp N X R Pn l k n i H nx := by kernel_rfl
def LDnB (call : CallP) (lp : Nat → LoopP) (N : KC) (X : Nat → KC) (R : KC) (Pn : List (AVal × Bool) → KC) (l : Nat) (k : Int) (n : Int) (i : Int) (j : Int) (H : Heap) (nx : Nat) : Prop :=
 ifB (decide (n ≤ j)) (X 0 (envL AVal.und [(0, AVal.iface t_hotp (AVal.ptr l 0)), (1, iv k), (2, iv n), (7, iv i), (8, iv j)]) H nx [] none) (ifB (decide (j < 0)) (X 0 (envL AVal.und
 [(0, AVal.iface t_hotp (AVal.ptr l 0)), (1, iv k), (2, iv n), (7, iv i), (8, iv j)]) H nx [] none) (N (envL AVal.und [(0, AVal.iface t_hotp (AVal.ptr l 0)), (1, iv k), (2, iv n), (7, iv i),
 (8, iv j)]) H nx [] none))
theorem LDnB_eq (call : CallP) (lp : Nat → LoopP) (N : KC) (X : Nat → KC) (R : KC) (Pn : List (AVal × Bool) → KC) (l : Nat) (k : Int) (n : Int) (i : Int) (j : Int) (H : Heap) (nx : Nat) : vK PG call (lp 48) 48 (subAt (codeOf PG 29) [1,1,0,0,0,0,1,0]) (envL .und [(0, AVal.iface t_hotp (AVal.ptr l 0)), (1, iv k), (2, iv n), (7, iv i), (8, iv j)]) H nx [] none (trimK [0,1,2,7,8] (loopK N X R Pn)) = LDnB call lp N X R Pn l k n i j H nx := by kernel_rfl
def LDnC (call : CallP) (lp : Nat → LoopP) (N : KC) (X : Nat → KC) (R : KC) (Pn : List (AVal × Bool) → KC) (l : Nat) (k : Int) (n : Int) (i : Int) (j : Int) (H : Heap) (nx : Nat) : Prop :=
 N (envL AVal.und [(0, AVal.iface t_hotp (AVal.ptr l 0)), (1, iv k), (2, iv n), (7, iv i), (8, iv j), (9, iv j)]) H nx [] none
theorem LDnC_eq (call : CallP) (lp : Nat → LoopP) (N : KC) (X : Nat → KC) (R : KC) (Pn : List (AVal × Bool) → KC) (l : Nat) (k : Int) (n : Int) (i : Int) (j : Int) (H : Heap) (nx : Nat) : vK PG call (lp 48) 48 (subAt (codeOf PG 29) [1,1,0,0,0,0,1,1,0]) (envL .und [(0, AVal.iface t_hotp (AVal.ptr l 0)), (1, iv k), (2, iv n), (7, iv i), (8, iv j)]) H nx [] none (trimK [0,1,2,7,8,9] (loopK N X R Pn)) = LDnC call lp N X R Pn l k n i j H nx := by kernel_rfl
def LDnD (call : CallP) (lp : Nat → LoopP) (N : KC) (X : Nat → KC) (R : KC) (Pn : List (AVal × Bool) → KC) (l : Nat) (k : Int) (n : Int) (i : Int) (j : Int) (H : Heap) (nx : Nat) : Prop :=
 ifB (decide (IntKind.i64.wrap (j + 1) < n)) (∃ x0 v1 x2 b3 v4, AVal.iface t_hotp (AVal.ptr l 0) = AVal.iface x0 v1 ∧ methodA PG x0 "Less" = some (x2, b3) ∧ hasBody PG x2 =
 true ∧ recvA PG H x0 v1 b3 = some v4 ∧ call x2 [v4, iv (IntKind.i64.wrap (j + 1)), iv j] H nx fun e5 H6 i7 => onEnd e5 (fun v8 => ∃ b9, v8 = AVal.bool b9 ∧ ifB b9 (N (envL
 AVal.und [(0, AVal.iface t_hotp (AVal.ptr l 0)), (1, iv k), (2, iv n), (7, iv i), (9, iv (IntKind.i64.wrap (j + 1)))]) H6 i7 [] none) (N (envL AVal.und [(0, AVal.iface t_hotp (AVal.ptr l
 0)), (1, iv k), (2, iv n), (7, iv i), (9, iv j)]) H6 i7 [] none)) fun l10 => Pn l10 (envL AVal.und [(0, AVal.iface t_hotp (AVal.ptr l 0)), (1, iv k), (2, iv n), (7, iv i), (9, iv j)])
 H6 i7 [] none) (N (envL AVal.und [(0, AVal.iface t_hotp (AVal.ptr l 0)), (1, iv k), (2, iv n), (7, iv i), (9, iv j)]) H nx [] none)
theorem LDnD_eq (call : CallP) (lp : Nat → LoopP) (N : KC) (X : Nat → KC) (R : KC) (Pn : List (AVal × Bool) → KC) (l : Nat) (k : Int) (n : Int) (i : Int) (j : Int) (H : Heap) (nx : Nat) : vK PG call (lp 48) 48 (subAt (codeOf PG 29) [1,1,0,0,0,0,1,1,1,0]) (envL .und [(0, AVal.iface t_hotp (AVal.ptr l 0)), (1, iv k), (2, iv n), (7, iv i), (8, iv j), (9, iv j)]) H nx [] none (trimK [0,1,2,7,9] (loopK N X R Pn)) = LDnD call lp N X R Pn l k n i j H nx := by kernel_rfl
def LDnE (call : CallP) (lp : Nat → LoopP) (N : KC) (X : Nat → KC) (R : KC) (Pn : List (AVal × Bool) → KC) (l : Nat) (k : Int) (n : Int) (i : Int) (j : Int) (H : Heap) (nx : Nat) : Prop :=
 ∃ x0 v1 x2 b3 v4, AVal.iface t_hotp (AVal.ptr l 0) = AVal.iface x0 v1 ∧ methodA PG x0 "Less" = some (x2, b3) ∧ hasBody PG x2 = true ∧ recvA PG H x0 v1 b3 = some v4 ∧
 call x2 [v4, iv j, iv i] H nx fun e5 H6 i7 => onEnd e5 (fun v8 => ∃ b9, v8 = AVal.bool b9 ∧ ifB (!b9) (X 0 (envL AVal.und [(0, AVal.iface t_hotp (AVal.ptr l 0)), (1, iv k), (2, iv n),
 (7, iv i)]) H6 i7 [] none) (∃ x10 v11 x12 b13 v14, AVal.iface t_hotp (AVal.ptr l 0) = AVal.iface x10 v11 ∧ methodA PG x10 "Swap" = some (x12, b13) ∧ hasBody PG x12 = true ∧
 recvA PG H6 x10 v11 b13 = some v14 ∧ call x12 [v14, iv i, iv j] H6 i7 fun e15 H16 i17 => onEnd e15 (fun v18 => N (envL AVal.und [(0, AVal.iface t_hotp (AVal.ptr l 0)), (1, iv k),
 (2, iv n), (7, iv j)]) H16 i17 [] none) fun l19 => Pn l19 (envL AVal.und [(0, AVal.iface t_hotp (AVal.ptr l 0)), (1, iv k), (2, iv n), (7, iv i)]) H16 i17 [] none)) fun l20 => Pn l20
 (envL AVal.und [(0, AVal.iface t_hotp (AVal.ptr l 0)), (1, iv k), (2, iv n), (7, iv i)]) H6 i7 [] none
theorem LDnE_eq (call : CallP) (lp : Nat → LoopP) (N : KC) (X : Nat → KC) (R : KC) (Pn : List (AVal × Bool) → KC) (l : Nat) (k : Int) (n : Int) (i : Int) (j : Int) (H : Heap) (nx : Nat) : vK PG call (lp 48) 48 (subAt (codeOf PG 29) [1,1,0,0,0,0,1,1,1,1]) (envL .und [(0, AVal.iface t_hotp (AVal.ptr l 0)), (1, iv k), (2, iv n), (7, iv i), (9, iv j)]) H nx [] none (trimK [0,1,2,7] (loopK N X R Pn)) = LDnE call lp N X R Pn l k n i j H nx := by kernel_rfl
def ADn (call : CallP) (lp : Nat → LoopP) (lv : LeaveP) (lvc : LeaveC) (k : Int) (i : Int) (H : Heap) (nx : Nat) (K : EndP) : Prop :=
 K (AEnd.ret (AVal.bool (decide (k < i)))) H nx
theorem ADn_eq (call : CallP) (lp : Nat → LoopP) (lv : LeaveP) (lvc : LeaveC) (k : Int) (i : Int) (H : Heap) (nx : Nat) (K : EndP) : contAt PG call (lp 48) 48 (codeOf PG 29) [1,1,0,0] (endK PG lv lvc K (resOf PG 29)) (.exit 0) (envL .und [(7, iv i), (1, iv k)]) H nx [] none = ADn call lp lv lvc k i H nx K := by kernel_rfl
def LAdd (call : CallP) (lp : Nat → LoopP) (N : KC) (X : Nat → KC) (R : KC) (Pn : List (AVal × Bool) → KC) (p : Nat) (b : Nat) (o : AVal) (i : Int) (n : Int) (H : Heap) (nx : Nat) : Prop :=
 ifB (decide (i < n)) (0 ≤ i ∧ ∃ v0, idxS o i.toNat 2 = some v0 ∧ ∃ n1 n2 : Int, ldN H 2 v0 = some (AVal.agg [iv n1, iv n2]) ∧ ∃ H3, H3 = newB nx [iv 0, iv 0] H ∧ ∃ H4, stC H3
 (AVal.ptr nx 0) [iv n1, iv n2] = some H4 ∧ ∃ v5, some (AVal.ptr nx 0) = some v5 ∧ ∃ n6 : Int, ld1 H4 v5 = some (iv n6) ∧ call f_pr_small [iv n6] H4 (nx + 1) fun e7 H8 i9 => onEnd e7 (fun
 v10 => ∃ b11, v10 = AVal.bool b11 ∧ ifB (!b11) (R (envL AVal.und [(0, AVal.ptr p 0), (3, AVal.ptr b 0), (37, o), (38, iv n), (39, iv i)]) H8 i9 [] none) (∃ v12, some (AVal.ptr nx 1)
 = some v12 ∧ ∃ n13 : Int, ld1 H8 v12 = some (iv n13) ∧ call f_pr_small [iv n13] H8 i9 fun e14 H15 i16 => onEnd e14 (fun v17 => ∃ b18, v17 = AVal.bool b18 ∧ ifB (!b18) (R (envL AVal.und [(0,
 AVal.ptr p 0), (3, AVal.ptr b 0), (37, o), (38, iv n), (39, iv i)]) H15 i16 [] none) (∃ v19, some (AVal.ptr b 4) = some v19 ∧ ∃ v20, ld1 H15 v19 = some v20 ∧ 0 ≤ i ∧ ∃ v21, slcS v20
 2 0 (some i.toNat) = some v21 ∧ call f_sl_ContainsFunc___prof_Seen_prof_Seen_ [v21, AVal.func (Fn.func 19) [] [AVal.ptr nx 0]] H15 i16 fun e22 H23 i24 => onEnd e22 (fun v25 => ∃ b26, v25 = AVal.bool b26 ∧ ifB b26 (R
 (envL AVal.und [(0, AVal.ptr p 0), (3, AVal.ptr b 0), (37, o), (38, iv n), (39, iv i)]) H23 i24 [] none) (N (envL AVal.und [(0, AVal.ptr p 0), (3, AVal.ptr b 0), (37, o), (38, iv
 n), (39, iv (IntKind.i64.wrap (i + 1)))]) H23 i24 [] none)) fun l27 => Pn l27 (envL AVal.und [(0, AVal.ptr p 0), (3, AVal.ptr b 0), (37, o), (38, iv n), (39, iv i)]) H23 i24 []
 none)) fun l28 => Pn l28 (envL AVal.und [(0, AVal.ptr p 0), (3, AVal.ptr b 0), (37, o), (38, iv n), (39, iv i)]) H15 i16 [] none)) fun l29 => Pn l29 (envL AVal.und [(0, AVal.ptr p
 0), (3, AVal.ptr b 0), (37, o), (38, iv n), (39, iv i)]) H8 i9 [] none) (X 0 (envL AVal.und [(0, AVal.ptr p 0), (3, AVal.ptr b 0), (37, o), (38, iv n), (39, iv i)]) H nx [] none)
theorem LAdd_eq (call : CallP) (lp : Nat → LoopP) (N : KC) (X : Nat → KC) (R : KC) (Pn : List (AVal × Bool) → KC) (p : Nat) (b : Nat) (o : AVal) (i : Int) (n : Int) (H : Heap) (nx : Nat) : vK PG call (lp 74) 74 (subAt (codeOf PG 8) [1,1,0,1,0,0]) (envL .und [(39, iv i), (38, iv n), (37, o), (3, AVal.ptr b 0), (0, AVal.ptr p 0)]) H nx [] none (trimK [0,3,37,38,39] (loopK N X R Pn)) = LAdd call lp N X R Pn p b o i n H nx := by kernel_rfl
def AAdd (call : CallP) (lp : Nat → LoopP) (lv : LeaveP) (lvc : LeaveC) (p : Nat) (b : Nat) (H : Heap) (nx : Nat) (K : EndP) : Prop :=
 ∃ n0 n1 n2 n3 v4, ldN H 5 (AVal.ptr b 0) = some (AVal.agg [iv n0, iv n1, iv n2, iv n3, v4]) ∧ call f_pr_copied [AVal.agg [iv n0, iv n1, iv n2, iv n3, v4]] H nx fun e5 H6 i7 => onEnd e5 (fun
 v8 => ∃ n9 n10 n11 n12 v13, v8 = AVal.agg [iv n9, iv n10, iv n11, iv n12, v13] ∧ ∃ H14, H14 = newB i7 [iv 0, iv 0, iv 0, iv 0, AVal.nilSlice] H6 ∧ ∃ H15, stC H14 (AVal.ptr i7 0) [iv
 n9, iv n10, iv n11, iv n12, v13] = some H15 ∧ true = true ∧ ∃ v16, some (AVal.ptr p 0) = some v16 ∧ ∃ v17, ld1 H15 v16 = some v17 ∧ ∃ v18, some (AVal.ptr b 0) = some v18 ∧ ∃ n19 :
 Int, ld1 H15 v18 = some (iv n19) ∧ ∃ v20, some (AVal.ptr b 1) = some v20 ∧ ∃ n21 : Int, ld1 H15 v20 = some (iv n21) ∧ true = true ∧ true = true ∧ ((∃ v22, ld1 H15 v16 = some v22 ∧
 v22 = v17) ∧ (∃ n23 : Int, ld1 H15 v18 = some (iv n23) ∧ iv n23 = iv n19) ∧ (∃ n24 : Int, ld1 H15 v20 = some (iv n24) ∧ iv n24 = iv n21) ∧ True) ∧ true = true ∧ ∃ i25 l26 i27, v17 =
 AVal.map i25 ∧ get5 i25 H15 = some (AObj.map l26 i27) ∧ ∃ x28, findA PG 53 (AVal.agg [iv n19, iv n21]) l26 0 = some x28 ∧ (∀ (i29 : Nat) (v30 : AVal), x28 = some (i29, v30) →
 ∃ H31, H31 = set5 i25 (some (AObj.map (setEnt (AVal.agg [iv n19, iv n21]) (AVal.ptr i7 0) l26 i29) i27)) H15 ∧ True ∧ K (AEnd.ret (AVal.bool true)) H31 (i7 + 1 + 10)) ∧ (x28 = none
 → ∃ H32, H32 = set5 i25 (some (AObj.map (l26 ++ [{ key := AVal.agg [iv n19, iv n21], val := AVal.ptr i7 0, born := i27 }]) (i27 + 1))) H15 ∧ True ∧ K (AEnd.ret (AVal.bool true)) H32
 (i7 + 1 + 10))) fun l33 => K (AEnd.pan l33) H6 i7
theorem AAdd_eq (call : CallP) (lp : Nat → LoopP) (lv : LeaveP) (lvc : LeaveC) (p : Nat) (b : Nat) (H : Heap) (nx : Nat) (K : EndP) : contAt PG call (lp 74) 74 (codeOf PG 8) [1,1,0,1,0] (endK PG lv lvc K (resOf PG 8)) (.exit 0) (envL .und [(3, AVal.ptr b 0), (0, AVal.ptr p 0)]) H nx [] none = AAdd call lp lv lvc p b H nx K := by kernel_rfl
def LHot2 (call : CallP) (lp : Nat → LoopP) (N : KC) (X : Nat → KC) (R : KC) (Pn : List (AVal × Bool) → KC) (l : Nat) (o : AVal) (H : Heap) (nx : Nat) : Prop :=
 ∃ v0, ld1 H (AVal.ptr l 0) = some v0 ∧ ∃ i1, lenS v0 = some i1 ∧ ifB (decide (0 < Int.ofNat i1)) (∃ i2, lenS o = some i2 ∧ ifB (decide (Int.ofNat i2 < 20)) (call f_heap_Pop [AVal.iface t_hotp
 (AVal.ptr l 0)] H nx fun e3 H4 i5 => onEnd e3 (fun v6 => ∃ v7, aAssert PG v6 30 false = some v7 ∧ ∃ n8 n9 n10 n11 v12, v7 = AVal.agg [iv n8, iv n9, iv n10, iv n11, v12] ∧ ∃
 H13, H13 = newB i5 [iv n8, iv n9, iv n10, iv n11, v12] H4 ∧ ∃ i14 l15, aSrc 5 H13 (AVal.slice i5 0 1 5 true) = some (i14, l15) ∧ allCell l15 = true ∧ ∃ v16 H17 i18, appC H13 (i5 +
 1) 5 56 o i14 l15 = some (v16, H17, i18) ∧ N (envL AVal.und [(5, AVal.ptr l 0), (8, v16)]) H17 i18 [] none) fun l19 => Pn l19 (envL AVal.und [(5, AVal.ptr l 0), (8, o)]) H4 i5 []
 none) (X 2 (envL AVal.und [(5, AVal.ptr l 0), (8, o)]) H nx [] none)) (X 2 (envL AVal.und [(5, AVal.ptr l 0), (8, o)]) H nx [] none)
theorem LHot2_eq (call : CallP) (lp : Nat → LoopP) (N : KC) (X : Nat → KC) (R : KC) (Pn : List (AVal × Bool) → KC) (l : Nat) (o : AVal) (H : Heap) (nx : Nat) : vK PG call (lp 41) 41 (subAt (codeOf PG 9) [1,1,1,1,0,0,0]) (envL .und [(8, o), (5, AVal.ptr l 0)]) H nx [] none (trimK [5,8] (loopK N X R Pn)) = LHot2 call lp N X R Pn l o H nx := by kernel_rfl
def AHot2 (call : CallP) (lp : Nat → LoopP) (lv : LeaveP) (lvc : LeaveC) (o : AVal) (H : Heap) (nx : Nat) (K : EndP) : Prop :=
 K (AEnd.ret o) H nx
theorem AHot2_eq (call : CallP) (lp : Nat → LoopP) (lv : LeaveP) (lvc : LeaveC) (o : AVal) (H : Heap) (nx : Nat) (K : EndP) : contAt PG call (lp 41) 41 (codeOf PG 9) [1,1,1,1,0,0] (endK PG lv lvc K (resOf PG 9)) (.exit 2) (envL .und [(8, o)]) H nx [] none = AHot2 call lp lv lvc o H nx K := by kernel_rfl
end Go.Vs
end
section
namespace Go.Vs
open Go.Sort Go.Proofs
variable [GTab]
noncomputable section
def SlV (v : Value) : Prop := v = .slice none 0 0 ∨ ∃ g off len cap, v = .slice (some ⟨g, off, none⟩) len cap ∧ len ≤ cap
structure CRow where
 a : Int
 b : Int
 c : Int
 d : Int
 t : Value
 ok : SlV t
instance : Inhabited CRow := ⟨⟨0, 0, 0, 0, .slice none 0 0, .inl rfl⟩⟩
def CRow.enc (x : CRow) : List Value := [.int .i64 x.a, .int .i64 x.b, .int .i64 x.c, .int .i64 x.d, x.t]
def cmpI (x y : Int) : Int := if x < y then -1 else if y < x then 1 else 0
def cmp2 (a b c d : Int) : Int := if cmpI a c = 0 then cmpI b d else cmpI a c
def CRow.cf (x y : CRow) : Int := cmp2 x.a x.b y.a y.b
def lt2 (a b c d : Int) : Bool := decide (a < c ∨ a = c ∧ b < d)
theorem cmp2_lt (a b c d : Int) : decide (cmp2 a b c d < 0) = lt2 a b c d := by
 unfold cmp2 lt2 cmpI
 rw [decide_eq_decide]
 repeat' split
 all_goals omega
theorem cf_swo : SWO (ltOf CRow.cf) where
 irrefl x := by show decide _ = false; unfold CRow.cf; rw [cmp2_lt]; simp [lt2]
 trans x y z h1 h2 := by
  have h1 : lt2 x.a x.b y.a y.b = true := by rw [← cmp2_lt]; exact h1
  have h2 : lt2 y.a y.b z.a z.b = true := by rw [← cmp2_lt]; exact h2
  show decide _ = true
  unfold CRow.cf
  rw [cmp2_lt]
  simp [lt2] at *
  omega
 ntrans x y z h1 h2 := by
  have h1 : lt2 x.a x.b y.a y.b = false := by rw [← cmp2_lt]; exact h1
  have h2 : lt2 y.a y.b z.a z.b = false := by rw [← cmp2_lt]; exact h2
  show decide _ = false
  unfold CRow.cf
  rw [cmp2_lt]
  simp [lt2] at *
  omega
def SortsC (P : Program) (f g : Nat) : Prop := ∀ (blk off cap : Nat) (d : Array CRow) (w : World),
 CmpLays P g #[] CRow.enc 5 CRow.cf blk off d.size w → HoldsK CRow.enc 5 w blk off d → blk < w.heap.size → d.size < 4611686018427387904 →
 Calls P f #[.slice (some ⟨blk, off, none⟩) d.size cap, .func (.func g) #[] #[]] w fun e w' =>
  e = .returned (.tuple #[]) ∧ ∃ d' n os, PermIn 0 d.size d d' ∧ SortedIn (ltOf CRow.cf) 0 d.size d' ∧ w' = sortWorldK CRow.enc 5 w blk off n d' os
structure VRow where
 a : Int
 b : Int
 c : Int
 d : Int
 t : AVal
def VRow.vals (x : VRow) : List AVal := [.int .i64 x.a, .int .i64 x.b, .int .i64 x.c, .int .i64 x.d, x.t]
def isSl : AVal → Bool
 | .slice _ _ _ _ _ => true
 | .nilSlice => true
 | .gslice _ _ _ _ => true
 | _ => false
theorem slV_of {σ : Sg} {t : AVal} {t' : Value} (h : Den σ t t') (hs : isSl t = true) (hg : ∀ g off len esz, t = .gslice g off len esz → len ≠ 0) : SlV t' := by
 cases h <;> try (cases hs; done)
 ·exact .inr ⟨_, _, _, _, rfl, ‹_›⟩
 ·exact .inr ⟨_, _, 0, 0, rfl, Nat.le_refl _⟩
 ·exact .inl rfl
 ·exact .inr ⟨_, _, _, _, rfl, ‹_›⟩
 ·exact (hg _ _ _ _ rfl rfl).elim
theorem SlV.den {t : Value} (h : SlV t) : ∃ u, isSl u = true ∧ ∀ σ : Sg, Den σ u t := by
 rcases h with rfl | ⟨g, off, len, cap, rfl, h⟩
 ·exact ⟨.nilSlice, rfl, fun σ => .nilSlice⟩
 ·exact ⟨.gslice g off len 0, rfl, fun σ => .gslice h⟩
inductive F2 {A B : Type} (R : A → B → Prop) : List A → List B → Prop
 | nil : F2 R [] []
 | cons {a b l m} (h : R a b) (t : F2 R l m) : F2 R (a :: l) (b :: m)
theorem F2.perm {A B : Type} {R : A → B → Prop} {m m' : List B} (hp : m.Perm m') : ∀ {l : List A}, F2 R l m → ∃ l', l.Perm l' ∧ F2 R l' m' := by
 induction hp with
 | nil => intro l h; exact ⟨l, .refl _, h⟩
 | cons x _ ih =>
  intro l h
  cases h with
  | cons h t =>
   obtain ⟨l', hp', ht'⟩ := ih t
   exact ⟨_ :: l', hp'.cons _, .cons h ht'⟩
 | swap x y l0 =>
  intro l h
  cases h with
  | cons h t =>
   cases t with
   | cons h2 t => exact ⟨_, .swap _ _ _, .cons h2 (.cons h t)⟩
 | trans _ _ ih1 ih2 =>
  intro l h
  obtain ⟨l', p1, h1⟩ := ih1 h
  obtain ⟨l'', p2, h2⟩ := ih2 h1
  exact ⟨l'', p1.trans p2, h2⟩
theorem F2.length {A B : Type} {R : A → B → Prop} : ∀ {l : List A} {m : List B}, F2 R l m → l.length = m.length
 | _, _, .nil => rfl
 | _, _, .cons _ t => by simp [F2.length t]
theorem F2.get {A B : Type} {R : A → B → Prop} : ∀ {l : List A} {m : List B}, F2 R l m → ∀ (i : Nat) (a : A) (b : B), l[i]? = some a → m[i]? = some b → R a b
 | _, _, .nil, i, a, b, h, _ => by simp at h
 | _, _, .cons h t, 0, a, b, e1, e2 => by simp at e1 e2; subst e1; subst e2; exact h
 | _, _, .cons h t, i + 1, a, b, e1, e2 => F2.get t i a b (by simpa using e1) (by simpa using e2)
def RowR (σ : Sg) (v : VRow) (x : CRow) : Prop := v.a = x.a ∧ v.b = x.b ∧ v.c = x.c ∧ v.d = x.d ∧ Den σ v.t x.t
theorem RowR.den {σ : Sg} {v : VRow} {x : CRow} (h : RowR σ v x) : DenL σ v.vals x.enc := by
 obtain ⟨h1, h2, h3, h4, h5⟩ := h
 unfold VRow.vals CRow.enc
 rw [h1, h2, h3, h4]
 exact .cons (.int _ _) (.cons (.int _ _) (.cons (.int _ _) (.cons (.int _ _) (.cons h5 .nil))))
theorem setCells_eq : ∀ (l : List Value) (w : World) (cb i : Nat), setCells w cb i l = w.setCells cb i l
 | [], _, _, _ => rfl
 | v :: l, w, cb, i => setCells_eq l (w.setCell (at' cb i) v) cb (i + 1)
theorem enc_len (x : CRow) : x.enc.length = 5 := rfl
theorem vals_len (x : VRow) : x.vals.length = 5 := rfl
theorem flat_len (l : List VRow) : (l.flatMap VRow.vals).length = 5 * l.length := by
 induction l with
 | nil => rfl
 | cons x l ih => simp only [List.flatMap_cons, List.length_append, ih, vals_len, List.length_cons]; omega
theorem flatC_len (l : List CRow) : (l.flatMap CRow.enc).length = 5 * l.length := by
 induction l with
 | nil => rfl
 | cons x l ih => simp only [List.flatMap_cons, List.length_append, ih, enc_len, List.length_cons]; omega
theorem flatV_get : ∀ (l : List VRow) (i j : Nat) (v : VRow), l[i]? = some v → j < 5 → (l.flatMap VRow.vals)[5 * i + j]? = v.vals[j]?
 | [], i, j, v, h, _ => by simp at h
 | x :: l, 0, j, v, h, hj => by
  simp at h
  subst h
  rw [List.flatMap_cons, List.getElem?_append_left (by rw [vals_len]; omega), Nat.mul_zero, Nat.zero_add]
 | x :: l, i + 1, j, v, h, hj => by
  rw [List.flatMap_cons, List.getElem?_append_right (by rw [vals_len]; omega), vals_len, show 5 * (i + 1) + j - 5 = 5 * i + j by omega]
  exact flatV_get l i j v (by simpa using h) hj
theorem flatC_get : ∀ (l : List CRow) (i j : Nat) (v : CRow), l[i]? = some v → j < 5 → (l.flatMap CRow.enc)[5 * i + j]? = v.enc[j]?
 | [], i, j, v, h, _ => by simp at h
 | x :: l, 0, j, v, h, hj => by
  simp at h
  subst h
  rw [List.flatMap_cons, List.getElem?_append_left (by rw [enc_len]; omega), Nat.mul_zero, Nat.zero_add]
 | x :: l, i + 1, j, v, h, hj => by
  rw [List.flatMap_cons, List.getElem?_append_right (by rw [enc_len]; omega), enc_len, show 5 * (i + 1) + j - 5 = 5 * i + j by omega]
  exact flatC_get l i j v (by simpa using h) hj
theorem flatK_eq (d : Array CRow) : flatK CRow.enc 5 d = ⟨d.toList.flatMap CRow.enc⟩ := by
 apply Array.ext
 ·rw [size_flatK]
  show d.size * 5 = (d.toList.flatMap CRow.enc).length
  rw [flatC_len]
  simp [Nat.mul_comm]
 ·intro t h1 h2
  have h1' : t < d.size * 5 := by simpa using h1
  have hi : t / 5 < d.size := by omega
  have e := get_flatK CRow.enc 5 d t h1'
  rw [getElem!_pos _ t h1] at e
  rw [e]
  have g := flatC_get d.toList (t / 5) (t % 5) d[t / 5] (by simp [hi]) (by omega)
  rw [show 5 * (t / 5) + t % 5 = t by omega] at g
  rw [getElem!_pos d _ hi]
  have hl : t % 5 < (d[t / 5]).enc.length := by rw [enc_len]; omega
  rw [getElem!_pos (d[t / 5]).enc (t % 5) hl]
  rw [List.getElem?_eq_getElem hl] at g
  have h2' : t < (d.toList.flatMap CRow.enc).length := h2
  rw [List.getElem?_eq_getElem h2'] at g
  exact (Option.some.inj g).symm
theorem F2.flat {σ : Sg} : ∀ {l : List VRow} {m : List CRow}, F2 (RowR σ) l m → DenL σ (l.flatMap VRow.vals) (m.flatMap CRow.enc)
 | _, _, .nil => .nil
 | _, _, .cons h t => by rw [List.flatMap_cons, List.flatMap_cons]; exact h.den.append (F2.flat t)
theorem rows_of {σ : Sg} {w : World} {cb : Nat} : ∀ (rows : List VRow) (k : Nat), (∀ v ∈ rows, isSl v.t = true ∧ ∀ g off len esz, v.t = .gslice g off len esz → len ≠ 0) →
  (∀ (i j : Nat) (v : VRow), rows[i]? = some v → j < 5 → ∃ u u', w.cell? (at' cb (5 * (k + i) + j)) = some u' ∧ v.vals[j]? = some u ∧ Den σ u u') →
  ∃ d : List CRow, F2 (RowR σ) rows d ∧ ∀ (i j : Nat) (x : CRow), d[i]? = some x → j < 5 → w.cell? (at' cb (5 * (k + i) + j)) = x.enc[j]?
 | [], k, _, _ => ⟨[], .nil, fun i j x h => by simp at h⟩
 | v :: rows, k, hs, hc => by
  obtain ⟨d, h1, h2⟩ := rows_of (σ := σ) (w := w) (cb := cb) rows (k + 1) (fun v hv => hs v (List.mem_cons_of_mem _ hv)) (fun i j x hx hj => by
   have := hc (i + 1) j x (by simpa using hx) hj
   rwa [show k + (i + 1) = k + 1 + i by omega] at this)
  have c : ∀ j, j < 5 → ∃ u u', w.cell? (at' cb (5 * k + j)) = some u' ∧ v.vals[j]? = some u ∧ Den σ u u' := fun j hj => hc 0 j v (by simp) hj
  obtain ⟨u0, v0, a0, b0, d0⟩ := c 0 (by omega)
  obtain ⟨u1, v1, a1, b1, d1⟩ := c 1 (by omega)
  obtain ⟨u2, v2, a2, b2, d2⟩ := c 2 (by omega)
  obtain ⟨u3, v3, a3, b3, d3⟩ := c 3 (by omega)
  obtain ⟨u4, v4, a4, b4, d4⟩ := c 4 (by omega)
  simp only [VRow.vals, List.getElem?_cons_zero, List.getElem?_cons_succ, Option.some.injEq] at b0 b1 b2 b3 b4
  subst b0 b1 b2 b3 b4
  cases d0; cases d1; cases d2; cases d3
  obtain ⟨s1, s2⟩ := hs v (List.mem_cons_self ..)
  refine ⟨⟨v.a, v.b, v.c, v.d, v4, slV_of d4 s1 s2⟩ :: d, .cons ⟨rfl, rfl, rfl, rfl, d4⟩ h1, ?_⟩
  intro i j x hx hj
  cases i with
  | zero =>
   simp at hx
   subst hx
   rw [Nat.add_zero]
   show w.cell? (at' cb (5 * k + j)) = _
   rcases j with _ | _ | _ | _ | _ | j
   ·exact a0
   ·exact a1
   ·exact a2
   ·exact a3
   ·exact a4
   ·omega
  | succ i =>
   have := h2 i j x (by simpa using hx) hj
   rwa [show k + 1 + i = k + (i + 1) by omega] at this
theorem cmp_lays {P : Program} {g : Nat} {w : World} {blk off size : Nat} (_hblk : blk < w.heap.size)
  (hcmp : ∀ x y : VRow, isSl x.t = true → isSl y.t = true → TriP P g [.agg x.vals, .agg y.vals] (all5 none) 0 fun e _ _ => e = .ret (.int .i64 (cmp2 x.a x.b y.a y.b)))
  (hg : Glob (fun _ => none) w) (hgb : ∀ g, g = blk → (∀ l, GTab.tab g ≠ some l) ∧ ∀ o, GTab.blk g ≠ some o) : CmpLays P g #[] CRow.enc 5 CRow.cf blk off size w := by
 intro m os dk hsz x y
 obtain ⟨u, hu, du⟩ := x.ok.den
 obtain ⟨u2, hu2, du2⟩ := y.ok.den
 generalize hW : sortWorldK CRow.enc 5 w blk off m dk os = W
 have hsize : w.heap.size ≤ W.heap.size := by
  rw [← hW]; unfold sortWorldK putRowK putRow; simp [grow, mapBlock, Sort.ahead]
 have hsame : ∀ i, i < w.heap.size → i ≠ blk → W.heap[i]? = w.heap[i]? := by
  intro i hi hne
  rw [← hW]
  unfold sortWorldK putRowK putRow
  rw [heap_grow_old _ _ (by simpa [mapBlock, Sort.ahead] using hi)]
  simp only [mapBlock, Sort.ahead, Array.getElem?_modify]
  rw [if_neg (fun e => hne e.symm)]
 have hgW : Glob (fun _ => none) W := by
  refine ⟨fun g l h => ?_, fun g o h => ?_⟩
  ·obtain ⟨h1, h2, h3⟩ := hg.var g l h
   have hne : g ≠ blk := fun e => (hgb g e).1 l h
   refine ⟨Nat.lt_of_lt_of_le h1 hsize, (fun _ _ e => by cases e), fun i v hv => ?_⟩
   obtain ⟨v', e, d⟩ := h3 i v hv
   exact ⟨v', by simpa [World.cell?, hsame g h1 hne] using e, d⟩
  ·obtain ⟨h1, h2, h3⟩ := hg.blk g o h
   have hne : g ≠ blk := fun e => (hgb g e).2 o h
   exact ⟨Nat.lt_of_lt_of_le h1 hsize, (fun _ _ e => by cases e), by rw [hsame g h1 hne]; exact h3⟩
 have hrel : Rel (fun _ => none) (all5 none) 0 W := ⟨Nat.le_refl _, (fun _ _ _ e => by cases e), (fun _ _ _ _ _ e => by cases e), (fun _ _ _ _ _ _ _ _ e => by cases e), (fun _ _ _ _ _ _ _ e => by cases e), (fun _ _ _ _ e => by cases e), hgW⟩
 have hR : RowR (fun _ => none) ⟨x.a, x.b, x.c, x.d, u⟩ x := ⟨rfl, rfl, rfl, rfl, du _⟩
 have hR2 : RowR (fun _ => none) ⟨y.a, y.b, y.c, y.d, u2⟩ y := ⟨rfl, rfl, rfl, rfl, du2 _⟩
 have key := hcmp ⟨x.a, x.b, x.c, x.d, u⟩ ⟨y.a, y.b, y.c, y.d, u2⟩ hu hu2 (fun _ => none) W [.agg ⟨x.enc⟩, .agg ⟨y.enc⟩]
  (fun e w' => e = .returned (.int .i64 (CRow.cf x y)) ∧ ∃ q os', w' = grow (W.drewN q) os') hrel (.cons (.agg hR.den) (.cons (.agg hR2.den) .nil)) (by
   intro e H' nx' σ' w' en he R E hen
   subst he
   cases en with
   | panicked c => exact hen.elim
   | outgrown => exact hen.elim
   | returned v =>
    have hv : Den σ' (.int .i64 (cmp2 x.a x.b y.a y.b)) v := by first | exact hen | (cases hen; assumption)
    cases hv
    refine ⟨rfl, w'.drawn - W.drawn, w'.heap.extract W.heap.size w'.heap.size, ?_⟩
    have hd := E.drawn
    have hheap : w'.heap = W.heap ++ w'.heap.extract W.heap.size w'.heap.size := by
     apply Array.ext_getElem?
     intro i
     by_cases hi : i < W.heap.size
     ·rw [Array.getElem?_append_left hi]
      exact E.frame i hi (fun _ _ e => by cases e)
     ·rw [Array.getElem?_append_right (by omega), Array.getElem?_extract]
      have := E.size
      split
      ·congr 1; omega
      ·rw [Array.getElem?_eq_none (by omega)]
    have e1 := E.os
    have e2 := E.tape
    have e3 := E.output
    cases w' with
    | mk heap tape drawn os output =>
     simp only at hheap hd e1 e2 e3
     simp only [grow, World.drewN]
     rw [← hheap]
     cases W
     simp only at e1 e2 e3 hd ⊢
     subst e1 e2 e3
     congr 1
     omega)
 simpa using key
theorem permIn_list {d d' : Array CRow} (h : PermIn 0 d.size d d') : d'.size = d.size ∧ d.toList.Perm d'.toList := by
 obtain ⟨h1, _, h3⟩ := h
 refine ⟨h1, ?_⟩
 have e1 : d.extract 0 d.size = d := by simp
 have e2 : d'.extract 0 d.size = d' := by rw [← h1]; simp
 rw [e1, e2] at h3
 exact h3.symm
theorem TriP.of_sort {P : Program} {f g : Nat} (hS : SortsC P f g)
  (hcmp : ∀ x y : VRow, isSl x.t = true → isSl y.t = true → TriP P g [.agg x.vals, .agg y.vals] (all5 none) 0 fun e _ _ => e = .ret (.int .i64 (cmp2 x.a x.b y.a y.b)))
  {H : Heap} {nx b n : Nat} {ct : CT} {olds : List Nat} {full : Bool} {rows : List VRow} {K : EndP} (hb : get5 b H = some (.cells n ct olds false))
  (hrows : ct.take (5 * rows.length) = rows.flatMap VRow.vals) (hn : 5 * rows.length ≤ n) (hlt : rows.length < 4611686018427387904)
  (hs : ∀ v ∈ rows, isSl v.t = true ∧ ∀ g off len esz, v.t = .gslice g off len esz → len ≠ 0)
  (hK : ∀ rows' : List VRow, rows.Perm rows' → (∀ (i j : Nat) (u v : VRow), i < j → rows'[i]? = some u → rows'[j]? = some v → lt2 v.a v.b u.a u.b = false) →
   K (.ret (.tuple [])) (set5 b (some (.cells n (CT.lay (rows'.flatMap VRow.vals) 0 ct) [] false)) (dels olds H)) nx) :
  TriP P f [.slice b 0 rows.length 5 full, .func (.func g) [] []] H nx K := by
 intro σ w args' R hr hd hR
 obtain ⟨cb, sz, off', cap, rfl, hbb, hoff⟩ : ∃ cb sz off' cap, args' = [.slice (some ⟨cb, off', none⟩) rows.length cap, .func (.func g) #[] #[]] ∧ σ b = some (cb, sz) ∧ (off' = 0 ∨ rows = []) := by
  cases hd with
  | cons h1 t =>
   cases t with
   | cons h2 t =>
    cases t
    cases h2 with
    | func g1 g2 =>
     cases g1
     cases g2
     generalize hlen : rows.length = L at h1
     cases h1 with
     | slice h q1 q2 q3 => exact ⟨_, _, 0, _, rfl, h, .inl rfl⟩
     | slice0 h => exact ⟨_, _, _, 0, rfl, h, .inr (List.length_eq_zero_iff.1 hlen)⟩
 obtain ⟨o1, o2, o3, o4⟩ := hr.obj b _ cb sz hb hbb
 have hcb := (hr.dom b cb sz hbb).2
 obtain ⟨d, hF, hcell⟩ := rows_of (σ := σ) (w := w) (cb := cb) rows 0 hs (fun i j v hv hj => by
  have hi : i < rows.length := by
   rcases Nat.lt_or_ge i rows.length with h | h
   ·exact h
   ·rw [List.getElem?_eq_none h] at hv; cases hv
  obtain ⟨v', e, dd⟩ := o4 (5 * i + j) (by omega)
  have hg := flatV_get rows i j v hv hj
  rw [← hrows, List.getElem?_take_of_lt (by omega)] at hg
  have hj' : j < v.vals.length := hj
  refine ⟨v.vals[j], v', by rw [Nat.zero_add]; exact e, by rw [List.getElem?_eq_getElem hj'], ?_⟩
  rw [List.getElem?_eq_getElem hj'] at hg
  simpa [CT.get, List.getD, hg] using dd)
 have hdl : d.length = rows.length := hF.length.symm
 have hH : HoldsK CRow.enc 5 w cb off' ⟨d⟩ := by
  intro t ht
  rw [size_flatK] at ht
  have ht' : t < d.length * 5 := ht
  have hoff0 : off' = 0 := by
   rcases hoff with h | h
   ·exact h
   ·subst h; simp at hdl; rw [hdl] at ht'; simp at ht'
  subst hoff0
  have hi : t / 5 < d.length := by omega
  have hx := hcell (t / 5) (t % 5) d[t / 5] (by simp [hi]) (by omega)
  rw [Nat.zero_add, show 5 * (t / 5) + t % 5 = t by omega] at hx
  refine ⟨?_, by rw [Nat.zero_add]; exact (o3 t (by omega)).1⟩
  rw [Nat.zero_add]
  show w.cell? (at' cb t) = some (id _)
  rw [hx, id, get_flatK _ _ _ t ht, getElem!_pos (⟨d⟩ : Array CRow) _ hi, List.getElem?_eq_getElem (by rw [enc_len]; omega), getElem!_pos _ _ (by rw [enc_len]; omega)]
  rfl
 have hglob : Glob (fun _ => none) w := hr.glob.of (Nat.le_refl _) (fun _ _ _ => rfl) fun b cb sz e => by cases e
 have hC : CmpLays P g #[] CRow.enc 5 CRow.cf cb off' (⟨d⟩ : Array CRow).size w := cmp_lays hcb hcmp hglob (fun gg hgg => ⟨(fun l hl => by
   have := (hr.glob.var gg l hl).2.1 b sz; rw [hbb, hgg] at this; exact this rfl), (fun o ho => by
   have := (hr.glob.blk gg o ho).2.1 b sz; rw [hbb, hgg] at this; exact this rfl)⟩)
 have hcall := hS cb off' cap ⟨d⟩ w hC hH hcb (by show d.length < _; omega)
 have earg : (⟨[.slice (some ⟨cb, off', none⟩) rows.length cap, .func (.func g) #[] #[]]⟩ : Array Value) = #[.slice (some ⟨cb, off', none⟩) (⟨d⟩ : Array CRow).size cap, .func (.func g) #[] #[]] := by
  show _ = (#[.slice (some ⟨cb, off', none⟩) d.length cap, .func (.func g) #[] #[]] : Array Value)
  rw [hdl]
 rw [earg]
 refine hcall.mono ?_
 rintro e w' ⟨rfl, d', m, os, hp, hsrt, rfl⟩
 obtain ⟨hsz', hperm⟩ := permIn_list hp
 obtain ⟨rows', hpr, hF'⟩ := hF.perm hperm
 have hl' : rows'.length = d'.size := by rw [hF'.length]; simp
 have hsz2 : d'.size = rows.length := by rw [hsz']; show d.length = _; exact hdl
 have hfl : (d'.toList.flatMap CRow.enc).length = 5 * rows.length := by rw [flatC_len]; simp [hsz2]
 have hput : putRowK CRow.enc 5 (Sort.ahead w m) cb off' d' = setCells (Sort.ahead w m) cb 0 (d'.toList.flatMap CRow.enc) := by
  rcases hoff with h0 | h0
  ·subst h0
   have hself : putRow id (Sort.ahead w m) cb 0 (flatK CRow.enc 5 ⟨d⟩) = Sort.ahead w m := putRowK_self CRow.enc 5 _ _ _ _ (holdsK_ahead _ _ _ _ _ _ _ hH)
   have hF0 : (flatK CRow.enc 5 (⟨d⟩ : Array CRow)).size = 5 * rows.length := by rw [size_flatK]; show d.length * 5 = _; omega
   rw [setCells_eq]
   have := setCells_putRow (Sort.ahead w m) cb 0 (d'.toList.flatMap CRow.enc) 0 (flatK CRow.enc 5 ⟨d⟩) (by rw [hF0, hfl]; omega)
   rw [hself] at this
   rw [show 0 = 0 + 0 from rfl, this]
   unfold putRowK
   congr 1
   rw [flatK_eq d']
   refine (ext_get! (by rw [size_setMany, hF0]; exact hfl.symm) fun t ht => ?_).symm
   rw [size_setMany] at ht
   rw [get_setMany _ _ _ _ ht, if_pos (by rw [hfl]; omega), Nat.sub_zero]
   have ht1 : t < (d'.toList.flatMap CRow.enc).length := by omega
   rw [getElem!_pos (d'.toList.flatMap CRow.enc) t ht1, getElem!_pos (⟨d'.toList.flatMap CRow.enc⟩ : Array Value) t ht1]
   rfl
  ·subst h0
   have e0 : d' = #[] := Array.eq_empty_of_size_eq_zero (by simpa using hsz2)
   subst e0
   show putRow id (Sort.ahead w m) cb off' (flatK CRow.enc 5 #[]) = _
   rw [putRow_self id (Sort.ahead w m) cb off' _ (by intro t ht; rw [size_flatK] at ht; simp at ht)]
   rfl
 have k1 : KeptW w (Sort.ahead w m) := ⟨rfl, rfl, rfl, Nat.le_refl _, fun _ _ => rfl, Nat.le_add_right _ _⟩
 have R1 := hr.kept k1
 have E1 : Ext σ σ H H nx nx w (Sort.ahead w m) := Ext.kept k1
 obtain ⟨R2, E2⟩ := R1.store (off := 0) hbb hb (by rw [flat_len, hl', hsz2]; omega) hF'.flat
 have k3 : KeptW (setCells (Sort.ahead w m) cb 0 (d'.toList.flatMap CRow.enc)) (sortWorldK CRow.enc 5 w cb off' m d' os) := by
  unfold sortWorldK
  rw [hput]
  exact ⟨rfl, rfl, rfl, by simp [grow], fun i hi => heap_grow_old _ _ hi, Nat.le_refl _⟩
 refine hR (.ret (.tuple [])) _ nx σ _ _ (hK rows' hpr ?_) (R2.kept k3) ((E1.trans E2).trans (Ext.kept k3)) (by first | exact .ret (.tuple .nil) | exact .tuple .nil)
 intro i j u v hij hu hv
 have hi : i < rows'.length := by
  rcases Nat.lt_or_ge i rows'.length with h | h
  ·exact h
  ·rw [List.getElem?_eq_none h] at hu; cases hu
 have hj : j < rows'.length := by
  rcases Nat.lt_or_ge j rows'.length with h | h
  ·exact h
  ·rw [List.getElem?_eq_none h] at hv; cases hv
 have s := hsrt i j (Nat.zero_le _) hij (by show j < d.length; omega)
 have gi : i < d'.size := by omega
 have gj : j < d'.size := by omega
 rw [getElem!_pos d' i gi, getElem!_pos d' j gj] at s
 obtain ⟨u1, u2, _⟩ := hF'.get i u d'[i] hu (by simp [gi])
 obtain ⟨v1, v2, _⟩ := hF'.get j v d'[j] hv (by simp [gj])
 have s' : decide (CRow.cf d'[j] d'[i] < 0) = false := s
 unfold CRow.cf at s'
 rw [cmp2_lt] at s'
 rw [u1, u2, v1, v2]
 exact s'
end
end Go.Vs
end
section
namespace Go.Vs
open Go.Sort
noncomputable section
instance : Inhabited VRow := ⟨⟨0, 0, 0, 0, .nilSlice⟩⟩
def lessH (x y : VRow) : Bool := if x.c = y.c then lt2 x.a x.b y.a y.b else decide (y.c < x.c)
theorem lessH_iff (x y : VRow) : lessH x y = true ↔ y.c < x.c ∨ x.c = y.c ∧ (x.a < y.a ∨ x.a = y.a ∧ x.b < y.b) := by
 unfold lessH lt2
 split
 ·simp; omega
 ·simp; omega
theorem lessH_no (x y : VRow) : lessH x y = false ↔ ¬ (y.c < x.c ∨ x.c = y.c ∧ (x.a < y.a ∨ x.a = y.a ∧ x.b < y.b)) := by
 rw [← lessH_iff]; simp
theorem lessH_swo : SWO lessH where
 irrefl x := by rw [lessH_no]; omega
 trans x y z h1 h2 := by rw [lessH_iff] at *; omega
 ntrans x y z h1 h2 := by rw [lessH_no] at *; omega
def HotR (n : Int) (rows out : List VRow) : Prop :=
 ∃ rest, (rows.filter fun x => decide (n ≤ x.c)).Perm (out ++ rest) ∧ (∀ (i j : Nat) (x y : VRow), i < j → out[i]? = some x → out[j]? = some y → lessH y x = false) ∧
  (∀ x ∈ out, ∀ y ∈ rest, lessH y x = false) ∧ out.length ≤ 20 ∧ (out.length = 20 ∨ rest = [])
section
variable {n : Int} {rows out : List VRow}
theorem HotR.len (h : HotR n rows out) : out.length = min (rows.countP fun x => decide (n ≤ x.c)) 20 := by
 obtain ⟨rest, hp, _, _, h1, h2⟩ := h
 have e := hp.length_eq
 rw [List.length_append, ← List.countP_eq_length_filter] at e
 rcases h2 with h2 | h2
 ·omega
 ·subst h2; simp at e; omega
end
end
end Go.Vs
end
section
namespace Go.Vs
open Go.Sort Go.Hp
variable [GTab]
noncomputable section
def flat (d : Array VRow) : List AVal := d.toList.flatMap VRow.vals
theorem flat_length (d : Array VRow) : (flat d).length = 5 * d.size := by unfold flat; rw [flat_len]; simp
theorem flat_at {d : Array VRow} {i r : Nat} (hi : i < d.size) (hr : r < 5) : (flat d)[5 * i + r]? = (d[i]!).vals[r]? := by
 unfold flat
 rw [flatV_get d.toList i r d[i]! (by rw [getElem!_pos d i hi]; simp [hi]) hr]
theorem flatL_set : ∀ (l : List VRow) (i : Nat) (v : VRow), i < l.length → splice (l.flatMap VRow.vals) (5 * i) v.vals = (l.set i v).flatMap VRow.vals
 | [], i, v, h => by simp at h
 | x :: l, 0, v, h => by
  unfold splice
  simp only [List.set_cons_zero, List.flatMap_cons, Nat.mul_zero, List.take_zero, List.nil_append, Nat.zero_add]
  rw [vals_len v, List.drop_append, vals_len x, List.drop_eq_nil_of_le (by rw [vals_len]; omega)]
  simp
 | x :: l, i + 1, v, h => by
  have ih := flatL_set l i v (by simpa using h)
  unfold splice at ih ⊢
  simp only [List.set_cons_succ, List.flatMap_cons]
  rw [← ih]
  have e1 : (x.vals ++ l.flatMap VRow.vals).take (5 * (i + 1)) = x.vals ++ (l.flatMap VRow.vals).take (5 * i) := by
   rw [List.take_append, vals_len x, List.take_of_length_le (by rw [vals_len]; omega), show 5 * (i + 1) - 5 = 5 * i by omega]
  have e2 : (x.vals ++ l.flatMap VRow.vals).drop (5 * (i + 1) + v.vals.length) = (l.flatMap VRow.vals).drop (5 * i + v.vals.length) := by
   rw [List.drop_append, vals_len x, vals_len v, List.drop_eq_nil_of_le (by rw [vals_len]; omega), List.nil_append, show 5 * (i + 1) + 5 - 5 = 5 * i + 5 by omega]
  rw [e1, e2]
  simp [List.append_assoc]
theorem flat_set {d : Array VRow} {i : Nat} (v : VRow) (hi : i < d.size) : splice (flat d) (5 * i) v.vals = flat (d.setIfInBounds i v) := by
 unfold flat
 rw [flatL_set _ _ _ (by simpa using hi), Array.toList_setIfInBounds]
theorem flat_push (d : Array VRow) (v : VRow) : flat (d.push v) = flat d ++ v.vals := by
 unfold flat; rw [Array.toList_push, List.flatMap_append]; simp
theorem flat_slab {d : Array VRow} {i : Nat} (hi : i < d.size) : ((flat d).drop (5 * i)).take 5 = (d[i]!).vals := by
 refine List.ext_getElem? fun r => ?_
 by_cases hr : r < 5
 ·rw [List.getElem?_take_of_lt hr, List.getElem?_drop, flat_at hi hr]
 ·rw [List.getElem?_eq_none (by simp; omega), List.getElem?_eq_none (by rw [vals_len]; omega)]
theorem push_get {d : Array VRow} {x : VRow} {i : Nat} (h : i < d.size) : (d.push x)[i]! = d[i]! := by
 rw [getElem!_pos _ i (by simp; omega), getElem!_pos _ i h, Array.getElem_push_lt]
theorem heap_push {d : Array VRow} {x : VRow} (h : IsHeap lessH d.size d) : UpInv lessH (d.size + 1) d.size (d.push x) := by
 refine up_start fun i h0 hi => ?_
 rw [push_get hi, push_get (by unfold par; omega)]
 exact h i h0 hi
structure Pops (n : Int) (rows : List VRow) (out : List VRow) (d : Array VRow) (m : Nat) : Prop where
 le : m ≤ d.size
 heap : IsHeap lessH m d
 perm : (rows.filter fun x => decide (n ≤ x.c)).Perm (out ++ (d.extract 0 m).toList)
 ord : ∀ (i j : Nat) (x y : VRow), i < j → out[i]? = some x → out[j]? = some y → lessH y x = false
 rest : ∀ x ∈ out, ∀ y ∈ (d.extract 0 m).toList, lessH y x = false
theorem mem_extract {d : Array VRow} {m : Nat} (h : m ≤ d.size) {y : VRow} : y ∈ (d.extract 0 m).toList ↔ ∃ i, i < m ∧ y = d[i]! := by
 rw [List.mem_iff_getElem?]
 constructor
 ·rintro ⟨i, hi⟩
  have hi' : (d.extract 0 m)[i]? = some y := by rw [← Array.getElem?_toList]; exact hi
  rw [Array.getElem?_extract] at hi'
  split at hi'
  ·rename_i hlt
   have him : i < m := by omega
   refine ⟨i, him, ?_⟩
   rw [getElem!_pos d i (by omega)]
   simpa [show i < d.size by omega] using hi'.symm
  ·cases hi'
 ·rintro ⟨i, hi, rfl⟩
  refine ⟨i, ?_⟩
  have : (d.extract 0 m)[i]? = some d[i]! := by
   rw [Array.getElem?_extract, if_pos (by omega), getElem!_pos d i (by omega)]
   simp [show i < d.size by omega]
  rw [Array.getElem?_toList]; exact this
theorem extract_succ {d : Array VRow} {m : Nat} (h : m < d.size) : (d.extract 0 (m + 1)).toList = (d.extract 0 m).toList ++ [d[m]!] := by
 rw [getElem!_pos d m h]
 simp only [Array.toList_extract, List.extract_eq_take_drop, Nat.sub_zero, List.drop_zero]
 rw [List.take_add_one]
 simp [h]
theorem Pops.step {n : Int} {rows out : List VRow} {d e : Array VRow} {m : Nat} (h : Pops n rows out d (m + 1)) (hs : e.size = d.size) (hh : IsHeap lessH m e) (hm : e[m]! = d[0]!) (hp : (e.extract 0 (m + 1)).toList.Perm (d.extract 0 (m + 1)).toList) :
  Pops n rows (out ++ [e[m]!]) e m := by
 have hle := h.le
 have hroot := root_least lessH_swo h.heap
 have hsub : ∀ y, y ∈ (e.extract 0 m).toList → y ∈ (d.extract 0 (m + 1)).toList := fun y hy => hp.mem_iff.1 (by rw [extract_succ (by omega)]; exact List.mem_append.2 (.inl hy))
 have h0 : d[0]! ∈ (d.extract 0 (m + 1)).toList := (mem_extract hle).2 ⟨0, by omega, rfl⟩
 refine ⟨by omega, hh, ?_, ?_, ?_⟩
 ·have h1 := h.perm
  rw [extract_succ (by omega)] at hp
  refine h1.trans ?_
  rw [List.append_assoc]
  refine List.Perm.append_left out ?_
  exact hp.symm.trans (List.perm_append_comm)
 ·intro i j x y hij hx hy
  by_cases hj : j < out.length
  ·rw [List.getElem?_append_left hj] at hy
   rw [List.getElem?_append_left (by omega)] at hx
   exact h.ord i j x y hij hx hy
  ·rw [List.getElem?_append_right (by omega)] at hy
   have hj0 : j - out.length = 0 := by
    rcases Nat.eq_zero_or_pos (j - out.length) with q | q
    ·exact q
    ·rw [List.getElem?_eq_none (by simp; omega)] at hy; cases hy
   rw [hj0] at hy
   simp at hy
   subst hy
   rw [List.getElem?_append_left (by omega)] at hx
   rw [hm]
   exact h.rest x (List.mem_of_getElem? hx) _ h0
 ·intro x hx y hy
  rcases List.mem_append.1 hx with hx | hx
  ·exact h.rest x hx y (hsub y hy)
  ·simp at hx
   subst hx
   rw [hm]
   obtain ⟨i, hi, rfl⟩ := (mem_extract hle).1 (hsub y hy)
   exact hroot i hi
theorem Pops.done {n : Int} {rows out : List VRow} {d : Array VRow} {m : Nat} (h : Pops n rows out d m) (h20 : out.length ≤ 20) (hend : m = 0 ∨ out.length = 20) : HotR n rows out := by
 refine ⟨_, h.perm, h.ord, h.rest, h20, ?_⟩
 rcases hend with rfl | h
 ·exact .inr (by simp)
 ·exact .inl h
end
end Go.Vs
end
section
namespace Go.Vs
open Go.Proofs
variable [GTab]
noncomputable section
section
variable {M : MM} {A : Owned} {F : Facts} {H : Heap} {nx : Nat} {K : EndP}
theorem ifB_t {b : Bool} {p q : Prop} (h : b = true) (hp : p) : ifB b p q := by subst h; exact hp
theorem ifB_f {b : Bool} {p q : Prop} (h : b = false) (hq : q) : ifB b p q := by subst h; exact hq
theorem WpP.part {P : Program} {nt : Nat} {c : Code} {env : Env} {H : Heap} {nx : Nat} {dfs : Dfs} {K : KP} {ts : List Nat} (hm : P.follows .mixedOrders = true)
  (h : vK P (TriP P) (LpP P nt) nt c env H nx dfs none (trimK ts (loopK (fun e H n d _ => K .normal e H n d none) (fun id e H n d _ => K (.exit id) e H n d none) (fun e H n d _ => K .ret e H n d none) (fun l e H n d _ => K (.pan l) e H n d none)))) : WpP P nt c env H nx dfs K :=
 WpP.trim (WpP.mono (WpP.of_vK hm h) (by intro ex env' H' nx' dfs' h; cases ex <;> exact h))
theorem pick_ok {n m : Int} (h0 : 0 < m) (h1 : m ≤ 4611686018427387904) (hK : K (.ret (iv (n % m))) H nx) : TriP PG f_h_Pick [iv n, iv m] H nx K := by
 refine TriP.of_body mixed ?_
 rw [Fh_Pick_eq]
 unfold Fh_Pick
 have hb := Int.tmod_lt_of_pos n h0
 have hl : -m < n.tmod m := by
  have h2 := Int.tmod_lt_of_pos (-n) h0
  rw [Int.neg_tmod] at h2; omega
 have e : n % m = if n.tmod m < 0 then n.tmod m + m else n.tmod m := by
  rw [Int.emod_eq_tmod]
  by_cases hn : 0 ≤ n
  ·rw [if_pos (.inl hn)]
   have := Int.tmod_nonneg m hn
   rw [if_neg (by omega)]; omega
  ·have hle : n.tmod m ≤ 0 := by
    have := Int.tmod_nonneg m (a := -n) (by omega)
    rw [Int.neg_tmod] at this; omega
   by_cases hd : m ∣ n
   ·rw [if_pos (.inr hd)]
    have := Int.tmod_eq_zero_of_dvd hd
    rw [if_neg (by omega)]; omega
   ·rw [if_neg (by rintro (h | h); exact hn h; exact hd h)]
    have hz : n.tmod m ≠ 0 := fun h => hd (Int.dvd_of_tmod_eq_zero h)
    rw [if_pos (by omega)]
    omega
 rw [e] at hK
 refine ⟨by omega, ifB_iff.2 ⟨fun h => ?_, fun h => ?_⟩⟩
 ·have h : n.tmod m < 0 := of_decide_eq_true h
  rw [if_pos h] at hK
  rw [wrap64_id (by omega) (by omega)]; exact hK
 ·have h : ¬ n.tmod m < 0 := of_decide_eq_false h
  rw [if_neg h] at hK
  exact hK
theorem isnan_ok {x : Int} (hK : K (.ret (.bool false)) H nx) : TriP PG f_cmp_isNaN_int_ [iv x] H nx K := by
 refine TriP.of_body mixed ?_
 rw [Fcmp_isNaN_int__eq]
 unfold Fcmp_isNaN_int_
 simpa using hK
theorem compare_ok {x y : Int} (hK : K (.ret (iv (cmpI x y))) H nx) : TriP PG f_cmp_Compare_int_ [iv x, iv y] H nx K := by
 refine TriP.of_body mixed ?_
 rw [Fcmp_Compare_int__eq]
 unfold Fcmp_Compare_int_
 refine isnan_ok (onEnd_ret.2 ⟨_, rfl, isnan_ok (onEnd_ret.2 ⟨_, rfl, ifB_f rfl (ifB_f rfl (ifB_iff.2 ⟨fun h => ?_, fun h => ifB_iff.2 ⟨fun h2 => ?_, fun h2 => ?_⟩⟩))⟩)⟩)
 ·have h : x < y := of_decide_eq_true h
  unfold cmpI at hK; rw [if_pos h] at hK; exact hK
 ·have h : ¬ x < y := of_decide_eq_false h
  have h2 : y < x := of_decide_eq_true h2
  unfold cmpI at hK; rw [if_neg h, if_pos h2] at hK; exact hK
 ·have h : ¬ x < y := of_decide_eq_false h
  have h2 : ¬ y < x := of_decide_eq_false h2
  unfold cmpI at hK; rw [if_neg h, if_neg h2] at hK; exact hK
theorem ROr_eq (call : CallP) (lp : LoopP) (lv : LeaveP) (lvc : LeaveC) (K : EndP) (w n i : Int) (o : AVal) (H : Heap) (nx : Nat) (rc : Option AMode) :
  contAt PG call lp 18 (codeOf PG 32) [1, 1, 0, 1, 0] (endK PG lv lvc K (resOf PG 32)) .ret (envL .und [(2, iv w), (3, iv 0), (6, o), (7, iv n), (8, iv i)]) H nx [] rc = K (.ret (iv w)) H nx := by kernel_rfl
theorem or_ok {b : Nat} {u v : Int} (h : SM M A F H nx) (hb : Own A b [iv u, iv v]) (hK : K (.ret (iv (if u = 0 then v else u))) H nx) : TriP PG f_cmp_Or_int_ [.slice b 0 2 1 true] H nx K := by
 refine TriP.of_body mixed ?_
 rw [Fcmp_Or_int__eq]
 unfold Fcmp_Or_int_
 refine ⟨_, rfl, ?_⟩
 refine loop_w (P := PG) (X := Nat) (Y := Nat) (fun i => envL .und [(8, iv (i : Int)), (7, iv 2), (6, .slice b 0 2 1 true), (3, iv 0), (2, iv 0)]) (fun i => envL .und [(3, iv 0)])
  (fun m i H1 nx1 => H1 = H ∧ nx1 = nx ∧ m = 2 - i ∧ i ≤ 2 ∧ (1 ≤ i → u = 0) ∧ (2 ≤ i → v = 0))
  (fun id _ H1 nx1 => id = 0 ∧ H1 = H ∧ nx1 = nx ∧ u = 0 ∧ v = 0) 2 0 (EnvLe.of_list (by exact ⟨rfl, rfl, rfl, rfl, rfl, trivial⟩)) ⟨rfl, rfl, rfl, by omega, by omega, by omega⟩ ?_ ?_
 ·rintro m i H1 nx1 ⟨rfl, rfl, rfl, hi, h1, h2⟩
  refine WpP.part (ts := [2, 3, 6, 7, 8]) mixed ?_
  rw [LOr_eq]
  unfold LOr
  refine ifB_iff.2 ⟨fun hc => ?_, fun hc => ?_⟩
  ·have hc : (i : Int) < 2 := of_decide_eq_true hc
   have hi2 : i = 0 ∨ i = 1 := by omega
   rcases hi2 with rfl | rfl
   ·refine ⟨by decide, _, rfl, u, h.ld1 hb 0, ifB_iff.2 ⟨fun hn => ?_, fun hn => ?_⟩⟩
    ·have hn : u ≠ 0 := by simpa using hn
     show contAt PG _ _ 18 _ _ _ _ _ _ _ _ _
     rw [ROr_eq]
     rw [if_neg hn] at hK; exact hK
    ·have hn : u = 0 := by simpa using hn
     exact ⟨rfl, 1, 1, by omega, EnvLe.of_list (by exact ⟨rfl, rfl, rfl, rfl, rfl, trivial⟩), rfl, rfl, rfl, by omega, fun _ => hn, by omega⟩
   ·refine ⟨by decide, _, rfl, v, h.ld1 hb 1, ifB_iff.2 ⟨fun hn => ?_, fun hn => ?_⟩⟩
    ·have hn : v ≠ 0 := by simpa using hn
     show contAt PG _ _ 18 _ _ _ _ _ _ _ _ _
     rw [ROr_eq]
     rw [if_pos (h1 (Nat.le_refl _))] at hK; exact hK
    ·have hn : v = 0 := by simpa using hn
     exact ⟨rfl, 0, 2, by omega, EnvLe.of_list (by exact ⟨rfl, rfl, rfl, rfl, rfl, trivial⟩), rfl, rfl, rfl, by omega, fun _ => h1 (Nat.le_refl _), fun _ => hn⟩
  ·have hc : ¬ (i : Int) < 2 := of_decide_eq_false hc
   exact ⟨rfl, i, EnvLe.of_list (by exact ⟨rfl, trivial⟩), rfl, rfl, rfl, h1 (by omega), h2 (by omega)⟩
 ·rintro id i H1 nx1 ⟨rfl, rfl, rfl, hu, hv⟩
  rw [AOr_eq (_u := 0)]
  unfold AOr
  rw [if_pos hu, hv] at hK; exact hK
theorem byPlace_ok {a b c d f g k i : Int} {t u : AVal} (h : SM M A F H nx) (hK : ∀ H' nx', nx ≤ nx' → SM M A F H' nx' → K (.ret (iv (cmp2 a b f g))) H' nx') :
  TriP PG f_pr_byPlace [.agg [iv a, iv b, iv c, iv d, t], .agg [iv f, iv g, iv k, iv i, u]] H nx K := by
 refine TriP.of_body mixed ?_
 rw [Fpr_byPlace_eq]
 unfold Fpr_byPlace
 refine h.newL (Nat.le_refl _) fun H0 p0 => p0.newL (Nat.le_refl _) fun H1 p1 => ?_
 have l1 := p1.ld1 (.tl .hd) 0
 have l2 := p1.ld1 .hd 0
 have l3 := p1.ld1 (.tl .hd) 1
 have l4 := p1.ld1 .hd 1
 refine ⟨_, rfl, _, l1, _, rfl, _, l2, _, rfl, _, l3, _, rfl, _, l4, ⟨⟨_, l1, rfl⟩, ⟨_, l2, rfl⟩, ⟨_, l3, rfl⟩, ⟨_, l4, rfl⟩, trivial⟩, compare_ok (onEnd_ret.2 ⟨_, rfl, ⟨⟨_, l3, rfl⟩, ⟨_, l4, rfl⟩, trivial⟩, compare_ok (onEnd_ret.2 ⟨_, rfl, rfl, rfl, ?_⟩)⟩)⟩
 refine ⟨_, rfl, trivial, ?_⟩
 have p2 := p1.newN (i := nx + 1 + 1 + 10) (nx' := nx + 1 + 1 + 13) (cs := [iv (cmpI a f), iv (cmpI b g)]) (by omega) (by omega)
 refine or_ok p2 .hd (onEnd_ret.2 ⟨_, rfl, trivial, ?_⟩)
 exact hK _ _ (by omega) p2.drop.drop.drop
theorem SM.nil : SM (fun _ => none) [] [] (all5 none) 0 := ⟨fun _ => none, ⟨⟨fun b hb => (hb rfl).elim, fun b cs e => by cases e⟩, fun b o e => by cases e⟩, trivial, fun Γ' _ P hP => by cases hP⟩
theorem cmp_rows (x y : VRow) (_ : isSl x.t = true) (_ : isSl y.t = true) : TriP PG f_pr_byPlace [.agg x.vals, .agg y.vals] (all5 none) 0 fun e _ _ => e = .ret (.int .i64 (cmp2 x.a x.b y.a y.b)) :=
 byPlace_ok SM.nil fun H' nx' _ _ => rfl
end
end
end Go.Vs
end
section
namespace Go.Vs
open Go.Proofs Go.Sort Go.Hp
variable [GTab]
noncomputable section
theorem aLoad_ld1 {P : Program} {t : TypeId} {H : Heap} {a v : AVal} {d : TypeDesc} {i : TypeInfo} (hd : P.underlying t = some d) (hi : P.info? t = some i) (hag : aggD d = false) (h : ld1 H a = some v) : aLoad P t H a = some v := by
 unfold ld1 at h
 unfold aLoad
 cases a <;> first | exact h | skip
 ·rename_i b off
  simp only [] at h ⊢
  cases hb : get5 b H with
  | none => rw [hb] at h; cases h
  | some o =>
   rw [hb] at h
   cases o with
   | map _ _ => cases h
   | iter _ _ _ _ => cases h
   | cells n ct o s => simp only [hd, hi, hag]; exact h
 ·rename_i g off
  simp only [] at h ⊢
  cases hb : GTab.tab g with
  | none => rw [hb] at h; cases h
  | some l => rw [hb] at h; simp only [hd, hi, hag]; exact h
theorem hot_und : PG.underlying 54 = some (.slice 30) := by kernel_rfl
theorem hotp_und : PG.underlying t_hotp = some (.pointer 54) := by kernel_rfl
theorem hot_info : ((PG.info? 54).isSome) = true := by kernel_rfl
theorem m_Less : methodA PG t_hotp "Less" = some (f_ht_Less, false) := by kernel_rfl
theorem m_Swap : methodA PG t_hotp "Swap" = some (f_ht_Swap, false) := by kernel_rfl
theorem m_Len : methodA PG t_hotp "Len" = some (f_ht_Len, false) := by kernel_rfl
theorem m_Push : methodA PG t_hotp "Push" = some (f_hp_Push, true) := by kernel_rfl
theorem m_Pop : methodA PG t_hotp "Pop" = some (f_hp_Pop, true) := by kernel_rfl
theorem hb_Less : hasBody PG f_ht_Less = true := by kernel_rfl
theorem hb_Swap : hasBody PG f_ht_Swap = true := by kernel_rfl
theorem hb_Len : hasBody PG f_ht_Len = true := by kernel_rfl
theorem hb_Push : hasBody PG f_hp_Push = true := by kernel_rfl
theorem hb_Pop : hasBody PG f_hp_Pop = true := by kernel_rfl
theorem recv_val {H : Heap} {l : Nat} {v : AVal} (h : ld1 H (.ptr l 0) = some v) : recvA PG H t_hotp (.ptr l 0) false = some v := by
 obtain ⟨i, hi⟩ := Option.isSome_iff_exists.1 hot_info
 unfold recvA
 simp only [hotp_und]
 exact aLoad_ld1 hot_und hi rfl h
theorem recv_ptr {H : Heap} {l : Nat} : recvA PG H t_hotp (.ptr l 0) true = some (.ptr l 0) := by
 unfold recvA
 simp only [hotp_und]
section
variable {M : MM} {A A' : Owned} {F : Facts} {H : Heap} {nx : Nat} {K : EndP} {hb l n : Nat} {full : Bool} {d : Array VRow}
theorem sl_cell {v : AVal} (h : isSl v = true) : cellv v = true := by
 unfold isSl at h
 split at h <;> first | rfl | cases h
def Sls (d : Array VRow) : Prop := ∀ i, i < d.size → isSl d[i]!.t = true
theorem allCell_vals {x : VRow} (h : isSl x.t = true) : allCell x.vals = true := by
 have h := sl_cell h
 show allCell [_, _, _, _, x.t] = true
 simp only [allCell, h]
 rfl
theorem idx5 {i : Nat} (h : i < n) : idxS (.slice hb 0 n 5 full) (i : Int).toNat 5 = some (.ptr hb (5 * i)) := by
 have : Nat.ble (Nat.succ i) n = true := Nat.ble_eq_true_of_le h
 unfold idxS
 simp only [Int.toNat_natCast, this]
 congr 2
 show 0 + i * 5 = 5 * i
 omega
theorem row_ld {i r : Nat} {v : AVal} (h : SM M A F H nx) (hb' : Own A hb (flat d)) (hi : i < d.size) (hr : r < 5) (hv : (d[i]!).vals[r]? = some v) : ld1 H (.ptr hb (5 * i + r)) = some v := by
 rw [h.ld1 hb' (5 * i + r), flat_at hi hr, hv]
theorem row_ldN {i : Nat} (h : SM M A F H nx) (hb' : Own A hb (flat d)) (hi : i < d.size) : ldN H 5 (.ptr hb (5 * i)) = some (.agg (d[i]!).vals) := by
 rw [h.ldN hb' (by rw [flat_length]; omega), flat_slab hi]
theorem len_ok (hK : K (.ret (iv (n : Int))) H nx) : TriP PG f_ht_Len [.slice hb 0 n 5 full] H nx K := by
 refine TriP.of_body mixed ?_
 rw [Fht_Len_eq]
 unfold Fht_Len
 exact ⟨_, rfl, hK⟩
theorem less_ok {i j : Nat} (h : SM M A F H nx) (hb' : Own A hb (flat d)) (hn : n ≤ d.size) (hi : i < n) (hj : j < n) (hK : ∀ H' nx', nx ≤ nx' → SM M A F H' nx' → K (.ret (.bool (lessH d[i]! d[j]!))) H' nx') :
  TriP PG f_ht_Less [.slice hb 0 n 5 full, iv (i : Int), iv (j : Int)] H nx K := by
 refine TriP.of_body mixed ?_
 rw [Fht_Less_eq]
 unfold Fht_Less
 have hid : i < d.size := by omega
 have hjd : j < d.size := by omega
 have li : ld1 H (.ptr hb (5 * i + 2)) = some (iv d[i]!.c) := row_ld h hb' hid (by omega) rfl
 have lj : ld1 H (.ptr hb (5 * j + 2)) = some (iv d[j]!.c) := row_ld h hb' hjd (by omega) rfl
 refine ⟨by omega, _, idx5 hi, _, rfl, _, li, by omega, _, idx5 hj, _, rfl, _, lj, ⟨⟨_, li, rfl⟩, ⟨_, lj, rfl⟩, trivial⟩, ifB_iff.2 ⟨fun hne => ?_, fun heq => ?_⟩⟩
 ·have hne : d[i]!.c ≠ d[j]!.c := by simpa using hne
  refine ⟨by omega, _, idx5 hi, _, rfl, _, li, by omega, _, idx5 hj, _, rfl, _, lj, ⟨⟨_, li, rfl⟩, ⟨_, lj, rfl⟩, trivial⟩, ?_⟩
  have := hK H (nx + 11 + 12) (by omega) (h.more (by omega))
  unfold lessH at this
  rw [if_neg hne] at this
  exact this
 ·have heq : d[i]!.c = d[j]!.c := by simpa using heq
  have ri := row_ldN h hb' hid
  have rj := row_ldN h hb' hjd
  refine ⟨by omega, _, idx5 hi, _, _, _, _, _, ri, by omega, _, idx5 hj, _, _, _, _, _, rj, ⟨⟨_, _, _, _, _, ri, rfl⟩, ⟨_, _, _, _, _, rj, rfl⟩, trivial⟩, ?_⟩
  refine byPlace_ok (h.more (by omega)) fun H' nx' g p => onEnd_ret.2 ⟨_, rfl, trivial, ?_⟩
  have := hK H' nx' (by omega) p
  unfold lessH at this
  rw [if_pos heq, ← cmp2_lt] at this
  exact this
theorem swap_ok {i j : Nat} (h : SM M ((l, [.slice hb 0 n 5 full]) :: (hb, flat d) :: A) F H nx) (hs : Sls d) (hn : n ≤ d.size) (hi : i < n) (hj : j < n)
  (hK : ∀ H' nx', nx ≤ nx' → SM M ((l, [.slice hb 0 n 5 full]) :: (hb, flat (swp d i j)) :: A) F H' nx' → K (.ret (.tuple [])) H' nx') :
  TriP PG f_ht_Swap [.slice hb 0 n 5 full, iv (i : Int), iv (j : Int)] H nx K := by
 refine TriP.of_body mixed ?_
 rw [Fht_Swap_eq]
 unfold Fht_Swap
 have hid : i < d.size := by omega
 have hjd : j < d.size := by omega
 have ri := row_ldN h (.tl .hd) hid
 have rj := row_ldN h (.tl .hd) hjd
 obtain ⟨H1, e1, p1⟩ := h.st (b := hb) (off := 5 * i) (vs := (d[j]!).vals) (.tl .hd) (by rw [flat_length, vals_len]; omega) (allCell_vals (hs j hjd))
 rw [flat_set _ hid] at p1
 obtain ⟨H2, e2, p2⟩ := p1.st (b := hb) (off := 5 * j) (vs := (d[i]!).vals) (.tl .hd) (by rw [flat_length, vals_len]; simp; omega) (allCell_vals (hs i hid))
 rw [flat_set _ (by simpa using hjd)] at p2
 exact ⟨by omega, _, idx5 hj, _, _, _, _, _, rj, by omega, _, idx5 hi, _, _, _, _, _, ri, by omega, _, idx5 hi, ⟨⟨_, _, _, _, _, rj, rfl⟩, ⟨_, _, _, _, _, ri, rfl⟩, trivial⟩, _, e1, by omega, _, idx5 hj, trivial, _, e2, trivial, hK _ _ (by omega) (p2.more (by omega))⟩
theorem Sls.swp (h : Sls d) {i j : Nat} (hi : i < d.size) (hj : j < d.size) : Sls (Sort.swp d i j) := by
 intro k hk
 rw [size_swp] at hk
 rw [swp_get d hi hj]
 split
 ·exact h i hi
 ·split
  ·exact h j hj
  ·exact h k hk
theorem up_ok {j : Nat} (h : SM M ((l, [.slice hb 0 n 5 full]) :: (hb, flat d) :: A) F H nx) (hs : Sls d) (hn : n ≤ d.size) (hj : j < n) (hN : n ≤ 4611686018427387904) (hU : UpInv lessH n j d)
  (hK : ∀ d' H' nx', nx ≤ nx' → SM M ((l, [.slice hb 0 n 5 full]) :: (hb, flat d') :: A) F H' nx' → Sls d' → d'.size = d.size → d'.toList.Perm d.toList → IsHeap lessH n d' → K (.ret (.tuple [])) H' nx') :
  TriP PG f_heap_up [.iface t_hotp (.ptr l 0), iv (j : Int)] H nx K := by
 refine TriP.of_body mixed ?_
 rw [Fheap_up_eq]
 unfold Fheap_up
 refine loop_w (P := PG) (X := Nat) (Y := Unit) (fun i => envL .und [(1, iv (i : Int)), (0, .iface t_hotp (.ptr l 0))]) (fun _ => envL .und [])
  (fun m i H1 nx1 => nx ≤ nx1 ∧ i = m ∧ i < n ∧ ∃ d', SM M ((l, [.slice hb 0 n 5 full]) :: (hb, flat d') :: A) F H1 nx1 ∧ Sls d' ∧ d'.size = d.size ∧ d'.toList.Perm d.toList ∧ UpInv lessH n i d')
  (fun id _ H1 nx1 => id = 0 ∧ nx ≤ nx1 ∧ ∃ d', SM M ((l, [.slice hb 0 n 5 full]) :: (hb, flat d') :: A) F H1 nx1 ∧ Sls d' ∧ d'.size = d.size ∧ d'.toList.Perm d.toList ∧ IsHeap lessH n d') j j (EnvLe.of_list (by exact ⟨rfl, rfl, trivial⟩))
  ⟨Nat.le_refl _, rfl, hj, d, h, hs, rfl, .refl _, hU⟩ ?_ ?_
 ·rintro m i H1 nx1 ⟨g1, rfl, hin, d', p, hs', hsz, hperm, hU'⟩
  refine WpP.part (ts := [0, 1]) mixed ?_
  rw [LUp_eq]
  unfold LUp
  have ew1 : IntKind.i64.wrap ((i : Int) - 1) = (i : Int) - 1 := wrap64_id (by omega) (by omega)
  have hpar : IntKind.i64.wrap (((i : Int) - 1).tdiv 2) = (if i = 0 then 0 else (par i : Int)) := by
   by_cases h0 : i = 0
   ·subst h0; rfl
   ·rw [if_neg h0, Int.tdiv_eq_ediv_of_nonneg (by omega)]
    have : ((i : Int) - 1) / 2 = (par i : Int) := by unfold par; omega
    rw [this]
    exact wrap64_id (by omega) (by unfold par; omega)
  rw [ew1, hpar]
  refine ⟨by decide, ifB_iff.2 ⟨fun he => ?_, fun he => ?_⟩⟩
  ·have he : (if i = 0 then 0 else (par i : Int)) = (i : Int) := of_decide_eq_true he
   have h0 : i = 0 := by
    by_cases q : i = 0
    ·exact q
    ·rw [if_neg q] at he; unfold par at he; omega
   exact ⟨rfl, (), EnvLe.of_list (by exact trivial), rfl, g1, d', p, hs', hsz, hperm, up_end hU' fun h => by omega⟩
  ·have he : ¬ (if i = 0 then 0 else (par i : Int)) = (i : Int) := of_decide_eq_false he
   have h0 : i ≠ 0 := fun q => he (by rw [if_pos q, q]; rfl)
   rw [if_neg h0]
   have hpi : par i < i := by unfold par; omega
   refine ⟨_, _, _, _, _, rfl, m_Less, hb_Less, recv_val (p.ld1 .hd 0), ?_⟩
   refine less_ok p (.tl .hd) (by omega) hin (by omega) fun H2 n2 g2 p2 => onEnd_ret.2 ⟨_, rfl, ifB_iff.2 ⟨fun hl => ?_, fun hl => ?_⟩⟩
   ·have hl : lessH d'[i]! d'[par i]! = false := by simpa using hl
    exact ⟨rfl, (), EnvLe.of_list (by exact trivial), rfl, by omega, d', p2, hs', hsz, hperm, up_end hU' fun _ => hl⟩
   ·have hl : lessH d'[i]! d'[par i]! = true := by simpa using hl
    refine ⟨_, _, _, _, _, rfl, m_Swap, hb_Swap, recv_val (p2.ld1 .hd 0), ?_⟩
    refine swap_ok p2 hs' (by omega) (by omega) hin fun H3 n3 g3 p3 => onEnd_ret.2 ?_
    exact ⟨rfl, par i, par i, hpi, EnvLe.of_list (by exact ⟨rfl, rfl, trivial⟩), by omega, rfl, by omega, _, p3, hs'.swp (by omega) (by omega), by rw [size_swp]; exact hsz, (swp_perm (by omega) (by omega)).trans hperm,
     up_step lessH_swo (by omega) (by omega) hin hU' hl⟩
 ·rintro id _ H1 nx1 ⟨rfl, g1, d', p, hs', hsz, hperm, hH⟩
  rw [AUp_eq (_u := 0)]
  unfold AUp
  exact hK d' H1 nx1 g1 p hs' hsz hperm hH
end
end
end Go.Vs
end
section
namespace Go.Vs
open Go.Proofs Go.Sort Go.Hp
variable [GTab]
noncomputable section
theorem dn_code : subAt (codeOf PG 29) [1, 1, 0, 0, 0] = .block 1 (.seq (subAt (codeOf PG 29) [1, 1, 0, 0, 0, 0, 0]) (.seq (subAt (codeOf PG 29) [1, 1, 0, 0, 0, 0, 1, 0]) (.seq (subAt (codeOf PG 29) [1, 1, 0, 0, 0, 0, 1, 1, 0])
  (.seq (subAt (codeOf PG 29) [1, 1, 0, 0, 0, 0, 1, 1, 1, 0]) (subAt (codeOf PG 29) [1, 1, 0, 0, 0, 0, 1, 1, 1, 1]))))) := by kernel_rfl
section
variable {M : MM} {A A' : Owned} {F : Facts} {H : Heap} {nx : Nat} {K : EndP} {hb l n : Nat} {full : Bool} {d : Array VRow}
theorem Sls.of_perm {e : Array VRow} {m : Nat} (h : Sls d) (hp : PermIn 0 m d e) : Sls e := by
 intro i hi
 rw [hp.1] at hi
 by_cases him : i < m
 ·have hx : e[i]! ∈ (e.extract 0 m).toList := by
   rw [List.mem_iff_getElem?]
   refine ⟨i, ?_⟩
   have : (e.extract 0 m)[i]? = some e[i]! := by
    rw [Array.getElem?_extract, if_pos (by rw [hp.1]; omega), getElem!_pos e i (by rw [hp.1]; exact hi)]
    simp [show i < e.size by rw [hp.1]; exact hi]
   rw [Array.getElem?_toList]; exact this
  have hy := hp.2.2.mem_iff.1 hx
  rw [List.mem_iff_getElem?] at hy
  obtain ⟨k, hk⟩ := hy
  rw [Array.getElem?_toList, Array.getElem?_extract] at hk
  split at hk
  ·have hkd : k < d.size := by omega
   have e1 : d[k]! = e[i]! := by
    rw [getElem!_pos d k hkd]
    simpa [show k < d.size from hkd] using hk
   rw [← e1]; exact h k hkd
  ·cases hk
 ·rw [hp.2.1 i (by omega)]; exact h i hi
theorem dn_end {m i j : Nat} {K0 : KP} (h : SM M ((l, [.slice hb 0 n 5 full]) :: (hb, flat d) :: A) F H nx) (hs : Sls d) (hn : n ≤ d.size) (hi : i < n) (hj : j < n)
  (hno : ∀ H' nx', nx ≤ nx' → SM M ((l, [.slice hb 0 n 5 full]) :: (hb, flat d) :: A) F H' nx' → lessH d[j]! d[i]! = false → K0 (.exit 0) (envL .und [(0, .iface t_hotp (.ptr l 0)), (1, iv 0), (2, iv (m : Int)), (7, iv (i : Int))]) H' nx' [] none)
  (hyes : ∀ H' nx', nx ≤ nx' → SM M ((l, [.slice hb 0 n 5 full]) :: (hb, flat (swp d i j)) :: A) F H' nx' → lessH d[j]! d[i]! = true → K0 .normal (envL .und [(0, .iface t_hotp (.ptr l 0)), (1, iv 0), (2, iv (m : Int)), (7, iv (j : Int))]) H' nx' [] none) :
  WpP PG 48 (subAt (codeOf PG 29) [1, 1, 0, 0, 0, 0, 1, 1, 1, 1]) (envL .und [(0, .iface t_hotp (.ptr l 0)), (1, iv 0), (2, iv (m : Int)), (7, iv (i : Int)), (9, iv (j : Int))]) H nx [] K0 := by
 refine WpP.part (ts := [0, 1, 2, 7]) mixed ?_
 rw [LDnE_eq]
 unfold LDnE
 refine ⟨_, _, _, _, _, rfl, m_Less, hb_Less, recv_val (h.ld1 .hd 0), ?_⟩
 refine less_ok h (.tl .hd) hn hj hi fun H2 n2 g2 p2 => onEnd_ret.2 ⟨_, rfl, ifB_iff.2 ⟨fun hl => ?_, fun hl => ?_⟩⟩
 ·exact hno _ _ (by omega) p2 (by simpa using hl)
 ·refine ⟨_, _, _, _, _, rfl, m_Swap, hb_Swap, recv_val (p2.ld1 .hd 0), ?_⟩
  exact swap_ok p2 hs hn hi hj fun H3 n3 g3 p3 => onEnd_ret.2 (hyes _ _ (by omega) p3 (by simpa using hl))
theorem dn_best {m i : Nat} {K0 : KP} (h : SM M ((l, [.slice hb 0 n 5 full]) :: (hb, flat d) :: A) F H nx) (hn : n ≤ d.size) (hm : m ≤ n) (hN : n ≤ 1000000000) (hi : 2 * i + 1 < m)
  (hK : ∀ H' nx', nx ≤ nx' → SM M ((l, [.slice hb 0 n 5 full]) :: (hb, flat d) :: A) F H' nx' → K0 .normal (envL .und [(0, .iface t_hotp (.ptr l 0)), (1, iv 0), (2, iv (m : Int)), (7, iv (i : Int)), (9, iv (best lessH m i d : Int))]) H' nx' [] none) :
  WpP PG 48 (subAt (codeOf PG 29) [1, 1, 0, 0, 0, 0, 1, 1, 1, 0]) (envL .und [(0, .iface t_hotp (.ptr l 0)), (1, iv 0), (2, iv (m : Int)), (7, iv (i : Int)), (8, iv ((2 * i + 1 : Nat) : Int)), (9, iv ((2 * i + 1 : Nat) : Int))]) H nx [] K0 := by
 refine WpP.part (ts := [0, 1, 2, 7, 9]) mixed ?_
 rw [LDnD_eq]
 unfold LDnD
 have e3 : IntKind.i64.wrap (((2 * i + 1 : Nat) : Int) + 1) = ((2 * i + 2 : Nat) : Int) := by rw [wrap64_id (by omega) (by omega)]; omega
 rw [e3]
 refine ifB_iff.2 ⟨fun hc => ?_, fun hc => ?_⟩
 ·have hc : ((2 * i + 2 : Nat) : Int) < (m : Int) := of_decide_eq_true hc
  have hc : 2 * i + 2 < m := by omega
  refine ⟨_, _, _, _, _, rfl, m_Less, hb_Less, recv_val (h.ld1 .hd 0), ?_⟩
  refine less_ok h (.tl .hd) hn (by omega) (by omega) fun H2 n2 g2 p2 => onEnd_ret.2 ⟨_, rfl, ifB_iff.2 ⟨fun hl => ?_, fun hl => ?_⟩⟩
  ·have e : best lessH m i d = 2 * i + 2 := by unfold best; rw [if_pos ⟨hc, hl⟩]
   have := hK H2 n2 g2 p2
   rw [e] at this; exact this
  ·have e : best lessH m i d = 2 * i + 1 := by unfold best; rw [if_neg (fun x => by rw [hl] at x; cases x.2)]
   have := hK H2 n2 g2 p2
   rw [e] at this; exact this
 ·have hc : ¬ ((2 * i + 2 : Nat) : Int) < (m : Int) := of_decide_eq_false hc
  have e : best lessH m i d = 2 * i + 1 := by unfold best; rw [if_neg (fun x => hc (by omega))]
  have := hK H nx (Nat.le_refl _) h
  rw [e] at this; exact this
theorem dn_round {m i : Nat} {K0 : KP} (h : SM M ((l, [.slice hb 0 n 5 full]) :: (hb, flat d) :: A) F H nx) (hs : Sls d) (hn : n ≤ d.size) (hm : m ≤ n) (hN : n ≤ 1000000000) (hin : i ≤ n)
  (hno : ∀ H' nx' env, nx ≤ nx' → SM M ((l, [.slice hb 0 n 5 full]) :: (hb, flat d) :: A) F H' nx' → (2 * i + 1 < m → lessH d[best lessH m i d]! d[i]! = false) → EnvLe (envL .und [(7, iv (i : Int)), (1, iv 0)]) env → K0 (.exit 0) env H' nx' [] none)
  (hyes : ∀ H' nx' env, nx ≤ nx' → 2 * i + 1 < m → SM M ((l, [.slice hb 0 n 5 full]) :: (hb, flat (swp d i (best lessH m i d))) :: A) F H' nx' → lessH d[best lessH m i d]! d[i]! = true →
   EnvLe (envL .und [(7, iv (best lessH m i d : Int)), (2, iv (m : Int)), (1, iv 0), (0, .iface t_hotp (.ptr l 0))]) env → K0 .normal env H' nx' [] none) :
  WpP PG 48 (subAt (codeOf PG 29) [1, 1, 0, 0, 0]) (envL .und [(7, iv (i : Int)), (2, iv (m : Int)), (1, iv 0), (0, .iface t_hotp (.ptr l 0))]) H nx [] K0 := by
 rw [dn_code]
 refine WpP.block (WpP.seq (WpP.part (ts := [0, 1, 2, 7, 8]) mixed ?_))
 rw [LDnA_eq]
 unfold LDnA
 have e1 : IntKind.i64.wrap (2 * (i : Int)) = 2 * (i : Int) := wrap64_id (by omega) (by omega)
 have e2 : IntKind.i64.wrap (2 * (i : Int) + 1) = ((2 * i + 1 : Nat) : Int) := by rw [wrap64_id (by omega) (by omega)]; omega
 rw [e1, e2]
 refine WpP.seq (WpP.part (ts := [0, 1, 2, 7, 8]) mixed ?_)
 rw [LDnB_eq]
 unfold LDnB
 refine ifB_iff.2 ⟨fun hc => ?_, fun hc => ifB_f (decide_eq_false (by omega)) ?_⟩
 ·have hc : (m : Int) ≤ ((2 * i + 1 : Nat) : Int) := of_decide_eq_true hc
  exact hno H nx _ (Nat.le_refl _) h (fun x => by omega) (EnvLe.of_list (by exact ⟨rfl, rfl, trivial⟩))
 have hc : ¬ (m : Int) ≤ ((2 * i + 1 : Nat) : Int) := of_decide_eq_false hc
 have hc : 2 * i + 1 < m := by omega
 refine WpP.seq (WpP.part (ts := [0, 1, 2, 7, 8, 9]) mixed ?_)
 rw [LDnC_eq]
 unfold LDnC
 refine WpP.seq (dn_best h hn hm hN hc fun H2 n2 g2 p2 => ?_)
 show WpP PG 48 _ _ _ _ _ (blockK 1 K0)
 refine dn_end p2 hs hn (by omega) (by have := best_lt (lt := lessH) (d := d) hc; omega) (fun H3 n3 g3 p3 hl => ?_) fun H3 n3 g3 p3 hl => ?_
 ·exact hno H3 n3 _ (by omega) p3 (fun _ => hl) (EnvLe.of_list (by exact ⟨rfl, rfl, trivial⟩))
 ·exact hyes H3 n3 _ (by omega) hc p3 hl (EnvLe.of_list (by exact ⟨rfl, rfl, rfl, rfl, trivial⟩))
theorem down_ok {m : Nat} (h : SM M ((l, [.slice hb 0 n 5 full]) :: (hb, flat d) :: A) F H nx) (hs : Sls d) (hn : n ≤ d.size) (hm : m ≤ n) (hN : n ≤ 1000000000) (hD : DownInv lessH m 0 d)
  (hK : ∀ b d' H' nx', nx ≤ nx' → SM M ((l, [.slice hb 0 n 5 full]) :: (hb, flat d') :: A) F H' nx' → PermIn 0 m d d' → IsHeap lessH m d' → K (.ret (.bool b)) H' nx') :
  TriP PG f_heap_down [.iface t_hotp (.ptr l 0), iv 0, iv (m : Int)] H nx K := by
 refine TriP.of_body mixed ?_
 rw [Fheap_down_eq]
 unfold Fheap_down
 refine loop_w (P := PG) (X := Nat) (Y := Nat) (fun i => envL .und [(7, iv (i : Int)), (2, iv (m : Int)), (1, iv 0), (0, .iface t_hotp (.ptr l 0))]) (fun i => envL .und [(7, iv (i : Int)), (1, iv 0)])
  (fun q i H1 nx1 => nx ≤ nx1 ∧ q = n - i ∧ i ≤ n ∧ ∃ d', SM M ((l, [.slice hb 0 n 5 full]) :: (hb, flat d') :: A) F H1 nx1 ∧ PermIn 0 m d d' ∧ DownInv lessH m i d')
  (fun id i H1 nx1 => id = 0 ∧ nx ≤ nx1 ∧ ∃ d', SM M ((l, [.slice hb 0 n 5 full]) :: (hb, flat d') :: A) F H1 nx1 ∧ PermIn 0 m d d' ∧ IsHeap lessH m d') n 0 (EnvLe.of_list (by exact ⟨rfl, rfl, rfl, rfl, trivial⟩))
  ⟨Nat.le_refl _, rfl, by omega, d, h, permIn_refl _ _ _, hD⟩ ?_ ?_
 ·rintro q i H1 nx1 ⟨g1, hq, hin, d', p, hperm, hD'⟩
  have hsz : d'.size = d.size := hperm.1
  refine dn_round p (hs.of_perm hperm) (by omega) hm hN hin (fun H2 n2 env g2 p2 hl he => ?_) fun H2 n2 env g2 hc p2 hl he => ?_
  ·exact ⟨rfl, i, he, rfl, by omega, d', p2, hperm, down_end lessH_swo hD' hl⟩
  ·have hbl := best_lt (lt := lessH) (d := d') hc
   have hbg := best_gt lessH m i d'
   exact ⟨rfl, n - best lessH m i d', best lessH m i d', by omega, he, by omega, rfl, by omega, _, p2, permIn_trans _ _ _ _ _ hperm (swp_permIn d' 0 m i _ (Nat.zero_le _) (by omega) (Nat.zero_le _) hbl (by omega)),
    down_step lessH_swo (by omega) hc hD' hl⟩
 ·rintro id i H1 nx1 ⟨rfl, g1, d', p, hperm, hH⟩
  rw [ADn_eq]
  unfold ADn
  exact hK _ d' H1 nx1 g1 p hperm hH
end
end
end Go.Vs
end
section
namespace Go.Vs
open Go.Proofs Go.Sort Go.Hp
variable [GTab]
noncomputable section
section
variable {M : MM} {A A' : Owned} {F : Facts} {H : Heap} {nx : Nat} {K : EndP} {hb l n : Nat} {full : Bool} {d : Array VRow}
def HotS (M : MM) (A : Owned) (F : Facts) (l : Nat) (d : Array VRow) (H : Heap) (nx : Nat) : Prop :=
 (d.size = 0 ∧ ∃ e, SM M ((l, [.slice e 0 0 5 true]) :: A) F H nx ∧ RowF e [] ∈ F) ∨ (∃ hb, SM M ((l, [.slice hb 0 d.size 5 false]) :: (hb, flat d) :: A) F H nx)
theorem flat_nil (h : d.size = 0) : flat d = [] := List.eq_nil_of_length_eq_zero (by rw [flat_length, h])
theorem hpush_ok {x : VRow} (h : HotS M A F l d H nx) (hx : isSl x.t = true) (hN : d.size ≤ 4000)
  (hK : ∀ hb H' nx', nx ≤ nx' → SM M ((l, [.slice hb 0 (d.push x).size 5 false]) :: (hb, flat (d.push x)) :: A) F H' nx' → K (.ret (.tuple [])) H' nx') :
  TriP PG f_hp_Push [.ptr l 0, .iface t_Count (.agg [iv x.a, iv x.b, iv x.c, iv x.d, x.t])] H nx K := by
 refine TriP.of_body mixed ?_
 rw [Fhp_Push_eq]
 unfold Fhp_Push
 have hcell := allCell_vals hx
 rcases h with ⟨h0, e, p, he⟩ | ⟨hb, p⟩
 ·refine ⟨rfl, _, p.ld1 .hd 0, _, rfl, _, _, _, _, _, rfl, ?_⟩
  have p1 := (p.newN (i := nx + 6) (nx' := nx + 10) (cs := x.vals) (by omega) (by omega)).freeze
  refine ⟨_, rfl, ⟨⟨_, p1.ld1 .hd 0, rfl⟩, trivial⟩, _, _, p1.src (b := nx + 6) (off := 0) (n := 1) (sz := 5) (e := 5) (full := true) (cs := x.vals) (.head _) (by rw [vals_len]; omega), hcell, ?_⟩
  obtain ⟨H2, e2, p2⟩ := p1.appFull (b := e) (off := 0) (len := 0) (esz := 5) (ebytes := 56) (k := 1) (cs := []) (new := ((x.vals).drop 0).take (1 * 5)) (.tail _ he) (by simp) (by simp [vals_len]) (by omega) (by omega) (by omega)
  refine ⟨_, _, _, e2, rfl, trivial, rfl, ?_⟩
  refine p2.one (b := l) (j := 0) (.tl .hd) (by simp) rfl fun H3 p3 => ⟨trivial, ?_⟩
  have hfl : (([] : List AVal).drop 0).take (0 * 5) ++ ((x.vals).drop 0).take (1 * 5) = flat (d.push x) := by rw [flat_push, flat_nil h0]; rfl
  have hsz : (d.push x).size = 0 + 1 := by simp [h0]
  refine hK (nx + 10) H3 _ (by omega) ?_
  rw [hsz, ← hfl]
  exact (p3.swap).sub fun P hP => .tail _ hP
 ·refine ⟨rfl, _, p.ld1 .hd 0, _, rfl, _, _, _, _, _, rfl, ?_⟩
  have p1 := (p.newN (i := nx + 6) (nx' := nx + 10) (cs := x.vals) (by omega) (by omega)).freeze
  refine ⟨_, rfl, ⟨⟨_, p1.ld1 .hd 0, rfl⟩, trivial⟩, _, _, p1.src (b := nx + 6) (off := 0) (n := 1) (sz := 5) (e := 5) (full := true) (cs := x.vals) (.head _) (by rw [vals_len]; omega), hcell, ?_⟩
  obtain ⟨H2, e2, p2⟩ := p1.swap.app (b := hb) (len := d.size) (esz := 5) (ebytes := 56) (k := 1) (new := ((x.vals).drop 0).take (1 * 5)) (by rw [flat_length]; omega) (by simp [vals_len]) (by omega) (by omega) (by omega)
  refine ⟨_, _, _, e2, rfl, trivial, rfl, ?_⟩
  refine p2.one (b := l) (j := 0) (.tl .hd) (by simp) rfl fun H3 p3 => ⟨trivial, ?_⟩
  have hfl : flat d ++ ((x.vals).drop 0).take (1 * 5) = flat (d.push x) := by rw [flat_push]; rfl
  have hsz : (d.push x).size = d.size + 1 := by simp
  refine hK (nx + 10) H3 _ (by omega) ?_
  rw [hsz, ← hfl]
  exact (p3.swap).sub fun P hP => .tail _ hP
theorem Sls.push {x : VRow} (h : Sls d) (hx : isSl x.t = true) : Sls (d.push x) := by
 intro i hi
 by_cases e : i < d.size
 ·rw [push_get e]; exact h i e
 ·have : i = d.size := by simp at hi; omega
  subst this
  rw [getElem!_pos _ _ (by simp)]
  simpa using hx
theorem push_ok {x : VRow} (h : HotS M A F l d H nx) (hs : Sls d) (hx : isSl x.t = true) (hN : d.size ≤ 4000) (hH : IsHeap lessH d.size d)
  (hK : ∀ d' H' nx', nx ≤ nx' → HotS M A F l d' H' nx' → Sls d' → d'.size = d.size + 1 → d'.toList.Perm (d.toList ++ [x]) → IsHeap lessH d'.size d' → K (.ret (.tuple [])) H' nx') :
  TriP PG f_heap_Push [.iface t_hotp (.ptr l 0), .iface t_Count (.agg [iv x.a, iv x.b, iv x.c, iv x.d, x.t])] H nx K := by
 refine TriP.of_body mixed ?_
 rw [Fheap_Push_eq]
 unfold Fheap_Push
 refine ⟨_, _, _, _, _, rfl, m_Push, hb_Push, recv_ptr, hpush_ok h hx hN fun hb H1 n1 g1 p1 => onEnd_ret.2 ?_⟩
 refine ⟨_, _, _, _, _, rfl, m_Len, hb_Len, recv_val (p1.ld1 .hd 0), len_ok (onEnd_ret.2 ⟨_, rfl, ?_⟩)⟩
 have hsz : (d.push x).size = d.size + 1 := by simp
 have e1 : IntKind.i64.wrap (((d.push x).size : Int) - 1) = (d.size : Int) := by rw [hsz, wrap64_id (by omega) (by omega)]; omega
 rw [e1]
 refine up_ok p1 (hs.push hx) (Nat.le_refl _) (by omega) (by omega) (by rw [hsz]; exact heap_push hH) fun d' H2 n2 g2 p2 hs2 hz hp hh => onEnd_ret.2 ?_
 refine hK d' H2 n2 (by omega) (.inr ⟨hb, by rw [hz]; exact p2⟩) hs2 (by omega) (by rw [← Array.toList_push]; exact hp) (by rw [hz]; exact hh)
theorem hpop_ok {m : Nat} (h : SM M ((l, [.slice hb 0 (m + 1) 5 full]) :: (hb, flat d) :: A) F H nx) (hs : Sls d) (hm : m < d.size) (hN : m ≤ 4000)
  (hK : ∀ H' nx', nx ≤ nx' → SM M ((l, [.slice hb 0 m 5 false]) :: (hb, flat d) :: A) F H' nx' → K (.ret (.iface t_Count (.agg (d[m]!).vals))) H' nx') :
  TriP PG f_hp_Pop [.ptr l 0] H nx K := by
 refine TriP.of_body mixed ?_
 rw [Fhp_Pop_eq]
 unfold Fhp_Pop
 have e1 : IntKind.i64.wrap (Int.ofNat (m + 1) - 1) = (m : Int) := by
  have e : Int.ofNat (m + 1) - 1 = (m : Int) := by simp only [Int.ofNat_eq_natCast]; omega
  rw [e]; exact wrap64_id (by omega) (by omega)
 have r1 := row_ldN h (.tl .hd) hm
 have hc := allCell_vals (hs m hm)
 refine ⟨rfl, _, h.ld1 .hd 0, m + 1, rfl, rfl, _, h.ld1 .hd 0, ?_⟩
 rw [e1]
 refine ⟨by omega, _, idx5 (by omega), _, _, _, _, _, r1, ?_⟩
 refine h.new (Nat.le_refl _) fun H1 p1 => ?_
 refine p1.all .hd (vals_len d[m]!) hc fun H2 p2 => ⟨rfl, _, p2.ld1 (.tl .hd) 0, by omega, ?_⟩
 have hsl : slcS (.slice hb 0 (m + 1) 5 full) 5 0 (some ((m : Int).toNat)) = some (.slice hb 0 m 5 false) := by
  have h1 : Nat.ble m (m + 1) = true := Nat.ble_eq_true_of_le (by omega)
  have h2 : Nat.beq m (m + 1) = false := by
   cases e : Nat.beq m (m + 1) with
   | false => rfl
   | true => have := Nat.eq_of_beq_eq_true e; omega
  unfold slcS
  simp only [Int.toNat_natCast, Option.getD_some, h1, h2, Nat.ble, show Nat.beq 5 5 = true from rfl]
  rfl
 refine ⟨_, hsl, rfl, rfl, ?_⟩
 refine p2.one (b := l) (j := 0) (.tl .hd) (by simp) rfl fun H3 p3 => ?_
 refine ⟨_, _, _, _, _, p3.ldAll .hd rfl, ?_⟩
 exact hK H3 _ (by omega) p3.drop
theorem pop_ok {m : Nat} {q : Int} {rows out : List VRow} (h : SM M ((l, [.slice hb 0 (m + 1) 5 full]) :: (hb, flat d) :: A) F H nx) (hs : Sls d) (hP : Pops q rows out d (m + 1)) (hN : m ≤ 4000)
  (hK : ∀ e H' nx', nx ≤ nx' → SM M ((l, [.slice hb 0 m 5 false]) :: (hb, flat e) :: A) F H' nx' → Sls e → Pops q rows (out ++ [e[m]!]) e m → isSl e[m]!.t = true → K (.ret (.iface t_Count (.agg (e[m]!).vals))) H' nx') :
  TriP PG f_heap_Pop [.iface t_hotp (.ptr l 0)] H nx K := by
 have hle := hP.le
 refine TriP.of_body mixed ?_
 rw [Fheap_Pop_eq]
 unfold Fheap_Pop
 refine ⟨_, _, _, _, _, rfl, m_Len, hb_Len, recv_val (h.ld1 .hd 0), len_ok (onEnd_ret.2 ⟨_, rfl, ?_⟩)⟩
 have e1 : IntKind.i64.wrap (((m + 1 : Nat) : Int) - 1) = (m : Int) := by rw [wrap64_id (by omega) (by omega)]; omega
 rw [e1]
 refine ⟨_, _, _, _, _, rfl, m_Swap, hb_Swap, recv_val (h.ld1 .hd 0), ?_⟩
 refine swap_ok (i := 0) (j := m) h hs hle (by omega) (by omega) fun H1 n1 g1 p1 => onEnd_ret.2 ?_
 have hs1 := hs.swp (i := 0) (j := m) (by omega) (by omega)
 refine down_ok p1 hs1 (by rw [size_swp]; omega) (by omega) (by omega) (down_start (by omega) hP.heap) fun b e H2 n2 g2 p2 hp hh => onEnd_ret.2 ⟨_, rfl, ?_⟩
 have hs2 := hs1.of_perm hp
 have hz : e.size = d.size := by rw [hp.1, size_swp]
 refine ⟨_, _, _, _, _, rfl, m_Pop, hb_Pop, recv_ptr, hpop_ok p2 hs2 (by omega) hN fun H3 n3 g3 p3 => onEnd_ret.2 ?_⟩
 refine hK e H3 n3 (by omega) p3 hs2 (hP.step hz hh ?_ ?_) (hs2 m (by omega))
 ·rw [hp.2.1 m (by omega), swp_get d (by omega) (by omega), if_pos rfl]
 ·have h1 := swp_permIn d 0 (m + 1) 0 m (Nat.zero_le _) (by omega) (Nat.zero_le _) (by omega) hle
  have h2 := permIn_mono (swp d 0 m) e 0 m 0 (m + 1) (Nat.le_refl _) (by omega) (by rw [size_swp]; omega) hp
  exact (permIn_trans _ _ _ _ _ h1 h2).2.2
end
end
end Go.Vs
end
section
namespace Go.Vs
open Go.Proofs Go.Sort Go.Hp
variable [GTab]
noncomputable section
def ents : List (Nat × VRow) → Nat → List AEnt
 | [], _ => []
 | (c, x) :: L, i => ⟨.agg [iv x.a, iv x.b], .ptr c 0, i⟩ :: ents L (i + 1)
theorem ents_app : ∀ (L : List (Nat × VRow)) (c : Nat) (x : VRow) (i : Nat), ents (L ++ [(c, x)]) i = ents L i ++ [⟨.agg [iv x.a, iv x.b], .ptr c 0, i + L.length⟩]
 | [], c, x, i => rfl
 | (c', y) :: L, c, x, i => by
  rw [List.cons_append]
  unfold ents
  rw [ents_app L c x (i + 1)]
  simp only [List.cons_append, List.length_cons]
  rw [show i + 1 + L.length = i + (L.length + 1) by omega]
theorem key_ok : structOK PG 53 2 = true := by kernel_rfl
theorem find_new {f g : Int} : ∀ (L : List (Nat × VRow)) (i k : Nat), (∀ p ∈ L, ¬ (p.2.a = f ∧ p.2.b = g)) → findA PG 53 (.agg [iv f, iv g]) (ents L i) k = some none
 | [], i, k, _ => rfl
 | (c, x) :: L, i, k, h => by
  have hx := h (c, x) (List.mem_cons_self ..)
  have e : keyEq PG 53 (.agg [iv f, iv g]) (.agg [iv x.a, iv x.b]) = some false := by
   unfold keyEq
   have : structOK PG 53 [iv f, iv g].length = true := key_ok
   simp only [this]
   simp only [aggEq, decide_true]
   congr 1
   have : ¬ (f = x.a ∧ g = x.b) := fun q => hx ⟨q.1.symm, q.2.symm⟩
   simpa using this
  unfold ents findA
  simp only [e]
  exact find_new L (i + 1) (k + 1) fun p hp => h p (List.mem_cons_of_mem _ hp)
def TyF (t : AVal) : GH → Prop := fun Γ => t = .nilSlice ∨ ∃ e, t = .slice e 0 0 2 true ∧ Γ e = some []
def CntF (L : List (Nat × VRow)) : GH → Prop := fun Γ => ∀ p ∈ L, Γ p.1 = some p.2.vals ∧ TyF p.2.t Γ
section
variable {M : MM} {A A' : Owned} {F : Facts} {H : Heap} {nx : Nat} {K : EndP}
theorem new_ok (h : SM M A F H nx) (hK : ∀ H' nx', nx' = nx + 2 → SM (mup nx (.map [] 0) M) A (RowF (nx + 1) [.map nx] :: F) H' nx' → K (.ret (.ptr (nx + 1) 0)) H' nx') : TriP PG f_pr_New [] H nx K := by
 refine TriP.of_body mixed ?_
 rw [Fpr_New_eq (_u := 0)]
 unfold Fpr_New
 refine ⟨_, rfl, rfl, ?_⟩
 have p1 := h.newM (o := .map [] 0)
 exact ⟨_, rfl, hK _ _ rfl (p1.newN (i := nx + 1) (nx' := nx + 2) (cs := [.map nx]) (by omega) (by omega)).freeze⟩
theorem small_ok {n : Int} (h0 : 0 ≤ n) (h1 : n ≤ 1073741824) (hK : K (.ret (.bool true)) H nx) : TriP PG f_pr_small [iv n] H nx K := by
 refine TriP.of_body mixed ?_
 rw [Fpr_small_eq]
 unfold Fpr_small
 refine ifB_t (decide_eq_true h0) ?_
 rw [decide_eq_true h1]; exact hK
theorem SM.factM {P : GH → Prop} (h : SM M A F H nx) (hp : P ∈ F) : ∃ Γ, HM M Γ H nx ∧ P Γ := let ⟨Γ, h1, h2⟩ := h.to; ⟨Γ, h1, h2 P hp⟩
theorem ty_src {t : AVal} (h : SM M A F H nx) (ht : TyF t ∈ F) : aSrc 2 H t = some (0, []) := by
 obtain ⟨Γ, h1, h2⟩ := h.factM ht
 rcases h2 with rfl | ⟨e, rfl, he⟩
 ·rfl
 ·exact h1.src (b := e) (off := 0) (n := 0) (sz := 2) (e := 2) (full := true) (cs := []) he (by simp)
theorem copied_ok {x : VRow} (h : SM M A F H nx) (ht : TyF x.t ∈ F) (hc : cellv x.t = true) (hK : ∀ e H' nx', nx ≤ nx' → SM M A (RowF e [] :: F) H' nx' → K (.ret (.agg [iv x.a, iv x.b, iv x.c, iv x.d, .slice e 0 0 2 true])) H' nx') :
  TriP PG f_pr_copied [.agg [iv x.a, iv x.b, iv x.c, iv x.d, x.t]] H nx K := by
 refine TriP.of_body mixed ?_
 rw [Fpr_copied_eq]
 unfold Fpr_copied
 refine h.newL (Nat.le_refl _) fun H0 p0 => p0.new (Nat.le_refl _) fun H1 p1 => p1.newF (Nat.le_refl _) fun H2 p2 => ?_
 refine ⟨_, rfl, _, p2.ld1 (.tl .hd) 4, 0, [], ty_src p2 (.tail _ ht), rfl, .slice (nx + 1 + 1) 0 0 2 true, H2, _, rfl, _, rfl, rfl, ?_⟩
 refine p2.one (b := nx) (j := 4) (.tl .hd) (by simp) rfl fun H3 p3 => ?_
 refine ⟨_, _, _, _, _, p3.ldAll (.tl .hd) rfl, ?_⟩
 refine p3.all .hd rfl rfl fun H4 p4 => ?_
 refine ⟨_, _, _, _, _, p4.ldAll .hd rfl, ?_⟩
 exact hK (nx + 1 + 1) H4 _ (by omega) (p4.drop.drop.more (by omega))
theorem add_ok {p mb : Nat} {L : List (Nat × VRow)} {x : VRow} (h : SM M A F H nx) (hp : RowF p [.map mb] ∈ F) (hm : M mb = some (.map (ents L 0) L.length)) (hL : CntF L ∈ F) (hx : x.t = .nilSlice)
  (ha : 0 ≤ x.a ∧ x.a ≤ 1073741824) (hb : 0 ≤ x.b ∧ x.b ≤ 1073741824) (hc : 0 ≤ x.c ∧ x.c ≤ 1073741824) (hd : 0 ≤ x.d ∧ x.d ≤ 1073741824) (hnew : ∀ q ∈ L, ¬ (q.2.a = x.a ∧ q.2.b = x.b))
  (hK : ∀ c e H' nx', nx ≤ nx' → SM (mup mb (.map (ents (L ++ [(c, { x with t := .slice e 0 0 2 true })]) 0) (L ++ [(c, { x with t := .slice e 0 0 2 true })]).length) M) A (CntF (L ++ [(c, { x with t := .slice e 0 0 2 true })]) :: F) H' nx' → K (.ret (.bool true)) H' nx') :
  TriP PG f_pf_Add [.ptr p 0, .agg [iv x.a, iv x.b, iv x.c, iv x.d, .nilSlice]] H nx K := by
 refine TriP.of_body mixed ?_
 rw [Fpf_Add_eq]
 unfold Fpf_Add
 refine h.newL (Nat.le_refl _) fun H0 p0 => ?_
 refine ⟨_, rfl, _, p0.ld1 .hd 0, small_ok ha.1 ha.2 (onEnd_ret.2 ⟨_, rfl, ifB_f rfl ?_⟩)⟩
 refine ⟨_, rfl, _, p0.ld1 .hd 1, small_ok hb.1 hb.2 (onEnd_ret.2 ⟨_, rfl, ifB_f rfl ?_⟩)⟩
 refine ⟨_, rfl, _, p0.ld1 .hd 2, small_ok hc.1 hc.2 (onEnd_ret.2 ⟨_, rfl, ifB_f rfl ?_⟩)⟩
 refine ⟨_, rfl, _, p0.ld1 .hd 3, small_ok hd.1 hd.2 (onEnd_ret.2 ⟨_, rfl, ifB_f rfl ?_⟩)⟩
 refine ⟨_, rfl, _, p0.ld1 .hd 4, 0, rfl, ifB_f rfl ?_⟩
 refine ⟨_, rfl, _, p0.ld1 .hd 4, 0, rfl, ?_⟩
 refine loop_w (P := PG) (X := Unit) (Y := Unit) (fun _ => envL .und [(39, iv 0), (38, iv 0), (37, .nilSlice), (3, .ptr nx 0), (0, .ptr p 0)]) (fun _ => envL .und [(3, .ptr nx 0), (0, .ptr p 0)])
  (fun m i H1 nx1 => H1 = H0 ∧ nx1 = nx + 1) (fun id _ H1 nx1 => id = 0 ∧ H1 = H0 ∧ nx1 = nx + 1) 0 () (EnvLe.of_list (by exact ⟨rfl, rfl, rfl, rfl, rfl, trivial⟩)) ⟨rfl, rfl⟩ ?_ ?_
 ·rintro m _ H1 nx1 ⟨rfl, rfl⟩
  refine WpP.part (ts := [0, 3, 37, 38, 39]) mixed ?_
  rw [LAdd_eq]
  unfold LAdd
  exact ifB_f rfl ⟨rfl, (), EnvLe.of_list (by exact ⟨rfl, rfl, trivial⟩), rfl, rfl, rfl⟩
 ·rintro id _ H1 nx1 ⟨rfl, rfl, rfl⟩
  rw [AAdd_eq]
  unfold AAdd
  refine ⟨_, _, _, _, _, p0.ldAll .hd rfl, ?_⟩
  have p0' := p0.add (P := TyF .nilSlice) fun _ _ => .inl rfl
  refine copied_ok (x := ⟨x.a, x.b, x.c, x.d, .nilSlice⟩) p0' (.head _) rfl fun e H2 n2 g2 p2 => onEnd_ret.2 ⟨_, _, _, _, _, rfl, ?_⟩
  refine p2.new (Nat.le_refl _) fun H3 p3 => p3.all .hd rfl rfl fun H4 p4 => ?_
  have lp : ld1 H4 (.ptr p 0) = some (.map mb) := p4.row1 (.tail _ (.tail _ hp)) 0
  have la : ld1 H4 (.ptr nx 0) = some (iv x.a) := p4.ld1 (.tl .hd) 0
  have lb : ld1 H4 (.ptr nx 1) = some (iv x.b) := p4.ld1 (.tl .hd) 1
  have p5 := (p4.more (nx' := n2 + 1 + 10) (by omega)).freeze.drop
  have p6 := p5.setM (o2 := .map (ents (L ++ [(n2, { x with t := .slice e 0 0 2 true })]) 0) (L ++ [(n2, { x with t := .slice e 0 0 2 true })]).length) hm
  refine ⟨rfl, _, rfl, _, lp, _, rfl, _, la, _, rfl, _, lb, rfl, rfl, ⟨⟨_, lp, rfl⟩, ⟨_, la, rfl⟩, ⟨_, lb, rfl⟩, trivial⟩, rfl, mb, ents L 0, L.length, rfl, p4.atM hm, none, find_new L 0 0 hnew, fun _ _ q => (by cases q), fun _ => ⟨_, rfl, trivial, ?_⟩⟩
  have e1 : ents L 0 ++ [⟨.agg [iv x.a, iv x.b], .ptr n2 0, L.length⟩] = ents (L ++ [(n2, { x with t := .slice e 0 0 2 true })]) 0 := by rw [ents_app, Nat.zero_add]
  rw [e1, show L.length + 1 = (L ++ [(n2, { x with t := AVal.slice e 0 0 2 true })]).length by simp]
  refine hK n2 e _ _ (by omega) (SM.sub (SM.add p6 (P := CntF (L ++ [(n2, { x with t := .slice e 0 0 2 true })])) fun Γ q => ?_) ?_)
  ·intro r hr
   rcases List.mem_append.1 hr with hr | hr
   ·exact q (CntF L) (.tail _ (.tail _ (.tail _ hL))) r hr
   ·simp at hr
    subst hr
    exact ⟨q _ (.head _), .inr ⟨e, rfl, q (RowF e []) (.tail _ (.head _))⟩⟩
  ·intro P hP
   rcases List.mem_cons.1 hP with rfl | hP
   ·exact .head _
   ·exact .tail _ (.tail _ (.tail _ (.tail _ hP)))
end
end
end Go.Vs
end
section
namespace Go.Proofs
open Go.Shelf Go.RowKit Go.Lib Go.Sort
def Try.sortCount_ren : Go.Shelf.Ren := ⟨fun | 6 => 23 | 15 => 31 | 14 => 30 | 28 => 42 | 29 => 43 | 20 => 34 | 21 => 35 | 22 => 36 | 23 => 37 | 24 => 38 | 25 => 39 | 26 => 40 | 27 => 41 | 46 => 45 | 47 => 46 | 48 => 47 | 49 => 48 | 50 => 49 | 57 => 50 | n => n, fun | 22 => 31 | 24 => 30 | 25 => 59 | 3 => 3 | 39 => 73 | 0 => 0 | 53 => 85 | 55 => 87 | 4 => 4 | 46 => 78 | 45 => 77 | 50 => 82 | 5 => 5 | 9 => 9 | 66 => 88 | 70 => 92 | 76 => 94 | 77 => 95 | n => n, fun | n => n⟩
theorem Try.sortCount : Go.Proofs.SlLaysF0.n6 Try.prog Try.sortCount_ren where
  mixed := by kernel_rfl
  f6 := ⟨Try.f23.name, by kernel_rfl, Try.func23.trans (congrArg some (by kernel_rfl))⟩
  f14 := ⟨Try.f30.name, by kernel_rfl, Try.func30.trans (congrArg some (by kernel_rfl))⟩
  f15 := Try.func31.trans (congrArg some (by kernel_rfl))
  f20 := ⟨Try.f34.name, by kernel_rfl, Try.func34.trans (congrArg some (by kernel_rfl))⟩
  f21 := ⟨Try.f35.name, by kernel_rfl, Try.func35.trans (congrArg some (by kernel_rfl))⟩
  f22 := ⟨Try.f36.name, by kernel_rfl, Try.func36.trans (congrArg some (by kernel_rfl))⟩
  f23 := ⟨Try.f37.name, by kernel_rfl, Try.func37.trans (congrArg some (by kernel_rfl))⟩
  f24 := ⟨Try.f38.name, by kernel_rfl, Try.func38.trans (congrArg some (by kernel_rfl))⟩
  f25 := ⟨Try.f39.name, by kernel_rfl, Try.func39.trans (congrArg some (by kernel_rfl))⟩
  f26 := ⟨Try.f40.name, by kernel_rfl, Try.func40.trans (congrArg some (by kernel_rfl))⟩
  f27 := ⟨Try.f41.name, by kernel_rfl, Try.func41.trans (congrArg some (by kernel_rfl))⟩
  f28 := Try.func42.trans (congrArg some (by kernel_rfl))
  f29 := Try.func43.trans (congrArg some (by kernel_rfl))
  f46 := ⟨Try.f45.name, by kernel_rfl, Try.func45.trans (congrArg some (by kernel_rfl))⟩
  f47 := Try.func46.trans (congrArg some (by kernel_rfl))
  f48 := Try.func47.trans (congrArg some (by kernel_rfl))
  f49 := ⟨Try.f48.name, by kernel_rfl, Try.func48.trans (congrArg some (by kernel_rfl))⟩
  f50 := ⟨Try.f49.name, by kernel_rfl, Try.func49.trans (congrArg some (by kernel_rfl))⟩
  f57 := ⟨Try.f50.name, by kernel_rfl, Try.func50.trans (congrArg some (by kernel_rfl))⟩
  t0 := Try.underlying0
  a0 := Try.isAgg0
  z0 := Try.sizeOf0
  v0 := Try.zeroValue0
  t3 := Try.underlying3
  a3 := Try.isAgg3
  z3 := Try.sizeOf3
  v3 := Try.zeroValue3
  t4 := Try.underlying4
  a4 := Try.isAgg4
  z4 := Try.sizeOf4
  v4 := Try.zeroValue4
  t5 := Try.underlying5
  a5 := Try.isAgg5
  z5 := Try.sizeOf5
  v5 := Try.zeroValue5
  t9 := Try.underlying9
  a9 := Try.isAgg9
  z9 := Try.sizeOf9
  v9 := Try.zeroValue9
  t22 := Try.underlying31
  a22 := Try.isAgg31
  z22 := Try.sizeOf31
  v22 := Try.zeroValue31
  t25 := Try.underlying59
  a25 := Try.isAgg59
  z25 := Try.sizeOf59
  v25 := Try.zeroValue59
  t39 := Try.underlying73
  a39 := Try.isAgg73
  z39 := Try.sizeOf73
  v39 := Try.zeroValue73
  t45 := Try.underlying77
  a45 := Try.isAgg77
  z45 := Try.sizeOf77
  v45 := Try.zeroValue77
  t46 := Try.underlying78
  a46 := Try.isAgg78
  z46 := Try.sizeOf78
  v46 := Try.zeroValue78
  t50 := Try.underlying82
  a50 := Try.isAgg82
  z50 := Try.sizeOf82
  v50 := Try.zeroValue82
  t53 := Try.underlying85
  a53 := Try.isAgg85
  z53 := Try.sizeOf85
  v53 := Try.zeroValue85
  t55 := Try.underlying87
  a55 := Try.isAgg87
  z55 := Try.sizeOf87
  v55 := Try.zeroValue87
  t66 := Try.underlying88
  a66 := Try.isAgg88
  z66 := Try.sizeOf88
  v66 := Try.zeroValue88
  t70 := Try.underlying92
  a70 := Try.isAgg92
  z70 := Try.sizeOf92
  v70 := Try.zeroValue92
  t76 := Try.underlying94
  a76 := Try.isAgg94
  z76 := Try.sizeOf94
  v76 := Try.zeroValue94
  t77 := Try.underlying95
  a77 := Try.isAgg95
  z77 := Try.sizeOf95
  v77 := Try.zeroValue95
end Go.Proofs
end
section
namespace Go.Vs
open Go.Proofs Go.Sort
variable [GTab]
noncomputable section
theorem sorts_c : SortsC PG 23 24 := by
 intro blk off cap d w hcmp hH hblk hsz
 have eg : ∀ args w, (callFunc 24 args).run PG w = .ok (.enter 24 args) w := enters_of Try.func24 (by kernel_rfl) rfl
 exact AnyQ.slices_SortFunc Try.sortCount 5 Try.isAgg30 Try.sizeOf30 CRow.enc (fun _ => rfl) (fun x v hv => by
  simp [CRow.enc] at hv
  rcases hv with rfl | rfl | rfl | rfl | rfl <;> first | rfl | skip
  rcases x.ok with h | ⟨_, _, _, _, h, _⟩ <;> rw [h] <;> rfl) CRow.cf cf_swo 24 #[] blk off cap d w eg hcmp hH hblk hsz
theorem sorts_none (p : Option Addr) (cap : Nat) (fv : Value) (w : World) : Calls PG 23 #[.slice p 0 cap, fv] w fun e w' => e = .returned (.tuple #[]) ∧ w' = w :=
 AnyF.slices_SortFunc_none Try.sortCount p cap fv w
end
end Go.Vs
end
section
namespace Go.Vs
open Go.Proofs Go.Sort Go.Hp
variable [GTab]
noncomputable section
abbrev Ts := List (Int × Int)
def tcells (ts : Ts) : List AVal := ts.flatMap fun p => [iv p.1, iv p.2]
theorem tcells_nil : tcells [] = [] := rfl
theorem tcells_cons (p : Int × Int) (ts : Ts) : tcells (p :: ts) = iv p.1 :: iv p.2 :: tcells ts := rfl
theorem tcells_app (ts us : Ts) : tcells (ts ++ us) = tcells ts ++ tcells us := by unfold tcells; rw [List.flatMap_append]
theorem tcells_len : ∀ ts : Ts, (tcells ts).length = ts.length * 2
 | [] => rfl
 | p :: ts => by rw [tcells_cons]; simp only [List.length_cons]; rw [tcells_len ts]; omega
theorem tcells_at : ∀ (ts : Ts) (i : Nat) (h : i < ts.length), ((tcells ts).drop (i * 2)).take 2 = [iv (ts[i]'h).1, iv (ts[i]'h).2]
 | p :: ts, 0, _ => rfl
 | p :: ts, i + 1, h => by
  rw [tcells_cons, show (i + 1) * 2 = i * 2 + 1 + 1 by omega, List.drop_succ_cons, List.drop_succ_cons]
  exact tcells_at ts i (by simpa using h)
theorem tcells_take : ∀ (ts : Ts) (n : Nat), (tcells ts).take (n * 2) = tcells (ts.take n)
 | [], n => by simp [tcells_nil]
 | p :: ts, 0 => by simp [tcells_nil]
 | p :: ts, n + 1 => by
  rw [tcells_cons, show (n + 1) * 2 = n * 2 + 1 + 1 by omega, List.take_succ_cons, List.take_succ_cons, List.take_succ_cons, tcells_cons, tcells_take ts n]
theorem tcells_cell : ∀ ts : Ts, allCell (tcells ts) = true
 | [] => rfl
 | p :: ts => by rw [tcells_cons]; show allCell (tcells ts) = true; exact tcells_cell ts
def CellsAt (cs : List AVal) (off : Nat) (ts : Ts) : Prop := off + ts.length * 2 ≤ cs.length ∧ (cs.drop off).take (ts.length * 2) = tcells ts
theorem CellsAt.all (ts : Ts) : CellsAt (tcells ts) 0 ts := ⟨by rw [tcells_len]; omega, by rw [List.drop_zero, List.take_of_length_le (by rw [tcells_len]; omega)]⟩
theorem CellsAt.pre {cs : List AVal} {off i : Nat} {ts : Ts} (h : CellsAt cs off ts) (hi : i ≤ ts.length) : CellsAt cs off (ts.take i) := by
 have hl : (ts.take i).length = i := by simp; omega
 refine ⟨by rw [hl]; have := h.1; omega, ?_⟩
 rw [hl, ← tcells_take, ← h.2, List.take_take, show min (i * 2) (ts.length * 2) = i * 2 by omega]
theorem CellsAt.two {cs : List AVal} {off i : Nat} {ts : Ts} (h : CellsAt cs off ts) (hi : i < ts.length) : (cs.drop (off + i * 2)).take 2 = [iv (ts[i]'hi).1, iv (ts[i]'hi).2] := by
 rw [← tcells_at ts i hi, ← h.2, List.drop_take, List.take_take, List.drop_drop, show min 2 (ts.length * 2 - i * 2) = 2 by omega]
theorem CellsAt.one {cs : List AVal} {off i j : Nat} {ts : Ts} (h : CellsAt cs off ts) (hi : i < ts.length) (hj : j < 2) : cs[off + i * 2 + j]? = [iv (ts[i]'hi).1, iv (ts[i]'hi).2][j]? := by
 rw [← h.two hi, List.getElem?_take_of_lt hj, List.getElem?_drop]
def TyR (t : AVal) (ts : Ts) : GH → Prop := fun Γ => (t = .nilSlice ∧ ts = []) ∨ (∃ b off full cs, t = .slice b off ts.length 2 full ∧ Γ b = some cs ∧ CellsAt cs off ts) ∨
 (∃ g off cs, t = .gslice g off ts.length 2 ∧ GTab.tab g = some cs ∧ CellsAt cs off ts) ∨ ∃ g off, t = .gslice g off 0 2 ∧ ts = []
theorem TyR.nil {Γ : GH} : TyR .nilSlice [] Γ := .inl ⟨rfl, rfl⟩
theorem TyR.row {Γ : GH} {b : Nat} {full : Bool} {ts : Ts} (h : RowF b (tcells ts) Γ) : TyR (.slice b 0 ts.length 2 full) ts Γ := .inr (.inl ⟨b, 0, full, _, rfl, h, CellsAt.all ts⟩)
section
variable {M : MM} {A A' : Owned} {F : Facts} {H : Heap} {nx : Nat} {K : EndP} {t : AVal} {ts : Ts}
theorem SM.factG {P : GH → Prop} (h : SM M A F H nx) (hp : P ∈ F) : ∃ Γ, HM M Γ H nx ∧ P Γ := let ⟨Γ, h1, h2⟩ := h.to; ⟨Γ, h1, h2 P hp⟩
theorem TyR.sl {Γ : GH} (h : TyR t ts Γ) : isSl t = true ∧ cellv t = true ∧ lenS t = some ts.length := by
 rcases h with ⟨rfl, rfl⟩ | ⟨b, off, full, cs, rfl, _⟩ | ⟨g, off, cs, rfl, _⟩ | ⟨g, off, rfl, rfl⟩ <;> exact ⟨rfl, rfl, rfl⟩
theorem gty_sl (h : SM M A F H nx) (ht : TyR t ts ∈ F) : isSl t = true := let ⟨_, _, g⟩ := h.factG ht; g.sl.1
theorem gty_cell (h : SM M A F H nx) (ht : TyR t ts ∈ F) : cellv t = true := let ⟨_, _, g⟩ := h.factG ht; g.sl.2.1
theorem gty_len (h : SM M A F H nx) (ht : TyR t ts ∈ F) : lenS t = some ts.length := let ⟨_, _, g⟩ := h.factG ht; g.sl.2.2
theorem ble_le {a b : Nat} (h : a ≤ b) : Nat.ble a b = true := Nat.ble_eq_true_of_le h
theorem gty_src (h : SM M A F H nx) (ht : TyR t ts ∈ F) : aSrc 2 H t = some (ts.length, tcells ts) := by
 obtain ⟨Γ, h1, h2⟩ := h.factG ht
 rcases h2 with ⟨rfl, rfl⟩ | ⟨b, off, full, cs, rfl, hb, hc⟩ | ⟨g, off, cs, rfl, hg, hc⟩ | ⟨g, off, rfl, rfl⟩
 ·rfl
 ·rw [h1.src (b := b) (off := off) (n := ts.length) (sz := 2) (e := 2) (full := full) hb hc.1, hc.2]
 ·unfold aSrc
  simp only [hg, ble_le (show Nat.add off (Nat.mul ts.length 2) ≤ cs.length from hc.1)]
  exact congrArg (fun l => some (ts.length, l)) hc.2
 ·show (match GTab.tab g with
   | some l => (match Nat.ble (Nat.add off (Nat.mul 0 2)) l.length with
    | true => some (0, (l.drop off).take (Nat.mul 0 2))
    | false => zeroIf 0)
   | none => zeroIf 0) = some (0, [])
  split
  ·split
   ·show some (0, ((_ : List AVal).drop off).take 0) = _
    rw [List.take_zero]
   ·rfl
  ·rfl
theorem gty_idx (h : SM M A F H nx) (ht : TyR t ts ∈ F) {i : Nat} (hi : i < ts.length) : ∃ p, idxS t i 2 = some p ∧ ldN H 2 p = some (.agg [iv (ts[i]'hi).1, iv (ts[i]'hi).2]) := by
 obtain ⟨Γ, h1, h2⟩ := h.factG ht
 rcases h2 with ⟨rfl, rfl⟩ | ⟨b, off, full, cs, rfl, hb, hc⟩ | ⟨g, off, cs, rfl, hg, hc⟩ | ⟨g, off, rfl, rfl⟩
 ·simp at hi
 ·refine ⟨.ptr b (off + i * 2), ?_, ?_⟩
  ·unfold idxS
   simp only [ble_le (show Nat.succ i ≤ ts.length from hi)]
   rfl
  ·rw [h1.ldN hb (by have := hc.1; omega), hc.two hi]
 ·refine ⟨.gptr g (off + i * 2), ?_, ?_⟩
  ·unfold idxS
   simp only [ble_le (show Nat.succ i ≤ ts.length from hi)]
   rfl
  ·unfold ldN
   simp only [hg, ble_le (show Nat.add (off + i * 2) 2 ≤ cs.length from (by have := hc.1; show off + i * 2 + 2 ≤ _; omega)), hc.two hi]
 ·simp at hi
theorem gty_slc (h : SM M A F H nx) (ht : TyR t ts ∈ F) {i : Nat} (hi : i ≤ ts.length) (hz : ts = [] → i = 0) : ∃ t', slcS t 2 0 (some i) = some t' ∧ SM M A (TyR t' (ts.take i) :: F) H nx := by
 have hl : (ts.take i).length = i := by simp; omega
 obtain ⟨Γ, h1, h2⟩ := h.factG ht
 rcases h2 with ⟨rfl, rfl⟩ | ⟨b, off, full, cs, rfl, hb, hc⟩ | ⟨g, off, cs, rfl, hg, hc⟩ | ⟨g, off, rfl, rfl⟩
 ·have := hz rfl; subst this
  exact ⟨.nilSlice, rfl, h.add fun _ _ => .inl ⟨rfl, rfl⟩⟩
 ·refine ⟨.slice b off i 2 (Bool.rec false full (Nat.beq i ts.length)), ?_, h.add fun Γ' q => ?_⟩
  ·unfold slcS
   simp only [Option.getD_some, ble_le hi, ble_le (Nat.zero_le i), show Nat.beq 2 2 = true from rfl]
   show some (AVal.slice b (off + 0 * 2) (i - 0) 2 _) = _
   rw [Nat.zero_mul, Nat.add_zero, Nat.sub_zero]
  ·rcases q _ ht with ⟨e, _⟩ | ⟨b', off', full', cs', e, hb', hc'⟩ | ⟨g, off, cs, e, _⟩ | ⟨g, off, e, _⟩
   ·cases e
   ·cases e
    exact .inr (.inl ⟨b, off, _, cs', by rw [hl], hb', hc'.pre hi⟩)
   ·cases e
   ·cases e
 ·refine ⟨.gslice g off i 2, ?_, h.add fun Γ' q => .inr (.inr (.inl ⟨g, off, cs, by rw [hl], hg, hc.pre hi⟩))⟩
  unfold slcS
  simp only [Option.getD_some, ble_le hi, ble_le (Nat.zero_le i), show Nat.beq 2 2 = true from rfl]
  show some (AVal.gslice g (off + 0 * 2) (i - 0) 2) = _
  rw [Nat.zero_mul, Nat.add_zero, Nat.sub_zero]
 ·have := hz rfl; subst this
  exact ⟨.gslice g off 0 2, by unfold slcS; simp [Nat.ble, Nat.beq], h.add fun _ _ => .inr (.inr (.inr ⟨g, off, rfl, rfl⟩))⟩
end
structure Cnt where
 a : Int
 b : Int
 c : Int
 d : Int
 ts : Ts
abbrev GRow := AVal × Cnt
def GRow.v (x : GRow) : VRow := ⟨x.2.a, x.2.b, x.2.c, x.2.d, x.1⟩
section
variable {M : MM} {A A' : Owned} {F : Facts} {H : Heap} {nx : Nat} {K : EndP}
theorem gcopied_ok {x : GRow} (h : SM M A F H nx) (ht : TyR x.1 x.2.ts ∈ F) (hn : x.2.ts.length ≤ 1000)
  (hK : ∀ e full H' nx', nx ≤ nx' → SM M ((e, tcells x.2.ts) :: A) F H' nx' → K (.ret (.agg [iv x.2.a, iv x.2.b, iv x.2.c, iv x.2.d, .slice e 0 x.2.ts.length 2 full])) H' nx') :
  TriP PG f_pr_copied [.agg [iv x.2.a, iv x.2.b, iv x.2.c, iv x.2.d, x.1]] H nx K := by
 refine TriP.of_body mixed ?_
 rw [Fpr_copied_eq]
 unfold Fpr_copied
 have hc := gty_cell h ht
 refine h.newL (Nat.le_refl _) fun H0 p0 => p0.new (Nat.le_refl _) fun H1 p1 => ?_
 by_cases hz : x.2.ts = []
 ·refine p1.new (Nat.le_refl _) fun H2 p2 => ?_
  refine ⟨_, rfl, _, p2.ld1 (.tl (.tl .hd)) 4, _, _, gty_src p2 ht, tcells_cell _, .slice (nx + 1 + 1) 0 0 2 true, H2, _, by rw [hz]; rfl, _, rfl, rfl, ?_⟩
  refine p2.one (b := nx) (j := 4) (.tl (.tl .hd)) (by simp) rfl fun H3 p3 => ?_
  refine ⟨_, _, _, _, _, p3.ldAll (.tl (.tl .hd)) rfl, ?_⟩
  refine p3.all (.tl .hd) rfl rfl fun H4 p4 => ?_
  refine ⟨_, _, _, _, _, p4.ldAll (.tl .hd) rfl, ?_⟩
  have p5 : SM M ((nx + 1 + 1, []) :: A) F H4 (nx + 1 + 1 + 1) := p4.sel (List.Sublist.cons_cons _ (List.Sublist.cons _ (List.Sublist.cons _ (List.Sublist.refl _))))
  have := hK (nx + 1 + 1) true H4 (nx + 1 + 1 + 1) (by omega) (by rw [hz]; exact p5)
  rw [hz] at this
  exact this
 ·refine p1.newF (Nat.le_refl _) fun H2 p2 => ?_
  have h0 : 0 < x.2.ts.length := List.length_pos_iff.2 hz
  obtain ⟨H3, e3, p3⟩ := p2.appFull (b := nx + 1 + 1) (off := 0) (len := 0) (esz := 2) (ebytes := 16) (k := x.2.ts.length) (cs := []) (new := tcells x.2.ts) (.head _) (by simp) (tcells_len _) h0 (by omega) (by omega)
  refine ⟨_, rfl, _, p2.ld1 (.tl .hd) 4, _, _, gty_src p2 (.tail _ ht), tcells_cell _, _, H3, _, e3, _, rfl, rfl, ?_⟩
  refine p3.one (b := nx) (j := 4) (.tl (.tl .hd)) (by simp) rfl fun H4 p4 => ?_
  refine ⟨_, _, _, _, _, p4.ldAll (.tl (.tl .hd)) rfl, ?_⟩
  refine p4.all (.tl .hd) rfl rfl fun H5 p5 => ?_
  refine ⟨_, _, _, _, _, p5.ldAll (.tl .hd) rfl, ?_⟩
  have p6 : SM M ((nx + 1 + 1 + 1, tcells x.2.ts) :: A) F H5 (nx + 1 + 1 + 1 + 1) := (p5.sel (A' := (nx + 1 + 1 + 1, tcells x.2.ts) :: A) (List.Sublist.cons_cons _ (List.Sublist.cons _ (List.Sublist.cons _ (List.Sublist.refl _))))).sub fun P hP => .tail _ hP
  have := hK (nx + 1 + 1 + 1) false H5 _ (by omega) p6
  rw [Nat.zero_add] at *
  exact this
def sm (n : Int) : Bool := decide (0 ≤ n) && decide (n ≤ 1073741824)
theorem sm_iff {n : Int} : sm n = true ↔ 0 ≤ n ∧ n ≤ 1073741824 := by unfold sm; simp
theorem gsmall_ok {n : Int} (hK : K (.ret (.bool (sm n))) H nx) : TriP PG f_pr_small [iv n] H nx K := by
 refine TriP.of_body mixed ?_
 rw [Fpr_small_eq]
 unfold Fpr_small
 refine ifB_iff.2 ⟨fun h0 => ?_, fun h0 => ?_⟩
 ·have e : sm n = decide (n ≤ 1073741824) := by unfold sm; rw [h0]; rfl
  rw [← e]; exact hK
 ·have e : sm n = false := by unfold sm; rw [h0]; rfl
  rw [← e]; exact hK
end
end
end Go.Vs
end
section
namespace Go.Vs
open Go.Sort
noncomputable section
theorem sorted_uniq {α : Type} {r : α → α → Prop} (ha : ∀ x y, r x y → ¬ r y x) : ∀ {l m : List α}, l.Pairwise r → m.Pairwise r → l.Perm m → l = m
 | [], m, _, _, h => by have := h.length_eq; cases m <;> simp at this; rfl
 | x :: l, [], _, _, h => by have := h.length_eq; simp at this
 | x :: l, y :: m, h1, h2, h => by
  have e : x = y := by
   rcases List.mem_cons.1 (h.mem_iff.1 (List.mem_cons_self ..)) with e | hx
   ·exact e
   ·rcases List.mem_cons.1 (h.mem_iff.2 (List.mem_cons_self ..)) with e | hy
    ·exact e.symm
    ·exact (ha _ _ ((List.pairwise_cons.1 h1).1 y hy) ((List.pairwise_cons.1 h2).1 x hx)).elim
  subst e
  rw [sorted_uniq ha (List.pairwise_cons.1 h1).2 (List.pairwise_cons.1 h2).2 h.cons_inv]
theorem first_take {α : Type} {r : α → α → Prop} (ha : ∀ x y, r x y → ¬ r y x) : ∀ {o rest s : List α}, o.Pairwise r → (∀ x ∈ o, ∀ y ∈ rest, r x y) → s.Pairwise r → (o ++ rest).Perm s → o = s.take o.length
 | [], _, _, _, _, _, _ => by simp
 | x :: o, rest, [], _, _, _, h => by have := h.length_eq; simp at this
 | x :: o, rest, y :: s, h1, h2, h3, h => by
  have e : x = y := by
   rcases List.mem_cons.1 (h.mem_iff.1 (List.mem_cons_self ..)) with e | hx
   ·exact e
   ·rcases List.mem_cons.1 (h.mem_iff.2 (List.mem_cons_self ..)) with e | hy
    ·exact e.symm
    ·rcases List.mem_append.1 hy with hy | hy
     ·exact (ha _ _ ((List.pairwise_cons.1 h1).1 y hy) ((List.pairwise_cons.1 h3).1 x hx)).elim
     ·exact (ha _ _ (h2 x (List.mem_cons_self ..) y hy) ((List.pairwise_cons.1 h3).1 x hx)).elim
  subst e
  rw [List.length_cons, List.take_succ_cons, ← first_take ha (List.pairwise_cons.1 h1).2 (fun z hz => h2 z (List.mem_cons_of_mem _ hz)) (List.pairwise_cons.1 h3).2 h.cons_inv]
theorem perm_map {α β : Type} {f : α → β} {u v : List β} (h : u.Perm v) : ∀ {l : List α}, l.map f = u → ∃ m, m.map f = v ∧ l.Perm m := by
 induction h with
 | nil => intro l e; exact ⟨l, e, .refl _⟩
 | cons x h ih =>
  intro l e
  cases l with
  | nil => simp at e
  | cons a l =>
   rw [List.map_cons] at e
   obtain ⟨m, e1, p⟩ := ih (List.cons.inj e).2
   exact ⟨a :: m, by rw [List.map_cons, e1, (List.cons.inj e).1], p.cons a⟩
 | swap x y t =>
  intro l e
  match l, e with
  | [], e => simp at e
  | [a], e => simp at e
  | a :: b :: l, e =>
   simp only [List.map_cons] at e
   obtain ⟨e1, e2⟩ := List.cons.inj e
   obtain ⟨e3, e4⟩ := List.cons.inj e2
   exact ⟨b :: a :: l, by simp only [List.map_cons]; rw [e1, e3, e4], .swap _ _ _⟩
 | trans h1 h2 i1 i2 =>
  intro l e
  obtain ⟨m, e1, p1⟩ := i1 e
  obtain ⟨n, e2, p2⟩ := i2 e1
  exact ⟨n, e2, p1.trans p2⟩
def Cnt.at_ (c x : Cnt) : Bool := decide (x.a = c.a) && decide (x.b = c.b)
theorem at_iff {c x : Cnt} : c.at_ x = true ↔ x.a = c.a ∧ x.b = c.b := by unfold Cnt.at_; simp
theorem at_no {c x : Cnt} : c.at_ x = false ↔ ¬ (x.a = c.a ∧ x.b = c.b) := by rw [← at_iff]; simp
def PlLt (x y : Cnt) : Prop := x.a < y.a ∨ x.a = y.a ∧ x.b < y.b
instance (x y : Cnt) : Decidable (PlLt x y) := by unfold PlLt; exact inferInstance
theorem plLt_asymm (x y : Cnt) (h : PlLt x y) : ¬ PlLt y x := by unfold PlLt at *; omega
theorem plLt_trans {x y z : Cnt} (h : PlLt x y) (h2 : PlLt y z) : PlLt x z := by unfold PlLt at *; omega
def Cnt.empty (c : Cnt) : Bool := decide (c.c = 0) && (decide (c.d = 0) && c.ts.isEmpty)
theorem empty_iff {c : Cnt} : c.empty = true ↔ c.c = 0 ∧ c.d = 0 ∧ c.ts = [] := by unfold Cnt.empty; simp
def setL (c : Cnt) : Bool → List Cnt → List Cnt
 | put, [] => if put = false ∧ c.empty = false then [c] else []
 | put, x :: M => if c.at_ x = true then setL c put M else if put = false ∧ PlLt c x then (if c.empty = true then [] else [c]) ++ x :: setL c true M else x :: setL c put M
theorem setL_put (c : Cnt) : ∀ M : List Cnt, setL c true M = M.filter fun x => !c.at_ x
 | [] => by simp [setL]
 | x :: M => by
  unfold setL
  rw [setL_put c M]
  by_cases h : c.at_ x = true
  ·rw [if_pos h, List.filter_cons, h]; simp
  ·rw [if_neg h, if_neg (by simp), List.filter_cons]; simp [h]
theorem setL_perm (c : Cnt) : ∀ M : List Cnt, (setL c false M).Perm ((if c.empty = true then [] else [c]) ++ M.filter fun x => !c.at_ x)
 | [] => by
  unfold setL
  by_cases h : c.empty = true <;> simp [h]
 | x :: M => by
  unfold setL
  have ih := setL_perm c M
  by_cases h : c.at_ x = true
  ·rw [if_pos h, List.filter_cons, h]; simpa using ih
  ·rw [if_neg h, List.filter_cons]
   simp only [h, Bool.not_false, if_true]
   by_cases h2 : PlLt c x
   ·rw [if_pos ⟨by trivial, h2⟩, setL_put]
   ·rw [if_neg (fun q => h2 q.2)]
    refine (ih.cons x).trans ?_
    exact (List.perm_middle (l₁ := if c.empty = true then [] else [c]) (a := x) (l₂ := M.filter fun x => !c.at_ x)).symm
theorem setL_mem {c y : Cnt} {M : List Cnt} (h : y ∈ setL c false M) : y = c ∨ y ∈ M := by
 have := (setL_perm c M).mem_iff.1 h
 rcases List.mem_append.1 this with h | h
 ·left
  by_cases e : c.empty = true
  ·rw [if_pos e] at h; cases h
  ·rw [if_neg e] at h; simpa using h
 ·exact .inr (List.mem_filter.1 h).1
theorem setL_sorted (c : Cnt) : ∀ {M : List Cnt}, M.Pairwise PlLt → (setL c false M).Pairwise PlLt
 | [], _ => by unfold setL; split <;> simp
 | x :: M, h => by
  have h1 := List.pairwise_cons.1 h
  have ih := setL_sorted c h1.2
  unfold setL
  by_cases ha : c.at_ x = true
  ·rw [if_pos ha]; exact ih
  ·rw [if_neg ha]
   have hn : ¬ (x.a = c.a ∧ x.b = c.b) := fun q => ha (at_iff.2 q)
   by_cases h2 : PlLt c x
   ·rw [if_pos ⟨rfl, h2⟩, setL_put]
    have hx : (x :: M.filter fun x => !c.at_ x).Pairwise PlLt := h.sublist (List.Sublist.cons_cons _ List.filter_sublist)
    by_cases e : c.empty = true
    ·rw [if_pos e]; exact hx
    ·rw [if_neg e]
     refine List.pairwise_cons.2 ⟨fun y hy => ?_, hx⟩
     rcases List.mem_cons.1 hy with rfl | hy
     ·exact h2
     ·exact plLt_trans h2 (h1.1 y (List.mem_filter.1 hy).1)
   ·rw [if_neg (fun q => h2 q.2)]
    refine List.pairwise_cons.2 ⟨fun y hy => ?_, ih⟩
    rcases setL_mem hy with rfl | hy
    ·unfold PlLt at *; omega
    ·exact h1.1 y hy
def updL (c : Cnt) : List Cnt → List Cnt
 | [] => [c]
 | x :: L => if c.at_ x = true then c :: L else x :: updL c L
def Placed (L : List Cnt) : Prop := L.Pairwise fun x y => ¬ (x.a = y.a ∧ x.b = y.b)
theorem updL_perm (c : Cnt) : ∀ {L : List Cnt}, Placed L → (updL c L).Perm (c :: L.filter fun x => !c.at_ x)
 | [], _ => by simp [updL]
 | x :: L, h => by
  have h1 := List.pairwise_cons.1 h
  unfold updL
  by_cases ha : c.at_ x = true
  ·rw [if_pos ha, List.filter_cons, ha]
   have : L.filter (fun x => !c.at_ x) = L := List.filter_eq_self.2 fun y hy => by
    have := h1.1 y hy
    have h2 := at_iff.1 ha
    rw [at_no.2 (by omega)]; rfl
   rw [this]
   exact .refl _
  ·rw [if_neg ha, List.filter_cons]
   simp only [ha, Bool.not_false, if_true]
   exact ((updL_perm c h1.2).cons x).trans (.swap _ _ _)
theorem updL_mem {c y : Cnt} : ∀ {L : List Cnt}, y ∈ updL c L → y = c ∨ y ∈ L
 | [], h => by simp [updL] at h; exact .inl h
 | x :: L, h => by
  unfold updL at h
  split at h
  ·rcases List.mem_cons.1 h with h | h
   ·exact .inl h
   ·exact .inr (List.mem_cons_of_mem _ h)
  ·rcases List.mem_cons.1 h with h | h
   ·subst h; exact .inr (List.mem_cons_self ..)
   ·rcases updL_mem h with h | h
    ·exact .inl h
    ·exact .inr (List.mem_cons_of_mem _ h)
theorem updL_placed (c : Cnt) : ∀ {L : List Cnt}, Placed L → Placed (updL c L)
 | [], _ => by simp [updL, Placed]
 | x :: L, h => by
  have h1 := List.pairwise_cons.1 h
  unfold updL
  by_cases ha : c.at_ x = true
  ·rw [if_pos ha]
   refine List.pairwise_cons.2 ⟨fun y hy => ?_, h1.2⟩
   have := h1.1 y hy
   have h2 := at_iff.1 ha
   omega
  ·rw [if_neg ha]
   refine List.pairwise_cons.2 ⟨fun y hy => ?_, updL_placed c h1.2⟩
   rcases updL_mem hy with rfl | hy
   ·exact fun q => ha (at_iff.2 q)
   ·exact h1.1 y hy
theorem updL_len (c : Cnt) : ∀ L : List Cnt, (updL c L).length ≤ L.length + 1
 | [] => by simp [updL]
 | x :: L => by
  unfold updL
  split
  ·simp
  ·have := updL_len c L; simp; omega
structure Both (L M : List Cnt) : Prop where
 pl : Placed L
 so : M.Pairwise PlLt
 pm : M.Perm (L.filter fun x => !x.empty)
theorem Both.nil : Both [] [] := ⟨by simp [Placed], by simp, by simp⟩
theorem Both.set {L M : List Cnt} (h : Both L M) (c : Cnt) : Both (updL c L) (setL c false M) := by
 refine ⟨updL_placed c h.pl, setL_sorted c h.so, (setL_perm c M).trans ?_⟩
 have h1 := (updL_perm c h.pl).filter fun x => !x.empty
 refine List.Perm.trans ?_ h1.symm
 rw [List.filter_cons]
 have h2 : (M.filter fun x => !c.at_ x).Perm ((L.filter fun x => !c.at_ x).filter fun x => !x.empty) := by
  refine (h.pm.filter _).trans ?_
  rw [List.filter_filter, List.filter_filter]
  have : (fun a => (!c.at_ a) && !a.empty) = (fun a : Cnt => (!a.empty) && !c.at_ a) := by funext a; exact Bool.and_comm _ _
  rw [this]
 by_cases e : c.empty = true
 ·rw [if_pos e]; simp [e]; simpa using h2
 ·have e' : c.empty = false := by simpa using e
  rw [if_neg e]; simp [e']; simpa using h2
def findL (f g : Int) (L : List Cnt) : Option Cnt := L.find? fun x => decide (x.a = f) && decide (x.b = g)
def blankC (f g : Int) : Cnt := ⟨f, g, 0, 0, []⟩
theorem find_uniq {L : List Cnt} {f g : Int} {x : Cnt} (hp : Placed L) (hx : x ∈ L) (h : x.a = f ∧ x.b = g) : findL f g L = some x := by
 induction L with
 | nil => cases hx
 | cons y L ih =>
  have h1 := List.pairwise_cons.1 hp
  unfold findL
  rcases List.mem_cons.1 hx with e | hx
  ·subst e; simp [h.1, h.2]
  ·have := h1.1 x hx
   have hy : ¬ (y.a = f ∧ y.b = g) := by omega
   rw [List.find?_cons]
   have : (decide (y.a = f) && decide (y.b = g)) = false := by
    rw [← Bool.not_eq_true]; simpa using hy
   rw [this]
   exact ih h1.2 hx
theorem sorted_placed {M : List Cnt} (h : M.Pairwise PlLt) : Placed M := h.imp fun {x y} q => by unfold PlLt at q; omega
theorem Both.find {L M : List Cnt} (h : Both L M) (f g : Int) : (findL f g L = none ∧ findL f g M = none) ∨ (∃ x, findL f g L = some x ∧ x.a = f ∧ x.b = g ∧ (findL f g M = some x ∨ x.empty = true ∧ findL f g M = none)) := by
 cases hL : findL f g L with
 | none =>
  refine .inl ⟨rfl, ?_⟩
  unfold findL at hL ⊢
  rw [List.find?_eq_none] at hL ⊢
  exact fun x hx => hL x (List.mem_filter.1 (h.pm.mem_iff.1 hx)).1
 | some x =>
  have hx : x ∈ L := List.mem_of_find?_eq_some hL
  have hp : x.a = f ∧ x.b = g := by
   have := List.find?_some hL
   simpa using this
  refine .inr ⟨x, rfl, hp.1, hp.2, ?_⟩
  by_cases e : x.empty = true
  ·refine .inr ⟨e, ?_⟩
   cases hM : findL f g M with
   | none => rfl
   | some y =>
    have hy : y ∈ M := List.mem_of_find?_eq_some hM
    have hq : y.a = f ∧ y.b = g := by
     have := List.find?_some hM
     simpa using this
    have hyL := List.mem_filter.1 (h.pm.mem_iff.1 hy)
    have := find_uniq h.pl hyL.1 hq
    rw [hL] at this
    cases this
    rw [e] at hyL; simp at hyL
  ·refine .inl (find_uniq (sorted_placed h.so) (h.pm.mem_iff.2 (List.mem_filter.2 ⟨hx, by simpa using e⟩)) hp)
def HtLt (x y : Cnt) : Prop := y.c < x.c ∨ x.c = y.c ∧ PlLt x y
theorem htLt_asymm (x y : Cnt) (h : HtLt x y) : ¬ HtLt y x := by unfold HtLt PlLt at *; omega
theorem htLt_trans {x y z : Cnt} (h : HtLt x y) (h2 : HtLt y z) : HtLt x z := by unfold HtLt PlLt at *; omega
def insH (x : Cnt) : List Cnt → List Cnt
 | [] => [x]
 | y :: l => if y.c < x.c then x :: y :: l else y :: insH x l
def hotL (n : Int) : List Cnt → List Cnt → List Cnt
 | out, [] => out
 | out, x :: M => hotL n (if x.c < n then out else insH x out) M
theorem insH_perm (x : Cnt) : ∀ l : List Cnt, (insH x l).Perm (x :: l)
 | [] => .refl _
 | y :: l => by
  unfold insH
  split
  ·exact .refl _
  ·exact ((insH_perm x l).cons y).trans (.swap _ _ _)
theorem insH_sorted {x : Cnt} : ∀ {l : List Cnt}, l.Pairwise HtLt → (∀ y ∈ l, PlLt y x) → (insH x l).Pairwise HtLt
 | [], _, _ => by simp [insH]
 | y :: l, h, hp => by
  have h1 := List.pairwise_cons.1 h
  unfold insH
  split
  ·rename_i hc
   refine List.pairwise_cons.2 ⟨fun z hz => ?_, h⟩
   rcases List.mem_cons.1 hz with rfl | hz
   ·exact .inl hc
   ·exact htLt_trans (.inl hc) (h1.1 z hz)
  ·rename_i hc
   refine List.pairwise_cons.2 ⟨fun z hz => ?_, insH_sorted h1.2 fun z hz => hp z (List.mem_cons_of_mem _ hz)⟩
   rcases List.mem_cons.1 ((insH_perm x l).mem_iff.1 hz) with rfl | hz
   ·have := hp y (List.mem_cons_self ..)
    unfold HtLt
    by_cases e : z.c < y.c
    ·exact .inl e
    ·exact .inr ⟨by omega, this⟩
   ·exact h1.1 z hz
theorem hotL_sorted (n : Int) : ∀ {M out : List Cnt}, M.Pairwise PlLt → out.Pairwise HtLt → (∀ y ∈ out, ∀ x ∈ M, PlLt y x) → (hotL n out M).Pairwise HtLt
 | [], _, _, h, _ => h
 | x :: M, out, hM, h, hp => by
  have h1 := List.pairwise_cons.1 hM
  unfold hotL
  split
  ·exact hotL_sorted n h1.2 h fun y hy z hz => hp y hy z (List.mem_cons_of_mem _ hz)
  ·refine hotL_sorted n h1.2 (insH_sorted h fun y hy => hp y hy x (List.mem_cons_self ..)) fun y hy z hz => ?_
   rcases List.mem_cons.1 ((insH_perm x out).mem_iff.1 hy) with rfl | hy
   ·exact h1.1 z hz
   ·exact hp y hy z (List.mem_cons_of_mem _ hz)
theorem hotL_perm (n : Int) : ∀ (M out : List Cnt), (hotL n out M).Perm (out ++ M.filter fun x => decide (n ≤ x.c))
 | [], out => by simp [hotL]
 | x :: M, out => by
  unfold hotL
  refine (hotL_perm n M _).trans ?_
  rw [List.filter_cons]
  by_cases h : x.c < n
  ·rw [if_pos h, if_neg (by simp; omega)]
  ·rw [if_neg h, if_pos (by simp; omega)]
   refine ((insH_perm x out).append_right _).trans ?_
   exact (List.perm_middle).symm
theorem hot_same {n : Int} {M out rest : List Cnt} (hM : M.Pairwise PlLt) (hp : (M.filter fun x => decide (n ≤ x.c)).Perm (out ++ rest)) (ho : out.Pairwise HtLt) (hr : ∀ x ∈ out, ∀ y ∈ rest, HtLt x y) (h20 : out.length ≤ 20) (he : out.length = 20 ∨ rest = []) :
  out = (hotL n [] M).take (min (hotL n [] M).length 20) := by
 have hs := hotL_sorted n hM (out := []) (by simp) (by simp)
 have hq : (out ++ rest).Perm (hotL n [] M) := by
  refine hp.symm.trans ?_
  have := hotL_perm n M []
  rw [List.nil_append] at this
  exact this.symm
 have e := first_take htLt_asymm ho hr hs hq
 have hl := hq.length_eq
 rw [List.length_append] at hl
 have : out.length = min (hotL n [] M).length 20 := by
  rcases he with he | he
  ·omega
  ·subst he; simp at hl; omega
 rw [← this]; exact e
end
end Go.Vs
end
section
namespace Go.Vs
open Go.Proofs
variable [GTab]
def Flaw13_ProfAdds (call : CallP) (lp : Nat → LoopP) (lv : LeaveP) (lvc : LeaveC) (o : AVal) (near : Bool) (n : Int) (H : Heap) (nx : Nat) (K : EndP) : Prop :=
 call f_pr_New [] H nx fun e0 H1 i2 => onEnd e0 (fun v3 => ∃ H4, H4 = newB i2 [AVal.nilSlice] H1 ∧ call f_law13_known [] H4 (i2 + 1) fun e5 H6 i7 => onEnd e5 (fun v8 => ∃ b9, v8 = AVal.bool b9 ∧ ifB
 (!b9) (K (AEnd.ret (AVal.bool false)) H6 i7) (∃ b10, nilK NK.ptr v3 = some b10 ∧ ifB b10 (K (AEnd.ret (AVal.bool false)) H6 i7) (lp 165 (subAt (codeOf PG 4) [1, 1, 1, 1, 0, 1,
 0, 0]) (envL (AVal.tuple []) [(9, iv 0), (27, AVal.bool false), (27, AVal.bool b10), (26, AVal.bool b10), (24, AVal.bool false), (25, v3), (24, AVal.bool false), (24, AVal.bool
 !b9), (23, AVal.bool !b9), (22, AVal.bool b9), (8, AVal.ptr i2 0), (21, AVal.ptr i2 0), (20, AVal.agg [AVal.nilSlice]), (7, v3), (19, v3), (6, AVal.bool false), (2, iv n), (1,
 AVal.bool near), (0, o)]) H6 i7 [] none (contAt PG call (lp 165) 165 (codeOf PG 4) [1, 1, 1, 1, 0, 1, 0] (endK PG lv lvc K (resOf PG 4)))))) fun l11 => K
 (AEnd.pan l11) H6 i7) fun l12 => K (AEnd.pan l12) H1 i2
theorem Flaw13_ProfAdds_eq (call : CallP) (lp : Nat → LoopP) (lv : LeaveP) (lvc : LeaveC) (o : AVal) (near : Bool) (n : Int) (H : Heap) (nx : Nat) (K : EndP) : vBody PG call lp f_law13_ProfAdds [o, AVal.bool near, iv n] H nx (endK PG lv lvc K) = Flaw13_ProfAdds call lp lv lvc o near n H nx K := by kernel_rfl
def Flaw13_same (call : CallP) (lp : Nat → LoopP) (lv : LeaveP) (lvc : LeaveC) (p : Nat) (r : Nat) (H : Heap) (nx : Nat) (K : EndP) : Prop :=
 call f_pf_All [AVal.ptr p 0] H nx fun e0 H1 i2 => onEnd e0 (fun v3 => ∃ i4, lenS v3 = some i4 ∧ true = true ∧ ∃ v5, some (AVal.ptr r 0) = some v5 ∧ ∃ v6, ld1 H1 v5 = some v6 ∧ ∃ i7, lenS
 v6 = some i7 ∧ ifB (!decide (Int.ofNat i4 = Int.ofNat i7)) (K (AEnd.ret (AVal.bool false)) H1 i2) (lp 36 (subAt (codeOf PG 16) [1, 1, 1, 0, 1, 0, 0]) (envL (AVal.tuple [])
 [(6, iv 0), (16, AVal.bool false), (16, AVal.bool !decide (Int.ofNat i4 = Int.ofNat i7)), (15, iv (Int.ofNat i7)), (14, v6), (13, v5), (12, AVal.ptr r 0), (11, AVal.ptr r 0), (10,
 iv (Int.ofNat i4)), (9, v3), (5, v3), (8, v3), (7, AVal.ptr p 0), (4, AVal.bool false), (1, AVal.ptr r 0), (0, AVal.ptr p 0)]) H1 i2 [] none (contAt PG call (lp 36) 36 (codeOf
 PG 16) [1, 1, 1, 0, 1, 0] (endK PG lv lvc K (resOf PG 16))))) fun l8 => K (AEnd.pan l8) H1 i2
theorem Flaw13_same_eq (call : CallP) (lp : Nat → LoopP) (lv : LeaveP) (lvc : LeaveC) (p : Nat) (r : Nat) (H : Heap) (nx : Nat) (K : EndP) : vBody PG call lp f_law13_same [AVal.ptr p 0, AVal.ptr r 0] H nx (endK PG lv lvc K) = Flaw13_same call lp lv lvc p r H nx K := by kernel_rfl
def Fpf_Of (call : CallP) (lp : Nat → LoopP) (lv : LeaveP) (lvc : LeaveC) (p : Nat) (f : Int) (g : Int) (H : Heap) (nx : Nat) (K : EndP) : Prop :=
 ∃ H0, H0 = newB nx [iv 0, iv 0, iv 0, iv 0, AVal.nilSlice] H ∧ true = true ∧ ∃ v1, some (AVal.ptr p 0) = some v1 ∧ ∃ v2, ld1 H0 v1 = some v2 ∧ true = true ∧ true = true ∧ true =
 true ∧ ∃ l3, entsOf H0 v2 = some l3 ∧ ∃ x4, findA PG 53 (AVal.agg [iv f, iv g]) l3 0 = some x4 ∧ (∀ (i5 : Nat) (v6 : AVal), x4 = some (i5, v6) → notNil v6 = true ∧ ∃ n7 n8 n9
 n10 v11, ldN H0 5 v6 = some (AVal.agg [iv n7, iv n8, iv n9, iv n10, v11]) ∧ call f_pr_copied [AVal.agg [iv n7, iv n8, iv n9, iv n10, v11]] H0 (nx + 1) fun e12 H13 i14 => onEnd e12 (fun v15
 => ∃ n16 n17 n18 n19 v20, v15 = AVal.agg [iv n16, iv n17, iv n18, iv n19, v20] ∧ ∃ H21, stC H13 (AVal.ptr nx 0) [iv n16, iv n17, iv n18, iv n19, v20] = some H21 ∧ ∃ n22 n23 n24 n25
 v26, ldN H21 5 (AVal.ptr nx 0) = some (AVal.agg [iv n22, iv n23, iv n24, iv n25, v26]) ∧ K (AEnd.ret (AVal.agg [iv n22, iv n23, iv n24, iv n25, v26])) H21 i14) fun l27 => K
 (AEnd.pan l27) H13 i14) ∧ (x4 = none → true = true ∧ true = true ∧ ∃ H28, stC H0 (AVal.ptr nx 0) [iv f, iv g, iv 0, iv 0, AVal.nilSlice] = some H28 ∧ ∃ n29 n30 n31 n32 v33, ldN H28
 5 (AVal.ptr nx 0) = some (AVal.agg [iv n29, iv n30, iv n31, iv n32, v33]) ∧ K (AEnd.ret (AVal.agg [iv n29, iv n30, iv n31, iv n32, v33])) H28 (nx + 1))
theorem Fpf_Of_eq (call : CallP) (lp : Nat → LoopP) (lv : LeaveP) (lvc : LeaveC) (p : Nat) (f : Int) (g : Int) (H : Heap) (nx : Nat) (K : EndP) : vBody PG call lp f_pf_Of [AVal.ptr p 0, iv f, iv g] H nx (endK PG lv lvc K) = Fpf_Of call lp lv lvc p f g H nx K := by kernel_rfl
def Fr10p_Add (call : CallP) (lp : Nat → LoopP) (lv : LeaveP) (lvc : LeaveC) (r : Nat) (a : Int) (b : Int) (c : Int) (d : Int) (t : AVal) (H : Heap) (nx : Nat) (K : EndP) : Prop :=
 ∃ H0, H0 = newBN nx [iv a, iv b, iv c, iv d, t].length [iv a, iv b, iv c, iv d, t] H ∧ ∃ v1, some (AVal.ptr nx 0) = some v1 ∧ ∃ n2 : Int, ld1 H0 v1 = some (iv n2) ∧ ifB (decide (n2
 < 0)) (K (AEnd.ret (AVal.bool false)) H0 (nx + 1)) (∃ v3, some (AVal.ptr nx 1) = some v3 ∧ ∃ n4 : Int, ld1 H0 v3 = some (iv n4) ∧ ifB (decide (n4 < 0)) (K (AEnd.ret (AVal.bool
 false)) H0 (nx + 1)) (∃ v5, some (AVal.ptr nx 2) = some v5 ∧ ∃ n6 : Int, ld1 H0 v5 = some (iv n6) ∧ ifB (decide (n6 < 0)) (K (AEnd.ret (AVal.bool false)) H0 (nx + 1)) (∃ v7, some
 (AVal.ptr nx 3) = some v7 ∧ ∃ n8 : Int, ld1 H0 v7 = some (iv n8) ∧ ifB (decide (n8 < 0)) (K (AEnd.ret (AVal.bool false)) H0 (nx + 1)) (∃ v9, some (AVal.ptr nx 0) = some v9 ∧ ∃ n10 :
 Int, ld1 H0 v9 = some (iv n10) ∧ ifB (decide (1073741824 < n10)) (K (AEnd.ret (AVal.bool false)) H0 (nx + 1)) (∃ v11, some (AVal.ptr nx 1) = some v11 ∧ ∃ n12 : Int, ld1 H0 v11 =
 some (iv n12) ∧ ifB (decide (1073741824 < n12)) (K (AEnd.ret (AVal.bool false)) H0 (nx + 1)) (∃ v13, some (AVal.ptr nx 2) = some v13 ∧ ∃ n14 : Int, ld1 H0 v13 = some (iv n14) ∧ ifB
 (decide (1073741824 < n14)) (K (AEnd.ret (AVal.bool false)) H0 (nx + 1)) (∃ v15, some (AVal.ptr nx 3) = some v15 ∧ ∃ n16 : Int, ld1 H0 v15 = some (iv n16) ∧ ifB (decide (1073741824
 < n16)) (K (AEnd.ret (AVal.bool false)) H0 (nx + 1)) (∃ v17, some (AVal.ptr nx 4) = some v17 ∧ ∃ v18, ld1 H0 v17 = some v18 ∧ ∃ i19, lenS v18 = some i19 ∧ ifB (decide (4 < Int.ofNat
 i19)) (K (AEnd.ret (AVal.bool false)) H0 (nx + 1)) (lp 118 (subAt (codeOf PG 11) [1, 1, 0, 1, 0, 0]) (envL (AVal.tuple []) [(5, iv 0), (50, AVal.bool false), (50, AVal.bool
 (decide (4 < Int.ofNat i19))), (49, AVal.bool (decide (4 < Int.ofNat i19))), (45, AVal.bool false), (48, iv (Int.ofNat i19)), (45, AVal.bool false), (47, v18), (45, AVal.bool
 false), (46, v17), (45, AVal.bool false), (45, AVal.bool (decide (1073741824 < n16))), (44, AVal.bool (decide (1073741824 < n16))), (43, AVal.bool (decide (1073741824 < n16))), (40,
 AVal.bool false), (42, iv n16), (40, AVal.bool false), (41, v15), (40, AVal.bool false), (40, AVal.bool (decide (1073741824 < n14))), (39, AVal.bool (decide (1073741824 < n14))),
 (38, AVal.bool (decide (1073741824 < n14))), (35, AVal.bool false), (37, iv n14), (35, AVal.bool false), (36, v13), (35, AVal.bool false), (35, AVal.bool (decide (1073741824 <
 n12))), (34, AVal.bool (decide (1073741824 < n12))), (33, AVal.bool (decide (1073741824 < n12))), (30, AVal.bool false), (32, iv n12), (30, AVal.bool false), (31, v11), (30,
 AVal.bool false), (30, AVal.bool (decide (1073741824 < n10))), (29, AVal.bool (decide (1073741824 < n10))), (28, AVal.bool (decide (1073741824 < n10))), (25, AVal.bool false), (27,
 iv n10), (25, AVal.bool false), (26, v9), (25, AVal.bool false), (25, AVal.bool (decide (n8 < 0))), (24, AVal.bool (decide (n8 < 0))), (23, AVal.bool (decide (n8 < 0))), (20,
 AVal.bool false), (22, iv n8), (20, AVal.bool false), (21, v7), (20, AVal.bool false), (20, AVal.bool (decide (n6 < 0))), (19, AVal.bool (decide (n6 < 0))), (18, AVal.bool (decide
 (n6 < 0))), (15, AVal.bool false), (17, iv n6), (15, AVal.bool false), (16, v5), (15, AVal.bool false), (15, AVal.bool (decide (n4 < 0))), (14, AVal.bool (decide (n4 < 0))), (13,
 AVal.bool (decide (n4 < 0))), (10, AVal.bool false), (12, iv n4), (10, AVal.bool false), (11, v3), (10, AVal.bool false), (10, AVal.bool (decide (n2 < 0))), (9, AVal.bool (decide
 (n2 < 0))), (8, iv n2), (7, v1), (4, AVal.bool false), (3, AVal.ptr nx 0), (1, AVal.agg [iv a, iv b, iv c, iv d, t]), (0, AVal.ptr r 0)]) H0 (nx + 1) [] none (contAt PG call
 (lp 118) 118 (codeOf PG 11) [1, 1, 0, 1, 0] (endK PG lv lvc K (resOf PG 11))))))))))))
theorem Fr10p_Add_eq (call : CallP) (lp : Nat → LoopP) (lv : LeaveP) (lvc : LeaveC) (r : Nat) (a : Int) (b : Int) (c : Int) (d : Int) (t : AVal) (H : Heap) (nx : Nat) (K : EndP) : vBody PG call lp f_r10p_Add [AVal.ptr r 0, AVal.agg [iv a, iv b, iv c, iv d, t]] H nx (endK PG lv lvc K) = Fr10p_Add call lp lv lvc r a b c d t H nx K := by kernel_rfl
def Fr10p_set (call : CallP) (lp : Nat → LoopP) (lv : LeaveP) (lvc : LeaveC) (r : Nat) (a : Int) (b : Int) (c : Int) (d : Int) (t : AVal) (H : Heap) (nx : Nat) (K : EndP) : Prop :=
 ∃ H0, H0 = newBN nx [iv a, iv b, iv c, iv d, t].length [iv a, iv b, iv c, iv d, t] H ∧ ∃ v1, some (AVal.ptr nx 2) = some v1 ∧ ∃ n2 : Int, ld1 H0 v1 = some (iv n2) ∧ ifB (decide (n2
 = 0)) (∃ v3, some (AVal.ptr nx 3) = some v3 ∧ ∃ n4 : Int, ld1 H0 v3 = some (iv n4) ∧ ifB (decide (n4 = 0)) (∃ v5, some (AVal.ptr nx 4) = some v5 ∧ ∃ v6, ld1 H0 v5 = some v6 ∧ ∃ i7,
 lenS v6 = some i7 ∧ lp 98 (subAt (codeOf PG 25) [1, 1, 1, 1, 0, 1, 0, 0]) (envL (AVal.tuple []) [(7, iv 0), (6, AVal.bool (decide (Int.ofNat i7 = 0))), (22, AVal.bool (decide
 (Int.ofNat i7 = 0))), (21, AVal.bool (decide (Int.ofNat i7 = 0))), (17, AVal.bool true), (20, iv (Int.ofNat i7)), (17, AVal.bool true), (19, v6), (17, AVal.bool true), (18, v5),
 (17, AVal.bool true), (17, AVal.bool (decide (n4 = 0))), (16, AVal.bool (decide (n4 = 0))), (15, AVal.bool (decide (n4 = 0))), (12, AVal.bool true), (14, iv n4), (12, AVal.bool
 true), (13, v3), (12, AVal.bool true), (12, AVal.bool (decide (n2 = 0))), (11, AVal.bool (decide (n2 = 0))), (10, iv n2), (9, v1), (5, AVal.bool false), (4, AVal.nilSlice), (3,
 AVal.ptr nx 0), (1, AVal.agg [iv a, iv b, iv c, iv d, t]), (0, AVal.ptr r 0)]) H0 (nx + 1) [] none (contAt PG call (lp 98) 98 (codeOf PG 25) [1, 1, 1, 1, 0, 1, 0] (endK
 PG lv lvc K (resOf PG 25)))) (lp 98 (subAt (codeOf PG 25) [1, 1, 1, 1, 0, 1, 0, 0]) (envL (AVal.tuple []) [(7, iv 0), (6, AVal.bool false), (22, AVal.bool false),
 (21, AVal.tuple []), (17, AVal.bool false), (20, AVal.tuple []), (17, AVal.bool false), (19, AVal.tuple []), (17, AVal.bool false), (18, AVal.tuple []), (17, AVal.bool false), (17,
 AVal.bool (decide (n4 = 0))), (16, AVal.bool (decide (n4 = 0))), (15, AVal.bool (decide (n4 = 0))), (12, AVal.bool true), (14, iv n4), (12, AVal.bool true), (13, v3), (12, AVal.bool
 true), (12, AVal.bool (decide (n2 = 0))), (11, AVal.bool (decide (n2 = 0))), (10, iv n2), (9, v1), (5, AVal.bool false), (4, AVal.nilSlice), (3, AVal.ptr nx 0), (1, AVal.agg [iv a,
 iv b, iv c, iv d, t]), (0, AVal.ptr r 0)]) H0 (nx + 1) [] none (contAt PG call (lp 98) 98 (codeOf PG 25) [1, 1, 1, 1, 0, 1, 0] (endK PG lv lvc K (resOf PG
 25))))) (lp 98 (subAt (codeOf PG 25) [1, 1, 1, 1, 0, 1, 0, 0]) (envL (AVal.tuple []) [(7, iv 0), (6, AVal.bool false), (22, AVal.bool false), (21, AVal.tuple []), (17,
 AVal.bool false), (20, AVal.tuple []), (17, AVal.bool false), (19, AVal.tuple []), (17, AVal.bool false), (18, AVal.tuple []), (17, AVal.bool false), (17, AVal.bool false), (16,
 AVal.bool false), (15, AVal.tuple []), (12, AVal.bool false), (14, AVal.tuple []), (12, AVal.bool false), (13, AVal.tuple []), (12, AVal.bool false), (12, AVal.bool (decide (n2 =
 0))), (11, AVal.bool (decide (n2 = 0))), (10, iv n2), (9, v1), (5, AVal.bool false), (4, AVal.nilSlice), (3, AVal.ptr nx 0), (1, AVal.agg [iv a, iv b, iv c, iv d, t]), (0, AVal.ptr
 r 0)]) H0 (nx + 1) [] none (contAt PG call (lp 98) 98 (codeOf PG 25) [1, 1, 1, 1, 0, 1, 0] (endK PG lv lvc K (resOf PG 25))))
theorem Fr10p_set_eq (call : CallP) (lp : Nat → LoopP) (lv : LeaveP) (lvc : LeaveC) (r : Nat) (a : Int) (b : Int) (c : Int) (d : Int) (t : AVal) (H : Heap) (nx : Nat) (K : EndP) : vBody PG call lp f_r10p_set [AVal.ptr r 0, AVal.agg [iv a, iv b, iv c, iv d, t]] H nx (endK PG lv lvc K) = Fr10p_set call lp lv lvc r a b c d t H nx K := by kernel_rfl
def Fr10p_find (call : CallP) (lp : Nat → LoopP) (lv : LeaveP) (lvc : LeaveC) (r : Nat) (f : Int) (g : Int) (H : Heap) (nx : Nat) (K : EndP) : Prop :=
 lp 40 (subAt (codeOf PG 26) [1, 0, 1, 0, 0]) (envL (AVal.tuple []) [(7, iv 0), (6, iv 0), (2, iv g), (1, iv f), (0, AVal.ptr r 0)]) H nx [] none (contAt PG call (lp 40)
 40 (codeOf PG 26) [1, 0, 1, 0] (endK PG lv lvc K (resOf PG 26)))
theorem Fr10p_find_eq (call : CallP) (lp : Nat → LoopP) (lv : LeaveP) (lvc : LeaveC) (r : Nat) (f : Int) (g : Int) (H : Heap) (nx : Nat) (K : EndP) : vBody PG call lp f_r10p_find [AVal.ptr r 0, iv f, iv g] H nx (endK PG lv lvc K) = Fr10p_find call lp lv lvc r f g H nx K := by kernel_rfl
def Fr10p_Of (call : CallP) (lp : Nat → LoopP) (lv : LeaveP) (lvc : LeaveC) (r : Nat) (f : Int) (g : Int) (H : Heap) (nx : Nat) (K : EndP) : Prop :=
 ∃ H0, H0 = newB nx [iv 0, iv 0, iv 0, iv 0, AVal.nilSlice] H ∧ call f_r10p_find [AVal.ptr r 0, iv f, iv g] H0 (nx + 1) fun e1 H2 i3 => onEnd e1 (fun v4 => ∃ n5 : Int, v4 = iv n5 ∧ ifB
 (decide (0 ≤ n5)) (true = true ∧ ∃ v6, some (AVal.ptr r 0) = some v6 ∧ ∃ v7, ld1 H2 v6 = some v7 ∧ 0 ≤ n5 ∧ ∃ v8, idxS v7 n5.toNat 5 = some v8 ∧ ∃ n9 n10 n11 n12 v13, ldN H2 5 v8 =
 some (AVal.agg [iv n9, iv n10, iv n11, iv n12, v13]) ∧ ∃ H14, stC H2 (AVal.ptr nx 0) [iv n9, iv n10, iv n11, iv n12, v13] = some H14 ∧ ∃ n15 n16 n17 n18 v19, ldN H14 5 (AVal.ptr nx
 0) = some (AVal.agg [iv n15, iv n16, iv n17, iv n18, v19]) ∧ K (AEnd.ret (AVal.agg [iv n15, iv n16, iv n17, iv n18, v19])) H14 i3) (true = true ∧ true = true ∧ ∃ H20, stC H2
 (AVal.ptr nx 0) [iv f, iv g, iv 0, iv 0, AVal.nilSlice] = some H20 ∧ ∃ n21 n22 n23 n24 v25, ldN H20 5 (AVal.ptr nx 0) = some (AVal.agg [iv n21, iv n22, iv n23, iv n24, v25]) ∧ K
 (AEnd.ret (AVal.agg [iv n21, iv n22, iv n23, iv n24, v25])) H20 i3)) fun l26 => K (AEnd.pan l26) H2 i3
theorem Fr10p_Of_eq (call : CallP) (lp : Nat → LoopP) (lv : LeaveP) (lvc : LeaveC) (r : Nat) (f : Int) (g : Int) (H : Heap) (nx : Nat) (K : EndP) : vBody PG call lp f_r10p_Of [AVal.ptr r 0, iv f, iv g] H nx (endK PG lv lvc K) = Fr10p_Of call lp lv lvc r f g H nx K := by kernel_rfl
def Fr10p_Hot (call : CallP) (lp : Nat → LoopP) (lv : LeaveP) (lvc : LeaveC) (r : Nat) (n : Int) (H : Heap) (nx : Nat) (K : EndP) : Prop :=
 lp 86 (subAt (codeOf PG 15) [1, 1, 0, 1, 0, 0]) (envL (AVal.tuple []) [(6, iv 0), (5, AVal.nilSlice), (4, AVal.nilSlice), (1, iv n), (0, AVal.ptr r 0)]) H nx [] none (contAt
 PG call (lp 86) 86 (codeOf PG 15) [1, 1, 0, 1, 0] (endK PG lv lvc K (resOf PG 15)))
theorem Fr10p_Hot_eq (call : CallP) (lp : Nat → LoopP) (lv : LeaveP) (lvc : LeaveC) (r : Nat) (n : Int) (H : Heap) (nx : Nat) (K : EndP) : vBody PG call lp f_r10p_Hot [AVal.ptr r 0, iv n] H nx (endK PG lv lvc K) = Fr10p_Hot call lp lv lvc r n H nx K := by kernel_rfl
def Fr10_SameCount (call : CallP) (lp : Nat → LoopP) (lv : LeaveP) (lvc : LeaveC) (a : Int) (b : Int) (c : Int) (d : Int) (t : AVal) (f : Int) (g : Int) (h : Int) (i : Int) (u : AVal) (H : Heap) (nx : Nat) (K : EndP) : Prop :=
 ∃ H0, H0 = newBN nx [iv a, iv b, iv c, iv d, t].length [iv a, iv b, iv c, iv d, t] H ∧ ∃ H1, H1 = newBN (nx + 1) [iv f, iv g, iv h, iv i, u].length [iv f, iv g, iv h, iv i, u] H0 ∧
 ∃ v2, some (AVal.ptr nx 0) = some v2 ∧ ∃ n3 : Int, ld1 H1 v2 = some (iv n3) ∧ ∃ v4, some (AVal.ptr (nx + 1) 0) = some v4 ∧ ∃ n5 : Int, ld1 H1 v4 = some (iv n5) ∧ ifB (!decide (n3 =
 n5)) (K (AEnd.ret (AVal.bool false)) H1 (nx + 1 + 1)) (∃ v6, some (AVal.ptr nx 1) = some v6 ∧ ∃ n7 : Int, ld1 H1 v6 = some (iv n7) ∧ ∃ v8, some (AVal.ptr (nx + 1) 1) = some v8 ∧ ∃
 n9 : Int, ld1 H1 v8 = some (iv n9) ∧ ifB (!decide (n7 = n9)) (K (AEnd.ret (AVal.bool false)) H1 (nx + 1 + 1)) (∃ v10, some (AVal.ptr nx 2) = some v10 ∧ ∃ n11 : Int, ld1 H1 v10 =
 some (iv n11) ∧ ∃ v12, some (AVal.ptr (nx + 1) 2) = some v12 ∧ ∃ n13 : Int, ld1 H1 v12 = some (iv n13) ∧ ifB (!decide (n11 = n13)) (K (AEnd.ret (AVal.bool false)) H1 (nx + 1 + 1))
 (∃ v14, some (AVal.ptr nx 3) = some v14 ∧ ∃ n15 : Int, ld1 H1 v14 = some (iv n15) ∧ ∃ v16, some (AVal.ptr (nx + 1) 3) = some v16 ∧ ∃ n17 : Int, ld1 H1 v16 = some (iv n17) ∧ ifB
 (!decide (n15 = n17)) (K (AEnd.ret (AVal.bool false)) H1 (nx + 1 + 1)) (∃ v18, some (AVal.ptr nx 4) = some v18 ∧ ∃ v19, ld1 H1 v18 = some v19 ∧ ∃ i20, lenS v19 = some i20 ∧ ∃ v21,
 some (AVal.ptr (nx + 1) 4) = some v21 ∧ ∃ v22, ld1 H1 v21 = some v22 ∧ ∃ i23, lenS v22 = some i23 ∧ ifB (!decide (Int.ofNat i20 = Int.ofNat i23)) (K (AEnd.ret (AVal.bool false)) H1
 (nx + 1 + 1)) (lp 59 (subAt (codeOf PG 12) [1, 1, 0, 1, 0, 0]) (envL (AVal.tuple []) [(5, iv 0), (40, AVal.bool false), (40, AVal.bool !decide (Int.ofNat i20 = Int.ofNat
 i23)), (39, AVal.bool !decide (Int.ofNat i20 = Int.ofNat i23)), (32, AVal.bool false), (38, iv (Int.ofNat i23)), (32, AVal.bool false), (37, v22), (32, AVal.bool false), (36, v21),
 (32, AVal.bool false), (35, iv (Int.ofNat i20)), (32, AVal.bool false), (34, v19), (32, AVal.bool false), (33, v18), (32, AVal.bool false), (32, AVal.bool !decide (n15 = n17)), (31,
 AVal.bool !decide (n15 = n17)), (30, AVal.bool !decide (n15 = n17)), (25, AVal.bool false), (29, iv n17), (25, AVal.bool false), (28, v16), (25, AVal.bool false), (27, iv n15), (25,
 AVal.bool false), (26, v14), (25, AVal.bool false), (25, AVal.bool !decide (n11 = n13)), (24, AVal.bool !decide (n11 = n13)), (23, AVal.bool !decide (n11 = n13)), (18, AVal.bool
 false), (22, iv n13), (18, AVal.bool false), (21, v12), (18, AVal.bool false), (20, iv n11), (18, AVal.bool false), (19, v10), (18, AVal.bool false), (18, AVal.bool !decide (n7 =
 n9)), (17, AVal.bool !decide (n7 = n9)), (16, AVal.bool !decide (n7 = n9)), (11, AVal.bool false), (15, iv n9), (11, AVal.bool false), (14, v8), (11, AVal.bool false), (13, iv n7),
 (11, AVal.bool false), (12, v6), (11, AVal.bool false), (11, AVal.bool !decide (n3 = n5)), (10, AVal.bool !decide (n3 = n5)), (9, iv n5), (8, v4), (7, iv n3), (6, v2), (4, AVal.bool
 false), (3, AVal.ptr (nx + 1) 0), (2, AVal.ptr nx 0), (1, AVal.agg [iv f, iv g, iv h, iv i, u]), (0, AVal.agg [iv a, iv b, iv c, iv d, t])]) H1 (nx + 1 + 1) [] none (contAt PG
 call (lp 59) 59 (codeOf PG 12) [1, 1, 0, 1, 0] (endK PG lv lvc K (resOf PG 12))))))))
theorem Fr10_SameCount_eq (call : CallP) (lp : Nat → LoopP) (lv : LeaveP) (lvc : LeaveC) (a : Int) (b : Int) (c : Int) (d : Int) (t : AVal) (f : Int) (g : Int) (h : Int) (i : Int) (u : AVal) (H : Heap) (nx : Nat) (K : EndP) : vBody PG call lp f_r10_SameCount [AVal.agg [iv a, iv b, iv c, iv d, t], AVal.agg [iv f, iv g, iv h, iv i, u]] H nx (endK PG lv lvc K) = Fr10_SameCount call lp lv lvc a b c d t f g h i u H nx K := by kernel_rfl
def Fsl_ContainsFunc___prof_Seen_prof_Seen_ (call : CallP) (lp : Nat → LoopP) (lv : LeaveP) (lvc : LeaveC) (o : AVal) (q : Nat) (H : Heap) (nx : Nat) (K : EndP) : Prop :=
 call f_sl_IndexFunc___prof_Seen_prof_Seen_ [o, AVal.func (Fn.func 19) [] [AVal.ptr q 0]] H nx fun e0 H1 i2 => onEnd e0 (fun v3 => ∃ n4 : Int, v3 = iv n4 ∧ K (AEnd.ret (AVal.bool (decide (0 ≤ n4)))) H1 i2) fun l5 => K
 (AEnd.pan l5) H1 i2
theorem Fsl_ContainsFunc___prof_Seen_prof_Seen__eq (call : CallP) (lp : Nat → LoopP) (lv : LeaveP) (lvc : LeaveC) (o : AVal) (q : Nat) (H : Heap) (nx : Nat) (K : EndP) : vBody PG call lp f_sl_ContainsFunc___prof_Seen_prof_Seen_ [o, AVal.func (Fn.func 19) [] [AVal.ptr q 0]] H nx (endK PG lv lvc K) = Fsl_ContainsFunc___prof_Seen_prof_Seen_ call lp lv lvc o q H nx K := by kernel_rfl
def Fsl_IndexFunc___prof_Seen_prof_Seen_ (call : CallP) (lp : Nat → LoopP) (lv : LeaveP) (lvc : LeaveC) (o : AVal) (q : Nat) (H : Heap) (nx : Nat) (K : EndP) : Prop :=
 ∃ i0, lenS o = some i0 ∧ lp 19 (subAt (codeOf PG 27) [1, 0, 1, 0, 0]) (envL (AVal.tuple []) [(8, iv 0), (7, iv (Int.ofNat i0)), (6, o), (4, iv 0), (1, AVal.func (Fn.func 19)
 [] [AVal.ptr q 0]), (0, o)]) H nx [] none (contAt PG call (lp 19) 19 (codeOf PG 27) [1, 0, 1, 0] (endK PG lv lvc K (resOf PG 27)))
theorem Fsl_IndexFunc___prof_Seen_prof_Seen__eq (call : CallP) (lp : Nat → LoopP) (lv : LeaveP) (lvc : LeaveC) (o : AVal) (q : Nat) (H : Heap) (nx : Nat) (K : EndP) : vBody PG call lp f_sl_IndexFunc___prof_Seen_prof_Seen_ [o, AVal.func (Fn.func 19) [] [AVal.ptr q 0]] H nx (endK PG lv lvc K) = Fsl_IndexFunc___prof_Seen_prof_Seen_ call lp lv lvc o q H nx K := by kernel_rfl
def Fpf_Add_1 (call : CallP) (lp : Nat → LoopP) (lv : LeaveP) (lvc : LeaveC) (q : Nat) (x : Int) (y : Int) (H : Heap) (nx : Nat) (K : EndP) : Prop :=
 ∃ H0, H0 = newBN nx [iv x, iv y].length [iv x, iv y] H ∧ ∃ v1, some (AVal.ptr nx 0) = some v1 ∧ ∃ n2 : Int, ld1 H0 v1 = some (iv n2) ∧ ∃ v3, some (AVal.ptr q 0) = some v3 ∧ ∃ n4 :
 Int, ld1 H0 v3 = some (iv n4) ∧ K (AEnd.ret (AVal.bool (decide (n2 = n4)))) H0 (nx + 1)
theorem Fpf_Add_1_eq (call : CallP) (lp : Nat → LoopP) (lv : LeaveP) (lvc : LeaveC) (q : Nat) (x : Int) (y : Int) (H : Heap) (nx : Nat) (K : EndP) : vBody PG call lp f_pf_Add_1 [AVal.agg [iv x, iv y], AVal.ptr q 0] H nx (endK PG lv lvc K) = Fpf_Add_1 call lp lv lvc q x y H nx K := by kernel_rfl
end Go.Vs
end
section
namespace Go.Vs
open Go.Proofs
variable [GTab]
def GIdx (call : CallP) (lp : Nat → LoopP) (N : KC) (X : Nat → KC) (R : KC) (Pn : List (AVal × Bool) → KC) (o : AVal) (q : Nat) (i : Int) (n : Int) (H : Heap) (nx : Nat) : Prop :=
 ifB (decide (i < n)) (0 ≤ i ∧ ∃ v0, idxS o i.toNat 2 = some v0 ∧ ∃ n1 n2 : Int, ldN H 2 v0 = some (AVal.agg [iv n1, iv n2]) ∧ ∃ x3 l4, some (19, [AVal.agg [iv n1, iv n2], AVal.ptr q
 0]) = some (x3, l4) ∧ call x3 l4 H nx fun e5 H6 i7 => onEnd e5 (fun v8 => ∃ b9, v8 = AVal.bool b9 ∧ ifB b9 (R (envL AVal.und [(0, o), (1, AVal.func (Fn.func 19) [] [AVal.ptr q 0]),
 (4, iv i), (6, o), (7, iv n), (8, iv i)]) H6 i7 [] none) (N (envL AVal.und [(0, o), (1, AVal.func (Fn.func 19) [] [AVal.ptr q 0]), (4, iv 0), (6, o), (7, iv n), (8, iv
 (IntKind.i64.wrap (i + 1)))]) H6 i7 [] none)) fun l10 => Pn l10 (envL AVal.und [(0, o), (1, AVal.func (Fn.func 19) [] [AVal.ptr q 0]), (4, iv 0), (6, o), (7, iv n), (8, iv i)]) H6
 i7 [] none) (X 0 (envL AVal.und [(0, o), (1, AVal.func (Fn.func 19) [] [AVal.ptr q 0]), (4, iv 0), (6, o), (7, iv n), (8, iv i)]) H nx [] none)
theorem GIdx_eq (call : CallP) (lp : Nat → LoopP) (N : KC) (X : Nat → KC) (R : KC) (Pn : List (AVal × Bool) → KC) (o : AVal) (q : Nat) (i : Int) (n : Int) (H : Heap) (nx : Nat) : vK PG call (lp 19) 19 (subAt (codeOf PG 27) [1,0,1,0,0]) (envL .und [(0, o), (1, AVal.func (Fn.func 19) [] [AVal.ptr q 0]), (4, iv 0), (6, o), (7, iv n), (8, iv i)]) H nx [] none (trimK [0,1,4,6,7,8] (loopK N X R Pn)) = GIdx call lp N X R Pn o q i n H nx := by kernel_rfl
def GIdxA (call : CallP) (lp : Nat → LoopP) (lv : LeaveP) (lvc : LeaveC) (_u : Nat) (H : Heap) (nx : Nat) (K : EndP) : Prop :=
 K (AEnd.ret (iv (-1))) H nx
theorem GIdxA_eq (call : CallP) (lp : Nat → LoopP) (lv : LeaveP) (lvc : LeaveC) (_u : Nat) (H : Heap) (nx : Nat) (K : EndP) : contAt PG call (lp 19) 19 (codeOf PG 27) [1,0,1,0] (endK PG lv lvc K (resOf PG 27)) (.exit 0) (envL .und [(4, iv 0)]) H nx [] none = GIdxA call lp lv lvc _u H nx K := by kernel_rfl
def GAddL (call : CallP) (lp : Nat → LoopP) (N : KC) (X : Nat → KC) (R : KC) (Pn : List (AVal × Bool) → KC) (p : Nat) (b : Nat) (o : AVal) (i : Int) (n : Int) (H : Heap) (nx : Nat) : Prop :=
 ifB (decide (i < n)) (0 ≤ i ∧ ∃ v0, idxS o i.toNat 2 = some v0 ∧ ∃ n1 n2 : Int, ldN H 2 v0 = some (AVal.agg [iv n1, iv n2]) ∧ ∃ H3, H3 = newB nx [iv 0, iv 0] H ∧ ∃ H4, stC H3
 (AVal.ptr nx 0) [iv n1, iv n2] = some H4 ∧ ∃ v5, some (AVal.ptr nx 0) = some v5 ∧ ∃ n6 : Int, ld1 H4 v5 = some (iv n6) ∧ call f_pr_small [iv n6] H4 (nx + 1) fun e7 H8 i9 => onEnd e7 (fun
 v10 => ∃ b11, v10 = AVal.bool b11 ∧ ifB (!b11) (R (envL AVal.und [(0, AVal.ptr p 0), (3, AVal.ptr b 0), (4, AVal.bool false), (37, o), (38, iv n), (39, iv i)]) H8 i9 [] none) (∃
 v12, some (AVal.ptr nx 1) = some v12 ∧ ∃ n13 : Int, ld1 H8 v12 = some (iv n13) ∧ call f_pr_small [iv n13] H8 i9 fun e14 H15 i16 => onEnd e14 (fun v17 => ∃ b18, v17 = AVal.bool b18 ∧ ifB
 (!b18) (R (envL AVal.und [(0, AVal.ptr p 0), (3, AVal.ptr b 0), (4, AVal.bool false), (37, o), (38, iv n), (39, iv i)]) H15 i16 [] none) (∃ v19, some (AVal.ptr b 4) = some v19 ∧ ∃
 v20, ld1 H15 v19 = some v20 ∧ 0 ≤ i ∧ ∃ v21, slcS v20 2 0 (some i.toNat) = some v21 ∧ call f_sl_ContainsFunc___prof_Seen_prof_Seen_ [v21, AVal.func (Fn.func 19) [] [AVal.ptr nx 0]] H15 i16 fun e22 H23 i24 => onEnd e22
 (fun v25 => ∃ b26, v25 = AVal.bool b26 ∧ ifB b26 (R (envL AVal.und [(0, AVal.ptr p 0), (3, AVal.ptr b 0), (4, AVal.bool false), (37, o), (38, iv n), (39, iv i)]) H23 i24 [] none) (N
 (envL AVal.und [(0, AVal.ptr p 0), (3, AVal.ptr b 0), (4, AVal.bool false), (37, o), (38, iv n), (39, iv (IntKind.i64.wrap (i + 1)))]) H23 i24 [] none)) fun l27 => Pn l27 (envL
 AVal.und [(0, AVal.ptr p 0), (3, AVal.ptr b 0), (4, AVal.bool false), (37, o), (38, iv n), (39, iv i)]) H23 i24 [] none)) fun l28 => Pn l28 (envL AVal.und [(0, AVal.ptr p 0), (3,
 AVal.ptr b 0), (4, AVal.bool false), (37, o), (38, iv n), (39, iv i)]) H15 i16 [] none)) fun l29 => Pn l29 (envL AVal.und [(0, AVal.ptr p 0), (3, AVal.ptr b 0), (4, AVal.bool
 false), (37, o), (38, iv n), (39, iv i)]) H8 i9 [] none) (X 0 (envL AVal.und [(0, AVal.ptr p 0), (3, AVal.ptr b 0), (4, AVal.bool false), (37, o), (38, iv n), (39, iv i)]) H nx []
 none)
theorem GAddL_eq (call : CallP) (lp : Nat → LoopP) (N : KC) (X : Nat → KC) (R : KC) (Pn : List (AVal × Bool) → KC) (p : Nat) (b : Nat) (o : AVal) (i : Int) (n : Int) (H : Heap) (nx : Nat) : vK PG call (lp 74) 74 (subAt (codeOf PG 8) [1,1,0,1,0,0]) (envL .und [(0, AVal.ptr p 0), (3, AVal.ptr b 0), (4, AVal.bool false), (37, o), (38, iv n), (39, iv i)]) H nx [] none (trimK [0,3,4,37,38,39] (loopK N X R Pn)) = GAddL call lp N X R Pn p b o i n H nx := by kernel_rfl
def GAddA (call : CallP) (lp : Nat → LoopP) (lv : LeaveP) (lvc : LeaveC) (p : Nat) (b : Nat) (H : Heap) (nx : Nat) (K : EndP) : Prop :=
 ∃ n0 n1 n2 n3 v4, ldN H 5 (AVal.ptr b 0) = some (AVal.agg [iv n0, iv n1, iv n2, iv n3, v4]) ∧ call f_pr_copied [AVal.agg [iv n0, iv n1, iv n2, iv n3, v4]] H nx fun e5 H6 i7 => onEnd e5 (fun
 v8 => ∃ n9 n10 n11 n12 v13, v8 = AVal.agg [iv n9, iv n10, iv n11, iv n12, v13] ∧ ∃ H14, H14 = newB i7 [iv 0, iv 0, iv 0, iv 0, AVal.nilSlice] H6 ∧ ∃ H15, stC H14 (AVal.ptr i7 0) [iv
 n9, iv n10, iv n11, iv n12, v13] = some H15 ∧ true = true ∧ ∃ v16, some (AVal.ptr p 0) = some v16 ∧ ∃ v17, ld1 H15 v16 = some v17 ∧ ∃ v18, some (AVal.ptr b 0) = some v18 ∧ ∃ n19 :
 Int, ld1 H15 v18 = some (iv n19) ∧ ∃ v20, some (AVal.ptr b 1) = some v20 ∧ ∃ n21 : Int, ld1 H15 v20 = some (iv n21) ∧ true = true ∧ true = true ∧ ((∃ v22, ld1 H15 v16 = some v22 ∧
 v22 = v17) ∧ (∃ n23 : Int, ld1 H15 v18 = some (iv n23) ∧ iv n23 = iv n19) ∧ (∃ n24 : Int, ld1 H15 v20 = some (iv n24) ∧ iv n24 = iv n21) ∧ True) ∧ true = true ∧ ∃ i25 l26 i27, v17 =
 AVal.map i25 ∧ get5 i25 H15 = some (AObj.map l26 i27) ∧ ∃ x28, findA PG 53 (AVal.agg [iv n19, iv n21]) l26 0 = some x28 ∧ (∀ (i29 : Nat) (v30 : AVal), x28 = some (i29, v30) →
 ∃ H31, H31 = set5 i25 (some (AObj.map (setEnt (AVal.agg [iv n19, iv n21]) (AVal.ptr i7 0) l26 i29) i27)) H15 ∧ True ∧ K (AEnd.ret (AVal.bool true)) H31 (i7 + 1 + 10)) ∧ (x28 = none
 → ∃ H32, H32 = set5 i25 (some (AObj.map (l26 ++ [{ key := AVal.agg [iv n19, iv n21], val := AVal.ptr i7 0, born := i27 }]) (i27 + 1))) H15 ∧ True ∧ K (AEnd.ret (AVal.bool true)) H32
 (i7 + 1 + 10))) fun l33 => K (AEnd.pan l33) H6 i7
theorem GAddA_eq (call : CallP) (lp : Nat → LoopP) (lv : LeaveP) (lvc : LeaveC) (p : Nat) (b : Nat) (H : Heap) (nx : Nat) (K : EndP) : contAt PG call (lp 74) 74 (codeOf PG 8) [1,1,0,1,0] (endK PG lv lvc K (resOf PG 8)) (.exit 0) (envL .und [(0, AVal.ptr p 0), (3, AVal.ptr b 0)]) H nx [] none = GAddA call lp lv lvc p b H nx K := by kernel_rfl
def GFnd (call : CallP) (lp : Nat → LoopP) (N : KC) (X : Nat → KC) (R : KC) (Pn : List (AVal × Bool) → KC) (r : Nat) (f : Int) (g : Int) (i : Int) (H : Heap) (nx : Nat) : Prop :=
 true = true ∧ ∃ v0, some (AVal.ptr r 0) = some v0 ∧ ∃ v1, ld1 H v0 = some v1 ∧ ∃ i2, lenS v1 = some i2 ∧ ifB (decide (i < Int.ofNat i2)) (true = true ∧ ∃ v3, some (AVal.ptr r 0) =
 some v3 ∧ ∃ v4, ld1 H v3 = some v4 ∧ 0 ≤ i ∧ ∃ v5, idxS v4 i.toNat 5 = some v5 ∧ ∃ v6, addOff v5 0 = some v6 ∧ ∃ n7 : Int, ld1 H v6 = some (iv n7) ∧ ifB (decide (n7 = f)) (true =
 true ∧ ∃ v8, some (AVal.ptr r 0) = some v8 ∧ ∃ v9, ld1 H v8 = some v9 ∧ 0 ≤ i ∧ ∃ v10, idxS v9 i.toNat 5 = some v10 ∧ ∃ v11, addOff v10 1 = some v11 ∧ ∃ n12 : Int, ld1 H v11 = some
 (iv n12) ∧ ifB (decide (n12 = g)) (R (envL AVal.und [(0, AVal.ptr r 0), (1, iv f), (2, iv g), (6, iv i), (7, iv i)]) H nx [] none) (N (envL AVal.und [(0, AVal.ptr r 0), (1, iv f),
 (2, iv g), (6, iv 0), (7, iv (IntKind.i64.wrap (i + 1)))]) H nx [] none)) (N (envL AVal.und [(0, AVal.ptr r 0), (1, iv f), (2, iv g), (6, iv 0), (7, iv (IntKind.i64.wrap (i + 1)))])
 H nx [] none)) (X 0 (envL AVal.und [(0, AVal.ptr r 0), (1, iv f), (2, iv g), (6, iv 0), (7, iv i)]) H nx [] none)
theorem GFnd_eq (call : CallP) (lp : Nat → LoopP) (N : KC) (X : Nat → KC) (R : KC) (Pn : List (AVal × Bool) → KC) (r : Nat) (f : Int) (g : Int) (i : Int) (H : Heap) (nx : Nat) : vK PG call (lp 40) 40 (subAt (codeOf PG 26) [1,0,1,0,0]) (envL .und [(0, AVal.ptr r 0), (1, iv f), (2, iv g), (6, iv 0), (7, iv i)]) H nx [] none (trimK [0,1,2,6,7] (loopK N X R Pn)) = GFnd call lp N X R Pn r f g i H nx := by kernel_rfl
def GFndA (call : CallP) (lp : Nat → LoopP) (lv : LeaveP) (lvc : LeaveC) (_u : Nat) (H : Heap) (nx : Nat) (K : EndP) : Prop :=
 K (AEnd.ret (iv (-1))) H nx
theorem GFndA_eq (call : CallP) (lp : Nat → LoopP) (lv : LeaveP) (lvc : LeaveC) (_u : Nat) (H : Heap) (nx : Nat) (K : EndP) : contAt PG call (lp 40) 40 (codeOf PG 26) [1,0,1,0] (endK PG lv lvc K (resOf PG 26)) (.exit 0) (envL .und [(6, iv 0)]) H nx [] none = GFndA call lp lv lvc _u H nx K := by kernel_rfl
def GSetA (call : CallP) (lp : Nat → LoopP) (lv : LeaveP) (lvc : LeaveC) (r : Nat) (b : Nat) (o : AVal) (put : Bool) (e : Bool) (H : Heap) (nx : Nat) (K : EndP) : Prop :=
 ifB (!put) (ifB (!e) (∃ n0 n1 n2 n3 v4, ldN H 5 (AVal.ptr b 0) = some (AVal.agg [iv n0, iv n1, iv n2, iv n3, v4]) ∧ ∃ H5, H5 = newB nx [iv n0, iv n1, iv n2, iv n3, v4] H ∧ ∃ i6 l7,
 aSrc 5 H5 (AVal.slice nx 0 1 5 true) = some (i6, l7) ∧ allCell l7 = true ∧ ∃ v8 H9 i10, appC H5 (nx + 1) 5 56 o i6 l7 = some (v8, H9, i10) ∧ true = true ∧ ∃ v11, some (AVal.ptr r 0)
 = some v11 ∧ cellv v8 = true ∧ ∃ H12, stC H9 v11 [v8] = some H12 ∧ K (AEnd.ret (AVal.tuple [])) H12 i10) (true = true ∧ ∃ v13, some (AVal.ptr r 0) = some v13 ∧ cellv o = true ∧ ∃
 H14, stC H v13 [o] = some H14 ∧ K (AEnd.ret (AVal.tuple [])) H14 nx)) (true = true ∧ ∃ v15, some (AVal.ptr r 0) = some v15 ∧ cellv o = true ∧ ∃ H16, stC H v15 [o] = some H16 ∧ K
 (AEnd.ret (AVal.tuple [])) H16 nx)
theorem GSetA_eq (call : CallP) (lp : Nat → LoopP) (lv : LeaveP) (lvc : LeaveC) (r : Nat) (b : Nat) (o : AVal) (put : Bool) (e : Bool) (H : Heap) (nx : Nat) (K : EndP) : contAt PG call (lp 98) 98 (codeOf PG 25) [1,1,1,1,0,1,0] (endK PG lv lvc K (resOf PG 25)) (.exit 0) (envL .und [(0, AVal.ptr r 0), (3, AVal.ptr b 0), (4, o), (5, AVal.bool put), (6, AVal.bool e)]) H nx [] none = GSetA call lp lv lvc r b o put e H nx K := by kernel_rfl
def GSc (call : CallP) (lp : Nat → LoopP) (N : KC) (X : Nat → KC) (R : KC) (Pn : List (AVal × Bool) → KC) (p : Nat) (q : Nat) (i : Int) (H : Heap) (nx : Nat) : Prop :=
 ∃ v0, some (AVal.ptr p 4) = some v0 ∧ ∃ v1, ld1 H v0 = some v1 ∧ ∃ i2, lenS v1 = some i2 ∧ ifB (decide (i < Int.ofNat i2)) (∃ v3, some (AVal.ptr p 4) = some v3 ∧ ∃ v4, ld1 H v3 =
 some v4 ∧ 0 ≤ i ∧ ∃ v5, idxS v4 i.toNat 2 = some v5 ∧ ∃ n6 n7 : Int, ldN H 2 v5 = some (AVal.agg [iv n6, iv n7]) ∧ ∃ v8, some (AVal.ptr q 4) = some v8 ∧ ∃ v9, ld1 H v8 = some v9 ∧ 0
 ≤ i ∧ ∃ v10, idxS v9 i.toNat 2 = some v10 ∧ ∃ n11 n12 : Int, ldN H 2 v10 = some (AVal.agg [iv n11, iv n12]) ∧ true = true ∧ ((∃ v13, ld1 H v3 = some v13 ∧ v13 = v4) ∧ (∃ n14 n15 :
 Int, ldN H 2 v5 = some (AVal.agg [iv n14, iv n15]) ∧ AVal.agg [iv n14, iv n15] = AVal.agg [iv n6, iv n7]) ∧ (∃ v16, ld1 H v8 = some v16 ∧ v16 = v9) ∧ (∃ n17 n18 : Int, ldN H 2 v10 =
 some (AVal.agg [iv n17, iv n18]) ∧ AVal.agg [iv n17, iv n18] = AVal.agg [iv n11, iv n12]) ∧ True) ∧ ifB (!(decide (n6 = n11) && (decide (n7 = n12) && true))) (R (envL AVal.und [(2,
 AVal.ptr p 0), (3, AVal.ptr q 0), (4, AVal.bool false), (5, iv i)]) H (nx + 11) [] none) (N (envL AVal.und [(2, AVal.ptr p 0), (3, AVal.ptr q 0), (4, AVal.bool false), (5, iv
 (IntKind.i64.wrap (i + 1)))]) H (nx + 11) [] none)) (X 0 (envL AVal.und [(2, AVal.ptr p 0), (3, AVal.ptr q 0), (4, AVal.bool false), (5, iv i)]) H nx [] none)
theorem GSc_eq (call : CallP) (lp : Nat → LoopP) (N : KC) (X : Nat → KC) (R : KC) (Pn : List (AVal × Bool) → KC) (p : Nat) (q : Nat) (i : Int) (H : Heap) (nx : Nat) : vK PG call (lp 59) 59 (subAt (codeOf PG 12) [1,1,0,1,0,0]) (envL .und [(2, AVal.ptr p 0), (3, AVal.ptr q 0), (4, AVal.bool false), (5, iv i)]) H nx [] none (trimK [2,3,4,5] (loopK N X R Pn)) = GSc call lp N X R Pn p q i H nx := by kernel_rfl
def GScA (call : CallP) (lp : Nat → LoopP) (lv : LeaveP) (lvc : LeaveC) (_u : Nat) (H : Heap) (nx : Nat) (K : EndP) : Prop :=
 K (AEnd.ret (AVal.bool true)) H nx
theorem GScA_eq (call : CallP) (lp : Nat → LoopP) (lv : LeaveP) (lvc : LeaveC) (_u : Nat) (H : Heap) (nx : Nat) (K : EndP) : contAt PG call (lp 59) 59 (codeOf PG 12) [1,1,0,1,0] (endK PG lv lvc K (resOf PG 12)) (.exit 0) (envL .und [(4, AVal.bool false)]) H nx [] none = GScA call lp lv lvc _u H nx K := by kernel_rfl
end Go.Vs
end
section
namespace Go.Vs
open Go.Proofs Go.Sort Go.Hp
variable [GTab]
noncomputable section
section
variable {M : MM} {A A' : Owned} {F : Facts} {H : Heap} {nx : Nat} {K : EndP}
theorem gadd1_ok {q : Nat} {x y s0 s1 : Int} (h : SM M A F H nx) (hq : Own A q [iv s0, iv s1]) (hK : ∀ H', SM M A F H' (nx + 1) → K (.ret (.bool (decide (x = s0)))) H' (nx + 1)) :
  TriP PG f_pf_Add_1 [.agg [iv x, iv y], .ptr q 0] H nx K := by
 refine TriP.of_body mixed ?_
 rw [Fpf_Add_1_eq]
 unfold Fpf_Add_1
 exact h.newL (Nat.le_refl _) fun H0 p0 => ⟨_, rfl, _, p0.ld1 .hd 0, _, rfl, _, p0.ld1 (.tl hq) 0, hK H0 p0.drop⟩
def hasT (ts : Ts) (s : Int) : Bool := ts.any fun p => decide (p.1 = s)
theorem RIdx_eq (call : CallP) (lp : LoopP) (lv : LeaveP) (lvc : LeaveC) (K : EndP) (o : AVal) (f : AVal) (w n i : Int) (H : Heap) (nx : Nat) (rc : Option AMode) :
  contAt PG call lp 19 (codeOf PG 27) [1, 0, 1, 0] (endK PG lv lvc K (resOf PG 27)) .ret (envL .und [(0, o), (1, f), (4, iv w), (6, o), (7, iv n), (8, iv i)]) H nx [] rc = K (.ret (iv w)) H nx := by kernel_rfl
theorem index_ok {o : AVal} {ts : Ts} {q : Nat} {s0 s1 : Int} (h : SM M A F H nx) (ht : TyR o ts ∈ F) (hq : Own A q [iv s0, iv s1]) (hN : ts.length ≤ 1000)
  (hK : ∀ (j : Int) H' nx', nx ≤ nx' → SM M A F H' nx' → decide (0 ≤ j) = hasT ts s0 → K (.ret (iv j)) H' nx') :
  TriP PG f_sl_IndexFunc___prof_Seen_prof_Seen_ [o, .func (.func 19) [] [.ptr q 0]] H nx K := by
 refine TriP.of_body mixed ?_
 rw [Fsl_IndexFunc___prof_Seen_prof_Seen__eq]
 unfold Fsl_IndexFunc___prof_Seen_prof_Seen_
 refine ⟨_, gty_len h ht, ?_⟩
 refine loop_w (P := PG) (X := Nat) (Y := Unit) (fun i => envL .und [(0, o), (1, .func (.func 19) [] [.ptr q 0]), (4, iv 0), (6, o), (7, iv (ts.length : Int)), (8, iv (i : Int))]) (fun _ => envL .und [(4, iv 0)])
  (fun m i H1 nx1 => nx ≤ nx1 ∧ SM M A F H1 nx1 ∧ m = ts.length - i ∧ i ≤ ts.length ∧ hasT (ts.take i) s0 = false)
  (fun id _ H1 nx1 => id = 0 ∧ nx ≤ nx1 ∧ SM M A F H1 nx1 ∧ hasT ts s0 = false) ts.length 0 (EnvLe.of_list (by exact ⟨rfl, rfl, rfl, rfl, rfl, rfl, trivial⟩)) ⟨Nat.le_refl _, h, rfl, Nat.zero_le _, by simp [hasT]⟩ ?_ ?_
 ·rintro m i H1 nx1 ⟨g1, p, rfl, hi, hno⟩
  refine WpP.part (ts := [0, 1, 4, 6, 7, 8]) mixed ?_
  rw [GIdx_eq]
  unfold GIdx
  refine ifB_iff.2 ⟨fun hc => ?_, fun hc => ?_⟩
  ·have hc : (i : Int) < (ts.length : Int) := of_decide_eq_true hc
   have hil : i < ts.length := by omega
   obtain ⟨v, i1, i2⟩ := gty_idx p ht hil
   have e1 : IntKind.i64.wrap ((i : Int) + 1) = ((i + 1 : Nat) : Int) := by rw [wrap64_id (by omega) (by omega)]; omega
   have htk : hasT (ts.take (i + 1)) s0 = decide ((ts[i]'hil).1 = s0) := by
    unfold hasT at hno ⊢
    rw [List.take_add_one, List.any_append, hno]
    simp [List.getElem?_eq_getElem hil]
   refine ⟨by omega, _, i1, _, _, i2, _, _, rfl, ?_⟩
   refine gadd1_ok p hq fun H2 p2 => onEnd_ret.2 ⟨_, rfl, ifB_iff.2 ⟨fun hd => ?_, fun hd => ?_⟩⟩
   ·show contAt PG _ _ 19 _ _ _ _ _ _ _ _ _
    rw [RIdx_eq]
    refine hK _ H2 _ (by omega) p2 ?_
    have : hasT ts s0 = true := by
     unfold hasT
     rw [List.any_eq_true]
     exact ⟨ts[i], List.getElem_mem hil, hd⟩
    rw [this]; exact decide_eq_true (by omega)
   ·rw [e1]
    exact ⟨rfl, ts.length - (i + 1), i + 1, by omega, EnvLe.of_list (by exact ⟨rfl, rfl, rfl, rfl, rfl, rfl, trivial⟩), by omega, p2, rfl, by omega, by rw [htk]; exact hd⟩
  ·have hc : ¬ (i : Int) < (ts.length : Int) := of_decide_eq_false hc
   have : i = ts.length := by omega
   subst this
   rw [List.take_length] at hno
   exact ⟨rfl, (), EnvLe.of_list (by exact ⟨rfl, trivial⟩), rfl, g1, p, hno⟩
 ·rintro id _ H1 nx1 ⟨rfl, g1, p, hno⟩
  rw [GIdxA_eq (_u := 0)]
  unfold GIdxA
  exact hK _ H1 nx1 g1 p (by rw [hno]; rfl)
theorem contains_ok {o : AVal} {ts : Ts} {q : Nat} {s0 s1 : Int} (h : SM M A F H nx) (ht : TyR o ts ∈ F) (hq : Own A q [iv s0, iv s1]) (hN : ts.length ≤ 1000)
  (hK : ∀ H' nx', nx ≤ nx' → SM M A F H' nx' → K (.ret (.bool (hasT ts s0))) H' nx') :
  TriP PG f_sl_ContainsFunc___prof_Seen_prof_Seen_ [o, .func (.func 19) [] [.ptr q 0]] H nx K := by
 refine TriP.of_body mixed ?_
 rw [Fsl_ContainsFunc___prof_Seen_prof_Seen__eq]
 unfold Fsl_ContainsFunc___prof_Seen_prof_Seen_
 refine index_ok h ht hq hN fun j H' nx' g p e => onEnd_ret.2 ⟨_, rfl, ?_⟩
 rw [e]
 exact hK H' nx' g p
def okTs : Ts → Ts → Bool
 | _, [] => true
 | pre, p :: ts => sm p.1 && (sm p.2 && (!hasT pre p.1 && okTs (pre ++ [p]) ts))
def Cnt.ok (c : Cnt) : Bool := sm c.a && (sm c.b && (sm c.c && (sm c.d && (decide (c.ts.length ≤ 4) && okTs [] c.ts))))
theorem ok_len {c : Cnt} (h : c.ok = true) : c.ts.length ≤ 4 := by
 unfold Cnt.ok at h
 simp only [Bool.and_eq_true, decide_eq_true_eq] at h
 exact h.2.2.2.2.1
def gents (L : List (Nat × GRow)) : List AEnt := ents (L.map fun q => (q.1, q.2.v)) 0
def EntF (L : List (Nat × GRow)) : GH → Prop := fun Γ => ∀ q ∈ L, Γ q.1 = some q.2.v.vals ∧ TyR q.2.1 q.2.2.ts Γ
def cnts (L : List (Nat × GRow)) : List Cnt := L.map fun q => q.2.2
def updE (c : Nat) (x : GRow) : List (Nat × GRow) → List (Nat × GRow)
 | [] => [(c, x)]
 | y :: L => if x.2.at_ y.2.2 = true then (c, x) :: L else y :: updE c x L
theorem updE_cnts (c : Nat) (x : GRow) : ∀ L, cnts (updE c x L) = updL x.2 (cnts L)
 | [] => rfl
 | y :: L => by
  unfold updE cnts
  rw [List.map_cons]
  unfold updL
  split
  ·rfl
  ·rw [List.map_cons]
   exact congrArg _ (updE_cnts c x L)
theorem updE_mem {c : Nat} {x : GRow} {q : Nat × GRow} : ∀ {L : List (Nat × GRow)}, q ∈ updE c x L → q = (c, x) ∨ q ∈ L
 | [], h => by simp [updE] at h; exact .inl h
 | y :: L, h => by
  unfold updE at h
  split at h
  ·rcases List.mem_cons.1 h with h | h
   ·exact .inl h
   ·exact .inr (List.mem_cons_of_mem _ h)
  ·rcases List.mem_cons.1 h with h | h
   ·subst h; exact .inr (List.mem_cons_self ..)
   ·rcases updE_mem h with h | h
    ·exact .inl h
    ·exact .inr (List.mem_cons_of_mem _ h)
theorem keyEq_pl (f g a b : Int) : keyEq PG 53 (.agg [iv f, iv g]) (.agg [iv a, iv b]) = some (decide (f = a) && decide (g = b)) := by
 unfold keyEq
 have : structOK PG 53 [iv f, iv g].length = true := key_ok
 simp only [this]
 simp only [aggEq, decide_true]
 congr 1
 by_cases h1 : f = a <;> by_cases h2 : g = b <;> simp [h1, h2]
def toV (q : Nat × GRow) : Nat × VRow := (q.1, q.2.v)
theorem find_ent (c : Nat) (x : GRow) : ∀ (L : List (Nat × GRow)) (i k : Nat),
  (findA PG 53 (.agg [iv x.2.a, iv x.2.b]) (ents (L.map toV) i) k = some none ∧ ents ((updE c x L).map toV) i = ents (L.map toV) i ++ [⟨.agg [iv x.2.a, iv x.2.b], .ptr c 0, i + L.length⟩] ∧ (updE c x L).length = L.length + 1 ∧ findL x.2.a x.2.b (cnts L) = none) ∨
  (∃ j q, findA PG 53 (.agg [iv x.2.a, iv x.2.b]) (ents (L.map toV) i) k = some (some (k + j, .ptr q.1 0)) ∧ q ∈ L ∧ findL x.2.a x.2.b (cnts L) = some q.2.2 ∧ setEnt (.agg [iv x.2.a, iv x.2.b]) (.ptr c 0) (ents (L.map toV) i) j = ents ((updE c x L).map toV) i ∧ (updE c x L).length = L.length)
 | [], i, k => .inl ⟨rfl, rfl, rfl, rfl⟩
 | y :: L, i, k => by
  have ek : keyEq PG 53 (.agg [iv x.2.a, iv x.2.b]) (.agg [iv y.2.2.a, iv y.2.2.b]) = some (x.2.at_ y.2.2) := by
   rw [keyEq_pl]
   unfold Cnt.at_
   rw [show decide (x.2.a = y.2.2.a) = decide (y.2.2.a = x.2.a) from decide_eq_decide.2 ⟨Eq.symm, Eq.symm⟩, show decide (x.2.b = y.2.2.b) = decide (y.2.2.b = x.2.b) from decide_eq_decide.2 ⟨Eq.symm, Eq.symm⟩]
  have e1 : ents ((y :: L).map toV) i = ⟨.agg [iv y.2.2.a, iv y.2.2.b], .ptr y.1 0, i⟩ :: ents (L.map toV) (i + 1) := rfl
  have ef : findL x.2.a x.2.b (cnts (y :: L)) = if x.2.at_ y.2.2 = true then some y.2.2 else findL x.2.a x.2.b (cnts L) := by
   unfold cnts findL
   rw [List.map_cons, List.find?_cons]
   show (match x.2.at_ y.2.2 with | true => _ | false => _) = _
   cases x.2.at_ y.2.2 <;> rfl
  cases ha : x.2.at_ y.2.2 with
  | true =>
   refine .inr ⟨0, y, ?_, List.mem_cons_self .., ?_, ?_, ?_⟩
   ·rw [e1]; unfold findA; simp only [ek, ha]; rfl
   ·rw [ef, if_pos ha]
   ·rw [e1]; unfold updE; rw [if_pos ha]; rfl
   ·unfold updE; rw [if_pos ha]; rfl
  | false =>
   have hu : updE c x (y :: L) = y :: updE c x L := by
    show (if x.2.at_ y.2.2 = true then _ else _) = _
    rw [if_neg (by rw [ha]; decide)]
   have e2 : ents ((y :: updE c x L).map toV) i = ⟨.agg [iv y.2.2.a, iv y.2.2.b], .ptr y.1 0, i⟩ :: ents ((updE c x L).map toV) (i + 1) := rfl
   rw [hu, ef, if_neg (by rw [ha]; decide), e1, e2]
   have hf : ∀ es, findA PG 53 (.agg [iv x.2.a, iv x.2.b]) (⟨.agg [iv y.2.2.a, iv y.2.2.b], .ptr y.1 0, i⟩ :: es) k = findA PG 53 (.agg [iv x.2.a, iv x.2.b]) es (k + 1) := fun es => by
    show (match keyEq PG 53 (.agg [iv x.2.a, iv x.2.b]) (.agg [iv y.2.2.a, iv y.2.2.b]) with | some true => _ | some false => _ | none => _) = _
    rw [ek, ha]
   rw [hf]
   rcases find_ent c x L (i + 1) (k + 1) with ⟨h1, h2, h3, h4⟩ | ⟨j, q, h1, h2, h3, h4, h5⟩
   ·exact .inl ⟨h1, by rw [h2, List.cons_append, List.length_cons, show i + 1 + L.length = i + (L.length + 1) by omega], by simp [h3], h4⟩
   ·refine .inr ⟨j + 1, q, by rw [h1, show k + 1 + j = k + (j + 1) by omega], List.mem_cons_of_mem _ h2, h3, ?_, by simp [h5]⟩
    show _ :: setEnt _ _ _ j = _
    rw [h4]
theorem RAdd_eq (call : CallP) (lp : LoopP) (lv : LeaveP) (lvc : LeaveC) (K : EndP) (p b : Nat) (o : AVal) (n i : Int) (w : Bool) (H : Heap) (nx : Nat) (rc : Option AMode) :
  contAt PG call lp 74 (codeOf PG 8) [1, 1, 0, 1, 0] (endK PG lv lvc K (resOf PG 8)) .ret (envL .und [(0, .ptr p 0), (3, .ptr b 0), (4, .bool w), (37, o), (38, iv n), (39, iv i)]) H nx [] rc = K (.ret (.bool w)) H nx := by kernel_rfl
theorem gadd_ok {p mb : Nat} {L : List (Nat × GRow)} {x : GRow} (h : SM M A F H nx) (hp : RowF p [.map mb] ∈ F) (hm : M mb = some (.map (gents L) L.length)) (hL : EntF L ∈ F) (hx : TyR x.1 x.2.ts ∈ F)
  (hno : x.2.ok = false → ∀ H' nx', nx ≤ nx' → SM M A F H' nx' → K (.ret (.bool false)) H' nx')
  (hyes : x.2.ok = true → ∀ L' M' H' nx', nx ≤ nx' → cnts L' = updL x.2 (cnts L) → M' mb = some (.map (gents L') L'.length) → SM M' A (EntF L' :: F) H' nx' → K (.ret (.bool true)) H' nx') :
  TriP PG f_pf_Add [.ptr p 0, .agg [iv x.2.a, iv x.2.b, iv x.2.c, iv x.2.d, x.1]] H nx K := by
 refine TriP.of_body mixed ?_
 rw [Fpf_Add_eq]
 unfold Fpf_Add
 have neg : ∀ b : Bool, (!b) = true → b = false := by decide
 have pos : ∀ b : Bool, (!b) = false → b = true := by decide
 refine h.newL (Nat.le_refl _) fun H0 p0 => ?_
 have no0 : x.2.ok = false → K (.ret (.bool false)) H0 (nx + 1) := fun e => hno e H0 _ (by omega) p0.drop
 refine ⟨_, rfl, _, p0.ld1 .hd 0, gsmall_ok (onEnd_ret.2 ⟨_, rfl, ifB_iff.2 ⟨fun e => no0 (by unfold Cnt.ok; rw [neg _ e]; rfl), fun ea => ?_⟩⟩)⟩
 refine ⟨_, rfl, _, p0.ld1 .hd 1, gsmall_ok (onEnd_ret.2 ⟨_, rfl, ifB_iff.2 ⟨fun e => no0 (by unfold Cnt.ok; rw [neg _ e]; simp), fun eb => ?_⟩⟩)⟩
 refine ⟨_, rfl, _, p0.ld1 .hd 2, gsmall_ok (onEnd_ret.2 ⟨_, rfl, ifB_iff.2 ⟨fun e => no0 (by unfold Cnt.ok; rw [neg _ e]; simp), fun ec => ?_⟩⟩)⟩
 refine ⟨_, rfl, _, p0.ld1 .hd 3, gsmall_ok (onEnd_ret.2 ⟨_, rfl, ifB_iff.2 ⟨fun e => no0 (by unfold Cnt.ok; rw [neg _ e]; simp), fun ed => ?_⟩⟩)⟩
 refine ⟨_, rfl, _, p0.ld1 .hd 4, _, gty_len p0 hx, ifB_iff.2 ⟨fun e => no0 ?_, fun e => ?_⟩⟩
 ·have e : 4 < Int.ofNat x.2.ts.length := of_decide_eq_true e
  simp only [Int.ofNat_eq_natCast] at e
  unfold Cnt.ok
  rw [decide_eq_false (show ¬ x.2.ts.length ≤ 4 by omega)]; simp
 have e : ¬ 4 < Int.ofNat x.2.ts.length := of_decide_eq_false e
 simp only [Int.ofNat_eq_natCast] at e
 have hok : x.2.ok = okTs [] x.2.ts := by
  unfold Cnt.ok
  rw [pos _ ea, pos _ eb, pos _ ec, pos _ ed, decide_eq_true (show x.2.ts.length ≤ 4 by omega)]; rfl
 refine ⟨_, rfl, _, p0.ld1 .hd 4, _, gty_len p0 hx, ?_⟩
 refine loop_w (P := PG) (X := Nat) (Y := Unit) (fun i => envL .und [(0, .ptr p 0), (3, .ptr nx 0), (4, .bool false), (37, x.1), (38, iv (x.2.ts.length : Int)), (39, iv (i : Int))]) (fun _ => envL .und [(0, .ptr p 0), (3, .ptr nx 0)])
  (fun m i H1 nx1 => nx + 1 ≤ nx1 ∧ SM M ((nx, x.v.vals) :: A) F H1 nx1 ∧ m = x.2.ts.length - i ∧ i ≤ x.2.ts.length ∧ okTs [] x.2.ts = okTs (x.2.ts.take i) (x.2.ts.drop i))
  (fun id _ H1 nx1 => id = 0 ∧ nx + 1 ≤ nx1 ∧ SM M ((nx, x.v.vals) :: A) F H1 nx1 ∧ x.2.ok = true) x.2.ts.length 0 (EnvLe.of_list (by exact ⟨rfl, rfl, rfl, rfl, rfl, rfl, trivial⟩)) ⟨Nat.le_refl _, p0, rfl, Nat.zero_le _, by simp⟩ ?_ ?_
 ·rintro m i H1 nx1 ⟨g1, p1, rfl, hi, ho⟩
  refine WpP.part (ts := [0, 3, 4, 37, 38, 39]) mixed ?_
  rw [GAddL_eq]
  unfold GAddL
  refine ifB_iff.2 ⟨fun hc => ?_, fun hc => ?_⟩
  ·have hc : (i : Int) < (x.2.ts.length : Int) := of_decide_eq_true hc
   have hil : i < x.2.ts.length := by omega
   obtain ⟨v, i1, i2⟩ := gty_idx p1 hx hil
   have hd : x.2.ts.drop i = x.2.ts[i] :: x.2.ts.drop (i + 1) := List.drop_eq_getElem_cons hil
   have htk : x.2.ts.take (i + 1) = x.2.ts.take i ++ [x.2.ts[i]] := by rw [List.take_add_one, List.getElem?_eq_getElem hil]; rfl
   rw [hd] at ho
   refine ⟨by omega, _, i1, _, _, i2, ?_⟩
   refine p1.new (Nat.le_refl _) fun H2 p2 => p2.all .hd rfl rfl fun H3 p3 => ?_
   have ret : x.2.ok = false → ∀ H' nx', nx1 ≤ nx' → SM M ((nx, x.v.vals) :: A) F H' nx' → K (.ret (.bool false)) H' nx' := fun e H' nx' g q => hno e H' nx' (by omega) q.drop
   refine ⟨_, rfl, _, p3.ld1 .hd 0, gsmall_ok (onEnd_ret.2 ⟨_, rfl, ifB_iff.2 ⟨fun e => ?_, fun e1 => ?_⟩⟩)⟩
   ·show contAt PG _ _ 74 _ _ _ _ _ _ _ _ _
    rw [RAdd_eq]
    exact ret (by rw [hok, ho]; unfold okTs; rw [neg _ e]; rfl) H3 _ (by omega) p3.drop
   refine ⟨_, rfl, _, p3.ld1 .hd 1, gsmall_ok (onEnd_ret.2 ⟨_, rfl, ifB_iff.2 ⟨fun e => ?_, fun e2 => ?_⟩⟩)⟩
   ·show contAt PG _ _ 74 _ _ _ _ _ _ _ _ _
    rw [RAdd_eq]
    exact ret (by rw [hok, ho]; unfold okTs; rw [neg _ e]; simp) H3 _ (by omega) p3.drop
   obtain ⟨t', s1, p4⟩ := gty_slc p3 hx (i := i) (by omega) (fun e => by rw [e] at hil; simp at hil)
   refine ⟨_, rfl, _, p4.ld1 (.tl .hd) 4, by omega, _, s1, ?_⟩
   refine contains_ok p4 (.head _) .hd (by simp; omega) fun H4 n4 g4 p5 => onEnd_ret.2 ⟨_, rfl, ifB_iff.2 ⟨fun e => ?_, fun e3 => ?_⟩⟩
   ·show contAt PG _ _ 74 _ _ _ _ _ _ _ _ _
    rw [RAdd_eq]
    exact ret (by rw [hok, ho]; unfold okTs; rw [e]; simp) H4 _ (by omega) (p5.drop.sub fun P hP => .tail _ hP)
   ·have e0 : IntKind.i64.wrap ((i : Int) + 1) = ((i + 1 : Nat) : Int) := by rw [wrap64_id (by omega) (by omega)]; omega
    rw [e0]
    refine ⟨rfl, x.2.ts.length - (i + 1), i + 1, by omega, EnvLe.of_list (by exact ⟨rfl, rfl, rfl, rfl, rfl, rfl, trivial⟩), by omega, p5.drop.sub fun P hP => .tail _ hP, rfl, by omega, ?_⟩
    rw [ho, htk]
    conv => lhs; unfold okTs
    rw [pos _ e1, pos _ e2, e3]; rfl
  ·have hc : ¬ (i : Int) < (x.2.ts.length : Int) := of_decide_eq_false hc
   have : i = x.2.ts.length := by omega
   refine ⟨rfl, (), EnvLe.of_list (by exact ⟨rfl, rfl, trivial⟩), rfl, g1, p1, ?_⟩
   rw [hok, ho, this, List.drop_length]; rfl
 ·rintro id _ H1 nx1 ⟨rfl, g1, p1, hok1⟩
  rw [GAddA_eq]
  unfold GAddA
  refine ⟨_, _, _, _, _, p1.ldAll .hd rfl, ?_⟩
  refine gcopied_ok p1 hx (by omega) fun e full H2 n2 g2 p2 => onEnd_ret.2 ⟨_, _, _, _, _, rfl, ?_⟩
  refine p2.new (Nat.le_refl _) fun H3 p3 => p3.all .hd rfl rfl fun H4 p4 => ?_
  have lp : ld1 H4 (.ptr p 0) = some (.map mb) := p4.row1 hp 0
  have la : ld1 H4 (.ptr nx 0) = some (iv x.2.a) := p4.ld1 (.tl (.tl .hd)) 0
  have lb : ld1 H4 (.ptr nx 1) = some (iv x.2.b) := p4.ld1 (.tl (.tl .hd)) 1
  have p5 := (p4.more (nx' := n2 + 1 + 10) (by omega)).freeze.freeze.drop
  have fin : ∀ o2 L', L' = updE n2 (.slice e 0 x.2.ts.length 2 full, x.2) L → o2 = AObj.map (gents L') L'.length → K (.ret (.bool true)) (set5 mb (some o2) H4) (n2 + 1 + 10) := by
   rintro o2 L' rfl rfl
   have p6 := p5.setM (o2 := AObj.map (gents (updE n2 (.slice e 0 x.2.ts.length 2 full, x.2) L)) (updE n2 (.slice e 0 x.2.ts.length 2 full, x.2) L).length) hm
   refine hyes hok1 _ _ _ _ (by omega) (updE_cnts n2 (.slice e 0 x.2.ts.length 2 full, x.2) L) (mup_same _ _ _) (SM.sub (SM.add p6 (P := EntF (updE n2 (.slice e 0 x.2.ts.length 2 full, x.2) L)) fun Γ q => ?_) ?_)
   ·intro r hr
    rcases updE_mem hr with rfl | hr
    ·exact ⟨q _ (.tail _ (.head _)), TyR.row (q (RowF e (tcells x.2.ts)) (.head _))⟩
    ·exact q (EntF L) (.tail _ (.tail _ hL)) r hr
   ·intro P hP
    rcases List.mem_cons.1 hP with rfl | hP
    ·exact .head _
    ·exact .tail _ (.tail _ (.tail _ hP))
  refine ⟨rfl, _, rfl, _, lp, _, rfl, _, la, _, rfl, _, lb, rfl, rfl, ⟨⟨_, lp, rfl⟩, ⟨_, la, rfl⟩, ⟨_, lb, rfl⟩, trivial⟩, rfl, mb, gents L, L.length, rfl, p4.atM hm, ?_⟩
  rcases find_ent n2 (.slice e 0 x.2.ts.length 2 full, x.2) L 0 0 with ⟨h1, h2, h3, _⟩ | ⟨j, q, h1, h2, _, h4, h5⟩
  ·refine ⟨none, h1, fun _ _ q => (by cases q), fun _ => ⟨_, rfl, trivial, fin _ _ rfl ?_⟩⟩
   show AObj.map _ _ = AObj.map (ents _ 0) _
   have : gents (updE n2 (.slice e 0 x.2.ts.length 2 full, x.2) L) = gents L ++ [⟨.agg [iv x.2.a, iv x.2.b], .ptr n2 0, L.length⟩] := by
    have := h2; rw [Nat.zero_add] at this; exact this
   rw [show ents ((updE n2 (.slice e 0 x.2.ts.length 2 full, x.2) L).map fun q => (q.1, q.2.v)) 0 = gents (updE n2 (.slice e 0 x.2.ts.length 2 full, x.2) L) from rfl, this, h3]
  ·refine ⟨some (0 + j, .ptr q.1 0), h1, fun i v eq => ?_, fun q => (by cases q)⟩
   cases eq
   refine ⟨_, rfl, trivial, fin _ _ rfl ?_⟩
   rw [Nat.zero_add, h5]
   exact congrArg (fun l => AObj.map l L.length) h4
end
end
end Go.Vs
end
section
namespace Go.Vs
open Go.Proofs Go.Sort Go.Hp
variable [GTab]
noncomputable section
section
variable {M : MM} {A A' : Owned} {F : Facts} {H : Heap} {nx : Nat} {K : EndP}
theorem HZ.turn {Z : Nat → Prop} {Γ : GH} {H : Heap} {nx b : Nat} {cs : List AVal} (h : HZ Z Γ H nx) (e : Γ b = some cs) : ∃ ct olds, H b = some (.cells cs.length ct olds false) ∧ ct.take cs.length = cs ∧
  ∀ vs, vs.length = cs.length → HZ Z (gup b (some vs) Γ) (set5 b (some (.cells cs.length (CT.lay vs 0 ct) [] false)) (dels olds H)) nx ∧ ∀ z, Z z → set5 b (some (.cells cs.length (CT.lay vs 0 ct) [] false)) (dels olds H) z = H z := by
 obtain ⟨hb, olds, ⟨ct, h2, h2'⟩, h3⟩ := h.2 b cs e
 have hl := take_len h2' rfl
 refine ⟨ct, olds, h2, h2', fun vs hv => ⟨⟨h.1, ?_⟩, ?_⟩⟩
 ·intro c ds ec
  by_cases hc : c = b
  ·subst hc
   rw [gup_same] at ec; cases ec
   refine ⟨hb, [], ⟨_, by rw [set5_eq', hv], ?_⟩, by simp⟩
   rw [CT.lay_eq (by omega)]
   simp
  ·rw [gup_ne hc] at ec
   obtain ⟨h4, olds', ⟨ct', h5, h5'⟩, h6⟩ := h.2 c ds ec
   refine ⟨h4, olds', ⟨ct', ?_, h5'⟩, fun o hoo => ⟨(h6 o hoo).1, ?_⟩⟩
   ·rw [set5_ne' hc, dels_same (fun hm => by have := (h3 c hm).2; rw [ec] at this; cases this)]
    exact h5
   ·rw [gup_ne (fun x => by have := (h6 o hoo).2; rw [x, e] at this; cases this)]
    exact (h6 o hoo).2
 ·intro z hz
  rw [set5_ne' (fun x => hb.2 (by rw [← x]; exact hz)), dels_same (fun hm => (h3 z hm).1.2 hz)]
theorem SM.turn {b : Nat} {cs : List AVal} (h : SM M ((b, cs) :: A) F H nx) : ∃ ct olds, get5 b H = some (.cells cs.length ct olds false) ∧ ct.take cs.length = cs ∧
  ∀ vs, vs.length = cs.length → SM M ((b, vs) :: A) F (set5 b (some (.cells cs.length (CT.lay vs 0 ct) [] false)) (dels olds H)) nx := by
 obtain ⟨Γ, g1, g2, g3⟩ := h
 obtain ⟨ct, olds, h1, h2, h3⟩ := g1.1.turn (g2.at .hd)
 refine ⟨ct, olds, h1, h2, fun vs hv => ?_⟩
 obtain ⟨q1, q2⟩ := h3 vs hv
 obtain ⟨u1, u2⟩ := (Upd.hd (A := A) (b := b) (cs := cs) (ds := vs)).over g2
 exact ⟨Γ, by rw [u1]; exact ⟨q1, fun z o hz => by rw [q2 z (fun x => by rw [hz] at x; cases x)]; exact g1.2 z o hz⟩, u2, g3⟩
def OutA (A A0 : Owned) (o : AVal) (rows : List VRow) : Prop := (rows = [] ∧ o = .nilSlice ∧ A0 = A) ∨ (∃ b, o = .slice b 0 rows.length 5 false ∧ A0 = (b, rows.flatMap VRow.vals) :: A)
def OutS (M : MM) (A : Owned) (F : Facts) (o : AVal) (rows : List VRow) (H : Heap) (nx : Nat) : Prop := ∃ A0, OutA A A0 o rows ∧ SM M A0 F H nx
theorem OutA.cell {A0 : Owned} {o : AVal} {rows : List VRow} (h : OutA A A0 o rows) : cellv o = true := by
 rcases h with ⟨_, rfl, _⟩ | ⟨b, rfl, _⟩ <;> rfl
theorem OutA.len {A0 : Owned} {o : AVal} {rows : List VRow} (h : OutA A A0 o rows) : lenS o = some rows.length := by
 rcases h with ⟨rfl, rfl, _⟩ | ⟨b, rfl, _⟩ <;> rfl
theorem OutA.app {A0 : Owned} {o : AVal} {rows : List VRow} {x : VRow} (h : OutA A A0 o rows) (p : SM M A0 F H nx) (hN : rows.length ≤ 4000) :
  ∃ v H', appC H nx 5 56 o 1 x.vals = some (v, H', nx + 1) ∧ OutS M A F v (rows ++ [x]) H' (nx + 1) := by
 have hf : (rows ++ [x]).flatMap VRow.vals = rows.flatMap VRow.vals ++ x.vals := by simp
 rcases h with ⟨rfl, rfl, rfl⟩ | ⟨b, rfl, rfl⟩
 ·obtain ⟨H', e, q⟩ := p.appNil (esz := 5) (ebytes := 56) (k := 1) (new := x.vals) (by rw [vals_len]) (by omega) (by omega) (by omega)
  exact ⟨_, H', e, _, .inr ⟨nx, rfl, by rw [hf]; rfl⟩, q⟩
 ·obtain ⟨H', e, q⟩ := p.app (len := rows.length) (esz := 5) (ebytes := 56) (k := 1) (new := x.vals) (by rw [flat_len]; omega) (by rw [vals_len]) (by omega) (by omega) (by omega)
  exact ⟨_, H', e, _, .inr ⟨nx, by rw [List.length_append]; rfl, by rw [hf]⟩, q⟩
theorem sort_ok {A0 : Owned} {o : AVal} {rows : List VRow} (ha : OutA A A0 o rows) (p : SM M A0 F H nx) (hs : ∀ v ∈ rows, ∃ e, v.t = .slice e 0 0 2 true) (hN : rows.length ≤ 4000)
  (hK : ∀ rows' A' H', rows.Perm rows' → (∀ (i j : Nat) (u v : VRow), i < j → rows'[i]? = some u → rows'[j]? = some v → lt2 v.a v.b u.a u.b = false) → OutA A A' o rows' → SM M A' F H' nx → K (.ret (.tuple [])) H' nx) :
  TriP PG f_sl_SortFunc___prof_Count_prof_Count_ [o, .func (.func 24) [] []] H nx K := by
 rcases ha with ⟨rfl, rfl, rfl⟩ | ⟨b, rfl, rfl⟩
 ·have hk := hK [] _ H (.refl _) (fun i j u v _ e => by simp at e) (.inl ⟨rfl, rfl, rfl⟩) p
  intro σ w args' R hr hd hR
  cases hd with
  | cons h1 t =>
   cases t with
   | cons h2 t =>
    cases t
    cases h1
    refine (sorts_none none 0 _ w).mono ?_
    rintro e w' ⟨rfl, rfl⟩
    exact hR _ _ _ σ _ _ hk hr (Ext.refl _ _ _ _) (by first | exact .ret (.tuple .nil) | exact .tuple .nil)
 ·obtain ⟨ct, olds, e1, e2, e3⟩ := p.turn
  refine TriP.of_sort sorts_c cmp_rows e1 ?_ (by rw [flat_len]; omega) (by omega) (fun v hv => ?_) fun rows' hp ho => ?_
  ·rw [← flat_len]; exact e2
  ·obtain ⟨e, he⟩ := hs v hv
   rw [he]
   exact ⟨rfl, fun _ _ _ _ q => by cases q⟩
  ·exact hK rows' _ _ hp ho (.inr ⟨b, by rw [hp.length_eq], rfl⟩) (e3 _ (by rw [flat_len, flat_len, hp.length_eq]))
theorem ents_mem : ∀ {L : List (Nat × VRow)} {i : Nat} {k v : AVal} {b : Nat}, ⟨k, v, b⟩ ∈ ents L i → ∃ c x, L[b - i]? = some (c, x) ∧ i ≤ b ∧ v = .ptr c 0
 | [], _, _, _, _, h => by cases h
 | (c, x) :: L, i, k, v, b, h => by
  unfold ents at h
  rcases List.mem_cons.1 h with e | h
  ·cases e; exact ⟨c, x, by simp, Nat.le_refl _, rfl⟩
  ·obtain ⟨c', x', h1, h2, h3⟩ := ents_mem h
   refine ⟨c', x', ?_, by omega, h3⟩
   rw [show b - i = (b - (i + 1)) + 1 by omega]; exact h1
theorem ents_born : ∀ (L : List (Nat × VRow)) (i : Nat), (ents L i).map (·.born) = List.range' i L.length
 | [], _ => rfl
 | (c, x) :: L, i => by
  unfold ents
  rw [List.map_cons, ents_born L (i + 1), List.length_cons, List.range'_succ]
theorem ents_once (L : List (Nat × VRow)) : bornOnce (ents L 0) = true := B?_iff.2 (by rw [ents_born]; exact List.nodup_range')
theorem ents_below (L : List (Nat × VRow)) : allBelow (ents L 0) L.length = true := B?_iff.2 fun e he => by
 have : e.born ∈ (ents L 0).map (·.born) := List.mem_map_of_mem he
 rw [ents_born] at this
 have := List.mem_range'_1.1 this
 omega
def keep (x : VRow) : Bool := decide (x.c ≠ 0 ∨ x.d ≠ 0)
def strip (x : VRow) : VRow := { x with t := .nilSlice }
def Told (L : List (Nat × VRow)) (seen : List Nat) (rows : List VRow) : Prop := rows.map strip = ((seen.map fun i => ((L[i]?).map (·.2)).getD default).filter keep).map strip
theorem Told.end {L : List (Nat × VRow)} {seen : List Nat} {rows : List VRow} (h : Told L seen rows) (hn : seen.Nodup) (hb : ∀ i ∈ seen, i < L.length) (ha : ∀ i, i < L.length → i ∈ seen) :
  (rows.map strip).Perm (((L.map (·.2)).filter keep).map strip) := by
 have h1 : seen.Perm (List.range L.length) := by
  refine (List.perm_ext_iff_of_nodup hn List.nodup_range).2 fun i => ?_
  rw [List.mem_range]
  exact ⟨hb i, ha i⟩
 rw [h]
 refine List.Perm.map _ (List.Perm.filter _ ?_)
 refine (h1.map _).trans ?_
 have : (List.range L.length).map (fun i => ((L[i]?).map (·.2)).getD default) = L.map (·.2) := by
  refine List.ext_getElem? fun i => ?_
  rw [List.getElem?_map, List.getElem?_map]
  by_cases hi : i < L.length
  ·rw [List.getElem?_range hi, List.getElem?_eq_getElem hi]
   simp [hi]
  ·rw [List.getElem?_eq_none (by simp; omega), List.getElem?_eq_none (by omega)]; rfl
 rw [this]
theorem all_code : subAt (codeOf PG 10) [1, 1, 0, 1, 0, 0] = .seq (subAt (codeOf PG 10) [1, 1, 0, 1, 0, 0, 0]) (.seq (.cond (.tmp 12) .skip (.exit 0)) (.block 1 (.seq (subAt (codeOf PG 10) [1, 1, 0, 1, 0, 0, 1, 1, 0, 0])
  (.seq (subAt (codeOf PG 10) [1, 1, 0, 1, 0, 0, 1, 1, 0, 1, 0]) (.cond (.tmp 34) (subAt (codeOf PG 10) [1, 1, 0, 1, 0, 0, 1, 1, 0, 1, 1, 0]) .skip))))) := by kernel_rfl
theorem len_ty {t : AVal} (h : SM M A F H nx) (ht : TyF t ∈ F) : lenS t = some 0 := by
 obtain ⟨Γ, h1, h2⟩ := h.factM ht
 rcases h2 with rfl | ⟨e, rfl, he⟩ <;> rfl
theorem cell_ty {t : AVal} (h : SM M A F H nx) (ht : TyF t ∈ F) : cellv t = true := by
 obtain ⟨Γ, h1, h2⟩ := h.factM ht
 rcases h2 with rfl | ⟨e, rfl, he⟩ <;> rfl
theorem all_round {it mb : Nat} {L : List (Nat × VRow)} {A0 : Owned} {o : AVal} {rows : List VRow} {c : Nat} {x : VRow} {seen : List Nat} {b : Nat} {k : AVal} {K0 : KP} (ha : OutA A A0 o rows) (p : SM M A0 F H nx) (hi : M it = some (.iter mb L.length (seen ++ [b]) L.length))
  (hm : M mb = some (.map (ents L 0) L.length)) (hin : entIn (ents L 0) k (.ptr c 0) b = true) (hc : RowF c x.vals ∈ F) (ht : TyF x.t ∈ F) (hN : rows.length ≤ 4000)
  (hno : keep x = false → ∀ env, EnvLe (envL .und [(3, o), (10, .ptr it 0)]) env → K0 .normal env H nx [] none)
  (hyes : ∀ e o' A' H' nx', keep x = true → nx ≤ nx' → OutA A A' o' (rows ++ [{ x with t := .slice e 0 0 2 true }]) → SM M A' F H' nx' → ∀ env, EnvLe (envL .und [(3, o'), (10, .ptr it 0)]) env → K0 .normal env H' nx' [] none) :
  WpP PG 45 (.block 1 (.seq (subAt (codeOf PG 10) [1, 1, 0, 1, 0, 0, 1, 1, 0, 0]) (.seq (subAt (codeOf PG 10) [1, 1, 0, 1, 0, 0, 1, 1, 0, 1, 0]) (.cond (.tmp 34) (subAt (codeOf PG 10) [1, 1, 0, 1, 0, 0, 1, 1, 0, 1, 1, 0]) .skip))))
   (envL .und [(3, o), (10, .ptr it 0), (12, .bool true)]) H nx [] K0 := by
 refine WpP.block (WpP.seq (WpP.part (ts := [3, 5, 10]) mixed ?_))
 rw [LAllE_eq]
 unfold LAllE
 refine ⟨it, mb, L.length, seen, L.length, ents L 0, k, .ptr c 0, b, rfl, p.atM hi, p.atM hm, hin, ents_once L, ?_⟩
 refine WpP.seq (WpP.part (ts := [3, 5, 10, 34]) mixed ?_)
 rw [LAllC_eq]
 unfold LAllC
 have told : keep x = true → WpP PG 45 (.cond (.tmp 34) (subAt (codeOf PG 10) [1, 1, 0, 1, 0, 0, 1, 1, 0, 1, 1, 0]) .skip) (envL .und [(3, o), (5, .ptr c 0), (10, .ptr it 0), (34, .bool true)]) H nx [] (blockK 1 K0) := by
  intro hk
  refine WpP.cond (p := true) rfl ?_
  refine WpP.part (ts := [3, 10]) mixed ?_
  rw [LAllA_eq]
  unfold LAllA
  refine ⟨rfl, _, _, _, _, _, p.rowAll hc (vals_len x).symm, ?_⟩
  refine copied_ok p ht (cell_ty p ht) fun e H1 n1 g1 p1 => onEnd_ret.2 ⟨_, _, _, _, _, rfl, ?_⟩
  refine p1.newF (Nat.le_refl _) fun H2 p2 => ?_
  have hx : ([iv x.a, iv x.b, iv x.c, iv x.d, .slice e 0 0 2 true] : List AVal) = ({ x with t := .slice e 0 0 2 true } : VRow).vals := rfl
  refine ⟨1, _, p2.src (b := n1) (off := 0) (n := 1) (sz := 5) (e := 5) (full := true) (.head _) (by simp), rfl, ?_⟩
  obtain ⟨v, H3, e3, A3, a3, p3⟩ := ha.app (x := { x with t := .slice e 0 0 2 true }) (p2.sub (G := F) fun P hP => .tail _ (.tail _ hP)) hN
  exact ⟨v, H3, _, e3, hyes e v A3 H3 _ hk (by omega) a3 p3 _ (EnvLe.of_list (by exact ⟨rfl, rfl, trivial⟩))⟩
 refine ⟨rfl, _, rfl, _, p.row1 hc 2, ifB_iff.2 ⟨fun hq => ?_, fun hq => ?_⟩⟩
 ·exact told (by
   unfold keep; have hq : x.c ≠ 0 := (by simpa using hq); simp [hq])
 ·have hq : x.c = 0 := by simpa using hq
  refine ⟨rfl, _, rfl, _, p.row1 hc 3, ifB_iff.2 ⟨fun hq2 => ?_, fun hq2 => ?_⟩⟩
  ·exact told (by
    unfold keep; have hq2 : x.d ≠ 0 := (by simpa using hq2); simp [hq2])
  ·have hq2 : x.d = 0 := by simpa using hq2
   refine ⟨rfl, _, rfl, _, p.row1 hc 4, 0, len_ty p ht, ?_⟩
   show WpP PG 45 _ _ _ _ _ (blockK 1 K0)
   refine WpP.cond (p := false) rfl (WpP.skip ?_)
   exact hno (by unfold keep; simp [hq, hq2]) _ (EnvLe.of_list (by exact ⟨rfl, rfl, trivial⟩))
end
end
end Go.Vs
end
section
namespace Go.Vs
open Go.Proofs Go.Sort Go.Hp
variable [GTab]
noncomputable section
section
variable {M : MM} {A A' : Owned} {F : Facts} {H : Heap} {nx : Nat} {K : EndP}
def AllR (L : List (Nat × VRow)) (rows : List VRow) : Prop :=
 (rows.map strip).Perm (((L.map (·.2)).filter keep).map strip) ∧ (∀ v ∈ rows, ∃ e, v.t = .slice e 0 0 2 true) ∧ ∀ (i j : Nat) (u v : VRow), i < j → rows[i]? = some u → rows[j]? = some v → lt2 v.a v.b u.a u.b = false
theorem AllR.len {L : List (Nat × VRow)} {rows : List VRow} (h : AllR L rows) : rows.length ≤ L.length := by
 have := h.1.length_eq
 simp only [List.length_map] at this
 have h2 := List.length_filter_le keep (L.map (·.2))
 simp at h2
 omega
theorem told_nil (L : List (Nat × VRow)) : Told L [] [] := rfl
theorem told_no {L : List (Nat × VRow)} {seen : List Nat} {rows : List VRow} {b c : Nat} {x : VRow} (h : Told L seen rows) (hb : L[b]? = some (c, x)) (hk : keep x = false) : Told L (seen ++ [b]) rows := by
 unfold Told at *
 rw [List.map_append, List.filter_append, List.map_append, ← h]
 simp [hb, hk]
theorem told_yes {L : List (Nat × VRow)} {seen : List Nat} {rows : List VRow} {b c : Nat} {x : VRow} {t : AVal} (h : Told L seen rows) (hb : L[b]? = some (c, x)) (hk : keep x = true) : Told L (seen ++ [b]) (rows ++ [{ x with t := t }]) := by
 unfold Told at *
 rw [List.map_append, List.map_append, List.filter_append, List.map_append, ← h]
 simp [hb, hk, strip]
theorem nodup_len : ∀ {n : Nat} {l : List Nat}, l.Nodup → (∀ i ∈ l, i < n) → l.length ≤ n
 | 0, l, _, hb => by
  cases l with
  | nil => exact Nat.le_refl _
  | cons a l => have := hb a (List.mem_cons_self ..); omega
 | n + 1, l, h, hb => by
  have ih := nodup_len (n := n) (h.erase n) fun i hi => by
   have h1 := (h.mem_erase_iff).1 hi
   have := hb i h1.2
   have := h1.1
   omega
  rw [List.length_erase] at ih
  split at ih <;> omega
theorem all_ok {p mb : Nat} {L : List (Nat × VRow)} (h : SM M A F H nx) (hp : RowF p [.map mb] ∈ F) (hm : M mb = some (.map (ents L 0) L.length)) (hL : CntF L ∈ F) (hN : L.length ≤ 4000)
  (hK : ∀ o rows A0 H' nx', nx ≤ nx' → AllR L rows → OutA A A0 o rows → SM M A0 F H' nx' → K (.ret o) H' nx') : TriP PG f_pf_All [.ptr p 0] H nx K := by
 refine TriP.of_body mixed ?_
 rw [Fpf_All_eq]
 unfold Fpf_All
 refine ⟨rfl, _, rfl, _, h.row1 hp 0, mb, ents L 0, L.length, rfl, h.atM hm, _, rfl, ?_⟩
 have hlt : ∀ b o, M b = some o → b < nx := fun b o e => let ⟨Γ, g1, _⟩ := h; g1.ltM e
 have mmb : ∀ s : List Nat, mup nx (.iter mb L.length s L.length) M mb = some (.map (ents L 0) L.length) := fun s => by rw [mup_ne (by have := hlt mb _ hm; omega)]; exact hm
 refine loop_w (P := PG) (X := AVal) (Y := AVal) (fun o => envL .und [(3, o), (10, .ptr nx 0)]) (fun o => envL .und [(3, o)])
  (fun m o H1 nx1 => nx + 1 ≤ nx1 ∧ ∃ seen rows A0, m + seen.length = L.length ∧ seen.Nodup ∧ (∀ i ∈ seen, i < L.length) ∧ Told L seen rows ∧ (∀ v ∈ rows, ∃ e, v.t = .slice e 0 0 2 true) ∧ rows.length ≤ seen.length ∧ OutA A A0 o rows ∧ SM (mup nx (.iter mb L.length seen L.length) M) A0 F H1 nx1)
  (fun id o H1 nx1 => id = 0 ∧ nx + 1 ≤ nx1 ∧ ∃ seen rows A0, seen.Nodup ∧ (∀ i ∈ seen, i < L.length) ∧ (∀ i, i < L.length → i ∈ seen) ∧ Told L seen rows ∧ (∀ v ∈ rows, ∃ e, v.t = .slice e 0 0 2 true) ∧ rows.length ≤ seen.length ∧ OutA A A0 o rows ∧ SM (mup nx (.iter mb L.length seen L.length) M) A0 F H1 nx1)
  L.length .nilSlice (EnvLe.of_list (by exact ⟨rfl, rfl, trivial⟩)) ⟨Nat.le_refl _, [], [], A, rfl, List.nodup_nil, by simp, told_nil L, by simp, Nat.le_refl _, .inl ⟨rfl, rfl, rfl⟩, h.newM⟩ ?_ ?_
 ·rintro m o H1 nx1 ⟨g1, seen, rows, A0, hms, hnd, hbd, htold, hty, hrl, ha, q⟩
  rw [all_code]
  refine WpP.seq (WpP.part (ts := [3, 10, 12]) mixed ?_)
  rw [LAllS_eq]
  unfold LAllS
  refine ⟨nx, mb, L.length, seen, L.length, ents L 0, L.length, rfl, q.atM (mup_same _ _ _), q.atM (mmb seen), ents_below L, Nat.ble_eq_true_of_le (Nat.le_refl _), fun hall => ?_, fun k v b hin hnew => ⟨_, rfl, ?_⟩⟩
  ·have hall := B?_iff.1 hall
   refine WpP.seq (WpP.cond (p := false) rfl (WpP.of_vK mixed ?_))
   exact ⟨rfl, o, EnvLe.of_list (by exact ⟨rfl, trivial⟩), rfl, g1, seen, rows, A0, hnd, hbd, fun i hi => by
    have hx : i ∈ (ents L 0).map (·.born) := by rw [ents_born]; exact List.mem_range'_1.2 ⟨by omega, by omega⟩
    obtain ⟨e, he, rfl⟩ := List.mem_map.1 hx
    exact hall e he, htold, hty, hrl, ha, q⟩
  ·have hnew := B?_iff.1 hnew
   obtain ⟨c, x, hb, _, rfl⟩ := ents_mem (B?_iff.1 hin)
   rw [Nat.sub_zero] at hb
   have hbl : b < L.length := by
    rcases Nat.lt_or_ge b L.length with q | q
    ·exact q
    ·rw [List.getElem?_eq_none q] at hb; cases hb
   have q2 := q.setM (o2 := .iter mb L.length (seen ++ [b]) L.length) (mup_same _ _ _)
   have emm : mup nx (.iter mb L.length (seen ++ [b]) L.length) (mup nx (.iter mb L.length seen L.length) M) = mup nx (.iter mb L.length (seen ++ [b]) L.length) M := by
    funext z; unfold mup; split <;> rfl
   rw [emm] at q2
   have q3 := (q2.add (P := RowF c x.vals) fun Γ w => (w (CntF L) hL (c, x) (List.mem_of_getElem? hb)).1).add (P := TyF x.t) fun Γ w => (w (CntF L) (.tail _ hL) (c, x) (List.mem_of_getElem? hb)).2
   have hnd2 : (seen ++ [b]).Nodup := by
    rw [List.nodup_append]
    exact ⟨hnd, by simp, fun i hi j hj => by simp at hj; subst hj; exact fun e => hnew (e ▸ hi)⟩
   have hbd2 : ∀ i ∈ seen ++ [b], i < L.length := fun i hi => by
    rcases List.mem_append.1 hi with hi | hi
    ·exact hbd i hi
    ·simp at hi; omega
   have hlen := nodup_len hnd2 hbd2
   simp at hlen
   refine WpP.seq (WpP.cond (p := true) rfl (WpP.skip ?_))
   show WpP PG 45 _ _ _ _ _ _
   refine all_round ha q3 (mup_same _ _ _) (mmb (seen ++ [b])) hin (.tail _ (.head _)) (.head _) (by omega) (fun hk env he => ?_) fun e o' A1 H2 n2 hk g2 ha2 q4 env he => ?_
   ·exact ⟨rfl, m - 1, o, by omega, he, by omega, seen ++ [b], rows, A0, by simp; omega, hnd2, hbd2, told_no htold hb hk, hty, by simp; omega, ha, q3.sub fun P hP => .tail _ (.tail _ hP)⟩
   ·refine ⟨rfl, m - 1, o', by omega, he, by omega, seen ++ [b], _, A1, by simp; omega, hnd2, hbd2, told_yes htold hb hk, ?_, by simp; omega, ha2, q4.sub fun P hP => .tail _ (.tail _ hP)⟩
    intro v hv
    rcases List.mem_append.1 hv with hv | hv
    ·exact hty v hv
    ·simp at hv; subst hv; exact ⟨e, rfl⟩
 ·rintro id o H1 nx1 ⟨rfl, g1, seen, rows, A0, hnd, hbd, hall, htold, hty, hrl, ha, q⟩
  rw [AAll_eq]
  unfold AAll
  have hlen := nodup_len hnd hbd
  refine sort_ok ha q hty (by omega) fun rows' A' H' hp2 ho ha2 q2 => onEnd_ret.2 ?_
  refine hK o rows' A' H' nx1 (by omega) ⟨(hp2.symm.map strip).trans (htold.end hnd hbd hall), fun v hv => hty v (hp2.mem_iff.2 hv), ho⟩ ha2 (q2.subM fun b o' e => ?_)
  rw [mup_ne (by have := hlt b _ e; omega)]; exact e
end
end
end Go.Vs
end
section
namespace Go.Vs
open Go.Proofs Go.Sort Go.Hp
variable [GTab]
noncomputable section
instance : Inhabited Cnt := ⟨⟨0, 0, 0, 0, []⟩⟩
section
variable {M : MM} {A A' : Owned} {F : Facts} {H : Heap} {nx : Nat} {K : EndP}
def RowsF (rows : List GRow) : GH → Prop := fun Γ => ∀ x ∈ rows, TyR x.1 x.2.ts Γ
abbrev vs (rows : List GRow) : List VRow := rows.map GRow.v
abbrev cs_ (rows : List GRow) : List Cnt := rows.map (·.2)
def ToldG (L : List (Nat × GRow)) (seen : List Nat) (rows : List GRow) : Prop := cs_ rows = (seen.map fun i => ((cnts L)[i]?).getD default).filter fun x => !x.empty
theorem ToldG.end {L : List (Nat × GRow)} {seen : List Nat} {rows : List GRow} (h : ToldG L seen rows) (hn : seen.Nodup) (hb : ∀ i ∈ seen, i < L.length) (ha : ∀ i, i < L.length → i ∈ seen) :
  (cs_ rows).Perm ((cnts L).filter fun x => !x.empty) := by
 have hl : (cnts L).length = L.length := by simp [cnts]
 have h1 : seen.Perm (List.range L.length) := by
  refine (List.perm_ext_iff_of_nodup hn List.nodup_range).2 fun i => ?_
  rw [List.mem_range]
  exact ⟨hb i, ha i⟩
 rw [h]
 refine List.Perm.filter _ ((h1.map _).trans ?_)
 have : (List.range L.length).map (fun i => ((cnts L)[i]?).getD default) = cnts L := by
  refine List.ext_getElem? fun i => ?_
  rw [List.getElem?_map]
  by_cases hi : i < L.length
  ·rw [List.getElem?_range hi, List.getElem?_eq_getElem (by omega)]
   simp [hl, hi]
  ·rw [List.getElem?_eq_none (by simp; omega), List.getElem?_eq_none (by omega)]; rfl
 rw [this]
theorem toldG_nil (L : List (Nat × GRow)) : ToldG L [] [] := rfl
theorem toldG_no {L : List (Nat × GRow)} {seen : List Nat} {rows : List GRow} {b : Nat} {q : Nat × GRow} (h : ToldG L seen rows) (hb : L[b]? = some q) (hk : q.2.2.empty = true) : ToldG L (seen ++ [b]) rows := by
 unfold ToldG at *
 rw [List.map_append, List.filter_append, ← h]
 simp [cnts, hb, hk]
theorem toldG_yes {L : List (Nat × GRow)} {seen : List Nat} {rows : List GRow} {b : Nat} {q : Nat × GRow} {t : AVal} (h : ToldG L seen rows) (hb : L[b]? = some q) (hk : q.2.2.empty = false) : ToldG L (seen ++ [b]) (rows ++ [(t, q.2.2)]) := by
 unfold ToldG at *
 rw [List.map_append, List.filter_append, ← h]
 simp [cnts, hb, hk]
theorem gents_mem {L : List (Nat × GRow)} {k v : AVal} {b : Nat} (h : ⟨k, v, b⟩ ∈ gents L) : ∃ q, L[b]? = some q ∧ v = .ptr q.1 0 := by
 obtain ⟨c, x, h1, _, h3⟩ := ents_mem h
 rw [Nat.sub_zero, List.getElem?_map] at h1
 cases e : L[b]? with
 | none => rw [e] at h1; cases h1
 | some q => rw [e] at h1; cases h1; exact ⟨q, rfl, h3⟩
theorem gents_born (L : List (Nat × GRow)) : (gents L).map (·.born) = List.range' 0 L.length := by
 unfold gents; rw [ents_born]; simp
theorem gents_once (L : List (Nat × GRow)) : bornOnce (gents L) = true := B?_iff.2 (by rw [gents_born]; exact List.nodup_range')
theorem gents_below (L : List (Nat × GRow)) : allBelow (gents L) L.length = true := B?_iff.2 fun e he => by
 have : e.born ∈ (gents L).map (·.born) := List.mem_map_of_mem he
 rw [gents_born] at this
 have := List.mem_range'_1.1 this
 omega
theorem gall_round {it mb : Nat} {L : List (Nat × GRow)} {A0 : Owned} {o : AVal} {rows : List GRow} {c : Nat} {x : GRow} {seen : List Nat} {b : Nat} {k : AVal} {K0 : KP} (ha : OutA A A0 o (vs rows)) (p : SM M A0 F H nx) (hi : M it = some (.iter mb L.length (seen ++ [b]) L.length))
  (hm : M mb = some (.map (gents L) L.length)) (hin : entIn (gents L) k (.ptr c 0) b = true) (hc : RowF c x.v.vals ∈ F) (ht : TyR x.1 x.2.ts ∈ F) (h4 : x.2.ts.length ≤ 4) (hN : rows.length ≤ 4000)
  (hno : x.2.empty = true → ∀ env, EnvLe (envL .und [(3, o), (10, .ptr it 0)]) env → K0 .normal env H nx [] none)
  (hyes : ∀ e full o' A' H' nx', x.2.empty = false → nx ≤ nx' → OutA A A' o' (vs (rows ++ [(.slice e 0 x.2.ts.length 2 full, x.2)])) → SM M A' (TyR (.slice e 0 x.2.ts.length 2 full) x.2.ts :: F) H' nx' → ∀ env, EnvLe (envL .und [(3, o'), (10, .ptr it 0)]) env → K0 .normal env H' nx' [] none) :
  WpP PG 45 (.block 1 (.seq (subAt (codeOf PG 10) [1, 1, 0, 1, 0, 0, 1, 1, 0, 0]) (.seq (subAt (codeOf PG 10) [1, 1, 0, 1, 0, 0, 1, 1, 0, 1, 0]) (.cond (.tmp 34) (subAt (codeOf PG 10) [1, 1, 0, 1, 0, 0, 1, 1, 0, 1, 1, 0]) .skip))))
   (envL .und [(3, o), (10, .ptr it 0), (12, .bool true)]) H nx [] K0 := by
 refine WpP.block (WpP.seq (WpP.part (ts := [3, 5, 10]) mixed ?_))
 rw [LAllE_eq]
 unfold LAllE
 refine ⟨it, mb, L.length, seen, L.length, gents L, k, .ptr c 0, b, rfl, p.atM hi, p.atM hm, hin, gents_once L, ?_⟩
 refine WpP.seq (WpP.part (ts := [3, 5, 10, 34]) mixed ?_)
 rw [LAllC_eq]
 unfold LAllC
 have told : x.2.empty = false → WpP PG 45 (.cond (.tmp 34) (subAt (codeOf PG 10) [1, 1, 0, 1, 0, 0, 1, 1, 0, 1, 1, 0]) .skip) (envL .und [(3, o), (5, .ptr c 0), (10, .ptr it 0), (34, .bool true)]) H nx [] (blockK 1 K0) := by
  intro hk
  refine WpP.cond (p := true) rfl ?_
  refine WpP.part (ts := [3, 10]) mixed ?_
  rw [LAllA_eq]
  unfold LAllA
  refine ⟨rfl, _, _, _, _, _, p.rowAll hc (vals_len x.v).symm, ?_⟩
  refine gcopied_ok p ht (by omega) fun e full H1 n1 g1 p1 => onEnd_ret.2 ⟨_, _, _, _, _, rfl, ?_⟩
  refine p1.freeze.newF (Nat.le_refl _) fun H2 p2 => ?_
  refine ⟨1, _, p2.src (b := n1) (off := 0) (n := 1) (sz := 5) (e := 5) (full := true) (.head _) (by simp), rfl, ?_⟩
  have p2' : SM M A0 (TyR (.slice e 0 x.2.ts.length 2 full) x.2.ts :: F) H2 (n1 + 1) := (p2.add (P := TyR (.slice e 0 x.2.ts.length 2 full) x.2.ts) fun Γ q => TyR.row (q (RowF e (tcells x.2.ts)) (.tail _ (.head _)))).sub fun P hP => by
   rcases List.mem_cons.1 hP with rfl | hP
   ·exact .head _
   ·exact .tail _ (.tail _ (.tail _ hP))
  obtain ⟨v, H3, e3, A3, a3, p3⟩ := ha.app (x := GRow.v (.slice e 0 x.2.ts.length 2 full, x.2)) p2' (by simpa using hN)
  refine ⟨v, H3, _, e3, hyes e full v A3 H3 _ hk (by omega) ?_ p3 _ (EnvLe.of_list (by exact ⟨rfl, rfl, trivial⟩))⟩
  unfold vs; rw [List.map_append]; exact a3
 have ne : ∀ P : Prop, ¬ P → (P → False) := fun _ h => h
 refine ⟨rfl, _, rfl, _, p.row1 hc 2, ifB_iff.2 ⟨fun hq => ?_, fun hq => ?_⟩⟩
 ·have hq : x.2.c ≠ 0 := (by simpa using hq : ¬ x.v.c = 0)
  exact told (by
   cases e : x.2.empty with
   | false => rfl
   | true => exact (hq (empty_iff.1 e).1).elim)
 ·have hq : x.2.c = 0 := (by simpa using hq : x.v.c = 0)
  refine ⟨rfl, _, rfl, _, p.row1 hc 3, ifB_iff.2 ⟨fun hq2 => ?_, fun hq2 => ?_⟩⟩
  ·have hq2 : x.2.d ≠ 0 := (by simpa using hq2 : ¬ x.v.d = 0)
   exact told (by
    cases e : x.2.empty with
    | false => rfl
    | true => exact (hq2 (empty_iff.1 e).2.1).elim)
  ·have hq2 : x.2.d = 0 := (by simpa using hq2 : x.v.d = 0)
   refine ⟨rfl, _, rfl, _, p.row1 hc 4, _, gty_len p ht, ?_⟩
   by_cases hz : x.2.ts = []
   ·have e0 : decide (0 < Int.ofNat x.2.ts.length) = false := by rw [hz]; rfl
    rw [e0]
    show WpP PG 45 _ _ _ _ _ (blockK 1 K0)
    refine WpP.cond (p := false) rfl (WpP.skip ?_)
    exact hno (empty_iff.2 ⟨hq, hq2, hz⟩) _ (EnvLe.of_list (by exact ⟨rfl, rfl, trivial⟩))
   ·have e0 : decide (0 < Int.ofNat x.2.ts.length) = true := decide_eq_true (by
     have := List.length_pos_iff.2 hz
     simp only [Int.ofNat_eq_natCast]; omega)
    rw [e0]
    exact told (by
     cases e : x.2.empty with
     | false => rfl
     | true => exact (hz (empty_iff.1 e).2.2).elim)
def AllG (L : List (Nat × GRow)) (rows : List GRow) : Prop :=
 (cs_ rows).Perm ((cnts L).filter fun x => !x.empty) ∧ ∀ (i j : Nat) (u v : VRow), i < j → (vs rows)[i]? = some u → (vs rows)[j]? = some v → lt2 v.a v.b u.a u.b = false
theorem gsort_ok {A0 : Owned} {o : AVal} {rows : List GRow} (ha : OutA A A0 o (vs rows)) (p : SM M A0 F H nx) (hs : ∀ x ∈ rows, ∃ e n full, x.1 = .slice e 0 n 2 full) (hN : rows.length ≤ 4000)
  (hK : ∀ rows' A' H', rows.Perm rows' → (∀ (i j : Nat) (u v : VRow), i < j → (vs rows')[i]? = some u → (vs rows')[j]? = some v → lt2 v.a v.b u.a u.b = false) → OutA A A' o (vs rows') → SM M A' F H' nx → K (.ret (.tuple [])) H' nx) :
  TriP PG f_sl_SortFunc___prof_Count_prof_Count_ [o, .func (.func 24) [] []] H nx K := by
 rcases ha with ⟨h0, rfl, rfl⟩ | ⟨b, rfl, rfl⟩
 ·have h0 : rows = [] := by simpa using h0
  subst h0
  have hk := hK [] _ H (.refl _) (fun i j u v _ e => by simp at e) (.inl ⟨rfl, rfl, rfl⟩) p
  intro σ w args' R hr hd hR
  cases hd with
  | cons h1 t =>
   cases t with
   | cons h2 t =>
    cases t
    cases h1
    refine (sorts_none none 0 _ w).mono ?_
    rintro e w' ⟨rfl, rfl⟩
    exact hR _ _ _ σ _ _ hk hr (Ext.refl _ _ _ _) (by first | exact .ret (.tuple .nil) | exact .tuple .nil)
 ·obtain ⟨ct, olds, e1, e2, e3⟩ := p.turn
  refine TriP.of_sort sorts_c cmp_rows e1 ?_ (by rw [flat_len]; omega) (by simp; omega) (fun v hv => ?_) fun rows' hp ho => ?_
  ·rw [← flat_len]; exact e2
  ·obtain ⟨x, hx, rfl⟩ := List.mem_map.1 hv
   obtain ⟨e, n, full, he⟩ := hs x hx
   show isSl x.1 = true ∧ ∀ g off len esz, x.1 = _ → _
   rw [he]
   exact ⟨rfl, fun _ _ _ _ q => by cases q⟩
  ·obtain ⟨r2, e4, hp2⟩ := perm_map hp rfl
   subst e4
   exact hK r2 _ _ hp2 ho (.inr ⟨b, by rw [hp.length_eq], rfl⟩) (e3 _ (by rw [flat_len, flat_len, hp.length_eq]))
theorem gall_ok {p mb : Nat} {L : List (Nat × GRow)} (h : SM M A F H nx) (hp : RowF p [.map mb] ∈ F) (hm : M mb = some (.map (gents L) L.length)) (hL : EntF L ∈ F) (h4 : ∀ q ∈ L, q.2.2.ts.length ≤ 4) (hN : L.length ≤ 4000)
  (hK : ∀ o rows A0 H' nx', nx ≤ nx' → AllG L rows → (∀ x ∈ rows, ∃ e n full, x.1 = .slice e 0 n 2 full) → OutA A A0 o (vs rows) → SM M A0 (RowsF rows :: F) H' nx' → K (.ret o) H' nx') : TriP PG f_pf_All [.ptr p 0] H nx K := by
 refine TriP.of_body mixed ?_
 rw [Fpf_All_eq]
 unfold Fpf_All
 refine ⟨rfl, _, rfl, _, h.row1 hp 0, mb, gents L, L.length, rfl, h.atM hm, _, rfl, ?_⟩
 have hlt : ∀ b o, M b = some o → b < nx := fun b o e => let ⟨Γ, g1, _⟩ := h; g1.ltM e
 have mmb : ∀ s : List Nat, mup nx (.iter mb L.length s L.length) M mb = some (.map (gents L) L.length) := fun s => by rw [mup_ne (by have := hlt mb _ hm; omega)]; exact hm
 refine loop_w (P := PG) (X := AVal) (Y := AVal) (fun o => envL .und [(3, o), (10, .ptr nx 0)]) (fun o => envL .und [(3, o)])
  (fun m o H1 nx1 => nx + 1 ≤ nx1 ∧ ∃ seen rows A0, m + seen.length = L.length ∧ seen.Nodup ∧ (∀ i ∈ seen, i < L.length) ∧ ToldG L seen rows ∧ (∀ x ∈ rows, ∃ e n full, x.1 = .slice e 0 n 2 full) ∧ rows.length ≤ seen.length ∧ OutA A A0 o (vs rows) ∧ SM (mup nx (.iter mb L.length seen L.length) M) A0 (RowsF rows :: F) H1 nx1)
  (fun id o H1 nx1 => id = 0 ∧ nx + 1 ≤ nx1 ∧ ∃ seen rows A0, seen.Nodup ∧ (∀ i ∈ seen, i < L.length) ∧ (∀ i, i < L.length → i ∈ seen) ∧ ToldG L seen rows ∧ (∀ x ∈ rows, ∃ e n full, x.1 = .slice e 0 n 2 full) ∧ rows.length ≤ seen.length ∧ OutA A A0 o (vs rows) ∧ SM (mup nx (.iter mb L.length seen L.length) M) A0 (RowsF rows :: F) H1 nx1)
  L.length .nilSlice (EnvLe.of_list (by exact ⟨rfl, rfl, trivial⟩)) ⟨Nat.le_refl _, [], [], A, rfl, List.nodup_nil, by simp, toldG_nil L, by simp, Nat.le_refl _, .inl ⟨rfl, rfl, rfl⟩, h.newM.add fun _ _ x hx => by simp at hx⟩ ?_ ?_
 ·rintro m o H1 nx1 ⟨g1, seen, rows, A0, hms, hnd, hbd, htold, hty, hrl, ha, q⟩
  rw [all_code]
  refine WpP.seq (WpP.part (ts := [3, 10, 12]) mixed ?_)
  rw [LAllS_eq]
  unfold LAllS
  refine ⟨nx, mb, L.length, seen, L.length, gents L, L.length, rfl, q.atM (mup_same _ _ _), q.atM (mmb seen), gents_below L, Nat.ble_eq_true_of_le (Nat.le_refl _), fun hall => ?_, fun k v b hin hnew => ⟨_, rfl, ?_⟩⟩
  ·have hall := B?_iff.1 hall
   refine WpP.seq (WpP.cond (p := false) rfl (WpP.of_vK mixed ?_))
   exact ⟨rfl, o, EnvLe.of_list (by exact ⟨rfl, trivial⟩), rfl, g1, seen, rows, A0, hnd, hbd, fun i hi => by
    have hx : i ∈ (gents L).map (·.born) := by rw [gents_born]; exact List.mem_range'_1.2 ⟨by omega, by omega⟩
    obtain ⟨e, he, rfl⟩ := List.mem_map.1 hx
    exact hall e he, htold, hty, hrl, ha, q⟩
  ·have hnew := B?_iff.1 hnew
   obtain ⟨⟨c, x⟩, hb, rfl⟩ := gents_mem (B?_iff.1 hin)
   have hmem : (c, x) ∈ L := List.mem_of_getElem? hb
   have hbl : b < L.length := by
    rcases Nat.lt_or_ge b L.length with q | q
    ·exact q
    ·rw [List.getElem?_eq_none q] at hb; cases hb
   have q2 := q.setM (o2 := .iter mb L.length (seen ++ [b]) L.length) (mup_same _ _ _)
   have emm : mup nx (.iter mb L.length (seen ++ [b]) L.length) (mup nx (.iter mb L.length seen L.length) M) = mup nx (.iter mb L.length (seen ++ [b]) L.length) M := by
    funext z; unfold mup; split <;> rfl
   rw [emm] at q2
   have q3 := (q2.add (P := RowF c x.v.vals) fun Γ w => (w (EntF L) (.tail _ hL) (c, x) hmem).1).add (P := TyR x.1 x.2.ts) fun Γ w => (w (EntF L) (.tail _ (.tail _ hL)) (c, x) hmem).2
   have hnd2 : (seen ++ [b]).Nodup := by
    rw [List.nodup_append]
    exact ⟨hnd, by simp, fun i hi j hj => by simp at hj; subst hj; exact fun e => hnew (e ▸ hi)⟩
   have hbd2 : ∀ i ∈ seen ++ [b], i < L.length := fun i hi => by
    rcases List.mem_append.1 hi with hi | hi
    ·exact hbd i hi
    ·simp at hi; omega
   have hlen := nodup_len hnd2 hbd2
   simp at hlen
   refine WpP.seq (WpP.cond (p := true) rfl (WpP.skip ?_))
   show WpP PG 45 _ _ _ _ _ _
   refine gall_round ha q3 (mup_same _ _ _) (mmb (seen ++ [b])) hin (.tail _ (.head _)) (.head _) (h4 _ hmem) (by omega) (fun hk env he => ?_) fun e full o' A1 H2 n2 hk g2 ha2 q4 env he => ?_
   ·exact ⟨rfl, m - 1, o, by omega, he, by omega, seen ++ [b], rows, A0, by simp; omega, hnd2, hbd2, toldG_no htold hb hk, hty, by simp; omega, ha, q3.sub fun P hP => .tail _ (.tail _ hP)⟩
   ·refine ⟨rfl, m - 1, o', by omega, he, by omega, seen ++ [b], _, A1, by simp; omega, hnd2, hbd2, toldG_yes htold hb hk, ?_, by simp; omega, ha2, (q4.add (P := RowsF (rows ++ [(.slice e 0 x.2.ts.length 2 full, x.2)])) fun Γ w y hy => ?_).sub fun P hP => ?_⟩
    ·intro y hy
     rcases List.mem_append.1 hy with hy | hy
     ·exact hty y hy
     ·simp at hy; subst hy; exact ⟨e, _, full, rfl⟩
    ·rcases List.mem_append.1 hy with hy | hy
     ·exact w (RowsF rows) (.tail _ (.tail _ (.tail _ (.head _)))) y hy
     ·simp at hy; subst hy; exact w _ (.head _)
    ·rcases List.mem_cons.1 hP with rfl | hP
     ·exact .head _
     ·exact .tail _ (.tail _ (.tail _ (.tail _ (.tail _ hP))))
 ·rintro id o H1 nx1 ⟨rfl, g1, seen, rows, A0, hnd, hbd, hall, htold, hty, hrl, ha, q⟩
  rw [AAll_eq]
  unfold AAll
  have hlen := nodup_len hnd hbd
  refine gsort_ok ha q hty (by omega) fun rows' A' H' hp2 ho ha2 q2 => onEnd_ret.2 ?_
  refine hK o rows' A' H' nx1 (by omega) ⟨(hp2.symm.map _).trans (htold.end hnd hbd hall), ho⟩ (fun x hx => hty x (hp2.mem_iff.2 hx)) ha2 (((q2.add (P := RowsF rows') fun Γ w x hx => w (RowsF rows) (.head _) x (hp2.mem_iff.2 hx)).sub fun P hP => ?_).subM fun b o' e => ?_)
  ·rcases List.mem_cons.1 hP with rfl | hP
   ·exact .head _
   ·exact .tail _ (.tail _ hP)
  ·rw [mup_ne (by have := hlt b _ e; omega)]; exact e
theorem AllG.same {L : List (Nat × GRow)} {rows : List GRow} {N : List Cnt} (h : AllG L rows) (hB : Both (cnts L) N) : cs_ rows = N := by
 have hpl : Placed (cs_ rows) := by
  have h1 : Placed ((cnts L).filter fun x => !x.empty) := hB.pl.sublist List.filter_sublist
  exact (h.1.pairwise_iff (R := fun x y : Cnt => ¬ (x.a = y.a ∧ x.b = y.b)) fun q => by omega).2 h1
 refine sorted_uniq plLt_asymm ?_ hB.so (h.1.trans hB.pm.symm)
 rw [List.pairwise_iff_getElem]
 intro i j hi hj hij
 have hi' : i < rows.length := by simpa using hi
 have hj' : j < rows.length := by simpa using hj
 have h2 := h.2 i j (rows[i].v) (rows[j].v) hij (by simp [hi']) (by simp [hj'])
 have h3 := List.pairwise_iff_getElem.1 hpl i j hi hj hij
 simp only [List.getElem_map] at h3 ⊢
 unfold lt2 at h2
 have h2 := of_decide_eq_false h2
 unfold PlLt
 show rows[i].2.a < rows[j].2.a ∨ _
 have e1 : (rows[j].v).a = rows[j].2.a := rfl
 have e2 : (rows[i].v).a = rows[i].2.a := rfl
 have e3 : (rows[j].v).b = rows[j].2.b := rfl
 have e4 : (rows[i].v).b = rows[i].2.b := rfl
 rw [e1, e2, e3, e4] at h2
 omega
end
end
end Go.Vs
end
section
namespace Go.Vs
open Go.Proofs Go.Sort Go.Hp
variable [GTab]
noncomputable section
section
variable {M : MM} {A A' : Owned} {F : Facts} {H : Heap} {nx : Nat} {K : EndP}
def HotA (A A3 : Owned) (F : Facts) (l : Nat) (d : Array VRow) : Prop :=
 (d.size = 0 ∧ ∃ e, A3 = (l, [.slice e 0 0 5 true]) :: A ∧ RowF e [] ∈ F) ∨ (∃ hb, A3 = (l, [.slice hb 0 d.size 5 false]) :: (hb, flat d) :: A)
theorem HotS.out {l : Nat} {d : Array VRow} (h : HotS M A F l d H nx) : ∃ A3, HotA A A3 F l d ∧ SM M A3 F H nx := by
 rcases h with ⟨h0, e, p, he⟩ | ⟨hb, p⟩
 ·exact ⟨_, .inl ⟨h0, e, rfl, he⟩, p⟩
 ·exact ⟨_, .inr ⟨hb, rfl⟩, p⟩
theorem HotA.of {A3 : Owned} {l : Nat} {d : Array VRow} (h : HotA A A3 F l d) (p : SM M A3 F H nx) : HotS M A F l d H nx := by
 rcases h with ⟨h0, e, rfl, he⟩ | ⟨hb, rfl⟩
 ·exact .inl ⟨h0, e, p, he⟩
 ·exact .inr ⟨hb, p⟩
theorem HotA.own {A3 : Owned} {l b : Nat} {cs : List AVal} {d : Array VRow} (h : HotA A A3 F l d) (o : Own A b cs) : Own A3 b cs := by
 rcases h with ⟨h0, e, rfl, he⟩ | ⟨hb, rfl⟩
 ·exact .tl o
 ·exact .tl (.tl o)
theorem OutA.swap {A0 : Owned} {l : Nat} {cs : List AVal} {o : AVal} {rows : List VRow} (h : OutA ((l, cs) :: A) A0 o rows) (p : SM M A0 F H nx) : ∃ A2, OutA A A2 o rows ∧ SM M ((l, cs) :: A2) F H nx := by
 rcases h with ⟨rfl, rfl, rfl⟩ | ⟨b, rfl, rfl⟩
 ·exact ⟨A, .inl ⟨rfl, rfl, rfl⟩, p⟩
 ·exact ⟨_, .inr ⟨b, rfl, rfl⟩, p.swap⟩
theorem OutA.row {A0 A3 : Owned} {o : AVal} {rows : List VRow} {i : Nat} (h : OutA A A0 o rows) (hi : i < rows.length) (p : SM M A3 F H nx) (ho : ∀ b cs, Own A0 b cs → Own A3 b cs) :
  ∃ b, idxS o (i : Int).toNat 5 = some (.ptr b (5 * i)) ∧ ldN H 5 (.ptr b (5 * i)) = some (.agg (rows[i]'hi).vals) ∧ ∀ r v, r < 5 → (rows[i]'hi).vals[r]? = some v → ld1 H (.ptr b (5 * i + r)) = some v := by
 rcases h with ⟨rfl, rfl, rfl⟩ | ⟨b, rfl, rfl⟩
 ·simp at hi
 ·have hb : Own A3 b (flat ⟨rows⟩) := ho b _ .hd
  have hi' : i < (⟨rows⟩ : Array VRow).size := hi
  have e : (⟨rows⟩ : Array VRow)[i]! = rows[i] := getElem!_pos (⟨rows⟩ : Array VRow) i hi'
  refine ⟨b, idx5 hi, ?_, fun r v hr hv => row_ld p hb hi' hr (by rw [e]; exact hv)⟩
  have := row_ldN p hb hi'
  rw [e] at this; exact this
theorem assert_c (a b c d : Int) (t : AVal) : aAssert PG (.iface t_Count (.agg [iv a, iv b, iv c, iv d, t])) 30 false = some (.agg [iv a, iv b, iv c, iv d, t]) := by kernel_rfl
theorem take_filter {rows : List VRow} {q : VRow → Bool} {i : Nat} (hi : i < rows.length) : (rows.take (i + 1)).filter q = (rows.take i).filter q ++ (if q (rows[i]'hi) then [rows[i]'hi] else []) := by
 rw [List.take_add_one, List.filter_append]
 simp only [List.getElem?_eq_getElem hi, Option.toList_some]
 congr 1
 by_cases h : q rows[i] = true
 ·simp [h]
 ·simp [h]
theorem hot1 {l : Nat} {n : Int} {o : AVal} {rows : List VRow} {A2 : Owned} {K0 : KP} (ha : OutA A A2 o rows) (h : HotS M A2 F l #[] H nx) (hty : ∀ v ∈ rows, isSl v.t = true) (hN : rows.length ≤ 3000)
  (hK : ∀ d H' nx', nx ≤ nx' → HotS M A2 F l d H' nx' → Sls d → IsHeap lessH d.size d → d.toList.Perm (rows.filter fun x => decide (n ≤ x.c)) → K0 (.exit 0) (envL .und [(5, .ptr l 0)]) H' nx' [] none)
  {env : Env} (he : EnvLe (envL .und [(13, iv 0), (12, iv (rows.length : Int)), (11, o), (5, .ptr l 0), (1, iv n)]) env) : LpP PG 41 (subAt (codeOf PG 9) [1, 1, 0, 1, 0, 0]) env H nx [] none K0 := by
 refine loop_w (P := PG) (X := Nat) (Y := Unit) (fun i => envL .und [(13, iv (i : Int)), (12, iv (rows.length : Int)), (11, o), (5, .ptr l 0), (1, iv n)]) (fun _ => envL .und [(5, .ptr l 0)])
  (fun m i H1 nx1 => nx ≤ nx1 ∧ m = rows.length - i ∧ i ≤ rows.length ∧ ∃ d, HotS M A2 F l d H1 nx1 ∧ Sls d ∧ IsHeap lessH d.size d ∧ d.toList.Perm ((rows.take i).filter fun x => decide (n ≤ x.c)))
  (fun id _ H1 nx1 => id = 0 ∧ nx ≤ nx1 ∧ ∃ d, HotS M A2 F l d H1 nx1 ∧ Sls d ∧ IsHeap lessH d.size d ∧ d.toList.Perm (rows.filter fun x => decide (n ≤ x.c))) rows.length 0 he
  ⟨Nat.le_refl _, rfl, Nat.zero_le _, #[], h, fun i hi => by simp at hi, fun i _ hi => by simp at hi, by simp⟩ ?_ ?_
 ·rintro m i H1 nx1 ⟨g1, hm, hi, d, hs, hsl, hh, hp⟩
  refine WpP.part (ts := [1, 5, 11, 12, 13]) mixed ?_
  rw [LHot1_eq]
  unfold LHot1
  refine ifB_iff.2 ⟨fun hc => ?_, fun hc => ?_⟩
  ·have hc : (i : Int) < (rows.length : Int) := of_decide_eq_true hc
   have hil : i < rows.length := by omega
   obtain ⟨A3, a3, p⟩ := hs.out
   obtain ⟨b, i1, i2, i3⟩ := ha.row hil p fun b cs o => a3.own o
   have hx := hty rows[i] (List.getElem_mem hil)
   have hdl : d.size ≤ i := by
    have := hp.length_eq
    have h2 := List.length_filter_le (fun x : VRow => decide (n ≤ x.c)) (rows.take i)
    simp at this h2
    omega
   refine ⟨by omega, _, i1, _, _, _, _, _, i2, ?_⟩
   refine p.new (Nat.le_refl _) fun H2 p2 => p2.all .hd (vals_len _) (allCell_vals hx) fun H3 p3 => ?_
   refine ⟨_, rfl, _, p3.ld1 .hd 2, ifB_iff.2 ⟨fun hq => ?_, fun hq => ?_⟩⟩
   ·refine ⟨_, _, _, _, _, p3.ldAll .hd (vals_len _).symm, ?_⟩
    refine push_ok (x := rows[i]) (a3.of p3.drop) hsl hx (by omega) hh fun d' H4 n4 g4 hs4 hsl4 hz hp4 hh4 => onEnd_ret.2 ?_
    have e1 : IntKind.i64.wrap ((i : Int) + 1) = ((i + 1 : Nat) : Int) := by rw [wrap64_id (by omega) (by omega)]; omega
    rw [e1]
    refine ⟨rfl, rows.length - (i + 1), i + 1, by omega, EnvLe.of_list (by exact ⟨rfl, rfl, rfl, rfl, rfl, trivial⟩), by omega, rfl, by omega, d', hs4, hsl4, hh4, ?_⟩
    rw [take_filter hil, if_pos hq]
    exact hp4.trans (hp.append_right _)
   ·have e1 : IntKind.i64.wrap ((i : Int) + 1) = ((i + 1 : Nat) : Int) := by rw [wrap64_id (by omega) (by omega)]; omega
    rw [e1]
    refine ⟨rfl, rows.length - (i + 1), i + 1, by omega, EnvLe.of_list (by exact ⟨rfl, rfl, rfl, rfl, rfl, trivial⟩), by omega, rfl, by omega, d, a3.of p3.drop, hsl, hh, ?_⟩
    rw [take_filter hil, if_neg (by rw [hq]; decide), List.append_nil]
    exact hp
  ·have hc : ¬ (i : Int) < (rows.length : Int) := of_decide_eq_false hc
   have : i = rows.length := by omega
   subst this
   rw [List.take_length] at hp
   exact ⟨rfl, (), EnvLe.of_list (by exact ⟨rfl, trivial⟩), rfl, g1, d, hs, hsl, hh, hp⟩
 ·rintro id _ H1 nx1 ⟨rfl, g1, d, hs, hsl, hh, hp⟩
  exact hK d H1 nx1 g1 hs hsl hh hp
def PopS (A4 A5 : Owned) (l : Nat) (d : Array VRow) (m : Nat) : Prop := (m = 0 ∧ ∃ hb full, A5 = (l, [.slice hb 0 0 5 full]) :: A4) ∨ (∃ hb full, A5 = (l, [.slice hb 0 m 5 full]) :: (hb, flat d) :: A4)
theorem PopS.ld {A4 A5 : Owned} {l m : Nat} {d : Array VRow} (h : PopS A4 A5 l d m) (p : SM M A5 F H nx) : ∃ hb full, ld1 H (.ptr l 0) = some (.slice hb 0 m 5 full) := by
 rcases h with ⟨rfl, hb, full, rfl⟩ | ⟨hb, full, rfl⟩
 ·exact ⟨hb, full, p.ld1 .hd 0⟩
 ·exact ⟨hb, full, p.ld1 .hd 0⟩
theorem PopS.sub {A4 A5 : Owned} {l m : Nat} {d : Array VRow} (h : PopS A4 A5 l d m) : A4.Sublist A5 := by
 rcases h with ⟨rfl, hb, full, rfl⟩ | ⟨hb, full, rfl⟩
 ·exact List.sublist_cons_self _ _
 ·exact (List.sublist_cons_self _ _).trans (List.sublist_cons_self _ _)
theorem OutA.app2 {A0 : Owned} {o : AVal} {out : List VRow} {x : VRow} {l hb m : Nat} {full : Bool} {d : Array VRow} (h : OutA A A0 o out) (p : SM M ((l, [.slice hb 0 m 5 full]) :: (hb, flat d) :: A0) F H nx) (hN : out.length ≤ 4000) :
  ∃ v H' A1, appC H nx 5 56 o 1 x.vals = some (v, H', nx + 1) ∧ OutA A A1 v (out ++ [x]) ∧ SM M ((l, [.slice hb 0 m 5 full]) :: (hb, flat d) :: A1) F H' (nx + 1) := by
 have hf : (out ++ [x]).flatMap VRow.vals = out.flatMap VRow.vals ++ x.vals := by simp
 rcases h with ⟨rfl, rfl, rfl⟩ | ⟨b, rfl, rfl⟩
 ·obtain ⟨H', e, q⟩ := p.appNil (esz := 5) (ebytes := 56) (k := 1) (new := x.vals) (by rw [vals_len]) (by omega) (by omega) (by omega)
  exact ⟨_, H', _, e, .inr ⟨nx, rfl, by rw [hf]; rfl⟩, SM.ins (.tl (.tl .hd)) (SM.ins (.tl (.tl .hd)) q)⟩
 ·have p2 : SM M ((b, out.flatMap VRow.vals) :: (l, [.slice hb 0 m 5 full]) :: (hb, flat d) :: A) F H nx := SM.ins (.tl (.tl .hd)) p
  obtain ⟨H', e, q⟩ := p2.app (len := out.length) (esz := 5) (ebytes := 56) (k := 1) (new := x.vals) (by rw [flat_len]; omega) (by rw [vals_len]) (by omega) (by omega) (by omega)
  exact ⟨_, H', _, e, .inr ⟨nx, by rw [List.length_append]; rfl, by rw [hf]⟩, SM.ins (.tl (.tl .hd)) (SM.ins (.tl (.tl .hd)) q)⟩
theorem OutA.sub {A0 : Owned} {o : AVal} {rows : List VRow} (h : OutA A A0 o rows) : A.Sublist A0 := by
 rcases h with ⟨rfl, rfl, rfl⟩ | ⟨b, rfl, rfl⟩
 ·exact List.Sublist.refl _
 ·exact List.sublist_cons_self _ _
theorem hot2 {l : Nat} {n : Int} {rows : List VRow} {A2 : Owned} {K0 : KP} {d : Array VRow} (h : HotS M A2 F l d H nx) (hsl : Sls d) (hh : IsHeap lessH d.size d) (hp : d.toList.Perm (rows.filter fun x => decide (n ≤ x.c))) (hN : d.size ≤ 3000)
  (hK : ∀ out o A4 H' nx', nx ≤ nx' → HotR n rows out → (∀ v ∈ out, isSl v.t = true) → OutA A2 A4 o out → SM M A4 F H' nx' → K0 (.exit 2) (envL .und [(8, o)]) H' nx' [] none)
  {env : Env} (he : EnvLe (envL .und [(8, .nilSlice), (5, .ptr l 0)]) env) : LpP PG 41 (subAt (codeOf PG 9) [1, 1, 1, 1, 0, 0, 0]) env H nx [] none K0 := by
 obtain ⟨A3, a3, p⟩ := h.out
 have start : PopS A2 A3 l d d.size := by
  rcases a3 with ⟨h0, e, rfl, _⟩ | ⟨hb, rfl⟩
  ·exact .inl ⟨h0, e, true, rfl⟩
  ·exact .inr ⟨hb, false, rfl⟩
 have e0 : (d.extract 0 d.size).toList = d.toList := by simp
 have P0 : Pops n rows [] d d.size := ⟨Nat.le_refl _, hh, by rw [e0]; exact hp.symm, fun i j x y _ hx => by simp at hx, fun x hx => by simp at hx⟩
 refine loop_w (P := PG) (X := AVal) (Y := AVal) (fun o => envL .und [(8, o), (5, .ptr l 0)]) (fun o => envL .und [(8, o)])
  (fun m o H1 nx1 => nx ≤ nx1 ∧ ∃ out d A4 A5, OutA A2 A4 o out ∧ PopS A4 A5 l d m ∧ SM M A5 F H1 nx1 ∧ Sls d ∧ Pops n rows out d m ∧ out.length ≤ 20 ∧ (∀ v ∈ out, isSl v.t = true) ∧ m ≤ 3000)
  (fun id o H1 nx1 => id = 2 ∧ nx ≤ nx1 ∧ ∃ out A4, OutA A2 A4 o out ∧ SM M A4 F H1 nx1 ∧ HotR n rows out ∧ (∀ v ∈ out, isSl v.t = true)) d.size .nilSlice he
  ⟨Nat.le_refl _, [], d, A2, A3, .inl ⟨rfl, rfl, rfl⟩, start, p, hsl, P0, by simp, by simp, hN⟩ ?_ ?_
 ·rintro m o H1 nx1 ⟨g1, out, d, A4, A5, ha, hs, q, hsl, hP, h20, hty, hm3⟩
  refine WpP.part (ts := [5, 8]) mixed ?_
  rw [LHot2_eq]
  unfold LHot2
  obtain ⟨hb, full, hl⟩ := hs.ld q
  refine ⟨_, hl, m, rfl, ifB_iff.2 ⟨fun hc => ?_, fun hc => ?_⟩⟩
  ·have hc : (0 : Int) < Int.ofNat m := of_decide_eq_true hc
   have hm0 : m ≠ 0 := by rintro rfl; simp at hc
   refine ⟨_, ha.len, ifB_iff.2 ⟨fun hk => ?_, fun hk => ?_⟩⟩
   ·have hk : Int.ofNat out.length < 20 := of_decide_eq_true hk
    simp only [Int.ofNat_eq_natCast] at hk
    obtain ⟨m', rfl⟩ : ∃ m', m = m' + 1 := ⟨m - 1, by omega⟩
    rcases hs with ⟨h0, _⟩ | ⟨hb, full, rfl⟩
    ·omega
    refine pop_ok q hsl hP (by omega) fun e H2 n2 g2 p2 hs2 hP2 hx => onEnd_ret.2 ⟨_, assert_c _ _ _ _ _, _, _, _, _, _, rfl, ?_⟩
    have p3 := (p2.newN (i := n2) (nx' := n2 + 1) (cs := (e[m']!).vals) (Nat.le_refl _) (by omega)).freeze
    refine ⟨_, rfl, 1, _, p3.src (b := n2) (off := 0) (n := 1) (sz := 5) (e := 5) (full := true) (.head _) (by rw [vals_len]; omega), allCell_vals hx, ?_⟩
    obtain ⟨v, H4, A6, e4, a6, p4⟩ := ha.app2 (x := e[m']!) (p3.sub (G := F) fun P hP => .tail _ hP) (by omega)
    refine ⟨v, H4, _, e4, rfl, m', v, by omega, EnvLe.of_list (by exact ⟨rfl, rfl, trivial⟩), by omega, _, e, A6, _, a6, .inr ⟨hb, false, rfl⟩, p4, hs2, hP2, by simp; omega, ?_, by omega⟩
    intro w hw
    rcases List.mem_append.1 hw with hw | hw
    ·exact hty w hw
    ·simp at hw; subst hw; exact hx
   ·have hk : ¬ Int.ofNat out.length < 20 := of_decide_eq_false hk
    simp only [Int.ofNat_eq_natCast] at hk
    exact ⟨rfl, o, EnvLe.of_list (by exact ⟨rfl, trivial⟩), rfl, g1, out, A4, ha, q.sel hs.sub, hP.done h20 (.inr (by omega)), hty⟩
  ·have hc : ¬ (0 : Int) < Int.ofNat m := of_decide_eq_false hc
   have hm0 : m = 0 := by simp at hc; exact hc
   exact ⟨rfl, o, EnvLe.of_list (by exact ⟨rfl, trivial⟩), rfl, g1, out, A4, ha, q.sel hs.sub, hP.done h20 (.inl hm0), hty⟩
 ·rintro id o H1 nx1 ⟨rfl, g1, out, A4, ha, q, hR, hty⟩
  exact hK out o A4 H1 nx1 g1 hR hty ha q
theorem hot_ok {p mb : Nat} {n : Int} {L : List (Nat × VRow)} (h : SM M A F H nx) (hp : RowF p [.map mb] ∈ F) (hm : M mb = some (.map (ents L 0) L.length)) (hL : CntF L ∈ F) (hN : L.length ≤ 3000)
  (hK : ∀ o rows out A0 H' nx', nx ≤ nx' → AllR L rows → HotR n rows out → OutA A A0 o out → SM M A0 F H' nx' → K (.ret o) H' nx') : TriP PG f_pf_Hot [.ptr p 0, iv n] H nx K := by
 refine TriP.of_body mixed ?_
 rw [Fpf_Hot_eq]
 unfold Fpf_Hot
 refine h.newF (Nat.le_refl _) fun H0 p0 => p0.new (Nat.le_refl _) fun H1 p1 => ⟨rfl, p1.one .hd (by simp) rfl fun H2 p2 => ?_⟩
 refine all_ok p2 (.tail _ hp) hm (.tail _ hL) (by omega) fun o rows A0 H3 n3 g3 hR ha p3 => onEnd_ret.2 ⟨_, ha.len, ?_⟩
 obtain ⟨A2, a2, p4⟩ := ha.swap p3
 have hty : ∀ v ∈ rows, isSl v.t = true := fun v hv => by obtain ⟨e, he⟩ := hR.2.1 v hv; rw [he]; rfl
 have hlen := hR.len
 refine hot1 (l := nx + 1) (n := n) (F := RowF nx [] :: F) a2 (.inl ⟨rfl, nx, p4, .head _⟩) hty (by omega) (fun d H5 n5 g5 hs hsl hh hp5 => ?_) (EnvLe.of_list (by exact ⟨rfl, rfl, rfl, rfl, rfl, trivial⟩))
 rw [VHot_eq]
 unfold VHot
 have hd : d.size ≤ rows.length := by
  have := hp5.length_eq
  have h2 := List.length_filter_le (fun x : VRow => decide (n ≤ x.c)) rows
  simp at this
  omega
 refine hot2 hs hsl hh hp5 (by omega) (fun out o' A4 H6 n6 g6 hHR hty6 ha6 p6 => ?_) (EnvLe.of_list (by exact ⟨rfl, rfl, trivial⟩))
 rw [AHot2_eq]
 unfold AHot2
 obtain ⟨A7, a7, p7⟩ : ∃ A7, OutA A A7 o' out ∧ SM M A7 (RowF nx [] :: F) H6 n6 := by
  rcases ha6 with ⟨rfl, rfl, rfl⟩ | ⟨b, rfl, rfl⟩
  ·exact ⟨A, .inl ⟨rfl, rfl, rfl⟩, p6.sel a2.sub⟩
  ·exact ⟨_, .inr ⟨b, rfl, rfl⟩, p6.sel (List.Sublist.cons_cons _ a2.sub)⟩
 exact hK o' rows out A7 H6 n6 (by omega) hR hHR a7 (p7.sub fun P hP => .tail _ hP)
end
end
end Go.Vs
end
section
namespace Go.Vs
open Go.Proofs Go.Sort Go.Hp
variable [GTab]
noncomputable section
section
variable {M : MM} {A A' : Owned} {F : Facts} {H : Heap} {nx : Nat} {K : EndP}
theorem ghot_ok {p mb : Nat} {n : Int} {L : List (Nat × GRow)} (h : SM M A F H nx) (hp : RowF p [.map mb] ∈ F) (hm : M mb = some (.map (gents L) L.length)) (hL : EntF L ∈ F) (h4 : ∀ q ∈ L, q.2.2.ts.length ≤ 4) (hN : L.length ≤ 3000)
  (hK : ∀ o rows out A0 H' nx', nx ≤ nx' → AllG L rows → HotR n (vs rows) out → OutA A A0 o out → SM M A0 (RowsF rows :: F) H' nx' → K (.ret o) H' nx') : TriP PG f_pf_Hot [.ptr p 0, iv n] H nx K := by
 refine TriP.of_body mixed ?_
 rw [Fpf_Hot_eq]
 unfold Fpf_Hot
 refine h.newF (Nat.le_refl _) fun H0 p0 => p0.new (Nat.le_refl _) fun H1 p1 => ⟨rfl, p1.one .hd (by simp) rfl fun H2 p2 => ?_⟩
 refine gall_ok p2 (.tail _ hp) hm (.tail _ hL) h4 (by omega) fun o rows A0 H3 n3 g3 hR hsl ha p3 => onEnd_ret.2 ⟨_, ha.len, ?_⟩
 obtain ⟨A2, a2, p4⟩ := ha.swap p3
 have hty : ∀ v ∈ vs rows, isSl v.t = true := fun v hv => by
  obtain ⟨x, hx, rfl⟩ := List.mem_map.1 hv
  obtain ⟨e, m, full, he⟩ := hsl x hx
  show isSl x.1 = true
  rw [he]; rfl
 have hlen : (vs rows).length ≤ L.length := by
  have := hR.1.length_eq
  have h2 := List.length_filter_le (fun x : Cnt => !x.empty) (cnts L)
  simp [cnts] at this h2 ⊢
  omega
 refine hot1 (l := nx + 1) (n := n) (F := RowsF rows :: RowF nx [] :: F) a2 (.inl ⟨rfl, nx, p4, .tail _ (.head _)⟩) hty (by omega) (fun d H5 n5 g5 hs hsl hh hp5 => ?_) (EnvLe.of_list (by exact ⟨rfl, rfl, rfl, rfl, rfl, trivial⟩))
 rw [VHot_eq]
 unfold VHot
 have hd : d.size ≤ (vs rows).length := by
  have := hp5.length_eq
  have h2 := List.length_filter_le (fun x : VRow => decide (n ≤ x.c)) (vs rows)
  simp only [Array.length_toList] at this
  omega
 refine hot2 hs hsl hh hp5 (by omega) (fun out o' A4 H6 n6 g6 hHR hty6 ha6 p6 => ?_) (EnvLe.of_list (by exact ⟨rfl, rfl, trivial⟩))
 rw [AHot2_eq]
 unfold AHot2
 obtain ⟨A7, a7, p7⟩ : ∃ A7, OutA A A7 o' out ∧ SM M A7 (RowsF rows :: RowF nx [] :: F) H6 n6 := by
  rcases ha6 with ⟨rfl, rfl, rfl⟩ | ⟨b, rfl, rfl⟩
  ·exact ⟨A, .inl ⟨rfl, rfl, rfl⟩, p6.sel a2.sub⟩
  ·exact ⟨_, .inr ⟨b, rfl, rfl⟩, p6.sel (List.Sublist.cons_cons _ a2.sub)⟩
 refine hK o' rows out A7 H6 n6 (by omega) hR hHR a7 (p7.sub fun P hP => ?_)
 rcases List.mem_cons.1 hP with rfl | hP
 ·exact .head _
 ·exact .tail _ (.tail _ hP)
theorem hotR_same {n : Int} {rows : List GRow} {N : List Cnt} {out : List VRow} (h : HotR n (vs rows) out) (hN : cs_ rows = N) (hs : N.Pairwise PlLt) :
  ∃ o : List GRow, vs o = out ∧ (∀ x ∈ o, x ∈ rows) ∧ cs_ o = (hotL n [] N).take (min (hotL n [] N).length 20) := by
 obtain ⟨rest, hp, ho, hr, h20, he⟩ := h
 have e1 : (vs rows).filter (fun x => decide (n ≤ x.c)) = vs (rows.filter fun x => decide (n ≤ x.2.c)) := by
  unfold vs; rw [List.filter_map]; rfl
 rw [e1] at hp
 obtain ⟨m, em, pm⟩ := perm_map hp rfl
 obtain ⟨m1, m2, rfl, em1, em2⟩ := List.map_eq_append_iff.1 em
 subst em1 em2
 have hpc : (N.filter fun x => decide (n ≤ x.c)).Perm (cs_ m1 ++ cs_ m2) := by
  have := pm.map fun x : GRow => x.2
  rw [List.map_append] at this
  refine List.Perm.trans ?_ this
  rw [← hN]
  unfold cs_; rw [List.filter_map]
  exact .refl _
 have hpl : Placed (cs_ m1 ++ cs_ m2) := by
  have h1 : Placed (N.filter fun x => decide (n ≤ x.c)) := (sorted_placed hs).sublist List.filter_sublist
  exact (hpc.pairwise_iff (R := fun x y : Cnt => ¬ (x.a = y.a ∧ x.b = y.b)) fun q => by omega).1 h1
 have key : ∀ x y : GRow, lessH y.v x.v = false → ¬ (x.2.a = y.2.a ∧ x.2.b = y.2.b) → HtLt x.2 y.2 := by
  intro x y h1 h2
  rw [lessH_no] at h1
  have h1 : ¬ (x.2.c < y.2.c ∨ y.2.c = x.2.c ∧ (y.2.a < x.2.a ∨ y.2.a = x.2.a ∧ y.2.b < x.2.b)) := h1
  unfold HtLt PlLt
  omega
 obtain ⟨hp1, hp2, hp3⟩ := List.pairwise_append.1 hpl
 refine ⟨m1, rfl, fun x hx => (List.mem_filter.1 (pm.mem_iff.2 (List.mem_append_left _ hx))).1, hot_same hs hpc ?_ ?_ (by simpa using h20) ?_⟩
 ·rw [List.pairwise_iff_getElem]
  intro i j hi hj hij
  have hi' : i < m1.length := by simpa using hi
  have hj' : j < m1.length := by simpa using hj
  have h2 := ho i j (m1[i].v) (m1[j].v) hij (by simp [hi']) (by simp [hj'])
  have h3 := List.pairwise_iff_getElem.1 hp1 i j hi hj hij
  simp only [List.getElem_map] at h3 ⊢
  exact key _ _ h2 h3
 ·intro x hx y hy
  obtain ⟨x', hx', rfl⟩ := List.mem_map.1 hx
  obtain ⟨y', hy', rfl⟩ := List.mem_map.1 hy
  exact key _ _ (hr _ (List.mem_map_of_mem hx') _ (List.mem_map_of_mem hy')) (hp3 _ hx _ hy)
 ·rcases he with he | he
  ·exact .inl (by simpa using he)
  ·exact .inr (by
    have : m2 = [] := by simpa using he
    subst this; rfl)
end
end
end Go.Vs
end
