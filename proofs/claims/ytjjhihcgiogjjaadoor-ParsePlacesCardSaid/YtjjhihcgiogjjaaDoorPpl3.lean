/-
  Own work. Texts of a proof, laid together; no condition.
-/
import Derived.Test.YtjjhihcgiogjjaaDoorChecked
import Derived.Test.YtjjhihcgiogjjaaDoorPpl2
set_option linter.unusedSectionVars false
set_option linter.unusedVariables false
set_option linter.unusedSimpArgs false
set_option maxRecDepth 1000000
section
namespace Go.Vs
open Go.Proofs
noncomputable abbrev PG : Program := Tryd.prog
abbrev uv (n : Int) : AVal := .int .u64 n
abbrev iv (n : Int) : AVal := .int .i64 n
abbrev bv (n : Int) : AVal := .int .u8 n
theorem mixed : PG.follows .mixedOrders = true := by kernel_rfl
abbrev f_law4_ParsePlaces : FuncId := 3
abbrev f_h_Pick : FuncId := 4
abbrev f_h_Bent : FuncId := 5
abbrev f_p_Parse : FuncId := 6
abbrev f_law4_known : FuncId := 7
abbrev f_r3_Same : FuncId := 8
abbrev f_law4_down : FuncId := 9
abbrev f_h_Text : FuncId := 10
abbrev f_tk_All : FuncId := 11
abbrev f_p_place : FuncId := 12
abbrev f_p_Parse_1 : FuncId := 13
abbrev f_rd_file : FuncId := 14
abbrev f_mk_line : FuncId := 15
abbrev f_mk_fn : FuncId := 16
abbrev f_mk_next : FuncId := 17
abbrev f_sc_one : FuncId := 18
abbrev f_sc_ends : FuncId := 19
abbrev f_sc_put : FuncId := 20
abbrev f_rd_now : FuncId := 21
abbrev f_rd_gaps : FuncId := 22
abbrev f_rd_is : FuncId := 23
abbrev f_rd_typeDecl : FuncId := 24
abbrev f_rd_funcDecl : FuncId := 25
abbrev f_rd_fault : FuncId := 26
abbrev f_rd_need : FuncId := 27
abbrev f_p_node : FuncId := 28
abbrev f_mk_tabs : FuncId := 29
abbrev f_mk_stmts : FuncId := 30
abbrev f_mk_expr : FuncId := 31
abbrev f_sc_sign : FuncId := 32
abbrev f_sc_next : FuncId := 33
abbrev f_sc_skip : FuncId := 34
abbrev f_sc_rest : FuncId := 35
abbrev f_sc_comment : FuncId := 36
abbrev f_tk_letter : FuncId := 37
abbrev f_sc_word : FuncId := 38
abbrev f_tk_digit : FuncId := 39
abbrev f_sc_number : FuncId := 40
abbrev f_sc_text : FuncId := 41
abbrev f_rd_has : FuncId := 42
abbrev f_rd_name : FuncId := 43
abbrev f_rd_list : FuncId := 44
abbrev f_rd_method : FuncId := 45
abbrev f_rd_field : FuncId := 46
abbrev f_p_none : FuncId := 47
abbrev f_rd_row : FuncId := 48
abbrev f_rd_param : FuncId := 49
abbrev f_rd_result : FuncId := 50
abbrev f_rd_block : FuncId := 51
abbrev f_mk_stmt : FuncId := 52
abbrev f_mk_leaf : FuncId := 53
abbrev f_mk_expr_1 : FuncId := 54
abbrev f_sc_fault : FuncId := 55
abbrev f_tk_IsWord : FuncId := 56
abbrev f_tk_escape : FuncId := 57
abbrev f_rd_next : FuncId := 58
abbrev f_rd_ends : FuncId := 59
abbrev f_rd_typ : FuncId := 60
abbrev f_rd_stmt : FuncId := 61
abbrev f_mk_declare : FuncId := 62
abbrev f_mk_v : FuncId := 63
abbrev f_mk_loop : FuncId := 64
abbrev f_rd_enter : FuncId := 65
abbrev f_rd_leave : FuncId := 66
abbrev f_rd_maybe : FuncId := 67
abbrev f_rd_ifs : FuncId := 68
abbrev f_rd_expr : FuncId := 69
abbrev f_rd_simple : FuncId := 70
abbrev f_h_Digits : FuncId := 71
abbrev f_rd_nested : FuncId := 72
abbrev f_rd_binary : FuncId := 73
abbrev f_rd_unary : FuncId := 74
abbrev f_p_rank : FuncId := 75
abbrev f_rd_post : FuncId := 76
abbrev f_rd_prime : FuncId := 77
abbrev f_rd_dot : FuncId := 78
abbrev f_rd_one : FuncId := 79
abbrev t_int : TypeId := 3
abbrev t_str : TypeId := 9
abbrev t_fault : TypeId := 48
abbrev t_node : TypeId := 27
abbrev t_place : TypeId := 29
abbrev t_errno : TypeId := 30
end Go.Vs
end
section
namespace Go.Vs
open Go.Proofs
variable [GTab]
def Flaw4_ParsePlaces (call : CallP) (lp : Nat → LoopP) (lv : LeaveP) (lvc : LeaveC) (raw : AVal) (how : AVal) (n : Int) (H : Heap) (nx : Nat) (K : EndP) : Prop :=
 call f_h_Pick [iv n, iv 9] H nx fun e0 H1 i2 => onEnd e0 (fun v3 => ∃ n4 : Int, v3 = iv n4 ∧ call f_h_Bent [raw, how] H1 i2 fun e5 H6 i7 => onEnd e5 (fun v8 => ∃ s9, v8 = AVal.str s9 ∧ lp 87
 (subAt (codeOf PG 3) [1, 1, 1, 1, 0, 1, 0, 0]) (envL (AVal.tuple []) [(9, iv 0), (8, AVal.str []), (7, AVal.str s9), (20, AVal.str s9), (19, how), (18, raw), (2, iv n4), (17,
 iv n4), (16, iv n), (6, AVal.bool false), (2, iv n), (1, how), (0, raw)]) H6 i7 [] none (contAt PG call (lp 87) 87 (codeOf PG 3) [1, 1, 1, 1, 0, 1, 0] (endK PG
 lv lvc K (resOf PG 3)))) fun l10 => K (AEnd.pan l10) H6 i7) fun l11 => K (AEnd.pan l11) H1 i2
theorem Flaw4_ParsePlaces_eq (call : CallP) (lp : Nat → LoopP) (lv : LeaveP) (lvc : LeaveC) (raw : AVal) (how : AVal) (n : Int) (H : Heap) (nx : Nat) (K : EndP) : vBody PG call lp f_law4_ParsePlaces [raw, how, iv n] H nx (endK PG lv lvc K) = Flaw4_ParsePlaces call lp lv lvc raw how n H nx K := by kernel_rfl
def Flaw4_down (call : CallP) (lp : Nat → LoopP) (lv : LeaveP) (lvc : LeaveC) (k1 : Int) (n1 : Int) (l1 : Int) (c1 : Int) (k2 : Int) (n2 : Int) (l2 : Int) (c2 : Int) (s1 : List UInt8) (s2 : List UInt8) (w1 : AVal) (w2 : AVal) (n : Int) (H : Heap) (nx : Nat) (K : EndP) : Prop :=
 ∃ H0, H0 = newBN nx [iv k1, AVal.str s1, iv n1, iv l1, iv c1, w1].length [iv k1, AVal.str s1, iv n1, iv l1, iv c1, w1] H ∧ ∃ H1, H1 = newBN (nx + 1) [iv k2, AVal.str s2, iv n2, iv
 l2, iv c2, w2].length [iv k2, AVal.str s2, iv n2, iv l2, iv c2, w2] H0 ∧ ∃ v2, some (AVal.ptr nx 0) = some v2 ∧ ∃ n3 : Int, ld1 H1 v2 = some (iv n3) ∧ ifB (!decide (n3 = 38)) (∃ v4,
 some (AVal.ptr nx 3) = some v4 ∧ ∃ n5 : Int, ld1 H1 v4 = some (iv n5) ∧ ∃ v6, some (AVal.ptr (nx + 1) 3) = some v6 ∧ ∃ n7 : Int, ld1 H1 v6 = some (iv n7) ∧ ifB (!decide
 (IntKind.i64.wrap (n5 + n) = n7)) (K (AEnd.ret (AVal.bool false)) H1 (nx + 1 + 1)) (∃ v8, some (AVal.ptr nx 4) = some v8 ∧ ∃ n9 : Int, ld1 H1 v8 = some (iv n9) ∧ ∃ v10, some
 (AVal.ptr (nx + 1) 4) = some v10 ∧ ∃ n11 : Int, ld1 H1 v10 = some (iv n11) ∧ ifB (!decide (n9 = n11)) (K (AEnd.ret (AVal.bool false)) H1 (nx + 1 + 1)) (∃ v12, some (AVal.ptr nx 5) =
 some v12 ∧ ∃ v13, ld1 H1 v12 = some v13 ∧ ∃ i14, lenS v13 = some i14 ∧ ∃ v15, some (AVal.ptr (nx + 1) 5) = some v15 ∧ ∃ v16, ld1 H1 v15 = some v16 ∧ ∃ i17, lenS v16 = some i17 ∧ ifB
 (!decide (Int.ofNat i14 = Int.ofNat i17)) (K (AEnd.ret (AVal.bool false)) H1 (nx + 1 + 1)) (lp 56 (subAt (codeOf PG 9) [1, 1, 0, 1, 0, 0]) (envL (AVal.tuple []) [(7, iv 0),
 (35, AVal.bool false), (35, AVal.bool !decide (Int.ofNat i14 = Int.ofNat i17)), (34, AVal.bool !decide (Int.ofNat i14 = Int.ofNat i17)), (27, AVal.bool false), (33, iv (Int.ofNat
 i17)), (27, AVal.bool false), (32, v16), (27, AVal.bool false), (31, v15), (27, AVal.bool false), (30, iv (Int.ofNat i14)), (27, AVal.bool false), (29, v13), (27, AVal.bool false),
 (28, v12), (27, AVal.bool false), (27, AVal.bool !decide (n9 = n11)), (26, AVal.bool !decide (n9 = n11)), (25, AVal.bool !decide (n9 = n11)), (11, AVal.bool true), (24, AVal.bool
 !decide (n9 = n11)), (19, AVal.bool false), (23, iv n11), (19, AVal.bool false), (22, v10), (19, AVal.bool false), (21, iv n9), (19, AVal.bool false), (20, v8), (19, AVal.bool
 false), (19, AVal.bool !decide (IntKind.i64.wrap (n5 + n) = n7)), (11, AVal.bool true), (18, AVal.bool !decide (IntKind.i64.wrap (n5 + n) = n7)), (11, AVal.bool true), (17, iv n7),
 (11, AVal.bool true), (16, v6), (11, AVal.bool true), (15, iv (IntKind.i64.wrap (n5 + n))), (11, AVal.bool true), (14, iv n), (11, AVal.bool true), (13, iv n5), (11, AVal.bool
 true), (12, v4), (11, AVal.bool true), (11, AVal.bool !decide (n3 = 38)), (10, AVal.bool !decide (n3 = 38)), (9, iv n3), (8, v2), (6, AVal.bool false), (4, AVal.ptr (nx + 1) 0), (3,
 AVal.ptr nx 0), (2, iv n), (1, AVal.agg [iv k2, AVal.str s2, iv n2, iv l2, iv c2, w2]), (0, AVal.agg [iv k1, AVal.str s1, iv n1, iv l1, iv c1, w1])]) H1 (nx + 1 + 1) [] none (contAt
 PG call (lp 56) 56 (codeOf PG 9) [1, 1, 0, 1, 0] (endK PG lv lvc K (resOf PG 9))))))) (∃ v18, some (AVal.ptr nx 5) = some v18 ∧ ∃ v19, ld1 H1 v18 = some
 v19 ∧ ∃ i20, lenS v19 = some i20 ∧ ∃ v21, some (AVal.ptr (nx + 1) 5) = some v21 ∧ ∃ v22, ld1 H1 v21 = some v22 ∧ ∃ i23, lenS v22 = some i23 ∧ ifB (!decide (Int.ofNat i20 = Int.ofNat
 i23)) (K (AEnd.ret (AVal.bool false)) H1 (nx + 1 + 1)) (lp 56 (subAt (codeOf PG 9) [1, 1, 0, 1, 0, 0]) (envL (AVal.tuple []) [(7, iv 0), (35, AVal.bool false), (35, AVal.bool
 !decide (Int.ofNat i20 = Int.ofNat i23)), (34, AVal.bool !decide (Int.ofNat i20 = Int.ofNat i23)), (27, AVal.bool false), (33, iv (Int.ofNat i23)), (27, AVal.bool false), (32, v22),
 (27, AVal.bool false), (31, v21), (27, AVal.bool false), (30, iv (Int.ofNat i20)), (27, AVal.bool false), (29, v19), (27, AVal.bool false), (28, v18), (27, AVal.bool false), (27,
 AVal.bool false), (26, AVal.bool false), (25, AVal.tuple []), (11, AVal.bool false), (24, AVal.tuple []), (23, AVal.tuple []), (22, AVal.tuple []), (21, AVal.tuple []), (20,
 AVal.tuple []), (19, AVal.tuple []), (11, AVal.bool false), (18, AVal.tuple []), (11, AVal.bool false), (17, AVal.tuple []), (11, AVal.bool false), (16, AVal.tuple []), (11,
 AVal.bool false), (15, AVal.tuple []), (11, AVal.bool false), (14, AVal.tuple []), (11, AVal.bool false), (13, AVal.tuple []), (11, AVal.bool false), (12, AVal.tuple []), (11,
 AVal.bool false), (11, AVal.bool !decide (n3 = 38)), (10, AVal.bool !decide (n3 = 38)), (9, iv n3), (8, v2), (6, AVal.bool false), (4, AVal.ptr (nx + 1) 0), (3, AVal.ptr nx 0), (2,
 iv n), (1, AVal.agg [iv k2, AVal.str s2, iv n2, iv l2, iv c2, w2]), (0, AVal.agg [iv k1, AVal.str s1, iv n1, iv l1, iv c1, w1])]) H1 (nx + 1 + 1) [] none (contAt PG call (lp
 56) 56 (codeOf PG 9) [1, 1, 0, 1, 0] (endK PG lv lvc K (resOf PG 9)))))
theorem Flaw4_down_eq (call : CallP) (lp : Nat → LoopP) (lv : LeaveP) (lvc : LeaveC) (k1 : Int) (n1 : Int) (l1 : Int) (c1 : Int) (k2 : Int) (n2 : Int) (l2 : Int) (c2 : Int) (s1 : List UInt8) (s2 : List UInt8) (w1 : AVal) (w2 : AVal) (n : Int) (H : Heap) (nx : Nat) (K : EndP) : vBody PG call lp f_law4_down [AVal.agg [iv k1, AVal.str s1, iv n1, iv l1, iv c1, w1], AVal.agg [iv k2, AVal.str s2, iv n2, iv l2, iv c2, w2], iv n] H nx (endK PG lv lvc K) = Flaw4_down call lp lv lvc k1 n1 l1 c1 k2 n2 l2 c2 s1 s2 w1 w2 n H nx K := by kernel_rfl
def Fr3_Same (call : CallP) (lp : Nat → LoopP) (lv : LeaveP) (lvc : LeaveC) (k1 : Int) (n1 : Int) (l1 : Int) (c1 : Int) (k2 : Int) (n2 : Int) (l2 : Int) (c2 : Int) (s1 : List UInt8) (s2 : List UInt8) (w1 : AVal) (w2 : AVal) (H : Heap) (nx : Nat) (K : EndP) : Prop :=
 ∃ H0, H0 = newBN nx [iv k1, AVal.str s1, iv n1, iv l1, iv c1, w1].length [iv k1, AVal.str s1, iv n1, iv l1, iv c1, w1] H ∧ ∃ H1, H1 = newBN (nx + 1) [iv k2, AVal.str s2, iv n2, iv
 l2, iv c2, w2].length [iv k2, AVal.str s2, iv n2, iv l2, iv c2, w2] H0 ∧ ∃ v2, some (AVal.ptr nx 0) = some v2 ∧ ∃ n3 : Int, ld1 H1 v2 = some (iv n3) ∧ ∃ v4, some (AVal.ptr (nx + 1)
 0) = some v4 ∧ ∃ n5 : Int, ld1 H1 v4 = some (iv n5) ∧ ifB (!decide (n3 = n5)) (K (AEnd.ret (AVal.bool false)) H1 (nx + 1 + 1)) (∃ v6, some (AVal.ptr nx 1) = some v6 ∧ ∃ s7, ld1 H1
 v6 = some (AVal.str s7) ∧ ∃ v8, some (AVal.ptr (nx + 1) 1) = some v8 ∧ ∃ s9, ld1 H1 v8 = some (AVal.str s9) ∧ ifB (!s7 == s9) (K (AEnd.ret (AVal.bool false)) H1 (nx + 1 + 1)) (∃
 v10, some (AVal.ptr nx 2) = some v10 ∧ ∃ n11 : Int, ld1 H1 v10 = some (iv n11) ∧ ∃ v12, some (AVal.ptr (nx + 1) 2) = some v12 ∧ ∃ n13 : Int, ld1 H1 v12 = some (iv n13) ∧ ifB
 (!decide (n11 = n13)) (K (AEnd.ret (AVal.bool false)) H1 (nx + 1 + 1)) (∃ v14, some (AVal.ptr nx 5) = some v14 ∧ ∃ v15, ld1 H1 v14 = some v15 ∧ ∃ i16, lenS v15 = some i16 ∧ ∃ v17,
 some (AVal.ptr (nx + 1) 5) = some v17 ∧ ∃ v18, ld1 H1 v17 = some v18 ∧ ∃ i19, lenS v18 = some i19 ∧ ifB (!decide (Int.ofNat i16 = Int.ofNat i19)) (K (AEnd.ret (AVal.bool false)) H1
 (nx + 1 + 1)) (lp 53 (subAt (codeOf PG 8) [1, 1, 0, 1, 0, 0]) (envL (AVal.tuple []) [(5, iv 0), (33, AVal.bool false), (33, AVal.bool !decide (Int.ofNat i16 = Int.ofNat
 i19)), (32, AVal.bool !decide (Int.ofNat i16 = Int.ofNat i19)), (25, AVal.bool false), (31, iv (Int.ofNat i19)), (25, AVal.bool false), (30, v18), (25, AVal.bool false), (29, v17),
 (25, AVal.bool false), (28, iv (Int.ofNat i16)), (25, AVal.bool false), (27, v15), (25, AVal.bool false), (26, v14), (25, AVal.bool false), (25, AVal.bool !decide (n11 = n13)), (24,
 AVal.bool !decide (n11 = n13)), (23, AVal.bool !decide (n11 = n13)), (18, AVal.bool false), (22, iv n13), (18, AVal.bool false), (21, v12), (18, AVal.bool false), (20, iv n11), (18,
 AVal.bool false), (19, v10), (18, AVal.bool false), (18, AVal.bool !s7 == s9), (17, AVal.bool !s7 == s9), (16, AVal.bool !s7 == s9), (11, AVal.bool false), (15, AVal.str s9), (11,
 AVal.bool false), (14, v8), (11, AVal.bool false), (13, AVal.str s7), (11, AVal.bool false), (12, v6), (11, AVal.bool false), (11, AVal.bool !decide (n3 = n5)), (10, AVal.bool
 !decide (n3 = n5)), (9, iv n5), (8, v4), (7, iv n3), (6, v2), (4, AVal.bool false), (3, AVal.ptr (nx + 1) 0), (2, AVal.ptr nx 0), (1, AVal.agg [iv k2, AVal.str s2, iv n2, iv l2, iv
 c2, w2]), (0, AVal.agg [iv k1, AVal.str s1, iv n1, iv l1, iv c1, w1])]) H1 (nx + 1 + 1) [] none (contAt PG call (lp 53) 53 (codeOf PG 8) [1, 1, 0, 1, 0] (endK
 PG lv lvc K (resOf PG 8)))))))
theorem Fr3_Same_eq (call : CallP) (lp : Nat → LoopP) (lv : LeaveP) (lvc : LeaveC) (k1 : Int) (n1 : Int) (l1 : Int) (c1 : Int) (k2 : Int) (n2 : Int) (l2 : Int) (c2 : Int) (s1 : List UInt8) (s2 : List UInt8) (w1 : AVal) (w2 : AVal) (H : Heap) (nx : Nat) (K : EndP) : vBody PG call lp f_r3_Same [AVal.agg [iv k1, AVal.str s1, iv n1, iv l1, iv c1, w1], AVal.agg [iv k2, AVal.str s2, iv n2, iv l2, iv c2, w2]] H nx (endK PG lv lvc K) = Fr3_Same call lp lv lvc k1 n1 l1 c1 k2 n2 l2 c2 s1 s2 w1 w2 H nx K := by kernel_rfl
end Go.Vs
end
section
namespace Go.Vs
open Go.Proofs
variable [GTab]
def LSame (call : CallP) (lp : Nat → LoopP) (N : KC) (X : Nat → KC) (R : KC) (Pn : List (AVal × Bool) → KC) (p : Nat) (q : Nat) (i : Int) (H : Heap) (nx : Nat) : Prop :=
 ∃ v0, some (AVal.ptr p 5) = some v0 ∧ ∃ v1, ld1 H v0 = some v1 ∧ ∃ i2, lenS v1 = some i2 ∧ ifB (decide (i < Int.ofNat i2)) (∃ v3, some (AVal.ptr p 5) = some v3 ∧ ∃ v4, ld1 H v3 =
 some v4 ∧ 0 ≤ i ∧ ∃ v5, idxS v4 i.toNat 6 = some v5 ∧ ∃ n6 s7 n8 n9 n10 v11, ldN H 6 v5 = some (AVal.agg [iv n6, AVal.str s7, iv n8, iv n9, iv n10, v11]) ∧ ∃ v12, some (AVal.ptr q
 5) = some v12 ∧ ∃ v13, ld1 H v12 = some v13 ∧ 0 ≤ i ∧ ∃ v14, idxS v13 i.toNat 6 = some v14 ∧ ∃ n15 s16 n17 n18 n19 v20, ldN H 6 v14 = some (AVal.agg [iv n15, AVal.str s16, iv n17,
 iv n18, iv n19, v20]) ∧ ((∃ v21, ld1 H v3 = some v21 ∧ v21 = v4) ∧ (∃ n22 s23 n24 n25 n26 v27, ldN H 6 v5 = some (AVal.agg [iv n22, AVal.str s23, iv n24, iv n25, iv n26, v27]) ∧
 AVal.agg [iv n22, AVal.str s23, iv n24, iv n25, iv n26, v27] = AVal.agg [iv n6, AVal.str s7, iv n8, iv n9, iv n10, v11]) ∧ (∃ v28, ld1 H v12 = some v28 ∧ v28 = v13) ∧ (∃ n29 s30 n31
 n32 n33 v34, ldN H 6 v14 = some (AVal.agg [iv n29, AVal.str s30, iv n31, iv n32, iv n33, v34]) ∧ AVal.agg [iv n29, AVal.str s30, iv n31, iv n32, iv n33, v34] = AVal.agg [iv n15,
 AVal.str s16, iv n17, iv n18, iv n19, v20]) ∧ True) ∧ call f_r3_Same [AVal.agg [iv n6, AVal.str s7, iv n8, iv n9, iv n10, v11], AVal.agg [iv n15, AVal.str s16, iv n17, iv n18, iv n19, v20]]
 H (nx + 12) fun e35 H36 i37 => onEnd e35 (fun v38 => ∃ b39, v38 = AVal.bool b39 ∧ True ∧ ifB (!b39) (R (envL AVal.und [(2, AVal.ptr p 0), (3, AVal.ptr q 0), (4, AVal.bool false),
 (5, iv i)]) H36 i37 [] none) (N (envL AVal.und [(2, AVal.ptr p 0), (3, AVal.ptr q 0), (4, AVal.bool false), (5, iv (IntKind.i64.wrap (i + 1)))]) H36 i37 [] none)) fun l40 => Pn l40
 (envL AVal.und [(2, AVal.ptr p 0), (3, AVal.ptr q 0), (4, AVal.bool false), (5, iv i)]) H36 i37 [] none) (X 0 (envL AVal.und [(2, AVal.ptr p 0), (3, AVal.ptr q 0), (4, AVal.bool
 false), (5, iv i)]) H nx [] none)
theorem LSame_eq (call : CallP) (lp : Nat → LoopP) (N : KC) (X : Nat → KC) (R : KC) (Pn : List (AVal × Bool) → KC) (p : Nat) (q : Nat) (i : Int) (H : Heap) (nx : Nat) : vK PG call (lp 53) 53 (subAt (codeOf PG 8) [1,1,0,1,0,0]) (envL .und [(5, iv i), (4, AVal.bool false), (3, AVal.ptr q 0), (2, AVal.ptr p 0)]) H nx [] none (trimK [2,3,4,5] (loopK N X R Pn)) = LSame call lp N X R Pn p q i H nx := by kernel_rfl
def ASame (call : CallP) (lp : Nat → LoopP) (lv : LeaveP) (lvc : LeaveC) (p : Nat) (q : Nat) (i : Int) (H : Heap) (nx : Nat) (K : EndP) : Prop :=
 K (AEnd.ret (AVal.bool true)) H nx
theorem ASame_eq (call : CallP) (lp : Nat → LoopP) (lv : LeaveP) (lvc : LeaveC) (p : Nat) (q : Nat) (i : Int) (H : Heap) (nx : Nat) (K : EndP) : contAt PG call (lp 53) 53 (codeOf PG 8) [1,1,0,1,0] (endK PG lv lvc K (resOf PG 8)) (.exit 0) (envL .und [(5, iv i), (4, AVal.bool false), (3, AVal.ptr q 0), (2, AVal.ptr p 0)]) H nx [] none = ASame call lp lv lvc p q i H nx K := by kernel_rfl
def LDown (call : CallP) (lp : Nat → LoopP) (N : KC) (X : Nat → KC) (R : KC) (Pn : List (AVal × Bool) → KC) (p : Nat) (q : Nat) (n : Int) (i : Int) (H : Heap) (nx : Nat) : Prop :=
 ∃ v0, some (AVal.ptr p 5) = some v0 ∧ ∃ v1, ld1 H v0 = some v1 ∧ ∃ i2, lenS v1 = some i2 ∧ ifB (decide (i < Int.ofNat i2)) (∃ v3, some (AVal.ptr p 5) = some v3 ∧ ∃ v4, ld1 H v3 =
 some v4 ∧ 0 ≤ i ∧ ∃ v5, idxS v4 i.toNat 6 = some v5 ∧ ∃ n6 s7 n8 n9 n10 v11, ldN H 6 v5 = some (AVal.agg [iv n6, AVal.str s7, iv n8, iv n9, iv n10, v11]) ∧ ∃ v12, some (AVal.ptr q
 5) = some v12 ∧ ∃ v13, ld1 H v12 = some v13 ∧ 0 ≤ i ∧ ∃ v14, idxS v13 i.toNat 6 = some v14 ∧ ∃ n15 s16 n17 n18 n19 v20, ldN H 6 v14 = some (AVal.agg [iv n15, AVal.str s16, iv n17,
 iv n18, iv n19, v20]) ∧ ((∃ v21, ld1 H v3 = some v21 ∧ v21 = v4) ∧ (∃ n22 s23 n24 n25 n26 v27, ldN H 6 v5 = some (AVal.agg [iv n22, AVal.str s23, iv n24, iv n25, iv n26, v27]) ∧
 AVal.agg [iv n22, AVal.str s23, iv n24, iv n25, iv n26, v27] = AVal.agg [iv n6, AVal.str s7, iv n8, iv n9, iv n10, v11]) ∧ (∃ v28, ld1 H v12 = some v28 ∧ v28 = v13) ∧ (∃ n29 s30 n31
 n32 n33 v34, ldN H 6 v14 = some (AVal.agg [iv n29, AVal.str s30, iv n31, iv n32, iv n33, v34]) ∧ AVal.agg [iv n29, AVal.str s30, iv n31, iv n32, iv n33, v34] = AVal.agg [iv n15,
 AVal.str s16, iv n17, iv n18, iv n19, v20]) ∧ True) ∧ call f_law4_down [AVal.agg [iv n6, AVal.str s7, iv n8, iv n9, iv n10, v11], AVal.agg [iv n15, AVal.str s16, iv n17, iv n18, iv n19, v20],
 iv n] H (nx + 13) fun e35 H36 i37 => onEnd e35 (fun v38 => ∃ b39, v38 = AVal.bool b39 ∧ True ∧ ifB (!b39) (R (envL AVal.und [(2, iv n), (3, AVal.ptr p 0), (4, AVal.ptr q 0), (6,
 AVal.bool false), (7, iv i)]) H36 i37 [] none) (N (envL AVal.und [(2, iv n), (3, AVal.ptr p 0), (4, AVal.ptr q 0), (6, AVal.bool false), (7, iv (IntKind.i64.wrap (i + 1)))]) H36 i37
 [] none)) fun l40 => Pn l40 (envL AVal.und [(2, iv n), (3, AVal.ptr p 0), (4, AVal.ptr q 0), (6, AVal.bool false), (7, iv i)]) H36 i37 [] none) (X 0 (envL AVal.und [(2, iv n), (3,
 AVal.ptr p 0), (4, AVal.ptr q 0), (6, AVal.bool false), (7, iv i)]) H nx [] none)
theorem LDown_eq (call : CallP) (lp : Nat → LoopP) (N : KC) (X : Nat → KC) (R : KC) (Pn : List (AVal × Bool) → KC) (p : Nat) (q : Nat) (n : Int) (i : Int) (H : Heap) (nx : Nat) : vK PG call (lp 56) 56 (subAt (codeOf PG 9) [1,1,0,1,0,0]) (envL .und [(7, iv i), (6, AVal.bool false), (4, AVal.ptr q 0), (3, AVal.ptr p 0), (2, iv n)]) H nx [] none (trimK [2,3,4,6,7] (loopK N X R Pn)) = LDown call lp N X R Pn p q n i H nx := by kernel_rfl
def ADown (call : CallP) (lp : Nat → LoopP) (lv : LeaveP) (lvc : LeaveC) (p : Nat) (q : Nat) (n : Int) (i : Int) (H : Heap) (nx : Nat) (K : EndP) : Prop :=
 K (AEnd.ret (AVal.bool true)) H nx
theorem ADown_eq (call : CallP) (lp : Nat → LoopP) (lv : LeaveP) (lvc : LeaveC) (p : Nat) (q : Nat) (n : Int) (i : Int) (H : Heap) (nx : Nat) (K : EndP) : contAt PG call (lp 56) 56 (codeOf PG 9) [1,1,0,1,0] (endK PG lv lvc K (resOf PG 9)) (.exit 0) (envL .und [(7, iv i), (6, AVal.bool false), (4, AVal.ptr q 0), (3, AVal.ptr p 0), (2, iv n)]) H nx [] none = ADown call lp lv lvc p q n i H nx K := by kernel_rfl
def LPlc (call : CallP) (lp : Nat → LoopP) (N : KC) (X : Nat → KC) (R : KC) (Pn : List (AVal × Bool) → KC) (raw : AVal) (how : AVal) (n : Int) (i : Int) (s : List UInt8) (up : List UInt8) (H : Heap) (nx : Nat) : Prop :=
 ifB (decide (i < n)) (up.length + 1 ≤ 9223372036854775807 ∧ N (envL AVal.und [(0, raw), (1, how), (2, iv n), (6, AVal.bool false), (7, AVal.str s), (8, AVal.str (up ++ [10])), (9,
 iv (IntKind.i64.wrap (i + 1)))]) H nx [] none) (X 0 (envL AVal.und [(0, raw), (1, how), (2, iv n), (6, AVal.bool false), (7, AVal.str s), (8, AVal.str up), (9, iv i)]) H nx [] none)
theorem LPlc_eq (call : CallP) (lp : Nat → LoopP) (N : KC) (X : Nat → KC) (R : KC) (Pn : List (AVal × Bool) → KC) (raw : AVal) (how : AVal) (n : Int) (i : Int) (s : List UInt8) (up : List UInt8) (H : Heap) (nx : Nat) : vK PG call (lp 87) 87 (subAt (codeOf PG 3) [1,1,1,1,0,1,0,0]) (envL .und [(9, iv i), (8, AVal.str up), (7, AVal.str s), (6, AVal.bool false), (2, iv n), (1, how), (0, raw)]) H nx [] none (trimK [0,1,2,6,7,8,9] (loopK N X R Pn)) = LPlc call lp N X R Pn raw how n i s up H nx := by kernel_rfl
def APlc (call : CallP) (lp : Nat → LoopP) (lv : LeaveP) (lvc : LeaveC) (raw : AVal) (how : AVal) (n : Int) (i : Int) (s : List UInt8) (up : List UInt8) (H : Heap) (nx : Nat) (K : EndP) : Prop :=
 call f_p_Parse [AVal.str s] H nx fun e0 H1 i2 => onEnd e0 (fun v3 => ∃ n4 s5 n6 n7 n8 v9 n10 n11 n12, v3 = AVal.tuple [AVal.agg [iv n4, AVal.str s5, iv n6, iv n7, iv n8, v9], AVal.agg [iv
 n10, iv n11], iv n12] ∧ ∃ H13, H13 = newB i2 [iv 0, AVal.str [], iv 0, iv 0, iv 0, AVal.nilSlice] H1 ∧ ∃ H14, H14 = newB (i2 + 1) [iv 0, iv 0] H13 ∧ ∃ H15, stC H14 (AVal.ptr i2 0)
 [iv n4, AVal.str s5, iv n6, iv n7, iv n8, v9] = some H15 ∧ ∃ H16, stC H15 (AVal.ptr (i2 + 1) 0) [iv n10, iv n11] = some H16 ∧ up.length + s.length ≤ 9223372036854775807 ∧ call 6
 [AVal.str (up ++ s)] H16 (i2 + 1 + 1) fun e17 H18 i19 => onEnd e17 (fun v20 => ∃ n21 s22 n23 n24 n25 v26 n27 n28 n29, v20 = AVal.tuple [AVal.agg [iv n21, AVal.str s22, iv n23, iv
 n24, iv n25, v26], AVal.agg [iv n27, iv n28], iv n29] ∧ ∃ H30, H30 = newB i19 [iv 0, AVal.str [], iv 0, iv 0, iv 0, AVal.nilSlice] H18 ∧ ∃ H31, H31 = newB (i19 + 1) [iv 0, iv 0] H30
 ∧ ∃ H32, stC H31 (AVal.ptr i19 0) [iv n21, AVal.str s22, iv n23, iv n24, iv n25, v26] = some H32 ∧ ∃ H33, stC H32 (AVal.ptr (i19 + 1) 0) [iv n27, iv n28] = some H33 ∧ call f_law4_known [] H33
 (i19 + 1 + 1) fun e34 H35 i36 => onEnd e34 (fun v37 => ∃ b38, v37 = AVal.bool b38 ∧ ifB (!b38) (call f_law4_known [] H35 i36 fun e39 H40 i41 => onEnd e39 (fun v42 => ∃ b43, v42 = AVal.bool b43
 ∧ ifB b43 (ifB (decide (n12 = 6)) (K (AEnd.ret (AVal.bool true)) H40 i41) (K (AEnd.ret (AVal.bool (decide (n29 = 6)))) H40 i41)) (K (AEnd.ret (AVal.bool false)) H40 i41)) fun l44 =>
 K (AEnd.pan l44) H40 i41) (ifB (!decide (n12 = n29)) (call f_law4_known [] H35 i36 fun e45 H46 i47 => onEnd e45 (fun v48 => ∃ b49, v48 = AVal.bool b49 ∧ ifB b49 (ifB (decide (n12 = 6)) (K
 (AEnd.ret (AVal.bool true)) H46 i47) (K (AEnd.ret (AVal.bool (decide (n29 = 6)))) H46 i47)) (K (AEnd.ret (AVal.bool false)) H46 i47)) fun l50 => K (AEnd.pan l50) H46 i47) (ifB
 (!decide (n12 = 0)) (∃ v51, some (AVal.ptr (i19 + 1) 0) = some v51 ∧ ∃ n52 : Int, ld1 H35 v51 = some (iv n52) ∧ ∃ v53, some (AVal.ptr (i2 + 1) 0) = some v53 ∧ ∃ n54 : Int, ld1 H35
 v53 = some (iv n54) ∧ ifB (decide (n52 = IntKind.i64.wrap (n54 + n))) (∃ v55, some (AVal.ptr (i19 + 1) 1) = some v55 ∧ ∃ n56 : Int, ld1 H35 v55 = some (iv n56) ∧ ∃ v57, some
 (AVal.ptr (i2 + 1) 1) = some v57 ∧ ∃ n58 : Int, ld1 H35 v57 = some (iv n58) ∧ ifB (decide (n56 = n58)) (K (AEnd.ret (AVal.bool true)) H35 i36) (K (AEnd.ret (AVal.bool (decide (n12 =
 6)))) H35 i36)) (K (AEnd.ret (AVal.bool (decide (n12 = 6)))) H35 i36)) (∃ n59 s60 n61 n62 n63 v64, ldN H35 6 (AVal.ptr i2 0) = some (AVal.agg [iv n59, AVal.str s60, iv n61, iv n62,
 iv n63, v64]) ∧ ∃ n65 s66 n67 n68 n69 v70, ldN H35 6 (AVal.ptr i19 0) = some (AVal.agg [iv n65, AVal.str s66, iv n67, iv n68, iv n69, v70]) ∧ call f_r3_Same [AVal.agg [iv n59, AVal.str s60,
 iv n61, iv n62, iv n63, v64], AVal.agg [iv n65, AVal.str s66, iv n67, iv n68, iv n69, v70]] H35 i36 fun e71 H72 i73 => onEnd e71 (fun v74 => ∃ b75, v74 = AVal.bool b75 ∧ ifB b75 (∃
 n76 s77 n78 n79 n80 v81, ldN H72 6 (AVal.ptr i2 0) = some (AVal.agg [iv n76, AVal.str s77, iv n78, iv n79, iv n80, v81]) ∧ ∃ n82 s83 n84 n85 n86 v87, ldN H72 6 (AVal.ptr i19 0) =
 some (AVal.agg [iv n82, AVal.str s83, iv n84, iv n85, iv n86, v87]) ∧ call f_law4_down [AVal.agg [iv n76, AVal.str s77, iv n78, iv n79, iv n80, v81], AVal.agg [iv n82, AVal.str s83, iv n84,
 iv n85, iv n86, v87], iv n] H72 i73 fun e88 H89 i90 => onEnd e88 (fun v91 => ∃ b92, v91 = AVal.bool b92 ∧ K (AEnd.ret (AVal.bool b92)) H89 i90) fun l93 => K (AEnd.pan l93) H89 i90)
 (K (AEnd.ret (AVal.bool false)) H72 i73)) fun l94 => K (AEnd.pan l94) H72 i73)))) fun l95 => K (AEnd.pan l95) H35 i36) fun l96 => K (AEnd.pan l96) H18 i19) fun l97 => K (AEnd.pan
 l97) H1 i2
theorem APlc_eq (call : CallP) (lp : Nat → LoopP) (lv : LeaveP) (lvc : LeaveC) (raw : AVal) (how : AVal) (n : Int) (i : Int) (s : List UInt8) (up : List UInt8) (H : Heap) (nx : Nat) (K : EndP) : contAt PG call (lp 87) 87 (codeOf PG 3) [1,1,1,1,0,1,0] (endK PG lv lvc K (resOf PG 3)) (.exit 0) (envL .und [(9, iv i), (8, AVal.str up), (7, AVal.str s), (6, AVal.bool false), (2, iv n), (1, how), (0, raw)]) H nx [] none = APlc call lp lv lvc raw how n i s up H nx K := by kernel_rfl
end Go.Vs
end
section
namespace Go.Vs
open Go.Proofs
variable [GTab]
def LComm (call : CallP) (lp : Nat → LoopP) (N : KC) (X : Nat → KC) (R : KC) (Pn : List (AVal × Bool) → KC) (r : Nat) (x : Int) (n : Int) (s : List UInt8) (H : Heap) (nx : Nat) : Prop :=
 ifB (decide (n < Int.ofNat s.length)) (0 ≤ n ∧ ∃ x0, s[n.toNat]? = some x0 ∧ ifB (!decide (Int.ofNat x0.toNat = 10)) (N (envL AVal.und [(0, AVal.ptr r 0), (2, iv x), (3, iv
 (IntKind.i64.wrap (n + 1))), (4, AVal.str s)]) H nx [] none) (X 0 (envL AVal.und [(0, AVal.ptr r 0), (2, iv x), (3, iv n), (4, AVal.str s)]) H nx [] none)) (X 0 (envL AVal.und [(0,
 AVal.ptr r 0), (2, iv x), (3, iv n), (4, AVal.str s)]) H nx [] none)
theorem LComm_eq (call : CallP) (lp : Nat → LoopP) (N : KC) (X : Nat → KC) (R : KC) (Pn : List (AVal × Bool) → KC) (r : Nat) (x : Int) (n : Int) (s : List UInt8) (H : Heap) (nx : Nat) : vK PG call (lp 20) 20 (subAt (codeOf PG 36) [1,1,0,1,0,0]) (envL .und [(4, AVal.str s), (3, iv n), (2, iv x), (0, AVal.ptr r 0)]) H nx [] none (trimK [0,2,3,4] (loopK N X R Pn)) = LComm call lp N X R Pn r x n s H nx := by kernel_rfl
def AComm (call : CallP) (lp : Nat → LoopP) (lv : LeaveP) (lvc : LeaveC) (r : Nat) (n : Int) (s : List UInt8) (H : Heap) (nx : Nat) (K : EndP) : Prop :=
 K (AEnd.ret (iv n)) H nx
theorem AComm_eq (call : CallP) (lp : Nat → LoopP) (lv : LeaveP) (lvc : LeaveC) (r : Nat) (n : Int) (s : List UInt8) (H : Heap) (nx : Nat) (K : EndP) : contAt PG call (lp 20) 20 (codeOf PG 36) [1,1,0,1,0] (endK PG lv lvc K (resOf PG 36)) (.exit 0) (envL .und [(4, AVal.str s), (3, iv n), (0, AVal.ptr r 0)]) H nx [] none = AComm call lp lv lvc r n s H nx K := by kernel_rfl
def LWord (call : CallP) (lp : Nat → LoopP) (N : KC) (X : Nat → KC) (R : KC) (Pn : List (AVal × Bool) → KC) (r : Nat) (x : Int) (n : Int) (s : List UInt8) (H : Heap) (nx : Nat) : Prop :=
 ifB (decide (n < Int.ofNat s.length)) (0 ≤ n ∧ ∃ x0, s[n.toNat]? = some x0 ∧ call f_tk_letter [bv (Int.ofNat x0.toNat)] H nx fun e1 H2 i3 => onEnd e1 (fun v4 => ∃ b5, v4 =
 AVal.bool b5 ∧ ifB b5 (N (envL AVal.und [(0, AVal.ptr r 0), (2, iv x), (3, AVal.str s), (4, iv (IntKind.i64.wrap (n + 1)))]) H2 i3 [] none) (0 ≤ n ∧ ∃ x6, s[n.toNat]? = some x6 ∧
 call f_tk_digit [bv (Int.ofNat x6.toNat)] H2 i3 fun e7 H8 i9 => onEnd e7 (fun v10 => ∃ b11, v10 = AVal.bool b11 ∧ ifB b11 (N (envL AVal.und [(0, AVal.ptr r 0), (2, iv x),
 (3, AVal.str s), (4, iv (IntKind.i64.wrap (n + 1)))]) H8 i9 [] none) (X 0 (envL AVal.und [(0, AVal.ptr r 0), (2, iv x), (3, AVal.str s), (4, iv n)]) H8 i9 [] none)) fun l12 => Pn
 l12 (envL AVal.und [(0, AVal.ptr r 0), (2, iv x), (3, AVal.str s), (4, iv n)]) H8 i9 [] none)) fun l13 => Pn l13 (envL AVal.und [(0, AVal.ptr r 0), (2, iv x), (3, AVal.str s), (4,
 iv n)]) H2 i3 [] none) (X 0 (envL AVal.und [(0, AVal.ptr r 0), (2, iv x), (3, AVal.str s), (4, iv n)]) H nx [] none)
theorem LWord_eq (call : CallP) (lp : Nat → LoopP) (N : KC) (X : Nat → KC) (R : KC) (Pn : List (AVal × Bool) → KC) (r : Nat) (x : Int) (n : Int) (s : List UInt8) (H : Heap) (nx : Nat) : vK PG call (lp 37) 37 (subAt (codeOf PG 38) [1,1,1,0,0,0]) (envL .und [(4, iv n), (3, AVal.str s), (2, iv x), (0, AVal.ptr r 0)]) H nx [] none (trimK [0,2,3,4] (loopK N X R Pn)) = LWord call lp N X R Pn r x n s H nx := by kernel_rfl
def AWord (call : CallP) (lp : Nat → LoopP) (lv : LeaveP) (lvc : LeaveC) (r : Nat) (n : Int) (s : List UInt8) (H : Heap) (nx : Nat) (K : EndP) : Prop :=
 0 ≤ n ∧ (some n.toNat).getD s.length ≤ s.length ∧ 0 ≤ (some n.toNat).getD s.length ∧ call f_tk_IsWord [AVal.str (List.take ((some n.toNat).getD s.length - 0) (List.drop 0 s))] H nx fun e0 H1
 i2 => onEnd e0 (fun v3 => ∃ b4, v3 = AVal.bool b4 ∧ ifB b4 (0 ≤ n ∧ (some n.toNat).getD s.length ≤ s.length ∧ 0 ≤ (some n.toNat).getD s.length ∧ call f_sc_put [AVal.ptr r 0, iv 3,
 AVal.str (List.take ((some n.toNat).getD s.length - 0) (List.drop 0 s)), iv 0] H1 i2 fun e5 H6 i7 => onEnd e5 (fun v8 => K (AEnd.ret (iv n)) H6 i7) fun l9 => K (AEnd.pan l9) H6 i7)
 (0 ≤ n ∧ (some n.toNat).getD s.length ≤ s.length ∧ 0 ≤ (some n.toNat).getD s.length ∧ call f_sc_put [AVal.ptr r 0, iv 2, AVal.str (List.take ((some n.toNat).getD s.length - 0) (List.drop
 0 s)), iv 0] H1 i2 fun e10 H11 i12 => onEnd e10 (fun v13 => K (AEnd.ret (iv n)) H11 i12) fun l14 => K (AEnd.pan l14) H11 i12)) fun l15 => K (AEnd.pan l15) H1 i2
theorem AWord_eq (call : CallP) (lp : Nat → LoopP) (lv : LeaveP) (lvc : LeaveC) (r : Nat) (n : Int) (s : List UInt8) (H : Heap) (nx : Nat) (K : EndP) : contAt PG call (lp 37) 37 (codeOf PG 38) [1,1,1,0,0] (endK PG lv lvc K (resOf PG 38)) (.exit 0) (envL .und [(4, iv n), (3, AVal.str s), (0, AVal.ptr r 0)]) H nx [] none = AWord call lp lv lvc r n s H nx K := by kernel_rfl
def LNum (call : CallP) (lp : Nat → LoopP) (N : KC) (X : Nat → KC) (R : KC) (Pn : List (AVal × Bool) → KC) (r : Nat) (x : Int) (n : Int) (v : Int) (s : List UInt8) (H : Heap) (nx : Nat) : Prop :=
 ifB (decide (n < Int.ofNat s.length)) (0 ≤ n ∧ ∃ x0, s[n.toNat]? = some x0 ∧ call f_tk_digit [bv (Int.ofNat x0.toNat)] H nx fun e1 H2 i3 => onEnd e1 (fun v4 => ∃ b5, v4 =
 AVal.bool b5 ∧ ifB b5 (0 ≤ n ∧ ∃ x6, s[n.toNat]? = some x6 ∧ (10 : Int) ≠ 0 ∧ ifB (decide (IntKind.u64.wrap ((IntKind.u64.wrap (9223372036854775807 - IntKind.u64.wrap
 (IntKind.u8.wrap (Int.ofNat x6.toNat - 48)))).tdiv 10) < v)) (call f_sc_fault [AVal.ptr r 0, iv 12] H2 i3 fun e7 H8 i9 => onEnd e7 (fun v10 => R (envL AVal.und [(0, AVal.ptr r 0), (2, iv
 0), (3, AVal.str s), (4, iv n), (5, uv v)]) H8 i9 [] none) fun l11 => Pn l11 (envL AVal.und [(0, AVal.ptr r 0), (2, iv x), (3, AVal.str s), (4, iv n), (5, AVal.int
 IntKind.u64 v)]) H8 i9 [] none) (N (envL AVal.und [(0, AVal.ptr r 0), (2, iv x), (3, AVal.str s), (4, iv (IntKind.i64.wrap (n + 1))), (5, uv (IntKind.u64.wrap
 (IntKind.u64.wrap (10 * v) + IntKind.u64.wrap (IntKind.u8.wrap (Int.ofNat x6.toNat - 48)))))]) H2 i3 [] none)) (X 0 (envL AVal.und [(0, AVal.ptr r 0), (2, iv x), (3, AVal.str s),
 (4, iv n), (5, uv v)]) H2 i3 [] none)) fun l12 => Pn l12 (envL AVal.und [(0, AVal.ptr r 0), (2, iv x), (3, AVal.str s), (4, iv n), (5, uv v)]) H2
 i3 [] none) (X 0 (envL AVal.und [(0, AVal.ptr r 0), (2, iv x), (3, AVal.str s), (4, iv n), (5, uv v)]) H nx [] none)
theorem LNum_eq (call : CallP) (lp : Nat → LoopP) (N : KC) (X : Nat → KC) (R : KC) (Pn : List (AVal × Bool) → KC) (r : Nat) (x : Int) (n : Int) (v : Int) (s : List UInt8) (H : Heap) (nx : Nat) : vK PG call (lp 45) 45 (subAt (codeOf PG 40) [1,1,1,1,0,0,0]) (envL .und [(5, uv v), (4, iv n), (3, AVal.str s), (2, iv x), (0, AVal.ptr r 0)]) H nx [] none (trimK [0,2,3,4,5] (loopK N X R Pn)) = LNum call lp N X R Pn r x n v s H nx := by kernel_rfl
def ANum (call : CallP) (lp : Nat → LoopP) (lv : LeaveP) (lvc : LeaveC) (r : Nat) (n : Int) (v : Int) (s : List UInt8) (H : Heap) (nx : Nat) (K : EndP) : Prop :=
 0 ≤ n ∧ (some n.toNat).getD s.length ≤ s.length ∧ 0 ≤ (some n.toNat).getD s.length ∧ call f_sc_put [AVal.ptr r 0, iv 4, AVal.str (List.take ((some n.toNat).getD s.length - 0) (List.drop 0
 s)), iv (IntKind.i64.wrap v)] H nx fun e0 H1 i2 => onEnd e0 (fun v3 => K (AEnd.ret (iv n)) H1 i2) fun l4 => K (AEnd.pan l4) H1 i2
theorem ANum_eq (call : CallP) (lp : Nat → LoopP) (lv : LeaveP) (lvc : LeaveC) (r : Nat) (n : Int) (v : Int) (s : List UInt8) (H : Heap) (nx : Nat) (K : EndP) : contAt PG call (lp 45) 45 (codeOf PG 40) [1,1,1,1,0,0] (endK PG lv lvc K (resOf PG 40)) (.exit 0) (envL .und [(5, uv v), (4, iv n), (3, AVal.str s), (0, AVal.ptr r 0)]) H nx [] none = ANum call lp lv lvc r n v s H nx K := by kernel_rfl
def LAll (call : CallP) (lp : Nat → LoopP) (N : KC) (X : Nat → KC) (R : KC) (Pn : List (AVal × Bool) → KC) (r : Nat) (c : Nat) (s : List UInt8) (H : Heap) (nx : Nat) : Prop :=
 true = true ∧ ∃ v0, some (AVal.ptr r 1) = some v0 ∧ ∃ n1 : Int, ld1 H v0 = some (iv n1) ∧ ifB (decide (n1 < Int.ofNat s.length)) (true = true ∧ ∃ v2, some (AVal.ptr r 5) = some v2 ∧
 ∃ n3 : Int, ld1 H v2 = some (iv n3) ∧ ifB (decide (n3 = 0)) (call f_sc_one [AVal.ptr r 0] H nx fun e4 H5 i6 => onEnd e4 (fun v7 => N (envL AVal.und [(0, AVal.str s), (2, AVal.nilSlice),
 (3, AVal.ptr c 0), (4, iv 0), (5, AVal.ptr r 0)]) H5 i6 [] none) fun l8 => Pn l8 (envL AVal.und [(0, AVal.str s), (2, AVal.nilSlice), (3, AVal.ptr c 0), (4, iv 0), (5, AVal.ptr r
 0)]) H5 i6 [] none) (X 0 (envL AVal.und [(0, AVal.str s), (2, AVal.nilSlice), (3, AVal.ptr c 0), (4, iv 0), (5, AVal.ptr r 0)]) H nx [] none)) (X 0 (envL AVal.und [(0, AVal.str s),
 (2, AVal.nilSlice), (3, AVal.ptr c 0), (4, iv 0), (5, AVal.ptr r 0)]) H nx [] none)
theorem LAll_eq (call : CallP) (lp : Nat → LoopP) (N : KC) (X : Nat → KC) (R : KC) (Pn : List (AVal × Bool) → KC) (r : Nat) (c : Nat) (s : List UInt8) (H : Heap) (nx : Nat) : vK PG call (lp 65) 65 (subAt (codeOf PG 11) [1,1,1,0,0,0]) (envL .und [(5, AVal.ptr r 0), (4, iv 0), (3, AVal.ptr c 0), (2, AVal.nilSlice), (0, AVal.str s)]) H nx [] none (trimK [0,2,3,4,5] (loopK N X R Pn)) = LAll call lp N X R Pn r c s H nx := by kernel_rfl
def AAll (call : CallP) (lp : Nat → LoopP) (lv : LeaveP) (lvc : LeaveC) (r : Nat) (c : Nat) (s : List UInt8) (H : Heap) (nx : Nat) (K : EndP) : Prop :=
 true = true ∧ ∃ v0, some (AVal.ptr r 5) = some v0 ∧ ∃ n1 : Int, ld1 H v0 = some (iv n1) ∧ ifB (decide (n1 = 0)) (call f_sc_ends [AVal.ptr r 0] H nx fun e2 H3 i4 => onEnd e2 (fun v5 => ∃
 b6, v5 = AVal.bool b6 ∧ ifB b6 (call f_sc_put [AVal.ptr r 0, iv 1, AVal.str [59], iv 0] H3 i4 fun e7 H8 i9 => onEnd e7 (fun v10 => true = true ∧ ∃ v11, some (AVal.ptr r 5) = some v11 ∧ ∃
 n12 : Int, ld1 H8 v11 = some (iv n12) ∧ ifB (decide (n12 = 0)) (call f_sc_put [AVal.ptr r 0, iv 0, AVal.str [], iv 0] H8 i9 fun e13 H14 i15 => onEnd e13 (fun v16 => true = true ∧ ∃ v17,
 some (AVal.ptr r 5) = some v17 ∧ ∃ n18 : Int, ld1 H14 v17 = some (iv n18) ∧ ifB (!decide (n18 = 0)) (true = true ∧ ∃ v19, some (AVal.ptr r 6) = some v19 ∧ ∃ n20 s21 n22 n23 n24, ldN
 H14 5 v19 = some (AVal.agg [iv n20, AVal.str s21, iv n22, iv n23, iv n24]) ∧ true = true ∧ ∃ v25, some (AVal.ptr r 5) = some v25 ∧ ∃ n26 : Int, ld1 H14 v25 = some (iv n26) ∧ ((∃ n27
 s28 n29 n30 n31, ldN H14 5 v19 = some (AVal.agg [iv n27, AVal.str s28, iv n29, iv n30, iv n31]) ∧ AVal.agg [iv n27, AVal.str s28, iv n29, iv n30, iv n31] = AVal.agg [iv n20,
 AVal.str s21, iv n22, iv n23, iv n24]) ∧ (∃ n32 : Int, ld1 H14 v25 = some (iv n32) ∧ iv n32 = iv n26) ∧ True) ∧ ∃ H33, stC H14 (AVal.ptr c 0) [iv n20, AVal.str s21, iv n22, iv n23,
 iv n24] = some H33 ∧ ((∃ n34 : Int, ld1 H33 v25 = some (iv n34) ∧ iv n34 = iv n26) ∧ True) ∧ ∃ n35 s36 n37 n38 n39, ldN H33 5 (AVal.ptr c 0) = some (AVal.agg [iv n35, AVal.str s36,
 iv n37, iv n38, iv n39]) ∧ K (AEnd.ret (AVal.tuple [AVal.nilSlice, AVal.agg [iv n35, AVal.str s36, iv n37, iv n38, iv n39], iv n26])) H33 (i15 + 11)) (true = true ∧ ∃ v40, some
 (AVal.ptr r 4) = some v40 ∧ ∃ v41, ld1 H14 v40 = some v41 ∧ ∃ H42, stC H14 (AVal.ptr c 0) [iv 0, AVal.str [], iv 0, iv 0, iv 0] = some H42 ∧ ∃ n43 s44 n45 n46 n47, ldN H42 5
 (AVal.ptr c 0) = some (AVal.agg [iv n43, AVal.str s44, iv n45, iv n46, iv n47]) ∧ K (AEnd.ret (AVal.tuple [v41, AVal.agg [iv n43, AVal.str s44, iv n45, iv n46, iv n47], iv 0])) H42
 i15)) fun l48 => K (AEnd.pan l48) H14 i15) (true = true ∧ ∃ v49, some (AVal.ptr r 5) = some v49 ∧ ∃ n50 : Int, ld1 H8 v49 = some (iv n50) ∧ ifB (!decide (n50 = 0)) (true = true ∧ ∃
 v51, some (AVal.ptr r 6) = some v51 ∧ ∃ n52 s53 n54 n55 n56, ldN H8 5 v51 = some (AVal.agg [iv n52, AVal.str s53, iv n54, iv n55, iv n56]) ∧ true = true ∧ ∃ v57, some (AVal.ptr r 5)
 = some v57 ∧ ∃ n58 : Int, ld1 H8 v57 = some (iv n58) ∧ ((∃ n59 s60 n61 n62 n63, ldN H8 5 v51 = some (AVal.agg [iv n59, AVal.str s60, iv n61, iv n62, iv n63]) ∧ AVal.agg [iv n59,
 AVal.str s60, iv n61, iv n62, iv n63] = AVal.agg [iv n52, AVal.str s53, iv n54, iv n55, iv n56]) ∧ (∃ n64 : Int, ld1 H8 v57 = some (iv n64) ∧ iv n64 = iv n58) ∧ True) ∧ ∃ H65, stC
 H8 (AVal.ptr c 0) [iv n52, AVal.str s53, iv n54, iv n55, iv n56] = some H65 ∧ ((∃ n66 : Int, ld1 H65 v57 = some (iv n66) ∧ iv n66 = iv n58) ∧ True) ∧ ∃ n67 s68 n69 n70 n71, ldN H65
 5 (AVal.ptr c 0) = some (AVal.agg [iv n67, AVal.str s68, iv n69, iv n70, iv n71]) ∧ K (AEnd.ret (AVal.tuple [AVal.nilSlice, AVal.agg [iv n67, AVal.str s68, iv n69, iv n70, iv n71],
 iv n58])) H65 (i9 + 11)) (true = true ∧ ∃ v72, some (AVal.ptr r 4) = some v72 ∧ ∃ v73, ld1 H8 v72 = some v73 ∧ ∃ H74, stC H8 (AVal.ptr c 0) [iv 0, AVal.str [], iv 0, iv 0, iv 0] =
 some H74 ∧ ∃ n75 s76 n77 n78 n79, ldN H74 5 (AVal.ptr c 0) = some (AVal.agg [iv n75, AVal.str s76, iv n77, iv n78, iv n79]) ∧ K (AEnd.ret (AVal.tuple [v73, AVal.agg [iv n75,
 AVal.str s76, iv n77, iv n78, iv n79], iv 0])) H74 i9))) fun l80 => K (AEnd.pan l80) H8 i9) (true = true ∧ ∃ v81, some (AVal.ptr r 5) = some v81 ∧ ∃ n82 : Int, ld1 H3 v81 = some (iv
 n82) ∧ ifB (decide (n82 = 0)) (call f_sc_put [AVal.ptr r 0, iv 0, AVal.str [], iv 0] H3 i4 fun e83 H84 i85 => onEnd e83 (fun v86 => true = true ∧ ∃ v87, some (AVal.ptr r 5) = some v87 ∧ ∃
 n88 : Int, ld1 H84 v87 = some (iv n88) ∧ ifB (!decide (n88 = 0)) (true = true ∧ ∃ v89, some (AVal.ptr r 6) = some v89 ∧ ∃ n90 s91 n92 n93 n94, ldN H84 5 v89 = some (AVal.agg [iv
 n90, AVal.str s91, iv n92, iv n93, iv n94]) ∧ true = true ∧ ∃ v95, some (AVal.ptr r 5) = some v95 ∧ ∃ n96 : Int, ld1 H84 v95 = some (iv n96) ∧ ((∃ n97 s98 n99 n100 n101, ldN H84 5
 v89 = some (AVal.agg [iv n97, AVal.str s98, iv n99, iv n100, iv n101]) ∧ AVal.agg [iv n97, AVal.str s98, iv n99, iv n100, iv n101] = AVal.agg [iv n90, AVal.str s91, iv n92, iv n93,
 iv n94]) ∧ (∃ n102 : Int, ld1 H84 v95 = some (iv n102) ∧ iv n102 = iv n96) ∧ True) ∧ ∃ H103, stC H84 (AVal.ptr c 0) [iv n90, AVal.str s91, iv n92, iv n93, iv n94] = some H103 ∧ ((∃
 n104 : Int, ld1 H103 v95 = some (iv n104) ∧ iv n104 = iv n96) ∧ True) ∧ ∃ n105 s106 n107 n108 n109, ldN H103 5 (AVal.ptr c 0) = some (AVal.agg [iv n105, AVal.str s106, iv n107, iv
 n108, iv n109]) ∧ K (AEnd.ret (AVal.tuple [AVal.nilSlice, AVal.agg [iv n105, AVal.str s106, iv n107, iv n108, iv n109], iv n96])) H103 (i85 + 11)) (true = true ∧ ∃ v110, some
 (AVal.ptr r 4) = some v110 ∧ ∃ v111, ld1 H84 v110 = some v111 ∧ ∃ H112, stC H84 (AVal.ptr c 0) [iv 0, AVal.str [], iv 0, iv 0, iv 0] = some H112 ∧ ∃ n113 s114 n115 n116 n117, ldN
 H112 5 (AVal.ptr c 0) = some (AVal.agg [iv n113, AVal.str s114, iv n115, iv n116, iv n117]) ∧ K (AEnd.ret (AVal.tuple [v111, AVal.agg [iv n113, AVal.str s114, iv n115, iv n116, iv
 n117], iv 0])) H112 i85)) fun l118 => K (AEnd.pan l118) H84 i85) (true = true ∧ ∃ v119, some (AVal.ptr r 5) = some v119 ∧ ∃ n120 : Int, ld1 H3 v119 = some (iv n120) ∧ ifB (!decide
 (n120 = 0)) (true = true ∧ ∃ v121, some (AVal.ptr r 6) = some v121 ∧ ∃ n122 s123 n124 n125 n126, ldN H3 5 v121 = some (AVal.agg [iv n122, AVal.str s123, iv n124, iv n125, iv n126])
 ∧ true = true ∧ ∃ v127, some (AVal.ptr r 5) = some v127 ∧ ∃ n128 : Int, ld1 H3 v127 = some (iv n128) ∧ ((∃ n129 s130 n131 n132 n133, ldN H3 5 v121 = some (AVal.agg [iv n129,
 AVal.str s130, iv n131, iv n132, iv n133]) ∧ AVal.agg [iv n129, AVal.str s130, iv n131, iv n132, iv n133] = AVal.agg [iv n122, AVal.str s123, iv n124, iv n125, iv n126]) ∧ (∃ n134 :
 Int, ld1 H3 v127 = some (iv n134) ∧ iv n134 = iv n128) ∧ True) ∧ ∃ H135, stC H3 (AVal.ptr c 0) [iv n122, AVal.str s123, iv n124, iv n125, iv n126] = some H135 ∧ ((∃ n136 : Int, ld1
 H135 v127 = some (iv n136) ∧ iv n136 = iv n128) ∧ True) ∧ ∃ n137 s138 n139 n140 n141, ldN H135 5 (AVal.ptr c 0) = some (AVal.agg [iv n137, AVal.str s138, iv n139, iv n140, iv n141])
 ∧ K (AEnd.ret (AVal.tuple [AVal.nilSlice, AVal.agg [iv n137, AVal.str s138, iv n139, iv n140, iv n141], iv n128])) H135 (i4 + 11)) (true = true ∧ ∃ v142, some (AVal.ptr r 4) = some
 v142 ∧ ∃ v143, ld1 H3 v142 = some v143 ∧ ∃ H144, stC H3 (AVal.ptr c 0) [iv 0, AVal.str [], iv 0, iv 0, iv 0] = some H144 ∧ ∃ n145 s146 n147 n148 n149, ldN H144 5 (AVal.ptr c 0) =
 some (AVal.agg [iv n145, AVal.str s146, iv n147, iv n148, iv n149]) ∧ K (AEnd.ret (AVal.tuple [v143, AVal.agg [iv n145, AVal.str s146, iv n147, iv n148, iv n149], iv 0])) H144
 i4)))) fun l150 => K (AEnd.pan l150) H3 i4) (true = true ∧ ∃ v151, some (AVal.ptr r 5) = some v151 ∧ ∃ n152 : Int, ld1 H v151 = some (iv n152) ∧ ifB (decide (n152 = 0)) (call 20
 [AVal.ptr r 0, iv 0, AVal.str [], iv 0] H nx fun e153 H154 i155 => onEnd e153 (fun v156 => true = true ∧ ∃ v157, some (AVal.ptr r 5) = some v157 ∧ ∃ n158 : Int, ld1 H154 v157 = some
 (iv n158) ∧ ifB (!decide (n158 = 0)) (true = true ∧ ∃ v159, some (AVal.ptr r 6) = some v159 ∧ ∃ n160 s161 n162 n163 n164, ldN H154 5 v159 = some (AVal.agg [iv n160, AVal.str s161,
 iv n162, iv n163, iv n164]) ∧ true = true ∧ ∃ v165, some (AVal.ptr r 5) = some v165 ∧ ∃ n166 : Int, ld1 H154 v165 = some (iv n166) ∧ ((∃ n167 s168 n169 n170 n171, ldN H154 5 v159 =
 some (AVal.agg [iv n167, AVal.str s168, iv n169, iv n170, iv n171]) ∧ AVal.agg [iv n167, AVal.str s168, iv n169, iv n170, iv n171] = AVal.agg [iv n160, AVal.str s161, iv n162, iv
 n163, iv n164]) ∧ (∃ n172 : Int, ld1 H154 v165 = some (iv n172) ∧ iv n172 = iv n166) ∧ True) ∧ ∃ H173, stC H154 (AVal.ptr c 0) [iv n160, AVal.str s161, iv n162, iv n163, iv n164] =
 some H173 ∧ ((∃ n174 : Int, ld1 H173 v165 = some (iv n174) ∧ iv n174 = iv n166) ∧ True) ∧ ∃ n175 s176 n177 n178 n179, ldN H173 5 (AVal.ptr c 0) = some (AVal.agg [iv n175, AVal.str
 s176, iv n177, iv n178, iv n179]) ∧ K (AEnd.ret (AVal.tuple [AVal.nilSlice, AVal.agg [iv n175, AVal.str s176, iv n177, iv n178, iv n179], iv n166])) H173 (i155 + 11)) (true = true ∧
 ∃ v180, some (AVal.ptr r 4) = some v180 ∧ ∃ v181, ld1 H154 v180 = some v181 ∧ ∃ H182, stC H154 (AVal.ptr c 0) [iv 0, AVal.str [], iv 0, iv 0, iv 0] = some H182 ∧ ∃ n183 s184 n185
 n186 n187, ldN H182 5 (AVal.ptr c 0) = some (AVal.agg [iv n183, AVal.str s184, iv n185, iv n186, iv n187]) ∧ K (AEnd.ret (AVal.tuple [v181, AVal.agg [iv n183, AVal.str s184, iv
 n185, iv n186, iv n187], iv 0])) H182 i155)) fun l188 => K (AEnd.pan l188) H154 i155) (true = true ∧ ∃ v189, some (AVal.ptr r 5) = some v189 ∧ ∃ n190 : Int, ld1 H v189 = some (iv
 n190) ∧ ifB (!decide (n190 = 0)) (true = true ∧ ∃ v191, some (AVal.ptr r 6) = some v191 ∧ ∃ n192 s193 n194 n195 n196, ldN H 5 v191 = some (AVal.agg [iv n192, AVal.str s193, iv n194,
 iv n195, iv n196]) ∧ true = true ∧ ∃ v197, some (AVal.ptr r 5) = some v197 ∧ ∃ n198 : Int, ld1 H v197 = some (iv n198) ∧ ((∃ n199 s200 n201 n202 n203, ldN H 5 v191 = some (AVal.agg
 [iv n199, AVal.str s200, iv n201, iv n202, iv n203]) ∧ AVal.agg [iv n199, AVal.str s200, iv n201, iv n202, iv n203] = AVal.agg [iv n192, AVal.str s193, iv n194, iv n195, iv n196]) ∧
 (∃ n204 : Int, ld1 H v197 = some (iv n204) ∧ iv n204 = iv n198) ∧ True) ∧ ∃ H205, stC H (AVal.ptr c 0) [iv n192, AVal.str s193, iv n194, iv n195, iv n196] = some H205 ∧ ((∃ n206 :
 Int, ld1 H205 v197 = some (iv n206) ∧ iv n206 = iv n198) ∧ True) ∧ ∃ n207 s208 n209 n210 n211, ldN H205 5 (AVal.ptr c 0) = some (AVal.agg [iv n207, AVal.str s208, iv n209, iv n210,
 iv n211]) ∧ K (AEnd.ret (AVal.tuple [AVal.nilSlice, AVal.agg [iv n207, AVal.str s208, iv n209, iv n210, iv n211], iv n198])) H205 (nx + 11)) (true = true ∧ ∃ v212, some (AVal.ptr r
 4) = some v212 ∧ ∃ v213, ld1 H v212 = some v213 ∧ ∃ H214, stC H (AVal.ptr c 0) [iv 0, AVal.str [], iv 0, iv 0, iv 0] = some H214 ∧ ∃ n215 s216 n217 n218 n219, ldN H214 5 (AVal.ptr c
 0) = some (AVal.agg [iv n215, AVal.str s216, iv n217, iv n218, iv n219]) ∧ K (AEnd.ret (AVal.tuple [v213, AVal.agg [iv n215, AVal.str s216, iv n217, iv n218, iv n219], iv 0])) H214
 nx)))
theorem AAll_eq (call : CallP) (lp : Nat → LoopP) (lv : LeaveP) (lvc : LeaveC) (r : Nat) (c : Nat) (s : List UInt8) (H : Heap) (nx : Nat) (K : EndP) : contAt PG call (lp 65) 65 (codeOf PG 11) [1,1,1,0,0] (endK PG lv lvc K (resOf PG 11)) (.exit 0) (envL .und [(5, AVal.ptr r 0), (4, iv 0), (3, AVal.ptr c 0), (2, AVal.nilSlice), (0, AVal.str s)]) H nx [] none = AAll call lp lv lvc r c s H nx K := by kernel_rfl
end Go.Vs
end
section
namespace Go.Vs
open Go.Proofs
variable [GTab]
def XT0 (call : CallP) (lp : Nat → LoopP) (N : KC) (X : Nat → KC) (R : KC) (Pn : List (AVal × Bool) → KC) (r : Nat) (x : Int) (n : Int) (o : AVal) (s : List UInt8) (H : Heap) (nx : Nat) : Prop :=
 ifB (decide (n < Int.ofNat s.length)) (N (envL AVal.und [(0, AVal.ptr r 0), (2, iv x), (3, AVal.str s), (4, o), (5, iv n)]) H nx [] none) (X 0 (envL AVal.und [(0, AVal.ptr r 0), (2,
 iv x), (3, AVal.str s), (4, o), (5, iv n)]) H nx [] none)
theorem XT0_eq (call : CallP) (lp : Nat → LoopP) (N : KC) (X : Nat → KC) (R : KC) (Pn : List (AVal × Bool) → KC) (r : Nat) (x : Int) (n : Int) (o : AVal) (s : List UInt8) (H : Heap) (nx : Nat) : vK PG call (lp 84) 84 (subAt (codeOf PG 41) [1,1,1,0,1,0,0,0]) (envL .und [(5, iv n), (4, o), (3, AVal.str s), (2, iv x), (0, AVal.ptr r 0)]) H nx [] none (trimK [0,2,3,4,5] (loopK N X R Pn)) = XT0 call lp N X R Pn r x n o s H nx := by kernel_rfl
def XT1 (call : CallP) (lp : Nat → LoopP) (N : KC) (X : Nat → KC) (R : KC) (Pn : List (AVal × Bool) → KC) (r : Nat) (x : Int) (n : Int) (o : AVal) (s : List UInt8) (H : Heap) (nx : Nat) : Prop :=
 0 ≤ n ∧ ∃ x0, s[n.toNat]? = some x0 ∧ N (envL AVal.und [(0, AVal.ptr r 0), (2, iv x), (3, AVal.str s), (4, o), (5, iv n), (6, bv (Int.ofNat x0.toNat))]) H nx []
 none
theorem XT1_eq (call : CallP) (lp : Nat → LoopP) (N : KC) (X : Nat → KC) (R : KC) (Pn : List (AVal × Bool) → KC) (r : Nat) (x : Int) (n : Int) (o : AVal) (s : List UInt8) (H : Heap) (nx : Nat) : vK PG call (lp 84) 84 (subAt (codeOf PG 41) [1,1,1,0,1,0,0,1,0,0,0]) (envL .und [(5, iv n), (4, o), (3, AVal.str s), (2, iv x), (0, AVal.ptr r 0)]) H nx [] none (trimK [0,2,3,4,5,6] (loopK N X R Pn)) = XT1 call lp N X R Pn r x n o s H nx := by kernel_rfl
def XT2 (call : CallP) (lp : Nat → LoopP) (N : KC) (X : Nat → KC) (R : KC) (Pn : List (AVal × Bool) → KC) (r : Nat) (x : Int) (n : Int) (c : Int) (o : AVal) (s : List UInt8) (H : Heap) (nx : Nat) : Prop :=
 ∃ s0, strOf H o = some s0 ∧ call f_sc_put [AVal.ptr r 0, iv 5, AVal.str s0, iv 0] H nx fun e1 H2 i3 => onEnd e1 (fun v4 => R (envL AVal.und [(0, AVal.ptr r 0), (2, iv (IntKind.i64.wrap (n
 + 1))), (3, AVal.str s), (4, o), (5, iv n), (6, bv c)]) H2 i3 [] none) fun l5 => Pn l5 (envL AVal.und [(0, AVal.ptr r 0), (2, iv x), (3, AVal.str s), (4, o), (5, iv
 n), (6, bv c)]) H2 i3 [] none
theorem XT2_eq (call : CallP) (lp : Nat → LoopP) (N : KC) (X : Nat → KC) (R : KC) (Pn : List (AVal × Bool) → KC) (r : Nat) (x : Int) (n : Int) (c : Int) (o : AVal) (s : List UInt8) (H : Heap) (nx : Nat) : vK PG call (lp 84) 84 (subAt (codeOf PG 41) [1,1,1,0,1,0,0,1,0,0,1,0,1,0]) (envL .und [(6, AVal.int .u8 c), (5, iv n), (4, o), (3, AVal.str s), (2, iv x), (0, AVal.ptr r 0)]) H nx [] none (trimK [0,2,3,4,5,6] (loopK N X R Pn)) = XT2 call lp N X R Pn r x n c o s H nx := by kernel_rfl
def XT3 (call : CallP) (lp : Nat → LoopP) (N : KC) (X : Nat → KC) (R : KC) (Pn : List (AVal × Bool) → KC) (r : Nat) (x : Int) (n : Int) (c : Int) (o : AVal) (s : List UInt8) (H : Heap) (nx : Nat) : Prop :=
 0 ≤ IntKind.i64.wrap (n + 1) ∧ ∃ x0, s[(IntKind.i64.wrap (n + 1)).toNat]? = some x0 ∧ call f_tk_escape [bv (Int.ofNat x0.toNat)] H nx fun e1 H2 i3 => onEnd e1 (fun v4 => ∃
 n5 b6, v4 = AVal.tuple [bv n5, AVal.bool b6] ∧ ifB (!b6) (call f_sc_fault [AVal.ptr r 0, iv 11] H2 i3 fun e7 H8 i9 => onEnd e7 (fun v10 => R (envL AVal.und [(0, AVal.ptr r
 0), (2, iv 0), (3, AVal.str s), (4, o), (5, iv (IntKind.i64.wrap (n + 1))), (6, bv c)]) H8 i9 [] none) fun l11 => Pn l11 (envL AVal.und [(0, AVal.ptr r 0), (2, iv
 x), (3, AVal.str s), (4, o), (5, iv (IntKind.i64.wrap (n + 1))), (6, bv c)]) H8 i9 [] none) (true = true ∧ ∃ H12, H12 = newB i3 [bv n5] H2 ∧ ∃ i13
 l14, aSrc 1 H12 (AVal.slice i3 0 1 1 true) = some (i13, l14) ∧ allCell l14 = true ∧ ∃ v15 H16 i17, appC H12 (i3 + 1) 1 1 o i13 l14 = some (v15, H16, i17) ∧ N (envL AVal.und [(0,
 AVal.ptr r 0), (2, iv x), (3, AVal.str s), (4, v15), (5, iv (IntKind.i64.wrap (n + 1))), (6, bv c)]) H16 i17 [] none)) fun l18 => Pn l18 (envL AVal.und [(0,
 AVal.ptr r 0), (2, iv x), (3, AVal.str s), (4, o), (5, iv (IntKind.i64.wrap (n + 1))), (6, bv c)]) H2 i3 [] none
theorem XT3_eq (call : CallP) (lp : Nat → LoopP) (N : KC) (X : Nat → KC) (R : KC) (Pn : List (AVal × Bool) → KC) (r : Nat) (x : Int) (n : Int) (c : Int) (o : AVal) (s : List UInt8) (H : Heap) (nx : Nat) : vK PG call (lp 84) 84 (subAt (codeOf PG 41) [1,1,1,0,1,0,0,1,0,0,1,0,1,1,1,0]) (envL .und [(6, AVal.int .u8 c), (5, iv n), (4, o), (3, AVal.str s), (2, iv x), (0, AVal.ptr r 0)]) H nx [] none (trimK [0,2,3,4,5,6] (loopK N X R Pn)) = XT3 call lp N X R Pn r x n c o s H nx := by kernel_rfl
def XT4 (call : CallP) (lp : Nat → LoopP) (N : KC) (X : Nat → KC) (R : KC) (Pn : List (AVal × Bool) → KC) (r : Nat) (x : Int) (n : Int) (c : Int) (o : AVal) (s : List UInt8) (H : Heap) (nx : Nat) : Prop :=
 ifB (decide (c < 32)) (call f_sc_fault [AVal.ptr r 0, iv 11] H nx fun e0 H1 i2 => onEnd e0 (fun v3 => R (envL AVal.und [(0, AVal.ptr r 0), (2, iv 0), (3, AVal.str s), (4, o), (5, iv n), (6,
 bv c)]) H1 i2 [] none) fun l4 => Pn l4 (envL AVal.und [(0, AVal.ptr r 0), (2, iv x), (3, AVal.str s), (4, o), (5, iv n), (6, bv c)]) H1 i2 [] none)
 (ifB (decide (126 < c)) (call f_sc_fault [AVal.ptr r 0, iv 11] H nx fun e5 H6 i7 => onEnd e5 (fun v8 => R (envL AVal.und [(0, AVal.ptr r 0), (2, iv 0), (3, AVal.str s), (4, o), (5, iv n),
 (6, bv c)]) H6 i7 [] none) fun l9 => Pn l9 (envL AVal.und [(0, AVal.ptr r 0), (2, iv x), (3, AVal.str s), (4, o), (5, iv n), (6, bv c)]) H6 i7 []
 none) (ifB (decide (c = 34)) (call f_sc_fault [AVal.ptr r 0, iv 11] H nx fun e10 H11 i12 => onEnd e10 (fun v13 => R (envL AVal.und [(0, AVal.ptr r 0), (2, iv 0), (3, AVal.str s), (4, o),
 (5, iv n), (6, bv c)]) H11 i12 [] none) fun l14 => Pn l14 (envL AVal.und [(0, AVal.ptr r 0), (2, iv x), (3, AVal.str s), (4, o), (5, iv n), (6, AVal.int IntKind.u8
 c)]) H11 i12 [] none) (ifB (decide (c = 92)) (call f_sc_fault [AVal.ptr r 0, iv 11] H nx fun e15 H16 i17 => onEnd e15 (fun v18 => R (envL AVal.und [(0, AVal.ptr r 0), (2, iv 0), (3,
 AVal.str s), (4, o), (5, iv n), (6, bv c)]) H16 i17 [] none) fun l19 => Pn l19 (envL AVal.und [(0, AVal.ptr r 0), (2, iv x), (3, AVal.str s), (4, o), (5, iv n), (6,
 bv c)]) H16 i17 [] none) (true = true ∧ ∃ H20, H20 = newB nx [bv c] H ∧ ∃ i21 l22, aSrc 1 H20 (AVal.slice nx 0 1 1 true) = some (i21, l22) ∧
 allCell l22 = true ∧ ∃ v23 H24 i25, appC H20 (nx + 1) 1 1 o i21 l22 = some (v23, H24, i25) ∧ N (envL AVal.und [(0, AVal.ptr r 0), (2, iv x), (3, AVal.str s), (4, v23), (5, iv n),
 (6, bv c)]) H24 i25 [] none))))
theorem XT4_eq (call : CallP) (lp : Nat → LoopP) (N : KC) (X : Nat → KC) (R : KC) (Pn : List (AVal × Bool) → KC) (r : Nat) (x : Int) (n : Int) (c : Int) (o : AVal) (s : List UInt8) (H : Heap) (nx : Nat) : vK PG call (lp 84) 84 (subAt (codeOf PG 41) [1,1,1,0,1,0,0,1,0,0,1,0,1,1,1,1]) (envL .und [(6, AVal.int .u8 c), (5, iv n), (4, o), (3, AVal.str s), (2, iv x), (0, AVal.ptr r 0)]) H nx [] none (trimK [0,2,3,4,5,6] (loopK N X R Pn)) = XT4 call lp N X R Pn r x n c o s H nx := by kernel_rfl
def XT5 (call : CallP) (lp : Nat → LoopP) (N : KC) (X : Nat → KC) (R : KC) (Pn : List (AVal × Bool) → KC) (r : Nat) (x : Int) (n : Int) (o : AVal) (s : List UInt8) (H : Heap) (nx : Nat) : Prop :=
 N (envL AVal.und [(0, AVal.ptr r 0), (2, iv x), (3, AVal.str s), (4, o), (5, iv (IntKind.i64.wrap (n + 1)))]) H nx [] none
theorem XT5_eq (call : CallP) (lp : Nat → LoopP) (N : KC) (X : Nat → KC) (R : KC) (Pn : List (AVal × Bool) → KC) (r : Nat) (x : Int) (n : Int) (o : AVal) (s : List UInt8) (H : Heap) (nx : Nat) : vK PG call (lp 84) 84 (subAt (codeOf PG 41) [1,1,1,0,1,0,0,1,1]) (envL .und [(5, iv n), (4, o), (3, AVal.str s), (2, iv x), (0, AVal.ptr r 0)]) H nx [] none (trimK [0,2,3,4,5] (loopK N X R Pn)) = XT5 call lp N X R Pn r x n o s H nx := by kernel_rfl
def XC1 (call : CallP) (lp : Nat → LoopP) (N : KC) (X : Nat → KC) (R : KC) (Pn : List (AVal × Bool) → KC) (r : Nat) (x : Int) (n : Int) (c : Int) (o : AVal) (s : List UInt8) (H : Heap) (nx : Nat) : Prop :=
 ifB (decide (c = 34)) (∃ i0, lenS o = some i0 ∧ N (envL AVal.und [(0, AVal.ptr r 0), (2, iv x), (3, AVal.str s), (4, o), (5, iv n), (6, bv c), (24, AVal.bool
 (decide (Int.ofNat i0 ≤ 2000)))]) H nx [] none) (N (envL AVal.und [(0, AVal.ptr r 0), (2, iv x), (3, AVal.str s), (4, o), (5, iv n), (6, bv c), (24, AVal.bool
 false)]) H nx [] none)
theorem XC1_eq (call : CallP) (lp : Nat → LoopP) (N : KC) (X : Nat → KC) (R : KC) (Pn : List (AVal × Bool) → KC) (r : Nat) (x : Int) (n : Int) (c : Int) (o : AVal) (s : List UInt8) (H : Heap) (nx : Nat) : vK PG call (lp 84) 84 (subAt (codeOf PG 41) [1,1,1,0,1,0,0,1,0,0,1,0,0]) (envL .und [(6, AVal.int .u8 c), (5, iv n), (4, o), (3, AVal.str s), (2, iv x), (0, AVal.ptr r 0)]) H nx [] none (trimK [0,2,3,4,5,6,24] (loopK N X R Pn)) = XC1 call lp N X R Pn r x n c o s H nx := by kernel_rfl
def XC2 (call : CallP) (lp : Nat → LoopP) (N : KC) (X : Nat → KC) (R : KC) (Pn : List (AVal × Bool) → KC) (r : Nat) (x : Int) (n : Int) (c : Int) (o : AVal) (s : List UInt8) (H : Heap) (nx : Nat) : Prop :=
 ifB (decide (c = 92)) (N (envL AVal.und [(0, AVal.ptr r 0), (2, iv x), (3, AVal.str s), (4, o), (5, iv n), (6, bv c), (38, AVal.bool (decide (IntKind.i64.wrap (n +
 1) < Int.ofNat s.length)))]) H nx [] none) (N (envL AVal.und [(0, AVal.ptr r 0), (2, iv x), (3, AVal.str s), (4, o), (5, iv n), (6, bv c), (38, AVal.bool false)]) H
 nx [] none)
theorem XC2_eq (call : CallP) (lp : Nat → LoopP) (N : KC) (X : Nat → KC) (R : KC) (Pn : List (AVal × Bool) → KC) (r : Nat) (x : Int) (n : Int) (c : Int) (o : AVal) (s : List UInt8) (H : Heap) (nx : Nat) : vK PG call (lp 84) 84 (subAt (codeOf PG 41) [1,1,1,0,1,0,0,1,0,0,1,0,1,1,0]) (envL .und [(6, AVal.int .u8 c), (5, iv n), (4, o), (3, AVal.str s), (2, iv x), (0, AVal.ptr r 0)]) H nx [] none (trimK [0,2,3,4,5,6,38] (loopK N X R Pn)) = XC2 call lp N X R Pn r x n c o s H nx := by kernel_rfl
def AText (call : CallP) (lp : Nat → LoopP) (lv : LeaveP) (lvc : LeaveC) (r : Nat) (H : Heap) (nx : Nat) (K : EndP) : Prop :=
 call f_sc_fault [AVal.ptr r 0, iv 11] H nx fun e0 H1 i2 => onEnd e0 (fun v3 => K (AEnd.ret (iv 0)) H1 i2) fun l4 => K (AEnd.pan l4) H1 i2
theorem AText_eq (call : CallP) (lp : Nat → LoopP) (lv : LeaveP) (lvc : LeaveC) (r : Nat) (H : Heap) (nx : Nat) (K : EndP) : contAt PG call (lp 84) 84 (codeOf PG 41) [1,1,1,0,1,0] (endK PG lv lvc K (resOf PG 41)) (.exit 0) (envL .und [(0, AVal.ptr r 0)]) H nx [] none = AText call lp lv lvc r H nx K := by kernel_rfl
end Go.Vs
end
section
namespace Go.Vs
open Go.Proofs
variable [GTab]
def Fsc_one (call : CallP) (lp : Nat → LoopP) (lv : LeaveP) (lvc : LeaveC) (r : Nat) (H : Heap) (nx : Nat) (K : EndP) : Prop :=
 call f_sc_next [AVal.ptr r 0] H nx fun e0 H1 i2 => onEnd e0 (fun v3 => ∃ n4 : Int, v3 = bv n4 ∧ ifB (decide (n4 = 10)) (call f_sc_ends [AVal.ptr r 0] H1 i2 fun e5 H6 i7 => onEnd
 e5 (fun v8 => ∃ b9, v8 = AVal.bool b9 ∧ ifB b9 (call f_sc_put [AVal.ptr r 0, iv 1, AVal.str [59], iv 0] H6 i7 fun e10 H11 i12 => onEnd e10 (fun v13 => true = true ∧ ∃ v14, some (AVal.ptr
 r 1) = some v14 ∧ ∃ n15 : Int, ld1 H11 v14 = some (iv n15) ∧ true = true ∧ ∃ v16, some (AVal.ptr r 1) = some v16 ∧ true = true ∧ ∃ H17, stC H11 v16 [iv (IntKind.i64.wrap (n15 + 1))]
 = some H17 ∧ true = true ∧ ∃ v18, some (AVal.ptr r 2) = some v18 ∧ ∃ n19 : Int, ld1 H17 v18 = some (iv n19) ∧ true = true ∧ ∃ v20, some (AVal.ptr r 2) = some v20 ∧ true = true ∧ ∃
 H21, stC H17 v20 [iv (IntKind.i64.wrap (n19 + 1))] = some H21 ∧ true = true ∧ ∃ v22, some (AVal.ptr r 3) = some v22 ∧ true = true ∧ ∃ H23, stC H21 v22 [iv 1] = some H23 ∧ K
 (AEnd.ret (AVal.tuple [])) H23 i12) fun l24 => K (AEnd.pan l24) H11 i12) (true = true ∧ ∃ v25, some (AVal.ptr r 1) = some v25 ∧ ∃ n26 : Int, ld1 H6 v25 = some (iv n26) ∧ true = true
 ∧ ∃ v27, some (AVal.ptr r 1) = some v27 ∧ true = true ∧ ∃ H28, stC H6 v27 [iv (IntKind.i64.wrap (n26 + 1))] = some H28 ∧ true = true ∧ ∃ v29, some (AVal.ptr r 2) = some v29 ∧ ∃ n30
 : Int, ld1 H28 v29 = some (iv n30) ∧ true = true ∧ ∃ v31, some (AVal.ptr r 2) = some v31 ∧ true = true ∧ ∃ H32, stC H28 v31 [iv (IntKind.i64.wrap (n30 + 1))] = some H32 ∧ true =
 true ∧ ∃ v33, some (AVal.ptr r 3) = some v33 ∧ true = true ∧ ∃ H34, stC H32 v33 [iv 1] = some H34 ∧ K (AEnd.ret (AVal.tuple [])) H34 i7)) fun l35 => K (AEnd.pan l35) H6 i7) (ifB
 (decide (n4 = 32)) (call f_sc_skip [AVal.ptr r 0, iv 1] H1 i2 fun e36 H37 i38 => onEnd e36 (fun v39 => K (AEnd.ret (AVal.tuple [])) H37 i38) fun l40 => K (AEnd.pan l40) H37 i38) (ifB
 (decide (n4 = 9)) (call f_sc_skip [AVal.ptr r 0, iv 1] H1 i2 fun e41 H42 i43 => onEnd e41 (fun v44 => K (AEnd.ret (AVal.tuple [])) H42 i43) fun l45 => K (AEnd.pan l45) H42 i43) (ifB
 (decide (n4 = 13)) (call f_sc_skip [AVal.ptr r 0, iv 1] H1 i2 fun e46 H47 i48 => onEnd e46 (fun v49 => K (AEnd.ret (AVal.tuple [])) H47 i48) fun l50 => K (AEnd.pan l50) H47 i48) (ifB
 (decide (n4 = 47)) (call f_sc_rest [AVal.ptr r 0] H1 i2 fun e51 H52 i53 => onEnd e51 (fun v54 => ∃ s55, v54 = AVal.str s55 ∧ ifB (decide (1 < Int.ofNat s55.length)) (call f_sc_rest [AVal.ptr r 0]
 H52 i53 fun e56 H57 i58 => onEnd e56 (fun v59 => ∃ s60, v59 = AVal.str s60 ∧ (0 : Int) ≤ 1 ∧ ∃ x61, s60[1]? = some x61 ∧ ifB (decide (Int.ofNat x61.toNat = 47)) (∃ x62 l63, some
 (36, [AVal.ptr r 0]) = some (x62, l63) ∧ call x62 l63 H57 i58 fun e64 H65 i66 => onEnd e64 (fun v67 => ∃ n68 : Int, v67 = iv n68 ∧ call f_sc_skip [AVal.ptr r 0, iv n68] H65 i66 fun e69 H70
 i71 => onEnd e69 (fun v72 => K (AEnd.ret (AVal.tuple [])) H70 i71) fun l73 => K (AEnd.pan l73) H70 i71) fun l74 => K (AEnd.pan l74) H65 i66) (call f_tk_letter [bv n4] H57
 i58 fun e75 H76 i77 => onEnd e75 (fun v78 => ∃ b79, v78 = AVal.bool b79 ∧ ifB b79 (∃ x80 l81, some (38, [AVal.ptr r 0]) = some (x80, l81) ∧ call x80 l81 H76 i77 fun e82 H83 i84 =>
 onEnd e82 (fun v85 => ∃ n86 : Int, v85 = iv n86 ∧ call f_sc_skip [AVal.ptr r 0, iv n86] H83 i84 fun e87 H88 i89 => onEnd e87 (fun v90 => K (AEnd.ret (AVal.tuple [])) H88 i89) fun l91 => K
 (AEnd.pan l91) H88 i89) fun l92 => K (AEnd.pan l92) H83 i84) (call f_tk_digit [bv n4] H76 i77 fun e93 H94 i95 => onEnd e93 (fun v96 => ∃ b97, v96 = AVal.bool b97 ∧ ifB b97
 (∃ x98 l99, some (40, [AVal.ptr r 0]) = some (x98, l99) ∧ call x98 l99 H94 i95 fun e100 H101 i102 => onEnd e100 (fun v103 => ∃ n104 : Int, v103 = iv n104 ∧ call f_sc_skip [AVal.ptr r 0, iv
 n104] H101 i102 fun e105 H106 i107 => onEnd e105 (fun v108 => K (AEnd.ret (AVal.tuple [])) H106 i107) fun l109 => K (AEnd.pan l109) H106 i107) fun l110 => K (AEnd.pan l110) H101
 i102) (ifB (decide (n4 = 34)) (∃ x111 l112, some (41, [AVal.ptr r 0]) = some (x111, l112) ∧ call x111 l112 H94 i95 fun e113 H114 i115 => onEnd e113 (fun v116 => ∃ n117 : Int, v116 =
 iv n117 ∧ call f_sc_skip [AVal.ptr r 0, iv n117] H114 i115 fun e118 H119 i120 => onEnd e118 (fun v121 => K (AEnd.ret (AVal.tuple [])) H119 i120) fun l122 => K (AEnd.pan l122) H119 i120)
 fun l123 => K (AEnd.pan l123) H114 i115) (∃ x124 l125, some (32, [AVal.ptr r 0]) = some (x124, l125) ∧ call x124 l125 H94 i95 fun e126 H127 i128 => onEnd e126 (fun v129 => ∃ n130 :
 Int, v129 = iv n130 ∧ call f_sc_skip [AVal.ptr r 0, iv n130] H127 i128 fun e131 H132 i133 => onEnd e131 (fun v134 => K (AEnd.ret (AVal.tuple [])) H132 i133) fun l135 => K (AEnd.pan l135)
 H132 i133) fun l136 => K (AEnd.pan l136) H127 i128))) fun l137 => K (AEnd.pan l137) H94 i95)) fun l138 => K (AEnd.pan l138) H76 i77)) fun l139 => K (AEnd.pan l139) H57 i58) (call 37
 [bv n4] H52 i53 fun e140 H141 i142 => onEnd e140 (fun v143 => ∃ b144, v143 = AVal.bool b144 ∧ ifB b144 (∃ x145 l146, some (38, [AVal.ptr r 0]) = some (x145, l146) ∧
 call x145 l146 H141 i142 fun e147 H148 i149 => onEnd e147 (fun v150 => ∃ n151 : Int, v150 = iv n151 ∧ call f_sc_skip [AVal.ptr r 0, iv n151] H148 i149 fun e152 H153 i154 => onEnd e152 (fun
 v155 => K (AEnd.ret (AVal.tuple [])) H153 i154) fun l156 => K (AEnd.pan l156) H153 i154) fun l157 => K (AEnd.pan l157) H148 i149) (call f_tk_digit [bv n4] H141 i142 fun
 e158 H159 i160 => onEnd e158 (fun v161 => ∃ b162, v161 = AVal.bool b162 ∧ ifB b162 (∃ x163 l164, some (40, [AVal.ptr r 0]) = some (x163, l164) ∧ call x163 l164 H159 i160 fun e165
 H166 i167 => onEnd e165 (fun v168 => ∃ n169 : Int, v168 = iv n169 ∧ call f_sc_skip [AVal.ptr r 0, iv n169] H166 i167 fun e170 H171 i172 => onEnd e170 (fun v173 => K (AEnd.ret (AVal.tuple
 [])) H171 i172) fun l174 => K (AEnd.pan l174) H171 i172) fun l175 => K (AEnd.pan l175) H166 i167) (ifB (decide (n4 = 34)) (∃ x176 l177, some (41, [AVal.ptr r 0]) = some (x176, l177)
 ∧ call x176 l177 H159 i160 fun e178 H179 i180 => onEnd e178 (fun v181 => ∃ n182 : Int, v181 = iv n182 ∧ call f_sc_skip [AVal.ptr r 0, iv n182] H179 i180 fun e183 H184 i185 => onEnd e183
 (fun v186 => K (AEnd.ret (AVal.tuple [])) H184 i185) fun l187 => K (AEnd.pan l187) H184 i185) fun l188 => K (AEnd.pan l188) H179 i180) (∃ x189 l190, some (32, [AVal.ptr r 0]) = some
 (x189, l190) ∧ call x189 l190 H159 i160 fun e191 H192 i193 => onEnd e191 (fun v194 => ∃ n195 : Int, v194 = iv n195 ∧ call f_sc_skip [AVal.ptr r 0, iv n195] H192 i193 fun e196 H197 i198 =>
 onEnd e196 (fun v199 => K (AEnd.ret (AVal.tuple [])) H197 i198) fun l200 => K (AEnd.pan l200) H197 i198) fun l201 => K (AEnd.pan l201) H192 i193))) fun l202 => K (AEnd.pan l202)
 H159 i160)) fun l203 => K (AEnd.pan l203) H141 i142)) fun l204 => K (AEnd.pan l204) H52 i53) (call f_tk_letter [bv n4] H1 i2 fun e205 H206 i207 => onEnd e205 (fun v208 => ∃
 b209, v208 = AVal.bool b209 ∧ ifB b209 (∃ x210 l211, some (38, [AVal.ptr r 0]) = some (x210, l211) ∧ call x210 l211 H206 i207 fun e212 H213 i214 => onEnd e212 (fun v215 => ∃ n216 :
 Int, v215 = iv n216 ∧ call f_sc_skip [AVal.ptr r 0, iv n216] H213 i214 fun e217 H218 i219 => onEnd e217 (fun v220 => K (AEnd.ret (AVal.tuple [])) H218 i219) fun l221 => K (AEnd.pan l221)
 H218 i219) fun l222 => K (AEnd.pan l222) H213 i214) (call f_tk_digit [bv n4] H206 i207 fun e223 H224 i225 => onEnd e223 (fun v226 => ∃ b227, v226 = AVal.bool b227 ∧ ifB
 b227 (∃ x228 l229, some (40, [AVal.ptr r 0]) = some (x228, l229) ∧ call x228 l229 H224 i225 fun e230 H231 i232 => onEnd e230 (fun v233 => ∃ n234 : Int, v233 = iv n234 ∧ call 34
 [AVal.ptr r 0, iv n234] H231 i232 fun e235 H236 i237 => onEnd e235 (fun v238 => K (AEnd.ret (AVal.tuple [])) H236 i237) fun l239 => K (AEnd.pan l239) H236 i237) fun l240 => K
 (AEnd.pan l240) H231 i232) (ifB (decide (n4 = 34)) (∃ x241 l242, some (41, [AVal.ptr r 0]) = some (x241, l242) ∧ call x241 l242 H224 i225 fun e243 H244 i245 => onEnd e243 (fun v246
 => ∃ n247 : Int, v246 = iv n247 ∧ call f_sc_skip [AVal.ptr r 0, iv n247] H244 i245 fun e248 H249 i250 => onEnd e248 (fun v251 => K (AEnd.ret (AVal.tuple [])) H249 i250) fun l252 => K
 (AEnd.pan l252) H249 i250) fun l253 => K (AEnd.pan l253) H244 i245) (∃ x254 l255, some (32, [AVal.ptr r 0]) = some (x254, l255) ∧ call x254 l255 H224 i225 fun e256 H257 i258 =>
 onEnd e256 (fun v259 => ∃ n260 : Int, v259 = iv n260 ∧ call f_sc_skip [AVal.ptr r 0, iv n260] H257 i258 fun e261 H262 i263 => onEnd e261 (fun v264 => K (AEnd.ret (AVal.tuple [])) H262
 i263) fun l265 => K (AEnd.pan l265) H262 i263) fun l266 => K (AEnd.pan l266) H257 i258))) fun l267 => K (AEnd.pan l267) H224 i225)) fun l268 => K (AEnd.pan l268) H206 i207)))))) fun
 l269 => K (AEnd.pan l269) H1 i2
theorem Fsc_one_eq (call : CallP) (lp : Nat → LoopP) (lv : LeaveP) (lvc : LeaveC) (r : Nat) (H : Heap) (nx : Nat) (K : EndP) : vBody PG call lp f_sc_one [AVal.ptr r 0] H nx (endK PG lv lvc K) = Fsc_one call lp lv lvc r H nx K := by kernel_rfl
def Fsc_ends (call : CallP) (lp : Nat → LoopP) (lv : LeaveP) (lvc : LeaveC) (r : Nat) (H : Heap) (nx : Nat) (K : EndP) : Prop :=
 true = true ∧ ∃ v0, some (AVal.ptr r 4) = some v0 ∧ ∃ v1, ld1 H v0 = some v1 ∧ ∃ i2, lenS v1 = some i2 ∧ ifB (decide (Int.ofNat i2 = 0)) (K (AEnd.ret (AVal.bool false)) H nx) (true
 = true ∧ ∃ v3, some (AVal.ptr r 4) = some v3 ∧ ∃ v4, ld1 H v3 = some v4 ∧ true = true ∧ ∃ v5, some (AVal.ptr r 4) = some v5 ∧ ∃ v6, ld1 H v5 = some v6 ∧ ∃ i7, lenS v6 = some i7 ∧ 0
 ≤ IntKind.i64.wrap (Int.ofNat i7 - 1) ∧ ∃ v8, idxS v4 (IntKind.i64.wrap (Int.ofNat i7 - 1)).toNat 5 = some v8 ∧ ∃ n9 s10 n11 n12 n13, ldN H 5 v8 = some (AVal.agg [iv n9, AVal.str
 s10, iv n11, iv n12, iv n13]) ∧ ∃ H14, H14 = newB (nx + 12) [iv 0, AVal.str [], iv 0, iv 0, iv 0] H ∧ ((∃ v15, ld1 H14 v3 = some v15 ∧ v15 = v4) ∧ (∃ v16, ld1 H14 v5 = some v16 ∧
 v16 = v6) ∧ (∃ n17 s18 n19 n20 n21, ldN H14 5 v8 = some (AVal.agg [iv n17, AVal.str s18, iv n19, iv n20, iv n21]) ∧ AVal.agg [iv n17, AVal.str s18, iv n19, iv n20, iv n21] =
 AVal.agg [iv n9, AVal.str s10, iv n11, iv n12, iv n13]) ∧ True) ∧ ∃ H22, stC H14 (AVal.ptr (nx + 12) 0) [iv n9, AVal.str s10, iv n11, iv n12, iv n13] = some H22 ∧ True ∧ ∃ v23, some
 (AVal.ptr (nx + 12) 0) = some v23 ∧ ∃ n24 : Int, ld1 H22 v23 = some (iv n24) ∧ ifB (decide (n24 = 2)) (K (AEnd.ret (AVal.bool true)) H22 (nx + 14)) (ifB (decide (n24 = 4)) (K
 (AEnd.ret (AVal.bool true)) H22 (nx + 14)) (ifB (decide (n24 = 5)) (K (AEnd.ret (AVal.bool true)) H22 (nx + 14)) (ifB (decide (n24 = 3)) (∃ v25, some (AVal.ptr (nx + 12) 1) = some
 v25 ∧ ∃ s26, ld1 H22 v25 = some (AVal.str s26) ∧ ifB (s26 == [116, 114, 117, 101]) (K (AEnd.ret (AVal.bool true)) H22 (nx + 14)) (ifB (s26 == [102, 97, 108, 115, 101]) (K (AEnd.ret
 (AVal.bool true)) H22 (nx + 14)) (ifB (s26 == [110, 105, 108]) (K (AEnd.ret (AVal.bool true)) H22 (nx + 14)) (ifB (s26 == [98, 114, 101, 97, 107]) (K (AEnd.ret (AVal.bool true)) H22
 (nx + 14)) (ifB (s26 == [99, 111, 110, 116, 105, 110, 117, 101]) (K (AEnd.ret (AVal.bool true)) H22 (nx + 14)) (ifB (s26 == [114, 101, 116, 117, 114, 110]) (K (AEnd.ret (AVal.bool
 true)) H22 (nx + 14)) (ifB (s26 == [105, 110, 116]) (K (AEnd.ret (AVal.bool true)) H22 (nx + 14)) (ifB (s26 == [98, 111, 111, 108]) (K (AEnd.ret (AVal.bool true)) H22 (nx + 14))
 (ifB (s26 == [115, 116, 114, 105, 110, 103]) (K (AEnd.ret (AVal.bool true)) H22 (nx + 14)) (K (AEnd.ret (AVal.bool false)) H22 (nx + 14))))))))))) (ifB (decide (n24 = 6)) (∃ v27,
 some (AVal.ptr (nx + 12) 1) = some v27 ∧ ∃ s28, ld1 H22 v27 = some (AVal.str s28) ∧ ifB (s28 == [41]) (K (AEnd.ret (AVal.bool true)) H22 (nx + 14)) (∃ v29, some (AVal.ptr (nx + 12)
 1) = some v29 ∧ ∃ s30, ld1 H22 v29 = some (AVal.str s30) ∧ ifB (s30 == [93]) (K (AEnd.ret (AVal.bool true)) H22 (nx + 14)) (∃ v31, some (AVal.ptr (nx + 12) 1) = some v31 ∧ ∃ s32,
 ld1 H22 v31 = some (AVal.str s32) ∧ K (AEnd.ret (AVal.bool (s32 == [125]))) H22 (nx + 14)))) (K (AEnd.ret (AVal.bool false)) H22 (nx + 14)))))))
theorem Fsc_ends_eq (call : CallP) (lp : Nat → LoopP) (lv : LeaveP) (lvc : LeaveC) (r : Nat) (H : Heap) (nx : Nat) (K : EndP) : vBody PG call lp f_sc_ends [AVal.ptr r 0] H nx (endK PG lv lvc K) = Fsc_ends call lp lv lvc r H nx K := by kernel_rfl
def Fsc_sign (call : CallP) (lp : Nat → LoopP) (lv : LeaveP) (lvc : LeaveC) (r : Nat) (H : Heap) (nx : Nat) (K : EndP) : Prop :=
 call f_sc_rest [AVal.ptr r 0] H nx fun e0 H1 i2 => onEnd e0 (fun v3 => ∃ s4, v3 = AVal.str s4 ∧ ifB (decide (1 < Int.ofNat s4.length)) ((0 : Int) ≤ 2 ∧ (some 2).getD s4.length ≤ s4.length
 ∧ 0 ≤ (some 2).getD s4.length ∧ ifB (List.take ((some 2).getD s4.length - 0) (List.drop 0 s4) == [58, 61]) ((0 : Int) ≤ 2 ∧ (some 2).getD s4.length ≤ s4.length ∧ 0 ≤ (some 2).getD
 s4.length ∧ call f_sc_put [AVal.ptr r 0, iv 6, AVal.str (List.take ((some 2).getD s4.length - 0) (List.drop 0 s4)), iv 0] H1 i2 fun e5 H6 i7 => onEnd e5 (fun v8 => K (AEnd.ret (iv 2)) H6
 i7) fun l9 => K (AEnd.pan l9) H6 i7) (ifB (List.take ((some 2).getD s4.length - 0) (List.drop 0 s4) == [61, 61]) ((0 : Int) ≤ 2 ∧ (some 2).getD s4.length ≤ s4.length ∧ 0 ≤ (some
 2).getD s4.length ∧ call f_sc_put [AVal.ptr r 0, iv 6, AVal.str (List.take ((some 2).getD s4.length - 0) (List.drop 0 s4)), iv 0] H1 i2 fun e10 H11 i12 => onEnd e10 (fun v13 => K
 (AEnd.ret (iv 2)) H11 i12) fun l14 => K (AEnd.pan l14) H11 i12) (ifB (List.take ((some 2).getD s4.length - 0) (List.drop 0 s4) == [33, 61]) ((0 : Int) ≤ 2 ∧ (some 2).getD s4.length
 ≤ s4.length ∧ 0 ≤ (some 2).getD s4.length ∧ call f_sc_put [AVal.ptr r 0, iv 6, AVal.str (List.take ((some 2).getD s4.length - 0) (List.drop 0 s4)), iv 0] H1 i2 fun e15 H16 i17 => onEnd
 e15 (fun v18 => K (AEnd.ret (iv 2)) H16 i17) fun l19 => K (AEnd.pan l19) H16 i17) (ifB (List.take ((some 2).getD s4.length - 0) (List.drop 0 s4) == [60, 61]) ((0 : Int) ≤ 2 ∧ (some
 2).getD s4.length ≤ s4.length ∧ 0 ≤ (some 2).getD s4.length ∧ call f_sc_put [AVal.ptr r 0, iv 6, AVal.str (List.take ((some 2).getD s4.length - 0) (List.drop 0 s4)), iv 0] H1 i2 fun e20
 H21 i22 => onEnd e20 (fun v23 => K (AEnd.ret (iv 2)) H21 i22) fun l24 => K (AEnd.pan l24) H21 i22) (ifB (List.take ((some 2).getD s4.length - 0) (List.drop 0 s4) == [62, 61]) ((0 :
 Int) ≤ 2 ∧ (some 2).getD s4.length ≤ s4.length ∧ 0 ≤ (some 2).getD s4.length ∧ call f_sc_put [AVal.ptr r 0, iv 6, AVal.str (List.take ((some 2).getD s4.length - 0) (List.drop 0 s4)), iv
 0] H1 i2 fun e25 H26 i27 => onEnd e25 (fun v28 => K (AEnd.ret (iv 2)) H26 i27) fun l29 => K (AEnd.pan l29) H26 i27) (ifB (List.take ((some 2).getD s4.length - 0) (List.drop 0 s4) ==
 [38, 38]) ((0 : Int) ≤ 2 ∧ (some 2).getD s4.length ≤ s4.length ∧ 0 ≤ (some 2).getD s4.length ∧ call f_sc_put [AVal.ptr r 0, iv 6, AVal.str (List.take ((some 2).getD s4.length - 0)
 (List.drop 0 s4)), iv 0] H1 i2 fun e30 H31 i32 => onEnd e30 (fun v33 => K (AEnd.ret (iv 2)) H31 i32) fun l34 => K (AEnd.pan l34) H31 i32) (ifB (List.take ((some 2).getD s4.length -
 0) (List.drop 0 s4) == [124, 124]) ((0 : Int) ≤ 2 ∧ (some 2).getD s4.length ≤ s4.length ∧ 0 ≤ (some 2).getD s4.length ∧ call f_sc_put [AVal.ptr r 0, iv 6, AVal.str (List.take ((some
 2).getD s4.length - 0) (List.drop 0 s4)), iv 0] H1 i2 fun e35 H36 i37 => onEnd e35 (fun v38 => K (AEnd.ret (iv 2)) H36 i37) fun l39 => K (AEnd.pan l39) H36 i37) ((0 : Int) ≤ 0 ∧ ∃
 x40, s4[0]? = some x40 ∧ ifB (decide (Int.ofNat x40.toNat = 59)) (call f_sc_put [AVal.ptr r 0, iv 1, AVal.str [59], iv 0] H1 i2 fun e41 H42 i43 => onEnd e41 (fun v44 => K (AEnd.ret (iv
 1)) H42 i43) fun l45 => K (AEnd.pan l45) H42 i43) (ifB (decide (Int.ofNat x40.toNat = 43)) ((0 : Int) ≤ 1 ∧ (some 1).getD s4.length ≤ s4.length ∧ 0 ≤ (some 1).getD s4.length ∧ call
 20 [AVal.ptr r 0, iv 6, AVal.str (List.take ((some 1).getD s4.length - 0) (List.drop 0 s4)), iv 0] H1 i2 fun e46 H47 i48 => onEnd e46 (fun v49 => K (AEnd.ret (iv 1)) H47 i48) fun
 l50 => K (AEnd.pan l50) H47 i48) (ifB (decide (Int.ofNat x40.toNat = 45)) ((0 : Int) ≤ 1 ∧ (some 1).getD s4.length ≤ s4.length ∧ 0 ≤ (some 1).getD s4.length ∧ call f_sc_put [AVal.ptr r 0,
 iv 6, AVal.str (List.take ((some 1).getD s4.length - 0) (List.drop 0 s4)), iv 0] H1 i2 fun e51 H52 i53 => onEnd e51 (fun v54 => K (AEnd.ret (iv 1)) H52 i53) fun l55 => K (AEnd.pan
 l55) H52 i53) (ifB (decide (Int.ofNat x40.toNat = 42)) ((0 : Int) ≤ 1 ∧ (some 1).getD s4.length ≤ s4.length ∧ 0 ≤ (some 1).getD s4.length ∧ call f_sc_put [AVal.ptr r 0, iv 6, AVal.str
 (List.take ((some 1).getD s4.length - 0) (List.drop 0 s4)), iv 0] H1 i2 fun e56 H57 i58 => onEnd e56 (fun v59 => K (AEnd.ret (iv 1)) H57 i58) fun l60 => K (AEnd.pan l60) H57 i58)
 (ifB (decide (Int.ofNat x40.toNat = 47)) ((0 : Int) ≤ 1 ∧ (some 1).getD s4.length ≤ s4.length ∧ 0 ≤ (some 1).getD s4.length ∧ call f_sc_put [AVal.ptr r 0, iv 6, AVal.str (List.take ((some
 1).getD s4.length - 0) (List.drop 0 s4)), iv 0] H1 i2 fun e61 H62 i63 => onEnd e61 (fun v64 => K (AEnd.ret (iv 1)) H62 i63) fun l65 => K (AEnd.pan l65) H62 i63) (ifB (decide
 (Int.ofNat x40.toNat = 37)) ((0 : Int) ≤ 1 ∧ (some 1).getD s4.length ≤ s4.length ∧ 0 ≤ (some 1).getD s4.length ∧ call f_sc_put [AVal.ptr r 0, iv 6, AVal.str (List.take ((some 1).getD
 s4.length - 0) (List.drop 0 s4)), iv 0] H1 i2 fun e66 H67 i68 => onEnd e66 (fun v69 => K (AEnd.ret (iv 1)) H67 i68) fun l70 => K (AEnd.pan l70) H67 i68) (ifB (decide (Int.ofNat
 x40.toNat = 60)) ((0 : Int) ≤ 1 ∧ (some 1).getD s4.length ≤ s4.length ∧ 0 ≤ (some 1).getD s4.length ∧ call f_sc_put [AVal.ptr r 0, iv 6, AVal.str (List.take ((some 1).getD s4.length - 0)
 (List.drop 0 s4)), iv 0] H1 i2 fun e71 H72 i73 => onEnd e71 (fun v74 => K (AEnd.ret (iv 1)) H72 i73) fun l75 => K (AEnd.pan l75) H72 i73) (ifB (decide (Int.ofNat x40.toNat = 62))
 ((0 : Int) ≤ 1 ∧ (some 1).getD s4.length ≤ s4.length ∧ 0 ≤ (some 1).getD s4.length ∧ call f_sc_put [AVal.ptr r 0, iv 6, AVal.str (List.take ((some 1).getD s4.length - 0) (List.drop 0
 s4)), iv 0] H1 i2 fun e76 H77 i78 => onEnd e76 (fun v79 => K (AEnd.ret (iv 1)) H77 i78) fun l80 => K (AEnd.pan l80) H77 i78) (ifB (decide (Int.ofNat x40.toNat = 61)) ((0 : Int) ≤ 1
 ∧ (some 1).getD s4.length ≤ s4.length ∧ 0 ≤ (some 1).getD s4.length ∧ call f_sc_put [AVal.ptr r 0, iv 6, AVal.str (List.take ((some 1).getD s4.length - 0) (List.drop 0 s4)), iv 0] H1 i2
 fun e81 H82 i83 => onEnd e81 (fun v84 => K (AEnd.ret (iv 1)) H82 i83) fun l85 => K (AEnd.pan l85) H82 i83) (ifB (decide (Int.ofNat x40.toNat = 33)) ((0 : Int) ≤ 1 ∧ (some 1).getD
 s4.length ≤ s4.length ∧ 0 ≤ (some 1).getD s4.length ∧ call f_sc_put [AVal.ptr r 0, iv 6, AVal.str (List.take ((some 1).getD s4.length - 0) (List.drop 0 s4)), iv 0] H1 i2 fun e86 H87 i88
 => onEnd e86 (fun v89 => K (AEnd.ret (iv 1)) H87 i88) fun l90 => K (AEnd.pan l90) H87 i88) (ifB (decide (Int.ofNat x40.toNat = 40)) ((0 : Int) ≤ 1 ∧ (some 1).getD s4.length ≤
 s4.length ∧ 0 ≤ (some 1).getD s4.length ∧ call f_sc_put [AVal.ptr r 0, iv 6, AVal.str (List.take ((some 1).getD s4.length - 0) (List.drop 0 s4)), iv 0] H1 i2 fun e91 H92 i93 => onEnd e91
 (fun v94 => K (AEnd.ret (iv 1)) H92 i93) fun l95 => K (AEnd.pan l95) H92 i93) (ifB (decide (Int.ofNat x40.toNat = 41)) ((0 : Int) ≤ 1 ∧ (some 1).getD s4.length ≤ s4.length ∧ 0 ≤
 (some 1).getD s4.length ∧ call f_sc_put [AVal.ptr r 0, iv 6, AVal.str (List.take ((some 1).getD s4.length - 0) (List.drop 0 s4)), iv 0] H1 i2 fun e96 H97 i98 => onEnd e96 (fun v99 => K
 (AEnd.ret (iv 1)) H97 i98) fun l100 => K (AEnd.pan l100) H97 i98) (ifB (decide (Int.ofNat x40.toNat = 91)) ((0 : Int) ≤ 1 ∧ (some 1).getD s4.length ≤ s4.length ∧ 0 ≤ (some 1).getD
 s4.length ∧ call f_sc_put [AVal.ptr r 0, iv 6, AVal.str (List.take ((some 1).getD s4.length - 0) (List.drop 0 s4)), iv 0] H1 i2 fun e101 H102 i103 => onEnd e101 (fun v104 => K (AEnd.ret
 (iv 1)) H102 i103) fun l105 => K (AEnd.pan l105) H102 i103) (ifB (decide (Int.ofNat x40.toNat = 93)) ((0 : Int) ≤ 1 ∧ (some 1).getD s4.length ≤ s4.length ∧ 0 ≤ (some 1).getD
 s4.length ∧ call f_sc_put [AVal.ptr r 0, iv 6, AVal.str (List.take ((some 1).getD s4.length - 0) (List.drop 0 s4)), iv 0] H1 i2 fun e106 H107 i108 => onEnd e106 (fun v109 => K (AEnd.ret
 (iv 1)) H107 i108) fun l110 => K (AEnd.pan l110) H107 i108) (ifB (decide (Int.ofNat x40.toNat = 123)) ((0 : Int) ≤ 1 ∧ (some 1).getD s4.length ≤ s4.length ∧ 0 ≤ (some 1).getD
 s4.length ∧ call f_sc_put [AVal.ptr r 0, iv 6, AVal.str (List.take ((some 1).getD s4.length - 0) (List.drop 0 s4)), iv 0] H1 i2 fun e111 H112 i113 => onEnd e111 (fun v114 => K (AEnd.ret
 (iv 1)) H112 i113) fun l115 => K (AEnd.pan l115) H112 i113) (ifB (decide (Int.ofNat x40.toNat = 125)) ((0 : Int) ≤ 1 ∧ (some 1).getD s4.length ≤ s4.length ∧ 0 ≤ (some 1).getD
 s4.length ∧ call f_sc_put [AVal.ptr r 0, iv 6, AVal.str (List.take ((some 1).getD s4.length - 0) (List.drop 0 s4)), iv 0] H1 i2 fun e116 H117 i118 => onEnd e116 (fun v119 => K (AEnd.ret
 (iv 1)) H117 i118) fun l120 => K (AEnd.pan l120) H117 i118) (ifB (decide (Int.ofNat x40.toNat = 44)) ((0 : Int) ≤ 1 ∧ (some 1).getD s4.length ≤ s4.length ∧ 0 ≤ (some 1).getD
 s4.length ∧ call f_sc_put [AVal.ptr r 0, iv 6, AVal.str (List.take ((some 1).getD s4.length - 0) (List.drop 0 s4)), iv 0] H1 i2 fun e121 H122 i123 => onEnd e121 (fun v124 => K (AEnd.ret
 (iv 1)) H122 i123) fun l125 => K (AEnd.pan l125) H122 i123) (ifB (decide (Int.ofNat x40.toNat = 46)) ((0 : Int) ≤ 1 ∧ (some 1).getD s4.length ≤ s4.length ∧ 0 ≤ (some 1).getD
 s4.length ∧ call f_sc_put [AVal.ptr r 0, iv 6, AVal.str (List.take ((some 1).getD s4.length - 0) (List.drop 0 s4)), iv 0] H1 i2 fun e126 H127 i128 => onEnd e126 (fun v129 => K (AEnd.ret
 (iv 1)) H127 i128) fun l130 => K (AEnd.pan l130) H127 i128) (call f_sc_fault [AVal.ptr r 0, iv 10] H1 i2 fun e131 H132 i133 => onEnd e131 (fun v134 => K (AEnd.ret (iv 0)) H132 i133) fun
 l135 => K (AEnd.pan l135) H132 i133)))))))))))))))))))))))))) ((0 : Int) ≤ 0 ∧ ∃ x136, s4[0]? = some x136 ∧ ifB (decide (Int.ofNat x136.toNat = 59)) (call f_sc_put [AVal.ptr r 0, iv 1,
 AVal.str [59], iv 0] H1 i2 fun e137 H138 i139 => onEnd e137 (fun v140 => K (AEnd.ret (iv 1)) H138 i139) fun l141 => K (AEnd.pan l141) H138 i139) (ifB (decide (Int.ofNat x136.toNat =
 43)) ((0 : Int) ≤ 1 ∧ (some 1).getD s4.length ≤ s4.length ∧ 0 ≤ (some 1).getD s4.length ∧ call f_sc_put [AVal.ptr r 0, iv 6, AVal.str (List.take ((some 1).getD s4.length - 0) (List.drop 0
 s4)), iv 0] H1 i2 fun e142 H143 i144 => onEnd e142 (fun v145 => K (AEnd.ret (iv 1)) H143 i144) fun l146 => K (AEnd.pan l146) H143 i144) (ifB (decide (Int.ofNat x136.toNat = 45)) ((0
 : Int) ≤ 1 ∧ (some 1).getD s4.length ≤ s4.length ∧ 0 ≤ (some 1).getD s4.length ∧ call f_sc_put [AVal.ptr r 0, iv 6, AVal.str (List.take ((some 1).getD s4.length - 0) (List.drop 0 s4)), iv
 0] H1 i2 fun e147 H148 i149 => onEnd e147 (fun v150 => K (AEnd.ret (iv 1)) H148 i149) fun l151 => K (AEnd.pan l151) H148 i149) (ifB (decide (Int.ofNat x136.toNat = 42)) ((0 : Int) ≤
 1 ∧ (some 1).getD s4.length ≤ s4.length ∧ 0 ≤ (some 1).getD s4.length ∧ call f_sc_put [AVal.ptr r 0, iv 6, AVal.str (List.take ((some 1).getD s4.length - 0) (List.drop 0 s4)), iv 0] H1 i2
 fun e152 H153 i154 => onEnd e152 (fun v155 => K (AEnd.ret (iv 1)) H153 i154) fun l156 => K (AEnd.pan l156) H153 i154) (ifB (decide (Int.ofNat x136.toNat = 47)) ((0 : Int) ≤ 1 ∧
 (some 1).getD s4.length ≤ s4.length ∧ 0 ≤ (some 1).getD s4.length ∧ call f_sc_put [AVal.ptr r 0, iv 6, AVal.str (List.take ((some 1).getD s4.length - 0) (List.drop 0 s4)), iv 0] H1 i2 fun
 e157 H158 i159 => onEnd e157 (fun v160 => K (AEnd.ret (iv 1)) H158 i159) fun l161 => K (AEnd.pan l161) H158 i159) (ifB (decide (Int.ofNat x136.toNat = 37)) ((0 : Int) ≤ 1 ∧ (some
 1).getD s4.length ≤ s4.length ∧ 0 ≤ (some 1).getD s4.length ∧ call f_sc_put [AVal.ptr r 0, iv 6, AVal.str (List.take ((some 1).getD s4.length - 0) (List.drop 0 s4)), iv 0] H1 i2 fun e162
 H163 i164 => onEnd e162 (fun v165 => K (AEnd.ret (iv 1)) H163 i164) fun l166 => K (AEnd.pan l166) H163 i164) (ifB (decide (Int.ofNat x136.toNat = 60)) ((0 : Int) ≤ 1 ∧ (some 1).getD
 s4.length ≤ s4.length ∧ 0 ≤ (some 1).getD s4.length ∧ call f_sc_put [AVal.ptr r 0, iv 6, AVal.str (List.take ((some 1).getD s4.length - 0) (List.drop 0 s4)), iv 0] H1 i2 fun e167 H168
 i169 => onEnd e167 (fun v170 => K (AEnd.ret (iv 1)) H168 i169) fun l171 => K (AEnd.pan l171) H168 i169) (ifB (decide (Int.ofNat x136.toNat = 62)) ((0 : Int) ≤ 1 ∧ (some 1).getD
 s4.length ≤ s4.length ∧ 0 ≤ (some 1).getD s4.length ∧ call f_sc_put [AVal.ptr r 0, iv 6, AVal.str (List.take ((some 1).getD s4.length - 0) (List.drop 0 s4)), iv 0] H1 i2 fun e172 H173
 i174 => onEnd e172 (fun v175 => K (AEnd.ret (iv 1)) H173 i174) fun l176 => K (AEnd.pan l176) H173 i174) (ifB (decide (Int.ofNat x136.toNat = 61)) ((0 : Int) ≤ 1 ∧ (some 1).getD
 s4.length ≤ s4.length ∧ 0 ≤ (some 1).getD s4.length ∧ call f_sc_put [AVal.ptr r 0, iv 6, AVal.str (List.take ((some 1).getD s4.length - 0) (List.drop 0 s4)), iv 0] H1 i2 fun e177 H178
 i179 => onEnd e177 (fun v180 => K (AEnd.ret (iv 1)) H178 i179) fun l181 => K (AEnd.pan l181) H178 i179) (ifB (decide (Int.ofNat x136.toNat = 33)) ((0 : Int) ≤ 1 ∧ (some 1).getD
 s4.length ≤ s4.length ∧ 0 ≤ (some 1).getD s4.length ∧ call f_sc_put [AVal.ptr r 0, iv 6, AVal.str (List.take ((some 1).getD s4.length - 0) (List.drop 0 s4)), iv 0] H1 i2 fun e182 H183
 i184 => onEnd e182 (fun v185 => K (AEnd.ret (iv 1)) H183 i184) fun l186 => K (AEnd.pan l186) H183 i184) (ifB (decide (Int.ofNat x136.toNat = 40)) ((0 : Int) ≤ 1 ∧ (some 1).getD
 s4.length ≤ s4.length ∧ 0 ≤ (some 1).getD s4.length ∧ call f_sc_put [AVal.ptr r 0, iv 6, AVal.str (List.take ((some 1).getD s4.length - 0) (List.drop 0 s4)), iv 0] H1 i2 fun e187 H188
 i189 => onEnd e187 (fun v190 => K (AEnd.ret (iv 1)) H188 i189) fun l191 => K (AEnd.pan l191) H188 i189) (ifB (decide (Int.ofNat x136.toNat = 41)) ((0 : Int) ≤ 1 ∧ (some 1).getD
 s4.length ≤ s4.length ∧ 0 ≤ (some 1).getD s4.length ∧ call f_sc_put [AVal.ptr r 0, iv 6, AVal.str (List.take ((some 1).getD s4.length - 0) (List.drop 0 s4)), iv 0] H1 i2 fun e192 H193
 i194 => onEnd e192 (fun v195 => K (AEnd.ret (iv 1)) H193 i194) fun l196 => K (AEnd.pan l196) H193 i194) (ifB (decide (Int.ofNat x136.toNat = 91)) ((0 : Int) ≤ 1 ∧ (some 1).getD
 s4.length ≤ s4.length ∧ 0 ≤ (some 1).getD s4.length ∧ call f_sc_put [AVal.ptr r 0, iv 6, AVal.str (List.take ((some 1).getD s4.length - 0) (List.drop 0 s4)), iv 0] H1 i2 fun e197 H198
 i199 => onEnd e197 (fun v200 => K (AEnd.ret (iv 1)) H198 i199) fun l201 => K (AEnd.pan l201) H198 i199) (ifB (decide (Int.ofNat x136.toNat = 93)) ((0 : Int) ≤ 1 ∧ (some 1).getD
 s4.length ≤ s4.length ∧ 0 ≤ (some 1).getD s4.length ∧ call f_sc_put [AVal.ptr r 0, iv 6, AVal.str (List.take ((some 1).getD s4.length - 0) (List.drop 0 s4)), iv 0] H1 i2 fun e202 H203
 i204 => onEnd e202 (fun v205 => K (AEnd.ret (iv 1)) H203 i204) fun l206 => K (AEnd.pan l206) H203 i204) (ifB (decide (Int.ofNat x136.toNat = 123)) ((0 : Int) ≤ 1 ∧ (some 1).getD
 s4.length ≤ s4.length ∧ 0 ≤ (some 1).getD s4.length ∧ call f_sc_put [AVal.ptr r 0, iv 6, AVal.str (List.take ((some 1).getD s4.length - 0) (List.drop 0 s4)), iv 0] H1 i2 fun e207 H208
 i209 => onEnd e207 (fun v210 => K (AEnd.ret (iv 1)) H208 i209) fun l211 => K (AEnd.pan l211) H208 i209) (ifB (decide (Int.ofNat x136.toNat = 125)) ((0 : Int) ≤ 1 ∧ (some 1).getD
 s4.length ≤ s4.length ∧ 0 ≤ (some 1).getD s4.length ∧ call f_sc_put [AVal.ptr r 0, iv 6, AVal.str (List.take ((some 1).getD s4.length - 0) (List.drop 0 s4)), iv 0] H1 i2 fun e212 H213
 i214 => onEnd e212 (fun v215 => K (AEnd.ret (iv 1)) H213 i214) fun l216 => K (AEnd.pan l216) H213 i214) (ifB (decide (Int.ofNat x136.toNat = 44)) ((0 : Int) ≤ 1 ∧ (some 1).getD
 s4.length ≤ s4.length ∧ 0 ≤ (some 1).getD s4.length ∧ call f_sc_put [AVal.ptr r 0, iv 6, AVal.str (List.take ((some 1).getD s4.length - 0) (List.drop 0 s4)), iv 0] H1 i2 fun e217 H218
 i219 => onEnd e217 (fun v220 => K (AEnd.ret (iv 1)) H218 i219) fun l221 => K (AEnd.pan l221) H218 i219) (ifB (decide (Int.ofNat x136.toNat = 46)) ((0 : Int) ≤ 1 ∧ (some 1).getD
 s4.length ≤ s4.length ∧ 0 ≤ (some 1).getD s4.length ∧ call f_sc_put [AVal.ptr r 0, iv 6, AVal.str (List.take ((some 1).getD s4.length - 0) (List.drop 0 s4)), iv 0] H1 i2 fun e222 H223
 i224 => onEnd e222 (fun v225 => K (AEnd.ret (iv 1)) H223 i224) fun l226 => K (AEnd.pan l226) H223 i224) (call f_sc_fault [AVal.ptr r 0, iv 10] H1 i2 fun e227 H228 i229 => onEnd e227 (fun
 v230 => K (AEnd.ret (iv 0)) H228 i229) fun l231 => K (AEnd.pan l231) H228 i229)))))))))))))))))))) fun l232 => K (AEnd.pan l232) H1 i2
theorem Fsc_sign_eq (call : CallP) (lp : Nat → LoopP) (lv : LeaveP) (lvc : LeaveC) (r : Nat) (H : Heap) (nx : Nat) (K : EndP) : vBody PG call lp f_sc_sign [AVal.ptr r 0] H nx (endK PG lv lvc K) = Fsc_sign call lp lv lvc r H nx K := by kernel_rfl
def Fsc_next (call : CallP) (lp : Nat → LoopP) (lv : LeaveP) (lvc : LeaveC) (r : Nat) (H : Heap) (nx : Nat) (K : EndP) : Prop :=
 true = true ∧ ∃ v0, some (AVal.ptr r 1) = some v0 ∧ ∃ n1 : Int, ld1 H v0 = some (iv n1) ∧ true = true ∧ ∃ v2, some (AVal.ptr r 0) = some v2 ∧ ∃ s3, ld1 H v2 = some (AVal.str s3) ∧
 ((∃ n4 : Int, ld1 H v0 = some (iv n4) ∧ iv n4 = iv n1) ∧ (∃ s5, ld1 H v2 = some (AVal.str s5) ∧ AVal.str s5 = AVal.str s3) ∧ True) ∧ ifB (decide (n1 = Int.ofNat s3.length)) (K
 (AEnd.ret (bv 0)) H (nx + 10)) (true = true ∧ ∃ v6, some (AVal.ptr r 0) = some v6 ∧ ∃ s7, ld1 H v6 = some (AVal.str s7) ∧ true = true ∧ ∃ v8, some (AVal.ptr r 1) =
 some v8 ∧ ∃ n9 : Int, ld1 H v8 = some (iv n9) ∧ 0 ≤ n9 ∧ ∃ x10, s7[n9.toNat]? = some x10 ∧ ((∃ s11, ld1 H v6 = some (AVal.str s11) ∧ AVal.str s11 = AVal.str s7) ∧ (∃ n12 : Int, ld1
 H v8 = some (iv n12) ∧ iv n12 = iv n9) ∧ True) ∧ K (AEnd.ret (bv (Int.ofNat x10.toNat))) H (nx + 10 + 10))
theorem Fsc_next_eq (call : CallP) (lp : Nat → LoopP) (lv : LeaveP) (lvc : LeaveC) (r : Nat) (H : Heap) (nx : Nat) (K : EndP) : vBody PG call lp f_sc_next [AVal.ptr r 0] H nx (endK PG lv lvc K) = Fsc_next call lp lv lvc r H nx K := by kernel_rfl
def Fsc_rest (call : CallP) (lp : Nat → LoopP) (lv : LeaveP) (lvc : LeaveC) (r : Nat) (H : Heap) (nx : Nat) (K : EndP) : Prop :=
 true = true ∧ ∃ v0, some (AVal.ptr r 0) = some v0 ∧ ∃ s1, ld1 H v0 = some (AVal.str s1) ∧ true = true ∧ ∃ v2, some (AVal.ptr r 1) = some v2 ∧ ∃ n3 : Int, ld1 H v2 = some (iv n3) ∧ 0
 ≤ n3 ∧ none.getD s1.length ≤ s1.length ∧ (some n3.toNat).getD 0 ≤ none.getD s1.length ∧ ((∃ s4, ld1 H v0 = some (AVal.str s4) ∧ AVal.str s4 = AVal.str s1) ∧ (∃ n5 : Int, ld1 H v2 =
 some (iv n5) ∧ iv n5 = iv n3) ∧ (0 ≤ n3 ∧ none.getD s1.length ≤ s1.length ∧ (some n3.toNat).getD 0 ≤ none.getD s1.length ∧ AVal.str (List.take (none.getD s1.length - (some
 n3.toNat).getD 0) (List.drop ((some n3.toNat).getD 0) s1)) = AVal.str (List.take (none.getD s1.length - (some n3.toNat).getD 0) (List.drop ((some n3.toNat).getD 0) s1))) ∧ True) ∧ K
 (AEnd.ret (AVal.str (List.take (none.getD s1.length - (some n3.toNat).getD 0) (List.drop ((some n3.toNat).getD 0) s1)))) H (nx + 10)
theorem Fsc_rest_eq (call : CallP) (lp : Nat → LoopP) (lv : LeaveP) (lvc : LeaveC) (r : Nat) (H : Heap) (nx : Nat) (K : EndP) : vBody PG call lp f_sc_rest [AVal.ptr r 0] H nx (endK PG lv lvc K) = Fsc_rest call lp lv lvc r H nx K := by kernel_rfl
def Fsc_comment (call : CallP) (lp : Nat → LoopP) (lv : LeaveP) (lvc : LeaveC) (r : Nat) (H : Heap) (nx : Nat) (K : EndP) : Prop :=
 call f_sc_rest [AVal.ptr r 0] H nx fun e0 H1 i2 => onEnd e0 (fun v3 => ∃ s4, v3 = AVal.str s4 ∧ lp 20 (subAt (codeOf PG 36) [1, 1, 0, 1, 0, 0]) (envL (AVal.tuple []) [(4, AVal.str
 s4), (6, AVal.str s4), (5, AVal.ptr r 0), (3, iv 0), (2, iv 0), (0, AVal.ptr r 0)]) H1 i2 [] none (contAt PG call (lp 20) 20 (codeOf PG 36) [1, 1, 0, 1, 0] (endK
 PG lv lvc K (resOf PG 36)))) fun l5 => K (AEnd.pan l5) H1 i2
theorem Fsc_comment_eq (call : CallP) (lp : Nat → LoopP) (lv : LeaveP) (lvc : LeaveC) (r : Nat) (H : Heap) (nx : Nat) (K : EndP) : vBody PG call lp f_sc_comment [AVal.ptr r 0] H nx (endK PG lv lvc K) = Fsc_comment call lp lv lvc r H nx K := by kernel_rfl
def Fsc_word (call : CallP) (lp : Nat → LoopP) (lv : LeaveP) (lvc : LeaveC) (r : Nat) (H : Heap) (nx : Nat) (K : EndP) : Prop :=
 call f_sc_rest [AVal.ptr r 0] H nx fun e0 H1 i2 => onEnd e0 (fun v3 => ∃ s4, v3 = AVal.str s4 ∧ lp 37 (subAt (codeOf PG 38) [1, 1, 1, 0, 0, 0]) (envL (AVal.tuple []) [(4, iv 0), (3,
 AVal.str s4), (7, AVal.str s4), (6, AVal.ptr r 0), (2, iv 0), (0, AVal.ptr r 0)]) H1 i2 [] none (contAt PG call (lp 37) 37 (codeOf PG 38) [1, 1, 1, 0, 0] (endK
 PG lv lvc K (resOf PG 38)))) fun l5 => K (AEnd.pan l5) H1 i2
theorem Fsc_word_eq (call : CallP) (lp : Nat → LoopP) (lv : LeaveP) (lvc : LeaveC) (r : Nat) (H : Heap) (nx : Nat) (K : EndP) : vBody PG call lp f_sc_word [AVal.ptr r 0] H nx (endK PG lv lvc K) = Fsc_word call lp lv lvc r H nx K := by kernel_rfl
def Fsc_number (call : CallP) (lp : Nat → LoopP) (lv : LeaveP) (lvc : LeaveC) (r : Nat) (H : Heap) (nx : Nat) (K : EndP) : Prop :=
 call f_sc_rest [AVal.ptr r 0] H nx fun e0 H1 i2 => onEnd e0 (fun v3 => ∃ s4, v3 = AVal.str s4 ∧ lp 45 (subAt (codeOf PG 40) [1, 1, 1, 1, 0, 0, 0]) (envL (AVal.tuple []) [(5,
 uv 0), (4, iv 0), (3, AVal.str s4), (8, AVal.str s4), (7, AVal.ptr r 0), (2, iv 0), (0, AVal.ptr r 0)]) H1 i2 [] none (contAt PG call (lp 45) 45 (codeOf
 PG 40) [1, 1, 1, 1, 0, 0] (endK PG lv lvc K (resOf PG 40)))) fun l5 => K (AEnd.pan l5) H1 i2
theorem Fsc_number_eq (call : CallP) (lp : Nat → LoopP) (lv : LeaveP) (lvc : LeaveC) (r : Nat) (H : Heap) (nx : Nat) (K : EndP) : vBody PG call lp f_sc_number [AVal.ptr r 0] H nx (endK PG lv lvc K) = Fsc_number call lp lv lvc r H nx K := by kernel_rfl
def Fsc_text (call : CallP) (lp : Nat → LoopP) (lv : LeaveP) (lvc : LeaveC) (r : Nat) (H : Heap) (nx : Nat) (K : EndP) : Prop :=
 call f_sc_rest [AVal.ptr r 0] H nx fun e0 H1 i2 => onEnd e0 (fun v3 => ∃ s4, v3 = AVal.str s4 ∧ lp 84 (subAt (codeOf PG 41) [1, 1, 1, 0, 1, 0, 0]) (envL (AVal.tuple []) [(5, iv 1),
 (4, AVal.nilSlice), (3, AVal.str s4), (10, AVal.str s4), (9, AVal.ptr r 0), (2, iv 0), (0, AVal.ptr r 0)]) H1 i2 [] none (contAt PG call (lp 84) 84 (codeOf PG 41) [1,
 1, 1, 0, 1, 0] (endK PG lv lvc K (resOf PG 41)))) fun l5 => K (AEnd.pan l5) H1 i2
theorem Fsc_text_eq (call : CallP) (lp : Nat → LoopP) (lv : LeaveP) (lvc : LeaveC) (r : Nat) (H : Heap) (nx : Nat) (K : EndP) : vBody PG call lp f_sc_text [AVal.ptr r 0] H nx (endK PG lv lvc K) = Fsc_text call lp lv lvc r H nx K := by kernel_rfl
def Fsc_skip (call : CallP) (lp : Nat → LoopP) (lv : LeaveP) (lvc : LeaveC) (r : Nat) (n : Int) (H : Heap) (nx : Nat) (K : EndP) : Prop :=
 true = true ∧ ∃ v0, some (AVal.ptr r 1) = some v0 ∧ ∃ n1 : Int, ld1 H v0 = some (iv n1) ∧ true = true ∧ ∃ v2, some (AVal.ptr r 1) = some v2 ∧ true = true ∧ ∃ H3, stC H v2 [iv
 (IntKind.i64.wrap (n1 + n))] = some H3 ∧ true = true ∧ ∃ v4, some (AVal.ptr r 3) = some v4 ∧ ∃ n5 : Int, ld1 H3 v4 = some (iv n5) ∧ true = true ∧ ∃ v6, some (AVal.ptr r 3) = some v6
 ∧ true = true ∧ ∃ H7, stC H3 v6 [iv (IntKind.i64.wrap (n5 + n))] = some H7 ∧ K (AEnd.ret (AVal.tuple [])) H7 nx
theorem Fsc_skip_eq (call : CallP) (lp : Nat → LoopP) (lv : LeaveP) (lvc : LeaveC) (r : Nat) (n : Int) (H : Heap) (nx : Nat) (K : EndP) : vBody PG call lp f_sc_skip [AVal.ptr r 0, iv n] H nx (endK PG lv lvc K) = Fsc_skip call lp lv lvc r n H nx K := by kernel_rfl
def Fsc_fault (call : CallP) (lp : Nat → LoopP) (lv : LeaveP) (lvc : LeaveC) (r : Nat) (e : Int) (H : Heap) (nx : Nat) (K : EndP) : Prop :=
 true = true ∧ ∃ v0, some (AVal.ptr r 5) = some v0 ∧ ∃ n1 : Int, ld1 H v0 = some (iv n1) ∧ ifB (decide (n1 = 0)) (true = true ∧ ∃ v2, some (AVal.ptr r 2) = some v2 ∧ ∃ n3 : Int, ld1
 H v2 = some (iv n3) ∧ true = true ∧ ∃ v4, some (AVal.ptr r 3) = some v4 ∧ ∃ n5 : Int, ld1 H v4 = some (iv n5) ∧ true = true ∧ true = true ∧ true = true ∧ ∃ v6, some (AVal.ptr r 5) =
 some v6 ∧ ((∃ n7 : Int, ld1 H v2 = some (iv n7) ∧ iv n7 = iv n3) ∧ (∃ n8 : Int, ld1 H v4 = some (iv n8) ∧ iv n8 = iv n5) ∧ True) ∧ true = true ∧ ∃ H9, stC H v6 [iv e] = some H9 ∧
 true = true ∧ ∃ v10, some (AVal.ptr r 6) = some v10 ∧ True ∧ ∃ H11, stC H9 v10 [iv 0, AVal.str [], iv 0, iv n3, iv n5] = some H11 ∧ True ∧ K (AEnd.ret (AVal.tuple [])) H11 (nx +
 18)) (K (AEnd.ret (AVal.tuple [])) H nx)
theorem Fsc_fault_eq (call : CallP) (lp : Nat → LoopP) (lv : LeaveP) (lvc : LeaveC) (r : Nat) (e : Int) (H : Heap) (nx : Nat) (K : EndP) : vBody PG call lp f_sc_fault [AVal.ptr r 0, iv e] H nx (endK PG lv lvc K) = Fsc_fault call lp lv lvc r e H nx K := by kernel_rfl
def Fsc_put (call : CallP) (lp : Nat → LoopP) (lv : LeaveP) (lvc : LeaveC) (r : Nat) (k : Int) (s : List UInt8) (n : Int) (H : Heap) (nx : Nat) (K : EndP) : Prop :=
 true = true ∧ ∃ v0, some (AVal.ptr r 4) = some v0 ∧ ∃ v1, ld1 H v0 = some v1 ∧ ∃ i2, lenS v1 = some i2 ∧ ifB (decide (Int.ofNat i2 = 4000)) (true = true ∧ ∃ v3, some (AVal.ptr r 2)
 = some v3 ∧ ∃ n4 : Int, ld1 H v3 = some (iv n4) ∧ true = true ∧ ∃ v5, some (AVal.ptr r 3) = some v5 ∧ ∃ n6 : Int, ld1 H v5 = some (iv n6) ∧ true = true ∧ true = true ∧ true = true ∧
 ∃ v7, some (AVal.ptr r 5) = some v7 ∧ ((∃ n8 : Int, ld1 H v3 = some (iv n8) ∧ iv n8 = iv n4) ∧ (∃ n9 : Int, ld1 H v5 = some (iv n9) ∧ iv n9 = iv n6) ∧ True) ∧ true = true ∧ ∃ H10,
 stC H v7 [iv 6] = some H10 ∧ true = true ∧ ∃ v11, some (AVal.ptr r 6) = some v11 ∧ True ∧ ∃ H12, stC H10 v11 [iv 0, AVal.str [], iv 0, iv n4, iv n6] = some H12 ∧ True ∧ K (AEnd.ret
 (AVal.tuple [])) H12 (nx + 17)) (true = true ∧ ∃ v13, some (AVal.ptr r 4) = some v13 ∧ ∃ v14, ld1 H v13 = some v14 ∧ true = true ∧ ∃ v15, some (AVal.ptr r 2) = some v15 ∧ ∃ n16 :
 Int, ld1 H v15 = some (iv n16) ∧ true = true ∧ ∃ v17, some (AVal.ptr r 3) = some v17 ∧ ∃ n18 : Int, ld1 H v17 = some (iv n18) ∧ true = true ∧ true = true ∧ true = true ∧ true = true
 ∧ true = true ∧ ∃ H19, H19 = newB (nx + 17) [iv k, AVal.str s, iv n, iv n16, iv n18] H ∧ ((∃ v20, ld1 H19 v13 = some v20 ∧ v20 = v14) ∧ (∃ n21 : Int, ld1 H19 v15 = some (iv n21) ∧
 iv n21 = iv n16) ∧ (∃ n22 : Int, ld1 H19 v17 = some (iv n22) ∧ iv n22 = iv n18) ∧ True) ∧ ∃ i23 l24, aSrc 5 H19 (AVal.slice (nx + 17) 0 1 5 true) = some (i23, l24) ∧ allCell l24 =
 true ∧ ∃ v25 H26 i27, appC H19 (nx + 22) 5 48 v14 i23 l24 = some (v25, H26, i27) ∧ true = true ∧ ∃ v28, some (AVal.ptr r 4) = some v28 ∧ True ∧ cellv v25 = true ∧ ∃ H29, stC H26 v28
 [v25] = some H29 ∧ True ∧ K (AEnd.ret (AVal.tuple [])) H29 i27)
theorem Fsc_put_eq (call : CallP) (lp : Nat → LoopP) (lv : LeaveP) (lvc : LeaveC) (r : Nat) (k : Int) (s : List UInt8) (n : Int) (H : Heap) (nx : Nat) (K : EndP) : vBody PG call lp f_sc_put [AVal.ptr r 0, iv k, AVal.str s, iv n] H nx (endK PG lv lvc K) = Fsc_put call lp lv lvc r k s n H nx K := by kernel_rfl
def Ftk_letter (call : CallP) (lp : Nat → LoopP) (lv : LeaveP) (lvc : LeaveC) (c : Int) (H : Heap) (nx : Nat) (K : EndP) : Prop :=
 ifB (decide (97 ≤ c)) (ifB (decide (c ≤ 122)) (K (AEnd.ret (AVal.bool true)) H nx) (ifB (decide (65 ≤ c)) (ifB (decide (c ≤ 90)) (K (AEnd.ret (AVal.bool true)) H nx) (K (AEnd.ret
 (AVal.bool (decide (c = 95)))) H nx)) (K (AEnd.ret (AVal.bool (decide (c = 95)))) H nx))) (ifB (decide (65 ≤ c)) (ifB (decide (c ≤ 90)) (K (AEnd.ret (AVal.bool true)) H nx) (K
 (AEnd.ret (AVal.bool (decide (c = 95)))) H nx)) (K (AEnd.ret (AVal.bool (decide (c = 95)))) H nx))
theorem Ftk_letter_eq (call : CallP) (lp : Nat → LoopP) (lv : LeaveP) (lvc : LeaveC) (c : Int) (H : Heap) (nx : Nat) (K : EndP) : vBody PG call lp f_tk_letter [AVal.int .u8 c] H nx (endK PG lv lvc K) = Ftk_letter call lp lv lvc c H nx K := by kernel_rfl
def Ftk_digit (call : CallP) (lp : Nat → LoopP) (lv : LeaveP) (lvc : LeaveC) (c : Int) (H : Heap) (nx : Nat) (K : EndP) : Prop :=
 ifB (decide (48 ≤ c)) (K (AEnd.ret (AVal.bool (decide (c ≤ 57)))) H nx) (K (AEnd.ret (AVal.bool false)) H nx)
theorem Ftk_digit_eq (call : CallP) (lp : Nat → LoopP) (lv : LeaveP) (lvc : LeaveC) (c : Int) (H : Heap) (nx : Nat) (K : EndP) : vBody PG call lp f_tk_digit [AVal.int .u8 c] H nx (endK PG lv lvc K) = Ftk_digit call lp lv lvc c H nx K := by kernel_rfl
def Ftk_escape (call : CallP) (lp : Nat → LoopP) (lv : LeaveP) (lvc : LeaveC) (c : Int) (H : Heap) (nx : Nat) (K : EndP) : Prop :=
 ifB (decide (c = 110)) (K (AEnd.ret (AVal.tuple [bv 10, AVal.bool true])) H nx) (ifB (decide (c = 116)) (K (AEnd.ret (AVal.tuple [bv 9, AVal.bool
 true])) H nx) (ifB (decide (c = 34)) (K (AEnd.ret (AVal.tuple [bv c, AVal.bool true])) H nx) (ifB (decide (c = 92)) (K (AEnd.ret (AVal.tuple [bv c,
 AVal.bool true])) H nx) (K (AEnd.ret (AVal.tuple [bv 0, AVal.bool false])) H nx))))
theorem Ftk_escape_eq (call : CallP) (lp : Nat → LoopP) (lv : LeaveP) (lvc : LeaveC) (c : Int) (H : Heap) (nx : Nat) (K : EndP) : vBody PG call lp f_tk_escape [AVal.int .u8 c] H nx (endK PG lv lvc K) = Ftk_escape call lp lv lvc c H nx K := by kernel_rfl
def Ftk_IsWord (call : CallP) (lp : Nat → LoopP) (lv : LeaveP) (lvc : LeaveC) (s : List UInt8) (H : Heap) (nx : Nat) (K : EndP) : Prop :=
 ifB (s == [116, 121, 112, 101]) (K (AEnd.ret (AVal.bool true)) H nx) (ifB (s == [115, 116, 114, 117, 99, 116]) (K (AEnd.ret (AVal.bool true)) H nx) (ifB (s == [105, 110, 116, 101,
 114, 102, 97, 99, 101]) (K (AEnd.ret (AVal.bool true)) H nx) (ifB (s == [102, 117, 110, 99]) (K (AEnd.ret (AVal.bool true)) H nx) (ifB (s == [118, 97, 114]) (K (AEnd.ret (AVal.bool
 true)) H nx) (ifB (s == [105, 102]) (K (AEnd.ret (AVal.bool true)) H nx) (ifB (s == [101, 108, 115, 101]) (K (AEnd.ret (AVal.bool true)) H nx) (ifB (s == [102, 111, 114]) (K
 (AEnd.ret (AVal.bool true)) H nx) (ifB (s == [98, 114, 101, 97, 107]) (K (AEnd.ret (AVal.bool true)) H nx) (ifB (s == [99, 111, 110, 116, 105, 110, 117, 101]) (K (AEnd.ret
 (AVal.bool true)) H nx) (ifB (s == [114, 101, 116, 117, 114, 110]) (K (AEnd.ret (AVal.bool true)) H nx) (ifB (s == [112, 114, 105, 110, 116]) (K (AEnd.ret (AVal.bool true)) H nx)
 (ifB (s == [108, 101, 110]) (K (AEnd.ret (AVal.bool true)) H nx) (ifB (s == [109, 97, 107, 101]) (K (AEnd.ret (AVal.bool true)) H nx) (ifB (s == [110, 101, 119]) (K (AEnd.ret
 (AVal.bool true)) H nx) (ifB (s == [105, 110, 112, 117, 116]) (K (AEnd.ret (AVal.bool true)) H nx) (ifB (s == [116, 114, 117, 101]) (K (AEnd.ret (AVal.bool true)) H nx) (ifB (s ==
 [102, 97, 108, 115, 101]) (K (AEnd.ret (AVal.bool true)) H nx) (ifB (s == [110, 105, 108]) (K (AEnd.ret (AVal.bool true)) H nx) (ifB (s == [105, 110, 116]) (K (AEnd.ret (AVal.bool
 true)) H nx) (ifB (s == [98, 111, 111, 108]) (K (AEnd.ret (AVal.bool true)) H nx) (ifB (s == [115, 116, 114, 105, 110, 103]) (K (AEnd.ret (AVal.bool true)) H nx) (K (AEnd.ret
 (AVal.bool false)) H nx))))))))))))))))))))))
theorem Ftk_IsWord_eq (call : CallP) (lp : Nat → LoopP) (lv : LeaveP) (lvc : LeaveC) (s : List UInt8) (H : Heap) (nx : Nat) (K : EndP) : vBody PG call lp f_tk_IsWord [AVal.str s] H nx (endK PG lv lvc K) = Ftk_IsWord call lp lv lvc s H nx K := by kernel_rfl
def Ftk_All (call : CallP) (lp : Nat → LoopP) (lv : LeaveP) (lvc : LeaveC) (s : List UInt8) (H : Heap) (nx : Nat) (K : EndP) : Prop :=
 ∃ H0, H0 = newB nx [iv 0, AVal.str [], iv 0, iv 0, iv 0] H ∧ ifB (decide (16384 < Int.ofNat s.length)) (true = true ∧ true = true ∧ ∃ H1, stC H0 (AVal.ptr nx 0) [iv 0, AVal.str [],
 iv 0, iv 1, iv 1] = some H1 ∧ ∃ n2 s3 n4 n5 n6, ldN H1 5 (AVal.ptr nx 0) = some (AVal.agg [iv n2, AVal.str s3, iv n4, iv n5, iv n6]) ∧ K (AEnd.ret (AVal.tuple [AVal.nilSlice,
 AVal.agg [iv n2, AVal.str s3, iv n4, iv n5, iv n6], iv 6])) H1 (nx + 1)) (true = true ∧ true = true ∧ true = true ∧ ∃ H7, H7 = newBN (nx + 1) [AVal.str s, iv 0, iv 1, iv 1,
 AVal.nilSlice, iv 0, iv 0, AVal.str [], iv 0, iv 0, iv 0].length [AVal.str s, iv 0, iv 1, iv 1, AVal.nilSlice, iv 0, iv 0, AVal.str [], iv 0, iv 0, iv 0] H0 ∧ lp 65 (subAt (codeOf
 PG 11) [1, 1, 1, 0, 0, 0]) (envL (AVal.tuple []) [(5, AVal.ptr (nx + 1) 0), (12, AVal.ptr (nx + 1) 0), (11, AVal.agg [AVal.str s, iv 0, iv 1, iv 1, AVal.nilSlice, iv 0, iv 0,
 AVal.str [], iv 0, iv 0, iv 0]), (10, AVal.str s), (8, AVal.bool false), (8, AVal.bool (decide (16384 < Int.ofNat s.length))), (7, iv (Int.ofNat s.length)), (6, AVal.str s), (4, iv
 0), (3, AVal.ptr nx 0), (2, AVal.nilSlice), (0, AVal.str s)]) H7 (nx + 1 + 1) [] none (contAt PG call (lp 65) 65 (codeOf PG 11) [1, 1, 1, 0, 0] (endK PG lv lvc
 K (resOf PG 11))))
theorem Ftk_All_eq (call : CallP) (lp : Nat → LoopP) (lv : LeaveP) (lvc : LeaveC) (s : List UInt8) (H : Heap) (nx : Nat) (K : EndP) : vBody PG call lp f_tk_All [AVal.str s] H nx (endK PG lv lvc K) = Ftk_All call lp lv lvc s H nx K := by kernel_rfl
def DParse0 (call : CallP) (a : Nat) (b : Nat) (c : Nat) (H : Heap) (nx : Nat) (K : AEnd → AMode → Heap → Nat → Prop) : Prop :=
 ∃ b0, some true = some b0 ∧ ifB b0 (K (AEnd.ret (AVal.tuple [])) AMode.returning H nx) (∃ x1 v2, AVal.nilIface = AVal.iface x1 v2 ∧ K (AEnd.pan [(AVal.iface x1 v2, false)])
 AMode.returning H nx)
theorem DParse0_eq (call : CallP) (a : Nat) (b : Nat) (c : Nat) (H : Heap) (nx : Nat) (K : AEnd → AMode → Heap → Nat → Prop) : vBodyS PG call noLp f_p_Parse_1 [AVal.ptr a 0, AVal.ptr b 0, AVal.ptr c 0] (AMode.returning) H nx (endD K) = DParse0 call a b c H nx K := by kernel_rfl
def DParse1 (call : CallP) (a : Nat) (b : Nat) (c : Nat) (x : Int) (y : Int) (z : Int) (H : Heap) (nx : Nat) (K : AEnd → AMode → Heap → Nat → Prop) : Prop :=
 ∃ b0, some false = some b0 ∧ ifB b0 (K (AEnd.ret (AVal.tuple [])) (AMode.panicking [(AVal.iface t_fault (AVal.agg [iv x, iv y, iv z]), true)]) H nx) (∃ H1, H1 = newB nx [iv 0, iv 0, iv
 0] H ∧ ∃ H2, stC H1 (AVal.ptr nx 0) [iv x, iv y, iv z] = some H2 ∧ ∃ v3, some (AVal.ptr nx 0) = some v3 ∧ ∃ n4 n5 : Int, ldN H2 2 v3 = some (AVal.agg [iv n4, iv n5]) ∧ ∃ v6, some
 (AVal.ptr nx 2) = some v6 ∧ ∃ n7 : Int, ld1 H2 v6 = some (iv n7) ∧ ((∃ n8 n9 : Int, ldN H2 2 v3 = some (AVal.agg [iv n8, iv n9]) ∧ AVal.agg [iv n8, iv n9] = AVal.agg [iv n4, iv n5])
 ∧ (∃ n10 : Int, ld1 H2 v6 = some (iv n10) ∧ iv n10 = iv n7) ∧ True) ∧ ∃ H11, stC H2 (AVal.ptr a 0) [iv 0, AVal.str [], iv 0, iv 0, iv 0, AVal.nilSlice] = some H11 ∧ ((∃ n12 n13 :
 Int, ldN H11 2 v3 = some (AVal.agg [iv n12, iv n13]) ∧ AVal.agg [iv n12, iv n13] = AVal.agg [iv n4, iv n5]) ∧ (∃ n14 : Int, ld1 H11 v6 = some (iv n14) ∧ iv n14 = iv n7) ∧ True) ∧ ∃
 H15, stC H11 (AVal.ptr b 0) [iv n4, iv n5] = some H15 ∧ ((∃ n16 : Int, ld1 H15 v6 = some (iv n16) ∧ iv n16 = iv n7) ∧ True) ∧ true = true ∧ ∃ H17, stC H15 (AVal.ptr c 0) [iv n7] =
 some H17 ∧ True ∧ K (AEnd.ret (AVal.tuple [])) (AMode.panicking [(AVal.iface t_fault (AVal.agg [iv x, iv y, iv z]), true)]) H17 (nx + 1 + 8))
theorem DParse1_eq (call : CallP) (a : Nat) (b : Nat) (c : Nat) (x : Int) (y : Int) (z : Int) (H : Heap) (nx : Nat) (K : AEnd → AMode → Heap → Nat → Prop) : vBodyS PG call noLp f_p_Parse_1 [AVal.ptr a 0, AVal.ptr b 0, AVal.ptr c 0] (AMode.panicking [(AVal.iface t_fault (.agg [iv x, iv y, iv z]), false)]) H nx (endD K) = DParse1 call a b c x y z H nx K := by kernel_rfl
end Go.Vs
end
section
namespace Go.Vs
open Go.Proofs
variable [GTab]
def Frd_now (call : CallP) (lp : Nat → LoopP) (lv : LeaveP) (lvc : LeaveC) (r : Nat) (H : Heap) (nx : Nat) (K : EndP) : Prop :=
 ∃ H0, H0 = newB nx [iv 0, AVal.str [], iv 0, iv 0, iv 0] H ∧ true = true ∧ ∃ v1, some (AVal.ptr r 0) = some v1 ∧ ∃ v2, ld1 H0 v1 = some v2 ∧ true = true ∧ ∃ v3, some (AVal.ptr r 1)
 = some v3 ∧ ∃ n4 : Int, ld1 H0 v3 = some (iv n4) ∧ 0 ≤ n4 ∧ ∃ v5, idxS v2 n4.toNat 5 = some v5 ∧ ∃ n6 s7 n8 n9 n10, ldN H0 5 v5 = some (AVal.agg [iv n6, AVal.str s7, iv n8, iv n9,
 iv n10]) ∧ ((∃ v11, ld1 H0 v1 = some v11 ∧ v11 = v2) ∧ (∃ n12 : Int, ld1 H0 v3 = some (iv n12) ∧ iv n12 = iv n4) ∧ (∃ n13 s14 n15 n16 n17, ldN H0 5 v5 = some (AVal.agg [iv n13,
 AVal.str s14, iv n15, iv n16, iv n17]) ∧ AVal.agg [iv n13, AVal.str s14, iv n15, iv n16, iv n17] = AVal.agg [iv n6, AVal.str s7, iv n8, iv n9, iv n10]) ∧ True) ∧ ∃ H18, stC H0
 (AVal.ptr nx 0) [iv n6, AVal.str s7, iv n8, iv n9, iv n10] = some H18 ∧ True ∧ ∃ n19 s20 n21 n22 n23, ldN H18 5 (AVal.ptr nx 0) = some (AVal.agg [iv n19, AVal.str s20, iv n21, iv
 n22, iv n23]) ∧ K (AEnd.ret (AVal.agg [iv n19, AVal.str s20, iv n21, iv n22, iv n23])) H18 (nx + 1 + 11)
theorem Frd_now_eq (call : CallP) (lp : Nat → LoopP) (lv : LeaveP) (lvc : LeaveC) (r : Nat) (H : Heap) (nx : Nat) (K : EndP) : vBody PG call lp f_rd_now [AVal.ptr r 0] H nx (endK PG lv lvc K) = Frd_now call lp lv lvc r H nx K := by kernel_rfl
def Frd_next (call : CallP) (lp : Nat → LoopP) (lv : LeaveP) (lvc : LeaveC) (r : Nat) (H : Heap) (nx : Nat) (K : EndP) : Prop :=
 ∃ H0, H0 = newB nx [iv 0, AVal.str [], iv 0, iv 0, iv 0] H ∧ call f_rd_now [AVal.ptr r 0] H0 (nx + 1) fun e1 H2 i3 => onEnd e1 (fun v4 => ∃ n5 s6 n7 n8 n9, v4 = AVal.agg [iv n5, AVal.str
 s6, iv n7, iv n8, iv n9] ∧ ∃ H10, H10 = newB i3 [iv 0, AVal.str [], iv 0, iv 0, iv 0] H2 ∧ ∃ H11, stC H10 (AVal.ptr i3 0) [iv n5, AVal.str s6, iv n7, iv n8, iv n9] = some H11 ∧ ∃
 v12, some (AVal.ptr i3 0) = some v12 ∧ ∃ n13 : Int, ld1 H11 v12 = some (iv n13) ∧ ifB (!decide (n13 = 0)) (true = true ∧ ∃ v14, some (AVal.ptr r 1) = some v14 ∧ ∃ n15 : Int, ld1 H11
 v14 = some (iv n15) ∧ true = true ∧ ∃ v16, some (AVal.ptr r 1) = some v16 ∧ true = true ∧ ∃ H17, stC H11 v16 [iv (IntKind.i64.wrap (n15 + 1))] = some H17 ∧ ∃ n18 s19 n20 n21 n22,
 ldN H17 5 (AVal.ptr i3 0) = some (AVal.agg [iv n18, AVal.str s19, iv n20, iv n21, iv n22]) ∧ ∃ H23, stC H17 (AVal.ptr nx 0) [iv n18, AVal.str s19, iv n20, iv n21, iv n22] = some H23
 ∧ ∃ n24 s25 n26 n27 n28, ldN H23 5 (AVal.ptr nx 0) = some (AVal.agg [iv n24, AVal.str s25, iv n26, iv n27, iv n28]) ∧ K (AEnd.ret (AVal.agg [iv n24, AVal.str s25, iv n26, iv n27, iv
 n28])) H23 (i3 + 1)) (∃ n29 s30 n31 n32 n33, ldN H11 5 (AVal.ptr i3 0) = some (AVal.agg [iv n29, AVal.str s30, iv n31, iv n32, iv n33]) ∧ ∃ H34, stC H11 (AVal.ptr nx 0) [iv n29,
 AVal.str s30, iv n31, iv n32, iv n33] = some H34 ∧ ∃ n35 s36 n37 n38 n39, ldN H34 5 (AVal.ptr nx 0) = some (AVal.agg [iv n35, AVal.str s36, iv n37, iv n38, iv n39]) ∧ K (AEnd.ret
 (AVal.agg [iv n35, AVal.str s36, iv n37, iv n38, iv n39])) H34 (i3 + 1))) fun l40 => K (AEnd.pan l40) H2 i3
theorem Frd_next_eq (call : CallP) (lp : Nat → LoopP) (lv : LeaveP) (lvc : LeaveC) (r : Nat) (H : Heap) (nx : Nat) (K : EndP) : vBody PG call lp f_rd_next [AVal.ptr r 0] H nx (endK PG lv lvc K) = Frd_next call lp lv lvc r H nx K := by kernel_rfl
def Frd_enter (call : CallP) (lp : Nat → LoopP) (lv : LeaveP) (lvc : LeaveC) (r : Nat) (H : Heap) (nx : Nat) (K : EndP) : Prop :=
 true = true ∧ ∃ v0, some (AVal.ptr r 2) = some v0 ∧ ∃ n1 : Int, ld1 H v0 = some (iv n1) ∧ true = true ∧ ∃ v2, some (AVal.ptr r 2) = some v2 ∧ true = true ∧ ∃ H3, stC H v2 [iv
 (IntKind.i64.wrap (n1 + 1))] = some H3 ∧ true = true ∧ ∃ v4, some (AVal.ptr r 2) = some v4 ∧ ∃ n5 : Int, ld1 H3 v4 = some (iv n5) ∧ ifB (decide (40 < n5)) (call f_rd_fault [AVal.ptr r 0, iv
 14] H3 nx fun e6 H7 i8 => onEnd e6 (fun v9 => K (AEnd.ret (AVal.tuple [])) H7 i8) fun l10 => K (AEnd.pan l10) H7 i8) (K (AEnd.ret (AVal.tuple [])) H3 nx)
theorem Frd_enter_eq (call : CallP) (lp : Nat → LoopP) (lv : LeaveP) (lvc : LeaveC) (r : Nat) (H : Heap) (nx : Nat) (K : EndP) : vBody PG call lp f_rd_enter [AVal.ptr r 0] H nx (endK PG lv lvc K) = Frd_enter call lp lv lvc r H nx K := by kernel_rfl
def Frd_leave (call : CallP) (lp : Nat → LoopP) (lv : LeaveP) (lvc : LeaveC) (r : Nat) (H : Heap) (nx : Nat) (K : EndP) : Prop :=
 true = true ∧ ∃ v0, some (AVal.ptr r 2) = some v0 ∧ ∃ n1 : Int, ld1 H v0 = some (iv n1) ∧ true = true ∧ ∃ v2, some (AVal.ptr r 2) = some v2 ∧ true = true ∧ ∃ H3, stC H v2 [iv
 (IntKind.i64.wrap (n1 - 1))] = some H3 ∧ K (AEnd.ret (AVal.tuple [])) H3 nx
theorem Frd_leave_eq (call : CallP) (lp : Nat → LoopP) (lv : LeaveP) (lvc : LeaveC) (r : Nat) (H : Heap) (nx : Nat) (K : EndP) : vBody PG call lp f_rd_leave [AVal.ptr r 0] H nx (endK PG lv lvc K) = Frd_leave call lp lv lvc r H nx K := by kernel_rfl
def Frd_gaps (call : CallP) (lp : Nat → LoopP) (lv : LeaveP) (lvc : LeaveC) (r : Nat) (H : Heap) (nx : Nat) (K : EndP) : Prop :=
 lp 4 (subAt (codeOf PG 22) [0, 0]) (envL (AVal.tuple []) [(0, AVal.ptr r 0)]) H nx [] none (contAt PG call (lp 4) 4 (codeOf PG 22) [0] (endK PG lv lvc K
 (resOf PG 22)))
theorem Frd_gaps_eq (call : CallP) (lp : Nat → LoopP) (lv : LeaveP) (lvc : LeaveC) (r : Nat) (H : Heap) (nx : Nat) (K : EndP) : vBody PG call lp f_rd_gaps [AVal.ptr r 0] H nx (endK PG lv lvc K) = Frd_gaps call lp lv lvc r H nx K := by kernel_rfl
def Frd_ends (call : CallP) (lp : Nat → LoopP) (lv : LeaveP) (lvc : LeaveC) (r : Nat) (H : Heap) (nx : Nat) (K : EndP) : Prop :=
 call f_rd_is [AVal.ptr r 0, AVal.str [125]] H nx fun e0 H1 i2 => onEnd e0 (fun v3 => ∃ b4, v3 = AVal.bool b4 ∧ ifB (!b4) (call f_rd_need [AVal.ptr r 0, AVal.str [59]] H1 i2 fun e5 H6 i7 =>
 onEnd e5 (fun v8 => ∃ n9 s10 n11 n12 n13, v8 = AVal.agg [iv n9, AVal.str s10, iv n11, iv n12, iv n13] ∧ call f_rd_gaps [AVal.ptr r 0] H6 i7 fun e14 H15 i16 => onEnd e14 (fun v17 => K
 (AEnd.ret (AVal.tuple [])) H15 i16) fun l18 => K (AEnd.pan l18) H15 i16) fun l19 => K (AEnd.pan l19) H6 i7) (call f_rd_gaps [AVal.ptr r 0] H1 i2 fun e20 H21 i22 => onEnd e20 (fun v23 => K
 (AEnd.ret (AVal.tuple [])) H21 i22) fun l24 => K (AEnd.pan l24) H21 i22)) fun l25 => K (AEnd.pan l25) H1 i2
theorem Frd_ends_eq (call : CallP) (lp : Nat → LoopP) (lv : LeaveP) (lvc : LeaveC) (r : Nat) (H : Heap) (nx : Nat) (K : EndP) : vBody PG call lp f_rd_ends [AVal.ptr r 0] H nx (endK PG lv lvc K) = Frd_ends call lp lv lvc r H nx K := by kernel_rfl
def Frd_file (call : CallP) (lp : Nat → LoopP) (lv : LeaveP) (lvc : LeaveC) (r : Nat) (H : Heap) (nx : Nat) (K : EndP) : Prop :=
 ∃ H0, H0 = newB nx [iv 0, AVal.str [], iv 0, iv 0, iv 0, AVal.nilSlice] H ∧ call f_rd_now [AVal.ptr r 0] H0 (nx + 1) fun e1 H2 i3 => onEnd e1 (fun v4 => ∃ n5 s6 n7 n8 n9, v4 = AVal.agg
 [iv n5, AVal.str s6, iv n7, iv n8, iv n9] ∧ ∃ H10, H10 = newB i3 [iv 0, AVal.str [], iv 0, iv 0, iv 0] H2 ∧ ∃ H11, stC H10 (AVal.ptr i3 0) [iv n5, AVal.str s6, iv n7, iv n8, iv n9]
 = some H11 ∧ call f_rd_gaps [AVal.ptr r 0] H11 (i3 + 1) fun e12 H13 i14 => onEnd e12 (fun v15 => lp 38 (subAt (codeOf PG 14) [1, 1, 1, 1, 0, 0, 0]) (envL (AVal.tuple []) [(8, v15),
 (7, AVal.ptr r 0), (4, AVal.nilSlice), (3, AVal.ptr i3 0), (6, AVal.agg [iv n5, AVal.str s6, iv n7, iv n8, iv n9]), (5, AVal.ptr r 0), (2, AVal.ptr nx 0), (0, AVal.ptr r 0)]) H13
 i14 [] none (contAt PG call (lp 38) 38 (codeOf PG 14) [1, 1, 1, 1, 0, 0] (endK PG lv lvc K (resOf PG 14)))) fun l16 => K (AEnd.pan l16) H13 i14) fun l17
 => K (AEnd.pan l17) H2 i3
theorem Frd_file_eq (call : CallP) (lp : Nat → LoopP) (lv : LeaveP) (lvc : LeaveC) (r : Nat) (H : Heap) (nx : Nat) (K : EndP) : vBody PG call lp f_rd_file [AVal.ptr r 0] H nx (endK PG lv lvc K) = Frd_file call lp lv lvc r H nx K := by kernel_rfl
def Frd_typeDecl (call : CallP) (lp : Nat → LoopP) (lv : LeaveP) (lvc : LeaveC) (r : Nat) (H : Heap) (nx : Nat) (K : EndP) : Prop :=
 ∃ H0, H0 = newB nx [iv 0, AVal.str [], iv 0, iv 0, iv 0, AVal.nilSlice] H ∧ call f_rd_need [AVal.ptr r 0, AVal.str [116, 121, 112, 101]] H0 (nx + 1) fun e1 H2 i3 => onEnd e1 (fun v4 => ∃
 n5 s6 n7 n8 n9, v4 = AVal.agg [iv n5, AVal.str s6, iv n7, iv n8, iv n9] ∧ ∃ H10, H10 = newB i3 [iv 0, AVal.str [], iv 0, iv 0, iv 0] H2 ∧ ∃ H11, stC H10 (AVal.ptr i3 0) [iv n5,
 AVal.str s6, iv n7, iv n8, iv n9] = some H11 ∧ call f_rd_name [AVal.ptr r 0] H11 (i3 + 1) fun e12 H13 i14 => onEnd e12 (fun v15 => ∃ n16 s17 n18 n19 n20, v15 = AVal.agg [iv n16, AVal.str
 s17, iv n18, iv n19, iv n20] ∧ call f_rd_has [AVal.ptr r 0, AVal.str [105, 110, 116, 101, 114, 102, 97, 99, 101]] H13 i14 fun e21 H22 i23 => onEnd e21 (fun v24 => ∃ b25, v24 = AVal.bool
 b25 ∧ ifB b25 (∃ n26 s27 n28 n29 n30, ldN H22 5 (AVal.ptr i3 0) = some (AVal.agg [iv n26, AVal.str s27, iv n28, iv n29, iv n30]) ∧ ((∃ n31 s32 n33 n34 n35, ldN H22 5 (AVal.ptr i3 0)
 = some (AVal.agg [iv n31, AVal.str s32, iv n33, iv n34, iv n35]) ∧ AVal.agg [iv n31, AVal.str s32, iv n33, iv n34, iv n35] = AVal.agg [iv n26, AVal.str s27, iv n28, iv n29, iv n30])
 ∧ True) ∧ call f_rd_list [AVal.ptr r 0, AVal.func (Fn.func 45) [AVal.ptr r 0] []] H22 (i23 + 8) fun e36 H37 i38 => onEnd e36 (fun v39 => ((∃ n40 s41 n42 n43 n44, ldN H37 5 (AVal.ptr i3 0)
 = some (AVal.agg [iv n40, AVal.str s41, iv n42, iv n43, iv n44]) ∧ AVal.agg [iv n40, AVal.str s41, iv n42, iv n43, iv n44] = AVal.agg [iv n26, AVal.str s27, iv n28, iv n29, iv n30])
 ∧ True) ∧ call f_p_node [AVal.agg [iv n26, AVal.str s27, iv n28, iv n29, iv n30], iv 3, AVal.str s17, v39] H37 i38 fun e45 H46 i47 => onEnd e45 (fun v48 => ∃ n49 s50 n51 n52 n53 v54, v48
 = AVal.agg [iv n49, AVal.str s50, iv n51, iv n52, iv n53, v54] ∧ True ∧ ∃ H55, stC H46 (AVal.ptr nx 0) [iv n49, AVal.str s50, iv n51, iv n52, iv n53, v54] = some H55 ∧ True ∧ ∃ n56
 s57 n58 n59 n60 v61, ldN H55 6 (AVal.ptr nx 0) = some (AVal.agg [iv n56, AVal.str s57, iv n58, iv n59, iv n60, v61]) ∧ K (AEnd.ret (AVal.agg [iv n56, AVal.str s57, iv n58, iv n59,
 iv n60, v61])) H55 i47) fun l62 => K (AEnd.pan l62) H46 i47) fun l63 => K (AEnd.pan l63) H37 i38) (call f_rd_need [AVal.ptr r 0, AVal.str [115, 116, 114, 117, 99, 116]] H22 i23 fun e64 H65
 i66 => onEnd e64 (fun v67 => ∃ n68 s69 n70 n71 n72, v67 = AVal.agg [iv n68, AVal.str s69, iv n70, iv n71, iv n72] ∧ ∃ n73 s74 n75 n76 n77, ldN H65 5 (AVal.ptr i3 0) = some (AVal.agg
 [iv n73, AVal.str s74, iv n75, iv n76, iv n77]) ∧ ((∃ n78 s79 n80 n81 n82, ldN H65 5 (AVal.ptr i3 0) = some (AVal.agg [iv n78, AVal.str s79, iv n80, iv n81, iv n82]) ∧ AVal.agg [iv
 n78, AVal.str s79, iv n80, iv n81, iv n82] = AVal.agg [iv n73, AVal.str s74, iv n75, iv n76, iv n77]) ∧ True) ∧ call f_rd_list [AVal.ptr r 0, AVal.func (Fn.func 46) [AVal.ptr r 0] []] H65
 (i66 + 8) fun e83 H84 i85 => onEnd e83 (fun v86 => ((∃ n87 s88 n89 n90 n91, ldN H84 5 (AVal.ptr i3 0) = some (AVal.agg [iv n87, AVal.str s88, iv n89, iv n90, iv n91]) ∧ AVal.agg [iv
 n87, AVal.str s88, iv n89, iv n90, iv n91] = AVal.agg [iv n73, AVal.str s74, iv n75, iv n76, iv n77]) ∧ True) ∧ call f_p_node [AVal.agg [iv n73, AVal.str s74, iv n75, iv n76, iv n77], iv
 2, AVal.str s17, v86] H84 i85 fun e92 H93 i94 => onEnd e92 (fun v95 => ∃ n96 s97 n98 n99 n100 v101, v95 = AVal.agg [iv n96, AVal.str s97, iv n98, iv n99, iv n100, v101] ∧ True ∧ ∃
 H102, stC H93 (AVal.ptr nx 0) [iv n96, AVal.str s97, iv n98, iv n99, iv n100, v101] = some H102 ∧ True ∧ ∃ n103 s104 n105 n106 n107 v108, ldN H102 6 (AVal.ptr nx 0) = some (AVal.agg
 [iv n103, AVal.str s104, iv n105, iv n106, iv n107, v108]) ∧ K (AEnd.ret (AVal.agg [iv n103, AVal.str s104, iv n105, iv n106, iv n107, v108])) H102 i94) fun l109 => K (AEnd.pan
 l109) H93 i94) fun l110 => K (AEnd.pan l110) H84 i85) fun l111 => K (AEnd.pan l111) H65 i66)) fun l112 => K (AEnd.pan l112) H22 i23) fun l113 => K (AEnd.pan l113) H13 i14) fun l114
 => K (AEnd.pan l114) H2 i3
theorem Frd_typeDecl_eq (call : CallP) (lp : Nat → LoopP) (lv : LeaveP) (lvc : LeaveC) (r : Nat) (H : Heap) (nx : Nat) (K : EndP) : vBody PG call lp f_rd_typeDecl [AVal.ptr r 0] H nx (endK PG lv lvc K) = Frd_typeDecl call lp lv lvc r H nx K := by kernel_rfl
def Frd_field (call : CallP) (lp : Nat → LoopP) (lv : LeaveP) (lvc : LeaveC) (r : Nat) (H : Heap) (nx : Nat) (K : EndP) : Prop :=
 ∃ H0, H0 = newB nx [iv 0, AVal.str [], iv 0, iv 0, iv 0, AVal.nilSlice] H ∧ call f_rd_name [AVal.ptr r 0] H0 (nx + 1) fun e1 H2 i3 => onEnd e1 (fun v4 => ∃ n5 s6 n7 n8 n9, v4 = AVal.agg
 [iv n5, AVal.str s6, iv n7, iv n8, iv n9] ∧ ∃ H10, H10 = newB i3 [iv 0, AVal.str [], iv 0, iv 0, iv 0] H2 ∧ ∃ H11, stC H10 (AVal.ptr i3 0) [iv n5, AVal.str s6, iv n7, iv n8, iv n9]
 = some H11 ∧ ∃ n12 s13 n14 n15 n16, ldN H11 5 (AVal.ptr i3 0) = some (AVal.agg [iv n12, AVal.str s13, iv n14, iv n15, iv n16]) ∧ ∃ v17, some (AVal.ptr i3 1) = some v17 ∧ ∃ s18, ld1
 H11 v17 = some (AVal.str s18) ∧ ((∃ n19 s20 n21 n22 n23, ldN H11 5 (AVal.ptr i3 0) = some (AVal.agg [iv n19, AVal.str s20, iv n21, iv n22, iv n23]) ∧ AVal.agg [iv n19, AVal.str s20,
 iv n21, iv n22, iv n23] = AVal.agg [iv n12, AVal.str s13, iv n14, iv n15, iv n16]) ∧ (∃ s24, ld1 H11 v17 = some (AVal.str s24) ∧ AVal.str s24 = AVal.str s18) ∧ True) ∧ call 60
 [AVal.ptr r 0] H11 (i3 + 1 + 8) fun e25 H26 i27 => onEnd e25 (fun v28 => ∃ n29 s30 n31 n32 n33 v34, v28 = AVal.agg [iv n29, AVal.str s30, iv n31, iv n32, iv n33, v34] ∧ ∃ H35, H35 =
 newB (i3 + 1 + 5) [iv n29, AVal.str s30, iv n31, iv n32, iv n33, v34] H26 ∧ ((∃ n36 s37 n38 n39 n40, ldN H35 5 (AVal.ptr i3 0) = some (AVal.agg [iv n36, AVal.str s37, iv n38, iv
 n39, iv n40]) ∧ AVal.agg [iv n36, AVal.str s37, iv n38, iv n39, iv n40] = AVal.agg [iv n12, AVal.str s13, iv n14, iv n15, iv n16]) ∧ (∃ s41, ld1 H35 v17 = some (AVal.str s41) ∧
 AVal.str s41 = AVal.str s18) ∧ True) ∧ call f_p_node [AVal.agg [iv n12, AVal.str s13, iv n14, iv n15, iv n16], iv 4, AVal.str s18, AVal.slice (i3 + 1 + 5) 0 1 6 true] H35 i27 fun e42 H43
 i44 => onEnd e42 (fun v45 => ∃ n46 s47 n48 n49 n50 v51, v45 = AVal.agg [iv n46, AVal.str s47, iv n48, iv n49, iv n50, v51] ∧ True ∧ ∃ H52, stC H43 (AVal.ptr nx 0) [iv n46, AVal.str
 s47, iv n48, iv n49, iv n50, v51] = some H52 ∧ True ∧ ∃ n53 s54 n55 n56 n57 v58, ldN H52 6 (AVal.ptr nx 0) = some (AVal.agg [iv n53, AVal.str s54, iv n55, iv n56, iv n57, v58]) ∧ K
 (AEnd.ret (AVal.agg [iv n53, AVal.str s54, iv n55, iv n56, iv n57, v58])) H52 i44) fun l59 => K (AEnd.pan l59) H43 i44) fun l60 => K (AEnd.pan l60) H26 i27) fun l61 => K (AEnd.pan
 l61) H2 i3
theorem Frd_field_eq (call : CallP) (lp : Nat → LoopP) (lv : LeaveP) (lvc : LeaveC) (r : Nat) (H : Heap) (nx : Nat) (K : EndP) : vBody PG call lp f_rd_field [AVal.ptr r 0] H nx (endK PG lv lvc K) = Frd_field call lp lv lvc r H nx K := by kernel_rfl
def Frd_method (call : CallP) (lp : Nat → LoopP) (lv : LeaveP) (lvc : LeaveC) (r : Nat) (H : Heap) (nx : Nat) (K : EndP) : Prop :=
 ∃ H0, H0 = newB nx [iv 0, AVal.str [], iv 0, iv 0, iv 0, AVal.nilSlice] H ∧ call f_rd_name [AVal.ptr r 0] H0 (nx + 1) fun e1 H2 i3 => onEnd e1 (fun v4 => ∃ n5 s6 n7 n8 n9, v4 = AVal.agg
 [iv n5, AVal.str s6, iv n7, iv n8, iv n9] ∧ ∃ H10, H10 = newB i3 [iv 0, AVal.str [], iv 0, iv 0, iv 0] H2 ∧ ∃ H11, stC H10 (AVal.ptr i3 0) [iv n5, AVal.str s6, iv n7, iv n8, iv n9]
 = some H11 ∧ call f_rd_row [AVal.ptr r 0, AVal.func (Fn.func 60) [AVal.ptr r 0] []] H11 (i3 + 1) fun e12 H13 i14 => onEnd e12 (fun v15 => ∃ n16 s17 n18 n19 n20, ldN H13 5 (AVal.ptr i3 0)
 = some (AVal.agg [iv n16, AVal.str s17, iv n18, iv n19, iv n20]) ∧ ∃ v21, some (AVal.ptr i3 1) = some v21 ∧ ∃ s22, ld1 H13 v21 = some (AVal.str s22) ∧ ((∃ n23 s24 n25 n26 n27, ldN
 H13 5 (AVal.ptr i3 0) = some (AVal.agg [iv n23, AVal.str s24, iv n25, iv n26, iv n27]) ∧ AVal.agg [iv n23, AVal.str s24, iv n25, iv n26, iv n27] = AVal.agg [iv n16, AVal.str s17, iv
 n18, iv n19, iv n20]) ∧ (∃ s28, ld1 H13 v21 = some (AVal.str s28) ∧ AVal.str s28 = AVal.str s22) ∧ True) ∧ call f_rd_result [AVal.ptr r 0] H13 (i14 + 10) fun e29 H30 i31 => onEnd e29 (fun
 v32 => ∃ n33 s34 n35 n36 n37 v38, v32 = AVal.agg [iv n33, AVal.str s34, iv n35, iv n36, iv n37, v38] ∧ ∃ H39, H39 = newB (i14 + 5) [iv n33, AVal.str s34, iv n35, iv n36, iv n37,
 v38] H30 ∧ ((∃ n40 s41 n42 n43 n44, ldN H39 5 (AVal.ptr i3 0) = some (AVal.agg [iv n40, AVal.str s41, iv n42, iv n43, iv n44]) ∧ AVal.agg [iv n40, AVal.str s41, iv n42, iv n43, iv
 n44] = AVal.agg [iv n16, AVal.str s17, iv n18, iv n19, iv n20]) ∧ (∃ s45, ld1 H39 v21 = some (AVal.str s45) ∧ AVal.str s45 = AVal.str s22) ∧ True) ∧ ∃ i46 l47, aSrc 6 H39 v15 = some
 (i46, l47) ∧ allCell l47 = true ∧ ∃ v48 H49 i50, appC H39 i31 6 72 (AVal.slice (i14 + 5) 0 1 6 true) i46 l47 = some (v48, H49, i50) ∧ ((∃ n51 s52 n53 n54 n55, ldN H49 5 (AVal.ptr i3
 0) = some (AVal.agg [iv n51, AVal.str s52, iv n53, iv n54, iv n55]) ∧ AVal.agg [iv n51, AVal.str s52, iv n53, iv n54, iv n55] = AVal.agg [iv n16, AVal.str s17, iv n18, iv n19, iv
 n20]) ∧ (∃ s56, ld1 H49 v21 = some (AVal.str s56) ∧ AVal.str s56 = AVal.str s22) ∧ True) ∧ call f_p_node [AVal.agg [iv n16, AVal.str s17, iv n18, iv n19, iv n20], iv 5, AVal.str s22, v48]
 H49 i50 fun e57 H58 i59 => onEnd e57 (fun v60 => ∃ n61 s62 n63 n64 n65 v66, v60 = AVal.agg [iv n61, AVal.str s62, iv n63, iv n64, iv n65, v66] ∧ True ∧ ∃ H67, stC H58 (AVal.ptr nx
 0) [iv n61, AVal.str s62, iv n63, iv n64, iv n65, v66] = some H67 ∧ True ∧ ∃ n68 s69 n70 n71 n72 v73, ldN H67 6 (AVal.ptr nx 0) = some (AVal.agg [iv n68, AVal.str s69, iv n70, iv
 n71, iv n72, v73]) ∧ K (AEnd.ret (AVal.agg [iv n68, AVal.str s69, iv n70, iv n71, iv n72, v73])) H67 i59) fun l74 => K (AEnd.pan l74) H58 i59) fun l75 => K (AEnd.pan l75) H30 i31)
 fun l76 => K (AEnd.pan l76) H13 i14) fun l77 => K (AEnd.pan l77) H2 i3
theorem Frd_method_eq (call : CallP) (lp : Nat → LoopP) (lv : LeaveP) (lvc : LeaveC) (r : Nat) (H : Heap) (nx : Nat) (K : EndP) : vBody PG call lp f_rd_method [AVal.ptr r 0] H nx (endK PG lv lvc K) = Frd_method call lp lv lvc r H nx K := by kernel_rfl
def Frd_result (call : CallP) (lp : Nat → LoopP) (lv : LeaveP) (lvc : LeaveC) (r : Nat) (H : Heap) (nx : Nat) (K : EndP) : Prop :=
 ∃ H0, H0 = newB nx [iv 0, AVal.str [], iv 0, iv 0, iv 0, AVal.nilSlice] H ∧ call f_rd_now [AVal.ptr r 0] H0 (nx + 1) fun e1 H2 i3 => onEnd e1 (fun v4 => ∃ n5 s6 n7 n8 n9, v4 = AVal.agg
 [iv n5, AVal.str s6, iv n7, iv n8, iv n9] ∧ ∃ H10, H10 = newB i3 [iv 0, AVal.str [], iv 0, iv 0, iv 0] H2 ∧ ∃ H11, stC H10 (AVal.ptr i3 0) [iv n5, AVal.str s6, iv n7, iv n8, iv n9]
 = some H11 ∧ ∃ v12, some (AVal.ptr i3 0) = some v12 ∧ ∃ n13 : Int, ld1 H11 v12 = some (iv n13) ∧ ifB (decide (n13 = 2)) (call f_rd_typ [AVal.ptr r 0] H11 (i3 + 1) fun e14 H15 i16 => onEnd
 e14 (fun v17 => ∃ n18 s19 n20 n21 n22 v23, v17 = AVal.agg [iv n18, AVal.str s19, iv n20, iv n21, iv n22, v23] ∧ ∃ H24, stC H15 (AVal.ptr nx 0) [iv n18, AVal.str s19, iv n20, iv n21,
 iv n22, v23] = some H24 ∧ ∃ n25 s26 n27 n28 n29 v30, ldN H24 6 (AVal.ptr nx 0) = some (AVal.agg [iv n25, AVal.str s26, iv n27, iv n28, iv n29, v30]) ∧ K (AEnd.ret (AVal.agg [iv n25,
 AVal.str s26, iv n27, iv n28, iv n29, v30])) H24 i16) fun l31 => K (AEnd.pan l31) H15 i16) (call f_rd_is [AVal.ptr r 0, AVal.str [105, 110, 116]] H11 (i3 + 1) fun e32 H33 i34 => onEnd
 e32 (fun v35 => ∃ b36, v35 = AVal.bool b36 ∧ ifB b36 (call f_rd_typ [AVal.ptr r 0] H33 i34 fun e37 H38 i39 => onEnd e37 (fun v40 => ∃ n41 s42 n43 n44 n45 v46, v40 = AVal.agg [iv n41,
 AVal.str s42, iv n43, iv n44, iv n45, v46] ∧ ∃ H47, stC H38 (AVal.ptr nx 0) [iv n41, AVal.str s42, iv n43, iv n44, iv n45, v46] = some H47 ∧ ∃ n48 s49 n50 n51 n52 v53, ldN H47 6
 (AVal.ptr nx 0) = some (AVal.agg [iv n48, AVal.str s49, iv n50, iv n51, iv n52, v53]) ∧ K (AEnd.ret (AVal.agg [iv n48, AVal.str s49, iv n50, iv n51, iv n52, v53])) H47 i39) fun l54
 => K (AEnd.pan l54) H38 i39) (call f_rd_is [AVal.ptr r 0, AVal.str [98, 111, 111, 108]] H33 i34 fun e55 H56 i57 => onEnd e55 (fun v58 => ∃ b59, v58 = AVal.bool b59 ∧ ifB b59 (call 60
 [AVal.ptr r 0] H56 i57 fun e60 H61 i62 => onEnd e60 (fun v63 => ∃ n64 s65 n66 n67 n68 v69, v63 = AVal.agg [iv n64, AVal.str s65, iv n66, iv n67, iv n68, v69] ∧ ∃ H70, stC H61
 (AVal.ptr nx 0) [iv n64, AVal.str s65, iv n66, iv n67, iv n68, v69] = some H70 ∧ ∃ n71 s72 n73 n74 n75 v76, ldN H70 6 (AVal.ptr nx 0) = some (AVal.agg [iv n71, AVal.str s72, iv n73,
 iv n74, iv n75, v76]) ∧ K (AEnd.ret (AVal.agg [iv n71, AVal.str s72, iv n73, iv n74, iv n75, v76])) H70 i62) fun l77 => K (AEnd.pan l77) H61 i62) (call f_rd_is [AVal.ptr r 0, AVal.str
 [115, 116, 114, 105, 110, 103]] H56 i57 fun e78 H79 i80 => onEnd e78 (fun v81 => ∃ b82, v81 = AVal.bool b82 ∧ ifB b82 (call f_rd_typ [AVal.ptr r 0] H79 i80 fun e83 H84 i85 => onEnd e83
 (fun v86 => ∃ n87 s88 n89 n90 n91 v92, v86 = AVal.agg [iv n87, AVal.str s88, iv n89, iv n90, iv n91, v92] ∧ ∃ H93, stC H84 (AVal.ptr nx 0) [iv n87, AVal.str s88, iv n89, iv n90, iv
 n91, v92] = some H93 ∧ ∃ n94 s95 n96 n97 n98 v99, ldN H93 6 (AVal.ptr nx 0) = some (AVal.agg [iv n94, AVal.str s95, iv n96, iv n97, iv n98, v99]) ∧ K (AEnd.ret (AVal.agg [iv n94,
 AVal.str s95, iv n96, iv n97, iv n98, v99])) H93 i85) fun l100 => K (AEnd.pan l100) H84 i85) (call f_rd_is [AVal.ptr r 0, AVal.str [91]] H79 i80 fun e101 H102 i103 => onEnd e101 (fun
 v104 => ∃ b105, v104 = AVal.bool b105 ∧ ifB b105 (call f_rd_typ [AVal.ptr r 0] H102 i103 fun e106 H107 i108 => onEnd e106 (fun v109 => ∃ n110 s111 n112 n113 n114 v115, v109 = AVal.agg [iv
 n110, AVal.str s111, iv n112, iv n113, iv n114, v115] ∧ ∃ H116, stC H107 (AVal.ptr nx 0) [iv n110, AVal.str s111, iv n112, iv n113, iv n114, v115] = some H116 ∧ ∃ n117 s118 n119
 n120 n121 v122, ldN H116 6 (AVal.ptr nx 0) = some (AVal.agg [iv n117, AVal.str s118, iv n119, iv n120, iv n121, v122]) ∧ K (AEnd.ret (AVal.agg [iv n117, AVal.str s118, iv n119, iv
 n120, iv n121, v122])) H116 i108) fun l123 => K (AEnd.pan l123) H107 i108) (call f_p_none [] H102 i103 fun e124 H125 i126 => onEnd e124 (fun v127 => ∃ n128 s129 n130 n131 n132 v133, v127
 = AVal.agg [iv n128, AVal.str s129, iv n130, iv n131, iv n132, v133] ∧ ∃ H134, stC H125 (AVal.ptr nx 0) [iv n128, AVal.str s129, iv n130, iv n131, iv n132, v133] = some H134 ∧ ∃
 n135 s136 n137 n138 n139 v140, ldN H134 6 (AVal.ptr nx 0) = some (AVal.agg [iv n135, AVal.str s136, iv n137, iv n138, iv n139, v140]) ∧ K (AEnd.ret (AVal.agg [iv n135, AVal.str
 s136, iv n137, iv n138, iv n139, v140])) H134 i126) fun l141 => K (AEnd.pan l141) H125 i126)) fun l142 => K (AEnd.pan l142) H102 i103)) fun l143 => K (AEnd.pan l143) H79 i80)) fun
 l144 => K (AEnd.pan l144) H56 i57)) fun l145 => K (AEnd.pan l145) H33 i34)) fun l146 => K (AEnd.pan l146) H2 i3
theorem Frd_result_eq (call : CallP) (lp : Nat → LoopP) (lv : LeaveP) (lvc : LeaveC) (r : Nat) (H : Heap) (nx : Nat) (K : EndP) : vBody PG call lp f_rd_result [AVal.ptr r 0] H nx (endK PG lv lvc K) = Frd_result call lp lv lvc r H nx K := by kernel_rfl
def Frd_typ (call : CallP) (lp : Nat → LoopP) (lv : LeaveP) (lvc : LeaveC) (r : Nat) (H : Heap) (nx : Nat) (K : EndP) : Prop :=
 ∃ H0, H0 = newB nx [iv 0, AVal.str [], iv 0, iv 0, iv 0, AVal.nilSlice] H ∧ call f_rd_enter [AVal.ptr r 0] H0 (nx + 1) fun e1 H2 i3 => onEnd e1 (fun v4 => call f_rd_now [AVal.ptr r 0] H2 i3 fun
 e5 H6 i7 => onEnd e5 (fun v8 => ∃ n9 s10 n11 n12 n13, v8 = AVal.agg [iv n9, AVal.str s10, iv n11, iv n12, iv n13] ∧ ∃ H14, H14 = newB i7 [iv 0, AVal.str [], iv 0, iv 0, iv 0] H6 ∧ ∃
 H15, stC H14 (AVal.ptr i7 0) [iv n9, AVal.str s10, iv n11, iv n12, iv n13] = some H15 ∧ call f_rd_has [AVal.ptr r 0, AVal.str [91]] H15 (i7 + 1) fun e16 H17 i18 => onEnd e16 (fun v19 => ∃
 b20, v19 = AVal.bool b20 ∧ ifB b20 (call f_rd_need [AVal.ptr r 0, AVal.str [93]] H17 i18 fun e21 H22 i23 => onEnd e21 (fun v24 => ∃ n25 s26 n27 n28 n29, v24 = AVal.agg [iv n25, AVal.str
 s26, iv n27, iv n28, iv n29] ∧ ∃ n30 s31 n32 n33 n34, ldN H22 5 (AVal.ptr i7 0) = some (AVal.agg [iv n30, AVal.str s31, iv n32, iv n33, iv n34]) ∧ ((∃ n35 s36 n37 n38 n39, ldN H22 5
 (AVal.ptr i7 0) = some (AVal.agg [iv n35, AVal.str s36, iv n37, iv n38, iv n39]) ∧ AVal.agg [iv n35, AVal.str s36, iv n37, iv n38, iv n39] = AVal.agg [iv n30, AVal.str s31, iv n32,
 iv n33, iv n34]) ∧ True) ∧ call f_rd_typ [AVal.ptr r 0] H22 (i23 + 6) fun e40 H41 i42 => onEnd e40 (fun v43 => ∃ n44 s45 n46 n47 n48 v49, v43 = AVal.agg [iv n44, AVal.str s45, iv n46, iv
 n47, iv n48, v49] ∧ ∃ H50, H50 = newB (i23 + 3) [iv n44, AVal.str s45, iv n46, iv n47, iv n48, v49] H41 ∧ ((∃ n51 s52 n53 n54 n55, ldN H50 5 (AVal.ptr i7 0) = some (AVal.agg [iv
 n51, AVal.str s52, iv n53, iv n54, iv n55]) ∧ AVal.agg [iv n51, AVal.str s52, iv n53, iv n54, iv n55] = AVal.agg [iv n30, AVal.str s31, iv n32, iv n33, iv n34]) ∧ True) ∧ call 28
 [AVal.agg [iv n30, AVal.str s31, iv n32, iv n33, iv n34], iv 9, AVal.str [], AVal.slice (i23 + 3) 0 1 6 true] H50 i42 fun e56 H57 i58 => onEnd e56 (fun v59 => ∃ n60 s61 n62 n63 n64
 v65, v59 = AVal.agg [iv n60, AVal.str s61, iv n62, iv n63, iv n64, v65] ∧ True ∧ ∃ H66, stC H57 (AVal.ptr nx 0) [iv n60, AVal.str s61, iv n62, iv n63, iv n64, v65] = some H66 ∧ True
 ∧ lvc [RVal.cell (AVal.ptr nx 0) t_node] [(66, [AVal.ptr r 0])] AMode.returning H66 i58 fun e67 H68 i69 => K e67 H68 i69) fun l70 => lvc [RVal.cell (AVal.ptr nx 0) t_node] [(66, [AVal.ptr r
 0])] (AMode.panicking l70) H57 i58 fun e71 H72 i73 => K e71 H72 i73) fun l74 => lvc [RVal.cell (AVal.ptr nx 0) t_node] [(66, [AVal.ptr r 0])] (AMode.panicking l74) H41 i42 fun e75 H76
 i77 => K e75 H76 i77) fun l78 => lvc [RVal.cell (AVal.ptr nx 0) t_node] [(66, [AVal.ptr r 0])] (AMode.panicking l78) H22 i23 fun e79 H80 i81 => K e79 H80 i81) (call f_rd_has [AVal.ptr r 0,
 AVal.str [105, 110, 116]] H17 i18 fun e82 H83 i84 => onEnd e82 (fun v85 => ∃ b86, v85 = AVal.bool b86 ∧ ifB b86 (∃ n87 s88 n89 n90 n91, ldN H83 5 (AVal.ptr i7 0) = some (AVal.agg
 [iv n87, AVal.str s88, iv n89, iv n90, iv n91]) ∧ ∃ v92, some (AVal.ptr i7 1) = some v92 ∧ ∃ s93, ld1 H83 v92 = some (AVal.str s93) ∧ call f_p_node [AVal.agg [iv n87, AVal.str s88, iv
 n89, iv n90, iv n91], iv 8, AVal.str s93, AVal.nilSlice] H83 i84 fun e94 H95 i96 => onEnd e94 (fun v97 => ∃ n98 s99 n100 n101 n102 v103, v97 = AVal.agg [iv n98, AVal.str s99, iv
 n100, iv n101, iv n102, v103] ∧ ∃ H104, stC H95 (AVal.ptr nx 0) [iv n98, AVal.str s99, iv n100, iv n101, iv n102, v103] = some H104 ∧ lvc [RVal.cell (AVal.ptr nx 0) t_node] [(66,
 [AVal.ptr r 0])] AMode.returning H104 i96 fun e105 H106 i107 => K e105 H106 i107) fun l108 => lvc [RVal.cell (AVal.ptr nx 0) t_node] [(66, [AVal.ptr r 0])] (AMode.panicking l108) H95
 i96 fun e109 H110 i111 => K e109 H110 i111) (call f_rd_has [AVal.ptr r 0, AVal.str [98, 111, 111, 108]] H83 i84 fun e112 H113 i114 => onEnd e112 (fun v115 => ∃ b116, v115 = AVal.bool b116
 ∧ ifB b116 (∃ n117 s118 n119 n120 n121, ldN H113 5 (AVal.ptr i7 0) = some (AVal.agg [iv n117, AVal.str s118, iv n119, iv n120, iv n121]) ∧ ∃ v122, some (AVal.ptr i7 1) = some v122 ∧
 ∃ s123, ld1 H113 v122 = some (AVal.str s123) ∧ call f_p_node [AVal.agg [iv n117, AVal.str s118, iv n119, iv n120, iv n121], iv 8, AVal.str s123, AVal.nilSlice] H113 i114 fun e124 H125
 i126 => onEnd e124 (fun v127 => ∃ n128 s129 n130 n131 n132 v133, v127 = AVal.agg [iv n128, AVal.str s129, iv n130, iv n131, iv n132, v133] ∧ ∃ H134, stC H125 (AVal.ptr nx 0) [iv
 n128, AVal.str s129, iv n130, iv n131, iv n132, v133] = some H134 ∧ lvc [RVal.cell (AVal.ptr nx 0) t_node] [(66, [AVal.ptr r 0])] AMode.returning H134 i126 fun e135 H136 i137 => K e135
 H136 i137) fun l138 => lvc [RVal.cell (AVal.ptr nx 0) t_node] [(66, [AVal.ptr r 0])] (AMode.panicking l138) H125 i126 fun e139 H140 i141 => K e139 H140 i141) (call f_rd_has [AVal.ptr r 0,
 AVal.str [115, 116, 114, 105, 110, 103]] H113 i114 fun e142 H143 i144 => onEnd e142 (fun v145 => ∃ b146, v145 = AVal.bool b146 ∧ ifB b146 (∃ n147 s148 n149 n150 n151, ldN H143 5
 (AVal.ptr i7 0) = some (AVal.agg [iv n147, AVal.str s148, iv n149, iv n150, iv n151]) ∧ ∃ v152, some (AVal.ptr i7 1) = some v152 ∧ ∃ s153, ld1 H143 v152 = some (AVal.str s153) ∧
 call f_p_node [AVal.agg [iv n147, AVal.str s148, iv n149, iv n150, iv n151], iv 8, AVal.str s153, AVal.nilSlice] H143 i144 fun e154 H155 i156 => onEnd e154 (fun v157 => ∃ n158 s159 n160
 n161 n162 v163, v157 = AVal.agg [iv n158, AVal.str s159, iv n160, iv n161, iv n162, v163] ∧ ∃ H164, stC H155 (AVal.ptr nx 0) [iv n158, AVal.str s159, iv n160, iv n161, iv n162,
 v163] = some H164 ∧ lvc [RVal.cell (AVal.ptr nx 0) t_node] [(66, [AVal.ptr r 0])] AMode.returning H164 i156 fun e165 H166 i167 => K e165 H166 i167) fun l168 => lvc [RVal.cell (AVal.ptr
 nx 0) t_node] [(66, [AVal.ptr r 0])] (AMode.panicking l168) H155 i156 fun e169 H170 i171 => K e169 H170 i171) (∃ v172, some (AVal.ptr i7 1) = some v172 ∧ ∃ s173, ld1 H143 v172 = some
 (AVal.str s173) ∧ ((∃ s174, ld1 H143 v172 = some (AVal.str s174) ∧ AVal.str s174 = AVal.str s173) ∧ True) ∧ call f_rd_name [AVal.ptr r 0] H143 (i144 + 6) fun e175 H176 i177 => onEnd e175
 (fun v178 => ∃ n179 s180 n181 n182 n183, v178 = AVal.agg [iv n179, AVal.str s180, iv n181, iv n182, iv n183] ∧ ((∃ s184, ld1 H176 v172 = some (AVal.str s184) ∧ AVal.str s184 =
 AVal.str s173) ∧ True) ∧ call f_p_node [AVal.agg [iv n179, AVal.str s180, iv n181, iv n182, iv n183], iv 8, AVal.str s173, AVal.nilSlice] H176 i177 fun e185 H186 i187 => onEnd e185 (fun
 v188 => ∃ n189 s190 n191 n192 n193 v194, v188 = AVal.agg [iv n189, AVal.str s190, iv n191, iv n192, iv n193, v194] ∧ True ∧ ∃ H195, stC H186 (AVal.ptr nx 0) [iv n189, AVal.str s190,
 iv n191, iv n192, iv n193, v194] = some H195 ∧ True ∧ lvc [RVal.cell (AVal.ptr nx 0) t_node] [(66, [AVal.ptr r 0])] AMode.returning H195 i187 fun e196 H197 i198 => K e196 H197 i198) fun
 l199 => lvc [RVal.cell (AVal.ptr nx 0) t_node] [(66, [AVal.ptr r 0])] (AMode.panicking l199) H186 i187 fun e200 H201 i202 => K e200 H201 i202) fun l203 => lvc [RVal.cell (AVal.ptr nx 0)
 27] [(66, [AVal.ptr r 0])] (AMode.panicking l203) H176 i177 fun e204 H205 i206 => K e204 H205 i206)) fun l207 => lvc [RVal.cell (AVal.ptr nx 0) t_node] [(66, [AVal.ptr r 0])]
 (AMode.panicking l207) H143 i144 fun e208 H209 i210 => K e208 H209 i210)) fun l211 => lvc [RVal.cell (AVal.ptr nx 0) t_node] [(66, [AVal.ptr r 0])] (AMode.panicking l211) H113 i114 fun
 e212 H213 i214 => K e212 H213 i214)) fun l215 => lvc [RVal.cell (AVal.ptr nx 0) t_node] [(66, [AVal.ptr r 0])] (AMode.panicking l215) H83 i84 fun e216 H217 i218 => K e216 H217 i218))
 fun l219 => lvc [RVal.cell (AVal.ptr nx 0) t_node] [(66, [AVal.ptr r 0])] (AMode.panicking l219) H17 i18 fun e220 H221 i222 => K e220 H221 i222) fun l223 => lvc [RVal.cell (AVal.ptr nx
 0) t_node] [(66, [AVal.ptr r 0])] (AMode.panicking l223) H6 i7 fun e224 H225 i226 => K e224 H225 i226) fun l227 => K (AEnd.pan l227) H2 i3
theorem Frd_typ_eq (call : CallP) (lp : Nat → LoopP) (lv : LeaveP) (lvc : LeaveC) (r : Nat) (H : Heap) (nx : Nat) (K : EndP) : vBody PG call lp f_rd_typ [AVal.ptr r 0] H nx (endK PG lv lvc K) = Frd_typ call lp lv lvc r H nx K := by kernel_rfl
def Frd_param (call : CallP) (lp : Nat → LoopP) (lv : LeaveP) (lvc : LeaveC) (r : Nat) (H : Heap) (nx : Nat) (K : EndP) : Prop :=
 ∃ H0, H0 = newB nx [iv 0, AVal.str [], iv 0, iv 0, iv 0, AVal.nilSlice] H ∧ call f_rd_name [AVal.ptr r 0] H0 (nx + 1) fun e1 H2 i3 => onEnd e1 (fun v4 => ∃ n5 s6 n7 n8 n9, v4 = AVal.agg
 [iv n5, AVal.str s6, iv n7, iv n8, iv n9] ∧ ∃ H10, H10 = newB i3 [iv 0, AVal.str [], iv 0, iv 0, iv 0] H2 ∧ ∃ H11, stC H10 (AVal.ptr i3 0) [iv n5, AVal.str s6, iv n7, iv n8, iv n9]
 = some H11 ∧ ∃ n12 s13 n14 n15 n16, ldN H11 5 (AVal.ptr i3 0) = some (AVal.agg [iv n12, AVal.str s13, iv n14, iv n15, iv n16]) ∧ ∃ v17, some (AVal.ptr i3 1) = some v17 ∧ ∃ s18, ld1
 H11 v17 = some (AVal.str s18) ∧ ((∃ n19 s20 n21 n22 n23, ldN H11 5 (AVal.ptr i3 0) = some (AVal.agg [iv n19, AVal.str s20, iv n21, iv n22, iv n23]) ∧ AVal.agg [iv n19, AVal.str s20,
 iv n21, iv n22, iv n23] = AVal.agg [iv n12, AVal.str s13, iv n14, iv n15, iv n16]) ∧ (∃ s24, ld1 H11 v17 = some (AVal.str s24) ∧ AVal.str s24 = AVal.str s18) ∧ True) ∧ call 60
 [AVal.ptr r 0] H11 (i3 + 1 + 8) fun e25 H26 i27 => onEnd e25 (fun v28 => ∃ n29 s30 n31 n32 n33 v34, v28 = AVal.agg [iv n29, AVal.str s30, iv n31, iv n32, iv n33, v34] ∧ ∃ H35, H35 =
 newB (i3 + 1 + 5) [iv n29, AVal.str s30, iv n31, iv n32, iv n33, v34] H26 ∧ ((∃ n36 s37 n38 n39 n40, ldN H35 5 (AVal.ptr i3 0) = some (AVal.agg [iv n36, AVal.str s37, iv n38, iv
 n39, iv n40]) ∧ AVal.agg [iv n36, AVal.str s37, iv n38, iv n39, iv n40] = AVal.agg [iv n12, AVal.str s13, iv n14, iv n15, iv n16]) ∧ (∃ s41, ld1 H35 v17 = some (AVal.str s41) ∧
 AVal.str s41 = AVal.str s18) ∧ True) ∧ call f_p_node [AVal.agg [iv n12, AVal.str s13, iv n14, iv n15, iv n16], iv 7, AVal.str s18, AVal.slice (i3 + 1 + 5) 0 1 6 true] H35 i27 fun e42 H43
 i44 => onEnd e42 (fun v45 => ∃ n46 s47 n48 n49 n50 v51, v45 = AVal.agg [iv n46, AVal.str s47, iv n48, iv n49, iv n50, v51] ∧ True ∧ ∃ H52, stC H43 (AVal.ptr nx 0) [iv n46, AVal.str
 s47, iv n48, iv n49, iv n50, v51] = some H52 ∧ True ∧ ∃ n53 s54 n55 n56 n57 v58, ldN H52 6 (AVal.ptr nx 0) = some (AVal.agg [iv n53, AVal.str s54, iv n55, iv n56, iv n57, v58]) ∧ K
 (AEnd.ret (AVal.agg [iv n53, AVal.str s54, iv n55, iv n56, iv n57, v58])) H52 i44) fun l59 => K (AEnd.pan l59) H43 i44) fun l60 => K (AEnd.pan l60) H26 i27) fun l61 => K (AEnd.pan
 l61) H2 i3
theorem Frd_param_eq (call : CallP) (lp : Nat → LoopP) (lv : LeaveP) (lvc : LeaveC) (r : Nat) (H : Heap) (nx : Nat) (K : EndP) : vBody PG call lp f_rd_param [AVal.ptr r 0] H nx (endK PG lv lvc K) = Frd_param call lp lv lvc r H nx K := by kernel_rfl
def Frd_funcDecl (call : CallP) (lp : Nat → LoopP) (lv : LeaveP) (lvc : LeaveC) (r : Nat) (H : Heap) (nx : Nat) (K : EndP) : Prop :=
 ∃ H0, H0 = newB nx [iv 0, AVal.str [], iv 0, iv 0, iv 0, AVal.nilSlice] H ∧ call f_rd_need [AVal.ptr r 0, AVal.str [102, 117, 110, 99]] H0 (nx + 1) fun e1 H2 i3 => onEnd e1 (fun v4 => ∃ n5
 s6 n7 n8 n9, v4 = AVal.agg [iv n5, AVal.str s6, iv n7, iv n8, iv n9] ∧ ∃ H10, H10 = newB i3 [iv 0, AVal.str [], iv 0, iv 0, iv 0] H2 ∧ ∃ H11, stC H10 (AVal.ptr i3 0) [iv n5,
 AVal.str s6, iv n7, iv n8, iv n9] = some H11 ∧ call f_p_none [] H11 (i3 + 1) fun e12 H13 i14 => onEnd e12 (fun v15 => ∃ n16 s17 n18 n19 n20 v21, v15 = AVal.agg [iv n16, AVal.str s17, iv
 n18, iv n19, iv n20, v21] ∧ ∃ H22, H22 = newB i14 [iv 0, AVal.str [], iv 0, iv 0, iv 0, AVal.nilSlice] H13 ∧ ∃ H23, stC H22 (AVal.ptr i14 0) [iv n16, AVal.str s17, iv n18, iv n19,
 iv n20, v21] = some H23 ∧ call f_rd_has [AVal.ptr r 0, AVal.str [40]] H23 (i14 + 1) fun e24 H25 i26 => onEnd e24 (fun v27 => ∃ b28, v27 = AVal.bool b28 ∧ ifB b28 (call f_rd_name [AVal.ptr r 0]
 H25 i26 fun e29 H30 i31 => onEnd e29 (fun v32 => ∃ n33 s34 n35 n36 n37, v32 = AVal.agg [iv n33, AVal.str s34, iv n35, iv n36, iv n37] ∧ ∃ H38, H38 = newB i31 [iv 0, AVal.str [], iv
 0, iv 0, iv 0] H30 ∧ ∃ H39, stC H38 (AVal.ptr i31 0) [iv n33, AVal.str s34, iv n35, iv n36, iv n37] = some H39 ∧ call f_rd_name [AVal.ptr r 0] H39 (i31 + 1) fun e40 H41 i42 => onEnd e40
 (fun v43 => ∃ n44 s45 n46 n47 n48, v43 = AVal.agg [iv n44, AVal.str s45, iv n46, iv n47, iv n48] ∧ ∃ H49, H49 = newB i42 [iv 0, AVal.str [], iv 0, iv 0, iv 0] H41 ∧ ∃ H50, stC H49
 (AVal.ptr i42 0) [iv n44, AVal.str s45, iv n46, iv n47, iv n48] = some H50 ∧ ∃ n51 s52 n53 n54 n55, ldN H50 5 (AVal.ptr i31 0) = some (AVal.agg [iv n51, AVal.str s52, iv n53, iv
 n54, iv n55]) ∧ ∃ v56, some (AVal.ptr i31 1) = some v56 ∧ ∃ s57, ld1 H50 v56 = some (AVal.str s57) ∧ ∃ n58 s59 n60 n61 n62, ldN H50 5 (AVal.ptr i42 0) = some (AVal.agg [iv n58,
 AVal.str s59, iv n60, iv n61, iv n62]) ∧ ∃ v63, some (AVal.ptr i42 1) = some v63 ∧ ∃ s64, ld1 H50 v63 = some (AVal.str s64) ∧ ((∃ n65 s66 n67 n68 n69, ldN H50 5 (AVal.ptr i31 0) =
 some (AVal.agg [iv n65, AVal.str s66, iv n67, iv n68, iv n69]) ∧ AVal.agg [iv n65, AVal.str s66, iv n67, iv n68, iv n69] = AVal.agg [iv n51, AVal.str s52, iv n53, iv n54, iv n55]) ∧
 (∃ s70, ld1 H50 v56 = some (AVal.str s70) ∧ AVal.str s70 = AVal.str s57) ∧ (∃ n71 s72 n73 n74 n75, ldN H50 5 (AVal.ptr i42 0) = some (AVal.agg [iv n71, AVal.str s72, iv n73, iv n74,
 iv n75]) ∧ AVal.agg [iv n71, AVal.str s72, iv n73, iv n74, iv n75] = AVal.agg [iv n58, AVal.str s59, iv n60, iv n61, iv n62]) ∧ (∃ s76, ld1 H50 v63 = some (AVal.str s76) ∧ AVal.str
 s76 = AVal.str s64) ∧ True) ∧ call f_p_node [AVal.agg [iv n58, AVal.str s59, iv n60, iv n61, iv n62], iv 8, AVal.str s64, AVal.nilSlice] H50 (i42 + 1 + 10) fun e77 H78 i79 => onEnd e77
 (fun v80 => ∃ n81 s82 n83 n84 n85 v86, v80 = AVal.agg [iv n81, AVal.str s82, iv n83, iv n84, iv n85, v86] ∧ ∃ H87, H87 = newB (i42 + 1 + 7) [iv n81, AVal.str s82, iv n83, iv n84, iv
 n85, v86] H78 ∧ ((∃ n88 s89 n90 n91 n92, ldN H87 5 (AVal.ptr i31 0) = some (AVal.agg [iv n88, AVal.str s89, iv n90, iv n91, iv n92]) ∧ AVal.agg [iv n88, AVal.str s89, iv n90, iv
 n91, iv n92] = AVal.agg [iv n51, AVal.str s52, iv n53, iv n54, iv n55]) ∧ (∃ s93, ld1 H87 v56 = some (AVal.str s93) ∧ AVal.str s93 = AVal.str s57) ∧ True) ∧ call f_p_node [AVal.agg [iv
 n51, AVal.str s52, iv n53, iv n54, iv n55], iv 7, AVal.str s57, AVal.slice (i42 + 1 + 7) 0 1 6 true] H87 i79 fun e94 H95 i96 => onEnd e94 (fun v97 => ∃ n98 s99 n100 n101 n102 v103,
 v97 = AVal.agg [iv n98, AVal.str s99, iv n100, iv n101, iv n102, v103] ∧ True ∧ ∃ H104, stC H95 (AVal.ptr i14 0) [iv n98, AVal.str s99, iv n100, iv n101, iv n102, v103] = some H104
 ∧ True ∧ call f_rd_need [AVal.ptr r 0, AVal.str [41]] H104 i96 fun e105 H106 i107 => onEnd e105 (fun v108 => ∃ n109 s110 n111 n112 n113, v108 = AVal.agg [iv n109, AVal.str s110, iv n111,
 iv n112, iv n113] ∧ call f_rd_name [AVal.ptr r 0] H106 i107 fun e114 H115 i116 => onEnd e114 (fun v117 => ∃ n118 s119 n120 n121 n122, v117 = AVal.agg [iv n118, AVal.str s119, iv n120, iv
 n121, iv n122] ∧ call f_rd_row [AVal.ptr r 0, AVal.func (Fn.func 49) [AVal.ptr r 0] []] H115 i116 fun e123 H124 i125 => onEnd e123 (fun v126 => call f_rd_result [AVal.ptr r 0] H124 i125 fun e127
 H128 i129 => onEnd e127 (fun v130 => ∃ n131 s132 n133 n134 n135 v136, v130 = AVal.agg [iv n131, AVal.str s132, iv n133, iv n134, iv n135, v136] ∧ ∃ H137, H137 = newB i129 [iv 0,
 AVal.str [], iv 0, iv 0, iv 0, AVal.nilSlice] H128 ∧ ∃ H138, stC H137 (AVal.ptr i129 0) [iv n131, AVal.str s132, iv n133, iv n134, iv n135, v136] = some H138 ∧ ∃ n139 s140 n141 n142
 n143, ldN H138 5 (AVal.ptr i3 0) = some (AVal.agg [iv n139, AVal.str s140, iv n141, iv n142, iv n143]) ∧ ∃ n144 s145 n146 n147 n148 v149, ldN H138 6 (AVal.ptr i14 0) = some
 (AVal.agg [iv n144, AVal.str s145, iv n146, iv n147, iv n148, v149]) ∧ ∃ n150 s151 n152 n153 n154 v155, ldN H138 6 (AVal.ptr i129 0) = some (AVal.agg [iv n150, AVal.str s151, iv
 n152, iv n153, iv n154, v155]) ∧ ((∃ n156 s157 n158 n159 n160, ldN H138 5 (AVal.ptr i3 0) = some (AVal.agg [iv n156, AVal.str s157, iv n158, iv n159, iv n160]) ∧ AVal.agg [iv n156,
 AVal.str s157, iv n158, iv n159, iv n160] = AVal.agg [iv n139, AVal.str s140, iv n141, iv n142, iv n143]) ∧ (∃ n161 s162 n163 n164 n165 v166, ldN H138 6 (AVal.ptr i14 0) = some
 (AVal.agg [iv n161, AVal.str s162, iv n163, iv n164, iv n165, v166]) ∧ AVal.agg [iv n161, AVal.str s162, iv n163, iv n164, iv n165, v166] = AVal.agg [iv n144, AVal.str s145, iv
 n146, iv n147, iv n148, v149]) ∧ (∃ n167 s168 n169 n170 n171 v172, ldN H138 6 (AVal.ptr i129 0) = some (AVal.agg [iv n167, AVal.str s168, iv n169, iv n170, iv n171, v172]) ∧
 AVal.agg [iv n167, AVal.str s168, iv n169, iv n170, iv n171, v172] = AVal.agg [iv n150, AVal.str s151, iv n152, iv n153, iv n154, v155]) ∧ True) ∧ call f_rd_block [AVal.ptr r 0] H138 (i129
 + 1 + 11) fun e173 H174 i175 => onEnd e173 (fun v176 => ∃ n177 s178 n179 n180 n181 v182, v176 = AVal.agg [iv n177, AVal.str s178, iv n179, iv n180, iv n181, v182] ∧ ∃ H183, H183 =
 newB (i129 + 1 + 6) [iv n144, AVal.str s145, iv n146, iv n147, iv n148, v149, iv n150, AVal.str s151, iv n152, iv n153, iv n154, v155, iv n177, AVal.str s178, iv n179, iv n180, iv
 n181, v182] H174 ∧ ((∃ n184 s185 n186 n187 n188, ldN H183 5 (AVal.ptr i3 0) = some (AVal.agg [iv n184, AVal.str s185, iv n186, iv n187, iv n188]) ∧ AVal.agg [iv n184, AVal.str s185,
 iv n186, iv n187, iv n188] = AVal.agg [iv n139, AVal.str s140, iv n141, iv n142, iv n143]) ∧ (∃ n189 s190 n191 n192 n193 v194, ldN H183 6 (AVal.ptr i14 0) = some (AVal.agg [iv n189,
 AVal.str s190, iv n191, iv n192, iv n193, v194]) ∧ AVal.agg [iv n189, AVal.str s190, iv n191, iv n192, iv n193, v194] = AVal.agg [iv n144, AVal.str s145, iv n146, iv n147, iv n148,
 v149]) ∧ (∃ n195 s196 n197 n198 n199 v200, ldN H183 6 (AVal.ptr i129 0) = some (AVal.agg [iv n195, AVal.str s196, iv n197, iv n198, iv n199, v200]) ∧ AVal.agg [iv n195, AVal.str
 s196, iv n197, iv n198, iv n199, v200] = AVal.agg [iv n150, AVal.str s151, iv n152, iv n153, iv n154, v155]) ∧ True) ∧ ∃ i201 l202, aSrc 6 H183 v126 = some (i201, l202) ∧ allCell
 l202 = true ∧ ∃ v203 H204 i205, appC H183 i175 6 72 (AVal.slice (i129 + 1 + 6) 0 3 6 true) i201 l202 = some (v203, H204, i205) ∧ ((∃ n206 s207 n208 n209 n210, ldN H204 5 (AVal.ptr
 i3 0) = some (AVal.agg [iv n206, AVal.str s207, iv n208, iv n209, iv n210]) ∧ AVal.agg [iv n206, AVal.str s207, iv n208, iv n209, iv n210] = AVal.agg [iv n139, AVal.str s140, iv
 n141, iv n142, iv n143]) ∧ True) ∧ call f_p_node [AVal.agg [iv n139, AVal.str s140, iv n141, iv n142, iv n143], iv 6, AVal.str s119, v203] H204 i205 fun e211 H212 i213 => onEnd e211 (fun
 v214 => ∃ n215 s216 n217 n218 n219 v220, v214 = AVal.agg [iv n215, AVal.str s216, iv n217, iv n218, iv n219, v220] ∧ True ∧ ∃ H221, stC H212 (AVal.ptr nx 0) [iv n215, AVal.str s216,
 iv n217, iv n218, iv n219, v220] = some H221 ∧ True ∧ ∃ n222 s223 n224 n225 n226 v227, ldN H221 6 (AVal.ptr nx 0) = some (AVal.agg [iv n222, AVal.str s223, iv n224, iv n225, iv
 n226, v227]) ∧ K (AEnd.ret (AVal.agg [iv n222, AVal.str s223, iv n224, iv n225, iv n226, v227])) H221 i213) fun l228 => K (AEnd.pan l228) H212 i213) fun l229 => K (AEnd.pan l229)
 H174 i175) fun l230 => K (AEnd.pan l230) H128 i129) fun l231 => K (AEnd.pan l231) H124 i125) fun l232 => K (AEnd.pan l232) H115 i116) fun l233 => K (AEnd.pan l233) H106 i107) fun
 l234 => K (AEnd.pan l234) H95 i96) fun l235 => K (AEnd.pan l235) H78 i79) fun l236 => K (AEnd.pan l236) H41 i42) fun l237 => K (AEnd.pan l237) H30 i31) (call f_rd_name [AVal.ptr r 0] H25
 i26 fun e238 H239 i240 => onEnd e238 (fun v241 => ∃ n242 s243 n244 n245 n246, v241 = AVal.agg [iv n242, AVal.str s243, iv n244, iv n245, iv n246] ∧ call f_rd_row [AVal.ptr r 0, AVal.func
 (Fn.func 49) [AVal.ptr r 0] []] H239 i240 fun e247 H248 i249 => onEnd e247 (fun v250 => call f_rd_result [AVal.ptr r 0] H248 i249 fun e251 H252 i253 => onEnd e251 (fun v254 => ∃ n255 s256
 n257 n258 n259 v260, v254 = AVal.agg [iv n255, AVal.str s256, iv n257, iv n258, iv n259, v260] ∧ ∃ H261, H261 = newB i253 [iv 0, AVal.str [], iv 0, iv 0, iv 0, AVal.nilSlice] H252 ∧
 ∃ H262, stC H261 (AVal.ptr i253 0) [iv n255, AVal.str s256, iv n257, iv n258, iv n259, v260] = some H262 ∧ ∃ n263 s264 n265 n266 n267, ldN H262 5 (AVal.ptr i3 0) = some (AVal.agg
 [iv n263, AVal.str s264, iv n265, iv n266, iv n267]) ∧ ∃ n268 s269 n270 n271 n272 v273, ldN H262 6 (AVal.ptr i14 0) = some (AVal.agg [iv n268, AVal.str s269, iv n270, iv n271, iv
 n272, v273]) ∧ ∃ n274 s275 n276 n277 n278 v279, ldN H262 6 (AVal.ptr i253 0) = some (AVal.agg [iv n274, AVal.str s275, iv n276, iv n277, iv n278, v279]) ∧ ((∃ n280 s281 n282 n283
 n284, ldN H262 5 (AVal.ptr i3 0) = some (AVal.agg [iv n280, AVal.str s281, iv n282, iv n283, iv n284]) ∧ AVal.agg [iv n280, AVal.str s281, iv n282, iv n283, iv n284] = AVal.agg [iv
 n263, AVal.str s264, iv n265, iv n266, iv n267]) ∧ (∃ n285 s286 n287 n288 n289 v290, ldN H262 6 (AVal.ptr i14 0) = some (AVal.agg [iv n285, AVal.str s286, iv n287, iv n288, iv n289,
 v290]) ∧ AVal.agg [iv n285, AVal.str s286, iv n287, iv n288, iv n289, v290] = AVal.agg [iv n268, AVal.str s269, iv n270, iv n271, iv n272, v273]) ∧ (∃ n291 s292 n293 n294 n295 v296,
 ldN H262 6 (AVal.ptr i253 0) = some (AVal.agg [iv n291, AVal.str s292, iv n293, iv n294, iv n295, v296]) ∧ AVal.agg [iv n291, AVal.str s292, iv n293, iv n294, iv n295, v296] =
 AVal.agg [iv n274, AVal.str s275, iv n276, iv n277, iv n278, v279]) ∧ True) ∧ call f_rd_block [AVal.ptr r 0] H262 (i253 + 1 + 11) fun e297 H298 i299 => onEnd e297 (fun v300 => ∃ n301 s302
 n303 n304 n305 v306, v300 = AVal.agg [iv n301, AVal.str s302, iv n303, iv n304, iv n305, v306] ∧ ∃ H307, H307 = newB (i253 + 1 + 6) [iv n268, AVal.str s269, iv n270, iv n271, iv
 n272, v273, iv n274, AVal.str s275, iv n276, iv n277, iv n278, v279, iv n301, AVal.str s302, iv n303, iv n304, iv n305, v306] H298 ∧ ((∃ n308 s309 n310 n311 n312, ldN H307 5
 (AVal.ptr i3 0) = some (AVal.agg [iv n308, AVal.str s309, iv n310, iv n311, iv n312]) ∧ AVal.agg [iv n308, AVal.str s309, iv n310, iv n311, iv n312] = AVal.agg [iv n263, AVal.str
 s264, iv n265, iv n266, iv n267]) ∧ (∃ n313 s314 n315 n316 n317 v318, ldN H307 6 (AVal.ptr i14 0) = some (AVal.agg [iv n313, AVal.str s314, iv n315, iv n316, iv n317, v318]) ∧
 AVal.agg [iv n313, AVal.str s314, iv n315, iv n316, iv n317, v318] = AVal.agg [iv n268, AVal.str s269, iv n270, iv n271, iv n272, v273]) ∧ (∃ n319 s320 n321 n322 n323 v324, ldN H307
 6 (AVal.ptr i253 0) = some (AVal.agg [iv n319, AVal.str s320, iv n321, iv n322, iv n323, v324]) ∧ AVal.agg [iv n319, AVal.str s320, iv n321, iv n322, iv n323, v324] = AVal.agg [iv
 n274, AVal.str s275, iv n276, iv n277, iv n278, v279]) ∧ True) ∧ ∃ i325 l326, aSrc 6 H307 v250 = some (i325, l326) ∧ allCell l326 = true ∧ ∃ v327 H328 i329, appC H307 i299 6 72
 (AVal.slice (i253 + 1 + 6) 0 3 6 true) i325 l326 = some (v327, H328, i329) ∧ ((∃ n330 s331 n332 n333 n334, ldN H328 5 (AVal.ptr i3 0) = some (AVal.agg [iv n330, AVal.str s331, iv
 n332, iv n333, iv n334]) ∧ AVal.agg [iv n330, AVal.str s331, iv n332, iv n333, iv n334] = AVal.agg [iv n263, AVal.str s264, iv n265, iv n266, iv n267]) ∧ True) ∧ call f_p_node [AVal.agg
 [iv n263, AVal.str s264, iv n265, iv n266, iv n267], iv 6, AVal.str s243, v327] H328 i329 fun e335 H336 i337 => onEnd e335 (fun v338 => ∃ n339 s340 n341 n342 n343 v344, v338 =
 AVal.agg [iv n339, AVal.str s340, iv n341, iv n342, iv n343, v344] ∧ True ∧ ∃ H345, stC H336 (AVal.ptr nx 0) [iv n339, AVal.str s340, iv n341, iv n342, iv n343, v344] = some H345 ∧
 True ∧ ∃ n346 s347 n348 n349 n350 v351, ldN H345 6 (AVal.ptr nx 0) = some (AVal.agg [iv n346, AVal.str s347, iv n348, iv n349, iv n350, v351]) ∧ K (AEnd.ret (AVal.agg [iv n346,
 AVal.str s347, iv n348, iv n349, iv n350, v351])) H345 i337) fun l352 => K (AEnd.pan l352) H336 i337) fun l353 => K (AEnd.pan l353) H298 i299) fun l354 => K (AEnd.pan l354) H252
 i253) fun l355 => K (AEnd.pan l355) H248 i249) fun l356 => K (AEnd.pan l356) H239 i240)) fun l357 => K (AEnd.pan l357) H25 i26) fun l358 => K (AEnd.pan l358) H13 i14) fun l359 => K
 (AEnd.pan l359) H2 i3
theorem Frd_funcDecl_eq (call : CallP) (lp : Nat → LoopP) (lv : LeaveP) (lvc : LeaveC) (r : Nat) (H : Heap) (nx : Nat) (K : EndP) : vBody PG call lp f_rd_funcDecl [AVal.ptr r 0] H nx (endK PG lv lvc K) = Frd_funcDecl call lp lv lvc r H nx K := by kernel_rfl
def Frd_block (call : CallP) (lp : Nat → LoopP) (lv : LeaveP) (lvc : LeaveC) (r : Nat) (H : Heap) (nx : Nat) (K : EndP) : Prop :=
 ∃ H0, H0 = newB nx [iv 0, AVal.str [], iv 0, iv 0, iv 0, AVal.nilSlice] H ∧ call f_rd_now [AVal.ptr r 0] H0 (nx + 1) fun e1 H2 i3 => onEnd e1 (fun v4 => ∃ n5 s6 n7 n8 n9, v4 = AVal.agg
 [iv n5, AVal.str s6, iv n7, iv n8, iv n9] ∧ ∃ H10, H10 = newB i3 [iv 0, AVal.str [], iv 0, iv 0, iv 0] H2 ∧ ∃ H11, stC H10 (AVal.ptr i3 0) [iv n5, AVal.str s6, iv n7, iv n8, iv n9]
 = some H11 ∧ ∃ n12 s13 n14 n15 n16, ldN H11 5 (AVal.ptr i3 0) = some (AVal.agg [iv n12, AVal.str s13, iv n14, iv n15, iv n16]) ∧ ((∃ n17 s18 n19 n20 n21, ldN H11 5 (AVal.ptr i3 0) =
 some (AVal.agg [iv n17, AVal.str s18, iv n19, iv n20, iv n21]) ∧ AVal.agg [iv n17, AVal.str s18, iv n19, iv n20, iv n21] = AVal.agg [iv n12, AVal.str s13, iv n14, iv n15, iv n16]) ∧
 True) ∧ call f_rd_list [AVal.ptr r 0, AVal.func (Fn.func 61) [AVal.ptr r 0] []] H11 (i3 + 1 + 7) fun e22 H23 i24 => onEnd e22 (fun v25 => ((∃ n26 s27 n28 n29 n30, ldN H23 5 (AVal.ptr i3 0)
 = some (AVal.agg [iv n26, AVal.str s27, iv n28, iv n29, iv n30]) ∧ AVal.agg [iv n26, AVal.str s27, iv n28, iv n29, iv n30] = AVal.agg [iv n12, AVal.str s13, iv n14, iv n15, iv n16])
 ∧ True) ∧ call f_p_node [AVal.agg [iv n12, AVal.str s13, iv n14, iv n15, iv n16], iv 10, AVal.str [], v25] H23 i24 fun e31 H32 i33 => onEnd e31 (fun v34 => ∃ n35 s36 n37 n38 n39 v40, v34
 = AVal.agg [iv n35, AVal.str s36, iv n37, iv n38, iv n39, v40] ∧ True ∧ ∃ H41, stC H32 (AVal.ptr nx 0) [iv n35, AVal.str s36, iv n37, iv n38, iv n39, v40] = some H41 ∧ True ∧ ∃ n42
 s43 n44 n45 n46 v47, ldN H41 6 (AVal.ptr nx 0) = some (AVal.agg [iv n42, AVal.str s43, iv n44, iv n45, iv n46, v47]) ∧ K (AEnd.ret (AVal.agg [iv n42, AVal.str s43, iv n44, iv n45,
 iv n46, v47])) H41 i33) fun l48 => K (AEnd.pan l48) H32 i33) fun l49 => K (AEnd.pan l49) H23 i24) fun l50 => K (AEnd.pan l50) H2 i3
theorem Frd_block_eq (call : CallP) (lp : Nat → LoopP) (lv : LeaveP) (lvc : LeaveC) (r : Nat) (H : Heap) (nx : Nat) (K : EndP) : vBody PG call lp f_rd_block [AVal.ptr r 0] H nx (endK PG lv lvc K) = Frd_block call lp lv lvc r H nx K := by kernel_rfl
def Frd_stmt (call : CallP) (lp : Nat → LoopP) (lv : LeaveP) (lvc : LeaveC) (r : Nat) (H : Heap) (nx : Nat) (K : EndP) : Prop :=
 ∃ H0, H0 = newB nx [iv 0, AVal.str [], iv 0, iv 0, iv 0, AVal.nilSlice] H ∧ call f_rd_enter [AVal.ptr r 0] H0 (nx + 1) fun e1 H2 i3 => onEnd e1 (fun v4 => call f_rd_now [AVal.ptr r 0] H2 i3 fun
 e5 H6 i7 => onEnd e5 (fun v8 => ∃ n9 s10 n11 n12 n13, v8 = AVal.agg [iv n9, AVal.str s10, iv n11, iv n12, iv n13] ∧ ∃ H14, H14 = newB i7 [iv 0, AVal.str [], iv 0, iv 0, iv 0] H6 ∧ ∃
 H15, stC H14 (AVal.ptr i7 0) [iv n9, AVal.str s10, iv n11, iv n12, iv n13] = some H15 ∧ call f_rd_is [AVal.ptr r 0, AVal.str [123]] H15 (i7 + 1) fun e16 H17 i18 => onEnd e16 (fun v19 =>
 ∃ b20, v19 = AVal.bool b20 ∧ ifB b20 (call f_rd_block [AVal.ptr r 0] H17 i18 fun e21 H22 i23 => onEnd e21 (fun v24 => ∃ n25 s26 n27 n28 n29 v30, v24 = AVal.agg [iv n25, AVal.str s26, iv
 n27, iv n28, iv n29, v30] ∧ ∃ H31, stC H22 (AVal.ptr nx 0) [iv n25, AVal.str s26, iv n27, iv n28, iv n29, v30] = some H31 ∧ lvc [RVal.cell (AVal.ptr nx 0) t_node] [(66, [AVal.ptr r 0])]
 AMode.returning H31 i23 fun e32 H33 i34 => K e32 H33 i34) fun l35 => lvc [RVal.cell (AVal.ptr nx 0) t_node] [(66, [AVal.ptr r 0])] (AMode.panicking l35) H22 i23 fun e36 H37 i38 => K e36
 H37 i38) (call f_rd_has [AVal.ptr r 0, AVal.str [118, 97, 114]] H17 i18 fun e39 H40 i41 => onEnd e39 (fun v42 => ∃ b43, v42 = AVal.bool b43 ∧ ifB b43 (call f_rd_name [AVal.ptr r 0] H40 i41 fun
 e44 H45 i46 => onEnd e44 (fun v47 => ∃ n48 s49 n50 n51 n52, v47 = AVal.agg [iv n48, AVal.str s49, iv n50, iv n51, iv n52] ∧ call f_rd_typ [AVal.ptr r 0] H45 i46 fun e53 H54 i55 => onEnd
 e53 (fun v56 => ∃ n57 s58 n59 n60 n61 v62, v56 = AVal.agg [iv n57, AVal.str s58, iv n59, iv n60, iv n61, v62] ∧ ∃ H63, H63 = newB i55 [iv 0, AVal.str [], iv 0, iv 0, iv 0,
 AVal.nilSlice] H54 ∧ ∃ H64, stC H63 (AVal.ptr i55 0) [iv n57, AVal.str s58, iv n59, iv n60, iv n61, v62] = some H64 ∧ ∃ n65 s66 n67 n68 n69, ldN H64 5 (AVal.ptr i7 0) = some
 (AVal.agg [iv n65, AVal.str s66, iv n67, iv n68, iv n69]) ∧ ∃ n70 s71 n72 n73 n74 v75, ldN H64 6 (AVal.ptr i55 0) = some (AVal.agg [iv n70, AVal.str s71, iv n72, iv n73, iv n74,
 v75]) ∧ ((∃ n76 s77 n78 n79 n80, ldN H64 5 (AVal.ptr i7 0) = some (AVal.agg [iv n76, AVal.str s77, iv n78, iv n79, iv n80]) ∧ AVal.agg [iv n76, AVal.str s77, iv n78, iv n79, iv n80]
 = AVal.agg [iv n65, AVal.str s66, iv n67, iv n68, iv n69]) ∧ (∃ n81 s82 n83 n84 n85 v86, ldN H64 6 (AVal.ptr i55 0) = some (AVal.agg [iv n81, AVal.str s82, iv n83, iv n84, iv n85,
 v86]) ∧ AVal.agg [iv n81, AVal.str s82, iv n83, iv n84, iv n85, v86] = AVal.agg [iv n70, AVal.str s71, iv n72, iv n73, iv n74, v75]) ∧ True) ∧ call f_rd_maybe [AVal.ptr r 0, AVal.str [61]]
 H64 (i55 + 1 + 8) fun e87 H88 i89 => onEnd e87 (fun v90 => ∃ n91 s92 n93 n94 n95 v96, v90 = AVal.agg [iv n91, AVal.str s92, iv n93, iv n94, iv n95, v96] ∧ ∃ H97, H97 = newB (i55 + 1
 + 5) [iv n70, AVal.str s71, iv n72, iv n73, iv n74, v75, iv n91, AVal.str s92, iv n93, iv n94, iv n95, v96] H88 ∧ ((∃ n98 s99 n100 n101 n102, ldN H97 5 (AVal.ptr i7 0) = some
 (AVal.agg [iv n98, AVal.str s99, iv n100, iv n101, iv n102]) ∧ AVal.agg [iv n98, AVal.str s99, iv n100, iv n101, iv n102] = AVal.agg [iv n65, AVal.str s66, iv n67, iv n68, iv n69])
 ∧ (∃ n103 s104 n105 n106 n107 v108, ldN H97 6 (AVal.ptr i55 0) = some (AVal.agg [iv n103, AVal.str s104, iv n105, iv n106, iv n107, v108]) ∧ AVal.agg [iv n103, AVal.str s104, iv
 n105, iv n106, iv n107, v108] = AVal.agg [iv n70, AVal.str s71, iv n72, iv n73, iv n74, v75]) ∧ True) ∧ call f_p_node [AVal.agg [iv n65, AVal.str s66, iv n67, iv n68, iv n69], iv 11,
 AVal.str s49, AVal.slice (i55 + 1 + 5) 0 2 6 true] H97 i89 fun e109 H110 i111 => onEnd e109 (fun v112 => ∃ n113 s114 n115 n116 n117 v118, v112 = AVal.agg [iv n113, AVal.str s114, iv
 n115, iv n116, iv n117, v118] ∧ True ∧ ∃ H119, stC H110 (AVal.ptr nx 0) [iv n113, AVal.str s114, iv n115, iv n116, iv n117, v118] = some H119 ∧ True ∧ lvc [RVal.cell (AVal.ptr nx 0)
 27] [(66, [AVal.ptr r 0])] AMode.returning H119 i111 fun e120 H121 i122 => K e120 H121 i122) fun l123 => lvc [RVal.cell (AVal.ptr nx 0) t_node] [(66, [AVal.ptr r 0])] (AMode.panicking
 l123) H110 i111 fun e124 H125 i126 => K e124 H125 i126) fun l127 => lvc [RVal.cell (AVal.ptr nx 0) t_node] [(66, [AVal.ptr r 0])] (AMode.panicking l127) H88 i89 fun e128 H129 i130 => K
 e128 H129 i130) fun l131 => lvc [RVal.cell (AVal.ptr nx 0) t_node] [(66, [AVal.ptr r 0])] (AMode.panicking l131) H54 i55 fun e132 H133 i134 => K e132 H133 i134) fun l135 => lvc
 [RVal.cell (AVal.ptr nx 0) t_node] [(66, [AVal.ptr r 0])] (AMode.panicking l135) H45 i46 fun e136 H137 i138 => K e136 H137 i138) (call f_rd_is [AVal.ptr r 0, AVal.str [105, 102]] H40 i41 fun
 e139 H140 i141 => onEnd e139 (fun v142 => ∃ b143, v142 = AVal.bool b143 ∧ ifB b143 (call f_rd_ifs [AVal.ptr r 0] H140 i141 fun e144 H145 i146 => onEnd e144 (fun v147 => ∃ n148 s149 n150
 n151 n152 v153, v147 = AVal.agg [iv n148, AVal.str s149, iv n150, iv n151, iv n152, v153] ∧ ∃ H154, stC H145 (AVal.ptr nx 0) [iv n148, AVal.str s149, iv n150, iv n151, iv n152,
 v153] = some H154 ∧ lvc [RVal.cell (AVal.ptr nx 0) t_node] [(66, [AVal.ptr r 0])] AMode.returning H154 i146 fun e155 H156 i157 => K e155 H156 i157) fun l158 => lvc [RVal.cell (AVal.ptr
 nx 0) t_node] [(66, [AVal.ptr r 0])] (AMode.panicking l158) H145 i146 fun e159 H160 i161 => K e159 H160 i161) (call f_rd_has [AVal.ptr r 0, AVal.str [102, 111, 114]] H140 i141 fun e162 H163
 i164 => onEnd e162 (fun v165 => ∃ b166, v165 = AVal.bool b166 ∧ ifB b166 (call f_p_none [] H163 i164 fun e167 H168 i169 => onEnd e167 (fun v170 => ∃ n171 s172 n173 n174 n175 v176, v170 =
 AVal.agg [iv n171, AVal.str s172, iv n173, iv n174, iv n175, v176] ∧ ∃ H177, H177 = newB i169 [iv 0, AVal.str [], iv 0, iv 0, iv 0, AVal.nilSlice] H168 ∧ ∃ H178, stC H177 (AVal.ptr
 i169 0) [iv n171, AVal.str s172, iv n173, iv n174, iv n175, v176] = some H178 ∧ call f_rd_is [AVal.ptr r 0, AVal.str [123]] H178 (i169 + 1) fun e179 H180 i181 => onEnd e179 (fun v182 =>
 ∃ b183, v182 = AVal.bool b183 ∧ ifB (!b183) (call f_rd_expr [AVal.ptr r 0] H180 i181 fun e184 H185 i186 => onEnd e184 (fun v187 => ∃ n188 s189 n190 n191 n192 v193, v187 = AVal.agg [iv
 n188, AVal.str s189, iv n190, iv n191, iv n192, v193] ∧ ∃ H194, stC H185 (AVal.ptr i169 0) [iv n188, AVal.str s189, iv n190, iv n191, iv n192, v193] = some H194 ∧ ∃ n195 s196 n197
 n198 n199, ldN H194 5 (AVal.ptr i7 0) = some (AVal.agg [iv n195, AVal.str s196, iv n197, iv n198, iv n199]) ∧ ∃ n200 s201 n202 n203 n204 v205, ldN H194 6 (AVal.ptr i169 0) = some
 (AVal.agg [iv n200, AVal.str s201, iv n202, iv n203, iv n204, v205]) ∧ ((∃ n206 s207 n208 n209 n210, ldN H194 5 (AVal.ptr i7 0) = some (AVal.agg [iv n206, AVal.str s207, iv n208, iv
 n209, iv n210]) ∧ AVal.agg [iv n206, AVal.str s207, iv n208, iv n209, iv n210] = AVal.agg [iv n195, AVal.str s196, iv n197, iv n198, iv n199]) ∧ (∃ n211 s212 n213 n214 n215 v216,
 ldN H194 6 (AVal.ptr i169 0) = some (AVal.agg [iv n211, AVal.str s212, iv n213, iv n214, iv n215, v216]) ∧ AVal.agg [iv n211, AVal.str s212, iv n213, iv n214, iv n215, v216] =
 AVal.agg [iv n200, AVal.str s201, iv n202, iv n203, iv n204, v205]) ∧ True) ∧ call f_rd_block [AVal.ptr r 0] H194 (i186 + 7) fun e217 H218 i219 => onEnd e217 (fun v220 => ∃ n221 s222 n223
 n224 n225 v226, v220 = AVal.agg [iv n221, AVal.str s222, iv n223, iv n224, iv n225, v226] ∧ ∃ H227, H227 = newB (i186 + 4) [iv n200, AVal.str s201, iv n202, iv n203, iv n204, v205,
 iv n221, AVal.str s222, iv n223, iv n224, iv n225, v226] H218 ∧ ((∃ n228 s229 n230 n231 n232, ldN H227 5 (AVal.ptr i7 0) = some (AVal.agg [iv n228, AVal.str s229, iv n230, iv n231,
 iv n232]) ∧ AVal.agg [iv n228, AVal.str s229, iv n230, iv n231, iv n232] = AVal.agg [iv n195, AVal.str s196, iv n197, iv n198, iv n199]) ∧ (∃ n233 s234 n235 n236 n237 v238, ldN H227
 6 (AVal.ptr i169 0) = some (AVal.agg [iv n233, AVal.str s234, iv n235, iv n236, iv n237, v238]) ∧ AVal.agg [iv n233, AVal.str s234, iv n235, iv n236, iv n237, v238] = AVal.agg [iv
 n200, AVal.str s201, iv n202, iv n203, iv n204, v205]) ∧ True) ∧ call f_p_node [AVal.agg [iv n195, AVal.str s196, iv n197, iv n198, iv n199], iv 15, AVal.str [], AVal.slice (i186 + 4) 0 2
 6 true] H227 i219 fun e239 H240 i241 => onEnd e239 (fun v242 => ∃ n243 s244 n245 n246 n247 v248, v242 = AVal.agg [iv n243, AVal.str s244, iv n245, iv n246, iv n247, v248] ∧ True ∧ ∃
 H249, stC H240 (AVal.ptr nx 0) [iv n243, AVal.str s244, iv n245, iv n246, iv n247, v248] = some H249 ∧ True ∧ lvc [RVal.cell (AVal.ptr nx 0) t_node] [(66, [AVal.ptr r 0])]
 AMode.returning H249 i241 fun e250 H251 i252 => K e250 H251 i252) fun l253 => lvc [RVal.cell (AVal.ptr nx 0) t_node] [(66, [AVal.ptr r 0])] (AMode.panicking l253) H240 i241 fun e254
 H255 i256 => K e254 H255 i256) fun l257 => lvc [RVal.cell (AVal.ptr nx 0) t_node] [(66, [AVal.ptr r 0])] (AMode.panicking l257) H218 i219 fun e258 H259 i260 => K e258 H259 i260) fun
 l261 => lvc [RVal.cell (AVal.ptr nx 0) t_node] [(66, [AVal.ptr r 0])] (AMode.panicking l261) H185 i186 fun e262 H263 i264 => K e262 H263 i264) (∃ n265 s266 n267 n268 n269, ldN H180 5
 (AVal.ptr i7 0) = some (AVal.agg [iv n265, AVal.str s266, iv n267, iv n268, iv n269]) ∧ ∃ n270 s271 n272 n273 n274 v275, ldN H180 6 (AVal.ptr i169 0) = some (AVal.agg [iv n270,
 AVal.str s271, iv n272, iv n273, iv n274, v275]) ∧ ((∃ n276 s277 n278 n279 n280, ldN H180 5 (AVal.ptr i7 0) = some (AVal.agg [iv n276, AVal.str s277, iv n278, iv n279, iv n280]) ∧
 AVal.agg [iv n276, AVal.str s277, iv n278, iv n279, iv n280] = AVal.agg [iv n265, AVal.str s266, iv n267, iv n268, iv n269]) ∧ (∃ n281 s282 n283 n284 n285 v286, ldN H180 6 (AVal.ptr
 i169 0) = some (AVal.agg [iv n281, AVal.str s282, iv n283, iv n284, iv n285, v286]) ∧ AVal.agg [iv n281, AVal.str s282, iv n283, iv n284, iv n285, v286] = AVal.agg [iv n270,
 AVal.str s271, iv n272, iv n273, iv n274, v275]) ∧ True) ∧ call f_rd_block [AVal.ptr r 0] H180 (i181 + 7) fun e287 H288 i289 => onEnd e287 (fun v290 => ∃ n291 s292 n293 n294 n295 v296, v290
 = AVal.agg [iv n291, AVal.str s292, iv n293, iv n294, iv n295, v296] ∧ ∃ H297, H297 = newB (i181 + 4) [iv n270, AVal.str s271, iv n272, iv n273, iv n274, v275, iv n291, AVal.str
 s292, iv n293, iv n294, iv n295, v296] H288 ∧ ((∃ n298 s299 n300 n301 n302, ldN H297 5 (AVal.ptr i7 0) = some (AVal.agg [iv n298, AVal.str s299, iv n300, iv n301, iv n302]) ∧
 AVal.agg [iv n298, AVal.str s299, iv n300, iv n301, iv n302] = AVal.agg [iv n265, AVal.str s266, iv n267, iv n268, iv n269]) ∧ (∃ n303 s304 n305 n306 n307 v308, ldN H297 6 (AVal.ptr
 i169 0) = some (AVal.agg [iv n303, AVal.str s304, iv n305, iv n306, iv n307, v308]) ∧ AVal.agg [iv n303, AVal.str s304, iv n305, iv n306, iv n307, v308] = AVal.agg [iv n270,
 AVal.str s271, iv n272, iv n273, iv n274, v275]) ∧ True) ∧ call f_p_node [AVal.agg [iv n265, AVal.str s266, iv n267, iv n268, iv n269], iv 15, AVal.str [], AVal.slice (i181 + 4) 0 2 6
 true] H297 i289 fun e309 H310 i311 => onEnd e309 (fun v312 => ∃ n313 s314 n315 n316 n317 v318, v312 = AVal.agg [iv n313, AVal.str s314, iv n315, iv n316, iv n317, v318] ∧ True ∧ ∃
 H319, stC H310 (AVal.ptr nx 0) [iv n313, AVal.str s314, iv n315, iv n316, iv n317, v318] = some H319 ∧ True ∧ lvc [RVal.cell (AVal.ptr nx 0) t_node] [(66, [AVal.ptr r 0])]
 AMode.returning H319 i311 fun e320 H321 i322 => K e320 H321 i322) fun l323 => lvc [RVal.cell (AVal.ptr nx 0) t_node] [(66, [AVal.ptr r 0])] (AMode.panicking l323) H310 i311 fun e324
 H325 i326 => K e324 H325 i326) fun l327 => lvc [RVal.cell (AVal.ptr nx 0) t_node] [(66, [AVal.ptr r 0])] (AMode.panicking l327) H288 i289 fun e328 H329 i330 => K e328 H329 i330)) fun
 l331 => lvc [RVal.cell (AVal.ptr nx 0) t_node] [(66, [AVal.ptr r 0])] (AMode.panicking l331) H180 i181 fun e332 H333 i334 => K e332 H333 i334) fun l335 => lvc [RVal.cell (AVal.ptr nx 0)
 27] [(66, [AVal.ptr r 0])] (AMode.panicking l335) H168 i169 fun e336 H337 i338 => K e336 H337 i338) (call f_rd_has [AVal.ptr r 0, AVal.str [98, 114, 101, 97, 107]] H163 i164 fun e339 H340
 i341 => onEnd e339 (fun v342 => ∃ b343, v342 = AVal.bool b343 ∧ ifB b343 (∃ n344 s345 n346 n347 n348, ldN H340 5 (AVal.ptr i7 0) = some (AVal.agg [iv n344, AVal.str s345, iv n346,
 iv n347, iv n348]) ∧ call f_p_node [AVal.agg [iv n344, AVal.str s345, iv n346, iv n347, iv n348], iv 16, AVal.str [], AVal.nilSlice] H340 i341 fun e349 H350 i351 => onEnd e349 (fun v352
 => ∃ n353 s354 n355 n356 n357 v358, v352 = AVal.agg [iv n353, AVal.str s354, iv n355, iv n356, iv n357, v358] ∧ ∃ H359, stC H350 (AVal.ptr nx 0) [iv n353, AVal.str s354, iv n355, iv
 n356, iv n357, v358] = some H359 ∧ lvc [RVal.cell (AVal.ptr nx 0) t_node] [(66, [AVal.ptr r 0])] AMode.returning H359 i351 fun e360 H361 i362 => K e360 H361 i362) fun l363 => lvc
 [RVal.cell (AVal.ptr nx 0) t_node] [(66, [AVal.ptr r 0])] (AMode.panicking l363) H350 i351 fun e364 H365 i366 => K e364 H365 i366) (call f_rd_has [AVal.ptr r 0, AVal.str [99, 111, 110, 116,
 105, 110, 117, 101]] H340 i341 fun e367 H368 i369 => onEnd e367 (fun v370 => ∃ b371, v370 = AVal.bool b371 ∧ ifB b371 (∃ n372 s373 n374 n375 n376, ldN H368 5 (AVal.ptr i7 0) = some
 (AVal.agg [iv n372, AVal.str s373, iv n374, iv n375, iv n376]) ∧ call f_p_node [AVal.agg [iv n372, AVal.str s373, iv n374, iv n375, iv n376], iv 17, AVal.str [], AVal.nilSlice] H368 i369
 fun e377 H378 i379 => onEnd e377 (fun v380 => ∃ n381 s382 n383 n384 n385 v386, v380 = AVal.agg [iv n381, AVal.str s382, iv n383, iv n384, iv n385, v386] ∧ ∃ H387, stC H378 (AVal.ptr
 nx 0) [iv n381, AVal.str s382, iv n383, iv n384, iv n385, v386] = some H387 ∧ lvc [RVal.cell (AVal.ptr nx 0) t_node] [(66, [AVal.ptr r 0])] AMode.returning H387 i379 fun e388 H389 i390
 => K e388 H389 i390) fun l391 => lvc [RVal.cell (AVal.ptr nx 0) t_node] [(66, [AVal.ptr r 0])] (AMode.panicking l391) H378 i379 fun e392 H393 i394 => K e392 H393 i394) (call 42
 [AVal.ptr r 0, AVal.str [114, 101, 116, 117, 114, 110]] H368 i369 fun e395 H396 i397 => onEnd e395 (fun v398 => ∃ b399, v398 = AVal.bool b399 ∧ ifB b399 (call f_rd_is [AVal.ptr r 0,
 AVal.str [59]] H396 i397 fun e400 H401 i402 => onEnd e400 (fun v403 => ∃ b404, v403 = AVal.bool b404 ∧ ifB b404 (∃ n405 s406 n407 n408 n409, ldN H401 5 (AVal.ptr i7 0) = some
 (AVal.agg [iv n405, AVal.str s406, iv n407, iv n408, iv n409]) ∧ ((∃ n410 s411 n412 n413 n414, ldN H401 5 (AVal.ptr i7 0) = some (AVal.agg [iv n410, AVal.str s411, iv n412, iv n413,
 iv n414]) ∧ AVal.agg [iv n410, AVal.str s411, iv n412, iv n413, iv n414] = AVal.agg [iv n405, AVal.str s406, iv n407, iv n408, iv n409]) ∧ True) ∧ call f_p_none [] H401 (i402 + 5) fun
 e415 H416 i417 => onEnd e415 (fun v418 => ∃ n419 s420 n421 n422 n423 v424, v418 = AVal.agg [iv n419, AVal.str s420, iv n421, iv n422, iv n423, v424] ∧ ∃ H425, H425 = newB (i402 + 2)
 [iv n419, AVal.str s420, iv n421, iv n422, iv n423, v424] H416 ∧ ((∃ n426 s427 n428 n429 n430, ldN H425 5 (AVal.ptr i7 0) = some (AVal.agg [iv n426, AVal.str s427, iv n428, iv n429,
 iv n430]) ∧ AVal.agg [iv n426, AVal.str s427, iv n428, iv n429, iv n430] = AVal.agg [iv n405, AVal.str s406, iv n407, iv n408, iv n409]) ∧ True) ∧ call f_p_node [AVal.agg [iv n405,
 AVal.str s406, iv n407, iv n408, iv n409], iv 18, AVal.str [], AVal.slice (i402 + 2) 0 1 6 true] H425 i417 fun e431 H432 i433 => onEnd e431 (fun v434 => ∃ n435 s436 n437 n438 n439
 v440, v434 = AVal.agg [iv n435, AVal.str s436, iv n437, iv n438, iv n439, v440] ∧ True ∧ ∃ H441, stC H432 (AVal.ptr nx 0) [iv n435, AVal.str s436, iv n437, iv n438, iv n439, v440] =
 some H441 ∧ True ∧ lvc [RVal.cell (AVal.ptr nx 0) t_node] [(66, [AVal.ptr r 0])] AMode.returning H441 i433 fun e442 H443 i444 => K e442 H443 i444) fun l445 => lvc [RVal.cell (AVal.ptr
 nx 0) t_node] [(66, [AVal.ptr r 0])] (AMode.panicking l445) H432 i433 fun e446 H447 i448 => K e446 H447 i448) fun l449 => lvc [RVal.cell (AVal.ptr nx 0) t_node] [(66, [AVal.ptr r 0])]
 (AMode.panicking l449) H416 i417 fun e450 H451 i452 => K e450 H451 i452) (call f_rd_is [AVal.ptr r 0, AVal.str [125]] H401 i402 fun e453 H454 i455 => onEnd e453 (fun v456 => ∃ b457, v456
 = AVal.bool b457 ∧ ifB b457 (∃ n458 s459 n460 n461 n462, ldN H454 5 (AVal.ptr i7 0) = some (AVal.agg [iv n458, AVal.str s459, iv n460, iv n461, iv n462]) ∧ ((∃ n463 s464 n465 n466
 n467, ldN H454 5 (AVal.ptr i7 0) = some (AVal.agg [iv n463, AVal.str s464, iv n465, iv n466, iv n467]) ∧ AVal.agg [iv n463, AVal.str s464, iv n465, iv n466, iv n467] = AVal.agg [iv
 n458, AVal.str s459, iv n460, iv n461, iv n462]) ∧ True) ∧ call f_p_none [] H454 (i455 + 5) fun e468 H469 i470 => onEnd e468 (fun v471 => ∃ n472 s473 n474 n475 n476 v477, v471 = AVal.agg
 [iv n472, AVal.str s473, iv n474, iv n475, iv n476, v477] ∧ ∃ H478, H478 = newB (i455 + 2) [iv n472, AVal.str s473, iv n474, iv n475, iv n476, v477] H469 ∧ ((∃ n479 s480 n481 n482
 n483, ldN H478 5 (AVal.ptr i7 0) = some (AVal.agg [iv n479, AVal.str s480, iv n481, iv n482, iv n483]) ∧ AVal.agg [iv n479, AVal.str s480, iv n481, iv n482, iv n483] = AVal.agg [iv
 n458, AVal.str s459, iv n460, iv n461, iv n462]) ∧ True) ∧ call f_p_node [AVal.agg [iv n458, AVal.str s459, iv n460, iv n461, iv n462], iv 18, AVal.str [], AVal.slice (i455 + 2) 0 1 6
 true] H478 i470 fun e484 H485 i486 => onEnd e484 (fun v487 => ∃ n488 s489 n490 n491 n492 v493, v487 = AVal.agg [iv n488, AVal.str s489, iv n490, iv n491, iv n492, v493] ∧ True ∧ ∃
 H494, stC H485 (AVal.ptr nx 0) [iv n488, AVal.str s489, iv n490, iv n491, iv n492, v493] = some H494 ∧ True ∧ lvc [RVal.cell (AVal.ptr nx 0) t_node] [(66, [AVal.ptr r 0])]
 AMode.returning H494 i486 fun e495 H496 i497 => K e495 H496 i497) fun l498 => lvc [RVal.cell (AVal.ptr nx 0) t_node] [(66, [AVal.ptr r 0])] (AMode.panicking l498) H485 i486 fun e499
 H500 i501 => K e499 H500 i501) fun l502 => lvc [RVal.cell (AVal.ptr nx 0) t_node] [(66, [AVal.ptr r 0])] (AMode.panicking l502) H469 i470 fun e503 H504 i505 => K e503 H504 i505) (∃ n506
 s507 n508 n509 n510, ldN H454 5 (AVal.ptr i7 0) = some (AVal.agg [iv n506, AVal.str s507, iv n508, iv n509, iv n510]) ∧ ((∃ n511 s512 n513 n514 n515, ldN H454 5 (AVal.ptr i7 0) =
 some (AVal.agg [iv n511, AVal.str s512, iv n513, iv n514, iv n515]) ∧ AVal.agg [iv n511, AVal.str s512, iv n513, iv n514, iv n515] = AVal.agg [iv n506, AVal.str s507, iv n508, iv
 n509, iv n510]) ∧ True) ∧ call f_rd_expr [AVal.ptr r 0] H454 (i455 + 6) fun e516 H517 i518 => onEnd e516 (fun v519 => ∃ n520 s521 n522 n523 n524 v525, v519 = AVal.agg [iv n520, AVal.str
 s521, iv n522, iv n523, iv n524, v525] ∧ ∃ H526, H526 = newB (i455 + 3) [iv n520, AVal.str s521, iv n522, iv n523, iv n524, v525] H517 ∧ ((∃ n527 s528 n529 n530 n531, ldN H526 5
 (AVal.ptr i7 0) = some (AVal.agg [iv n527, AVal.str s528, iv n529, iv n530, iv n531]) ∧ AVal.agg [iv n527, AVal.str s528, iv n529, iv n530, iv n531] = AVal.agg [iv n506, AVal.str
 s507, iv n508, iv n509, iv n510]) ∧ True) ∧ call f_p_node [AVal.agg [iv n506, AVal.str s507, iv n508, iv n509, iv n510], iv 18, AVal.str [], AVal.slice (i455 + 3) 0 1 6 true] H526 i518
 fun e532 H533 i534 => onEnd e532 (fun v535 => ∃ n536 s537 n538 n539 n540 v541, v535 = AVal.agg [iv n536, AVal.str s537, iv n538, iv n539, iv n540, v541] ∧ True ∧ ∃ H542, stC H533
 (AVal.ptr nx 0) [iv n536, AVal.str s537, iv n538, iv n539, iv n540, v541] = some H542 ∧ True ∧ lvc [RVal.cell (AVal.ptr nx 0) t_node] [(66, [AVal.ptr r 0])] AMode.returning H542 i534
 fun e543 H544 i545 => K e543 H544 i545) fun l546 => lvc [RVal.cell (AVal.ptr nx 0) t_node] [(66, [AVal.ptr r 0])] (AMode.panicking l546) H533 i534 fun e547 H548 i549 => K e547 H548
 i549) fun l550 => lvc [RVal.cell (AVal.ptr nx 0) t_node] [(66, [AVal.ptr r 0])] (AMode.panicking l550) H517 i518 fun e551 H552 i553 => K e551 H552 i553)) fun l554 => lvc [RVal.cell
 (AVal.ptr nx 0) 27] [(66, [AVal.ptr r 0])] (AMode.panicking l554) H454 i455 fun e555 H556 i557 => K e555 H556 i557)) fun l558 => lvc [RVal.cell (AVal.ptr nx 0) t_node] [(66, [AVal.ptr r
 0])] (AMode.panicking l558) H401 i402 fun e559 H560 i561 => K e559 H560 i561) (call f_rd_has [AVal.ptr r 0, AVal.str [112, 114, 105, 110, 116]] H396 i397 fun e562 H563 i564 => onEnd e562
 (fun v565 => ∃ b566, v565 = AVal.bool b566 ∧ ifB b566 (call f_rd_need [AVal.ptr r 0, AVal.str [40]] H563 i564 fun e567 H568 i569 => onEnd e567 (fun v570 => ∃ n571 s572 n573 n574 n575, v570
 = AVal.agg [iv n571, AVal.str s572, iv n573, iv n574, iv n575] ∧ call f_rd_expr [AVal.ptr r 0] H568 i569 fun e576 H577 i578 => onEnd e576 (fun v579 => ∃ n580 s581 n582 n583 n584 v585, v579
 = AVal.agg [iv n580, AVal.str s581, iv n582, iv n583, iv n584, v585] ∧ ∃ H586, H586 = newB i578 [iv 0, AVal.str [], iv 0, iv 0, iv 0, AVal.nilSlice] H577 ∧ ∃ H587, stC H586
 (AVal.ptr i578 0) [iv n580, AVal.str s581, iv n582, iv n583, iv n584, v585] = some H587 ∧ call f_rd_need [AVal.ptr r 0, AVal.str [41]] H587 (i578 + 1) fun e588 H589 i590 => onEnd e588 (fun
 v591 => ∃ n592 s593 n594 n595 n596, v591 = AVal.agg [iv n592, AVal.str s593, iv n594, iv n595, iv n596] ∧ ∃ n597 s598 n599 n600 n601, ldN H589 5 (AVal.ptr i7 0) = some (AVal.agg [iv
 n597, AVal.str s598, iv n599, iv n600, iv n601]) ∧ ∃ n602 s603 n604 n605 n606 v607, ldN H589 6 (AVal.ptr i578 0) = some (AVal.agg [iv n602, AVal.str s603, iv n604, iv n605, iv n606,
 v607]) ∧ ∃ H608, H608 = newB i590 [iv n602, AVal.str s603, iv n604, iv n605, iv n606, v607] H589 ∧ call f_p_node [AVal.agg [iv n597, AVal.str s598, iv n599, iv n600, iv n601], iv 20,
 AVal.str [], AVal.slice i590 0 1 6 true] H608 (i590 + 1) fun e609 H610 i611 => onEnd e609 (fun v612 => ∃ n613 s614 n615 n616 n617 v618, v612 = AVal.agg [iv n613, AVal.str s614, iv
 n615, iv n616, iv n617, v618] ∧ ∃ H619, stC H610 (AVal.ptr nx 0) [iv n613, AVal.str s614, iv n615, iv n616, iv n617, v618] = some H619 ∧ lvc [RVal.cell (AVal.ptr nx 0) t_node] [(66,
 [AVal.ptr r 0])] AMode.returning H619 i611 fun e620 H621 i622 => K e620 H621 i622) fun l623 => lvc [RVal.cell (AVal.ptr nx 0) t_node] [(66, [AVal.ptr r 0])] (AMode.panicking l623) H610
 i611 fun e624 H625 i626 => K e624 H625 i626) fun l627 => lvc [RVal.cell (AVal.ptr nx 0) t_node] [(66, [AVal.ptr r 0])] (AMode.panicking l627) H589 i590 fun e628 H629 i630 => K e628 H629
 i630) fun l631 => lvc [RVal.cell (AVal.ptr nx 0) t_node] [(66, [AVal.ptr r 0])] (AMode.panicking l631) H577 i578 fun e632 H633 i634 => K e632 H633 i634) fun l635 => lvc [RVal.cell
 (AVal.ptr nx 0) 27] [(66, [AVal.ptr r 0])] (AMode.panicking l635) H568 i569 fun e636 H637 i638 => K e636 H637 i638) (call f_rd_simple [AVal.ptr r 0] H563 i564 fun e639 H640 i641 => onEnd
 e639 (fun v642 => ∃ n643 s644 n645 n646 n647 v648, v642 = AVal.agg [iv n643, AVal.str s644, iv n645, iv n646, iv n647, v648] ∧ ∃ H649, stC H640 (AVal.ptr nx 0) [iv n643, AVal.str
 s644, iv n645, iv n646, iv n647, v648] = some H649 ∧ lvc [RVal.cell (AVal.ptr nx 0) t_node] [(66, [AVal.ptr r 0])] AMode.returning H649 i641 fun e650 H651 i652 => K e650 H651 i652) fun
 l653 => lvc [RVal.cell (AVal.ptr nx 0) t_node] [(66, [AVal.ptr r 0])] (AMode.panicking l653) H640 i641 fun e654 H655 i656 => K e654 H655 i656)) fun l657 => lvc [RVal.cell (AVal.ptr nx
 0) t_node] [(66, [AVal.ptr r 0])] (AMode.panicking l657) H563 i564 fun e658 H659 i660 => K e658 H659 i660)) fun l661 => lvc [RVal.cell (AVal.ptr nx 0) t_node] [(66, [AVal.ptr r 0])]
 (AMode.panicking l661) H396 i397 fun e662 H663 i664 => K e662 H663 i664)) fun l665 => lvc [RVal.cell (AVal.ptr nx 0) t_node] [(66, [AVal.ptr r 0])] (AMode.panicking l665) H368 i369 fun
 e666 H667 i668 => K e666 H667 i668)) fun l669 => lvc [RVal.cell (AVal.ptr nx 0) t_node] [(66, [AVal.ptr r 0])] (AMode.panicking l669) H340 i341 fun e670 H671 i672 => K e670 H671 i672))
 fun l673 => lvc [RVal.cell (AVal.ptr nx 0) t_node] [(66, [AVal.ptr r 0])] (AMode.panicking l673) H163 i164 fun e674 H675 i676 => K e674 H675 i676)) fun l677 => lvc [RVal.cell (AVal.ptr
 nx 0) t_node] [(66, [AVal.ptr r 0])] (AMode.panicking l677) H140 i141 fun e678 H679 i680 => K e678 H679 i680)) fun l681 => lvc [RVal.cell (AVal.ptr nx 0) t_node] [(66, [AVal.ptr r 0])]
 (AMode.panicking l681) H40 i41 fun e682 H683 i684 => K e682 H683 i684)) fun l685 => lvc [RVal.cell (AVal.ptr nx 0) t_node] [(66, [AVal.ptr r 0])] (AMode.panicking l685) H17 i18 fun e686
 H687 i688 => K e686 H687 i688) fun l689 => lvc [RVal.cell (AVal.ptr nx 0) t_node] [(66, [AVal.ptr r 0])] (AMode.panicking l689) H6 i7 fun e690 H691 i692 => K e690 H691 i692) fun l693 =>
 K (AEnd.pan l693) H2 i3
theorem Frd_stmt_eq (call : CallP) (lp : Nat → LoopP) (lv : LeaveP) (lvc : LeaveC) (r : Nat) (H : Heap) (nx : Nat) (K : EndP) : vBody PG call lp f_rd_stmt [AVal.ptr r 0] H nx (endK PG lv lvc K) = Frd_stmt call lp lv lvc r H nx K := by kernel_rfl
def Frd_ifs (call : CallP) (lp : Nat → LoopP) (lv : LeaveP) (lvc : LeaveC) (r : Nat) (H : Heap) (nx : Nat) (K : EndP) : Prop :=
 ∃ H0, H0 = newB nx [iv 0, AVal.str [], iv 0, iv 0, iv 0, AVal.nilSlice] H ∧ call f_rd_need [AVal.ptr r 0, AVal.str [105, 102]] H0 (nx + 1) fun e1 H2 i3 => onEnd e1 (fun v4 => ∃ n5 s6 n7 n8
 n9, v4 = AVal.agg [iv n5, AVal.str s6, iv n7, iv n8, iv n9] ∧ ∃ H10, H10 = newB i3 [iv 0, AVal.str [], iv 0, iv 0, iv 0] H2 ∧ ∃ H11, stC H10 (AVal.ptr i3 0) [iv n5, AVal.str s6, iv
 n7, iv n8, iv n9] = some H11 ∧ call f_rd_expr [AVal.ptr r 0] H11 (i3 + 1) fun e12 H13 i14 => onEnd e12 (fun v15 => ∃ n16 s17 n18 n19 n20 v21, v15 = AVal.agg [iv n16, AVal.str s17, iv n18,
 iv n19, iv n20, v21] ∧ ∃ H22, H22 = newB i14 [iv 0, AVal.str [], iv 0, iv 0, iv 0, AVal.nilSlice] H13 ∧ ∃ H23, stC H22 (AVal.ptr i14 0) [iv n16, AVal.str s17, iv n18, iv n19, iv
 n20, v21] = some H23 ∧ call f_rd_block [AVal.ptr r 0] H23 (i14 + 1) fun e24 H25 i26 => onEnd e24 (fun v27 => ∃ n28 s29 n30 n31 n32 v33, v27 = AVal.agg [iv n28, AVal.str s29, iv n30, iv n31,
 iv n32, v33] ∧ ∃ H34, H34 = newB i26 [iv 0, AVal.str [], iv 0, iv 0, iv 0, AVal.nilSlice] H25 ∧ ∃ H35, stC H34 (AVal.ptr i26 0) [iv n28, AVal.str s29, iv n30, iv n31, iv n32, v33] =
 some H35 ∧ call f_p_none [] H35 (i26 + 1) fun e36 H37 i38 => onEnd e36 (fun v39 => ∃ n40 s41 n42 n43 n44 v45, v39 = AVal.agg [iv n40, AVal.str s41, iv n42, iv n43, iv n44, v45] ∧ ∃ H46,
 H46 = newB i38 [iv 0, AVal.str [], iv 0, iv 0, iv 0, AVal.nilSlice] H37 ∧ ∃ H47, stC H46 (AVal.ptr i38 0) [iv n40, AVal.str s41, iv n42, iv n43, iv n44, v45] = some H47 ∧ call 42
 [AVal.ptr r 0, AVal.str [101, 108, 115, 101]] H47 (i38 + 1) fun e48 H49 i50 => onEnd e48 (fun v51 => ∃ b52, v51 = AVal.bool b52 ∧ ifB b52 (call f_rd_is [AVal.ptr r 0, AVal.str [105,
 102]] H49 i50 fun e53 H54 i55 => onEnd e53 (fun v56 => ∃ b57, v56 = AVal.bool b57 ∧ ifB b57 (call f_rd_nested [AVal.ptr r 0] H54 i55 fun e58 H59 i60 => onEnd e58 (fun v61 => ∃ n62 s63 n64
 n65 n66 v67, v61 = AVal.agg [iv n62, AVal.str s63, iv n64, iv n65, iv n66, v67] ∧ ∃ H68, stC H59 (AVal.ptr i38 0) [iv n62, AVal.str s63, iv n64, iv n65, iv n66, v67] = some H68 ∧ ∃
 n69 s70 n71 n72 n73, ldN H68 5 (AVal.ptr i3 0) = some (AVal.agg [iv n69, AVal.str s70, iv n71, iv n72, iv n73]) ∧ ∃ n74 s75 n76 n77 n78 v79, ldN H68 6 (AVal.ptr i14 0) = some
 (AVal.agg [iv n74, AVal.str s75, iv n76, iv n77, iv n78, v79]) ∧ ∃ n80 s81 n82 n83 n84 v85, ldN H68 6 (AVal.ptr i26 0) = some (AVal.agg [iv n80, AVal.str s81, iv n82, iv n83, iv
 n84, v85]) ∧ ∃ n86 s87 n88 n89 n90 v91, ldN H68 6 (AVal.ptr i38 0) = some (AVal.agg [iv n86, AVal.str s87, iv n88, iv n89, iv n90, v91]) ∧ ∃ H92, H92 = newB i60 [iv n74, AVal.str
 s75, iv n76, iv n77, iv n78, v79, iv n80, AVal.str s81, iv n82, iv n83, iv n84, v85, iv n86, AVal.str s87, iv n88, iv n89, iv n90, v91] H68 ∧ call f_p_node [AVal.agg [iv n69, AVal.str
 s70, iv n71, iv n72, iv n73], iv 14, AVal.str [], AVal.slice i60 0 3 6 true] H92 (i60 + 1) fun e93 H94 i95 => onEnd e93 (fun v96 => ∃ n97 s98 n99 n100 n101 v102, v96 = AVal.agg [iv
 n97, AVal.str s98, iv n99, iv n100, iv n101, v102] ∧ ∃ H103, stC H94 (AVal.ptr nx 0) [iv n97, AVal.str s98, iv n99, iv n100, iv n101, v102] = some H103 ∧ ∃ n104 s105 n106 n107 n108
 v109, ldN H103 6 (AVal.ptr nx 0) = some (AVal.agg [iv n104, AVal.str s105, iv n106, iv n107, iv n108, v109]) ∧ K (AEnd.ret (AVal.agg [iv n104, AVal.str s105, iv n106, iv n107, iv
 n108, v109])) H103 i95) fun l110 => K (AEnd.pan l110) H94 i95) fun l111 => K (AEnd.pan l111) H59 i60) (call f_rd_is [AVal.ptr r 0, AVal.str [123]] H54 i55 fun e112 H113 i114 => onEnd
 e112 (fun v115 => ∃ b116, v115 = AVal.bool b116 ∧ ifB b116 (call f_rd_block [AVal.ptr r 0] H113 i114 fun e117 H118 i119 => onEnd e117 (fun v120 => ∃ n121 s122 n123 n124 n125 v126, v120 =
 AVal.agg [iv n121, AVal.str s122, iv n123, iv n124, iv n125, v126] ∧ ∃ H127, stC H118 (AVal.ptr i38 0) [iv n121, AVal.str s122, iv n123, iv n124, iv n125, v126] = some H127 ∧ ∃ n128
 s129 n130 n131 n132, ldN H127 5 (AVal.ptr i3 0) = some (AVal.agg [iv n128, AVal.str s129, iv n130, iv n131, iv n132]) ∧ ∃ n133 s134 n135 n136 n137 v138, ldN H127 6 (AVal.ptr i14 0)
 = some (AVal.agg [iv n133, AVal.str s134, iv n135, iv n136, iv n137, v138]) ∧ ∃ n139 s140 n141 n142 n143 v144, ldN H127 6 (AVal.ptr i26 0) = some (AVal.agg [iv n139, AVal.str s140,
 iv n141, iv n142, iv n143, v144]) ∧ ∃ n145 s146 n147 n148 n149 v150, ldN H127 6 (AVal.ptr i38 0) = some (AVal.agg [iv n145, AVal.str s146, iv n147, iv n148, iv n149, v150]) ∧ ∃
 H151, H151 = newB i119 [iv n133, AVal.str s134, iv n135, iv n136, iv n137, v138, iv n139, AVal.str s140, iv n141, iv n142, iv n143, v144, iv n145, AVal.str s146, iv n147, iv n148,
 iv n149, v150] H127 ∧ call f_p_node [AVal.agg [iv n128, AVal.str s129, iv n130, iv n131, iv n132], iv 14, AVal.str [], AVal.slice i119 0 3 6 true] H151 (i119 + 1) fun e152 H153 i154 =>
 onEnd e152 (fun v155 => ∃ n156 s157 n158 n159 n160 v161, v155 = AVal.agg [iv n156, AVal.str s157, iv n158, iv n159, iv n160, v161] ∧ ∃ H162, stC H153 (AVal.ptr nx 0) [iv n156,
 AVal.str s157, iv n158, iv n159, iv n160, v161] = some H162 ∧ ∃ n163 s164 n165 n166 n167 v168, ldN H162 6 (AVal.ptr nx 0) = some (AVal.agg [iv n163, AVal.str s164, iv n165, iv n166,
 iv n167, v168]) ∧ K (AEnd.ret (AVal.agg [iv n163, AVal.str s164, iv n165, iv n166, iv n167, v168])) H162 i154) fun l169 => K (AEnd.pan l169) H153 i154) fun l170 => K (AEnd.pan l170)
 H118 i119) (call f_rd_fault [AVal.ptr r 0, iv 13] H113 i114 fun e171 H172 i173 => onEnd e171 (fun v174 => ∃ n175 s176 n177 n178 n179, ldN H172 5 (AVal.ptr i3 0) = some (AVal.agg [iv n175,
 AVal.str s176, iv n177, iv n178, iv n179]) ∧ ∃ n180 s181 n182 n183 n184 v185, ldN H172 6 (AVal.ptr i14 0) = some (AVal.agg [iv n180, AVal.str s181, iv n182, iv n183, iv n184, v185])
 ∧ ∃ n186 s187 n188 n189 n190 v191, ldN H172 6 (AVal.ptr i26 0) = some (AVal.agg [iv n186, AVal.str s187, iv n188, iv n189, iv n190, v191]) ∧ ∃ n192 s193 n194 n195 n196 v197, ldN
 H172 6 (AVal.ptr i38 0) = some (AVal.agg [iv n192, AVal.str s193, iv n194, iv n195, iv n196, v197]) ∧ ∃ H198, H198 = newB i173 [iv n180, AVal.str s181, iv n182, iv n183, iv n184,
 v185, iv n186, AVal.str s187, iv n188, iv n189, iv n190, v191, iv n192, AVal.str s193, iv n194, iv n195, iv n196, v197] H172 ∧ call f_p_node [AVal.agg [iv n175, AVal.str s176, iv n177, iv
 n178, iv n179], iv 14, AVal.str [], AVal.slice i173 0 3 6 true] H198 (i173 + 1) fun e199 H200 i201 => onEnd e199 (fun v202 => ∃ n203 s204 n205 n206 n207 v208, v202 = AVal.agg [iv
 n203, AVal.str s204, iv n205, iv n206, iv n207, v208] ∧ ∃ H209, stC H200 (AVal.ptr nx 0) [iv n203, AVal.str s204, iv n205, iv n206, iv n207, v208] = some H209 ∧ ∃ n210 s211 n212
 n213 n214 v215, ldN H209 6 (AVal.ptr nx 0) = some (AVal.agg [iv n210, AVal.str s211, iv n212, iv n213, iv n214, v215]) ∧ K (AEnd.ret (AVal.agg [iv n210, AVal.str s211, iv n212, iv
 n213, iv n214, v215])) H209 i201) fun l216 => K (AEnd.pan l216) H200 i201) fun l217 => K (AEnd.pan l217) H172 i173)) fun l218 => K (AEnd.pan l218) H113 i114)) fun l219 => K
 (AEnd.pan l219) H54 i55) (∃ n220 s221 n222 n223 n224, ldN H49 5 (AVal.ptr i3 0) = some (AVal.agg [iv n220, AVal.str s221, iv n222, iv n223, iv n224]) ∧ ∃ n225 s226 n227 n228 n229
 v230, ldN H49 6 (AVal.ptr i14 0) = some (AVal.agg [iv n225, AVal.str s226, iv n227, iv n228, iv n229, v230]) ∧ ∃ n231 s232 n233 n234 n235 v236, ldN H49 6 (AVal.ptr i26 0) = some
 (AVal.agg [iv n231, AVal.str s232, iv n233, iv n234, iv n235, v236]) ∧ ∃ n237 s238 n239 n240 n241 v242, ldN H49 6 (AVal.ptr i38 0) = some (AVal.agg [iv n237, AVal.str s238, iv n239,
 iv n240, iv n241, v242]) ∧ ∃ H243, H243 = newB i50 [iv n225, AVal.str s226, iv n227, iv n228, iv n229, v230, iv n231, AVal.str s232, iv n233, iv n234, iv n235, v236, iv n237,
 AVal.str s238, iv n239, iv n240, iv n241, v242] H49 ∧ call f_p_node [AVal.agg [iv n220, AVal.str s221, iv n222, iv n223, iv n224], iv 14, AVal.str [], AVal.slice i50 0 3 6 true] H243 (i50
 + 1) fun e244 H245 i246 => onEnd e244 (fun v247 => ∃ n248 s249 n250 n251 n252 v253, v247 = AVal.agg [iv n248, AVal.str s249, iv n250, iv n251, iv n252, v253] ∧ ∃ H254, stC H245
 (AVal.ptr nx 0) [iv n248, AVal.str s249, iv n250, iv n251, iv n252, v253] = some H254 ∧ ∃ n255 s256 n257 n258 n259 v260, ldN H254 6 (AVal.ptr nx 0) = some (AVal.agg [iv n255,
 AVal.str s256, iv n257, iv n258, iv n259, v260]) ∧ K (AEnd.ret (AVal.agg [iv n255, AVal.str s256, iv n257, iv n258, iv n259, v260])) H254 i246) fun l261 => K (AEnd.pan l261) H245
 i246)) fun l262 => K (AEnd.pan l262) H49 i50) fun l263 => K (AEnd.pan l263) H37 i38) fun l264 => K (AEnd.pan l264) H25 i26) fun l265 => K (AEnd.pan l265) H13 i14) fun l266 => K
 (AEnd.pan l266) H2 i3
theorem Frd_ifs_eq (call : CallP) (lp : Nat → LoopP) (lv : LeaveP) (lvc : LeaveC) (r : Nat) (H : Heap) (nx : Nat) (K : EndP) : vBody PG call lp f_rd_ifs [AVal.ptr r 0] H nx (endK PG lv lvc K) = Frd_ifs call lp lv lvc r H nx K := by kernel_rfl
def Frd_nested (call : CallP) (lp : Nat → LoopP) (lv : LeaveP) (lvc : LeaveC) (r : Nat) (H : Heap) (nx : Nat) (K : EndP) : Prop :=
 ∃ H0, H0 = newB nx [iv 0, AVal.str [], iv 0, iv 0, iv 0, AVal.nilSlice] H ∧ call f_rd_ifs [AVal.ptr r 0] H0 (nx + 1) fun e1 H2 i3 => onEnd e1 (fun v4 => ∃ n5 s6 n7 n8 n9 v10, v4 =
 AVal.agg [iv n5, AVal.str s6, iv n7, iv n8, iv n9, v10] ∧ ∃ H11, stC H2 (AVal.ptr nx 0) [iv n5, AVal.str s6, iv n7, iv n8, iv n9, v10] = some H11 ∧ ∃ n12 s13 n14 n15 n16 v17, ldN
 H11 6 (AVal.ptr nx 0) = some (AVal.agg [iv n12, AVal.str s13, iv n14, iv n15, iv n16, v17]) ∧ K (AEnd.ret (AVal.agg [iv n12, AVal.str s13, iv n14, iv n15, iv n16, v17])) H11 i3) fun
 l18 => K (AEnd.pan l18) H2 i3
theorem Frd_nested_eq (call : CallP) (lp : Nat → LoopP) (lv : LeaveP) (lvc : LeaveC) (r : Nat) (H : Heap) (nx : Nat) (K : EndP) : vBody PG call lp f_rd_nested [AVal.ptr r 0] H nx (endK PG lv lvc K) = Frd_nested call lp lv lvc r H nx K := by kernel_rfl
def Frd_simple (call : CallP) (lp : Nat → LoopP) (lv : LeaveP) (lvc : LeaveC) (r : Nat) (H : Heap) (nx : Nat) (K : EndP) : Prop :=
 ∃ H0, H0 = newB nx [iv 0, AVal.str [], iv 0, iv 0, iv 0, AVal.nilSlice] H ∧ call f_rd_now [AVal.ptr r 0] H0 (nx + 1) fun e1 H2 i3 => onEnd e1 (fun v4 => ∃ n5 s6 n7 n8 n9, v4 = AVal.agg
 [iv n5, AVal.str s6, iv n7, iv n8, iv n9] ∧ ∃ H10, H10 = newB i3 [iv 0, AVal.str [], iv 0, iv 0, iv 0] H2 ∧ ∃ H11, stC H10 (AVal.ptr i3 0) [iv n5, AVal.str s6, iv n7, iv n8, iv n9]
 = some H11 ∧ call f_rd_expr [AVal.ptr r 0] H11 (i3 + 1) fun e12 H13 i14 => onEnd e12 (fun v15 => ∃ n16 s17 n18 n19 n20 v21, v15 = AVal.agg [iv n16, AVal.str s17, iv n18, iv n19, iv n20,
 v21] ∧ ∃ H22, H22 = newB i14 [iv 0, AVal.str [], iv 0, iv 0, iv 0, AVal.nilSlice] H13 ∧ ∃ H23, stC H22 (AVal.ptr i14 0) [iv n16, AVal.str s17, iv n18, iv n19, iv n20, v21] = some
 H23 ∧ call f_rd_now [AVal.ptr r 0] H23 (i14 + 1) fun e24 H25 i26 => onEnd e24 (fun v27 => ∃ n28 s29 n30 n31 n32, v27 = AVal.agg [iv n28, AVal.str s29, iv n30, iv n31, iv n32] ∧ ∃ H33, H33
 = newB i26 [iv 0, AVal.str [], iv 0, iv 0, iv 0] H25 ∧ ∃ H34, stC H33 (AVal.ptr i26 0) [iv n28, AVal.str s29, iv n30, iv n31, iv n32] = some H34 ∧ call f_rd_has [AVal.ptr r 0, AVal.str
 [58, 61]] H34 (i26 + 1) fun e35 H36 i37 => onEnd e35 (fun v38 => ∃ b39, v38 = AVal.bool b39 ∧ ifB b39 (∃ n40 s41 n42 n43 n44, ldN H36 5 (AVal.ptr i26 0) = some (AVal.agg [iv n40,
 AVal.str s41, iv n42, iv n43, iv n44]) ∧ ∃ n45 s46 n47 n48 n49 v50, ldN H36 6 (AVal.ptr i14 0) = some (AVal.agg [iv n45, AVal.str s46, iv n47, iv n48, iv n49, v50]) ∧ ((∃ n51 s52
 n53 n54 n55, ldN H36 5 (AVal.ptr i26 0) = some (AVal.agg [iv n51, AVal.str s52, iv n53, iv n54, iv n55]) ∧ AVal.agg [iv n51, AVal.str s52, iv n53, iv n54, iv n55] = AVal.agg [iv
 n40, AVal.str s41, iv n42, iv n43, iv n44]) ∧ (∃ n56 s57 n58 n59 n60 v61, ldN H36 6 (AVal.ptr i14 0) = some (AVal.agg [iv n56, AVal.str s57, iv n58, iv n59, iv n60, v61]) ∧ AVal.agg
 [iv n56, AVal.str s57, iv n58, iv n59, iv n60, v61] = AVal.agg [iv n45, AVal.str s46, iv n47, iv n48, iv n49, v50]) ∧ True) ∧ call f_rd_expr [AVal.ptr r 0] H36 (i37 + 7) fun e62 H63 i64 =>
 onEnd e62 (fun v65 => ∃ n66 s67 n68 n69 n70 v71, v65 = AVal.agg [iv n66, AVal.str s67, iv n68, iv n69, iv n70, v71] ∧ ∃ H72, H72 = newB (i37 + 4) [iv n45, AVal.str s46, iv n47, iv
 n48, iv n49, v50, iv n66, AVal.str s67, iv n68, iv n69, iv n70, v71] H63 ∧ ((∃ n73 s74 n75 n76 n77, ldN H72 5 (AVal.ptr i26 0) = some (AVal.agg [iv n73, AVal.str s74, iv n75, iv
 n76, iv n77]) ∧ AVal.agg [iv n73, AVal.str s74, iv n75, iv n76, iv n77] = AVal.agg [iv n40, AVal.str s41, iv n42, iv n43, iv n44]) ∧ (∃ n78 s79 n80 n81 n82 v83, ldN H72 6 (AVal.ptr
 i14 0) = some (AVal.agg [iv n78, AVal.str s79, iv n80, iv n81, iv n82, v83]) ∧ AVal.agg [iv n78, AVal.str s79, iv n80, iv n81, iv n82, v83] = AVal.agg [iv n45, AVal.str s46, iv n47,
 iv n48, iv n49, v50]) ∧ True) ∧ call f_p_node [AVal.agg [iv n40, AVal.str s41, iv n42, iv n43, iv n44], iv 12, AVal.str [], AVal.slice (i37 + 4) 0 2 6 true] H72 i64 fun e84 H85 i86 =>
 onEnd e84 (fun v87 => ∃ n88 s89 n90 n91 n92 v93, v87 = AVal.agg [iv n88, AVal.str s89, iv n90, iv n91, iv n92, v93] ∧ True ∧ ∃ H94, stC H85 (AVal.ptr nx 0) [iv n88, AVal.str s89, iv
 n90, iv n91, iv n92, v93] = some H94 ∧ True ∧ ∃ n95 s96 n97 n98 n99 v100, ldN H94 6 (AVal.ptr nx 0) = some (AVal.agg [iv n95, AVal.str s96, iv n97, iv n98, iv n99, v100]) ∧ K
 (AEnd.ret (AVal.agg [iv n95, AVal.str s96, iv n97, iv n98, iv n99, v100])) H94 i86) fun l101 => K (AEnd.pan l101) H85 i86) fun l102 => K (AEnd.pan l102) H63 i64) (call f_rd_has [AVal.ptr
 r 0, AVal.str [61]] H36 i37 fun e103 H104 i105 => onEnd e103 (fun v106 => ∃ b107, v106 = AVal.bool b107 ∧ ifB b107 (∃ n108 s109 n110 n111 n112, ldN H104 5 (AVal.ptr i26 0) = some
 (AVal.agg [iv n108, AVal.str s109, iv n110, iv n111, iv n112]) ∧ ∃ n113 s114 n115 n116 n117 v118, ldN H104 6 (AVal.ptr i14 0) = some (AVal.agg [iv n113, AVal.str s114, iv n115, iv
 n116, iv n117, v118]) ∧ ((∃ n119 s120 n121 n122 n123, ldN H104 5 (AVal.ptr i26 0) = some (AVal.agg [iv n119, AVal.str s120, iv n121, iv n122, iv n123]) ∧ AVal.agg [iv n119, AVal.str
 s120, iv n121, iv n122, iv n123] = AVal.agg [iv n108, AVal.str s109, iv n110, iv n111, iv n112]) ∧ (∃ n124 s125 n126 n127 n128 v129, ldN H104 6 (AVal.ptr i14 0) = some (AVal.agg [iv
 n124, AVal.str s125, iv n126, iv n127, iv n128, v129]) ∧ AVal.agg [iv n124, AVal.str s125, iv n126, iv n127, iv n128, v129] = AVal.agg [iv n113, AVal.str s114, iv n115, iv n116, iv
 n117, v118]) ∧ True) ∧ call f_rd_expr [AVal.ptr r 0] H104 (i105 + 7) fun e130 H131 i132 => onEnd e130 (fun v133 => ∃ n134 s135 n136 n137 n138 v139, v133 = AVal.agg [iv n134, AVal.str s135,
 iv n136, iv n137, iv n138, v139] ∧ ∃ H140, H140 = newB (i105 + 4) [iv n113, AVal.str s114, iv n115, iv n116, iv n117, v118, iv n134, AVal.str s135, iv n136, iv n137, iv n138, v139]
 H131 ∧ ((∃ n141 s142 n143 n144 n145, ldN H140 5 (AVal.ptr i26 0) = some (AVal.agg [iv n141, AVal.str s142, iv n143, iv n144, iv n145]) ∧ AVal.agg [iv n141, AVal.str s142, iv n143,
 iv n144, iv n145] = AVal.agg [iv n108, AVal.str s109, iv n110, iv n111, iv n112]) ∧ (∃ n146 s147 n148 n149 n150 v151, ldN H140 6 (AVal.ptr i14 0) = some (AVal.agg [iv n146, AVal.str
 s147, iv n148, iv n149, iv n150, v151]) ∧ AVal.agg [iv n146, AVal.str s147, iv n148, iv n149, iv n150, v151] = AVal.agg [iv n113, AVal.str s114, iv n115, iv n116, iv n117, v118]) ∧
 True) ∧ call f_p_node [AVal.agg [iv n108, AVal.str s109, iv n110, iv n111, iv n112], iv 13, AVal.str [], AVal.slice (i105 + 4) 0 2 6 true] H140 i132 fun e152 H153 i154 => onEnd e152 (fun
 v155 => ∃ n156 s157 n158 n159 n160 v161, v155 = AVal.agg [iv n156, AVal.str s157, iv n158, iv n159, iv n160, v161] ∧ True ∧ ∃ H162, stC H153 (AVal.ptr nx 0) [iv n156, AVal.str s157,
 iv n158, iv n159, iv n160, v161] = some H162 ∧ True ∧ ∃ n163 s164 n165 n166 n167 v168, ldN H162 6 (AVal.ptr nx 0) = some (AVal.agg [iv n163, AVal.str s164, iv n165, iv n166, iv
 n167, v168]) ∧ K (AEnd.ret (AVal.agg [iv n163, AVal.str s164, iv n165, iv n166, iv n167, v168])) H162 i154) fun l169 => K (AEnd.pan l169) H153 i154) fun l170 => K (AEnd.pan l170)
 H131 i132) (∃ n171 s172 n173 n174 n175, ldN H104 5 (AVal.ptr i3 0) = some (AVal.agg [iv n171, AVal.str s172, iv n173, iv n174, iv n175]) ∧ ∃ n176 s177 n178 n179 n180 v181, ldN H104
 6 (AVal.ptr i14 0) = some (AVal.agg [iv n176, AVal.str s177, iv n178, iv n179, iv n180, v181]) ∧ ∃ H182, H182 = newB i105 [iv n176, AVal.str s177, iv n178, iv n179, iv n180, v181]
 H104 ∧ call f_p_node [AVal.agg [iv n171, AVal.str s172, iv n173, iv n174, iv n175], iv 19, AVal.str [], AVal.slice i105 0 1 6 true] H182 (i105 + 1) fun e183 H184 i185 => onEnd e183 (fun
 v186 => ∃ n187 s188 n189 n190 n191 v192, v186 = AVal.agg [iv n187, AVal.str s188, iv n189, iv n190, iv n191, v192] ∧ ∃ H193, stC H184 (AVal.ptr nx 0) [iv n187, AVal.str s188, iv
 n189, iv n190, iv n191, v192] = some H193 ∧ ∃ n194 s195 n196 n197 n198 v199, ldN H193 6 (AVal.ptr nx 0) = some (AVal.agg [iv n194, AVal.str s195, iv n196, iv n197, iv n198, v199]) ∧
 K (AEnd.ret (AVal.agg [iv n194, AVal.str s195, iv n196, iv n197, iv n198, v199])) H193 i185) fun l200 => K (AEnd.pan l200) H184 i185)) fun l201 => K (AEnd.pan l201) H104 i105)) fun
 l202 => K (AEnd.pan l202) H36 i37) fun l203 => K (AEnd.pan l203) H25 i26) fun l204 => K (AEnd.pan l204) H13 i14) fun l205 => K (AEnd.pan l205) H2 i3
theorem Frd_simple_eq (call : CallP) (lp : Nat → LoopP) (lv : LeaveP) (lvc : LeaveC) (r : Nat) (H : Heap) (nx : Nat) (K : EndP) : vBody PG call lp f_rd_simple [AVal.ptr r 0] H nx (endK PG lv lvc K) = Frd_simple call lp lv lvc r H nx K := by kernel_rfl
def Frd_expr (call : CallP) (lp : Nat → LoopP) (lv : LeaveP) (lvc : LeaveC) (r : Nat) (H : Heap) (nx : Nat) (K : EndP) : Prop :=
 ∃ H0, H0 = newB nx [iv 0, AVal.str [], iv 0, iv 0, iv 0, AVal.nilSlice] H ∧ call f_rd_enter [AVal.ptr r 0] H0 (nx + 1) fun e1 H2 i3 => onEnd e1 (fun v4 => call f_rd_binary [AVal.ptr r 0, iv 1] H2 i3
 fun e5 H6 i7 => onEnd e5 (fun v8 => ∃ n9 s10 n11 n12 n13 v14, v8 = AVal.agg [iv n9, AVal.str s10, iv n11, iv n12, iv n13, v14] ∧ ∃ H15, stC H6 (AVal.ptr nx 0) [iv n9, AVal.str s10,
 iv n11, iv n12, iv n13, v14] = some H15 ∧ lvc [RVal.cell (AVal.ptr nx 0) t_node] [(66, [AVal.ptr r 0])] AMode.returning H15 i7 fun e16 H17 i18 => K e16 H17 i18) fun l19 => lvc
 [RVal.cell (AVal.ptr nx 0) t_node] [(66, [AVal.ptr r 0])] (AMode.panicking l19) H6 i7 fun e20 H21 i22 => K e20 H21 i22) fun l23 => K (AEnd.pan l23) H2 i3
theorem Frd_expr_eq (call : CallP) (lp : Nat → LoopP) (lv : LeaveP) (lvc : LeaveC) (r : Nat) (H : Heap) (nx : Nat) (K : EndP) : vBody PG call lp f_rd_expr [AVal.ptr r 0] H nx (endK PG lv lvc K) = Frd_expr call lp lv lvc r H nx K := by kernel_rfl
def Frd_unary (call : CallP) (lp : Nat → LoopP) (lv : LeaveP) (lvc : LeaveC) (r : Nat) (H : Heap) (nx : Nat) (K : EndP) : Prop :=
 ∃ H0, H0 = newB nx [iv 0, AVal.str [], iv 0, iv 0, iv 0, AVal.nilSlice] H ∧ call f_rd_now [AVal.ptr r 0] H0 (nx + 1) fun e1 H2 i3 => onEnd e1 (fun v4 => ∃ n5 s6 n7 n8 n9, v4 = AVal.agg
 [iv n5, AVal.str s6, iv n7, iv n8, iv n9] ∧ ∃ H10, H10 = newB i3 [iv 0, AVal.str [], iv 0, iv 0, iv 0] H2 ∧ ∃ H11, stC H10 (AVal.ptr i3 0) [iv n5, AVal.str s6, iv n7, iv n8, iv n9]
 = some H11 ∧ call f_rd_has [AVal.ptr r 0, AVal.str [45]] H11 (i3 + 1) fun e12 H13 i14 => onEnd e12 (fun v15 => ∃ b16, v15 = AVal.bool b16 ∧ ifB b16 (∃ n17 s18 n19 n20 n21, ldN H13 5
 (AVal.ptr i3 0) = some (AVal.agg [iv n17, AVal.str s18, iv n19, iv n20, iv n21]) ∧ ∃ v22, some (AVal.ptr i3 1) = some v22 ∧ ∃ s23, ld1 H13 v22 = some (AVal.str s23) ∧ ((∃ n24 s25
 n26 n27 n28, ldN H13 5 (AVal.ptr i3 0) = some (AVal.agg [iv n24, AVal.str s25, iv n26, iv n27, iv n28]) ∧ AVal.agg [iv n24, AVal.str s25, iv n26, iv n27, iv n28] = AVal.agg [iv n17,
 AVal.str s18, iv n19, iv n20, iv n21]) ∧ (∃ s29, ld1 H13 v22 = some (AVal.str s29) ∧ AVal.str s29 = AVal.str s23) ∧ True) ∧ call f_rd_unary [AVal.ptr r 0] H13 (i14 + 8) fun e30 H31 i32 =>
 onEnd e30 (fun v33 => ∃ n34 s35 n36 n37 n38 v39, v33 = AVal.agg [iv n34, AVal.str s35, iv n36, iv n37, iv n38, v39] ∧ ∃ H40, H40 = newB (i14 + 5) [iv n34, AVal.str s35, iv n36, iv
 n37, iv n38, v39] H31 ∧ ((∃ n41 s42 n43 n44 n45, ldN H40 5 (AVal.ptr i3 0) = some (AVal.agg [iv n41, AVal.str s42, iv n43, iv n44, iv n45]) ∧ AVal.agg [iv n41, AVal.str s42, iv n43,
 iv n44, iv n45] = AVal.agg [iv n17, AVal.str s18, iv n19, iv n20, iv n21]) ∧ (∃ s46, ld1 H40 v22 = some (AVal.str s46) ∧ AVal.str s46 = AVal.str s23) ∧ True) ∧ call f_p_node [AVal.agg [iv
 n17, AVal.str s18, iv n19, iv n20, iv n21], iv 27, AVal.str s23, AVal.slice (i14 + 5) 0 1 6 true] H40 i32 fun e47 H48 i49 => onEnd e47 (fun v50 => ∃ n51 s52 n53 n54 n55 v56, v50 =
 AVal.agg [iv n51, AVal.str s52, iv n53, iv n54, iv n55, v56] ∧ True ∧ ∃ H57, stC H48 (AVal.ptr nx 0) [iv n51, AVal.str s52, iv n53, iv n54, iv n55, v56] = some H57 ∧ True ∧ ∃ n58
 s59 n60 n61 n62 v63, ldN H57 6 (AVal.ptr nx 0) = some (AVal.agg [iv n58, AVal.str s59, iv n60, iv n61, iv n62, v63]) ∧ K (AEnd.ret (AVal.agg [iv n58, AVal.str s59, iv n60, iv n61,
 iv n62, v63])) H57 i49) fun l64 => K (AEnd.pan l64) H48 i49) fun l65 => K (AEnd.pan l65) H31 i32) (call f_rd_has [AVal.ptr r 0, AVal.str [33]] H13 i14 fun e66 H67 i68 => onEnd e66 (fun
 v69 => ∃ b70, v69 = AVal.bool b70 ∧ ifB b70 (∃ n71 s72 n73 n74 n75, ldN H67 5 (AVal.ptr i3 0) = some (AVal.agg [iv n71, AVal.str s72, iv n73, iv n74, iv n75]) ∧ ∃ v76, some
 (AVal.ptr i3 1) = some v76 ∧ ∃ s77, ld1 H67 v76 = some (AVal.str s77) ∧ ((∃ n78 s79 n80 n81 n82, ldN H67 5 (AVal.ptr i3 0) = some (AVal.agg [iv n78, AVal.str s79, iv n80, iv n81, iv
 n82]) ∧ AVal.agg [iv n78, AVal.str s79, iv n80, iv n81, iv n82] = AVal.agg [iv n71, AVal.str s72, iv n73, iv n74, iv n75]) ∧ (∃ s83, ld1 H67 v76 = some (AVal.str s83) ∧ AVal.str s83
 = AVal.str s77) ∧ True) ∧ call f_rd_unary [AVal.ptr r 0] H67 (i68 + 8) fun e84 H85 i86 => onEnd e84 (fun v87 => ∃ n88 s89 n90 n91 n92 v93, v87 = AVal.agg [iv n88, AVal.str s89, iv n90, iv
 n91, iv n92, v93] ∧ ∃ H94, H94 = newB (i68 + 5) [iv n88, AVal.str s89, iv n90, iv n91, iv n92, v93] H85 ∧ ((∃ n95 s96 n97 n98 n99, ldN H94 5 (AVal.ptr i3 0) = some (AVal.agg [iv
 n95, AVal.str s96, iv n97, iv n98, iv n99]) ∧ AVal.agg [iv n95, AVal.str s96, iv n97, iv n98, iv n99] = AVal.agg [iv n71, AVal.str s72, iv n73, iv n74, iv n75]) ∧ (∃ s100, ld1 H94
 v76 = some (AVal.str s100) ∧ AVal.str s100 = AVal.str s77) ∧ True) ∧ call f_p_node [AVal.agg [iv n71, AVal.str s72, iv n73, iv n74, iv n75], iv 27, AVal.str s77, AVal.slice (i68 + 5) 0 1
 6 true] H94 i86 fun e101 H102 i103 => onEnd e101 (fun v104 => ∃ n105 s106 n107 n108 n109 v110, v104 = AVal.agg [iv n105, AVal.str s106, iv n107, iv n108, iv n109, v110] ∧ True ∧ ∃
 H111, stC H102 (AVal.ptr nx 0) [iv n105, AVal.str s106, iv n107, iv n108, iv n109, v110] = some H111 ∧ True ∧ ∃ n112 s113 n114 n115 n116 v117, ldN H111 6 (AVal.ptr nx 0) = some
 (AVal.agg [iv n112, AVal.str s113, iv n114, iv n115, iv n116, v117]) ∧ K (AEnd.ret (AVal.agg [iv n112, AVal.str s113, iv n114, iv n115, iv n116, v117])) H111 i103) fun l118 => K
 (AEnd.pan l118) H102 i103) fun l119 => K (AEnd.pan l119) H85 i86) (call f_rd_post [AVal.ptr r 0] H67 i68 fun e120 H121 i122 => onEnd e120 (fun v123 => ∃ n124 s125 n126 n127 n128 v129, v123
 = AVal.agg [iv n124, AVal.str s125, iv n126, iv n127, iv n128, v129] ∧ ∃ H130, stC H121 (AVal.ptr nx 0) [iv n124, AVal.str s125, iv n126, iv n127, iv n128, v129] = some H130 ∧ ∃
 n131 s132 n133 n134 n135 v136, ldN H130 6 (AVal.ptr nx 0) = some (AVal.agg [iv n131, AVal.str s132, iv n133, iv n134, iv n135, v136]) ∧ K (AEnd.ret (AVal.agg [iv n131, AVal.str
 s132, iv n133, iv n134, iv n135, v136])) H130 i122) fun l137 => K (AEnd.pan l137) H121 i122)) fun l138 => K (AEnd.pan l138) H67 i68)) fun l139 => K (AEnd.pan l139) H13 i14) fun l140
 => K (AEnd.pan l140) H2 i3
theorem Frd_unary_eq (call : CallP) (lp : Nat → LoopP) (lv : LeaveP) (lvc : LeaveC) (r : Nat) (H : Heap) (nx : Nat) (K : EndP) : vBody PG call lp f_rd_unary [AVal.ptr r 0] H nx (endK PG lv lvc K) = Frd_unary call lp lv lvc r H nx K := by kernel_rfl
def Frd_post (call : CallP) (lp : Nat → LoopP) (lv : LeaveP) (lvc : LeaveC) (r : Nat) (H : Heap) (nx : Nat) (K : EndP) : Prop :=
 ∃ H0, H0 = newB nx [iv 0, AVal.str [], iv 0, iv 0, iv 0, AVal.nilSlice] H ∧ call f_rd_prime [AVal.ptr r 0] H0 (nx + 1) fun e1 H2 i3 => onEnd e1 (fun v4 => ∃ n5 s6 n7 n8 n9 v10, v4 =
 AVal.agg [iv n5, AVal.str s6, iv n7, iv n8, iv n9, v10] ∧ ∃ H11, H11 = newB i3 [iv 0, AVal.str [], iv 0, iv 0, iv 0, AVal.nilSlice] H2 ∧ ∃ H12, stC H11 (AVal.ptr i3 0) [iv n5,
 AVal.str s6, iv n7, iv n8, iv n9, v10] = some H12 ∧ lp 30 (subAt (codeOf PG 76) [1, 1, 0, 0]) (envL (AVal.tuple []) [(3, AVal.ptr i3 0), (7, AVal.agg [iv n5, AVal.str s6, iv
 n7, iv n8, iv n9, v10]), (6, AVal.ptr r 0), (2, AVal.ptr nx 0), (0, AVal.ptr r 0)]) H12 (i3 + 1) [] none (contAt PG call (lp 30) 30 (codeOf PG 76) [1, 1, 0] (endK
 PG lv lvc K (resOf PG 76)))) fun l13 => K (AEnd.pan l13) H2 i3
theorem Frd_post_eq (call : CallP) (lp : Nat → LoopP) (lv : LeaveP) (lvc : LeaveC) (r : Nat) (H : Heap) (nx : Nat) (K : EndP) : vBody PG call lp f_rd_post [AVal.ptr r 0] H nx (endK PG lv lvc K) = Frd_post call lp lv lvc r H nx K := by kernel_rfl
def Frd_prime (call : CallP) (lp : Nat → LoopP) (lv : LeaveP) (lvc : LeaveC) (r : Nat) (H : Heap) (nx : Nat) (K : EndP) : Prop :=
 ∃ H0, H0 = newB nx [iv 0, AVal.str [], iv 0, iv 0, iv 0, AVal.nilSlice] H ∧ call f_rd_now [AVal.ptr r 0] H0 (nx + 1) fun e1 H2 i3 => onEnd e1 (fun v4 => ∃ n5 s6 n7 n8 n9, v4 = AVal.agg
 [iv n5, AVal.str s6, iv n7, iv n8, iv n9] ∧ ∃ H10, H10 = newB i3 [iv 0, AVal.str [], iv 0, iv 0, iv 0] H2 ∧ ∃ H11, stC H10 (AVal.ptr i3 0) [iv n5, AVal.str s6, iv n7, iv n8, iv n9]
 = some H11 ∧ ∃ v12, some (AVal.ptr i3 0) = some v12 ∧ ∃ n13 : Int, ld1 H11 v12 = some (iv n13) ∧ ifB (decide (n13 = 4)) (call f_rd_next [AVal.ptr r 0] H11 (i3 + 1) fun e14 H15 i16 => onEnd
 e14 (fun v17 => ∃ n18 s19 n20 n21 n22, v17 = AVal.agg [iv n18, AVal.str s19, iv n20, iv n21, iv n22] ∧ ∃ n23 s24 n25 n26 n27, ldN H15 5 (AVal.ptr i3 0) = some (AVal.agg [iv n23,
 AVal.str s24, iv n25, iv n26, iv n27]) ∧ call f_p_node [AVal.agg [iv n23, AVal.str s24, iv n25, iv n26, iv n27], iv 21, AVal.str [], AVal.nilSlice] H15 i16 fun e28 H29 i30 => onEnd e28
 (fun v31 => ∃ n32 s33 n34 n35 n36 v37, v31 = AVal.agg [iv n32, AVal.str s33, iv n34, iv n35, iv n36, v37] ∧ ∃ H38, H38 = newB i30 [iv 0, AVal.str [], iv 0, iv 0, iv 0,
 AVal.nilSlice] H29 ∧ ∃ H39, stC H38 (AVal.ptr i30 0) [iv n32, AVal.str s33, iv n34, iv n35, iv n36, v37] = some H39 ∧ ∃ v40, some (AVal.ptr i3 2) = some v40 ∧ ∃ n41 : Int, ld1 H39
 v40 = some (iv n41) ∧ ∃ v42, some (AVal.ptr i30 2) = some v42 ∧ true = true ∧ ∃ H43, stC H39 v42 [iv n41] = some H43 ∧ ∃ n44 s45 n46 n47 n48 v49, ldN H43 6 (AVal.ptr i30 0) = some
 (AVal.agg [iv n44, AVal.str s45, iv n46, iv n47, iv n48, v49]) ∧ ∃ H50, stC H43 (AVal.ptr nx 0) [iv n44, AVal.str s45, iv n46, iv n47, iv n48, v49] = some H50 ∧ ∃ n51 s52 n53 n54
 n55 v56, ldN H50 6 (AVal.ptr nx 0) = some (AVal.agg [iv n51, AVal.str s52, iv n53, iv n54, iv n55, v56]) ∧ K (AEnd.ret (AVal.agg [iv n51, AVal.str s52, iv n53, iv n54, iv n55,
 v56])) H50 (i30 + 1)) fun l57 => K (AEnd.pan l57) H29 i30) fun l58 => K (AEnd.pan l58) H15 i16) (ifB (decide (n13 = 5)) (call f_rd_next [AVal.ptr r 0] H11 (i3 + 1) fun e59 H60 i61 => onEnd
 e59 (fun v62 => ∃ n63 s64 n65 n66 n67, v62 = AVal.agg [iv n63, AVal.str s64, iv n65, iv n66, iv n67] ∧ ∃ n68 s69 n70 n71 n72, ldN H60 5 (AVal.ptr i3 0) = some (AVal.agg [iv n68,
 AVal.str s69, iv n70, iv n71, iv n72]) ∧ ∃ v73, some (AVal.ptr i3 1) = some v73 ∧ ∃ s74, ld1 H60 v73 = some (AVal.str s74) ∧ call f_p_node [AVal.agg [iv n68, AVal.str s69, iv n70, iv n71,
 iv n72], iv 24, AVal.str s74, AVal.nilSlice] H60 i61 fun e75 H76 i77 => onEnd e75 (fun v78 => ∃ n79 s80 n81 n82 n83 v84, v78 = AVal.agg [iv n79, AVal.str s80, iv n81, iv n82, iv
 n83, v84] ∧ ∃ H85, stC H76 (AVal.ptr nx 0) [iv n79, AVal.str s80, iv n81, iv n82, iv n83, v84] = some H85 ∧ ∃ n86 s87 n88 n89 n90 v91, ldN H85 6 (AVal.ptr nx 0) = some (AVal.agg [iv
 n86, AVal.str s87, iv n88, iv n89, iv n90, v91]) ∧ K (AEnd.ret (AVal.agg [iv n86, AVal.str s87, iv n88, iv n89, iv n90, v91])) H85 i77) fun l92 => K (AEnd.pan l92) H76 i77) fun l93
 => K (AEnd.pan l93) H60 i61) (ifB (decide (n13 = 2)) (call f_rd_next [AVal.ptr r 0] H11 (i3 + 1) fun e94 H95 i96 => onEnd e94 (fun v97 => ∃ n98 s99 n100 n101 n102, v97 = AVal.agg [iv n98,
 AVal.str s99, iv n100, iv n101, iv n102] ∧ call f_rd_is [AVal.ptr r 0, AVal.str [40]] H95 i96 fun e103 H104 i105 => onEnd e103 (fun v106 => ∃ b107, v106 = AVal.bool b107 ∧ ifB b107 (∃
 n108 s109 n110 n111 n112, ldN H104 5 (AVal.ptr i3 0) = some (AVal.agg [iv n108, AVal.str s109, iv n110, iv n111, iv n112]) ∧ ∃ v113, some (AVal.ptr i3 1) = some v113 ∧ ∃ s114, ld1
 H104 v113 = some (AVal.str s114) ∧ ((∃ n115 s116 n117 n118 n119, ldN H104 5 (AVal.ptr i3 0) = some (AVal.agg [iv n115, AVal.str s116, iv n117, iv n118, iv n119]) ∧ AVal.agg [iv
 n115, AVal.str s116, iv n117, iv n118, iv n119] = AVal.agg [iv n108, AVal.str s109, iv n110, iv n111, iv n112]) ∧ (∃ s120, ld1 H104 v113 = some (AVal.str s120) ∧ AVal.str s120 =
 AVal.str s114) ∧ True) ∧ call f_rd_row [AVal.ptr r 0, AVal.func (Fn.func 69) [AVal.ptr r 0] []] H104 (i105 + 9) fun e121 H122 i123 => onEnd e121 (fun v124 => ((∃ n125 s126 n127 n128 n129,
 ldN H122 5 (AVal.ptr i3 0) = some (AVal.agg [iv n125, AVal.str s126, iv n127, iv n128, iv n129]) ∧ AVal.agg [iv n125, AVal.str s126, iv n127, iv n128, iv n129] = AVal.agg [iv n108,
 AVal.str s109, iv n110, iv n111, iv n112]) ∧ (∃ s130, ld1 H122 v113 = some (AVal.str s130) ∧ AVal.str s130 = AVal.str s114) ∧ True) ∧ call f_p_node [AVal.agg [iv n108, AVal.str s109, iv
 n110, iv n111, iv n112], iv 29, AVal.str s114, v124] H122 i123 fun e131 H132 i133 => onEnd e131 (fun v134 => ∃ n135 s136 n137 n138 n139 v140, v134 = AVal.agg [iv n135, AVal.str
 s136, iv n137, iv n138, iv n139, v140] ∧ True ∧ ∃ H141, stC H132 (AVal.ptr nx 0) [iv n135, AVal.str s136, iv n137, iv n138, iv n139, v140] = some H141 ∧ True ∧ ∃ n142 s143 n144 n145
 n146 v147, ldN H141 6 (AVal.ptr nx 0) = some (AVal.agg [iv n142, AVal.str s143, iv n144, iv n145, iv n146, v147]) ∧ K (AEnd.ret (AVal.agg [iv n142, AVal.str s143, iv n144, iv n145,
 iv n146, v147])) H141 i133) fun l148 => K (AEnd.pan l148) H132 i133) fun l149 => K (AEnd.pan l149) H122 i123) (∃ n150 s151 n152 n153 n154, ldN H104 5 (AVal.ptr i3 0) = some
 (AVal.agg [iv n150, AVal.str s151, iv n152, iv n153, iv n154]) ∧ ∃ v155, some (AVal.ptr i3 1) = some v155 ∧ ∃ s156, ld1 H104 v155 = some (AVal.str s156) ∧ call f_p_node [AVal.agg [iv
 n150, AVal.str s151, iv n152, iv n153, iv n154], iv 26, AVal.str s156, AVal.nilSlice] H104 i105 fun e157 H158 i159 => onEnd e157 (fun v160 => ∃ n161 s162 n163 n164 n165 v166, v160 =
 AVal.agg [iv n161, AVal.str s162, iv n163, iv n164, iv n165, v166] ∧ ∃ H167, stC H158 (AVal.ptr nx 0) [iv n161, AVal.str s162, iv n163, iv n164, iv n165, v166] = some H167 ∧ ∃ n168
 s169 n170 n171 n172 v173, ldN H167 6 (AVal.ptr nx 0) = some (AVal.agg [iv n168, AVal.str s169, iv n170, iv n171, iv n172, v173]) ∧ K (AEnd.ret (AVal.agg [iv n168, AVal.str s169, iv
 n170, iv n171, iv n172, v173])) H167 i159) fun l174 => K (AEnd.pan l174) H158 i159)) fun l175 => K (AEnd.pan l175) H104 i105) fun l176 => K (AEnd.pan l176) H95 i96) (call 42
 [AVal.ptr r 0, AVal.str [116, 114, 117, 101]] H11 (i3 + 1) fun e177 H178 i179 => onEnd e177 (fun v180 => ∃ b181, v180 = AVal.bool b181 ∧ ifB b181 (∃ n182 s183 n184 n185 n186, ldN
 H178 5 (AVal.ptr i3 0) = some (AVal.agg [iv n182, AVal.str s183, iv n184, iv n185, iv n186]) ∧ call f_p_node [AVal.agg [iv n182, AVal.str s183, iv n184, iv n185, iv n186], iv 22, AVal.str
 [], AVal.nilSlice] H178 i179 fun e187 H188 i189 => onEnd e187 (fun v190 => ∃ n191 s192 n193 n194 n195 v196, v190 = AVal.agg [iv n191, AVal.str s192, iv n193, iv n194, iv n195, v196]
 ∧ ∃ H197, stC H188 (AVal.ptr nx 0) [iv n191, AVal.str s192, iv n193, iv n194, iv n195, v196] = some H197 ∧ ∃ n198 s199 n200 n201 n202 v203, ldN H197 6 (AVal.ptr nx 0) = some
 (AVal.agg [iv n198, AVal.str s199, iv n200, iv n201, iv n202, v203]) ∧ K (AEnd.ret (AVal.agg [iv n198, AVal.str s199, iv n200, iv n201, iv n202, v203])) H197 i189) fun l204 => K
 (AEnd.pan l204) H188 i189) (call f_rd_has [AVal.ptr r 0, AVal.str [102, 97, 108, 115, 101]] H178 i179 fun e205 H206 i207 => onEnd e205 (fun v208 => ∃ b209, v208 = AVal.bool b209 ∧ ifB
 b209 (∃ n210 s211 n212 n213 n214, ldN H206 5 (AVal.ptr i3 0) = some (AVal.agg [iv n210, AVal.str s211, iv n212, iv n213, iv n214]) ∧ call f_p_node [AVal.agg [iv n210, AVal.str s211, iv
 n212, iv n213, iv n214], iv 23, AVal.str [], AVal.nilSlice] H206 i207 fun e215 H216 i217 => onEnd e215 (fun v218 => ∃ n219 s220 n221 n222 n223 v224, v218 = AVal.agg [iv n219,
 AVal.str s220, iv n221, iv n222, iv n223, v224] ∧ ∃ H225, stC H216 (AVal.ptr nx 0) [iv n219, AVal.str s220, iv n221, iv n222, iv n223, v224] = some H225 ∧ ∃ n226 s227 n228 n229 n230
 v231, ldN H225 6 (AVal.ptr nx 0) = some (AVal.agg [iv n226, AVal.str s227, iv n228, iv n229, iv n230, v231]) ∧ K (AEnd.ret (AVal.agg [iv n226, AVal.str s227, iv n228, iv n229, iv
 n230, v231])) H225 i217) fun l232 => K (AEnd.pan l232) H216 i217) (call f_rd_has [AVal.ptr r 0, AVal.str [110, 105, 108]] H206 i207 fun e233 H234 i235 => onEnd e233 (fun v236 => ∃ b237,
 v236 = AVal.bool b237 ∧ ifB b237 (∃ n238 s239 n240 n241 n242, ldN H234 5 (AVal.ptr i3 0) = some (AVal.agg [iv n238, AVal.str s239, iv n240, iv n241, iv n242]) ∧ call f_p_node [AVal.agg
 [iv n238, AVal.str s239, iv n240, iv n241, iv n242], iv 25, AVal.str [], AVal.nilSlice] H234 i235 fun e243 H244 i245 => onEnd e243 (fun v246 => ∃ n247 s248 n249 n250 n251 v252, v246
 = AVal.agg [iv n247, AVal.str s248, iv n249, iv n250, iv n251, v252] ∧ ∃ H253, stC H244 (AVal.ptr nx 0) [iv n247, AVal.str s248, iv n249, iv n250, iv n251, v252] = some H253 ∧ ∃
 n254 s255 n256 n257 n258 v259, ldN H253 6 (AVal.ptr nx 0) = some (AVal.agg [iv n254, AVal.str s255, iv n256, iv n257, iv n258, v259]) ∧ K (AEnd.ret (AVal.agg [iv n254, AVal.str
 s255, iv n256, iv n257, iv n258, v259])) H253 i245) fun l260 => K (AEnd.pan l260) H244 i245) (call f_rd_is [AVal.ptr r 0, AVal.str [40]] H234 i235 fun e261 H262 i263 => onEnd e261 (fun
 v264 => ∃ b265, v264 = AVal.bool b265 ∧ ifB b265 (call f_rd_one [AVal.ptr r 0, AVal.func (Fn.func 69) [AVal.ptr r 0] []] H262 i263 fun e266 H267 i268 => onEnd e266 (fun v269 => ∃ n270
 s271 n272 n273 n274 v275, v269 = AVal.agg [iv n270, AVal.str s271, iv n272, iv n273, iv n274, v275] ∧ ∃ H276, stC H267 (AVal.ptr nx 0) [iv n270, AVal.str s271, iv n272, iv n273, iv
 n274, v275] = some H276 ∧ ∃ n277 s278 n279 n280 n281 v282, ldN H276 6 (AVal.ptr nx 0) = some (AVal.agg [iv n277, AVal.str s278, iv n279, iv n280, iv n281, v282]) ∧ K (AEnd.ret
 (AVal.agg [iv n277, AVal.str s278, iv n279, iv n280, iv n281, v282])) H276 i268) fun l283 => K (AEnd.pan l283) H267 i268) (call f_rd_has [AVal.ptr r 0, AVal.str [108, 101, 110]] H262 i263
 fun e284 H285 i286 => onEnd e284 (fun v287 => ∃ b288, v287 = AVal.bool b288 ∧ ifB b288 (∃ n289 s290 n291 n292 n293, ldN H285 5 (AVal.ptr i3 0) = some (AVal.agg [iv n289, AVal.str
 s290, iv n291, iv n292, iv n293]) ∧ ((∃ n294 s295 n296 n297 n298, ldN H285 5 (AVal.ptr i3 0) = some (AVal.agg [iv n294, AVal.str s295, iv n296, iv n297, iv n298]) ∧ AVal.agg [iv
 n294, AVal.str s295, iv n296, iv n297, iv n298] = AVal.agg [iv n289, AVal.str s290, iv n291, iv n292, iv n293]) ∧ True) ∧ call f_rd_one [AVal.ptr r 0, AVal.func (Fn.func 69) [AVal.ptr r
 0] []] H285 (i286 + 8) fun e299 H300 i301 => onEnd e299 (fun v302 => ∃ n303 s304 n305 n306 n307 v308, v302 = AVal.agg [iv n303, AVal.str s304, iv n305, iv n306, iv n307, v308] ∧ ∃
 H309, H309 = newB (i286 + 5) [iv n303, AVal.str s304, iv n305, iv n306, iv n307, v308] H300 ∧ ((∃ n310 s311 n312 n313 n314, ldN H309 5 (AVal.ptr i3 0) = some (AVal.agg [iv n310,
 AVal.str s311, iv n312, iv n313, iv n314]) ∧ AVal.agg [iv n310, AVal.str s311, iv n312, iv n313, iv n314] = AVal.agg [iv n289, AVal.str s290, iv n291, iv n292, iv n293]) ∧ True) ∧
 call f_p_node [AVal.agg [iv n289, AVal.str s290, iv n291, iv n292, iv n293], iv 33, AVal.str [], AVal.slice (i286 + 5) 0 1 6 true] H309 i301 fun e315 H316 i317 => onEnd e315 (fun v318 =>
 ∃ n319 s320 n321 n322 n323 v324, v318 = AVal.agg [iv n319, AVal.str s320, iv n321, iv n322, iv n323, v324] ∧ True ∧ ∃ H325, stC H316 (AVal.ptr nx 0) [iv n319, AVal.str s320, iv
 n321, iv n322, iv n323, v324] = some H325 ∧ True ∧ ∃ n326 s327 n328 n329 n330 v331, ldN H325 6 (AVal.ptr nx 0) = some (AVal.agg [iv n326, AVal.str s327, iv n328, iv n329, iv n330,
 v331]) ∧ K (AEnd.ret (AVal.agg [iv n326, AVal.str s327, iv n328, iv n329, iv n330, v331])) H325 i317) fun l332 => K (AEnd.pan l332) H316 i317) fun l333 => K (AEnd.pan l333) H300
 i301) (call f_rd_has [AVal.ptr r 0, AVal.str [110, 101, 119]] H285 i286 fun e334 H335 i336 => onEnd e334 (fun v337 => ∃ b338, v337 = AVal.bool b338 ∧ ifB b338 (∃ n339 s340 n341 n342 n343,
 ldN H335 5 (AVal.ptr i3 0) = some (AVal.agg [iv n339, AVal.str s340, iv n341, iv n342, iv n343]) ∧ ((∃ n344 s345 n346 n347 n348, ldN H335 5 (AVal.ptr i3 0) = some (AVal.agg [iv
 n344, AVal.str s345, iv n346, iv n347, iv n348]) ∧ AVal.agg [iv n344, AVal.str s345, iv n346, iv n347, iv n348] = AVal.agg [iv n339, AVal.str s340, iv n341, iv n342, iv n343]) ∧
 True) ∧ call f_rd_one [AVal.ptr r 0, AVal.func (Fn.func 60) [AVal.ptr r 0] []] H335 (i336 + 8) fun e349 H350 i351 => onEnd e349 (fun v352 => ∃ n353 s354 n355 n356 n357 v358, v352 =
 AVal.agg [iv n353, AVal.str s354, iv n355, iv n356, iv n357, v358] ∧ ∃ H359, H359 = newB (i336 + 5) [iv n353, AVal.str s354, iv n355, iv n356, iv n357, v358] H350 ∧ ((∃ n360 s361
 n362 n363 n364, ldN H359 5 (AVal.ptr i3 0) = some (AVal.agg [iv n360, AVal.str s361, iv n362, iv n363, iv n364]) ∧ AVal.agg [iv n360, AVal.str s361, iv n362, iv n363, iv n364] =
 AVal.agg [iv n339, AVal.str s340, iv n341, iv n342, iv n343]) ∧ True) ∧ call f_p_node [AVal.agg [iv n339, AVal.str s340, iv n341, iv n342, iv n343], iv 35, AVal.str [], AVal.slice (i336 +
 5) 0 1 6 true] H359 i351 fun e365 H366 i367 => onEnd e365 (fun v368 => ∃ n369 s370 n371 n372 n373 v374, v368 = AVal.agg [iv n369, AVal.str s370, iv n371, iv n372, iv n373, v374] ∧
 True ∧ ∃ H375, stC H366 (AVal.ptr nx 0) [iv n369, AVal.str s370, iv n371, iv n372, iv n373, v374] = some H375 ∧ True ∧ ∃ n376 s377 n378 n379 n380 v381, ldN H375 6 (AVal.ptr nx 0) =
 some (AVal.agg [iv n376, AVal.str s377, iv n378, iv n379, iv n380, v381]) ∧ K (AEnd.ret (AVal.agg [iv n376, AVal.str s377, iv n378, iv n379, iv n380, v381])) H375 i367) fun l382 =>
 K (AEnd.pan l382) H366 i367) fun l383 => K (AEnd.pan l383) H350 i351) (call f_rd_has [AVal.ptr r 0, AVal.str [109, 97, 107, 101]] H335 i336 fun e384 H385 i386 => onEnd e384 (fun v387 => ∃
 b388, v387 = AVal.bool b388 ∧ ifB b388 (call f_rd_need [AVal.ptr r 0, AVal.str [40]] H385 i386 fun e389 H390 i391 => onEnd e389 (fun v392 => ∃ n393 s394 n395 n396 n397, v392 = AVal.agg [iv
 n393, AVal.str s394, iv n395, iv n396, iv n397] ∧ call f_rd_typ [AVal.ptr r 0] H390 i391 fun e398 H399 i400 => onEnd e398 (fun v401 => ∃ n402 s403 n404 n405 n406 v407, v401 = AVal.agg [iv
 n402, AVal.str s403, iv n404, iv n405, iv n406, v407] ∧ ∃ H408, H408 = newB i400 [iv 0, AVal.str [], iv 0, iv 0, iv 0, AVal.nilSlice] H399 ∧ ∃ H409, stC H408 (AVal.ptr i400 0) [iv
 n402, AVal.str s403, iv n404, iv n405, iv n406, v407] = some H409 ∧ call f_rd_need [AVal.ptr r 0, AVal.str [44]] H409 (i400 + 1) fun e410 H411 i412 => onEnd e410 (fun v413 => ∃ n414 s415
 n416 n417 n418, v413 = AVal.agg [iv n414, AVal.str s415, iv n416, iv n417, iv n418] ∧ call f_rd_expr [AVal.ptr r 0] H411 i412 fun e419 H420 i421 => onEnd e419 (fun v422 => ∃ n423 s424 n425
 n426 n427 v428, v422 = AVal.agg [iv n423, AVal.str s424, iv n425, iv n426, iv n427, v428] ∧ ∃ H429, H429 = newB i421 [iv 0, AVal.str [], iv 0, iv 0, iv 0, AVal.nilSlice] H420 ∧ ∃
 H430, stC H429 (AVal.ptr i421 0) [iv n423, AVal.str s424, iv n425, iv n426, iv n427, v428] = some H430 ∧ call f_rd_need [AVal.ptr r 0, AVal.str [41]] H430 (i421 + 1) fun e431 H432 i433 =>
 onEnd e431 (fun v434 => ∃ n435 s436 n437 n438 n439, v434 = AVal.agg [iv n435, AVal.str s436, iv n437, iv n438, iv n439] ∧ ∃ n440 s441 n442 n443 n444, ldN H432 5 (AVal.ptr i3 0) =
 some (AVal.agg [iv n440, AVal.str s441, iv n442, iv n443, iv n444]) ∧ ∃ n445 s446 n447 n448 n449 v450, ldN H432 6 (AVal.ptr i400 0) = some (AVal.agg [iv n445, AVal.str s446, iv
 n447, iv n448, iv n449, v450]) ∧ ∃ n451 s452 n453 n454 n455 v456, ldN H432 6 (AVal.ptr i421 0) = some (AVal.agg [iv n451, AVal.str s452, iv n453, iv n454, iv n455, v456]) ∧ ∃ H457,
 H457 = newB i433 [iv n445, AVal.str s446, iv n447, iv n448, iv n449, v450, iv n451, AVal.str s452, iv n453, iv n454, iv n455, v456] H432 ∧ call f_p_node [AVal.agg [iv n440, AVal.str s441,
 iv n442, iv n443, iv n444], iv 34, AVal.str [], AVal.slice i433 0 2 6 true] H457 (i433 + 1) fun e458 H459 i460 => onEnd e458 (fun v461 => ∃ n462 s463 n464 n465 n466 v467, v461 =
 AVal.agg [iv n462, AVal.str s463, iv n464, iv n465, iv n466, v467] ∧ ∃ H468, stC H459 (AVal.ptr nx 0) [iv n462, AVal.str s463, iv n464, iv n465, iv n466, v467] = some H468 ∧ ∃ n469
 s470 n471 n472 n473 v474, ldN H468 6 (AVal.ptr nx 0) = some (AVal.agg [iv n469, AVal.str s470, iv n471, iv n472, iv n473, v474]) ∧ K (AEnd.ret (AVal.agg [iv n469, AVal.str s470, iv
 n471, iv n472, iv n473, v474])) H468 i460) fun l475 => K (AEnd.pan l475) H459 i460) fun l476 => K (AEnd.pan l476) H432 i433) fun l477 => K (AEnd.pan l477) H420 i421) fun l478 => K
 (AEnd.pan l478) H411 i412) fun l479 => K (AEnd.pan l479) H399 i400) fun l480 => K (AEnd.pan l480) H390 i391) (call f_rd_has [AVal.ptr r 0, AVal.str [105, 110, 112, 117, 116]] H385 i386
 fun e481 H482 i483 => onEnd e481 (fun v484 => ∃ b485, v484 = AVal.bool b485 ∧ ifB b485 (call f_rd_need [AVal.ptr r 0, AVal.str [40]] H482 i483 fun e486 H487 i488 => onEnd e486 (fun v489 =>
 ∃ n490 s491 n492 n493 n494, v489 = AVal.agg [iv n490, AVal.str s491, iv n492, iv n493, iv n494] ∧ call f_rd_need [AVal.ptr r 0, AVal.str [41]] H487 i488 fun e495 H496 i497 => onEnd e495
 (fun v498 => ∃ n499 s500 n501 n502 n503, v498 = AVal.agg [iv n499, AVal.str s500, iv n501, iv n502, iv n503] ∧ ∃ n504 s505 n506 n507 n508, ldN H496 5 (AVal.ptr i3 0) = some
 (AVal.agg [iv n504, AVal.str s505, iv n506, iv n507, iv n508]) ∧ call f_p_node [AVal.agg [iv n504, AVal.str s505, iv n506, iv n507, iv n508], iv 36, AVal.str [], AVal.nilSlice] H496 i497
 fun e509 H510 i511 => onEnd e509 (fun v512 => ∃ n513 s514 n515 n516 n517 v518, v512 = AVal.agg [iv n513, AVal.str s514, iv n515, iv n516, iv n517, v518] ∧ ∃ H519, stC H510 (AVal.ptr
 nx 0) [iv n513, AVal.str s514, iv n515, iv n516, iv n517, v518] = some H519 ∧ ∃ n520 s521 n522 n523 n524 v525, ldN H519 6 (AVal.ptr nx 0) = some (AVal.agg [iv n520, AVal.str s521,
 iv n522, iv n523, iv n524, v525]) ∧ K (AEnd.ret (AVal.agg [iv n520, AVal.str s521, iv n522, iv n523, iv n524, v525])) H519 i511) fun l526 => K (AEnd.pan l526) H510 i511) fun l527 =>
 K (AEnd.pan l527) H496 i497) fun l528 => K (AEnd.pan l528) H487 i488) (call f_rd_fault [AVal.ptr r 0, iv 13] H482 i483 fun e529 H530 i531 => onEnd e529 (fun v532 => ∃ H533, stC H530
 (AVal.ptr nx 0) [iv 0, AVal.str [], iv 0, iv 0, iv 0, AVal.nilSlice] = some H533 ∧ ∃ n534 s535 n536 n537 n538 v539, ldN H533 6 (AVal.ptr nx 0) = some (AVal.agg [iv n534, AVal.str
 s535, iv n536, iv n537, iv n538, v539]) ∧ K (AEnd.ret (AVal.agg [iv n534, AVal.str s535, iv n536, iv n537, iv n538, v539])) H533 i531) fun l540 => K (AEnd.pan l540) H530 i531)) fun
 l541 => K (AEnd.pan l541) H482 i483)) fun l542 => K (AEnd.pan l542) H385 i386)) fun l543 => K (AEnd.pan l543) H335 i336)) fun l544 => K (AEnd.pan l544) H285 i286)) fun l545 => K
 (AEnd.pan l545) H262 i263)) fun l546 => K (AEnd.pan l546) H234 i235)) fun l547 => K (AEnd.pan l547) H206 i207)) fun l548 => K (AEnd.pan l548) H178 i179)))) fun l549 => K (AEnd.pan
 l549) H2 i3
theorem Frd_prime_eq (call : CallP) (lp : Nat → LoopP) (lv : LeaveP) (lvc : LeaveC) (r : Nat) (H : Heap) (nx : Nat) (K : EndP) : vBody PG call lp f_rd_prime [AVal.ptr r 0] H nx (endK PG lv lvc K) = Frd_prime call lp lv lvc r H nx K := by kernel_rfl
def Frd_name (call : CallP) (lp : Nat → LoopP) (lv : LeaveP) (lvc : LeaveC) (r : Nat) (H : Heap) (nx : Nat) (K : EndP) : Prop :=
 ∃ H0, H0 = newB nx [iv 0, AVal.str [], iv 0, iv 0, iv 0] H ∧ call f_rd_now [AVal.ptr r 0] H0 (nx + 1) fun e1 H2 i3 => onEnd e1 (fun v4 => ∃ n5 s6 n7 n8 n9, v4 = AVal.agg [iv n5, AVal.str
 s6, iv n7, iv n8, iv n9] ∧ ifB (!decide (n5 = 2)) (call f_rd_fault [AVal.ptr r 0, iv 13] H2 i3 fun e10 H11 i12 => onEnd e10 (fun v13 => call f_rd_next [AVal.ptr r 0] H11 i12 fun e14 H15 i16 =>
 onEnd e14 (fun v17 => ∃ n18 s19 n20 n21 n22, v17 = AVal.agg [iv n18, AVal.str s19, iv n20, iv n21, iv n22] ∧ ∃ H23, stC H15 (AVal.ptr nx 0) [iv n18, AVal.str s19, iv n20, iv n21, iv
 n22] = some H23 ∧ ∃ n24 s25 n26 n27 n28, ldN H23 5 (AVal.ptr nx 0) = some (AVal.agg [iv n24, AVal.str s25, iv n26, iv n27, iv n28]) ∧ K (AEnd.ret (AVal.agg [iv n24, AVal.str s25, iv
 n26, iv n27, iv n28])) H23 i16) fun l29 => K (AEnd.pan l29) H15 i16) fun l30 => K (AEnd.pan l30) H11 i12) (call f_rd_next [AVal.ptr r 0] H2 i3 fun e31 H32 i33 => onEnd e31 (fun v34 => ∃
 n35 s36 n37 n38 n39, v34 = AVal.agg [iv n35, AVal.str s36, iv n37, iv n38, iv n39] ∧ ∃ H40, stC H32 (AVal.ptr nx 0) [iv n35, AVal.str s36, iv n37, iv n38, iv n39] = some H40 ∧ ∃ n41
 s42 n43 n44 n45, ldN H40 5 (AVal.ptr nx 0) = some (AVal.agg [iv n41, AVal.str s42, iv n43, iv n44, iv n45]) ∧ K (AEnd.ret (AVal.agg [iv n41, AVal.str s42, iv n43, iv n44, iv n45]))
 H40 i33) fun l46 => K (AEnd.pan l46) H32 i33)) fun l47 => K (AEnd.pan l47) H2 i3
theorem Frd_name_eq (call : CallP) (lp : Nat → LoopP) (lv : LeaveP) (lvc : LeaveC) (r : Nat) (H : Heap) (nx : Nat) (K : EndP) : vBody PG call lp f_rd_name [AVal.ptr r 0] H nx (endK PG lv lvc K) = Frd_name call lp lv lvc r H nx K := by kernel_rfl
def Frd_is (call : CallP) (lp : Nat → LoopP) (lv : LeaveP) (lvc : LeaveC) (r : Nat) (s : List UInt8) (H : Heap) (nx : Nat) (K : EndP) : Prop :=
 call f_rd_now [AVal.ptr r 0] H nx fun e0 H1 i2 => onEnd e0 (fun v3 => ∃ n4 s5 n6 n7 n8, v3 = AVal.agg [iv n4, AVal.str s5, iv n6, iv n7, iv n8] ∧ ∃ H9, H9 = newB i2 [iv 0, AVal.str [], iv
 0, iv 0, iv 0] H1 ∧ ∃ H10, stC H9 (AVal.ptr i2 0) [iv n4, AVal.str s5, iv n6, iv n7, iv n8] = some H10 ∧ ∃ v11, some (AVal.ptr i2 0) = some v11 ∧ ∃ n12 : Int, ld1 H10 v11 = some (iv
 n12) ∧ ifB (decide (n12 = 3)) (∃ v13, some (AVal.ptr i2 1) = some v13 ∧ ∃ s14, ld1 H10 v13 = some (AVal.str s14) ∧ K (AEnd.ret (AVal.bool (s14 == s))) H10 (i2 + 1)) (∃ v15, some
 (AVal.ptr i2 0) = some v15 ∧ ∃ n16 : Int, ld1 H10 v15 = some (iv n16) ∧ ifB (decide (n16 = 6)) (∃ v17, some (AVal.ptr i2 1) = some v17 ∧ ∃ s18, ld1 H10 v17 = some (AVal.str s18) ∧ K
 (AEnd.ret (AVal.bool (s18 == s))) H10 (i2 + 1)) (∃ v19, some (AVal.ptr i2 0) = some v19 ∧ ∃ n20 : Int, ld1 H10 v19 = some (iv n20) ∧ ifB (decide (n20 = 1)) (∃ v21, some (AVal.ptr i2
 1) = some v21 ∧ ∃ s22, ld1 H10 v21 = some (AVal.str s22) ∧ K (AEnd.ret (AVal.bool (s22 == s))) H10 (i2 + 1)) (K (AEnd.ret (AVal.bool false)) H10 (i2 + 1))))) fun l23 => K (AEnd.pan
 l23) H1 i2
theorem Frd_is_eq (call : CallP) (lp : Nat → LoopP) (lv : LeaveP) (lvc : LeaveC) (r : Nat) (s : List UInt8) (H : Heap) (nx : Nat) (K : EndP) : vBody PG call lp f_rd_is [AVal.ptr r 0, AVal.str s] H nx (endK PG lv lvc K) = Frd_is call lp lv lvc r s H nx K := by kernel_rfl
def Frd_has (call : CallP) (lp : Nat → LoopP) (lv : LeaveP) (lvc : LeaveC) (r : Nat) (s : List UInt8) (H : Heap) (nx : Nat) (K : EndP) : Prop :=
 call f_rd_is [AVal.ptr r 0, AVal.str s] H nx fun e0 H1 i2 => onEnd e0 (fun v3 => ∃ b4, v3 = AVal.bool b4 ∧ ifB (!b4) (K (AEnd.ret (AVal.bool false)) H1 i2) (true = true ∧ ∃ v5, some
 (AVal.ptr r 1) = some v5 ∧ ∃ n6 : Int, ld1 H1 v5 = some (iv n6) ∧ true = true ∧ ∃ v7, some (AVal.ptr r 1) = some v7 ∧ true = true ∧ ∃ H8, stC H1 v7 [iv (IntKind.i64.wrap (n6 + 1))]
 = some H8 ∧ K (AEnd.ret (AVal.bool true)) H8 i2)) fun l9 => K (AEnd.pan l9) H1 i2
theorem Frd_has_eq (call : CallP) (lp : Nat → LoopP) (lv : LeaveP) (lvc : LeaveC) (r : Nat) (s : List UInt8) (H : Heap) (nx : Nat) (K : EndP) : vBody PG call lp f_rd_has [AVal.ptr r 0, AVal.str s] H nx (endK PG lv lvc K) = Frd_has call lp lv lvc r s H nx K := by kernel_rfl
def Frd_need (call : CallP) (lp : Nat → LoopP) (lv : LeaveP) (lvc : LeaveC) (r : Nat) (s : List UInt8) (H : Heap) (nx : Nat) (K : EndP) : Prop :=
 ∃ H0, H0 = newB nx [iv 0, AVal.str [], iv 0, iv 0, iv 0] H ∧ call f_rd_now [AVal.ptr r 0] H0 (nx + 1) fun e1 H2 i3 => onEnd e1 (fun v4 => ∃ n5 s6 n7 n8 n9, v4 = AVal.agg [iv n5, AVal.str
 s6, iv n7, iv n8, iv n9] ∧ ∃ H10, H10 = newB i3 [iv 0, AVal.str [], iv 0, iv 0, iv 0] H2 ∧ ∃ H11, stC H10 (AVal.ptr i3 0) [iv n5, AVal.str s6, iv n7, iv n8, iv n9] = some H11 ∧ call
 42 [AVal.ptr r 0, AVal.str s] H11 (i3 + 1) fun e12 H13 i14 => onEnd e12 (fun v15 => ∃ b16, v15 = AVal.bool b16 ∧ ifB (!b16) (call f_rd_fault [AVal.ptr r 0, iv 13] H13 i14 fun e17 H18 i19 =>
 onEnd e17 (fun v20 => ∃ n21 s22 n23 n24 n25, ldN H18 5 (AVal.ptr i3 0) = some (AVal.agg [iv n21, AVal.str s22, iv n23, iv n24, iv n25]) ∧ ∃ H26, stC H18 (AVal.ptr nx 0) [iv n21,
 AVal.str s22, iv n23, iv n24, iv n25] = some H26 ∧ ∃ n27 s28 n29 n30 n31, ldN H26 5 (AVal.ptr nx 0) = some (AVal.agg [iv n27, AVal.str s28, iv n29, iv n30, iv n31]) ∧ K (AEnd.ret
 (AVal.agg [iv n27, AVal.str s28, iv n29, iv n30, iv n31])) H26 i19) fun l32 => K (AEnd.pan l32) H18 i19) (∃ n33 s34 n35 n36 n37, ldN H13 5 (AVal.ptr i3 0) = some (AVal.agg [iv n33,
 AVal.str s34, iv n35, iv n36, iv n37]) ∧ ∃ H38, stC H13 (AVal.ptr nx 0) [iv n33, AVal.str s34, iv n35, iv n36, iv n37] = some H38 ∧ ∃ n39 s40 n41 n42 n43, ldN H38 5 (AVal.ptr nx 0)
 = some (AVal.agg [iv n39, AVal.str s40, iv n41, iv n42, iv n43]) ∧ K (AEnd.ret (AVal.agg [iv n39, AVal.str s40, iv n41, iv n42, iv n43])) H38 i14)) fun l44 => K (AEnd.pan l44) H13
 i14) fun l45 => K (AEnd.pan l45) H2 i3
theorem Frd_need_eq (call : CallP) (lp : Nat → LoopP) (lv : LeaveP) (lvc : LeaveC) (r : Nat) (s : List UInt8) (H : Heap) (nx : Nat) (K : EndP) : vBody PG call lp f_rd_need [AVal.ptr r 0, AVal.str s] H nx (endK PG lv lvc K) = Frd_need call lp lv lvc r s H nx K := by kernel_rfl
def Frd_maybe (call : CallP) (lp : Nat → LoopP) (lv : LeaveP) (lvc : LeaveC) (r : Nat) (s : List UInt8) (H : Heap) (nx : Nat) (K : EndP) : Prop :=
 ∃ H0, H0 = newB nx [iv 0, AVal.str [], iv 0, iv 0, iv 0, AVal.nilSlice] H ∧ call f_rd_has [AVal.ptr r 0, AVal.str s] H0 (nx + 1) fun e1 H2 i3 => onEnd e1 (fun v4 => ∃ b5, v4 = AVal.bool
 b5 ∧ ifB (!b5) (call f_p_none [] H2 i3 fun e6 H7 i8 => onEnd e6 (fun v9 => ∃ n10 s11 n12 n13 n14 v15, v9 = AVal.agg [iv n10, AVal.str s11, iv n12, iv n13, iv n14, v15] ∧ ∃ H16, stC H7
 (AVal.ptr nx 0) [iv n10, AVal.str s11, iv n12, iv n13, iv n14, v15] = some H16 ∧ ∃ n17 s18 n19 n20 n21 v22, ldN H16 6 (AVal.ptr nx 0) = some (AVal.agg [iv n17, AVal.str s18, iv n19,
 iv n20, iv n21, v22]) ∧ K (AEnd.ret (AVal.agg [iv n17, AVal.str s18, iv n19, iv n20, iv n21, v22])) H16 i8) fun l23 => K (AEnd.pan l23) H7 i8) (call f_rd_expr [AVal.ptr r 0] H2 i3 fun e24
 H25 i26 => onEnd e24 (fun v27 => ∃ n28 s29 n30 n31 n32 v33, v27 = AVal.agg [iv n28, AVal.str s29, iv n30, iv n31, iv n32, v33] ∧ ∃ H34, stC H25 (AVal.ptr nx 0) [iv n28, AVal.str
 s29, iv n30, iv n31, iv n32, v33] = some H34 ∧ ∃ n35 s36 n37 n38 n39 v40, ldN H34 6 (AVal.ptr nx 0) = some (AVal.agg [iv n35, AVal.str s36, iv n37, iv n38, iv n39, v40]) ∧ K
 (AEnd.ret (AVal.agg [iv n35, AVal.str s36, iv n37, iv n38, iv n39, v40])) H34 i26) fun l41 => K (AEnd.pan l41) H25 i26)) fun l42 => K (AEnd.pan l42) H2 i3
theorem Frd_maybe_eq (call : CallP) (lp : Nat → LoopP) (lv : LeaveP) (lvc : LeaveC) (r : Nat) (s : List UInt8) (H : Heap) (nx : Nat) (K : EndP) : vBody PG call lp f_rd_maybe [AVal.ptr r 0, AVal.str s] H nx (endK PG lv lvc K) = Frd_maybe call lp lv lvc r s H nx K := by kernel_rfl
def Frd_list (call : CallP) (lp : Nat → LoopP) (lv : LeaveP) (lvc : LeaveC) (r : Nat) (g : Nat) (fs : List AVal) (cs : List AVal) (H : Heap) (nx : Nat) (K : EndP) : Prop :=
 call f_rd_need [AVal.ptr r 0, AVal.str [123]] H nx fun e0 H1 i2 => onEnd e0 (fun v3 => ∃ n4 s5 n6 n7 n8, v3 = AVal.agg [iv n4, AVal.str s5, iv n6, iv n7, iv n8] ∧ call f_rd_gaps [AVal.ptr r 0] H1
 i2 fun e9 H10 i11 => onEnd e9 (fun v12 => lp 21 (subAt (codeOf PG 44) [1, 1, 1, 1, 0, 0, 0]) (envL (AVal.tuple []) [(9, v12), (8, AVal.ptr r 0), (7, AVal.agg [iv n4, AVal.str
 s5, iv n6, iv n7, iv n8]), (6, AVal.ptr r 0), (5, AVal.nilSlice), (4, AVal.nilSlice), (1, AVal.func (Fn.func g) fs cs), (0, AVal.ptr r 0)]) H10 i11 [] none (contAt PG call
 (lp 21) 21 (codeOf PG 44) [1, 1, 1, 1, 0, 0] (endK PG lv lvc K (resOf PG 44)))) fun l13 => K (AEnd.pan l13) H10 i11) fun l14 => K (AEnd.pan l14) H1 i2
theorem Frd_list_eq (call : CallP) (lp : Nat → LoopP) (lv : LeaveP) (lvc : LeaveC) (r : Nat) (g : Nat) (fs : List AVal) (cs : List AVal) (H : Heap) (nx : Nat) (K : EndP) : vBody PG call lp f_rd_list [AVal.ptr r 0, AVal.func (.func g) fs cs] H nx (endK PG lv lvc K) = Frd_list call lp lv lvc r g fs cs H nx K := by kernel_rfl
def Frd_row (call : CallP) (lp : Nat → LoopP) (lv : LeaveP) (lvc : LeaveC) (r : Nat) (g : Nat) (fs : List AVal) (cs : List AVal) (H : Heap) (nx : Nat) (K : EndP) : Prop :=
 call f_rd_need [AVal.ptr r 0, AVal.str [40]] H nx fun e0 H1 i2 => onEnd e0 (fun v3 => ∃ n4 s5 n6 n7 n8, v3 = AVal.agg [iv n4, AVal.str s5, iv n6, iv n7, iv n8] ∧ call f_rd_has [AVal.ptr r 0,
 AVal.str [41]] H1 i2 fun e9 H10 i11 => onEnd e9 (fun v12 => ∃ b13, v12 = AVal.bool b13 ∧ ifB b13 (K (AEnd.ret AVal.nilSlice) H10 i11) (lp 22 (subAt (codeOf PG 48) [1, 1, 1,
 1, 0, 0]) (envL (AVal.tuple []) [(9, AVal.bool false), (9, AVal.bool b13), (8, AVal.ptr r 0), (7, AVal.agg [iv n4, AVal.str s5, iv n6, iv n7, iv n8]), (6, AVal.ptr r 0), (5,
 AVal.nilSlice), (4, AVal.nilSlice), (1, AVal.func (Fn.func g) fs cs), (0, AVal.ptr r 0)]) H10 i11 [] none (contAt PG call (lp 22) 22 (codeOf PG 48) [1, 1, 1, 1, 0]
 (endK PG lv lvc K (resOf PG 48))))) fun l14 => K (AEnd.pan l14) H10 i11) fun l15 => K (AEnd.pan l15) H1 i2
theorem Frd_row_eq (call : CallP) (lp : Nat → LoopP) (lv : LeaveP) (lvc : LeaveC) (r : Nat) (g : Nat) (fs : List AVal) (cs : List AVal) (H : Heap) (nx : Nat) (K : EndP) : vBody PG call lp f_rd_row [AVal.ptr r 0, AVal.func (.func g) fs cs] H nx (endK PG lv lvc K) = Frd_row call lp lv lvc r g fs cs H nx K := by kernel_rfl
def Frd_one (call : CallP) (lp : Nat → LoopP) (lv : LeaveP) (lvc : LeaveC) (r : Nat) (g : Nat) (fs : List AVal) (cs : List AVal) (H : Heap) (nx : Nat) (K : EndP) : Prop :=
 ∃ H0, H0 = newB nx [iv 0, AVal.str [], iv 0, iv 0, iv 0, AVal.nilSlice] H ∧ call f_rd_need [AVal.ptr r 0, AVal.str [40]] H0 (nx + 1) fun e1 H2 i3 => onEnd e1 (fun v4 => ∃ n5 s6 n7 n8 n9,
 v4 = AVal.agg [iv n5, AVal.str s6, iv n7, iv n8, iv n9] ∧ ∃ x10 l11, callTo PG (AVal.func (Fn.func g) fs cs) [] = some (x10, l11) ∧ call x10 l11 H2 i3 fun e12 H13 i14 =>
 onEnd e12 (fun v15 => ∃ n16 s17 n18 n19 n20 v21, v15 = AVal.agg [iv n16, AVal.str s17, iv n18, iv n19, iv n20, v21] ∧ ∃ H22, H22 = newB i14 [iv 0, AVal.str [], iv 0, iv 0, iv 0,
 AVal.nilSlice] H13 ∧ ∃ H23, stC H22 (AVal.ptr i14 0) [iv n16, AVal.str s17, iv n18, iv n19, iv n20, v21] = some H23 ∧ call f_rd_need [AVal.ptr r 0, AVal.str [41]] H23 (i14 + 1) fun e24 H25
 i26 => onEnd e24 (fun v27 => ∃ n28 s29 n30 n31 n32, v27 = AVal.agg [iv n28, AVal.str s29, iv n30, iv n31, iv n32] ∧ ∃ n33 s34 n35 n36 n37 v38, ldN H25 6 (AVal.ptr i14 0) = some
 (AVal.agg [iv n33, AVal.str s34, iv n35, iv n36, iv n37, v38]) ∧ ∃ H39, stC H25 (AVal.ptr nx 0) [iv n33, AVal.str s34, iv n35, iv n36, iv n37, v38] = some H39 ∧ ∃ n40 s41 n42 n43
 n44 v45, ldN H39 6 (AVal.ptr nx 0) = some (AVal.agg [iv n40, AVal.str s41, iv n42, iv n43, iv n44, v45]) ∧ K (AEnd.ret (AVal.agg [iv n40, AVal.str s41, iv n42, iv n43, iv n44,
 v45])) H39 i26) fun l46 => K (AEnd.pan l46) H25 i26) fun l47 => K (AEnd.pan l47) H13 i14) fun l48 => K (AEnd.pan l48) H2 i3
theorem Frd_one_eq (call : CallP) (lp : Nat → LoopP) (lv : LeaveP) (lvc : LeaveC) (r : Nat) (g : Nat) (fs : List AVal) (cs : List AVal) (H : Heap) (nx : Nat) (K : EndP) : vBody PG call lp f_rd_one [AVal.ptr r 0, AVal.func (.func g) fs cs] H nx (endK PG lv lvc K) = Frd_one call lp lv lvc r g fs cs H nx K := by kernel_rfl
def Frd_fault (call : CallP) (lp : Nat → LoopP) (lv : LeaveP) (lvc : LeaveC) (r : Nat) (e : Int) (H : Heap) (nx : Nat) (K : EndP) : Prop :=
 call f_rd_now [AVal.ptr r 0] H nx fun e0 H1 i2 => onEnd e0 (fun v3 => ∃ n4 s5 n6 n7 n8, v3 = AVal.agg [iv n4, AVal.str s5, iv n6, iv n7, iv n8] ∧ call f_p_place [AVal.agg [iv n4, AVal.str s5, iv
 n6, iv n7, iv n8]] H1 i2 fun e9 H10 i11 => onEnd e9 (fun v12 => ∃ n13 n14 : Int, v12 = AVal.agg [iv n13, iv n14] ∧ true = true ∧ ∃ x15 v16, AVal.iface t_fault (AVal.agg [iv n13, iv n14,
 iv e]) = AVal.iface x15 v16 ∧ K (AEnd.pan [(AVal.iface x15 v16, false)]) H10 i11) fun l17 => K (AEnd.pan l17) H10 i11) fun l18 => K (AEnd.pan l18) H1 i2
theorem Frd_fault_eq (call : CallP) (lp : Nat → LoopP) (lv : LeaveP) (lvc : LeaveC) (r : Nat) (e : Int) (H : Heap) (nx : Nat) (K : EndP) : vBody PG call lp f_rd_fault [AVal.ptr r 0, iv e] H nx (endK PG lv lvc K) = Frd_fault call lp lv lvc r e H nx K := by kernel_rfl
def Frd_binary (call : CallP) (lp : Nat → LoopP) (lv : LeaveP) (lvc : LeaveC) (r : Nat) (k : Int) (H : Heap) (nx : Nat) (K : EndP) : Prop :=
 ∃ H0, H0 = newB nx [iv 0, AVal.str [], iv 0, iv 0, iv 0, AVal.nilSlice] H ∧ call f_rd_unary [AVal.ptr r 0] H0 (nx + 1) fun e1 H2 i3 => onEnd e1 (fun v4 => ∃ n5 s6 n7 n8 n9 v10, v4 =
 AVal.agg [iv n5, AVal.str s6, iv n7, iv n8, iv n9, v10] ∧ ∃ H11, H11 = newB i3 [iv 0, AVal.str [], iv 0, iv 0, iv 0, AVal.nilSlice] H2 ∧ ∃ H12, stC H11 (AVal.ptr i3 0) [iv n5,
 AVal.str s6, iv n7, iv n8, iv n9, v10] = some H12 ∧ lp 36 (subAt (codeOf PG 73) [1, 1, 0, 0]) (envL (AVal.tuple []) [(5, AVal.ptr i3 0), (9, AVal.agg [iv n5, AVal.str s6, iv
 n7, iv n8, iv n9, v10]), (8, AVal.ptr r 0), (4, AVal.ptr nx 0), (1, iv k), (0, AVal.ptr r 0)]) H12 (i3 + 1) [] none (contAt PG call (lp 36) 36 (codeOf PG 73) [1, 1, 0]
 (endK PG lv lvc K (resOf PG 73)))) fun l13 => K (AEnd.pan l13) H2 i3
theorem Frd_binary_eq (call : CallP) (lp : Nat → LoopP) (lv : LeaveP) (lvc : LeaveC) (r : Nat) (k : Int) (H : Heap) (nx : Nat) (K : EndP) : vBody PG call lp f_rd_binary [AVal.ptr r 0, iv k] H nx (endK PG lv lvc K) = Frd_binary call lp lv lvc r k H nx K := by kernel_rfl
def Frd_dot (call : CallP) (lp : Nat → LoopP) (lv : LeaveP) (lvc : LeaveC) (r : Nat) (x0 : AVal) (x1 : AVal) (x2 : AVal) (x3 : AVal) (x4 : AVal) (x5 : AVal) (tk : Int) (tn : Int) (tl : Int) (tc : Int) (tt : List UInt8) (H : Heap) (nx : Nat) (K : EndP) : Prop :=
 ∃ H0, H0 = newBN nx [iv tk, AVal.str tt, iv tn, iv tl, iv tc].length [iv tk, AVal.str tt, iv tn, iv tl, iv tc] H ∧ ∃ H1, H1 = newBN (nx + 1) [x0, x1, x2, x3, x4, x5].length [x0, x1,
 x2, x3, x4, x5] H0 ∧ ∃ H2, H2 = newB (nx + 1 + 1) [iv 0, AVal.str [], iv 0, iv 0, iv 0, AVal.nilSlice] H1 ∧ call f_rd_has [AVal.ptr r 0, AVal.str [40]] H2 (nx + 1 + 1 + 1) fun e3 H4 i5 =>
 onEnd e3 (fun v6 => ∃ b7, v6 = AVal.bool b7 ∧ ifB b7 (call f_rd_typ [AVal.ptr r 0] H4 i5 fun e8 H9 i10 => onEnd e8 (fun v11 => ∃ n12 s13 n14 n15 n16 v17, v11 = AVal.agg [iv n12, AVal.str
 s13, iv n14, iv n15, iv n16, v17] ∧ ∃ H18, H18 = newB i10 [iv 0, AVal.str [], iv 0, iv 0, iv 0, AVal.nilSlice] H9 ∧ ∃ H19, stC H18 (AVal.ptr i10 0) [iv n12, AVal.str s13, iv n14, iv
 n15, iv n16, v17] = some H19 ∧ call f_rd_need [AVal.ptr r 0, AVal.str [41]] H19 (i10 + 1) fun e20 H21 i22 => onEnd e20 (fun v23 => ∃ n24 s25 n26 n27 n28, v23 = AVal.agg [iv n24, AVal.str
 s25, iv n26, iv n27, iv n28] ∧ ∃ n29 s30 n31 n32 n33, ldN H21 5 (AVal.ptr nx 0) = some (AVal.agg [iv n29, AVal.str s30, iv n31, iv n32, iv n33]) ∧ ∃ n34 s35 n36 n37 n38 v39, ldN H21
 6 (AVal.ptr (nx + 1) 0) = some (AVal.agg [iv n34, AVal.str s35, iv n36, iv n37, iv n38, v39]) ∧ ∃ n40 s41 n42 n43 n44 v45, ldN H21 6 (AVal.ptr i10 0) = some (AVal.agg [iv n40,
 AVal.str s41, iv n42, iv n43, iv n44, v45]) ∧ ∃ H46, H46 = newB i22 [iv n34, AVal.str s35, iv n36, iv n37, iv n38, v39, iv n40, AVal.str s41, iv n42, iv n43, iv n44, v45] H21 ∧ call
 28 [AVal.agg [iv n29, AVal.str s30, iv n31, iv n32, iv n33], iv 37, AVal.str [], AVal.slice i22 0 2 6 true] H46 (i22 + 1) fun e47 H48 i49 => onEnd e47 (fun v50 => ∃ n51 s52 n53 n54
 n55 v56, v50 = AVal.agg [iv n51, AVal.str s52, iv n53, iv n54, iv n55, v56] ∧ ∃ H57, stC H48 (AVal.ptr (nx + 1 + 1) 0) [iv n51, AVal.str s52, iv n53, iv n54, iv n55, v56] = some H57
 ∧ ∃ n58 s59 n60 n61 n62 v63, ldN H57 6 (AVal.ptr (nx + 1 + 1) 0) = some (AVal.agg [iv n58, AVal.str s59, iv n60, iv n61, iv n62, v63]) ∧ K (AEnd.ret (AVal.agg [iv n58, AVal.str s59,
 iv n60, iv n61, iv n62, v63])) H57 i49) fun l64 => K (AEnd.pan l64) H48 i49) fun l65 => K (AEnd.pan l65) H21 i22) fun l66 => K (AEnd.pan l66) H9 i10) (call f_rd_name [AVal.ptr r 0] H4 i5
 fun e67 H68 i69 => onEnd e67 (fun v70 => ∃ n71 s72 n73 n74 n75, v70 = AVal.agg [iv n71, AVal.str s72, iv n73, iv n74, iv n75] ∧ call f_rd_is [AVal.ptr r 0, AVal.str [40]] H68 i69 fun e76
 H77 i78 => onEnd e76 (fun v79 => ∃ b80, v79 = AVal.bool b80 ∧ ifB (!b80) (∃ n81 s82 n83 n84 n85, ldN H77 5 (AVal.ptr nx 0) = some (AVal.agg [iv n81, AVal.str s82, iv n83, iv n84, iv
 n85]) ∧ ∃ n86 s87 n88 n89 n90 v91, ldN H77 6 (AVal.ptr (nx + 1) 0) = some (AVal.agg [iv n86, AVal.str s87, iv n88, iv n89, iv n90, v91]) ∧ ∃ H92, H92 = newB i78 [iv n86, AVal.str
 s87, iv n88, iv n89, iv n90, v91] H77 ∧ call f_p_node [AVal.agg [iv n81, AVal.str s82, iv n83, iv n84, iv n85], iv 30, AVal.str s72, AVal.slice i78 0 1 6 true] H92 (i78 + 1) fun e93 H94
 i95 => onEnd e93 (fun v96 => ∃ n97 s98 n99 n100 n101 v102, v96 = AVal.agg [iv n97, AVal.str s98, iv n99, iv n100, iv n101, v102] ∧ ∃ H103, stC H94 (AVal.ptr (nx + 1 + 1) 0) [iv n97,
 AVal.str s98, iv n99, iv n100, iv n101, v102] = some H103 ∧ ∃ n104 s105 n106 n107 n108 v109, ldN H103 6 (AVal.ptr (nx + 1 + 1) 0) = some (AVal.agg [iv n104, AVal.str s105, iv n106,
 iv n107, iv n108, v109]) ∧ K (AEnd.ret (AVal.agg [iv n104, AVal.str s105, iv n106, iv n107, iv n108, v109])) H103 i95) fun l110 => K (AEnd.pan l110) H94 i95) (∃ n111 s112 n113 n114
 n115, ldN H77 5 (AVal.ptr nx 0) = some (AVal.agg [iv n111, AVal.str s112, iv n113, iv n114, iv n115]) ∧ ∃ n116 s117 n118 n119 n120 v121, ldN H77 6 (AVal.ptr (nx + 1) 0) = some
 (AVal.agg [iv n116, AVal.str s117, iv n118, iv n119, iv n120, v121]) ∧ ∃ H122, H122 = newB (i78 + 3) [iv n116, AVal.str s117, iv n118, iv n119, iv n120, v121] H77 ∧ ((∃ n123 s124
 n125 n126 n127, ldN H122 5 (AVal.ptr nx 0) = some (AVal.agg [iv n123, AVal.str s124, iv n125, iv n126, iv n127]) ∧ AVal.agg [iv n123, AVal.str s124, iv n125, iv n126, iv n127] =
 AVal.agg [iv n111, AVal.str s112, iv n113, iv n114, iv n115]) ∧ (∃ n128 s129 n130 n131 n132 v133, ldN H122 6 (AVal.ptr (nx + 1) 0) = some (AVal.agg [iv n128, AVal.str s129, iv n130,
 iv n131, iv n132, v133]) ∧ AVal.agg [iv n128, AVal.str s129, iv n130, iv n131, iv n132, v133] = AVal.agg [iv n116, AVal.str s117, iv n118, iv n119, iv n120, v121]) ∧ True) ∧ call 48
 [AVal.ptr r 0, AVal.func (Fn.func 69) [AVal.ptr r 0] []] H122 (i78 + 11) fun e134 H135 i136 => onEnd e134 (fun v137 => ((∃ n138 s139 n140 n141 n142, ldN H135 5 (AVal.ptr nx 0) =
 some (AVal.agg [iv n138, AVal.str s139, iv n140, iv n141, iv n142]) ∧ AVal.agg [iv n138, AVal.str s139, iv n140, iv n141, iv n142] = AVal.agg [iv n111, AVal.str s112, iv n113, iv
 n114, iv n115]) ∧ (∃ n143 s144 n145 n146 n147 v148, ldN H135 6 (AVal.ptr (nx + 1) 0) = some (AVal.agg [iv n143, AVal.str s144, iv n145, iv n146, iv n147, v148]) ∧ AVal.agg [iv n143,
 AVal.str s144, iv n145, iv n146, iv n147, v148] = AVal.agg [iv n116, AVal.str s117, iv n118, iv n119, iv n120, v121]) ∧ True) ∧ ∃ i149 l150, aSrc 6 H135 v137 = some (i149, l150) ∧
 allCell l150 = true ∧ ∃ v151 H152 i153, appC H135 i136 6 72 (AVal.slice (i78 + 3) 0 1 6 true) i149 l150 = some (v151, H152, i153) ∧ ((∃ n154 s155 n156 n157 n158, ldN H152 5
 (AVal.ptr nx 0) = some (AVal.agg [iv n154, AVal.str s155, iv n156, iv n157, iv n158]) ∧ AVal.agg [iv n154, AVal.str s155, iv n156, iv n157, iv n158] = AVal.agg [iv n111, AVal.str
 s112, iv n113, iv n114, iv n115]) ∧ True) ∧ call f_p_node [AVal.agg [iv n111, AVal.str s112, iv n113, iv n114, iv n115], iv 31, AVal.str s72, v151] H152 i153 fun e159 H160 i161 => onEnd
 e159 (fun v162 => ∃ n163 s164 n165 n166 n167 v168, v162 = AVal.agg [iv n163, AVal.str s164, iv n165, iv n166, iv n167, v168] ∧ True ∧ ∃ H169, stC H160 (AVal.ptr (nx + 1 + 1) 0) [iv
 n163, AVal.str s164, iv n165, iv n166, iv n167, v168] = some H169 ∧ True ∧ ∃ n170 s171 n172 n173 n174 v175, ldN H169 6 (AVal.ptr (nx + 1 + 1) 0) = some (AVal.agg [iv n170, AVal.str
 s171, iv n172, iv n173, iv n174, v175]) ∧ K (AEnd.ret (AVal.agg [iv n170, AVal.str s171, iv n172, iv n173, iv n174, v175])) H169 i161) fun l176 => K (AEnd.pan l176) H160 i161) fun
 l177 => K (AEnd.pan l177) H135 i136)) fun l178 => K (AEnd.pan l178) H77 i78) fun l179 => K (AEnd.pan l179) H68 i69)) fun l180 => K (AEnd.pan l180) H4 i5
theorem Frd_dot_eq (call : CallP) (lp : Nat → LoopP) (lv : LeaveP) (lvc : LeaveC) (r : Nat) (x0 : AVal) (x1 : AVal) (x2 : AVal) (x3 : AVal) (x4 : AVal) (x5 : AVal) (tk : Int) (tn : Int) (tl : Int) (tc : Int) (tt : List UInt8) (H : Heap) (nx : Nat) (K : EndP) : vBody PG call lp f_rd_dot [AVal.ptr r 0, AVal.agg [iv tk, AVal.str tt, iv tn, iv tl, iv tc], AVal.agg [x0, x1, x2, x3, x4, x5]] H nx (endK PG lv lvc K) = Frd_dot call lp lv lvc r x0 x1 x2 x3 x4 x5 tk tn tl tc tt H nx K := by kernel_rfl
def Fp_place (call : CallP) (lp : Nat → LoopP) (lv : LeaveP) (lvc : LeaveC) (tk : Int) (tn : Int) (tl : Int) (tc : Int) (tt : List UInt8) (H : Heap) (nx : Nat) (K : EndP) : Prop :=
 ∃ H0, H0 = newBN nx [iv tk, AVal.str tt, iv tn, iv tl, iv tc].length [iv tk, AVal.str tt, iv tn, iv tl, iv tc] H ∧ ∃ H1, H1 = newB (nx + 1) [iv 0, iv 0] H0 ∧ ∃ v2, some (AVal.ptr nx
 3) = some v2 ∧ ∃ n3 : Int, ld1 H1 v2 = some (iv n3) ∧ ∃ v4, some (AVal.ptr nx 4) = some v4 ∧ ∃ n5 : Int, ld1 H1 v4 = some (iv n5) ∧ true = true ∧ true = true ∧ ∃ H6, stC H1
 (AVal.ptr (nx + 1) 0) [iv n3, iv n5] = some H6 ∧ ∃ n7 n8 : Int, ldN H6 2 (AVal.ptr (nx + 1) 0) = some (AVal.agg [iv n7, iv n8]) ∧ K (AEnd.ret (AVal.agg [iv n7, iv n8])) H6 (nx + 1 +
 1)
theorem Fp_place_eq (call : CallP) (lp : Nat → LoopP) (lv : LeaveP) (lvc : LeaveC) (tk : Int) (tn : Int) (tl : Int) (tc : Int) (tt : List UInt8) (H : Heap) (nx : Nat) (K : EndP) : vBody PG call lp f_p_place [AVal.agg [iv tk, AVal.str tt, iv tn, iv tl, iv tc]] H nx (endK PG lv lvc K) = Fp_place call lp lv lvc tk tn tl tc tt H nx K := by kernel_rfl
def Fp_node (call : CallP) (lp : Nat → LoopP) (lv : LeaveP) (lvc : LeaveC) (tk : Int) (tn : Int) (tl : Int) (tc : Int) (tt : List UInt8) (k : Int) (s : List UInt8) (v : AVal) (H : Heap) (nx : Nat) (K : EndP) : Prop :=
 ∃ H0, H0 = newBN nx [iv tk, AVal.str tt, iv tn, iv tl, iv tc].length [iv tk, AVal.str tt, iv tn, iv tl, iv tc] H ∧ ∃ H1, H1 = newB (nx + 1) [iv 0, AVal.str [], iv 0, iv 0, iv 0,
 AVal.nilSlice] H0 ∧ ∃ v2, some (AVal.ptr nx 3) = some v2 ∧ ∃ n3 : Int, ld1 H1 v2 = some (iv n3) ∧ ∃ v4, some (AVal.ptr nx 4) = some v4 ∧ ∃ n5 : Int, ld1 H1 v4 = some (iv n5) ∧ true
 = true ∧ true = true ∧ true = true ∧ true = true ∧ cellv v = true ∧ ∃ H6, stC H1 (AVal.ptr (nx + 1) 0) [iv k, AVal.str s, iv 0, iv n3, iv n5, v] = some H6 ∧ ∃ n7 s8 n9 n10 n11 v12,
 ldN H6 6 (AVal.ptr (nx + 1) 0) = some (AVal.agg [iv n7, AVal.str s8, iv n9, iv n10, iv n11, v12]) ∧ K (AEnd.ret (AVal.agg [iv n7, AVal.str s8, iv n9, iv n10, iv n11, v12])) H6 (nx +
 1 + 1)
theorem Fp_node_eq (call : CallP) (lp : Nat → LoopP) (lv : LeaveP) (lvc : LeaveC) (tk : Int) (tn : Int) (tl : Int) (tc : Int) (tt : List UInt8) (k : Int) (s : List UInt8) (v : AVal) (H : Heap) (nx : Nat) (K : EndP) : vBody PG call lp f_p_node [AVal.agg [iv tk, AVal.str tt, iv tn, iv tl, iv tc], iv k, AVal.str s, v] H nx (endK PG lv lvc K) = Fp_node call lp lv lvc tk tn tl tc tt k s v H nx K := by kernel_rfl
def Fp_none (call : CallP) (lp : Nat → LoopP) (lv : LeaveP) (lvc : LeaveC) (_u : Nat) (H : Heap) (nx : Nat) (K : EndP) : Prop :=
 ∃ H0, H0 = newB nx [iv 0, AVal.str [], iv 0, iv 0, iv 0, AVal.nilSlice] H ∧ call f_p_node [AVal.agg [iv 0, AVal.str [], iv 0, iv 0, iv 0], iv 38, AVal.str [], AVal.nilSlice] H0 (nx + 1)
 fun e1 H2 i3 => onEnd e1 (fun v4 => ∃ n5 s6 n7 n8 n9 v10, v4 = AVal.agg [iv n5, AVal.str s6, iv n7, iv n8, iv n9, v10] ∧ ∃ H11, stC H2 (AVal.ptr nx 0) [iv n5, AVal.str s6, iv n7, iv
 n8, iv n9, v10] = some H11 ∧ ∃ n12 s13 n14 n15 n16 v17, ldN H11 6 (AVal.ptr nx 0) = some (AVal.agg [iv n12, AVal.str s13, iv n14, iv n15, iv n16, v17]) ∧ K (AEnd.ret (AVal.agg [iv
 n12, AVal.str s13, iv n14, iv n15, iv n16, v17])) H11 i3) fun l18 => K (AEnd.pan l18) H2 i3
theorem Fp_none_eq (call : CallP) (lp : Nat → LoopP) (lv : LeaveP) (lvc : LeaveC) (_u : Nat) (H : Heap) (nx : Nat) (K : EndP) : vBody PG call lp f_p_none ([] : List AVal) H nx (endK PG lv lvc K) = Fp_none call lp lv lvc _u H nx K := by kernel_rfl
def Fp_rank (call : CallP) (lp : Nat → LoopP) (lv : LeaveP) (lvc : LeaveC) (s : List UInt8) (H : Heap) (nx : Nat) (K : EndP) : Prop :=
 ifB (s == [124, 124]) (K (AEnd.ret (iv 1)) H nx) (ifB (s == [38, 38]) (K (AEnd.ret (iv 2)) H nx) (ifB (s == [61, 61]) (K (AEnd.ret (iv 3)) H nx) (ifB (s == [33, 61]) (K (AEnd.ret
 (iv 3)) H nx) (ifB (s == [60]) (K (AEnd.ret (iv 3)) H nx) (ifB (s == [60, 61]) (K (AEnd.ret (iv 3)) H nx) (ifB (s == [62]) (K (AEnd.ret (iv 3)) H nx) (ifB (s == [62, 61]) (K
 (AEnd.ret (iv 3)) H nx) (ifB (s == [43]) (K (AEnd.ret (iv 4)) H nx) (ifB (s == [45]) (K (AEnd.ret (iv 4)) H nx) (ifB (s == [42]) (K (AEnd.ret (iv 5)) H nx) (ifB (s == [47]) (K
 (AEnd.ret (iv 5)) H nx) (ifB (s == [37]) (K (AEnd.ret (iv 5)) H nx) (K (AEnd.ret (iv 0)) H nx)))))))))))))
theorem Fp_rank_eq (call : CallP) (lp : Nat → LoopP) (lv : LeaveP) (lvc : LeaveC) (s : List UInt8) (H : Heap) (nx : Nat) (K : EndP) : vBody PG call lp f_p_rank [AVal.str s] H nx (endK PG lv lvc K) = Fp_rank call lp lv lvc s H nx K := by kernel_rfl
def Fp_Parse (call : CallP) (lp : Nat → LoopP) (lv : LeaveP) (lvc : LeaveC) (s : List UInt8) (H : Heap) (nx : Nat) (K : EndP) : Prop :=
 ∃ H0, H0 = newB nx [iv 0, AVal.str [], iv 0, iv 0, iv 0, AVal.nilSlice] H ∧ ∃ H1, H1 = newB (nx + 1) [iv 0, iv 0] H0 ∧ ∃ H2, H2 = newB (nx + 1 + 1) [iv 0] H1 ∧ call f_tk_All [AVal.str s]
 H2 (nx + 1 + 1 + 1) fun e3 H4 i5 => onEnd e3 (fun v6 => ∃ v7 n8 s9 n10 n11 n12 n13, v6 = AVal.tuple [v7, AVal.agg [iv n8, AVal.str s9, iv n10, iv n11, iv n12], iv n13] ∧ ∃ H14, H14
 = newB i5 [iv 0, AVal.str [], iv 0, iv 0, iv 0] H4 ∧ ∃ H15, stC H14 (AVal.ptr i5 0) [iv n8, AVal.str s9, iv n10, iv n11, iv n12] = some H15 ∧ true = true ∧ ∃ H16, stC H15 (AVal.ptr
 (nx + 1 + 1) 0) [iv n13] = some H16 ∧ ∃ n17 : Int, ld1 H16 (AVal.ptr (nx + 1 + 1) 0) = some (iv n17) ∧ ifB (!decide (n17 = 0)) (∃ n18 s19 n20 n21 n22, ldN H16 5 (AVal.ptr i5 0) =
 some (AVal.agg [iv n18, AVal.str s19, iv n20, iv n21, iv n22]) ∧ ∃ n23 : Int, ld1 H16 (AVal.ptr (nx + 1 + 1) 0) = some (iv n23) ∧ ((∃ n24 s25 n26 n27 n28, ldN H16 5 (AVal.ptr i5 0)
 = some (AVal.agg [iv n24, AVal.str s25, iv n26, iv n27, iv n28]) ∧ AVal.agg [iv n24, AVal.str s25, iv n26, iv n27, iv n28] = AVal.agg [iv n18, AVal.str s19, iv n20, iv n21, iv n22])
 ∧ (∃ n29 : Int, ld1 H16 (AVal.ptr (nx + 1 + 1) 0) = some (iv n29) ∧ iv n29 = iv n23) ∧ True) ∧ call f_p_place [AVal.agg [iv n18, AVal.str s19, iv n20, iv n21, iv n22]] H16 (i5 + 1 + 7) fun
 e30 H31 i32 => onEnd e30 (fun v33 => ∃ n34 n35 : Int, v33 = AVal.agg [iv n34, iv n35] ∧ ((∃ n36 : Int, ld1 H31 (AVal.ptr (nx + 1 + 1) 0) = some (iv n36) ∧ iv n36 = iv n23) ∧ True) ∧
 ∃ H37, stC H31 (AVal.ptr nx 0) [iv 0, AVal.str [], iv 0, iv 0, iv 0, AVal.nilSlice] = some H37 ∧ ((∃ n38 : Int, ld1 H37 (AVal.ptr (nx + 1 + 1) 0) = some (iv n38) ∧ iv n38 = iv n23)
 ∧ True) ∧ ∃ H39, stC H37 (AVal.ptr (nx + 1) 0) [iv n34, iv n35] = some H39 ∧ ((∃ n40 : Int, ld1 H39 (AVal.ptr (nx + 1 + 1) 0) = some (iv n40) ∧ iv n40 = iv n23) ∧ True) ∧ true =
 true ∧ ∃ H41, stC H39 (AVal.ptr (nx + 1 + 1) 0) [iv n23] = some H41 ∧ True ∧ ∃ n42 s43 n44 n45 n46 v47, ldN H41 6 (AVal.ptr nx 0) = some (AVal.agg [iv n42, AVal.str s43, iv n44, iv
 n45, iv n46, v47]) ∧ ∃ n48 n49 : Int, ldN H41 2 (AVal.ptr (nx + 1) 0) = some (AVal.agg [iv n48, iv n49]) ∧ ∃ n50 : Int, ld1 H41 (AVal.ptr (nx + 1 + 1) 0) = some (iv n50) ∧ K
 (AEnd.ret (AVal.tuple [AVal.agg [iv n42, AVal.str s43, iv n44, iv n45, iv n46, v47], AVal.agg [iv n48, iv n49], iv n50])) H41 i32) fun l51 => K (AEnd.pan l51) H31 i32) (∃ x52 l53,
 some (13, [AVal.ptr nx 0, AVal.ptr (nx + 1) 0, AVal.ptr (nx + 1 + 1) 0]) = some (x52, l53) ∧ cellv v7 = true ∧ ∃ H54, H54 = newBN (i5 + 1) [v7, iv 0, iv 0].length [v7, iv 0, iv 0]
 H16 ∧ call f_rd_file [AVal.ptr (i5 + 1) 0] H54 (i5 + 1 + 1) fun e55 H56 i57 => onEnd e55 (fun v58 => ∃ n59 s60 n61 n62 n63 v64, v58 = AVal.agg [iv n59, AVal.str s60, iv n61, iv n62, iv
 n63, v64] ∧ ∃ H65, stC H56 (AVal.ptr nx 0) [iv n59, AVal.str s60, iv n61, iv n62, iv n63, v64] = some H65 ∧ ∃ H66, stC H65 (AVal.ptr (nx + 1) 0) [iv 0, iv 0] = some H66 ∧ true =
 true ∧ ∃ H67, stC H66 (AVal.ptr (nx + 1 + 1) 0) [iv 0] = some H67 ∧ lvc [RVal.cell (AVal.ptr nx 0) t_node, RVal.cell (AVal.ptr (nx + 1) 0) 29, RVal.cell (AVal.ptr (nx + 1 + 1) 0) 30]
 [(x52, l53)] AMode.returning H67 i57 fun e68 H69 i70 => K e68 H69 i70) fun l71 => lvc [RVal.cell (AVal.ptr nx 0) t_node, RVal.cell (AVal.ptr (nx + 1) 0) 29, RVal.cell (AVal.ptr (nx + 1
 + 1) 0) 30] [(x52, l53)] (AMode.panicking l71) H56 i57 fun e72 H73 i74 => K e72 H73 i74)) fun l75 => K (AEnd.pan l75) H4 i5
theorem Fp_Parse_eq (call : CallP) (lp : Nat → LoopP) (lv : LeaveP) (lvc : LeaveC) (s : List UInt8) (H : Heap) (nx : Nat) (K : EndP) : vBody PG call lp f_p_Parse [AVal.str s] H nx (endK PG lv lvc K) = Fp_Parse call lp lv lvc s H nx K := by kernel_rfl
end Go.Vs
end
section
namespace Go.Vs
variable [GTab] {Z : Nat → Prop}
noncomputable section
def SrcV (Γ : GH) (v : AVal) (sz : Nat) (n : Nat) (cells : List AVal) : Prop :=
 (v = .nilSlice ∧ n = 0 ∧ cells = []) ∨ ∃ b off full cs, v = .slice b off n sz full ∧ Γ b = some cs ∧ off + n * sz ≤ cs.length ∧ (cs.drop off).take (n * sz) = cells
theorem SrcV.len {Γ : GH} {v : AVal} {sz n : Nat} {cells : List AVal} (h : SrcV Γ v sz n cells) : lenS v = some n := by
 rcases h with ⟨rfl, rfl, rfl⟩ | ⟨b, off, full, cs, rfl, _⟩ <;> rfl
theorem SrcV.src {Γ : GH} {H : Heap} {nx : Nat} {v : AVal} {sz n : Nat} {cells : List AVal} (h : SrcV Γ v sz n cells) (hk : HZ Z Γ H nx) : aSrc sz H v = some (n, cells) := by
 rcases h with ⟨rfl, rfl, rfl⟩ | ⟨b, off, full, cs, rfl, h1, h2, h3⟩
 ·rfl
 ·rw [hk.src h1 h2, h3]
theorem SrcV.mono {Γ Γ' : GH} {v : AVal} {sz n : Nat} {cells : List AVal} (h : SrcV Γ v sz n cells) (hs : ∀ c ds, Γ c = some ds → Γ' c = some ds) : SrcV Γ' v sz n cells := by
 rcases h with h | ⟨b, off, full, cs, h0, h1, h2⟩
 ·exact .inl h
 ·exact .inr ⟨b, off, full, cs, h0, hs _ _ h1, h2⟩
def KeepX (r nx : Nat) (Γ Γ' : GH) : Prop := (∀ b cs, b ≠ r → Γ b = some cs → Γ' b = some cs) ∧ ∀ b, b < nx → Γ b = none → Γ' b = none
theorem KeepX.refl (r nx : Nat) (Γ : GH) : KeepX r nx Γ Γ := ⟨fun _ _ _ h => h, fun _ _ h => h⟩
theorem KeepX.trans {r nx nx' : Nat} {Γ Γ' Γ'' : GH} (h : KeepX r nx Γ Γ') (h' : KeepX r nx' Γ' Γ'') (hn : nx ≤ nx' := by omega) : KeepX r nx Γ Γ'' :=
 ⟨fun b cs hb e => h'.1 b cs hb (h.1 b cs hb e), fun b hb e => h'.2 b (by omega) (h.2 b hb e)⟩
theorem KeepX.le {r nx nx' : Nat} {Γ Γ' : GH} (h : KeepX r nx' Γ Γ') (hn : nx ≤ nx' := by omega) : KeepX r nx Γ Γ' := ⟨h.1, fun b hb e => h.2 b (by omega) e⟩
theorem KeepX.new {r b nx : Nat} {Γ : GH} {cs : List AVal} (h : Γ b = none) (hb : nx ≤ b := by omega) : KeepX r nx Γ (gup b (some cs) Γ) :=
 ⟨fun c ds _ e => by rw [gup_ne fun x => by rw [x, h] at e; cases e]; exact e, fun c hc e => by rw [gup_ne (by omega)]; exact e⟩
theorem KeepX.upd {r nx : Nat} {Γ : GH} {cs ds : List AVal} (h : Γ r = some ds) : KeepX r nx Γ (gup r (some cs) Γ) :=
 ⟨fun c ds hc e => by rw [gup_ne hc]; exact e, fun c hc e => by rw [gup_ne fun x => by rw [x, h] at e; cases e]; exact e⟩
theorem KeepX.upd' {r b nx : Nat} {Γ Γ' : GH} {cs : Option (List AVal)} (h : KeepX r nx Γ Γ') (hb : Γ b = none) (hn : nx ≤ b ∨ cs = none := by first | (left; omega) | (right; rfl)) : KeepX r nx Γ (gup b cs Γ') :=
 ⟨fun c ds hc e => by rw [gup_ne fun x => by rw [x, hb] at e; cases e]; exact h.1 c ds hc e, fun c hc e => by
  by_cases hcb : c = b
  ·subst hcb; rw [gup_same]; rcases hn with hn | hn
   ·omega
   ·exact hn
  ·rw [gup_ne hcb]; exact h.2 c hc e⟩
theorem gup_eq {b : Nat} {x : Option (List AVal)} {Γ : GH} (h : Γ b = x) : gup b x Γ = Γ := by
 funext c; by_cases hc : c = b
 ·subst hc; rw [gup_same, h]
 ·rw [gup_ne hc]
theorem scr {Γ : GH} {H : Heap} {nx nx' i : Nat} {cs vs : List AVal} {k : Heap → Prop} (hk : HZ Z Γ H nx) (h1 : nx ≤ i) (h2 : i < nx') (hl : vs.length = cs.length) (hv : allCell vs = true)
  (hK : ∀ H', HZ Z (gup i (some vs) Γ) H' nx' → k H') : ∃ H0, H0 = newB i cs H ∧ ∃ H1, stC H0 (.ptr i 0) vs = some H1 ∧ k H1 := by
 have hn : HZ Z (gup i (some cs) Γ) (newB i cs H) nx' := hk.new h1 h2 cs
 obtain ⟨H1, e1, e2⟩ := hn.st (gup_same i (some cs) Γ) (off := 0) (vs := vs) (by omega) hv
 refine ⟨_, rfl, H1, e1, hK _ ?_⟩
 rw [gup_gup] at e2
 have : splice cs 0 vs = vs := by unfold splice; simp [hl]
 rw [this] at e2; exact e2
theorem scrN {Γ : GH} {H : Heap} {nx nx' i : Nat} {cs : List AVal} {k : Heap → Prop} (hk : HZ Z Γ H nx) (h1 : nx ≤ i) (h2 : i < nx')
  (hK : ∀ H', HZ Z (gup i (some cs) Γ) H' nx' → k H') : ∃ H0, H0 = newB i cs H ∧ k H0 := ⟨_, rfl, hK _ (hk.new h1 h2 cs)⟩
theorem stAll {Γ : GH} {H : Heap} {nx i : Nat} {cs vs : List AVal} {k : Heap → Prop} (hk : HZ Z Γ H nx) (hi : Γ i = some cs) (hl : vs.length = cs.length) (hv : allCell vs = true)
  (hK : ∀ H', HZ Z (gup i (some vs) Γ) H' nx → k H') : ∃ H1, stC H (.ptr i 0) vs = some H1 ∧ k H1 := by
 obtain ⟨H1, e1, e2⟩ := hk.st hi (off := 0) (vs := vs) (by omega) hv
 refine ⟨H1, e1, hK _ ?_⟩
 have : splice cs 0 vs = vs := by unfold splice; simp [hl]
 rw [this] at e2; exact e2
theorem stOne {Γ : GH} {H : Heap} {nx i j : Nat} {cs : List AVal} {v : AVal} {k : Heap → Prop} (hk : HZ Z Γ H nx) (hi : Γ i = some cs) (hl : j < cs.length) (hv : cellv v = true)
  (hK : ∀ H', HZ Z (gup i (some (cs.set j v)) Γ) H' nx → k H') : ∃ H1, stC H (.ptr i j) [v] = some H1 ∧ k H1 := by
 obtain ⟨H1, e1, e2⟩ := hk.st hi (off := j) (vs := [v]) (by simp; omega) (by simp [allCell, hv])
 refine ⟨H1, e1, hK _ ?_⟩
 have : splice cs j [v] = cs.set j v := by unfold splice; rw [List.set_eq_take_append_cons_drop, if_pos hl]; simp
 rw [this] at e2; exact e2
theorem ldAll {Γ : GH} {H : Heap} {nx i sz : Nat} {cs : List AVal} (hk : HZ Z Γ H nx) (hi : Γ i = some cs) (hs : sz = cs.length) : ldN H sz (.ptr i 0) = some (.agg cs) := by
 rw [hk.ldN hi (off := 0) (by omega), hs]; simp
def tokC (t : Tok) : List AVal := [iv t.kind, .str t.text, iv t.n, iv t.line, iv t.col]
abbrev tokV (t : Tok) : AVal := .agg [iv t.kind, .str t.text, iv t.n, iv t.line, iv t.col]
def fltV (f : Flt) : AVal := .iface t_fault (.agg [iv f.line, iv f.col, iv f.e])
structure Toks (l : List Tok) : Prop where
 pos : 0 < l.length
 few : l.length ≤ 5000
 last : (Ps.tk l (l.length - 1)).kind = 0
 rest : ∀ i, i + 1 < l.length → (Ps.tk l i).kind ≠ 0
structure RC where
 r : Nat
 tb : Nat
 l : List Tok
 ex : Nat → Prop
abbrev RC.add (C : RC) (i : Nat) : RC := { C with ex := fun b => b = i ∨ C.ex b }
structure Rd (Γ : GH) (C : RC) (a d : Nat) : Prop where
 lt : a < C.l.length
 deep : d ≤ 41
 ne : C.tb ≠ C.r
 rex : C.ex C.r
 exs : ∀ b, C.ex b → Γ b ≠ none
 rd : ∃ full, Γ C.r = some [.slice C.tb 0 C.l.length 5 full, iv a, iv d]
 tk : ∃ cs, Γ C.tb = some cs ∧ C.l.length * 5 ≤ cs.length ∧ cs.take (C.l.length * 5) = C.l.flatMap tokC
theorem keep_none {Γ Γ' : GH} (hs : ∀ b cs, Γ b = some cs → Γ' b = some cs) {b : Nat} (h : Γ b ≠ none) : Γ' b ≠ none := by
 cases e : Γ b with
 | none => exact absurd e h
 | some cs => rw [hs _ _ e]; simp
theorem gup_none {b i : Nat} {Γ : GH} {cs : List AVal} (h : Γ b ≠ none) : gup i (some cs) Γ b ≠ none := by
 by_cases hb : b = i
 ·subst hb; rw [gup_same]; simp
 ·rw [gup_ne hb]; exact h
theorem Rd.keep {Γ Γ' : GH} {C : RC} {a d : Nat} (h : Rd Γ C a d) (hs : ∀ b cs, Γ b = some cs → Γ' b = some cs) : Rd Γ' C a d :=
 ⟨h.lt, h.deep, h.ne, h.rex, fun b hb => keep_none hs (h.exs b hb), let ⟨f, e⟩ := h.rd; ⟨f, hs _ _ e⟩, let ⟨cs, e, h⟩ := h.tk; ⟨cs, hs _ _ e, h⟩⟩
theorem Rd.new {Γ : GH} {C : RC} {a d b : Nat} {cs : Option (List AVal)} (h : Rd Γ C a d) (hb : Γ b = none) : Rd (gup b cs Γ) C a d :=
 h.keep fun c ds e => by rw [gup_ne fun x => by rw [x, hb] at e; cases e]; exact e
theorem Rd.r_ne {Γ : GH} {C : RC} {a d b : Nat} (h : Rd Γ C a d) (hb : Γ b = none) : b ≠ C.r := fun x => by obtain ⟨f, e⟩ := h.rd; rw [← x, hb] at e; cases e
theorem Rd.tb_ne {Γ : GH} {C : RC} {a d b : Nat} (h : Rd Γ C a d) (hb : Γ b = none) : b ≠ C.tb := fun x => by obtain ⟨f, e, _⟩ := h.tk; rw [← x, hb] at e; cases e
theorem Rd.upd {Γ : GH} {C : RC} {a d b : Nat} {cs : List AVal} (h : Rd Γ C a d) (h1 : b ≠ C.r) (h2 : b ≠ C.tb) : Rd (gup b (some cs) Γ) C a d :=
 ⟨h.lt, h.deep, h.ne, h.rex, fun b hb => gup_none (h.exs b hb), let ⟨f, e⟩ := h.rd; ⟨f, by rw [gup_ne (Ne.symm h1)]; exact e⟩, let ⟨cs, e, h⟩ := h.tk; ⟨cs, by rw [gup_ne (Ne.symm h2)]; exact e, h⟩⟩
theorem Rd.set {Γ : GH} {C : RC} {a d a' d' : Nat} (h : Rd Γ C a d) (ha : a' < C.l.length) (hd : d' ≤ 41) : ∃ full, Γ C.r = some [.slice C.tb 0 C.l.length 5 full, iv a, iv d] ∧ Rd (gup C.r (some [.slice C.tb 0 C.l.length 5 full, iv a', iv d']) Γ) C a' d' :=
 let ⟨f, e⟩ := h.rd
 ⟨f, e, ha, hd, h.ne, h.rex, fun b hb => gup_none (h.exs b hb), ⟨f, gup_same _ _ _⟩, let ⟨cs, e, h'⟩ := h.tk; ⟨cs, by rw [gup_ne h.ne]; exact e, h'⟩⟩
theorem Rd.add {Γ : GH} {C : RC} {a d i : Nat} (h : Rd Γ C a d) (hi : Γ i ≠ none) : Rd Γ (C.add i) a d :=
 ⟨h.lt, h.deep, h.ne, .inr h.rex, fun b hb => hb.elim (fun e => by rw [e]; exact hi) (h.exs b), h.rd, h.tk⟩
theorem Rd.newAdd {Γ : GH} {C : RC} {a d i : Nat} {cs : List AVal} (h : Rd Γ C a d) (hi : Γ i = none) : Rd (gup i (some cs) Γ) (C.add i) a d :=
 (h.new hi).add (by rw [gup_same]; simp)
theorem Rd.less {Γ : GH} {C : RC} {a d i : Nat} (h : Rd Γ (C.add i) a d) (hr : C.ex C.r) : Rd Γ C a d :=
 ⟨h.lt, h.deep, h.ne, hr, fun b hb => h.exs b (.inr hb), h.rd, h.tk⟩
theorem flat_get {l : List Tok} : ∀ {i : Nat} (h : i < l.length), ((l.flatMap tokC).drop (i * 5)).take 5 = tokC l[i] := by
 induction l with
 | nil => intro i h; simp at h
 | cons t l ih =>
  intro i h
  cases i with
  | zero => simp [tokC]
  | succ i =>
   have e : (i + 1) * 5 = 5 + i * 5 := by omega
   rw [List.flatMap_cons, e, ← List.drop_drop]
   have : (tokC t ++ l.flatMap tokC).drop 5 = l.flatMap tokC := by simp [tokC]
   rw [this]
   simpa using ih (i := i) (by simpa using h)
theorem Rd.tok {Γ : GH} {H : Heap} {nx : Nat} {C : RC} {a d : Nat} (h : Rd Γ C a d) (hk : HZ Z Γ H nx) :
  ∃ full, ld1 H (.ptr C.r 0) = some (.slice C.tb 0 C.l.length 5 full) ∧ ld1 H (.ptr C.r 1) = some (iv a) ∧ ld1 H (.ptr C.r 2) = some (iv d) ∧ idxS (.slice C.tb 0 C.l.length 5 full) a 5 = some (.ptr C.tb (a * 5)) ∧ ldN H 5 (.ptr C.tb (a * 5)) = some (tokV (Ps.tk C.l a)) := by
 obtain ⟨full, h1⟩ := h.rd
 obtain ⟨cs, h2, h4, h5⟩ := h.tk
 have ha := h.lt
 refine ⟨full, by rw [hk.ld1 h1]; rfl, by rw [hk.ld1 h1]; rfl, by rw [hk.ld1 h1]; rfl, by rw [idxS_slice ha, Nat.zero_add], ?_⟩
 rw [hk.ldN h2 (by omega)]
 have e1 : (cs.drop (a * 5)).take 5 = ((cs.take (C.l.length * 5)).drop (a * 5)).take 5 := by
  rw [List.drop_take, List.take_take, Nat.min_eq_left (by omega)]
 rw [e1, h5, flat_get ha]
 have : Ps.tk C.l a = C.l[a] := by unfold Ps.tk; simp [List.getD, ha]
 rw [this]; rfl
def hide (ex : Nat → Prop) (Γ : GH) : GH := fun b => @ite _ (ex b) (Classical.propDecidable _) none (Γ b)
theorem hide_ex {ex : Nat → Prop} {Γ : GH} {b : Nat} (h : ex b) : hide ex Γ b = none := by unfold hide; rw [if_pos h]
theorem hide_not {ex : Nat → Prop} {Γ : GH} {b : Nat} (h : ¬ ex b) : hide ex Γ b = Γ b := by unfold hide; rw [if_neg h]
theorem hide_mono {ex ex' : Nat → Prop} {Γ Γ' : GH} (he : ∀ b, ex' b → ex b) (hk : ∀ b cs, ¬ ex b → Γ b = some cs → Γ' b = some cs) (b : Nat) (cs : List AVal) (h : hide ex Γ b = some cs) : hide ex' Γ' b = some cs := by
 by_cases hb : ex b
 ·rw [hide_ex hb] at h; cases h
 ·rw [hide_not hb] at h
  rw [hide_not fun x => hb (he b x)]
  exact hk b cs hb h
mutual
inductive NodeC (ex : Nat → Prop) (Γ : GH) : List AVal → Tree → Prop
 | mk {kind n line col : Int} {name : List UInt8} {v : AVal} {kids : List Tree} (cs : List AVal) (hs : SrcV (hide ex Γ) v 6 kids.length cs) (hk : KidsC ex Γ cs kids) :
   NodeC ex Γ [iv kind, .str name, iv n, iv line, iv col, v] (.node kind name n line col kids)
inductive KidsC (ex : Nat → Prop) (Γ : GH) : List AVal → List Tree → Prop
 | nil : KidsC ex Γ [] []
 | cons {c cs : List AVal} {t : Tree} {ts : List Tree} (h : NodeC ex Γ c t) (hl : KidsC ex Γ cs ts) : KidsC ex Γ (c ++ cs) (t :: ts)
end
def NodeV (ex : Nat → Prop) (Γ : GH) (v : AVal) (t : Tree) : Prop := ∃ c, v = .agg c ∧ NodeC ex Γ c t
def KidsV (ex : Nat → Prop) (Γ : GH) (v : AVal) (ts : List Tree) : Prop := ∃ cs, SrcV (hide ex Γ) v 6 ts.length cs ∧ KidsC ex Γ cs ts
section
variable {ex ex' : Nat → Prop} {Γ Γ' : GH}
mutual
theorem NodeC.mono (he : ∀ b, ex' b → ex b) (hk : ∀ b cs, ¬ ex b → Γ b = some cs → Γ' b = some cs) : ∀ {c : List AVal} {t : Tree}, NodeC ex Γ c t → NodeC ex' Γ' c t
 | _, _, .mk cs hs h => .mk cs (hs.mono (hide_mono he hk)) (KidsC.mono he hk h)
theorem KidsC.mono (he : ∀ b, ex' b → ex b) (hk : ∀ b cs, ¬ ex b → Γ b = some cs → Γ' b = some cs) : ∀ {c : List AVal} {t : List Tree}, KidsC ex Γ c t → KidsC ex' Γ' c t
 | _, _, .nil => .nil
 | _, _, .cons h hl => .cons (NodeC.mono he hk h) (KidsC.mono he hk hl)
end
theorem KidsV.mono (he : ∀ b, ex' b → ex b) (hk : ∀ b cs, ¬ ex b → Γ b = some cs → Γ' b = some cs) {v : AVal} {t : List Tree} (h : KidsV ex Γ v t) : KidsV ex' Γ' v t := let ⟨cs, h1, h2⟩ := h; ⟨cs, h1.mono (hide_mono he hk), h2.mono he hk⟩
theorem KidsV.keep {r nx : Nat} (hr : ex r) (hk : KeepX r nx Γ Γ') {v : AVal} {t : List Tree} (h : KidsV ex Γ v t) : KidsV ex Γ' v t := h.mono (fun _ h => h) fun b cs hb e => hk.1 b cs (fun x => hb (x ▸ hr)) e
theorem NodeC.keep {r nx : Nat} (hr : ex r) (hk : KeepX r nx Γ Γ') {v : List AVal} {t : Tree} (h : NodeC ex Γ v t) : NodeC ex Γ' v t := h.mono (fun _ h => h) fun b cs hb e => hk.1 b cs (fun x => hb (x ▸ hr)) e
theorem KidsC.keep {r nx : Nat} (hr : ex r) (hk : KeepX r nx Γ Γ') {v : List AVal} {t : List Tree} (h : KidsC ex Γ v t) : KidsC ex Γ' v t := h.mono (fun _ h => h) fun b cs hb e => hk.1 b cs (fun x => hb (x ▸ hr)) e
theorem NodeC.len : ∀ {c : List AVal} {t : Tree}, NodeC ex Γ c t → c.length = 6
 | _, _, .mk _ _ _ => rfl
theorem KidsC.len : ∀ {c : List AVal} {t : List Tree}, KidsC ex Γ c t → c.length = t.length * 6
 | _, _, .nil => rfl
 | _, _, .cons h hl => by rw [List.length_append, h.len, KidsC.len hl, List.length_cons]; omega
theorem KidsC.app : ∀ {c d : List AVal} {s t : List Tree}, KidsC ex Γ c s → KidsC ex Γ d t → KidsC ex Γ (c ++ d) (s ++ t)
 | _, _, _, _, .nil, h => h
 | _, _, _, _, .cons h hl, h' => by rw [List.append_assoc]; exact .cons h (KidsC.app hl h')
theorem NodeC.one {c : List AVal} {t : Tree} (h : NodeC ex Γ c t) : KidsC ex Γ c [t] := by
 have := KidsC.cons h KidsC.nil; rwa [List.append_nil] at this
theorem KidsV.nil : KidsV ex Γ .nilSlice [] := ⟨[], .inl ⟨rfl, rfl, rfl⟩, .nil⟩
theorem KidsV.blk {b : Nat} {cs : List AVal} {ts : List Tree} {full : Bool} {n : Nat} (hb : ¬ ex b) (e : Γ b = some cs) (h : KidsC ex Γ cs ts) (hn : n = ts.length) : KidsV ex Γ (.slice b 0 n 6 full) ts :=
 ⟨cs, .inr ⟨b, 0, full, cs, by rw [hn], by rw [hide_not hb]; exact e, by rw [h.len]; omega, by rw [← h.len]; simp⟩, h⟩
theorem KidsV.node {k n line col : Int} {s : List UInt8} {v : AVal} {ts : List Tree} (h : KidsV ex Γ v ts) : NodeV ex Γ (.agg [iv k, .str s, iv n, iv line, iv col, v]) (.node k s n line col ts) :=
 let ⟨cs, h1, h2⟩ := h; ⟨_, rfl, .mk cs h1 h2⟩
theorem KidsV.cell {v : AVal} {ts : List Tree} (h : KidsV ex Γ v ts) : cellv v = true := by
 obtain ⟨cs, h1, _⟩ := h
 rcases h1 with ⟨rfl, _⟩ | ⟨b, off, full, cs, rfl, _⟩ <;> rfl
theorem NodeV.cells {v : AVal} {t : Tree} (h : NodeV ex Γ v t) : ∃ (k : Int) (s : List UInt8) (n li co : Int) (w : AVal), v = .agg [iv k, .str s, iv n, iv li, iv co, w] ∧ cellv w = true ∧ NodeC ex Γ [iv k, .str s, iv n, iv li, iv co, w] t := by
 obtain ⟨c, rfl, h⟩ := h
 cases h with
 | mk cs hs hk => exact ⟨_, _, _, _, _, _, rfl, KidsV.cell ⟨cs, hs, hk⟩, .mk cs hs hk⟩
theorem NodeC.v {c : List AVal} {t : Tree} (h : NodeC ex Γ c t) : NodeV ex Γ (.agg c) t := ⟨c, rfl, h⟩
end
def RdP (Γ : GH) (r : Nat) : Prop := ∃ (x y : AVal) (n : Int), Γ r = some [x, y, iv n]
theorem Rd.p {Γ : GH} {C : RC} {a d : Nat} (h : Rd Γ C a d) : RdP Γ C.r := let ⟨_, e⟩ := h.rd; ⟨_, _, _, e⟩
def Meets {α : Type} (Z : Nat → Prop) (K : EndP) (Γ : GH) (nx : Nat) (C : RC) (d : Nat) (res : Except Flt (α × Nat)) (V : GH → AVal → α → Prop) : Prop :=
 (∀ x b v Γ' H' nx', res = .ok (x, b) → nx ≤ nx' → HZ Z Γ' H' nx' → KeepX C.r nx Γ Γ' → V Γ' v x → Rd Γ' C b d → K (.ret v) H' nx') ∧
 (∀ f Γ' H' nx', res = .error f → nx ≤ nx' → HZ Z Γ' H' nx' → KeepX C.r nx Γ Γ' → RdP Γ' C.r → K (.pan [(fltV f, false)]) H' nx')
section
variable {α β : Type} {K : EndP} {Γ Γ1 : GH} {nx nx1 d : Nat} {C : RC} {V : GH → AVal → α → Prop} {res : Except Flt (α × Nat)}
theorem Meets.from (h : Meets Z K Γ nx C d res V) (hn : nx ≤ nx1) (hk : KeepX C.r nx Γ Γ1) : Meets Z K Γ1 nx1 C d res V :=
 ⟨fun x b v Γ' H' nx' e h1 h2 h3 h4 h5 => h.1 x b v Γ' H' nx' e (Nat.le_trans hn h1) h2 (hk.trans h3 hn) h4 h5, fun f Γ' H' nx' e h1 h2 h3 h4 => h.2 f Γ' H' nx' e (Nat.le_trans hn h1) h2 (hk.trans h3 hn) h4⟩
theorem Meets.on {rK : AVal → Heap → Nat → Prop} {pK : List (AVal × Bool) → Heap → Nat → Prop}
  (hok : ∀ x b v Γ' H' nx', res = .ok (x, b) → nx ≤ nx' → HZ Z Γ' H' nx' → KeepX C.r nx Γ Γ' → V Γ' v x → Rd Γ' C b d → rK v H' nx')
  (hbad : ∀ f Γ' H' nx', res = .error f → nx ≤ nx' → HZ Z Γ' H' nx' → KeepX C.r nx Γ Γ' → RdP Γ' C.r → pK [(fltV f, false)] H' nx') :
  Meets Z (fun e H' nx' => onEnd e (fun v => rK v H' nx') fun l => pK l H' nx') Γ nx C d res V :=
 ⟨fun x b v Γ' H' nx' e h1 h2 h3 h4 h5 => onEnd_ret.2 (hok x b v Γ' H' nx' e h1 h2 h3 h4 h5), fun f Γ' H' nx' e h1 h2 h3 h4 => onEnd_pan.2 (hbad f Γ' H' nx' e h1 h2 h3 h4)⟩
end
end
end Go.Vs
end
