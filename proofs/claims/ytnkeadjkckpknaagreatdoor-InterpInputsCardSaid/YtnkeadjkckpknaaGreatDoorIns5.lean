/-
  Own work. Texts of a proof, laid together; no condition.
-/
import Derived.Test.YtnkeadjkckpknaaGreatDoorChecked
import Derived.Test.YtnkeadjkckpknaaGreatDoorIns4
set_option linter.unusedSectionVars false
set_option linter.unusedVariables false
set_option linter.unusedSimpArgs false
set_option maxRecDepth 1000000
section
namespace Go.Vs
open Go.Ev (ilt)
open Go.Proofs
variable [GTab]
abbrev uv (n : Int) : AVal := .int .u64 n
abbrev iv (n : Int) : AVal := .int .i64 n
theorem qy : Tryz.prog.follows .mixedOrders = true := by kernel_rfl
def FRun (call : qk) (lp : Nat → ql) (lv : qi) (lvc : qj) (m : Nat) (n : Int) (H : Heap) (nx : Nat) (K : EndP) : Prop :=
 lp 21 (z9 (qW Tryz.prog 16) [1, 1, 0, 0, 0]) (envL (AVal.tuple []) [(5, iv 0), (4, iv 0), (1, iv n), (0, AVal.ptr m 0)]) H nx [] none (z7 Tryz.prog call (lp 21) 21
 (qW Tryz.prog 16) [1, 1, 0, 0] (endK Tryz.prog lv lvc K (kO Tryz.prog 16)))
theorem qbl (call : qk) (lp : Nat → ql) (lv : qi) (lvc : qj) (m : Nat) (n : Int) (H : Heap) (nx : Nat) (K : EndP) : qQ Tryz.prog call lp 16 [AVal.ptr m 0, iv n] H nx (endK Tryz.prog lv lvc K) = FRun call lp lv lvc m n H nx K := by kernel_rfl
def qbc (_call : qk) (_lp : Nat → ql) (_lv : qi) (_lvc : qj) (m : Nat) (H : Heap) (nx : Nat) (K : EndP) : Prop :=
 true = true ∧ ∃ v0, some (AVal.ptr m 5) = some v0 ∧ ∃ v1, ld1 H v0 = some v1 ∧ K (AEnd.ret v1) H nx
theorem Xa (call : qk) (lp : Nat → ql) (lv : qi) (lvc : qj) (m : Nat) (H : Heap) (nx : Nat) (K : EndP) : qQ Tryz.prog call lp 17 [AVal.ptr m 0] H nx (endK Tryz.prog lv lvc K) = qbc call lp lv lvc m H nx K := by kernel_rfl
def qa0 (_call : qk) (_lp : Nat → ql) (_lv : qi) (_lvc : qj) (m : Nat) (H : Heap) (nx : Nat) (K : EndP) : Prop :=
 ∃ H0, H0 = newB nx [] H ∧ true = true ∧ ∃ v1, some (AVal.ptr m 5) = some v1 ∧ ∃ v2, ld1 H0 v1 = some v2 ∧ ∃ i3 l4, aSrc 1 H0 v2 = some (i3, l4) ∧ qq l4 = true ∧ ∃ v5 H6 i7,
 appC H0 (nx + 1) 1 16 (AVal.slice nx 0 0 1 true) i3 l4 = some (v5, H6, i7) ∧ K (AEnd.ret v5) H6 i7
theorem W4 (call : qk) (lp : Nat → ql) (lv : qi) (lvc : qj) (m : Nat) (H : Heap) (nx : Nat) (K : EndP) : qQ Tryz.prog call lp 18 [AVal.ptr m 0] H nx (endK Tryz.prog lv lvc K) = qa0 call lp lv lvc m H nx K := by kernel_rfl
def X3 (_call : qk) (_lp : Nat → ql) (_lv : qi) (_lvc : qj) (m : Nat) (H : Heap) (nx : Nat) (K : EndP) : Prop :=
 true = true ∧ ∃ v0, some (AVal.ptr m 4) = some v0 ∧ ∃ n1 : Int, ld1 H v0 = some (iv n1) ∧ K (AEnd.ret (iv n1)) H nx
theorem XA (call : qk) (lp : Nat → ql) (lv : qi) (lvc : qj) (m : Nat) (H : Heap) (nx : Nat) (K : EndP) : qQ Tryz.prog call lp 19 [AVal.ptr m 0] H nx (endK Tryz.prog lv lvc K) = X3 call lp lv lvc m H nx K := by kernel_rfl
def qdg (call : qk) (_lp : Nat → ql) (_lv : qi) (_lvc : qj) (m : Nat) (H : Heap) (nx : Nat) (K : EndP) : Prop :=
 true = true ∧ ∃ v0, some (AVal.ptr m 7) = some v0 ∧ ∃ n1 : Int, ld1 H v0 = some (iv n1) ∧ ifB (!decide (n1 = 0)) (true = true ∧ ∃ v2, some (AVal.ptr m 7) = some v2 ∧ ∃ n3 : Int, ld1
 H v2 = some (iv n3) ∧ K (AEnd.ret (iv n3)) H nx) (true = true ∧ ∃ v4, some (AVal.ptr m 9) = some v4 ∧ ∃ v5, ld1 H v4 = some v5 ∧ true = true ∧ ∃ v6, some (AVal.ptr m 0) = some v6 ∧
 ∃ v7, q7 v6 1 = some v7 ∧ ∃ v8, ld1 H v7 = some v8 ∧ zd v5 = true ∧ ∃ v9, q7 v5 0 = some v9 ∧ ∃ n10 : Int, ld1 H v9 = some (iv n10) ∧ 0 ≤ n10 ∧ ∃ v11, idxS v8 n10.toNat
 5 = some v11 ∧ ∃ v12, q7 v11 4 = some v12 ∧ ∃ v13, ld1 H v12 = some v13 ∧ zd v5 = true ∧ ∃ v14, q7 v5 1 = some v14 ∧ ∃ n15 : Int, ld1 H v14 = some (iv n15) ∧ 0 ≤ n15 ∧ ∃
 v16, idxS v13 n15.toNat 3 = some v16 ∧ ∃ n17 n18 n19 : Int, ldN H 3 v16 = some (AVal.agg [iv n17, iv n18, iv n19]) ∧ ∃ H20, H20 = newB (nx + 18) [iv 0, iv 0, iv 0] H ∧ ((∃ v21, ld1
 H20 v7 = some v21 ∧ v21 = v8) ∧ (∃ n22 : Int, ld1 H20 v9 = some (iv n22) ∧ iv n22 = iv n10) ∧ (∃ v23, ld1 H20 v12 = some v23 ∧ v23 = v13) ∧ (∃ n24 : Int, ld1 H20 v14 = some (iv n24)
 ∧ iv n24 = iv n15) ∧ (∃ n25 n26 n27 : Int, ldN H20 3 v16 = some (AVal.agg [iv n25, iv n26, iv n27]) ∧ AVal.agg [iv n25, iv n26, iv n27] = AVal.agg [iv n17, iv n18, iv n19]) ∧ True)
 ∧ ∃ H28, stC H20 (AVal.ptr (nx + 18) 0) [iv n17, iv n18, iv n19] = some H28 ∧ True ∧ ∃ v29, some (AVal.ptr (nx + 18) 0) = some v29 ∧ ∃ n30 : Int, ld1 H28 v29 = some (iv n30) ∧ ifB
 (decide (n30 = 36)) (∃ n31 n32 n33 : Int, ldN H28 3 (AVal.ptr (nx + 18) 0) = some (AVal.agg [iv n31, iv n32, iv n33]) ∧ call 51 [AVal.ptr m 0, AVal.agg [iv n31, iv n32, iv n33]] H28
 (nx + 20) fun e34 H35 i36 => qh e34 (fun v37 => true = true ∧ ∃ v38, some (AVal.ptr m 7) = some v38 ∧ ∃ n39 : Int, ld1 H35 v38 = some (iv n39) ∧ K (AEnd.ret (iv n39)) H35 i36)
 fun l40 => K (AEnd.pan l40) H35 i36) (∃ v41, some (AVal.ptr (nx + 18) 0) = some v41 ∧ ∃ n42 : Int, ld1 H28 v41 = some (iv n42) ∧ ifB (decide (n42 = 37)) (∃ n43 n44 n45 : Int, ldN
 H28 3 (AVal.ptr (nx + 18) 0) = some (AVal.agg [iv n43, iv n44, iv n45]) ∧ call 51 [AVal.ptr m 0, AVal.agg [iv n43, iv n44, iv n45]] H28 (nx + 20) fun e46 H47 i48 => qh e46 (fun
 v49 => true = true ∧ ∃ v50, some (AVal.ptr m 7) = some v50 ∧ ∃ n51 : Int, ld1 H47 v50 = some (iv n51) ∧ K (AEnd.ret (iv n51)) H47 i48) fun l52 => K (AEnd.pan l52) H47 i48) (∃ v53,
 some (AVal.ptr (nx + 18) 0) = some v53 ∧ ∃ n54 : Int, ld1 H28 v53 = some (iv n54) ∧ ifB (decide (n54 = 41)) (∃ v55, some (AVal.ptr (nx + 18) 1) = some v55 ∧ ∃ n56 : Int, ld1 H28 v55
 = some (iv n56) ∧ call 52 [AVal.ptr m 0, iv n56] H28 (nx + 20) fun e57 H58 i59 => qh e57 (fun v60 => true = true ∧ ∃ v61, some (AVal.ptr m 7) = some v61 ∧ ∃ n62 : Int, ld1 H58
 v61 = some (iv n62) ∧ K (AEnd.ret (iv n62)) H58 i59) fun l63 => K (AEnd.pan l63) H58 i59) (∃ n64 n65 n66 : Int, ldN H28 3 (AVal.ptr (nx + 18) 0) = some (AVal.agg [iv n64, iv n65, iv
 n66]) ∧ call 53 [AVal.ptr m 0, AVal.agg [iv n64, iv n65, iv n66]] H28 (nx + 20) fun e67 H68 i69 => qh e67 (fun v70 => ∃ b71, v70 = AVal.bool b71 ∧ ifB b71 (true = true ∧ ∃ v72,
 some (AVal.ptr m 7) = some v72 ∧ ∃ n73 : Int, ld1 H68 v72 = some (iv n73) ∧ K (AEnd.ret (iv n73)) H68 i69) (∃ n74 n75 n76 : Int, ldN H68 3 (AVal.ptr (nx + 18) 0) = some (AVal.agg
 [iv n74, iv n75, iv n76]) ∧ call 54 [AVal.ptr m 0, AVal.agg [iv n74, iv n75, iv n76]] H68 i69 fun e77 H78 i79 => qh e77 (fun v80 => ∃ n81 : Int, v80 = iv n81 ∧ ifB (!decide (n81
 = 0)) (call 55 [AVal.ptr m 0, iv n81] H78 i79 fun e82 H83 i84 => qh e82 (fun v85 => true = true ∧ ∃ v86, some (AVal.ptr m 7) = some v86 ∧ ∃ n87 : Int, ld1 H83 v86 = some (iv n87)
 ∧ K (AEnd.ret (iv n87)) H83 i84) fun l88 => K (AEnd.pan l88) H83 i84) (zd v5 = true ∧ ∃ v89, q7 v5 1 = some v89 ∧ ∃ n90 : Int, ld1 H78 v89 = some (iv n90) ∧ zd v5 = true
 ∧ ∃ v91, q7 v5 1 = some v91 ∧ true = true ∧ ∃ H92, stC H78 v91 [iv (IntKind.i64.wrap (n90 + 1))] = some H92 ∧ true = true ∧ ∃ v93, some (AVal.ptr m 7) = some v93 ∧ ∃ n94 : Int,
 ld1 H92 v93 = some (iv n94) ∧ K (AEnd.ret (iv n94)) H92 i79)) fun l95 => K (AEnd.pan l95) H78 i79)) fun l96 => K (AEnd.pan l96) H68 i69))))
theorem qav (call : qk) (lp : Nat → ql) (lv : qi) (lvc : qj) (m : Nat) (H : Heap) (nx : Nat) (K : EndP) : qQ Tryz.prog call lp 33 [AVal.ptr m 0] H nx (endK Tryz.prog lv lvc K) = qdg call lp lv lvc m H nx K := by kernel_rfl
def Fset (_call : qk) (_lp : Nat → ql) (_lv : qi) (_lvc : qj) (m : Nat) (l : AVal) (H : Heap) (nx : Nat) (K : EndP) : Prop :=
 true = true ∧ ∃ v0, some (AVal.ptr m 6) = some v0 ∧ qD l = true ∧ ∃ H1, stC H v0 [l] = some H1 ∧ true = true ∧ ∃ v2, some (AVal.ptr m 9) = some v2 ∧ true = true ∧ ∃ H3, stC H1 v2
 [AVal.nilPtr] = some H3 ∧ ∃ i4, lenS l = some i4 ∧ ifB (decide (0 < Int.ofNat i4)) (∃ i5, lenS l = some i5 ∧ 0 ≤ IntKind.i64.wrap (Int.ofNat i5 - 1) ∧ ∃ v6, idxS l (IntKind.i64.wrap
 (Int.ofNat i5 - 1)).toNat 4 = some v6 ∧ true = true ∧ ∃ v7, some (AVal.ptr m 9) = some v7 ∧ qD v6 = true ∧ ∃ H8, stC H3 v7 [v6] = some H8 ∧ K (AEnd.ret (AVal.tuple [])) H8 nx) (K
 (AEnd.ret (AVal.tuple [])) H3 nx)
theorem qc9 (call : qk) (lp : Nat → ql) (lv : qi) (lvc : qj) (m : Nat) (l : AVal) (H : Heap) (nx : Nat) (K : EndP) : qQ Tryz.prog call lp 30 [AVal.ptr m 0, l] H nx (endK Tryz.prog lv lvc K) = Fset call lp lv lvc m l H nx K := by kernel_rfl
def qe4 (call : qk) (lp : Nat → ql) (lv : qi) (lvc : qj) (m : Nat) (op : Int) (a : Int) (b : Int) (H : Heap) (nx : Nat) (K : EndP) : Prop :=
 ∃ H0, H0 = kZ nx [iv op, iv a, iv b].length [iv op, iv a, iv b] H ∧ ∃ n1 n2 n3 : Int, ldN H0 3 (AVal.ptr nx 0) = some (AVal.agg [iv n1, iv n2, iv n3]) ∧ call 91 [AVal.ptr m 0,
 AVal.agg [iv n1, iv n2, iv n3]] H0 (nx + 1) fun e4 H5 i6 => qh e4 (fun v7 => ∃ n8 : Int, v7 = iv n8 ∧ ifB (decide (n8 < 0)) (call 55 [AVal.ptr m 0, iv 3] H5 i6 fun e9 H10 i11 =>
 qh e9 (fun v12 => K (AEnd.ret (AVal.tuple [])) H10 i11) fun l13 => K (AEnd.pan l13) H10 i11) (true = true ∧ ∃ v14, some (AVal.ptr m 6) = some v14 ∧ ∃ v15, ld1 H5 v14 = some v15 ∧
 ∃ i16, lenS v15 = some i16 ∧ ifB (decide (30 ≤ Int.ofNat i16)) (call 55 [AVal.ptr m 0, iv 6] H5 i6 fun e17 H18 i19 => qh e17 (fun v20 => K (AEnd.ret (AVal.tuple [])) H18 i19) fun
 l21 => K (AEnd.pan l21) H18 i19) (∃ v22, some (AVal.ptr nx 2) = some v22 ∧ ∃ n23 : Int, ld1 H5 v22 = some (iv n23) ∧ lp 56 (z9 (qW Tryz.prog 51) [1, 1, 1, 1, 0, 1, 0, 0])
 (envL (AVal.tuple []) [(6, iv (IntKind.i64.wrap (n23 - 1))), (26, iv (IntKind.i64.wrap (n23 - 1))), (25, iv n23), (24, v22), (5, AVal.nilSlice), (15, AVal.bool false), (15,
 AVal.bool (decide (30 ≤ Int.ofNat i16))), (21, AVal.bool (decide (30 ≤ Int.ofNat i16))), (20, iv (Int.ofNat i16)), (19, v15), (18, v14), (17, AVal.ptr m 0), (16, AVal.ptr m 0), (10,
 AVal.bool false), (10, AVal.bool (decide (n8 < 0))), (12, AVal.bool (decide (n8 < 0))), (11, iv n8), (4, iv n8), (9, iv n8), (8, AVal.agg [iv n1, iv n2, iv n3]), (7, AVal.ptr m 0),
 (3, AVal.ptr nx 0), (1, AVal.agg [iv op, iv a, iv b]), (0, AVal.ptr m 0)]) H5 i6 [] none (z7 Tryz.prog call (lp 56) 56 (qW Tryz.prog 51) [1, 1, 1, 1, 0, 1, 0] (endK
 Tryz.prog lv lvc K (kO Tryz.prog 51)))))) fun l24 => K (AEnd.pan l24) H5 i6
theorem qaq (call : qk) (lp : Nat → ql) (lv : qi) (lvc : qj) (m : Nat) (op : Int) (a : Int) (b : Int) (H : Heap) (nx : Nat) (K : EndP) : qQ Tryz.prog call lp 51 [AVal.ptr m 0, AVal.agg [iv op, iv a, iv b]] H nx (endK Tryz.prog lv lvc K) = qe4 call lp lv lvc m op a b H nx K := by kernel_rfl
def Fret (call : qk) (_lp : Nat → ql) (_lv : qi) (_lvc : qj) (m : Nat) (a : Int) (H : Heap) (nx : Nat) (K : EndP) : Prop :=
 call 92 [AVal.ptr m 0, iv 0] H nx fun e0 H1 i2 => qh e0 (fun v3 => ∃ n4 : Int, v3 = uv n4 ∧ true = true ∧ ∃ v5, some (AVal.ptr m 6) = some v5 ∧ ∃ v6, ld1 H1 v5
 = some v6 ∧ true = true ∧ ∃ v7, some (AVal.ptr m 6) = some v7 ∧ ∃ v8, ld1 H1 v7 = some v8 ∧ ∃ i9, lenS v8 = some i9 ∧ 0 ≤ IntKind.i64.wrap (Int.ofNat i9 - 1) ∧ ∃ v10, slcS v6 4 0
 (some (IntKind.i64.wrap (Int.ofNat i9 - 1)).toNat) = some v10 ∧ ((∃ v11, ld1 H1 v5 = some v11 ∧ v11 = v6) ∧ (∃ v12, ld1 H1 v7 = some v12 ∧ v12 = v8) ∧ (0 ≤ IntKind.i64.wrap
 (Int.ofNat i9 - 1) ∧ ∃ v13, slcS v6 4 0 (some (IntKind.i64.wrap (Int.ofNat i9 - 1)).toNat) = some v13 ∧ v13 = v10) ∧ True) ∧ call 30 [AVal.ptr m 0, v10] H1 (i2 + 13) fun e14 H15 i16
 => qh e14 (fun v17 => True ∧ true = true ∧ ∃ v18, some (AVal.ptr m 9) = some v18 ∧ ∃ v19, ld1 H15 v18 = some v19 ∧ ∃ b20, nilK NK.ptr v19 = some b20 ∧ ifB b20 (true = true ∧ ∃
 v21, some (AVal.ptr m 7) = some v21 ∧ true = true ∧ ∃ H22, stC H15 v21 [iv 1] = some H22 ∧ K (AEnd.ret (AVal.tuple [])) H22 i16) (ifB (decide (a = 1)) (call 94 [AVal.ptr m 0,
 uv n4] H15 i16 fun e23 H24 i25 => qh e23 (fun v26 => true = true ∧ ∃ v27, some (AVal.ptr m 9) = some v27 ∧ ∃ v28, ld1 H24 v27 = some v28 ∧ zd v28 = true ∧ ∃
 v29, q7 v28 1 = some v29 ∧ ∃ n30 : Int, ld1 H24 v29 = some (iv n30) ∧ zd v28 = true ∧ ∃ v31, q7 v28 1 = some v31 ∧ true = true ∧ ∃ H32, stC H24 v31 [iv (IntKind.i64.wrap
 (n30 + 1))] = some H32 ∧ K (AEnd.ret (AVal.tuple [])) H32 i25) fun l33 => K (AEnd.pan l33) H24 i25) (true = true ∧ ∃ v34, some (AVal.ptr m 9) = some v34 ∧ ∃ v35, ld1 H15 v34 = some
 v35 ∧ zd v35 = true ∧ ∃ v36, q7 v35 1 = some v36 ∧ ∃ n37 : Int, ld1 H15 v36 = some (iv n37) ∧ zd v35 = true ∧ ∃ v38, q7 v35 1 = some v38 ∧ true = true ∧ ∃ H39, stC
 H15 v38 [iv (IntKind.i64.wrap (n37 + 1))] = some H39 ∧ K (AEnd.ret (AVal.tuple [])) H39 i16))) fun l40 => K (AEnd.pan l40) H15 i16) fun l41 => K (AEnd.pan l41) H1 i2
theorem qcs (call : qk) (lp : Nat → ql) (lv : qi) (lvc : qj) (m : Nat) (a : Int) (H : Heap) (nx : Nat) (K : EndP) : qQ Tryz.prog call lp 52 [AVal.ptr m 0, iv a] H nx (endK Tryz.prog lv lvc K) = Fret call lp lv lvc m a H nx K := by kernel_rfl
def Y8 (call : qk) (_lp : Nat → ql) (_lv : qi) (_lvc : qj) (m : Nat) (op : Int) (a : Int) (b : Int) (H : Heap) (nx : Nat) (K : EndP) : Prop :=
 ∃ H0, H0 = kZ nx [iv op, iv a, iv b].length [iv op, iv a, iv b] H ∧ ∃ v1, some (AVal.ptr nx 0) = some v1 ∧ ∃ n2 : Int, ld1 H0 v1 = some (iv n2) ∧ ifB (decide (n2 = 26)) (true =
 true ∧ ∃ v3, some (AVal.ptr m 9) = some v3 ∧ ∃ v4, ld1 H0 v3 = some v4 ∧ ∃ v5, some (AVal.ptr nx 1) = some v5 ∧ ∃ n6 : Int, ld1 H0 v5 = some (iv n6) ∧ zd v4 = true ∧ ∃ v7,
 q7 v4 1 = some v7 ∧ ((∃ v8, ld1 H0 v3 = some v8 ∧ v8 = v4) ∧ (∃ n9 : Int, ld1 H0 v5 = some (iv n9) ∧ iv n9 = iv n6) ∧ True) ∧ true = true ∧ ∃ H10, stC H0 v7 [iv n6] = some H10 ∧
 True ∧ K (AEnd.ret (AVal.bool true)) H10 (nx + 1 + 9)) (ifB (decide (n2 = 27)) (true = true ∧ ∃ v11, some (AVal.ptr m 9) = some v11 ∧ ∃ v12, ld1 H0 v11 = some v12 ∧ zd v12 =
 true ∧ ∃ v13, q7 v12 1 = some v13 ∧ ∃ n14 : Int, ld1 H0 v13 = some (iv n14) ∧ zd v12 = true ∧ ∃ v15, q7 v12 1 = some v15 ∧ true = true ∧ ∃ H16, stC H0 v15 [iv
 (IntKind.i64.wrap (n14 + 1))] = some H16 ∧ call 95 [AVal.ptr m 0] H16 (nx + 1) fun e17 H18 i19 => qh e17 (fun v20 => ∃ n21 : Int, v20 = uv n21 ∧ ifB (decide
 (n21 = 0)) (true = true ∧ ∃ v22, some (AVal.ptr m 9) = some v22 ∧ ∃ v23, ld1 H18 v22 = some v23 ∧ ∃ v24, some (AVal.ptr nx 1) = some v24 ∧ ∃ n25 : Int, ld1 H18 v24 = some (iv n25) ∧
 zd v23 = true ∧ ∃ v26, q7 v23 1 = some v26 ∧ ((∃ v27, ld1 H18 v22 = some v27 ∧ v27 = v23) ∧ (∃ n28 : Int, ld1 H18 v24 = some (iv n28) ∧ iv n28 = iv n25) ∧ True) ∧ true =
 true ∧ ∃ H29, stC H18 v26 [iv n25] = some H29 ∧ True ∧ K (AEnd.ret (AVal.bool true)) H29 (i19 + 9)) (K (AEnd.ret (AVal.bool true)) H18 i19)) fun l30 => K (AEnd.pan l30) H18 i19) (K
 (AEnd.ret (AVal.bool false)) H0 (nx + 1)))
theorem Xt (call : qk) (lp : Nat → ql) (lv : qi) (lvc : qj) (m : Nat) (op : Int) (a : Int) (b : Int) (H : Heap) (nx : Nat) (K : EndP) : qQ Tryz.prog call lp 53 [AVal.ptr m 0, AVal.agg [iv op, iv a, iv b]] H nx (endK Tryz.prog lv lvc K) = Y8 call lp lv lvc m op a b H nx K := by kernel_rfl
def qed (call : qk) (_lp : Nat → ql) (_lv : qi) (_lvc : qj) (m : Nat) (op : Int) (a : Int) (b : Int) (H : Heap) (nx : Nat) (K : EndP) : Prop :=
 ∃ H0, H0 = kZ nx [iv op, iv a, iv b].length [iv op, iv a, iv b] H ∧ call 92 [AVal.ptr m 0, iv 1] H0 (nx + 1) fun e1 H2 i3 => qh e1 (fun v4 => ∃ n5 : Int, v4 = AVal.int
 IntKind.u64 n5 ∧ call 92 [AVal.ptr m 0, iv 0] H2 i3 fun e6 H7 i8 => qh e6 (fun v9 => ∃ n10 : Int, v9 = uv n10 ∧ true = true ∧ ∃ v11, some (AVal.ptr m 5) = some
 v11 ∧ ∃ v12, ld1 H7 v11 = some v12 ∧ call 96 [v12] H7 i8 fun e13 H14 i15 => qh e13 (fun v16 => ∃ v17, some (AVal.ptr nx 0) = some v17 ∧ ∃ n18 : Int, ld1 H14 v17 = some (iv n18) ∧
 ifB (decide (n18 = 1)) (true = true ∧ ∃ v19, some (AVal.ptr m 0) = some v19 ∧ ∃ v20, q7 v19 4 = some v20 ∧ ∃ v21, ld1 H14 v20 = some v21 ∧ ∃ v22, some (AVal.ptr nx 1) = some v22
 ∧ ∃ n23 : Int, ld1 H14 v22 = some (iv n23) ∧ 0 ≤ n23 ∧ ∃ v24, idxS v21 n23.toNat 1 = some v24 ∧ ∃ n25 : Int, ld1 H14 v24 = some (iv n25) ∧ ((∃ v26, ld1 H14 v20 = some v26 ∧ v26 =
 v21) ∧ (∃ n27 : Int, ld1 H14 v22 = some (iv n27) ∧ iv n27 = iv n23) ∧ (∃ n28 : Int, ld1 H14 v24 = some (iv n28) ∧ iv n28 = iv n25) ∧ uv (IntKind.u64.wrap n25) =
 uv (IntKind.u64.wrap n25) ∧ True) ∧ call 94 [AVal.ptr m 0, uv (IntKind.u64.wrap n25)] H14 (i15 + 12) fun e29 H30 i31 => qh e29 (fun v32 =>
 True ∧ K (AEnd.ret (iv 0)) H30 i31) fun l33 => K (AEnd.pan l33) H30 i31) (ifB (decide (n18 = 2)) (∃ v34, some (AVal.ptr nx 1) = some v34 ∧ ∃ n35 : Int, ld1 H14 v34 = some (iv n35) ∧
 call 94 [AVal.ptr m 0, uv (IntKind.u64.wrap n35)] H14 i15 fun e36 H37 i38 => qh e36 (fun v39 => K (AEnd.ret (iv 0)) H37 i38) fun l40 => K (AEnd.pan l40) H37
 i38) (ifB (decide (n18 = 3)) (true = true ∧ ∃ v41, some (AVal.ptr m 5) = some v41 ∧ ∃ v42, ld1 H14 v41 = some v42 ∧ ∃ v43, some (AVal.ptr nx 1) = some v43 ∧ ∃ n44 : Int, ld1 H14 v43
 = some (iv n44) ∧ ((∃ v45, ld1 H14 v41 = some v45 ∧ v45 = v42) ∧ (∃ n46 : Int, ld1 H14 v43 = some (iv n46) ∧ iv n46 = iv n44) ∧ True) ∧ call 97 [v42, iv n44] H14 (i15 + 9) fun e47
 H48 i49 => qh e47 (fun v50 => ∃ n51 : Int, v50 = uv n51 ∧ True ∧ call 94 [AVal.ptr m 0, uv n51] H48 i49 fun e52 H53 i54 => qh e52 (fun v55
 => True ∧ K (AEnd.ret (iv 0)) H53 i54) fun l56 => K (AEnd.pan l56) H53 i54) fun l57 => K (AEnd.pan l57) H48 i49) (ifB (decide (n18 = 4)) (call 94 [AVal.ptr m 0, AVal.int IntKind.u64
 0] H14 i15 fun e58 H59 i60 => qh e58 (fun v61 => K (AEnd.ret (iv 0)) H59 i60) fun l62 => K (AEnd.pan l62) H59 i60) (ifB (decide (n18 = 5)) (true = true ∧ ∃ v63, some (AVal.ptr m
 9) = some v63 ∧ ∃ v64, ld1 H14 v63 = some v64 ∧ zd v64 = true ∧ ∃ v65, q7 v64 2 = some v65 ∧ ∃ v66, ld1 H14 v65 = some v66 ∧ ∃ v67, some (AVal.ptr nx 1) = some v67 ∧ ∃ n68 :
 Int, ld1 H14 v67 = some (iv n68) ∧ 0 ≤ n68 ∧ ∃ v69, idxS v66 n68.toNat 1 = some v69 ∧ ∃ n70 : Int, ld1 H14 v69 = some (uv n70) ∧ ((∃ v71, ld1 H14 v63 = some v71 ∧
 v71 = v64) ∧ (∃ v72, ld1 H14 v65 = some v72 ∧ v72 = v66) ∧ (∃ n73 : Int, ld1 H14 v67 = some (iv n73) ∧ iv n73 = iv n68) ∧ (∃ n74 : Int, ld1 H14 v69 = some (uv n74)
 ∧ uv n74 = uv n70) ∧ True) ∧ call 94 [AVal.ptr m 0, uv n70] H14 (i15 + 13) fun e75 H76 i77 => qh e75 (fun v78 => True ∧ K
 (AEnd.ret (iv 0)) H76 i77) fun l79 => K (AEnd.pan l79) H76 i77) (ifB (decide (n18 = 6)) (true = true ∧ ∃ v80, some (AVal.ptr m 9) = some v80 ∧ ∃ v81, ld1 H14 v80 = some v81 ∧ zd
 v81 = true ∧ ∃ v82, q7 v81 2 = some v82 ∧ ∃ v83, ld1 H14 v82 = some v83 ∧ ∃ v84, some (AVal.ptr nx 1) = some v84 ∧ ∃ n85 : Int, ld1 H14 v84 = some (iv n85) ∧ ((∃ v86, ld1 H14
 v80 = some v86 ∧ v86 = v81) ∧ (∃ v87, ld1 H14 v82 = some v87 ∧ v87 = v83) ∧ (∃ n88 : Int, ld1 H14 v84 = some (iv n88) ∧ iv n88 = iv n85) ∧ True) ∧ call 95 [AVal.ptr m 0] H14 (i15 +
 13) fun e89 H90 i91 => qh e89 (fun v92 => ∃ n93 : Int, v92 = uv n93 ∧ 0 ≤ n85 ∧ ∃ v94, idxS v83 n85.toNat 1 = some v94 ∧ ((∃ v95, ld1 H90 v80 = some v95 ∧ v95 =
 v81) ∧ (∃ v96, ld1 H90 v82 = some v96 ∧ v96 = v83) ∧ (∃ n97 : Int, ld1 H90 v84 = some (iv n97) ∧ iv n97 = iv n85) ∧ True) ∧ true = true ∧ ∃ H98, stC H90 v94 [AVal.int IntKind.u64
 n93] = some H98 ∧ True ∧ K (AEnd.ret (iv 0)) H98 i91) fun l99 => K (AEnd.pan l99) H90 i91) (ifB (decide (n18 = 7)) (call 95 [AVal.ptr m 0] H14 i15 fun e100 H101 i102 => qh e100
 (fun v103 => ∃ n104 : Int, v103 = uv n104 ∧ K (AEnd.ret (iv 0)) H101 i102) fun l105 => K (AEnd.pan l105) H101 i102) (ifB (decide (n18 = 13)) (call 98 [AVal.ptr m
 0, iv 1, uv (IntKind.u64.wrap (0 - n10))] H14 i15 fun e106 H107 i108 => qh e106 (fun v109 => K (AEnd.ret (iv 0)) H107 i108) fun l110 => K (AEnd.pan l110) H107
 i108) (ifB (decide (n18 = 14)) (call 99 [AVal.bool (decide (n10 = 0))] H14 i15 fun e111 H112 i113 => qh e111 (fun v114 => ∃ n115 : Int, v114 = uv n115 ∧ call 98
 [AVal.ptr m 0, iv 1, uv n115] H112 i113 fun e116 H117 i118 => qh e116 (fun v119 => K (AEnd.ret (iv 0)) H117 i118) fun l120 => K (AEnd.pan l120) H117 i118) fun
 l121 => K (AEnd.pan l121) H112 i113) (ifB (decide (n18 = 11)) (ifB (decide (n10 = 0)) (K (AEnd.ret (iv 1)) H14 i15) (∃ v122, some (AVal.ptr nx 0) = some v122 ∧ ∃ n123 : Int, ld1 H14
 v122 = some (iv n123) ∧ call 100 [iv n123, iv (IntKind.i64.wrap n5), iv (IntKind.i64.wrap n10)] H14 i15 fun e124 H125 i126 => qh e124 (fun v127 => ∃ n128 : Int, v127 = AVal.int
 IntKind.u64 n128 ∧ call 98 [AVal.ptr m 0, iv 2, uv n128] H125 i126 fun e129 H130 i131 => qh e129 (fun v132 => K (AEnd.ret (iv 0)) H130 i131) fun l133 => K
 (AEnd.pan l133) H130 i131) fun l134 => K (AEnd.pan l134) H125 i126)) (ifB (decide (n18 = 12)) (ifB (decide (n10 = 0)) (K (AEnd.ret (iv 1)) H14 i15) (∃ v135, some (AVal.ptr nx 0) =
 some v135 ∧ ∃ n136 : Int, ld1 H14 v135 = some (iv n136) ∧ call 100 [iv n136, iv (IntKind.i64.wrap n5), iv (IntKind.i64.wrap n10)] H14 i15 fun e137 H138 i139 => qh e137 (fun v140
 => ∃ n141 : Int, v140 = uv n141 ∧ call 98 [AVal.ptr m 0, iv 2, uv n141] H138 i139 fun e142 H143 i144 => qh e142 (fun v145 => K (AEnd.ret (iv
 0)) H143 i144) fun l146 => K (AEnd.pan l146) H143 i144) fun l147 => K (AEnd.pan l147) H138 i139)) (ifB (decide (n18 = 28)) (∃ n148 n149 n150 : Int, ldN H14 3 (AVal.ptr nx 0) = some
 (AVal.agg [iv n148, iv n149, iv n150]) ∧ call 101 [AVal.ptr m 0, AVal.agg [iv n148, iv n149, iv n150]] H14 i15 fun e151 H152 i153 => qh e151 (fun v154 => ∃ n155 : Int, v154 = iv
 n155 ∧ K (AEnd.ret (iv n155)) H152 i153) fun l156 => K (AEnd.pan l156) H152 i153) (ifB (decide (n18 = 29)) (∃ n157 n158 n159 : Int, ldN H14 3 (AVal.ptr nx 0) = some (AVal.agg [iv
 n157, iv n158, iv n159]) ∧ call 101 [AVal.ptr m 0, AVal.agg [iv n157, iv n158, iv n159]] H14 i15 fun e160 H161 i162 => qh e160 (fun v163 => ∃ n164 : Int, v163 = iv n164 ∧ K
 (AEnd.ret (iv n164)) H161 i162) fun l165 => K (AEnd.pan l165) H161 i162) (ifB (decide (n18 = 30)) (∃ n166 n167 n168 : Int, ldN H14 3 (AVal.ptr nx 0) = some (AVal.agg [iv n166, iv
 n167, iv n168]) ∧ call 101 [AVal.ptr m 0, AVal.agg [iv n166, iv n167, iv n168]] H14 i15 fun e169 H170 i171 => qh e169 (fun v172 => ∃ n173 : Int, v172 = iv n173 ∧ K (AEnd.ret (iv
 n173)) H170 i171) fun l174 => K (AEnd.pan l174) H170 i171) (ifB (decide (n18 = 31)) (∃ n175 n176 n177 : Int, ldN H14 3 (AVal.ptr nx 0) = some (AVal.agg [iv n175, iv n176, iv n177])
 ∧ call 101 [AVal.ptr m 0, AVal.agg [iv n175, iv n176, iv n177]] H14 i15 fun e178 H179 i180 => qh e178 (fun v181 => ∃ n182 : Int, v181 = iv n182 ∧ K (AEnd.ret (iv n182)) H179
 i180) fun l183 => K (AEnd.pan l183) H179 i180) (ifB (decide (n18 = 32)) (∃ n184 n185 n186 : Int, ldN H14 3 (AVal.ptr nx 0) = some (AVal.agg [iv n184, iv n185, iv n186]) ∧ call 101
 [AVal.ptr m 0, AVal.agg [iv n184, iv n185, iv n186]] H14 i15 fun e187 H188 i189 => qh e187 (fun v190 => ∃ n191 : Int, v190 = iv n191 ∧ K (AEnd.ret (iv n191)) H188 i189) fun l192
 => K (AEnd.pan l192) H188 i189) (ifB (decide (n18 = 38)) (∃ n193 n194 n195 : Int, ldN H14 3 (AVal.ptr nx 0) = some (AVal.agg [iv n193, iv n194, iv n195]) ∧ call 101 [AVal.ptr m 0,
 AVal.agg [iv n193, iv n194, iv n195]] H14 i15 fun e196 H197 i198 => qh e196 (fun v199 => ∃ n200 : Int, v199 = iv n200 ∧ K (AEnd.ret (iv n200)) H197 i198) fun l201 => K (AEnd.pan
 l201) H197 i198) (ifB (decide (n18 = 33)) (call 102 [v16, uv n10] H14 i15 fun e202 H203 i204 => qh e202 (fun v205 => ∃ n206 : Int, v205 = iv n206 ∧ call 98
 [AVal.ptr m 0, iv 1, uv (IntKind.u64.wrap n206)] H203 i204 fun e207 H208 i209 => qh e207 (fun v210 => K (AEnd.ret (iv 0)) H208 i209) fun l211 => K (AEnd.pan
 l211) H208 i209) fun l212 => K (AEnd.pan l212) H203 i204) (ifB (decide (n18 = 21)) (∃ n213 n214 n215 : Int, ldN H14 3 (AVal.ptr nx 0) = some (AVal.agg [iv n213, iv n214, iv n215]) ∧
 call 103 [AVal.ptr m 0, AVal.agg [iv n213, iv n214, iv n215]] H14 i15 fun e216 H217 i218 => qh e216 (fun v219 => ∃ n220 : Int, v219 = iv n220 ∧ K (AEnd.ret (iv n220)) H217 i218)
 fun l221 => K (AEnd.pan l221) H217 i218) (ifB (decide (n18 = 34)) (∃ n222 n223 n224 : Int, ldN H14 3 (AVal.ptr nx 0) = some (AVal.agg [iv n222, iv n223, iv n224]) ∧ call 103
 [AVal.ptr m 0, AVal.agg [iv n222, iv n223, iv n224]] H14 i15 fun e225 H226 i227 => qh e225 (fun v228 => ∃ n229 : Int, v228 = iv n229 ∧ K (AEnd.ret (iv n229)) H226 i227) fun l230
 => K (AEnd.pan l230) H226 i227) (ifB (decide (n18 = 35)) (∃ n231 n232 n233 : Int, ldN H14 3 (AVal.ptr nx 0) = some (AVal.agg [iv n231, iv n232, iv n233]) ∧ call 103 [AVal.ptr m 0,
 AVal.agg [iv n231, iv n232, iv n233]] H14 i15 fun e234 H235 i236 => qh e234 (fun v237 => ∃ n238 : Int, v237 = iv n238 ∧ K (AEnd.ret (iv n238)) H235 i236) fun l239 => K (AEnd.pan
 l239) H235 i236) (ifB (decide (n18 = 39)) (true = true ∧ ∃ v240, some (AVal.ptr m 5) = some v240 ∧ ∃ v241, ld1 H14 v240 = some v241 ∧ ∃ v242, some (AVal.ptr nx 1) = some v242 ∧ ∃
 n243 : Int, ld1 H14 v242 = some (iv n243) ∧ ((∃ v244, ld1 H14 v240 = some v244 ∧ v244 = v241) ∧ (∃ n245 : Int, ld1 H14 v242 = some (iv n245) ∧ iv n245 = iv n243) ∧ True) ∧ call 95
 [AVal.ptr m 0] H14 (i15 + 9) fun e246 H247 i248 => qh e246 (fun v249 => ∃ n250 : Int, v249 = uv n250 ∧ ((∃ v251, ld1 H247 v240 = some v251 ∧ v251 = v241) ∧ (∃
 n252 : Int, ld1 H247 v242 = some (iv n252) ∧ iv n252 = iv n243) ∧ True) ∧ call 104 [v241, iv n243, uv n250] H247 i248 fun e253 H254 i255 => qh e253 (fun v256 =>
 True ∧ K (AEnd.ret (iv 0)) H254 i255) fun l257 => K (AEnd.pan l257) H254 i255) fun l258 => K (AEnd.pan l258) H247 i248) (ifB (decide (n18 = 40)) (true = true ∧ ∃ v259, some
 (AVal.ptr m 5) = some v259 ∧ ∃ v260, ld1 H14 v259 = some v260 ∧ call 105 [v260] H14 i15 fun e261 H262 i263 => qh e261 (fun v264 => ∃ n265 : Int, v264 = uv n265
 ∧ call 94 [AVal.ptr m 0, uv n265] H262 i263 fun e266 H267 i268 => qh e266 (fun v269 => K (AEnd.ret (iv 0)) H267 i268) fun l270 => K (AEnd.pan l270) H267 i268)
 fun l271 => K (AEnd.pan l271) H262 i263) (∃ v272, some (AVal.ptr nx 0) = some v272 ∧ ∃ n273 : Int, ld1 H14 v272 = some (iv n273) ∧ call 106 [AVal.ptr m 0, iv n273, AVal.int
 IntKind.u64 n5, uv n10] H14 i15 fun e274 H275 i276 => qh e274 (fun v277 => ∃ n278 : Int, v277 = uv n278 ∧ call 98 [AVal.ptr m 0, iv 2,
 uv n278] H275 i276 fun e279 H280 i281 => qh e279 (fun v282 => K (AEnd.ret (iv 0)) H280 i281) fun l283 => K (AEnd.pan l283) H280 i281) fun l284 => K (AEnd.pan
 l284) H275 i276)))))))))))))))))))))))) fun l285 => K (AEnd.pan l285) H14 i15) fun l286 => K (AEnd.pan l286) H7 i8) fun l287 => K (AEnd.pan l287) H2 i3
theorem YB (call : qk) (lp : Nat → ql) (lv : qi) (lvc : qj) (m : Nat) (op : Int) (a : Int) (b : Int) (H : Heap) (nx : Nat) (K : EndP) : qQ Tryz.prog call lp 54 [AVal.ptr m 0, AVal.agg [iv op, iv a, iv b]] H nx (endK Tryz.prog lv lvc K) = qed call lp lv lvc m op a b H nx K := by kernel_rfl
def qdk (_call : qk) (_lp : Nat → ql) (_lv : qi) (_lvc : qj) (m : Nat) (a : Int) (H : Heap) (nx : Nat) (K : EndP) : Prop :=
 true = true ∧ ∃ v0, some (AVal.ptr m 7) = some v0 ∧ true = true ∧ ∃ H1, stC H v0 [iv 2] = some H1 ∧ true = true ∧ ∃ v2, some (AVal.ptr m 8) = some v2 ∧ true = true ∧ ∃ H3, stC H1 v2
 [iv a] = some H3 ∧ K (AEnd.ret (AVal.tuple [])) H3 nx
theorem qa3 (call : qk) (lp : Nat → ql) (lv : qi) (lvc : qj) (m : Nat) (a : Int) (H : Heap) (nx : Nat) (K : EndP) : qQ Tryz.prog call lp 55 [AVal.ptr m 0, iv a] H nx (endK Tryz.prog lv lvc K) = qdk call lp lv lvc m a H nx K := by kernel_rfl
def XY (_call : qk) (_lp : Nat → ql) (_lv : qi) (_lvc : qj) (m : Nat) (a : Int) (b : Int) (H : Heap) (nx : Nat) (K : EndP) : Prop :=
 ifB (decide (a < 0)) ((AVal.tuple [] = AVal.tuple [] ∧ AVal.tuple [] = AVal.tuple [] ∧ True) ∧ K (AEnd.ret (AVal.tuple [uv 0, AVal.bool false])) H (nx + 28)) (ifB
 (decide (1048576 < a)) ((AVal.tuple [] = AVal.tuple [] ∧ AVal.tuple [] = AVal.tuple [] ∧ True) ∧ K (AEnd.ret (AVal.tuple [uv 0, AVal.bool false])) H (nx + 28))
 (ifB (decide (b < 0)) ((AVal.tuple [] = AVal.tuple [] ∧ AVal.tuple [] = AVal.tuple [] ∧ True) ∧ K (AEnd.ret (AVal.tuple [uv 0, AVal.bool false])) H (nx + 28)) (ifB
 (decide (1048576 < b)) ((AVal.tuple [] = AVal.tuple [] ∧ AVal.tuple [] = AVal.tuple [] ∧ True) ∧ K (AEnd.ret (AVal.tuple [uv 0, AVal.bool false])) H (nx + 28))
 (true = true ∧ ∃ v0, some (AVal.ptr m 1) = some v0 ∧ ∃ n1 : Int, ld1 H v0 = some (iv n1) ∧ true = true ∧ ∃ v2, some (AVal.ptr m 0) = some v2 ∧ ∃ v3, ld1 H v2 = some v3 ∧ ∃ i4, lenS
 v3 = some i4 ∧ ((∃ n5 : Int, ld1 H v0 = some (iv n5) ∧ iv n5 = iv n1) ∧ (∃ v6, ld1 H v2 = some v6 ∧ v6 = v3) ∧ True) ∧ ifB (decide (IntKind.i64.wrap (n1 - Int.ofNat i4) ≤ b)) (K
 (AEnd.ret (AVal.tuple [uv 0, AVal.bool false])) H (nx + 28)) (true = true ∧ ∃ v7, some (AVal.ptr m 0) = some v7 ∧ ∃ v8, ld1 H v7 = some v8 ∧ ∃ i9, lenS v8 = some
 i9 ∧ true = true ∧ ∃ v10, some (AVal.ptr m 0) = some v10 ∧ ∃ v11, ld1 H v10 = some v11 ∧ (0 : Int) ≤ 32 ∧ true = true ∧ ∃ H12, H12 = newB (nx + 28) [AVal.int IntKind.u64
 (IntKind.u64.wrap ↑(BitVec.ofInt 64 (IntKind.u64.wrap (IntKind.u64.wrap a * 4294967296)) ||| BitVec.ofInt 64 (IntKind.u64.wrap b)).toNat)] H ∧ ∃ i13 l14, aSrc 1 H12 (AVal.slice (nx
 + 28) 0 1 1 true) = some (i13, l14) ∧ qq l14 = true ∧ ∃ v15 H16 i17, appC H12 (nx + 28 + 1) 1 8 v11 i13 l14 = some (v15, H16, i17) ∧ true = true ∧ ∃ v18, some (AVal.ptr m 0) =
 some v18 ∧ qD v15 = true ∧ ∃ H19, stC H16 v18 [v15] = some H19 ∧ true = true ∧ ∃ v20, some (AVal.ptr m 0) = some v20 ∧ ∃ v21, ld1 H19 v20 = some v21 ∧ ∃ i22 l23, QN [AVal.int
 IntKind.u64 0] 1 (iv b) = some (i22, l23) ∧ qq l23 = true ∧ ∃ v24 H25 i26, appC H19 i17 1 8 v21 i22 l23 = some (v24, H25, i26) ∧ true = true ∧ ∃ v27, some (AVal.ptr m 0) = some
 v27 ∧ qD v24 = true ∧ ∃ H28, stC H25 v27 [v24] = some H28 ∧ K (AEnd.ret (AVal.tuple [uv (IntKind.u64.wrap (Int.ofNat i9)), AVal.bool true])) H28 i26)))))
theorem W3 (call : qk) (lp : Nat → ql) (lv : qi) (lvc : qj) (m : Nat) (a : Int) (b : Int) (H : Heap) (nx : Nat) (K : EndP) : qQ Tryz.prog call lp 89 [AVal.ptr m 0, iv a, iv b] H nx (endK Tryz.prog lv lvc K) = XY call lp lv lvc m a b H nx K := by kernel_rfl
def FSet (call : qk) (_lp : Nat → ql) (_lv : qi) (_lvc : qj) (m : Nat) (r : Int) (i : Int) (v : Int) (H : Heap) (nx : Nat) (K : EndP) : Prop :=
 call 153 [AVal.ptr m 0, uv r, iv i] H nx fun e0 H1 i2 => qh e0 (fun v3 => ∃ n4 : Int, v3 = uv n4 ∧ call 152 [AVal.ptr m 0, AVal.int
 IntKind.u64 n4, uv v] H1 i2 fun e5 H6 i7 => qh e5 (fun v8 => ∃ b9, v8 = AVal.bool b9 ∧ K (AEnd.ret (AVal.bool b9)) H6 i7) fun l10 => K (AEnd.pan l10) H6 i7) fun
 l11 => K (AEnd.pan l11) H1 i2
theorem qbj (call : qk) (lp : Nat → ql) (lv : qi) (lvc : qj) (m : Nat) (r : Int) (i : Int) (v : Int) (H : Heap) (nx : Nat) (K : EndP) : qQ Tryz.prog call lp 90 [AVal.ptr m 0, uv r, iv i, uv v] H nx (endK Tryz.prog lv lvc K) = FSet call lp lv lvc m r i v H nx K := by kernel_rfl
def WK (call : qk) (_lp : Nat → ql) (_lv : qi) (_lvc : qj) (m : Nat) (op : Int) (a : Int) (b : Int) (H : Heap) (nx : Nat) (K : EndP) : Prop :=
 ∃ H0, H0 = kZ nx [iv op, iv a, iv b].length [iv op, iv a, iv b] H ∧ ∃ v1, some (AVal.ptr nx 0) = some v1 ∧ ∃ n2 : Int, ld1 H0 v1 = some (iv n2) ∧ ifB (decide (n2 = 36)) (∃ v3,
 some (AVal.ptr nx 1) = some v3 ∧ ∃ n4 : Int, ld1 H0 v3 = some (iv n4) ∧ K (AEnd.ret (iv n4)) H0 (nx + 1)) (∃ v5, some (AVal.ptr nx 2) = some v5 ∧ ∃ n6 : Int, ld1 H0 v5 = some (iv
 n6) ∧ call 92 [AVal.ptr m 0, iv (IntKind.i64.wrap (n6 - 1))] H0 (nx + 1) fun e7 H8 i9 => qh e7 (fun v10 => ∃ n11 : Int, v10 = uv n11 ∧ true = true ∧ ∃ v12, some
 (AVal.ptr m 5) = some v12 ∧ ∃ v13, ld1 H8 v12 = some v13 ∧ call 96 [v13] H8 i9 fun e14 H15 i16 => qh e14 (fun v17 => call 154 [v17, uv n11] H15 i16 fun e18 H19
 i20 => qh e18 (fun v21 => ∃ n22 : Int, v21 = iv n22 ∧ true = true ∧ ∃ v23, some (AVal.ptr m 0) = some v23 ∧ ∃ v24, q7 v23 0 = some v24 ∧ ∃ v25, ld1 H19 v24 = some v25 ∧ true
 = true ∧ ∃ v26, some (AVal.ptr m 0) = some v26 ∧ ∃ v27, q7 v26 3 = some v27 ∧ ∃ v28, ld1 H19 v27 = some v28 ∧ ∃ v29, some (AVal.ptr nx 1) = some v29 ∧ ∃ n30 : Int, ld1 H19 v29 =
 some (iv n30) ∧ 0 ≤ n30 ∧ ∃ v31, idxS v28 n30.toNat 1 = some v31 ∧ ∃ s32, ld1 H19 v31 = some (AVal.str s32) ∧ ((∃ v33, ld1 H19 v24 = some v33 ∧ v33 = v25) ∧ (∃ v34, ld1 H19 v27 =
 some v34 ∧ v34 = v28) ∧ (∃ n35 : Int, ld1 H19 v29 = some (iv n35) ∧ iv n35 = iv n30) ∧ (∃ s36, ld1 H19 v31 = some (AVal.str s36) ∧ AVal.str s36 = AVal.str s32) ∧ True) ∧ call 155
 [v25, iv n22, AVal.str s32] H19 (i20 + 21) fun e37 H38 i39 => qh e37 (fun v40 => ∃ n41 b42, v40 = AVal.tuple [iv n41, AVal.bool b42] ∧ True ∧ ifB (decide (n11 = 0)) (K (AEnd.ret
 (iv (-1))) H38 i39) (ifB (!b42) (K (AEnd.ret (iv (-1))) H38 i39) (true = true ∧ ∃ v43, some (AVal.ptr m 0) = some v43 ∧ ∃ v44, q7 v43 0 = some v44 ∧ ∃ v45, ld1 H38 v44 = some
 v45 ∧ 0 ≤ n22 ∧ ∃ v46, idxS v45 n22.toNat 5 = some v46 ∧ ∃ v47, q7 v46 4 = some v47 ∧ ∃ v48, ld1 H38 v47 = some v48 ∧ 0 ≤ n41 ∧ ∃ v49, idxS v48 n41.toNat 4 = some v49 ∧ ∃ v50,
 q7 v49 3 = some v50 ∧ ∃ n51 : Int, ld1 H38 v50 = some (iv n51) ∧ K (AEnd.ret (iv n51)) H38 i39))) fun l52 => K (AEnd.pan l52) H38 i39) fun l53 => K (AEnd.pan l53) H19 i20) fun
 l54 => K (AEnd.pan l54) H15 i16) fun l55 => K (AEnd.pan l55) H8 i9)
theorem VH (call : qk) (lp : Nat → ql) (lv : qi) (lvc : qj) (m : Nat) (op : Int) (a : Int) (b : Int) (H : Heap) (nx : Nat) (K : EndP) : qQ Tryz.prog call lp 91 [AVal.ptr m 0, AVal.agg [iv op, iv a, iv b]] H nx (endK Tryz.prog lv lvc K) = WK call lp lv lvc m op a b H nx K := by kernel_rfl
def qdp (_call : qk) (_lp : Nat → ql) (_lv : qi) (_lvc : qj) (m : Nat) (k : Int) (H : Heap) (nx : Nat) (K : EndP) : Prop :=
 true = true ∧ ∃ v0, some (AVal.ptr m 9) = some v0 ∧ ∃ v1, ld1 H v0 = some v1 ∧ ∃ b2, nilK NK.ptr v1 = some b2 ∧ ifB b2 (K (AEnd.ret (uv 0)) H nx) (ifB (decide (k <
 0)) (K (AEnd.ret (uv 0)) H nx) (true = true ∧ ∃ v3, some (AVal.ptr m 9) = some v3 ∧ ∃ v4, ld1 H v3 = some v4 ∧ zd v4 = true ∧ ∃ v5, q7 v4 3 = some v5 ∧ ∃
 v6, ld1 H v5 = some v6 ∧ ∃ i7, lenS v6 = some i7 ∧ ifB (decide (Int.ofNat i7 ≤ k)) (K (AEnd.ret (uv 0)) H nx) (true = true ∧ ∃ v8, some (AVal.ptr m 9) = some v8 ∧
 ∃ v9, ld1 H v8 = some v9 ∧ zd v9 = true ∧ ∃ v10, q7 v9 3 = some v10 ∧ ∃ v11, ld1 H v10 = some v11 ∧ true = true ∧ ∃ v12, some (AVal.ptr m 9) = some v12 ∧ ∃ v13, ld1 H v12 =
 some v13 ∧ zd v13 = true ∧ ∃ v14, q7 v13 3 = some v14 ∧ ∃ v15, ld1 H v14 = some v15 ∧ ∃ i16, lenS v15 = some i16 ∧ 0 ≤ IntKind.i64.wrap (IntKind.i64.wrap (Int.ofNat i16 - 1)
 - k) ∧ ∃ v17, idxS v11 (IntKind.i64.wrap (IntKind.i64.wrap (Int.ofNat i16 - 1) - k)).toNat 1 = some v17 ∧ ∃ n18 : Int, ld1 H v17 = some (uv n18) ∧ ((∃ v19, ld1 H
 v8 = some v19 ∧ v19 = v9) ∧ (∃ v20, ld1 H v10 = some v20 ∧ v20 = v11) ∧ (∃ v21, ld1 H v12 = some v21 ∧ v21 = v13) ∧ (∃ v22, ld1 H v14 = some v22 ∧ v22 = v15) ∧ (∃ n23 : Int, ld1 H
 v17 = some (uv n23) ∧ uv n23 = uv n18) ∧ True) ∧ K (AEnd.ret (uv n18)) H (nx + 21))))
theorem YP (call : qk) (lp : Nat → ql) (lv : qi) (lvc : qj) (m : Nat) (k : Int) (H : Heap) (nx : Nat) (K : EndP) : qQ Tryz.prog call lp 92 [AVal.ptr m 0, iv k] H nx (endK Tryz.prog lv lvc K) = qdp call lp lv lvc m k H nx K := by kernel_rfl
def qek (_call : qk) (_lp : Nat → ql) (_lv : qi) (_lvc : qj) (m : Nat) (k : Int) (H : Heap) (nx : Nat) (K : EndP) : Prop :=
 true = true ∧ ∃ v0, some (AVal.ptr m 9) = some v0 ∧ ∃ v1, ld1 H v0 = some v1 ∧ zd v1 = true ∧ ∃ v2, q7 v1 3 = some v2 ∧ ∃ v3, ld1 H v2 = some v3 ∧ true = true ∧ ∃ v4, some
 (AVal.ptr m 9) = some v4 ∧ ∃ v5, ld1 H v4 = some v5 ∧ ∃ i6, lenS v3 = some i6 ∧ ∃ n7 : Int, some (Bool.rec (Bool.rec 0 (IntKind.i64.wrap (Int.ofNat i6 - k)) (ilt (IntKind.i64.wrap
 (Int.ofNat i6 - k)) 0)) (Bool.rec 0 (IntKind.i64.wrap (Int.ofNat i6 - k)) (ilt 0 (IntKind.i64.wrap (Int.ofNat i6 - k)))) true) = some n7 ∧ 0 ≤ n7 ∧ ∃ v8, slcS v3 1 0 (some n7.toNat)
 = some v8 ∧ zd v5 = true ∧ ∃ v9, q7 v5 3 = some v9 ∧ ((∃ v10, ld1 H v4 = some v10 ∧ v10 = v5) ∧ (0 ≤ n7 ∧ ∃ v11, slcS v3 1 0 (some n7.toNat) = some v11 ∧ v11 = v8) ∧ True) ∧
 qD v8 = true ∧ ∃ H12, stC H v9 [v8] = some H12 ∧ True ∧ K (AEnd.ret (AVal.tuple [])) H12 (nx + 14)
theorem YQ (call : qk) (lp : Nat → ql) (lv : qi) (lvc : qj) (m : Nat) (k : Int) (H : Heap) (nx : Nat) (K : EndP) : qQ Tryz.prog call lp 93 [AVal.ptr m 0, iv k] H nx (endK Tryz.prog lv lvc K) = qek call lp lv lvc m k H nx K := by kernel_rfl
def qe1 (_call : qk) (_lp : Nat → ql) (_lv : qi) (_lvc : qj) (m : Nat) (v : Int) (H : Heap) (nx : Nat) (K : EndP) : Prop :=
 true = true ∧ ∃ v0, some (AVal.ptr m 9) = some v0 ∧ ∃ v1, ld1 H v0 = some v1 ∧ true = true ∧ ∃ v2, some (AVal.ptr m 9) = some v2 ∧ ∃ v3, ld1 H v2 = some v3 ∧ zd v3 = true ∧ ∃
 v4, q7 v3 3 = some v4 ∧ ∃ v5, ld1 H v4 = some v5 ∧ true = true ∧ ∃ H6, H6 = newB (nx + 12) [uv v] H ∧ ((∃ v7, ld1 H6 v0 = some v7 ∧ v7 = v1) ∧ (∃ v8, ld1 H6 v2
 = some v8 ∧ v8 = v3) ∧ (∃ v9, ld1 H6 v4 = some v9 ∧ v9 = v5) ∧ True) ∧ ∃ i10 l11, aSrc 1 H6 (AVal.slice (nx + 12) 0 1 1 true) = some (i10, l11) ∧ qq l11 = true ∧ ∃ v12 H13 i14,
 appC H6 (nx + 17) 1 8 v5 i10 l11 = some (v12, H13, i14) ∧ zd v1 = true ∧ ∃ v15, q7 v1 3 = some v15 ∧ ((∃ v16, ld1 H13 v0 = some v16 ∧ v16 = v1) ∧ True) ∧ qD v12 = true ∧
 ∃ H17, stC H13 v15 [v12] = some H17 ∧ True ∧ K (AEnd.ret (AVal.tuple [])) H17 i14
theorem Y6 (call : qk) (lp : Nat → ql) (lv : qi) (lvc : qj) (m : Nat) (v : Int) (H : Heap) (nx : Nat) (K : EndP) : qQ Tryz.prog call lp 94 [AVal.ptr m 0, uv v] H nx (endK Tryz.prog lv lvc K) = qe1 call lp lv lvc m v H nx K := by kernel_rfl
def Fpop (call : qk) (_lp : Nat → ql) (_lv : qi) (_lvc : qj) (m : Nat) (H : Heap) (nx : Nat) (K : EndP) : Prop :=
 call 92 [AVal.ptr m 0, iv 0] H nx fun e0 H1 i2 => qh e0 (fun v3 => ∃ n4 : Int, v3 = uv n4 ∧ call 93 [AVal.ptr m 0, iv 1] H1 i2 fun e5 H6 i7 => qh e5 (fun v8
 => K (AEnd.ret (uv n4)) H6 i7) fun l9 => K (AEnd.pan l9) H6 i7) fun l10 => K (AEnd.pan l10) H1 i2
theorem qcp (call : qk) (lp : Nat → ql) (lv : qi) (lvc : qj) (m : Nat) (H : Heap) (nx : Nat) (K : EndP) : qQ Tryz.prog call lp 95 [AVal.ptr m 0] H nx (endK Tryz.prog lv lvc K) = Fpop call lp lv lvc m H nx K := by kernel_rfl
def qeb (_call : qk) (_lp : Nat → ql) (_lv : qi) (_lvc : qj) (m : Nat) (H : Heap) (nx : Nat) (K : EndP) : Prop :=
 true = true ∧ ∃ v0, some (AVal.ptr m 1) = some v0 ∧ ∃ v1, ld1 H v0 = some v1 ∧ K (AEnd.ret v1) H nx
theorem qas (call : qk) (lp : Nat → ql) (lv : qi) (lvc : qj) (m : Nat) (H : Heap) (nx : Nat) (K : EndP) : qQ Tryz.prog call lp 96 [AVal.ptr m 0] H nx (endK Tryz.prog lv lvc K) = qeb call lp lv lvc m H nx K := by kernel_rfl
def FLit (_call : qk) (_lp : Nat → ql) (_lv : qi) (_lvc : qj) (m : Nat) (k : Int) (H : Heap) (nx : Nat) (K : EndP) : Prop :=
 ifB (decide (k < 0)) (K (AEnd.ret (uv 0)) H nx) (true = true ∧ ∃ v0, some (AVal.ptr m 2) = some v0 ∧ ∃ v1, ld1 H v0 = some v1 ∧ ∃ i2, lenS v1 = some i2 ∧ ifB
 (decide (Int.ofNat i2 ≤ k)) (K (AEnd.ret (uv 0)) H nx) (true = true ∧ ∃ v3, some (AVal.ptr m 2) = some v3 ∧ ∃ v4, ld1 H v3 = some v4 ∧ 0 ≤ k ∧ ∃ v5, idxS v4
 k.toNat 1 = some v5 ∧ ∃ n6 : Int, ld1 H v5 = some (uv n6) ∧ K (AEnd.ret (uv n6)) H nx))
theorem qce (call : qk) (lp : Nat → ql) (lv : qi) (lvc : qj) (m : Nat) (k : Int) (H : Heap) (nx : Nat) (K : EndP) : qQ Tryz.prog call lp 97 [AVal.ptr m 0, iv k] H nx (endK Tryz.prog lv lvc K) = FLit call lp lv lvc m k H nx K := by kernel_rfl
def Fput (call : qk) (_lp : Nat → ql) (_lv : qi) (_lvc : qj) (m : Nat) (n : Int) (v : Int) (H : Heap) (nx : Nat) (K : EndP) : Prop :=
 call 93 [AVal.ptr m 0, iv n] H nx fun e0 H1 i2 => qh e0 (fun v3 => call 94 [AVal.ptr m 0, uv v] H1 i2 fun e4 H5 i6 => qh e4 (fun v7 => K (AEnd.ret
 (AVal.tuple [])) H5 i6) fun l8 => K (AEnd.pan l8) H5 i6) fun l9 => K (AEnd.pan l9) H1 i2
theorem qcv (call : qk) (lp : Nat → ql) (lv : qi) (lvc : qj) (m : Nat) (n : Int) (v : Int) (H : Heap) (nx : Nat) (K : EndP) : qQ Tryz.prog call lp 98 [AVal.ptr m 0, iv n, uv v] H nx (endK Tryz.prog lv lvc K) = Fput call lp lv lvc m n v H nx K := by kernel_rfl
def Fbit (_call : qk) (_lp : Nat → ql) (_lv : qi) (_lvc : qj) (b : Bool) (H : Heap) (nx : Nat) (K : EndP) : Prop :=
 ifB b (K (AEnd.ret (uv 1)) H nx) (K (AEnd.ret (uv 0)) H nx)
theorem qbe (call : qk) (lp : Nat → ql) (lv : qi) (lvc : qj) (b : Bool) (H : Heap) (nx : Nat) (K : EndP) : qQ Tryz.prog call lp 99 [AVal.bool b] H nx (endK Tryz.prog lv lvc K) = Fbit call lp lv lvc b H nx K := by kernel_rfl
def WG (_call : qk) (_lp : Nat → ql) (_lv : qi) (_lvc : qj) (op : Int) (a : Int) (b : Int) (H : Heap) (nx : Nat) (K : EndP) : Prop :=
 ifB (decide (a = -9223372036854775808)) (ifB (decide (b = -1)) (ifB (decide (op = 11)) ((1 : Int) ≠ 0 ∧ K (AEnd.ret (uv (IntKind.u64.wrap (IntKind.i64.wrap (a.tdiv
 1))))) H nx) ((1 : Int) ≠ 0 ∧ K (AEnd.ret (uv (IntKind.u64.wrap (a.tmod 1)))) H nx)) (ifB (decide (op = 11)) (b ≠ 0 ∧ K (AEnd.ret (AVal.int IntKind.u64
 (IntKind.u64.wrap (IntKind.i64.wrap (a.tdiv b))))) H nx) (b ≠ 0 ∧ K (AEnd.ret (uv (IntKind.u64.wrap (a.tmod b)))) H nx))) (ifB (decide (op = 11)) (b ≠ 0 ∧ K
 (AEnd.ret (uv (IntKind.u64.wrap (IntKind.i64.wrap (a.tdiv b))))) H nx) (b ≠ 0 ∧ K (AEnd.ret (uv (IntKind.u64.wrap (a.tmod b)))) H nx))
theorem V0 (call : qk) (lp : Nat → ql) (lv : qi) (lvc : qj) (op : Int) (a : Int) (b : Int) (H : Heap) (nx : Nat) (K : EndP) : qQ Tryz.prog call lp 100 [iv op, iv a, iv b] H nx (endK Tryz.prog lv lvc K) = WG call lp lv lvc op a b H nx K := by kernel_rfl
def qdh (call : qk) (_lp : Nat → ql) (_lv : qi) (_lvc : qj) (m : Nat) (op : Int) (a : Int) (b : Int) (H : Heap) (nx : Nat) (K : EndP) : Prop :=
 ∃ H0, H0 = kZ nx [iv op, iv a, iv b].length [iv op, iv a, iv b] H ∧ true = true ∧ ∃ v1, some (AVal.ptr m 5) = some v1 ∧ ∃ v2, ld1 H0 v1 = some v2 ∧ call 96 [v2] H0 (nx + 1) fun
 e3 H4 i5 => qh e3 (fun v6 => call 92 [AVal.ptr m 0, iv 2] H4 i5 fun e7 H8 i9 => qh e7 (fun v10 => ∃ n11 : Int, v10 = uv n11 ∧ call 92 [AVal.ptr m 0, iv 1] H8
 i9 fun e12 H13 i14 => qh e12 (fun v15 => ∃ n16 : Int, v15 = uv n16 ∧ call 92 [AVal.ptr m 0, iv 0] H13 i14 fun e17 H18 i19 => qh e17 (fun v20 => ∃ n21 : Int,
 v20 = uv n21 ∧ ∃ v22, some (AVal.ptr nx 0) = some v22 ∧ ∃ n23 : Int, ld1 H18 v22 = some (iv n23) ∧ ifB (decide (n23 = 28)) (ifB (decide (n21 = 0)) (K (AEnd.ret (iv
 3)) H18 i19) (∃ v24, some (AVal.ptr nx 1) = some v24 ∧ ∃ n25 : Int, ld1 H18 v24 = some (iv n25) ∧ call 156 [v6, uv n21, iv n25] H18 i19 fun e26 H27 i28 => qh
 e26 (fun v29 => ∃ n30 : Int, v29 = uv n30 ∧ call 98 [AVal.ptr m 0, iv 1, uv n30] H27 i28 fun e31 H32 i33 => qh e31 (fun v34 => K (AEnd.ret (iv
 0)) H32 i33) fun l35 => K (AEnd.pan l35) H32 i33) fun l36 => K (AEnd.pan l36) H27 i28)) (ifB (decide (n23 = 29)) (ifB (decide (n16 = 0)) (K (AEnd.ret (iv 3)) H18 i19) (∃ v37, some
 (AVal.ptr nx 1) = some v37 ∧ ∃ n38 : Int, ld1 H18 v37 = some (iv n38) ∧ call 90 [v6, uv n16, iv n38, uv n21] H18 i19 fun e39 H40 i41 => qh e39
 (fun v42 => ∃ b43, v42 = AVal.bool b43 ∧ call 93 [AVal.ptr m 0, iv 2] H40 i41 fun e44 H45 i46 => qh e44 (fun v47 => K (AEnd.ret (iv 0)) H45 i46) fun l48 => K (AEnd.pan l48) H45
 i46) fun l49 => K (AEnd.pan l49) H40 i41)) (ifB (decide (n23 = 30)) (call 102 [v6, uv n16] H18 i19 fun e50 H51 i52 => qh e50 (fun v53 => ∃ n54 : Int, v53 = iv
 n54 ∧ call 157 [uv n21, iv n54] H51 i52 fun e55 H56 i57 => qh e55 (fun v58 => ∃ n59 : Int, v58 = iv n59 ∧ ifB (decide (n16 = 0)) (∃ v60, some (AVal.ptr nx 0) =
 some v60 ∧ ∃ n61 : Int, ld1 H56 v60 = some (iv n61) ∧ ifB (decide (n61 = 30)) (K (AEnd.ret (iv 3)) H56 i57) (ifB (decide (n59 < 0)) (K (AEnd.ret (iv 2)) H56 i57) (call 156 [v6,
 uv n16, iv n59] H56 i57 fun e62 H63 i64 => qh e62 (fun v65 => ∃ n66 : Int, v65 = uv n66 ∧ call 98 [AVal.ptr m 0, iv 2, AVal.int IntKind.u64
 n66] H63 i64 fun e67 H68 i69 => qh e67 (fun v70 => K (AEnd.ret (iv 0)) H68 i69) fun l71 => K (AEnd.pan l71) H68 i69) fun l72 => K (AEnd.pan l72) H63 i64))) (ifB (decide (n59 <
 0)) (K (AEnd.ret (iv 2)) H56 i57) (call 156 [v6, uv n16, iv n59] H56 i57 fun e73 H74 i75 => qh e73 (fun v76 => ∃ n77 : Int, v76 = uv n77 ∧
 call 98 [AVal.ptr m 0, iv 2, uv n77] H74 i75 fun e78 H79 i80 => qh e78 (fun v81 => K (AEnd.ret (iv 0)) H79 i80) fun l82 => K (AEnd.pan l82) H79 i80) fun l83 =>
 K (AEnd.pan l83) H74 i75))) fun l84 => K (AEnd.pan l84) H56 i57) fun l85 => K (AEnd.pan l85) H51 i52) (ifB (decide (n23 = 32)) (call 102 [v6, uv n16] H18 i19 fun
 e86 H87 i88 => qh e86 (fun v89 => ∃ n90 : Int, v89 = iv n90 ∧ call 157 [uv n21, iv n90] H87 i88 fun e91 H92 i93 => qh e91 (fun v94 => ∃ n95 : Int, v94 = iv
 n95 ∧ ifB (decide (n16 = 0)) (∃ v96, some (AVal.ptr nx 0) = some v96 ∧ ∃ n97 : Int, ld1 H92 v96 = some (iv n97) ∧ ifB (decide (n97 = 30)) (K (AEnd.ret (iv 3)) H92 i93) (ifB (decide
 (n95 < 0)) (K (AEnd.ret (iv 2)) H92 i93) (call 156 [v6, uv n16, iv n95] H92 i93 fun e98 H99 i100 => qh e98 (fun v101 => ∃ n102 : Int, v101 = AVal.int
 IntKind.u64 n102 ∧ call 98 [AVal.ptr m 0, iv 2, uv n102] H99 i100 fun e103 H104 i105 => qh e103 (fun v106 => K (AEnd.ret (iv 0)) H104 i105) fun l107 => K
 (AEnd.pan l107) H104 i105) fun l108 => K (AEnd.pan l108) H99 i100))) (ifB (decide (n95 < 0)) (K (AEnd.ret (iv 2)) H92 i93) (call 156 [v6, uv n16, iv n95] H92 i93
 fun e109 H110 i111 => qh e109 (fun v112 => ∃ n113 : Int, v112 = uv n113 ∧ call 98 [AVal.ptr m 0, iv 2, uv n113] H110 i111 fun e114 H115 i116
 => qh e114 (fun v117 => K (AEnd.ret (iv 0)) H115 i116) fun l118 => K (AEnd.pan l118) H115 i116) fun l119 => K (AEnd.pan l119) H110 i111))) fun l120 => K (AEnd.pan l120) H92 i93)
 fun l121 => K (AEnd.pan l121) H87 i88) (ifB (decide (n23 = 31)) (call 102 [v6, uv n11] H18 i19 fun e122 H123 i124 => qh e122 (fun v125 => ∃ n126 : Int, v125 =
 iv n126 ∧ call 157 [uv n16, iv n126] H123 i124 fun e127 H128 i129 => qh e127 (fun v130 => ∃ n131 : Int, v130 = iv n131 ∧ ifB (decide (n11 = 0)) (K (AEnd.ret (iv
 3)) H128 i129) (ifB (decide (n131 < 0)) (K (AEnd.ret (iv 2)) H128 i129) (call 90 [v6, uv n11, iv n131, uv n21] H128 i129 fun e132 H133 i134 =>
 qh e132 (fun v135 => ∃ b136, v135 = AVal.bool b136 ∧ call 93 [AVal.ptr m 0, iv 3] H133 i134 fun e137 H138 i139 => qh e137 (fun v140 => K (AEnd.ret (iv 0)) H138 i139) fun l141
 => K (AEnd.pan l141) H138 i139) fun l142 => K (AEnd.pan l142) H133 i134))) fun l143 => K (AEnd.pan l143) H128 i129) fun l144 => K (AEnd.pan l144) H123 i124) (ifB (decide (n21 = 0))
 ((AVal.tuple [] = AVal.tuple [] ∧ True) ∧ (AVal.tuple [] = AVal.tuple [] ∧ True) ∧ K (AEnd.ret (iv 4)) H18 (i19 + 10)) (∃ v145, some (AVal.ptr nx 1) = some v145 ∧ ∃ n146 : Int, ld1
 H18 v145 = some (iv n146) ∧ ((∃ n147 : Int, ld1 H18 v145 = some (iv n147) ∧ iv n147 = iv n146) ∧ True) ∧ call 154 [v6, uv n21] H18 (i19 + 10) fun e148 H149 i150 =>
 qh e148 (fun v151 => ∃ n152 : Int, v151 = iv n152 ∧ ((∃ n153 : Int, ld1 H149 v145 = some (iv n153) ∧ iv n153 = iv n146) ∧ True) ∧ ifB (!decide (n152 = n146)) (K (AEnd.ret (iv 4))
 H149 i150) (K (AEnd.ret (iv 0)) H149 i150)) fun l154 => K (AEnd.pan l154) H149 i150))))))) fun l155 => K (AEnd.pan l155) H18 i19) fun l156 => K (AEnd.pan l156) H13 i14) fun l157 =>
 K (AEnd.pan l157) H8 i9) fun l158 => K (AEnd.pan l158) H4 i5
theorem XV (call : qk) (lp : Nat → ql) (lv : qi) (lvc : qj) (m : Nat) (op : Int) (a : Int) (b : Int) (H : Heap) (nx : Nat) (K : EndP) : qQ Tryz.prog call lp 101 [AVal.ptr m 0, AVal.agg [iv op, iv a, iv b]] H nx (endK Tryz.prog lv lvc K) = qdh call lp lv lvc m op a b H nx K := by kernel_rfl
def FLen (call : qk) (_lp : Nat → ql) (_lv : qi) (_lvc : qj) (m : Nat) (r : Int) (H : Heap) (nx : Nat) (K : EndP) : Prop :=
 call 158 [AVal.ptr m 0, uv r] H nx fun e0 H1 i2 => qh e0 (fun v3 => ∃ n4 : Int, v3 = uv n4 ∧ K (AEnd.ret (iv (IntKind.i64.wrap
 (IntKind.u64.wrap ↑(BitVec.ofInt 64 n4 &&& BitVec.ofInt 64 4294967295).toNat)))) H1 i2) fun l5 => K (AEnd.pan l5) H1 i2
theorem qbf (call : qk) (lp : Nat → ql) (lv : qi) (lvc : qj) (m : Nat) (r : Int) (H : Heap) (nx : Nat) (K : EndP) : qQ Tryz.prog call lp 102 [AVal.ptr m 0, uv r] H nx (endK Tryz.prog lv lvc K) = FLen call lp lv lvc m r H nx K := by kernel_rfl
def Yp (call : qk) (_lp : Nat → ql) (_lv : qi) (_lvc : qj) (m : Nat) (op : Int) (a : Int) (b : Int) (H : Heap) (nx : Nat) (K : EndP) : Prop :=
 ∃ H0, H0 = kZ nx [iv op, iv a, iv b].length [iv op, iv a, iv b] H ∧ ∃ v1, some (AVal.ptr nx 0) = some v1 ∧ ∃ n2 : Int, ld1 H0 v1 = some (iv n2) ∧ ifB (decide (n2 = 21)) (true =
 true ∧ ∃ v3, some (AVal.ptr m 5) = some v3 ∧ ∃ v4, ld1 H0 v3 = some v4 ∧ ((∃ v5, ld1 H0 v3 = some v5 ∧ v5 = v4) ∧ True) ∧ call 92 [AVal.ptr m 0, iv 1] H0 (nx + 1 + 14) fun e6 H7 i8
 => qh e6 (fun v9 => ∃ n10 : Int, v9 = uv n10 ∧ ((∃ v11, ld1 H7 v3 = some v11 ∧ v11 = v4) ∧ True) ∧ call 92 [AVal.ptr m 0, iv 0] H7 i8 fun e12 H13 i14 => qh
 e12 (fun v15 => ∃ n16 : Int, v15 = uv n16 ∧ ((∃ v17, ld1 H13 v3 = some v17 ∧ v17 = v4) ∧ True) ∧ call 159 [v4, uv n10, uv n16]
 H13 i14 fun e18 H19 i20 => qh e18 (fun v21 => ∃ n22 b23, v21 = AVal.tuple [uv n22, AVal.bool b23] ∧ True ∧ ifB (!b23) (K (AEnd.ret (iv 7)) H19 i20) (call 98
 [AVal.ptr m 0, iv 2, uv n22] H19 i20 fun e24 H25 i26 => qh e24 (fun v27 => K (AEnd.ret (iv 0)) H25 i26) fun l28 => K (AEnd.pan l28) H25 i26)) fun l29 => K
 (AEnd.pan l29) H19 i20) fun l30 => K (AEnd.pan l30) H13 i14) fun l31 => K (AEnd.pan l31) H7 i8) (ifB (decide (n2 = 34)) (true = true ∧ ∃ v32, some (AVal.ptr m 5) = some v32 ∧ ∃ v33,
 ld1 H0 v32 = some v33 ∧ ∃ v34, some (AVal.ptr nx 1) = some v34 ∧ ∃ n35 : Int, ld1 H0 v34 = some (iv n35) ∧ ((∃ v36, ld1 H0 v32 = some v36 ∧ v36 = v33) ∧ (∃ n37 : Int, ld1 H0 v34 =
 some (iv n37) ∧ iv n37 = iv n35) ∧ True) ∧ call 160 [v33, iv n35] H0 (nx + 1 + 12) fun e38 H39 i40 => qh e38 (fun v41 => ∃ n42 b43, v41 = AVal.tuple [uv n42,
 AVal.bool b43] ∧ True ∧ ifB (!b43) (K (AEnd.ret (iv 7)) H39 i40) (call 98 [AVal.ptr m 0, iv 0, uv n42] H39 i40 fun e44 H45 i46 => qh e44 (fun v47 => K (AEnd.ret
 (iv 0)) H45 i46) fun l48 => K (AEnd.pan l48) H45 i46)) fun l49 => K (AEnd.pan l49) H39 i40) (call 92 [AVal.ptr m 0, iv 0] H0 (nx + 1) fun e50 H51 i52 => qh e50 (fun v53 => ∃ n54
 : Int, v53 = uv n54 ∧ ifB (decide (2000 < n54)) (K (AEnd.ret (iv 5)) H51 i52) (true = true ∧ ∃ v55, some (AVal.ptr m 5) = some v55 ∧ ∃ v56, ld1 H51 v55 = some v56
 ∧ ∃ v57, some (AVal.ptr nx 1) = some v57 ∧ ∃ n58 : Int, ld1 H51 v57 = some (iv n58) ∧ ((∃ v59, ld1 H51 v55 = some v59 ∧ v59 = v56) ∧ (∃ n60 : Int, ld1 H51 v57 = some (iv n60) ∧ iv
 n60 = iv n58) ∧ True) ∧ call 92 [AVal.ptr m 0, iv 0] H51 (i52 + 15) fun e61 H62 i63 => qh e61 (fun v64 => ∃ n65 : Int, v64 = uv n65 ∧ ((∃ v66, ld1 H62 v55 =
 some v66 ∧ v66 = v56) ∧ (∃ n67 : Int, ld1 H62 v57 = some (iv n67) ∧ iv n67 = iv n58) ∧ iv (IntKind.i64.wrap n65) = iv (IntKind.i64.wrap n65) ∧ True) ∧ call 161 [v56, iv n58, iv
 (IntKind.i64.wrap n65)] H62 i63 fun e68 H69 i70 => qh e68 (fun v71 => ∃ n72 b73, v71 = AVal.tuple [uv n72, AVal.bool b73] ∧ True ∧ ifB (!b73) (K (AEnd.ret (iv
 7)) H69 i70) (call 98 [AVal.ptr m 0, iv 1, uv n72] H69 i70 fun e74 H75 i76 => qh e74 (fun v77 => K (AEnd.ret (iv 0)) H75 i76) fun l78 => K (AEnd.pan l78) H75
 i76)) fun l79 => K (AEnd.pan l79) H69 i70) fun l80 => K (AEnd.pan l80) H62 i63)) fun l81 => K (AEnd.pan l81) H51 i52))
theorem XH (call : qk) (lp : Nat → ql) (lv : qi) (lvc : qj) (m : Nat) (op : Int) (a : Int) (b : Int) (H : Heap) (nx : Nat) (K : EndP) : qQ Tryz.prog call lp 103 [AVal.ptr m 0, AVal.agg [iv op, iv a, iv b]] H nx (endK Tryz.prog lv lvc K) = Yp call lp lv lvc m op a b H nx K := by kernel_rfl
def YL (call : qk) (_lp : Nat → ql) (_lv : qi) (_lvc : qj) (m : Nat) (k : Int) (v : Int) (H : Heap) (nx : Nat) (K : EndP) : Prop :=
 call 162 [AVal.ptr m 0, iv k, uv v] H nx fun e0 H1 i2 => qh e0 (fun v3 => ∃ s4 b5, v3 = AVal.tuple [AVal.str s4, AVal.bool b5] ∧ ifB (!b5) (K (AEnd.ret
 (AVal.tuple [])) H1 i2) (call 163 [AVal.ptr m 0] H1 i2 fun e6 H7 i8 => qh e6 (fun v9 => ∃ b10, v9 = AVal.bool b10 ∧ ifB b10 (K (AEnd.ret (AVal.tuple [])) H7 i8) (true = true ∧ ∃
 v11, some (AVal.ptr m 5) = some v11 ∧ ∃ v12, ld1 H7 v11 = some v12 ∧ true = true ∧ ∃ H13, H13 = newB i8 [AVal.str s4] H7 ∧ ∃ i14 l15, aSrc 1 H13 (AVal.slice i8 0 1 1 true) = some
 (i14, l15) ∧ qq l15 = true ∧ ∃ v16 H17 i18, appC H13 (i8 + 1) 1 16 v12 i14 l15 = some (v16, H17, i18) ∧ true = true ∧ ∃ v19, some (AVal.ptr m 5) = some v19 ∧ qD v16 = true ∧
 ∃ H20, stC H17 v19 [v16] = some H20 ∧ K (AEnd.ret (AVal.tuple [])) H20 i18)) fun l21 => K (AEnd.pan l21) H7 i8)) fun l22 => K (AEnd.pan l22) H1 i2
theorem WY (call : qk) (lp : Nat → ql) (lv : qi) (lvc : qj) (m : Nat) (k : Int) (v : Int) (H : Heap) (nx : Nat) (K : EndP) : qQ Tryz.prog call lp 104 [AVal.ptr m 0, iv k, uv v] H nx (endK Tryz.prog lv lvc K) = YL call lp lv lvc m k v H nx K := by kernel_rfl
def XK (_call : qk) (_lp : Nat → ql) (_lv : qi) (_lvc : qj) (m : Nat) (H : Heap) (nx : Nat) (K : EndP) : Prop :=
 true = true ∧ ∃ v0, some (AVal.ptr m 4) = some v0 ∧ ∃ n1 : Int, ld1 H v0 = some (iv n1) ∧ true = true ∧ ∃ v2, some (AVal.ptr m 3) = some v2 ∧ ∃ v3, ld1 H v2 = some v3 ∧ ∃ i4, lenS
 v3 = some i4 ∧ ((∃ n5 : Int, ld1 H v0 = some (iv n5) ∧ iv n5 = iv n1) ∧ (∃ v6, ld1 H v2 = some v6 ∧ v6 = v3) ∧ True) ∧ ifB (decide (n1 = Int.ofNat i4)) (K (AEnd.ret (AVal.int
 IntKind.u64 0)) H (nx + 10)) (true = true ∧ ∃ v7, some (AVal.ptr m 4) = some v7 ∧ ∃ n8 : Int, ld1 H v7 = some (iv n8) ∧ true = true ∧ ∃ v9, some (AVal.ptr m 4) = some v9 ∧ true =
 true ∧ ∃ H10, stC H v9 [iv (IntKind.i64.wrap (n8 + 1))] = some H10 ∧ true = true ∧ ∃ v11, some (AVal.ptr m 3) = some v11 ∧ ∃ v12, ld1 H10 v11 = some v12 ∧ true = true ∧ ∃ v13, some
 (AVal.ptr m 4) = some v13 ∧ ∃ n14 : Int, ld1 H10 v13 = some (iv n14) ∧ 0 ≤ IntKind.i64.wrap (n14 - 1) ∧ ∃ v15, idxS v12 (IntKind.i64.wrap (n14 - 1)).toNat 1 = some v15 ∧ ∃ n16 :
 Int, ld1 H10 v15 = some (iv n16) ∧ ((∃ v17, ld1 H10 v11 = some v17 ∧ v17 = v12) ∧ (∃ n18 : Int, ld1 H10 v13 = some (iv n18) ∧ iv n18 = iv n14) ∧ (∃ n19 : Int, ld1 H10 v15 = some (iv
 n19) ∧ iv n19 = iv n16) ∧ uv (IntKind.u64.wrap n16) = uv (IntKind.u64.wrap n16) ∧ True) ∧ K (AEnd.ret (uv (IntKind.u64.wrap
 n16))) H10 (nx + 10 + 13))
theorem XD (call : qk) (lp : Nat → ql) (lv : qi) (lvc : qj) (m : Nat) (H : Heap) (nx : Nat) (K : EndP) : qQ Tryz.prog call lp 105 [AVal.ptr m 0] H nx (endK Tryz.prog lv lvc K) = XK call lp lv lvc m H nx K := by kernel_rfl
def Ftwo (call : qk) (_lp : Nat → ql) (_lv : qi) (_lvc : qj) (m : Nat) (op : Int) (a : Int) (b : Int) (H : Heap) (nx : Nat) (K : EndP) : Prop :=
 ifB (decide (op = 8)) (K (AEnd.ret (uv (IntKind.u64.wrap (a + b)))) H nx) (ifB (decide (op = 9)) (K (AEnd.ret (uv (IntKind.u64.wrap (a - b)))) H
 nx) (ifB (decide (op = 10)) (K (AEnd.ret (uv (IntKind.u64.wrap (a * b)))) H nx) (ifB (decide (op = 15)) (call 99 [AVal.bool (decide (a = b))] H nx fun e0 H1 i2 =>
 qh e0 (fun v3 => ∃ n4 : Int, v3 = uv n4 ∧ K (AEnd.ret (uv n4)) H1 i2) fun l5 => K (AEnd.pan l5) H1 i2) (ifB (decide (op = 16)) (call 99
 [AVal.bool !decide (a = b)] H nx fun e6 H7 i8 => qh e6 (fun v9 => ∃ n10 : Int, v9 = uv n10 ∧ K (AEnd.ret (uv n10)) H7 i8) fun l11 => K
 (AEnd.pan l11) H7 i8) (ifB (decide (op = 17)) (call 99 [AVal.bool (decide (IntKind.i64.wrap a < IntKind.i64.wrap b))] H nx fun e12 H13 i14 => qh e12 (fun v15 => ∃ n16 : Int, v15
 = uv n16 ∧ K (AEnd.ret (uv n16)) H13 i14) fun l17 => K (AEnd.pan l17) H13 i14) (ifB (decide (op = 18)) (call 99 [AVal.bool (decide
 (IntKind.i64.wrap a ≤ IntKind.i64.wrap b))] H nx fun e18 H19 i20 => qh e18 (fun v21 => ∃ n22 : Int, v21 = uv n22 ∧ K (AEnd.ret (uv n22)) H19
 i20) fun l23 => K (AEnd.pan l23) H19 i20) (ifB (decide (op = 19)) (call 99 [AVal.bool (decide (IntKind.i64.wrap b < IntKind.i64.wrap a))] H nx fun e24 H25 i26 => qh e24 (fun v27
 => ∃ n28 : Int, v27 = uv n28 ∧ K (AEnd.ret (uv n28)) H25 i26) fun l29 => K (AEnd.pan l29) H25 i26) (ifB (decide (op = 20)) (call 99 [AVal.bool
 (decide (IntKind.i64.wrap b ≤ IntKind.i64.wrap a))] H nx fun e30 H31 i32 => qh e30 (fun v33 => ∃ n34 : Int, v33 = uv n34 ∧ K (AEnd.ret (AVal.int IntKind.u64
 n34)) H31 i32) fun l35 => K (AEnd.pan l35) H31 i32) (ifB (decide (op = 22)) (true = true ∧ ∃ v36, some (AVal.ptr m 5) = some v36 ∧ ∃ v37, ld1 H v36 = some v37 ∧ call 164 [v37,
 uv a, uv b] H nx fun e38 H39 i40 => qh e38 (fun v41 => ∃ b42, v41 = AVal.bool b42 ∧ call 99 [AVal.bool b42] H39 i40 fun e43 H44 i45 => qh
 e43 (fun v46 => ∃ n47 : Int, v46 = uv n47 ∧ K (AEnd.ret (uv n47)) H44 i45) fun l48 => K (AEnd.pan l48) H44 i45) fun l49 => K (AEnd.pan l49) H39
 i40) (ifB (decide (op = 23)) (true = true ∧ ∃ v50, some (AVal.ptr m 5) = some v50 ∧ ∃ v51, ld1 H v50 = some v51 ∧ call 164 [v51, uv a, uv b] H nx
 fun e52 H53 i54 => qh e52 (fun v55 => ∃ b56, v55 = AVal.bool b56 ∧ call 99 [AVal.bool !b56] H53 i54 fun e57 H58 i59 => qh e57 (fun v60 => ∃ n61 : Int, v60 = AVal.int
 IntKind.u64 n61 ∧ K (AEnd.ret (uv n61)) H58 i59) fun l62 => K (AEnd.pan l62) H58 i59) fun l63 => K (AEnd.pan l63) H53 i54) (ifB (decide (op = 24)) (true = true ∧ ∃
 v64, some (AVal.ptr m 5) = some v64 ∧ ∃ v65, ld1 H v64 = some v65 ∧ call 165 [v65, uv a, uv b] H nx fun e66 H67 i68 => qh e66 (fun v69 => ∃
 b70, v69 = AVal.bool b70 ∧ call 99 [AVal.bool b70] H67 i68 fun e71 H72 i73 => qh e71 (fun v74 => ∃ n75 : Int, v74 = uv n75 ∧ K (AEnd.ret (AVal.int IntKind.u64
 n75)) H72 i73) fun l76 => K (AEnd.pan l76) H72 i73) fun l77 => K (AEnd.pan l77) H67 i68) (true = true ∧ ∃ v78, some (AVal.ptr m 5) = some v78 ∧ ∃ v79, ld1 H v78 = some v79 ∧ call
 165 [v79, uv b, uv a] H nx fun e80 H81 i82 => qh e80 (fun v83 => ∃ b84, v83 = AVal.bool b84 ∧ call 99 [AVal.bool !b84] H81 i82 fun e85 H86 i87
 => qh e85 (fun v88 => ∃ n89 : Int, v88 = uv n89 ∧ K (AEnd.ret (uv n89)) H86 i87) fun l90 => K (AEnd.pan l90) H86 i87) fun l91 => K (AEnd.pan
 l91) H81 i82))))))))))))
theorem qcy (call : qk) (lp : Nat → ql) (lv : qi) (lvc : qj) (m : Nat) (op : Int) (a : Int) (b : Int) (H : Heap) (nx : Nat) (K : EndP) : qQ Tryz.prog call lp 106 [AVal.ptr m 0, iv op, uv a, uv b] H nx (endK Tryz.prog lv lvc K) = Ftwo call lp lv lvc m op a b H nx K := by kernel_rfl
def FPut (_call : qk) (_lp : Nat → ql) (_lv : qi) (_lvc : qj) (m : Nat) (a : Int) (v : Int) (H : Heap) (nx : Nat) (K : EndP) : Prop :=
 ifB (decide (a = 0)) (K (AEnd.ret (AVal.bool false)) H nx) (true = true ∧ ∃ v0, some (AVal.ptr m 0) = some v0 ∧ ∃ v1, ld1 H v0 = some v1 ∧ ∃ i2, lenS v1 = some i2 ∧ ifB (decide
 (IntKind.u64.wrap (Int.ofNat i2) ≤ a)) (K (AEnd.ret (AVal.bool false)) H nx) (true = true ∧ ∃ v3, some (AVal.ptr m 0) = some v3 ∧ ∃ v4, ld1 H v3 = some v4 ∧ 0 ≤ a ∧ ∃ v5, idxS v4
 a.toNat 1 = some v5 ∧ true = true ∧ ∃ H6, stC H v5 [uv v] = some H6 ∧ K (AEnd.ret (AVal.bool true)) H6 nx))
theorem qbs (call : qk) (lp : Nat → ql) (lv : qi) (lvc : qj) (m : Nat) (a : Int) (v : Int) (H : Heap) (nx : Nat) (K : EndP) : qQ Tryz.prog call lp 152 [AVal.ptr m 0, uv a, uv v] H nx (endK Tryz.prog lv lvc K) = FPut call lp lv lvc m a v H nx K := by kernel_rfl
def Fat (call : qk) (_lp : Nat → ql) (_lv : qi) (_lvc : qj) (m : Nat) (r : Int) (i : Int) (H : Heap) (nx : Nat) (K : EndP) : Prop :=
 ifB (decide (i < 0)) (K (AEnd.ret (uv 0)) H nx) (call 102 [AVal.ptr m 0, uv r] H nx fun e0 H1 i2 => qh e0 (fun v3 => ∃ n4 : Int, v3 = iv n4 ∧
 ifB (decide (n4 ≤ i)) (K (AEnd.ret (uv 0)) H1 i2) (K (AEnd.ret (uv (IntKind.u64.wrap (IntKind.u64.wrap (r + 1) + IntKind.u64.wrap i)))) H1 i2))
 fun l5 => K (AEnd.pan l5) H1 i2)
theorem qg7 (call : qk) (lp : Nat → ql) (lv : qi) (lvc : qj) (m : Nat) (r : Int) (i : Int) (H : Heap) (nx : Nat) (K : EndP) : qQ Tryz.prog call lp 153 [AVal.ptr m 0, uv r, iv i] H nx (endK Tryz.prog lv lvc K) = Fat call lp lv lvc m r i H nx K := by kernel_rfl
def FGet (call : qk) (_lp : Nat → ql) (_lv : qi) (_lvc : qj) (m : Nat) (r : Int) (i : Int) (H : Heap) (nx : Nat) (K : EndP) : Prop :=
 call 153 [AVal.ptr m 0, uv r, iv i] H nx fun e0 H1 i2 => qh e0 (fun v3 => ∃ n4 : Int, v3 = uv n4 ∧ call 200 [AVal.ptr m 0, AVal.int
 IntKind.u64 n4] H1 i2 fun e5 H6 i7 => qh e5 (fun v8 => ∃ n9 : Int, v8 = uv n9 ∧ K (AEnd.ret (uv n9)) H6 i7) fun l10 => K (AEnd.pan l10) H6 i7)
 fun l11 => K (AEnd.pan l11) H1 i2
theorem qcb (call : qk) (lp : Nat → ql) (lv : qi) (lvc : qj) (m : Nat) (r : Int) (i : Int) (H : Heap) (nx : Nat) (K : EndP) : qQ Tryz.prog call lp 156 [AVal.ptr m 0, uv r, iv i] H nx (endK Tryz.prog lv lvc K) = FGet call lp lv lvc m r i H nx K := by kernel_rfl
def qap (_call : qk) (_lp : Nat → ql) (_lv : qi) (_lvc : qj) (v : Int) (n : Int) (H : Heap) (nx : Nat) (K : EndP) : Prop :=
 ifB (decide (IntKind.u64.wrap n ≤ v)) (K (AEnd.ret (iv (-1))) H nx) (K (AEnd.ret (iv (IntKind.i64.wrap v))) H nx)
theorem Xx (call : qk) (lp : Nat → ql) (lv : qi) (lvc : qj) (v : Int) (n : Int) (H : Heap) (nx : Nat) (K : EndP) : qQ Tryz.prog call lp 157 [uv v, iv n] H nx (endK Tryz.prog lv lvc K) = qap call lp lv lvc v n H nx K := by kernel_rfl
def qec (call : qk) (_lp : Nat → ql) (_lv : qi) (_lvc : qj) (m : Nat) (r : Int) (H : Heap) (nx : Nat) (K : EndP) : Prop :=
 call 200 [AVal.ptr m 0, uv r] H nx fun e0 H1 i2 => qh e0 (fun v3 => ∃ n4 : Int, v3 = uv n4 ∧ K (AEnd.ret (uv n4)) H1 i2) fun
 l5 => K (AEnd.pan l5) H1 i2
theorem qa4 (call : qk) (lp : Nat → ql) (lv : qi) (lvc : qj) (m : Nat) (r : Int) (H : Heap) (nx : Nat) (K : EndP) : qQ Tryz.prog call lp 158 [AVal.ptr m 0, uv r] H nx (endK Tryz.prog lv lvc K) = qec call lp lv lvc m r H nx K := by kernel_rfl
def qaa (call : qk) (_lp : Nat → ql) (_lv : qi) (_lvc : qj) (m : Nat) (t : Int) (n : Int) (H : Heap) (nx : Nat) (K : EndP) : Prop :=
 ifB (decide (n < 0)) (K (AEnd.ret (AVal.tuple [uv 0, AVal.bool false])) H nx) (ifB (decide (65536 < n)) (K (AEnd.ret (AVal.tuple [uv 0, AVal.bool
 false])) H nx) (true = true ∧ ∃ v0, some (AVal.ptr m 1) = some v0 ∧ ∃ v1, ld1 H v0 = some v1 ∧ call 89 [v1, iv t, iv n] H nx fun e2 H3 i4 => qh e2 (fun v5 => ∃ n6 b7, v5 =
 AVal.tuple [uv n6, AVal.bool b7] ∧ K (AEnd.ret (AVal.tuple [uv n6, AVal.bool b7])) H3 i4) fun l8 => K (AEnd.pan l8) H3 i4))
theorem Xz (call : qk) (lp : Nat → ql) (lv : qi) (lvc : qj) (m : Nat) (t : Int) (n : Int) (H : Heap) (nx : Nat) (K : EndP) : qQ Tryz.prog call lp 161 [AVal.ptr m 0, iv t, iv n] H nx (endK Tryz.prog lv lvc K) = qaa call lp lv lvc m t n H nx K := by kernel_rfl
def Fsay (call : qk) (_lp : Nat → ql) (_lv : qi) (_lvc : qj) (m : Nat) (k : Int) (v : Int) (H : Heap) (nx : Nat) (K : EndP) : Prop :=
 ifB (decide (k = 1)) (call 202 [iv (IntKind.i64.wrap v), iv 10] H nx fun e0 H1 i2 => qh e0 (fun v3 => ∃ s4, v3 = AVal.str s4 ∧ K (AEnd.ret (AVal.tuple [AVal.str s4, AVal.bool
 true])) H1 i2) fun l5 => K (AEnd.pan l5) H1 i2) (ifB (decide (k = 2)) (call 203 [AVal.bool !decide (v = 0)] H nx fun e6 H7 i8 => qh e6 (fun v9 => ∃ s10, v9 = AVal.str s10 ∧ K
 (AEnd.ret (AVal.tuple [AVal.str s10, AVal.bool true])) H7 i8) fun l11 => K (AEnd.pan l11) H7 i8) (ifB (decide (k = 3)) (true = true ∧ ∃ v12, some (AVal.ptr m 1) = some v12 ∧ ∃ v13,
 ld1 H v12 = some v13 ∧ call 201 [v13, uv v] H nx fun e14 H15 i16 => qh e14 (fun v17 => ∃ s18, v17 = AVal.str s18 ∧ K (AEnd.ret (AVal.tuple [AVal.str s18,
 AVal.bool true])) H15 i16) fun l19 => K (AEnd.pan l19) H15 i16) (K (AEnd.ret (AVal.tuple [AVal.str [], AVal.bool false])) H nx)))
theorem qbg (call : qk) (lp : Nat → ql) (lv : qi) (lvc : qj) (m : Nat) (k : Int) (v : Int) (H : Heap) (nx : Nat) (K : EndP) : qQ Tryz.prog call lp 162 [AVal.ptr m 0, iv k, uv v] H nx (endK Tryz.prog lv lvc K) = Fsay call lp lv lvc m k v H nx K := by kernel_rfl
def qej (_call : qk) (_lp : Nat → ql) (_lv : qi) (_lvc : qj) (m : Nat) (H : Heap) (nx : Nat) (K : EndP) : Prop :=
 true = true ∧ ∃ v0, some (AVal.ptr m 5) = some v0 ∧ ∃ v1, ld1 H v0 = some v1 ∧ ∃ i2, lenS v1 = some i2 ∧ K (AEnd.ret (AVal.bool (decide (4096 ≤ Int.ofNat i2)))) H nx
theorem qb2 (call : qk) (lp : Nat → ql) (lv : qi) (lvc : qj) (m : Nat) (H : Heap) (nx : Nat) (K : EndP) : qQ Tryz.prog call lp 163 [AVal.ptr m 0] H nx (endK Tryz.prog lv lvc K) = qej call lp lv lvc m H nx K := by kernel_rfl
def qdn (_call : qk) (_lp : Nat → ql) (_lv : qi) (_lvc : qj) (m : Nat) (a : Int) (H : Heap) (nx : Nat) (K : EndP) : Prop :=
 true = true ∧ ∃ v0, some (AVal.ptr m 0) = some v0 ∧ ∃ v1, ld1 H v0 = some v1 ∧ ∃ i2, lenS v1 = some i2 ∧ ifB (decide (IntKind.u64.wrap (Int.ofNat i2) ≤ a)) (K (AEnd.ret (AVal.int
 IntKind.u64 0)) H nx) (true = true ∧ ∃ v3, some (AVal.ptr m 0) = some v3 ∧ ∃ v4, ld1 H v3 = some v4 ∧ 0 ≤ a ∧ ∃ v5, idxS v4 a.toNat 1 = some v5 ∧ ∃ n6 : Int, ld1 H v5 = some
 (uv n6) ∧ K (AEnd.ret (uv n6)) H nx)
theorem qb4 (call : qk) (lp : Nat → ql) (lv : qi) (lvc : qj) (m : Nat) (a : Int) (H : Heap) (nx : Nat) (K : EndP) : qQ Tryz.prog call lp 200 [AVal.ptr m 0, uv a] H nx (endK Tryz.prog lv lvc K) = qdn call lp lv lvc m a H nx K := by kernel_rfl
def Yi (_call : qk) (_lp : Nat → ql) (_lv : qi) (_lvc : qj) (p0 : AVal) (p1 : AVal) (p2 : Int) (p3 : AVal) (p4 : AVal) (f : Int) (args : AVal) (H : Heap) (nx : Nat) (K : EndP) : Prop :=
 ∃ H0, H0 = kZ nx [p0, p1, iv p2, p3, p4].length [p0, p1, iv p2, p3, p4] H ∧ ∃ H1, H1 = newB (nx + 1) [iv 0, iv 0, AVal.nilSlice, AVal.nilSlice] H0 ∧ ifB (decide (f < 0)) (∃ H2,
 stC H1 (AVal.ptr (nx + 1) 0) [iv 0, iv 0, AVal.nilSlice, AVal.nilSlice] = some H2 ∧ ∃ n3 n4 v5 v6, ldN H2 4 (AVal.ptr (nx + 1) 0) = some (AVal.agg [iv n3, iv n4, v5, v6]) ∧ K
 (AEnd.ret (AVal.agg [iv n3, iv n4, v5, v6])) H2 (nx + 1 + 1)) (∃ v7, some (AVal.ptr nx 1) = some v7 ∧ ∃ v8, ld1 H1 v7 = some v8 ∧ ∃ i9, lenS v8 = some i9 ∧ ifB (decide (Int.ofNat i9
 ≤ f)) (∃ H10, stC H1 (AVal.ptr (nx + 1) 0) [iv 0, iv 0, AVal.nilSlice, AVal.nilSlice] = some H10 ∧ ∃ n11 n12 v13 v14, ldN H10 4 (AVal.ptr (nx + 1) 0) = some (AVal.agg [iv n11, iv
 n12, v13, v14]) ∧ K (AEnd.ret (AVal.agg [iv n11, iv n12, v13, v14])) H10 (nx + 1 + 1)) (∃ v15, some (AVal.ptr nx 1) = some v15 ∧ ∃ v16, ld1 H1 v15 = some v16 ∧ 0 ≤ f ∧ ∃ v17, idxS
 v16 f.toNat 5 = some v17 ∧ ∃ v18, q7 v17 3 = some v18 ∧ ∃ v19, ld1 H1 v18 = some v19 ∧ ∃ i20, lenS v19 = some i20 ∧ Int.ofNat i20 = Int.ofNat i20 ∧ 0 ≤ Int.ofNat i20 ∧
 (Int.ofNat i20).toNat * 1 ≤ 9223372036854775807 ∧ (Int.ofNat i20).toNat * 8 ≤ 140737488355328 ∧ (Int.ofNat i20).toNat ≤ 9223372036854775807 ∧ ∃ H21, H21 = kZ (nx + 1 + 1)
 ((Int.ofNat i20).toNat * 1) (repL [uv 0] (Int.ofNat i20).toNat) H1 ∧ true = true ∧ true = true ∧ ∃ H22, H22 = newB (nx + 1 + 1 + 1) [iv 0, iv 0, AVal.nilSlice,
 AVal.nilSlice] H21 ∧ ∃ H23, stC H22 (AVal.ptr (nx + 1 + 1 + 1) 0) [iv f, iv 0, AVal.slice (nx + 1 + 1) 0 (Int.ofNat i20).toNat 1 true, AVal.nilSlice] = some H23 ∧ ∃ v24, some
 (AVal.ptr (nx + 1 + 1 + 1) 2) = some v24 ∧ ∃ v25, ld1 H23 v24 = some v25 ∧ ∃ i26 H27, copC H23 1 v25 args = some (i26, H27) ∧ ∃ n28 n29 v30 v31, ldN H27 4 (AVal.ptr (nx + 1 + 1 + 1)
 0) = some (AVal.agg [iv n28, iv n29, v30, v31]) ∧ ∃ H32, stC H27 (AVal.ptr (nx + 1) 0) [iv n28, iv n29, v30, v31] = some H32 ∧ ∃ n33 n34 v35 v36, ldN H32 4 (AVal.ptr (nx + 1) 0) =
 some (AVal.agg [iv n33, iv n34, v35, v36]) ∧ K (AEnd.ret (AVal.agg [iv n33, iv n34, v35, v36])) H32 (nx + 1 + 1 + 1 + 1)))
theorem WV (call : qk) (lp : Nat → ql) (lv : qi) (lvc : qj) (p0 : AVal) (p1 : AVal) (p2 : Int) (p3 : AVal) (p4 : AVal) (f : Int) (args : AVal) (H : Heap) (nx : Nat) (K : EndP) : qQ Tryz.prog call lp 48 [AVal.agg [p0, p1, iv p2, p3, p4], iv f, args] H nx (endK Tryz.prog lv lvc K) = Yi call lp lv lvc p0 p1 p2 p3 p4 f args H nx K := by kernel_rfl
end Go.Vs
end
section
namespace Go.Vs
open Go.Ev (ilt)
open Go.Proofs
variable [GTab]
def FNew (call : qk) (_lp : Nat → ql) (_lv : qi) (_lvc : qj) (p0 : AVal) (p1 : AVal) (p2 : Int) (p3 : AVal) (p4 : AVal) (room : Int) (ins : AVal) (H : Heap) (nx : Nat) (K : EndP) : Prop :=
 ∃ H0, H0 = kZ nx [p0, p1, iv p2, p3, p4].length [p0, p1, iv p2, p3, p4] H ∧ ∃ v1 v2 n3 v4 v5, ldN H0 5 (AVal.ptr nx 0) = some (AVal.agg [v1, v2, iv n3, v4, v5]) ∧ call 28
 [AVal.agg [v1, v2, iv n3, v4, v5]] H0 (nx + 1) fun e6 H7 i8 => qh e6 (fun v9 => ∃ n10 n11 n12 : Int, v9 = AVal.tuple [AVal.agg [iv n10, iv n11], iv n12] ∧ ∃ H13, H13 = newB i8
 [iv 0, iv 0] H7 ∧ ∃ H14, stC H13 (AVal.ptr i8 0) [iv n10, iv n11] = some H14 ∧ ifB (!decide (n12 = 0)) (K (AEnd.ret (AVal.tuple [AVal.nilPtr, iv 1])) H14 (i8 + 1)) (∃ v15 v16 n17
 v18 v19, ldN H14 5 (AVal.ptr nx 0) = some (AVal.agg [v15, v16, iv n17, v18, v19]) ∧ call 29 [AVal.agg [v15, v16, iv n17, v18, v19]] H14 (i8 + 1) fun e20 H21 i22 => qh e20 (fun
 v23 => ∃ v24 v25 n26 v27 v28, v23 = AVal.agg [v24, v25, iv n26, v27, v28] ∧ ∃ H29, H29 = kZ i22 [v24, v25, iv n26, v27, v28, AVal.nilPtr, AVal.nilSlice, iv 0, iv 0,
 AVal.nilPtr].length [v24, v25, iv n26, v27, v28, AVal.nilPtr, AVal.nilSlice, iv 0, iv 0, AVal.nilPtr] H21 ∧ ∃ v30 v31 n32 v33 v34, ldN H29 5 (AVal.ptr nx 0) = some (AVal.agg [v30,
 v31, iv n32, v33, v34]) ∧ call 31 [AVal.agg [v30, v31, iv n32, v33, v34]] H29 (i22 + 1) fun e35 H36 i37 => qh e35 (fun v38 => call 30 [AVal.ptr i22 0, v38] H36 i37 fun e39 H40
 i41 => qh e39 (fun v42 => ∃ v43 v44 n45 v46 v47, ldN H40 5 (AVal.ptr nx 0) = some (AVal.agg [v43, v44, iv n45, v46, v47]) ∧ call 32 [AVal.agg [v43, v44, iv n45, v46, v47], iv
 room, ins] H40 i41 fun e48 H49 i50 => qh e48 (fun v51 => ∃ v52 b53, v51 = AVal.tuple [v52, AVal.bool b53] ∧ ifB (!b53) (∃ v54, some (AVal.ptr nx 3) = some v54 ∧ true = true ∧ ∃
 H55, stC H49 v54 [AVal.nilSlice] = some H55 ∧ ∃ v56 v57 n58 v59 v60, ldN H55 5 (AVal.ptr nx 0) = some (AVal.agg [v56, v57, iv n58, v59, v60]) ∧ call 32 [AVal.agg [v56, v57, iv n58,
 v59, v60], iv room, ins] H55 i50 fun e61 H62 i63 => qh e61 (fun v64 => ∃ v65 b66, v64 = AVal.tuple [v65, AVal.bool b66] ∧ true = true ∧ ∃ v67, some (AVal.ptr i22 7) = some v67 ∧
 true = true ∧ ∃ H68, stC H62 v67 [iv 2] = some H68 ∧ true = true ∧ ∃ v69, some (AVal.ptr i22 8) = some v69 ∧ true = true ∧ ∃ H70, stC H68 v69 [iv 7] = some H70 ∧ true = true ∧ ∃
 v71, some (AVal.ptr i22 5) = some v71 ∧ qD v65 = true ∧ ∃ H72, stC H70 v71 [v65] = some H72 ∧ K (AEnd.ret (AVal.tuple [AVal.ptr i22 0, iv 0])) H72 i63) fun l73 => K (AEnd.pan
 l73) H62 i63) (true = true ∧ ∃ v74, some (AVal.ptr i22 5) = some v74 ∧ qD v52 = true ∧ ∃ H75, stC H49 v74 [v52] = some H75 ∧ K (AEnd.ret (AVal.tuple [AVal.ptr i22 0, iv 0])) H75
 i50)) fun l76 => K (AEnd.pan l76) H49 i50) fun l77 => K (AEnd.pan l77) H40 i41) fun l78 => K (AEnd.pan l78) H36 i37) fun l79 => K (AEnd.pan l79) H21 i22)) fun l80 => K (AEnd.pan
 l80) H7 i8
theorem qbh (call : qk) (lp : Nat → ql) (lv : qi) (lvc : qj) (p0 : AVal) (p1 : AVal) (p2 : Int) (p3 : AVal) (p4 : AVal) (room : Int) (ins : AVal) (H : Heap) (nx : Nat) (K : EndP) : qQ Tryz.prog call lp 15 [AVal.agg [p0, p1, iv p2, p3, p4], iv room, ins] H nx (endK Tryz.prog lv lvc K) = FNew call lp lv lvc p0 p1 p2 p3 p4 room ins H nx K := by kernel_rfl
def qb7 (call : qk) (_lp : Nat → ql) (_lv : qi) (_lvc : qj) (p0 : AVal) (p1 : AVal) (p2 : Int) (p3 : AVal) (p4 : AVal) (H : Heap) (nx : Nat) (K : EndP) : Prop :=
 ∃ H0, H0 = kZ nx [p0, p1, iv p2, p3, p4].length [p0, p1, iv p2, p3, p4] H ∧ ∃ v1, some (AVal.ptr nx 2) = some v1 ∧ ∃ n2 : Int, ld1 H0 v1 = some (iv n2) ∧ ifB (decide (n2 < 0)) (K
 (AEnd.ret AVal.nilSlice) H0 (nx + 1)) (∃ v3, some (AVal.ptr nx 2) = some v3 ∧ ∃ n4 : Int, ld1 H0 v3 = some (iv n4) ∧ ∃ v5, some (AVal.ptr nx 1) = some v5 ∧ ∃ v6, ld1 H0 v5 = some v6
 ∧ ∃ i7, lenS v6 = some i7 ∧ ifB (decide (Int.ofNat i7 ≤ n4)) (K (AEnd.ret AVal.nilSlice) H0 (nx + 1)) (∃ v8 v9 n10 v11 v12, ldN H0 5 (AVal.ptr nx 0) = some (AVal.agg [v8, v9, iv
 n10, v11, v12]) ∧ ∃ v13, some (AVal.ptr nx 2) = some v13 ∧ ∃ n14 : Int, ld1 H0 v13 = some (iv n14) ∧ call 48 [AVal.agg [v8, v9, iv n10, v11, v12], iv n14, AVal.nilSlice] H0 (nx + 1)
 fun e15 H16 i17 => qh e15 (fun v18 => ∃ n19 n20 v21 v22, v18 = AVal.agg [iv n19, iv n20, v21, v22] ∧ ∃ H23, H23 = newB i17 [iv n19, iv n20, v21, v22] H16 ∧ K (AEnd.ret
 (AVal.slice i17 0 1 4 true)) H23 (i17 + 1)) fun l24 => K (AEnd.pan l24) H16 i17))
theorem Xq (call : qk) (lp : Nat → ql) (lv : qi) (lvc : qj) (p0 : AVal) (p1 : AVal) (p2 : Int) (p3 : AVal) (p4 : AVal) (H : Heap) (nx : Nat) (K : EndP) : qQ Tryz.prog call lp 31 [AVal.agg [p0, p1, iv p2, p3, p4]] H nx (endK Tryz.prog lv lvc K) = qb7 call lp lv lvc p0 p1 p2 p3 p4 H nx K := by kernel_rfl
def qe6 (call : qk) (lp : Nat → ql) (lv : qi) (lvc : qj) (p0 : AVal) (p1 : AVal) (p2 : Int) (p3 : AVal) (p4 : AVal) (room : Int) (ins : AVal) (H : Heap) (nx : Nat) (K : EndP) : Prop :=
 ∃ H0, H0 = kZ nx [p0, p1, iv p2, p3, p4].length [p0, p1, iv p2, p3, p4] H ∧ ∃ n1 : Int, some (Bool.rec (Bool.rec room 1 (ilt 1 room)) (Bool.rec room 1 (ilt room 1)) true) = some
 n1 ∧ ∃ n2 : Int, some (Bool.rec (Bool.rec n1 65536 (ilt 65536 n1)) (Bool.rec n1 65536 (ilt n1 65536)) false) = some n2 ∧ call 49 [iv n2] H0 (nx + 1) fun e3 H4 i5 => qh e3 (fun v6
 => ∃ v7 n8, v6 = AVal.tuple [v7, iv n8] ∧ ifB (!decide (n8 = 0)) (K (AEnd.ret (AVal.tuple [AVal.nilPtr, AVal.bool false])) H4 i5) (∃ H9, H9 = newB i5 [] H4 ∧ ∃ i10 l11, aSrc 1 H9
 ins = some (i10, l11) ∧ qq l11 = true ∧ ∃ v12 H13 i14, appC H9 (i5 + 1) 1 8 (AVal.slice i5 0 0 1 true) i10 l11 = some (v12, H13, i14) ∧ qD v7 = true ∧ qD v12 = true ∧ ∃
 H15, H15 = kZ i14 [AVal.nilSlice, v7, AVal.nilSlice, v12, iv 0, AVal.nilSlice].length [AVal.nilSlice, v7, AVal.nilSlice, v12, iv 0, AVal.nilSlice] H13 ∧ ∃ v16, some (AVal.ptr nx
 0) = some v16 ∧ ∃ v17, ld1 H15 v16 = some v17 ∧ ∃ i18, lenS v17 = some i18 ∧ lp 83 (z9 (qW Tryz.prog 32) [1, 1, 1, 1, 0, 1, 0, 0]) (envL (AVal.tuple []) [(35, iv 0), (34, iv
 (Int.ofNat i18)), (33, v17), (32, v16), (10, AVal.ptr i14 0), (31, AVal.ptr i14 0), (30, AVal.agg [AVal.nilSlice, v7, AVal.nilSlice, v12, iv 0, AVal.nilSlice]), (29, v12), (28,
 ins), (27, AVal.slice i5 0 0 1 true), (26, v7), (25, AVal.bool false), (25, AVal.bool !decide (n8 = 0)), (24, iv n8), (9, iv n8), (8, v7), (23, iv n8), (22, v7), (17, AVal.tuple
 [v7, iv n8]), (21, AVal.tuple [v7, iv n8]), (20, iv n2), (19, iv n1), (18, iv room), (7, AVal.bool false), (6, AVal.nilPtr), (3, AVal.ptr nx 0), (2, ins), (1, iv room), (0, AVal.agg
 [p0, p1, iv p2, p3, p4])]) H15 (i14 + 1) [] none (z7 Tryz.prog call (lp 83) 83 (qW Tryz.prog 32) [1, 1, 1, 1, 0, 1, 0] (endK Tryz.prog lv lvc K (kO Tryz.prog 32))))) fun
 l19 => K (AEnd.pan l19) H4 i5
theorem qah (call : qk) (lp : Nat → ql) (lv : qi) (lvc : qj) (p0 : AVal) (p1 : AVal) (p2 : Int) (p3 : AVal) (p4 : AVal) (room : Int) (ins : AVal) (H : Heap) (nx : Nat) (K : EndP) : qQ Tryz.prog call lp 32 [AVal.agg [p0, p1, iv p2, p3, p4], iv room, ins] H nx (endK Tryz.prog lv lvc K) = qe6 call lp lv lvc p0 p1 p2 p3 p4 room ins H nx K := by kernel_rfl
def qel (_call : qk) (_lp : Nat → ql) (_lv : qi) (_lvc : qj) (room : Int) (H : Heap) (nx : Nat) (K : EndP) : Prop :=
 ifB (decide (room < 1)) (K (AEnd.ret (AVal.tuple [AVal.nilPtr, iv 1])) H nx) (ifB (decide (65536 < room)) (K (AEnd.ret (AVal.tuple [AVal.nilPtr, iv 1])) H nx) (true = true ∧ ∃ H0,
 H0 = newB nx [uv 0] H ∧ true = true ∧ true = true ∧ ∃ H1, H1 = kZ (nx + 1) [AVal.slice nx 0 1 1 true, iv room].length [AVal.slice nx 0 1 1 true, iv room] H0 ∧ K
 (AEnd.ret (AVal.tuple [AVal.ptr (nx + 1) 0, iv 0])) H1 (nx + 1 + 1)))
theorem YG (call : qk) (lp : Nat → ql) (lv : qi) (lvc : qj) (room : Int) (H : Heap) (nx : Nat) (K : EndP) : qQ Tryz.prog call lp 49 [iv room] H nx (endK Tryz.prog lv lvc K) = qel call lp lv lvc room H nx K := by kernel_rfl
def FLd (call : qk) (_lp : Nat → ql) (_lv : qi) (_lvc : qj) (n : Int) (H : Heap) (nx : Nat) (K : EndP) : Prop :=
 call 25 [iv n] H nx fun e0 H1 i2 => qh e0 (fun v3 => ∃ s4, v3 = AVal.str s4 ∧ K (AEnd.ret (AVal.str s4)) H1 i2) fun l5 => K (AEnd.pan l5) H1 i2
theorem qfo (call : qk) (lp : Nat → ql) (lv : qi) (lvc : qj) (n : Int) (H : Heap) (nx : Nat) (K : EndP) : qQ Tryz.prog call lp 9 [iv n] H nx (endK Tryz.prog lv lvc K) = FLd call lp lv lvc n H nx K := by kernel_rfl
def XN (call : qk) (lp : Nat → ql) (lv : qi) (lvc : qj) (a : AVal) (b : AVal) (H : Heap) (nx : Nat) (K : EndP) : Prop :=
 ∃ i0, lenS a = some i0 ∧ ∃ i1, lenS b = some i1 ∧ ifB (!decide (Int.ofNat i0 = Int.ofNat i1)) (K (AEnd.ret (AVal.bool false)) H nx) (lp 26 (z9 (qW Tryz.prog 11) [1, 1, 0, 1,
 0, 0]) (envL (AVal.tuple []) [(5, iv 0), (10, AVal.bool false), (10, AVal.bool !decide (Int.ofNat i0 = Int.ofNat i1)), (9, iv (Int.ofNat i1)), (8, b), (7, iv (Int.ofNat i0)), (6,
 a), (4, AVal.bool false), (1, b), (0, a)]) H nx [] none (z7 Tryz.prog call (lp 26) 26 (qW Tryz.prog 11) [1, 1, 0, 1, 0] (endK Tryz.prog lv lvc K (kO Tryz.prog 11))))
theorem Xi (call : qk) (lp : Nat → ql) (lv : qi) (lvc : qj) (a : AVal) (b : AVal) (H : Heap) (nx : Nat) (K : EndP) : qQ Tryz.prog call lp 11 [a, b] H nx (endK Tryz.prog lv lvc K) = XN call lp lv lvc a b H nx K := by kernel_rfl
def Yq (_call : qk) (_lp : Nat → ql) (_lv : qi) (_lvc : qj) (n : Int) (m : Int) (H : Heap) (nx : Nat) (K : EndP) : Prop :=
 m ≠ 0 ∧ ifB (decide (n.tmod m < 0)) (K (AEnd.ret (iv (IntKind.i64.wrap (n.tmod m + m)))) H nx) (K (AEnd.ret (iv (n.tmod m))) H nx)
theorem Xu (call : qk) (lp : Nat → ql) (lv : qi) (lvc : qj) (n : Int) (m : Int) (H : Heap) (nx : Nat) (K : EndP) : qQ Tryz.prog call lp 12 [iv n, iv m] H nx (endK Tryz.prog lv lvc K) = Yq call lp lv lvc n m H nx K := by kernel_rfl
def Vu (call : qk) (lp : Nat → ql) (lv : qi) (lvc : qj) (a : AVal) (H : Heap) (nx : Nat) (K : EndP) : Prop :=
 lp 23 (z9 (qW Tryz.prog 13) [1, 1, 0, 1, 0, 0]) (envL (AVal.tuple []) [(4, iv 0), (3, AVal.nilSlice), (2, AVal.nilSlice), (0, a)]) H nx [] none (z7 Tryz.prog call (lp 23)
 23 (qW Tryz.prog 13) [1, 1, 0, 1, 0] (endK Tryz.prog lv lvc K (kO Tryz.prog 13)))
theorem KV (call : qk) (lp : Nat → ql) (lv : qi) (lvc : qj) (a : AVal) (H : Heap) (nx : Nat) (K : EndP) : qQ Tryz.prog call lp 13 [a] H nx (endK Tryz.prog lv lvc K) = Vu call lp lv lvc a H nx K := by kernel_rfl
def qeg (call : qk) (lp : Nat → ql) (lv : qi) (lvc : qj) (a : AVal) (n : Int) (H : Heap) (nx : Nat) (K : EndP) : Prop :=
 call 12 [iv n, iv 20] H nx fun e0 H1 i2 => qh e0 (fun v3 => ∃ n4 : Int, v3 = iv n4 ∧ call 13 [a] H1 i2 fun e5 H6 i7 => qh e5 (fun v8 => lp 82 (z9 (qW Tryz.prog 6) [1,
 1, 1, 1, 1, 0, 1, 0, 0]) (envL (AVal.tuple []) [(8, iv 0), (7, AVal.nilSlice), (6, AVal.str [102, 117, 110, 99, 32, 109, 97, 105, 110, 40, 41, 32, 123, 32]), (5, v8), (17, v8), (16,
 a), (1, iv n4), (15, iv n4), (14, iv n), (4, AVal.bool false), (1, iv n), (0, a)]) H6 i7 [] none (z7 Tryz.prog call (lp 82) 82 (qW Tryz.prog 6) [1, 1, 1, 1, 1, 0, 1, 0]
 (endK Tryz.prog lv lvc K (kO Tryz.prog 6)))) fun l9 => K (AEnd.pan l9) H6 i7) fun l10 => K (AEnd.pan l10) H1 i2
theorem qab (call : qk) (lp : Nat → ql) (lv : qi) (lvc : qj) (a : AVal) (n : Int) (H : Heap) (nx : Nat) (K : EndP) : qQ Tryz.prog call lp 6 [a, iv n] H nx (endK Tryz.prog lv lvc K) = qeg call lp lv lvc a n H nx K := by kernel_rfl
end Go.Vs
end
section
namespace Go.Vs
open Go.Proofs
variable [GTab]
def LWT (call : qk) (lp : Nat → ql) (N : KC) (X : Nat → KC) (R : KC) (Pn : List (AVal × Bool) → KC) (q : Nat) (w : Nat) (k : Nat) (n : Nat) (hv : AVal) (tv : AVal) (H : Heap) (nx : Nat) : Prop :=
 ifB (decide (((k : Nat) : Int) < ((n : Nat) : Int))) (0 ≤ ((k : Nat) : Int) ∧ ∃ v0, idxS tv (((k : Nat) : Int)).toNat 5 = some v0 ∧ ∃ n1 s2 n3 v4 v5, ldN H 5 v0 = some (AVal.agg [iv n1, AVal.str s2, iv n3, v4, v5]) ∧ ∃ H6, H6 = newB nx [iv
 0, AVal.str [], iv 0, AVal.nilSlice, AVal.nilSlice] H ∧ ∃ H7, stC H6 (AVal.ptr nx 0) [iv n1, AVal.str s2, iv n3, v4, v5] = some H7 ∧ true = true ∧ ∃ v8, some (AVal.ptr w 0) = some
 v8 ∧ ∃ v9, ld1 H7 v8 = some v9 ∧ ∃ v10, some (AVal.ptr nx 0) = some v10 ∧ ∃ n11 : Int, ld1 H7 v10 = some (iv n11) ∧ ∃ H12, H12 = newB (nx + 1 + 7) [] H7 ∧ ∃ v13, some (AVal.ptr nx
 3) = some v13 ∧ ∃ v14, ld1 H12 v13 = some v14 ∧ ((∃ v15, ld1 H12 v8 = some v15 ∧ v15 = v9) ∧ (∃ n16 : Int, ld1 H12 v10 = some (iv n16) ∧ iv n16 = iv n11) ∧ (∃ v17, ld1 H12 v13 =
 some v17 ∧ v17 = v14) ∧ True) ∧ ∃ i18 l19, aSrc 2 H12 v14 = some (i18, l19) ∧ qq l19 = true ∧ ∃ v20 H21 i22, appC H12 (nx + 1 + 17) 2 24 (AVal.slice (nx + 1 + 7) 0 0 2 true)
 i18 l19 = some (v20, H21, i22) ∧ true = true ∧ qD v20 = true ∧ ∃ H23, H23 = newB (nx + 1 + 12) [iv n11, AVal.str [], iv 0, v20, AVal.nilSlice] H21 ∧ ((∃ v24, ld1 H23 v8 = some
 v24 ∧ v24 = v9) ∧ (∃ n25 : Int, ld1 H23 v10 = some (iv n25) ∧ iv n25 = iv n11) ∧ True) ∧ ∃ i26 l27, aSrc 5 H23 (AVal.slice (nx + 1 + 12) 0 1 5 true) = some (i26, l27) ∧ qq l27
 = true ∧ ∃ v28 H29 i30, appC H23 i22 5 80 v9 i26 l27 = some (v28, H29, i30) ∧ true = true ∧ ∃ v31, some (AVal.ptr w 0) = some v31 ∧ True ∧ qD v28 = true ∧ ∃ H32, stC H29 v31
 [v28] = some H32 ∧ True ∧ N (envL AVal.und [(35, iv (IntKind.i64.wrap (((k : Nat) : Int) + 1))), (55, iv (IntKind.i64.wrap (((k : Nat) : Int) + 1))), (54, v31), (53, AVal.ptr w 0), (52, v28), (51, AVal.slice (nx
 + 1 + 12) 0 1 5 true), (50, AVal.agg [iv n11, AVal.str [], iv 0, v20, AVal.nilSlice]), (49, v20), (48, v14), (47, v13), (46, AVal.slice (nx + 1 + 7) 0 0 2 true), (45, iv n11), (44,
 v10), (43, v9), (42, v8), (41, AVal.ptr w 0), (40, AVal.ptr w 0), (39, AVal.ptr w 0), (12, AVal.ptr nx 0), (38, AVal.agg [iv n1, AVal.str s2, iv n3, v4, v5]), (37, v0), (36,
 AVal.bool true), (36, AVal.bool (decide (((k : Nat) : Int) < ((n : Nat) : Int)))), (35, iv ((k : Nat) : Int)), (34, iv ((n : Nat) : Int)), (33, tv), (10, AVal.ptr w 0), (8, hv), (3, AVal.ptr q 0)]) H32 i30 [] none) (X 0 (envL AVal.und [(36,
 AVal.bool false), (36, AVal.bool (decide (((k : Nat) : Int) < ((n : Nat) : Int)))), (35, iv ((k : Nat) : Int)), (34, iv ((n : Nat) : Int)), (33, tv), (10, AVal.ptr w 0), (8, hv), (3, AVal.ptr q 0)]) H nx [] none)
theorem qf8 (call : qk) (lp : Nat → ql) (N : KC) (X : Nat → KC) (R : KC) (Pn : List (AVal × Bool) → KC) (q : Nat) (w : Nat) (k : Nat) (n : Nat) (hv : AVal) (tv : AVal) (H : Heap) (nx : Nat) : vK Tryz.prog call (lp 83) 83 (z9 (qW Tryz.prog 32) [1,1,1,1,0,1,0,0]) (envL .und [(35, iv k), (34, iv n), (33, tv), (10, AVal.ptr w 0), (8, hv), (3, AVal.ptr q 0)]) H nx [] none (yG N X R Pn) = LWT call lp N X R Pn q w k n hv tv H nx := by kernel_rfl
def AWT (call : qk) (lp : Nat → ql) (lv : qi) (lvc : qj) (q : Nat) (w : Nat) (hv : AVal) (H : Heap) (nx : Nat) (K : EndP) : Prop :=
 ∃ v0, some (AVal.ptr q 3) = some v0 ∧ ∃ v1, ld1 H v0 = some v1 ∧ ∃ i2, lenS v1 = some i2 ∧ lp 83 (z9 (qW Tryz.prog 32) [1, 1, 1, 1, 1, 0, 1, 0, 0]) (envL AVal.und [(59, iv
 0), (58, iv (Int.ofNat i2)), (57, v1), (56, v0), (10, AVal.ptr w 0), (8, hv), (3, AVal.ptr q 0)]) H nx [] none (z7 Tryz.prog call (lp 83) 83 (qW Tryz.prog 32) [1, 1, 1, 1,
 1, 0, 1, 0] (endK Tryz.prog lv lvc K (kO Tryz.prog 32)))
theorem qev (call : qk) (lp : Nat → ql) (lv : qi) (lvc : qj) (q : Nat) (w : Nat) (hv : AVal) (H : Heap) (nx : Nat) (K : EndP) : z7 Tryz.prog call (lp 83) 83 (qW Tryz.prog 32) [1,1,1,1,0,1,0] (endK Tryz.prog lv lvc K (kO Tryz.prog 32)) (.exit 0) (envL .und [(10, AVal.ptr w 0), (8, hv), (3, AVal.ptr q 0)]) H nx [] none = AWT call lp lv lvc q w hv H nx K :=
 (show z7 Tryz.prog call (lp 83) 83 (qW Tryz.prog 32) [1,1,1,1,0,1,0] (endK Tryz.prog lv lvc K (kO Tryz.prog 32)) (.exit 0) (envL .und [(10, AVal.ptr w 0), (8, hv), (3, AVal.ptr q 0)]) H nx [] none = vK Tryz.prog call (lp 83) 83 (z9 (qW Tryz.prog 32) [1,1,1,1,1]) (envL .und [(10, AVal.ptr w 0), (8, hv), (3, AVal.ptr q 0)]) H nx [] none (endK Tryz.prog lv lvc K (kO Tryz.prog 32)) by kernel_rfl).trans (show vK Tryz.prog call (lp 83) 83 (z9 (qW Tryz.prog 32) [1,1,1,1,1]) (envL .und [(10, AVal.ptr w 0), (8, hv), (3, AVal.ptr q 0)]) H nx [] none (endK Tryz.prog lv lvc K (kO Tryz.prog 32)) = AWT call lp lv lvc q w hv H nx K by kernel_rfl)
def LWX (call : qk) (lp : Nat → ql) (N : KC) (X : Nat → KC) (R : KC) (Pn : List (AVal × Bool) → KC) (q : Nat) (w : Nat) (k : Nat) (n : Nat) (hv : AVal) (tv : AVal) (H : Heap) (nx : Nat) : Prop :=
 ifB (decide (((k : Nat) : Int) < ((n : Nat) : Int))) (0 ≤ ((k : Nat) : Int) ∧ ∃ v0, idxS tv (((k : Nat) : Int)).toNat 1 = some v0 ∧ ∃ s1, ld1 H v0 = some (AVal.str s1) ∧ call 50 [hv, AVal.str s1] H nx fun e2 H3 i4 => qh e2 (fun v5 => ∃ n6
 b7, v5 = AVal.tuple [uv n6, AVal.bool b7] ∧ ifB (!b7) (R (envL AVal.und [(7, AVal.bool false), (6, AVal.nilPtr), (70, AVal.bool true), (70, AVal.bool !b7), (69,
 AVal.bool b7), (16, AVal.bool b7), (15, uv n6), (68, AVal.bool b7), (67, uv n6), (63, AVal.tuple [uv n6, AVal.bool b7]), (66,
 AVal.tuple [uv n6, AVal.bool b7]), (65, AVal.str s1), (64, hv), (14, AVal.str s1), (62, AVal.str s1), (61, v0), (60, AVal.bool true), (60, AVal.bool (decide (((k : Nat) : Int) <
 ((n : Nat) : Int)))), (59, iv ((k : Nat) : Int)), (58, iv ((n : Nat) : Int)), (57, tv), (10, AVal.ptr w 0), (8, hv), (3, AVal.ptr q 0)]) H3 i4 [] none) (true = true ∧ ∃ v8, some (AVal.ptr w 2) = some v8 ∧ ∃ v9, ld1 H3 v8 =
 some v9 ∧ true = true ∧ ∃ H10, H10 = newB i4 [uv n6] H3 ∧ ∃ i11 l12, aSrc 1 H10 (AVal.slice i4 0 1 1 true) = some (i11, l12) ∧ qq l12 = true ∧ ∃ v13 H14 i15,
 appC H10 (i4 + 1) 1 8 v9 i11 l12 = some (v13, H14, i15) ∧ true = true ∧ ∃ v16, some (AVal.ptr w 2) = some v16 ∧ qD v13 = true ∧ ∃ H17, stC H14 v16 [v13] = some H17 ∧ N (envL
 AVal.und [(59, iv (IntKind.i64.wrap (((k : Nat) : Int) + 1))), (81, iv (IntKind.i64.wrap (((k : Nat) : Int) + 1))), (80, v16), (79, AVal.ptr w 0), (78, v13), (77, AVal.slice i4 0 1 1 true), (76, AVal.int
 IntKind.u64 n6), (75, v9), (74, v8), (73, AVal.ptr w 0), (72, AVal.ptr w 0), (71, AVal.ptr w 0), (70, AVal.bool false), (70, AVal.bool !b7), (69, AVal.bool b7), (16, AVal.bool b7),
 (15, uv n6), (68, AVal.bool b7), (67, uv n6), (63, AVal.tuple [uv n6, AVal.bool b7]), (66, AVal.tuple [uv n6,
 AVal.bool b7]), (65, AVal.str s1), (64, hv), (14, AVal.str s1), (62, AVal.str s1), (61, v0), (60, AVal.bool true), (60, AVal.bool (decide (((k : Nat) : Int) < ((n : Nat) : Int)))), (59, iv ((k : Nat) : Int)), (58, iv ((n : Nat) : Int)), (57,
 tv), (10, AVal.ptr w 0), (8, hv), (3, AVal.ptr q 0)]) H17 i15 [] none)) fun l18 => Pn l18 (envL AVal.und [(65, AVal.str s1), (64, hv), (14, AVal.str s1), (62, AVal.str s1), (61,
 v0), (60, AVal.bool true), (60, AVal.bool (decide (((k : Nat) : Int) < ((n : Nat) : Int)))), (59, iv ((k : Nat) : Int)), (58, iv ((n : Nat) : Int)), (57, tv), (10, AVal.ptr w 0), (8, hv), (3, AVal.ptr q 0)]) H3 i4 [] none) (X 2 (envL
 AVal.und [(60, AVal.bool false), (60, AVal.bool (decide (((k : Nat) : Int) < ((n : Nat) : Int)))), (59, iv ((k : Nat) : Int)), (58, iv ((n : Nat) : Int)), (57, tv), (10, AVal.ptr w 0), (8, hv), (3, AVal.ptr q 0)]) H nx [] none)
theorem qfk (call : qk) (lp : Nat → ql) (N : KC) (X : Nat → KC) (R : KC) (Pn : List (AVal × Bool) → KC) (q : Nat) (w : Nat) (k : Nat) (n : Nat) (hv : AVal) (tv : AVal) (H : Heap) (nx : Nat) : vK Tryz.prog call (lp 83) 83 (z9 (qW Tryz.prog 32) [1,1,1,1,1,0,1,0,0]) (envL .und [(59, iv k), (58, iv n), (57, tv), (10, AVal.ptr w 0), (8, hv), (3, AVal.ptr q 0)]) H nx [] none (yG N X R Pn) = LWX call lp N X R Pn q w k n hv tv H nx := by kernel_rfl
def AWX (call : qk) (lp : Nat → ql) (lv : qi) (lvc : qj) (q : Nat) (w : Nat) (hv : AVal) (H : Heap) (nx : Nat) (K : EndP) : Prop :=
 K (AEnd.ret (AVal.tuple [AVal.ptr w 0, AVal.bool true])) H nx
theorem qeq (call : qk) (lp : Nat → ql) (lv : qi) (lvc : qj) (q : Nat) (w : Nat) (hv : AVal) (H : Heap) (nx : Nat) (K : EndP) : z7 Tryz.prog call (lp 83) 83 (qW Tryz.prog 32) [1,1,1,1,1,0,1,0] (endK Tryz.prog lv lvc K (kO Tryz.prog 32)) (.exit 2) (envL .und [(10, AVal.ptr w 0), (8, hv), (3, AVal.ptr q 0)]) H nx [] none = AWX call lp lv lvc q w hv H nx K := by kernel_rfl
def qdf (call : qk) (lp : Nat → ql) (N : KC) (X : Nat → KC) (R : KC) (Pn : List (AVal × Bool) → KC) (k : Nat) (a : AVal) (b : AVal) (H : Heap) (nx : Nat) : Prop :=
 ∃ i0, lenS a = some i0 ∧ ifB (decide (((k : Nat) : Int) < Int.ofNat i0)) (0 ≤ ((k : Nat) : Int) ∧ ∃ v1, idxS a (((k : Nat) : Int)).toNat 1 = some v1 ∧ ∃ s2, ld1 H v1 = some (AVal.str s2) ∧ 0 ≤ ((k : Nat) : Int) ∧ ∃ v3, idxS b (((k : Nat) : Int)).toNat 1 =
 some v3 ∧ ∃ s4, ld1 H v3 = some (AVal.str s4) ∧ ((∃ s5, ld1 H v1 = some (AVal.str s5) ∧ AVal.str s5 = AVal.str s2) ∧ (∃ s6, ld1 H v3 = some (AVal.str s6) ∧ AVal.str s6 = AVal.str
 s4) ∧ True) ∧ ifB (!s2 == s4) (R (envL AVal.und [(4, AVal.bool false), (25, AVal.bool true), (25, AVal.bool !s2 == s4), (24, AVal.str s4), (23, v3), (22, iv ((k : Nat) : Int)), (21, b), (20,
 AVal.str s2), (19, v1), (18, iv ((k : Nat) : Int)), (17, a), (14, AVal.bool true), (14, AVal.bool (decide (((k : Nat) : Int) < Int.ofNat i0))), (13, iv (Int.ofNat i0)), (12, a), (11, iv ((k : Nat) : Int)), (5, iv ((k : Nat) : Int)), (1, b),
 (0, a)]) H (nx + 9) [] none) (N (envL AVal.und [(5, iv (IntKind.i64.wrap (((k : Nat) : Int) + 1))), (16, iv (IntKind.i64.wrap (((k : Nat) : Int) + 1))), (15, iv ((k : Nat) : Int)), (25, AVal.bool false), (25, AVal.bool !s2 ==
 s4), (24, AVal.str s4), (23, v3), (22, iv ((k : Nat) : Int)), (21, b), (20, AVal.str s2), (19, v1), (18, iv ((k : Nat) : Int)), (17, a), (14, AVal.bool true), (14, AVal.bool (decide (((k : Nat) : Int) < Int.ofNat i0))), (13,
 iv (Int.ofNat i0)), (12, a), (11, iv ((k : Nat) : Int)), (5, iv ((k : Nat) : Int)), (1, b), (0, a)]) H (nx + 9) [] none)) (X 0 (envL AVal.und [(14, AVal.bool false), (14, AVal.bool (decide (((k : Nat) : Int) < Int.ofNat i0))),
 (13, iv (Int.ofNat i0)), (12, a), (11, iv ((k : Nat) : Int)), (5, iv ((k : Nat) : Int)), (1, b), (0, a)]) H nx [] none)
theorem YE (call : qk) (lp : Nat → ql) (N : KC) (X : Nat → KC) (R : KC) (Pn : List (AVal × Bool) → KC) (k : Nat) (a : AVal) (b : AVal) (H : Heap) (nx : Nat) : vK Tryz.prog call (lp 26) 26 (z9 (qW Tryz.prog 11) [1,1,0,1,0,0]) (envL .und [(5, iv k), (1, b), (0, a)]) H nx [] none (yG N X R Pn) = qdf call lp N X R Pn k a b H nx := by kernel_rfl
def qei (call : qk) (lp : Nat → ql) (lv : qi) (lvc : qj) (a : AVal) (H : Heap) (nx : Nat) (K : EndP) : Prop :=
 K (AEnd.ret (AVal.bool true)) H nx
theorem qai (call : qk) (lp : Nat → ql) (lv : qi) (lvc : qj) (a : AVal) (H : Heap) (nx : Nat) (K : EndP) : z7 Tryz.prog call (lp 26) 26 (qW Tryz.prog 11) [1,1,0,1,0] (endK Tryz.prog lv lvc K (kO Tryz.prog 11)) (.exit 0) (envL .und [(0, a)]) H nx [] none = qei call lp lv lvc a H nx K := by kernel_rfl
end Go.Vs
end
section
namespace Go.Vs
open Go.Proofs
variable [GTab]
structure Fm where
 f : Int
 pc : Int
 ls : List Int
 st : List Int
structure Wd where
 words : List Int
 room : Int
 lits : List Int
 inputs : List Int
 taken : Nat
 lines : List (List UInt8)
structure Pg where
 types : AVal
 funcs : AVal
 main : Int
 texts : AVal
 nums : AVal
 w : Nat
 fb : Nat
structure Mst where
 low : List Fm
 top : Fm
 wd : Wd
 state : Int
 trap : Int
def uvs (l : List Int) : List AVal := l.map uv
theorem VW (l : List Int) : (uvs l).length = l.length := by simp [uvs]
theorem qcj (l : List Int) (i : Nat) : (uvs l)[i]? = (l[i]?).map uv := by simp [uvs]
def RowV {α : Type} (Γ : GH) (own : Nat → Nat) (role : Nat) (f : α → AVal) (v : AVal) (l : List α) : Prop :=
 (v = .nilSlice ∧ l = []) ∨ ∃ b cs, (∃ full, v = .slice b 0 l.length 1 full) ∧ own b = role ∧ Γ b = some cs ∧ cs.take l.length = l.map f
def qI (g : Nat × AVal) (f : Fm) : List AVal := [iv f.f, iv f.pc, .slice g.1 0 f.ls.length 1 true, g.2]
structure FmV (Γ : GH) (own : Nat → Nat) (i : Nat) (g : Nat × AVal) (f : Fm) : Prop where
 lo : own g.1 = 10 + 2 * i
 lc : Γ g.1 = some (uvs f.ls)
 st : RowV Γ own (11 + 2 * i) uv g.2 f.st
inductive FmsV (Γ : GH) (own : Nat → Nat) : Nat → List (Nat × AVal) → List Fm → Prop
 | nil (i : Nat) : FmsV Γ own i [] []
 | cons {i : Nat} {g : Nat × AVal} {f : Fm} {gs : List (Nat × AVal)} {fs : List Fm} (h : FmV Γ own i g f) (t : FmsV Γ own (i + 1) gs fs) : FmsV Γ own i (g :: gs) (f :: fs)
def qF : List (Nat × AVal) → List Fm → List AVal
 | g :: gs, f :: fs => qI g f ++ qF gs fs
 | _, _ => []
structure WdV (Γ : GH) (own : Nat → Nat) (w hp : Nat) (tv wv litv lv : AVal) (inb : Nat) (inf : Bool) (S : Wd) : Prop where
 ow : own w = 2
 oh : own hp = 3
 ew : Γ w = some [tv, .ptr hp 0, litv, .slice inb 0 S.inputs.length 1 inf, iv S.taken, lv]
 eh : Γ hp = some [wv, iv S.room]
 words : RowV Γ own 5 uv wv S.words
 oi : own inb = 7
 ei : Γ inb = some (S.inputs.map iv)
 lits : RowV Γ own 8 uv litv S.lits
 lines : RowV Γ own 6 AVal.str lv S.lines
structure Gh where
 hp : Nat
 full : Bool
 tv : AVal
 wv : AVal
 litv : AVal
 lv : AVal
 inb : Nat
 inf : Bool
 gl : List (Nat × AVal)
 gt : Nat × AVal
 R : List AVal
def Gh.a (G : Gh) (S : Mst) : Nat := (qF G.gl S.low).length
structure MsG (Γ : GH) (own : Nat → Nat) (Γ0 : GH) (pg : Pg) (m : Nat) (G : Gh) (S : Mst) : Prop where
 ro : ∀ b cs, Γ0 b = some cs → Γ b = some cs ∧ own b = 9
 om : own m = 1
 em : Γ m = some [pg.types, pg.funcs, iv pg.main, pg.texts, pg.nums, .ptr pg.w 0, .slice pg.fb 0 (S.low.length + 1) 4 G.full, iv S.state, iv S.trap, .ptr pg.fb (G.a S)]
 of : own pg.fb = 4
 ef : Γ pg.fb = some (qF G.gl S.low ++ (qI G.gt S.top ++ G.R))
 lowV : FmsV Γ own 0 G.gl S.low
 topV : FmV Γ own S.low.length G.gt S.top
 wdV : WdV Γ own pg.w G.hp G.tv G.wv G.litv G.lv G.inb G.inf S.wd
def MS (Γ0 : GH) (pg : Pg) (m : Nat) (S : Mst) (H : Heap) (nx : Nat) : Prop := ∃ Γ own G, HOK Γ H nx ∧ MsG Γ own Γ0 pg m G S
def Keep (Γ : GH) (own : Nat → Nat) (Γ' : GH) (own' : Nat → Nat) (ex : Nat → Prop) : Prop := ∀ b cs, Γ b = some cs → ¬ ex (own b) → Γ' b = some cs ∧ own' b = own b
section
variable {Γ Γ' : GH} {own own' : Nat → Nat} {ex : Nat → Prop}
theorem RowV.keep {α : Type} {role : Nat} {f : α → AVal} {v : AVal} {l : List α} (k : Keep Γ own Γ' own' ex) (he : ¬ ex role) (h : RowV Γ own role f v l) : RowV Γ' own' role f v l := by
 rcases h with h | ⟨b, cs, h1, h2, h3, h4⟩
 ·exact .inl h
 ·obtain ⟨a1, a2⟩ := k b cs h3 (by rw [h2]; exact he)
  exact .inr ⟨b, cs, h1, by rw [a2, h2], a1, h4⟩
theorem FmV.keep {i : Nat} {g : Nat × AVal} {f : Fm} (k : Keep Γ own Γ' own' ex) (h1 : ¬ ex (10 + 2 * i)) (h2 : ¬ ex (11 + 2 * i)) (h : FmV Γ own i g f) : FmV Γ' own' i g f := by
 obtain ⟨a1, a2⟩ := k _ _ h.lc (by rw [h.lo]; exact h1)
 exact ⟨by rw [a2, h.lo], a1, h.st.keep k h2⟩
theorem FmsV.keep : ∀ {i : Nat} {gs : List (Nat × AVal)} {fs : List Fm}, Keep Γ own Γ' own' ex → (∀ j, i ≤ j → j < i + fs.length → ¬ ex (10 + 2 * j) ∧ ¬ ex (11 + 2 * j)) → FmsV Γ own i gs fs → FmsV Γ' own' i gs fs
 | _, _, _, _, _, .nil i => .nil i
 | i, _, _, k, hj, .cons h t => .cons (h.keep k (hj i (Nat.le_refl _) (by simp)).1 (hj i (Nat.le_refl _) (by simp)).2) (FmsV.keep k (fun j h1 h2 => hj j (by omega) (by simp at h2 ⊢; omega)) t)
theorem WdV.keep {w hp : Nat} {tv wv litv lv : AVal} {inb : Nat} {inf : Bool} {S : Wd} (k : Keep Γ own Γ' own' ex) (he : ∀ r, 2 ≤ r → r ≤ 8 → r ≠ 4 → ¬ ex r) (h : WdV Γ own w hp tv wv litv lv inb inf S) :
  WdV Γ' own' w hp tv wv litv lv inb inf S := by
 obtain ⟨a1, a2⟩ := k _ _ h.ew (by rw [h.ow]; exact he 2 (by omega) (by omega) (by omega))
 obtain ⟨a3, a4⟩ := k _ _ h.eh (by rw [h.oh]; exact he 3 (by omega) (by omega) (by omega))
 obtain ⟨a5, a6⟩ := k _ _ h.ei (by rw [h.oi]; exact he 7 (by omega) (by omega) (by omega))
 exact ⟨by rw [a2, h.ow], by rw [a4, h.oh], a1, a3, h.words.keep k (he 5 (by omega) (by omega) (by omega)), by rw [a6, h.oi], a5, h.lits.keep k (he 8 (by omega) (by omega) (by omega)), h.lines.keep k (he 6 (by omega) (by omega) (by omega))⟩
end
theorem FmsV.len {Γ : GH} {own : Nat → Nat} : ∀ {i : Nat} {gs : List (Nat × AVal)} {fs : List Fm}, FmsV Γ own i gs fs → (qF gs fs).length = 4 * fs.length
 | _, _, _, .nil _ => rfl
 | _, _, _, .cons _ t => by simp only [qF, List.length_append, List.length_cons, FmsV.len t, qI, List.length_nil]; omega
section
variable {Γ : GH} {own : Nat → Nat} {H : Heap} {nx : Nat}
theorem RowV.len {α : Type} {role : Nat} {f : α → AVal} {v : AVal} {l : List α} (h : RowV Γ own role f v l) : lenS v = some l.length := by
 rcases h with ⟨rfl, rfl⟩ | ⟨b, cs, ⟨full, rfl⟩, _⟩ <;> rfl
theorem RowV.at {α : Type} {role : Nat} {f : α → AVal} {v : AVal} {l : List α} (hk : HOK Γ H nx) (h : RowV Γ own role f v l) {i : Nat} (hi : i < l.length) : ∃ b, idxS v i 1 = some (.ptr b i) ∧ ld1 H (.ptr b i) = some (f l[i]) := by
 rcases h with ⟨rfl, rfl⟩ | ⟨b, cs, ⟨full, rfl⟩, h1, h2, h3⟩
 ·simp at hi
 ·refine ⟨b, by rw [zG hi]; simp, ?_⟩
  rw [hk.ld1 h2]
  have : cs[i]? = (cs.take l.length)[i]? := (List.getElem?_take_of_lt hi).symm
  rw [this, h3]; simp [hi]
theorem RowV.cut {α : Type} {role : Nat} {f : α → AVal} {v : AVal} {l : List α} (h : RowV Γ own role f v l) {n : Nat} (hn : n ≤ l.length) : ∃ v', slcS v 1 0 (some n) = some v' ∧ qD v' = true ∧ RowV Γ own role f v' (l.take n) := by
 rcases h with ⟨rfl, rfl⟩ | ⟨b, cs, ⟨full, rfl⟩, h1, h2, h3⟩
 ·have : n = 0 := by simpa using hn
  subst this
  exact ⟨.nilSlice, rfl, rfl, .inl ⟨rfl, by simp⟩⟩
 ·have g1 : Nat.ble n l.length = true := zc hn
  have g2 : Nat.ble 0 n = true := zc (Nat.zero_le _)
  refine ⟨.slice b 0 n 1 (Bool.rec false full (Nat.beq n l.length)), ?_, rfl, .inr ⟨b, cs, ⟨Bool.rec false full (Nat.beq n l.length), ?_⟩, h1, h2, ?_⟩⟩
  ·unfold slcS
   simp only [Option.getD_some, g1, g2, Nat.beq]
   simp
  ·rw [List.length_take, Nat.min_eq_left hn]
  ·rw [List.length_take, Nat.min_eq_left hn, List.map_take, ← h3, List.take_take, Nat.min_eq_left hn]
theorem RowV.push {α : Type} {role eb : Nat} {f : α → AVal} {v : AVal} {l : List α} (hk : HOK Γ H nx) (h : RowV Γ own role f v l) (xs : List α) (h0 : 0 < xs.length) (hl : l.length + xs.length ≤ 1000000000) (he : eb ≤ 16) :
  ∃ H' v' Γ', appC H nx 1 eb v xs.length (xs.map f) = some (v', H', nx + 1) ∧ qD v' = true ∧ HOK Γ' H' (nx + 1) ∧ RowV Γ' (fun b => if b = nx then role else own b) role f v' (l ++ xs) ∧
   Keep Γ own Γ' (fun b => if b = nx then role else own b) (fun r => r = role) := by
 have hb : (l.length + xs.length) * eb ≤ 140737488355328 := Nat.le_trans (Nat.mul_le_mul hl he) (by omega)
 rcases h with ⟨rfl, rfl⟩ | ⟨b, cs, ⟨full, rfl⟩, h1, h2, h3⟩
 ·obtain ⟨H', e, hk'⟩ := hk.appNil (esz := 1) (ebytes := eb) (k := xs.length) (new := xs.map f) (by simp) h0 (by simp at hl; omega) (by simpa using hb)
  refine ⟨H', _, _, e, rfl, hk', .inr ⟨nx, xs.map f, ⟨_, by simp; rfl⟩, by simp, qd _ _ _, by rw [List.nil_append, List.take_of_length_le (by simp)]⟩, fun c cs hc hx => ?_⟩
  have := hk.lt hc
  exact ⟨by rw [qf (by omega)]; exact hc, by simp [show c ≠ nx by omega]⟩
 ·have hcl : l.length ≤ cs.length := jP h3 (by simp)
  cases full with
  | true =>
   obtain ⟨H', e, hk'⟩ := hk.appFull (off := 0) (esz := 1) (ebytes := eb) (k := xs.length) (len := l.length) (new := xs.map f) h2 (by omega) (by simp) h0 (by omega) hb
   refine ⟨H', _, _, e, rfl, hk', .inr ⟨nx, _, ⟨_, by simp; rfl⟩, by simp, qd _ _ _, ?_⟩, fun c ds hc hx => ?_⟩
   ·rw [Nat.mul_one, List.drop_zero, h3, List.take_of_length_le (by simp)]; simp
   ·have := hk.lt hc
    exact ⟨by rw [qf (by omega)]; exact hc, by simp [show c ≠ nx by omega]⟩
  | false =>
  obtain ⟨H', e, hk'⟩ := hk.app (esz := 1) (ebytes := eb) (k := xs.length) (len := l.length) (new := xs.map f) h2 (by omega) (by simp) h0 (by omega) hb
  refine ⟨H', _, _, e, rfl, hk', .inr ⟨nx, _, ⟨_, by simp; rfl⟩, by simp, qd _ _ _, ?_⟩, fun c ds hc hx => ?_⟩
  ·rw [Nat.mul_one, h3, List.take_of_length_le (by simp)]; simp
  ·have := hk.lt hc
   have hcb : c ≠ b := fun e => hx (by rw [e, h1])
   exact ⟨by rw [qf (by omega), qf hcb]; exact hc, by simp [show c ≠ nx by omega]⟩
end
end Go.Vs
end
section
namespace Go.Vs
open Go.Ev (ilt zz)
open Go.Proofs
variable [GTab]
theorem vG (A R : List AVal) (g : Nat × AVal) (f : Fm) (k : Nat) (hk : k < 4) : (A ++ (qI g f ++ R))[A.length + k]? = (qI g f)[k]? := by
 rw [List.getElem?_append_right (by omega), List.getElem?_append_left (by simp [qI]; omega)]
 congr 1; omega
section
variable {Γ : GH} {own : Nat → Nat} {Γ0 : GH} {pg : Pg} {m : Nat} {G : Gh} {S : Mst} {H : Heap} {nx : Nat}
theorem MsG.ld_in (h : MsG Γ own Γ0 pg m G S) (hk : HOK Γ H nx) : ld1 H (.ptr m 9) = some (.ptr pg.fb (G.a S)) := by
 rw [hk.ld1 h.em]; rfl
theorem MsG.ld_f (h : MsG Γ own Γ0 pg m G S) (hk : HOK Γ H nx) : ld1 H (.ptr pg.fb (G.a S)) = some (iv S.top.f) := by
 rw [hk.ld1 h.ef]; exact vG _ _ _ _ 0 (by omega)
theorem MsG.ld_pc (h : MsG Γ own Γ0 pg m G S) (hk : HOK Γ H nx) : ld1 H (.ptr pg.fb (G.a S + 1)) = some (iv S.top.pc) := by
 rw [hk.ld1 h.ef]; exact vG _ _ _ _ 1 (by omega)
theorem MsG.ld_ls (h : MsG Γ own Γ0 pg m G S) (hk : HOK Γ H nx) : ld1 H (.ptr pg.fb (G.a S + 2)) = some (.slice G.gt.1 0 S.top.ls.length 1 true) := by
 rw [hk.ld1 h.ef]; exact vG _ _ _ _ 2 (by omega)
theorem MsG.ld_st (h : MsG Γ own Γ0 pg m G S) (hk : HOK Γ H nx) : ld1 H (.ptr pg.fb (G.a S + 3)) = some G.gt.2 := by
 rw [hk.ld1 h.ef]; exact vG _ _ _ _ 3 (by omega)
theorem Ji (A B : List AVal) (k : Nat) (vs : List AVal) : qZ (A ++ B) (A.length + k) vs = A ++ qZ B k vs := by
 unfold qZ
 rw [List.take_append, List.drop_append, List.take_of_length_le (by omega), List.drop_eq_nil_of_le (by omega), show A.length + k - A.length = k by omega, show A.length + k + vs.length - A.length = k + vs.length by omega]
 simp
theorem VB (A R : List AVal) (c0 c1 c2 c3 v : AVal) : qZ (A ++ ([c0, c1, c2, c3] ++ R)) (A.length + 3) [v] = A ++ ([c0, c1, c2, v] ++ R) := by rw [Ji]; rfl
theorem W6 (A R : List AVal) (c0 c1 c2 c3 v : AVal) : qZ (A ++ ([c0, c1, c2, c3] ++ R)) (A.length + 1) [v] = A ++ ([c0, v, c2, c3] ++ R) := by rw [Ji]; rfl
end
def pk (st : List Int) (k : Nat) : Int := if k < st.length then st.getD (st.length - 1 - k) 0 else 0
theorem kH {Γ0 : GH} {pg : Pg} {m : Nat} {S : Mst} {H : Heap} {nx : Nat} {K : EndP} {k : Nat} (hlen : S.top.st.length < 1000000) (hk1 : k < 1000000) (h : MS Γ0 pg m S H nx)
  (hK : ∀ nx', nx ≤ nx' → K (.ret (uv (pk S.top.st k))) H nx') : TriP Tryz.prog 92 [.ptr m 0, iv k] H nx K := by
 obtain ⟨Γ, own, G, hk, g⟩ := h
 refine TriP.of_body qy ?_
 rw [YP]
 unfold qdp
 have e1 := g.ld_in hk
 have e2 := g.ld_st hk
 have e3 := g.topV.st.len
 simp only [qv, true_and, and_true, exists_eq_left, exists_eq_left', exists_and_left, e1, e2, e3, nilK, zd, qU, qK, decide_eq_true_eq, decide_eq_false_iff_not, Int.ofNat_eq_natCast]
 refine ⟨fun h => by simp at h, fun _ => ⟨fun h => by omega, fun _ => ⟨fun hle => ?_, fun hgt => ?_⟩⟩⟩
 ·have := hK nx (Nat.le_refl _)
  unfold pk at this
  rw [if_neg (by omega)] at this
  exact this
 ·have hlt : k < S.top.st.length := by omega
  have ew : IntKind.i64.wrap (IntKind.i64.wrap ((S.top.st.length : Int) - 1) - (k : Int)) = ((S.top.st.length - 1 - k : Nat) : Int) := by
   rw [zm (n := (S.top.st.length : Int) - 1) (by omega) (by omega), zm (by omega) (by omega)]; omega
  obtain ⟨b, i1, i2⟩ := g.topV.st.at hk (i := S.top.st.length - 1 - k) (by omega)
  rw [ew]
  simp only [Int.toNat_natCast, i1, i2, qv, exists_eq_left', Int.natCast_nonneg, true_and, and_true, AVal.int.injEq, uv]
  have := hK (nx + 21) (by omega)
  unfold pk at this
  rw [if_pos hlt] at this
  have hx : S.top.st.getD (S.top.st.length - 1 - k) 0 = S.top.st[S.top.st.length - 1 - k]'(by omega) := by simp [List.getD, show S.top.st.length - 1 - k < S.top.st.length by omega]
  rw [hx] at this
  exact this
theorem MsG.setStackG {Γ Γ1 : GH} {own own1 : Nat → Nat} {Γ0 : GH} {pg : Pg} {m : Nat} {G : Gh} {S : Mst} {H1 : Heap} {nx1 : Nat} {v' : AVal} {st' : List Int} (g : MsG Γ own Γ0 pg m G S)
  (kp : Keep Γ own Γ1 own1 (fun r => r = 11 + 2 * S.low.length)) (hk : HOK Γ1 H1 nx1) (hv : qD v' = true) (hr : RowV Γ1 own1 (11 + 2 * S.low.length) uv v' st') :
  ∃ H2 Γ2, stC H1 (.ptr pg.fb (G.a S + 3)) [v'] = some H2 ∧ HOK Γ2 H2 nx1 ∧ MsG Γ2 own1 Γ0 pg m { G with gt := (G.gt.1, v') } { S with top := { S.top with st := st' } } := by
 obtain ⟨f1, f2⟩ := kp _ _ g.ef (by rw [g.of]; omega)
 obtain ⟨H2, e2, hk2⟩ := hk.st (off := G.a S + 3) (vs := [v']) f1 (by simp [qI, Gh.a]; omega) (by simp [qq, hv])
 refine ⟨H2, _, e2, hk2, ?_⟩
 have sp : qZ (qF G.gl S.low ++ (qI G.gt S.top ++ G.R)) (G.a S + 3) [v'] = qF G.gl S.low ++ (qI (G.gt.1, v') { S.top with st := st' } ++ G.R) := VB _ _ _ _ _ _ _
 rw [sp]
 have kp2 : Keep Γ1 own1 (gup pg.fb (some (qF G.gl S.low ++ (qI (G.gt.1, v') { S.top with st := st' } ++ G.R))) Γ1) own1 (fun r => r = 4) := fun b cs hb hx =>
  ⟨by rw [qf (fun e => hx (by rw [e, f2, g.of]))]; exact hb, rfl⟩
 have kp3 : Keep Γ own (gup pg.fb (some (qF G.gl S.low ++ (qI (G.gt.1, v') { S.top with st := st' } ++ G.R))) Γ1) own1 (fun r => r = 4 ∨ r = 11 + 2 * S.low.length) := fun b cs hb hx => by
  obtain ⟨a1, a2⟩ := kp b cs hb (fun e => hx (.inr e))
  obtain ⟨a3, a4⟩ := kp2 b cs a1 (fun e => hx (.inl (by rw [← a2, e])))
  exact ⟨a3, by rw [a4, a2]⟩
 refine ⟨fun b cs hb => ?_, ?_, ?_, by rw [f2, g.of], qd _ _ _, ?_, ?_, ?_⟩
 ·obtain ⟨a1, a2⟩ := g.ro b cs hb
  obtain ⟨a3, a4⟩ := kp3 b cs a1 (by rw [a2]; omega)
  exact ⟨a3, by rw [a4, a2]⟩
 ·exact ((kp3 _ _ g.em (by rw [g.om]; omega)).2).trans g.om
 ·exact (kp3 _ _ g.em (by rw [g.om]; omega)).1
 ·exact g.lowV.keep kp3 (fun j h1 h2 => by have h2' : j < 0 + S.low.length := h2; omega)
 ·show FmV _ _ S.low.length (G.gt.1, v') { S.top with st := st' }
  obtain ⟨a1, a2⟩ := kp3 _ _ g.topV.lc (by rw [g.topV.lo]; omega)
  exact ⟨by rw [a2]; exact g.topV.lo, a1, hr.keep kp2 (by omega)⟩
 ·exact g.wdV.keep kp3 (fun r h1 h2 h3 => by omega)
theorem MsG.setStack {Γ Γ1 : GH} {own own1 : Nat → Nat} {Γ0 : GH} {pg : Pg} {m : Nat} {G : Gh} {S : Mst} {H1 : Heap} {nx1 : Nat} {v' : AVal} {st' : List Int} (g : MsG Γ own Γ0 pg m G S)
  (kp : Keep Γ own Γ1 own1 (fun r => r = 11 + 2 * S.low.length)) (hk : HOK Γ1 H1 nx1) (hv : qD v' = true) (hr : RowV Γ1 own1 (11 + 2 * S.low.length) uv v' st') :
  ∃ H2, stC H1 (.ptr pg.fb (G.a S + 3)) [v'] = some H2 ∧ MS Γ0 pg m { S with top := { S.top with st := st' } } H2 nx1 := by
 obtain ⟨H2, Γ2, a, b, c⟩ := g.setStackG kp hk hv hr
 exact ⟨H2, a, _, _, _, b, c⟩
theorem Keep.new {Γ : GH} {own : Nat → Nat} {H : Heap} {nx b : Nat} {ex : Nat → Prop} (hk : HOK Γ H nx) (hb : nx ≤ b) (x : Option (List AVal)) : Keep Γ own (gup b x Γ) own ex := fun c cs hc _ =>
 ⟨by have := hk.lt hc; rw [qf (by omega)]; exact hc, rfl⟩
theorem Keep.trans {Γ1 Γ2 Γ3 : GH} {o1 o2 o3 : Nat → Nat} {ex : Nat → Prop} (a : Keep Γ1 o1 Γ2 o2 ex) (b : Keep Γ2 o2 Γ3 o3 ex) : Keep Γ1 o1 Γ3 o3 ex := fun c cs hc hx => by
 obtain ⟨a1, a2⟩ := a c cs hc hx
 obtain ⟨a3, a4⟩ := b c cs a1 (by rw [a2]; exact hx)
 exact ⟨a3, by rw [a4, a2]⟩
theorem MsG.keep {Γ Γ1 : GH} {own own1 : Nat → Nat} {Γ0 : GH} {pg : Pg} {m : Nat} {G : Gh} {S : Mst} (g : MsG Γ own Γ0 pg m G S) (kp : Keep Γ own Γ1 own1 (fun _ => False)) : MsG Γ1 own1 Γ0 pg m G S where
 ro := fun b cs hb => by
  obtain ⟨a1, a2⟩ := g.ro b cs hb
  obtain ⟨a3, a4⟩ := kp b cs a1 id
  exact ⟨a3, by rw [a4, a2]⟩
 om := ((kp _ _ g.em id).2).trans g.om
 em := (kp _ _ g.em id).1
 of := ((kp _ _ g.ef id).2).trans g.of
 ef := (kp _ _ g.ef id).1
 lowV := g.lowV.keep kp fun _ _ _ => ⟨id, id⟩
 topV := g.topV.keep kp id id
 wdV := g.wdV.keep kp fun _ _ _ _ => id
def Mst.st (S : Mst) (l : List Int) : Mst := { S with top := { S.top with st := l } }
theorem vI {Γ0 : GH} {pg : Pg} {m : Nat} {S : Mst} {H : Heap} {nx : Nat} {K : EndP} {v : Int} (hlen : S.top.st.length < 1000000) (h : MS Γ0 pg m S H nx)
  (hK : ∀ H' nx', nx ≤ nx' → MS Γ0 pg m (S.st (S.top.st ++ [v])) H' nx' → K (.ret (.tuple [])) H' nx') : TriP Tryz.prog 94 [.ptr m 0, uv v] H nx K := by
 obtain ⟨Γ, own, G, hk, g⟩ := h
 refine TriP.of_body qy ?_
 rw [Y6]
 unfold qe1
 have e1 := g.ld_in hk
 have e2 := g.ld_st hk
 have hk1 := hk.new (b := nx + 12) (nx' := nx + 17) (by omega) (by omega) [uv v]
 have g1 : MsG (gup (nx + 12) (some [uv v]) Γ) own Γ0 pg m G S := g.keep (Keep.new hk (by omega) _)
 have e3 := g1.ld_in hk1
 have e4 := g1.ld_st hk1
 have e5 : aSrc 1 (newB (nx + 12) [uv v] H) (.slice (nx + 12) 0 1 1 true) = some (1, [uv v]) := hk1.src (qd _ _ _) (by simp)
 obtain ⟨H2, v', Γ2, p1, p2, p3, p4, p5⟩ := RowV.push (eb := 8) (hk1.more (nx' := nx + 17) (by omega)) g1.topV.st [v] (by simp) (by simp; omega) (by omega)
 have kp : Keep Γ own Γ2 (fun b => if b = nx + 17 then 11 + 2 * S.low.length else own b) (fun r => r = 11 + 2 * S.low.length) := (Keep.new hk (by omega) _).trans p5
 obtain ⟨H3, q1, q2⟩ := g.setStack kp p3 p2 p4
 have e6 : ld1 H2 (.ptr m 9) = some (.ptr pg.fb (G.a S)) := by
  rw [p3.ld1 (kp _ _ g.em (by rw [g.om]; omega)).1]; rfl
 have pp : appC (newB (nx + 12) [uv v] H) (nx + 17) 1 8 G.gt.2 1 [uv v] = some (v', H2, nx + 17 + 1) := p1
 simp only [qv, true_and, and_true, exists_eq_left, exists_eq_left', exists_and_left, e1, e2, e3, e4, e5, e6, zd, qU, Prod.mk.injEq, and_assoc, pp, p2, q1]
 simp [qq, qD]
 exact hK _ _ (by omega) q2
def jd (n : Nat) (l : List Int) : List Int := l.take (l.length - n)
theorem KN {Γ : GH} {own : Nat → Nat} {G : Gh} {Γ0 : GH} {pg : Pg} {m : Nat} {S : Mst} {H : Heap} {nx : Nat} {K : EndP} {n : Nat} (hlen : S.top.st.length < 1000000) (hn : n < 1000000) (hk : HOK Γ H nx) (g : MsG Γ own Γ0 pg m G S)
  (hK : ∀ Γ' v' H' nx', nx ≤ nx' → HOK Γ' H' nx' → MsG Γ' own Γ0 pg m { G with gt := (G.gt.1, v') } (S.st (jd n S.top.st)) → K (.ret (.tuple [])) H' nx') : TriP Tryz.prog 93 [.ptr m 0, iv n] H nx K := by
 refine TriP.of_body qy ?_
 rw [YQ]
 unfold qek
 have e1 := g.ld_in hk
 have e2 := g.ld_st hk
 have e3 := g.topV.st.len
 obtain ⟨v', p1, p2, p3⟩ := g.topV.st.cut (n := S.top.st.length - n) (by omega)
 obtain ⟨H3, Γ3, q1, q2, q3⟩ := g.setStackG (Γ1 := Γ) (own1 := own) (fun _ _ a _ => ⟨a, rfl⟩) (hk.more (nx' := nx + 14) (by omega)) p2 p3
 have ew : (Bool.rec (Bool.rec 0 (IntKind.i64.wrap ((S.top.st.length : Int) - n)) (ilt (IntKind.i64.wrap ((S.top.st.length : Int) - n)) 0)) (Bool.rec 0 (IntKind.i64.wrap ((S.top.st.length : Int) - n)) (ilt 0 (IntKind.i64.wrap ((S.top.st.length : Int) - n)))) true : Int) = ((S.top.st.length - n : Nat) : Int) := by
  rw [zm (by omega) (by omega), zz, zz]
  by_cases hx : 0 < (S.top.st.length : Int) - n
  ·simp only [decide_eq_true hx]; omega
  ·simp only [decide_eq_false hx]; omega
 simp only [qv, true_and, and_true, exists_eq_left, exists_eq_left', exists_and_left, e1, e2, e3, zd, qU, Int.ofNat_eq_natCast, ew, Int.toNat_natCast, Int.natCast_nonneg, p1, p2, q1]
 exact hK _ _ _ _ (by omega) q2 q3
theorem Zw {Γ0 : GH} {pg : Pg} {m : Nat} {S : Mst} {H : Heap} {nx : Nat} {K : EndP} {n : Nat} (hlen : S.top.st.length < 1000000) (hn : n < 1000000) (h : MS Γ0 pg m S H nx)
  (hK : ∀ H' nx', nx ≤ nx' → MS Γ0 pg m (S.st (jd n S.top.st)) H' nx' → K (.ret (.tuple [])) H' nx') : TriP Tryz.prog 93 [.ptr m 0, iv n] H nx K := by
 obtain ⟨Γ, own, G, hk, g⟩ := h
 exact KN hlen hn hk g fun _ _ _ _ l a b => hK _ _ l ⟨_, _, _, a, b⟩
theorem Kj {Γ : GH} {own : Nat → Nat} {G : Gh} {Γ0 : GH} {pg : Pg} {m : Nat} {S : Mst} {H : Heap} {nx : Nat} {K : EndP} (hlen : S.top.st.length < 1000000) (hk : HOK Γ H nx) (g : MsG Γ own Γ0 pg m G S)
  (hK : ∀ Γ' v' H' nx', nx ≤ nx' → HOK Γ' H' nx' → MsG Γ' own Γ0 pg m { G with gt := (G.gt.1, v') } (S.st (jd 1 S.top.st)) → K (.ret (uv (pk S.top.st 0))) H' nx') : TriP Tryz.prog 95 [.ptr m 0] H nx K := by
 refine TriP.of_body qy ?_
 rw [qcp]
 unfold Fpop
 refine kH (k := 0) hlen (by omega) ⟨Γ, own, G, hk, g⟩ fun nx1 hn1 => ?_
 rw [qc]
 refine ⟨_, rfl, ?_⟩
 refine KN (n := 1) hlen (by omega) (hk.more hn1) g fun Γ2 v2 H2 nx2 hn2 a b => ?_
 rw [qc]
 exact hK _ _ _ _ (by omega) a b
theorem Y0 {Γ0 : GH} {pg : Pg} {m : Nat} {S : Mst} {H : Heap} {nx : Nat} {K : EndP} (hlen : S.top.st.length < 1000000) (h : MS Γ0 pg m S H nx)
  (hK : ∀ H' nx', nx ≤ nx' → MS Γ0 pg m (S.st (jd 1 S.top.st)) H' nx' → K (.ret (uv (pk S.top.st 0))) H' nx') : TriP Tryz.prog 95 [.ptr m 0] H nx K := by
 obtain ⟨Γ, own, G, hk, g⟩ := h
 exact Kj hlen hk g fun _ _ _ _ l a b => hK _ _ l ⟨_, _, _, a, b⟩
theorem w8 {Γ0 : GH} {pg : Pg} {m : Nat} {S : Mst} {H : Heap} {nx : Nat} {K : EndP} {n : Nat} {v : Int} (hlen : S.top.st.length < 1000000) (hn : n < 1000000) (h : MS Γ0 pg m S H nx)
  (hK : ∀ H' nx', nx ≤ nx' → MS Γ0 pg m (S.st (jd n S.top.st ++ [v])) H' nx' → K (.ret (.tuple [])) H' nx') : TriP Tryz.prog 98 [.ptr m 0, iv n, uv v] H nx K := by
 refine TriP.of_body qy ?_
 rw [qcv]
 unfold Fput
 refine Zw hlen hn h fun H2 nx2 hn2 h2 => ?_
 rw [qc]
 refine vI (by simp [Mst.st, jd]; omega) h2 fun H3 nx3 hn3 h3 => ?_
 rw [qc]
 exact hK _ _ (by omega) h3
end Go.Vs
end
section
namespace Go.Vs
open Go.Proofs
variable [GTab]
def Wd.word (S : Wd) (a : Int) : Int := if a < S.words.length then S.words.getD a.toNat 0 else 0
def Wd.len (S : Wd) (r : Int) : Int := IntKind.i64.wrap (IntKind.u64.wrap ((BitVec.ofInt 64 (S.word r) &&& BitVec.ofInt 64 4294967295).toNat : Int))
def Wd.at (S : Wd) (r i : Int) : Int := if i < 0 then 0 else if S.len r ≤ i then 0 else IntKind.u64.wrap (IntKind.u64.wrap (r + 1) + IntKind.u64.wrap i)
def Wd.get (S : Wd) (r i : Int) : Int := S.word (S.at r i)
def Wd.set (S : Wd) (r i v : Int) : Wd := if S.at r i = 0 ∨ (S.words.length : Int) ≤ S.at r i then S else { S with words := S.words.set (S.at r i).toNat v }
theorem ZW {n : Int} (h0 : 0 ≤ n) (h1 : n < 18446744073709551616) : IntKind.u64.wrap n = n := by
 simp [IntKind.wrap, IntKind.signed, IntKind.bits]; omega
theorem Kg (n : Int) : 0 ≤ IntKind.u64.wrap n := by
 simp [IntKind.wrap, IntKind.signed, IntKind.bits]; omega
section
variable {Γ : GH} {own : Nat → Nat} {w hp : Nat} {tv wv litv lv : AVal} {inb : Nat} {inf : Bool} {S : Wd} {H : Heap} {nx : Nat} {K : EndP}
theorem WdV.ld_words (g : WdV Γ own w hp tv wv litv lv inb inf S) (hk : HOK Γ H nx) : ld1 H (.ptr hp 0) = some wv := by rw [hk.ld1 g.eh]; rfl
theorem WdV.ld_room (g : WdV Γ own w hp tv wv litv lv inb inf S) (hk : HOK Γ H nx) : ld1 H (.ptr hp 1) = some (iv S.room) := by rw [hk.ld1 g.eh]; rfl
theorem WdV.ld_hp (g : WdV Γ own w hp tv wv litv lv inb inf S) (hk : HOK Γ H nx) : ld1 H (.ptr w 1) = some (.ptr hp 0) := by rw [hk.ld1 g.ew]; rfl
theorem WdV.ld_lits (g : WdV Γ own w hp tv wv litv lv inb inf S) (hk : HOK Γ H nx) : ld1 H (.ptr w 2) = some litv := by rw [hk.ld1 g.ew]; rfl
theorem WdV.ld_ins (g : WdV Γ own w hp tv wv litv lv inb inf S) (hk : HOK Γ H nx) : ld1 H (.ptr w 3) = some (.slice inb 0 S.inputs.length 1 inf) := by rw [hk.ld1 g.ew]; rfl
theorem WdV.ld_taken (g : WdV Γ own w hp tv wv litv lv inb inf S) (hk : HOK Γ H nx) : ld1 H (.ptr w 4) = some (iv S.taken) := by rw [hk.ld1 g.ew]; rfl
theorem WdV.ld_lines (g : WdV Γ own w hp tv wv litv lv inb inf S) (hk : HOK Γ H nx) : ld1 H (.ptr w 5) = some lv := by rw [hk.ld1 g.ew]; rfl
theorem WM (hk : HOK Γ H nx) (g : WdV Γ own w hp tv wv litv lv inb inf S) {a : Int} (ha : 0 ≤ a) (hl : S.words.length < 1000000) (hK : ∀ nx', nx ≤ nx' → K (.ret (uv (S.word a))) H nx') :
  TriP Tryz.prog 200 [.ptr hp 0, uv a] H nx K := by
 refine TriP.of_body qy ?_
 rw [qb4]
 unfold qdn
 have e1 := g.ld_words hk
 have e2 := g.words.len
 have e3 : IntKind.u64.wrap (S.words.length : Int) = S.words.length := ZW (by omega) (by omega)
 simp only [qv, true_and, and_true, exists_eq_left, exists_eq_left', exists_and_left, e1, e2, e3, qK, decide_eq_true_eq, decide_eq_false_iff_not, Int.ofNat_eq_natCast]
 have hw := hK nx (Nat.le_refl _)
 unfold Wd.word at hw
 refine ⟨fun h => ?_, fun h => ?_⟩
 ·rw [if_neg (by omega)] at hw; exact hw
 ·rw [if_pos (by omega)] at hw
  obtain ⟨b, i1, i2⟩ := g.words.at hk (i := a.toNat) (by omega)
  refine ⟨ha, _, i1, _, i2, ?_⟩
  have : S.words.getD a.toNat 0 = S.words[a.toNat]'(by omega) := by simp [List.getD, show a.toNat < S.words.length by omega]
  rw [this] at hw; exact hw
theorem qbr (hk : HOK Γ H nx) (g : WdV Γ own w hp tv wv litv lv inb inf S) {a : Int} (ha : 0 ≤ a) (hl : S.words.length < 1000000) (hK : ∀ nx', nx ≤ nx' → K (.ret (uv (S.word a))) H nx') :
  TriP Tryz.prog 158 [.ptr hp 0, uv a] H nx K := by
 refine TriP.of_body qy ?_
 rw [qa4]
 unfold qec
 refine WM hk g ha hl fun nx1 h1 => ?_
 rw [qc]
 exact ⟨_, rfl, hK _ (by omega)⟩
theorem JT (hk : HOK Γ H nx) (g : WdV Γ own w hp tv wv litv lv inb inf S) {a : Int} (ha : 0 ≤ a) (hl : S.words.length < 1000000) (hK : ∀ nx', nx ≤ nx' → K (.ret (iv (S.len a))) H nx') :
  TriP Tryz.prog 102 [.ptr hp 0, uv a] H nx K := by
 refine TriP.of_body qy ?_
 rw [qbf]
 unfold FLen
 refine qbr hk g ha hl fun nx1 h1 => ?_
 rw [qc]
 exact ⟨_, rfl, hK _ (by omega)⟩
theorem qe5 (hk : HOK Γ H nx) (g : WdV Γ own w hp tv wv litv lv inb inf S) {r i : Int} (hr : 0 ≤ r) (hl : S.words.length < 1000000) (hK : ∀ nx', nx ≤ nx' → K (.ret (uv (S.at r i))) H nx') :
  TriP Tryz.prog 153 [.ptr hp 0, uv r, iv i] H nx K := by
 refine TriP.of_body qy ?_
 rw [qg7]
 unfold Fat
 simp only [qK, decide_eq_true_eq, decide_eq_false_iff_not]
 unfold Wd.at at hK
 refine ⟨fun h => by have := hK nx (Nat.le_refl _); rw [if_pos h] at this; exact this, fun h => ?_⟩
 rw [if_neg h] at hK
 refine JT hk g hr hl fun nx1 h1 => ?_
 rw [qc]
 refine ⟨_, rfl, ?_⟩
 have hK := hK nx1 h1
 exact ⟨fun h => by rw [if_pos h] at hK; exact hK, fun h => by rw [if_neg h] at hK; exact hK⟩
theorem Wd.at_nonneg (S : Wd) (r i : Int) : 0 ≤ S.at r i := by
 unfold Wd.at
 split
 ·omega
 ·split
  ·omega
  ·exact Kg _
theorem Yw (hk : HOK Γ H nx) (g : WdV Γ own w hp tv wv litv lv inb inf S) {r i : Int} (hr : 0 ≤ r) (hl : S.words.length < 1000000) (hK : ∀ nx', nx ≤ nx' → K (.ret (uv (S.get r i))) H nx') :
  TriP Tryz.prog 156 [.ptr hp 0, uv r, iv i] H nx K := by
 refine TriP.of_body qy ?_
 rw [qcb]
 unfold FGet
 refine qe5 hk g hr hl fun nx1 h1 => ?_
 rw [qc]
 refine ⟨_, rfl, WM (hk.more h1) g (S.at_nonneg r i) hl fun nx2 h2 => ?_⟩
 rw [qc]
 exact ⟨_, rfl, hK _ (by omega)⟩
theorem RowV.set {α : Type} {role : Nat} {f : α → AVal} {v : AVal} {l : List α} (hk : HOK Γ H nx) (h : RowV Γ own role f v l) {i : Nat} (hi : i < l.length) {x : α} (hx : qD (f x) = true) :
  ∃ b H' Γ', idxS v i 1 = some (.ptr b i) ∧ stC H (.ptr b i) [f x] = some H' ∧ HOK Γ' H' nx ∧ RowV Γ' own role f v (l.set i x) ∧ Keep Γ own Γ' own (fun r => r = role) := by
 rcases h with ⟨rfl, rfl⟩ | ⟨b, cs, ⟨full, rfl⟩, h1, h2, h3⟩
 ·simp at hi
 ·have hc := jP h3 (by simp)
  obtain ⟨H', e1, e2⟩ := hk.st (off := i) (vs := [f x]) h2 (by simp; omega) (by simp [qq, hx])
  refine ⟨b, H', _, by rw [zG hi]; simp, e1, e2, .inr ⟨b, _, ⟨full, by simp⟩, h1, qd _ _ _, ?_⟩, fun c ds hc' hr => ⟨by rw [qf (fun e => hr (by rw [e, h1]))]; exact hc', rfl⟩⟩
  rw [List.length_set, List.map_set, ← h3]
  have e0 : qZ cs i [f x] = cs.set i (f x) := by
   rw [List.set_eq_take_append_cons_drop, if_pos (by omega)]; simp [qZ]
  rw [e0, List.take_set]
theorem WdV.setWords {Γ' : GH} {own' : Nat → Nat} {ws : List Int} (kp : Keep Γ own Γ' own' (fun r => r = 5)) (g : WdV Γ own w hp tv wv litv lv inb inf S) {wv' : AVal} (he : Γ' hp = some [wv', iv S.room])
  (hr : RowV Γ' own' 5 uv wv' ws) : WdV Γ' own' w hp tv wv' litv lv inb inf { S with words := ws } := by
 obtain ⟨a1, a2⟩ := kp _ _ g.ew (by rw [g.ow]; omega)
 obtain ⟨a3, a4⟩ := kp _ _ g.eh (by rw [g.oh]; omega)
 obtain ⟨a5, a6⟩ := kp _ _ g.ei (by rw [g.oi]; omega)
 exact ⟨by rw [a2, g.ow], by rw [a4, g.oh], a1, he, hr, by rw [a6, g.oi], a5, g.lits.keep kp (by omega), g.lines.keep kp (by omega)⟩
def Wd.putAt (S : Wd) (a v : Int) : Wd := if a = 0 ∨ (S.words.length : Int) ≤ a then S else { S with words := S.words.set a.toNat v }
theorem qcn (hk : HOK Γ H nx) (g : WdV Γ own w hp tv wv litv lv inb inf S) {a v : Int} (ha : 0 ≤ a) (hl : S.words.length < 1000000)
  (hK : ∀ b Γ' H' nx', nx ≤ nx' → HOK Γ' H' nx' → WdV Γ' own w hp tv wv litv lv inb inf (S.putAt a v) → Keep Γ own Γ' own (fun r => r = 5) → K (.ret (.bool b)) H' nx') :
  TriP Tryz.prog 152 [.ptr hp 0, uv a, uv v] H nx K := by
 refine TriP.of_body qy ?_
 rw [qbs]
 unfold FPut
 have e1 := g.ld_words hk
 have e2 := g.words.len
 have e3 : IntKind.u64.wrap (S.words.length : Int) = S.words.length := ZW (by omega) (by omega)
 have self : Keep Γ own Γ own (fun r => r = 5) := fun _ _ h _ => ⟨h, rfl⟩
 simp only [qv, true_and, and_true, exists_eq_left, exists_eq_left', exists_and_left, e1, e2, e3, qK, decide_eq_true_eq, decide_eq_false_iff_not, Int.ofNat_eq_natCast]
 unfold Wd.putAt at hK
 refine ⟨fun h => ?_, fun h => ⟨fun h2 => ?_, fun h2 => ?_⟩⟩
 ·rw [if_pos (.inl h)] at hK; exact hK _ _ _ _ (Nat.le_refl _) hk g self
 ·rw [if_pos (.inr h2)] at hK; exact hK _ _ _ _ (Nat.le_refl _) hk g self
 ·rw [if_neg (by omega)] at hK
  obtain ⟨b, H', Γ', i1, i2, i3, i4, i5⟩ := g.words.set (i := a.toNat) (x := v) hk (by omega) rfl
  exact ⟨ha, _, i1, _, i2, hK _ _ _ _ (Nat.le_refl _) i3 (g.setWords i5 (i5 _ _ g.eh (by rw [g.oh]; omega)).1 i4) i5⟩
theorem WI (hk : HOK Γ H nx) (g : WdV Γ own w hp tv wv litv lv inb inf S) {r i v : Int} (hr : 0 ≤ r) (hl : S.words.length < 1000000)
  (hK : ∀ b Γ' H' nx', nx ≤ nx' → HOK Γ' H' nx' → WdV Γ' own w hp tv wv litv lv inb inf (S.set r i v) → Keep Γ own Γ' own (fun r => r = 5) → K (.ret (.bool b)) H' nx') :
  TriP Tryz.prog 90 [.ptr hp 0, uv r, iv i, uv v] H nx K := by
 refine TriP.of_body qy ?_
 rw [qbj]
 unfold FSet
 refine qe5 hk g hr hl fun nx1 h1 => ?_
 rw [qc]
 refine ⟨_, rfl, qcn (hk.more h1) g (S.at_nonneg r i) hl fun b Γ' H' nx2 h2 a1 a2 a3 => ?_⟩
 rw [qc]
 exact ⟨_, rfl, hK _ _ _ _ (by omega) a1 a2 a3⟩
def Wd.alloc (S : Wd) (t n : Int) : Option (Wd × Int) :=
 if t < 0 ∨ 1048576 < t ∨ n < 0 ∨ 1048576 < n ∨ S.room - S.words.length ≤ n then none
 else some ({ S with words := S.words ++ [IntKind.u64.wrap ((BitVec.ofInt 64 (IntKind.u64.wrap (IntKind.u64.wrap t * 4294967296)) ||| BitVec.ofInt 64 (IntKind.u64.wrap n)).toNat : Int)] ++ List.replicate n.toNat 0 }, S.words.length)
end
end Go.Vs
end
section
namespace Go.Vs
open Go.Proofs
variable [GTab]
theorem Ke (n : Nat) : repL [uv 0] n = (List.replicate n (0 : Int)).map uv := by
 induction n with
 | zero => rfl
 | succ n ih => rw [ve, ih, List.replicate_succ]; simp
theorem kV {α : Type} {f : α → AVal} (h : ∀ x, qD (f x) = true) : ∀ l : List α, qq (l.map f) = true
 | [] => rfl
 | x :: l => by simp only [List.map_cons, qq, h x]; exact kV h l
section
variable {Γ : GH} {own : Nat → Nat} {w hp : Nat} {tv wv litv lv : AVal} {inb : Nat} {inf : Bool} {S : Wd} {H : Heap} {nx : Nat} {K : EndP}
theorem RowV.pushes {α : Type} {role eb : Nat} {f : α → AVal} {v : AVal} {l : List α} (hk : HOK Γ H nx) (h : RowV Γ own role f v l) (xs : List α) (hl : l.length + xs.length ≤ 1000000000) (he : eb ≤ 16) :
  ∃ H' v' Γ' own' nx', appC H nx 1 eb v xs.length (xs.map f) = some (v', H', nx') ∧ nx ≤ nx' ∧ qD v' = true ∧ HOK Γ' H' nx' ∧ RowV Γ' own' role f v' (l ++ xs) ∧ Keep Γ own Γ' own' (fun r => r = role) := by
 by_cases h0 : xs = []
 ·subst h0
  refine ⟨H, v, Γ, own, nx, ?_, Nat.le_refl _, ?_, hk, by rw [List.append_nil]; exact h, fun _ _ a _ => ⟨a, rfl⟩⟩
  ·rcases h with ⟨rfl, rfl⟩ | ⟨b, cs, ⟨full, rfl⟩, _⟩ <;> rfl
  ·rcases h with ⟨rfl, rfl⟩ | ⟨b, cs, ⟨full, rfl⟩, _⟩ <;> rfl
 ·obtain ⟨H', v', Γ', a1, a2, a3, a4, a5⟩ := RowV.push hk h xs (by cases xs with | nil => exact absurd rfl h0 | cons _ _ => simp) hl he
  exact ⟨H', v', Γ', _, _, a1, by omega, a2, a3, a4, a5⟩
theorem WdV.stWords {Γ' : GH} {own' : Nat → Nat} {ws : List Int} {H' : Heap} {nx' : Nat} {wv' : AVal} {ex : Nat → Prop} (g : WdV Γ own w hp tv wv litv lv inb inf S) (kp : Keep Γ own Γ' own' (fun r => r = 5)) (hk : HOK Γ' H' nx')
  (hv : qD wv' = true) (hr : RowV Γ' own' 5 uv wv' ws) (h5 : ex 5) (h3 : ex 3) :
  ∃ H2 Γ2, stC H' (.ptr hp 0) [wv'] = some H2 ∧ HOK Γ2 H2 nx' ∧ WdV Γ2 own' w hp tv wv' litv lv inb inf { S with words := ws } ∧ Keep Γ own Γ2 own' ex := by
 obtain ⟨a3, a4⟩ := kp _ _ g.eh (by rw [g.oh]; omega)
 obtain ⟨H2, e1, e2⟩ := hk.st (off := 0) (vs := [wv']) a3 (by simp) (by simp [qq, hv])
 have k2 : Keep Γ' own' (gup hp (some (qZ [wv, iv S.room] 0 [wv'])) Γ') own' (fun r => r = 3) := fun c ds hc hx => ⟨by rw [qf (fun e => hx (by rw [e, a4, g.oh]))]; exact hc, rfl⟩
 have k3 : Keep Γ own (gup hp (some (qZ [wv, iv S.room] 0 [wv'])) Γ') own' (fun r => r = 5 ∨ r = 3) := fun c ds hc hx => by
  obtain ⟨b1, b2⟩ := kp c ds hc (fun e => hx (.inl e))
  obtain ⟨b3, b4⟩ := k2 c ds b1 (fun e => hx (.inr (by rw [← b2, e])))
  exact ⟨b3, by rw [b4, b2]⟩
 refine ⟨H2, _, e1, e2, ?_, fun c ds hc hx => k3 c ds hc (fun e => hx (by rcases e with e | e <;> rw [e] <;> assumption))⟩
 obtain ⟨c1, c2⟩ := k3 _ _ g.ew (by rw [g.ow]; omega)
 obtain ⟨c3, c4⟩ := k3 _ _ g.ei (by rw [g.oi]; omega)
 exact ⟨by rw [c2, g.ow], by rw [a4, g.oh], c1, qd _ _ _, hr.keep k2 (by omega), by rw [c4, g.oi], c3, g.lits.keep k3 (by omega), g.lines.keep k3 (by omega)⟩
theorem WdV.keep0 {Γ' : GH} {own' : Nat → Nat} (kp : Keep Γ own Γ' own' (fun _ => False)) (g : WdV Γ own w hp tv wv litv lv inb inf S) : WdV Γ' own' w hp tv wv litv lv inb inf S := g.keep kp fun _ _ _ _ => id
theorem X4 (hk : HOK Γ H nx) (g : WdV Γ own w hp tv wv litv lv inb inf S) {t n : Int} (hl : S.words.length < 1000000) (hr0 : 0 ≤ S.room) (hr1 : S.room < 1000000000)
  (hN : S.alloc t n = none → ∀ nx', nx ≤ nx' → K (.ret (.tuple [uv 0, .bool false])) H nx')
  (hS : ∀ S' ref, S.alloc t n = some (S', ref) → ∀ Γ' own' H' nx' wv', nx ≤ nx' → HOK Γ' H' nx' → WdV Γ' own' w hp tv wv' litv lv inb inf S' → Keep Γ own Γ' own' (fun r => r = 5 ∨ r = 3) →
   K (.ret (.tuple [uv ref, .bool true])) H' nx') :
  TriP Tryz.prog 89 [.ptr hp 0, iv t, iv n] H nx K := by
 refine TriP.of_body qy ?_
 rw [W3]
 unfold XY
 have e1 := g.ld_words hk
 have e2 := g.words.len
 have e0 := g.ld_room hk
 have e3 : IntKind.u64.wrap (S.words.length : Int) = S.words.length := ZW (by omega) (by omega)
 have ew : IntKind.i64.wrap (S.room - (S.words.length : Int)) = S.room - S.words.length := zm (by omega) (by omega)
 unfold Wd.alloc at hN hS
 simp only [qv, true_and, and_true, exists_eq_left, exists_eq_left', exists_and_left, e0, e1, e2, e3, ew, qK, decide_eq_true_eq, decide_eq_false_iff_not, Int.ofNat_eq_natCast, and_self, iv, AVal.int.injEq]
 refine ⟨fun h => hN (if_pos (by omega)) _ (by omega), fun h1 => ⟨fun h => hN (if_pos (by omega)) _ (by omega), fun h2 => ⟨fun h => hN (if_pos (by omega)) _ (by omega), fun h3 => ⟨fun h => hN (if_pos (by omega)) _ (by omega), fun h4 => ?_⟩⟩⟩⟩
 refine ⟨fun h => hN (if_pos (by omega)) _ (by omega), fun h5 => ⟨by omega, ?_⟩⟩
 rw [if_neg (by omega)] at hS
 generalize hhead : IntKind.u64.wrap ((BitVec.ofInt 64 (IntKind.u64.wrap (IntKind.u64.wrap t * 4294967296)) ||| BitVec.ofInt 64 (IntKind.u64.wrap n)).toNat : Int) = hd at hS ⊢
 have hk1 := hk.new (b := nx + 28) (nx' := nx + 28 + 1) (by omega) (by omega) [uv hd]
 have kp1 : Keep Γ own (gup (nx + 28) (some [uv hd]) Γ) own (fun _ => False) := Keep.new hk (by omega) _
 have g1 := g.keep0 kp1
 have e5 : aSrc 1 (newB (nx + 28) [uv hd] H) (.slice (nx + 28) 0 1 1 true) = some (1, [uv hd]) := hk1.src (qd _ _ _) (by simp)
 obtain ⟨H2, v2, Γ2, own2, nx2, p1, p2, p3, p4, p5, p6⟩ := RowV.pushes (eb := 8) hk1 g1.words [hd] (by simp; omega) (by omega)
 have p1' : appC (newB (nx + 28) [uv hd] H) (nx + 28 + 1) 1 8 wv 1 [uv hd] = some (v2, H2, nx2) := p1
 obtain ⟨H3, Γ3, q1, q2, q3, q4⟩ := g1.stWords (ex := fun r => r = 5 ∨ r = 3) p6 p4 p3 p5 (.inl rfl) (.inr rfl)
 have e6 := q3.ld_words q2
 obtain ⟨n', rfl⟩ : ∃ n' : Nat, n = n' := ⟨n.toNat, by omega⟩
 obtain ⟨H4, v4, Γ4, own4, nx4, r1, r2, r3, r4, r5, r6⟩ := RowV.pushes (eb := 8) q2 q3.words (List.replicate n' 0) (by simp; omega) (by omega)
 obtain ⟨H5, Γ5, s1, s2, s3, s4⟩ := q3.stWords (ex := fun r => r = 5 ∨ r = 3) r6 r4 r3 r5 (.inl rfl) (.inr rfl)
 have ez : QN [uv 0] 1 (iv n') = some (n', (List.replicate n' (0 : Int)).map uv) := by
  have b1 : Nat.ble (Nat.mul n' 1) 9223372036854775807 = true := zc (by show n' * 1 ≤ _; omega)
  have b2 : Nat.ble n' 9223372036854775807 = true := zc (by omega)
  unfold QN
  simp only [iv, ← Int.ofNat_eq_natCast, b1, b2]
  rw [Ke]
 have r1' : appC H3 nx2 1 8 v2 n' ((List.replicate n' (0 : Int)).map uv) = some (v4, H4, nx4) := by rw [← r1]; simp
 simp only [qv, true_and, and_true, exists_eq_left, exists_eq_left', exists_and_left, e5, p1', p3, q1, e6, ez, r1', r3, s1, Prod.mk.injEq, and_assoc, kV (f := uv) (fun _ => rfl), and_self]
 have hfin := hS _ _ rfl Γ5 own4 H5 nx4 v4 (by omega) s2 (by simpa using s3) (fun c ds hc hx => ?_)
 ·simp [qq, qD]
  exact hfin
 ·obtain ⟨a1, a2⟩ := kp1 c ds hc id
  obtain ⟨a3, a4⟩ := q4 c ds a1 (by rw [a2]; exact hx)
  obtain ⟨a5, a6⟩ := s4 c ds a3 (by rw [a4, a2]; exact hx)
  exact ⟨a5, by rw [a6, a4, a2]⟩
end
end Go.Vs
end
section
namespace Go.Vs
open Go.Proofs
variable [GTab]
def Wd.lit (S : Wd) (k : Int) : Int := if k < 0 then 0 else if (S.lits.length : Int) ≤ k then 0 else S.lits.getD k.toNat 0
def Wd.input (S : Wd) : Wd × Int := if S.taken = S.inputs.length then (S, 0) else ({ S with taken := S.taken + 1 }, IntKind.u64.wrap (S.inputs.getD S.taken 0))
def Wd.line (S : Wd) (s : List UInt8) : Wd := if 4096 ≤ S.lines.length then S else { S with lines := S.lines ++ [s] }
section
variable {Γ : GH} {own : Nat → Nat} {w hp : Nat} {tv wv litv lv : AVal} {inb : Nat} {inf : Bool} {S : Wd} {H : Heap} {nx : Nat} {K : EndP}
theorem Vg (hk : HOK Γ H nx) (g : WdV Γ own w hp tv wv litv lv inb inf S) (hK : K (.ret (.ptr hp 0)) H nx) : TriP Tryz.prog 96 [.ptr w 0] H nx K := by
 refine TriP.of_body qy ?_
 rw [qas]
 unfold qeb
 have e1 := g.ld_hp hk
 simp only [qv, true_and, and_true, exists_eq_left, exists_eq_left', e1]
 exact hK
theorem qf1 (hk : HOK Γ H nx) (g : WdV Γ own w hp tv wv litv lv inb inf S) {k : Int} (hK : K (.ret (uv (S.lit k))) H nx) : TriP Tryz.prog 97 [.ptr w 0, iv k] H nx K := by
 refine TriP.of_body qy ?_
 rw [qce]
 unfold FLit
 have e1 := g.ld_lits hk
 have e2 := g.lits.len
 unfold Wd.lit at hK
 simp only [qv, true_and, and_true, exists_eq_left, exists_eq_left', exists_and_left, e1, e2, qK, decide_eq_true_eq, decide_eq_false_iff_not, Int.ofNat_eq_natCast]
 refine ⟨fun h => by rw [if_pos h] at hK; exact hK, fun h => ?_⟩
 rw [if_neg h] at hK
 refine ⟨fun h2 => by rw [if_pos h2] at hK; exact hK, fun h2 => ?_⟩
 rw [if_neg h2] at hK
 obtain ⟨b, i1, i2⟩ := g.lits.at hk (i := k.toNat) (by omega)
 have : S.lits.getD k.toNat 0 = S.lits[k.toNat]'(by omega) := by simp [List.getD, show k.toNat < S.lits.length by omega]
 rw [this] at hK
 exact ⟨by omega, _, i1, _, i2, hK⟩
theorem qc6 (hk : HOK Γ H nx) (g : WdV Γ own w hp tv wv litv lv inb inf S) (hK : K (.ret (.bool (decide (4096 ≤ (S.lines.length : Int))))) H nx) : TriP Tryz.prog 163 [.ptr w 0] H nx K := by
 refine TriP.of_body qy ?_
 rw [qb2]
 unfold qej
 have e1 := g.ld_lines hk
 have e2 := g.lines.len
 simp only [qv, true_and, and_true, exists_eq_left, exists_eq_left', exists_and_left, e1, e2]
 exact hK
theorem YA (hk : HOK Γ H nx) (g : WdV Γ own w hp tv wv litv lv inb inf S) (hl : S.inputs.length < 1000000) (ht : S.taken ≤ S.inputs.length)
  (hK : ∀ Γ' H' nx', nx ≤ nx' → HOK Γ' H' nx' → WdV Γ' own w hp tv wv litv lv inb inf S.input.1 → Keep Γ own Γ' own (fun r => r = 2) → K (.ret (uv S.input.2)) H' nx') : TriP Tryz.prog 105 [.ptr w 0] H nx K := by
 refine TriP.of_body qy ?_
 rw [XD]
 unfold XK
 have e1 := g.ld_taken hk
 have e2 := g.ld_ins hk
 unfold Wd.input at hK
 obtain ⟨H2, p1, p2⟩ := hk.st (off := 4) (vs := [iv (IntKind.i64.wrap (S.taken + 1))]) g.ew (by simp) rfl
 have kp : Keep Γ own (gup w (some (qZ [tv, .ptr hp 0, litv, .slice inb 0 S.inputs.length 1 inf, iv S.taken, lv] 4 [iv (IntKind.i64.wrap (S.taken + 1))])) Γ) own (fun r => r = 2) :=
  fun c ds hc hx => ⟨by rw [qf (fun e => hx (by rw [e, g.ow]))]; exact hc, rfl⟩
 have e3 : ld1 H2 (.ptr w 3) = some (.slice inb 0 S.inputs.length 1 inf) := by rw [p2.ld1 (qd _ _ _)]; rfl
 have e4 : ld1 H2 (.ptr w 4) = some (iv (IntKind.i64.wrap (S.taken + 1))) := by rw [p2.ld1 (qd _ _ _)]; rfl
 have w1 : IntKind.i64.wrap ((S.taken : Int) + 1) = S.taken + 1 := zm (by omega) (by omega)
 simp only [qv, true_and, and_true, exists_eq_left, exists_eq_left', exists_and_left, e1, e2, wF, qK, decide_eq_true_eq, decide_eq_false_iff_not, Int.ofNat_eq_natCast, iv, AVal.int.injEq, w1] at p1 p2 e3 e4 kp ⊢
 refine ⟨fun h => ?_, fun h => ?_⟩
 ·rw [if_pos (by omega)] at hK
  exact hK _ _ _ (by omega) (hk.more (by omega)) g (fun _ _ a _ => ⟨a, rfl⟩)
 ·rw [if_neg (by omega)] at hK
  have w2 : IntKind.i64.wrap ((S.taken : Int) + 1 - 1) = S.taken := by rw [zm (by omega) (by omega)]; omega
  have hlt : S.taken < S.inputs.length := by omega
  have e5 : ld1 H2 (.ptr inb S.taken) = some (.int .i64 (S.inputs.getD S.taken 0)) := by
   rw [p2.ld1 (kp _ _ g.ei (by rw [g.oi]; omega)).1]
   simp [hlt, List.getD]
  have e6 := zG (b := inb) (off := 0) (len := S.inputs.length) (e := 1) (n := S.taken) (esz := 1) (full := inf) hlt
  simp only [Nat.zero_add, Nat.mul_one] at e6
  simp only [p1, qv, exists_eq_left', e3, e4, AVal.int.injEq, true_and, w2, Int.natCast_nonneg, Int.toNat_natCast, e6, e5, and_true]
  refine hK _ H2 _ (by omega) (p2.more (by omega)) ?_ kp
  exact ⟨g.ow, g.oh, by rw [qd]; simp [qZ], (kp _ _ g.eh (by rw [g.oh]; omega)).1, g.words.keep kp (by omega), g.oi, (kp _ _ g.ei (by rw [g.oi]; omega)).1, g.lits.keep kp (by omega), g.lines.keep kp (by omega)⟩
def qdv : List UInt8 := [116, 114, 117, 101]
def YO : List UInt8 := [102, 97, 108, 115, 101]
def Je (num : Int → List UInt8) (k v : Int) : Option (List UInt8) := if k = 1 then some (num (IntKind.i64.wrap v)) else if k = 2 then some (if v = 0 then YO else qdv) else none
def Jy (num : Int → List UInt8) : Prop := (∀ n H nx (K : EndP), -9223372036854775808 ≤ n → n ≤ 9223372036854775807 → (∀ nx', nx ≤ nx' → K (.ret (.str (num n))) H nx') → TriP Tryz.prog 202 [iv n, iv 10] H nx K) ∧
 ∀ b H nx (K : EndP), (∀ nx', nx ≤ nx' → K (.ret (.str (if b then qdv else YO))) H nx') → TriP Tryz.prog 203 [.bool b] H nx K
theorem Qj (n : Int) : -9223372036854775808 ≤ IntKind.i64.wrap n ∧ IntKind.i64.wrap n ≤ 9223372036854775807 := by
 simp only [IntKind.wrap, IntKind.signed, IntKind.bits]
 constructor <;> simp <;> (try split) <;> omega
theorem qg2 {num : Int → List UInt8} (hn : Jy num) {k v : Int} {s : List UInt8} (hs : Je num k v = some s) (hK : ∀ nx', nx ≤ nx' → K (.ret (.tuple [.str s, .bool true])) H nx') : TriP Tryz.prog 162 [.ptr w 0, iv k, uv v] H nx K := by
 refine TriP.of_body qy ?_
 rw [qbg]
 unfold Fsay
 unfold Je at hs
 simp only [qK, decide_eq_true_eq, decide_eq_false_iff_not]
 refine ⟨fun h => ?_, fun h => ⟨fun h2 => ?_, fun h2 => ?_⟩⟩
 ·rw [if_pos h] at hs; cases hs
  refine hn.1 _ _ _ _ (Qj v).1 (Qj v).2 fun nx1 h1 => ?_
  rw [qc]
  exact ⟨_, rfl, hK _ h1⟩
 ·rw [if_neg h, if_pos h2] at hs; cases hs
  refine hn.2 _ _ _ _ fun nx1 h1 => ?_
  rw [qc]
  refine ⟨_, rfl, ?_⟩
  have := hK _ h1
  by_cases hv : v = 0 <;> simpa [hv] using this
 ·rw [if_neg h, if_neg h2] at hs; cases hs
theorem Y9 {num : Int → List UInt8} (hn : Jy num) {k v : Int} {s : List UInt8} (hs : Je num k v = some s) (hk : HOK Γ H nx) (g : WdV Γ own w hp tv wv litv lv inb inf S) (hl : S.lines.length < 1000000)
  (hK : ∀ Γ' own' lv' H' nx', nx ≤ nx' → HOK Γ' H' nx' → WdV Γ' own' w hp tv wv litv lv' inb inf (S.line s) → Keep Γ own Γ' own' (fun r => r = 2 ∨ r = 6) → K (.ret (.tuple [])) H' nx') :
  TriP Tryz.prog 104 [.ptr w 0, iv k, uv v] H nx K := by
 refine TriP.of_body qy ?_
 rw [WY]
 unfold YL
 refine qg2 hn hs fun nx1 h1 => ?_
 rw [qc]
 refine ⟨_, _, rfl, ?_⟩
 simp only [Bool.not_true, qK, Bool.false_eq_true, false_imp_iff, true_and, true_imp_iff]
 have hk1 := hk.more h1
 refine qc6 hk1 g ?_
 rw [qc]
 refine ⟨_, rfl, ?_⟩
 unfold Wd.line at hK
 simp only [qK, decide_eq_true_eq, decide_eq_false_iff_not]
 refine ⟨fun h => ?_, fun h => ?_⟩
 ·rw [if_pos (by omega)] at hK
  exact hK _ _ _ _ _ (by omega) hk1 g (fun _ _ a _ => ⟨a, rfl⟩)
 ·rw [if_neg (by omega)] at hK
  have e1 := g.ld_lines hk1
  have hk2 := hk1.new (b := nx1) (nx' := nx1 + 1) (by omega) (by omega) [.str s]
  have kp2 : Keep Γ own (gup nx1 (some [.str s]) Γ) own (fun _ => False) := Keep.new hk1 (by omega) _
  have g2 := g.keep0 kp2
  have e5 : aSrc 1 (newB nx1 [.str s] H) (.slice nx1 0 1 1 true) = some (1, [.str s]) := hk2.src (qd _ _ _) (by simp)
  obtain ⟨H3, v3, Γ3, own3, nx3, p1, p2, p3, p4, p5, p6⟩ := RowV.pushes (eb := 16) hk2 g2.lines [s] (by simp; omega) (by omega)
  have p1' : appC (newB nx1 [.str s] H) (nx1 + 1) 1 16 lv 1 [.str s] = some (v3, H3, nx3) := p1
  obtain ⟨a3, a4⟩ := p6 _ _ g2.ew (by rw [g.ow]; omega)
  obtain ⟨H4, q1, q2⟩ := p4.st (off := 5) (vs := [v3]) a3 (by simp) (by simp [qq, p3])
  have k4 : Keep Γ3 own3 (gup w (some (qZ [tv, .ptr hp 0, litv, .slice inb 0 S.inputs.length 1 inf, iv S.taken, lv] 5 [v3])) Γ3) own3 (fun r => r = 2) := fun c ds hc hx => ⟨by rw [qf (fun e => hx (by rw [e, a4, g.ow]))]; exact hc, rfl⟩
  have k5 : Keep Γ own (gup w (some (qZ [tv, .ptr hp 0, litv, .slice inb 0 S.inputs.length 1 inf, iv S.taken, lv] 5 [v3])) Γ3) own3 (fun r => r = 2 ∨ r = 6) := fun c ds hc hx => by
   obtain ⟨b1, b2⟩ := kp2 c ds hc id
   obtain ⟨b3, b4⟩ := p6 c ds b1 (fun e => hx (.inr (by rw [← b2, e])))
   obtain ⟨b5, b6⟩ := k4 c ds b3 (fun e => hx (.inl (by rw [← b2, ← b4, e])))
   exact ⟨b5, by rw [b6, b4, b2]⟩
  simp only [qv, true_and, and_true, exists_eq_left, exists_eq_left', exists_and_left, e1, e5, Prod.mk.injEq, and_assoc, p1', p3, q1]
  simp only [qq, qD, true_and]
  refine hK _ own3 v3 _ _ (by omega) q2 ?_ k5
  obtain ⟨c1, c2⟩ := k5 _ _ g.eh (by rw [g.oh]; omega)
  obtain ⟨c3, c4⟩ := k5 _ _ g.ei (by rw [g.oi]; omega)
  exact ⟨by rw [a4, g.ow], by rw [c2, g.oh], by rw [qd]; rfl, c1, g.words.keep k5 (by omega), by rw [c4, g.oi], c3, g.lits.keep k5 (by omega), p5.keep k4 (by omega)⟩
end
end Go.Vs
end
section
namespace Go.Vs
open Go.Ev (bit)
open Go.Proofs
variable [GTab]
theorem qX {p q : Prop} : ifB true p q = p := rfl
theorem zk {p q : Prop} : ifB false p q = q := rfl
def bitI (b : Bool) : Int := if b then 1 else 0
theorem qa7 {b : Bool} {H : Heap} {nx : Nat} {K : EndP} (hK : K (.ret (uv (bitI b))) H nx) : TriP Tryz.prog 99 [.bool b] H nx K := by
 refine TriP.of_body qy ?_
 rw [qbe]
 unfold Fbit
 cases b <;> exact hK
def Kv (op a b : Int) : Int :=
 if op = 11 then IntKind.u64.wrap (IntKind.i64.wrap (a.tdiv (if a = -9223372036854775808 ∧ b = -1 then 1 else b))) else IntKind.u64.wrap (a.tmod (if a = -9223372036854775808 ∧ b = -1 then 1 else b))
theorem W2 {op a b : Int} {H : Heap} {nx : Nat} {K : EndP} (hb : b ≠ 0) (hK : K (.ret (uv (Kv op a b))) H nx) : TriP Tryz.prog 100 [iv op, iv a, iv b] H nx K := by
 refine TriP.of_body qy ?_
 rw [V0]
 unfold WG
 unfold Kv at hK
 by_cases h1 : a = -9223372036854775808 <;> by_cases h2 : b = -1 <;> by_cases h3 : op = 11 <;> simp_all [qX, zk]
def yF (op a b : Int) : Option Int :=
 if op = 8 then some (IntKind.u64.wrap (a + b)) else if op = 9 then some (IntKind.u64.wrap (a - b)) else if op = 10 then some (IntKind.u64.wrap (a * b))
 else if op = 15 then some (bitI (decide (a = b))) else if op = 16 then some (bitI (!decide (a = b)))
 else if op = 17 then some (bitI (decide (IntKind.i64.wrap a < IntKind.i64.wrap b))) else if op = 18 then some (bitI (decide (IntKind.i64.wrap a ≤ IntKind.i64.wrap b)))
 else if op = 19 then some (bitI (decide (IntKind.i64.wrap b < IntKind.i64.wrap a))) else if op = 20 then some (bitI (decide (IntKind.i64.wrap b ≤ IntKind.i64.wrap a))) else none
theorem VX {m : Nat} {op a b r : Int} {H : Heap} {nx : Nat} {K : EndP} (ht : yF op a b = some r) (hK : K (.ret (uv r)) H nx) : TriP Tryz.prog 106 [.ptr m 0, iv op, uv a, uv b] H nx K := by
 refine TriP.of_body qy ?_
 rw [qcy]
 unfold Ftwo
 unfold yF at ht
 have bit : ∀ {b : Bool} {K' : EndP}, (uv (bitI b)) = uv r → (K' = fun e H1 i2 => qh e (fun v => ∃ n : Int, v = uv n ∧ K (AEnd.ret (uv n)) H1 i2) fun l => K (AEnd.pan l) H1 i2) → TriP Tryz.prog 99 [.bool b] H nx K' := by
  intro b K' he hk
  subst hk
  refine qa7 ?_
  rw [qc, he]
  exact ⟨_, rfl, hK⟩
 split at ht
 ·rename_i h; cases ht; simp only [h, decide_true, qX]; exact hK
 rename_i h8; split at ht
 ·rename_i h; cases ht; simp only [h, decide_true, qX]; exact hK
 rename_i h9; split at ht
 ·rename_i h; cases ht; simp only [h, decide_true, qX]; exact hK
 rename_i h10; split at ht
 ·rename_i h; cases ht; simp only [h, decide_true, qX]; exact bit rfl rfl
 rename_i h15; split at ht
 ·rename_i h; cases ht; simp only [h, decide_true, qX]; exact bit rfl rfl
 rename_i h16; split at ht
 ·rename_i h; cases ht; simp only [h, decide_true, qX]; exact bit rfl rfl
 rename_i h17; split at ht
 ·rename_i h; cases ht; simp only [h, decide_true, qX]; exact bit rfl rfl
 rename_i h18; split at ht
 ·rename_i h; cases ht; simp only [h, decide_true, qX]; exact bit rfl rfl
 rename_i h19; split at ht
 ·rename_i h; cases ht; simp only [h, decide_true, qX]; exact bit rfl rfl
 cases ht
theorem KQ {v n : Int} {H : Heap} {nx : Nat} {K : EndP} (hK : K (.ret (iv (if IntKind.u64.wrap n ≤ v then -1 else IntKind.i64.wrap v))) H nx) : TriP Tryz.prog 157 [uv v, iv n] H nx K := by
 refine TriP.of_body qy ?_
 rw [Xx]
 unfold qap
 by_cases h : IntKind.u64.wrap n ≤ v
 ·rw [if_pos h] at hK; simp only [h, decide_true, qX]; exact hK
 ·rw [if_neg h] at hK; simp only [h, decide_false, zk]; exact hK
section
variable {Γ Γ' : GH} {own own' : Nat → Nat} {Γ0 : GH} {pg : Pg} {m : Nat} {G : Gh} {S : Mst} {H : Heap} {nx : Nat} {K : EndP}
theorem MsG.setWd {W' : Wd} {wv' lv' : AVal} (g : MsG Γ own Γ0 pg m G S) (kp : Keep Γ own Γ' own' (fun r => 2 ≤ r ∧ r ≤ 8 ∧ r ≠ 4)) (wd : WdV Γ' own' pg.w G.hp G.tv wv' G.litv lv' G.inb G.inf W') :
  MsG Γ' own' Γ0 pg m { G with wv := wv', lv := lv' } { S with wd := W' } where
 ro := fun b cs hb => by
  obtain ⟨a1, a2⟩ := g.ro b cs hb
  obtain ⟨a3, a4⟩ := kp b cs a1 (by omega)
  exact ⟨a3, by rw [a4, a2]⟩
 om := ((kp _ _ g.em (by rw [g.om]; omega)).2).trans g.om
 em := (kp _ _ g.em (by rw [g.om]; omega)).1
 of := ((kp _ _ g.ef (by rw [g.of]; omega)).2).trans g.of
 ef := (kp _ _ g.ef (by rw [g.of]; omega)).1
 lowV := g.lowV.keep kp fun j _ _ => ⟨by omega, by omega⟩
 topV := g.topV.keep kp (by omega) (by omega)
 wdV := wd
theorem MS.ro (h : MS Γ0 pg m S H nx) {b : Nat} {cs : List AVal} (e : Γ0 b = some cs) (off : Nat) : ld1 H (.ptr b off) = cs[off]? := by
 obtain ⟨Γ, own, G, hk, g⟩ := h
 exact hk.ld1 (g.ro b cs e).1 off
theorem MS.roN (h : MS Γ0 pg m S H nx) {b off sz : Nat} {cs : List AVal} (e : Γ0 b = some cs) (ho : off + sz ≤ cs.length) : ldN H sz (.ptr b off) = some (.agg ((cs.drop off).take sz)) := by
 obtain ⟨Γ, own, G, hk, g⟩ := h
 exact hk.ldN (g.ro b cs e).1 ho
theorem MS.more {nx' : Nat} (h : MS Γ0 pg m S H nx) (e : nx ≤ nx') : MS Γ0 pg m S H nx' := by
 obtain ⟨Γ, own, G, hk, g⟩ := h
 exact ⟨Γ, own, G, hk.more e, g⟩
theorem MS.temp {nx' b : Nat} {cs : List AVal} (h : MS Γ0 pg m S H nx) (hb : nx ≤ b) (hn : b < nx') : MS (gup b (some cs) Γ0) pg m S (newB b cs H) nx' := by
 obtain ⟨Γ, own, G, hk, g⟩ := h
 have hlt : ∀ c ds, Γ c = some ds → c ≠ b := fun c ds hc => by have := hk.lt hc; omega
 have kp : Keep Γ own (gup b (some cs) Γ) (fun c => if c = b then 9 else own c) (fun _ => False) := fun c ds hc _ => ⟨by rw [qf (hlt c ds hc)]; exact hc, by simp [hlt c ds hc]⟩
 have g2 := g.keep kp
 refine ⟨_, _, G, hk.new hb hn cs, ?_, g2.om, g2.em, g2.of, g2.ef, g2.lowV, g2.topV, g2.wdV⟩
 intro c ds hc
 by_cases hcb : c = b
 ·subst hcb; rw [qd] at hc ⊢; cases hc; exact ⟨rfl, by simp⟩
 ·rw [qf hcb] at hc
  obtain ⟨a1, a2⟩ := g.ro c ds hc
  exact ⟨by rw [qf hcb]; exact a1, by simp [hcb, a2]⟩
theorem MS.less {Γ1 : GH} (h : MS Γ1 pg m S H nx) (hs : ∀ b cs, Γ0 b = some cs → Γ1 b = some cs) : MS Γ0 pg m S H nx := by
 obtain ⟨Γ, own, G, hk, g⟩ := h
 exact ⟨Γ, own, G, hk, fun b cs e => g.ro b cs (hs b cs e), g.om, g.em, g.of, g.ef, g.lowV, g.topV, g.wdV⟩
theorem MS.lt0 (h : MS Γ0 pg m S H nx) {b : Nat} {cs : List AVal} (e : Γ0 b = some cs) : b < nx := by
 obtain ⟨Γ, own, G, hk, g⟩ := h
 exact hk.lt (g.ro b cs e).1
theorem MS.untemp {b : Nat} {cs : List AVal} {H0 : Heap} {nx0 : Nat} {S0 : Mst} (h : MS (gup b (some cs) Γ0) pg m S H nx) (h0 : MS Γ0 pg m S0 H0 nx0) (hb : nx0 ≤ b) : MS Γ0 pg m S H nx :=
 h.less fun c ds hc => by have := h0.lt0 hc; rw [qf (by omega)]; exact hc
theorem MS.setPc {pc : Int} (h : MS Γ0 pg m S H nx) : ∃ fb a, ld1 H (.ptr m 9) = some (.ptr fb a) ∧ ld1 H (.ptr fb (a + 1)) = some (iv S.top.pc) ∧
  ∃ H', stC H (.ptr fb (a + 1)) [iv pc] = some H' ∧ MS Γ0 pg m { S with top := { S.top with pc := pc } } H' nx := by
 obtain ⟨Γ, own, G, hk, g⟩ := h
 refine ⟨pg.fb, G.a S, g.ld_in hk, g.ld_pc hk, ?_⟩
 obtain ⟨H2, e2, hk2⟩ := hk.st (off := G.a S + 1) (vs := [iv pc]) g.ef (by simp [qI, Gh.a]; omega) rfl
 have sp : qZ (qF G.gl S.low ++ (qI G.gt S.top ++ G.R)) (G.a S + 1) [iv pc] = qF G.gl S.low ++ (qI G.gt { S.top with pc := pc } ++ G.R) := W6 _ _ _ _ _ _ _
 rw [sp] at hk2
 have kp : Keep Γ own (gup pg.fb (some (qF G.gl S.low ++ (qI G.gt { S.top with pc := pc } ++ G.R))) Γ) own (fun r => r = 4) := fun b cs hb hx =>
  ⟨by rw [qf (fun e => hx (by rw [e, g.of]))]; exact hb, rfl⟩
 refine ⟨H2, e2, _, own, G, hk2, fun b cs hb => ?_, g.om, (kp _ _ g.em (by rw [g.om]; omega)).1, g.of, qd _ _ _, g.lowV.keep kp (fun j _ _ => by omega), ?_, g.wdV.keep kp (fun r h1 h2 h3 => by omega)⟩
 ·obtain ⟨a1, a2⟩ := g.ro b cs hb
  exact kp b cs a1 (by rw [a2]; omega) |>.imp id fun h => by rw [h, a2]
 ·have := g.topV.keep kp (by omega) (by omega)
  exact ⟨this.lo, this.lc, this.st⟩
end
end Go.Vs
end
section
namespace Go.Vs
open Go.Proofs
variable [GTab]
theorem kQ (b : Nat) (cs : List AVal) (H : Heap) : kZ b cs.length cs H = newB b cs H := rfl
section
variable {Γ0 : GH} {pg : Pg} {m : Nat} {S : Mst} {H : Heap} {nx : Nat} {K : EndP}
theorem qcg {t : Int} (h : MS Γ0 pg m S H nx) (hK : ∀ H' nx', nx ≤ nx' → MS Γ0 pg m { S with state := 2, trap := t } H' nx' → K (.ret (.tuple [])) H' nx') : TriP Tryz.prog 55 [.ptr m 0, iv t] H nx K := by
 obtain ⟨Γ, own, G, hk, g⟩ := h
 refine TriP.of_body qy ?_
 rw [qa3]
 unfold qdk
 obtain ⟨H1, p1, p2⟩ := hk.st (off := 7) (vs := [iv 2]) g.em (by simp) rfl
 obtain ⟨H2, q1, q2⟩ := p2.st (off := 8) (vs := [iv t]) (qd _ _ _) (by simp [qZ]) rfl
 rw [Zm] at q2
 simp only [qv, true_and, and_true, exists_eq_left, exists_eq_left', p1, q1]
 refine hK _ _ (Nat.le_refl _) ⟨_, own, G, q2, ?_⟩
 have kp : ∀ x, Keep Γ own (gup m x Γ) own (fun r => r = 1) := fun x b cs hb hx => ⟨by rw [qf (fun e => hx (by rw [e, g.om]))]; exact hb, rfl⟩
 refine ⟨fun b cs hb => ?_, g.om, by rw [qd]; rfl, g.of, (kp _ _ _ g.ef (by rw [g.of]; omega)).1, g.lowV.keep (kp _) (fun j _ _ => by omega), g.topV.keep (kp _) (by omega) (by omega), g.wdV.keep (kp _) (fun r _ _ _ => by omega)⟩
 obtain ⟨a1, a2⟩ := g.ro b cs hb
 obtain ⟨a3, a4⟩ := kp _ b cs a1 (by rw [a2]; omega)
 exact ⟨a3, by rw [a4, a2]⟩
def Mst.jump (S : Mst) (op a : Int) : Option Mst :=
 if op = 26 then some { S with top := { S.top with pc := a } }
 else if op = 27 then (if pk S.top.st 0 = 0 then some { S with top := { S.top with pc := a, st := jd 1 S.top.st } } else some { S with top := { S.top with pc := IntKind.i64.wrap (S.top.pc + 1), st := jd 1 S.top.st } })
 else none
theorem qb9 {op a b : Int} (hlen : S.top.st.length < 1000000) (h : MS Γ0 pg m S H nx)
  (hJ : ∀ S', S.jump op a = some S' → ∀ H' nx', nx ≤ nx' → MS Γ0 pg m S' H' nx' → K (.ret (.bool true)) H' nx')
  (hN : S.jump op a = none → ∀ H' nx', nx ≤ nx' → MS Γ0 pg m S H' nx' → K (.ret (.bool false)) H' nx') : TriP Tryz.prog 53 [.ptr m 0, .agg [iv op, iv a, iv b]] H nx K := by
 refine TriP.of_body qy ?_
 rw [Xt]
 unfold Y8
 have h1 := h.temp (b := nx) (nx' := nx + 1) (cs := [iv op, iv a, iv b]) (Nat.le_refl _) (by omega)
 have e0 : ld1 (newB nx [iv op, iv a, iv b] H) (.ptr nx 0) = some (iv op) := by rw [h1.ro (qd _ _ _)]; rfl
 have e1 : ld1 (newB nx [iv op, iv a, iv b] H) (.ptr nx 1) = some (iv a) := by rw [h1.ro (qd _ _ _)]; rfl
 have un : ∀ {S' H' nx'}, MS (gup nx (some [iv op, iv a, iv b]) Γ0) pg m S' H' nx' → MS Γ0 pg m S' H' nx' := fun hh => hh.untemp h (Nat.le_refl _)
 unfold Mst.jump at hJ hN
 simp only [kQ, qv, true_and, and_true, exists_eq_left, exists_eq_left', exists_and_left, e0, e1, iv, AVal.int.injEq]
 by_cases h26 : op = 26
 ·rw [if_pos h26] at hJ
  obtain ⟨fb, o, p1, _, H2, p3, p4⟩ := h1.setPc (pc := a)
  have p3' : stC (newB nx [AVal.int IntKind.i64 op, AVal.int IntKind.i64 a, AVal.int IntKind.i64 b] H) (AVal.ptr fb (o + 1)) [AVal.int IntKind.i64 a] = some H2 := p3
  have p1' : ld1 (newB nx [AVal.int IntKind.i64 op, AVal.int IntKind.i64 a, AVal.int IntKind.i64 b] H) (.ptr m 9) = some (.ptr fb o) := p1
  simp only [h26, decide_true, qX] at p1' p3' ⊢
  simp only [p1', qv, true_and, and_true, exists_eq_left, exists_eq_left', zd, qU, p3']
  exact hJ _ rfl _ _ (by omega) ((un p4).more (by omega))
 ·rw [if_neg h26] at hJ hN
  by_cases h27 : op = 27
  ·rw [if_pos h27] at hJ
   obtain ⟨fb, o, p1, p2, H2, p3, p4⟩ := h1.setPc (pc := IntKind.i64.wrap (S.top.pc + 1))
   simp only [iv] at p1 p2 p3
   simp only [h26, h27, decide_true, decide_false, qX, zk] at p1 p2 p3 ⊢
   simp only [p1, p2, qv, true_and, and_true, exists_eq_left, exists_eq_left', zd, qU, AVal.int.injEq, p3]
   refine Y0 (by exact hlen) p4 fun H3 nx3 l3 h3 => ?_
   rw [qc]
   refine ⟨_, rfl, ?_⟩
   simp only [qK, decide_eq_true_eq, decide_eq_false_iff_not]
   refine ⟨fun hz => ?_, fun hz => ?_⟩
   ·rw [if_pos hz] at hJ
    obtain ⟨fb', o', q1, q2, H4, q3, q4⟩ := h3.setPc (pc := a)
    have e1' : ld1 H3 (.ptr nx 1) = some (iv a) := by rw [h3.ro (qd _ _ _)]; rfl
    simp only [iv] at q1 q3 e1'
    simp only [q1, e1', qv, true_and, and_true, exists_eq_left, exists_eq_left', zd, qU, AVal.int.injEq, q3]
    exact hJ _ rfl _ _ (by omega) ((un q4).more (by omega))
   ·rw [if_neg hz] at hJ
    exact hJ _ rfl _ _ (by omega) (un h3)
  ·rw [if_neg h27] at hN
   simp only [h26, h27, decide_false, zk]
   exact hN rfl _ _ (by omega) (un h1)
end
end Go.Vs
end
section
namespace Go.Vs
open Go.Proofs
variable [GTab]
def KY (v n : Int) : Int := if IntKind.u64.wrap n ≤ v then -1 else IntKind.i64.wrap v
def Mst.put (S : Mst) (n : Nat) (v : Int) : Mst := S.st (jd n S.top.st ++ [v])
def Mst.part (S : Mst) (op a : Int) : Option (Mst × Int) :=
 let z := pk S.top.st 2
 let y := pk S.top.st 1
 let x := pk S.top.st 0
 if op = 28 then (if x = 0 then some (S, 3) else some (S.put 1 (S.wd.get x a), 0))
 else if op = 29 then (if y = 0 then some (S, 3) else some (({ S with wd := S.wd.set y a x } : Mst).st (jd 2 S.top.st), 0))
 else if op = 30 then (if y = 0 then some (S, 3) else if KY x (S.wd.len y) < 0 then some (S, 2) else some (S.put 2 (S.wd.get y (KY x (S.wd.len y))), 0))
 else if op = 31 then (if z = 0 then some (S, 3) else if KY y (S.wd.len z) < 0 then some (S, 2) else some (({ S with wd := S.wd.set z (KY y (S.wd.len z)) x } : Mst).st (jd 3 S.top.st), 0))
 else none
theorem yq {l : List Int} (h : ∀ x, x ∈ l → 0 ≤ x) (k : Nat) : 0 ≤ pk l k := by
 unfold pk
 split
 ·rename_i hk
  have : l.getD (l.length - 1 - k) 0 = l[l.length - 1 - k]'(by omega) := by simp [List.getD, show l.length - 1 - k < l.length by omega]
  rw [this]
  exact h _ (List.getElem_mem _)
 ·exact Int.le_refl _
section
variable {Γ0 : GH} {pg : Pg} {m : Nat} {S : Mst} {H : Heap} {nx : Nat} {K : EndP}
theorem qcu {op a b : Int} (hlen : S.top.st.length < 1000000) (hwl : S.wd.words.length < 1000000) (hnn : ∀ x, x ∈ S.top.st → 0 ≤ x) (h : MS Γ0 pg m S H nx) {S' : Mst} {t : Int} (hp : S.part op a = some (S', t))
  (hK : ∀ H' nx', nx ≤ nx' → MS Γ0 pg m S' H' nx' → K (.ret (iv t)) H' nx') : TriP Tryz.prog 101 [.ptr m 0, .agg [iv op, iv a, iv b]] H nx K := by
 refine TriP.of_body qy ?_
 rw [XV]
 unfold qdh
 have h1 := h.temp (b := nx) (nx' := nx + 1) (cs := [iv op, iv a, iv b]) (Nat.le_refl _) (by omega)
 have e0 : ld1 (newB nx [iv op, iv a, iv b] H) (.ptr nx 0) = some (iv op) := by rw [h1.ro (qd _ _ _)]; rfl
 have e1 : ld1 (newB nx [iv op, iv a, iv b] H) (.ptr nx 1) = some (iv a) := by rw [h1.ro (qd _ _ _)]; rfl
 have un : ∀ {S' H' nx'}, MS (gup nx (some [iv op, iv a, iv b]) Γ0) pg m S' H' nx' → MS Γ0 pg m S' H' nx' := fun hh => hh.untemp h (Nat.le_refl _)
 unfold Mst.part at hp
 dsimp only at hp
 have n0 := yq hnn 0
 have n1 := yq hnn 1
 have n2 := yq hnn 2
 simp only [kQ, qv, true_and, and_true, exists_eq_left, exists_eq_left', exists_and_left]
 generalize newB nx [iv op, iv a, iv b] H = H1 at *
 obtain ⟨Γ, own, G, hk, g⟩ := h1
 have ew : ld1 H1 (.ptr m 5) = some (.ptr pg.w 0) := by rw [hk.ld1 g.em]; rfl
 simp only [ew, qv, exists_eq_left']
 refine Vg hk g.wdV ?_
 rw [qc]
 refine kH (k := 2) hlen (by omega) ⟨Γ, own, G, hk, g⟩ fun x1 l1 => ?_
 rw [qc]
 refine ⟨_, rfl, ?_⟩
 refine kH (k := 1) hlen (by omega) ⟨Γ, own, G, hk.more l1, g⟩ fun x2 l2 => ?_
 rw [qc]
 refine ⟨_, rfl, ?_⟩
 refine kH (k := 0) hlen (by omega) ⟨Γ, own, G, hk.more (Nat.le_trans l1 l2), g⟩ fun x3 l3 => ?_
 rw [qc]
 refine ⟨_, rfl, ?_⟩
 have hk3 := hk.more (Nat.le_trans l1 (Nat.le_trans l2 l3))
 have ms3 : MS (gup nx (some [iv op, iv a, iv b]) Γ0) pg m S H1 x3 := ⟨Γ, own, G, hk3, g⟩
 generalize pk S.top.st 0 = x at *
 generalize pk S.top.st 1 = y at *
 generalize pk S.top.st 2 = z at *
 simp only [e0, e1, qv, exists_eq_left', iv, AVal.int.injEq, true_and]
 have self : ∀ ex, Keep Γ own Γ own ex := fun ex _ _ hh _ => ⟨hh, rfl⟩
 have setK : ∀ {Γ'}, Keep Γ own Γ' own (fun r => r = 5) → Keep Γ own Γ' own (fun r => 2 ≤ r ∧ r ≤ 8 ∧ r ≠ 4) := fun kp c ds hc hx => kp c ds hc (by omega)
 split at hp
 ·rename_i h28
  simp only [h28, decide_true, qX]
  rw [qK]; simp only [decide_eq_true_eq, decide_eq_false_iff_not]
  split at hp <;> cases hp <;> rename_i hz
  ·exact ⟨fun _ => hK _ _ (by omega) (un ms3), fun hh => absurd hz hh⟩
  ·refine ⟨fun hh => absurd hh hz, fun _ => ?_⟩
   refine Yw hk3 g.wdV n0 hwl fun x4 l4 => ?_
   rw [qc]
   refine ⟨_, rfl, ?_⟩
   refine w8 (n := 1) hlen (by omega) (ms3.more l4) fun H5 x5 l5 h5 => ?_
   rw [qc]
   exact hK _ _ (by omega) (un h5)
 rename_i h28
 simp only [h28, decide_false, zk]
 split at hp
 ·rename_i h29
  simp only [h29, decide_true, qX]
  rw [qK]; simp only [decide_eq_true_eq, decide_eq_false_iff_not]
  split at hp <;> cases hp <;> rename_i hz
  ·exact ⟨fun _ => hK _ _ (by omega) (un ms3), fun hh => absurd hz hh⟩
  ·refine ⟨fun hh => absurd hh hz, fun _ => ?_⟩
   refine WI hk3 g.wdV n1 hwl fun bb Γ' H4 x4 l4 a1 a2 a3 => ?_
   rw [qc]
   refine ⟨_, rfl, ?_⟩
   have g4 := g.setWd (setK a3) a2
   refine Zw (n := 2) (S := { S with wd := S.wd.set y a x }) hlen (by omega) ⟨_, _, _, a1, g4⟩ fun H5 x5 l5 h5 => ?_
   rw [qc]
   exact hK _ _ (by omega) (un h5)
 rename_i h29
 simp only [h29, decide_false, zk]
 split at hp
 ·rename_i h30
  simp only [h30, decide_true, qX]
  refine JT hk3 g.wdV n1 hwl fun x4 l4 => ?_
  rw [qc]
  refine ⟨_, rfl, KQ ?_⟩
  rw [qc]
  refine ⟨_, rfl, ?_⟩
  rw [qK]; simp only [decide_eq_true_eq, decide_eq_false_iff_not]
  split at hp
  ·rename_i hz; cases hp
   exact ⟨fun _ => ⟨_, e0, by simp only [h30, decide_true, qX]; exact hK _ _ (by omega) (un (ms3.more l4))⟩, fun hh => absurd hz hh⟩
  rename_i hz
  refine ⟨fun hh => absurd hh hz, fun _ => ?_⟩
  rw [qK]; simp only [decide_eq_true_eq, decide_eq_false_iff_not]
  split at hp <;> cases hp <;> rename_i hi
  ·exact ⟨fun _ => hK _ _ (by omega) (un (ms3.more l4)), fun hh => absurd hi hh⟩
  ·refine ⟨fun hh => absurd hh hi, fun _ => ?_⟩
   refine Yw (hk3.more l4) g.wdV n1 hwl fun x5 l5 => ?_
   rw [qc]
   refine ⟨_, rfl, ?_⟩
   refine w8 (n := 2) hlen (by omega) (ms3.more (Nat.le_trans l4 l5)) fun H5 x5 l5 h5 => ?_
   rw [qc]
   exact hK _ _ (by omega) (un h5)
 rename_i h30
 simp only [h30, decide_false, zk]
 split at hp
 ·rename_i h31
  simp only [h31, decide_true, qX]
  simp only [show ¬ ((31 : Int) = 32) by omega, decide_false, zk]
  refine JT hk3 g.wdV n2 hwl fun x4 l4 => ?_
  rw [qc]
  refine ⟨_, rfl, KQ ?_⟩
  rw [qc]
  refine ⟨_, rfl, ?_⟩
  rw [qK]; simp only [decide_eq_true_eq, decide_eq_false_iff_not]
  split at hp
  ·rename_i hz; cases hp
   exact ⟨fun _ => hK _ _ (by omega) (un (ms3.more l4)), fun hh => absurd hz hh⟩
  rename_i hz
  refine ⟨fun hh => absurd hh hz, fun _ => ?_⟩
  rw [qK]; simp only [decide_eq_true_eq, decide_eq_false_iff_not]
  split at hp <;> cases hp <;> rename_i hi
  ·exact ⟨fun _ => hK _ _ (by omega) (un (ms3.more l4)), fun hh => absurd hi hh⟩
  ·refine ⟨fun hh => absurd hh hi, fun _ => ?_⟩
   refine WI (hk3.more l4) g.wdV n2 hwl fun bb Γ' H5 x5 l5 a1 a2 a3 => ?_
   rw [qc]
   refine ⟨_, rfl, ?_⟩
   have g4 := g.setWd (setK a3) a2
   refine Zw (n := 3) (S := { S with wd := S.wd.set z (KY y (S.wd.len z)) x }) hlen (by omega) ⟨_, _, _, a1, g4⟩ fun H6 x6 l6 h6 => ?_
   rw [qc]
   exact hK _ _ (by omega) (un h6)
 ·cases hp
end
end Go.Vs
end
section
namespace Go.Vs
open Go.Proofs
variable [GTab]
structure Mst.Fine (S : Mst) : Prop where
 st : S.top.st.length < 1000000
 nn : ∀ x, x ∈ S.top.st → 0 ≤ x
 words : S.wd.words.length < 1000000
 lines : S.wd.lines.length < 1000000
 inputs : S.wd.inputs.length < 1000000
 taken : S.wd.taken ≤ S.wd.inputs.length
 room0 : 0 ≤ S.wd.room
 room1 : S.wd.room < 1000000000
def Wd.slice (W : Wd) (t n : Int) : Option (Wd × Int) := if n < 0 then none else if 65536 < n then none else W.alloc t n
section
variable {Γ : GH} {own : Nat → Nat} {w hp : Nat} {tv wv litv lv : AVal} {inb : Nat} {inf : Bool} {W : Wd} {H : Heap} {nx : Nat} {K : EndP}
theorem XQ (hk : HOK Γ H nx) (g : WdV Γ own w hp tv wv litv lv inb inf W) {t n : Int} (hl : W.words.length < 1000000) (hr0 : 0 ≤ W.room) (hr1 : W.room < 1000000000)
  (hN : W.slice t n = none → ∀ nx', nx ≤ nx' → K (.ret (.tuple [uv 0, .bool false])) H nx')
  (hS : ∀ W' ref, W.slice t n = some (W', ref) → ∀ Γ' own' H' nx' wv', nx ≤ nx' → HOK Γ' H' nx' → WdV Γ' own' w hp tv wv' litv lv inb inf W' → Keep Γ own Γ' own' (fun r => r = 5 ∨ r = 3) →
   K (.ret (.tuple [uv ref, .bool true])) H' nx') :
  TriP Tryz.prog 161 [.ptr w 0, iv t, iv n] H nx K := by
 refine TriP.of_body qy ?_
 rw [Xz]
 unfold qaa
 unfold Wd.slice at hN hS
 have e1 := g.ld_hp hk
 rw [qK]; simp only [decide_eq_true_eq, decide_eq_false_iff_not]
 refine ⟨fun h => by rw [if_pos h] at hN; exact hN rfl _ (Nat.le_refl _), fun h => ?_⟩
 rw [if_neg h] at hN hS
 rw [qK]; simp only [decide_eq_true_eq, decide_eq_false_iff_not]
 refine ⟨fun h => by rw [if_pos h] at hN; exact hN rfl _ (Nat.le_refl _), fun h => ?_⟩
 rw [if_neg h] at hN hS
 simp only [e1, qv, true_and, exists_eq_left']
 refine X4 hk g hl hr0 hr1 (fun e nx' l => ?_) (fun W' ref e Γ' own' H' nx' wv' l a1 a2 a3 => ?_)
 ·rw [qc]; exact ⟨_, _, rfl, hN e _ l⟩
 ·rw [qc]; exact ⟨_, _, rfl, hS _ _ e _ _ _ _ _ l a1 a2 a3⟩
end
def Mst.make (S : Mst) (a : Int) : Mst × Int :=
 if 2000 < pk S.top.st 0 then (S, 5)
 else match S.wd.slice a (IntKind.i64.wrap (pk S.top.st 0)) with
  | none => (S, 7)
  | some (W, r) => (({ S with wd := W } : Mst).put 1 r, 0)
section
variable {Γ0 : GH} {pg : Pg} {m : Nat} {S : Mst} {H : Heap} {nx : Nat} {K : EndP}
theorem MS.ld_w (h : MS Γ0 pg m S H nx) : ld1 H (.ptr m 5) = some (.ptr pg.w 0) := by
 obtain ⟨Γ, own, G, hk, g⟩ := h
 rw [hk.ld1 g.em]; rfl
theorem XX {a b : Int} (fi : S.Fine) (h : MS Γ0 pg m S H nx) (hK : ∀ H' nx', nx ≤ nx' → MS Γ0 pg m (S.make a).1 H' nx' → K (.ret (iv (S.make a).2)) H' nx') :
  TriP Tryz.prog 103 [.ptr m 0, .agg [iv 35, iv a, iv b]] H nx K := by
 refine TriP.of_body qy ?_
 rw [XH]
 unfold Yp
 have h1 := h.temp (b := nx) (nx' := nx + 1) (cs := [iv 35, iv a, iv b]) (Nat.le_refl _) (by omega)
 have e0 : ld1 (newB nx [iv 35, iv a, iv b] H) (.ptr nx 0) = some (iv 35) := by rw [h1.ro (qd _ _ _)]; rfl
 have e1 : ld1 (newB nx [iv 35, iv a, iv b] H) (.ptr nx 1) = some (iv a) := by rw [h1.ro (qd _ _ _)]; rfl
 have un : ∀ {S' H' nx'}, MS (gup nx (some [iv 35, iv a, iv b]) Γ0) pg m S' H' nx' → MS Γ0 pg m S' H' nx' := fun hh => hh.untemp h (Nat.le_refl _)
 simp only [kQ, qv, true_and, and_true, exists_eq_left, exists_eq_left', exists_and_left]
 generalize newB nx [iv 35, iv a, iv b] H = H1 at *
 simp only [e0, qv, exists_eq_left', iv, AVal.int.injEq, true_and, show ¬ ((35 : Int) = 21) by omega, show ¬ ((35 : Int) = 34) by omega, decide_false, zk]
 unfold Mst.make at hK
 have ew := h1.ld_w
 refine kH (k := 0) fi.st (by omega) h1 fun x1 l1 => ?_
 rw [qc]
 refine ⟨_, rfl, ?_⟩
 rw [qK]; simp only [decide_eq_true_eq, decide_eq_false_iff_not]
 refine ⟨fun hx => by rw [if_pos hx] at hK; exact hK _ _ (by omega) (un (h1.more l1)), fun hx => ?_⟩
 rw [if_neg hx] at hK
 simp only [iv] at e1
 simp only [ew, e1, qv, exists_eq_left', true_and, and_true, AVal.int.injEq]
 refine kH (k := 0) fi.st (by omega) (h1.more (by omega)) fun x2 l2 => ?_
 rw [qc]
 refine ⟨_, rfl, ?_⟩
 refine ⟨⟨⟨_, ew, rfl⟩, _, e1, rfl⟩, ?_⟩
 have h3 := h1.more (nx' := x2) (by omega)
 obtain ⟨Γ, own, G, hk, g⟩ := h3
 refine XQ hk g.wdV fi.words fi.room0 fi.room1 (fun e nx' l => ?_) (fun W' ref e Γ' own' H' nx' wv' l a1 a2 a3 => ?_)
 ·rw [qc]
  refine ⟨_, _, rfl, ?_⟩
  rw [e] at hK
  simp only [Bool.not_false, qX, true_and]
  exact hK _ _ (by omega) (un ⟨Γ, own, G, hk.more l, g⟩)
 ·rw [qc]
  refine ⟨_, _, rfl, ?_⟩
  rw [e] at hK
  simp only [Bool.not_true, zk, true_and]
  have g2 := g.setWd (W' := W') (fun c ds hc hx => a3 c ds hc (by omega)) a2
  refine w8 (n := 1) (S := { S with wd := W' }) fi.st (by omega) ⟨_, _, _, a1, g2⟩ fun H5 x5 l5 h5 => ?_
  rw [qc]
  exact hK _ _ (by omega) (un h5)
end
end Go.Vs
end
section
namespace Go.Vs
open Go.Proofs
variable [GTab]
section
variable {Γ0 : GH} {pg : Pg} {m : Nat} {S : Mst} {H : Heap} {nx : Nat} {K : EndP}
theorem jz {p : Prop} [Decidable p] {a b : Prop} (h : p) (ha : a) : ifB (decide p) a b := by rw [decide_eq_true h]; exact ha
theorem qE {p : Prop} [Decidable p] {a b : Prop} (h : ¬ p) (hb : b) : ifB (decide p) a b := by rw [decide_eq_false h]; exact hb
theorem MsG.setLocal {Γ : GH} {own : Nat → Nat} {G : Gh} (hk : HOK Γ H nx) (g : MsG Γ own Γ0 pg m G S) {i : Nat} (hi : i < S.top.ls.length) (x : Int) :
  ∃ H', idxS (.slice G.gt.1 0 S.top.ls.length 1 true) i 1 = some (.ptr G.gt.1 i) ∧ stC H (.ptr G.gt.1 i) [uv x] = some H' ∧ MS Γ0 pg m { S with top := { S.top with ls := S.top.ls.set i x } } H' nx := by
 obtain ⟨H', e1, e2⟩ := hk.st (off := i) (vs := [uv x]) g.topV.lc (by rw [VW]; simp; omega) rfl
 refine ⟨H', by rw [zG hi]; simp, e1, ?_⟩
 have sp : qZ (uvs S.top.ls) i [uv x] = uvs (S.top.ls.set i x) := by
  unfold uvs
  rw [List.map_set, List.set_eq_take_append_cons_drop, if_pos (by simp; omega)]; simp [qZ]
 rw [sp] at e2
 have kp : Keep Γ own (gup G.gt.1 (some (uvs (S.top.ls.set i x))) Γ) own (fun r => r = 10 + 2 * S.low.length) := fun b cs hb hx => ⟨by rw [qf (fun e => hx (by rw [e, g.topV.lo]))]; exact hb, rfl⟩
 refine ⟨_, own, G, e2, fun b cs hb => ?_, g.om, (kp _ _ g.em (by rw [g.om]; omega)).1, g.of, ?_, g.lowV.keep kp (fun j h1 h2 => by have h2' : j < 0 + S.low.length := h2; omega), ?_, g.wdV.keep kp (fun r h1 h2 h3 => by omega)⟩
 ·obtain ⟨a1, a2⟩ := g.ro b cs hb
  obtain ⟨a3, a4⟩ := kp b cs a1 (by rw [a2]; omega)
  exact ⟨a3, by rw [a4, a2]⟩
 ·have := (kp _ _ g.ef (by rw [g.of]; omega)).1
  simpa [qI] using this
 ·exact ⟨g.topV.lo, qd _ _ _, g.topV.st.keep kp (by omega)⟩
def ko (Γ0 : GH) (v : AVal) (k : Int) : Option Int :=
 match v with
 | .slice b off len _ _ => if 0 ≤ k ∧ k < len then (match Γ0 b with | some cs => (match cs[off + k.toNat]? with | some (.int .i64 n) => some n | _ => none) | none => none) else none
 | _ => none
theorem qan {v : AVal} {k n : Int} (h : MS Γ0 pg m S H nx) (e : ko Γ0 v k = some n) : 0 ≤ k ∧ ∃ p, idxS v k.toNat 1 = some p ∧ ld1 H p = some (.int .i64 n) := by
 unfold ko at e
 split at e <;> try (cases e; done)
 split at e <;> try (cases e; done)
 rename_i hk
 split at e <;> try (cases e; done)
 rename_i cs hc
 split at e <;> try (cases e; done)
 rename_i n' hn
 cases e
 refine ⟨hk.1, _, zG (by omega), ?_⟩
 rw [Nat.mul_one, h.ro hc]; exact hn
def Mst.push (S : Mst) (v : Int) : Mst := S.st (S.top.st ++ [v])
def Mst.does (num : Int → List UInt8) (nums : Int → Option Int) (S : Mst) (op a : Int) : Option (Mst × Int) :=
 let x := pk S.top.st 0
 let y := pk S.top.st 1
 if op = 1 then (nums a).map fun n => (S.push (IntKind.u64.wrap n), 0)
 else if op = 2 then some (S.push (IntKind.u64.wrap a), 0)
 else if op = 3 then some (S.push (S.wd.lit a), 0)
 else if op = 4 then some (S.push 0, 0)
 else if op = 5 then (if 0 ≤ a ∧ a < S.top.ls.length then some (S.push (S.top.ls.getD a.toNat 0), 0) else none)
 else if op = 6 then (if 0 ≤ a ∧ a < S.top.ls.length then some ({ S with top := { S.top with ls := S.top.ls.set a.toNat x, st := jd 1 S.top.st } }, 0) else none)
 else if op = 7 then some (S.st (jd 1 S.top.st), 0)
 else if op = 13 then some (S.put 1 (IntKind.u64.wrap (0 - x)), 0)
 else if op = 14 then some (S.put 1 (bitI (decide (x = 0))), 0)
 else if op = 11 ∨ op = 12 then (if x = 0 then some (S, 1) else if IntKind.i64.wrap x = 0 then none else some (S.put 2 (Kv op (IntKind.i64.wrap y) (IntKind.i64.wrap x)), 0))
 else if op = 28 ∨ op = 29 ∨ op = 30 ∨ op = 31 then S.part op a
 else if op = 33 then some (S.put 1 (IntKind.u64.wrap (S.wd.len x)), 0)
 else if op = 35 then some (S.make a)
 else if op = 39 then (Je num a x).map fun s => ({ S with top := { S.top with st := jd 1 S.top.st }, wd := S.wd.line s }, 0)
 else if op = 40 then some (({ S with wd := S.wd.input.1 } : Mst).push S.wd.input.2, 0)
 else (yF op y x).map fun r => (S.put 2 r, 0)
theorem YD {op y x r : Int} (h : yF op y x = some r) (k : Int) (hk : k ∉ [8, 9, 10, 15, 16, 17, 18, 19, 20]) : op ≠ k := by
 intro e
 subst e
 simp at hk
 unfold yF at h
 simp_all
theorem qbv {num : Int → List UInt8} (hn : Jy num) {op a b : Int} (fi : S.Fine) (h : MS Γ0 pg m S H nx) {S' : Mst} {t : Int} (hp : S.does num (ko Γ0 pg.nums) op a = some (S', t))
  (hK : ∀ H' nx', nx ≤ nx' → MS Γ0 pg m S' H' nx' → K (.ret (iv t)) H' nx') : TriP Tryz.prog 54 [.ptr m 0, .agg [iv op, iv a, iv b]] H nx K := by
 refine TriP.of_body qy ?_
 rw [YB]
 unfold qed
 have h1 := h.temp (b := nx) (nx' := nx + 1) (cs := [iv op, iv a, iv b]) (Nat.le_refl _) (by omega)
 have e0 : ld1 (newB nx [iv op, iv a, iv b] H) (.ptr nx 0) = some (iv op) := by rw [h1.ro (qd _ _ _)]; rfl
 have e1 : ld1 (newB nx [iv op, iv a, iv b] H) (.ptr nx 1) = some (iv a) := by rw [h1.ro (qd _ _ _)]; rfl
 have eN : ldN (newB nx [iv op, iv a, iv b] H) 3 (.ptr nx 0) = some (.agg [iv op, iv a, iv b]) := by rw [h1.roN (qd _ _ _) (by simp)]; rfl
 have un : ∀ {S' H' nx'}, MS (gup nx (some [iv op, iv a, iv b]) Γ0) pg m S' H' nx' → MS Γ0 pg m S' H' nx' := fun hh => hh.untemp h (Nat.le_refl _)
 have eNum : ∀ k n, ko Γ0 pg.nums k = some n → ko (gup nx (some [iv op, iv a, iv b]) Γ0) pg.nums k = some n := by
  intro k n e
  unfold ko at e ⊢
  split at e <;> try (cases e; done)
  split at e <;> try (cases e; done)
  rename_i hk
  split at e <;> try (cases e; done)
  rename_i cs hc
  have := h.lt0 hc
  rw [if_pos hk, qf (by omega), hc]; exact e
 have eRo : ∀ {S' H' nx'}, MS (gup nx (some [iv op, iv a, iv b]) Γ0) pg m S' H' nx' → ld1 H' (.ptr nx 1) = some (iv a) := fun hh => by rw [hh.ro (qd _ _ _)]; rfl
 unfold Mst.does at hp
 dsimp only at hp
 have n0 := yq fi.nn 0
 simp only [kQ, qv, true_and, and_true, exists_eq_left, exists_eq_left', exists_and_left]
 generalize newB nx [iv op, iv a, iv b] H = H1 at *
 refine kH (k := 1) fi.st (by omega) h1 fun x1 l1 => ?_
 rw [qc]
 refine ⟨_, rfl, ?_⟩
 refine kH (k := 0) fi.st (by omega) (h1.more l1) fun x2 l2 => ?_
 rw [qc]
 refine ⟨_, rfl, ?_⟩
 have h2 := h1.more (Nat.le_trans l1 l2)
 have ew := h2.ld_w
 refine ⟨_, ew, ?_⟩
 obtain ⟨Γ, own, G, hk, g⟩ := h2
 refine Vg hk g.wdV ?_
 rw [qc]
 have h2 : MS (gup nx (some [iv op, iv a, iv b]) Γ0) pg m S H1 x2 := ⟨Γ, own, G, hk, g⟩
 refine ⟨_, e0, ?_⟩
 by_cases ho1 : op = 1
 ·rw [if_pos ho1] at hp
  subst ho1
  refine jz rfl ?_
  cases hq : ko Γ0 pg.nums a with
  | none => rw [hq] at hp; cases hp
  | some n =>
   rw [hq] at hp; cases hp
   obtain ⟨q0, p, q1, q2⟩ := qan h2 (eNum _ _ hq)
   have q3 : ld1 H1 (.ptr m 4) = some pg.nums := by rw [hk.ld1 g.em]; rfl
   simp only [iv] at e1
   simp only [qU, Nat.zero_add, q3, e1, iv, q0, q1, q2, qv, exists_eq_left', true_and, and_true, AVal.int.injEq]
   refine vI fi.st (h2.more (by omega)) fun H5 x5 l5 h5 => ?_
   rw [qc]
   exact hK _ _ (by omega) (un h5)
 rw [if_neg ho1] at hp
 refine qE ho1 ?_
 by_cases ho2 : op = 2
 ·rw [if_pos ho2] at hp
  subst ho2; cases hp
  refine jz rfl ⟨_, e1, ?_⟩
  refine vI fi.st h2 fun H5 x5 l5 h5 => ?_
  rw [qc]
  exact hK _ _ (by omega) (un h5)
 rw [if_neg ho2] at hp
 refine qE ho2 ?_
 by_cases ho3 : op = 3
 ·rw [if_pos ho3] at hp
  subst ho3; cases hp
  refine jz rfl ⟨_, ew, _, e1, ⟨⟨_, ew, rfl⟩, _, e1, rfl⟩, ?_⟩
  refine qf1 (hk.more (by omega)) g.wdV ?_
  rw [qc]
  refine ⟨_, rfl, ?_⟩
  refine vI fi.st (h2.more (by omega)) fun H5 x5 l5 h5 => ?_
  rw [qc]
  exact hK _ _ (by omega) (un h5)
 rw [if_neg ho3] at hp
 refine qE ho3 ?_
 by_cases ho4 : op = 4
 ·rw [if_pos ho4] at hp
  subst ho4; cases hp
  refine jz rfl ?_
  refine vI fi.st h2 fun H5 x5 l5 h5 => ?_
  rw [qc]
  exact hK _ _ (by omega) (un h5)
 rw [if_neg ho4] at hp
 refine qE ho4 ?_
 have i1 := g.ld_in hk
 have i2 := g.ld_ls hk
 by_cases ho5 : op = 5
 ·rw [if_pos ho5] at hp
  subst ho5
  refine jz rfl ?_
  split at hp <;> cases hp
  rename_i ha
  have hl : a.toNat < S.top.ls.length := by omega
  have q1 := zG (b := G.gt.1) (off := 0) (len := S.top.ls.length) (e := 1) (n := a.toNat) (esz := 1) (full := true) hl
  simp only [Nat.zero_add, Nat.mul_one] at q1
  have q2 : ld1 H1 (.ptr G.gt.1 a.toNat) = some (.int .u64 (S.top.ls.getD a.toNat 0)) := by
   rw [hk.ld1 g.topV.lc, qcj]; simp [hl, List.getD]
  simp only [iv] at e1
  simp only [i1, i2, zd, qU, e1, iv, uv, ha.1, q1, q2, qv, exists_eq_left', true_and, and_true, AVal.int.injEq]
  refine vI fi.st (h2.more (by omega)) fun H5 x5 l5 h5 => ?_
  rw [qc]
  exact hK _ _ (by omega) (un h5)
 rw [if_neg ho5] at hp
 refine qE ho5 ?_
 by_cases ho6 : op = 6
 ·rw [if_pos ho6] at hp
  subst ho6
  refine jz rfl ?_
  split at hp <;> cases hp
  rename_i ha
  simp only [iv] at e1
  simp only [i1, i2, zd, qU, e1, iv, qv, exists_eq_left', true_and, and_true, AVal.int.injEq]
  refine Kj fi.st (hk.more (by omega)) g fun Γ' v' H5 x5 l5 k5 g5 => ?_
  rw [qc]
  refine ⟨_, rfl, ?_⟩
  have hl : a.toNat < S.top.ls.length := by omega
  obtain ⟨H6, q1, q2, q3⟩ := g5.setLocal k5 (i := a.toNat) hl (pk S.top.st 0)
  have i3 := g5.ld_in k5
  have i4 := g5.ld_ls k5
  have e1' := eRo (⟨_, _, _, k5, g5⟩ : MS _ pg m _ H5 x5)
  have j3 : ld1 H5 (.ptr m 9) = some (.ptr pg.fb (G.a S)) := i3
  have j4 : ld1 H5 (.ptr pg.fb (G.a S + 2)) = some (.slice G.gt.1 0 S.top.ls.length 1 true) := i4
  have j1 : idxS (.slice G.gt.1 0 S.top.ls.length 1 true) a.toNat 1 = some (.ptr G.gt.1 a.toNat) := q1
  have j2 : stC H5 (.ptr G.gt.1 a.toNat) [uv (pk S.top.st 0)] = some H6 := q2
  simp only [iv] at e1'
  simp only [j1, j2, j3, j4, e1', ha.1, qv, exists_eq_left', true_and, and_true, AVal.int.injEq]
  exact hK _ _ (by omega) (un q3)
 rw [if_neg ho6] at hp
 refine qE ho6 ?_
 by_cases ho7 : op = 7
 ·rw [if_pos ho7] at hp
  subst ho7; cases hp
  refine jz rfl ?_
  refine Y0 fi.st h2 fun H5 x5 l5 h5 => ?_
  rw [qc]
  exact ⟨_, rfl, hK _ _ (by omega) (un h5)⟩
 rw [if_neg ho7] at hp
 refine qE ho7 ?_
 by_cases ho13 : op = 13
 ·rw [if_pos ho13] at hp
  subst ho13; cases hp
  refine jz rfl ?_
  refine w8 (n := 1) fi.st (by omega) h2 fun H5 x5 l5 h5 => ?_
  rw [qc]
  exact hK _ _ (by omega) (un h5)
 rw [if_neg ho13] at hp
 refine qE ho13 ?_
 by_cases ho14 : op = 14
 ·rw [if_pos ho14] at hp
  subst ho14; cases hp
  refine jz rfl (qa7 ?_)
  rw [qc]
  refine ⟨_, rfl, ?_⟩
  refine w8 (n := 1) fi.st (by omega) h2 fun H5 x5 l5 h5 => ?_
  rw [qc]
  exact hK _ _ (by omega) (un h5)
 rw [if_neg ho14] at hp
 refine qE ho14 ?_
 by_cases hd : op = 11 ∨ op = 12
 ·rw [if_pos hd] at hp
  have key : ifB (decide (pk S.top.st 0 = 0)) (K (AEnd.ret (iv 1)) H1 x2) (∃ n : Int, ld1 H1 (.ptr nx 0) = some (iv n) ∧ TriP Tryz.prog 100 [iv n, iv (IntKind.i64.wrap (pk S.top.st 1)), iv (IntKind.i64.wrap (pk S.top.st 0))] H1 x2
    fun e H2 i2 => qh e (fun v => ∃ n : Int, v = uv n ∧ TriP Tryz.prog 98 [.ptr m 0, iv 2, uv n] H2 i2 fun e H3 i3 => qh e (fun _ => K (AEnd.ret (iv 0)) H3 i3) fun l => K (AEnd.pan l) H3 i3) fun l => K (AEnd.pan l) H2 i2) := by
   by_cases hz : pk S.top.st 0 = 0
   ·rw [if_pos hz] at hp; cases hp
    exact jz hz (hK _ _ (by omega) (un h2))
   ·rw [if_neg hz] at hp
    refine qE hz ?_
    split at hp <;> cases hp
    rename_i hw
    refine ⟨_, e0, W2 hw ?_⟩
    rw [qc]
    refine ⟨_, rfl, ?_⟩
    refine w8 (n := 2) fi.st (by omega) h2 fun H5 x5 l5 h5 => ?_
    rw [qc]
    exact hK _ _ (by omega) (un h5)
  rcases hd with hd | hd
  ·exact jz hd key
  ·exact qE (by omega) (jz hd key)
 rw [if_neg hd] at hp
 refine qE (by omega) (qE (by omega) ?_)
 by_cases hq : op = 28 ∨ op = 29 ∨ op = 30 ∨ op = 31
 ·rw [if_pos hq] at hp
  have key : ∃ n1 n2 n3 : Int, ldN H1 3 (.ptr nx 0) = some (.agg [iv n1, iv n2, iv n3]) ∧ TriP Tryz.prog 101 [.ptr m 0, .agg [iv n1, iv n2, iv n3]] H1 x2
    fun e H2 i2 => qh e (fun v => ∃ n : Int, v = iv n ∧ K (AEnd.ret (iv n)) H2 i2) fun l => K (AEnd.pan l) H2 i2 := by
   refine ⟨_, _, _, eN, qcu fi.st fi.words fi.nn h2 hp fun H5 x5 l5 h5 => ?_⟩
   rw [qc]
   exact ⟨_, rfl, hK _ _ (by omega) (un h5)⟩
  rcases hq with hd | hd | hd | hd
  ·exact jz hd key
  ·exact qE (by omega) (jz hd key)
  ·exact qE (by omega) (qE (by omega) (jz hd key))
  ·exact qE (by omega) (qE (by omega) (qE (by omega) (jz hd key)))
 rw [if_neg hq] at hp
 refine qE (by omega) (qE (by omega) (qE (by omega) (qE (by omega) ?_)))
 by_cases ho33 : op = 33
 ·rw [if_pos ho33] at hp
  subst ho33; cases hp
  refine qE (by omega) (qE (by omega) (jz rfl ?_))
  refine JT hk g.wdV n0 fi.words fun x3 l3 => ?_
  rw [qc]
  refine ⟨_, rfl, ?_⟩
  refine w8 (n := 1) fi.st (by omega) (h2.more l3) fun H5 x5 l5 h5 => ?_
  rw [qc]
  exact hK _ _ (by omega) (un h5)
 rw [if_neg ho33] at hp
 by_cases ho35 : op = 35
 ·rw [if_pos ho35] at hp
  subst ho35
  refine qE (by omega) (qE (by omega) (qE (by omega) (qE (by omega) (qE (by omega) (jz rfl ?_)))))
  refine ⟨_, _, _, eN, XX fi h2 fun H5 x5 l5 h5 => ?_⟩
  rw [qc]
  have e : S.make a = (S', t) := by simpa using hp
  rw [e] at h5 ⊢
  exact ⟨_, rfl, hK _ _ (by omega) (un h5)⟩
 rw [if_neg ho35] at hp
 by_cases ho39 : op = 39
 ·rw [if_pos ho39] at hp
  subst ho39
  refine qE (by omega) (qE (by omega) (qE (by omega) (qE (by omega) (qE (by omega) (qE (by omega) (jz rfl ?_))))))
  refine ⟨_, ew, _, e1, ⟨⟨_, ew, rfl⟩, _, e1, rfl⟩, ?_⟩
  cases hs : Je num a (pk S.top.st 0) with
  | none => rw [hs] at hp; cases hp
  | some s =>
   rw [hs] at hp; cases hp
   refine Kj fi.st (hk.more (by omega)) g fun Γ' v' H5 x5 l5 k5 g5 => ?_
   rw [qc]
   have h5 : MS _ pg m _ H5 x5 := ⟨_, _, _, k5, g5⟩
   refine ⟨_, rfl, ⟨⟨_, h5.ld_w, rfl⟩, _, eRo h5, rfl⟩, ?_⟩
   refine Y9 hn hs k5 g5.wdV fi.lines fun Γ6 own6 lv6 H6 x6 l6 k6 w6 kp6 => ?_
   rw [qc]
   have g6 := g5.setWd (fun c ds hc hx => kp6 c ds hc (by omega)) w6
   exact hK _ _ (by omega) (un ⟨_, _, _, k6, g6⟩)
 rw [if_neg ho39] at hp
 by_cases ho40 : op = 40
 ·rw [if_pos ho40] at hp
  subst ho40; cases hp
  refine qE (by omega) (qE (by omega) (qE (by omega) (qE (by omega) (qE (by omega) (qE (by omega) (qE (by omega) (jz rfl ?_)))))))
  refine ⟨_, ew, ?_⟩
  refine YA hk g.wdV fi.inputs fi.taken fun Γ6 H6 x6 l6 k6 w6 kp6 => ?_
  rw [qc]
  refine ⟨_, rfl, ?_⟩
  have g6 := g.setWd (fun c ds hc hx => kp6 c ds hc (by omega)) w6
  refine vI (S := { S with wd := S.wd.input.1 }) fi.st ⟨_, _, _, k6, g6⟩ fun H5 x5 l5 h5 => ?_
  rw [qc]
  exact hK _ _ (by omega) (un h5)
 rw [if_neg ho40] at hp
 cases ht : yF op (pk S.top.st 1) (pk S.top.st 0) with
 | none => rw [ht] at hp; cases hp
 | some r =>
  rw [ht] at hp; cases hp
  have ne := fun k hk => YD ht k hk
  refine qE (ne 32 (by simp)) (qE (ne 38 (by simp)) (qE ho33 (qE (ne 21 (by simp)) (qE (ne 34 (by simp)) (qE ho35 (qE ho39 (qE ho40 ?_)))))))
  refine ⟨_, e0, VX ht ?_⟩
  rw [qc]
  refine ⟨_, rfl, ?_⟩
  refine w8 (n := 2) fi.st (by omega) h2 fun H5 x5 l5 h5 => ?_
  rw [qc]
  exact hK _ _ (by omega) (un h5)
end
end Go.Vs
end
section
namespace Go.Vs
open Go.Proofs
variable [GTab]
def zf (fb n : Nat) : AVal := if n = 0 then .nilPtr else .ptr fb ((n - 1) * 4)
theorem VU {Γ : GH} {H : Heap} {nx m fb n : Nat} {full : Bool} {c0 c1 c2 c3 c4 c5 c6 c7 c8 c9 : AVal} {K : EndP} (hk : HOK Γ H nx) (em : Γ m = some [c0, c1, c2, c3, c4, c5, c6, c7, c8, c9]) (hn : n < 1000000)
  (hK : ∀ H', HOK (gup m (some [c0, c1, c2, c3, c4, c5, .slice fb 0 n 4 full, c7, c8, zf fb n]) Γ) H' nx → K (.ret (.tuple [])) H' nx) : TriP Tryz.prog 30 [.ptr m 0, .slice fb 0 n 4 full] H nx K := by
 refine TriP.of_body qy ?_
 rw [qc9]
 unfold Fset
 obtain ⟨H1, p1, p2⟩ := hk.st (off := 6) (vs := [.slice fb 0 n 4 full]) em (by simp) rfl
 obtain ⟨H2, q1, q2⟩ := p2.st (off := 9) (vs := [.nilPtr]) (qd _ _ _) (by simp [qZ]) rfl
 rw [Zm] at q2
 simp only [qv, true_and, and_true, exists_eq_left, exists_eq_left', p1, q1, qD, wF]
 rw [qK]; simp only [decide_eq_true_eq, decide_eq_false_iff_not, Int.ofNat_eq_natCast]
 refine ⟨fun h => ?_, fun h => ?_⟩
 ·have e1 : IntKind.i64.wrap ((n : Int) - 1) = ((n - 1 : Nat) : Int) := by rw [zm (by omega) (by omega)]; omega
  have e2 := zG (b := fb) (off := 0) (len := n) (e := 4) (n := n - 1) (esz := 4) (full := full) (by omega)
  obtain ⟨H3, r1, r2⟩ := q2.st (off := 9) (vs := [.ptr fb ((n - 1) * 4)]) (qd _ _ _) (by simp [qZ]) rfl
  rw [Zm] at r2
  simp only [Nat.zero_add] at e2
  simp only [e1, Int.natCast_nonneg, Int.toNat_natCast, e2, qv, exists_eq_left', true_and, r1]
  refine hK _ ?_
  have : zf fb n = .ptr fb ((n - 1) * 4) := by unfold zf; rw [if_neg (by omega)]
  rw [this]; exact r2
 ·refine hK _ ?_
  have : zf fb n = .nilPtr := by unfold zf; rw [if_pos (by omega)]
  rw [this]; exact q2
def MD (Γ0 : GH) (pg : Pg) (m : Nat) (W : Wd) (H : Heap) (nx : Nat) : Prop := ∃ Γ own hp tv wv litv lv inb inf c0 c1 c2 c3 c4 c6 c8 c9, HOK Γ H nx ∧ (∀ b cs, Γ0 b = some cs → Γ b = some cs ∧ own b = 9) ∧ own m = 1 ∧ Γ m = some [c0, c1, c2, c3, c4, .ptr pg.w 0, c6, iv 1, iv c8, c9] ∧
 WdV Γ own pg.w hp tv wv litv lv inb inf W
theorem MD.less {Γ0 Γ1 : GH} {pg : Pg} {m : Nat} {W : Wd} {H : Heap} {nx : Nat} (h : MD Γ1 pg m W H nx) (hs : ∀ b cs, Γ0 b = some cs → Γ1 b = some cs) : MD Γ0 pg m W H nx := by
 obtain ⟨Γ, own, hp, tv, wv, litv, lv, inb, inf, c0, c1, c2, c3, c4, c6, c8, c9, k, ro, r⟩ := h
 exact ⟨Γ, own, hp, tv, wv, litv, lv, inb, inf, c0, c1, c2, c3, c4, c6, c8, c9, k, fun b cs e => ro b cs (hs b cs e), r⟩
theorem MD.ld_state {Γ0 : GH} {pg : Pg} {m : Nat} {W : Wd} {H : Heap} {nx : Nat} (h : MD Γ0 pg m W H nx) : ld1 H (.ptr m 7) = some (iv 1) := by
 obtain ⟨Γ, own, hp, tv, wv, litv, lv, inb, inf, c0, c1, c2, c3, c4, c6, c8, c9, k, _, _, em, _⟩ := h
 rw [k.ld1 em]; rfl
theorem FmsV.last {Γ : GH} {own : Nat → Nat} {f : Fm} : ∀ {i : Nat} {gs : List (Nat × AVal)} {fs : List Fm}, FmsV Γ own i gs (fs ++ [f]) →
  ∃ gs' g, FmsV Γ own i gs' fs ∧ FmV Γ own (i + fs.length) g f ∧ qF gs (fs ++ [f]) = qF gs' fs ++ qI g f
 | i, gs, [], h => by
  cases h with
  | cons h t => cases t with
   | nil => exact ⟨[], _, .nil i, h, by simp [qF]⟩
 | i, gs, f0 :: fs, h => by
  cases h with
  | @cons _ g0 _ gs0 _ h t =>
   obtain ⟨gs', g, a, b, c⟩ := FmsV.last (i := i + 1) (gs := gs0) (fs := fs) t
   refine ⟨g0 :: gs', g, .cons h a, ?_, ?_⟩
   ·have e : i + (f0 :: fs).length = i + 1 + fs.length := by simp; omega
    rw [e]; exact b
   ·show qI g0 f0 ++ qF gs0 (fs ++ [f]) = qI g0 f0 ++ qF gs' fs ++ qI g f
    rw [c, List.append_assoc]
inductive Out where
 | go (S : Mst)
 | over (W : Wd)
def Mst.ret (S : Mst) (a : Int) : Out :=
 match S.low.getLast? with
 | none => .over S.wd
 | some f => .go { S with low := S.low.dropLast, top := { f with pc := IntKind.i64.wrap (f.pc + 1), st := if a = 1 then f.st ++ [pk S.top.st 0] else f.st } }
section
variable {Γ0 : GH} {pg : Pg} {m : Nat} {S : Mst} {H : Heap} {nx : Nat} {K : EndP}
theorem qey {a : Int} (fi : S.Fine) (hst : S.state = 0) (hlow : S.low.length < 1000) (hst2 : ∀ f, f ∈ S.low → f.st.length < 1000000) (h : MS Γ0 pg m S H nx)
  (hG : ∀ S', S.ret a = .go S' → ∀ H' nx', nx ≤ nx' → MS Γ0 pg m S' H' nx' → K (.ret (.tuple [])) H' nx')
  (hO : ∀ W, S.ret a = .over W → ∀ H' nx', nx ≤ nx' → MD Γ0 pg m W H' nx' → K (.ret (.tuple [])) H' nx') : TriP Tryz.prog 52 [.ptr m 0, iv a] H nx K := by
 refine TriP.of_body qy ?_
 rw [qcs]
 unfold Fret
 refine kH (k := 0) fi.st (by omega) h fun x1 l1 => ?_
 rw [qc]
 refine ⟨_, rfl, ?_⟩
 obtain ⟨Γ, own, G, hk, g⟩ := h.more l1
 have e6 : ld1 H (.ptr m 6) = some (.slice pg.fb 0 (S.low.length + 1) 4 G.full) := by rw [hk.ld1 g.em]; rfl
 have e1 : IntKind.i64.wrap (((S.low.length + 1 : Nat) : Int) - 1) = (S.low.length : Int) := by rw [zm (by omega) (by omega)]; omega
 have e2 : slcS (.slice pg.fb 0 (S.low.length + 1) 4 G.full) 4 0 (some S.low.length) = some (.slice pg.fb 0 S.low.length 4 false) := by
  have g1 : Nat.ble S.low.length (S.low.length + 1) = true := zc (by omega)
  have g2 : Nat.ble 0 S.low.length = true := zc (Nat.zero_le _)
  have g3 : Nat.beq S.low.length (S.low.length + 1) = false := by
   cases e : Nat.beq S.low.length (S.low.length + 1) with
   | false => rfl
   | true => have := Nat.eq_of_beq_eq_true e; omega
  unfold slcS
  simp only [Option.getD_some, g1, g2, Nat.beq, g3]
  rfl
 simp only [e6, wF, Int.ofNat_eq_natCast, e1, Int.natCast_nonneg, Int.toNat_natCast, e2, qv, exists_eq_left', true_and, and_true]
 refine VU (hk.more (by omega)) g.em (by omega) fun H2 k2 => ?_
 rw [qc]
 have e9 : ld1 H2 (.ptr m 9) = some (zf pg.fb S.low.length) := by rw [k2.ld1 (qd _ _ _)]; rfl
 simp only [e9, qv, exists_eq_left', true_and]
 have kp : ∀ x, Keep Γ own (gup m x Γ) own (fun r => r = 1) := fun x b cs hb hx => ⟨by rw [qf (fun e => hx (by rw [e, g.om]))]; exact hb, rfl⟩
 unfold Mst.ret at hG hO
 cases hl : S.low.getLast? with
 | none =>
  have hnil : S.low = [] := List.getLast?_eq_none_iff.1 hl
  rw [hl] at hO
  have ei : zf pg.fb S.low.length = .nilPtr := by rw [hnil]; rfl
  obtain ⟨H3, r1, r2⟩ := k2.st (off := 7) (vs := [iv 1]) (qd _ _ _) (by simp) rfl
  rw [Zm] at r2
  simp only [ei, nilK, qv, exists_eq_left', qX, r1]
  refine hO _ rfl _ _ (by omega) ?_
  exact ⟨_, own, G.hp, G.tv, G.wv, G.litv, G.lv, G.inb, G.inf, _, _, _, _, _, _, _, _, r2, fun b cs hb => by
   obtain ⟨b1, b2⟩ := g.ro b cs hb
   obtain ⟨b3, b4⟩ := kp _ b cs b1 (by rw [b2]; omega)
   exact ⟨b3, by rw [b4, b2]⟩, g.om, qd _ _ _, g.wdV.keep (kp _) (fun r _ _ _ => by omega)⟩
 | some f =>
  rw [hl] at hG
  dsimp only at hG
  obtain ⟨low', hlow'⟩ : ∃ low', S.low = low' ++ [f] := List.getLast?_eq_some_iff.1 hl
  have hdl : S.low.dropLast = low' := by rw [hlow']; simp
  have hlen' : S.low.length = low'.length + 1 := by rw [hlow']; simp
  have ei : zf pg.fb S.low.length = .ptr pg.fb (low'.length * 4) := by unfold zf; rw [if_neg (by omega), hlen']; simp
  have lv := g.lowV
  rw [hlow'] at lv
  obtain ⟨gs', g', a1, a2, a3⟩ := lv.last
  have hc : (qF gs' low').length = 4 * low'.length := a1.len
  simp only [ei, nilK, qv, exists_eq_left', zk]
  have mid : MS Γ0 pg m { S with low := low', top := f } H2 (x1 + 13) := by
   refine ⟨_, own, { G with gl := gs', gt := g', full := false, R := qI G.gt S.top ++ G.R }, k2, fun b cs hb => ?_, g.om, ?_, g.of, ?_, a1.keep (kp _) (fun j _ _ => by omega), ?_, g.wdV.keep (kp _) (fun r _ _ _ => by omega)⟩
   ·obtain ⟨b1, b2⟩ := g.ro b cs hb
    obtain ⟨b3, b4⟩ := kp _ b cs b1 (by rw [b2]; omega)
    exact ⟨b3, by rw [b4, b2]⟩
   ·rw [qd, ei, hlen']
    simp only [Gh.a, hc]
    congr 12
    omega
   ·have := (kp (some [pg.types, pg.funcs, iv pg.main, pg.texts, pg.nums, .ptr pg.w 0, .slice pg.fb 0 S.low.length 4 false, iv S.state, iv S.trap, zf pg.fb S.low.length]) _ _ g.ef (by rw [g.of]; omega)).1
    rw [hlow', a3] at this
    rw [List.append_assoc] at this
    rw [hlow']
    exact this
   ·rw [Nat.zero_add] at a2
    exact a2.keep (kp _) (by omega) (by omega)
  have hf : f.st.length < 1000000 := hst2 f (by rw [hlow']; simp)
  rw [qK]; simp only [decide_eq_true_eq, decide_eq_false_iff_not]
  refine ⟨fun ha => ?_, fun ha => ?_⟩
  ·rw [if_pos ha] at hG
   refine vI (S := { S with low := low', top := f }) hf mid fun H3 x3 l3 h3 => ?_
   rw [qc]
   obtain ⟨fb', o', q1, q2, H4, q3, q4⟩ := h3.setPc (pc := IntKind.i64.wrap (f.pc + 1))
   simp only [iv] at q2 q3
   have q2' : ld1 H3 (.ptr fb' (o' + 1)) = some (.int .i64 f.pc) := q2
   simp only [q1, q2', qv, true_and, and_true, exists_eq_left, exists_eq_left', zd, qU, iv, AVal.int.injEq, q3]
   exact hG _ rfl _ _ (by omega) (by rw [hdl]; exact q4)
  ·rw [if_neg ha] at hG
   obtain ⟨fb', o', q1, q2, H4, q3, q4⟩ := mid.setPc (pc := IntKind.i64.wrap (f.pc + 1))
   simp only [iv] at q2 q3
   have q2' : ld1 H2 (.ptr fb' (o' + 1)) = some (.int .i64 f.pc) := q2
   have q1' := q1
   rw [e9, ei] at q1'
   have q5 := AVal.ptr.inj (Option.some.inj q1')
   rw [← q5.1, ← q5.2] at q2' q3
   simp only [q2', qv, true_and, and_true, exists_eq_left, exists_eq_left', zd, qU, iv, AVal.int.injEq, q3]
   exact hG _ rfl _ _ (by omega) (by rw [hdl]; exact q4)
end
end Go.Vs
end
section
namespace Go.Vs
open Go.Proofs
variable [GTab]
theorem qao {b n : Nat} {cs : List AVal} {H : Heap} (h : cs.length = n) : kZ b n cs H = newB b cs H := by subst h; rfl
structure FnAt (Γ : GH) (v : AVal) (f : Int) (n : Nat) : Prop where
 nn : 0 ≤ f
 ex : ∃ b off len e full cs lv, v = .slice b off len e full ∧ f < len ∧ Γ b = some cs ∧ cs[off + f.toNat * 5 + 3]? = some lv ∧ lenS lv = some n
theorem KU (n : Nat) : (repL [uv 0] n).length = n := by rw [zM]; simp
theorem KF {Γ : GH} {own : Nat → Nat} {role : Nat} {H : Heap} {nx n : Nat} {p0 p1 p3 p4 args : AVal} {p2 f : Int} {l : List Int} {K : EndP} (hk : HOK Γ H nx) (hf : FnAt Γ p1 f n) (hn : n < 1000000) (hlf : ∀ b off len e full, p1 = .slice b off len e full → len < 1000000)
  (ha : RowV Γ own role uv args l) (hl : l.length ≤ n) (hp : qD p0 = true ∧ qD p1 = true ∧ qD p3 = true ∧ qD p4 = true)
  (hK : ∀ Γ' H' nx', nx ≤ nx' → HOK Γ' H' nx' → Γ' (nx + 2) = some (uvs (l ++ List.replicate (n - l.length) 0)) → (∀ c ds, Γ c = some ds → Γ' c = some ds) → (∀ c ds, Γ' c = some ds → nx ≤ c ∨ Γ c = some ds) → K (.ret (.agg [iv f, iv 0, .slice (nx + 2) 0 n 1 true, .nilSlice])) H' nx') :
  TriP Tryz.prog 48 [.agg [p0, p1, iv p2, p3, p4], iv f, args] H nx K := by
 refine TriP.of_body qy ?_
 rw [WV]
 unfold Yi
 obtain ⟨b, off, len, e, full, cs, lv, rfl, hlt, hb, hcs, hlv⟩ := hf.ex
 have hln := hlf _ _ _ _ _ rfl
 have k0 := hk.new (b := nx) (nx' := nx + 1) (by omega) (by omega) [p0, .slice b off len e full, iv p2, p3, p4]
 have k1 := k0.new (b := nx + 1) (nx' := nx + 2) (by omega) (by omega) [iv 0, iv 0, .nilSlice, .nilSlice]
 have k2 := k1.new (b := nx + 2) (nx' := nx + 3) (by omega) (by omega) (repL [uv 0] n)
 have k3 := k2.new (b := nx + 3) (nx' := nx + 4) (by omega) (by omega) [iv 0, iv 0, .nilSlice, .nilSlice]
 have hnb : ∀ c ds, Γ c = some ds → c < nx := fun c ds ec => hk.lt ec
 have e1 : ld1 (newB (nx + 1) [iv 0, iv 0, .nilSlice, .nilSlice] (newB nx [p0, .slice b off len e full, iv p2, p3, p4] H)) (.ptr nx 1) = some (.slice b off len e full) := by
  rw [k1.ld1 (by rw [qf (by omega), qd])]; rfl
 have e2 := zG (b := b) (off := off) (len := len) (e := e) (n := f.toNat) (esz := 5) (full := full) (by have := hf.nn; omega)
 have e3 : ld1 (newB (nx + 1) [iv 0, iv 0, .nilSlice, .nilSlice] (newB nx [p0, .slice b off len e full, iv p2, p3, p4] H)) (.ptr b (off + f.toNat * 5 + 3)) = some lv := by
  have := hnb _ _ hb
  rw [k1.ld1 (by rw [qf (by omega), qf (by omega)]; exact hb)]; exact hcs
 have hnn := hf.nn
 simp only [kQ, qv, true_and, and_true, exists_eq_left, exists_eq_left', exists_and_left]
 refine qE (by omega) ?_
 simp only [e1, wF, qv, exists_eq_left', Int.ofNat_eq_natCast]
 refine qE (by omega) ?_
 simp only [e2, qU, e3, hlv, hnn, qv, exists_eq_left', true_and, Int.toNat_natCast, Int.natCast_nonneg, Nat.mul_one, kQ]
 refine ⟨by omega, by omega, by omega, ?_⟩
 rw [qao (KU n)]
 obtain ⟨H4, q1, q2⟩ := k3.st (off := 0) (vs := [iv f, iv 0, .slice (nx + 2) 0 n 1 true, .nilSlice]) (qd _ _ _) (by simp) rfl
 have e4 : ld1 H4 (.ptr (nx + 3) 2) = some (.slice (nx + 2) 0 n 1 true) := by rw [q2.ld1 (qd _ _ _)]; rfl
 have hz : (uvs (List.replicate n 0)).length = n := by simp [uvs]
 have e5 : gup (nx + 3) (some (qZ [iv 0, iv 0, .nilSlice, .nilSlice] 0 [iv f, iv 0, .slice (nx + 2) 0 n 1 true, .nilSlice])) (gup (nx + 3) (some [iv 0, iv 0, .nilSlice, .nilSlice]) (gup (nx + 2) (some (repL [uv 0] n)) (gup (nx + 1) (some [iv 0, iv 0, .nilSlice, .nilSlice]) (gup nx (some [p0, .slice b off len e full, iv p2, p3, p4]) Γ)))) (nx + 2) = some (repL [uv 0] n) := by
  rw [qf (by omega), qf (by omega), qd]
 have hcp : ∃ k H5, copC H4 1 (.slice (nx + 2) 0 n 1 true) args = some (k, H5) ∧ ∃ Γ5, HOK Γ5 H5 (nx + 4) ∧ Γ5 (nx + 2) = some (uvs (l ++ List.replicate (n - l.length) 0)) ∧ Γ5 (nx + 3) = some [iv f, iv 0, .slice (nx + 2) 0 n 1 true, .nilSlice] ∧ Γ5 (nx + 1) = some [iv 0, iv 0, .nilSlice, .nilSlice] ∧ (∀ c ds, Γ c = some ds → Γ5 c = some ds) ∧ ∀ c ds, Γ5 c = some ds → nx ≤ c ∨ Γ c = some ds := by
  rcases ha with ⟨rfl, rfl⟩ | ⟨ab, acs, ⟨af, rfl⟩, _, ab2, ab3⟩
  ·refine ⟨0, H4, rfl, _, q2, ?_, ?_, ?_, fun c ds ec => ?_, fun c ds ec => ?_⟩
   ·rw [e5]; simp [uvs, Ke]
   ·rw [qd]; rfl
   ·rw [qf (by omega), qf (by omega), qf (by omega), qd]
   ·have := hnb _ _ ec
    rw [qf (by omega), qf (by omega), qf (by omega), qf (by omega), qf (by omega)]; exact ec
   ·rcases Nat.lt_or_ge c nx with hlt | hge
    ·rw [qf (by omega), qf (by omega), qf (by omega), qf (by omega), qf (by omega)] at ec; exact .inr ec
    ·exact .inl hge
  ·have hal := jP ab3 (by simp)
   have h3 := hnb _ _ ab2
   obtain ⟨H5, r1, r2⟩ := q2.copy (b := nx + 2) (b2 := ab) (off := 0) (off2 := 0) (len := n) (len2 := l.length) (esz := 1) (e1 := 1) (e2 := 1) (f1 := true) (f2 := af) e5 (by rw [qf (by omega), qf (by omega), qf (by omega), qf (by omega), qf (by omega)]; exact ab2) hl (by rw [KU]; omega) (by omega)
    (by rw [List.drop_zero, Nat.mul_one, ab3]; exact kV (f := uv) (fun _ => rfl) _)
   refine ⟨_, H5, r1, _, r2, ?_, ?_, ?_, fun c ds ec => ?_, fun c ds ec => ?_⟩
   ·rw [qd, List.drop_zero, Nat.mul_one, ab3, Ke]
    simp [qZ, uvs]
   ·rw [qf (by omega), qd]; rfl
   ·rw [qf (by omega), qf (by omega), qf (by omega), qf (by omega), qd]
   ·have := hnb _ _ ec
    rw [qf (by omega), qf (by omega), qf (by omega), qf (by omega), qf (by omega), qf (by omega)]; exact ec
   ·rcases Nat.lt_or_ge c nx with hlt | hge
    ·rw [qf (by omega), qf (by omega), qf (by omega), qf (by omega), qf (by omega), qf (by omega)] at ec; exact .inr ec
    ·exact .inl hge
 obtain ⟨k, H5, c1, Γ5, c2, c3, c4, c5, c6, c7⟩ := hcp
 have e6 : ldN H5 4 (.ptr (nx + 3) 0) = some (.agg [iv f, iv 0, .slice (nx + 2) 0 n 1 true, .nilSlice]) := by rw [c2.ldN c4 (by simp)]; rfl
 obtain ⟨H6, s1, s2⟩ := c2.st (off := 0) (vs := [iv f, iv 0, .slice (nx + 2) 0 n 1 true, .nilSlice]) c5 (by simp) rfl
 have e7 : ldN H6 4 (.ptr (nx + 1) 0) = some (.agg [iv f, iv 0, .slice (nx + 2) 0 n 1 true, .nilSlice]) := by rw [s2.ldN (qd _ _ _) (by simp [qZ])]; rfl
 refine ⟨_, q1, _, e4, _, _, c1, _, _, _, _, e6, _, s1, _, _, _, _, e7, ?_⟩
 refine hK _ _ _ (by omega) s2 (by rw [qf (by omega)]; exact c3) (fun c ds ec => ?_) fun c ds ec => ?_
 ·have := hnb _ _ ec
  rw [qf (by omega)]; exact c6 c ds ec
 ·rcases Nat.lt_or_ge c nx with hlt | hge
  ·rw [qf (by omega)] at ec; exact c7 c ds ec
  ·exact .inl hge
end Go.Vs
end
section
namespace Go.Vs
open Go.Proofs
variable [GTab]
theorem FmsV.snoc {Γ : GH} {own : Nat → Nat} {g : Nat × AVal} {f : Fm} : ∀ {i : Nat} {gs : List (Nat × AVal)} {fs : List Fm}, FmsV Γ own i gs fs → FmV Γ own (i + fs.length) g f →
  FmsV Γ own i (gs ++ [g]) (fs ++ [f]) ∧ qF (gs ++ [g]) (fs ++ [f]) = qF gs fs ++ qI g f
 | _, _, _, .nil i, h => ⟨.cons h (.nil _), by simp [qF]⟩
 | i, _, _, @FmsV.cons _ _ _ g0 f0 gs fs h t, hf => by
  have hf' : FmV Γ own (i + 1 + fs.length) g f := by
   have e : i + (f0 :: fs).length = i + 1 + fs.length := by simp; omega
   rw [← e]; exact hf
  obtain ⟨a, b⟩ := FmsV.snoc (i := i + 1) t hf'
  refine ⟨.cons h a, ?_⟩
  show qI g0 f0 ++ qF (gs ++ [g]) (fs ++ [f]) = qI g0 f0 ++ qF gs fs ++ qI g f
  rw [b, List.append_assoc]
theorem MsG.appFrame {Γ : GH} {own : Nat → Nat} {Γ0 : GH} {pg : Pg} {m : Nat} {G : Gh} {S : Mst} {H : Heap} {nx : Nat} {cs : List AVal} (hk : HOK Γ H nx) (g : MsG Γ own Γ0 pg m G S) (hc : cs.length = 4) (hl : S.low.length < 1000) :
  ∃ H' Γ' , appC H nx 4 64 (.slice pg.fb 0 (S.low.length + 1) 4 G.full) 1 cs = some (.slice nx 0 (S.low.length + 2) 4 false, H', nx + 1) ∧ HOK Γ' H' (nx + 1) ∧
   Γ' nx = some (qF G.gl S.low ++ qI G.gt S.top ++ cs) ∧ ∀ c ds, c ≠ pg.fb → Γ c = some ds → Γ' c = some ds := by
 have hlen := g.lowV.len
 have ht : (qF G.gl S.low ++ (qI G.gt S.top ++ G.R)).take ((S.low.length + 1) * 4) = qF G.gl S.low ++ qI G.gt S.top := by
  rw [← List.append_assoc]
  exact List.take_left' (by rw [List.length_append, hlen]; simp [qI]; omega)
 cases hf : G.full with
 | true =>
  obtain ⟨H', q1, q2⟩ := hk.appFull (off := 0) (len := S.low.length + 1) (esz := 4) (ebytes := 64) (k := 1) (new := cs) g.ef (by rw [List.length_append, List.length_append, hlen]; simp [qI]; omega) (by omega) (by omega) (by omega) (by omega)
  refine ⟨H', _, q1, q2, by rw [qd, List.drop_zero, ht], fun c ds hne e => ?_⟩
  have := hk.lt e
  rw [qf (by omega)]; exact e
 | false =>
  obtain ⟨H', q1, q2⟩ := hk.app (len := S.low.length + 1) (esz := 4) (ebytes := 64) (k := 1) (new := cs) g.ef (by rw [List.length_append, List.length_append, hlen]; simp [qI]; omega) (by omega) (by omega) (by omega) (by omega)
  refine ⟨H', _, q1, q2, by rw [qd, ht], fun c ds hne e => ?_⟩
  have := hk.lt e
  rw [qf (by omega), qf hne]; exact e
def qdd (call : qk) (lp : Nat → ql) (N : KC) (X : Nat → KC) (R : KC) (Pn : List (AVal × Bool) → KC) (m : Nat) (x : Nat) (n8 : Int) (k : Int) (v : AVal) (H : Heap) (nx : Nat) : Prop :=
 ifB (decide (0 ≤ k)) (call 92 [AVal.ptr m 0, iv k] H nx fun e0 H1 i2 => qh e0 (fun v3 => ∃ n4 : Int, v3 = uv n4 ∧ true = true ∧ ∃ H5, H5 = newB i2 [AVal.int
 IntKind.u64 n4] H1 ∧ ∃ i6 l7, aSrc 1 H5 (AVal.slice i2 0 1 1 true) = some (i6, l7) ∧ qq l7 = true ∧ ∃ v8 H9 i10, appC H5 (i2 + 1) 1 8 v i6 l7 = some (v8, H9, i10) ∧ N (envL
 AVal.und [(6, iv (IntKind.i64.wrap (k - 1))), (30, iv (IntKind.i64.wrap (k - 1))), (29, iv k), (5, v8), (36, v8), (35, AVal.slice i2 0 1 1 true), (34, uv n4), (33,
 iv k), (32, AVal.ptr m 0), (31, v), (28, AVal.bool true), (28, AVal.bool (decide (0 ≤ k))), (27, iv k), (6, iv k), (5, v), (4, iv n8), (3, AVal.ptr x 0), (0, AVal.ptr m 0)]) H9 i10
 [] none) fun l11 => Pn l11 (envL AVal.und [(33, iv k), (32, AVal.ptr m 0), (31, v), (28, AVal.bool true), (28, AVal.bool (decide (0 ≤ k))), (27, iv k), (6, iv k), (5, v), (4, iv
 n8), (3, AVal.ptr x 0), (0, AVal.ptr m 0)]) H1 i2 [] none) (X 1 (envL AVal.und [(28, AVal.bool false), (28, AVal.bool (decide (0 ≤ k))), (27, iv k), (6, iv k), (5, v), (4, iv n8),
 (3, AVal.ptr x 0), (0, AVal.ptr m 0)]) H nx [] none)
theorem Yf (call : qk) (lp : Nat → ql) (N : KC) (X : Nat → KC) (R : KC) (Pn : List (AVal × Bool) → KC) (m : Nat) (x : Nat) (n8 : Int) (k : Int) (v : AVal) (H : Heap) (nx : Nat) : vK Tryz.prog call (lp 56) 56 (z9 (qW Tryz.prog 51) [1, 1, 1, 1, 0, 1, 0, 0]) (envL .und [(6, iv k), (5, v), (4, iv n8), (3, .ptr x 0), (0, .ptr m 0)]) H nx [] none (yG N X R Pn) = qdd call lp N X R Pn m x n8 k v H nx := by kernel_rfl
def qem (call : qk) (lp : Nat → ql) (lv : qi) (lvc : qj) (m : Nat) (x : Nat) (n8 : Int) (v : AVal) (H : Heap) (nx : Nat) (K : EndP) : Prop :=
 ∃ v0, some (AVal.ptr x 2) = some v0 ∧ ∃ n1 : Int, ld1 H v0 = some (iv n1) ∧ call 93 [AVal.ptr m 0, iv n1] H nx fun e2 H3 i4 => qh e2 (fun v5 => true = true ∧ ∃ v6, some (AVal.ptr
 m 6) = some v6 ∧ ∃ v7, ld1 H3 v6 = some v7 ∧ true = true ∧ ∃ v8, some (AVal.ptr m 0) = some v8 ∧ ∃ v9 v10 n11 v12 v13, ldN H3 5 v8 = some (AVal.agg [v9, v10, iv n11, v12, v13]) ∧
 ((∃ v14, ld1 H3 v6 = some v14 ∧ v14 = v7) ∧ (∃ v15 v16 n17 v18 v19, ldN H3 5 v8 = some (AVal.agg [v15, v16, iv n17, v18, v19]) ∧ AVal.agg [v15, v16, iv n17, v18, v19] = AVal.agg
 [v9, v10, iv n11, v12, v13]) ∧ True) ∧ call 48 [AVal.agg [v9, v10, iv n11, v12, v13], iv n8, v] H3 (i4 + 15) fun e20 H21 i22 => qh e20 (fun v23 => ∃ n24 n25 v26 v27, v23 =
 AVal.agg [iv n24, iv n25, v26, v27] ∧ ∃ H28, H28 = newB (i4 + 12) [iv n24, iv n25, v26, v27] H21 ∧ ((∃ v29, ld1 H28 v6 = some v29 ∧ v29 = v7) ∧ True) ∧ ∃ i30 l31, aSrc 4 H28
 (AVal.slice (i4 + 12) 0 1 4 true) = some (i30, l31) ∧ qq l31 = true ∧ ∃ v32 H33 i34, appC H28 i22 4 64 v7 i30 l31 = some (v32, H33, i34) ∧ True ∧ call 30 [AVal.ptr m 0, v32]
 H33 i34 fun e35 H36 i37 => qh e35 (fun v38 => True ∧ K (AEnd.ret (AVal.tuple [])) H36 i37) fun l39 => K (AEnd.pan l39) H36 i37) fun l40 => K (AEnd.pan l40) H21 i22) fun l41 => K
 (AEnd.pan l41) H3 i4
theorem qbb (call : qk) (lp : Nat → ql) (lv : qi) (lvc : qj) (m : Nat) (x : Nat) (n8 : Int) (v : AVal) (H : Heap) (nx : Nat) (K : EndP) : z7 Tryz.prog call (lp 56) 56 (qW Tryz.prog 51) [1, 1, 1, 1, 0, 1, 0] (endK Tryz.prog lv lvc K (kO Tryz.prog 51)) (.exit 1) (envL .und [(5, v), (4, iv n8), (3, .ptr x 0), (0, .ptr m 0)]) H nx [] none = qem call lp lv lvc m x n8 v H nx K := by kernel_rfl
def MSR (Γ0 : GH) (pg : Pg) (m : Nat) (S : Mst) (v : AVal) (l : List Int) (H : Heap) (nx : Nat) : Prop := ∃ Γ own G, HOK Γ H nx ∧ MsG Γ own Γ0 pg m G S ∧ RowV Γ own 1000000 uv v l
def jB (st : List Int) (B j : Nat) : List Int := (List.range j).map fun i => pk st (B - 1 - i)
theorem MsG.keepRow {Γ Γ1 : GH} {own own1 : Nat → Nat} {Γ0 : GH} {pg : Pg} {m : Nat} {G : Gh} {S : Mst} (hl : S.low.length < 1000) (g : MsG Γ own Γ0 pg m G S) (kp : Keep Γ own Γ1 own1 (fun r => r = 1000000)) : MsG Γ1 own1 Γ0 pg m G S where
 ro := fun b cs hb => by
  obtain ⟨a1, a2⟩ := g.ro b cs hb
  obtain ⟨a3, a4⟩ := kp b cs a1 (by rw [a2]; omega)
  exact ⟨a3, by rw [a4, a2]⟩
 om := ((kp _ _ g.em (by rw [g.om]; omega)).2).trans g.om
 em := (kp _ _ g.em (by rw [g.om]; omega)).1
 of := ((kp _ _ g.ef (by rw [g.of]; omega)).2).trans g.of
 ef := (kp _ _ g.ef (by rw [g.of]; omega)).1
 lowV := g.lowV.keep kp fun j _ h => ⟨by omega, by omega⟩
 topV := g.topV.keep kp (by omega) (by omega)
 wdV := g.wdV.keep kp fun r _ _ _ => by omega
theorem qcc {Γ0 : GH} {pg : Pg} {m x B : Nat} {n8 : Int} {S : Mst} {H : Heap} {nx : Nat} {env : Env} {C : KP} (hB : B < 1000000) (hlen : S.top.st.length < 1000000) (hl : S.low.length < 1000) (h : MSR Γ0 pg m S .nilSlice [] H nx)
  (hle : ze (envL .und [(6, iv ((B : Int) - 1)), (5, .nilSlice), (4, iv n8), (3, .ptr x 0), (0, .ptr m 0)]) env)
  (hC : ∀ v H' nx', nx ≤ nx' → MSR Γ0 pg m S v (jB S.top.st B B) H' nx' → C (.exit 1) (envL .und [(5, v), (4, iv n8), (3, .ptr x 0), (0, .ptr m 0)]) H' nx' [] none) :
  LpP Tryz.prog 56 (z9 (qW Tryz.prog 51) [1, 1, 1, 1, 0, 1, 0, 0]) env H nx [] none C := by
 refine yO qy (X := Nat × AVal) (Y := AVal) (fun p => envL .und [(6, iv ((B : Int) - 1 - p.1)), (5, p.2), (4, iv n8), (3, .ptr x 0), (0, .ptr m 0)]) (fun v => envL .und [(5, v), (4, iv n8), (3, .ptr x 0), (0, .ptr m 0)])
  (fun μ p H' nx' => μ = B - p.1 ∧ p.1 ≤ B ∧ nx ≤ nx' ∧ MSR Γ0 pg m S p.2 (jB S.top.st B p.1) H' nx')
  (fun id v H' nx' => id = 1 ∧ nx ≤ nx' ∧ MSR Γ0 pg m S v (jB S.top.st B B) H' nx') B (0, .nilSlice) ?_ ⟨rfl, Nat.zero_le _, Nat.le_refl _, h⟩ ?_ ?_
 ·have e : ((B : Int) - 1 - ((0 : Nat) : Int)) = (B : Int) - 1 := by omega
  show ze (envL .und [(6, iv ((B : Int) - 1 - ((0 : Nat) : Int))), (5, .nilSlice), (4, iv n8), (3, .ptr x 0), (0, .ptr m 0)]) env
  rw [e]; exact hle
 ·rintro μ ⟨j, v⟩ H1 nx1 ⟨rfl, hj, hnx, hi⟩
  dsimp only at hj hi ⊢
  rw [Yf]
  unfold qdd
  rw [qK]; simp only [decide_eq_true_eq, decide_eq_false_iff_not]
  refine ⟨fun h0 => ?_, fun h0 => ?_⟩
  ·have ek : ((B : Int) - 1 - (j : Int)) = ((B - 1 - j : Nat) : Int) := by omega
   obtain ⟨Γ, own, G, hk, g, hr⟩ := hi
   rw [ek]
   refine kH (k := B - 1 - j) hlen (by omega) ⟨Γ, own, G, hk, g⟩ fun x2 l2 => ?_
   rw [qc]
   refine ⟨_, rfl, ?_⟩
   have hk2 := hk.more l2
   have hk3 := hk2.new (b := x2) (nx' := x2 + 1) (by omega) (by omega) [uv (pk S.top.st (B - 1 - j))]
   have kp3 : ∀ ex, Keep Γ own (gup x2 (some [uv (pk S.top.st (B - 1 - j))]) Γ) own ex := fun ex => Keep.new hk2 (by omega) _
   have e5 : aSrc 1 (newB x2 [uv (pk S.top.st (B - 1 - j))] H1) (.slice x2 0 1 1 true) = some (1, [uv (pk S.top.st (B - 1 - j))]) := hk3.src (qd _ _ _) (by simp)
   obtain ⟨H4, v4, Γ4, own4, nx4, p1, p2, p3, p4, p5, p6⟩ := RowV.pushes (eb := 8) hk3 (hr.keep (kp3 (fun _ => False)) id) [pk S.top.st (B - 1 - j)] (by simp [jB]; omega) (by omega)
   have p1' : appC (newB x2 [uv (pk S.top.st (B - 1 - j))] H1) (x2 + 1) 1 8 v 1 [uv (pk S.top.st (B - 1 - j))] = some (v4, H4, nx4) := p1
   have ew : IntKind.i64.wrap (((B - 1 - j : Nat) : Int) - 1) = (B : Int) - 1 - ((j + 1 : Nat) : Int) := by rw [zm (by omega) (by omega)]; omega
   refine ⟨by first | rfl | trivial, _, rfl, _, _, e5, by first | rfl | trivial, _, _, _, p1', by first | rfl | trivial, B - (j + 1), (j + 1, v4), by omega, ze.of_list ⟨?_, rfl, rfl, rfl, rfl, trivial⟩, rfl, by show j + 1 ≤ B; omega, by omega, ?_⟩
   ·show AVal.int .i64 _ = _
    rw [ew]
   ·refine ⟨Γ4, own4, G, p4, g.keepRow hl ((kp3 _).trans p6), ?_⟩
    have : jB S.top.st B (j + 1) = jB S.top.st B j ++ [pk S.top.st (B - 1 - j)] := by simp [jB, List.range_succ]
    show RowV Γ4 own4 1000000 uv v4 (jB S.top.st B (j + 1))
    rw [this]; exact p5
  ·have : j = B := by omega
   subst this
   exact ⟨by first | rfl | trivial, v, ze.of_list ⟨rfl, rfl, rfl, rfl, trivial⟩, by first | rfl | trivial, hnx, hi⟩
 ·rintro id v H1 nx1 ⟨rfl, hnx, ho⟩
  exact hC _ _ _ hnx ho
theorem Xe {Γ0 : GH} {pg : Pg} {m : Nat} {S : Mst} {a b : Int} {H : Heap} {nx : Nat} {K : EndP} (h : MS Γ0 pg m S H nx) (hK : ∀ H' nx', nx ≤ nx' → MS Γ0 pg m S H' nx' → K (.ret (iv a)) H' nx') :
  TriP Tryz.prog 91 [.ptr m 0, .agg [iv 36, iv a, iv b]] H nx K := by
 refine TriP.of_body qy ?_
 rw [VH]
 unfold WK
 have h1 := h.temp (b := nx) (nx' := nx + 1) (cs := [iv 36, iv a, iv b]) (Nat.le_refl _) (by omega)
 have e0 : ld1 (newB nx [iv 36, iv a, iv b] H) (.ptr nx 0) = some (iv 36) := by rw [h1.ro (qd _ _ _)]; rfl
 have e1 : ld1 (newB nx [iv 36, iv a, iv b] H) (.ptr nx 1) = some (iv a) := by rw [h1.ro (qd _ _ _)]; rfl
 have un := h1.untemp h (Nat.le_refl _)
 refine ⟨_, rfl, _, rfl, _, e0, jz rfl ⟨_, rfl, _, e1, ?_⟩⟩
 exact hK _ _ (by omega) un
theorem MSR.fix {Γ0 : GH} {pg : Pg} {m : Nat} {S : Mst} {v : AVal} {l : List Int} {H : Heap} {nx : Nat} (hl : S.low.length < 1000) (h : MSR Γ0 pg m S v l H nx) :
  ∃ Γ2, (∀ c ds, Γ0 c = some ds → Γ2 c = some ds) ∧ MS Γ2 pg m S H nx ∧ ((v = .nilSlice ∧ l = []) ∨ ∃ b cs full, v = .slice b 0 l.length 1 full ∧ Γ2 b = some cs ∧ cs.take l.length = l.map uv) := by
 obtain ⟨Γ, own, G, hk, g, hr⟩ := h
 rcases hr with ⟨rfl, rfl⟩ | ⟨b, cs, ⟨full, rfl⟩, h1, h2, h3⟩
 ·exact ⟨Γ0, fun _ _ e => e, ⟨Γ, own, G, hk, g⟩, .inl ⟨rfl, rfl⟩⟩
 ·have hne : ∀ c ds, Γ0 c = some ds → c ≠ b := fun c ds e hb => by
   have := (g.ro c ds e).2
   rw [hb, h1] at this; cases this
  have kp : Keep Γ own Γ (fun c => if c = b then 9 else own c) (fun r => r = 1000000) := fun c ds e hx => by
   have : c ≠ b := fun hb => hx (by rw [hb, h1])
   exact ⟨e, by simp [this]⟩
  have g2 := g.keepRow hl kp
  refine ⟨gup b (some cs) Γ0, fun c ds e => by rw [qf (hne c ds e)]; exact e, ⟨Γ, _, G, hk, ⟨fun c ds e => ?_, g2.om, g2.em, g2.of, g2.ef, g2.lowV, g2.topV, g2.wdV⟩⟩, .inr ⟨b, cs, full, rfl, qd _ _ _, h3⟩⟩
  by_cases hc : c = b
  ·subst hc
   rw [qd] at e; cases e
   exact ⟨h2, by simp⟩
  ·rw [qf hc] at e
   exact g2.ro c ds e
theorem HOK.aside {Γ : GH} {H : Heap} {nx b : Nat} {cs : List AVal} (h : HOK Γ H nx) (hb : Γ b = none) : HOK Γ (newB b cs H) nx := by
 intro c ds e
 obtain ⟨h1, olds, ⟨ct, h2, h3⟩, h4⟩ := h c ds e
 exact ⟨h1, olds, ⟨ct, by rw [jl (fun x => by rw [x, hb] at e; cases e)]; exact h2, h3⟩, h4⟩
structure PgOK (pg : Pg) : Prop where
 cells : qD pg.types = true ∧ qD pg.funcs = true ∧ qD pg.texts = true ∧ qD pg.nums = true
 small : ∀ b off len e full, pg.funcs = .slice b off len e full → len < 1000000
def Mst.callTo (S : Mst) (n : Nat) (a : Int) (B : Nat) : Mst := { S with low := S.low ++ [{ S.top with st := jd B S.top.st }], top := ⟨a, 0, jB S.top.st B B ++ List.replicate (n - B) 0, []⟩ }
theorem yX (st : List Int) (B j : Nat) : (jB st B j).length = j := by simp [jB]
theorem FnAt.mono {Γ Γ' : GH} {v : AVal} {f : Int} {n : Nat} (h : FnAt Γ v f n) (hs : ∀ c ds, Γ c = some ds → Γ' c = some ds) : FnAt Γ' v f n := by
 obtain ⟨b, o, l, e, fl, cs, lv, a1, a2, a3, a4, a5⟩ := h.ex
 exact ⟨h.nn, b, o, l, e, fl, cs, lv, a1, a2, hs _ _ a3, a4, a5⟩
def Pg.at (pg : Pg) (fb : Nat) : Pg := { pg with fb := fb }
theorem MsG.call {Γ Γ8 Γ9 : GH} {own : Nat → Nat} {Γ0 : GH} {pg : Pg} {m lb fb : Nat} {G : Gh} {S : Mst} {n : Nat} {a : Int} {ls : List Int} (hl : S.low.length < 900) (g : MsG Γ own Γ0 pg m G S) (h8 : ∀ c ds, Γ c = some ds → Γ8 c = some ds) (hlb : Γ lb = none) (hfb : Γ8 fb = none) (elb : Γ8 lb = some (uvs ls))
  (h9 : ∀ c ds, c ≠ pg.fb → Γ8 c = some ds → Γ9 c = some ds) (hlf : lb ≠ pg.fb)
  (efb : Γ9 fb = some (qF G.gl S.low ++ qI G.gt S.top ++ [iv a, iv 0, .slice lb 0 ls.length 1 true, .nilSlice])) :
  ∃ own' G', MsG (gup m (some [pg.types, pg.funcs, iv pg.main, pg.texts, pg.nums, .ptr pg.w 0, .slice fb 0 (S.low.length + 2) 4 false, iv S.state, iv S.trap, zf fb (S.low.length + 2)]) Γ9) own' Γ0 (pg.at fb) m G'
   { S with low := S.low ++ [S.top], top := ⟨a, 0, ls, []⟩ } := by
 have hm8 : ∀ c ds, Γ c = some ds → c ≠ fb := fun c ds e hx => by rw [hx] at e; rw [h8 _ _ e] at hfb; cases hfb
 have hml : ∀ c ds, Γ c = some ds → c ≠ lb := fun c ds e hx => by rw [hx] at e; rw [e] at hlb; cases hlb
 have hfl : fb ≠ lb := fun hx => by rw [hx, elb] at hfb; cases hfb
 have hmfb : m ≠ fb := hm8 _ _ g.em
 have hmlb : m ≠ lb := hml _ _ g.em
 have hfbm : pg.fb ≠ m := fun hx => by have := g.of; rw [hx, g.om] at this; cases this
 let own' : Nat → Nat := fun c => if c = fb then 4 else if c = lb then 10 + 2 * (S.low.length + 1) else if c = pg.fb then 1000001 else own c
 have kp : Keep Γ own (gup m (some [pg.types, pg.funcs, iv pg.main, pg.texts, pg.nums, .ptr pg.w 0, .slice fb 0 (S.low.length + 2) 4 false, iv S.state, iv S.trap, zf fb (S.low.length + 2)]) Γ9) own' (fun r => r = 1 ∨ r = 4) := by
  intro c ds e hx
  have c1 : c ≠ m := fun h => hx (.inl (by rw [h, g.om]))
  have c2 : c ≠ pg.fb := fun h => hx (.inr (by rw [h, g.of]))
  have c3 := hm8 _ _ e
  have c4 := hml _ _ e
  refine ⟨by rw [qf c1]; exact h9 _ _ c2 (h8 _ _ e), ?_⟩
  show (if c = fb then 4 else if c = lb then _ else if c = pg.fb then _ else own c) = own c
  rw [if_neg c3, if_neg c4, if_neg c2]
 have hlen := g.lowV.len
 have htop : FmV (gup m (some [pg.types, pg.funcs, iv pg.main, pg.texts, pg.nums, .ptr pg.w 0, .slice fb 0 (S.low.length + 2) 4 false, iv S.state, iv S.trap, zf fb (S.low.length + 2)]) Γ9) own' (0 + S.low.length) G.gt S.top := by
  rw [Nat.zero_add]
  exact g.topV.keep kp (by omega) (by omega)
 obtain ⟨s1, s2⟩ := (g.lowV.keep kp fun j _ _ => ⟨by omega, by omega⟩).snoc htop
 refine ⟨own', ⟨G.hp, false, G.tv, G.wv, G.litv, G.lv, G.inb, G.inf, G.gl ++ [G.gt], (lb, .nilSlice), []⟩, ?_⟩
 have ha : ({ G with full := false, gl := G.gl ++ [G.gt], gt := (lb, .nilSlice), R := [] } : Gh).a { S with low := S.low ++ [S.top], top := ⟨a, 0, ls, []⟩ } = 4 * (S.low.length + 1) := by
  unfold Gh.a
  show (qF (G.gl ++ [G.gt]) (S.low ++ [S.top])).length = _
  rw [s2, List.length_append, hlen]
  simp [qI]; omega
 refine ⟨fun c ds e => ?_, ?_, ?_, ?_, ?_, s1, ?_, g.wdV.keep kp fun r _ _ h4 => by omega⟩
 ·obtain ⟨a1, a2⟩ := g.ro c ds e
  obtain ⟨a3, a4⟩ := kp c ds a1 (by rw [a2]; omega)
  exact ⟨a3, a4.trans a2⟩
 ·show (if m = fb then 4 else if m = lb then _ else if m = pg.fb then _ else own m) = 1
  rw [if_neg hmfb, if_neg hmlb, if_neg (fun h => hfbm h.symm)]; exact g.om
 ·rw [qd]
  have e1 : ((S.low ++ [S.top]).length + 1 : Nat) = S.low.length + 2 := by simp
  show some [pg.types, pg.funcs, iv pg.main, pg.texts, pg.nums, .ptr pg.w 0, .slice fb 0 (S.low.length + 2) 4 false, iv S.state, iv S.trap, zf fb (S.low.length + 2)] =
   some [pg.types, pg.funcs, iv pg.main, pg.texts, pg.nums, .ptr pg.w 0, .slice fb 0 ((S.low ++ [S.top]).length + 1) 4 false, iv S.state, iv S.trap, .ptr fb _]
  rw [e1, ha]
  unfold zf
  rw [if_neg (by omega)]
  have e2 : (S.low.length + 2 - 1) * 4 = 4 * (S.low.length + 1) := by omega
  rw [e2]
 ·show (if fb = fb then 4 else _) = 4
  rw [if_pos rfl]
 ·show gup m _ Γ9 fb = some (qF (G.gl ++ [G.gt]) (S.low ++ [S.top]) ++ (qI (lb, .nilSlice) ⟨a, 0, ls, []⟩ ++ []))
  rw [qf (fun h => hmfb h.symm), efb, s2, List.append_nil]
  rfl
 ·show FmV _ _ (S.low ++ [S.top]).length (lb, .nilSlice) ⟨a, 0, ls, []⟩
  refine ⟨?_, ?_, .inl ⟨rfl, rfl⟩⟩
  ·show (if lb = fb then 4 else if lb = lb then 10 + 2 * (S.low.length + 1) else _) = _
   rw [if_neg (fun h => hfl h.symm), if_pos rfl]
   simp
  ·show gup m _ Γ9 lb = _
   rw [qf (fun h => hmlb h.symm)]
   exact h9 _ _ hlf elb
theorem qd3 {Γ0 : GH} {pg : Pg} {m : Nat} {S : Mst} {a b : Int} {n : Nat} {H : Heap} {nx : Nat} {K : EndP} (hlen : S.top.st.length < 1000000) (hl : S.low.length + 1 < 30) (hp : PgOK pg) (hf : FnAt Γ0 pg.funcs a n) (hn : n < 1000000) (hb0 : 0 ≤ b) (hbn : b.toNat ≤ n) (h : MS Γ0 pg m S H nx)
  (hK : ∀ fb H' nx', nx ≤ nx' → MS Γ0 (pg.at fb) m (S.callTo n a b.toNat) H' nx' → K (.ret (.tuple [])) H' nx') : TriP Tryz.prog 51 [.ptr m 0, .agg [iv 36, iv a, iv b]] H nx K := by
 refine TriP.of_body qy ?_
 rw [qaq]
 unfold qe4
 obtain ⟨B, rfl⟩ : ∃ B : Nat, b = (B : Int) := ⟨b.toNat, by omega⟩
 rw [Int.toNat_natCast] at hbn hK
 have h1 := h.temp (b := nx) (nx' := nx + 1) (cs := [iv 36, iv a, iv B]) (Nat.le_refl _) (by omega)
 have eN : ldN (newB nx [iv 36, iv a, iv B] H) 3 (.ptr nx 0) = some (.agg [iv 36, iv a, iv B]) := by rw [h1.roN (qd _ _ _) (by simp)]; rfl
 refine ⟨_, rfl, _, _, _, eN, ?_⟩
 refine Xe h1 fun H5 i6 l6 h5 => ?_
 rw [qc]
 refine ⟨_, rfl, qE (by have := hf.nn; omega) ?_⟩
 have e2 : ld1 H5 (.ptr nx 2) = some (iv B) := by rw [h5.ro (qd _ _ _)]; rfl
 obtain ⟨Γ5, own5, G5, k5, g5⟩ := h5
 have e6 : ld1 H5 (.ptr m 6) = some (.slice pg.fb 0 (S.low.length + 1) 4 G5.full) := by rw [k5.ld1 g5.em]; rfl
 have hB : B < 1000000 := by omega
 have ew : IntKind.i64.wrap ((B : Int) - 1) = (B : Int) - 1 := zm (by omega) (by omega)
 refine ⟨rfl, _, rfl, _, e6, _, rfl, qE (by simp only [Int.ofNat_eq_natCast]; omega) ⟨_, rfl, _, e2, ?_⟩⟩
 refine qcc (B := B) (n8 := a) (x := nx) hB hlen (by omega) ⟨Γ5, own5, G5, k5, g5, .inl ⟨rfl, rfl⟩⟩ (ze.of_list ⟨?_, rfl, rfl, rfl, rfl, trivial⟩) fun v H6 x6 l7 h6 => ?_
 ·show AVal.int .i64 _ = _
  rw [ew]
 rw [qbb]
 unfold qem
 obtain ⟨Γ2, sub2, h2, hrow⟩ := h6.fix (by omega)
 have sub0 : ∀ c ds, Γ0 c = some ds → Γ2 c = some ds := fun c ds e => sub2 c ds (by have := h.lt0 e; rw [qf (by omega)]; exact e)
 have e62 : ld1 H6 (.ptr nx 2) = some (iv B) := by rw [h2.ro (sub2 _ _ (qd _ _ _))]; rfl
 refine ⟨_, rfl, _, e62, ?_⟩
 refine Zw hlen hB h2 fun H7 x7 l8 h7 => ?_
 rw [qc]
 obtain ⟨Γ7, own7, G7, k7, g7⟩ := h7
 have e76 : ld1 H7 (.ptr m 6) = some (.slice pg.fb 0 (S.low.length + 1) 4 G7.full) := by rw [k7.ld1 g7.em]; rfl
 have e7N : ldN H7 5 (.ptr m 0) = some (.agg [pg.types, pg.funcs, iv pg.main, pg.texts, pg.nums]) := by rw [k7.ldN g7.em (by simp)]; rfl
 refine ⟨rfl, _, rfl, _, e76, rfl, _, rfl, _, _, _, _, _, e7N, ⟨⟨_, e76, rfl⟩, ⟨_, _, _, _, _, e7N, rfl⟩, trivial⟩, ?_⟩
 have hf7 : FnAt Γ7 pg.funcs a n := hf.mono fun c ds e => (g7.ro _ _ (sub0 _ _ e)).1
 have hr7 : RowV Γ7 own7 9 uv v (jB S.top.st B B) := by
  rcases hrow with ⟨h1, h2⟩ | ⟨b, cs, full, h1, h2, h3⟩
  ·exact .inl ⟨h1, h2⟩
  ·obtain ⟨a1, a2⟩ := g7.ro _ _ h2
   exact .inr ⟨b, cs, ⟨full, h1⟩, a2, a1, h3⟩
 refine KF (Γ := Γ7) (own := own7) (role := 9) (l := jB S.top.st B B) (k7.more (by omega)) hf7 hn (fun b off len e full h => hp.small _ _ _ _ _ h) hr7 (by rw [yX]; exact hbn) ⟨hp.cells.1, hp.cells.2.1, hp.cells.2.2.1, hp.cells.2.2.2⟩ fun Γ8 H8 x8 l9 k8 e8 s8 r8 => ?_
 rw [qc]
 have hr : Γ8 (x7 + 12) = none := by
  cases e : Γ8 (x7 + 12) with
  | none => rfl
  | some ds =>
   rcases r8 _ _ e with h | h
   ·omega
   ·have := k7.lt h; omega
 have k28 := k8.aside (cs := [iv a, iv 0, .slice (x7 + 15 + 2) 0 n 1 true, .nilSlice]) hr
 have em8 := s8 _ _ g7.em
 have e28 : ld1 (newB (x7 + 12) [iv a, iv 0, .slice (x7 + 15 + 2) 0 n 1 true, .nilSlice] H8) (.ptr m 6) = some (.slice pg.fb 0 (S.low.length + 1) 4 G7.full) := by rw [k28.ld1 em8]; rfl
 have k29 : HOK (gup (x7 + 12) (some [iv a, iv 0, .slice (x7 + 15 + 2) 0 n 1 true, .nilSlice]) (fun _ => none)) (newB (x7 + 12) [iv a, iv 0, .slice (x7 + 15 + 2) 0 n 1 true, .nilSlice] H8) (x7 + 13) := HOK.new (nx := 0) (fun b cs e => by cases e) (by omega) (by omega) _
 have esrc : aSrc 4 (newB (x7 + 12) [iv a, iv 0, .slice (x7 + 15 + 2) 0 n 1 true, .nilSlice] H8) (.slice (x7 + 12) 0 1 4 true) = some (1, [iv a, iv 0, .slice (x7 + 15 + 2) 0 n 1 true, .nilSlice]) := by rw [k29.src (qd _ _ _) (by simp)]; rfl
 have hlbn : Γ7 (x7 + 15 + 2) = none := k7.non (by omega)
 have g8 : MsG Γ8 own7 (fun _ => none) pg m G7 (S.st (jd B S.top.st)) := by
  have := g7.keep (Γ1 := Γ8) (own1 := own7) fun c ds e _ => ⟨s8 _ _ e, rfl⟩
  exact ⟨(fun c ds e => by cases e), this.om, this.em, this.of, this.ef, this.lowV, this.topV, this.wdV⟩
 obtain ⟨H9, Γ9, p1, p2, p3, p4⟩ := g8.appFrame k28 (cs := [iv a, iv 0, .slice (x7 + 15 + 2) 0 n 1 true, .nilSlice]) rfl (by show S.low.length < 1000; omega)
 have hfbne : x7 + 15 + 2 ≠ pg.fb := fun hx => by have := k7.lt g7.ef; omega
 have hmfb : m ≠ pg.fb := fun hx => by have := g7.of; rw [← hx, g7.om] at this; cases this
 refine ⟨_, _, _, _, rfl, _, rfl, ⟨⟨_, e28, rfl⟩, trivial⟩, _, _, esrc, rfl, _, _, _, p1, trivial, ?_⟩
 refine VU p2 (p4 _ _ hmfb em8) (by show S.low.length + 2 < 1000000; omega) fun H10 k10 => ?_
 rw [qc]
 refine ⟨trivial, ?_⟩
 have hls : (jB S.top.st B B ++ List.replicate (n - B) 0).length = n := by rw [List.length_append, yX]; simp; omega
 have hal : (jB S.top.st B B).length = B := yX _ _ _
 rw [hal] at e8
 obtain ⟨own', G', gg⟩ := g7.call (Γ8 := Γ8) (Γ9 := Γ9) (lb := x7 + 15 + 2) (fb := x8) (a := a) (n := n) (ls := jB S.top.st B B ++ List.replicate (n - B) 0) (by show S.low.length < 900; omega) s8 hlbn (k8.non (Nat.le_refl _)) e8 p4 hfbne (by rw [hls]; exact p3)
 refine hK x8 H10 _ (by omega) ⟨_, own', G', k10, ?_⟩
 exact ⟨fun c ds e => gg.ro c ds (sub0 c ds e), gg.om, gg.em, gg.of, gg.ef, gg.lowV, gg.topV, gg.wdV⟩
end Go.Vs
end
section
namespace Go.Vs
open Go.Proofs
variable [GTab]
def vb (Γ0 : GH) (v : AVal) (f pc : Int) : Option (Int × Int × Int) :=
 match v with
 | .slice b off len _ _ => if 0 ≤ f ∧ f < len then (match Γ0 b with
  | some cs => match cs[off + f.toNat * 5 + 4]? with
   | some (.slice cb coff clen _ _) => if 0 ≤ pc ∧ pc < clen then (match Γ0 cb with
    | some ds => match (ds.drop (coff + pc.toNat * 3)).take 3 with
     | [.int .i64 op, .int .i64 a, .int .i64 b] => some (op, a, b)
     | _ => none
    | none => none) else none
   | _ => none
  | none => none) else none
 | _ => none
theorem XT {S S' : Mst} {op a t : Int} (h : S.part op a = some (S', t)) : S'.low = S.low := by
 unfold Mst.part at h
 dsimp only at h
 split at h
 ·split at h <;> cases h <;> rfl
 split at h
 ·split at h <;> cases h <;> rfl
 split at h
 ·split at h
  ·cases h; rfl
  ·split at h <;> cases h <;> rfl
 split at h
 ·split at h
  ·cases h; rfl
  ·split at h <;> cases h <;> rfl
 cases h
theorem qa1 (S : Mst) (a : Int) : (S.make a).1.low = S.low := by
 unfold Mst.make
 split
 ·rfl
 ·split <;> rfl
theorem YU {num : Int → List UInt8} {nums : Int → Option Int} {S S' : Mst} {op a t : Int} (h : S.does num nums op a = some (S', t)) : S'.low = S.low := by
 unfold Mst.does at h
 dsimp only at h
 by_cases h1 : op = 1
 ·rw [if_pos h1] at h
  cases hq : nums a with
  | none => rw [hq] at h; cases h
  | some n => rw [hq] at h; cases h; rfl
 rw [if_neg h1] at h
 by_cases h2 : op = 2
 ·rw [if_pos h2] at h; cases h; rfl
 rw [if_neg h2] at h
 by_cases h3 : op = 3
 ·rw [if_pos h3] at h; cases h; rfl
 rw [if_neg h3] at h
 by_cases h4 : op = 4
 ·rw [if_pos h4] at h; cases h; rfl
 rw [if_neg h4] at h
 by_cases h5 : op = 5
 ·rw [if_pos h5] at h
  split at h <;> cases h
  rfl
 rw [if_neg h5] at h
 by_cases h6 : op = 6
 ·rw [if_pos h6] at h
  split at h <;> cases h
  rfl
 rw [if_neg h6] at h
 by_cases h7 : op = 7
 ·rw [if_pos h7] at h; cases h; rfl
 rw [if_neg h7] at h
 by_cases h13 : op = 13
 ·rw [if_pos h13] at h; cases h; rfl
 rw [if_neg h13] at h
 by_cases h14 : op = 14
 ·rw [if_pos h14] at h; cases h; rfl
 rw [if_neg h14] at h
 by_cases hd : op = 11 ∨ op = 12
 ·rw [if_pos hd] at h
  split at h
  ·cases h; rfl
  ·split at h <;> cases h
   rfl
 rw [if_neg hd] at h
 by_cases hq : op = 28 ∨ op = 29 ∨ op = 30 ∨ op = 31
 ·rw [if_pos hq] at h; exact XT h
 rw [if_neg hq] at h
 by_cases h33 : op = 33
 ·rw [if_pos h33] at h; cases h; rfl
 rw [if_neg h33] at h
 by_cases h35 : op = 35
 ·rw [if_pos h35] at h
  have e : S.make a = (S', t) := by simpa using h
  have := qa1 S a
  rw [e] at this; exact this
 rw [if_neg h35] at h
 by_cases h39 : op = 39
 ·rw [if_pos h39] at h
  cases hs : Je num a (pk S.top.st 0) with
  | none => rw [hs] at h; cases h
  | some s => rw [hs] at h; cases h; rfl
 rw [if_neg h39] at h
 by_cases h40 : op = 40
 ·rw [if_pos h40] at h; cases h; rfl
 rw [if_neg h40] at h
 cases hs : yF op (pk S.top.st 1) (pk S.top.st 0) with
 | none => rw [hs] at h; cases h
 | some s => rw [hs] at h; cases h; rfl
theorem JD {num : Int → List UInt8} {n1 n2 : Int → Option Int} (hn : ∀ k n, n1 k = some n → n2 k = some n) {S : Mst} {op a : Int} {r : Mst × Int} (h : S.does num n1 op a = some r) : S.does num n2 op a = some r := by
 unfold Mst.does at h ⊢
 dsimp only at h ⊢
 by_cases h1 : op = 1
 ·rw [if_pos h1] at h ⊢
  cases hq : n1 a with
  | none => rw [hq] at h; cases h
  | some n => rw [hq] at h; rw [hn _ _ hq]; exact h
 rw [if_neg h1] at h ⊢
 exact h
section
variable {Γ0 : GH} {pg : Pg} {m : Nat} {S : Mst} {H : Heap} {nx : Nat} {K : EndP}
theorem VP {v : AVal} {f pc op a b : Int} (e : vb Γ0 v f pc = some (op, a, b)) : 0 ≤ f ∧ 0 ≤ pc ∧ ∃ b1 o1 v2 b3 o3, idxS v f.toNat 5 = some (.ptr b1 o1) ∧ idxS v2 pc.toNat 3 = some (.ptr b3 o3) ∧
  ∀ {Γ1 : GH} {m : Nat} {pg : Pg} {S : Mst} {H : Heap} {nx : Nat}, MS Γ1 pg m S H nx → (∀ b cs, Γ0 b = some cs → Γ1 b = some cs) → ld1 H (.ptr b1 (o1 + 4)) = some v2 ∧ ldN H 3 (.ptr b3 o3) = some (.agg [iv op, iv a, iv b]) := by
 unfold vb at e
 split at e <;> try (cases e; done)
 split at e <;> try (cases e; done)
 rename_i hf
 split at e <;> try (cases e; done)
 rename_i cs hc
 split at e <;> try (cases e; done)
 rename_i cb coff clen ez fl hcs
 split at e <;> try (cases e; done)
 rename_i hp
 split at e <;> try (cases e; done)
 rename_i ds hd
 split at e <;> try (cases e; done)
 rename_i op' a' b' ht
 cases e
 refine ⟨hf.1, hp.1, _, _, .slice cb coff clen ez fl, _, _, zG (by omega), zG (by omega), fun h hs => ⟨?_, ?_⟩⟩
 ·rw [h.ro (hs _ _ hc)]; exact hcs
 ·have hl : coff + pc.toNat * 3 + 3 ≤ ds.length := by
   have := congrArg List.length ht
   rw [List.length_take, List.length_drop] at this
   simp at this
   omega
  rw [h.roN (hs _ _ hd) hl, ht]
theorem MS.inside (h : MS Γ0 pg m S H nx) : ld1 H (.ptr m 9) = some (.ptr pg.fb (4 * S.low.length)) := by
 obtain ⟨Γ, own, G, hk, g⟩ := h
 have := g.ld_in hk
 unfold Gh.a at this
 rw [g.lowV.len] at this
 exact this
theorem MS.ld_f (h : MS Γ0 pg m S H nx) : ld1 H (.ptr pg.fb (4 * S.low.length)) = some (iv S.top.f) := by
 obtain ⟨Γ, own, G, hk, g⟩ := h
 have := g.ld_f hk
 unfold Gh.a at this
 rw [g.lowV.len] at this
 exact this
theorem MS.ld_pc (h : MS Γ0 pg m S H nx) : ld1 H (.ptr pg.fb (4 * S.low.length + 1)) = some (iv S.top.pc) := by
 obtain ⟨Γ, own, G, hk, g⟩ := h
 have := g.ld_pc hk
 unfold Gh.a at this
 rw [g.lowV.len] at this
 exact this
theorem MS.ld_state (h : MS Γ0 pg m S H nx) : ld1 H (.ptr m 7) = some (iv S.state) := by
 obtain ⟨Γ, own, G, hk, g⟩ := h
 rw [hk.ld1 g.em]; rfl
theorem MS.ld_funcs (h : MS Γ0 pg m S H nx) : ld1 H (.ptr m 1) = some pg.funcs := by
 obtain ⟨Γ, own, G, hk, g⟩ := h
 rw [hk.ld1 g.em]; rfl
theorem MS.setPc' (h : MS Γ0 pg m S H nx) (pc : Int) : ∃ H', stC H (.ptr pg.fb (4 * S.low.length + 1)) [iv pc] = some H' ∧ MS Γ0 pg m { S with top := { S.top with pc := pc } } H' nx := by
 obtain ⟨fb, a, e1, e2, H', e3, e4⟩ := h.setPc (pc := pc)
 have := h.inside
 rw [e1] at this
 have q := AVal.ptr.inj (Option.some.inj this)
 rw [q.1, q.2] at e3
 exact ⟨H', e3, e4⟩
def kP (Γ0 : GH) (v : AVal) (f : Int) : Option Nat :=
 match v with
 | .slice b off len _ _ => if 0 ≤ f ∧ f < len then (match Γ0 b with
  | some cs => match cs[off + f.toNat * 5 + 3]? with
   | some lv => lenS lv
   | none => none
  | none => none) else none
 | _ => none
theorem Vp {v : AVal} {f : Int} {n : Nat} (h : kP Γ0 v f = some n) : FnAt Γ0 v f n := by
 unfold kP at h
 split at h <;> try (cases h; done)
 split at h <;> try (cases h; done)
 rename_i hf
 split at h <;> try (cases h; done)
 rename_i cs hc
 split at h <;> try (cases h; done)
 rename_i lv hl
 exact ⟨hf.1, _, _, _, _, _, _, _, rfl, hf.2, hc, hl, h⟩
def Mst.calls (S : Mst) (n : Nat) (a b : Int) : Option Out := if 0 ≤ b ∧ b.toNat ≤ n ∧ n < 1000000 ∧ S.low.length + 1 < 30 then some (.go (S.callTo n a b.toNat)) else none
def Mst.step (num : Int → List UInt8) (Γ0 : GH) (pg : Pg) (S : Mst) : Option Out :=
 match vb Γ0 pg.funcs S.top.f S.top.pc with
 | none => none
 | some (op, a, b) =>
  if op = 36 then (match kP Γ0 pg.funcs a with
   | some n => S.calls n a b
   | none => none)
  else if op = 37 then none
  else if op = 41 then some (S.ret a)
  else match S.jump op a with
   | some S' => some (.go S')
   | none => match S.does num (ko Γ0 pg.nums) op a with
    | none => none
    | some (S', t) => if t = 0 then some (.go { S' with top := { S'.top with pc := IntKind.i64.wrap (S'.top.pc + 1) } }) else some (.go { S' with state := 2, trap := t })
theorem Wy {num : Int → List UInt8} (hn : Jy num) (fi : S.Fine) (hst : S.state = 0) (hlow : S.low.length < 1000) (hst2 : ∀ f, f ∈ S.low → f.st.length < 1000000) (hpg : PgOK pg) (h : MS Γ0 pg m S H nx) {o : Out} (hs : S.step num Γ0 pg = some o)
  (hG : ∀ S', o = .go S' → ∀ fb v H' nx', nx ≤ nx' → MS Γ0 (pg.at fb) m S' H' nx' → K (.ret (iv v)) H' nx')
  (hO : ∀ W, o = .over W → ∀ v H' nx', nx ≤ nx' → MD Γ0 pg m W H' nx' → K (.ret (iv v)) H' nx') : TriP Tryz.prog 33 [.ptr m 0] H nx K := by
 refine TriP.of_body qy ?_
 rw [qav]
 unfold qdg
 unfold Mst.step at hs
 cases hi : vb Γ0 pg.funcs S.top.f S.top.pc with
 | none => rw [hi] at hs; cases hs
 | some x =>
  obtain ⟨op, a, b⟩ := x
  rw [hi] at hs
  dsimp only at hs
  obtain ⟨f0, p0, b1, o1, v2, b3, o3, i1, i2, i3⟩ := VP hi
  obtain ⟨i4, i5⟩ := i3 h (fun _ _ e => e)
  have e7 := h.ld_state
  have e9 := h.inside
  have ef := h.ld_f
  have ep := h.ld_pc
  have eu := h.ld_funcs
  have h1 := h.temp (b := nx + 18) (nx' := nx + 20) (cs := [iv 0, iv 0, iv 0]) (by omega) (by omega)
  have sub1 : ∀ c cs, Γ0 c = some cs → gup (nx + 18) (some [iv 0, iv 0, iv 0]) Γ0 c = some cs := fun c cs e => by have := h.lt0 e; rw [qf (by omega)]; exact e
  obtain ⟨j4, j5⟩ := i3 h1 sub1
  have d9 := h1.inside
  have df := h1.ld_f
  have dp := h1.ld_pc
  have du := h1.ld_funcs
  have h2 := h.temp (b := nx + 18) (nx' := nx + 20) (cs := [iv op, iv a, iv b]) (by omega) (by omega)
  have st : stC (newB (nx + 18) [iv 0, iv 0, iv 0] H) (.ptr (nx + 18) 0) [iv op, iv a, iv b] = some (newB (nx + 18) [iv op, iv a, iv b] H) := Zp (by rfl) (by rfl)
  rw [hst] at e7
  refine ⟨rfl, _, rfl, _, e7, ?_⟩
  rw [qK]
  refine ⟨fun h => by simp at h, fun _ => ?_⟩
  refine ⟨rfl, _, rfl, _, e9, rfl, _, rfl, _, qU _ _ _, _, eu, rfl, _, qU _ _ _, _, ef, f0, _, i1, _, qU _ _ _, _, i4, rfl, _, qU _ _ _, _, ep, p0, _, i2, _, _, _, i5, _, rfl, ?_, _, st, trivial, ?_⟩
  ·exact ⟨⟨_, du, rfl⟩, ⟨_, df, rfl⟩, ⟨_, j4, rfl⟩, ⟨_, dp, rfl⟩, ⟨_, _, _, j5, rfl⟩, trivial⟩
  have un : ∀ {S' H' nx'}, MS (gup (nx + 18) (some [iv op, iv a, iv b]) Γ0) pg m S' H' nx' → MS Γ0 pg m S' H' nx' := fun hh => hh.untemp h (by omega)
  have e0 : ld1 (newB (nx + 18) [iv op, iv a, iv b] H) (.ptr (nx + 18) 0) = some (iv op) := by rw [h2.ro (qd _ _ _)]; rfl
  have e1 : ld1 (newB (nx + 18) [iv op, iv a, iv b] H) (.ptr (nx + 18) 1) = some (iv a) := by rw [h2.ro (qd _ _ _)]; rfl
  have eN : ldN (newB (nx + 18) [iv op, iv a, iv b] H) 3 (.ptr (nx + 18) 0) = some (.agg [iv op, iv a, iv b]) := by rw [h2.roN (qd _ _ _) (by simp)]; rfl
  generalize newB (nx + 18) [iv op, iv a, iv b] H = H1 at *
  refine ⟨_, rfl, _, e0, ?_⟩
  by_cases hcall : op = 36
  ·rw [if_pos hcall] at hs
   cases hlc : kP Γ0 pg.funcs a with
   | none => rw [hlc] at hs; cases hs
   | some n =>
    rw [hlc] at hs
    dsimp only at hs
    unfold Mst.calls at hs
    split at hs <;> try (cases hs; done)
    rename_i hb
    cases hs
    subst hcall
    refine jz rfl ⟨_, _, _, eN, ?_⟩
    have sub2 : ∀ c cs, Γ0 c = some cs → gup (nx + 18) (some [iv 36, iv a, iv b]) Γ0 c = some cs := fun c cs e => by have := h.lt0 e; rw [qf (by omega)]; exact e
    refine qd3 fi.st hb.2.2.2 hpg ((Vp hlc).mono sub2) hb.2.2.1 hb.1 hb.2.1 h2 fun fb H3 x3 l3 h3 => ?_
    rw [qc]
    exact ⟨rfl, _, rfl, _, h3.ld_state, hG _ rfl fb _ _ _ (by omega) (h3.less sub2)⟩
  rw [if_neg hcall] at hs
  by_cases hcall2 : op = 37
  ·rw [if_pos hcall2] at hs; cases hs
  rw [if_neg hcall2] at hs
  refine qE (by omega) ⟨_, rfl, _, e0, qE (by omega) ⟨_, rfl, _, e0, ?_⟩⟩
  by_cases hr : op = 41
  ·rw [if_pos hr] at hs; cases hs
   refine jz hr ⟨_, rfl, _, e1, ?_⟩
   refine qey fi hst hlow hst2 h2 (fun S' es H3 x3 l3 h3 => ?_) (fun W es H3 x3 l3 h3 => ?_)
   ·rw [qc]
    refine ⟨rfl, _, rfl, _, h3.ld_state, ?_⟩
    exact hG _ es pg.fb _ _ _ (by omega) (un h3)
   ·rw [qc]
    exact ⟨rfl, _, rfl, _, h3.ld_state, hO _ es _ _ _ (by omega) (h3.less fun c ds hc => by have := h.lt0 hc; rw [qf (by omega)]; exact hc)⟩
  rw [if_neg hr] at hs
  refine qE hr ⟨_, _, _, eN, ?_⟩
  refine qb9 fi.st h2 (fun S' es H3 x3 l3 h3 => ?_) (fun es H3 x3 l3 h3 => ?_)
  ·rw [es] at hs; cases hs
   rw [qc]
   refine ⟨_, rfl, ?_⟩
   rw [qX]
   exact ⟨rfl, _, rfl, _, h3.ld_state, hG _ rfl pg.fb _ _ _ (by omega) (un h3)⟩
  ·rw [es] at hs
   dsimp only at hs
   rw [qc]
   refine ⟨_, rfl, ?_⟩
   rw [zk]
   have eN' : ldN H3 3 (.ptr (nx + 18) 0) = some (.agg [iv op, iv a, iv b]) := by rw [h3.roN (qd _ _ _) (by simp)]; rfl
   refine ⟨_, _, _, eN', ?_⟩
   have esub : ∀ k n, ko Γ0 pg.nums k = some n → ko (gup (nx + 18) (some [iv op, iv a, iv b]) Γ0) pg.nums k = some n := by
    intro k n e
    unfold ko at e ⊢
    split at e <;> try (cases e; done)
    split at e <;> try (cases e; done)
    rename_i hk
    split at e <;> try (cases e; done)
    rename_i cs hc
    have := h.lt0 hc
    rw [if_pos hk, qf (by omega), hc]; exact e
   cases hd : S.does num (ko Γ0 pg.nums) op a with
   | none => rw [hd] at hs; cases hs
   | some y =>
    obtain ⟨S', t⟩ := y
    rw [hd] at hs
    dsimp only at hs
    have hd' : S.does num (ko (gup (nx + 18) (some [iv op, iv a, iv b]) Γ0) pg.nums) op a = some (S', t) := JD esub hd
    have elow := YU hd
    refine qbv hn fi h3 hd' fun H4 x4 l4 h4 => ?_
    rw [qc]
    refine ⟨_, rfl, ?_⟩
    by_cases ht : t = 0
    ·rw [if_pos ht] at hs; cases hs
     subst ht
     show ifB false _ _
     rw [zk]
     have ep4 := h4.ld_pc
     obtain ⟨H5, q1, q2⟩ := h4.setPc' (IntKind.i64.wrap (S'.top.pc + 1))
     rw [elow] at ep4 q1
     exact ⟨rfl, _, qU _ _ _, _, ep4, rfl, _, qU _ _ _, rfl, _, q1, rfl, _, rfl, _, q2.ld_state, hG _ rfl pg.fb _ _ _ (by omega) (un q2)⟩
    ·rw [if_neg ht] at hs; cases hs
     have eb : (!decide (t = 0)) = true := by simp [ht]
     rw [eb, qX]
     refine qcg h4 fun H5 x5 l5 h5 => ?_
     rw [qc]
     exact ⟨rfl, _, rfl, _, h5.ld_state, hG _ rfl pg.fb _ _ _ (by omega) (un h5)⟩
end
end Go.Vs
end
section
namespace Go.Vs
open Go.Proofs
variable [GTab]
def LRun (call : qk) (lp : Nat → ql) (N : KC) (X : Nat → KC) (R : KC) (Pn : List (AVal × Bool) → KC) (m : Nat) (k : Nat) (n : Int) (H : Heap) (nx : Nat) : Prop :=
 ifB (decide (↑k < n)) (true = true ∧ ∃ v0, some (AVal.ptr m 7) = some v0 ∧ ∃ n1 : Int, ld1 H v0 = some (iv n1) ∧ ifB (decide (n1 = 0)) (call 33 [AVal.ptr m 0] H nx fun e2 H3 i4 =>
 qh e2 (fun v5 => ∃ n6 : Int, v5 = iv n6 ∧ N (envL AVal.und [(5, iv (IntKind.i64.wrap (↑k + 1))), (19, iv (IntKind.i64.wrap (↑k + 1))), (18, iv ↑k), (17, iv n6), (16, AVal.ptr m
 0), (15, AVal.bool true), (15, AVal.bool (decide (n1 = 0))), (14, AVal.bool (decide (n1 = 0))), (9, AVal.bool true), (13, iv n1), (9, AVal.bool true), (12, v0), (9, AVal.bool true),
 (11, AVal.ptr m 0), (9, AVal.bool true), (10, AVal.ptr m 0), (9, AVal.bool true), (9, AVal.bool (decide (↑k < n))), (8, AVal.bool (decide (↑k < n))), (7, iv n), (6, iv ↑k), (5, iv
 ↑k), (1, iv n), (0, AVal.ptr m 0)]) H3 i4 [] none) fun l7 => Pn l7 (envL AVal.und [(16, AVal.ptr m 0), (15, AVal.bool true), (15, AVal.bool (decide (n1 = 0))), (14, AVal.bool
 (decide (n1 = 0))), (9, AVal.bool true), (13, iv n1), (9, AVal.bool true), (12, v0), (9, AVal.bool true), (11, AVal.ptr m 0), (9, AVal.bool true), (10, AVal.ptr m 0), (9, AVal.bool
 true), (9, AVal.bool (decide (↑k < n))), (8, AVal.bool (decide (↑k < n))), (7, iv n), (6, iv ↑k), (5, iv ↑k), (1, iv n), (0, AVal.ptr m 0)]) H3 i4 [] none) (X 0 (envL AVal.und [(15,
 AVal.bool false), (15, AVal.bool (decide (n1 = 0))), (14, AVal.bool (decide (n1 = 0))), (9, AVal.bool true), (13, iv n1), (9, AVal.bool true), (12, v0), (9, AVal.bool true), (11,
 AVal.ptr m 0), (9, AVal.bool true), (10, AVal.ptr m 0), (9, AVal.bool true), (9, AVal.bool (decide (↑k < n))), (8, AVal.bool (decide (↑k < n))), (7, iv n), (6, iv ↑k), (5, iv ↑k),
 (1, iv n), (0, AVal.ptr m 0)]) H nx [] none)) (X 0 (envL AVal.und [(15, AVal.bool false), (15, AVal.bool false), (14, AVal.tuple []), (9, AVal.bool false), (13, AVal.tuple []), (9,
 AVal.bool false), (12, AVal.tuple []), (9, AVal.bool false), (11, AVal.tuple []), (9, AVal.bool false), (10, AVal.tuple []), (9, AVal.bool false), (9, AVal.bool (decide (↑k < n))),
 (8, AVal.bool (decide (↑k < n))), (7, iv n), (6, iv ↑k), (5, iv ↑k), (1, iv n), (0, AVal.ptr m 0)]) H nx [] none)
theorem qbm (call : qk) (lp : Nat → ql) (N : KC) (X : Nat → KC) (R : KC) (Pn : List (AVal × Bool) → KC) (m : Nat) (k : Nat) (n : Int) (H : Heap) (nx : Nat) : vK Tryz.prog call (lp 21) 21 (z9 (qW Tryz.prog 16) [1, 1, 0, 0, 0]) (envL .und [(5, iv k), (1, iv n), (0, .ptr m 0)]) H nx [] none (yG N X R Pn) = LRun call lp N X R Pn m k n H nx := by kernel_rfl
theorem qbo (call : qk) (lp : Nat → ql) (lv : qi) (lvc : qj) (K : EndP) (k : Nat) (H : Heap) (nx : Nat) :
  z7 Tryz.prog call (lp 21) 21 (qW Tryz.prog 16) [1, 1, 0, 0] (endK Tryz.prog lv lvc K (kO Tryz.prog 16)) (.exit 0) (envL .und [(5, iv k)]) H nx [] none = K (.ret (iv k)) H nx := by kernel_rfl
structure Mst.Fine2 (S : Mst) : Prop where
 fine : S.Fine
 low : S.low.length < 1000
 st : ∀ f, f ∈ S.low → f.st.length < 1000000
inductive Runs (num : Int → List UInt8) (Γ0 : GH) (pg : Pg) : Nat → Mst → Out → Prop
 | stop {n : Nat} {S : Mst} (h : n = 0 ∨ S.state ≠ 0) : Runs num Γ0 pg n S (.go S)
 | over {n : Nat} {S : Mst} {W : Wd} (f : S.Fine2) (h0 : S.state = 0) (hs : S.step num Γ0 pg = some (.over W)) : Runs num Γ0 pg (n + 1) S (.over W)
 | step {n : Nat} {S S' : Mst} {o : Out} (f : S.Fine2) (h0 : S.state = 0) (hs : S.step num Γ0 pg = some (.go S')) (t : Runs num Γ0 pg n S' o) : Runs num Γ0 pg (n + 1) S o
def OutV (Γ0 : GH) (pg : Pg) (m : Nat) (o : Out) (H : Heap) (nx : Nat) : Prop := (∃ S fb, o = .go S ∧ MS Γ0 (pg.at fb) m S H nx) ∨ ∃ W, o = .over W ∧ MD Γ0 pg m W H nx
theorem qfz {num : Int → List UInt8} (hn : Jy num) {Γ0 : GH} {pg : Pg} {m fuel : Nat} {S : Mst} {o : Out} {H : Heap} {nx : Nat} {K : EndP} (hf : fuel < 1000000000) (hpg : PgOK pg) (hr : Runs num Γ0 pg fuel S o) (h : MS Γ0 pg m S H nx)
  (hK : ∀ v H' nx', nx ≤ nx' → OutV Γ0 pg m o H' nx' → K (.ret (iv v)) H' nx') : TriP Tryz.prog 16 [.ptr m 0, iv fuel] H nx K := by
 refine TriP.of_body qy ?_
 rw [qbl]
 unfold FRun
 refine yO qy (X := Nat) (Y := Nat) (fun k => envL .und [(5, iv k), (1, iv fuel), (0, .ptr m 0)]) (fun k => envL .und [(5, iv k)])
  (fun μ k H' nx' => μ = fuel - k ∧ k ≤ fuel ∧ nx ≤ nx' ∧ ((∃ S1 fb, MS Γ0 (pg.at fb) m S1 H' nx' ∧ Runs num Γ0 pg (fuel - k) S1 o) ∨ ∃ W, o = .over W ∧ MD Γ0 pg m W H' nx'))
  (fun id k H' nx' => id = 0 ∧ nx ≤ nx' ∧ OutV Γ0 pg m o H' nx') fuel 0 ?_ ⟨rfl, Nat.zero_le _, Nat.le_refl _, .inl ⟨S, pg.fb, h, hr⟩⟩ ?_ ?_
 ·exact ze.of_list ⟨rfl, rfl, rfl, trivial⟩
 ·rintro μ k H1 nx1 ⟨rfl, hk, hnx, hi⟩
  rw [qbm]
  unfold LRun
  rw [qK]; simp only [decide_eq_true_eq, decide_eq_false_iff_not]
  refine ⟨fun hlt => ⟨trivial, _, rfl, ?_⟩, fun hge => ?_⟩
  ·have hlt' : k < fuel := by omega
   rcases hi with ⟨S1, fb, h1, r1⟩ | ⟨W, ho, h1⟩
   ·refine ⟨_, h1.ld_state, ?_⟩
    rw [qK]; simp only [decide_eq_true_eq, decide_eq_false_iff_not]
    have ew : IntKind.i64.wrap ((k : Int) + 1) = ((k + 1 : Nat) : Int) := by rw [zm (by omega) (by omega)]; omega
    refine ⟨fun hs => ?_, fun hs => ?_⟩
    ·obtain ⟨n', hn'⟩ : ∃ n', fuel - k = n' + 1 := ⟨fuel - k - 1, by omega⟩
     have en : fuel - (k + 1) = n' := by omega
     rw [hn'] at r1
     cases r1 with
     | stop h =>
      rcases h with h | h
      ·omega
      ·exact absurd hs h
     | over f h0 hst =>
      refine Wy (pg := pg.at fb) hn f.fine h0 f.low f.st ⟨hpg.cells, hpg.small⟩ h1 hst (fun S' e fb2 v H2 nx2 l2 h2 => by cases e) (fun W e v H2 nx2 l2 h2 => ?_)
      rw [qc]
      refine ⟨_, rfl, by first | rfl | trivial, fuel - (k + 1), k + 1, by omega, ze.of_list ⟨?_, rfl, rfl, trivial⟩, by first | rfl | trivial, by omega, by omega, .inr ⟨W, e, h2⟩⟩
      rw [ew]; rfl
     | step f h0 hst tl =>
      refine Wy (pg := pg.at fb) hn f.fine h0 f.low f.st ⟨hpg.cells, hpg.small⟩ h1 hst (fun S' e fb2 v H2 nx2 l2 h2 => ?_) (fun W e v H2 nx2 l2 h2 => by cases e)
      cases e
      rw [qc]
      refine ⟨_, rfl, by first | rfl | trivial, fuel - (k + 1), k + 1, by omega, ze.of_list ⟨?_, rfl, rfl, trivial⟩, by first | rfl | trivial, by omega, by omega, .inl ⟨_, fb2, h2, by rw [en]; exact tl⟩⟩
      rw [ew]; rfl
    ·refine ⟨by first | rfl | trivial, k, ze.of_list ⟨rfl, trivial⟩, by first | rfl | trivial, hnx, ?_⟩
     generalize fuel - k = q at r1
     cases r1 with
     | stop h => exact .inl ⟨_, fb, rfl, h1⟩
     | over f h0 hst => exact absurd h0 hs
     | step f h0 hst tl => exact absurd h0 hs
   ·refine ⟨_, h1.ld_state, ?_⟩
    rw [qK]
    exact ⟨fun hs => by simp at hs, fun _ => ⟨by first | rfl | trivial, k, ze.of_list ⟨rfl, trivial⟩, by first | rfl | trivial, hnx, .inr ⟨W, ho, h1⟩⟩⟩
  ·have hz : fuel - k = 0 := by omega
   refine ⟨by first | rfl | trivial, k, ze.of_list ⟨rfl, trivial⟩, by first | rfl | trivial, hnx, ?_⟩
   rcases hi with ⟨S1, fb, h1, r1⟩ | ⟨W, ho, h1⟩
   ·rw [hz] at r1
    cases r1 with
    | stop h => exact .inl ⟨_, fb, rfl, h1⟩
   ·exact .inr ⟨W, ho, h1⟩
 ·rintro id k H1 nx1 ⟨rfl, hnx, ho⟩
  rw [qbo]
  exact hK _ _ _ hnx ho
end Go.Vs
end
section
namespace Go.Vs
open Go.Proofs
variable [GTab]
def EndV (Γ0 : GH) (pg : Pg) (m : Nat) (st tr : Int) (W : Wd) (H : Heap) (nx : Nat) : Prop := ∃ Γ own hp tv wv litv lv inb inf c0 c1 c2 c3 c4 c6 c9, HOK Γ H nx ∧ (∀ b cs, Γ0 b = some cs → Γ b = some cs ∧ own b = 9) ∧
 Γ m = some [c0, c1, c2, c3, c4, .ptr pg.w 0, c6, iv st, iv tr, c9] ∧ WdV Γ own pg.w hp tv wv litv lv inb inf W
section
variable {Γ0 : GH} {pg : Pg} {m : Nat} {H : Heap} {nx : Nat} {K : EndP} {st tr : Int} {W : Wd}
theorem MS.end {S : Mst} (h : MS Γ0 pg m S H nx) : EndV Γ0 pg m S.state S.trap S.wd H nx := by
 obtain ⟨Γ, own, G, hk, g⟩ := h
 exact ⟨Γ, own, G.hp, G.tv, G.wv, G.litv, G.lv, G.inb, G.inf, _, _, _, _, _, _, _, hk, g.ro, g.em, g.wdV⟩
theorem MD.end (h : MD Γ0 pg m W H nx) : ∃ tr, EndV Γ0 pg m 1 tr W H nx := by
 obtain ⟨Γ, own, hp, tv, wv, litv, lv, inb, inf, c0, c1, c2, c3, c4, c6, c8, c9, k, ro, _, em, wd⟩ := h
 exact ⟨c8, Γ, own, hp, tv, wv, litv, lv, inb, inf, _, _, _, _, _, _, _, k, ro, em, wd⟩
theorem K9 (h : EndV Γ0 pg m st tr W H nx) (hK : K (.ret (.ptr pg.w 0)) H nx) : TriP Tryz.prog 17 [.ptr m 0] H nx K := by
 obtain ⟨Γ, own, hp, tv, wv, litv, lv, inb, inf, c0, c1, c2, c3, c4, c6, c9, k, ro, em, wd⟩ := h
 refine TriP.of_body qy ?_
 rw [Xa]
 unfold qbc
 have e1 : ld1 H (.ptr m 5) = some (.ptr pg.w 0) := by rw [k.ld1 em]; rfl
 exact ⟨rfl, _, rfl, _, e1, hK⟩
theorem XL (h : EndV Γ0 pg m st tr W H nx) (hK : K (.ret (iv W.taken)) H nx) : TriP Tryz.prog 19 [.ptr pg.w 0] H nx K := by
 obtain ⟨Γ, own, hp, tv, wv, litv, lv, inb, inf, c0, c1, c2, c3, c4, c6, c9, k, ro, em, wd⟩ := h
 refine TriP.of_body qy ?_
 rw [XA]
 unfold X3
 exact ⟨rfl, _, rfl, _, wd.ld_taken k, hK⟩
theorem YK (h : EndV Γ0 pg m st tr W H nx) (hl : W.lines.length < 1000000)
  (hK : ∀ b full H' nx', nx ≤ nx' → nx ≤ b → EndV (gup b (some (W.lines.map AVal.str)) Γ0) pg m st tr W H' nx' → K (.ret (.slice b 0 W.lines.length 1 full)) H' nx') : TriP Tryz.prog 18 [.ptr pg.w 0] H nx K := by
 obtain ⟨Γ, own, hp, tv, wv, litv, lv, inb, inf, c0, c1, c2, c3, c4, c6, c9, k, ro, em, wd⟩ := h
 refine TriP.of_body qy ?_
 rw [W4]
 unfold qa0
 have k1 := k.new (b := nx) (nx' := nx + 1) (Nat.le_refl _) (by omega) []
 have kp1 : Keep Γ own (gup nx (some []) Γ) own (fun _ => False) := Keep.new k (Nat.le_refl _) _
 have w1 := wd.keep0 kp1
 have e1 := w1.ld_lines k1
 have fin : ∀ (b : Nat) (cs : List AVal) (Γ1 : GH) (H1 : Heap) (nx1 : Nat), nx ≤ b → HOK Γ1 H1 nx1 → Γ1 b = some cs → (∀ c ds, c ≠ b → Γ c = some ds → Γ1 c = some ds) → EndV (gup b (some cs) Γ0) pg m st tr W H1 nx1 := by
  intro b cs Γ1 H1 nx1 hb hk1 hc hsub
  have hne : ∀ c ds, Γ c = some ds → c ≠ b := fun c ds e => by have := k.lt e; omega
  have kp : Keep Γ own Γ1 (fun c => if c = b then 9 else own c) (fun _ => False) := fun c ds e _ => ⟨hsub c ds (hne c ds e) e, by simp [hne c ds e]⟩
  refine ⟨Γ1, _, hp, tv, wv, litv, lv, inb, inf, _, _, _, _, _, _, _, hk1, fun c ds e => ?_, (kp _ _ em id).1, wd.keep0 kp⟩
  by_cases hcb : c = b
  ·subst hcb; rw [qd] at e; cases e; exact ⟨hc, by simp⟩
  ·rw [qf hcb] at e
   obtain ⟨a1, a2⟩ := ro c ds e
   obtain ⟨a3, a4⟩ := kp c ds a1 id
   exact ⟨a3, a4.trans a2⟩
 rcases w1.lines with ⟨hv, hnil⟩ | ⟨b, cs, ⟨lf, hv⟩, ho, hb, ht⟩
 ·rw [hv] at e1
  refine ⟨_, rfl, rfl, _, rfl, _, e1, 0, [], rfl, rfl, .slice nx 0 0 1 true, newB nx [] H, nx + 1, rfl, ?_⟩
  have hz : W.lines.length = 0 := by rw [hnil]; rfl
  have := hK nx true (newB nx [] H) (nx + 1) (by omega) (Nat.le_refl _) (by
   rw [hnil]
   exact fin nx [] _ _ _ (Nat.le_refl _) k1 (qd _ _ _) fun c ds hc e => by rw [qf hc]; exact e)
  rw [hz] at this
  exact this
 ·rw [hv] at e1
  have hc := jP ht (by simp)
  have e2 := k1.src (sz := 1) (n := W.lines.length) (off := 0) (e := 1) (full := lf) hb (by omega)
  rw [List.drop_zero, Nat.mul_one, ht] at e2
  by_cases hz : W.lines.length = 0
  ·have hnil : W.lines = [] := List.length_eq_zero_iff.1 hz
   rw [hz, hnil] at e2
   rw [hz] at e1
   refine ⟨_, rfl, rfl, _, rfl, _, e1, 0, [], e2, rfl, .slice nx 0 0 1 true, newB nx [] H, nx + 1, rfl, ?_⟩
   have := hK nx true (newB nx [] H) (nx + 1) (by omega) (Nat.le_refl _) (by
    rw [hnil]
    exact fin nx [] _ _ _ (Nat.le_refl _) k1 (qd _ _ _) fun c ds hc e => by rw [qf hc]; exact e)
   rw [hz] at this
   exact this
  ·obtain ⟨H2, q1, q2⟩ := k1.appFull (b := nx) (off := 0) (len := 0) (esz := 1) (ebytes := 16) (k := W.lines.length) (new := W.lines.map AVal.str) (qd _ _ _) (by simp) (by simp) (by omega) (by omega) (by omega)
   rw [Nat.zero_add] at q1
   refine ⟨_, rfl, rfl, _, rfl, _, e1, _, _, e2, kV (f := AVal.str) (fun _ => rfl) _, _, _, _, q1, ?_⟩
   refine hK _ _ _ _ (by omega) (by omega) (fin _ _ _ _ _ (by omega) q2 ?_ fun c ds hc e => ?_)
   ·rw [qd]; simp
   ·rw [qf hc, qf (by have := k.lt e; omega)]; exact e
end
end Go.Vs
end
section
namespace Go.Vs
open Go.Ev (ilt zz)
open Go.Proofs
variable [GTab]
theorem y4 {p : Prop} [Decidable p] {A B : Prop} (h : p) (hb : B) : ifB (!decide p) A B := by rw [decide_eq_true h]; exact hb
theorem qd0 {room : Int} {H : Heap} {nx : Nat} {K : EndP} (h1 : 1 ≤ room) (h2 : room ≤ 65536)
  (hK : K (.ret (.tuple [.ptr (nx + 1) 0, iv 0])) (newB (nx + 1) [.slice nx 0 1 1 true, iv room] (newB nx [uv 0] H)) (nx + 1 + 1)) : TriP Tryz.prog 49 [iv room] H nx K := by
 refine TriP.of_body qy ?_
 rw [YG]
 unfold qel
 refine qE (by omega) (qE (by omega) ⟨rfl, _, rfl, rfl, rfl, _, rfl, hK⟩)
def SrcV (Γ : GH) (v : AVal) (sz : Nat) (n : Nat) (cells : List AVal) : Prop :=
 (v = .nilSlice ∧ n = 0 ∧ cells = []) ∨ ∃ b off full cs, v = .slice b off n sz full ∧ Γ b = some cs ∧ off + n * sz ≤ cs.length ∧ (cs.drop off).take (n * sz) = cells
theorem SrcV.len {Γ : GH} {v : AVal} {sz n : Nat} {cells : List AVal} (h : SrcV Γ v sz n cells) : lenS v = some n := by
 rcases h with ⟨rfl, rfl, rfl⟩ | ⟨b, off, full, cs, rfl, _⟩ <;> rfl
theorem SrcV.src {Γ : GH} {H : Heap} {nx : Nat} {v : AVal} {sz n : Nat} {cells : List AVal} (h : SrcV Γ v sz n cells) (hk : HOK Γ H nx) : aSrc sz H v = some (n, cells) := by
 rcases h with ⟨rfl, rfl, rfl⟩ | ⟨b, off, full, cs, rfl, h1, h2, h3⟩
 ·rfl
 ·rw [hk.src h1 h2, h3]
theorem SrcV.mono {Γ Γ' : GH} {v : AVal} {sz n : Nat} {cells : List AVal} (h : SrcV Γ v sz n cells) (hs : ∀ c ds, Γ c = some ds → Γ' c = some ds) : SrcV Γ' v sz n cells := by
 rcases h with h | ⟨b, off, full, cs, h0, h1, h2⟩
 ·exact .inl h
 ·exact .inr ⟨b, off, full, cs, h0, hs _ _ h1, h2⟩
structure TypesV (Γ : GH) (v : AVal) (n : Nat) : Prop where
 small : n < 1000000
 row : ∃ b full cs, v = .slice b 0 n 5 full ∧ Γ b = some cs ∧ ∀ i, i < n → i * 5 + 5 ≤ cs.length ∧ ∃ kd nm el ml, (cs.drop (i * 5)).take 5 = [iv kd, .str nm, iv el, .nilSlice, ml] ∧ qD ml = true
structure NewW (Γ Γ' : GH) (nx nx' : Nat) (w hp hb inb : Nat) (inf : Bool) (tv : AVal) (inputs : List Int) (room : Int) : Prop where
 le : nx ≤ nx'
 old : ∀ c ds, Γ c = some ds → Γ' c = some ds
 ws : nx ≤ w ∧ nx ≤ hp ∧ nx ≤ hb ∧ nx ≤ inb
 ne : w ≠ hp ∧ w ≠ hb ∧ w ≠ inb ∧ hp ≠ hb ∧ hp ≠ inb ∧ hb ≠ inb
 ew : Γ' w = some [tv, .ptr hp 0, .nilSlice, .slice inb 0 inputs.length 1 inf, iv 0, .nilSlice]
 eh : Γ' hp = some [.slice hb 0 1 1 true, iv room]
 eb : Γ' hb = some [uv 0]
 ei : Γ' inb = some (inputs.map iv)
def TvV (F Γ1 : GH) (w : Nat) (tv : AVal) (k : Nat) : Prop := (tv = .nilSlice ∧ k = 0) ∨ ∃ b cs, tv = .slice b 0 k 5 false ∧ Γ1 b = some cs ∧ k * 5 ≤ cs.length ∧ F b = none ∧ b ≠ w
theorem qa2 {room : Int} (h1 : 1 ≤ room) (h2 : room ≤ 65536) : (Bool.rec (Bool.rec room 1 (ilt 1 room)) (Bool.rec room 1 (ilt room 1)) true : Int) = room ∧ (Bool.rec (Bool.rec room 65536 (ilt 65536 room)) (Bool.rec room 65536 (ilt room 65536)) false : Int) = room := by
 have e1 : ilt room 1 = false := by rw [zz]; simp; omega
 have e2 : ilt 65536 room = false := by rw [zz]; simp; omega
 rw [e1, e2]
 exact ⟨rfl, rfl⟩
theorem qc8 {Γ : GH} {H : Heap} {nx nt : Nat} {p0 p1 p4 ins : AVal} {p2 room : Int} {inputs : List Int} {K : EndP} (hk : HOK Γ H nx) (ht : TypesV Γ p0 nt) (hi : SrcV Γ ins 1 inputs.length (inputs.map iv)) (hl : inputs.length < 1000000)
  (hp : qD p0 = true ∧ qD p1 = true ∧ qD p4 = true) (h1 : 1 ≤ room) (h2 : room ≤ 65536)
  (hK : ∀ Γ' H' nx' w hp hb inb inf tv, HOK Γ' H' nx' → NewW Γ Γ' nx nx' w hp hb inb inf tv inputs room → K (.ret (.tuple [.ptr w 0, .bool true])) H' nx') :
  TriP Tryz.prog 32 [.agg [p0, p1, iv p2, .nilSlice, p4], iv room, ins] H nx K := by
 refine TriP.of_body qy ?_
 rw [qah]
 unfold qe6
 have k0 := hk.new (b := nx) (nx' := nx + 1) (by omega) (by omega) [p0, p1, iv p2, .nilSlice, p4]
 have hnb : ∀ c ds, Γ c = some ds → c < nx := fun c ds ec => hk.lt ec
 obtain ⟨m1, m2⟩ := qa2 h1 h2
 refine ⟨_, rfl, _, rfl, _, rfl, ?_⟩
 rw [m1, m2]
 refine qd0 h1 h2 ?_
 rw [qc]
 have k1 := (k0.new (b := nx + 1) (nx' := nx + 2) (by omega) (by omega) [uv 0]).new (b := nx + 2) (nx' := nx + 3) (by omega) (by omega) [.slice (nx + 1) 0 1 1 true, iv room]
 have k2 := k1.new (b := nx + 3) (nx' := nx + 4) (by omega) (by omega) []
 refine ⟨_, _, rfl, y4 rfl ⟨_, rfl, ?_⟩⟩
 have sub2 : ∀ c ds, Γ c = some ds → gup (nx + 3) (some []) (gup (nx + 2) (some [.slice (nx + 1) 0 1 1 true, iv room]) (gup (nx + 1) (some [uv 0]) (gup nx (some [p0, p1, iv p2, .nilSlice, p4]) Γ))) c = some ds := fun c ds ec => by
  have := hnb _ _ ec
  rw [qf (by omega), qf (by omega), qf (by omega), qf (by omega)]; exact ec
 have esrc := (hi.mono sub2).src k2
 have hcell : qq (inputs.map iv) = true := kV (f := iv) (fun _ => rfl) _
 refine ⟨_, _, esrc, hcell, ?_⟩
 have hap : ∃ inb inf H13 i14 Γ13, appC (newB (nx + 3) [] (newB (nx + 2) [.slice (nx + 1) 0 1 1 true, iv room] (newB (nx + 1) [uv 0] (newB nx [p0, p1, iv p2, .nilSlice, p4] H)))) (nx + 4) 1 8 (.slice (nx + 3) 0 0 1 true) inputs.length (inputs.map iv) = some (.slice inb 0 inputs.length 1 inf, H13, i14) ∧
   HOK Γ13 H13 i14 ∧ nx + 4 ≤ i14 ∧ nx + 3 ≤ inb ∧ Γ13 inb = some (inputs.map iv) ∧ (∀ c ds, c < nx + 3 → gup (nx + 2) (some [.slice (nx + 1) 0 1 1 true, iv room]) (gup (nx + 1) (some [uv 0]) (gup nx (some [p0, p1, iv p2, .nilSlice, p4]) Γ)) c = some ds → Γ13 c = some ds) := by
  by_cases hz : inputs.length = 0
  ·have hnil : inputs = [] := List.length_eq_zero_iff.1 hz
   subst hnil
   exact ⟨nx + 3, true, _, nx + 4, _, rfl, k2, Nat.le_refl _, Nat.le_refl _, qd _ _ _, fun c ds hc e => by rw [qf (by omega)]; exact e⟩
  ·obtain ⟨H', q1, q2⟩ := k2.appFull (b := nx + 3) (off := 0) (len := 0) (esz := 1) (ebytes := 8) (k := inputs.length) (new := inputs.map iv) (qd _ _ _) (by simp) (by simp) (by omega) (by omega) (by omega)
   rw [Nat.zero_add] at q1
   refine ⟨nx + 4, false, H', nx + 4 + 1, _, q1, q2, by omega, by omega, ?_, fun c ds hc e => ?_⟩
   ·rw [qd]; simp
   ·rw [qf (by omega), qf (by omega)]; exact e
 obtain ⟨inb, inf, H13, i14, Γ13, q1, k13, l14, linb, einb, sub13⟩ := hap
 refine ⟨_, _, _, q1, rfl, rfl, _, rfl, _, rfl, ?_⟩
 have ninb := k13.lt einb
 have k15 := k13.new (b := i14) (nx' := i14 + 1) (by omega) (by omega) [.nilSlice, .ptr (nx + 2) 0, .nilSlice, .slice inb 0 inputs.length 1 inf, iv 0, .nilSlice]
 have sub15 : ∀ c ds, c < nx + 3 → gup (nx + 2) (some [.slice (nx + 1) 0 1 1 true, iv room]) (gup (nx + 1) (some [uv 0]) (gup nx (some [p0, p1, iv p2, .nilSlice, p4]) Γ)) c = some ds → gup i14 (some [.nilSlice, .ptr (nx + 2) 0, .nilSlice, .slice inb 0 inputs.length 1 inf, iv 0, .nilSlice]) Γ13 c = some ds := fun c ds hc e => by rw [qf (by omega)]; exact sub13 c ds hc e
 rw [kQ]
 have e0 : ld1 (newB i14 [.nilSlice, .ptr (nx + 2) 0, .nilSlice, .slice inb 0 inputs.length 1 inf, iv 0, .nilSlice] H13) (.ptr nx 0) = some p0 := by
  rw [k15.ld1 (sub15 nx _ (by omega) (by rw [qf (by omega), qf (by omega), qd]))]; rfl
 obtain ⟨tb, tf, tcs, rfl, etb, hty⟩ := ht.row
 refine ⟨_, e0, _, rfl, ?_⟩
 have ltb := hnb _ _ etb
 have hsm := ht.small
 have hF : ∃ F : GH, (∀ c ds, Γ c = some ds → F c = some ds) ∧ F nx = some [.slice tb 0 nt 5 tf, p1, iv p2, .nilSlice, p4] ∧ F (nx + 1) = some [uv 0] ∧ F (nx + 2) = some [.slice (nx + 1) 0 1 1 true, iv room] ∧ F inb = some (inputs.map iv) ∧ F i14 = none ∧ (∀ c ds, F c = some ds → c < i14 + 1) ∧
   ∀ c ds, F c = some ds → gup i14 (some [.nilSlice, .ptr (nx + 2) 0, .nilSlice, .slice inb 0 inputs.length 1 inf, iv 0, .nilSlice]) Γ13 c = some ds := by
  refine ⟨fun c => if c = inb then some (inputs.map iv) else if c < nx + 3 then gup (nx + 2) (some [.slice (nx + 1) 0 1 1 true, iv room]) (gup (nx + 1) (some [uv 0]) (gup nx (some [.slice tb 0 nt 5 tf, p1, iv p2, .nilSlice, p4]) Γ)) c else none, fun c ds ec => ?_, ?_, ?_, ?_, ?_, ?_, fun c ds ec => ?_, fun c ds ec => ?_⟩
  ·have := hnb _ _ ec
   simp only [show c ≠ inb by omega, if_false, show c < nx + 3 by omega, if_true]
   rw [qf (by omega), qf (by omega), qf (by omega)]; exact ec
  ·simp only [show nx ≠ inb by omega, if_false, show nx < nx + 3 by omega, if_true]
   rw [qf (by omega), qf (by omega), qd]
  ·simp only [show nx + 1 ≠ inb by omega, if_false, show nx + 1 < nx + 3 by omega, if_true]
   rw [qf (by omega), qd]
  ·simp only [show nx + 2 ≠ inb by omega, if_false, show nx + 2 < nx + 3 by omega, if_true]
   rw [qd]
  ·simp
  ·simp only [show i14 ≠ inb by omega, if_false, show ¬ i14 < nx + 3 by omega]
  ·have ec' : (if c = inb then some (inputs.map iv) else if c < nx + 3 then gup (nx + 2) (some [.slice (nx + 1) 0 1 1 true, iv room]) (gup (nx + 1) (some [uv 0]) (gup nx (some [.slice tb 0 nt 5 tf, p1, iv p2, .nilSlice, p4]) Γ)) c else none) = some ds := ec
   split at ec'
   ·omega
   ·split at ec'
    ·omega
    ·cases ec'
  ·have ec' : (if c = inb then some (inputs.map iv) else if c < nx + 3 then gup (nx + 2) (some [.slice (nx + 1) 0 1 1 true, iv room]) (gup (nx + 1) (some [uv 0]) (gup nx (some [.slice tb 0 nt 5 tf, p1, iv p2, .nilSlice, p4]) Γ)) c else none) = some ds := ec
   split at ec'
   ·rename_i hc; subst hc; cases ec'
    rw [qf (by omega)]; exact einb
   ·split at ec'
    ·exact sub15 c ds (by assumption) ec'
    ·cases ec'
 obtain ⟨F, F0, F1, F2, F3, F4, F5, F6, F7⟩ := hF
 refine yO qy (X := Nat) (Y := Unit) (fun k => envL .und [(35, iv k), (34, iv nt), (33, .slice tb 0 nt 5 tf), (10, .ptr i14 0), (8, .ptr (nx + 2) 0), (3, .ptr nx 0)]) (fun _ => envL .und [(10, .ptr i14 0), (8, .ptr (nx + 2) 0), (3, .ptr nx 0)])
  (fun μ k H' nx' => μ = nt - k ∧ k ≤ nt ∧ i14 + 1 ≤ nx' ∧ ∃ Γ1 tv, HOK Γ1 H' nx' ∧ (∀ c ds, F c = some ds → Γ1 c = some ds) ∧ Γ1 i14 = some [tv, .ptr (nx + 2) 0, .nilSlice, .slice inb 0 inputs.length 1 inf, iv 0, .nilSlice] ∧ TvV F Γ1 i14 tv k)
  (fun id _ H' nx' => id = 0 ∧ i14 + 1 ≤ nx' ∧ ∃ Γ1 tv, HOK Γ1 H' nx' ∧ (∀ c ds, F c = some ds → Γ1 c = some ds) ∧ Γ1 i14 = some [tv, .ptr (nx + 2) 0, .nilSlice, .slice inb 0 inputs.length 1 inf, iv 0, .nilSlice]) nt 0 ?_ ?_ ?_ ?_
 ·exact ze.of_list ⟨rfl, rfl, rfl, rfl, rfl, rfl, trivial⟩
 ·exact ⟨rfl, Nat.zero_le _, Nat.le_refl _, _, .nilSlice, k15, F7, qd _ _ _, .inl ⟨rfl, rfl⟩⟩
 ·rintro μ k H1 nx1 ⟨rfl, hkn, hnx, Γ1, tv, hk1, sub1, ew1, htv⟩
  rw [qf8]
  unfold LWT
  rw [qK]; simp only [decide_eq_true_eq, decide_eq_false_iff_not]
  refine ⟨fun hlt => ?_, fun hge => ?_⟩
  ·have hlt' : k < nt := by omega
   obtain ⟨hlen, kd, nm, el, ml, hcs, hml⟩ := hty k hlt'
   have etb1 := sub1 _ _ (F0 _ _ etb)
   have i0 : idxS (.slice tb 0 nt 5 tf) ((k : Int)).toNat 5 = some (.ptr tb (k * 5)) := by rw [Int.toNat_natCast, zG hlt', Nat.zero_add]
   have l0 : ldN H1 5 (.ptr tb (k * 5)) = some (.agg [iv kd, .str nm, iv el, .nilSlice, ml]) := by rw [hk1.ldN etb1 hlen, hcs]
   have st7 : stC (newB nx1 [iv 0, .str [], iv 0, .nilSlice, .nilSlice] H1) (.ptr nx1 0) [iv kd, .str nm, iv el, .nilSlice, ml] = some (newB nx1 [iv kd, .str nm, iv el, .nilSlice, ml] H1) := Zp rfl (by simp only [qq, hml]; rfl)
   have k7 := hk1.new (b := nx1) (nx' := nx1 + 1) (by omega) (by omega) [iv kd, .str nm, iv el, .nilSlice, ml]
   have k12 := k7.new (b := nx1 + 8) (nx' := nx1 + 9) (by omega) (by omega) []
   have k23 := k12.new (b := nx1 + 13) (nx' := nx1 + 18) (by omega) (by omega) [iv kd, .str [], iv 0, .slice (nx1 + 8) 0 0 2 true, .nilSlice]
   have lw : i14 < nx1 := by omega
   have w7 : ld1 (newB nx1 [iv kd, .str nm, iv el, .nilSlice, ml] H1) (.ptr i14 0) = some tv := by rw [k7.ld1 (by rw [qf (by omega)]; exact ew1)]; rfl
   have n7 : ld1 (newB nx1 [iv kd, .str nm, iv el, .nilSlice, ml] H1) (.ptr nx1 0) = some (iv kd) := by rw [k7.ld1 (qd _ _ _)]; rfl
   have w12 : ld1 (newB (nx1 + 8) [] (newB nx1 [iv kd, .str nm, iv el, .nilSlice, ml] H1)) (.ptr i14 0) = some tv := by rw [k12.ld1 (by rw [qf (by omega), qf (by omega)]; exact ew1)]; rfl
   have n12 : ld1 (newB (nx1 + 8) [] (newB nx1 [iv kd, .str nm, iv el, .nilSlice, ml] H1)) (.ptr nx1 0) = some (iv kd) := by rw [k12.ld1 (by rw [qf (by omega), qd])]; rfl
   have f12 : ld1 (newB (nx1 + 8) [] (newB nx1 [iv kd, .str nm, iv el, .nilSlice, ml] H1)) (.ptr nx1 3) = some .nilSlice := by rw [k12.ld1 (by rw [qf (by omega), qd])]; rfl
   have w23 : ld1 (newB (nx1 + 13) [iv kd, .str [], iv 0, .slice (nx1 + 8) 0 0 2 true, .nilSlice] (newB (nx1 + 8) [] (newB nx1 [iv kd, .str nm, iv el, .nilSlice, ml] H1))) (.ptr i14 0) = some tv := by rw [k23.ld1 (by rw [qf (by omega), qf (by omega), qf (by omega)]; exact ew1)]; rfl
   have n23 : ld1 (newB (nx1 + 13) [iv kd, .str [], iv 0, .slice (nx1 + 8) 0 0 2 true, .nilSlice] (newB (nx1 + 8) [] (newB nx1 [iv kd, .str nm, iv el, .nilSlice, ml] H1))) (.ptr nx1 0) = some (iv kd) := by rw [k23.ld1 (by rw [qf (by omega), qf (by omega), qd])]; rfl
   have s23 : aSrc 5 (newB (nx1 + 13) [iv kd, .str [], iv 0, .slice (nx1 + 8) 0 0 2 true, .nilSlice] (newB (nx1 + 8) [] (newB nx1 [iv kd, .str nm, iv el, .nilSlice, ml] H1))) (.slice (nx1 + 13) 0 1 5 true) = some (1, [iv kd, .str [], iv 0, .slice (nx1 + 8) 0 0 2 true, .nilSlice]) := by
    rw [k23.src (qd _ _ _) (by simp)]; rfl
   have hap : ∃ b H29 i30 Γ29 cs29, appC (newB (nx1 + 13) [iv kd, .str [], iv 0, .slice (nx1 + 8) 0 0 2 true, .nilSlice] (newB (nx1 + 8) [] (newB nx1 [iv kd, .str nm, iv el, .nilSlice, ml] H1))) (nx1 + 18) 5 80 tv 1 [iv kd, .str [], iv 0, .slice (nx1 + 8) 0 0 2 true, .nilSlice] = some (.slice b 0 (k + 1) 5 false, H29, i30) ∧
     HOK Γ29 H29 i30 ∧ nx1 ≤ i30 ∧ Γ29 b = some cs29 ∧ (k + 1) * 5 ≤ cs29.length ∧ nx1 ≤ b ∧ (∀ c ds, F c = some ds → Γ29 c = some ds) ∧ Γ29 i14 = some [tv, .ptr (nx + 2) 0, .nilSlice, .slice inb 0 inputs.length 1 inf, iv 0, .nilSlice] := by
    have subF : ∀ c ds, F c = some ds → gup (nx1 + 13) (some [iv kd, .str [], iv 0, .slice (nx1 + 8) 0 0 2 true, .nilSlice]) (gup (nx1 + 8) (some []) (gup nx1 (some [iv kd, .str nm, iv el, .nilSlice, ml]) Γ1)) c = some ds := fun c ds ec => by
     have := F6 _ _ ec
     rw [qf (by omega), qf (by omega), qf (by omega)]; exact sub1 _ _ ec
    have subW : gup (nx1 + 13) (some [iv kd, .str [], iv 0, .slice (nx1 + 8) 0 0 2 true, .nilSlice]) (gup (nx1 + 8) (some []) (gup nx1 (some [iv kd, .str nm, iv el, .nilSlice, ml]) Γ1)) i14 = some [tv, .ptr (nx + 2) 0, .nilSlice, .slice inb 0 inputs.length 1 inf, iv 0, .nilSlice] := by
     rw [qf (by omega), qf (by omega), qf (by omega)]; exact ew1
    rcases htv with ⟨rfl, rfl⟩ | ⟨b, cs, rfl, hb1, hb2, hb3, hb4⟩
    ·obtain ⟨H', a1, a2⟩ := k23.appNil (esz := 5) (ebytes := 80) (k := 1) (new := [iv kd, .str [], iv 0, .slice (nx1 + 8) 0 0 2 true, .nilSlice]) rfl (by omega) (by omega) (by omega)
     refine ⟨_, H', _, _, _, a1, a2, by omega, qd _ _ _, by simp, by omega, fun c ds ec => ?_, ?_⟩
     ·have := F6 _ _ ec
      rw [qf (by omega)]; exact subF _ _ ec
     ·rw [qf (by omega)]; exact subW
    ·have lb := hk1.lt hb1
     obtain ⟨H', a1, a2⟩ := k23.app (b := b) (len := k) (esz := 5) (ebytes := 80) (k := 1) (new := [iv kd, .str [], iv 0, .slice (nx1 + 8) 0 0 2 true, .nilSlice]) (by rw [qf (by omega), qf (by omega), qf (by omega)]; exact hb1) hb2 rfl (by omega) (by omega) (by omega)
     refine ⟨_, H', _, _, _, a1, a2, by omega, qd _ _ _, ?_, by omega, fun c ds ec => ?_, ?_⟩
     ·rw [List.length_append, List.length_take]; simp; omega
     ·have := F6 _ _ ec
      have hcb : c ≠ b := fun e => by rw [e, hb3] at ec; cases ec
      rw [qf (by omega), qf hcb]; exact subF _ _ ec
     ·rw [qf (by omega), qf (fun e => hb4 e.symm)]; exact subW
   obtain ⟨b29, H29, i30, Γ29, cs29, a1, k29, l30, eb29, lb29, gb29, sub29, ew29⟩ := hap
   obtain ⟨H32, s1, s2⟩ := k29.st (b := i14) (off := 0) (vs := [.slice b29 0 (k + 1) 5 false]) ew29 (by simp) rfl
   have ew : IntKind.i64.wrap ((k : Int) + 1) = ((k + 1 : Nat) : Int) := by rw [zm (by omega) (by omega)]; omega
   refine ⟨by omega, _, i0, _, _, _, _, _, l0, _, rfl, _, st7, trivial, _, rfl, _, w7, _, rfl, _, n7, _, rfl, _, rfl, _, f12, ?_, _, _, rfl, rfl, _, _, _, rfl, trivial, rfl, _, rfl, ?_, _, _, s23, rfl, _, _, _, a1, trivial, _, rfl, trivial, rfl, _, s1, trivial, ?_⟩
   ·exact ⟨⟨_, w12, rfl⟩, ⟨_, n12, rfl⟩, ⟨_, f12, rfl⟩, trivial⟩
   ·exact ⟨⟨_, w23, rfl⟩, ⟨_, n23, rfl⟩, trivial⟩
   ·refine ⟨by first | rfl | trivial, nt - (k + 1), k + 1, by omega, ze.of_list ⟨?_, rfl, rfl, rfl, rfl, rfl, trivial⟩, rfl, by omega, by omega, _, .slice b29 0 (k + 1) 5 false, s2, fun c ds ec => ?_, ?_, ?_⟩
    ·show AVal.int .i64 _ = _
     rw [ew]
    ·have hc : c ≠ i14 := fun e => by rw [e, F5] at ec; cases ec
     rw [qf hc]; exact sub29 _ _ ec
    ·rw [qd]; rfl
    ·refine .inr ⟨b29, cs29, rfl, by rw [qf (by omega)]; exact eb29, lb29, ?_, by omega⟩
     cases e : F b29 with
     | none => rfl
     | some ds => have := F6 _ _ e; omega
  ·exact ⟨by first | rfl | trivial, (), ze.of_list ⟨rfl, rfl, rfl, trivial⟩, by first | rfl | trivial, hnx, Γ1, tv, hk1, sub1, ew1⟩
 ·rintro id _ H1 nx1 ⟨rfl, hnx, Γ1, tv, hk1, sub1, ew1⟩
  rw [qev]
  unfold AWT
  have e3 : ld1 H1 (.ptr nx 3) = some .nilSlice := by rw [hk1.ld1 (sub1 _ _ F1)]; rfl
  refine ⟨_, rfl, _, e3, _, rfl, ?_⟩
  refine yO qy (X := Unit) (Y := Unit) (fun _ => envL .und [(59, iv (0 : Nat)), (58, iv (0 : Nat)), (57, .nilSlice), (10, .ptr i14 0), (8, .ptr (nx + 2) 0), (3, .ptr nx 0)]) (fun _ => envL .und [(10, .ptr i14 0), (8, .ptr (nx + 2) 0), (3, .ptr nx 0)])
   (fun μ _ H' nx' => H' = H1 ∧ nx' = nx1) (fun id _ H' nx' => id = 2 ∧ H' = H1 ∧ nx' = nx1) 0 () ?_ ⟨rfl, rfl⟩ ?_ ?_
  ·exact ze.of_list ⟨rfl, rfl, rfl, rfl, rfl, rfl, trivial⟩
  ·rintro μ _ H2 nx2 ⟨rfl, rfl⟩
   rw [qfk]
   unfold LWX
   refine qE (by simp) ?_
   exact ⟨by first | rfl | trivial, (), ze.of_list ⟨rfl, rfl, rfl, trivial⟩, by first | rfl | trivial, rfl, rfl⟩
  ·rintro id _ H2 nx2 ⟨rfl, rfl, rfl⟩
   rw [qeq]
   unfold AWX
   exact hK Γ1 H2 nx2 i14 (nx + 2) (nx + 1) inb inf tv hk1 ⟨by omega, fun c ds ec => sub1 _ _ (F0 _ _ ec), ⟨by omega, by omega, by omega, by omega⟩, ⟨by omega, by omega, by omega, by omega, by omega, by omega⟩, ew1, sub1 _ _ F3, sub1 _ _ F2, sub1 _ _ F4⟩
theorem X5 {Γ : GH} {H : Heap} {nx fb off len e n : Nat} {full : Bool} {p0 p3 p4 : AVal} {p2 : Int} {K : EndP} (hk : HOK Γ H nx) (hf : FnAt Γ (.slice fb off len e full) p2 n) (hn : n < 1000000) (hlen : len < 1000000) (h2 : p2 < len)
  (hp : qD p0 = true ∧ qD p3 = true ∧ qD p4 = true)
  (hK : ∀ Γ' H' nx' x lb, nx ≤ x → nx ≤ lb → lb ≠ x → x < nx' → HOK Γ' H' nx' → Γ' x = some [iv p2, iv 0, .slice lb 0 n 1 true, .nilSlice] → Γ' lb = some (uvs (List.replicate n 0)) → (∀ c ds, Γ c = some ds → Γ' c = some ds) → K (.ret (.slice x 0 1 4 true)) H' nx') :
  TriP Tryz.prog 31 [.agg [p0, .slice fb off len e full, iv p2, p3, p4]] H nx K := by
 refine TriP.of_body qy ?_
 rw [Xq]
 unfold qb7
 have k0 := hk.new (b := nx) (nx' := nx + 1) (by omega) (by omega) [p0, .slice fb off len e full, iv p2, p3, p4]
 have e2 : ld1 (newB nx [p0, .slice fb off len e full, iv p2, p3, p4] H) (.ptr nx 2) = some (iv p2) := by rw [k0.ld1 (qd _ _ _)]; rfl
 have e1 : ld1 (newB nx [p0, .slice fb off len e full, iv p2, p3, p4] H) (.ptr nx 1) = some (.slice fb off len e full) := by rw [k0.ld1 (qd _ _ _)]; rfl
 have eN : ldN (newB nx [p0, .slice fb off len e full, iv p2, p3, p4] H) 5 (.ptr nx 0) = some (.agg [p0, .slice fb off len e full, iv p2, p3, p4]) := by rw [k0.ldN (qd _ _ _) (by simp)]; rfl
 have hnn := hf.nn
 have hsub : ∀ c ds, Γ c = some ds → gup nx (some [p0, .slice fb off len e full, iv p2, p3, p4]) Γ c = some ds := fun c ds ec => by have := hk.lt ec; rw [qf (by omega)]; exact ec
 have hf' : FnAt (gup nx (some [p0, .slice fb off len e full, iv p2, p3, p4]) Γ) (.slice fb off len e full) p2 n := by
  obtain ⟨b, o, l, e', f', cs, lv, h1, h2, h3, h4, h5⟩ := hf.ex
  exact ⟨hf.nn, b, o, l, e', f', cs, lv, h1, h2, hsub _ _ h3, h4, h5⟩
 refine ⟨_, rfl, _, rfl, _, e2, qE (by omega) ⟨_, rfl, _, e2, _, rfl, _, e1, _, rfl, qE (by simp only [Int.ofNat_eq_natCast]; omega) ⟨_, _, _, _, _, eN, _, rfl, _, e2, ?_⟩⟩⟩
 refine KF (Γ := gup nx (some [p0, .slice fb off len e full, iv p2, p3, p4]) Γ) (own := fun _ => 0) (role := 0) (l := []) k0 hf' hn (fun b off len e full h => by cases h; exact hlen) (.inl ⟨rfl, rfl⟩) (by simp) ⟨hp.1, rfl, hp.2.1, hp.2.2⟩ fun Γ2 H2 nx2 l2 k2 eb2 sub2 _ => ?_
 rw [qc]
 refine ⟨_, _, _, _, rfl, _, rfl, ?_⟩
 have k3 := k2.new (b := nx2) (nx' := nx2 + 1) (by omega) (by omega) [iv p2, iv 0, .slice (nx + 1 + 2) 0 n 1 true, .nilSlice]
 have := k2.lt eb2
 refine hK _ _ _ nx2 (nx + 1 + 2) (by omega) (by omega) (by omega) (by omega) k3 (qd _ _ _) ?_ fun c ds ec => ?_
 ·rw [qf (by omega)]
  simpa using eb2
 ·have := hk.lt ec
  rw [qf (by omega)]; exact sub2 _ _ (hsub _ _ ec)
end Go.Vs
end
