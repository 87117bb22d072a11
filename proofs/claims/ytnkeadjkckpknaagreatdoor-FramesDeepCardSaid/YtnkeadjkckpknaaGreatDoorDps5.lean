/-
  Own work. Texts of a proof,laid together; no condition.
-/
import Derived.Test.YtnkeadjkckpknaaGreatDoorChecked
import Derived.Test.YtnkeadjkckpknaaGreatDoorDps4
set_option linter.unusedSectionVars false
set_option linter.unusedVariables false
set_option linter.unusedSimpArgs false
set_option maxRecDepth 1000000
section
namespace Go.Vs
open Go.Ev (ilt)
open Go.Proofs
variable [GTab]
abbrev uv (n : Int) : AVal := .int .u64 n
abbrev iv (n : Int) : AVal := .int .i64 n
theorem qw : Tryz.prog.follows .mixedOrders = true := by kernel_rfl
def FRun (call : qh) (lp : Nat → qj) (lv : ql) (lvc : qk) (m : Nat) (n : Int) (H : Heap) (nx : Nat) (K : EndP) : Prop :=
 lp 21 (qY (qs Tryz.prog 16) [1,1,0,0,0]) (envL (AVal.tuple []) [(5,iv 0),(4,iv 0),(1,iv n),(0,AVal.ptr m 0)]) H nx [] none (zW Tryz.prog call (lp 21) 21
 (qs Tryz.prog 16) [1,1,0,0] (endK Tryz.prog lv lvc K (kj Tryz.prog 16)))
theorem qdi (call : qh) (lp : Nat → qj) (lv : ql) (lvc : qk) (m : Nat) (n : Int) (H : Heap) (nx : Nat) (K : EndP) : q9 Tryz.prog call lp 16 [AVal.ptr m 0,iv n] H nx (endK Tryz.prog lv lvc K) = FRun call lp lv lvc m n H nx K := by kernel_rfl
def qf1 (call : qh) (_lp : Nat → qj) (_lv : ql) (_lvc : qk) (m : Nat) (H : Heap) (nx : Nat) (K : EndP) : Prop :=
 true = true ∧ ∃ v0,some (AVal.ptr m 7) = some v0 ∧ ∃ n1 : Int,ld1 H v0 = some (iv n1) ∧ ifB (!decide (n1 = 0)) (true = true ∧ ∃ v2,some (AVal.ptr m 7) = some v2 ∧ ∃ n3 : Int,ld1
 H v2 = some (iv n3) ∧ K (AEnd.ret (iv n3)) H nx) (true = true ∧ ∃ v4,some (AVal.ptr m 9) = some v4 ∧ ∃ v5,ld1 H v4 = some v5 ∧ true = true ∧ ∃ v6,some (AVal.ptr m 0) = some v6 ∧
 ∃ v7,qJ v6 1 = some v7 ∧ ∃ v8,ld1 H v7 = some v8 ∧ zh v5 = true ∧ ∃ v9,qJ v5 0 = some v9 ∧ ∃ n10 : Int,ld1 H v9 = some (iv n10) ∧ 0 ≤ n10 ∧ ∃ v11,idxS v8 n10.toNat
 5 = some v11 ∧ ∃ v12,qJ v11 4 = some v12 ∧ ∃ v13,ld1 H v12 = some v13 ∧ zh v5 = true ∧ ∃ v14,qJ v5 1 = some v14 ∧ ∃ n15 : Int,ld1 H v14 = some (iv n15) ∧ 0 ≤ n15 ∧ ∃
 v16,idxS v13 n15.toNat 3 = some v16 ∧ ∃ n17 n18 n19 : Int,ldN H 3 v16 = some (AVal.agg [iv n17,iv n18,iv n19]) ∧ ∃ H20,H20 = newB (nx + 18) [iv 0,iv 0,iv 0] H ∧ ((∃ v21,ld1
 H20 v7 = some v21 ∧ v21 = v8) ∧ (∃ n22 : Int,ld1 H20 v9 = some (iv n22) ∧ iv n22 = iv n10) ∧ (∃ v23,ld1 H20 v12 = some v23 ∧ v23 = v13) ∧ (∃ n24 : Int,ld1 H20 v14 = some (iv n24)
 ∧ iv n24 = iv n15) ∧ (∃ n25 n26 n27 : Int,ldN H20 3 v16 = some (AVal.agg [iv n25,iv n26,iv n27]) ∧ AVal.agg [iv n25,iv n26,iv n27] = AVal.agg [iv n17,iv n18,iv n19]) ∧ True)
 ∧ ∃ H28,stC H20 (AVal.ptr (nx + 18) 0) [iv n17,iv n18,iv n19] = some H28 ∧ True ∧ ∃ v29,some (AVal.ptr (nx + 18) 0) = some v29 ∧ ∃ n30 : Int,ld1 H28 v29 = some (iv n30) ∧ ifB
 (decide (n30 = 36)) (∃ n31 n32 n33 : Int,ldN H28 3 (AVal.ptr (nx + 18) 0) = some (AVal.agg [iv n31,iv n32,iv n33]) ∧ call 51 [AVal.ptr m 0,AVal.agg [iv n31,iv n32,iv n33]] H28
 (nx + 20) fun e34 H35 i36 => qi e34 (fun v37 => true = true ∧ ∃ v38,some (AVal.ptr m 7) = some v38 ∧ ∃ n39 : Int,ld1 H35 v38 = some (iv n39) ∧ K (AEnd.ret (iv n39)) H35 i36)
 fun l40 => K (AEnd.pan l40) H35 i36) (∃ v41,some (AVal.ptr (nx + 18) 0) = some v41 ∧ ∃ n42 : Int,ld1 H28 v41 = some (iv n42) ∧ ifB (decide (n42 = 37)) (∃ n43 n44 n45 : Int,ldN
 H28 3 (AVal.ptr (nx + 18) 0) = some (AVal.agg [iv n43,iv n44,iv n45]) ∧ call 51 [AVal.ptr m 0,AVal.agg [iv n43,iv n44,iv n45]] H28 (nx + 20) fun e46 H47 i48 => qi e46 (fun
 v49 => true = true ∧ ∃ v50,some (AVal.ptr m 7) = some v50 ∧ ∃ n51 : Int,ld1 H47 v50 = some (iv n51) ∧ K (AEnd.ret (iv n51)) H47 i48) fun l52 => K (AEnd.pan l52) H47 i48) (∃ v53,
 some (AVal.ptr (nx + 18) 0) = some v53 ∧ ∃ n54 : Int,ld1 H28 v53 = some (iv n54) ∧ ifB (decide (n54 = 41)) (∃ v55,some (AVal.ptr (nx + 18) 1) = some v55 ∧ ∃ n56 : Int,ld1 H28 v55
 = some (iv n56) ∧ call 52 [AVal.ptr m 0,iv n56] H28 (nx + 20) fun e57 H58 i59 => qi e57 (fun v60 => true = true ∧ ∃ v61,some (AVal.ptr m 7) = some v61 ∧ ∃ n62 : Int,ld1 H58
 v61 = some (iv n62) ∧ K (AEnd.ret (iv n62)) H58 i59) fun l63 => K (AEnd.pan l63) H58 i59) (∃ n64 n65 n66 : Int,ldN H28 3 (AVal.ptr (nx + 18) 0) = some (AVal.agg [iv n64,iv n65,iv
 n66]) ∧ call 53 [AVal.ptr m 0,AVal.agg [iv n64,iv n65,iv n66]] H28 (nx + 20) fun e67 H68 i69 => qi e67 (fun v70 => ∃ b71,v70 = AVal.bool b71 ∧ ifB b71 (true = true ∧ ∃ v72,
 some (AVal.ptr m 7) = some v72 ∧ ∃ n73 : Int,ld1 H68 v72 = some (iv n73) ∧ K (AEnd.ret (iv n73)) H68 i69) (∃ n74 n75 n76 : Int,ldN H68 3 (AVal.ptr (nx + 18) 0) = some (AVal.agg
 [iv n74,iv n75,iv n76]) ∧ call 54 [AVal.ptr m 0,AVal.agg [iv n74,iv n75,iv n76]] H68 i69 fun e77 H78 i79 => qi e77 (fun v80 => ∃ n81 : Int,v80 = iv n81 ∧ ifB (!decide (n81
 = 0)) (call 55 [AVal.ptr m 0,iv n81] H78 i79 fun e82 H83 i84 => qi e82 (fun v85 => true = true ∧ ∃ v86,some (AVal.ptr m 7) = some v86 ∧ ∃ n87 : Int,ld1 H83 v86 = some (iv n87)
 ∧ K (AEnd.ret (iv n87)) H83 i84) fun l88 => K (AEnd.pan l88) H83 i84) (zh v5 = true ∧ ∃ v89,qJ v5 1 = some v89 ∧ ∃ n90 : Int,ld1 H78 v89 = some (iv n90) ∧ zh v5 = true
 ∧ ∃ v91,qJ v5 1 = some v91 ∧ true = true ∧ ∃ H92,stC H78 v91 [iv (IntKind.i64.wrap (n90 + 1))] = some H92 ∧ true = true ∧ ∃ v93,some (AVal.ptr m 7) = some v93 ∧ ∃ n94 : Int,
 ld1 H92 v93 = some (iv n94) ∧ K (AEnd.ret (iv n94)) H92 i79)) fun l95 => K (AEnd.pan l95) H78 i79)) fun l96 => K (AEnd.pan l96) H68 i69))))
theorem YP (call : qh) (lp : Nat → qj) (lv : ql) (lvc : qk) (m : Nat) (H : Heap) (nx : Nat) (K : EndP) : q9 Tryz.prog call lp 33 [AVal.ptr m 0] H nx (endK Tryz.prog lv lvc K) = qf1 call lp lv lvc m H nx K := by kernel_rfl
def Fset (_call : qh) (_lp : Nat → qj) (_lv : ql) (_lvc : qk) (m : Nat) (l : AVal) (H : Heap) (nx : Nat) (K : EndP) : Prop :=
 true = true ∧ ∃ v0,some (AVal.ptr m 6) = some v0 ∧ qx l = true ∧ ∃ H1,stC H v0 [l] = some H1 ∧ true = true ∧ ∃ v2,some (AVal.ptr m 9) = some v2 ∧ true = true ∧ ∃ H3,stC H1 v2
 [AVal.nilPtr] = some H3 ∧ ∃ i4,lenS l = some i4 ∧ ifB (decide (0 < Int.ofNat i4)) (∃ i5,lenS l = some i5 ∧ 0 ≤ IntKind.i64.wrap (Int.ofNat i5 - 1) ∧ ∃ v6,idxS l (IntKind.i64.wrap
 (Int.ofNat i5 - 1)).toNat 4 = some v6 ∧ true = true ∧ ∃ v7,some (AVal.ptr m 9) = some v7 ∧ qx v6 = true ∧ ∃ H8,stC H3 v7 [v6] = some H8 ∧ K (AEnd.ret (AVal.tuple [])) H8 nx) (K
 (AEnd.ret (AVal.tuple [])) H3 nx)
theorem qd3 (call : qh) (lp : Nat → qj) (lv : ql) (lvc : qk) (m : Nat) (l : AVal) (H : Heap) (nx : Nat) (K : EndP) : q9 Tryz.prog call lp 30 [AVal.ptr m 0,l] H nx (endK Tryz.prog lv lvc K) = Fset call lp lv lvc m l H nx K := by kernel_rfl
def qe3 (call : qh) (lp : Nat → qj) (lv : ql) (lvc : qk) (m : Nat) (op : Int) (a : Int) (b : Int) (H : Heap) (nx : Nat) (K : EndP) : Prop :=
 ∃ H0,H0 = kB nx [iv op,iv a,iv b].length [iv op,iv a,iv b] H ∧ ∃ n1 n2 n3 : Int,ldN H0 3 (AVal.ptr nx 0) = some (AVal.agg [iv n1,iv n2,iv n3]) ∧ call 91 [AVal.ptr m 0,
 AVal.agg [iv n1,iv n2,iv n3]] H0 (nx + 1) fun e4 H5 i6 => qi e4 (fun v7 => ∃ n8 : Int,v7 = iv n8 ∧ ifB (decide (n8 < 0)) (call 55 [AVal.ptr m 0,iv 3] H5 i6 fun e9 H10 i11 =>
 qi e9 (fun v12 => K (AEnd.ret (AVal.tuple [])) H10 i11) fun l13 => K (AEnd.pan l13) H10 i11) (true = true ∧ ∃ v14,some (AVal.ptr m 6) = some v14 ∧ ∃ v15,ld1 H5 v14 = some v15 ∧
 ∃ i16,lenS v15 = some i16 ∧ ifB (decide (30 ≤ Int.ofNat i16)) (call 55 [AVal.ptr m 0,iv 6] H5 i6 fun e17 H18 i19 => qi e17 (fun v20 => K (AEnd.ret (AVal.tuple [])) H18 i19) fun
 l21 => K (AEnd.pan l21) H18 i19) (∃ v22,some (AVal.ptr nx 2) = some v22 ∧ ∃ n23 : Int,ld1 H5 v22 = some (iv n23) ∧ lp 56 (qY (qs Tryz.prog 51) [1,1,1,1,0,1,0,0])
 (envL (AVal.tuple []) [(6,iv (IntKind.i64.wrap (n23 - 1))),(26,iv (IntKind.i64.wrap (n23 - 1))),(25,iv n23),(24,v22),(5,AVal.nilSlice),(15,AVal.bool false),(15,
 AVal.bool (decide (30 ≤ Int.ofNat i16))),(21,AVal.bool (decide (30 ≤ Int.ofNat i16))),(20,iv (Int.ofNat i16)),(19,v15),(18,v14),(17,AVal.ptr m 0),(16,AVal.ptr m 0),(10,
 AVal.bool false),(10,AVal.bool (decide (n8 < 0))),(12,AVal.bool (decide (n8 < 0))),(11,iv n8),(4,iv n8),(9,iv n8),(8,AVal.agg [iv n1,iv n2,iv n3]),(7,AVal.ptr m 0),
 (3,AVal.ptr nx 0),(1,AVal.agg [iv op,iv a,iv b]),(0,AVal.ptr m 0)]) H5 i6 [] none (zW Tryz.prog call (lp 56) 56 (qs Tryz.prog 51) [1,1,1,1,0,1,0] (endK
 Tryz.prog lv lvc K (kj Tryz.prog 51)))))) fun l24 => K (AEnd.pan l24) H5 i6
theorem qbr (call : qh) (lp : Nat → qj) (lv : ql) (lvc : qk) (m : Nat) (op : Int) (a : Int) (b : Int) (H : Heap) (nx : Nat) (K : EndP) : q9 Tryz.prog call lp 51 [AVal.ptr m 0,AVal.agg [iv op,iv a,iv b]] H nx (endK Tryz.prog lv lvc K) = qe3 call lp lv lvc m op a b H nx K := by kernel_rfl
def Fret (call : qh) (_lp : Nat → qj) (_lv : ql) (_lvc : qk) (m : Nat) (a : Int) (H : Heap) (nx : Nat) (K : EndP) : Prop :=
 call 92 [AVal.ptr m 0,iv 0] H nx fun e0 H1 i2 => qi e0 (fun v3 => ∃ n4 : Int,v3 = uv n4 ∧ true = true ∧ ∃ v5,some (AVal.ptr m 6) = some v5 ∧ ∃ v6,ld1 H1 v5
 = some v6 ∧ true = true ∧ ∃ v7,some (AVal.ptr m 6) = some v7 ∧ ∃ v8,ld1 H1 v7 = some v8 ∧ ∃ i9,lenS v8 = some i9 ∧ 0 ≤ IntKind.i64.wrap (Int.ofNat i9 - 1) ∧ ∃ v10,slcS v6 4 0
 (some (IntKind.i64.wrap (Int.ofNat i9 - 1)).toNat) = some v10 ∧ ((∃ v11,ld1 H1 v5 = some v11 ∧ v11 = v6) ∧ (∃ v12,ld1 H1 v7 = some v12 ∧ v12 = v8) ∧ (0 ≤ IntKind.i64.wrap
 (Int.ofNat i9 - 1) ∧ ∃ v13,slcS v6 4 0 (some (IntKind.i64.wrap (Int.ofNat i9 - 1)).toNat) = some v13 ∧ v13 = v10) ∧ True) ∧ call 30 [AVal.ptr m 0,v10] H1 (i2 + 13) fun e14 H15 i16
 => qi e14 (fun v17 => True ∧ true = true ∧ ∃ v18,some (AVal.ptr m 9) = some v18 ∧ ∃ v19,ld1 H15 v18 = some v19 ∧ ∃ b20,nilK NK.ptr v19 = some b20 ∧ ifB b20 (true = true ∧ ∃
 v21,some (AVal.ptr m 7) = some v21 ∧ true = true ∧ ∃ H22,stC H15 v21 [iv 1] = some H22 ∧ K (AEnd.ret (AVal.tuple [])) H22 i16) (ifB (decide (a = 1)) (call 94 [AVal.ptr m 0,
 uv n4] H15 i16 fun e23 H24 i25 => qi e23 (fun v26 => true = true ∧ ∃ v27,some (AVal.ptr m 9) = some v27 ∧ ∃ v28,ld1 H24 v27 = some v28 ∧ zh v28 = true ∧ ∃
 v29,qJ v28 1 = some v29 ∧ ∃ n30 : Int,ld1 H24 v29 = some (iv n30) ∧ zh v28 = true ∧ ∃ v31,qJ v28 1 = some v31 ∧ true = true ∧ ∃ H32,stC H24 v31 [iv (IntKind.i64.wrap
 (n30 + 1))] = some H32 ∧ K (AEnd.ret (AVal.tuple [])) H32 i25) fun l33 => K (AEnd.pan l33) H24 i25) (true = true ∧ ∃ v34,some (AVal.ptr m 9) = some v34 ∧ ∃ v35,ld1 H15 v34 = some
 v35 ∧ zh v35 = true ∧ ∃ v36,qJ v35 1 = some v36 ∧ ∃ n37 : Int,ld1 H15 v36 = some (iv n37) ∧ zh v35 = true ∧ ∃ v38,qJ v35 1 = some v38 ∧ true = true ∧ ∃ H39,stC
 H15 v38 [iv (IntKind.i64.wrap (n37 + 1))] = some H39 ∧ K (AEnd.ret (AVal.tuple [])) H39 i16))) fun l40 => K (AEnd.pan l40) H15 i16) fun l41 => K (AEnd.pan l41) H1 i2
theorem qcb (call : qh) (lp : Nat → qj) (lv : ql) (lvc : qk) (m : Nat) (a : Int) (H : Heap) (nx : Nat) (K : EndP) : q9 Tryz.prog call lp 52 [AVal.ptr m 0,iv a] H nx (endK Tryz.prog lv lvc K) = Fret call lp lv lvc m a H nx K := by kernel_rfl
def qad (call : qh) (_lp : Nat → qj) (_lv : ql) (_lvc : qk) (m : Nat) (op : Int) (a : Int) (b : Int) (H : Heap) (nx : Nat) (K : EndP) : Prop :=
 ∃ H0,H0 = kB nx [iv op,iv a,iv b].length [iv op,iv a,iv b] H ∧ ∃ v1,some (AVal.ptr nx 0) = some v1 ∧ ∃ n2 : Int,ld1 H0 v1 = some (iv n2) ∧ ifB (decide (n2 = 26)) (true =
 true ∧ ∃ v3,some (AVal.ptr m 9) = some v3 ∧ ∃ v4,ld1 H0 v3 = some v4 ∧ ∃ v5,some (AVal.ptr nx 1) = some v5 ∧ ∃ n6 : Int,ld1 H0 v5 = some (iv n6) ∧ zh v4 = true ∧ ∃ v7,
 qJ v4 1 = some v7 ∧ ((∃ v8,ld1 H0 v3 = some v8 ∧ v8 = v4) ∧ (∃ n9 : Int,ld1 H0 v5 = some (iv n9) ∧ iv n9 = iv n6) ∧ True) ∧ true = true ∧ ∃ H10,stC H0 v7 [iv n6] = some H10 ∧
 True ∧ K (AEnd.ret (AVal.bool true)) H10 (nx + 1 + 9)) (ifB (decide (n2 = 27)) (true = true ∧ ∃ v11,some (AVal.ptr m 9) = some v11 ∧ ∃ v12,ld1 H0 v11 = some v12 ∧ zh v12 =
 true ∧ ∃ v13,qJ v12 1 = some v13 ∧ ∃ n14 : Int,ld1 H0 v13 = some (iv n14) ∧ zh v12 = true ∧ ∃ v15,qJ v12 1 = some v15 ∧ true = true ∧ ∃ H16,stC H0 v15 [iv
 (IntKind.i64.wrap (n14 + 1))] = some H16 ∧ call 95 [AVal.ptr m 0] H16 (nx + 1) fun e17 H18 i19 => qi e17 (fun v20 => ∃ n21 : Int,v20 = uv n21 ∧ ifB (decide
 (n21 = 0)) (true = true ∧ ∃ v22,some (AVal.ptr m 9) = some v22 ∧ ∃ v23,ld1 H18 v22 = some v23 ∧ ∃ v24,some (AVal.ptr nx 1) = some v24 ∧ ∃ n25 : Int,ld1 H18 v24 = some (iv n25) ∧
 zh v23 = true ∧ ∃ v26,qJ v23 1 = some v26 ∧ ((∃ v27,ld1 H18 v22 = some v27 ∧ v27 = v23) ∧ (∃ n28 : Int,ld1 H18 v24 = some (iv n28) ∧ iv n28 = iv n25) ∧ True) ∧ true =
 true ∧ ∃ H29,stC H18 v26 [iv n25] = some H29 ∧ True ∧ K (AEnd.ret (AVal.bool true)) H29 (i19 + 9)) (K (AEnd.ret (AVal.bool true)) H18 i19)) fun l30 => K (AEnd.pan l30) H18 i19) (K
 (AEnd.ret (AVal.bool false)) H0 (nx + 1)))
theorem XT (call : qh) (lp : Nat → qj) (lv : ql) (lvc : qk) (m : Nat) (op : Int) (a : Int) (b : Int) (H : Heap) (nx : Nat) (K : EndP) : q9 Tryz.prog call lp 53 [AVal.ptr m 0,AVal.agg [iv op,iv a,iv b]] H nx (endK Tryz.prog lv lvc K) = qad call lp lv lvc m op a b H nx K := by kernel_rfl
def qed (call : qh) (_lp : Nat → qj) (_lv : ql) (_lvc : qk) (m : Nat) (op : Int) (a : Int) (b : Int) (H : Heap) (nx : Nat) (K : EndP) : Prop :=
 ∃ H0,H0 = kB nx [iv op,iv a,iv b].length [iv op,iv a,iv b] H ∧ call 92 [AVal.ptr m 0,iv 1] H0 (nx + 1) fun e1 H2 i3 => qi e1 (fun v4 => ∃ n5 : Int,v4 = AVal.int
 IntKind.u64 n5 ∧ call 92 [AVal.ptr m 0,iv 0] H2 i3 fun e6 H7 i8 => qi e6 (fun v9 => ∃ n10 : Int,v9 = uv n10 ∧ true = true ∧ ∃ v11,some (AVal.ptr m 5) = some
 v11 ∧ ∃ v12,ld1 H7 v11 = some v12 ∧ call 96 [v12] H7 i8 fun e13 H14 i15 => qi e13 (fun v16 => ∃ v17,some (AVal.ptr nx 0) = some v17 ∧ ∃ n18 : Int,ld1 H14 v17 = some (iv n18) ∧
 ifB (decide (n18 = 1)) (true = true ∧ ∃ v19,some (AVal.ptr m 0) = some v19 ∧ ∃ v20,qJ v19 4 = some v20 ∧ ∃ v21,ld1 H14 v20 = some v21 ∧ ∃ v22,some (AVal.ptr nx 1) = some v22
 ∧ ∃ n23 : Int,ld1 H14 v22 = some (iv n23) ∧ 0 ≤ n23 ∧ ∃ v24,idxS v21 n23.toNat 1 = some v24 ∧ ∃ n25 : Int,ld1 H14 v24 = some (iv n25) ∧ ((∃ v26,ld1 H14 v20 = some v26 ∧ v26 =
 v21) ∧ (∃ n27 : Int,ld1 H14 v22 = some (iv n27) ∧ iv n27 = iv n23) ∧ (∃ n28 : Int,ld1 H14 v24 = some (iv n28) ∧ iv n28 = iv n25) ∧ uv (IntKind.u64.wrap n25) =
 uv (IntKind.u64.wrap n25) ∧ True) ∧ call 94 [AVal.ptr m 0,uv (IntKind.u64.wrap n25)] H14 (i15 + 12) fun e29 H30 i31 => qi e29 (fun v32 =>
 True ∧ K (AEnd.ret (iv 0)) H30 i31) fun l33 => K (AEnd.pan l33) H30 i31) (ifB (decide (n18 = 2)) (∃ v34,some (AVal.ptr nx 1) = some v34 ∧ ∃ n35 : Int,ld1 H14 v34 = some (iv n35) ∧
 call 94 [AVal.ptr m 0,uv (IntKind.u64.wrap n35)] H14 i15 fun e36 H37 i38 => qi e36 (fun v39 => K (AEnd.ret (iv 0)) H37 i38) fun l40 => K (AEnd.pan l40) H37
 i38) (ifB (decide (n18 = 3)) (true = true ∧ ∃ v41,some (AVal.ptr m 5) = some v41 ∧ ∃ v42,ld1 H14 v41 = some v42 ∧ ∃ v43,some (AVal.ptr nx 1) = some v43 ∧ ∃ n44 : Int,ld1 H14 v43
 = some (iv n44) ∧ ((∃ v45,ld1 H14 v41 = some v45 ∧ v45 = v42) ∧ (∃ n46 : Int,ld1 H14 v43 = some (iv n46) ∧ iv n46 = iv n44) ∧ True) ∧ call 97 [v42,iv n44] H14 (i15 + 9) fun e47
 H48 i49 => qi e47 (fun v50 => ∃ n51 : Int,v50 = uv n51 ∧ True ∧ call 94 [AVal.ptr m 0,uv n51] H48 i49 fun e52 H53 i54 => qi e52 (fun v55
 => True ∧ K (AEnd.ret (iv 0)) H53 i54) fun l56 => K (AEnd.pan l56) H53 i54) fun l57 => K (AEnd.pan l57) H48 i49) (ifB (decide (n18 = 4)) (call 94 [AVal.ptr m 0,AVal.int IntKind.u64
 0] H14 i15 fun e58 H59 i60 => qi e58 (fun v61 => K (AEnd.ret (iv 0)) H59 i60) fun l62 => K (AEnd.pan l62) H59 i60) (ifB (decide (n18 = 5)) (true = true ∧ ∃ v63,some (AVal.ptr m
 9) = some v63 ∧ ∃ v64,ld1 H14 v63 = some v64 ∧ zh v64 = true ∧ ∃ v65,qJ v64 2 = some v65 ∧ ∃ v66,ld1 H14 v65 = some v66 ∧ ∃ v67,some (AVal.ptr nx 1) = some v67 ∧ ∃ n68 :
 Int,ld1 H14 v67 = some (iv n68) ∧ 0 ≤ n68 ∧ ∃ v69,idxS v66 n68.toNat 1 = some v69 ∧ ∃ n70 : Int,ld1 H14 v69 = some (uv n70) ∧ ((∃ v71,ld1 H14 v63 = some v71 ∧
 v71 = v64) ∧ (∃ v72,ld1 H14 v65 = some v72 ∧ v72 = v66) ∧ (∃ n73 : Int,ld1 H14 v67 = some (iv n73) ∧ iv n73 = iv n68) ∧ (∃ n74 : Int,ld1 H14 v69 = some (uv n74)
 ∧ uv n74 = uv n70) ∧ True) ∧ call 94 [AVal.ptr m 0,uv n70] H14 (i15 + 13) fun e75 H76 i77 => qi e75 (fun v78 => True ∧ K
 (AEnd.ret (iv 0)) H76 i77) fun l79 => K (AEnd.pan l79) H76 i77) (ifB (decide (n18 = 6)) (true = true ∧ ∃ v80,some (AVal.ptr m 9) = some v80 ∧ ∃ v81,ld1 H14 v80 = some v81 ∧ zh
 v81 = true ∧ ∃ v82,qJ v81 2 = some v82 ∧ ∃ v83,ld1 H14 v82 = some v83 ∧ ∃ v84,some (AVal.ptr nx 1) = some v84 ∧ ∃ n85 : Int,ld1 H14 v84 = some (iv n85) ∧ ((∃ v86,ld1 H14
 v80 = some v86 ∧ v86 = v81) ∧ (∃ v87,ld1 H14 v82 = some v87 ∧ v87 = v83) ∧ (∃ n88 : Int,ld1 H14 v84 = some (iv n88) ∧ iv n88 = iv n85) ∧ True) ∧ call 95 [AVal.ptr m 0] H14 (i15 +
 13) fun e89 H90 i91 => qi e89 (fun v92 => ∃ n93 : Int,v92 = uv n93 ∧ 0 ≤ n85 ∧ ∃ v94,idxS v83 n85.toNat 1 = some v94 ∧ ((∃ v95,ld1 H90 v80 = some v95 ∧ v95 =
 v81) ∧ (∃ v96,ld1 H90 v82 = some v96 ∧ v96 = v83) ∧ (∃ n97 : Int,ld1 H90 v84 = some (iv n97) ∧ iv n97 = iv n85) ∧ True) ∧ true = true ∧ ∃ H98,stC H90 v94 [AVal.int IntKind.u64
 n93] = some H98 ∧ True ∧ K (AEnd.ret (iv 0)) H98 i91) fun l99 => K (AEnd.pan l99) H90 i91) (ifB (decide (n18 = 7)) (call 95 [AVal.ptr m 0] H14 i15 fun e100 H101 i102 => qi e100
 (fun v103 => ∃ n104 : Int,v103 = uv n104 ∧ K (AEnd.ret (iv 0)) H101 i102) fun l105 => K (AEnd.pan l105) H101 i102) (ifB (decide (n18 = 13)) (call 98 [AVal.ptr m
 0,iv 1,uv (IntKind.u64.wrap (0 - n10))] H14 i15 fun e106 H107 i108 => qi e106 (fun v109 => K (AEnd.ret (iv 0)) H107 i108) fun l110 => K (AEnd.pan l110) H107
 i108) (ifB (decide (n18 = 14)) (call 99 [AVal.bool (decide (n10 = 0))] H14 i15 fun e111 H112 i113 => qi e111 (fun v114 => ∃ n115 : Int,v114 = uv n115 ∧ call 98
 [AVal.ptr m 0,iv 1,uv n115] H112 i113 fun e116 H117 i118 => qi e116 (fun v119 => K (AEnd.ret (iv 0)) H117 i118) fun l120 => K (AEnd.pan l120) H117 i118) fun
 l121 => K (AEnd.pan l121) H112 i113) (ifB (decide (n18 = 11)) (ifB (decide (n10 = 0)) (K (AEnd.ret (iv 1)) H14 i15) (∃ v122,some (AVal.ptr nx 0) = some v122 ∧ ∃ n123 : Int,ld1 H14
 v122 = some (iv n123) ∧ call 100 [iv n123,iv (IntKind.i64.wrap n5),iv (IntKind.i64.wrap n10)] H14 i15 fun e124 H125 i126 => qi e124 (fun v127 => ∃ n128 : Int,v127 = AVal.int
 IntKind.u64 n128 ∧ call 98 [AVal.ptr m 0,iv 2,uv n128] H125 i126 fun e129 H130 i131 => qi e129 (fun v132 => K (AEnd.ret (iv 0)) H130 i131) fun l133 => K
 (AEnd.pan l133) H130 i131) fun l134 => K (AEnd.pan l134) H125 i126)) (ifB (decide (n18 = 12)) (ifB (decide (n10 = 0)) (K (AEnd.ret (iv 1)) H14 i15) (∃ v135,some (AVal.ptr nx 0) =
 some v135 ∧ ∃ n136 : Int,ld1 H14 v135 = some (iv n136) ∧ call 100 [iv n136,iv (IntKind.i64.wrap n5),iv (IntKind.i64.wrap n10)] H14 i15 fun e137 H138 i139 => qi e137 (fun v140
 => ∃ n141 : Int,v140 = uv n141 ∧ call 98 [AVal.ptr m 0,iv 2,uv n141] H138 i139 fun e142 H143 i144 => qi e142 (fun v145 => K (AEnd.ret (iv
 0)) H143 i144) fun l146 => K (AEnd.pan l146) H143 i144) fun l147 => K (AEnd.pan l147) H138 i139)) (ifB (decide (n18 = 28)) (∃ n148 n149 n150 : Int,ldN H14 3 (AVal.ptr nx 0) = some
 (AVal.agg [iv n148,iv n149,iv n150]) ∧ call 101 [AVal.ptr m 0,AVal.agg [iv n148,iv n149,iv n150]] H14 i15 fun e151 H152 i153 => qi e151 (fun v154 => ∃ n155 : Int,v154 = iv
 n155 ∧ K (AEnd.ret (iv n155)) H152 i153) fun l156 => K (AEnd.pan l156) H152 i153) (ifB (decide (n18 = 29)) (∃ n157 n158 n159 : Int,ldN H14 3 (AVal.ptr nx 0) = some (AVal.agg [iv
 n157,iv n158,iv n159]) ∧ call 101 [AVal.ptr m 0,AVal.agg [iv n157,iv n158,iv n159]] H14 i15 fun e160 H161 i162 => qi e160 (fun v163 => ∃ n164 : Int,v163 = iv n164 ∧ K
 (AEnd.ret (iv n164)) H161 i162) fun l165 => K (AEnd.pan l165) H161 i162) (ifB (decide (n18 = 30)) (∃ n166 n167 n168 : Int,ldN H14 3 (AVal.ptr nx 0) = some (AVal.agg [iv n166,iv
 n167,iv n168]) ∧ call 101 [AVal.ptr m 0,AVal.agg [iv n166,iv n167,iv n168]] H14 i15 fun e169 H170 i171 => qi e169 (fun v172 => ∃ n173 : Int,v172 = iv n173 ∧ K (AEnd.ret (iv
 n173)) H170 i171) fun l174 => K (AEnd.pan l174) H170 i171) (ifB (decide (n18 = 31)) (∃ n175 n176 n177 : Int,ldN H14 3 (AVal.ptr nx 0) = some (AVal.agg [iv n175,iv n176,iv n177])
 ∧ call 101 [AVal.ptr m 0,AVal.agg [iv n175,iv n176,iv n177]] H14 i15 fun e178 H179 i180 => qi e178 (fun v181 => ∃ n182 : Int,v181 = iv n182 ∧ K (AEnd.ret (iv n182)) H179
 i180) fun l183 => K (AEnd.pan l183) H179 i180) (ifB (decide (n18 = 32)) (∃ n184 n185 n186 : Int,ldN H14 3 (AVal.ptr nx 0) = some (AVal.agg [iv n184,iv n185,iv n186]) ∧ call 101
 [AVal.ptr m 0,AVal.agg [iv n184,iv n185,iv n186]] H14 i15 fun e187 H188 i189 => qi e187 (fun v190 => ∃ n191 : Int,v190 = iv n191 ∧ K (AEnd.ret (iv n191)) H188 i189) fun l192
 => K (AEnd.pan l192) H188 i189) (ifB (decide (n18 = 38)) (∃ n193 n194 n195 : Int,ldN H14 3 (AVal.ptr nx 0) = some (AVal.agg [iv n193,iv n194,iv n195]) ∧ call 101 [AVal.ptr m 0,
 AVal.agg [iv n193,iv n194,iv n195]] H14 i15 fun e196 H197 i198 => qi e196 (fun v199 => ∃ n200 : Int,v199 = iv n200 ∧ K (AEnd.ret (iv n200)) H197 i198) fun l201 => K (AEnd.pan
 l201) H197 i198) (ifB (decide (n18 = 33)) (call 102 [v16,uv n10] H14 i15 fun e202 H203 i204 => qi e202 (fun v205 => ∃ n206 : Int,v205 = iv n206 ∧ call 98
 [AVal.ptr m 0,iv 1,uv (IntKind.u64.wrap n206)] H203 i204 fun e207 H208 i209 => qi e207 (fun v210 => K (AEnd.ret (iv 0)) H208 i209) fun l211 => K (AEnd.pan
 l211) H208 i209) fun l212 => K (AEnd.pan l212) H203 i204) (ifB (decide (n18 = 21)) (∃ n213 n214 n215 : Int,ldN H14 3 (AVal.ptr nx 0) = some (AVal.agg [iv n213,iv n214,iv n215]) ∧
 call 103 [AVal.ptr m 0,AVal.agg [iv n213,iv n214,iv n215]] H14 i15 fun e216 H217 i218 => qi e216 (fun v219 => ∃ n220 : Int,v219 = iv n220 ∧ K (AEnd.ret (iv n220)) H217 i218)
 fun l221 => K (AEnd.pan l221) H217 i218) (ifB (decide (n18 = 34)) (∃ n222 n223 n224 : Int,ldN H14 3 (AVal.ptr nx 0) = some (AVal.agg [iv n222,iv n223,iv n224]) ∧ call 103
 [AVal.ptr m 0,AVal.agg [iv n222,iv n223,iv n224]] H14 i15 fun e225 H226 i227 => qi e225 (fun v228 => ∃ n229 : Int,v228 = iv n229 ∧ K (AEnd.ret (iv n229)) H226 i227) fun l230
 => K (AEnd.pan l230) H226 i227) (ifB (decide (n18 = 35)) (∃ n231 n232 n233 : Int,ldN H14 3 (AVal.ptr nx 0) = some (AVal.agg [iv n231,iv n232,iv n233]) ∧ call 103 [AVal.ptr m 0,
 AVal.agg [iv n231,iv n232,iv n233]] H14 i15 fun e234 H235 i236 => qi e234 (fun v237 => ∃ n238 : Int,v237 = iv n238 ∧ K (AEnd.ret (iv n238)) H235 i236) fun l239 => K (AEnd.pan
 l239) H235 i236) (ifB (decide (n18 = 39)) (true = true ∧ ∃ v240,some (AVal.ptr m 5) = some v240 ∧ ∃ v241,ld1 H14 v240 = some v241 ∧ ∃ v242,some (AVal.ptr nx 1) = some v242 ∧ ∃
 n243 : Int,ld1 H14 v242 = some (iv n243) ∧ ((∃ v244,ld1 H14 v240 = some v244 ∧ v244 = v241) ∧ (∃ n245 : Int,ld1 H14 v242 = some (iv n245) ∧ iv n245 = iv n243) ∧ True) ∧ call 95
 [AVal.ptr m 0] H14 (i15 + 9) fun e246 H247 i248 => qi e246 (fun v249 => ∃ n250 : Int,v249 = uv n250 ∧ ((∃ v251,ld1 H247 v240 = some v251 ∧ v251 = v241) ∧ (∃
 n252 : Int,ld1 H247 v242 = some (iv n252) ∧ iv n252 = iv n243) ∧ True) ∧ call 104 [v241,iv n243,uv n250] H247 i248 fun e253 H254 i255 => qi e253 (fun v256 =>
 True ∧ K (AEnd.ret (iv 0)) H254 i255) fun l257 => K (AEnd.pan l257) H254 i255) fun l258 => K (AEnd.pan l258) H247 i248) (ifB (decide (n18 = 40)) (true = true ∧ ∃ v259,some
 (AVal.ptr m 5) = some v259 ∧ ∃ v260,ld1 H14 v259 = some v260 ∧ call 105 [v260] H14 i15 fun e261 H262 i263 => qi e261 (fun v264 => ∃ n265 : Int,v264 = uv n265
 ∧ call 94 [AVal.ptr m 0,uv n265] H262 i263 fun e266 H267 i268 => qi e266 (fun v269 => K (AEnd.ret (iv 0)) H267 i268) fun l270 => K (AEnd.pan l270) H267 i268)
 fun l271 => K (AEnd.pan l271) H262 i263) (∃ v272,some (AVal.ptr nx 0) = some v272 ∧ ∃ n273 : Int,ld1 H14 v272 = some (iv n273) ∧ call 106 [AVal.ptr m 0,iv n273,AVal.int
 IntKind.u64 n5,uv n10] H14 i15 fun e274 H275 i276 => qi e274 (fun v277 => ∃ n278 : Int,v277 = uv n278 ∧ call 98 [AVal.ptr m 0,iv 2,
 uv n278] H275 i276 fun e279 H280 i281 => qi e279 (fun v282 => K (AEnd.ret (iv 0)) H280 i281) fun l283 => K (AEnd.pan l283) H280 i281) fun l284 => K (AEnd.pan
 l284) H275 i276)))))))))))))))))))))))) fun l285 => K (AEnd.pan l285) H14 i15) fun l286 => K (AEnd.pan l286) H7 i8) fun l287 => K (AEnd.pan l287) H2 i3
theorem qax (call : qh) (lp : Nat → qj) (lv : ql) (lvc : qk) (m : Nat) (op : Int) (a : Int) (b : Int) (H : Heap) (nx : Nat) (K : EndP) : q9 Tryz.prog call lp 54 [AVal.ptr m 0,AVal.agg [iv op,iv a,iv b]] H nx (endK Tryz.prog lv lvc K) = qed call lp lv lvc m op a b H nx K := by kernel_rfl
def qen (_call : qh) (_lp : Nat → qj) (_lv : ql) (_lvc : qk) (m : Nat) (a : Int) (H : Heap) (nx : Nat) (K : EndP) : Prop :=
 true = true ∧ ∃ v0,some (AVal.ptr m 7) = some v0 ∧ true = true ∧ ∃ H1,stC H v0 [iv 2] = some H1 ∧ true = true ∧ ∃ v2,some (AVal.ptr m 8) = some v2 ∧ true = true ∧ ∃ H3,stC H1 v2
 [iv a] = some H3 ∧ K (AEnd.ret (AVal.tuple [])) H3 nx
theorem qb9 (call : qh) (lp : Nat → qj) (lv : ql) (lvc : qk) (m : Nat) (a : Int) (H : Heap) (nx : Nat) (K : EndP) : q9 Tryz.prog call lp 55 [AVal.ptr m 0,iv a] H nx (endK Tryz.prog lv lvc K) = qen call lp lv lvc m a H nx K := by kernel_rfl
def Yc (_call : qh) (_lp : Nat → qj) (_lv : ql) (_lvc : qk) (m : Nat) (a : Int) (b : Int) (H : Heap) (nx : Nat) (K : EndP) : Prop :=
 ifB (decide (a < 0)) ((AVal.tuple [] = AVal.tuple [] ∧ AVal.tuple [] = AVal.tuple [] ∧ True) ∧ K (AEnd.ret (AVal.tuple [uv 0,AVal.bool false])) H (nx + 28)) (ifB
 (decide (1048576 < a)) ((AVal.tuple [] = AVal.tuple [] ∧ AVal.tuple [] = AVal.tuple [] ∧ True) ∧ K (AEnd.ret (AVal.tuple [uv 0,AVal.bool false])) H (nx + 28))
 (ifB (decide (b < 0)) ((AVal.tuple [] = AVal.tuple [] ∧ AVal.tuple [] = AVal.tuple [] ∧ True) ∧ K (AEnd.ret (AVal.tuple [uv 0,AVal.bool false])) H (nx + 28)) (ifB
 (decide (1048576 < b)) ((AVal.tuple [] = AVal.tuple [] ∧ AVal.tuple [] = AVal.tuple [] ∧ True) ∧ K (AEnd.ret (AVal.tuple [uv 0,AVal.bool false])) H (nx + 28))
 (true = true ∧ ∃ v0,some (AVal.ptr m 1) = some v0 ∧ ∃ n1 : Int,ld1 H v0 = some (iv n1) ∧ true = true ∧ ∃ v2,some (AVal.ptr m 0) = some v2 ∧ ∃ v3,ld1 H v2 = some v3 ∧ ∃ i4,lenS
 v3 = some i4 ∧ ((∃ n5 : Int,ld1 H v0 = some (iv n5) ∧ iv n5 = iv n1) ∧ (∃ v6,ld1 H v2 = some v6 ∧ v6 = v3) ∧ True) ∧ ifB (decide (IntKind.i64.wrap (n1 - Int.ofNat i4) ≤ b)) (K
 (AEnd.ret (AVal.tuple [uv 0,AVal.bool false])) H (nx + 28)) (true = true ∧ ∃ v7,some (AVal.ptr m 0) = some v7 ∧ ∃ v8,ld1 H v7 = some v8 ∧ ∃ i9,lenS v8 = some
 i9 ∧ true = true ∧ ∃ v10,some (AVal.ptr m 0) = some v10 ∧ ∃ v11,ld1 H v10 = some v11 ∧ (0 : Int) ≤ 32 ∧ true = true ∧ ∃ H12,H12 = newB (nx + 28) [AVal.int IntKind.u64
 (IntKind.u64.wrap ↑(BitVec.ofInt 64 (IntKind.u64.wrap (IntKind.u64.wrap a * 4294967296)) ||| BitVec.ofInt 64 (IntKind.u64.wrap b)).toNat)] H ∧ ∃ i13 l14,aSrc 1 H12 (AVal.slice (nx
 + 28) 0 1 1 true) = some (i13,l14) ∧ qo l14 = true ∧ ∃ v15 H16 i17,appC H12 (nx + 28 + 1) 1 8 v11 i13 l14 = some (v15,H16,i17) ∧ true = true ∧ ∃ v18,some (AVal.ptr m 0) =
 some v18 ∧ qx v15 = true ∧ ∃ H19,stC H16 v18 [v15] = some H19 ∧ true = true ∧ ∃ v20,some (AVal.ptr m 0) = some v20 ∧ ∃ v21,ld1 H19 v20 = some v21 ∧ ∃ i22 l23,Zd [AVal.int
 IntKind.u64 0] 1 (iv b) = some (i22,l23) ∧ qo l23 = true ∧ ∃ v24 H25 i26,appC H19 i17 1 8 v21 i22 l23 = some (v24,H25,i26) ∧ true = true ∧ ∃ v27,some (AVal.ptr m 0) = some
 v27 ∧ qx v24 = true ∧ ∃ H28,stC H25 v27 [v24] = some H28 ∧ K (AEnd.ret (AVal.tuple [uv (IntKind.u64.wrap (Int.ofNat i9)),AVal.bool true])) H28 i26)))))
theorem XA (call : qh) (lp : Nat → qj) (lv : ql) (lvc : qk) (m : Nat) (a : Int) (b : Int) (H : Heap) (nx : Nat) (K : EndP) : q9 Tryz.prog call lp 89 [AVal.ptr m 0,iv a,iv b] H nx (endK Tryz.prog lv lvc K) = Yc call lp lv lvc m a b H nx K := by kernel_rfl
def FSet (call : qh) (_lp : Nat → qj) (_lv : ql) (_lvc : qk) (m : Nat) (r : Int) (i : Int) (v : Int) (H : Heap) (nx : Nat) (K : EndP) : Prop :=
 call 153 [AVal.ptr m 0,uv r,iv i] H nx fun e0 H1 i2 => qi e0 (fun v3 => ∃ n4 : Int,v3 = uv n4 ∧ call 152 [AVal.ptr m 0,AVal.int
 IntKind.u64 n4,uv v] H1 i2 fun e5 H6 i7 => qi e5 (fun v8 => ∃ b9,v8 = AVal.bool b9 ∧ K (AEnd.ret (AVal.bool b9)) H6 i7) fun l10 => K (AEnd.pan l10) H6 i7) fun
 l11 => K (AEnd.pan l11) H1 i2
theorem qcc (call : qh) (lp : Nat → qj) (lv : ql) (lvc : qk) (m : Nat) (r : Int) (i : Int) (v : Int) (H : Heap) (nx : Nat) (K : EndP) : q9 Tryz.prog call lp 90 [AVal.ptr m 0,uv r,iv i,uv v] H nx (endK Tryz.prog lv lvc K) = FSet call lp lv lvc m r i v H nx K := by kernel_rfl
def WZ (call : qh) (_lp : Nat → qj) (_lv : ql) (_lvc : qk) (m : Nat) (op : Int) (a : Int) (b : Int) (H : Heap) (nx : Nat) (K : EndP) : Prop :=
 ∃ H0,H0 = kB nx [iv op,iv a,iv b].length [iv op,iv a,iv b] H ∧ ∃ v1,some (AVal.ptr nx 0) = some v1 ∧ ∃ n2 : Int,ld1 H0 v1 = some (iv n2) ∧ ifB (decide (n2 = 36)) (∃ v3,
 some (AVal.ptr nx 1) = some v3 ∧ ∃ n4 : Int,ld1 H0 v3 = some (iv n4) ∧ K (AEnd.ret (iv n4)) H0 (nx + 1)) (∃ v5,some (AVal.ptr nx 2) = some v5 ∧ ∃ n6 : Int,ld1 H0 v5 = some (iv
 n6) ∧ call 92 [AVal.ptr m 0,iv (IntKind.i64.wrap (n6 - 1))] H0 (nx + 1) fun e7 H8 i9 => qi e7 (fun v10 => ∃ n11 : Int,v10 = uv n11 ∧ true = true ∧ ∃ v12,some
 (AVal.ptr m 5) = some v12 ∧ ∃ v13,ld1 H8 v12 = some v13 ∧ call 96 [v13] H8 i9 fun e14 H15 i16 => qi e14 (fun v17 => call 154 [v17,uv n11] H15 i16 fun e18 H19
 i20 => qi e18 (fun v21 => ∃ n22 : Int,v21 = iv n22 ∧ true = true ∧ ∃ v23,some (AVal.ptr m 0) = some v23 ∧ ∃ v24,qJ v23 0 = some v24 ∧ ∃ v25,ld1 H19 v24 = some v25 ∧ true
 = true ∧ ∃ v26,some (AVal.ptr m 0) = some v26 ∧ ∃ v27,qJ v26 3 = some v27 ∧ ∃ v28,ld1 H19 v27 = some v28 ∧ ∃ v29,some (AVal.ptr nx 1) = some v29 ∧ ∃ n30 : Int,ld1 H19 v29 =
 some (iv n30) ∧ 0 ≤ n30 ∧ ∃ v31,idxS v28 n30.toNat 1 = some v31 ∧ ∃ s32,ld1 H19 v31 = some (AVal.str s32) ∧ ((∃ v33,ld1 H19 v24 = some v33 ∧ v33 = v25) ∧ (∃ v34,ld1 H19 v27 =
 some v34 ∧ v34 = v28) ∧ (∃ n35 : Int,ld1 H19 v29 = some (iv n35) ∧ iv n35 = iv n30) ∧ (∃ s36,ld1 H19 v31 = some (AVal.str s36) ∧ AVal.str s36 = AVal.str s32) ∧ True) ∧ call 155
 [v25,iv n22,AVal.str s32] H19 (i20 + 21) fun e37 H38 i39 => qi e37 (fun v40 => ∃ n41 b42,v40 = AVal.tuple [iv n41,AVal.bool b42] ∧ True ∧ ifB (decide (n11 = 0)) (K (AEnd.ret
 (iv (-1))) H38 i39) (ifB (!b42) (K (AEnd.ret (iv (-1))) H38 i39) (true = true ∧ ∃ v43,some (AVal.ptr m 0) = some v43 ∧ ∃ v44,qJ v43 0 = some v44 ∧ ∃ v45,ld1 H38 v44 = some
 v45 ∧ 0 ≤ n22 ∧ ∃ v46,idxS v45 n22.toNat 5 = some v46 ∧ ∃ v47,qJ v46 4 = some v47 ∧ ∃ v48,ld1 H38 v47 = some v48 ∧ 0 ≤ n41 ∧ ∃ v49,idxS v48 n41.toNat 4 = some v49 ∧ ∃ v50,
 qJ v49 3 = some v50 ∧ ∃ n51 : Int,ld1 H38 v50 = some (iv n51) ∧ K (AEnd.ret (iv n51)) H38 i39))) fun l52 => K (AEnd.pan l52) H38 i39) fun l53 => K (AEnd.pan l53) H19 i20) fun
 l54 => K (AEnd.pan l54) H15 i16) fun l55 => K (AEnd.pan l55) H8 i9)
theorem V3 (call : qh) (lp : Nat → qj) (lv : ql) (lvc : qk) (m : Nat) (op : Int) (a : Int) (b : Int) (H : Heap) (nx : Nat) (K : EndP) : q9 Tryz.prog call lp 91 [AVal.ptr m 0,AVal.agg [iv op,iv a,iv b]] H nx (endK Tryz.prog lv lvc K) = WZ call lp lv lvc m op a b H nx K := by kernel_rfl
def qeh (_call : qh) (_lp : Nat → qj) (_lv : ql) (_lvc : qk) (m : Nat) (k : Int) (H : Heap) (nx : Nat) (K : EndP) : Prop :=
 true = true ∧ ∃ v0,some (AVal.ptr m 9) = some v0 ∧ ∃ v1,ld1 H v0 = some v1 ∧ ∃ b2,nilK NK.ptr v1 = some b2 ∧ ifB b2 (K (AEnd.ret (uv 0)) H nx) (ifB (decide (k <
 0)) (K (AEnd.ret (uv 0)) H nx) (true = true ∧ ∃ v3,some (AVal.ptr m 9) = some v3 ∧ ∃ v4,ld1 H v3 = some v4 ∧ zh v4 = true ∧ ∃ v5,qJ v4 3 = some v5 ∧ ∃
 v6,ld1 H v5 = some v6 ∧ ∃ i7,lenS v6 = some i7 ∧ ifB (decide (Int.ofNat i7 ≤ k)) (K (AEnd.ret (uv 0)) H nx) (true = true ∧ ∃ v8,some (AVal.ptr m 9) = some v8 ∧
 ∃ v9,ld1 H v8 = some v9 ∧ zh v9 = true ∧ ∃ v10,qJ v9 3 = some v10 ∧ ∃ v11,ld1 H v10 = some v11 ∧ true = true ∧ ∃ v12,some (AVal.ptr m 9) = some v12 ∧ ∃ v13,ld1 H v12 =
 some v13 ∧ zh v13 = true ∧ ∃ v14,qJ v13 3 = some v14 ∧ ∃ v15,ld1 H v14 = some v15 ∧ ∃ i16,lenS v15 = some i16 ∧ 0 ≤ IntKind.i64.wrap (IntKind.i64.wrap (Int.ofNat i16 - 1)
 - k) ∧ ∃ v17,idxS v11 (IntKind.i64.wrap (IntKind.i64.wrap (Int.ofNat i16 - 1) - k)).toNat 1 = some v17 ∧ ∃ n18 : Int,ld1 H v17 = some (uv n18) ∧ ((∃ v19,ld1 H
 v8 = some v19 ∧ v19 = v9) ∧ (∃ v20,ld1 H v10 = some v20 ∧ v20 = v11) ∧ (∃ v21,ld1 H v12 = some v21 ∧ v21 = v13) ∧ (∃ v22,ld1 H v14 = some v22 ∧ v22 = v15) ∧ (∃ n23 : Int,ld1 H
 v17 = some (uv n23) ∧ uv n23 = uv n18) ∧ True) ∧ K (AEnd.ret (uv n18)) H (nx + 21))))
theorem YV (call : qh) (lp : Nat → qj) (lv : ql) (lvc : qk) (m : Nat) (k : Int) (H : Heap) (nx : Nat) (K : EndP) : q9 Tryz.prog call lp 92 [AVal.ptr m 0,iv k] H nx (endK Tryz.prog lv lvc K) = qeh call lp lv lvc m k H nx K := by kernel_rfl
def qee (_call : qh) (_lp : Nat → qj) (_lv : ql) (_lvc : qk) (m : Nat) (k : Int) (H : Heap) (nx : Nat) (K : EndP) : Prop :=
 true = true ∧ ∃ v0,some (AVal.ptr m 9) = some v0 ∧ ∃ v1,ld1 H v0 = some v1 ∧ zh v1 = true ∧ ∃ v2,qJ v1 3 = some v2 ∧ ∃ v3,ld1 H v2 = some v3 ∧ true = true ∧ ∃ v4,some
 (AVal.ptr m 9) = some v4 ∧ ∃ v5,ld1 H v4 = some v5 ∧ ∃ i6,lenS v3 = some i6 ∧ ∃ n7 : Int,some (Bool.rec (Bool.rec 0 (IntKind.i64.wrap (Int.ofNat i6 - k)) (ilt (IntKind.i64.wrap
 (Int.ofNat i6 - k)) 0)) (Bool.rec 0 (IntKind.i64.wrap (Int.ofNat i6 - k)) (ilt 0 (IntKind.i64.wrap (Int.ofNat i6 - k)))) true) = some n7 ∧ 0 ≤ n7 ∧ ∃ v8,slcS v3 1 0 (some n7.toNat)
 = some v8 ∧ zh v5 = true ∧ ∃ v9,qJ v5 3 = some v9 ∧ ((∃ v10,ld1 H v4 = some v10 ∧ v10 = v5) ∧ (0 ≤ n7 ∧ ∃ v11,slcS v3 1 0 (some n7.toNat) = some v11 ∧ v11 = v8) ∧ True) ∧
 qx v8 = true ∧ ∃ H12,stC H v9 [v8] = some H12 ∧ True ∧ K (AEnd.ret (AVal.tuple [])) H12 (nx + 14)
theorem Ye (call : qh) (lp : Nat → qj) (lv : ql) (lvc : qk) (m : Nat) (k : Int) (H : Heap) (nx : Nat) (K : EndP) : q9 Tryz.prog call lp 93 [AVal.ptr m 0,iv k] H nx (endK Tryz.prog lv lvc K) = qee call lp lv lvc m k H nx K := by kernel_rfl
def qeq (_call : qh) (_lp : Nat → qj) (_lv : ql) (_lvc : qk) (m : Nat) (v : Int) (H : Heap) (nx : Nat) (K : EndP) : Prop :=
 true = true ∧ ∃ v0,some (AVal.ptr m 9) = some v0 ∧ ∃ v1,ld1 H v0 = some v1 ∧ true = true ∧ ∃ v2,some (AVal.ptr m 9) = some v2 ∧ ∃ v3,ld1 H v2 = some v3 ∧ zh v3 = true ∧ ∃
 v4,qJ v3 3 = some v4 ∧ ∃ v5,ld1 H v4 = some v5 ∧ true = true ∧ ∃ H6,H6 = newB (nx + 12) [uv v] H ∧ ((∃ v7,ld1 H6 v0 = some v7 ∧ v7 = v1) ∧ (∃ v8,ld1 H6 v2
 = some v8 ∧ v8 = v3) ∧ (∃ v9,ld1 H6 v4 = some v9 ∧ v9 = v5) ∧ True) ∧ ∃ i10 l11,aSrc 1 H6 (AVal.slice (nx + 12) 0 1 1 true) = some (i10,l11) ∧ qo l11 = true ∧ ∃ v12 H13 i14,
 appC H6 (nx + 17) 1 8 v5 i10 l11 = some (v12,H13,i14) ∧ zh v1 = true ∧ ∃ v15,qJ v1 3 = some v15 ∧ ((∃ v16,ld1 H13 v0 = some v16 ∧ v16 = v1) ∧ True) ∧ qx v12 = true ∧
 ∃ H17,stC H13 v15 [v12] = some H17 ∧ True ∧ K (AEnd.ret (AVal.tuple [])) H17 i14
theorem qb3 (call : qh) (lp : Nat → qj) (lv : ql) (lvc : qk) (m : Nat) (v : Int) (H : Heap) (nx : Nat) (K : EndP) : q9 Tryz.prog call lp 94 [AVal.ptr m 0,uv v] H nx (endK Tryz.prog lv lvc K) = qeq call lp lv lvc m v H nx K := by kernel_rfl
def Fpop (call : qh) (_lp : Nat → qj) (_lv : ql) (_lvc : qk) (m : Nat) (H : Heap) (nx : Nat) (K : EndP) : Prop :=
 call 92 [AVal.ptr m 0,iv 0] H nx fun e0 H1 i2 => qi e0 (fun v3 => ∃ n4 : Int,v3 = uv n4 ∧ call 93 [AVal.ptr m 0,iv 1] H1 i2 fun e5 H6 i7 => qi e5 (fun v8
 => K (AEnd.ret (uv n4)) H6 i7) fun l9 => K (AEnd.pan l9) H6 i7) fun l10 => K (AEnd.pan l10) H1 i2
theorem qc7 (call : qh) (lp : Nat → qj) (lv : ql) (lvc : qk) (m : Nat) (H : Heap) (nx : Nat) (K : EndP) : q9 Tryz.prog call lp 95 [AVal.ptr m 0] H nx (endK Tryz.prog lv lvc K) = Fpop call lp lv lvc m H nx K := by kernel_rfl
def qex (_call : qh) (_lp : Nat → qj) (_lv : ql) (_lvc : qk) (m : Nat) (H : Heap) (nx : Nat) (K : EndP) : Prop :=
 true = true ∧ ∃ v0,some (AVal.ptr m 1) = some v0 ∧ ∃ v1,ld1 H v0 = some v1 ∧ K (AEnd.ret v1) H nx
theorem qa1 (call : qh) (lp : Nat → qj) (lv : ql) (lvc : qk) (m : Nat) (H : Heap) (nx : Nat) (K : EndP) : q9 Tryz.prog call lp 96 [AVal.ptr m 0] H nx (endK Tryz.prog lv lvc K) = qex call lp lv lvc m H nx K := by kernel_rfl
def FLit (_call : qh) (_lp : Nat → qj) (_lv : ql) (_lvc : qk) (m : Nat) (k : Int) (H : Heap) (nx : Nat) (K : EndP) : Prop :=
 ifB (decide (k < 0)) (K (AEnd.ret (uv 0)) H nx) (true = true ∧ ∃ v0,some (AVal.ptr m 2) = some v0 ∧ ∃ v1,ld1 H v0 = some v1 ∧ ∃ i2,lenS v1 = some i2 ∧ ifB
 (decide (Int.ofNat i2 ≤ k)) (K (AEnd.ret (uv 0)) H nx) (true = true ∧ ∃ v3,some (AVal.ptr m 2) = some v3 ∧ ∃ v4,ld1 H v3 = some v4 ∧ 0 ≤ k ∧ ∃ v5,idxS v4
 k.toNat 1 = some v5 ∧ ∃ n6 : Int,ld1 H v5 = some (uv n6) ∧ K (AEnd.ret (uv n6)) H nx))
theorem qdc (call : qh) (lp : Nat → qj) (lv : ql) (lvc : qk) (m : Nat) (k : Int) (H : Heap) (nx : Nat) (K : EndP) : q9 Tryz.prog call lp 97 [AVal.ptr m 0,iv k] H nx (endK Tryz.prog lv lvc K) = FLit call lp lv lvc m k H nx K := by kernel_rfl
def Fput (call : qh) (_lp : Nat → qj) (_lv : ql) (_lvc : qk) (m : Nat) (n : Int) (v : Int) (H : Heap) (nx : Nat) (K : EndP) : Prop :=
 call 93 [AVal.ptr m 0,iv n] H nx fun e0 H1 i2 => qi e0 (fun v3 => call 94 [AVal.ptr m 0,uv v] H1 i2 fun e4 H5 i6 => qi e4 (fun v7 => K (AEnd.ret
 (AVal.tuple [])) H5 i6) fun l8 => K (AEnd.pan l8) H5 i6) fun l9 => K (AEnd.pan l9) H1 i2
theorem qdg (call : qh) (lp : Nat → qj) (lv : ql) (lvc : qk) (m : Nat) (n : Int) (v : Int) (H : Heap) (nx : Nat) (K : EndP) : q9 Tryz.prog call lp 98 [AVal.ptr m 0,iv n,uv v] H nx (endK Tryz.prog lv lvc K) = Fput call lp lv lvc m n v H nx K := by kernel_rfl
def Fbit (_call : qh) (_lp : Nat → qj) (_lv : ql) (_lvc : qk) (b : Bool) (H : Heap) (nx : Nat) (K : EndP) : Prop :=
 ifB b (K (AEnd.ret (uv 1)) H nx) (K (AEnd.ret (uv 0)) H nx)
theorem qd1 (call : qh) (lp : Nat → qj) (lv : ql) (lvc : qk) (b : Bool) (H : Heap) (nx : Nat) (K : EndP) : q9 Tryz.prog call lp 99 [AVal.bool b] H nx (endK Tryz.prog lv lvc K) = Fbit call lp lv lvc b H nx K := by kernel_rfl
def WS (_call : qh) (_lp : Nat → qj) (_lv : ql) (_lvc : qk) (op : Int) (a : Int) (b : Int) (H : Heap) (nx : Nat) (K : EndP) : Prop :=
 ifB (decide (a = -9223372036854775808)) (ifB (decide (b = -1)) (ifB (decide (op = 11)) ((1 : Int) ≠ 0 ∧ K (AEnd.ret (uv (IntKind.u64.wrap (IntKind.i64.wrap (a.tdiv
 1))))) H nx) ((1 : Int) ≠ 0 ∧ K (AEnd.ret (uv (IntKind.u64.wrap (a.tmod 1)))) H nx)) (ifB (decide (op = 11)) (b ≠ 0 ∧ K (AEnd.ret (AVal.int IntKind.u64
 (IntKind.u64.wrap (IntKind.i64.wrap (a.tdiv b))))) H nx) (b ≠ 0 ∧ K (AEnd.ret (uv (IntKind.u64.wrap (a.tmod b)))) H nx))) (ifB (decide (op = 11)) (b ≠ 0 ∧ K
 (AEnd.ret (uv (IntKind.u64.wrap (IntKind.i64.wrap (a.tdiv b))))) H nx) (b ≠ 0 ∧ K (AEnd.ret (uv (IntKind.u64.wrap (a.tmod b)))) H nx))
theorem Wl (call : qh) (lp : Nat → qj) (lv : ql) (lvc : qk) (op : Int) (a : Int) (b : Int) (H : Heap) (nx : Nat) (K : EndP) : q9 Tryz.prog call lp 100 [iv op,iv a,iv b] H nx (endK Tryz.prog lv lvc K) = WS call lp lv lvc op a b H nx K := by kernel_rfl
def qef (call : qh) (_lp : Nat → qj) (_lv : ql) (_lvc : qk) (m : Nat) (op : Int) (a : Int) (b : Int) (H : Heap) (nx : Nat) (K : EndP) : Prop :=
 ∃ H0,H0 = kB nx [iv op,iv a,iv b].length [iv op,iv a,iv b] H ∧ true = true ∧ ∃ v1,some (AVal.ptr m 5) = some v1 ∧ ∃ v2,ld1 H0 v1 = some v2 ∧ call 96 [v2] H0 (nx + 1) fun
 e3 H4 i5 => qi e3 (fun v6 => call 92 [AVal.ptr m 0,iv 2] H4 i5 fun e7 H8 i9 => qi e7 (fun v10 => ∃ n11 : Int,v10 = uv n11 ∧ call 92 [AVal.ptr m 0,iv 1] H8
 i9 fun e12 H13 i14 => qi e12 (fun v15 => ∃ n16 : Int,v15 = uv n16 ∧ call 92 [AVal.ptr m 0,iv 0] H13 i14 fun e17 H18 i19 => qi e17 (fun v20 => ∃ n21 : Int,
 v20 = uv n21 ∧ ∃ v22,some (AVal.ptr nx 0) = some v22 ∧ ∃ n23 : Int,ld1 H18 v22 = some (iv n23) ∧ ifB (decide (n23 = 28)) (ifB (decide (n21 = 0)) (K (AEnd.ret (iv
 3)) H18 i19) (∃ v24,some (AVal.ptr nx 1) = some v24 ∧ ∃ n25 : Int,ld1 H18 v24 = some (iv n25) ∧ call 156 [v6,uv n21,iv n25] H18 i19 fun e26 H27 i28 => qi
 e26 (fun v29 => ∃ n30 : Int,v29 = uv n30 ∧ call 98 [AVal.ptr m 0,iv 1,uv n30] H27 i28 fun e31 H32 i33 => qi e31 (fun v34 => K (AEnd.ret (iv
 0)) H32 i33) fun l35 => K (AEnd.pan l35) H32 i33) fun l36 => K (AEnd.pan l36) H27 i28)) (ifB (decide (n23 = 29)) (ifB (decide (n16 = 0)) (K (AEnd.ret (iv 3)) H18 i19) (∃ v37,some
 (AVal.ptr nx 1) = some v37 ∧ ∃ n38 : Int,ld1 H18 v37 = some (iv n38) ∧ call 90 [v6,uv n16,iv n38,uv n21] H18 i19 fun e39 H40 i41 => qi e39
 (fun v42 => ∃ b43,v42 = AVal.bool b43 ∧ call 93 [AVal.ptr m 0,iv 2] H40 i41 fun e44 H45 i46 => qi e44 (fun v47 => K (AEnd.ret (iv 0)) H45 i46) fun l48 => K (AEnd.pan l48) H45
 i46) fun l49 => K (AEnd.pan l49) H40 i41)) (ifB (decide (n23 = 30)) (call 102 [v6,uv n16] H18 i19 fun e50 H51 i52 => qi e50 (fun v53 => ∃ n54 : Int,v53 = iv
 n54 ∧ call 157 [uv n21,iv n54] H51 i52 fun e55 H56 i57 => qi e55 (fun v58 => ∃ n59 : Int,v58 = iv n59 ∧ ifB (decide (n16 = 0)) (∃ v60,some (AVal.ptr nx 0) =
 some v60 ∧ ∃ n61 : Int,ld1 H56 v60 = some (iv n61) ∧ ifB (decide (n61 = 30)) (K (AEnd.ret (iv 3)) H56 i57) (ifB (decide (n59 < 0)) (K (AEnd.ret (iv 2)) H56 i57) (call 156 [v6,
 uv n16,iv n59] H56 i57 fun e62 H63 i64 => qi e62 (fun v65 => ∃ n66 : Int,v65 = uv n66 ∧ call 98 [AVal.ptr m 0,iv 2,AVal.int IntKind.u64
 n66] H63 i64 fun e67 H68 i69 => qi e67 (fun v70 => K (AEnd.ret (iv 0)) H68 i69) fun l71 => K (AEnd.pan l71) H68 i69) fun l72 => K (AEnd.pan l72) H63 i64))) (ifB (decide (n59 <
 0)) (K (AEnd.ret (iv 2)) H56 i57) (call 156 [v6,uv n16,iv n59] H56 i57 fun e73 H74 i75 => qi e73 (fun v76 => ∃ n77 : Int,v76 = uv n77 ∧
 call 98 [AVal.ptr m 0,iv 2,uv n77] H74 i75 fun e78 H79 i80 => qi e78 (fun v81 => K (AEnd.ret (iv 0)) H79 i80) fun l82 => K (AEnd.pan l82) H79 i80) fun l83 =>
 K (AEnd.pan l83) H74 i75))) fun l84 => K (AEnd.pan l84) H56 i57) fun l85 => K (AEnd.pan l85) H51 i52) (ifB (decide (n23 = 32)) (call 102 [v6,uv n16] H18 i19 fun
 e86 H87 i88 => qi e86 (fun v89 => ∃ n90 : Int,v89 = iv n90 ∧ call 157 [uv n21,iv n90] H87 i88 fun e91 H92 i93 => qi e91 (fun v94 => ∃ n95 : Int,v94 = iv
 n95 ∧ ifB (decide (n16 = 0)) (∃ v96,some (AVal.ptr nx 0) = some v96 ∧ ∃ n97 : Int,ld1 H92 v96 = some (iv n97) ∧ ifB (decide (n97 = 30)) (K (AEnd.ret (iv 3)) H92 i93) (ifB (decide
 (n95 < 0)) (K (AEnd.ret (iv 2)) H92 i93) (call 156 [v6,uv n16,iv n95] H92 i93 fun e98 H99 i100 => qi e98 (fun v101 => ∃ n102 : Int,v101 = AVal.int
 IntKind.u64 n102 ∧ call 98 [AVal.ptr m 0,iv 2,uv n102] H99 i100 fun e103 H104 i105 => qi e103 (fun v106 => K (AEnd.ret (iv 0)) H104 i105) fun l107 => K
 (AEnd.pan l107) H104 i105) fun l108 => K (AEnd.pan l108) H99 i100))) (ifB (decide (n95 < 0)) (K (AEnd.ret (iv 2)) H92 i93) (call 156 [v6,uv n16,iv n95] H92 i93
 fun e109 H110 i111 => qi e109 (fun v112 => ∃ n113 : Int,v112 = uv n113 ∧ call 98 [AVal.ptr m 0,iv 2,uv n113] H110 i111 fun e114 H115 i116
 => qi e114 (fun v117 => K (AEnd.ret (iv 0)) H115 i116) fun l118 => K (AEnd.pan l118) H115 i116) fun l119 => K (AEnd.pan l119) H110 i111))) fun l120 => K (AEnd.pan l120) H92 i93)
 fun l121 => K (AEnd.pan l121) H87 i88) (ifB (decide (n23 = 31)) (call 102 [v6,uv n11] H18 i19 fun e122 H123 i124 => qi e122 (fun v125 => ∃ n126 : Int,v125 =
 iv n126 ∧ call 157 [uv n16,iv n126] H123 i124 fun e127 H128 i129 => qi e127 (fun v130 => ∃ n131 : Int,v130 = iv n131 ∧ ifB (decide (n11 = 0)) (K (AEnd.ret (iv
 3)) H128 i129) (ifB (decide (n131 < 0)) (K (AEnd.ret (iv 2)) H128 i129) (call 90 [v6,uv n11,iv n131,uv n21] H128 i129 fun e132 H133 i134 =>
 qi e132 (fun v135 => ∃ b136,v135 = AVal.bool b136 ∧ call 93 [AVal.ptr m 0,iv 3] H133 i134 fun e137 H138 i139 => qi e137 (fun v140 => K (AEnd.ret (iv 0)) H138 i139) fun l141
 => K (AEnd.pan l141) H138 i139) fun l142 => K (AEnd.pan l142) H133 i134))) fun l143 => K (AEnd.pan l143) H128 i129) fun l144 => K (AEnd.pan l144) H123 i124) (ifB (decide (n21 = 0))
 ((AVal.tuple [] = AVal.tuple [] ∧ True) ∧ (AVal.tuple [] = AVal.tuple [] ∧ True) ∧ K (AEnd.ret (iv 4)) H18 (i19 + 10)) (∃ v145,some (AVal.ptr nx 1) = some v145 ∧ ∃ n146 : Int,ld1
 H18 v145 = some (iv n146) ∧ ((∃ n147 : Int,ld1 H18 v145 = some (iv n147) ∧ iv n147 = iv n146) ∧ True) ∧ call 154 [v6,uv n21] H18 (i19 + 10) fun e148 H149 i150 =>
 qi e148 (fun v151 => ∃ n152 : Int,v151 = iv n152 ∧ ((∃ n153 : Int,ld1 H149 v145 = some (iv n153) ∧ iv n153 = iv n146) ∧ True) ∧ ifB (!decide (n152 = n146)) (K (AEnd.ret (iv 4))
 H149 i150) (K (AEnd.ret (iv 0)) H149 i150)) fun l154 => K (AEnd.pan l154) H149 i150))))))) fun l155 => K (AEnd.pan l155) H18 i19) fun l156 => K (AEnd.pan l156) H13 i14) fun l157 =>
 K (AEnd.pan l157) H8 i9) fun l158 => K (AEnd.pan l158) H4 i5
theorem qa3 (call : qh) (lp : Nat → qj) (lv : ql) (lvc : qk) (m : Nat) (op : Int) (a : Int) (b : Int) (H : Heap) (nx : Nat) (K : EndP) : q9 Tryz.prog call lp 101 [AVal.ptr m 0,AVal.agg [iv op,iv a,iv b]] H nx (endK Tryz.prog lv lvc K) = qef call lp lv lvc m op a b H nx K := by kernel_rfl
def FLen (call : qh) (_lp : Nat → qj) (_lv : ql) (_lvc : qk) (m : Nat) (r : Int) (H : Heap) (nx : Nat) (K : EndP) : Prop :=
 call 158 [AVal.ptr m 0,uv r] H nx fun e0 H1 i2 => qi e0 (fun v3 => ∃ n4 : Int,v3 = uv n4 ∧ K (AEnd.ret (iv (IntKind.i64.wrap
 (IntKind.u64.wrap ↑(BitVec.ofInt 64 n4 &&& BitVec.ofInt 64 4294967295).toNat)))) H1 i2) fun l5 => K (AEnd.pan l5) H1 i2
theorem qcy (call : qh) (lp : Nat → qj) (lv : ql) (lvc : qk) (m : Nat) (r : Int) (H : Heap) (nx : Nat) (K : EndP) : q9 Tryz.prog call lp 102 [AVal.ptr m 0,uv r] H nx (endK Tryz.prog lv lvc K) = FLen call lp lv lvc m r H nx K := by kernel_rfl
def YD (call : qh) (_lp : Nat → qj) (_lv : ql) (_lvc : qk) (m : Nat) (op : Int) (a : Int) (b : Int) (H : Heap) (nx : Nat) (K : EndP) : Prop :=
 ∃ H0,H0 = kB nx [iv op,iv a,iv b].length [iv op,iv a,iv b] H ∧ ∃ v1,some (AVal.ptr nx 0) = some v1 ∧ ∃ n2 : Int,ld1 H0 v1 = some (iv n2) ∧ ifB (decide (n2 = 21)) (true =
 true ∧ ∃ v3,some (AVal.ptr m 5) = some v3 ∧ ∃ v4,ld1 H0 v3 = some v4 ∧ ((∃ v5,ld1 H0 v3 = some v5 ∧ v5 = v4) ∧ True) ∧ call 92 [AVal.ptr m 0,iv 1] H0 (nx + 1 + 14) fun e6 H7 i8
 => qi e6 (fun v9 => ∃ n10 : Int,v9 = uv n10 ∧ ((∃ v11,ld1 H7 v3 = some v11 ∧ v11 = v4) ∧ True) ∧ call 92 [AVal.ptr m 0,iv 0] H7 i8 fun e12 H13 i14 => qi
 e12 (fun v15 => ∃ n16 : Int,v15 = uv n16 ∧ ((∃ v17,ld1 H13 v3 = some v17 ∧ v17 = v4) ∧ True) ∧ call 159 [v4,uv n10,uv n16]
 H13 i14 fun e18 H19 i20 => qi e18 (fun v21 => ∃ n22 b23,v21 = AVal.tuple [uv n22,AVal.bool b23] ∧ True ∧ ifB (!b23) (K (AEnd.ret (iv 7)) H19 i20) (call 98
 [AVal.ptr m 0,iv 2,uv n22] H19 i20 fun e24 H25 i26 => qi e24 (fun v27 => K (AEnd.ret (iv 0)) H25 i26) fun l28 => K (AEnd.pan l28) H25 i26)) fun l29 => K
 (AEnd.pan l29) H19 i20) fun l30 => K (AEnd.pan l30) H13 i14) fun l31 => K (AEnd.pan l31) H7 i8) (ifB (decide (n2 = 34)) (true = true ∧ ∃ v32,some (AVal.ptr m 5) = some v32 ∧ ∃ v33,
 ld1 H0 v32 = some v33 ∧ ∃ v34,some (AVal.ptr nx 1) = some v34 ∧ ∃ n35 : Int,ld1 H0 v34 = some (iv n35) ∧ ((∃ v36,ld1 H0 v32 = some v36 ∧ v36 = v33) ∧ (∃ n37 : Int,ld1 H0 v34 =
 some (iv n37) ∧ iv n37 = iv n35) ∧ True) ∧ call 160 [v33,iv n35] H0 (nx + 1 + 12) fun e38 H39 i40 => qi e38 (fun v41 => ∃ n42 b43,v41 = AVal.tuple [uv n42,
 AVal.bool b43] ∧ True ∧ ifB (!b43) (K (AEnd.ret (iv 7)) H39 i40) (call 98 [AVal.ptr m 0,iv 0,uv n42] H39 i40 fun e44 H45 i46 => qi e44 (fun v47 => K (AEnd.ret
 (iv 0)) H45 i46) fun l48 => K (AEnd.pan l48) H45 i46)) fun l49 => K (AEnd.pan l49) H39 i40) (call 92 [AVal.ptr m 0,iv 0] H0 (nx + 1) fun e50 H51 i52 => qi e50 (fun v53 => ∃ n54
 : Int,v53 = uv n54 ∧ ifB (decide (2000 < n54)) (K (AEnd.ret (iv 5)) H51 i52) (true = true ∧ ∃ v55,some (AVal.ptr m 5) = some v55 ∧ ∃ v56,ld1 H51 v55 = some v56
 ∧ ∃ v57,some (AVal.ptr nx 1) = some v57 ∧ ∃ n58 : Int,ld1 H51 v57 = some (iv n58) ∧ ((∃ v59,ld1 H51 v55 = some v59 ∧ v59 = v56) ∧ (∃ n60 : Int,ld1 H51 v57 = some (iv n60) ∧ iv
 n60 = iv n58) ∧ True) ∧ call 92 [AVal.ptr m 0,iv 0] H51 (i52 + 15) fun e61 H62 i63 => qi e61 (fun v64 => ∃ n65 : Int,v64 = uv n65 ∧ ((∃ v66,ld1 H62 v55 =
 some v66 ∧ v66 = v56) ∧ (∃ n67 : Int,ld1 H62 v57 = some (iv n67) ∧ iv n67 = iv n58) ∧ iv (IntKind.i64.wrap n65) = iv (IntKind.i64.wrap n65) ∧ True) ∧ call 161 [v56,iv n58,iv
 (IntKind.i64.wrap n65)] H62 i63 fun e68 H69 i70 => qi e68 (fun v71 => ∃ n72 b73,v71 = AVal.tuple [uv n72,AVal.bool b73] ∧ True ∧ ifB (!b73) (K (AEnd.ret (iv
 7)) H69 i70) (call 98 [AVal.ptr m 0,iv 1,uv n72] H69 i70 fun e74 H75 i76 => qi e74 (fun v77 => K (AEnd.ret (iv 0)) H75 i76) fun l78 => K (AEnd.pan l78) H75
 i76)) fun l79 => K (AEnd.pan l79) H69 i70) fun l80 => K (AEnd.pan l80) H62 i63)) fun l81 => K (AEnd.pan l81) H51 i52))
theorem XY (call : qh) (lp : Nat → qj) (lv : ql) (lvc : qk) (m : Nat) (op : Int) (a : Int) (b : Int) (H : Heap) (nx : Nat) (K : EndP) : q9 Tryz.prog call lp 103 [AVal.ptr m 0,AVal.agg [iv op,iv a,iv b]] H nx (endK Tryz.prog lv lvc K) = YD call lp lv lvc m op a b H nx K := by kernel_rfl
def qbj (call : qh) (_lp : Nat → qj) (_lv : ql) (_lvc : qk) (m : Nat) (k : Int) (v : Int) (H : Heap) (nx : Nat) (K : EndP) : Prop :=
 call 162 [AVal.ptr m 0,iv k,uv v] H nx fun e0 H1 i2 => qi e0 (fun v3 => ∃ s4 b5,v3 = AVal.tuple [AVal.str s4,AVal.bool b5] ∧ ifB (!b5) (K (AEnd.ret
 (AVal.tuple [])) H1 i2) (call 163 [AVal.ptr m 0] H1 i2 fun e6 H7 i8 => qi e6 (fun v9 => ∃ b10,v9 = AVal.bool b10 ∧ ifB b10 (K (AEnd.ret (AVal.tuple [])) H7 i8) (true = true ∧ ∃
 v11,some (AVal.ptr m 5) = some v11 ∧ ∃ v12,ld1 H7 v11 = some v12 ∧ true = true ∧ ∃ H13,H13 = newB i8 [AVal.str s4] H7 ∧ ∃ i14 l15,aSrc 1 H13 (AVal.slice i8 0 1 1 true) = some
 (i14,l15) ∧ qo l15 = true ∧ ∃ v16 H17 i18,appC H13 (i8 + 1) 1 16 v12 i14 l15 = some (v16,H17,i18) ∧ true = true ∧ ∃ v19,some (AVal.ptr m 5) = some v19 ∧ qx v16 = true ∧
 ∃ H20,stC H17 v19 [v16] = some H20 ∧ K (AEnd.ret (AVal.tuple [])) H20 i18)) fun l21 => K (AEnd.pan l21) H7 i8)) fun l22 => K (AEnd.pan l22) H1 i2
theorem Xz (call : qh) (lp : Nat → qj) (lv : ql) (lvc : qk) (m : Nat) (k : Int) (v : Int) (H : Heap) (nx : Nat) (K : EndP) : q9 Tryz.prog call lp 104 [AVal.ptr m 0,iv k,uv v] H nx (endK Tryz.prog lv lvc K) = qbj call lp lv lvc m k v H nx K := by kernel_rfl
def Yu (_call : qh) (_lp : Nat → qj) (_lv : ql) (_lvc : qk) (m : Nat) (H : Heap) (nx : Nat) (K : EndP) : Prop :=
 true = true ∧ ∃ v0,some (AVal.ptr m 4) = some v0 ∧ ∃ n1 : Int,ld1 H v0 = some (iv n1) ∧ true = true ∧ ∃ v2,some (AVal.ptr m 3) = some v2 ∧ ∃ v3,ld1 H v2 = some v3 ∧ ∃ i4,lenS
 v3 = some i4 ∧ ((∃ n5 : Int,ld1 H v0 = some (iv n5) ∧ iv n5 = iv n1) ∧ (∃ v6,ld1 H v2 = some v6 ∧ v6 = v3) ∧ True) ∧ ifB (decide (n1 = Int.ofNat i4)) (K (AEnd.ret (AVal.int
 IntKind.u64 0)) H (nx + 10)) (true = true ∧ ∃ v7,some (AVal.ptr m 4) = some v7 ∧ ∃ n8 : Int,ld1 H v7 = some (iv n8) ∧ true = true ∧ ∃ v9,some (AVal.ptr m 4) = some v9 ∧ true =
 true ∧ ∃ H10,stC H v9 [iv (IntKind.i64.wrap (n8 + 1))] = some H10 ∧ true = true ∧ ∃ v11,some (AVal.ptr m 3) = some v11 ∧ ∃ v12,ld1 H10 v11 = some v12 ∧ true = true ∧ ∃ v13,some
 (AVal.ptr m 4) = some v13 ∧ ∃ n14 : Int,ld1 H10 v13 = some (iv n14) ∧ 0 ≤ IntKind.i64.wrap (n14 - 1) ∧ ∃ v15,idxS v12 (IntKind.i64.wrap (n14 - 1)).toNat 1 = some v15 ∧ ∃ n16 :
 Int,ld1 H10 v15 = some (iv n16) ∧ ((∃ v17,ld1 H10 v11 = some v17 ∧ v17 = v12) ∧ (∃ n18 : Int,ld1 H10 v13 = some (iv n18) ∧ iv n18 = iv n14) ∧ (∃ n19 : Int,ld1 H10 v15 = some (iv
 n19) ∧ iv n19 = iv n16) ∧ uv (IntKind.u64.wrap n16) = uv (IntKind.u64.wrap n16) ∧ True) ∧ K (AEnd.ret (uv (IntKind.u64.wrap
 n16))) H10 (nx + 10 + 13))
theorem Xy (call : qh) (lp : Nat → qj) (lv : ql) (lvc : qk) (m : Nat) (H : Heap) (nx : Nat) (K : EndP) : q9 Tryz.prog call lp 105 [AVal.ptr m 0] H nx (endK Tryz.prog lv lvc K) = Yu call lp lv lvc m H nx K := by kernel_rfl
def Ftwo (call : qh) (_lp : Nat → qj) (_lv : ql) (_lvc : qk) (m : Nat) (op : Int) (a : Int) (b : Int) (H : Heap) (nx : Nat) (K : EndP) : Prop :=
 ifB (decide (op = 8)) (K (AEnd.ret (uv (IntKind.u64.wrap (a + b)))) H nx) (ifB (decide (op = 9)) (K (AEnd.ret (uv (IntKind.u64.wrap (a - b)))) H
 nx) (ifB (decide (op = 10)) (K (AEnd.ret (uv (IntKind.u64.wrap (a * b)))) H nx) (ifB (decide (op = 15)) (call 99 [AVal.bool (decide (a = b))] H nx fun e0 H1 i2 =>
 qi e0 (fun v3 => ∃ n4 : Int,v3 = uv n4 ∧ K (AEnd.ret (uv n4)) H1 i2) fun l5 => K (AEnd.pan l5) H1 i2) (ifB (decide (op = 16)) (call 99
 [AVal.bool !decide (a = b)] H nx fun e6 H7 i8 => qi e6 (fun v9 => ∃ n10 : Int,v9 = uv n10 ∧ K (AEnd.ret (uv n10)) H7 i8) fun l11 => K
 (AEnd.pan l11) H7 i8) (ifB (decide (op = 17)) (call 99 [AVal.bool (decide (IntKind.i64.wrap a < IntKind.i64.wrap b))] H nx fun e12 H13 i14 => qi e12 (fun v15 => ∃ n16 : Int,v15
 = uv n16 ∧ K (AEnd.ret (uv n16)) H13 i14) fun l17 => K (AEnd.pan l17) H13 i14) (ifB (decide (op = 18)) (call 99 [AVal.bool (decide
 (IntKind.i64.wrap a ≤ IntKind.i64.wrap b))] H nx fun e18 H19 i20 => qi e18 (fun v21 => ∃ n22 : Int,v21 = uv n22 ∧ K (AEnd.ret (uv n22)) H19
 i20) fun l23 => K (AEnd.pan l23) H19 i20) (ifB (decide (op = 19)) (call 99 [AVal.bool (decide (IntKind.i64.wrap b < IntKind.i64.wrap a))] H nx fun e24 H25 i26 => qi e24 (fun v27
 => ∃ n28 : Int,v27 = uv n28 ∧ K (AEnd.ret (uv n28)) H25 i26) fun l29 => K (AEnd.pan l29) H25 i26) (ifB (decide (op = 20)) (call 99 [AVal.bool
 (decide (IntKind.i64.wrap b ≤ IntKind.i64.wrap a))] H nx fun e30 H31 i32 => qi e30 (fun v33 => ∃ n34 : Int,v33 = uv n34 ∧ K (AEnd.ret (AVal.int IntKind.u64
 n34)) H31 i32) fun l35 => K (AEnd.pan l35) H31 i32) (ifB (decide (op = 22)) (true = true ∧ ∃ v36,some (AVal.ptr m 5) = some v36 ∧ ∃ v37,ld1 H v36 = some v37 ∧ call 164 [v37,
 uv a,uv b] H nx fun e38 H39 i40 => qi e38 (fun v41 => ∃ b42,v41 = AVal.bool b42 ∧ call 99 [AVal.bool b42] H39 i40 fun e43 H44 i45 => qi
 e43 (fun v46 => ∃ n47 : Int,v46 = uv n47 ∧ K (AEnd.ret (uv n47)) H44 i45) fun l48 => K (AEnd.pan l48) H44 i45) fun l49 => K (AEnd.pan l49) H39
 i40) (ifB (decide (op = 23)) (true = true ∧ ∃ v50,some (AVal.ptr m 5) = some v50 ∧ ∃ v51,ld1 H v50 = some v51 ∧ call 164 [v51,uv a,uv b] H nx
 fun e52 H53 i54 => qi e52 (fun v55 => ∃ b56,v55 = AVal.bool b56 ∧ call 99 [AVal.bool !b56] H53 i54 fun e57 H58 i59 => qi e57 (fun v60 => ∃ n61 : Int,v60 = AVal.int
 IntKind.u64 n61 ∧ K (AEnd.ret (uv n61)) H58 i59) fun l62 => K (AEnd.pan l62) H58 i59) fun l63 => K (AEnd.pan l63) H53 i54) (ifB (decide (op = 24)) (true = true ∧ ∃
 v64,some (AVal.ptr m 5) = some v64 ∧ ∃ v65,ld1 H v64 = some v65 ∧ call 165 [v65,uv a,uv b] H nx fun e66 H67 i68 => qi e66 (fun v69 => ∃
 b70,v69 = AVal.bool b70 ∧ call 99 [AVal.bool b70] H67 i68 fun e71 H72 i73 => qi e71 (fun v74 => ∃ n75 : Int,v74 = uv n75 ∧ K (AEnd.ret (AVal.int IntKind.u64
 n75)) H72 i73) fun l76 => K (AEnd.pan l76) H72 i73) fun l77 => K (AEnd.pan l77) H67 i68) (true = true ∧ ∃ v78,some (AVal.ptr m 5) = some v78 ∧ ∃ v79,ld1 H v78 = some v79 ∧ call
 165 [v79,uv b,uv a] H nx fun e80 H81 i82 => qi e80 (fun v83 => ∃ b84,v83 = AVal.bool b84 ∧ call 99 [AVal.bool !b84] H81 i82 fun e85 H86 i87
 => qi e85 (fun v88 => ∃ n89 : Int,v88 = uv n89 ∧ K (AEnd.ret (uv n89)) H86 i87) fun l90 => K (AEnd.pan l90) H86 i87) fun l91 => K (AEnd.pan
 l91) H81 i82))))))))))))
theorem qc2 (call : qh) (lp : Nat → qj) (lv : ql) (lvc : qk) (m : Nat) (op : Int) (a : Int) (b : Int) (H : Heap) (nx : Nat) (K : EndP) : q9 Tryz.prog call lp 106 [AVal.ptr m 0,iv op,uv a,uv b] H nx (endK Tryz.prog lv lvc K) = Ftwo call lp lv lvc m op a b H nx K := by kernel_rfl
def FPut (_call : qh) (_lp : Nat → qj) (_lv : ql) (_lvc : qk) (m : Nat) (a : Int) (v : Int) (H : Heap) (nx : Nat) (K : EndP) : Prop :=
 ifB (decide (a = 0)) (K (AEnd.ret (AVal.bool false)) H nx) (true = true ∧ ∃ v0,some (AVal.ptr m 0) = some v0 ∧ ∃ v1,ld1 H v0 = some v1 ∧ ∃ i2,lenS v1 = some i2 ∧ ifB (decide
 (IntKind.u64.wrap (Int.ofNat i2) ≤ a)) (K (AEnd.ret (AVal.bool false)) H nx) (true = true ∧ ∃ v3,some (AVal.ptr m 0) = some v3 ∧ ∃ v4,ld1 H v3 = some v4 ∧ 0 ≤ a ∧ ∃ v5,idxS v4
 a.toNat 1 = some v5 ∧ true = true ∧ ∃ H6,stC H v5 [uv v] = some H6 ∧ K (AEnd.ret (AVal.bool true)) H6 nx))
theorem qcw (call : qh) (lp : Nat → qj) (lv : ql) (lvc : qk) (m : Nat) (a : Int) (v : Int) (H : Heap) (nx : Nat) (K : EndP) : q9 Tryz.prog call lp 152 [AVal.ptr m 0,uv a,uv v] H nx (endK Tryz.prog lv lvc K) = FPut call lp lv lvc m a v H nx K := by kernel_rfl
def Fat (call : qh) (_lp : Nat → qj) (_lv : ql) (_lvc : qk) (m : Nat) (r : Int) (i : Int) (H : Heap) (nx : Nat) (K : EndP) : Prop :=
 ifB (decide (i < 0)) (K (AEnd.ret (uv 0)) H nx) (call 102 [AVal.ptr m 0,uv r] H nx fun e0 H1 i2 => qi e0 (fun v3 => ∃ n4 : Int,v3 = iv n4 ∧
 ifB (decide (n4 ≤ i)) (K (AEnd.ret (uv 0)) H1 i2) (K (AEnd.ret (uv (IntKind.u64.wrap (IntKind.u64.wrap (r + 1) + IntKind.u64.wrap i)))) H1 i2))
 fun l5 => K (AEnd.pan l5) H1 i2)
theorem qgh (call : qh) (lp : Nat → qj) (lv : ql) (lvc : qk) (m : Nat) (r : Int) (i : Int) (H : Heap) (nx : Nat) (K : EndP) : q9 Tryz.prog call lp 153 [AVal.ptr m 0,uv r,iv i] H nx (endK Tryz.prog lv lvc K) = Fat call lp lv lvc m r i H nx K := by kernel_rfl
def FGet (call : qh) (_lp : Nat → qj) (_lv : ql) (_lvc : qk) (m : Nat) (r : Int) (i : Int) (H : Heap) (nx : Nat) (K : EndP) : Prop :=
 call 153 [AVal.ptr m 0,uv r,iv i] H nx fun e0 H1 i2 => qi e0 (fun v3 => ∃ n4 : Int,v3 = uv n4 ∧ call 200 [AVal.ptr m 0,AVal.int
 IntKind.u64 n4] H1 i2 fun e5 H6 i7 => qi e5 (fun v8 => ∃ n9 : Int,v8 = uv n9 ∧ K (AEnd.ret (uv n9)) H6 i7) fun l10 => K (AEnd.pan l10) H6 i7)
 fun l11 => K (AEnd.pan l11) H1 i2
theorem qcd (call : qh) (lp : Nat → qj) (lv : ql) (lvc : qk) (m : Nat) (r : Int) (i : Int) (H : Heap) (nx : Nat) (K : EndP) : q9 Tryz.prog call lp 156 [AVal.ptr m 0,uv r,iv i] H nx (endK Tryz.prog lv lvc K) = FGet call lp lv lvc m r i H nx K := by kernel_rfl
def qan (_call : qh) (_lp : Nat → qj) (_lv : ql) (_lvc : qk) (v : Int) (n : Int) (H : Heap) (nx : Nat) (K : EndP) : Prop :=
 ifB (decide (IntKind.u64.wrap n ≤ v)) (K (AEnd.ret (iv (-1))) H nx) (K (AEnd.ret (iv (IntKind.i64.wrap v))) H nx)
theorem XL (call : qh) (lp : Nat → qj) (lv : ql) (lvc : qk) (v : Int) (n : Int) (H : Heap) (nx : Nat) (K : EndP) : q9 Tryz.prog call lp 157 [uv v,iv n] H nx (endK Tryz.prog lv lvc K) = qan call lp lv lvc v n H nx K := by kernel_rfl
def qej (call : qh) (_lp : Nat → qj) (_lv : ql) (_lvc : qk) (m : Nat) (r : Int) (H : Heap) (nx : Nat) (K : EndP) : Prop :=
 call 200 [AVal.ptr m 0,uv r] H nx fun e0 H1 i2 => qi e0 (fun v3 => ∃ n4 : Int,v3 = uv n4 ∧ K (AEnd.ret (uv n4)) H1 i2) fun
 l5 => K (AEnd.pan l5) H1 i2
theorem qbo (call : qh) (lp : Nat → qj) (lv : ql) (lvc : qk) (m : Nat) (r : Int) (H : Heap) (nx : Nat) (K : EndP) : q9 Tryz.prog call lp 158 [AVal.ptr m 0,uv r] H nx (endK Tryz.prog lv lvc K) = qej call lp lv lvc m r H nx K := by kernel_rfl
def Yd (call : qh) (_lp : Nat → qj) (_lv : ql) (_lvc : qk) (m : Nat) (t : Int) (n : Int) (H : Heap) (nx : Nat) (K : EndP) : Prop :=
 ifB (decide (n < 0)) (K (AEnd.ret (AVal.tuple [uv 0,AVal.bool false])) H nx) (ifB (decide (65536 < n)) (K (AEnd.ret (AVal.tuple [uv 0,AVal.bool
 false])) H nx) (true = true ∧ ∃ v0,some (AVal.ptr m 1) = some v0 ∧ ∃ v1,ld1 H v0 = some v1 ∧ call 89 [v1,iv t,iv n] H nx fun e2 H3 i4 => qi e2 (fun v5 => ∃ n6 b7,v5 =
 AVal.tuple [uv n6,AVal.bool b7] ∧ K (AEnd.ret (AVal.tuple [uv n6,AVal.bool b7])) H3 i4) fun l8 => K (AEnd.pan l8) H3 i4))
theorem XC (call : qh) (lp : Nat → qj) (lv : ql) (lvc : qk) (m : Nat) (t : Int) (n : Int) (H : Heap) (nx : Nat) (K : EndP) : q9 Tryz.prog call lp 161 [AVal.ptr m 0,iv t,iv n] H nx (endK Tryz.prog lv lvc K) = Yd call lp lv lvc m t n H nx K := by kernel_rfl
def Fsay (call : qh) (_lp : Nat → qj) (_lv : ql) (_lvc : qk) (m : Nat) (k : Int) (v : Int) (H : Heap) (nx : Nat) (K : EndP) : Prop :=
 ifB (decide (k = 1)) (call 202 [iv (IntKind.i64.wrap v),iv 10] H nx fun e0 H1 i2 => qi e0 (fun v3 => ∃ s4,v3 = AVal.str s4 ∧ K (AEnd.ret (AVal.tuple [AVal.str s4,AVal.bool
 true])) H1 i2) fun l5 => K (AEnd.pan l5) H1 i2) (ifB (decide (k = 2)) (call 203 [AVal.bool !decide (v = 0)] H nx fun e6 H7 i8 => qi e6 (fun v9 => ∃ s10,v9 = AVal.str s10 ∧ K
 (AEnd.ret (AVal.tuple [AVal.str s10,AVal.bool true])) H7 i8) fun l11 => K (AEnd.pan l11) H7 i8) (ifB (decide (k = 3)) (true = true ∧ ∃ v12,some (AVal.ptr m 1) = some v12 ∧ ∃ v13,
 ld1 H v12 = some v13 ∧ call 201 [v13,uv v] H nx fun e14 H15 i16 => qi e14 (fun v17 => ∃ s18,v17 = AVal.str s18 ∧ K (AEnd.ret (AVal.tuple [AVal.str s18,
 AVal.bool true])) H15 i16) fun l19 => K (AEnd.pan l19) H15 i16) (K (AEnd.ret (AVal.tuple [AVal.str [],AVal.bool false])) H nx)))
theorem qc0 (call : qh) (lp : Nat → qj) (lv : ql) (lvc : qk) (m : Nat) (k : Int) (v : Int) (H : Heap) (nx : Nat) (K : EndP) : q9 Tryz.prog call lp 162 [AVal.ptr m 0,iv k,uv v] H nx (endK Tryz.prog lv lvc K) = Fsay call lp lv lvc m k v H nx K := by kernel_rfl
def qet (_call : qh) (_lp : Nat → qj) (_lv : ql) (_lvc : qk) (m : Nat) (H : Heap) (nx : Nat) (K : EndP) : Prop :=
 true = true ∧ ∃ v0,some (AVal.ptr m 5) = some v0 ∧ ∃ v1,ld1 H v0 = some v1 ∧ ∃ i2,lenS v1 = some i2 ∧ K (AEnd.ret (AVal.bool (decide (4096 ≤ Int.ofNat i2)))) H nx
theorem qa6 (call : qh) (lp : Nat → qj) (lv : ql) (lvc : qk) (m : Nat) (H : Heap) (nx : Nat) (K : EndP) : q9 Tryz.prog call lp 163 [AVal.ptr m 0] H nx (endK Tryz.prog lv lvc K) = qet call lp lv lvc m H nx K := by kernel_rfl
def qe7 (_call : qh) (_lp : Nat → qj) (_lv : ql) (_lvc : qk) (m : Nat) (a : Int) (H : Heap) (nx : Nat) (K : EndP) : Prop :=
 true = true ∧ ∃ v0,some (AVal.ptr m 0) = some v0 ∧ ∃ v1,ld1 H v0 = some v1 ∧ ∃ i2,lenS v1 = some i2 ∧ ifB (decide (IntKind.u64.wrap (Int.ofNat i2) ≤ a)) (K (AEnd.ret (AVal.int
 IntKind.u64 0)) H nx) (true = true ∧ ∃ v3,some (AVal.ptr m 0) = some v3 ∧ ∃ v4,ld1 H v3 = some v4 ∧ 0 ≤ a ∧ ∃ v5,idxS v4 a.toNat 1 = some v5 ∧ ∃ n6 : Int,ld1 H v5 = some
 (uv n6) ∧ K (AEnd.ret (uv n6)) H nx)
theorem qb8 (call : qh) (lp : Nat → qj) (lv : ql) (lvc : qk) (m : Nat) (a : Int) (H : Heap) (nx : Nat) (K : EndP) : q9 Tryz.prog call lp 200 [AVal.ptr m 0,uv a] H nx (endK Tryz.prog lv lvc K) = qe7 call lp lv lvc m a H nx K := by kernel_rfl
def qa2 (_call : qh) (_lp : Nat → qj) (_lv : ql) (_lvc : qk) (p0 : AVal) (p1 : AVal) (p2 : Int) (p3 : AVal) (p4 : AVal) (f : Int) (args : AVal) (H : Heap) (nx : Nat) (K : EndP) : Prop :=
 ∃ H0,H0 = kB nx [p0,p1,iv p2,p3,p4].length [p0,p1,iv p2,p3,p4] H ∧ ∃ H1,H1 = newB (nx + 1) [iv 0,iv 0,AVal.nilSlice,AVal.nilSlice] H0 ∧ ifB (decide (f < 0)) (∃ H2,
 stC H1 (AVal.ptr (nx + 1) 0) [iv 0,iv 0,AVal.nilSlice,AVal.nilSlice] = some H2 ∧ ∃ n3 n4 v5 v6,ldN H2 4 (AVal.ptr (nx + 1) 0) = some (AVal.agg [iv n3,iv n4,v5,v6]) ∧ K
 (AEnd.ret (AVal.agg [iv n3,iv n4,v5,v6])) H2 (nx + 1 + 1)) (∃ v7,some (AVal.ptr nx 1) = some v7 ∧ ∃ v8,ld1 H1 v7 = some v8 ∧ ∃ i9,lenS v8 = some i9 ∧ ifB (decide (Int.ofNat i9
 ≤ f)) (∃ H10,stC H1 (AVal.ptr (nx + 1) 0) [iv 0,iv 0,AVal.nilSlice,AVal.nilSlice] = some H10 ∧ ∃ n11 n12 v13 v14,ldN H10 4 (AVal.ptr (nx + 1) 0) = some (AVal.agg [iv n11,iv
 n12,v13,v14]) ∧ K (AEnd.ret (AVal.agg [iv n11,iv n12,v13,v14])) H10 (nx + 1 + 1)) (∃ v15,some (AVal.ptr nx 1) = some v15 ∧ ∃ v16,ld1 H1 v15 = some v16 ∧ 0 ≤ f ∧ ∃ v17,idxS
 v16 f.toNat 5 = some v17 ∧ ∃ v18,qJ v17 3 = some v18 ∧ ∃ v19,ld1 H1 v18 = some v19 ∧ ∃ i20,lenS v19 = some i20 ∧ Int.ofNat i20 = Int.ofNat i20 ∧ 0 ≤ Int.ofNat i20 ∧
 (Int.ofNat i20).toNat * 1 ≤ 9223372036854775807 ∧ (Int.ofNat i20).toNat * 8 ≤ 140737488355328 ∧ (Int.ofNat i20).toNat ≤ 9223372036854775807 ∧ ∃ H21,H21 = kB (nx + 1 + 1)
 ((Int.ofNat i20).toNat * 1) (repL [uv 0] (Int.ofNat i20).toNat) H1 ∧ true = true ∧ true = true ∧ ∃ H22,H22 = newB (nx + 1 + 1 + 1) [iv 0,iv 0,AVal.nilSlice,
 AVal.nilSlice] H21 ∧ ∃ H23,stC H22 (AVal.ptr (nx + 1 + 1 + 1) 0) [iv f,iv 0,AVal.slice (nx + 1 + 1) 0 (Int.ofNat i20).toNat 1 true,AVal.nilSlice] = some H23 ∧ ∃ v24,some
 (AVal.ptr (nx + 1 + 1 + 1) 2) = some v24 ∧ ∃ v25,ld1 H23 v24 = some v25 ∧ ∃ i26 H27,copC H23 1 v25 args = some (i26,H27) ∧ ∃ n28 n29 v30 v31,ldN H27 4 (AVal.ptr (nx + 1 + 1 + 1)
 0) = some (AVal.agg [iv n28,iv n29,v30,v31]) ∧ ∃ H32,stC H27 (AVal.ptr (nx + 1) 0) [iv n28,iv n29,v30,v31] = some H32 ∧ ∃ n33 n34 v35 v36,ldN H32 4 (AVal.ptr (nx + 1) 0) =
 some (AVal.agg [iv n33,iv n34,v35,v36]) ∧ K (AEnd.ret (AVal.agg [iv n33,iv n34,v35,v36])) H32 (nx + 1 + 1 + 1 + 1)))
theorem Xo (call : qh) (lp : Nat → qj) (lv : ql) (lvc : qk) (p0 : AVal) (p1 : AVal) (p2 : Int) (p3 : AVal) (p4 : AVal) (f : Int) (args : AVal) (H : Heap) (nx : Nat) (K : EndP) : q9 Tryz.prog call lp 48 [AVal.agg [p0,p1,iv p2,p3,p4],iv f,args] H nx (endK Tryz.prog lv lvc K) = qa2 call lp lv lvc p0 p1 p2 p3 p4 f args H nx K := by kernel_rfl
end Go.Vs
end
section
namespace Go.Vs
open Go.Ev (ilt)
open Go.Proofs
variable [GTab]
def FNew (call : qh) (_lp : Nat → qj) (_lv : ql) (_lvc : qk) (p0 : AVal) (p1 : AVal) (p2 : Int) (p3 : AVal) (p4 : AVal) (room : Int) (ins : AVal) (H : Heap) (nx : Nat) (K : EndP) : Prop :=
 ∃ H0,H0 = kB nx [p0,p1,iv p2,p3,p4].length [p0,p1,iv p2,p3,p4] H ∧ ∃ v1 v2 n3 v4 v5,ldN H0 5 (AVal.ptr nx 0) = some (AVal.agg [v1,v2,iv n3,v4,v5]) ∧ call 28
 [AVal.agg [v1,v2,iv n3,v4,v5]] H0 (nx + 1) fun e6 H7 i8 => qi e6 (fun v9 => ∃ n10 n11 n12 : Int,v9 = AVal.tuple [AVal.agg [iv n10,iv n11],iv n12] ∧ ∃ H13,H13 = newB i8
 [iv 0,iv 0] H7 ∧ ∃ H14,stC H13 (AVal.ptr i8 0) [iv n10,iv n11] = some H14 ∧ ifB (!decide (n12 = 0)) (K (AEnd.ret (AVal.tuple [AVal.nilPtr,iv 1])) H14 (i8 + 1)) (∃ v15 v16 n17
 v18 v19,ldN H14 5 (AVal.ptr nx 0) = some (AVal.agg [v15,v16,iv n17,v18,v19]) ∧ call 29 [AVal.agg [v15,v16,iv n17,v18,v19]] H14 (i8 + 1) fun e20 H21 i22 => qi e20 (fun
 v23 => ∃ v24 v25 n26 v27 v28,v23 = AVal.agg [v24,v25,iv n26,v27,v28] ∧ ∃ H29,H29 = kB i22 [v24,v25,iv n26,v27,v28,AVal.nilPtr,AVal.nilSlice,iv 0,iv 0,
 AVal.nilPtr].length [v24,v25,iv n26,v27,v28,AVal.nilPtr,AVal.nilSlice,iv 0,iv 0,AVal.nilPtr] H21 ∧ ∃ v30 v31 n32 v33 v34,ldN H29 5 (AVal.ptr nx 0) = some (AVal.agg [v30,
 v31,iv n32,v33,v34]) ∧ call 31 [AVal.agg [v30,v31,iv n32,v33,v34]] H29 (i22 + 1) fun e35 H36 i37 => qi e35 (fun v38 => call 30 [AVal.ptr i22 0,v38] H36 i37 fun e39 H40
 i41 => qi e39 (fun v42 => ∃ v43 v44 n45 v46 v47,ldN H40 5 (AVal.ptr nx 0) = some (AVal.agg [v43,v44,iv n45,v46,v47]) ∧ call 32 [AVal.agg [v43,v44,iv n45,v46,v47],iv
 room,ins] H40 i41 fun e48 H49 i50 => qi e48 (fun v51 => ∃ v52 b53,v51 = AVal.tuple [v52,AVal.bool b53] ∧ ifB (!b53) (∃ v54,some (AVal.ptr nx 3) = some v54 ∧ true = true ∧ ∃
 H55,stC H49 v54 [AVal.nilSlice] = some H55 ∧ ∃ v56 v57 n58 v59 v60,ldN H55 5 (AVal.ptr nx 0) = some (AVal.agg [v56,v57,iv n58,v59,v60]) ∧ call 32 [AVal.agg [v56,v57,iv n58,
 v59,v60],iv room,ins] H55 i50 fun e61 H62 i63 => qi e61 (fun v64 => ∃ v65 b66,v64 = AVal.tuple [v65,AVal.bool b66] ∧ true = true ∧ ∃ v67,some (AVal.ptr i22 7) = some v67 ∧
 true = true ∧ ∃ H68,stC H62 v67 [iv 2] = some H68 ∧ true = true ∧ ∃ v69,some (AVal.ptr i22 8) = some v69 ∧ true = true ∧ ∃ H70,stC H68 v69 [iv 7] = some H70 ∧ true = true ∧ ∃
 v71,some (AVal.ptr i22 5) = some v71 ∧ qx v65 = true ∧ ∃ H72,stC H70 v71 [v65] = some H72 ∧ K (AEnd.ret (AVal.tuple [AVal.ptr i22 0,iv 0])) H72 i63) fun l73 => K (AEnd.pan
 l73) H62 i63) (true = true ∧ ∃ v74,some (AVal.ptr i22 5) = some v74 ∧ qx v52 = true ∧ ∃ H75,stC H49 v74 [v52] = some H75 ∧ K (AEnd.ret (AVal.tuple [AVal.ptr i22 0,iv 0])) H75
 i50)) fun l76 => K (AEnd.pan l76) H49 i50) fun l77 => K (AEnd.pan l77) H40 i41) fun l78 => K (AEnd.pan l78) H36 i37) fun l79 => K (AEnd.pan l79) H21 i22)) fun l80 => K (AEnd.pan
 l80) H7 i8
theorem qc1 (call : qh) (lp : Nat → qj) (lv : ql) (lvc : qk) (p0 : AVal) (p1 : AVal) (p2 : Int) (p3 : AVal) (p4 : AVal) (room : Int) (ins : AVal) (H : Heap) (nx : Nat) (K : EndP) : q9 Tryz.prog call lp 15 [AVal.agg [p0,p1,iv p2,p3,p4],iv room,ins] H nx (endK Tryz.prog lv lvc K) = FNew call lp lv lvc p0 p1 p2 p3 p4 room ins H nx K := by kernel_rfl
def qat (call : qh) (_lp : Nat → qj) (_lv : ql) (_lvc : qk) (p0 : AVal) (p1 : AVal) (p2 : Int) (p3 : AVal) (p4 : AVal) (H : Heap) (nx : Nat) (K : EndP) : Prop :=
 ∃ H0,H0 = kB nx [p0,p1,iv p2,p3,p4].length [p0,p1,iv p2,p3,p4] H ∧ ∃ v1,some (AVal.ptr nx 2) = some v1 ∧ ∃ n2 : Int,ld1 H0 v1 = some (iv n2) ∧ ifB (decide (n2 < 0)) (K
 (AEnd.ret AVal.nilSlice) H0 (nx + 1)) (∃ v3,some (AVal.ptr nx 2) = some v3 ∧ ∃ n4 : Int,ld1 H0 v3 = some (iv n4) ∧ ∃ v5,some (AVal.ptr nx 1) = some v5 ∧ ∃ v6,ld1 H0 v5 = some v6
 ∧ ∃ i7,lenS v6 = some i7 ∧ ifB (decide (Int.ofNat i7 ≤ n4)) (K (AEnd.ret AVal.nilSlice) H0 (nx + 1)) (∃ v8 v9 n10 v11 v12,ldN H0 5 (AVal.ptr nx 0) = some (AVal.agg [v8,v9,iv
 n10,v11,v12]) ∧ ∃ v13,some (AVal.ptr nx 2) = some v13 ∧ ∃ n14 : Int,ld1 H0 v13 = some (iv n14) ∧ call 48 [AVal.agg [v8,v9,iv n10,v11,v12],iv n14,AVal.nilSlice] H0 (nx + 1)
 fun e15 H16 i17 => qi e15 (fun v18 => ∃ n19 n20 v21 v22,v18 = AVal.agg [iv n19,iv n20,v21,v22] ∧ ∃ H23,H23 = newB i17 [iv n19,iv n20,v21,v22] H16 ∧ K (AEnd.ret
 (AVal.slice i17 0 1 4 true)) H23 (i17 + 1)) fun l24 => K (AEnd.pan l24) H16 i17))
theorem XW (call : qh) (lp : Nat → qj) (lv : ql) (lvc : qk) (p0 : AVal) (p1 : AVal) (p2 : Int) (p3 : AVal) (p4 : AVal) (H : Heap) (nx : Nat) (K : EndP) : q9 Tryz.prog call lp 31 [AVal.agg [p0,p1,iv p2,p3,p4]] H nx (endK Tryz.prog lv lvc K) = qat call lp lv lvc p0 p1 p2 p3 p4 H nx K := by kernel_rfl
def qdt (call : qh) (lp : Nat → qj) (lv : ql) (lvc : qk) (p0 : AVal) (p1 : AVal) (p2 : Int) (p3 : AVal) (p4 : AVal) (room : Int) (ins : AVal) (H : Heap) (nx : Nat) (K : EndP) : Prop :=
 ∃ H0,H0 = kB nx [p0,p1,iv p2,p3,p4].length [p0,p1,iv p2,p3,p4] H ∧ ∃ n1 : Int,some (Bool.rec (Bool.rec room 1 (ilt 1 room)) (Bool.rec room 1 (ilt room 1)) true) = some
 n1 ∧ ∃ n2 : Int,some (Bool.rec (Bool.rec n1 65536 (ilt 65536 n1)) (Bool.rec n1 65536 (ilt n1 65536)) false) = some n2 ∧ call 49 [iv n2] H0 (nx + 1) fun e3 H4 i5 => qi e3 (fun v6
 => ∃ v7 n8,v6 = AVal.tuple [v7,iv n8] ∧ ifB (!decide (n8 = 0)) (K (AEnd.ret (AVal.tuple [AVal.nilPtr,AVal.bool false])) H4 i5) (∃ H9,H9 = newB i5 [] H4 ∧ ∃ i10 l11,aSrc 1 H9
 ins = some (i10,l11) ∧ qo l11 = true ∧ ∃ v12 H13 i14,appC H9 (i5 + 1) 1 8 (AVal.slice i5 0 0 1 true) i10 l11 = some (v12,H13,i14) ∧ qx v7 = true ∧ qx v12 = true ∧ ∃
 H15,H15 = kB i14 [AVal.nilSlice,v7,AVal.nilSlice,v12,iv 0,AVal.nilSlice].length [AVal.nilSlice,v7,AVal.nilSlice,v12,iv 0,AVal.nilSlice] H13 ∧ ∃ v16,some (AVal.ptr nx
 0) = some v16 ∧ ∃ v17,ld1 H15 v16 = some v17 ∧ ∃ i18,lenS v17 = some i18 ∧ lp 83 (qY (qs Tryz.prog 32) [1,1,1,1,0,1,0,0]) (envL (AVal.tuple []) [(35,iv 0),(34,iv
 (Int.ofNat i18)),(33,v17),(32,v16),(10,AVal.ptr i14 0),(31,AVal.ptr i14 0),(30,AVal.agg [AVal.nilSlice,v7,AVal.nilSlice,v12,iv 0,AVal.nilSlice]),(29,v12),(28,
 ins),(27,AVal.slice i5 0 0 1 true),(26,v7),(25,AVal.bool false),(25,AVal.bool !decide (n8 = 0)),(24,iv n8),(9,iv n8),(8,v7),(23,iv n8),(22,v7),(17,AVal.tuple
 [v7,iv n8]),(21,AVal.tuple [v7,iv n8]),(20,iv n2),(19,iv n1),(18,iv room),(7,AVal.bool false),(6,AVal.nilPtr),(3,AVal.ptr nx 0),(2,ins),(1,iv room),(0,AVal.agg
 [p0,p1,iv p2,p3,p4])]) H15 (i14 + 1) [] none (zW Tryz.prog call (lp 83) 83 (qs Tryz.prog 32) [1,1,1,1,0,1,0] (endK Tryz.prog lv lvc K (kj Tryz.prog 32))))) fun
 l19 => K (AEnd.pan l19) H4 i5
theorem YA (call : qh) (lp : Nat → qj) (lv : ql) (lvc : qk) (p0 : AVal) (p1 : AVal) (p2 : Int) (p3 : AVal) (p4 : AVal) (room : Int) (ins : AVal) (H : Heap) (nx : Nat) (K : EndP) : q9 Tryz.prog call lp 32 [AVal.agg [p0,p1,iv p2,p3,p4],iv room,ins] H nx (endK Tryz.prog lv lvc K) = qdt call lp lv lvc p0 p1 p2 p3 p4 room ins H nx K := by kernel_rfl
def qdy (_call : qh) (_lp : Nat → qj) (_lv : ql) (_lvc : qk) (room : Int) (H : Heap) (nx : Nat) (K : EndP) : Prop :=
 ifB (decide (room < 1)) (K (AEnd.ret (AVal.tuple [AVal.nilPtr,iv 1])) H nx) (ifB (decide (65536 < room)) (K (AEnd.ret (AVal.tuple [AVal.nilPtr,iv 1])) H nx) (true = true ∧ ∃ H0,
 H0 = newB nx [uv 0] H ∧ true = true ∧ true = true ∧ ∃ H1,H1 = kB (nx + 1) [AVal.slice nx 0 1 1 true,iv room].length [AVal.slice nx 0 1 1 true,iv room] H0 ∧ K
 (AEnd.ret (AVal.tuple [AVal.ptr (nx + 1) 0,iv 0])) H1 (nx + 1 + 1)))
theorem Yg (call : qh) (lp : Nat → qj) (lv : ql) (lvc : qk) (room : Int) (H : Heap) (nx : Nat) (K : EndP) : q9 Tryz.prog call lp 49 [iv room] H nx (endK Tryz.prog lv lvc K) = qdy call lp lv lvc room H nx K := by kernel_rfl
def qa7 (_call : qh) (_lp : Nat → qj) (_lv : ql) (_lvc : qk) (n : Int) (m : Int) (H : Heap) (nx : Nat) (K : EndP) : Prop :=
 m ≠ 0 ∧ ifB (decide (n.tmod m < 0)) (K (AEnd.ret (iv (IntKind.i64.wrap (n.tmod m + m)))) H nx) (K (AEnd.ret (iv (n.tmod m))) H nx)
theorem XE (call : qh) (lp : Nat → qj) (lv : ql) (lvc : qk) (n : Int) (m : Int) (H : Heap) (nx : Nat) (K : EndP) : q9 Tryz.prog call lp 12 [iv n,iv m] H nx (endK Tryz.prog lv lvc K) = qa7 call lp lv lvc n m H nx K := by kernel_rfl
end Go.Vs
end
section
namespace Go.Vs
open Go.Proofs
variable [GTab]
def LWT (call : qh) (lp : Nat → qj) (N : KC) (X : Nat → KC) (R : KC) (Pn : List (AVal × Bool) → KC) (q : Nat) (w : Nat) (k : Nat) (n : Nat) (hv : AVal) (tv : AVal) (H : Heap) (nx : Nat) : Prop :=
 ifB (decide (((k : Nat) : Int) < ((n : Nat) : Int))) (0 ≤ ((k : Nat) : Int) ∧ ∃ v0,idxS tv (((k : Nat) : Int)).toNat 5 = some v0 ∧ ∃ n1 s2 n3 v4 v5,ldN H 5 v0 = some (AVal.agg [iv n1,AVal.str s2,iv n3,v4,v5]) ∧ ∃ H6,H6 = newB nx [iv
 0,AVal.str [],iv 0,AVal.nilSlice,AVal.nilSlice] H ∧ ∃ H7,stC H6 (AVal.ptr nx 0) [iv n1,AVal.str s2,iv n3,v4,v5] = some H7 ∧ true = true ∧ ∃ v8,some (AVal.ptr w 0) = some
 v8 ∧ ∃ v9,ld1 H7 v8 = some v9 ∧ ∃ v10,some (AVal.ptr nx 0) = some v10 ∧ ∃ n11 : Int,ld1 H7 v10 = some (iv n11) ∧ ∃ H12,H12 = newB (nx + 1 + 7) [] H7 ∧ ∃ v13,some (AVal.ptr nx
 3) = some v13 ∧ ∃ v14,ld1 H12 v13 = some v14 ∧ ((∃ v15,ld1 H12 v8 = some v15 ∧ v15 = v9) ∧ (∃ n16 : Int,ld1 H12 v10 = some (iv n16) ∧ iv n16 = iv n11) ∧ (∃ v17,ld1 H12 v13 =
 some v17 ∧ v17 = v14) ∧ True) ∧ ∃ i18 l19,aSrc 2 H12 v14 = some (i18,l19) ∧ qo l19 = true ∧ ∃ v20 H21 i22,appC H12 (nx + 1 + 17) 2 24 (AVal.slice (nx + 1 + 7) 0 0 2 true)
 i18 l19 = some (v20,H21,i22) ∧ true = true ∧ qx v20 = true ∧ ∃ H23,H23 = newB (nx + 1 + 12) [iv n11,AVal.str [],iv 0,v20,AVal.nilSlice] H21 ∧ ((∃ v24,ld1 H23 v8 = some
 v24 ∧ v24 = v9) ∧ (∃ n25 : Int,ld1 H23 v10 = some (iv n25) ∧ iv n25 = iv n11) ∧ True) ∧ ∃ i26 l27,aSrc 5 H23 (AVal.slice (nx + 1 + 12) 0 1 5 true) = some (i26,l27) ∧ qo l27
 = true ∧ ∃ v28 H29 i30,appC H23 i22 5 80 v9 i26 l27 = some (v28,H29,i30) ∧ true = true ∧ ∃ v31,some (AVal.ptr w 0) = some v31 ∧ True ∧ qx v28 = true ∧ ∃ H32,stC H29 v31
 [v28] = some H32 ∧ True ∧ N (envL AVal.und [(35,iv (IntKind.i64.wrap (((k : Nat) : Int) + 1))),(55,iv (IntKind.i64.wrap (((k : Nat) : Int) + 1))),(54,v31),(53,AVal.ptr w 0),(52,v28),(51,AVal.slice (nx
 + 1 + 12) 0 1 5 true),(50,AVal.agg [iv n11,AVal.str [],iv 0,v20,AVal.nilSlice]),(49,v20),(48,v14),(47,v13),(46,AVal.slice (nx + 1 + 7) 0 0 2 true),(45,iv n11),(44,
 v10),(43,v9),(42,v8),(41,AVal.ptr w 0),(40,AVal.ptr w 0),(39,AVal.ptr w 0),(12,AVal.ptr nx 0),(38,AVal.agg [iv n1,AVal.str s2,iv n3,v4,v5]),(37,v0),(36,
 AVal.bool true),(36,AVal.bool (decide (((k : Nat) : Int) < ((n : Nat) : Int)))),(35,iv ((k : Nat) : Int)),(34,iv ((n : Nat) : Int)),(33,tv),(10,AVal.ptr w 0),(8,hv),(3,AVal.ptr q 0)]) H32 i30 [] none) (X 0 (envL AVal.und [(36,
 AVal.bool false),(36,AVal.bool (decide (((k : Nat) : Int) < ((n : Nat) : Int)))),(35,iv ((k : Nat) : Int)),(34,iv ((n : Nat) : Int)),(33,tv),(10,AVal.ptr w 0),(8,hv),(3,AVal.ptr q 0)]) H nx [] none)
theorem qgf (call : qh) (lp : Nat → qj) (N : KC) (X : Nat → KC) (R : KC) (Pn : List (AVal × Bool) → KC) (q : Nat) (w : Nat) (k : Nat) (n : Nat) (hv : AVal) (tv : AVal) (H : Heap) (nx : Nat) : vK Tryz.prog call (lp 83) 83 (qY (qs Tryz.prog 32) [1,1,1,1,0,1,0,0]) (envL .und [(35,iv k),(34,iv n),(33,tv),(10,AVal.ptr w 0),(8,hv),(3,AVal.ptr q 0)]) H nx [] none (jT N X R Pn) = LWT call lp N X R Pn q w k n hv tv H nx := by kernel_rfl
def AWT (call : qh) (lp : Nat → qj) (lv : ql) (lvc : qk) (q : Nat) (w : Nat) (hv : AVal) (H : Heap) (nx : Nat) (K : EndP) : Prop :=
 ∃ v0,some (AVal.ptr q 3) = some v0 ∧ ∃ v1,ld1 H v0 = some v1 ∧ ∃ i2,lenS v1 = some i2 ∧ lp 83 (qY (qs Tryz.prog 32) [1,1,1,1,1,0,1,0,0]) (envL AVal.und [(59,iv
 0),(58,iv (Int.ofNat i2)),(57,v1),(56,v0),(10,AVal.ptr w 0),(8,hv),(3,AVal.ptr q 0)]) H nx [] none (zW Tryz.prog call (lp 83) 83 (qs Tryz.prog 32) [1,1,1,1,
 1,0,1,0] (endK Tryz.prog lv lvc K (kj Tryz.prog 32)))
theorem qfm (call : qh) (lp : Nat → qj) (lv : ql) (lvc : qk) (q : Nat) (w : Nat) (hv : AVal) (H : Heap) (nx : Nat) (K : EndP) : zW Tryz.prog call (lp 83) 83 (qs Tryz.prog 32) [1,1,1,1,0,1,0] (endK Tryz.prog lv lvc K (kj Tryz.prog 32)) (.exit 0) (envL .und [(10,AVal.ptr w 0),(8,hv),(3,AVal.ptr q 0)]) H nx [] none = AWT call lp lv lvc q w hv H nx K :=
 (show zW Tryz.prog call (lp 83) 83 (qs Tryz.prog 32) [1,1,1,1,0,1,0] (endK Tryz.prog lv lvc K (kj Tryz.prog 32)) (.exit 0) (envL .und [(10,AVal.ptr w 0),(8,hv),(3,AVal.ptr q 0)]) H nx [] none = vK Tryz.prog call (lp 83) 83 (qY (qs Tryz.prog 32) [1,1,1,1,1]) (envL .und [(10,AVal.ptr w 0),(8,hv),(3,AVal.ptr q 0)]) H nx [] none (endK Tryz.prog lv lvc K (kj Tryz.prog 32)) by kernel_rfl).trans (show vK Tryz.prog call (lp 83) 83 (qY (qs Tryz.prog 32) [1,1,1,1,1]) (envL .und [(10,AVal.ptr w 0),(8,hv),(3,AVal.ptr q 0)]) H nx [] none (endK Tryz.prog lv lvc K (kj Tryz.prog 32)) = AWT call lp lv lvc q w hv H nx K by kernel_rfl)
def LWX (call : qh) (lp : Nat → qj) (N : KC) (X : Nat → KC) (R : KC) (Pn : List (AVal × Bool) → KC) (q : Nat) (w : Nat) (k : Nat) (n : Nat) (hv : AVal) (tv : AVal) (H : Heap) (nx : Nat) : Prop :=
 ifB (decide (((k : Nat) : Int) < ((n : Nat) : Int))) (0 ≤ ((k : Nat) : Int) ∧ ∃ v0,idxS tv (((k : Nat) : Int)).toNat 1 = some v0 ∧ ∃ s1,ld1 H v0 = some (AVal.str s1) ∧ call 50 [hv,AVal.str s1] H nx fun e2 H3 i4 => qi e2 (fun v5 => ∃ n6
 b7,v5 = AVal.tuple [uv n6,AVal.bool b7] ∧ ifB (!b7) (R (envL AVal.und [(7,AVal.bool false),(6,AVal.nilPtr),(70,AVal.bool true),(70,AVal.bool !b7),(69,
 AVal.bool b7),(16,AVal.bool b7),(15,uv n6),(68,AVal.bool b7),(67,uv n6),(63,AVal.tuple [uv n6,AVal.bool b7]),(66,
 AVal.tuple [uv n6,AVal.bool b7]),(65,AVal.str s1),(64,hv),(14,AVal.str s1),(62,AVal.str s1),(61,v0),(60,AVal.bool true),(60,AVal.bool (decide (((k : Nat) : Int) <
 ((n : Nat) : Int)))),(59,iv ((k : Nat) : Int)),(58,iv ((n : Nat) : Int)),(57,tv),(10,AVal.ptr w 0),(8,hv),(3,AVal.ptr q 0)]) H3 i4 [] none) (true = true ∧ ∃ v8,some (AVal.ptr w 2) = some v8 ∧ ∃ v9,ld1 H3 v8 =
 some v9 ∧ true = true ∧ ∃ H10,H10 = newB i4 [uv n6] H3 ∧ ∃ i11 l12,aSrc 1 H10 (AVal.slice i4 0 1 1 true) = some (i11,l12) ∧ qo l12 = true ∧ ∃ v13 H14 i15,
 appC H10 (i4 + 1) 1 8 v9 i11 l12 = some (v13,H14,i15) ∧ true = true ∧ ∃ v16,some (AVal.ptr w 2) = some v16 ∧ qx v13 = true ∧ ∃ H17,stC H14 v16 [v13] = some H17 ∧ N (envL
 AVal.und [(59,iv (IntKind.i64.wrap (((k : Nat) : Int) + 1))),(81,iv (IntKind.i64.wrap (((k : Nat) : Int) + 1))),(80,v16),(79,AVal.ptr w 0),(78,v13),(77,AVal.slice i4 0 1 1 true),(76,AVal.int
 IntKind.u64 n6),(75,v9),(74,v8),(73,AVal.ptr w 0),(72,AVal.ptr w 0),(71,AVal.ptr w 0),(70,AVal.bool false),(70,AVal.bool !b7),(69,AVal.bool b7),(16,AVal.bool b7),
 (15,uv n6),(68,AVal.bool b7),(67,uv n6),(63,AVal.tuple [uv n6,AVal.bool b7]),(66,AVal.tuple [uv n6,
 AVal.bool b7]),(65,AVal.str s1),(64,hv),(14,AVal.str s1),(62,AVal.str s1),(61,v0),(60,AVal.bool true),(60,AVal.bool (decide (((k : Nat) : Int) < ((n : Nat) : Int)))),(59,iv ((k : Nat) : Int)),(58,iv ((n : Nat) : Int)),(57,
 tv),(10,AVal.ptr w 0),(8,hv),(3,AVal.ptr q 0)]) H17 i15 [] none)) fun l18 => Pn l18 (envL AVal.und [(65,AVal.str s1),(64,hv),(14,AVal.str s1),(62,AVal.str s1),(61,
 v0),(60,AVal.bool true),(60,AVal.bool (decide (((k : Nat) : Int) < ((n : Nat) : Int)))),(59,iv ((k : Nat) : Int)),(58,iv ((n : Nat) : Int)),(57,tv),(10,AVal.ptr w 0),(8,hv),(3,AVal.ptr q 0)]) H3 i4 [] none) (X 2 (envL
 AVal.und [(60,AVal.bool false),(60,AVal.bool (decide (((k : Nat) : Int) < ((n : Nat) : Int)))),(59,iv ((k : Nat) : Int)),(58,iv ((n : Nat) : Int)),(57,tv),(10,AVal.ptr w 0),(8,hv),(3,AVal.ptr q 0)]) H nx [] none)
theorem qhb (call : qh) (lp : Nat → qj) (N : KC) (X : Nat → KC) (R : KC) (Pn : List (AVal × Bool) → KC) (q : Nat) (w : Nat) (k : Nat) (n : Nat) (hv : AVal) (tv : AVal) (H : Heap) (nx : Nat) : vK Tryz.prog call (lp 83) 83 (qY (qs Tryz.prog 32) [1,1,1,1,1,0,1,0,0]) (envL .und [(59,iv k),(58,iv n),(57,tv),(10,AVal.ptr w 0),(8,hv),(3,AVal.ptr q 0)]) H nx [] none (jT N X R Pn) = LWX call lp N X R Pn q w k n hv tv H nx := by kernel_rfl
def AWX (call : qh) (lp : Nat → qj) (lv : ql) (lvc : qk) (q : Nat) (w : Nat) (hv : AVal) (H : Heap) (nx : Nat) (K : EndP) : Prop :=
 K (AEnd.ret (AVal.tuple [AVal.ptr w 0,AVal.bool true])) H nx
theorem qgc (call : qh) (lp : Nat → qj) (lv : ql) (lvc : qk) (q : Nat) (w : Nat) (hv : AVal) (H : Heap) (nx : Nat) (K : EndP) : zW Tryz.prog call (lp 83) 83 (qs Tryz.prog 32) [1,1,1,1,1,0,1,0] (endK Tryz.prog lv lvc K (kj Tryz.prog 32)) (.exit 2) (envL .und [(10,AVal.ptr w 0),(8,hv),(3,AVal.ptr q 0)]) H nx [] none = AWX call lp lv lvc q w hv H nx K := by kernel_rfl
end Go.Vs
end
section
namespace Go.Vs
open Go.Proofs
variable [GTab]
def qer (call : qh) (lp : Nat → qj) (lv : ql) (lvc : qk) (n : Int) (a : Int) (H : Heap) (nx : Nat) (K : EndP) : Prop :=
 call 12 [iv n,iv 20] H nx fun e0 H1 i2 => qi e0 (fun v3 => ∃ n4 : Int,v3 = iv n4 ∧ call 14 [AVal.str [102,117,110,99,32,102,40,97,32,105,110,116,44,32,98,32,
 105,110,116,41,32,105,110,116,32,123,32,105,102,32,97,32,61,61,32,48,32,123,32,102,111,114,32,123,32,125,32,125,59,32,114,101,116,117,114,110,
 32,97,32,43,32,102,40,97,32,45,32,49,44,32,98,41,32,125,59,32,102,117,110,99,32,109,97,105,110,40,41,32,123,32,112,114,105,110,116,40,102,
 40,105,110,112,117,116,40,41,44,32,55,41,41,32,125]] H1 i2 fun e5 H6 i7 => qi e5 (fun v8 => ∃ v9 v10 n11 v12 v13 n14 n15 n16,v8 = AVal.tuple [AVal.agg [v9,v10,iv
 n11,v12,v13],AVal.agg [iv n14,iv n15],iv n16] ∧ ∃ H17,H17 = newB i7 [AVal.nilSlice,AVal.nilSlice,iv 0,AVal.nilSlice,AVal.nilSlice] H6 ∧ ∃ H18,H18 = newB (i7 + 1) [iv 0,
 iv 0] H17 ∧ ∃ H19,stC H18 (AVal.ptr i7 0) [v9,v10,iv n11,v12,v13] = some H19 ∧ ∃ H20,stC H19 (AVal.ptr (i7 + 1) 0) [iv n14,iv n15] = some H20 ∧ ∃ v21 v22 n23 v24 v25,ldN H20
 5 (AVal.ptr i7 0) = some (AVal.agg [v21,v22,iv n23,v24,v25]) ∧ true = true ∧ ∃ H26,H26 = newB (i7 + 1 + 1) [iv (IntKind.i64.wrap (1 + n4))] H20 ∧ call 15 [AVal.agg [v21,v22,
 iv n23,v24,v25],iv 50,AVal.slice (i7 + 1 + 1) 0 1 1 true] H26 (i7 + 1 + 1 + 1) fun e27 H28 i29 => qi e27 (fun v30 => ∃ v31 n32,v30 = AVal.tuple [v31,iv n32] ∧ call 20 []
 H28 i29 fun e33 H34 i35 => qi e33 (fun v36 => ∃ b37,v36 = AVal.bool b37 ∧ ifB (!b37) (K (AEnd.ret (AVal.bool false)) H34 i35) (ifB (!decide (n16 = 0)) (K (AEnd.ret (AVal.bool
 false)) H34 i35) (ifB (!decide (n32 = 0)) (K (AEnd.ret (AVal.bool false)) H34 i35) (∃ b38,nilK NK.ptr v31 = some b38 ∧ ifB b38 (K (AEnd.ret (AVal.bool false)) H34 i35) (call 16
 [v31,iv 5000] H34 i35 fun e39 H40 i41 => qi e39 (fun v42 => ∃ n43 : Int,v42 = iv n43 ∧ call 21 [v31] H40 i41 fun e44 H45 i46 => qi e44 (fun v47 => ∃ i48,lenS v47 = some i48
 ∧ ifB (!decide (Int.ofNat i48 = IntKind.i64.wrap (IntKind.i64.wrap (1 + n4) + 2))) (K (AEnd.ret (AVal.bool false)) H45 i46) (∃ v49 v50 n51 v52 v53,ldN H45 5 (AVal.ptr i7 0) = some
 (AVal.agg [v49,v50,iv n51,v52,v53]) ∧ call 22 [AVal.agg [v49,v50,iv n51,v52,v53],v47] H45 i46 fun e54 H55 i56 => qi e54 (fun v57 => ∃ b58,v57 = AVal.bool b58 ∧ ifB
 (!b58) (K (AEnd.ret (AVal.bool false)) H55 i56) (lp 166 (qY (qs Tryz.prog 7) [1,1,1,1,1,1,1,1,0,1,0,0]) (envL (AVal.tuple []) [(11,iv 0),(57,AVal.bool false),
 (57,AVal.bool !b58),(56,AVal.bool !b58),(52,AVal.bool false),(55,AVal.bool b58),(52,AVal.bool false),(54,v47),(52,AVal.bool false),(53,AVal.agg [v49,v50,iv n51,
 v52,v53]),(52,AVal.bool false),(52,AVal.bool !decide (Int.ofNat i48 = IntKind.i64.wrap (IntKind.i64.wrap (1 + n4) + 2))),(51,AVal.bool !decide (Int.ofNat i48 =
 IntKind.i64.wrap (IntKind.i64.wrap (1 + n4) + 2))),(50,iv (IntKind.i64.wrap (IntKind.i64.wrap (1 + n4) + 2))),(49,iv (IntKind.i64.wrap (1 + n4))),(48,iv (Int.ofNat i48)),(47,
 v47),(10,v47),(46,v47),(45,v31),(44,iv n43),(43,v31),(42,AVal.bool false),(42,AVal.bool b38),(41,AVal.bool b38),(39,AVal.bool false),(40,v31),(39,AVal.bool
 false),(39,AVal.bool !decide (n32 = 0)),(38,AVal.bool !decide (n32 = 0)),(37,AVal.bool !decide (n32 = 0)),(35,AVal.bool false),(36,iv n32),(35,AVal.bool false),(35,
 AVal.bool !decide (n16 = 0)),(34,AVal.bool !decide (n16 = 0)),(33,AVal.bool !decide (n16 = 0)),(31,AVal.bool false),(32,iv n16),(31,AVal.bool false),(31,AVal.bool !b37),
 (30,AVal.bool !b37),(29,AVal.bool b37),(9,iv n32),(8,v31),(28,iv n32),(27,v31),(22,AVal.tuple [v31,iv n32]),(26,AVal.tuple [v31,iv n32]),(25,AVal.slice (i7 + 1 +
 1) 0 1 1 true),(24,iv (IntKind.i64.wrap (1 + n4))),(23,AVal.agg [v21,v22,iv n23,v24,v25]),(7,iv n16),(6,AVal.ptr (i7 + 1) 0),(5,AVal.ptr i7 0),(21,iv n16),(20,
 AVal.agg [iv n14,iv n15]),(19,AVal.agg [v9,v10,iv n11,v12,v13]),(17,AVal.tuple [AVal.agg [v9,v10,iv n11,v12,v13],AVal.agg [iv n14,iv n15],iv n16]),(18,AVal.tuple
 [AVal.agg [v9,v10,iv n11,v12,v13],AVal.agg [iv n14,iv n15],iv n16]),(0,iv (IntKind.i64.wrap (1 + n4))),(16,iv (IntKind.i64.wrap (1 + n4))),(15,iv n4),(14,iv n),(4,
 AVal.bool false),(1,iv a),(0,iv n)]) H55 i56 [] none (zW Tryz.prog call (lp 166) 166 (qs Tryz.prog 7) [1,1,1,1,1,1,1,1,0,1,0] (endK Tryz.prog lv lvc K (kj
 Tryz.prog 7))))) fun l59 => K (AEnd.pan l59) H55 i56)) fun l60 => K (AEnd.pan l60) H45 i46) fun l61 => K (AEnd.pan l61) H40 i41))))) fun l62 => K (AEnd.pan l62) H34 i35) fun l63 =>
 K (AEnd.pan l63) H28 i29) fun l64 => K (AEnd.pan l64) H6 i7) fun l65 => K (AEnd.pan l65) H1 i2
theorem qbd (call : qh) (lp : Nat → qj) (lv : ql) (lvc : qk) (n : Int) (a : Int) (H : Heap) (nx : Nat) (K : EndP) : q9 Tryz.prog call lp 7 [iv n,iv a] H nx (endK Tryz.prog lv lvc K) = qer call lp lv lvc n a H nx K := by kernel_rfl
def W8 (call : qh) (lp : Nat → qj) (lv : ql) (lvc : qk) (m : Nat) (H : Heap) (nx : Nat) (K : EndP) : Prop :=
 true = true ∧ ∃ v0,some (AVal.ptr m 6) = some v0 ∧ ∃ v1,ld1 H v0 = some v1 ∧ call 35 [v1] H nx fun e2 H3 i4 => qi e2 (fun v5 => K (AEnd.ret v5) H3 i4) fun l6 => K (AEnd.pan l6)
 H3 i4
theorem V6 (call : qh) (lp : Nat → qj) (lv : ql) (lvc : qk) (m : Nat) (H : Heap) (nx : Nat) (K : EndP) : q9 Tryz.prog call lp 21 [AVal.ptr m 0] H nx (endK Tryz.prog lv lvc K) = W8 call lp lv lvc m H nx K := by kernel_rfl
def Yb (call : qh) (lp : Nat → qj) (lv : ql) (lvc : qk) (p0 : AVal) (p1 : AVal) (p2 : Int) (p3 : AVal) (p4 : AVal) (l : AVal) (H : Heap) (nx : Nat) (K : EndP) : Prop :=
 ∃ H0,H0 = kB nx [p0,p1,iv p2,p3,p4].length [p0,p1,iv p2,p3,p4] H ∧ ∃ i1,lenS l = some i1 ∧ ifB (decide (Int.ofNat i1 = 0)) (K (AEnd.ret (AVal.bool false)) H0 (nx + 1))
 (∃ i2,lenS l = some i2 ∧ ifB (decide (30 < Int.ofNat i2)) (K (AEnd.ret (AVal.bool false)) H0 (nx + 1)) (∃ i3,lenS l = some i3 ∧ lp 108 (qY (qs Tryz.prog 22) [1,1,0,1,0,
 0]) (envL (AVal.tuple []) [(21,iv 0),(20,iv (Int.ofNat i3)),(19,l),(18,AVal.bool false),(18,AVal.bool (decide (30 < Int.ofNat i2))),(17,AVal.bool (decide (30 < Int.ofNat
 i2))),(14,AVal.bool false),(16,iv (Int.ofNat i2)),(14,AVal.bool false),(15,l),(14,AVal.bool false),(14,AVal.bool (decide (Int.ofNat i1 = 0))),(13,AVal.bool (decide
 (Int.ofNat i1 = 0))),(12,iv (Int.ofNat i1)),(11,l),(4,AVal.bool false),(2,AVal.ptr nx 0),(1,l),(0,AVal.agg [p0,p1,iv p2,p3,p4])]) H0 (nx + 1) [] none (zW
 Tryz.prog call (lp 108) 108 (qs Tryz.prog 22) [1,1,0,1,0] (endK Tryz.prog lv lvc K (kj Tryz.prog 22)))))
theorem XI (call : qh) (lp : Nat → qj) (lv : ql) (lvc : qk) (p0 : AVal) (p1 : AVal) (p2 : Int) (p3 : AVal) (p4 : AVal) (l : AVal) (H : Heap) (nx : Nat) (K : EndP) : q9 Tryz.prog call lp 22 [AVal.agg [p0,p1,iv p2,p3,p4],l] H nx (endK Tryz.prog lv lvc K) = Yb call lp lv lvc p0 p1 p2 p3 p4 l H nx K := by kernel_rfl
def qar (call : qh) (lp : Nat → qj) (lv : ql) (lvc : qk) (l : AVal) (H : Heap) (nx : Nat) (K : EndP) : Prop :=
 lp 31 (qY (qs Tryz.prog 23) [1,1,0,1,0,0]) (envL (AVal.tuple []) [(4,iv 0),(3,AVal.nilSlice),(2,AVal.nilSlice),(0,l)]) H nx [] none (zW Tryz.prog call (lp 31)
 31 (qs Tryz.prog 23) [1,1,0,1,0] (endK Tryz.prog lv lvc K (kj Tryz.prog 23)))
theorem XD (call : qh) (lp : Nat → qj) (lv : ql) (lvc : qk) (l : AVal) (H : Heap) (nx : Nat) (K : EndP) : q9 Tryz.prog call lp 23 [l] H nx (endK Tryz.prog lv lvc K) = qar call lp lv lvc l H nx K := by kernel_rfl
def qbe (call : qh) (lp : Nat → qj) (lv : ql) (lvc : qk) (l : AVal) (H : Heap) (nx : Nat) (K : EndP) : Prop :=
 ∃ i0,lenS l = some i0 ∧ lp 28 (qY (qs Tryz.prog 35) [1,1,0,1,0,0]) (envL (AVal.tuple []) [(8,iv 0),(7,iv (Int.ofNat i0)),(6,l),(3,AVal.nilSlice),(2,
 AVal.nilSlice),(0,l)]) H nx [] none (zW Tryz.prog call (lp 28) 28 (qs Tryz.prog 35) [1,1,0,1,0] (endK Tryz.prog lv lvc K (kj Tryz.prog 35)))
theorem XO (call : qh) (lp : Nat → qj) (lv : ql) (lvc : qk) (l : AVal) (H : Heap) (nx : Nat) (K : EndP) : q9 Tryz.prog call lp 35 [l] H nx (endK Tryz.prog lv lvc K) = qbe call lp lv lvc l H nx K := by kernel_rfl
def FCl (call : qh) (lp : Nat → qj) (N : KC) (X : Nat → KC) (R : KC) (Pn : List (AVal × Bool) → KC) (i : Int) (n : Int) (l : AVal) (v : AVal) (H : Heap) (nx : Nat) : Prop :=
 ifB (decide (i < n)) (0 ≤ i ∧ ∃ v0,idxS l i.toNat 4 = some v0 ∧ ∃ n1 n2 v3 v4,ldN H 4 v0 = some (AVal.agg [iv n1,iv n2,v3,v4]) ∧ ∃ H5,H5 = newB nx [iv 0,iv 0,AVal.nilSlice,
 AVal.nilSlice] H ∧ ∃ H6,stC H5 (AVal.ptr nx 0) [iv n1,iv n2,v3,v4] = some H6 ∧ ∃ H7,H7 = newB (nx + 1 + 0) [] H6 ∧ ∃ v8,some (AVal.ptr nx 2) = some v8 ∧ ∃ v9,ld1 H7 v8 = some
 v9 ∧ ∃ H10,H10 = newB (nx + 1 + 4) [] H7 ∧ ∃ v11,some (AVal.ptr nx 3) = some v11 ∧ ∃ v12,ld1 H10 v11 = some v12 ∧ ((∃ v13,ld1 H10 v8 = some v13 ∧ v13 = v9) ∧ (∃ v14,ld1 H10 v11
 = some v14 ∧ v14 = v12) ∧ True) ∧ ∃ i15 l16,aSrc 1 H10 v9 = some (i15,l16) ∧ qo l16 = true ∧ ∃ v17 H18 i19,appC H10 (nx + 1 + 12) 1 8 (AVal.slice (nx + 1 + 0) 0 0 1 true)
 i15 l16 = some (v17,H18,i19) ∧ ∃ v20,some (AVal.ptr nx 2) = some v20 ∧ ((∃ v21,ld1 H18 v11 = some v21 ∧ v21 = v12) ∧ True) ∧ ∃ i22 l23,aSrc 1 H18 v12 = some (i22,l23) ∧
 qo l23 = true ∧ ∃ v24 H25 i26,appC H18 i19 1 8 (AVal.slice (nx + 1 + 4) 0 0 1 true) i22 l23 = some (v24,H25,i26) ∧ True ∧ qx v17 = true ∧ ∃ H27,stC H25 v20 [v17] = some
 H27 ∧ ∃ v28,some (AVal.ptr nx 3) = some v28 ∧ True ∧ qx v24 = true ∧ ∃ H29,stC H27 v28 [v24] = some H29 ∧ True ∧ ∃ n30 n31 v32 v33,ldN H29 4 (AVal.ptr nx 0) = some (AVal.agg
 [iv n30,iv n31,v32,v33]) ∧ ∃ H34,H34 = newB i26 [iv n30,iv n31,v32,v33] H29 ∧ ∃ i35 l36,aSrc 4 H34 (AVal.slice i26 0 1 4 true) = some (i35,l36) ∧ qo l36 = true ∧ ∃ v37
 H38 i39,appC H34 (i26 + 1) 4 64 v i35 l36 = some (v37,H38,i39) ∧ N (envL AVal.und [(8,iv (IntKind.i64.wrap (i + 1))),(7,iv n),(6,l),(3,v37)]) H38 i39 [] none) (X 0 (envL
 AVal.und [(8,iv i),(7,iv n),(6,l),(3,v)]) H nx [] none)
theorem qfo (call : qh) (lp : Nat → qj) (N : KC) (X : Nat → KC) (R : KC) (Pn : List (AVal × Bool) → KC) (i : Int) (n : Int) (l : AVal) (v : AVal) (H : Heap) (nx : Nat) : vK Tryz.prog call (lp 28) 28 (qY (qs Tryz.prog 35) [1,1,0,1,0,0]) (envL .und [(8,iv i),(7,iv n),(6,l),(3,v)]) H nx [] none (vx [8,7,6,3] (jT N X R Pn)) = FCl call lp N X R Pn i n l v H nx := by kernel_rfl
def FCa (call : qh) (lp : Nat → qj) (lv : ql) (lvc : qk) (v : AVal) (H : Heap) (nx : Nat) (K : EndP) : Prop :=
 K (AEnd.ret v) H nx
theorem qg4 (call : qh) (lp : Nat → qj) (lv : ql) (lvc : qk) (v : AVal) (H : Heap) (nx : Nat) (K : EndP) : zW Tryz.prog call (lp 28) 28 (qs Tryz.prog 35) [1,1,0,1,0] (endK Tryz.prog lv lvc K (kj Tryz.prog 35)) (.exit 0) (envL .und [(3,v)]) H nx [] none = FCa call lp lv lvc v H nx K := by kernel_rfl
def RCl (call : qh) (lp : Nat → qj) (N : KC) (X : Nat → KC) (R : KC) (Pn : List (AVal × Bool) → KC) (i : Int) (l : AVal) (v : AVal) (H : Heap) (nx : Nat) : Prop :=
 ∃ i0,lenS l = some i0 ∧ ifB (decide (i < Int.ofNat i0)) (0 ≤ i ∧ ∃ v1,idxS l i.toNat 4 = some v1 ∧ ∃ n2 n3 v4 v5,ldN H 4 v1 = some (AVal.agg [iv n2,iv n3,v4,v5]) ∧ ∃ H6,H6 =
 newB nx [iv 0,iv 0,AVal.nilSlice,AVal.nilSlice] H ∧ ∃ H7,stC H6 (AVal.ptr nx 0) [iv n2,iv n3,v4,v5] = some H7 ∧ ∃ H8,H8 = newB (nx + 1) [] H7 ∧ ∃ v9,some (AVal.ptr nx 2) =
 some v9 ∧ ∃ v10,ld1 H8 v9 = some v10 ∧ ∃ i11 l12,aSrc 1 H8 v10 = some (i11,l12) ∧ qo l12 = true ∧ ∃ v13 H14 i15,appC H8 (nx + 1 + 1) 1 8 (AVal.slice (nx + 1) 0 0 1 true)
 i11 l12 = some (v13,H14,i15) ∧ ∃ v16,some (AVal.ptr nx 2) = some v16 ∧ qx v13 = true ∧ ∃ H17,stC H14 v16 [v13] = some H17 ∧ ∃ H18,H18 = newB i15 [] H17 ∧ ∃ v19,some
 (AVal.ptr nx 3) = some v19 ∧ ∃ v20,ld1 H18 v19 = some v20 ∧ ∃ i21 l22,aSrc 1 H18 v20 = some (i21,l22) ∧ qo l22 = true ∧ ∃ v23 H24 i25,appC H18 (i15 + 1) 1 8 (AVal.slice i15
 0 0 1 true) i21 l22 = some (v23,H24,i25) ∧ ∃ v26,some (AVal.ptr nx 3) = some v26 ∧ qx v23 = true ∧ ∃ H27,stC H24 v26 [v23] = some H27 ∧ ∃ n28 n29 v30 v31,ldN H27 4 (AVal.ptr
 nx 0) = some (AVal.agg [iv n28,iv n29,v30,v31]) ∧ ∃ H32,H32 = newB i25 [iv n28,iv n29,v30,v31] H27 ∧ ∃ i33 l34,aSrc 4 H32 (AVal.slice i25 0 1 4 true) = some (i33,l34) ∧
 qo l34 = true ∧ ∃ v35 H36 i37,appC H32 (i25 + 1) 4 64 v i33 l34 = some (v35,H36,i37) ∧ N (envL AVal.und [(4,iv (IntKind.i64.wrap (i + 1))),(3,v35),(2,AVal.nilSlice),
 (0,l)]) H36 i37 [] none) (X 0 (envL AVal.und [(4,iv i),(3,v),(2,AVal.nilSlice),(0,l)]) H nx [] none)
theorem qga (call : qh) (lp : Nat → qj) (N : KC) (X : Nat → KC) (R : KC) (Pn : List (AVal × Bool) → KC) (i : Int) (l : AVal) (v : AVal) (H : Heap) (nx : Nat) : vK Tryz.prog call (lp 31) 31 (qY (qs Tryz.prog 23) [1,1,0,1,0,0]) (envL .und [(4,iv i),(3,v),(2,AVal.nilSlice),(0,l)]) H nx [] none (vx [4,3,2,0] (jT N X R Pn)) = RCl call lp N X R Pn i l v H nx := by kernel_rfl
def RCa (call : qh) (lp : Nat → qj) (lv : ql) (lvc : qk) (v : AVal) (H : Heap) (nx : Nat) (K : EndP) : Prop :=
 K (AEnd.ret v) H nx
theorem qgw (call : qh) (lp : Nat → qj) (lv : ql) (lvc : qk) (v : AVal) (H : Heap) (nx : Nat) (K : EndP) : zW Tryz.prog call (lp 31) 31 (qs Tryz.prog 23) [1,1,0,1,0] (endK Tryz.prog lv lvc K (kj Tryz.prog 23)) (.exit 0) (envL .und [(3,v)]) H nx [] none = RCa call lp lv lvc v H nx K := by kernel_rfl
def RTa (call : qh) (lp : Nat → qj) (lv : ql) (lvc : qk) (b : Nat) (H : Heap) (nx : Nat) (K : EndP) : Prop :=
 K (AEnd.ret (AVal.bool true)) H nx
theorem qfv (call : qh) (lp : Nat → qj) (lv : ql) (lvc : qk) (b : Nat) (H : Heap) (nx : Nat) (K : EndP) : zW Tryz.prog call (lp 108) 108 (qs Tryz.prog 22) [1,1,0,1,0] (endK Tryz.prog lv lvc K (kj Tryz.prog 22)) (.exit 0) (envL .und [(2,AVal.ptr b 0)]) H nx [] none = RTa call lp lv lvc b H nx K := by kernel_rfl
end Go.Vs
end
section
namespace Go.Vs
open Go.Proofs
variable [GTab]
def RB4 (call : qh) (lp : Nat → qj) (N : KC) (X : Nat → KC) (R : KC) (Pn : List (AVal × Bool) → KC) (i : Int) (n : Int) (b : Nat) (l : AVal) (H : Heap) (nx : Nat) : Prop :=
 N (envL AVal.und [(22,AVal.bool (decide (i < n))),(21,iv i),(20,iv n),(19,l),(2,AVal.ptr b 0),(1,l)]) H nx [] none
theorem qh8 (call : qh) (lp : Nat → qj) (N : KC) (X : Nat → KC) (R : KC) (Pn : List (AVal × Bool) → KC) (i : Int) (n : Int) (b : Nat) (l : AVal) (H : Heap) (nx : Nat) : vK Tryz.prog call (lp 108) 108 (qY (qs Tryz.prog 22) [1,1,0,1,0,0,0]) (envL .und [(21,iv i),(20,iv n),(19,l),(2,AVal.ptr b 0),(1,l)]) H nx [] none (vx [22,21,20,19,2,1] (jT N X R Pn)) = RB4 call lp N X R Pn i n b l H nx := by kernel_rfl
def RB5 (call : qh) (lp : Nat → qj) (N : KC) (X : Nat → KC) (R : KC) (Pn : List (AVal × Bool) → KC) (i : Int) (n : Int) (b : Nat) (l : AVal) (H : Heap) (nx : Nat) : Prop :=
 0 ≤ i ∧ ∃ v0,idxS l i.toNat 4 = some v0 ∧ ∃ n1 n2 v3 v4,ldN H 4 v0 = some (AVal.agg [iv n1,iv n2,v3,v4]) ∧ ∃ H5,H5 = newB nx [iv 0,iv 0,AVal.nilSlice,AVal.nilSlice] H ∧ ∃
 H6,stC H5 (AVal.ptr nx 0) [iv n1,iv n2,v3,v4] = some H6 ∧ N (envL AVal.und [(5,iv i),(6,AVal.ptr nx 0),(21,iv i),(20,iv n),(19,l),(2,AVal.ptr b 0),(1,l)]) H6 (nx +
 1) [] none
theorem qgu (call : qh) (lp : Nat → qj) (N : KC) (X : Nat → KC) (R : KC) (Pn : List (AVal × Bool) → KC) (i : Int) (n : Int) (b : Nat) (l : AVal) (H : Heap) (nx : Nat) : vK Tryz.prog call (lp 108) 108 (qY (qs Tryz.prog 22) [1,1,0,1,0,0,1,1,0,0,0]) (envL .und [(21,iv i),(20,iv n),(19,l),(2,AVal.ptr b 0),(1,l)]) H nx [] none (vx [5,6,21,20,19,2,1] (jT N X R Pn)) = RB5 call lp N X R Pn i n b l H nx := by kernel_rfl
def RB6 (call : qh) (lp : Nat → qj) (N : KC) (X : Nat → KC) (R : KC) (Pn : List (AVal × Bool) → KC) (i : Int) (n : Int) (b : Nat) (x : Nat) (l : AVal) (H : Heap) (nx : Nat) : Prop :=
 ∃ v0 v1 n2 v3 v4,ldN H 5 (AVal.ptr b 0) = some (AVal.agg [v0,v1,iv n2,v3,v4]) ∧ ∃ v5,some (AVal.ptr x 0) = some v5 ∧ ∃ n6 : Int,ld1 H v5 = some (iv n6) ∧ call 36 [AVal.agg
 [v0,v1,iv n2,v3,v4],iv n6] H nx fun e7 H8 i9 => qi e7 (fun v10 => ∃ v11 b12,v10 = AVal.tuple [v11,AVal.bool b12] ∧ N (envL AVal.und [(8,AVal.bool b12),(7,v11),(5,iv
 i),(6,AVal.ptr x 0),(21,iv i),(20,iv n),(19,l),(2,AVal.ptr b 0),(1,l)]) H8 i9 [] none) fun l13 => Pn l13 (envL AVal.und [(8,AVal.und),(7,AVal.und),(5,iv i),(6,
 AVal.ptr x 0),(21,iv i),(20,iv n),(19,l),(2,AVal.ptr b 0),(1,l)]) H8 i9 [] none
theorem qh3 (call : qh) (lp : Nat → qj) (N : KC) (X : Nat → KC) (R : KC) (Pn : List (AVal × Bool) → KC) (i : Int) (n : Int) (b : Nat) (x : Nat) (l : AVal) (H : Heap) (nx : Nat) : vK Tryz.prog call (lp 108) 108 (qY (qs Tryz.prog 22) [1,1,0,1,0,0,1,1,0,0,1,0]) (envL .und [(5,iv i),(6,AVal.ptr x 0),(21,iv i),(20,iv n),(19,l),(2,AVal.ptr b 0),(1,l)]) H nx [] none (vx [8,7,5,6,21,20,19,2,1] (jT N X R Pn)) = RB6 call lp N X R Pn i n b x l H nx := by kernel_rfl
def RB7 (call : qh) (lp : Nat → qj) (N : KC) (X : Nat → KC) (R : KC) (Pn : List (AVal × Bool) → KC) (i : Int) (n : Int) (b : Nat) (x : Nat) (l : AVal) (hv : AVal) (H : Heap) (nx : Nat) : Prop :=
 ∃ v0,some (AVal.ptr x 1) = some v0 ∧ ∃ n1 : Int,ld1 H v0 = some (iv n1) ∧ ifB (decide (n1 < 0)) (((∃ n2 : Int,ld1 H v0 = some (iv n2) ∧ iv n2 = iv n1) ∧ AVal.tuple [] =
 AVal.tuple [] ∧ AVal.tuple [] = AVal.tuple [] ∧ AVal.tuple [] = AVal.tuple [] ∧ AVal.tuple [] = AVal.tuple [] ∧ AVal.tuple [] = AVal.tuple [] ∧ AVal.tuple [] = AVal.tuple [] ∧
 AVal.tuple [] = AVal.tuple [] ∧ True) ∧ N (envL AVal.und [(68,AVal.bool true),(7,hv),(5,iv i),(6,AVal.ptr x 0),(21,iv i),(20,iv n),(19,l),(2,AVal.ptr b 0),(1,l)]) H
 (nx + 36) [] none) (∃ v3,some (AVal.ptr x 1) = some v3 ∧ ∃ n4 : Int,ld1 H v3 = some (iv n4) ∧ ∃ i5,lenS hv = some i5 ∧ ifB (decide (Int.ofNat i5 ≤ n4)) (((∃ n6 : Int,ld1 H v0 =
 some (iv n6) ∧ iv n6 = iv n1) ∧ (∃ n7 : Int,ld1 H v3 = some (iv n7) ∧ iv n7 = iv n4) ∧ AVal.tuple [] = AVal.tuple [] ∧ AVal.tuple [] = AVal.tuple [] ∧ AVal.tuple [] = AVal.tuple []
 ∧ AVal.tuple [] = AVal.tuple [] ∧ AVal.tuple [] = AVal.tuple [] ∧ AVal.tuple [] = AVal.tuple [] ∧ True) ∧ N (envL AVal.und [(68,AVal.bool true),(7,hv),(5,iv i),(6,AVal.ptr x
 0),(21,iv i),(20,iv n),(19,l),(2,AVal.ptr b 0),(1,l)]) H (nx + 36) [] none) (∃ v8,some (AVal.ptr x 1) = some v8 ∧ ∃ n9 : Int,ld1 H v8 = some (iv n9) ∧ 0 ≤ n9 ∧ ∃ v10,
 idxS hv n9.toNat 1 = some v10 ∧ ∃ n11 : Int,ld1 H v10 = some (iv n11) ∧ ifB (decide (n11 < 0)) (((∃ n12 : Int,ld1 H v0 = some (iv n12) ∧ iv n12 = iv n1) ∧ (∃ n13 : Int,ld1 H v3 =
 some (iv n13) ∧ iv n13 = iv n4) ∧ (∃ n14 : Int,ld1 H v8 = some (iv n14) ∧ iv n14 = iv n9) ∧ (∃ n15 : Int,ld1 H v10 = some (iv n15) ∧ iv n15 = iv n11) ∧ AVal.tuple [] = AVal.tuple
 [] ∧ AVal.tuple [] = AVal.tuple [] ∧ AVal.tuple [] = AVal.tuple [] ∧ AVal.tuple [] = AVal.tuple [] ∧ True) ∧ N (envL AVal.und [(68,AVal.bool true),(7,hv),(5,iv i),(6,AVal.ptr
 x 0),(21,iv i),(20,iv n),(19,l),(2,AVal.ptr b 0),(1,l)]) H (nx + 36) [] none) (∃ v16,some (AVal.ptr x 2) = some v16 ∧ ∃ v17,ld1 H v16 = some v17 ∧ ∃ i18,lenS v17 = some
 i18 ∧ ∃ v19,some (AVal.ptr b 1) = some v19 ∧ ∃ v20,ld1 H v19 = some v20 ∧ ∃ v21,some (AVal.ptr x 0) = some v21 ∧ ∃ n22 : Int,ld1 H v21 = some (iv n22) ∧ 0 ≤ n22 ∧ ∃ v23,idxS
 v20 n22.toNat 5 = some v23 ∧ ∃ v24,qJ v23 3 = some v24 ∧ ∃ v25,ld1 H v24 = some v25 ∧ ∃ i26,lenS v25 = some i26 ∧ ((∃ n27 : Int,ld1 H v0 = some (iv n27) ∧ iv n27 = iv n1) ∧
 (∃ n28 : Int,ld1 H v3 = some (iv n28) ∧ iv n28 = iv n4) ∧ (∃ n29 : Int,ld1 H v8 = some (iv n29) ∧ iv n29 = iv n9) ∧ (∃ n30 : Int,ld1 H v10 = some (iv n30) ∧ iv n30 = iv n11) ∧ (∃
 v31,ld1 H v16 = some v31 ∧ v31 = v17) ∧ (∃ v32,ld1 H v19 = some v32 ∧ v32 = v20) ∧ (∃ n33 : Int,ld1 H v21 = some (iv n33) ∧ iv n33 = iv n22) ∧ (∃ v34,ld1 H v24 = some v34 ∧ v34
 = v25) ∧ True) ∧ N (envL AVal.und [(68,AVal.bool !decide (Int.ofNat i18 = Int.ofNat i26)),(7,hv),(5,iv i),(6,AVal.ptr x 0),(21,iv i),(20,iv n),(19,l),(2,AVal.ptr b
 0),(1,l)]) H (nx + 36) [] none)))
theorem qh1 (call : qh) (lp : Nat → qj) (N : KC) (X : Nat → KC) (R : KC) (Pn : List (AVal × Bool) → KC) (i : Int) (n : Int) (b : Nat) (x : Nat) (l : AVal) (hv : AVal) (H : Heap) (nx : Nat) : vK Tryz.prog call (lp 108) 108 (qY (qs Tryz.prog 22) [1,1,0,1,0,0,1,1,0,0,1,1,0,0]) (envL .und [(8,AVal.bool true),(7,hv),(5,iv i),(6,AVal.ptr x 0),(21,iv i),(20,iv n),(19,l),(2,AVal.ptr b 0),(1,l)]) H nx [] none (vx [68,7,5,6,21,20,19,2,1] (jT N X R Pn)) = RB7 call lp N X R Pn i n b x l hv H nx := by kernel_rfl
def RB9 (call : qh) (lp : Nat → qj) (N : KC) (X : Nat → KC) (R : KC) (Pn : List (AVal × Bool) → KC) (i : Int) (n : Int) (b : Nat) (x : Nat) (l : AVal) (hv : AVal) (H : Heap) (nx : Nat) : Prop :=
 ∃ v0,some (AVal.ptr x 1) = some v0 ∧ ∃ n1 : Int,ld1 H v0 = some (iv n1) ∧ 0 ≤ n1 ∧ ∃ v2,idxS hv n1.toNat 1 = some v2 ∧ ∃ n3 : Int,ld1 H v2 = some (iv n3) ∧ N (envL AVal.und [(9,
 iv n3),(5,iv i),(6,AVal.ptr x 0),(21,iv i),(20,iv n),(19,l),(2,AVal.ptr b 0),(1,l)]) H nx [] none
theorem qf9 (call : qh) (lp : Nat → qj) (N : KC) (X : Nat → KC) (R : KC) (Pn : List (AVal × Bool) → KC) (i : Int) (n : Int) (b : Nat) (x : Nat) (l : AVal) (hv : AVal) (H : Heap) (nx : Nat) : vK Tryz.prog call (lp 108) 108 (qY (qs Tryz.prog 22) [1,1,0,1,0,0,1,1,0,0,1,1,1,0]) (envL .und [(7,hv),(5,iv i),(6,AVal.ptr x 0),(21,iv i),(20,iv n),(19,l),(2,AVal.ptr b 0),(1,l)]) H nx [] none (vx [9,5,6,21,20,19,2,1] (jT N X R Pn)) = RB9 call lp N X R Pn i n b x l hv H nx := by kernel_rfl
def RB10 (call : qh) (lp : Nat → qj) (N : KC) (X : Nat → KC) (R : KC) (Pn : List (AVal × Bool) → KC) (i : Int) (n : Int) (h : Int) (b : Nat) (x : Nat) (l : AVal) (H : Heap) (nx : Nat) : Prop :=
 ∃ i0,lenS l = some i0 ∧ ifB (decide (i < IntKind.i64.wrap (Int.ofNat i0 - 1))) (∃ v1,some (AVal.ptr b 1) = some v1 ∧ ∃ v2,ld1 H v1 = some v2 ∧ ∃ v3,some (AVal.ptr x 0) = some v3
 ∧ ∃ n4 : Int,ld1 H v3 = some (iv n4) ∧ 0 ≤ n4 ∧ ∃ v5,idxS v2 n4.toNat 5 = some v5 ∧ ∃ v6,qJ v5 4 = some v6 ∧ ∃ v7,ld1 H v6 = some v7 ∧ ∃ v8,some (AVal.ptr x 1) = some v8 ∧
 ∃ n9 : Int,ld1 H v8 = some (iv n9) ∧ 0 ≤ n9 ∧ ∃ v10,idxS v7 n9.toNat 3 = some v10 ∧ ∃ n11 n12 n13 : Int,ldN H 3 v10 = some (AVal.agg [iv n11,iv n12,iv n13]) ∧ ∃ H14,H14 = newB
 (nx + 11) [iv 0,iv 0,iv 0] H ∧ ((∃ v15,ld1 H14 v1 = some v15 ∧ v15 = v2) ∧ (∃ n16 : Int,ld1 H14 v3 = some (iv n16) ∧ iv n16 = iv n4) ∧ (∃ v17,ld1 H14 v6 = some v17 ∧ v17 = v7)
 ∧ (∃ n18 : Int,ld1 H14 v8 = some (iv n18) ∧ iv n18 = iv n9) ∧ (∃ n19 n20 n21 : Int,ldN H14 3 v10 = some (AVal.agg [iv n19,iv n20,iv n21]) ∧ AVal.agg [iv n19,iv n20,iv n21] =
 AVal.agg [iv n11,iv n12,iv n13]) ∧ True) ∧ ∃ H22,stC H14 (AVal.ptr (nx + 11) 0) [iv n11,iv n12,iv n13] = some H22 ∧ True ∧ ∃ v23,some (AVal.ptr (nx + 11) 0) = some v23 ∧ ∃ n24
 : Int,ld1 H22 v23 = some (iv n24) ∧ ifB (!decide (n24 = 36)) (∃ v25,some (AVal.ptr (nx + 11) 0) = some v25 ∧ ∃ n26 : Int,ld1 H22 v25 = some (iv n26) ∧ ifB (!decide (n26 = 37)) (R
 (envL AVal.und [(9,iv h),(6,AVal.ptr x 0),(21,iv i),(20,iv n),(19,l),(2,AVal.ptr b 0),(1,l)]) H22 (nx + 13) [] none) (∃ v27,some (AVal.ptr (nx + 11) 2) = some v27 ∧ ∃
 n28 : Int,ld1 H22 v27 = some (iv n28) ∧ N (envL AVal.und [(9,iv (IntKind.i64.wrap (h - n28))),(6,AVal.ptr x 0),(21,iv i),(20,iv n),(19,l),(2,AVal.ptr b 0),(1,l)]) H22
 (nx + 13) [] none)) (∃ v29,some (AVal.ptr (nx + 11) 2) = some v29 ∧ ∃ n30 : Int,ld1 H22 v29 = some (iv n30) ∧ N (envL AVal.und [(9,iv (IntKind.i64.wrap (h - n30))),(6,AVal.ptr
 x 0),(21,iv i),(20,iv n),(19,l),(2,AVal.ptr b 0),(1,l)]) H22 (nx + 13) [] none)) (N (envL AVal.und [(9,iv h),(6,AVal.ptr x 0),(21,iv i),(20,iv n),(19,l),(2,
 AVal.ptr b 0),(1,l)]) H nx [] none)
theorem qct (call : qh) (lp : Nat → qj) (N : KC) (X : Nat → KC) (R : KC) (Pn : List (AVal × Bool) → KC) (i : Int) (n : Int) (h : Int) (b : Nat) (x : Nat) (l : AVal) (H : Heap) (nx : Nat) : vK Tryz.prog call (lp 108) 108 (qY (qs Tryz.prog 22) [1,1,0,1,0,0,1,1,0,0,1,1,1,1,0]) (envL .und [(9,iv h),(5,iv i),(6,AVal.ptr x 0),(21,iv i),(20,iv n),(19,l),(2,AVal.ptr b 0),(1,l)]) H nx [] none (vx [9,6,21,20,19,2,1] (jT N X R Pn)) = RB10 call lp N X R Pn i n h b x l H nx := by kernel_rfl
def RB15 (call : qh) (lp : Nat → qj) (N : KC) (X : Nat → KC) (R : KC) (Pn : List (AVal × Bool) → KC) (i : Int) (n : Int) (h : Int) (b : Nat) (x : Nat) (l : AVal) (H : Heap) (nx : Nat) : Prop :=
 ∃ v0,some (AVal.ptr x 3) = some v0 ∧ ∃ v1,ld1 H v0 = some v1 ∧ ∃ i2,lenS v1 = some i2 ∧ ifB (!decide (Int.ofNat i2 = h)) (R (envL AVal.und [(4,AVal.bool false),(21,iv i),(20,
 iv n),(19,l),(2,AVal.ptr b 0),(1,l)]) H nx [] none) (N (envL AVal.und [(4,AVal.und),(21,iv i),(20,iv n),(19,l),(2,AVal.ptr b 0),(1,l)]) H nx [] none)
theorem qc9 (call : qh) (lp : Nat → qj) (N : KC) (X : Nat → KC) (R : KC) (Pn : List (AVal × Bool) → KC) (i : Int) (n : Int) (h : Int) (b : Nat) (x : Nat) (l : AVal) (H : Heap) (nx : Nat) : vK Tryz.prog call (lp 108) 108 (qY (qs Tryz.prog 22) [1,1,0,1,0,0,1,1,0,0,1,1,1,1,1]) (envL .und [(9,iv h),(6,AVal.ptr x 0),(21,iv i),(20,iv n),(19,l),(2,AVal.ptr b 0),(1,l)]) H nx [] none (vx [4,21,20,19,2,1] (jT N X R Pn)) = RB15 call lp N X R Pn i n h b x l H nx := by kernel_rfl
def RB17 (call : qh) (lp : Nat → qj) (N : KC) (X : Nat → KC) (R : KC) (Pn : List (AVal × Bool) → KC) (i : Int) (n : Int) (b : Nat) (l : AVal) (H : Heap) (nx : Nat) : Prop :=
 N (envL AVal.und [(21,iv (IntKind.i64.wrap (i + 1))),(20,iv n),(19,l),(2,AVal.ptr b 0),(1,l)]) H nx [] none
theorem qdr (call : qh) (lp : Nat → qj) (N : KC) (X : Nat → KC) (R : KC) (Pn : List (AVal × Bool) → KC) (i : Int) (n : Int) (b : Nat) (l : AVal) (H : Heap) (nx : Nat) : vK Tryz.prog call (lp 108) 108 (qY (qs Tryz.prog 22) [1,1,0,1,0,0,1,1,1]) (envL .und [(21,iv i),(20,iv n),(19,l),(2,AVal.ptr b 0),(1,l)]) H nx [] none (vx [21,20,19,2,1] (jT N X R Pn)) = RB17 call lp N X R Pn i n b l H nx := by kernel_rfl
end Go.Vs
end
section
namespace Go.Vs
open Go.Proofs
variable [GTab]
structure Fm where
 f : Int
 pc : Int
 ls : List Int
 st : List Int
structure Wd where
 words : List Int
 room : Int
 lits : List Int
 inputs : List Int
 taken : Nat
 lines : List (List UInt8)
structure Pg where
 types : AVal
 funcs : AVal
 main : Int
 texts : AVal
 nums : AVal
 w : Nat
 fb : Nat
structure Mst where
 low : List Fm
 top : Fm
 wd : Wd
 state : Int
 trap : Int
def uvs (l : List Int) : List AVal := l.map uv
theorem Wu (l : List Int) : (uvs l).length = l.length := by simp [uvs]
theorem qd4 (l : List Int) (i : Nat) : (uvs l)[i]? = (l[i]?).map uv := by simp [uvs]
def RowV {α : Type} (Γ : GH) (own : Nat → Nat) (role : Nat) (f : α → AVal) (v : AVal) (l : List α) : Prop :=
 (v = .nilSlice ∧ l = []) ∨ ∃ b cs,(∃ full,v = .slice b 0 l.length 1 full) ∧ own b = role ∧ Γ b = some cs ∧ cs.take l.length = l.map f
def qL (g : Nat × AVal) (f : Fm) : List AVal := [iv f.f,iv f.pc,.slice g.1 0 f.ls.length 1 true,g.2]
structure FmV (Γ : GH) (own : Nat → Nat) (i : Nat) (g : Nat × AVal) (f : Fm) : Prop where
 lo : own g.1 = 10 + 2 * i
 lc : Γ g.1 = some (uvs f.ls)
 st : RowV Γ own (11 + 2 * i) uv g.2 f.st
inductive FmsV (Γ : GH) (own : Nat → Nat) : Nat → List (Nat × AVal) → List Fm → Prop
 | nil (i : Nat) : FmsV Γ own i [] []
 | cons {i : Nat} {g : Nat × AVal} {f : Fm} {gs : List (Nat × AVal)} {fs : List Fm} (h : FmV Γ own i g f) (t : FmsV Γ own (i + 1) gs fs) : FmsV Γ own i (g :: gs) (f :: fs)
def qD : List (Nat × AVal) → List Fm → List AVal
 | g :: gs,f :: fs => qL g f ++ qD gs fs
 | _,_ => []
structure WdV (Γ : GH) (own : Nat → Nat) (w hp : Nat) (tv wv litv lv : AVal) (inb : Nat) (inf : Bool) (S : Wd) : Prop where
 ow : own w = 2
 oh : own hp = 3
 ew : Γ w = some [tv,.ptr hp 0,litv,.slice inb 0 S.inputs.length 1 inf,iv S.taken,lv]
 eh : Γ hp = some [wv,iv S.room]
 words : RowV Γ own 5 uv wv S.words
 oi : own inb = 7
 ei : Γ inb = some (S.inputs.map iv)
 lits : RowV Γ own 8 uv litv S.lits
 lines : RowV Γ own 6 AVal.str lv S.lines
structure Gh where
 hp : Nat
 full : Bool
 tv : AVal
 wv : AVal
 litv : AVal
 lv : AVal
 inb : Nat
 inf : Bool
 gl : List (Nat × AVal)
 gt : Nat × AVal
 R : List AVal
def Gh.a (G : Gh) (S : Mst) : Nat := (qD G.gl S.low).length
structure MsG (Γ : GH) (own : Nat → Nat) (Γ0 : GH) (pg : Pg) (m : Nat) (G : Gh) (S : Mst) : Prop where
 ro : ∀ b cs,Γ0 b = some cs → Γ b = some cs ∧ own b = 9
 om : own m = 1
 em : Γ m = some [pg.types,pg.funcs,iv pg.main,pg.texts,pg.nums,.ptr pg.w 0,.slice pg.fb 0 (S.low.length + 1) 4 G.full,iv S.state,iv S.trap,.ptr pg.fb (G.a S)]
 of : own pg.fb = 4
 ef : Γ pg.fb = some (qD G.gl S.low ++ (qL G.gt S.top ++ G.R))
 lowV : FmsV Γ own 0 G.gl S.low
 topV : FmV Γ own S.low.length G.gt S.top
 wdV : WdV Γ own pg.w G.hp G.tv G.wv G.litv G.lv G.inb G.inf S.wd
def MS (Γ0 : GH) (pg : Pg) (m : Nat) (S : Mst) (H : Heap) (nx : Nat) : Prop := ∃ Γ own G,HOK Γ H nx ∧ MsG Γ own Γ0 pg m G S
def Keep (Γ : GH) (own : Nat → Nat) (Γ' : GH) (own' : Nat → Nat) (ex : Nat → Prop) : Prop := ∀ b cs,Γ b = some cs → ¬ ex (own b) → Γ' b = some cs ∧ own' b = own b
section
variable {Γ Γ' : GH} {own own' : Nat → Nat} {ex : Nat → Prop}
theorem RowV.keep {α : Type} {role : Nat} {f : α → AVal} {v : AVal} {l : List α} (k : Keep Γ own Γ' own' ex) (he : ¬ ex role) (h : RowV Γ own role f v l) : RowV Γ' own' role f v l := by
 rcases h with h | ⟨b,cs,h1,h2,h3,h4⟩
 ·exact .inl h
 ·obtain ⟨a1,a2⟩ := k b cs h3 (by rw [h2]; exact he)
  exact .inr ⟨b,cs,h1,by rw [a2,h2],a1,h4⟩
theorem FmV.keep {i : Nat} {g : Nat × AVal} {f : Fm} (k : Keep Γ own Γ' own' ex) (h1 : ¬ ex (10 + 2 * i)) (h2 : ¬ ex (11 + 2 * i)) (h : FmV Γ own i g f) : FmV Γ' own' i g f := by
 obtain ⟨a1,a2⟩ := k _ _ h.lc (by rw [h.lo]; exact h1)
 exact ⟨by rw [a2,h.lo],a1,h.st.keep k h2⟩
theorem FmsV.keep : ∀ {i : Nat} {gs : List (Nat × AVal)} {fs : List Fm},Keep Γ own Γ' own' ex → (∀ j,i ≤ j → j < i + fs.length → ¬ ex (10 + 2 * j) ∧ ¬ ex (11 + 2 * j)) → FmsV Γ own i gs fs → FmsV Γ' own' i gs fs
 | _,_,_,_,_,.nil i => .nil i
 | i,_,_,k,hj,.cons h t => .cons (h.keep k (hj i (Nat.le_refl _) (by simp)).1 (hj i (Nat.le_refl _) (by simp)).2) (FmsV.keep k (fun j h1 h2 => hj j (by omega) (by simp at h2 ⊢; omega)) t)
theorem WdV.keep {w hp : Nat} {tv wv litv lv : AVal} {inb : Nat} {inf : Bool} {S : Wd} (k : Keep Γ own Γ' own' ex) (he : ∀ r,2 ≤ r → r ≤ 8 → r ≠ 4 → ¬ ex r) (h : WdV Γ own w hp tv wv litv lv inb inf S) :
  WdV Γ' own' w hp tv wv litv lv inb inf S := by
 obtain ⟨a1,a2⟩ := k _ _ h.ew (by rw [h.ow]; exact he 2 (by omega) (by omega) (by omega))
 obtain ⟨a3,a4⟩ := k _ _ h.eh (by rw [h.oh]; exact he 3 (by omega) (by omega) (by omega))
 obtain ⟨a5,a6⟩ := k _ _ h.ei (by rw [h.oi]; exact he 7 (by omega) (by omega) (by omega))
 exact ⟨by rw [a2,h.ow],by rw [a4,h.oh],a1,a3,h.words.keep k (he 5 (by omega) (by omega) (by omega)),by rw [a6,h.oi],a5,h.lits.keep k (he 8 (by omega) (by omega) (by omega)),h.lines.keep k (he 6 (by omega) (by omega) (by omega))⟩
end
theorem FmsV.len {Γ : GH} {own : Nat → Nat} : ∀ {i : Nat} {gs : List (Nat × AVal)} {fs : List Fm},FmsV Γ own i gs fs → (qD gs fs).length = 4 * fs.length
 | _,_,_,.nil _ => rfl
 | _,_,_,.cons _ t => by simp only [qD,List.length_append,List.length_cons,FmsV.len t,qL,List.length_nil]; omega
section
variable {Γ : GH} {own : Nat → Nat} {H : Heap} {nx : Nat}
theorem RowV.len {α : Type} {role : Nat} {f : α → AVal} {v : AVal} {l : List α} (h : RowV Γ own role f v l) : lenS v = some l.length := by
 rcases h with ⟨rfl,rfl⟩ | ⟨b,cs,⟨full,rfl⟩,_⟩ <;> rfl
theorem RowV.at {α : Type} {role : Nat} {f : α → AVal} {v : AVal} {l : List α} (hk : HOK Γ H nx) (h : RowV Γ own role f v l) {i : Nat} (hi : i < l.length) : ∃ b,idxS v i 1 = some (.ptr b i) ∧ ld1 H (.ptr b i) = some (f l[i]) := by
 rcases h with ⟨rfl,rfl⟩ | ⟨b,cs,⟨full,rfl⟩,h1,h2,h3⟩
 ·simp at hi
 ·refine ⟨b,by rw [qW hi]; simp,?_⟩
  rw [hk.ld1 h2]
  have : cs[i]? = (cs.take l.length)[i]? := (List.getElem?_take_of_lt hi).symm
  rw [this,h3]; simp [hi]
theorem RowV.cut {α : Type} {role : Nat} {f : α → AVal} {v : AVal} {l : List α} (h : RowV Γ own role f v l) {n : Nat} (hn : n ≤ l.length) : ∃ v',slcS v 1 0 (some n) = some v' ∧ qx v' = true ∧ RowV Γ own role f v' (l.take n) := by
 rcases h with ⟨rfl,rfl⟩ | ⟨b,cs,⟨full,rfl⟩,h1,h2,h3⟩
 ·have : n = 0 := by simpa using hn
  subst this
  exact ⟨.nilSlice,rfl,rfl,.inl ⟨rfl,by simp⟩⟩
 ·have g1 : Nat.ble n l.length = true := zj hn
  have g2 : Nat.ble 0 n = true := zj (Nat.zero_le _)
  refine ⟨.slice b 0 n 1 (Bool.rec false full (Nat.beq n l.length)),?_,rfl,.inr ⟨b,cs,⟨Bool.rec false full (Nat.beq n l.length),?_⟩,h1,h2,?_⟩⟩
  ·unfold slcS
   simp only [Option.getD_some,g1,g2,Nat.beq]
   simp
  ·rw [List.length_take,Nat.min_eq_left hn]
  ·rw [List.length_take,Nat.min_eq_left hn,List.map_take,← h3,List.take_take,Nat.min_eq_left hn]
theorem RowV.push {α : Type} {role eb : Nat} {f : α → AVal} {v : AVal} {l : List α} (hk : HOK Γ H nx) (h : RowV Γ own role f v l) (xs : List α) (h0 : 0 < xs.length) (hl : l.length + xs.length ≤ 1000000000) (he : eb ≤ 16) :
  ∃ H' v' Γ',appC H nx 1 eb v xs.length (xs.map f) = some (v',H',nx + 1) ∧ qx v' = true ∧ HOK Γ' H' (nx + 1) ∧ RowV Γ' (fun b => if b = nx then role else own b) role f v' (l ++ xs) ∧
   Keep Γ own Γ' (fun b => if b = nx then role else own b) (fun r => r = role) := by
 have hb : (l.length + xs.length) * eb ≤ 140737488355328 := Nat.le_trans (Nat.mul_le_mul hl he) (by omega)
 rcases h with ⟨rfl,rfl⟩ | ⟨b,cs,⟨full,rfl⟩,h1,h2,h3⟩
 ·obtain ⟨H',e,hk'⟩ := hk.appNil (esz := 1) (ebytes := eb) (k := xs.length) (new := xs.map f) (by simp) h0 (by simp at hl; omega) (by simpa using hb)
  refine ⟨H',_,_,e,rfl,hk',.inr ⟨nx,xs.map f,⟨_,by simp; rfl⟩,by simp,qc _ _ _,by rw [List.nil_append,List.take_of_length_le (by simp)]⟩,fun c cs hc hx => ?_⟩
  have := hk.lt hc
  exact ⟨by rw [qe (by omega)]; exact hc,by simp [show c ≠ nx by omega]⟩
 ·have hcl : l.length ≤ cs.length := jX h3 (by simp)
  cases full with
  | true =>
   obtain ⟨H',e,hk'⟩ := hk.appFull (off := 0) (esz := 1) (ebytes := eb) (k := xs.length) (len := l.length) (new := xs.map f) h2 (by omega) (by simp) h0 (by omega) hb
   refine ⟨H',_,_,e,rfl,hk',.inr ⟨nx,_,⟨_,by simp; rfl⟩,by simp,qc _ _ _,?_⟩,fun c ds hc hx => ?_⟩
   ·rw [Nat.mul_one,List.drop_zero,h3,List.take_of_length_le (by simp)]; simp
   ·have := hk.lt hc
    exact ⟨by rw [qe (by omega)]; exact hc,by simp [show c ≠ nx by omega]⟩
  | false =>
  obtain ⟨H',e,hk'⟩ := hk.app (esz := 1) (ebytes := eb) (k := xs.length) (len := l.length) (new := xs.map f) h2 (by omega) (by simp) h0 (by omega) hb
  refine ⟨H',_,_,e,rfl,hk',.inr ⟨nx,_,⟨_,by simp; rfl⟩,by simp,qc _ _ _,?_⟩,fun c ds hc hx => ?_⟩
  ·rw [Nat.mul_one,h3,List.take_of_length_le (by simp)]; simp
  ·have := hk.lt hc
   have hcb : c ≠ b := fun e => hx (by rw [e,h1])
   exact ⟨by rw [qe (by omega),qe hcb]; exact hc,by simp [show c ≠ nx by omega]⟩
end
end Go.Vs
end
section
namespace Go.Vs
open Go.Ev (ilt zH)
open Go.Proofs
variable [GTab]
theorem vP (A R : List AVal) (g : Nat × AVal) (f : Fm) (k : Nat) (hk : k < 4) : (A ++ (qL g f ++ R))[A.length + k]? = (qL g f)[k]? := by
 rw [List.getElem?_append_right (by omega),List.getElem?_append_left (by simp [qL]; omega)]
 congr 1; omega
section
variable {Γ : GH} {own : Nat → Nat} {Γ0 : GH} {pg : Pg} {m : Nat} {G : Gh} {S : Mst} {H : Heap} {nx : Nat}
theorem MsG.ld_in (h : MsG Γ own Γ0 pg m G S) (hk : HOK Γ H nx) : ld1 H (.ptr m 9) = some (.ptr pg.fb (G.a S)) := by
 rw [hk.ld1 h.em]; rfl
theorem MsG.ld_f (h : MsG Γ own Γ0 pg m G S) (hk : HOK Γ H nx) : ld1 H (.ptr pg.fb (G.a S)) = some (iv S.top.f) := by
 rw [hk.ld1 h.ef]; exact vP _ _ _ _ 0 (by omega)
theorem MsG.ld_pc (h : MsG Γ own Γ0 pg m G S) (hk : HOK Γ H nx) : ld1 H (.ptr pg.fb (G.a S + 1)) = some (iv S.top.pc) := by
 rw [hk.ld1 h.ef]; exact vP _ _ _ _ 1 (by omega)
theorem MsG.ld_ls (h : MsG Γ own Γ0 pg m G S) (hk : HOK Γ H nx) : ld1 H (.ptr pg.fb (G.a S + 2)) = some (.slice G.gt.1 0 S.top.ls.length 1 true) := by
 rw [hk.ld1 h.ef]; exact vP _ _ _ _ 2 (by omega)
theorem MsG.ld_st (h : MsG Γ own Γ0 pg m G S) (hk : HOK Γ H nx) : ld1 H (.ptr pg.fb (G.a S + 3)) = some G.gt.2 := by
 rw [hk.ld1 h.ef]; exact vP _ _ _ _ 3 (by omega)
theorem JF (A B : List AVal) (k : Nat) (vs : List AVal) : qC (A ++ B) (A.length + k) vs = A ++ qC B k vs := by
 unfold qC
 rw [List.take_append,List.drop_append,List.take_of_length_le (by omega),List.drop_eq_nil_of_le (by omega),show A.length + k - A.length = k by omega,show A.length + k + vs.length - A.length = k + vs.length by omega]
 simp
theorem Wq (A R : List AVal) (c0 c1 c2 c3 v : AVal) : qC (A ++ ([c0,c1,c2,c3] ++ R)) (A.length + 3) [v] = A ++ ([c0,c1,c2,v] ++ R) := by rw [JF]; rfl
theorem XJ (A R : List AVal) (c0 c1 c2 c3 v : AVal) : qC (A ++ ([c0,c1,c2,c3] ++ R)) (A.length + 1) [v] = A ++ ([c0,v,c2,c3] ++ R) := by rw [JF]; rfl
end
def pk (st : List Int) (k : Nat) : Int := if k < st.length then st.getD (st.length - 1 - k) 0 else 0
theorem kR {Γ0 : GH} {pg : Pg} {m : Nat} {S : Mst} {H : Heap} {nx : Nat} {K : EndP} {k : Nat} (hlen : S.top.st.length < 1000000) (hk1 : k < 1000000) (h : MS Γ0 pg m S H nx)
  (hK : ∀ nx',nx ≤ nx' → K (.ret (uv (pk S.top.st k))) H nx') : TriP Tryz.prog 92 [.ptr m 0,iv k] H nx K := by
 obtain ⟨Γ,own,G,hk,g⟩ := h
 refine TriP.of_body qw ?_
 rw [YV]
 unfold qeh
 have e1 := g.ld_in hk
 have e2 := g.ld_st hk
 have e3 := g.topV.st.len
 simp only [qz,true_and,and_true,exists_eq_left,exists_eq_left',exists_and_left,e1,e2,e3,nilK,zh,qt,qS,decide_eq_true_eq,decide_eq_false_iff_not,Int.ofNat_eq_natCast]
 refine ⟨fun h => by simp at h,fun _ => ⟨fun h => by omega,fun _ => ⟨fun hle => ?_,fun hgt => ?_⟩⟩⟩
 ·have := hK nx (Nat.le_refl _)
  unfold pk at this
  rw [if_neg (by omega)] at this
  exact this
 ·have hlt : k < S.top.st.length := by omega
  have ew : IntKind.i64.wrap (IntKind.i64.wrap ((S.top.st.length : Int) - 1) - (k : Int)) = ((S.top.st.length - 1 - k : Nat) : Int) := by
   rw [qP (n := (S.top.st.length : Int) - 1) (by omega) (by omega),qP (by omega) (by omega)]; omega
  obtain ⟨b,i1,i2⟩ := g.topV.st.at hk (i := S.top.st.length - 1 - k) (by omega)
  rw [ew]
  simp only [Int.toNat_natCast,i1,i2,qz,exists_eq_left',Int.natCast_nonneg,true_and,and_true,AVal.int.injEq,uv]
  have := hK (nx + 21) (by omega)
  unfold pk at this
  rw [if_pos hlt] at this
  have hx : S.top.st.getD (S.top.st.length - 1 - k) 0 = S.top.st[S.top.st.length - 1 - k]'(by omega) := by simp [List.getD,show S.top.st.length - 1 - k < S.top.st.length by omega]
  rw [hx] at this
  exact this
theorem MsG.setStackG {Γ Γ1 : GH} {own own1 : Nat → Nat} {Γ0 : GH} {pg : Pg} {m : Nat} {G : Gh} {S : Mst} {H1 : Heap} {nx1 : Nat} {v' : AVal} {st' : List Int} (g : MsG Γ own Γ0 pg m G S)
  (kp : Keep Γ own Γ1 own1 (fun r => r = 11 + 2 * S.low.length)) (hk : HOK Γ1 H1 nx1) (hv : qx v' = true) (hr : RowV Γ1 own1 (11 + 2 * S.low.length) uv v' st') :
  ∃ H2 Γ2,stC H1 (.ptr pg.fb (G.a S + 3)) [v'] = some H2 ∧ HOK Γ2 H2 nx1 ∧ MsG Γ2 own1 Γ0 pg m { G with gt := (G.gt.1,v') } { S with top := { S.top with st := st' } } := by
 obtain ⟨f1,f2⟩ := kp _ _ g.ef (by rw [g.of]; omega)
 obtain ⟨H2,e2,hk2⟩ := hk.st (off := G.a S + 3) (vs := [v']) f1 (by simp [qL,Gh.a]; omega) (by simp [qo,hv])
 refine ⟨H2,_,e2,hk2,?_⟩
 have sp : qC (qD G.gl S.low ++ (qL G.gt S.top ++ G.R)) (G.a S + 3) [v'] = qD G.gl S.low ++ (qL (G.gt.1,v') { S.top with st := st' } ++ G.R) := Wq _ _ _ _ _ _ _
 rw [sp]
 have kp2 : Keep Γ1 own1 (gup pg.fb (some (qD G.gl S.low ++ (qL (G.gt.1,v') { S.top with st := st' } ++ G.R))) Γ1) own1 (fun r => r = 4) := fun b cs hb hx =>
  ⟨by rw [qe (fun e => hx (by rw [e,f2,g.of]))]; exact hb,rfl⟩
 have kp3 : Keep Γ own (gup pg.fb (some (qD G.gl S.low ++ (qL (G.gt.1,v') { S.top with st := st' } ++ G.R))) Γ1) own1 (fun r => r = 4 ∨ r = 11 + 2 * S.low.length) := fun b cs hb hx => by
  obtain ⟨a1,a2⟩ := kp b cs hb (fun e => hx (.inr e))
  obtain ⟨a3,a4⟩ := kp2 b cs a1 (fun e => hx (.inl (by rw [← a2,e])))
  exact ⟨a3,by rw [a4,a2]⟩
 refine ⟨fun b cs hb => ?_,?_,?_,by rw [f2,g.of],qc _ _ _,?_,?_,?_⟩
 ·obtain ⟨a1,a2⟩ := g.ro b cs hb
  obtain ⟨a3,a4⟩ := kp3 b cs a1 (by rw [a2]; omega)
  exact ⟨a3,by rw [a4,a2]⟩
 ·exact ((kp3 _ _ g.em (by rw [g.om]; omega)).2).trans g.om
 ·exact (kp3 _ _ g.em (by rw [g.om]; omega)).1
 ·exact g.lowV.keep kp3 (fun j h1 h2 => by have h2' : j < 0 + S.low.length := h2; omega)
 ·show FmV _ _ S.low.length (G.gt.1,v') { S.top with st := st' }
  obtain ⟨a1,a2⟩ := kp3 _ _ g.topV.lc (by rw [g.topV.lo]; omega)
  exact ⟨by rw [a2]; exact g.topV.lo,a1,hr.keep kp2 (by omega)⟩
 ·exact g.wdV.keep kp3 (fun r h1 h2 h3 => by omega)
theorem MsG.setStack {Γ Γ1 : GH} {own own1 : Nat → Nat} {Γ0 : GH} {pg : Pg} {m : Nat} {G : Gh} {S : Mst} {H1 : Heap} {nx1 : Nat} {v' : AVal} {st' : List Int} (g : MsG Γ own Γ0 pg m G S)
  (kp : Keep Γ own Γ1 own1 (fun r => r = 11 + 2 * S.low.length)) (hk : HOK Γ1 H1 nx1) (hv : qx v' = true) (hr : RowV Γ1 own1 (11 + 2 * S.low.length) uv v' st') :
  ∃ H2,stC H1 (.ptr pg.fb (G.a S + 3)) [v'] = some H2 ∧ MS Γ0 pg m { S with top := { S.top with st := st' } } H2 nx1 := by
 obtain ⟨H2,Γ2,a,b,c⟩ := g.setStackG kp hk hv hr
 exact ⟨H2,a,_,_,_,b,c⟩
theorem Keep.new {Γ : GH} {own : Nat → Nat} {H : Heap} {nx b : Nat} {ex : Nat → Prop} (hk : HOK Γ H nx) (hb : nx ≤ b) (x : Option (List AVal)) : Keep Γ own (gup b x Γ) own ex := fun c cs hc _ =>
 ⟨by have := hk.lt hc; rw [qe (by omega)]; exact hc,rfl⟩
theorem Keep.trans {Γ1 Γ2 Γ3 : GH} {o1 o2 o3 : Nat → Nat} {ex : Nat → Prop} (a : Keep Γ1 o1 Γ2 o2 ex) (b : Keep Γ2 o2 Γ3 o3 ex) : Keep Γ1 o1 Γ3 o3 ex := fun c cs hc hx => by
 obtain ⟨a1,a2⟩ := a c cs hc hx
 obtain ⟨a3,a4⟩ := b c cs a1 (by rw [a2]; exact hx)
 exact ⟨a3,by rw [a4,a2]⟩
theorem MsG.keep {Γ Γ1 : GH} {own own1 : Nat → Nat} {Γ0 : GH} {pg : Pg} {m : Nat} {G : Gh} {S : Mst} (g : MsG Γ own Γ0 pg m G S) (kp : Keep Γ own Γ1 own1 (fun _ => False)) : MsG Γ1 own1 Γ0 pg m G S where
 ro := fun b cs hb => by
  obtain ⟨a1,a2⟩ := g.ro b cs hb
  obtain ⟨a3,a4⟩ := kp b cs a1 id
  exact ⟨a3,by rw [a4,a2]⟩
 om := ((kp _ _ g.em id).2).trans g.om
 em := (kp _ _ g.em id).1
 of := ((kp _ _ g.ef id).2).trans g.of
 ef := (kp _ _ g.ef id).1
 lowV := g.lowV.keep kp fun _ _ _ => ⟨id,id⟩
 topV := g.topV.keep kp id id
 wdV := g.wdV.keep kp fun _ _ _ _ => id
def Mst.st (S : Mst) (l : List Int) : Mst := { S with top := { S.top with st := l } }
theorem vL {Γ0 : GH} {pg : Pg} {m : Nat} {S : Mst} {H : Heap} {nx : Nat} {K : EndP} {v : Int} (hlen : S.top.st.length < 1000000) (h : MS Γ0 pg m S H nx)
  (hK : ∀ H' nx',nx ≤ nx' → MS Γ0 pg m (S.st (S.top.st ++ [v])) H' nx' → K (.ret (.tuple [])) H' nx') : TriP Tryz.prog 94 [.ptr m 0,uv v] H nx K := by
 obtain ⟨Γ,own,G,hk,g⟩ := h
 refine TriP.of_body qw ?_
 rw [qb3]
 unfold qeq
 have e1 := g.ld_in hk
 have e2 := g.ld_st hk
 have hk1 := hk.new (b := nx + 12) (nx' := nx + 17) (by omega) (by omega) [uv v]
 have g1 : MsG (gup (nx + 12) (some [uv v]) Γ) own Γ0 pg m G S := g.keep (Keep.new hk (by omega) _)
 have e3 := g1.ld_in hk1
 have e4 := g1.ld_st hk1
 have e5 : aSrc 1 (newB (nx + 12) [uv v] H) (.slice (nx + 12) 0 1 1 true) = some (1,[uv v]) := hk1.src (qc _ _ _) (by simp)
 obtain ⟨H2,v',Γ2,p1,p2,p3,p4,p5⟩ := RowV.push (eb := 8) (hk1.more (nx' := nx + 17) (by omega)) g1.topV.st [v] (by simp) (by simp; omega) (by omega)
 have kp : Keep Γ own Γ2 (fun b => if b = nx + 17 then 11 + 2 * S.low.length else own b) (fun r => r = 11 + 2 * S.low.length) := (Keep.new hk (by omega) _).trans p5
 obtain ⟨H3,q1,q2⟩ := g.setStack kp p3 p2 p4
 have e6 : ld1 H2 (.ptr m 9) = some (.ptr pg.fb (G.a S)) := by
  rw [p3.ld1 (kp _ _ g.em (by rw [g.om]; omega)).1]; rfl
 have pp : appC (newB (nx + 12) [uv v] H) (nx + 17) 1 8 G.gt.2 1 [uv v] = some (v',H2,nx + 17 + 1) := p1
 simp only [qz,true_and,and_true,exists_eq_left,exists_eq_left',exists_and_left,e1,e2,e3,e4,e5,e6,zh,qt,Prod.mk.injEq,and_assoc,pp,p2,q1]
 simp [qo,qx]
 exact hK _ _ (by omega) q2
def jf (n : Nat) (l : List Int) : List Int := l.take (l.length - n)
theorem VI {Γ : GH} {own : Nat → Nat} {G : Gh} {Γ0 : GH} {pg : Pg} {m : Nat} {S : Mst} {H : Heap} {nx : Nat} {K : EndP} {n : Nat} (hlen : S.top.st.length < 1000000) (hn : n < 1000000) (hk : HOK Γ H nx) (g : MsG Γ own Γ0 pg m G S)
  (hK : ∀ Γ' v' H' nx',nx ≤ nx' → HOK Γ' H' nx' → MsG Γ' own Γ0 pg m { G with gt := (G.gt.1,v') } (S.st (jf n S.top.st)) → K (.ret (.tuple [])) H' nx') : TriP Tryz.prog 93 [.ptr m 0,iv n] H nx K := by
 refine TriP.of_body qw ?_
 rw [Ye]
 unfold qee
 have e1 := g.ld_in hk
 have e2 := g.ld_st hk
 have e3 := g.topV.st.len
 obtain ⟨v',p1,p2,p3⟩ := g.topV.st.cut (n := S.top.st.length - n) (by omega)
 obtain ⟨H3,Γ3,q1,q2,q3⟩ := g.setStackG (Γ1 := Γ) (own1 := own) (fun _ _ a _ => ⟨a,rfl⟩) (hk.more (nx' := nx + 14) (by omega)) p2 p3
 have ew : (Bool.rec (Bool.rec 0 (IntKind.i64.wrap ((S.top.st.length : Int) - n)) (ilt (IntKind.i64.wrap ((S.top.st.length : Int) - n)) 0)) (Bool.rec 0 (IntKind.i64.wrap ((S.top.st.length : Int) - n)) (ilt 0 (IntKind.i64.wrap ((S.top.st.length : Int) - n)))) true : Int) = ((S.top.st.length - n : Nat) : Int) := by
  rw [qP (by omega) (by omega),zH,zH]
  by_cases hx : 0 < (S.top.st.length : Int) - n
  ·simp only [decide_eq_true hx]; omega
  ·simp only [decide_eq_false hx]; omega
 simp only [qz,true_and,and_true,exists_eq_left,exists_eq_left',exists_and_left,e1,e2,e3,zh,qt,Int.ofNat_eq_natCast,ew,Int.toNat_natCast,Int.natCast_nonneg,p1,p2,q1]
 exact hK _ _ _ _ (by omega) q2 q3
theorem ZK {Γ0 : GH} {pg : Pg} {m : Nat} {S : Mst} {H : Heap} {nx : Nat} {K : EndP} {n : Nat} (hlen : S.top.st.length < 1000000) (hn : n < 1000000) (h : MS Γ0 pg m S H nx)
  (hK : ∀ H' nx',nx ≤ nx' → MS Γ0 pg m (S.st (jf n S.top.st)) H' nx' → K (.ret (.tuple [])) H' nx') : TriP Tryz.prog 93 [.ptr m 0,iv n] H nx K := by
 obtain ⟨Γ,own,G,hk,g⟩ := h
 exact VI hlen hn hk g fun _ _ _ _ l a b => hK _ _ l ⟨_,_,_,a,b⟩
theorem Ku {Γ : GH} {own : Nat → Nat} {G : Gh} {Γ0 : GH} {pg : Pg} {m : Nat} {S : Mst} {H : Heap} {nx : Nat} {K : EndP} (hlen : S.top.st.length < 1000000) (hk : HOK Γ H nx) (g : MsG Γ own Γ0 pg m G S)
  (hK : ∀ Γ' v' H' nx',nx ≤ nx' → HOK Γ' H' nx' → MsG Γ' own Γ0 pg m { G with gt := (G.gt.1,v') } (S.st (jf 1 S.top.st)) → K (.ret (uv (pk S.top.st 0))) H' nx') : TriP Tryz.prog 95 [.ptr m 0] H nx K := by
 refine TriP.of_body qw ?_
 rw [qc7]
 unfold Fpop
 refine kR (k := 0) hlen (by omega) ⟨Γ,own,G,hk,g⟩ fun nx1 hn1 => ?_
 rw [qd]
 refine ⟨_,rfl,?_⟩
 refine VI (n := 1) hlen (by omega) (hk.more hn1) g fun Γ2 v2 H2 nx2 hn2 a b => ?_
 rw [qd]
 exact hK _ _ _ _ (by omega) a b
theorem qbf {Γ0 : GH} {pg : Pg} {m : Nat} {S : Mst} {H : Heap} {nx : Nat} {K : EndP} (hlen : S.top.st.length < 1000000) (h : MS Γ0 pg m S H nx)
  (hK : ∀ H' nx',nx ≤ nx' → MS Γ0 pg m (S.st (jf 1 S.top.st)) H' nx' → K (.ret (uv (pk S.top.st 0))) H' nx') : TriP Tryz.prog 95 [.ptr m 0] H nx K := by
 obtain ⟨Γ,own,G,hk,g⟩ := h
 exact Ku hlen hk g fun _ _ _ _ l a b => hK _ _ l ⟨_,_,_,a,b⟩
theorem ym {Γ0 : GH} {pg : Pg} {m : Nat} {S : Mst} {H : Heap} {nx : Nat} {K : EndP} {n : Nat} {v : Int} (hlen : S.top.st.length < 1000000) (hn : n < 1000000) (h : MS Γ0 pg m S H nx)
  (hK : ∀ H' nx',nx ≤ nx' → MS Γ0 pg m (S.st (jf n S.top.st ++ [v])) H' nx' → K (.ret (.tuple [])) H' nx') : TriP Tryz.prog 98 [.ptr m 0,iv n,uv v] H nx K := by
 refine TriP.of_body qw ?_
 rw [qdg]
 unfold Fput
 refine ZK hlen hn h fun H2 nx2 hn2 h2 => ?_
 rw [qd]
 refine vL (by simp [Mst.st,jf]; omega) h2 fun H3 nx3 hn3 h3 => ?_
 rw [qd]
 exact hK _ _ (by omega) h3
end Go.Vs
end
section
namespace Go.Vs
open Go.Proofs
variable [GTab]
def Wd.word (S : Wd) (a : Int) : Int := if a < S.words.length then S.words.getD a.toNat 0 else 0
def Wd.len (S : Wd) (r : Int) : Int := IntKind.i64.wrap (IntKind.u64.wrap ((BitVec.ofInt 64 (S.word r) &&& BitVec.ofInt 64 4294967295).toNat : Int))
def Wd.at (S : Wd) (r i : Int) : Int := if i < 0 then 0 else if S.len r ≤ i then 0 else IntKind.u64.wrap (IntKind.u64.wrap (r + 1) + IntKind.u64.wrap i)
def Wd.get (S : Wd) (r i : Int) : Int := S.word (S.at r i)
def Wd.set (S : Wd) (r i v : Int) : Wd := if S.at r i = 0 ∨ (S.words.length : Int) ≤ S.at r i then S else { S with words := S.words.set (S.at r i).toNat v }
theorem Jc {n : Int} (h0 : 0 ≤ n) (h1 : n < 18446744073709551616) : IntKind.u64.wrap n = n := by
 simp [IntKind.wrap,IntKind.signed,IntKind.bits]; omega
theorem KE (n : Int) : 0 ≤ IntKind.u64.wrap n := by
 simp [IntKind.wrap,IntKind.signed,IntKind.bits]; omega
section
variable {Γ : GH} {own : Nat → Nat} {w hp : Nat} {tv wv litv lv : AVal} {inb : Nat} {inf : Bool} {S : Wd} {H : Heap} {nx : Nat} {K : EndP}
theorem WdV.ld_words (g : WdV Γ own w hp tv wv litv lv inb inf S) (hk : HOK Γ H nx) : ld1 H (.ptr hp 0) = some wv := by rw [hk.ld1 g.eh]; rfl
theorem WdV.ld_room (g : WdV Γ own w hp tv wv litv lv inb inf S) (hk : HOK Γ H nx) : ld1 H (.ptr hp 1) = some (iv S.room) := by rw [hk.ld1 g.eh]; rfl
theorem WdV.ld_hp (g : WdV Γ own w hp tv wv litv lv inb inf S) (hk : HOK Γ H nx) : ld1 H (.ptr w 1) = some (.ptr hp 0) := by rw [hk.ld1 g.ew]; rfl
theorem WdV.ld_lits (g : WdV Γ own w hp tv wv litv lv inb inf S) (hk : HOK Γ H nx) : ld1 H (.ptr w 2) = some litv := by rw [hk.ld1 g.ew]; rfl
theorem WdV.ld_ins (g : WdV Γ own w hp tv wv litv lv inb inf S) (hk : HOK Γ H nx) : ld1 H (.ptr w 3) = some (.slice inb 0 S.inputs.length 1 inf) := by rw [hk.ld1 g.ew]; rfl
theorem WdV.ld_taken (g : WdV Γ own w hp tv wv litv lv inb inf S) (hk : HOK Γ H nx) : ld1 H (.ptr w 4) = some (iv S.taken) := by rw [hk.ld1 g.ew]; rfl
theorem WdV.ld_lines (g : WdV Γ own w hp tv wv litv lv inb inf S) (hk : HOK Γ H nx) : ld1 H (.ptr w 5) = some lv := by rw [hk.ld1 g.ew]; rfl
theorem W4 (hk : HOK Γ H nx) (g : WdV Γ own w hp tv wv litv lv inb inf S) {a : Int} (ha : 0 ≤ a) (hl : S.words.length < 1000000) (hK : ∀ nx',nx ≤ nx' → K (.ret (uv (S.word a))) H nx') :
  TriP Tryz.prog 200 [.ptr hp 0,uv a] H nx K := by
 refine TriP.of_body qw ?_
 rw [qb8]
 unfold qe7
 have e1 := g.ld_words hk
 have e2 := g.words.len
 have e3 : IntKind.u64.wrap (S.words.length : Int) = S.words.length := Jc (by omega) (by omega)
 simp only [qz,true_and,and_true,exists_eq_left,exists_eq_left',exists_and_left,e1,e2,e3,qS,decide_eq_true_eq,decide_eq_false_iff_not,Int.ofNat_eq_natCast]
 have hw := hK nx (Nat.le_refl _)
 unfold Wd.word at hw
 refine ⟨fun h => ?_,fun h => ?_⟩
 ·rw [if_neg (by omega)] at hw; exact hw
 ·rw [if_pos (by omega)] at hw
  obtain ⟨b,i1,i2⟩ := g.words.at hk (i := a.toNat) (by omega)
  refine ⟨ha,_,i1,_,i2,?_⟩
  have : S.words.getD a.toNat 0 = S.words[a.toNat]'(by omega) := by simp [List.getD,show a.toNat < S.words.length by omega]
  rw [this] at hw; exact hw
theorem qcm (hk : HOK Γ H nx) (g : WdV Γ own w hp tv wv litv lv inb inf S) {a : Int} (ha : 0 ≤ a) (hl : S.words.length < 1000000) (hK : ∀ nx',nx ≤ nx' → K (.ret (uv (S.word a))) H nx') :
  TriP Tryz.prog 158 [.ptr hp 0,uv a] H nx K := by
 refine TriP.of_body qw ?_
 rw [qbo]
 unfold qej
 refine W4 hk g ha hl fun nx1 h1 => ?_
 rw [qd]
 exact ⟨_,rfl,hK _ (by omega)⟩
theorem KK (hk : HOK Γ H nx) (g : WdV Γ own w hp tv wv litv lv inb inf S) {a : Int} (ha : 0 ≤ a) (hl : S.words.length < 1000000) (hK : ∀ nx',nx ≤ nx' → K (.ret (iv (S.len a))) H nx') :
  TriP Tryz.prog 102 [.ptr hp 0,uv a] H nx K := by
 refine TriP.of_body qw ?_
 rw [qcy]
 unfold FLen
 refine qcm hk g ha hl fun nx1 h1 => ?_
 rw [qd]
 exact ⟨_,rfl,hK _ (by omega)⟩
theorem qev (hk : HOK Γ H nx) (g : WdV Γ own w hp tv wv litv lv inb inf S) {r i : Int} (hr : 0 ≤ r) (hl : S.words.length < 1000000) (hK : ∀ nx',nx ≤ nx' → K (.ret (uv (S.at r i))) H nx') :
  TriP Tryz.prog 153 [.ptr hp 0,uv r,iv i] H nx K := by
 refine TriP.of_body qw ?_
 rw [qgh]
 unfold Fat
 simp only [qS,decide_eq_true_eq,decide_eq_false_iff_not]
 unfold Wd.at at hK
 refine ⟨fun h => by have := hK nx (Nat.le_refl _); rw [if_pos h] at this; exact this,fun h => ?_⟩
 rw [if_neg h] at hK
 refine KK hk g hr hl fun nx1 h1 => ?_
 rw [qd]
 refine ⟨_,rfl,?_⟩
 have hK := hK nx1 h1
 exact ⟨fun h => by rw [if_pos h] at hK; exact hK,fun h => by rw [if_neg h] at hK; exact hK⟩
theorem Wd.at_nonneg (S : Wd) (r i : Int) : 0 ≤ S.at r i := by
 unfold Wd.at
 split
 ·omega
 ·split
  ·omega
  ·exact KE _
theorem Yz (hk : HOK Γ H nx) (g : WdV Γ own w hp tv wv litv lv inb inf S) {r i : Int} (hr : 0 ≤ r) (hl : S.words.length < 1000000) (hK : ∀ nx',nx ≤ nx' → K (.ret (uv (S.get r i))) H nx') :
  TriP Tryz.prog 156 [.ptr hp 0,uv r,iv i] H nx K := by
 refine TriP.of_body qw ?_
 rw [qcd]
 unfold FGet
 refine qev hk g hr hl fun nx1 h1 => ?_
 rw [qd]
 refine ⟨_,rfl,W4 (hk.more h1) g (S.at_nonneg r i) hl fun nx2 h2 => ?_⟩
 rw [qd]
 exact ⟨_,rfl,hK _ (by omega)⟩
theorem RowV.set {α : Type} {role : Nat} {f : α → AVal} {v : AVal} {l : List α} (hk : HOK Γ H nx) (h : RowV Γ own role f v l) {i : Nat} (hi : i < l.length) {x : α} (hx : qx (f x) = true) :
  ∃ b H' Γ',idxS v i 1 = some (.ptr b i) ∧ stC H (.ptr b i) [f x] = some H' ∧ HOK Γ' H' nx ∧ RowV Γ' own role f v (l.set i x) ∧ Keep Γ own Γ' own (fun r => r = role) := by
 rcases h with ⟨rfl,rfl⟩ | ⟨b,cs,⟨full,rfl⟩,h1,h2,h3⟩
 ·simp at hi
 ·have hc := jX h3 (by simp)
  obtain ⟨H',e1,e2⟩ := hk.st (off := i) (vs := [f x]) h2 (by simp; omega) (by simp [qo,hx])
  refine ⟨b,H',_,by rw [qW hi]; simp,e1,e2,.inr ⟨b,_,⟨full,by simp⟩,h1,qc _ _ _,?_⟩,fun c ds hc' hr => ⟨by rw [qe (fun e => hr (by rw [e,h1]))]; exact hc',rfl⟩⟩
  rw [List.length_set,List.map_set,← h3]
  have e0 : qC cs i [f x] = cs.set i (f x) := by
   rw [List.set_eq_take_append_cons_drop,if_pos (by omega)]; simp [qC]
  rw [e0,List.take_set]
theorem WdV.setWords {Γ' : GH} {own' : Nat → Nat} {ws : List Int} (kp : Keep Γ own Γ' own' (fun r => r = 5)) (g : WdV Γ own w hp tv wv litv lv inb inf S) {wv' : AVal} (he : Γ' hp = some [wv',iv S.room])
  (hr : RowV Γ' own' 5 uv wv' ws) : WdV Γ' own' w hp tv wv' litv lv inb inf { S with words := ws } := by
 obtain ⟨a1,a2⟩ := kp _ _ g.ew (by rw [g.ow]; omega)
 obtain ⟨a3,a4⟩ := kp _ _ g.eh (by rw [g.oh]; omega)
 obtain ⟨a5,a6⟩ := kp _ _ g.ei (by rw [g.oi]; omega)
 exact ⟨by rw [a2,g.ow],by rw [a4,g.oh],a1,he,hr,by rw [a6,g.oi],a5,g.lits.keep kp (by omega),g.lines.keep kp (by omega)⟩
def Wd.putAt (S : Wd) (a v : Int) : Wd := if a = 0 ∨ (S.words.length : Int) ≤ a then S else { S with words := S.words.set a.toNat v }
theorem qcv (hk : HOK Γ H nx) (g : WdV Γ own w hp tv wv litv lv inb inf S) {a v : Int} (ha : 0 ≤ a) (hl : S.words.length < 1000000)
  (hK : ∀ b Γ' H' nx',nx ≤ nx' → HOK Γ' H' nx' → WdV Γ' own w hp tv wv litv lv inb inf (S.putAt a v) → Keep Γ own Γ' own (fun r => r = 5) → K (.ret (.bool b)) H' nx') :
  TriP Tryz.prog 152 [.ptr hp 0,uv a,uv v] H nx K := by
 refine TriP.of_body qw ?_
 rw [qcw]
 unfold FPut
 have e1 := g.ld_words hk
 have e2 := g.words.len
 have e3 : IntKind.u64.wrap (S.words.length : Int) = S.words.length := Jc (by omega) (by omega)
 have self : Keep Γ own Γ own (fun r => r = 5) := fun _ _ h _ => ⟨h,rfl⟩
 simp only [qz,true_and,and_true,exists_eq_left,exists_eq_left',exists_and_left,e1,e2,e3,qS,decide_eq_true_eq,decide_eq_false_iff_not,Int.ofNat_eq_natCast]
 unfold Wd.putAt at hK
 refine ⟨fun h => ?_,fun h => ⟨fun h2 => ?_,fun h2 => ?_⟩⟩
 ·rw [if_pos (.inl h)] at hK; exact hK _ _ _ _ (Nat.le_refl _) hk g self
 ·rw [if_pos (.inr h2)] at hK; exact hK _ _ _ _ (Nat.le_refl _) hk g self
 ·rw [if_neg (by omega)] at hK
  obtain ⟨b,H',Γ',i1,i2,i3,i4,i5⟩ := g.words.set (i := a.toNat) (x := v) hk (by omega) rfl
  exact ⟨ha,_,i1,_,i2,hK _ _ _ _ (Nat.le_refl _) i3 (g.setWords i5 (i5 _ _ g.eh (by rw [g.oh]; omega)).1 i4) i5⟩
theorem WI (hk : HOK Γ H nx) (g : WdV Γ own w hp tv wv litv lv inb inf S) {r i v : Int} (hr : 0 ≤ r) (hl : S.words.length < 1000000)
  (hK : ∀ b Γ' H' nx',nx ≤ nx' → HOK Γ' H' nx' → WdV Γ' own w hp tv wv litv lv inb inf (S.set r i v) → Keep Γ own Γ' own (fun r => r = 5) → K (.ret (.bool b)) H' nx') :
  TriP Tryz.prog 90 [.ptr hp 0,uv r,iv i,uv v] H nx K := by
 refine TriP.of_body qw ?_
 rw [qcc]
 unfold FSet
 refine qev hk g hr hl fun nx1 h1 => ?_
 rw [qd]
 refine ⟨_,rfl,qcv (hk.more h1) g (S.at_nonneg r i) hl fun b Γ' H' nx2 h2 a1 a2 a3 => ?_⟩
 rw [qd]
 exact ⟨_,rfl,hK _ _ _ _ (by omega) a1 a2 a3⟩
def Wd.alloc (S : Wd) (t n : Int) : Option (Wd × Int) :=
 if t < 0 ∨ 1048576 < t ∨ n < 0 ∨ 1048576 < n ∨ S.room - S.words.length ≤ n then none
 else some ({ S with words := S.words ++ [IntKind.u64.wrap ((BitVec.ofInt 64 (IntKind.u64.wrap (IntKind.u64.wrap t * 4294967296)) ||| BitVec.ofInt 64 (IntKind.u64.wrap n)).toNat : Int)] ++ List.replicate n.toNat 0 },S.words.length)
end
end Go.Vs
end
section
namespace Go.Vs
open Go.Proofs
variable [GTab]
theorem Ks (n : Nat) : repL [uv 0] n = (List.replicate n (0 : Int)).map uv := by
 induction n with
 | zero => rfl
 | succ n ih => rw [vk,ih,List.replicate_succ]; simp
theorem kV {α : Type} {f : α → AVal} (h : ∀ x,qx (f x) = true) : ∀ l : List α,qo (l.map f) = true
 | [] => rfl
 | x :: l => by simp only [List.map_cons,qo,h x]; exact kV h l
section
variable {Γ : GH} {own : Nat → Nat} {w hp : Nat} {tv wv litv lv : AVal} {inb : Nat} {inf : Bool} {S : Wd} {H : Heap} {nx : Nat} {K : EndP}
theorem RowV.pushes {α : Type} {role eb : Nat} {f : α → AVal} {v : AVal} {l : List α} (hk : HOK Γ H nx) (h : RowV Γ own role f v l) (xs : List α) (hl : l.length + xs.length ≤ 1000000000) (he : eb ≤ 16) :
  ∃ H' v' Γ' own' nx',appC H nx 1 eb v xs.length (xs.map f) = some (v',H',nx') ∧ nx ≤ nx' ∧ qx v' = true ∧ HOK Γ' H' nx' ∧ RowV Γ' own' role f v' (l ++ xs) ∧ Keep Γ own Γ' own' (fun r => r = role) := by
 by_cases h0 : xs = []
 ·subst h0
  refine ⟨H,v,Γ,own,nx,?_,Nat.le_refl _,?_,hk,by rw [List.append_nil]; exact h,fun _ _ a _ => ⟨a,rfl⟩⟩
  ·rcases h with ⟨rfl,rfl⟩ | ⟨b,cs,⟨full,rfl⟩,_⟩ <;> rfl
  ·rcases h with ⟨rfl,rfl⟩ | ⟨b,cs,⟨full,rfl⟩,_⟩ <;> rfl
 ·obtain ⟨H',v',Γ',a1,a2,a3,a4,a5⟩ := RowV.push hk h xs (by cases xs with | nil => exact absurd rfl h0 | cons _ _ => simp) hl he
  exact ⟨H',v',Γ',_,_,a1,by omega,a2,a3,a4,a5⟩
theorem WdV.stWords {Γ' : GH} {own' : Nat → Nat} {ws : List Int} {H' : Heap} {nx' : Nat} {wv' : AVal} {ex : Nat → Prop} (g : WdV Γ own w hp tv wv litv lv inb inf S) (kp : Keep Γ own Γ' own' (fun r => r = 5)) (hk : HOK Γ' H' nx')
  (hv : qx wv' = true) (hr : RowV Γ' own' 5 uv wv' ws) (h5 : ex 5) (h3 : ex 3) :
  ∃ H2 Γ2,stC H' (.ptr hp 0) [wv'] = some H2 ∧ HOK Γ2 H2 nx' ∧ WdV Γ2 own' w hp tv wv' litv lv inb inf { S with words := ws } ∧ Keep Γ own Γ2 own' ex := by
 obtain ⟨a3,a4⟩ := kp _ _ g.eh (by rw [g.oh]; omega)
 obtain ⟨H2,e1,e2⟩ := hk.st (off := 0) (vs := [wv']) a3 (by simp) (by simp [qo,hv])
 have k2 : Keep Γ' own' (gup hp (some (qC [wv,iv S.room] 0 [wv'])) Γ') own' (fun r => r = 3) := fun c ds hc hx => ⟨by rw [qe (fun e => hx (by rw [e,a4,g.oh]))]; exact hc,rfl⟩
 have k3 : Keep Γ own (gup hp (some (qC [wv,iv S.room] 0 [wv'])) Γ') own' (fun r => r = 5 ∨ r = 3) := fun c ds hc hx => by
  obtain ⟨b1,b2⟩ := kp c ds hc (fun e => hx (.inl e))
  obtain ⟨b3,b4⟩ := k2 c ds b1 (fun e => hx (.inr (by rw [← b2,e])))
  exact ⟨b3,by rw [b4,b2]⟩
 refine ⟨H2,_,e1,e2,?_,fun c ds hc hx => k3 c ds hc (fun e => hx (by rcases e with e | e <;> rw [e] <;> assumption))⟩
 obtain ⟨c1,c2⟩ := k3 _ _ g.ew (by rw [g.ow]; omega)
 obtain ⟨c3,c4⟩ := k3 _ _ g.ei (by rw [g.oi]; omega)
 exact ⟨by rw [c2,g.ow],by rw [a4,g.oh],c1,qc _ _ _,hr.keep k2 (by omega),by rw [c4,g.oi],c3,g.lits.keep k3 (by omega),g.lines.keep k3 (by omega)⟩
theorem WdV.keep0 {Γ' : GH} {own' : Nat → Nat} (kp : Keep Γ own Γ' own' (fun _ => False)) (g : WdV Γ own w hp tv wv litv lv inb inf S) : WdV Γ' own' w hp tv wv litv lv inb inf S := g.keep kp fun _ _ _ _ => id
theorem Yl (hk : HOK Γ H nx) (g : WdV Γ own w hp tv wv litv lv inb inf S) {t n : Int} (hl : S.words.length < 1000000) (hr0 : 0 ≤ S.room) (hr1 : S.room < 1000000000)
  (hN : S.alloc t n = none → ∀ nx',nx ≤ nx' → K (.ret (.tuple [uv 0,.bool false])) H nx')
  (hS : ∀ S' ref,S.alloc t n = some (S',ref) → ∀ Γ' own' H' nx' wv',nx ≤ nx' → HOK Γ' H' nx' → WdV Γ' own' w hp tv wv' litv lv inb inf S' → Keep Γ own Γ' own' (fun r => r = 5 ∨ r = 3) →
   K (.ret (.tuple [uv ref,.bool true])) H' nx') :
  TriP Tryz.prog 89 [.ptr hp 0,iv t,iv n] H nx K := by
 refine TriP.of_body qw ?_
 rw [XA]
 unfold Yc
 have e1 := g.ld_words hk
 have e2 := g.words.len
 have e0 := g.ld_room hk
 have e3 : IntKind.u64.wrap (S.words.length : Int) = S.words.length := Jc (by omega) (by omega)
 have ew : IntKind.i64.wrap (S.room - (S.words.length : Int)) = S.room - S.words.length := qP (by omega) (by omega)
 unfold Wd.alloc at hN hS
 simp only [qz,true_and,and_true,exists_eq_left,exists_eq_left',exists_and_left,e0,e1,e2,e3,ew,qS,decide_eq_true_eq,decide_eq_false_iff_not,Int.ofNat_eq_natCast,and_self,iv,AVal.int.injEq]
 refine ⟨fun h => hN (if_pos (by omega)) _ (by omega),fun h1 => ⟨fun h => hN (if_pos (by omega)) _ (by omega),fun h2 => ⟨fun h => hN (if_pos (by omega)) _ (by omega),fun h3 => ⟨fun h => hN (if_pos (by omega)) _ (by omega),fun h4 => ?_⟩⟩⟩⟩
 refine ⟨fun h => hN (if_pos (by omega)) _ (by omega),fun h5 => ⟨by omega,?_⟩⟩
 rw [if_neg (by omega)] at hS
 generalize hhead : IntKind.u64.wrap ((BitVec.ofInt 64 (IntKind.u64.wrap (IntKind.u64.wrap t * 4294967296)) ||| BitVec.ofInt 64 (IntKind.u64.wrap n)).toNat : Int) = hd at hS ⊢
 have hk1 := hk.new (b := nx + 28) (nx' := nx + 28 + 1) (by omega) (by omega) [uv hd]
 have kp1 : Keep Γ own (gup (nx + 28) (some [uv hd]) Γ) own (fun _ => False) := Keep.new hk (by omega) _
 have g1 := g.keep0 kp1
 have e5 : aSrc 1 (newB (nx + 28) [uv hd] H) (.slice (nx + 28) 0 1 1 true) = some (1,[uv hd]) := hk1.src (qc _ _ _) (by simp)
 obtain ⟨H2,v2,Γ2,own2,nx2,p1,p2,p3,p4,p5,p6⟩ := RowV.pushes (eb := 8) hk1 g1.words [hd] (by simp; omega) (by omega)
 have p1' : appC (newB (nx + 28) [uv hd] H) (nx + 28 + 1) 1 8 wv 1 [uv hd] = some (v2,H2,nx2) := p1
 obtain ⟨H3,Γ3,q1,q2,q3,q4⟩ := g1.stWords (ex := fun r => r = 5 ∨ r = 3) p6 p4 p3 p5 (.inl rfl) (.inr rfl)
 have e6 := q3.ld_words q2
 obtain ⟨n',rfl⟩ : ∃ n' : Nat,n = n' := ⟨n.toNat,by omega⟩
 obtain ⟨H4,v4,Γ4,own4,nx4,r1,r2,r3,r4,r5,r6⟩ := RowV.pushes (eb := 8) q2 q3.words (List.replicate n' 0) (by simp; omega) (by omega)
 obtain ⟨H5,Γ5,s1,s2,s3,s4⟩ := q3.stWords (ex := fun r => r = 5 ∨ r = 3) r6 r4 r3 r5 (.inl rfl) (.inr rfl)
 have ez : Zd [uv 0] 1 (iv n') = some (n',(List.replicate n' (0 : Int)).map uv) := by
  have b1 : Nat.ble (Nat.mul n' 1) 9223372036854775807 = true := zj (by show n' * 1 ≤ _; omega)
  have b2 : Nat.ble n' 9223372036854775807 = true := zj (by omega)
  unfold Zd
  simp only [iv,← Int.ofNat_eq_natCast,b1,b2]
  rw [Ks]
 have r1' : appC H3 nx2 1 8 v2 n' ((List.replicate n' (0 : Int)).map uv) = some (v4,H4,nx4) := by rw [← r1]; simp
 simp only [qz,true_and,and_true,exists_eq_left,exists_eq_left',exists_and_left,e5,p1',p3,q1,e6,ez,r1',r3,s1,Prod.mk.injEq,and_assoc,kV (f := uv) (fun _ => rfl),and_self]
 have hfin := hS _ _ rfl Γ5 own4 H5 nx4 v4 (by omega) s2 (by simpa using s3) (fun c ds hc hx => ?_)
 ·simp [qo,qx]
  exact hfin
 ·obtain ⟨a1,a2⟩ := kp1 c ds hc id
  obtain ⟨a3,a4⟩ := q4 c ds a1 (by rw [a2]; exact hx)
  obtain ⟨a5,a6⟩ := s4 c ds a3 (by rw [a4,a2]; exact hx)
  exact ⟨a5,by rw [a6,a4,a2]⟩
end
end Go.Vs
end
section
namespace Go.Vs
open Go.Proofs
variable [GTab]
def Wd.lit (S : Wd) (k : Int) : Int := if k < 0 then 0 else if (S.lits.length : Int) ≤ k then 0 else S.lits.getD k.toNat 0
def Wd.input (S : Wd) : Wd × Int := if S.taken = S.inputs.length then (S,0) else ({ S with taken := S.taken + 1 },IntKind.u64.wrap (S.inputs.getD S.taken 0))
def Wd.line (S : Wd) (s : List UInt8) : Wd := if 4096 ≤ S.lines.length then S else { S with lines := S.lines ++ [s] }
section
variable {Γ : GH} {own : Nat → Nat} {w hp : Nat} {tv wv litv lv : AVal} {inb : Nat} {inf : Bool} {S : Wd} {H : Heap} {nx : Nat} {K : EndP}
theorem VC (hk : HOK Γ H nx) (g : WdV Γ own w hp tv wv litv lv inb inf S) (hK : K (.ret (.ptr hp 0)) H nx) : TriP Tryz.prog 96 [.ptr w 0] H nx K := by
 refine TriP.of_body qw ?_
 rw [qa1]
 unfold qex
 have e1 := g.ld_hp hk
 simp only [qz,true_and,and_true,exists_eq_left,exists_eq_left',e1]
 exact hK
theorem qg1 (hk : HOK Γ H nx) (g : WdV Γ own w hp tv wv litv lv inb inf S) {k : Int} (hK : K (.ret (uv (S.lit k))) H nx) : TriP Tryz.prog 97 [.ptr w 0,iv k] H nx K := by
 refine TriP.of_body qw ?_
 rw [qdc]
 unfold FLit
 have e1 := g.ld_lits hk
 have e2 := g.lits.len
 unfold Wd.lit at hK
 simp only [qz,true_and,and_true,exists_eq_left,exists_eq_left',exists_and_left,e1,e2,qS,decide_eq_true_eq,decide_eq_false_iff_not,Int.ofNat_eq_natCast]
 refine ⟨fun h => by rw [if_pos h] at hK; exact hK,fun h => ?_⟩
 rw [if_neg h] at hK
 refine ⟨fun h2 => by rw [if_pos h2] at hK; exact hK,fun h2 => ?_⟩
 rw [if_neg h2] at hK
 obtain ⟨b,i1,i2⟩ := g.lits.at hk (i := k.toNat) (by omega)
 have : S.lits.getD k.toNat 0 = S.lits[k.toNat]'(by omega) := by simp [List.getD,show k.toNat < S.lits.length by omega]
 rw [this] at hK
 exact ⟨by omega,_,i1,_,i2,hK⟩
theorem qcf (hk : HOK Γ H nx) (g : WdV Γ own w hp tv wv litv lv inb inf S) (hK : K (.ret (.bool (decide (4096 ≤ (S.lines.length : Int))))) H nx) : TriP Tryz.prog 163 [.ptr w 0] H nx K := by
 refine TriP.of_body qw ?_
 rw [qa6]
 unfold qet
 have e1 := g.ld_lines hk
 have e2 := g.lines.len
 simp only [qz,true_and,and_true,exists_eq_left,exists_eq_left',exists_and_left,e1,e2]
 exact hK
theorem Ya (hk : HOK Γ H nx) (g : WdV Γ own w hp tv wv litv lv inb inf S) (hl : S.inputs.length < 1000000) (ht : S.taken ≤ S.inputs.length)
  (hK : ∀ Γ' H' nx',nx ≤ nx' → HOK Γ' H' nx' → WdV Γ' own w hp tv wv litv lv inb inf S.input.1 → Keep Γ own Γ' own (fun r => r = 2) → K (.ret (uv S.input.2)) H' nx') : TriP Tryz.prog 105 [.ptr w 0] H nx K := by
 refine TriP.of_body qw ?_
 rw [Xy]
 unfold Yu
 have e1 := g.ld_taken hk
 have e2 := g.ld_ins hk
 unfold Wd.input at hK
 obtain ⟨H2,p1,p2⟩ := hk.st (off := 4) (vs := [iv (IntKind.i64.wrap (S.taken + 1))]) g.ew (by simp) rfl
 have kp : Keep Γ own (gup w (some (qC [tv,.ptr hp 0,litv,.slice inb 0 S.inputs.length 1 inf,iv S.taken,lv] 4 [iv (IntKind.i64.wrap (S.taken + 1))])) Γ) own (fun r => r = 2) :=
  fun c ds hc hx => ⟨by rw [qe (fun e => hx (by rw [e,g.ow]))]; exact hc,rfl⟩
 have e3 : ld1 H2 (.ptr w 3) = some (.slice inb 0 S.inputs.length 1 inf) := by rw [p2.ld1 (qc _ _ _)]; rfl
 have e4 : ld1 H2 (.ptr w 4) = some (iv (IntKind.i64.wrap (S.taken + 1))) := by rw [p2.ld1 (qc _ _ _)]; rfl
 have w1 : IntKind.i64.wrap ((S.taken : Int) + 1) = S.taken + 1 := qP (by omega) (by omega)
 simp only [qz,true_and,and_true,exists_eq_left,exists_eq_left',exists_and_left,e1,e2,w8,qS,decide_eq_true_eq,decide_eq_false_iff_not,Int.ofNat_eq_natCast,iv,AVal.int.injEq,w1] at p1 p2 e3 e4 kp ⊢
 refine ⟨fun h => ?_,fun h => ?_⟩
 ·rw [if_pos (by omega)] at hK
  exact hK _ _ _ (by omega) (hk.more (by omega)) g (fun _ _ a _ => ⟨a,rfl⟩)
 ·rw [if_neg (by omega)] at hK
  have w2 : IntKind.i64.wrap ((S.taken : Int) + 1 - 1) = S.taken := by rw [qP (by omega) (by omega)]; omega
  have hlt : S.taken < S.inputs.length := by omega
  have e5 : ld1 H2 (.ptr inb S.taken) = some (.int .i64 (S.inputs.getD S.taken 0)) := by
   rw [p2.ld1 (kp _ _ g.ei (by rw [g.oi]; omega)).1]
   simp [hlt,List.getD]
  have e6 := qW (b := inb) (off := 0) (len := S.inputs.length) (e := 1) (n := S.taken) (esz := 1) (full := inf) hlt
  simp only [Nat.zero_add,Nat.mul_one] at e6
  simp only [p1,qz,exists_eq_left',e3,e4,AVal.int.injEq,true_and,w2,Int.natCast_nonneg,Int.toNat_natCast,e6,e5,and_true]
  refine hK _ H2 _ (by omega) (p2.more (by omega)) ?_ kp
  exact ⟨g.ow,g.oh,by rw [qc]; simp [qC],(kp _ _ g.eh (by rw [g.oh]; omega)).1,g.words.keep kp (by omega),g.oi,(kp _ _ g.ei (by rw [g.oi]; omega)).1,g.lits.keep kp (by omega),g.lines.keep kp (by omega)⟩
def qf4 : List UInt8 := [116,114,117,101]
def qbh : List UInt8 := [102,97,108,115,101]
def JH (num : Int → List UInt8) (k v : Int) : Option (List UInt8) := if k = 1 then some (num (IntKind.i64.wrap v)) else if k = 2 then some (if v = 0 then qbh else qf4) else none
def J8 (num : Int → List UInt8) : Prop := (∀ n H nx (K : EndP),-9223372036854775808 ≤ n → n ≤ 9223372036854775807 → (∀ nx',nx ≤ nx' → K (.ret (.str (num n))) H nx') → TriP Tryz.prog 202 [iv n,iv 10] H nx K) ∧
 ∀ b H nx (K : EndP),(∀ nx',nx ≤ nx' → K (.ret (.str (if b then qf4 else qbh))) H nx') → TriP Tryz.prog 203 [.bool b] H nx K
theorem Qy (n : Int) : -9223372036854775808 ≤ IntKind.i64.wrap n ∧ IntKind.i64.wrap n ≤ 9223372036854775807 := by
 simp only [IntKind.wrap,IntKind.signed,IntKind.bits]
 constructor <;> simp <;> (try split) <;> omega
theorem qh6 {num : Int → List UInt8} (hn : J8 num) {k v : Int} {s : List UInt8} (hs : JH num k v = some s) (hK : ∀ nx',nx ≤ nx' → K (.ret (.tuple [.str s,.bool true])) H nx') : TriP Tryz.prog 162 [.ptr w 0,iv k,uv v] H nx K := by
 refine TriP.of_body qw ?_
 rw [qc0]
 unfold Fsay
 unfold JH at hs
 simp only [qS,decide_eq_true_eq,decide_eq_false_iff_not]
 refine ⟨fun h => ?_,fun h => ⟨fun h2 => ?_,fun h2 => ?_⟩⟩
 ·rw [if_pos h] at hs; cases hs
  refine hn.1 _ _ _ _ (Qy v).1 (Qy v).2 fun nx1 h1 => ?_
  rw [qd]
  exact ⟨_,rfl,hK _ h1⟩
 ·rw [if_neg h,if_pos h2] at hs; cases hs
  refine hn.2 _ _ _ _ fun nx1 h1 => ?_
  rw [qd]
  refine ⟨_,rfl,?_⟩
  have := hK _ h1
  by_cases hv : v = 0 <;> simpa [hv] using this
 ·rw [if_neg h,if_neg h2] at hs; cases hs
theorem Yh {num : Int → List UInt8} (hn : J8 num) {k v : Int} {s : List UInt8} (hs : JH num k v = some s) (hk : HOK Γ H nx) (g : WdV Γ own w hp tv wv litv lv inb inf S) (hl : S.lines.length < 1000000)
  (hK : ∀ Γ' own' lv' H' nx',nx ≤ nx' → HOK Γ' H' nx' → WdV Γ' own' w hp tv wv litv lv' inb inf (S.line s) → Keep Γ own Γ' own' (fun r => r = 2 ∨ r = 6) → K (.ret (.tuple [])) H' nx') :
  TriP Tryz.prog 104 [.ptr w 0,iv k,uv v] H nx K := by
 refine TriP.of_body qw ?_
 rw [Xz]
 unfold qbj
 refine qh6 hn hs fun nx1 h1 => ?_
 rw [qd]
 refine ⟨_,_,rfl,?_⟩
 simp only [Bool.not_true,qS,Bool.false_eq_true,false_imp_iff,true_and,true_imp_iff]
 have hk1 := hk.more h1
 refine qcf hk1 g ?_
 rw [qd]
 refine ⟨_,rfl,?_⟩
 unfold Wd.line at hK
 simp only [qS,decide_eq_true_eq,decide_eq_false_iff_not]
 refine ⟨fun h => ?_,fun h => ?_⟩
 ·rw [if_pos (by omega)] at hK
  exact hK _ _ _ _ _ (by omega) hk1 g (fun _ _ a _ => ⟨a,rfl⟩)
 ·rw [if_neg (by omega)] at hK
  have e1 := g.ld_lines hk1
  have hk2 := hk1.new (b := nx1) (nx' := nx1 + 1) (by omega) (by omega) [.str s]
  have kp2 : Keep Γ own (gup nx1 (some [.str s]) Γ) own (fun _ => False) := Keep.new hk1 (by omega) _
  have g2 := g.keep0 kp2
  have e5 : aSrc 1 (newB nx1 [.str s] H) (.slice nx1 0 1 1 true) = some (1,[.str s]) := hk2.src (qc _ _ _) (by simp)
  obtain ⟨H3,v3,Γ3,own3,nx3,p1,p2,p3,p4,p5,p6⟩ := RowV.pushes (eb := 16) hk2 g2.lines [s] (by simp; omega) (by omega)
  have p1' : appC (newB nx1 [.str s] H) (nx1 + 1) 1 16 lv 1 [.str s] = some (v3,H3,nx3) := p1
  obtain ⟨a3,a4⟩ := p6 _ _ g2.ew (by rw [g.ow]; omega)
  obtain ⟨H4,q1,q2⟩ := p4.st (off := 5) (vs := [v3]) a3 (by simp) (by simp [qo,p3])
  have k4 : Keep Γ3 own3 (gup w (some (qC [tv,.ptr hp 0,litv,.slice inb 0 S.inputs.length 1 inf,iv S.taken,lv] 5 [v3])) Γ3) own3 (fun r => r = 2) := fun c ds hc hx => ⟨by rw [qe (fun e => hx (by rw [e,a4,g.ow]))]; exact hc,rfl⟩
  have k5 : Keep Γ own (gup w (some (qC [tv,.ptr hp 0,litv,.slice inb 0 S.inputs.length 1 inf,iv S.taken,lv] 5 [v3])) Γ3) own3 (fun r => r = 2 ∨ r = 6) := fun c ds hc hx => by
   obtain ⟨b1,b2⟩ := kp2 c ds hc id
   obtain ⟨b3,b4⟩ := p6 c ds b1 (fun e => hx (.inr (by rw [← b2,e])))
   obtain ⟨b5,b6⟩ := k4 c ds b3 (fun e => hx (.inl (by rw [← b2,← b4,e])))
   exact ⟨b5,by rw [b6,b4,b2]⟩
  simp only [qz,true_and,and_true,exists_eq_left,exists_eq_left',exists_and_left,e1,e5,Prod.mk.injEq,and_assoc,p1',p3,q1]
  simp only [qo,qx,true_and]
  refine hK _ own3 v3 _ _ (by omega) q2 ?_ k5
  obtain ⟨c1,c2⟩ := k5 _ _ g.eh (by rw [g.oh]; omega)
  obtain ⟨c3,c4⟩ := k5 _ _ g.ei (by rw [g.oi]; omega)
  exact ⟨by rw [a4,g.ow],by rw [c2,g.oh],by rw [qc]; rfl,c1,g.words.keep k5 (by omega),by rw [c4,g.oi],c3,g.lits.keep k5 (by omega),p5.keep k4 (by omega)⟩
end
end Go.Vs
end
section
namespace Go.Vs
open Go.Ev (bit)
open Go.Proofs
variable [GTab]
theorem zf {p q : Prop} : ifB true p q = p := rfl
theorem zG {p q : Prop} : ifB false p q = q := rfl
def bitI (b : Bool) : Int := if b then 1 else 0
theorem qa8 {b : Bool} {H : Heap} {nx : Nat} {K : EndP} (hK : K (.ret (uv (bitI b))) H nx) : TriP Tryz.prog 99 [.bool b] H nx K := by
 refine TriP.of_body qw ?_
 rw [qd1]
 unfold Fbit
 cases b <;> exact hK
def VN (op a b : Int) : Int :=
 if op = 11 then IntKind.u64.wrap (IntKind.i64.wrap (a.tdiv (if a = -9223372036854775808 ∧ b = -1 then 1 else b))) else IntKind.u64.wrap (a.tmod (if a = -9223372036854775808 ∧ b = -1 then 1 else b))
theorem Xl {op a b : Int} {H : Heap} {nx : Nat} {K : EndP} (hb : b ≠ 0) (hK : K (.ret (uv (VN op a b))) H nx) : TriP Tryz.prog 100 [iv op,iv a,iv b] H nx K := by
 refine TriP.of_body qw ?_
 rw [Wl]
 unfold WS
 unfold VN at hK
 by_cases h1 : a = -9223372036854775808 <;> by_cases h2 : b = -1 <;> by_cases h3 : op = 11 <;> simp_all [zf,zG]
def yT (op a b : Int) : Option Int :=
 if op = 8 then some (IntKind.u64.wrap (a + b)) else if op = 9 then some (IntKind.u64.wrap (a - b)) else if op = 10 then some (IntKind.u64.wrap (a * b))
 else if op = 15 then some (bitI (decide (a = b))) else if op = 16 then some (bitI (!decide (a = b)))
 else if op = 17 then some (bitI (decide (IntKind.i64.wrap a < IntKind.i64.wrap b))) else if op = 18 then some (bitI (decide (IntKind.i64.wrap a ≤ IntKind.i64.wrap b)))
 else if op = 19 then some (bitI (decide (IntKind.i64.wrap b < IntKind.i64.wrap a))) else if op = 20 then some (bitI (decide (IntKind.i64.wrap b ≤ IntKind.i64.wrap a))) else none
theorem VZ {m : Nat} {op a b r : Int} {H : Heap} {nx : Nat} {K : EndP} (ht : yT op a b = some r) (hK : K (.ret (uv r)) H nx) : TriP Tryz.prog 106 [.ptr m 0,iv op,uv a,uv b] H nx K := by
 refine TriP.of_body qw ?_
 rw [qc2]
 unfold Ftwo
 unfold yT at ht
 have bit : ∀ {b : Bool} {K' : EndP},(uv (bitI b)) = uv r → (K' = fun e H1 i2 => qi e (fun v => ∃ n : Int,v = uv n ∧ K (AEnd.ret (uv n)) H1 i2) fun l => K (AEnd.pan l) H1 i2) → TriP Tryz.prog 99 [.bool b] H nx K' := by
  intro b K' he hk
  subst hk
  refine qa8 ?_
  rw [qd,he]
  exact ⟨_,rfl,hK⟩
 split at ht
 ·rename_i h; cases ht; simp only [h,decide_true,zf]; exact hK
 rename_i h8; split at ht
 ·rename_i h; cases ht; simp only [h,decide_true,zf]; exact hK
 rename_i h9; split at ht
 ·rename_i h; cases ht; simp only [h,decide_true,zf]; exact hK
 rename_i h10; split at ht
 ·rename_i h; cases ht; simp only [h,decide_true,zf]; exact bit rfl rfl
 rename_i h15; split at ht
 ·rename_i h; cases ht; simp only [h,decide_true,zf]; exact bit rfl rfl
 rename_i h16; split at ht
 ·rename_i h; cases ht; simp only [h,decide_true,zf]; exact bit rfl rfl
 rename_i h17; split at ht
 ·rename_i h; cases ht; simp only [h,decide_true,zf]; exact bit rfl rfl
 rename_i h18; split at ht
 ·rename_i h; cases ht; simp only [h,decide_true,zf]; exact bit rfl rfl
 rename_i h19; split at ht
 ·rename_i h; cases ht; simp only [h,decide_true,zf]; exact bit rfl rfl
 cases ht
theorem Ve {v n : Int} {H : Heap} {nx : Nat} {K : EndP} (hK : K (.ret (iv (if IntKind.u64.wrap n ≤ v then -1 else IntKind.i64.wrap v))) H nx) : TriP Tryz.prog 157 [uv v,iv n] H nx K := by
 refine TriP.of_body qw ?_
 rw [XL]
 unfold qan
 by_cases h : IntKind.u64.wrap n ≤ v
 ·rw [if_pos h] at hK; simp only [h,decide_true,zf]; exact hK
 ·rw [if_neg h] at hK; simp only [h,decide_false,zG]; exact hK
section
variable {Γ Γ' : GH} {own own' : Nat → Nat} {Γ0 : GH} {pg : Pg} {m : Nat} {G : Gh} {S : Mst} {H : Heap} {nx : Nat} {K : EndP}
theorem MsG.setWd {W' : Wd} {wv' lv' : AVal} (g : MsG Γ own Γ0 pg m G S) (kp : Keep Γ own Γ' own' (fun r => 2 ≤ r ∧ r ≤ 8 ∧ r ≠ 4)) (wd : WdV Γ' own' pg.w G.hp G.tv wv' G.litv lv' G.inb G.inf W') :
  MsG Γ' own' Γ0 pg m { G with wv := wv',lv := lv' } { S with wd := W' } where
 ro := fun b cs hb => by
  obtain ⟨a1,a2⟩ := g.ro b cs hb
  obtain ⟨a3,a4⟩ := kp b cs a1 (by omega)
  exact ⟨a3,by rw [a4,a2]⟩
 om := ((kp _ _ g.em (by rw [g.om]; omega)).2).trans g.om
 em := (kp _ _ g.em (by rw [g.om]; omega)).1
 of := ((kp _ _ g.ef (by rw [g.of]; omega)).2).trans g.of
 ef := (kp _ _ g.ef (by rw [g.of]; omega)).1
 lowV := g.lowV.keep kp fun j _ _ => ⟨by omega,by omega⟩
 topV := g.topV.keep kp (by omega) (by omega)
 wdV := wd
theorem MS.ro (h : MS Γ0 pg m S H nx) {b : Nat} {cs : List AVal} (e : Γ0 b = some cs) (off : Nat) : ld1 H (.ptr b off) = cs[off]? := by
 obtain ⟨Γ,own,G,hk,g⟩ := h
 exact hk.ld1 (g.ro b cs e).1 off
theorem MS.roN (h : MS Γ0 pg m S H nx) {b off sz : Nat} {cs : List AVal} (e : Γ0 b = some cs) (ho : off + sz ≤ cs.length) : ldN H sz (.ptr b off) = some (.agg ((cs.drop off).take sz)) := by
 obtain ⟨Γ,own,G,hk,g⟩ := h
 exact hk.ldN (g.ro b cs e).1 ho
theorem MS.more {nx' : Nat} (h : MS Γ0 pg m S H nx) (e : nx ≤ nx') : MS Γ0 pg m S H nx' := by
 obtain ⟨Γ,own,G,hk,g⟩ := h
 exact ⟨Γ,own,G,hk.more e,g⟩
theorem MS.temp {nx' b : Nat} {cs : List AVal} (h : MS Γ0 pg m S H nx) (hb : nx ≤ b) (hn : b < nx') : MS (gup b (some cs) Γ0) pg m S (newB b cs H) nx' := by
 obtain ⟨Γ,own,G,hk,g⟩ := h
 have hlt : ∀ c ds,Γ c = some ds → c ≠ b := fun c ds hc => by have := hk.lt hc; omega
 have kp : Keep Γ own (gup b (some cs) Γ) (fun c => if c = b then 9 else own c) (fun _ => False) := fun c ds hc _ => ⟨by rw [qe (hlt c ds hc)]; exact hc,by simp [hlt c ds hc]⟩
 have g2 := g.keep kp
 refine ⟨_,_,G,hk.new hb hn cs,?_,g2.om,g2.em,g2.of,g2.ef,g2.lowV,g2.topV,g2.wdV⟩
 intro c ds hc
 by_cases hcb : c = b
 ·subst hcb; rw [qc] at hc ⊢; cases hc; exact ⟨rfl,by simp⟩
 ·rw [qe hcb] at hc
  obtain ⟨a1,a2⟩ := g.ro c ds hc
  exact ⟨by rw [qe hcb]; exact a1,by simp [hcb,a2]⟩
theorem MS.less {Γ1 : GH} (h : MS Γ1 pg m S H nx) (hs : ∀ b cs,Γ0 b = some cs → Γ1 b = some cs) : MS Γ0 pg m S H nx := by
 obtain ⟨Γ,own,G,hk,g⟩ := h
 exact ⟨Γ,own,G,hk,fun b cs e => g.ro b cs (hs b cs e),g.om,g.em,g.of,g.ef,g.lowV,g.topV,g.wdV⟩
theorem MS.lt0 (h : MS Γ0 pg m S H nx) {b : Nat} {cs : List AVal} (e : Γ0 b = some cs) : b < nx := by
 obtain ⟨Γ,own,G,hk,g⟩ := h
 exact hk.lt (g.ro b cs e).1
theorem MS.untemp {b : Nat} {cs : List AVal} {H0 : Heap} {nx0 : Nat} {S0 : Mst} (h : MS (gup b (some cs) Γ0) pg m S H nx) (h0 : MS Γ0 pg m S0 H0 nx0) (hb : nx0 ≤ b) : MS Γ0 pg m S H nx :=
 h.less fun c ds hc => by have := h0.lt0 hc; rw [qe (by omega)]; exact hc
theorem MS.setPc {pc : Int} (h : MS Γ0 pg m S H nx) : ∃ fb a,ld1 H (.ptr m 9) = some (.ptr fb a) ∧ ld1 H (.ptr fb (a + 1)) = some (iv S.top.pc) ∧
  ∃ H',stC H (.ptr fb (a + 1)) [iv pc] = some H' ∧ MS Γ0 pg m { S with top := { S.top with pc := pc } } H' nx := by
 obtain ⟨Γ,own,G,hk,g⟩ := h
 refine ⟨pg.fb,G.a S,g.ld_in hk,g.ld_pc hk,?_⟩
 obtain ⟨H2,e2,hk2⟩ := hk.st (off := G.a S + 1) (vs := [iv pc]) g.ef (by simp [qL,Gh.a]; omega) rfl
 have sp : qC (qD G.gl S.low ++ (qL G.gt S.top ++ G.R)) (G.a S + 1) [iv pc] = qD G.gl S.low ++ (qL G.gt { S.top with pc := pc } ++ G.R) := XJ _ _ _ _ _ _ _
 rw [sp] at hk2
 have kp : Keep Γ own (gup pg.fb (some (qD G.gl S.low ++ (qL G.gt { S.top with pc := pc } ++ G.R))) Γ) own (fun r => r = 4) := fun b cs hb hx =>
  ⟨by rw [qe (fun e => hx (by rw [e,g.of]))]; exact hb,rfl⟩
 refine ⟨H2,e2,_,own,G,hk2,fun b cs hb => ?_,g.om,(kp _ _ g.em (by rw [g.om]; omega)).1,g.of,qc _ _ _,g.lowV.keep kp (fun j _ _ => by omega),?_,g.wdV.keep kp (fun r h1 h2 h3 => by omega)⟩
 ·obtain ⟨a1,a2⟩ := g.ro b cs hb
  exact kp b cs a1 (by rw [a2]; omega) |>.imp id fun h => by rw [h,a2]
 ·have := g.topV.keep kp (by omega) (by omega)
  exact ⟨this.lo,this.lc,this.st⟩
end
end Go.Vs
end
section
namespace Go.Vs
open Go.Proofs
variable [GTab]
theorem vb (b : Nat) (cs : List AVal) (H : Heap) : kB b cs.length cs H = newB b cs H := rfl
section
variable {Γ0 : GH} {pg : Pg} {m : Nat} {S : Mst} {H : Heap} {nx : Nat} {K : EndP}
theorem qdb {t : Int} (h : MS Γ0 pg m S H nx) (hK : ∀ H' nx',nx ≤ nx' → MS Γ0 pg m { S with state := 2,trap := t } H' nx' → K (.ret (.tuple [])) H' nx') : TriP Tryz.prog 55 [.ptr m 0,iv t] H nx K := by
 obtain ⟨Γ,own,G,hk,g⟩ := h
 refine TriP.of_body qw ?_
 rw [qb9]
 unfold qen
 obtain ⟨H1,p1,p2⟩ := hk.st (off := 7) (vs := [iv 2]) g.em (by simp) rfl
 obtain ⟨H2,q1,q2⟩ := p2.st (off := 8) (vs := [iv t]) (qc _ _ _) (by simp [qC]) rfl
 rw [vh] at q2
 simp only [qz,true_and,and_true,exists_eq_left,exists_eq_left',p1,q1]
 refine hK _ _ (Nat.le_refl _) ⟨_,own,G,q2,?_⟩
 have kp : ∀ x,Keep Γ own (gup m x Γ) own (fun r => r = 1) := fun x b cs hb hx => ⟨by rw [qe (fun e => hx (by rw [e,g.om]))]; exact hb,rfl⟩
 refine ⟨fun b cs hb => ?_,g.om,by rw [qc]; rfl,g.of,(kp _ _ _ g.ef (by rw [g.of]; omega)).1,g.lowV.keep (kp _) (fun j _ _ => by omega),g.topV.keep (kp _) (by omega) (by omega),g.wdV.keep (kp _) (fun r _ _ _ => by omega)⟩
 obtain ⟨a1,a2⟩ := g.ro b cs hb
 obtain ⟨a3,a4⟩ := kp _ b cs a1 (by rw [a2]; omega)
 exact ⟨a3,by rw [a4,a2]⟩
def Mst.jump (S : Mst) (op a : Int) : Option Mst :=
 if op = 26 then some { S with top := { S.top with pc := a } }
 else if op = 27 then (if pk S.top.st 0 = 0 then some { S with top := { S.top with pc := a,st := jf 1 S.top.st } } else some { S with top := { S.top with pc := IntKind.i64.wrap (S.top.pc + 1),st := jf 1 S.top.st } })
 else none
theorem Y4 {op a b : Int} (hlen : S.top.st.length < 1000000) (h : MS Γ0 pg m S H nx)
  (hJ : ∀ S',S.jump op a = some S' → ∀ H' nx',nx ≤ nx' → MS Γ0 pg m S' H' nx' → K (.ret (.bool true)) H' nx')
  (hN : S.jump op a = none → ∀ H' nx',nx ≤ nx' → MS Γ0 pg m S H' nx' → K (.ret (.bool false)) H' nx') : TriP Tryz.prog 53 [.ptr m 0,.agg [iv op,iv a,iv b]] H nx K := by
 refine TriP.of_body qw ?_
 rw [XT]
 unfold qad
 have h1 := h.temp (b := nx) (nx' := nx + 1) (cs := [iv op,iv a,iv b]) (Nat.le_refl _) (by omega)
 have e0 : ld1 (newB nx [iv op,iv a,iv b] H) (.ptr nx 0) = some (iv op) := by rw [h1.ro (qc _ _ _)]; rfl
 have e1 : ld1 (newB nx [iv op,iv a,iv b] H) (.ptr nx 1) = some (iv a) := by rw [h1.ro (qc _ _ _)]; rfl
 have un : ∀ {S' H' nx'},MS (gup nx (some [iv op,iv a,iv b]) Γ0) pg m S' H' nx' → MS Γ0 pg m S' H' nx' := fun hh => hh.untemp h (Nat.le_refl _)
 unfold Mst.jump at hJ hN
 simp only [vb,qz,true_and,and_true,exists_eq_left,exists_eq_left',exists_and_left,e0,e1,iv,AVal.int.injEq]
 by_cases h26 : op = 26
 ·rw [if_pos h26] at hJ
  obtain ⟨fb,o,p1,_,H2,p3,p4⟩ := h1.setPc (pc := a)
  have p3' : stC (newB nx [AVal.int IntKind.i64 op,AVal.int IntKind.i64 a,AVal.int IntKind.i64 b] H) (AVal.ptr fb (o + 1)) [AVal.int IntKind.i64 a] = some H2 := p3
  have p1' : ld1 (newB nx [AVal.int IntKind.i64 op,AVal.int IntKind.i64 a,AVal.int IntKind.i64 b] H) (.ptr m 9) = some (.ptr fb o) := p1
  simp only [h26,decide_true,zf] at p1' p3' ⊢
  simp only [p1',qz,true_and,and_true,exists_eq_left,exists_eq_left',zh,qt,p3']
  exact hJ _ rfl _ _ (by omega) ((un p4).more (by omega))
 ·rw [if_neg h26] at hJ hN
  by_cases h27 : op = 27
  ·rw [if_pos h27] at hJ
   obtain ⟨fb,o,p1,p2,H2,p3,p4⟩ := h1.setPc (pc := IntKind.i64.wrap (S.top.pc + 1))
   simp only [iv] at p1 p2 p3
   simp only [h26,h27,decide_true,decide_false,zf,zG] at p1 p2 p3 ⊢
   simp only [p1,p2,qz,true_and,and_true,exists_eq_left,exists_eq_left',zh,qt,AVal.int.injEq,p3]
   refine qbf (by exact hlen) p4 fun H3 nx3 l3 h3 => ?_
   rw [qd]
   refine ⟨_,rfl,?_⟩
   simp only [qS,decide_eq_true_eq,decide_eq_false_iff_not]
   refine ⟨fun hz => ?_,fun hz => ?_⟩
   ·rw [if_pos hz] at hJ
    obtain ⟨fb',o',q1,q2,H4,q3,q4⟩ := h3.setPc (pc := a)
    have e1' : ld1 H3 (.ptr nx 1) = some (iv a) := by rw [h3.ro (qc _ _ _)]; rfl
    simp only [iv] at q1 q3 e1'
    simp only [q1,e1',qz,true_and,and_true,exists_eq_left,exists_eq_left',zh,qt,AVal.int.injEq,q3]
    exact hJ _ rfl _ _ (by omega) ((un q4).more (by omega))
   ·rw [if_neg hz] at hJ
    exact hJ _ rfl _ _ (by omega) (un h3)
  ·rw [if_neg h27] at hN
   simp only [h26,h27,decide_false,zG]
   exact hN rfl _ _ (by omega) (un h1)
end
end Go.Vs
end
section
namespace Go.Vs
open Go.Proofs
variable [GTab]
def VE (v n : Int) : Int := if IntKind.u64.wrap n ≤ v then -1 else IntKind.i64.wrap v
def Mst.put (S : Mst) (n : Nat) (v : Int) : Mst := S.st (jf n S.top.st ++ [v])
def Mst.part (S : Mst) (op a : Int) : Option (Mst × Int) :=
 let z := pk S.top.st 2
 let y := pk S.top.st 1
 let x := pk S.top.st 0
 if op = 28 then (if x = 0 then some (S,3) else some (S.put 1 (S.wd.get x a),0))
 else if op = 29 then (if y = 0 then some (S,3) else some (({ S with wd := S.wd.set y a x } : Mst).st (jf 2 S.top.st),0))
 else if op = 30 then (if y = 0 then some (S,3) else if VE x (S.wd.len y) < 0 then some (S,2) else some (S.put 2 (S.wd.get y (VE x (S.wd.len y))),0))
 else if op = 31 then (if z = 0 then some (S,3) else if VE y (S.wd.len z) < 0 then some (S,2) else some (({ S with wd := S.wd.set z (VE y (S.wd.len z)) x } : Mst).st (jf 3 S.top.st),0))
 else none
theorem yI {l : List Int} (h : ∀ x,x ∈ l → 0 ≤ x) (k : Nat) : 0 ≤ pk l k := by
 unfold pk
 split
 ·rename_i hk
  have : l.getD (l.length - 1 - k) 0 = l[l.length - 1 - k]'(by omega) := by simp [List.getD,show l.length - 1 - k < l.length by omega]
  rw [this]
  exact h _ (List.getElem_mem _)
 ·exact Int.le_refl _
section
variable {Γ0 : GH} {pg : Pg} {m : Nat} {S : Mst} {H : Heap} {nx : Nat} {K : EndP}
theorem qc4 {op a b : Int} (hlen : S.top.st.length < 1000000) (hwl : S.wd.words.length < 1000000) (hnn : ∀ x,x ∈ S.top.st → 0 ≤ x) (h : MS Γ0 pg m S H nx) {S' : Mst} {t : Int} (hp : S.part op a = some (S',t))
  (hK : ∀ H' nx',nx ≤ nx' → MS Γ0 pg m S' H' nx' → K (.ret (iv t)) H' nx') : TriP Tryz.prog 101 [.ptr m 0,.agg [iv op,iv a,iv b]] H nx K := by
 refine TriP.of_body qw ?_
 rw [qa3]
 unfold qef
 have h1 := h.temp (b := nx) (nx' := nx + 1) (cs := [iv op,iv a,iv b]) (Nat.le_refl _) (by omega)
 have e0 : ld1 (newB nx [iv op,iv a,iv b] H) (.ptr nx 0) = some (iv op) := by rw [h1.ro (qc _ _ _)]; rfl
 have e1 : ld1 (newB nx [iv op,iv a,iv b] H) (.ptr nx 1) = some (iv a) := by rw [h1.ro (qc _ _ _)]; rfl
 have un : ∀ {S' H' nx'},MS (gup nx (some [iv op,iv a,iv b]) Γ0) pg m S' H' nx' → MS Γ0 pg m S' H' nx' := fun hh => hh.untemp h (Nat.le_refl _)
 unfold Mst.part at hp
 dsimp only at hp
 have n0 := yI hnn 0
 have n1 := yI hnn 1
 have n2 := yI hnn 2
 simp only [vb,qz,true_and,and_true,exists_eq_left,exists_eq_left',exists_and_left]
 generalize newB nx [iv op,iv a,iv b] H = H1 at *
 obtain ⟨Γ,own,G,hk,g⟩ := h1
 have ew : ld1 H1 (.ptr m 5) = some (.ptr pg.w 0) := by rw [hk.ld1 g.em]; rfl
 simp only [ew,qz,exists_eq_left']
 refine VC hk g.wdV ?_
 rw [qd]
 refine kR (k := 2) hlen (by omega) ⟨Γ,own,G,hk,g⟩ fun x1 l1 => ?_
 rw [qd]
 refine ⟨_,rfl,?_⟩
 refine kR (k := 1) hlen (by omega) ⟨Γ,own,G,hk.more l1,g⟩ fun x2 l2 => ?_
 rw [qd]
 refine ⟨_,rfl,?_⟩
 refine kR (k := 0) hlen (by omega) ⟨Γ,own,G,hk.more (Nat.le_trans l1 l2),g⟩ fun x3 l3 => ?_
 rw [qd]
 refine ⟨_,rfl,?_⟩
 have hk3 := hk.more (Nat.le_trans l1 (Nat.le_trans l2 l3))
 have ms3 : MS (gup nx (some [iv op,iv a,iv b]) Γ0) pg m S H1 x3 := ⟨Γ,own,G,hk3,g⟩
 generalize pk S.top.st 0 = x at *
 generalize pk S.top.st 1 = y at *
 generalize pk S.top.st 2 = z at *
 simp only [e0,e1,qz,exists_eq_left',iv,AVal.int.injEq,true_and]
 have self : ∀ ex,Keep Γ own Γ own ex := fun ex _ _ hh _ => ⟨hh,rfl⟩
 have setK : ∀ {Γ'},Keep Γ own Γ' own (fun r => r = 5) → Keep Γ own Γ' own (fun r => 2 ≤ r ∧ r ≤ 8 ∧ r ≠ 4) := fun kp c ds hc hx => kp c ds hc (by omega)
 split at hp
 ·rename_i h28
  simp only [h28,decide_true,zf]
  rw [qS]; simp only [decide_eq_true_eq,decide_eq_false_iff_not]
  split at hp <;> cases hp <;> rename_i hz
  ·exact ⟨fun _ => hK _ _ (by omega) (un ms3),fun hh => absurd hz hh⟩
  ·refine ⟨fun hh => absurd hh hz,fun _ => ?_⟩
   refine Yz hk3 g.wdV n0 hwl fun x4 l4 => ?_
   rw [qd]
   refine ⟨_,rfl,?_⟩
   refine ym (n := 1) hlen (by omega) (ms3.more l4) fun H5 x5 l5 h5 => ?_
   rw [qd]
   exact hK _ _ (by omega) (un h5)
 rename_i h28
 simp only [h28,decide_false,zG]
 split at hp
 ·rename_i h29
  simp only [h29,decide_true,zf]
  rw [qS]; simp only [decide_eq_true_eq,decide_eq_false_iff_not]
  split at hp <;> cases hp <;> rename_i hz
  ·exact ⟨fun _ => hK _ _ (by omega) (un ms3),fun hh => absurd hz hh⟩
  ·refine ⟨fun hh => absurd hh hz,fun _ => ?_⟩
   refine WI hk3 g.wdV n1 hwl fun bb Γ' H4 x4 l4 a1 a2 a3 => ?_
   rw [qd]
   refine ⟨_,rfl,?_⟩
   have g4 := g.setWd (setK a3) a2
   refine ZK (n := 2) (S := { S with wd := S.wd.set y a x }) hlen (by omega) ⟨_,_,_,a1,g4⟩ fun H5 x5 l5 h5 => ?_
   rw [qd]
   exact hK _ _ (by omega) (un h5)
 rename_i h29
 simp only [h29,decide_false,zG]
 split at hp
 ·rename_i h30
  simp only [h30,decide_true,zf]
  refine KK hk3 g.wdV n1 hwl fun x4 l4 => ?_
  rw [qd]
  refine ⟨_,rfl,Ve ?_⟩
  rw [qd]
  refine ⟨_,rfl,?_⟩
  rw [qS]; simp only [decide_eq_true_eq,decide_eq_false_iff_not]
  split at hp
  ·rename_i hz; cases hp
   exact ⟨fun _ => ⟨_,e0,by simp only [h30,decide_true,zf]; exact hK _ _ (by omega) (un (ms3.more l4))⟩,fun hh => absurd hz hh⟩
  rename_i hz
  refine ⟨fun hh => absurd hh hz,fun _ => ?_⟩
  rw [qS]; simp only [decide_eq_true_eq,decide_eq_false_iff_not]
  split at hp <;> cases hp <;> rename_i hi
  ·exact ⟨fun _ => hK _ _ (by omega) (un (ms3.more l4)),fun hh => absurd hi hh⟩
  ·refine ⟨fun hh => absurd hh hi,fun _ => ?_⟩
   refine Yz (hk3.more l4) g.wdV n1 hwl fun x5 l5 => ?_
   rw [qd]
   refine ⟨_,rfl,?_⟩
   refine ym (n := 2) hlen (by omega) (ms3.more (Nat.le_trans l4 l5)) fun H5 x5 l5 h5 => ?_
   rw [qd]
   exact hK _ _ (by omega) (un h5)
 rename_i h30
 simp only [h30,decide_false,zG]
 split at hp
 ·rename_i h31
  simp only [h31,decide_true,zf]
  simp only [show ¬ ((31 : Int) = 32) by omega,decide_false,zG]
  refine KK hk3 g.wdV n2 hwl fun x4 l4 => ?_
  rw [qd]
  refine ⟨_,rfl,Ve ?_⟩
  rw [qd]
  refine ⟨_,rfl,?_⟩
  rw [qS]; simp only [decide_eq_true_eq,decide_eq_false_iff_not]
  split at hp
  ·rename_i hz; cases hp
   exact ⟨fun _ => hK _ _ (by omega) (un (ms3.more l4)),fun hh => absurd hz hh⟩
  rename_i hz
  refine ⟨fun hh => absurd hh hz,fun _ => ?_⟩
  rw [qS]; simp only [decide_eq_true_eq,decide_eq_false_iff_not]
  split at hp <;> cases hp <;> rename_i hi
  ·exact ⟨fun _ => hK _ _ (by omega) (un (ms3.more l4)),fun hh => absurd hi hh⟩
  ·refine ⟨fun hh => absurd hh hi,fun _ => ?_⟩
   refine WI (hk3.more l4) g.wdV n2 hwl fun bb Γ' H5 x5 l5 a1 a2 a3 => ?_
   rw [qd]
   refine ⟨_,rfl,?_⟩
   have g4 := g.setWd (setK a3) a2
   refine ZK (n := 3) (S := { S with wd := S.wd.set z (VE y (S.wd.len z)) x }) hlen (by omega) ⟨_,_,_,a1,g4⟩ fun H6 x6 l6 h6 => ?_
   rw [qd]
   exact hK _ _ (by omega) (un h6)
 ·cases hp
end
end Go.Vs
end
section
namespace Go.Vs
open Go.Proofs
variable [GTab]
structure Mst.Fine (S : Mst) : Prop where
 st : S.top.st.length < 1000000
 nn : ∀ x,x ∈ S.top.st → 0 ≤ x
 words : S.wd.words.length < 1000000
 lines : S.wd.lines.length < 1000000
 inputs : S.wd.inputs.length < 1000000
 taken : S.wd.taken ≤ S.wd.inputs.length
 room0 : 0 ≤ S.wd.room
 room1 : S.wd.room < 1000000000
def Wd.slice (W : Wd) (t n : Int) : Option (Wd × Int) := if n < 0 then none else if 65536 < n then none else W.alloc t n
section
variable {Γ : GH} {own : Nat → Nat} {w hp : Nat} {tv wv litv lv : AVal} {inb : Nat} {inf : Bool} {W : Wd} {H : Heap} {nx : Nat} {K : EndP}
theorem qb1 (hk : HOK Γ H nx) (g : WdV Γ own w hp tv wv litv lv inb inf W) {t n : Int} (hl : W.words.length < 1000000) (hr0 : 0 ≤ W.room) (hr1 : W.room < 1000000000)
  (hN : W.slice t n = none → ∀ nx',nx ≤ nx' → K (.ret (.tuple [uv 0,.bool false])) H nx')
  (hS : ∀ W' ref,W.slice t n = some (W',ref) → ∀ Γ' own' H' nx' wv',nx ≤ nx' → HOK Γ' H' nx' → WdV Γ' own' w hp tv wv' litv lv inb inf W' → Keep Γ own Γ' own' (fun r => r = 5 ∨ r = 3) →
   K (.ret (.tuple [uv ref,.bool true])) H' nx') :
  TriP Tryz.prog 161 [.ptr w 0,iv t,iv n] H nx K := by
 refine TriP.of_body qw ?_
 rw [XC]
 unfold Yd
 unfold Wd.slice at hN hS
 have e1 := g.ld_hp hk
 rw [qS]; simp only [decide_eq_true_eq,decide_eq_false_iff_not]
 refine ⟨fun h => by rw [if_pos h] at hN; exact hN rfl _ (Nat.le_refl _),fun h => ?_⟩
 rw [if_neg h] at hN hS
 rw [qS]; simp only [decide_eq_true_eq,decide_eq_false_iff_not]
 refine ⟨fun h => by rw [if_pos h] at hN; exact hN rfl _ (Nat.le_refl _),fun h => ?_⟩
 rw [if_neg h] at hN hS
 simp only [e1,qz,true_and,exists_eq_left']
 refine Yl hk g hl hr0 hr1 (fun e nx' l => ?_) (fun W' ref e Γ' own' H' nx' wv' l a1 a2 a3 => ?_)
 ·rw [qd]; exact ⟨_,_,rfl,hN e _ l⟩
 ·rw [qd]; exact ⟨_,_,rfl,hS _ _ e _ _ _ _ _ l a1 a2 a3⟩
end
def Mst.make (S : Mst) (a : Int) : Mst × Int :=
 if 2000 < pk S.top.st 0 then (S,5)
 else match S.wd.slice a (IntKind.i64.wrap (pk S.top.st 0)) with
  | none => (S,7)
  | some (W,r) => (({ S with wd := W } : Mst).put 1 r,0)
section
variable {Γ0 : GH} {pg : Pg} {m : Nat} {S : Mst} {H : Heap} {nx : Nat} {K : EndP}
theorem MS.ld_w (h : MS Γ0 pg m S H nx) : ld1 H (.ptr m 5) = some (.ptr pg.w 0) := by
 obtain ⟨Γ,own,G,hk,g⟩ := h
 rw [hk.ld1 g.em]; rfl
theorem Yk {a b : Int} (fi : S.Fine) (h : MS Γ0 pg m S H nx) (hK : ∀ H' nx',nx ≤ nx' → MS Γ0 pg m (S.make a).1 H' nx' → K (.ret (iv (S.make a).2)) H' nx') :
  TriP Tryz.prog 103 [.ptr m 0,.agg [iv 35,iv a,iv b]] H nx K := by
 refine TriP.of_body qw ?_
 rw [XY]
 unfold YD
 have h1 := h.temp (b := nx) (nx' := nx + 1) (cs := [iv 35,iv a,iv b]) (Nat.le_refl _) (by omega)
 have e0 : ld1 (newB nx [iv 35,iv a,iv b] H) (.ptr nx 0) = some (iv 35) := by rw [h1.ro (qc _ _ _)]; rfl
 have e1 : ld1 (newB nx [iv 35,iv a,iv b] H) (.ptr nx 1) = some (iv a) := by rw [h1.ro (qc _ _ _)]; rfl
 have un : ∀ {S' H' nx'},MS (gup nx (some [iv 35,iv a,iv b]) Γ0) pg m S' H' nx' → MS Γ0 pg m S' H' nx' := fun hh => hh.untemp h (Nat.le_refl _)
 simp only [vb,qz,true_and,and_true,exists_eq_left,exists_eq_left',exists_and_left]
 generalize newB nx [iv 35,iv a,iv b] H = H1 at *
 simp only [e0,qz,exists_eq_left',iv,AVal.int.injEq,true_and,show ¬ ((35 : Int) = 21) by omega,show ¬ ((35 : Int) = 34) by omega,decide_false,zG]
 unfold Mst.make at hK
 have ew := h1.ld_w
 refine kR (k := 0) fi.st (by omega) h1 fun x1 l1 => ?_
 rw [qd]
 refine ⟨_,rfl,?_⟩
 rw [qS]; simp only [decide_eq_true_eq,decide_eq_false_iff_not]
 refine ⟨fun hx => by rw [if_pos hx] at hK; exact hK _ _ (by omega) (un (h1.more l1)),fun hx => ?_⟩
 rw [if_neg hx] at hK
 simp only [iv] at e1
 simp only [ew,e1,qz,exists_eq_left',true_and,and_true,AVal.int.injEq]
 refine kR (k := 0) fi.st (by omega) (h1.more (by omega)) fun x2 l2 => ?_
 rw [qd]
 refine ⟨_,rfl,?_⟩
 refine ⟨⟨⟨_,ew,rfl⟩,_,e1,rfl⟩,?_⟩
 have h3 := h1.more (nx' := x2) (by omega)
 obtain ⟨Γ,own,G,hk,g⟩ := h3
 refine qb1 hk g.wdV fi.words fi.room0 fi.room1 (fun e nx' l => ?_) (fun W' ref e Γ' own' H' nx' wv' l a1 a2 a3 => ?_)
 ·rw [qd]
  refine ⟨_,_,rfl,?_⟩
  rw [e] at hK
  simp only [Bool.not_false,zf,true_and]
  exact hK _ _ (by omega) (un ⟨Γ,own,G,hk.more l,g⟩)
 ·rw [qd]
  refine ⟨_,_,rfl,?_⟩
  rw [e] at hK
  simp only [Bool.not_true,zG,true_and]
  have g2 := g.setWd (W' := W') (fun c ds hc hx => a3 c ds hc (by omega)) a2
  refine ym (n := 1) (S := { S with wd := W' }) fi.st (by omega) ⟨_,_,_,a1,g2⟩ fun H5 x5 l5 h5 => ?_
  rw [qd]
  exact hK _ _ (by omega) (un h5)
end
end Go.Vs
end
section
namespace Go.Vs
open Go.Proofs
variable [GTab]
section
variable {Γ0 : GH} {pg : Pg} {m : Nat} {S : Mst} {H : Heap} {nx : Nat} {K : EndP}
theorem jA {p : Prop} [Decidable p] {a b : Prop} (h : p) (ha : a) : ifB (decide p) a b := by rw [decide_eq_true h]; exact ha
theorem qA {p : Prop} [Decidable p] {a b : Prop} (h : ¬ p) (hb : b) : ifB (decide p) a b := by rw [decide_eq_false h]; exact hb
theorem MsG.setLocal {Γ : GH} {own : Nat → Nat} {G : Gh} (hk : HOK Γ H nx) (g : MsG Γ own Γ0 pg m G S) {i : Nat} (hi : i < S.top.ls.length) (x : Int) :
  ∃ H',idxS (.slice G.gt.1 0 S.top.ls.length 1 true) i 1 = some (.ptr G.gt.1 i) ∧ stC H (.ptr G.gt.1 i) [uv x] = some H' ∧ MS Γ0 pg m { S with top := { S.top with ls := S.top.ls.set i x } } H' nx := by
 obtain ⟨H',e1,e2⟩ := hk.st (off := i) (vs := [uv x]) g.topV.lc (by rw [Wu]; simp; omega) rfl
 refine ⟨H',by rw [qW hi]; simp,e1,?_⟩
 have sp : qC (uvs S.top.ls) i [uv x] = uvs (S.top.ls.set i x) := by
  unfold uvs
  rw [List.map_set,List.set_eq_take_append_cons_drop,if_pos (by simp; omega)]; simp [qC]
 rw [sp] at e2
 have kp : Keep Γ own (gup G.gt.1 (some (uvs (S.top.ls.set i x))) Γ) own (fun r => r = 10 + 2 * S.low.length) := fun b cs hb hx => ⟨by rw [qe (fun e => hx (by rw [e,g.topV.lo]))]; exact hb,rfl⟩
 refine ⟨_,own,G,e2,fun b cs hb => ?_,g.om,(kp _ _ g.em (by rw [g.om]; omega)).1,g.of,?_,g.lowV.keep kp (fun j h1 h2 => by have h2' : j < 0 + S.low.length := h2; omega),?_,g.wdV.keep kp (fun r h1 h2 h3 => by omega)⟩
 ·obtain ⟨a1,a2⟩ := g.ro b cs hb
  obtain ⟨a3,a4⟩ := kp b cs a1 (by rw [a2]; omega)
  exact ⟨a3,by rw [a4,a2]⟩
 ·have := (kp _ _ g.ef (by rw [g.of]; omega)).1
  simpa [qL] using this
 ·exact ⟨g.topV.lo,qc _ _ _,g.topV.st.keep kp (by omega)⟩
def kq (Γ0 : GH) (v : AVal) (k : Int) : Option Int :=
 match v with
 | .slice b off len _ _ => if 0 ≤ k ∧ k < len then (match Γ0 b with | some cs => (match cs[off + k.toNat]? with | some (.int .i64 n) => some n | _ => none) | none => none) else none
 | _ => none
theorem YU {v : AVal} {k n : Int} (h : MS Γ0 pg m S H nx) (e : kq Γ0 v k = some n) : 0 ≤ k ∧ ∃ p,idxS v k.toNat 1 = some p ∧ ld1 H p = some (.int .i64 n) := by
 unfold kq at e
 split at e <;> try (cases e; done)
 split at e <;> try (cases e; done)
 rename_i hk
 split at e <;> try (cases e; done)
 rename_i cs hc
 split at e <;> try (cases e; done)
 rename_i n' hn
 cases e
 refine ⟨hk.1,_,qW (by omega),?_⟩
 rw [Nat.mul_one,h.ro hc]; exact hn
def Mst.push (S : Mst) (v : Int) : Mst := S.st (S.top.st ++ [v])
def Mst.does (num : Int → List UInt8) (nums : Int → Option Int) (S : Mst) (op a : Int) : Option (Mst × Int) :=
 let x := pk S.top.st 0
 let y := pk S.top.st 1
 if op = 1 then (nums a).map fun n => (S.push (IntKind.u64.wrap n),0)
 else if op = 2 then some (S.push (IntKind.u64.wrap a),0)
 else if op = 3 then some (S.push (S.wd.lit a),0)
 else if op = 4 then some (S.push 0,0)
 else if op = 5 then (if 0 ≤ a ∧ a < S.top.ls.length then some (S.push (S.top.ls.getD a.toNat 0),0) else none)
 else if op = 6 then (if 0 ≤ a ∧ a < S.top.ls.length then some ({ S with top := { S.top with ls := S.top.ls.set a.toNat x,st := jf 1 S.top.st } },0) else none)
 else if op = 7 then some (S.st (jf 1 S.top.st),0)
 else if op = 13 then some (S.put 1 (IntKind.u64.wrap (0 - x)),0)
 else if op = 14 then some (S.put 1 (bitI (decide (x = 0))),0)
 else if op = 11 ∨ op = 12 then (if x = 0 then some (S,1) else if IntKind.i64.wrap x = 0 then none else some (S.put 2 (VN op (IntKind.i64.wrap y) (IntKind.i64.wrap x)),0))
 else if op = 28 ∨ op = 29 ∨ op = 30 ∨ op = 31 then S.part op a
 else if op = 33 then some (S.put 1 (IntKind.u64.wrap (S.wd.len x)),0)
 else if op = 35 then some (S.make a)
 else if op = 39 then (JH num a x).map fun s => ({ S with top := { S.top with st := jf 1 S.top.st },wd := S.wd.line s },0)
 else if op = 40 then some (({ S with wd := S.wd.input.1 } : Mst).push S.wd.input.2,0)
 else (yT op y x).map fun r => (S.put 2 r,0)
theorem qb5 {op y x r : Int} (h : yT op y x = some r) (k : Int) (hk : k ∉ [8,9,10,15,16,17,18,19,20]) : op ≠ k := by
 intro e
 subst e
 simp at hk
 unfold yT at h
 simp_all
theorem qca {num : Int → List UInt8} (hn : J8 num) {op a b : Int} (fi : S.Fine) (h : MS Γ0 pg m S H nx) {S' : Mst} {t : Int} (hp : S.does num (kq Γ0 pg.nums) op a = some (S',t))
  (hK : ∀ H' nx',nx ≤ nx' → MS Γ0 pg m S' H' nx' → K (.ret (iv t)) H' nx') : TriP Tryz.prog 54 [.ptr m 0,.agg [iv op,iv a,iv b]] H nx K := by
 refine TriP.of_body qw ?_
 rw [qax]
 unfold qed
 have h1 := h.temp (b := nx) (nx' := nx + 1) (cs := [iv op,iv a,iv b]) (Nat.le_refl _) (by omega)
 have e0 : ld1 (newB nx [iv op,iv a,iv b] H) (.ptr nx 0) = some (iv op) := by rw [h1.ro (qc _ _ _)]; rfl
 have e1 : ld1 (newB nx [iv op,iv a,iv b] H) (.ptr nx 1) = some (iv a) := by rw [h1.ro (qc _ _ _)]; rfl
 have eN : ldN (newB nx [iv op,iv a,iv b] H) 3 (.ptr nx 0) = some (.agg [iv op,iv a,iv b]) := by rw [h1.roN (qc _ _ _) (by simp)]; rfl
 have un : ∀ {S' H' nx'},MS (gup nx (some [iv op,iv a,iv b]) Γ0) pg m S' H' nx' → MS Γ0 pg m S' H' nx' := fun hh => hh.untemp h (Nat.le_refl _)
 have eNum : ∀ k n,kq Γ0 pg.nums k = some n → kq (gup nx (some [iv op,iv a,iv b]) Γ0) pg.nums k = some n := by
  intro k n e
  unfold kq at e ⊢
  split at e <;> try (cases e; done)
  split at e <;> try (cases e; done)
  rename_i hk
  split at e <;> try (cases e; done)
  rename_i cs hc
  have := h.lt0 hc
  rw [if_pos hk,qe (by omega),hc]; exact e
 have eRo : ∀ {S' H' nx'},MS (gup nx (some [iv op,iv a,iv b]) Γ0) pg m S' H' nx' → ld1 H' (.ptr nx 1) = some (iv a) := fun hh => by rw [hh.ro (qc _ _ _)]; rfl
 unfold Mst.does at hp
 dsimp only at hp
 have n0 := yI fi.nn 0
 simp only [vb,qz,true_and,and_true,exists_eq_left,exists_eq_left',exists_and_left]
 generalize newB nx [iv op,iv a,iv b] H = H1 at *
 refine kR (k := 1) fi.st (by omega) h1 fun x1 l1 => ?_
 rw [qd]
 refine ⟨_,rfl,?_⟩
 refine kR (k := 0) fi.st (by omega) (h1.more l1) fun x2 l2 => ?_
 rw [qd]
 refine ⟨_,rfl,?_⟩
 have h2 := h1.more (Nat.le_trans l1 l2)
 have ew := h2.ld_w
 refine ⟨_,ew,?_⟩
 obtain ⟨Γ,own,G,hk,g⟩ := h2
 refine VC hk g.wdV ?_
 rw [qd]
 have h2 : MS (gup nx (some [iv op,iv a,iv b]) Γ0) pg m S H1 x2 := ⟨Γ,own,G,hk,g⟩
 refine ⟨_,e0,?_⟩
 by_cases ho1 : op = 1
 ·rw [if_pos ho1] at hp
  subst ho1
  refine jA rfl ?_
  cases hq : kq Γ0 pg.nums a with
  | none => rw [hq] at hp; cases hp
  | some n =>
   rw [hq] at hp; cases hp
   obtain ⟨q0,p,q1,q2⟩ := YU h2 (eNum _ _ hq)
   have q3 : ld1 H1 (.ptr m 4) = some pg.nums := by rw [hk.ld1 g.em]; rfl
   simp only [iv] at e1
   simp only [qt,Nat.zero_add,q3,e1,iv,q0,q1,q2,qz,exists_eq_left',true_and,and_true,AVal.int.injEq]
   refine vL fi.st (h2.more (by omega)) fun H5 x5 l5 h5 => ?_
   rw [qd]
   exact hK _ _ (by omega) (un h5)
 rw [if_neg ho1] at hp
 refine qA ho1 ?_
 by_cases ho2 : op = 2
 ·rw [if_pos ho2] at hp
  subst ho2; cases hp
  refine jA rfl ⟨_,e1,?_⟩
  refine vL fi.st h2 fun H5 x5 l5 h5 => ?_
  rw [qd]
  exact hK _ _ (by omega) (un h5)
 rw [if_neg ho2] at hp
 refine qA ho2 ?_
 by_cases ho3 : op = 3
 ·rw [if_pos ho3] at hp
  subst ho3; cases hp
  refine jA rfl ⟨_,ew,_,e1,⟨⟨_,ew,rfl⟩,_,e1,rfl⟩,?_⟩
  refine qg1 (hk.more (by omega)) g.wdV ?_
  rw [qd]
  refine ⟨_,rfl,?_⟩
  refine vL fi.st (h2.more (by omega)) fun H5 x5 l5 h5 => ?_
  rw [qd]
  exact hK _ _ (by omega) (un h5)
 rw [if_neg ho3] at hp
 refine qA ho3 ?_
 by_cases ho4 : op = 4
 ·rw [if_pos ho4] at hp
  subst ho4; cases hp
  refine jA rfl ?_
  refine vL fi.st h2 fun H5 x5 l5 h5 => ?_
  rw [qd]
  exact hK _ _ (by omega) (un h5)
 rw [if_neg ho4] at hp
 refine qA ho4 ?_
 have i1 := g.ld_in hk
 have i2 := g.ld_ls hk
 by_cases ho5 : op = 5
 ·rw [if_pos ho5] at hp
  subst ho5
  refine jA rfl ?_
  split at hp <;> cases hp
  rename_i ha
  have hl : a.toNat < S.top.ls.length := by omega
  have q1 := qW (b := G.gt.1) (off := 0) (len := S.top.ls.length) (e := 1) (n := a.toNat) (esz := 1) (full := true) hl
  simp only [Nat.zero_add,Nat.mul_one] at q1
  have q2 : ld1 H1 (.ptr G.gt.1 a.toNat) = some (.int .u64 (S.top.ls.getD a.toNat 0)) := by
   rw [hk.ld1 g.topV.lc,qd4]; simp [hl,List.getD]
  simp only [iv] at e1
  simp only [i1,i2,zh,qt,e1,iv,uv,ha.1,q1,q2,qz,exists_eq_left',true_and,and_true,AVal.int.injEq]
  refine vL fi.st (h2.more (by omega)) fun H5 x5 l5 h5 => ?_
  rw [qd]
  exact hK _ _ (by omega) (un h5)
 rw [if_neg ho5] at hp
 refine qA ho5 ?_
 by_cases ho6 : op = 6
 ·rw [if_pos ho6] at hp
  subst ho6
  refine jA rfl ?_
  split at hp <;> cases hp
  rename_i ha
  simp only [iv] at e1
  simp only [i1,i2,zh,qt,e1,iv,qz,exists_eq_left',true_and,and_true,AVal.int.injEq]
  refine Ku fi.st (hk.more (by omega)) g fun Γ' v' H5 x5 l5 k5 g5 => ?_
  rw [qd]
  refine ⟨_,rfl,?_⟩
  have hl : a.toNat < S.top.ls.length := by omega
  obtain ⟨H6,q1,q2,q3⟩ := g5.setLocal k5 (i := a.toNat) hl (pk S.top.st 0)
  have i3 := g5.ld_in k5
  have i4 := g5.ld_ls k5
  have e1' := eRo (⟨_,_,_,k5,g5⟩ : MS _ pg m _ H5 x5)
  have j3 : ld1 H5 (.ptr m 9) = some (.ptr pg.fb (G.a S)) := i3
  have j4 : ld1 H5 (.ptr pg.fb (G.a S + 2)) = some (.slice G.gt.1 0 S.top.ls.length 1 true) := i4
  have j1 : idxS (.slice G.gt.1 0 S.top.ls.length 1 true) a.toNat 1 = some (.ptr G.gt.1 a.toNat) := q1
  have j2 : stC H5 (.ptr G.gt.1 a.toNat) [uv (pk S.top.st 0)] = some H6 := q2
  simp only [iv] at e1'
  simp only [j1,j2,j3,j4,e1',ha.1,qz,exists_eq_left',true_and,and_true,AVal.int.injEq]
  exact hK _ _ (by omega) (un q3)
 rw [if_neg ho6] at hp
 refine qA ho6 ?_
 by_cases ho7 : op = 7
 ·rw [if_pos ho7] at hp
  subst ho7; cases hp
  refine jA rfl ?_
  refine qbf fi.st h2 fun H5 x5 l5 h5 => ?_
  rw [qd]
  exact ⟨_,rfl,hK _ _ (by omega) (un h5)⟩
 rw [if_neg ho7] at hp
 refine qA ho7 ?_
 by_cases ho13 : op = 13
 ·rw [if_pos ho13] at hp
  subst ho13; cases hp
  refine jA rfl ?_
  refine ym (n := 1) fi.st (by omega) h2 fun H5 x5 l5 h5 => ?_
  rw [qd]
  exact hK _ _ (by omega) (un h5)
 rw [if_neg ho13] at hp
 refine qA ho13 ?_
 by_cases ho14 : op = 14
 ·rw [if_pos ho14] at hp
  subst ho14; cases hp
  refine jA rfl (qa8 ?_)
  rw [qd]
  refine ⟨_,rfl,?_⟩
  refine ym (n := 1) fi.st (by omega) h2 fun H5 x5 l5 h5 => ?_
  rw [qd]
  exact hK _ _ (by omega) (un h5)
 rw [if_neg ho14] at hp
 refine qA ho14 ?_
 by_cases hd : op = 11 ∨ op = 12
 ·rw [if_pos hd] at hp
  have key : ifB (decide (pk S.top.st 0 = 0)) (K (AEnd.ret (iv 1)) H1 x2) (∃ n : Int,ld1 H1 (.ptr nx 0) = some (iv n) ∧ TriP Tryz.prog 100 [iv n,iv (IntKind.i64.wrap (pk S.top.st 1)),iv (IntKind.i64.wrap (pk S.top.st 0))] H1 x2
    fun e H2 i2 => qi e (fun v => ∃ n : Int,v = uv n ∧ TriP Tryz.prog 98 [.ptr m 0,iv 2,uv n] H2 i2 fun e H3 i3 => qi e (fun _ => K (AEnd.ret (iv 0)) H3 i3) fun l => K (AEnd.pan l) H3 i3) fun l => K (AEnd.pan l) H2 i2) := by
   by_cases hz : pk S.top.st 0 = 0
   ·rw [if_pos hz] at hp; cases hp
    exact jA hz (hK _ _ (by omega) (un h2))
   ·rw [if_neg hz] at hp
    refine qA hz ?_
    split at hp <;> cases hp
    rename_i hw
    refine ⟨_,e0,Xl hw ?_⟩
    rw [qd]
    refine ⟨_,rfl,?_⟩
    refine ym (n := 2) fi.st (by omega) h2 fun H5 x5 l5 h5 => ?_
    rw [qd]
    exact hK _ _ (by omega) (un h5)
  rcases hd with hd | hd
  ·exact jA hd key
  ·exact qA (by omega) (jA hd key)
 rw [if_neg hd] at hp
 refine qA (by omega) (qA (by omega) ?_)
 by_cases hq : op = 28 ∨ op = 29 ∨ op = 30 ∨ op = 31
 ·rw [if_pos hq] at hp
  have key : ∃ n1 n2 n3 : Int,ldN H1 3 (.ptr nx 0) = some (.agg [iv n1,iv n2,iv n3]) ∧ TriP Tryz.prog 101 [.ptr m 0,.agg [iv n1,iv n2,iv n3]] H1 x2
    fun e H2 i2 => qi e (fun v => ∃ n : Int,v = iv n ∧ K (AEnd.ret (iv n)) H2 i2) fun l => K (AEnd.pan l) H2 i2 := by
   refine ⟨_,_,_,eN,qc4 fi.st fi.words fi.nn h2 hp fun H5 x5 l5 h5 => ?_⟩
   rw [qd]
   exact ⟨_,rfl,hK _ _ (by omega) (un h5)⟩
  rcases hq with hd | hd | hd | hd
  ·exact jA hd key
  ·exact qA (by omega) (jA hd key)
  ·exact qA (by omega) (qA (by omega) (jA hd key))
  ·exact qA (by omega) (qA (by omega) (qA (by omega) (jA hd key)))
 rw [if_neg hq] at hp
 refine qA (by omega) (qA (by omega) (qA (by omega) (qA (by omega) ?_)))
 by_cases ho33 : op = 33
 ·rw [if_pos ho33] at hp
  subst ho33; cases hp
  refine qA (by omega) (qA (by omega) (jA rfl ?_))
  refine KK hk g.wdV n0 fi.words fun x3 l3 => ?_
  rw [qd]
  refine ⟨_,rfl,?_⟩
  refine ym (n := 1) fi.st (by omega) (h2.more l3) fun H5 x5 l5 h5 => ?_
  rw [qd]
  exact hK _ _ (by omega) (un h5)
 rw [if_neg ho33] at hp
 by_cases ho35 : op = 35
 ·rw [if_pos ho35] at hp
  subst ho35
  refine qA (by omega) (qA (by omega) (qA (by omega) (qA (by omega) (qA (by omega) (jA rfl ?_)))))
  refine ⟨_,_,_,eN,Yk fi h2 fun H5 x5 l5 h5 => ?_⟩
  rw [qd]
  have e : S.make a = (S',t) := by simpa using hp
  rw [e] at h5 ⊢
  exact ⟨_,rfl,hK _ _ (by omega) (un h5)⟩
 rw [if_neg ho35] at hp
 by_cases ho39 : op = 39
 ·rw [if_pos ho39] at hp
  subst ho39
  refine qA (by omega) (qA (by omega) (qA (by omega) (qA (by omega) (qA (by omega) (qA (by omega) (jA rfl ?_))))))
  refine ⟨_,ew,_,e1,⟨⟨_,ew,rfl⟩,_,e1,rfl⟩,?_⟩
  cases hs : JH num a (pk S.top.st 0) with
  | none => rw [hs] at hp; cases hp
  | some s =>
   rw [hs] at hp; cases hp
   refine Ku fi.st (hk.more (by omega)) g fun Γ' v' H5 x5 l5 k5 g5 => ?_
   rw [qd]
   have h5 : MS _ pg m _ H5 x5 := ⟨_,_,_,k5,g5⟩
   refine ⟨_,rfl,⟨⟨_,h5.ld_w,rfl⟩,_,eRo h5,rfl⟩,?_⟩
   refine Yh hn hs k5 g5.wdV fi.lines fun Γ6 own6 lv6 H6 x6 l6 k6 w6 kp6 => ?_
   rw [qd]
   have g6 := g5.setWd (fun c ds hc hx => kp6 c ds hc (by omega)) w6
   exact hK _ _ (by omega) (un ⟨_,_,_,k6,g6⟩)
 rw [if_neg ho39] at hp
 by_cases ho40 : op = 40
 ·rw [if_pos ho40] at hp
  subst ho40; cases hp
  refine qA (by omega) (qA (by omega) (qA (by omega) (qA (by omega) (qA (by omega) (qA (by omega) (qA (by omega) (jA rfl ?_)))))))
  refine ⟨_,ew,?_⟩
  refine Ya hk g.wdV fi.inputs fi.taken fun Γ6 H6 x6 l6 k6 w6 kp6 => ?_
  rw [qd]
  refine ⟨_,rfl,?_⟩
  have g6 := g.setWd (fun c ds hc hx => kp6 c ds hc (by omega)) w6
  refine vL (S := { S with wd := S.wd.input.1 }) fi.st ⟨_,_,_,k6,g6⟩ fun H5 x5 l5 h5 => ?_
  rw [qd]
  exact hK _ _ (by omega) (un h5)
 rw [if_neg ho40] at hp
 cases ht : yT op (pk S.top.st 1) (pk S.top.st 0) with
 | none => rw [ht] at hp; cases hp
 | some r =>
  rw [ht] at hp; cases hp
  have ne := fun k hk => qb5 ht k hk
  refine qA (ne 32 (by simp)) (qA (ne 38 (by simp)) (qA ho33 (qA (ne 21 (by simp)) (qA (ne 34 (by simp)) (qA ho35 (qA ho39 (qA ho40 ?_)))))))
  refine ⟨_,e0,VZ ht ?_⟩
  rw [qd]
  refine ⟨_,rfl,?_⟩
  refine ym (n := 2) fi.st (by omega) h2 fun H5 x5 l5 h5 => ?_
  rw [qd]
  exact hK _ _ (by omega) (un h5)
end
end Go.Vs
end
section
namespace Go.Vs
open Go.Proofs
variable [GTab]
def zk (fb n : Nat) : AVal := if n = 0 then .nilPtr else .ptr fb ((n - 1) * 4)
theorem Wb {Γ : GH} {H : Heap} {nx m fb n : Nat} {full : Bool} {c0 c1 c2 c3 c4 c5 c6 c7 c8 c9 : AVal} {K : EndP} (hk : HOK Γ H nx) (em : Γ m = some [c0,c1,c2,c3,c4,c5,c6,c7,c8,c9]) (hn : n < 1000000)
  (hK : ∀ H',HOK (gup m (some [c0,c1,c2,c3,c4,c5,.slice fb 0 n 4 full,c7,c8,zk fb n]) Γ) H' nx → K (.ret (.tuple [])) H' nx) : TriP Tryz.prog 30 [.ptr m 0,.slice fb 0 n 4 full] H nx K := by
 refine TriP.of_body qw ?_
 rw [qd3]
 unfold Fset
 obtain ⟨H1,p1,p2⟩ := hk.st (off := 6) (vs := [.slice fb 0 n 4 full]) em (by simp) rfl
 obtain ⟨H2,q1,q2⟩ := p2.st (off := 9) (vs := [.nilPtr]) (qc _ _ _) (by simp [qC]) rfl
 rw [vh] at q2
 simp only [qz,true_and,and_true,exists_eq_left,exists_eq_left',p1,q1,qx,w8]
 rw [qS]; simp only [decide_eq_true_eq,decide_eq_false_iff_not,Int.ofNat_eq_natCast]
 refine ⟨fun h => ?_,fun h => ?_⟩
 ·have e1 : IntKind.i64.wrap ((n : Int) - 1) = ((n - 1 : Nat) : Int) := by rw [qP (by omega) (by omega)]; omega
  have e2 := qW (b := fb) (off := 0) (len := n) (e := 4) (n := n - 1) (esz := 4) (full := full) (by omega)
  obtain ⟨H3,r1,r2⟩ := q2.st (off := 9) (vs := [.ptr fb ((n - 1) * 4)]) (qc _ _ _) (by simp [qC]) rfl
  rw [vh] at r2
  simp only [Nat.zero_add] at e2
  simp only [e1,Int.natCast_nonneg,Int.toNat_natCast,e2,qz,exists_eq_left',true_and,r1]
  refine hK _ ?_
  have : zk fb n = .ptr fb ((n - 1) * 4) := by unfold zk; rw [if_neg (by omega)]
  rw [this]; exact r2
 ·refine hK _ ?_
  have : zk fb n = .nilPtr := by unfold zk; rw [if_pos (by omega)]
  rw [this]; exact q2
def MD (Γ0 : GH) (pg : Pg) (m : Nat) (W : Wd) (H : Heap) (nx : Nat) : Prop := ∃ Γ own hp tv wv litv lv inb inf c0 c1 c2 c3 c4 c6 c8 c9,HOK Γ H nx ∧ (∀ b cs,Γ0 b = some cs → Γ b = some cs ∧ own b = 9) ∧ own m = 1 ∧ Γ m = some [c0,c1,c2,c3,c4,.ptr pg.w 0,c6,iv 1,iv c8,c9] ∧
 WdV Γ own pg.w hp tv wv litv lv inb inf W
theorem MD.less {Γ0 Γ1 : GH} {pg : Pg} {m : Nat} {W : Wd} {H : Heap} {nx : Nat} (h : MD Γ1 pg m W H nx) (hs : ∀ b cs,Γ0 b = some cs → Γ1 b = some cs) : MD Γ0 pg m W H nx := by
 obtain ⟨Γ,own,hp,tv,wv,litv,lv,inb,inf,c0,c1,c2,c3,c4,c6,c8,c9,k,ro,r⟩ := h
 exact ⟨Γ,own,hp,tv,wv,litv,lv,inb,inf,c0,c1,c2,c3,c4,c6,c8,c9,k,fun b cs e => ro b cs (hs b cs e),r⟩
theorem MD.ld_state {Γ0 : GH} {pg : Pg} {m : Nat} {W : Wd} {H : Heap} {nx : Nat} (h : MD Γ0 pg m W H nx) : ld1 H (.ptr m 7) = some (iv 1) := by
 obtain ⟨Γ,own,hp,tv,wv,litv,lv,inb,inf,c0,c1,c2,c3,c4,c6,c8,c9,k,_,_,em,_⟩ := h
 rw [k.ld1 em]; rfl
theorem FmsV.last {Γ : GH} {own : Nat → Nat} {f : Fm} : ∀ {i : Nat} {gs : List (Nat × AVal)} {fs : List Fm},FmsV Γ own i gs (fs ++ [f]) →
  ∃ gs' g,FmsV Γ own i gs' fs ∧ FmV Γ own (i + fs.length) g f ∧ qD gs (fs ++ [f]) = qD gs' fs ++ qL g f
 | i,gs,[],h => by
  cases h with
  | cons h t => cases t with
   | nil => exact ⟨[],_,.nil i,h,by simp [qD]⟩
 | i,gs,f0 :: fs,h => by
  cases h with
  | @cons _ g0 _ gs0 _ h t =>
   obtain ⟨gs',g,a,b,c⟩ := FmsV.last (i := i + 1) (gs := gs0) (fs := fs) t
   refine ⟨g0 :: gs',g,.cons h a,?_,?_⟩
   ·have e : i + (f0 :: fs).length = i + 1 + fs.length := by simp; omega
    rw [e]; exact b
   ·show qL g0 f0 ++ qD gs0 (fs ++ [f]) = qL g0 f0 ++ qD gs' fs ++ qL g f
    rw [c,List.append_assoc]
inductive Out where
 | go (S : Mst)
 | over (W : Wd)
def Mst.ret (S : Mst) (a : Int) : Out :=
 match S.low.getLast? with
 | none => .over S.wd
 | some f => .go { S with low := S.low.dropLast,top := { f with pc := IntKind.i64.wrap (f.pc + 1),st := if a = 1 then f.st ++ [pk S.top.st 0] else f.st } }
section
variable {Γ0 : GH} {pg : Pg} {m : Nat} {S : Mst} {H : Heap} {nx : Nat} {K : EndP}
theorem qhd {a : Int} (fi : S.Fine) (hst : S.state = 0) (hlow : S.low.length < 1000) (hst2 : ∀ f,f ∈ S.low → f.st.length < 1000000) (h : MS Γ0 pg m S H nx)
  (hG : ∀ S',S.ret a = .go S' → ∀ H' nx',nx ≤ nx' → MS Γ0 pg m S' H' nx' → K (.ret (.tuple [])) H' nx')
  (hO : ∀ W,S.ret a = .over W → ∀ H' nx',nx ≤ nx' → MD Γ0 pg m W H' nx' → K (.ret (.tuple [])) H' nx') : TriP Tryz.prog 52 [.ptr m 0,iv a] H nx K := by
 refine TriP.of_body qw ?_
 rw [qcb]
 unfold Fret
 refine kR (k := 0) fi.st (by omega) h fun x1 l1 => ?_
 rw [qd]
 refine ⟨_,rfl,?_⟩
 obtain ⟨Γ,own,G,hk,g⟩ := h.more l1
 have e6 : ld1 H (.ptr m 6) = some (.slice pg.fb 0 (S.low.length + 1) 4 G.full) := by rw [hk.ld1 g.em]; rfl
 have e1 : IntKind.i64.wrap (((S.low.length + 1 : Nat) : Int) - 1) = (S.low.length : Int) := by rw [qP (by omega) (by omega)]; omega
 have e2 : slcS (.slice pg.fb 0 (S.low.length + 1) 4 G.full) 4 0 (some S.low.length) = some (.slice pg.fb 0 S.low.length 4 false) := by
  have g1 : Nat.ble S.low.length (S.low.length + 1) = true := zj (by omega)
  have g2 : Nat.ble 0 S.low.length = true := zj (Nat.zero_le _)
  have g3 : Nat.beq S.low.length (S.low.length + 1) = false := by
   cases e : Nat.beq S.low.length (S.low.length + 1) with
   | false => rfl
   | true => have := Nat.eq_of_beq_eq_true e; omega
  unfold slcS
  simp only [Option.getD_some,g1,g2,Nat.beq,g3]
  rfl
 simp only [e6,w8,Int.ofNat_eq_natCast,e1,Int.natCast_nonneg,Int.toNat_natCast,e2,qz,exists_eq_left',true_and,and_true]
 refine Wb (hk.more (by omega)) g.em (by omega) fun H2 k2 => ?_
 rw [qd]
 have e9 : ld1 H2 (.ptr m 9) = some (zk pg.fb S.low.length) := by rw [k2.ld1 (qc _ _ _)]; rfl
 simp only [e9,qz,exists_eq_left',true_and]
 have kp : ∀ x,Keep Γ own (gup m x Γ) own (fun r => r = 1) := fun x b cs hb hx => ⟨by rw [qe (fun e => hx (by rw [e,g.om]))]; exact hb,rfl⟩
 unfold Mst.ret at hG hO
 cases hl : S.low.getLast? with
 | none =>
  have hnil : S.low = [] := List.getLast?_eq_none_iff.1 hl
  rw [hl] at hO
  have ei : zk pg.fb S.low.length = .nilPtr := by rw [hnil]; rfl
  obtain ⟨H3,r1,r2⟩ := k2.st (off := 7) (vs := [iv 1]) (qc _ _ _) (by simp) rfl
  rw [vh] at r2
  simp only [ei,nilK,qz,exists_eq_left',zf,r1]
  refine hO _ rfl _ _ (by omega) ?_
  exact ⟨_,own,G.hp,G.tv,G.wv,G.litv,G.lv,G.inb,G.inf,_,_,_,_,_,_,_,_,r2,fun b cs hb => by
   obtain ⟨b1,b2⟩ := g.ro b cs hb
   obtain ⟨b3,b4⟩ := kp _ b cs b1 (by rw [b2]; omega)
   exact ⟨b3,by rw [b4,b2]⟩,g.om,qc _ _ _,g.wdV.keep (kp _) (fun r _ _ _ => by omega)⟩
 | some f =>
  rw [hl] at hG
  dsimp only at hG
  obtain ⟨low',hlow'⟩ : ∃ low',S.low = low' ++ [f] := List.getLast?_eq_some_iff.1 hl
  have hdl : S.low.dropLast = low' := by rw [hlow']; simp
  have hlen' : S.low.length = low'.length + 1 := by rw [hlow']; simp
  have ei : zk pg.fb S.low.length = .ptr pg.fb (low'.length * 4) := by unfold zk; rw [if_neg (by omega),hlen']; simp
  have lv := g.lowV
  rw [hlow'] at lv
  obtain ⟨gs',g',a1,a2,a3⟩ := lv.last
  have hc : (qD gs' low').length = 4 * low'.length := a1.len
  simp only [ei,nilK,qz,exists_eq_left',zG]
  have mid : MS Γ0 pg m { S with low := low',top := f } H2 (x1 + 13) := by
   refine ⟨_,own,{ G with gl := gs',gt := g',full := false,R := qL G.gt S.top ++ G.R },k2,fun b cs hb => ?_,g.om,?_,g.of,?_,a1.keep (kp _) (fun j _ _ => by omega),?_,g.wdV.keep (kp _) (fun r _ _ _ => by omega)⟩
   ·obtain ⟨b1,b2⟩ := g.ro b cs hb
    obtain ⟨b3,b4⟩ := kp _ b cs b1 (by rw [b2]; omega)
    exact ⟨b3,by rw [b4,b2]⟩
   ·rw [qc,ei,hlen']
    simp only [Gh.a,hc]
    congr 12
    omega
   ·have := (kp (some [pg.types,pg.funcs,iv pg.main,pg.texts,pg.nums,.ptr pg.w 0,.slice pg.fb 0 S.low.length 4 false,iv S.state,iv S.trap,zk pg.fb S.low.length]) _ _ g.ef (by rw [g.of]; omega)).1
    rw [hlow',a3] at this
    rw [List.append_assoc] at this
    rw [hlow']
    exact this
   ·rw [Nat.zero_add] at a2
    exact a2.keep (kp _) (by omega) (by omega)
  have hf : f.st.length < 1000000 := hst2 f (by rw [hlow']; simp)
  rw [qS]; simp only [decide_eq_true_eq,decide_eq_false_iff_not]
  refine ⟨fun ha => ?_,fun ha => ?_⟩
  ·rw [if_pos ha] at hG
   refine vL (S := { S with low := low',top := f }) hf mid fun H3 x3 l3 h3 => ?_
   rw [qd]
   obtain ⟨fb',o',q1,q2,H4,q3,q4⟩ := h3.setPc (pc := IntKind.i64.wrap (f.pc + 1))
   simp only [iv] at q2 q3
   have q2' : ld1 H3 (.ptr fb' (o' + 1)) = some (.int .i64 f.pc) := q2
   simp only [q1,q2',qz,true_and,and_true,exists_eq_left,exists_eq_left',zh,qt,iv,AVal.int.injEq,q3]
   exact hG _ rfl _ _ (by omega) (by rw [hdl]; exact q4)
  ·rw [if_neg ha] at hG
   obtain ⟨fb',o',q1,q2,H4,q3,q4⟩ := mid.setPc (pc := IntKind.i64.wrap (f.pc + 1))
   simp only [iv] at q2 q3
   have q2' : ld1 H2 (.ptr fb' (o' + 1)) = some (.int .i64 f.pc) := q2
   have q1' := q1
   rw [e9,ei] at q1'
   have q5 := AVal.ptr.inj (Option.some.inj q1')
   rw [← q5.1,← q5.2] at q2' q3
   simp only [q2',qz,true_and,and_true,exists_eq_left,exists_eq_left',zh,qt,iv,AVal.int.injEq,q3]
   exact hG _ rfl _ _ (by omega) (by rw [hdl]; exact q4)
end
end Go.Vs
end
section
namespace Go.Vs
open Go.Proofs
variable [GTab]
theorem qbc {b n : Nat} {cs : List AVal} {H : Heap} (h : cs.length = n) : kB b n cs H = newB b cs H := by subst h; rfl
structure FnAt (Γ : GH) (v : AVal) (f : Int) (n : Nat) : Prop where
 nn : 0 ≤ f
 ex : ∃ b off len e full cs lv,v = .slice b off len e full ∧ f < len ∧ Γ b = some cs ∧ cs[off + f.toNat * 5 + 3]? = some lv ∧ lenS lv = some n
theorem Vb (n : Nat) : (repL [uv 0] n).length = n := by rw [zO]; simp
theorem Vk {Γ : GH} {own : Nat → Nat} {role : Nat} {H : Heap} {nx n : Nat} {p0 p1 p3 p4 args : AVal} {p2 f : Int} {l : List Int} {K : EndP} (hk : HOK Γ H nx) (hf : FnAt Γ p1 f n) (hn : n < 1000000) (hlf : ∀ b off len e full,p1 = .slice b off len e full → len < 1000000)
  (ha : RowV Γ own role uv args l) (hl : l.length ≤ n) (hp : qx p0 = true ∧ qx p1 = true ∧ qx p3 = true ∧ qx p4 = true)
  (hK : ∀ Γ' H' nx',nx ≤ nx' → HOK Γ' H' nx' → Γ' (nx + 2) = some (uvs (l ++ List.replicate (n - l.length) 0)) → (∀ c ds,Γ c = some ds → Γ' c = some ds) → (∀ c ds,Γ' c = some ds → nx ≤ c ∨ Γ c = some ds) → K (.ret (.agg [iv f,iv 0,.slice (nx + 2) 0 n 1 true,.nilSlice])) H' nx') :
  TriP Tryz.prog 48 [.agg [p0,p1,iv p2,p3,p4],iv f,args] H nx K := by
 refine TriP.of_body qw ?_
 rw [Xo]
 unfold qa2
 obtain ⟨b,off,len,e,full,cs,lv,rfl,hlt,hb,hcs,hlv⟩ := hf.ex
 have hln := hlf _ _ _ _ _ rfl
 have k0 := hk.new (b := nx) (nx' := nx + 1) (by omega) (by omega) [p0,.slice b off len e full,iv p2,p3,p4]
 have k1 := k0.new (b := nx + 1) (nx' := nx + 2) (by omega) (by omega) [iv 0,iv 0,.nilSlice,.nilSlice]
 have k2 := k1.new (b := nx + 2) (nx' := nx + 3) (by omega) (by omega) (repL [uv 0] n)
 have k3 := k2.new (b := nx + 3) (nx' := nx + 4) (by omega) (by omega) [iv 0,iv 0,.nilSlice,.nilSlice]
 have hnb : ∀ c ds,Γ c = some ds → c < nx := fun c ds ec => hk.lt ec
 have e1 : ld1 (newB (nx + 1) [iv 0,iv 0,.nilSlice,.nilSlice] (newB nx [p0,.slice b off len e full,iv p2,p3,p4] H)) (.ptr nx 1) = some (.slice b off len e full) := by
  rw [k1.ld1 (by rw [qe (by omega),qc])]; rfl
 have e2 := qW (b := b) (off := off) (len := len) (e := e) (n := f.toNat) (esz := 5) (full := full) (by have := hf.nn; omega)
 have e3 : ld1 (newB (nx + 1) [iv 0,iv 0,.nilSlice,.nilSlice] (newB nx [p0,.slice b off len e full,iv p2,p3,p4] H)) (.ptr b (off + f.toNat * 5 + 3)) = some lv := by
  have := hnb _ _ hb
  rw [k1.ld1 (by rw [qe (by omega),qe (by omega)]; exact hb)]; exact hcs
 have hnn := hf.nn
 simp only [vb,qz,true_and,and_true,exists_eq_left,exists_eq_left',exists_and_left]
 refine qA (by omega) ?_
 simp only [e1,w8,qz,exists_eq_left',Int.ofNat_eq_natCast]
 refine qA (by omega) ?_
 simp only [e2,qt,e3,hlv,hnn,qz,exists_eq_left',true_and,Int.toNat_natCast,Int.natCast_nonneg,Nat.mul_one,vb]
 refine ⟨by omega,by omega,by omega,?_⟩
 rw [qbc (Vb n)]
 obtain ⟨H4,q1,q2⟩ := k3.st (off := 0) (vs := [iv f,iv 0,.slice (nx + 2) 0 n 1 true,.nilSlice]) (qc _ _ _) (by simp) rfl
 have e4 : ld1 H4 (.ptr (nx + 3) 2) = some (.slice (nx + 2) 0 n 1 true) := by rw [q2.ld1 (qc _ _ _)]; rfl
 have hz : (uvs (List.replicate n 0)).length = n := by simp [uvs]
 have e5 : gup (nx + 3) (some (qC [iv 0,iv 0,.nilSlice,.nilSlice] 0 [iv f,iv 0,.slice (nx + 2) 0 n 1 true,.nilSlice])) (gup (nx + 3) (some [iv 0,iv 0,.nilSlice,.nilSlice]) (gup (nx + 2) (some (repL [uv 0] n)) (gup (nx + 1) (some [iv 0,iv 0,.nilSlice,.nilSlice]) (gup nx (some [p0,.slice b off len e full,iv p2,p3,p4]) Γ)))) (nx + 2) = some (repL [uv 0] n) := by
  rw [qe (by omega),qe (by omega),qc]
 have hcp : ∃ k H5,copC H4 1 (.slice (nx + 2) 0 n 1 true) args = some (k,H5) ∧ ∃ Γ5,HOK Γ5 H5 (nx + 4) ∧ Γ5 (nx + 2) = some (uvs (l ++ List.replicate (n - l.length) 0)) ∧ Γ5 (nx + 3) = some [iv f,iv 0,.slice (nx + 2) 0 n 1 true,.nilSlice] ∧ Γ5 (nx + 1) = some [iv 0,iv 0,.nilSlice,.nilSlice] ∧ (∀ c ds,Γ c = some ds → Γ5 c = some ds) ∧ ∀ c ds,Γ5 c = some ds → nx ≤ c ∨ Γ c = some ds := by
  rcases ha with ⟨rfl,rfl⟩ | ⟨ab,acs,⟨af,rfl⟩,_,ab2,ab3⟩
  ·refine ⟨0,H4,rfl,_,q2,?_,?_,?_,fun c ds ec => ?_,fun c ds ec => ?_⟩
   ·rw [e5]; simp [uvs,Ks]
   ·rw [qc]; rfl
   ·rw [qe (by omega),qe (by omega),qe (by omega),qc]
   ·have := hnb _ _ ec
    rw [qe (by omega),qe (by omega),qe (by omega),qe (by omega),qe (by omega)]; exact ec
   ·rcases Nat.lt_or_ge c nx with hlt | hge
    ·rw [qe (by omega),qe (by omega),qe (by omega),qe (by omega),qe (by omega)] at ec; exact .inr ec
    ·exact .inl hge
  ·have hal := jX ab3 (by simp)
   have h3 := hnb _ _ ab2
   obtain ⟨H5,r1,r2⟩ := q2.copy (b := nx + 2) (b2 := ab) (off := 0) (off2 := 0) (len := n) (len2 := l.length) (esz := 1) (e1 := 1) (e2 := 1) (f1 := true) (f2 := af) e5 (by rw [qe (by omega),qe (by omega),qe (by omega),qe (by omega),qe (by omega)]; exact ab2) hl (by rw [Vb]; omega) (by omega)
    (by rw [List.drop_zero,Nat.mul_one,ab3]; exact kV (f := uv) (fun _ => rfl) _)
   refine ⟨_,H5,r1,_,r2,?_,?_,?_,fun c ds ec => ?_,fun c ds ec => ?_⟩
   ·rw [qc,List.drop_zero,Nat.mul_one,ab3,Ks]
    simp [qC,uvs]
   ·rw [qe (by omega),qc]; rfl
   ·rw [qe (by omega),qe (by omega),qe (by omega),qe (by omega),qc]
   ·have := hnb _ _ ec
    rw [qe (by omega),qe (by omega),qe (by omega),qe (by omega),qe (by omega),qe (by omega)]; exact ec
   ·rcases Nat.lt_or_ge c nx with hlt | hge
    ·rw [qe (by omega),qe (by omega),qe (by omega),qe (by omega),qe (by omega),qe (by omega)] at ec; exact .inr ec
    ·exact .inl hge
 obtain ⟨k,H5,c1,Γ5,c2,c3,c4,c5,c6,c7⟩ := hcp
 have e6 : ldN H5 4 (.ptr (nx + 3) 0) = some (.agg [iv f,iv 0,.slice (nx + 2) 0 n 1 true,.nilSlice]) := by rw [c2.ldN c4 (by simp)]; rfl
 obtain ⟨H6,s1,s2⟩ := c2.st (off := 0) (vs := [iv f,iv 0,.slice (nx + 2) 0 n 1 true,.nilSlice]) c5 (by simp) rfl
 have e7 : ldN H6 4 (.ptr (nx + 1) 0) = some (.agg [iv f,iv 0,.slice (nx + 2) 0 n 1 true,.nilSlice]) := by rw [s2.ldN (qc _ _ _) (by simp [qC])]; rfl
 refine ⟨_,q1,_,e4,_,_,c1,_,_,_,_,e6,_,s1,_,_,_,_,e7,?_⟩
 refine hK _ _ _ (by omega) s2 (by rw [qe (by omega)]; exact c3) (fun c ds ec => ?_) fun c ds ec => ?_
 ·have := hnb _ _ ec
  rw [qe (by omega)]; exact c6 c ds ec
 ·rcases Nat.lt_or_ge c nx with hlt | hge
  ·rw [qe (by omega)] at ec; exact c7 c ds ec
  ·exact .inl hge
end Go.Vs
end
section
namespace Go.Vs
open Go.Proofs
variable [GTab]
theorem FmsV.snoc {Γ : GH} {own : Nat → Nat} {g : Nat × AVal} {f : Fm} : ∀ {i : Nat} {gs : List (Nat × AVal)} {fs : List Fm},FmsV Γ own i gs fs → FmV Γ own (i + fs.length) g f →
  FmsV Γ own i (gs ++ [g]) (fs ++ [f]) ∧ qD (gs ++ [g]) (fs ++ [f]) = qD gs fs ++ qL g f
 | _,_,_,.nil i,h => ⟨.cons h (.nil _),by simp [qD]⟩
 | i,_,_,@FmsV.cons _ _ _ g0 f0 gs fs h t,hf => by
  have hf' : FmV Γ own (i + 1 + fs.length) g f := by
   have e : i + (f0 :: fs).length = i + 1 + fs.length := by simp; omega
   rw [← e]; exact hf
  obtain ⟨a,b⟩ := FmsV.snoc (i := i + 1) t hf'
  refine ⟨.cons h a,?_⟩
  show qL g0 f0 ++ qD (gs ++ [g]) (fs ++ [f]) = qL g0 f0 ++ qD gs fs ++ qL g f
  rw [b,List.append_assoc]
theorem MsG.appFrame {Γ : GH} {own : Nat → Nat} {Γ0 : GH} {pg : Pg} {m : Nat} {G : Gh} {S : Mst} {H : Heap} {nx : Nat} {cs : List AVal} (hk : HOK Γ H nx) (g : MsG Γ own Γ0 pg m G S) (hc : cs.length = 4) (hl : S.low.length < 1000) :
  ∃ H' Γ' ,appC H nx 4 64 (.slice pg.fb 0 (S.low.length + 1) 4 G.full) 1 cs = some (.slice nx 0 (S.low.length + 2) 4 false,H',nx + 1) ∧ HOK Γ' H' (nx + 1) ∧
   Γ' nx = some (qD G.gl S.low ++ qL G.gt S.top ++ cs) ∧ ∀ c ds,c ≠ pg.fb → Γ c = some ds → Γ' c = some ds := by
 have hlen := g.lowV.len
 have ht : (qD G.gl S.low ++ (qL G.gt S.top ++ G.R)).take ((S.low.length + 1) * 4) = qD G.gl S.low ++ qL G.gt S.top := by
  rw [← List.append_assoc]
  exact List.take_left' (by rw [List.length_append,hlen]; simp [qL]; omega)
 cases hf : G.full with
 | true =>
  obtain ⟨H',q1,q2⟩ := hk.appFull (off := 0) (len := S.low.length + 1) (esz := 4) (ebytes := 64) (k := 1) (new := cs) g.ef (by rw [List.length_append,List.length_append,hlen]; simp [qL]; omega) (by omega) (by omega) (by omega) (by omega)
  refine ⟨H',_,q1,q2,by rw [qc,List.drop_zero,ht],fun c ds hne e => ?_⟩
  have := hk.lt e
  rw [qe (by omega)]; exact e
 | false =>
  obtain ⟨H',q1,q2⟩ := hk.app (len := S.low.length + 1) (esz := 4) (ebytes := 64) (k := 1) (new := cs) g.ef (by rw [List.length_append,List.length_append,hlen]; simp [qL]; omega) (by omega) (by omega) (by omega) (by omega)
  refine ⟨H',_,q1,q2,by rw [qc,ht],fun c ds hne e => ?_⟩
  have := hk.lt e
  rw [qe (by omega),qe hne]; exact e
def qf7 (call : qh) (lp : Nat → qj) (N : KC) (X : Nat → KC) (R : KC) (Pn : List (AVal × Bool) → KC) (m : Nat) (x : Nat) (n8 : Int) (k : Int) (v : AVal) (H : Heap) (nx : Nat) : Prop :=
 ifB (decide (0 ≤ k)) (call 92 [AVal.ptr m 0,iv k] H nx fun e0 H1 i2 => qi e0 (fun v3 => ∃ n4 : Int,v3 = uv n4 ∧ true = true ∧ ∃ H5,H5 = newB i2 [AVal.int
 IntKind.u64 n4] H1 ∧ ∃ i6 l7,aSrc 1 H5 (AVal.slice i2 0 1 1 true) = some (i6,l7) ∧ qo l7 = true ∧ ∃ v8 H9 i10,appC H5 (i2 + 1) 1 8 v i6 l7 = some (v8,H9,i10) ∧ N (envL
 AVal.und [(6,iv (IntKind.i64.wrap (k - 1))),(30,iv (IntKind.i64.wrap (k - 1))),(29,iv k),(5,v8),(36,v8),(35,AVal.slice i2 0 1 1 true),(34,uv n4),(33,
 iv k),(32,AVal.ptr m 0),(31,v),(28,AVal.bool true),(28,AVal.bool (decide (0 ≤ k))),(27,iv k),(6,iv k),(5,v),(4,iv n8),(3,AVal.ptr x 0),(0,AVal.ptr m 0)]) H9 i10
 [] none) fun l11 => Pn l11 (envL AVal.und [(33,iv k),(32,AVal.ptr m 0),(31,v),(28,AVal.bool true),(28,AVal.bool (decide (0 ≤ k))),(27,iv k),(6,iv k),(5,v),(4,iv
 n8),(3,AVal.ptr x 0),(0,AVal.ptr m 0)]) H1 i2 [] none) (X 1 (envL AVal.und [(28,AVal.bool false),(28,AVal.bool (decide (0 ≤ k))),(27,iv k),(6,iv k),(5,v),(4,iv n8),
 (3,AVal.ptr x 0),(0,AVal.ptr m 0)]) H nx [] none)
theorem qbn (call : qh) (lp : Nat → qj) (N : KC) (X : Nat → KC) (R : KC) (Pn : List (AVal × Bool) → KC) (m : Nat) (x : Nat) (n8 : Int) (k : Int) (v : AVal) (H : Heap) (nx : Nat) : vK Tryz.prog call (lp 56) 56 (qY (qs Tryz.prog 51) [1,1,1,1,0,1,0,0]) (envL .und [(6,iv k),(5,v),(4,iv n8),(3,.ptr x 0),(0,.ptr m 0)]) H nx [] none (jT N X R Pn) = qf7 call lp N X R Pn m x n8 k v H nx := by kernel_rfl
def qdv (call : qh) (lp : Nat → qj) (lv : ql) (lvc : qk) (m : Nat) (x : Nat) (n8 : Int) (v : AVal) (H : Heap) (nx : Nat) (K : EndP) : Prop :=
 ∃ v0,some (AVal.ptr x 2) = some v0 ∧ ∃ n1 : Int,ld1 H v0 = some (iv n1) ∧ call 93 [AVal.ptr m 0,iv n1] H nx fun e2 H3 i4 => qi e2 (fun v5 => true = true ∧ ∃ v6,some (AVal.ptr
 m 6) = some v6 ∧ ∃ v7,ld1 H3 v6 = some v7 ∧ true = true ∧ ∃ v8,some (AVal.ptr m 0) = some v8 ∧ ∃ v9 v10 n11 v12 v13,ldN H3 5 v8 = some (AVal.agg [v9,v10,iv n11,v12,v13]) ∧
 ((∃ v14,ld1 H3 v6 = some v14 ∧ v14 = v7) ∧ (∃ v15 v16 n17 v18 v19,ldN H3 5 v8 = some (AVal.agg [v15,v16,iv n17,v18,v19]) ∧ AVal.agg [v15,v16,iv n17,v18,v19] = AVal.agg
 [v9,v10,iv n11,v12,v13]) ∧ True) ∧ call 48 [AVal.agg [v9,v10,iv n11,v12,v13],iv n8,v] H3 (i4 + 15) fun e20 H21 i22 => qi e20 (fun v23 => ∃ n24 n25 v26 v27,v23 =
 AVal.agg [iv n24,iv n25,v26,v27] ∧ ∃ H28,H28 = newB (i4 + 12) [iv n24,iv n25,v26,v27] H21 ∧ ((∃ v29,ld1 H28 v6 = some v29 ∧ v29 = v7) ∧ True) ∧ ∃ i30 l31,aSrc 4 H28
 (AVal.slice (i4 + 12) 0 1 4 true) = some (i30,l31) ∧ qo l31 = true ∧ ∃ v32 H33 i34,appC H28 i22 4 64 v7 i30 l31 = some (v32,H33,i34) ∧ True ∧ call 30 [AVal.ptr m 0,v32]
 H33 i34 fun e35 H36 i37 => qi e35 (fun v38 => True ∧ K (AEnd.ret (AVal.tuple [])) H36 i37) fun l39 => K (AEnd.pan l39) H36 i37) fun l40 => K (AEnd.pan l40) H21 i22) fun l41 => K
 (AEnd.pan l41) H3 i4
theorem qa5 (call : qh) (lp : Nat → qj) (lv : ql) (lvc : qk) (m : Nat) (x : Nat) (n8 : Int) (v : AVal) (H : Heap) (nx : Nat) (K : EndP) : zW Tryz.prog call (lp 56) 56 (qs Tryz.prog 51) [1,1,1,1,0,1,0] (endK Tryz.prog lv lvc K (kj Tryz.prog 51)) (.exit 1) (envL .und [(5,v),(4,iv n8),(3,.ptr x 0),(0,.ptr m 0)]) H nx [] none = qdv call lp lv lvc m x n8 v H nx K := by kernel_rfl
def MSR (Γ0 : GH) (pg : Pg) (m : Nat) (S : Mst) (v : AVal) (l : List Int) (H : Heap) (nx : Nat) : Prop := ∃ Γ own G,HOK Γ H nx ∧ MsG Γ own Γ0 pg m G S ∧ RowV Γ own 1000000 uv v l
def jJ (st : List Int) (B j : Nat) : List Int := (List.range j).map fun i => pk st (B - 1 - i)
theorem MsG.keepRow {Γ Γ1 : GH} {own own1 : Nat → Nat} {Γ0 : GH} {pg : Pg} {m : Nat} {G : Gh} {S : Mst} (hl : S.low.length < 1000) (g : MsG Γ own Γ0 pg m G S) (kp : Keep Γ own Γ1 own1 (fun r => r = 1000000)) : MsG Γ1 own1 Γ0 pg m G S where
 ro := fun b cs hb => by
  obtain ⟨a1,a2⟩ := g.ro b cs hb
  obtain ⟨a3,a4⟩ := kp b cs a1 (by rw [a2]; omega)
  exact ⟨a3,by rw [a4,a2]⟩
 om := ((kp _ _ g.em (by rw [g.om]; omega)).2).trans g.om
 em := (kp _ _ g.em (by rw [g.om]; omega)).1
 of := ((kp _ _ g.ef (by rw [g.of]; omega)).2).trans g.of
 ef := (kp _ _ g.ef (by rw [g.of]; omega)).1
 lowV := g.lowV.keep kp fun j _ h => ⟨by omega,by omega⟩
 topV := g.topV.keep kp (by omega) (by omega)
 wdV := g.wdV.keep kp fun r _ _ _ => by omega
theorem qd5 {Γ0 : GH} {pg : Pg} {m x B : Nat} {n8 : Int} {S : Mst} {H : Heap} {nx : Nat} {env : Env} {C : KP} (hB : B < 1000000) (hlen : S.top.st.length < 1000000) (hl : S.low.length < 1000) (h : MSR Γ0 pg m S .nilSlice [] H nx)
  (hle : qI (envL .und [(6,iv ((B : Int) - 1)),(5,.nilSlice),(4,iv n8),(3,.ptr x 0),(0,.ptr m 0)]) env)
  (hC : ∀ v H' nx',nx ≤ nx' → MSR Γ0 pg m S v (jJ S.top.st B B) H' nx' → C (.exit 1) (envL .und [(5,v),(4,iv n8),(3,.ptr x 0),(0,.ptr m 0)]) H' nx' [] none) :
  LpP Tryz.prog 56 (qY (qs Tryz.prog 51) [1,1,1,1,0,1,0,0]) env H nx [] none C := by
 refine KG qw (X := Nat × AVal) (Y := AVal) (fun p => envL .und [(6,iv ((B : Int) - 1 - p.1)),(5,p.2),(4,iv n8),(3,.ptr x 0),(0,.ptr m 0)]) (fun v => envL .und [(5,v),(4,iv n8),(3,.ptr x 0),(0,.ptr m 0)])
  (fun μ p H' nx' => μ = B - p.1 ∧ p.1 ≤ B ∧ nx ≤ nx' ∧ MSR Γ0 pg m S p.2 (jJ S.top.st B p.1) H' nx')
  (fun id v H' nx' => id = 1 ∧ nx ≤ nx' ∧ MSR Γ0 pg m S v (jJ S.top.st B B) H' nx') B (0,.nilSlice) ?_ ⟨rfl,Nat.zero_le _,Nat.le_refl _,h⟩ ?_ ?_
 ·have e : ((B : Int) - 1 - ((0 : Nat) : Int)) = (B : Int) - 1 := by omega
  show qI (envL .und [(6,iv ((B : Int) - 1 - ((0 : Nat) : Int))),(5,.nilSlice),(4,iv n8),(3,.ptr x 0),(0,.ptr m 0)]) env
  rw [e]; exact hle
 ·rintro μ ⟨j,v⟩ H1 nx1 ⟨rfl,hj,hnx,hi⟩
  dsimp only at hj hi ⊢
  rw [qbn]
  unfold qf7
  rw [qS]; simp only [decide_eq_true_eq,decide_eq_false_iff_not]
  refine ⟨fun h0 => ?_,fun h0 => ?_⟩
  ·have ek : ((B : Int) - 1 - (j : Int)) = ((B - 1 - j : Nat) : Int) := by omega
   obtain ⟨Γ,own,G,hk,g,hr⟩ := hi
   rw [ek]
   refine kR (k := B - 1 - j) hlen (by omega) ⟨Γ,own,G,hk,g⟩ fun x2 l2 => ?_
   rw [qd]
   refine ⟨_,rfl,?_⟩
   have hk2 := hk.more l2
   have hk3 := hk2.new (b := x2) (nx' := x2 + 1) (by omega) (by omega) [uv (pk S.top.st (B - 1 - j))]
   have kp3 : ∀ ex,Keep Γ own (gup x2 (some [uv (pk S.top.st (B - 1 - j))]) Γ) own ex := fun ex => Keep.new hk2 (by omega) _
   have e5 : aSrc 1 (newB x2 [uv (pk S.top.st (B - 1 - j))] H1) (.slice x2 0 1 1 true) = some (1,[uv (pk S.top.st (B - 1 - j))]) := hk3.src (qc _ _ _) (by simp)
   obtain ⟨H4,v4,Γ4,own4,nx4,p1,p2,p3,p4,p5,p6⟩ := RowV.pushes (eb := 8) hk3 (hr.keep (kp3 (fun _ => False)) id) [pk S.top.st (B - 1 - j)] (by simp [jJ]; omega) (by omega)
   have p1' : appC (newB x2 [uv (pk S.top.st (B - 1 - j))] H1) (x2 + 1) 1 8 v 1 [uv (pk S.top.st (B - 1 - j))] = some (v4,H4,nx4) := p1
   have ew : IntKind.i64.wrap (((B - 1 - j : Nat) : Int) - 1) = (B : Int) - 1 - ((j + 1 : Nat) : Int) := by rw [qP (by omega) (by omega)]; omega
   refine ⟨by first | rfl | trivial,_,rfl,_,_,e5,by first | rfl | trivial,_,_,_,p1',by first | rfl | trivial,B - (j + 1),(j + 1,v4),by omega,qI.of_list ⟨?_,rfl,rfl,rfl,rfl,trivial⟩,rfl,by show j + 1 ≤ B; omega,by omega,?_⟩
   ·show AVal.int .i64 _ = _
    rw [ew]
   ·refine ⟨Γ4,own4,G,p4,g.keepRow hl ((kp3 _).trans p6),?_⟩
    have : jJ S.top.st B (j + 1) = jJ S.top.st B j ++ [pk S.top.st (B - 1 - j)] := by simp [jJ,List.range_succ]
    show RowV Γ4 own4 1000000 uv v4 (jJ S.top.st B (j + 1))
    rw [this]; exact p5
  ·have : j = B := by omega
   subst this
   exact ⟨by first | rfl | trivial,v,qI.of_list ⟨rfl,rfl,rfl,rfl,trivial⟩,by first | rfl | trivial,hnx,hi⟩
 ·rintro id v H1 nx1 ⟨rfl,hnx,ho⟩
  exact hC _ _ _ hnx ho
theorem X5 {Γ0 : GH} {pg : Pg} {m : Nat} {S : Mst} {a b : Int} {H : Heap} {nx : Nat} {K : EndP} (h : MS Γ0 pg m S H nx) (hK : ∀ H' nx',nx ≤ nx' → MS Γ0 pg m S H' nx' → K (.ret (iv a)) H' nx') :
  TriP Tryz.prog 91 [.ptr m 0,.agg [iv 36,iv a,iv b]] H nx K := by
 refine TriP.of_body qw ?_
 rw [V3]
 unfold WZ
 have h1 := h.temp (b := nx) (nx' := nx + 1) (cs := [iv 36,iv a,iv b]) (Nat.le_refl _) (by omega)
 have e0 : ld1 (newB nx [iv 36,iv a,iv b] H) (.ptr nx 0) = some (iv 36) := by rw [h1.ro (qc _ _ _)]; rfl
 have e1 : ld1 (newB nx [iv 36,iv a,iv b] H) (.ptr nx 1) = some (iv a) := by rw [h1.ro (qc _ _ _)]; rfl
 have un := h1.untemp h (Nat.le_refl _)
 refine ⟨_,rfl,_,rfl,_,e0,jA rfl ⟨_,rfl,_,e1,?_⟩⟩
 exact hK _ _ (by omega) un
theorem MSR.fix {Γ0 : GH} {pg : Pg} {m : Nat} {S : Mst} {v : AVal} {l : List Int} {H : Heap} {nx : Nat} (hl : S.low.length < 1000) (h : MSR Γ0 pg m S v l H nx) :
  ∃ Γ2,(∀ c ds,Γ0 c = some ds → Γ2 c = some ds) ∧ MS Γ2 pg m S H nx ∧ ((v = .nilSlice ∧ l = []) ∨ ∃ b cs full,v = .slice b 0 l.length 1 full ∧ Γ2 b = some cs ∧ cs.take l.length = l.map uv) := by
 obtain ⟨Γ,own,G,hk,g,hr⟩ := h
 rcases hr with ⟨rfl,rfl⟩ | ⟨b,cs,⟨full,rfl⟩,h1,h2,h3⟩
 ·exact ⟨Γ0,fun _ _ e => e,⟨Γ,own,G,hk,g⟩,.inl ⟨rfl,rfl⟩⟩
 ·have hne : ∀ c ds,Γ0 c = some ds → c ≠ b := fun c ds e hb => by
   have := (g.ro c ds e).2
   rw [hb,h1] at this; cases this
  have kp : Keep Γ own Γ (fun c => if c = b then 9 else own c) (fun r => r = 1000000) := fun c ds e hx => by
   have : c ≠ b := fun hb => hx (by rw [hb,h1])
   exact ⟨e,by simp [this]⟩
  have g2 := g.keepRow hl kp
  refine ⟨gup b (some cs) Γ0,fun c ds e => by rw [qe (hne c ds e)]; exact e,⟨Γ,_,G,hk,⟨fun c ds e => ?_,g2.om,g2.em,g2.of,g2.ef,g2.lowV,g2.topV,g2.wdV⟩⟩,.inr ⟨b,cs,full,rfl,qc _ _ _,h3⟩⟩
  by_cases hc : c = b
  ·subst hc
   rw [qc] at e; cases e
   exact ⟨h2,by simp⟩
  ·rw [qe hc] at e
   exact g2.ro c ds e
theorem HOK.aside {Γ : GH} {H : Heap} {nx b : Nat} {cs : List AVal} (h : HOK Γ H nx) (hb : Γ b = none) : HOK Γ (newB b cs H) nx := by
 intro c ds e
 obtain ⟨h1,olds,⟨ct,h2,h3⟩,h4⟩ := h c ds e
 exact ⟨h1,olds,⟨ct,by rw [jd (fun x => by rw [x,hb] at e; cases e)]; exact h2,h3⟩,h4⟩
structure PgOK (pg : Pg) : Prop where
 cells : qx pg.types = true ∧ qx pg.funcs = true ∧ qx pg.texts = true ∧ qx pg.nums = true
 small : ∀ b off len e full,pg.funcs = .slice b off len e full → len < 1000000
def Mst.callTo (S : Mst) (n : Nat) (a : Int) (B : Nat) : Mst := { S with low := S.low ++ [{ S.top with st := jf B S.top.st }],top := ⟨a,0,jJ S.top.st B B ++ List.replicate (n - B) 0,[]⟩ }
theorem yY (st : List Int) (B j : Nat) : (jJ st B j).length = j := by simp [jJ]
theorem FnAt.mono {Γ Γ' : GH} {v : AVal} {f : Int} {n : Nat} (h : FnAt Γ v f n) (hs : ∀ c ds,Γ c = some ds → Γ' c = some ds) : FnAt Γ' v f n := by
 obtain ⟨b,o,l,e,fl,cs,lv,a1,a2,a3,a4,a5⟩ := h.ex
 exact ⟨h.nn,b,o,l,e,fl,cs,lv,a1,a2,hs _ _ a3,a4,a5⟩
def Pg.at (pg : Pg) (fb : Nat) : Pg := { pg with fb := fb }
theorem MsG.call {Γ Γ8 Γ9 : GH} {own : Nat → Nat} {Γ0 : GH} {pg : Pg} {m lb fb : Nat} {G : Gh} {S : Mst} {n : Nat} {a : Int} {ls : List Int} (hl : S.low.length < 900) (g : MsG Γ own Γ0 pg m G S) (h8 : ∀ c ds,Γ c = some ds → Γ8 c = some ds) (hlb : Γ lb = none) (hfb : Γ8 fb = none) (elb : Γ8 lb = some (uvs ls))
  (h9 : ∀ c ds,c ≠ pg.fb → Γ8 c = some ds → Γ9 c = some ds) (hlf : lb ≠ pg.fb)
  (efb : Γ9 fb = some (qD G.gl S.low ++ qL G.gt S.top ++ [iv a,iv 0,.slice lb 0 ls.length 1 true,.nilSlice])) :
  ∃ own' G',MsG (gup m (some [pg.types,pg.funcs,iv pg.main,pg.texts,pg.nums,.ptr pg.w 0,.slice fb 0 (S.low.length + 2) 4 false,iv S.state,iv S.trap,zk fb (S.low.length + 2)]) Γ9) own' Γ0 (pg.at fb) m G'
   { S with low := S.low ++ [S.top],top := ⟨a,0,ls,[]⟩ } := by
 have hm8 : ∀ c ds,Γ c = some ds → c ≠ fb := fun c ds e hx => by rw [hx] at e; rw [h8 _ _ e] at hfb; cases hfb
 have hml : ∀ c ds,Γ c = some ds → c ≠ lb := fun c ds e hx => by rw [hx] at e; rw [e] at hlb; cases hlb
 have hfl : fb ≠ lb := fun hx => by rw [hx,elb] at hfb; cases hfb
 have hmfb : m ≠ fb := hm8 _ _ g.em
 have hmlb : m ≠ lb := hml _ _ g.em
 have hfbm : pg.fb ≠ m := fun hx => by have := g.of; rw [hx,g.om] at this; cases this
 let own' : Nat → Nat := fun c => if c = fb then 4 else if c = lb then 10 + 2 * (S.low.length + 1) else if c = pg.fb then 1000001 else own c
 have kp : Keep Γ own (gup m (some [pg.types,pg.funcs,iv pg.main,pg.texts,pg.nums,.ptr pg.w 0,.slice fb 0 (S.low.length + 2) 4 false,iv S.state,iv S.trap,zk fb (S.low.length + 2)]) Γ9) own' (fun r => r = 1 ∨ r = 4) := by
  intro c ds e hx
  have c1 : c ≠ m := fun h => hx (.inl (by rw [h,g.om]))
  have c2 : c ≠ pg.fb := fun h => hx (.inr (by rw [h,g.of]))
  have c3 := hm8 _ _ e
  have c4 := hml _ _ e
  refine ⟨by rw [qe c1]; exact h9 _ _ c2 (h8 _ _ e),?_⟩
  show (if c = fb then 4 else if c = lb then _ else if c = pg.fb then _ else own c) = own c
  rw [if_neg c3,if_neg c4,if_neg c2]
 have hlen := g.lowV.len
 have htop : FmV (gup m (some [pg.types,pg.funcs,iv pg.main,pg.texts,pg.nums,.ptr pg.w 0,.slice fb 0 (S.low.length + 2) 4 false,iv S.state,iv S.trap,zk fb (S.low.length + 2)]) Γ9) own' (0 + S.low.length) G.gt S.top := by
  rw [Nat.zero_add]
  exact g.topV.keep kp (by omega) (by omega)
 obtain ⟨s1,s2⟩ := (g.lowV.keep kp fun j _ _ => ⟨by omega,by omega⟩).snoc htop
 refine ⟨own',⟨G.hp,false,G.tv,G.wv,G.litv,G.lv,G.inb,G.inf,G.gl ++ [G.gt],(lb,.nilSlice),[]⟩,?_⟩
 have ha : ({ G with full := false,gl := G.gl ++ [G.gt],gt := (lb,.nilSlice),R := [] } : Gh).a { S with low := S.low ++ [S.top],top := ⟨a,0,ls,[]⟩ } = 4 * (S.low.length + 1) := by
  unfold Gh.a
  show (qD (G.gl ++ [G.gt]) (S.low ++ [S.top])).length = _
  rw [s2,List.length_append,hlen]
  simp [qL]; omega
 refine ⟨fun c ds e => ?_,?_,?_,?_,?_,s1,?_,g.wdV.keep kp fun r _ _ h4 => by omega⟩
 ·obtain ⟨a1,a2⟩ := g.ro c ds e
  obtain ⟨a3,a4⟩ := kp c ds a1 (by rw [a2]; omega)
  exact ⟨a3,a4.trans a2⟩
 ·show (if m = fb then 4 else if m = lb then _ else if m = pg.fb then _ else own m) = 1
  rw [if_neg hmfb,if_neg hmlb,if_neg (fun h => hfbm h.symm)]; exact g.om
 ·rw [qc]
  have e1 : ((S.low ++ [S.top]).length + 1 : Nat) = S.low.length + 2 := by simp
  show some [pg.types,pg.funcs,iv pg.main,pg.texts,pg.nums,.ptr pg.w 0,.slice fb 0 (S.low.length + 2) 4 false,iv S.state,iv S.trap,zk fb (S.low.length + 2)] =
   some [pg.types,pg.funcs,iv pg.main,pg.texts,pg.nums,.ptr pg.w 0,.slice fb 0 ((S.low ++ [S.top]).length + 1) 4 false,iv S.state,iv S.trap,.ptr fb _]
  rw [e1,ha]
  unfold zk
  rw [if_neg (by omega)]
  have e2 : (S.low.length + 2 - 1) * 4 = 4 * (S.low.length + 1) := by omega
  rw [e2]
 ·show (if fb = fb then 4 else _) = 4
  rw [if_pos rfl]
 ·show gup m _ Γ9 fb = some (qD (G.gl ++ [G.gt]) (S.low ++ [S.top]) ++ (qL (lb,.nilSlice) ⟨a,0,ls,[]⟩ ++ []))
  rw [qe (fun h => hmfb h.symm),efb,s2,List.append_nil]
  rfl
 ·show FmV _ _ (S.low ++ [S.top]).length (lb,.nilSlice) ⟨a,0,ls,[]⟩
  refine ⟨?_,?_,.inl ⟨rfl,rfl⟩⟩
  ·show (if lb = fb then 4 else if lb = lb then 10 + 2 * (S.low.length + 1) else _) = _
   rw [if_neg (fun h => hfl h.symm),if_pos rfl]
   simp
  ·show gup m _ Γ9 lb = _
   rw [qe (fun h => hmlb h.symm)]
   exact h9 _ _ hlf elb
theorem qdp {Γ0 : GH} {pg : Pg} {m : Nat} {S : Mst} {a b : Int} {n : Nat} {H : Heap} {nx : Nat} {K : EndP} (hlen : S.top.st.length < 1000000) (hl : S.low.length + 1 < 30) (hp : PgOK pg) (hf : FnAt Γ0 pg.funcs a n) (hn : n < 1000000) (hb0 : 0 ≤ b) (hbn : b.toNat ≤ n) (h : MS Γ0 pg m S H nx)
  (hK : ∀ fb H' nx',nx ≤ nx' → MS Γ0 (pg.at fb) m (S.callTo n a b.toNat) H' nx' → K (.ret (.tuple [])) H' nx') : TriP Tryz.prog 51 [.ptr m 0,.agg [iv 36,iv a,iv b]] H nx K := by
 refine TriP.of_body qw ?_
 rw [qbr]
 unfold qe3
 obtain ⟨B,rfl⟩ : ∃ B : Nat,b = (B : Int) := ⟨b.toNat,by omega⟩
 rw [Int.toNat_natCast] at hbn hK
 have h1 := h.temp (b := nx) (nx' := nx + 1) (cs := [iv 36,iv a,iv B]) (Nat.le_refl _) (by omega)
 have eN : ldN (newB nx [iv 36,iv a,iv B] H) 3 (.ptr nx 0) = some (.agg [iv 36,iv a,iv B]) := by rw [h1.roN (qc _ _ _) (by simp)]; rfl
 refine ⟨_,rfl,_,_,_,eN,?_⟩
 refine X5 h1 fun H5 i6 l6 h5 => ?_
 rw [qd]
 refine ⟨_,rfl,qA (by have := hf.nn; omega) ?_⟩
 have e2 : ld1 H5 (.ptr nx 2) = some (iv B) := by rw [h5.ro (qc _ _ _)]; rfl
 obtain ⟨Γ5,own5,G5,k5,g5⟩ := h5
 have e6 : ld1 H5 (.ptr m 6) = some (.slice pg.fb 0 (S.low.length + 1) 4 G5.full) := by rw [k5.ld1 g5.em]; rfl
 have hB : B < 1000000 := by omega
 have ew : IntKind.i64.wrap ((B : Int) - 1) = (B : Int) - 1 := qP (by omega) (by omega)
 refine ⟨rfl,_,rfl,_,e6,_,rfl,qA (by simp only [Int.ofNat_eq_natCast]; omega) ⟨_,rfl,_,e2,?_⟩⟩
 refine qd5 (B := B) (n8 := a) (x := nx) hB hlen (by omega) ⟨Γ5,own5,G5,k5,g5,.inl ⟨rfl,rfl⟩⟩ (qI.of_list ⟨?_,rfl,rfl,rfl,rfl,trivial⟩) fun v H6 x6 l7 h6 => ?_
 ·show AVal.int .i64 _ = _
  rw [ew]
 rw [qa5]
 unfold qdv
 obtain ⟨Γ2,sub2,h2,hrow⟩ := h6.fix (by omega)
 have sub0 : ∀ c ds,Γ0 c = some ds → Γ2 c = some ds := fun c ds e => sub2 c ds (by have := h.lt0 e; rw [qe (by omega)]; exact e)
 have e62 : ld1 H6 (.ptr nx 2) = some (iv B) := by rw [h2.ro (sub2 _ _ (qc _ _ _))]; rfl
 refine ⟨_,rfl,_,e62,?_⟩
 refine ZK hlen hB h2 fun H7 x7 l8 h7 => ?_
 rw [qd]
 obtain ⟨Γ7,own7,G7,k7,g7⟩ := h7
 have e76 : ld1 H7 (.ptr m 6) = some (.slice pg.fb 0 (S.low.length + 1) 4 G7.full) := by rw [k7.ld1 g7.em]; rfl
 have e7N : ldN H7 5 (.ptr m 0) = some (.agg [pg.types,pg.funcs,iv pg.main,pg.texts,pg.nums]) := by rw [k7.ldN g7.em (by simp)]; rfl
 refine ⟨rfl,_,rfl,_,e76,rfl,_,rfl,_,_,_,_,_,e7N,⟨⟨_,e76,rfl⟩,⟨_,_,_,_,_,e7N,rfl⟩,trivial⟩,?_⟩
 have hf7 : FnAt Γ7 pg.funcs a n := hf.mono fun c ds e => (g7.ro _ _ (sub0 _ _ e)).1
 have hr7 : RowV Γ7 own7 9 uv v (jJ S.top.st B B) := by
  rcases hrow with ⟨h1,h2⟩ | ⟨b,cs,full,h1,h2,h3⟩
  ·exact .inl ⟨h1,h2⟩
  ·obtain ⟨a1,a2⟩ := g7.ro _ _ h2
   exact .inr ⟨b,cs,⟨full,h1⟩,a2,a1,h3⟩
 refine Vk (Γ := Γ7) (own := own7) (role := 9) (l := jJ S.top.st B B) (k7.more (by omega)) hf7 hn (fun b off len e full h => hp.small _ _ _ _ _ h) hr7 (by rw [yY]; exact hbn) ⟨hp.cells.1,hp.cells.2.1,hp.cells.2.2.1,hp.cells.2.2.2⟩ fun Γ8 H8 x8 l9 k8 e8 s8 r8 => ?_
 rw [qd]
 have hr : Γ8 (x7 + 12) = none := by
  cases e : Γ8 (x7 + 12) with
  | none => rfl
  | some ds =>
   rcases r8 _ _ e with h | h
   ·omega
   ·have := k7.lt h; omega
 have k28 := k8.aside (cs := [iv a,iv 0,.slice (x7 + 15 + 2) 0 n 1 true,.nilSlice]) hr
 have em8 := s8 _ _ g7.em
 have e28 : ld1 (newB (x7 + 12) [iv a,iv 0,.slice (x7 + 15 + 2) 0 n 1 true,.nilSlice] H8) (.ptr m 6) = some (.slice pg.fb 0 (S.low.length + 1) 4 G7.full) := by rw [k28.ld1 em8]; rfl
 have k29 : HOK (gup (x7 + 12) (some [iv a,iv 0,.slice (x7 + 15 + 2) 0 n 1 true,.nilSlice]) (fun _ => none)) (newB (x7 + 12) [iv a,iv 0,.slice (x7 + 15 + 2) 0 n 1 true,.nilSlice] H8) (x7 + 13) := HOK.new (nx := 0) (fun b cs e => by cases e) (by omega) (by omega) _
 have esrc : aSrc 4 (newB (x7 + 12) [iv a,iv 0,.slice (x7 + 15 + 2) 0 n 1 true,.nilSlice] H8) (.slice (x7 + 12) 0 1 4 true) = some (1,[iv a,iv 0,.slice (x7 + 15 + 2) 0 n 1 true,.nilSlice]) := by rw [k29.src (qc _ _ _) (by simp)]; rfl
 have hlbn : Γ7 (x7 + 15 + 2) = none := k7.non (by omega)
 have g8 : MsG Γ8 own7 (fun _ => none) pg m G7 (S.st (jf B S.top.st)) := by
  have := g7.keep (Γ1 := Γ8) (own1 := own7) fun c ds e _ => ⟨s8 _ _ e,rfl⟩
  exact ⟨(fun c ds e => by cases e),this.om,this.em,this.of,this.ef,this.lowV,this.topV,this.wdV⟩
 obtain ⟨H9,Γ9,p1,p2,p3,p4⟩ := g8.appFrame k28 (cs := [iv a,iv 0,.slice (x7 + 15 + 2) 0 n 1 true,.nilSlice]) rfl (by show S.low.length < 1000; omega)
 have hfbne : x7 + 15 + 2 ≠ pg.fb := fun hx => by have := k7.lt g7.ef; omega
 have hmfb : m ≠ pg.fb := fun hx => by have := g7.of; rw [← hx,g7.om] at this; cases this
 refine ⟨_,_,_,_,rfl,_,rfl,⟨⟨_,e28,rfl⟩,trivial⟩,_,_,esrc,rfl,_,_,_,p1,trivial,?_⟩
 refine Wb p2 (p4 _ _ hmfb em8) (by show S.low.length + 2 < 1000000; omega) fun H10 k10 => ?_
 rw [qd]
 refine ⟨trivial,?_⟩
 have hls : (jJ S.top.st B B ++ List.replicate (n - B) 0).length = n := by rw [List.length_append,yY]; simp; omega
 have hal : (jJ S.top.st B B).length = B := yY _ _ _
 rw [hal] at e8
 obtain ⟨own',G',gg⟩ := g7.call (Γ8 := Γ8) (Γ9 := Γ9) (lb := x7 + 15 + 2) (fb := x8) (a := a) (n := n) (ls := jJ S.top.st B B ++ List.replicate (n - B) 0) (by show S.low.length < 900; omega) s8 hlbn (k8.non (Nat.le_refl _)) e8 p4 hfbne (by rw [hls]; exact p3)
 refine hK x8 H10 _ (by omega) ⟨_,own',G',k10,?_⟩
 exact ⟨fun c ds e => gg.ro c ds (sub0 c ds e),gg.om,gg.em,gg.of,gg.ef,gg.lowV,gg.topV,gg.wdV⟩
end Go.Vs
end
section
namespace Go.Vs
open Go.Proofs
variable [GTab]
def j7 (Γ0 : GH) (v : AVal) (f pc : Int) : Option (Int × Int × Int) :=
 match v with
 | .slice b off len _ _ => if 0 ≤ f ∧ f < len then (match Γ0 b with
  | some cs => match cs[off + f.toNat * 5 + 4]? with
   | some (.slice cb coff clen _ _) => if 0 ≤ pc ∧ pc < clen then (match Γ0 cb with
    | some ds => match (ds.drop (coff + pc.toNat * 3)).take 3 with
     | [.int .i64 op,.int .i64 a,.int .i64 b] => some (op,a,b)
     | _ => none
    | none => none) else none
   | _ => none
  | none => none) else none
 | _ => none
theorem qbv {S S' : Mst} {op a t : Int} (h : S.part op a = some (S',t)) : S'.low = S.low := by
 unfold Mst.part at h
 dsimp only at h
 split at h
 ·split at h <;> cases h <;> rfl
 split at h
 ·split at h <;> cases h <;> rfl
 split at h
 ·split at h
  ·cases h; rfl
  ·split at h <;> cases h <;> rfl
 split at h
 ·split at h
  ·cases h; rfl
  ·split at h <;> cases h <;> rfl
 cases h
theorem qam (S : Mst) (a : Int) : (S.make a).1.low = S.low := by
 unfold Mst.make
 split
 ·rfl
 ·split <;> rfl
theorem Yw {num : Int → List UInt8} {nums : Int → Option Int} {S S' : Mst} {op a t : Int} (h : S.does num nums op a = some (S',t)) : S'.low = S.low := by
 unfold Mst.does at h
 dsimp only at h
 by_cases h1 : op = 1
 ·rw [if_pos h1] at h
  cases hq : nums a with
  | none => rw [hq] at h; cases h
  | some n => rw [hq] at h; cases h; rfl
 rw [if_neg h1] at h
 by_cases h2 : op = 2
 ·rw [if_pos h2] at h; cases h; rfl
 rw [if_neg h2] at h
 by_cases h3 : op = 3
 ·rw [if_pos h3] at h; cases h; rfl
 rw [if_neg h3] at h
 by_cases h4 : op = 4
 ·rw [if_pos h4] at h; cases h; rfl
 rw [if_neg h4] at h
 by_cases h5 : op = 5
 ·rw [if_pos h5] at h
  split at h <;> cases h
  rfl
 rw [if_neg h5] at h
 by_cases h6 : op = 6
 ·rw [if_pos h6] at h
  split at h <;> cases h
  rfl
 rw [if_neg h6] at h
 by_cases h7 : op = 7
 ·rw [if_pos h7] at h; cases h; rfl
 rw [if_neg h7] at h
 by_cases h13 : op = 13
 ·rw [if_pos h13] at h; cases h; rfl
 rw [if_neg h13] at h
 by_cases h14 : op = 14
 ·rw [if_pos h14] at h; cases h; rfl
 rw [if_neg h14] at h
 by_cases hd : op = 11 ∨ op = 12
 ·rw [if_pos hd] at h
  split at h
  ·cases h; rfl
  ·split at h <;> cases h
   rfl
 rw [if_neg hd] at h
 by_cases hq : op = 28 ∨ op = 29 ∨ op = 30 ∨ op = 31
 ·rw [if_pos hq] at h; exact qbv h
 rw [if_neg hq] at h
 by_cases h33 : op = 33
 ·rw [if_pos h33] at h; cases h; rfl
 rw [if_neg h33] at h
 by_cases h35 : op = 35
 ·rw [if_pos h35] at h
  have e : S.make a = (S',t) := by simpa using h
  have := qam S a
  rw [e] at this; exact this
 rw [if_neg h35] at h
 by_cases h39 : op = 39
 ·rw [if_pos h39] at h
  cases hs : JH num a (pk S.top.st 0) with
  | none => rw [hs] at h; cases h
  | some s => rw [hs] at h; cases h; rfl
 rw [if_neg h39] at h
 by_cases h40 : op = 40
 ·rw [if_pos h40] at h; cases h; rfl
 rw [if_neg h40] at h
 cases hs : yT op (pk S.top.st 1) (pk S.top.st 0) with
 | none => rw [hs] at h; cases h
 | some s => rw [hs] at h; cases h; rfl
theorem J9 {num : Int → List UInt8} {n1 n2 : Int → Option Int} (hn : ∀ k n,n1 k = some n → n2 k = some n) {S : Mst} {op a : Int} {r : Mst × Int} (h : S.does num n1 op a = some r) : S.does num n2 op a = some r := by
 unfold Mst.does at h ⊢
 dsimp only at h ⊢
 by_cases h1 : op = 1
 ·rw [if_pos h1] at h ⊢
  cases hq : n1 a with
  | none => rw [hq] at h; cases h
  | some n => rw [hq] at h; rw [hn _ _ hq]; exact h
 rw [if_neg h1] at h ⊢
 exact h
section
variable {Γ0 : GH} {pg : Pg} {m : Nat} {S : Mst} {H : Heap} {nx : Nat} {K : EndP}
theorem V1 {v : AVal} {f pc op a b : Int} (e : j7 Γ0 v f pc = some (op,a,b)) : 0 ≤ f ∧ 0 ≤ pc ∧ ∃ b1 o1 v2 b3 o3,idxS v f.toNat 5 = some (.ptr b1 o1) ∧ idxS v2 pc.toNat 3 = some (.ptr b3 o3) ∧
  ∀ {Γ1 : GH} {m : Nat} {pg : Pg} {S : Mst} {H : Heap} {nx : Nat},MS Γ1 pg m S H nx → (∀ b cs,Γ0 b = some cs → Γ1 b = some cs) → ld1 H (.ptr b1 (o1 + 4)) = some v2 ∧ ldN H 3 (.ptr b3 o3) = some (.agg [iv op,iv a,iv b]) := by
 unfold j7 at e
 split at e <;> try (cases e; done)
 split at e <;> try (cases e; done)
 rename_i hf
 split at e <;> try (cases e; done)
 rename_i cs hc
 split at e <;> try (cases e; done)
 rename_i cb coff clen ez fl hcs
 split at e <;> try (cases e; done)
 rename_i hp
 split at e <;> try (cases e; done)
 rename_i ds hd
 split at e <;> try (cases e; done)
 rename_i op' a' b' ht
 cases e
 refine ⟨hf.1,hp.1,_,_,.slice cb coff clen ez fl,_,_,qW (by omega),qW (by omega),fun h hs => ⟨?_,?_⟩⟩
 ·rw [h.ro (hs _ _ hc)]; exact hcs
 ·have hl : coff + pc.toNat * 3 + 3 ≤ ds.length := by
   have := congrArg List.length ht
   rw [List.length_take,List.length_drop] at this
   simp at this
   omega
  rw [h.roN (hs _ _ hd) hl,ht]
theorem MS.inside (h : MS Γ0 pg m S H nx) : ld1 H (.ptr m 9) = some (.ptr pg.fb (4 * S.low.length)) := by
 obtain ⟨Γ,own,G,hk,g⟩ := h
 have := g.ld_in hk
 unfold Gh.a at this
 rw [g.lowV.len] at this
 exact this
theorem MS.ld_f (h : MS Γ0 pg m S H nx) : ld1 H (.ptr pg.fb (4 * S.low.length)) = some (iv S.top.f) := by
 obtain ⟨Γ,own,G,hk,g⟩ := h
 have := g.ld_f hk
 unfold Gh.a at this
 rw [g.lowV.len] at this
 exact this
theorem MS.ld_pc (h : MS Γ0 pg m S H nx) : ld1 H (.ptr pg.fb (4 * S.low.length + 1)) = some (iv S.top.pc) := by
 obtain ⟨Γ,own,G,hk,g⟩ := h
 have := g.ld_pc hk
 unfold Gh.a at this
 rw [g.lowV.len] at this
 exact this
theorem MS.ld_state (h : MS Γ0 pg m S H nx) : ld1 H (.ptr m 7) = some (iv S.state) := by
 obtain ⟨Γ,own,G,hk,g⟩ := h
 rw [hk.ld1 g.em]; rfl
theorem MS.ld_funcs (h : MS Γ0 pg m S H nx) : ld1 H (.ptr m 1) = some pg.funcs := by
 obtain ⟨Γ,own,G,hk,g⟩ := h
 rw [hk.ld1 g.em]; rfl
theorem MS.setPc' (h : MS Γ0 pg m S H nx) (pc : Int) : ∃ H',stC H (.ptr pg.fb (4 * S.low.length + 1)) [iv pc] = some H' ∧ MS Γ0 pg m { S with top := { S.top with pc := pc } } H' nx := by
 obtain ⟨fb,a,e1,e2,H',e3,e4⟩ := h.setPc (pc := pc)
 have := h.inside
 rw [e1] at this
 have q := AVal.ptr.inj (Option.some.inj this)
 rw [q.1,q.2] at e3
 exact ⟨H',e3,e4⟩
def jv (Γ0 : GH) (v : AVal) (f : Int) : Option Nat :=
 match v with
 | .slice b off len _ _ => if 0 ≤ f ∧ f < len then (match Γ0 b with
  | some cs => match cs[off + f.toNat * 5 + 3]? with
   | some lv => lenS lv
   | none => none
  | none => none) else none
 | _ => none
theorem VO {v : AVal} {f : Int} {n : Nat} (h : jv Γ0 v f = some n) : FnAt Γ0 v f n := by
 unfold jv at h
 split at h <;> try (cases h; done)
 split at h <;> try (cases h; done)
 rename_i hf
 split at h <;> try (cases h; done)
 rename_i cs hc
 split at h <;> try (cases h; done)
 rename_i lv hl
 exact ⟨hf.1,_,_,_,_,_,_,_,rfl,hf.2,hc,hl,h⟩
def Mst.calls (S : Mst) (n : Nat) (a b : Int) : Option Out := if 0 ≤ b ∧ b.toNat ≤ n ∧ n < 1000000 ∧ S.low.length + 1 < 30 then some (.go (S.callTo n a b.toNat)) else none
def Mst.step (num : Int → List UInt8) (Γ0 : GH) (pg : Pg) (S : Mst) : Option Out :=
 match j7 Γ0 pg.funcs S.top.f S.top.pc with
 | none => none
 | some (op,a,b) =>
  if op = 36 then (match jv Γ0 pg.funcs a with
   | some n => S.calls n a b
   | none => none)
  else if op = 37 then none
  else if op = 41 then some (S.ret a)
  else match S.jump op a with
   | some S' => some (.go S')
   | none => match S.does num (kq Γ0 pg.nums) op a with
    | none => none
    | some (S',t) => if t = 0 then some (.go { S' with top := { S'.top with pc := IntKind.i64.wrap (S'.top.pc + 1) } }) else some (.go { S' with state := 2,trap := t })
theorem W5 {num : Int → List UInt8} (hn : J8 num) (fi : S.Fine) (hst : S.state = 0) (hlow : S.low.length < 1000) (hst2 : ∀ f,f ∈ S.low → f.st.length < 1000000) (hpg : PgOK pg) (h : MS Γ0 pg m S H nx) {o : Out} (hs : S.step num Γ0 pg = some o)
  (hG : ∀ S',o = .go S' → ∀ fb v H' nx',nx ≤ nx' → MS Γ0 (pg.at fb) m S' H' nx' → K (.ret (iv v)) H' nx')
  (hO : ∀ W,o = .over W → ∀ v H' nx',nx ≤ nx' → MD Γ0 pg m W H' nx' → K (.ret (iv v)) H' nx') : TriP Tryz.prog 33 [.ptr m 0] H nx K := by
 refine TriP.of_body qw ?_
 rw [YP]
 unfold qf1
 unfold Mst.step at hs
 cases hi : j7 Γ0 pg.funcs S.top.f S.top.pc with
 | none => rw [hi] at hs; cases hs
 | some x =>
  obtain ⟨op,a,b⟩ := x
  rw [hi] at hs
  dsimp only at hs
  obtain ⟨f0,p0,b1,o1,v2,b3,o3,i1,i2,i3⟩ := V1 hi
  obtain ⟨i4,i5⟩ := i3 h (fun _ _ e => e)
  have e7 := h.ld_state
  have e9 := h.inside
  have ef := h.ld_f
  have ep := h.ld_pc
  have eu := h.ld_funcs
  have h1 := h.temp (b := nx + 18) (nx' := nx + 20) (cs := [iv 0,iv 0,iv 0]) (by omega) (by omega)
  have sub1 : ∀ c cs,Γ0 c = some cs → gup (nx + 18) (some [iv 0,iv 0,iv 0]) Γ0 c = some cs := fun c cs e => by have := h.lt0 e; rw [qe (by omega)]; exact e
  obtain ⟨j4,j5⟩ := i3 h1 sub1
  have d9 := h1.inside
  have df := h1.ld_f
  have dp := h1.ld_pc
  have du := h1.ld_funcs
  have h2 := h.temp (b := nx + 18) (nx' := nx + 20) (cs := [iv op,iv a,iv b]) (by omega) (by omega)
  have st : stC (newB (nx + 18) [iv 0,iv 0,iv 0] H) (.ptr (nx + 18) 0) [iv op,iv a,iv b] = some (newB (nx + 18) [iv op,iv a,iv b] H) := ZQ (by rfl) (by rfl)
  rw [hst] at e7
  refine ⟨rfl,_,rfl,_,e7,?_⟩
  rw [qS]
  refine ⟨fun h => by simp at h,fun _ => ?_⟩
  refine ⟨rfl,_,rfl,_,e9,rfl,_,rfl,_,qt _ _ _,_,eu,rfl,_,qt _ _ _,_,ef,f0,_,i1,_,qt _ _ _,_,i4,rfl,_,qt _ _ _,_,ep,p0,_,i2,_,_,_,i5,_,rfl,?_,_,st,trivial,?_⟩
  ·exact ⟨⟨_,du,rfl⟩,⟨_,df,rfl⟩,⟨_,j4,rfl⟩,⟨_,dp,rfl⟩,⟨_,_,_,j5,rfl⟩,trivial⟩
  have un : ∀ {S' H' nx'},MS (gup (nx + 18) (some [iv op,iv a,iv b]) Γ0) pg m S' H' nx' → MS Γ0 pg m S' H' nx' := fun hh => hh.untemp h (by omega)
  have e0 : ld1 (newB (nx + 18) [iv op,iv a,iv b] H) (.ptr (nx + 18) 0) = some (iv op) := by rw [h2.ro (qc _ _ _)]; rfl
  have e1 : ld1 (newB (nx + 18) [iv op,iv a,iv b] H) (.ptr (nx + 18) 1) = some (iv a) := by rw [h2.ro (qc _ _ _)]; rfl
  have eN : ldN (newB (nx + 18) [iv op,iv a,iv b] H) 3 (.ptr (nx + 18) 0) = some (.agg [iv op,iv a,iv b]) := by rw [h2.roN (qc _ _ _) (by simp)]; rfl
  generalize newB (nx + 18) [iv op,iv a,iv b] H = H1 at *
  refine ⟨_,rfl,_,e0,?_⟩
  by_cases hcall : op = 36
  ·rw [if_pos hcall] at hs
   cases hlc : jv Γ0 pg.funcs a with
   | none => rw [hlc] at hs; cases hs
   | some n =>
    rw [hlc] at hs
    dsimp only at hs
    unfold Mst.calls at hs
    split at hs <;> try (cases hs; done)
    rename_i hb
    cases hs
    subst hcall
    refine jA rfl ⟨_,_,_,eN,?_⟩
    have sub2 : ∀ c cs,Γ0 c = some cs → gup (nx + 18) (some [iv 36,iv a,iv b]) Γ0 c = some cs := fun c cs e => by have := h.lt0 e; rw [qe (by omega)]; exact e
    refine qdp fi.st hb.2.2.2 hpg ((VO hlc).mono sub2) hb.2.2.1 hb.1 hb.2.1 h2 fun fb H3 x3 l3 h3 => ?_
    rw [qd]
    exact ⟨rfl,_,rfl,_,h3.ld_state,hG _ rfl fb _ _ _ (by omega) (h3.less sub2)⟩
  rw [if_neg hcall] at hs
  by_cases hcall2 : op = 37
  ·rw [if_pos hcall2] at hs; cases hs
  rw [if_neg hcall2] at hs
  refine qA (by omega) ⟨_,rfl,_,e0,qA (by omega) ⟨_,rfl,_,e0,?_⟩⟩
  by_cases hr : op = 41
  ·rw [if_pos hr] at hs; cases hs
   refine jA hr ⟨_,rfl,_,e1,?_⟩
   refine qhd fi hst hlow hst2 h2 (fun S' es H3 x3 l3 h3 => ?_) (fun W es H3 x3 l3 h3 => ?_)
   ·rw [qd]
    refine ⟨rfl,_,rfl,_,h3.ld_state,?_⟩
    exact hG _ es pg.fb _ _ _ (by omega) (un h3)
   ·rw [qd]
    exact ⟨rfl,_,rfl,_,h3.ld_state,hO _ es _ _ _ (by omega) (h3.less fun c ds hc => by have := h.lt0 hc; rw [qe (by omega)]; exact hc)⟩
  rw [if_neg hr] at hs
  refine qA hr ⟨_,_,_,eN,?_⟩
  refine Y4 fi.st h2 (fun S' es H3 x3 l3 h3 => ?_) (fun es H3 x3 l3 h3 => ?_)
  ·rw [es] at hs; cases hs
   rw [qd]
   refine ⟨_,rfl,?_⟩
   rw [zf]
   exact ⟨rfl,_,rfl,_,h3.ld_state,hG _ rfl pg.fb _ _ _ (by omega) (un h3)⟩
  ·rw [es] at hs
   dsimp only at hs
   rw [qd]
   refine ⟨_,rfl,?_⟩
   rw [zG]
   have eN' : ldN H3 3 (.ptr (nx + 18) 0) = some (.agg [iv op,iv a,iv b]) := by rw [h3.roN (qc _ _ _) (by simp)]; rfl
   refine ⟨_,_,_,eN',?_⟩
   have esub : ∀ k n,kq Γ0 pg.nums k = some n → kq (gup (nx + 18) (some [iv op,iv a,iv b]) Γ0) pg.nums k = some n := by
    intro k n e
    unfold kq at e ⊢
    split at e <;> try (cases e; done)
    split at e <;> try (cases e; done)
    rename_i hk
    split at e <;> try (cases e; done)
    rename_i cs hc
    have := h.lt0 hc
    rw [if_pos hk,qe (by omega),hc]; exact e
   cases hd : S.does num (kq Γ0 pg.nums) op a with
   | none => rw [hd] at hs; cases hs
   | some y =>
    obtain ⟨S',t⟩ := y
    rw [hd] at hs
    dsimp only at hs
    have hd' : S.does num (kq (gup (nx + 18) (some [iv op,iv a,iv b]) Γ0) pg.nums) op a = some (S',t) := J9 esub hd
    have elow := Yw hd
    refine qca hn fi h3 hd' fun H4 x4 l4 h4 => ?_
    rw [qd]
    refine ⟨_,rfl,?_⟩
    by_cases ht : t = 0
    ·rw [if_pos ht] at hs; cases hs
     subst ht
     show ifB false _ _
     rw [zG]
     have ep4 := h4.ld_pc
     obtain ⟨H5,q1,q2⟩ := h4.setPc' (IntKind.i64.wrap (S'.top.pc + 1))
     rw [elow] at ep4 q1
     exact ⟨rfl,_,qt _ _ _,_,ep4,rfl,_,qt _ _ _,rfl,_,q1,rfl,_,rfl,_,q2.ld_state,hG _ rfl pg.fb _ _ _ (by omega) (un q2)⟩
    ·rw [if_neg ht] at hs; cases hs
     have eb : (!decide (t = 0)) = true := by simp [ht]
     rw [eb,zf]
     refine qdb h4 fun H5 x5 l5 h5 => ?_
     rw [qd]
     exact ⟨rfl,_,rfl,_,h5.ld_state,hG _ rfl pg.fb _ _ _ (by omega) (un h5)⟩
end
end Go.Vs
end
section
namespace Go.Vs
open Go.Proofs
variable [GTab]
def LRun (call : qh) (lp : Nat → qj) (N : KC) (X : Nat → KC) (R : KC) (Pn : List (AVal × Bool) → KC) (m : Nat) (k : Nat) (n : Int) (H : Heap) (nx : Nat) : Prop :=
 ifB (decide (↑k < n)) (true = true ∧ ∃ v0,some (AVal.ptr m 7) = some v0 ∧ ∃ n1 : Int,ld1 H v0 = some (iv n1) ∧ ifB (decide (n1 = 0)) (call 33 [AVal.ptr m 0] H nx fun e2 H3 i4 =>
 qi e2 (fun v5 => ∃ n6 : Int,v5 = iv n6 ∧ N (envL AVal.und [(5,iv (IntKind.i64.wrap (↑k + 1))),(19,iv (IntKind.i64.wrap (↑k + 1))),(18,iv ↑k),(17,iv n6),(16,AVal.ptr m
 0),(15,AVal.bool true),(15,AVal.bool (decide (n1 = 0))),(14,AVal.bool (decide (n1 = 0))),(9,AVal.bool true),(13,iv n1),(9,AVal.bool true),(12,v0),(9,AVal.bool true),
 (11,AVal.ptr m 0),(9,AVal.bool true),(10,AVal.ptr m 0),(9,AVal.bool true),(9,AVal.bool (decide (↑k < n))),(8,AVal.bool (decide (↑k < n))),(7,iv n),(6,iv ↑k),(5,iv
 ↑k),(1,iv n),(0,AVal.ptr m 0)]) H3 i4 [] none) fun l7 => Pn l7 (envL AVal.und [(16,AVal.ptr m 0),(15,AVal.bool true),(15,AVal.bool (decide (n1 = 0))),(14,AVal.bool
 (decide (n1 = 0))),(9,AVal.bool true),(13,iv n1),(9,AVal.bool true),(12,v0),(9,AVal.bool true),(11,AVal.ptr m 0),(9,AVal.bool true),(10,AVal.ptr m 0),(9,AVal.bool
 true),(9,AVal.bool (decide (↑k < n))),(8,AVal.bool (decide (↑k < n))),(7,iv n),(6,iv ↑k),(5,iv ↑k),(1,iv n),(0,AVal.ptr m 0)]) H3 i4 [] none) (X 0 (envL AVal.und [(15,
 AVal.bool false),(15,AVal.bool (decide (n1 = 0))),(14,AVal.bool (decide (n1 = 0))),(9,AVal.bool true),(13,iv n1),(9,AVal.bool true),(12,v0),(9,AVal.bool true),(11,
 AVal.ptr m 0),(9,AVal.bool true),(10,AVal.ptr m 0),(9,AVal.bool true),(9,AVal.bool (decide (↑k < n))),(8,AVal.bool (decide (↑k < n))),(7,iv n),(6,iv ↑k),(5,iv ↑k),
 (1,iv n),(0,AVal.ptr m 0)]) H nx [] none)) (X 0 (envL AVal.und [(15,AVal.bool false),(15,AVal.bool false),(14,AVal.tuple []),(9,AVal.bool false),(13,AVal.tuple []),(9,
 AVal.bool false),(12,AVal.tuple []),(9,AVal.bool false),(11,AVal.tuple []),(9,AVal.bool false),(10,AVal.tuple []),(9,AVal.bool false),(9,AVal.bool (decide (↑k < n))),
 (8,AVal.bool (decide (↑k < n))),(7,iv n),(6,iv ↑k),(5,iv ↑k),(1,iv n),(0,AVal.ptr m 0)]) H nx [] none)
theorem qda (call : qh) (lp : Nat → qj) (N : KC) (X : Nat → KC) (R : KC) (Pn : List (AVal × Bool) → KC) (m : Nat) (k : Nat) (n : Int) (H : Heap) (nx : Nat) : vK Tryz.prog call (lp 21) 21 (qY (qs Tryz.prog 16) [1,1,0,0,0]) (envL .und [(5,iv k),(1,iv n),(0,.ptr m 0)]) H nx [] none (jT N X R Pn) = LRun call lp N X R Pn m k n H nx := by kernel_rfl
theorem qcg (call : qh) (lp : Nat → qj) (lv : ql) (lvc : qk) (K : EndP) (k : Nat) (H : Heap) (nx : Nat) :
  zW Tryz.prog call (lp 21) 21 (qs Tryz.prog 16) [1,1,0,0] (endK Tryz.prog lv lvc K (kj Tryz.prog 16)) (.exit 0) (envL .und [(5,iv k)]) H nx [] none = K (.ret (iv k)) H nx := by kernel_rfl
structure Mst.Fine2 (S : Mst) : Prop where
 fine : S.Fine
 low : S.low.length < 1000
 st : ∀ f,f ∈ S.low → f.st.length < 1000000
inductive Runs (num : Int → List UInt8) (Γ0 : GH) (pg : Pg) : Nat → Mst → Out → Prop
 | stop {n : Nat} {S : Mst} (h : n = 0 ∨ S.state ≠ 0) : Runs num Γ0 pg n S (.go S)
 | over {n : Nat} {S : Mst} {W : Wd} (f : S.Fine2) (h0 : S.state = 0) (hs : S.step num Γ0 pg = some (.over W)) : Runs num Γ0 pg (n + 1) S (.over W)
 | step {n : Nat} {S S' : Mst} {o : Out} (f : S.Fine2) (h0 : S.state = 0) (hs : S.step num Γ0 pg = some (.go S')) (t : Runs num Γ0 pg n S' o) : Runs num Γ0 pg (n + 1) S o
def OutV (Γ0 : GH) (pg : Pg) (m : Nat) (o : Out) (H : Heap) (nx : Nat) : Prop := (∃ S fb,o = .go S ∧ MS Γ0 (pg.at fb) m S H nx) ∨ ∃ W,o = .over W ∧ MD Γ0 pg m W H nx
theorem qgx {num : Int → List UInt8} (hn : J8 num) {Γ0 : GH} {pg : Pg} {m fuel : Nat} {S : Mst} {o : Out} {H : Heap} {nx : Nat} {K : EndP} (hf : fuel < 1000000000) (hpg : PgOK pg) (hr : Runs num Γ0 pg fuel S o) (h : MS Γ0 pg m S H nx)
  (hK : ∀ v H' nx',nx ≤ nx' → OutV Γ0 pg m o H' nx' → K (.ret (iv v)) H' nx') : TriP Tryz.prog 16 [.ptr m 0,iv fuel] H nx K := by
 refine TriP.of_body qw ?_
 rw [qdi]
 unfold FRun
 refine KG qw (X := Nat) (Y := Nat) (fun k => envL .und [(5,iv k),(1,iv fuel),(0,.ptr m 0)]) (fun k => envL .und [(5,iv k)])
  (fun μ k H' nx' => μ = fuel - k ∧ k ≤ fuel ∧ nx ≤ nx' ∧ ((∃ S1 fb,MS Γ0 (pg.at fb) m S1 H' nx' ∧ Runs num Γ0 pg (fuel - k) S1 o) ∨ ∃ W,o = .over W ∧ MD Γ0 pg m W H' nx'))
  (fun id k H' nx' => id = 0 ∧ nx ≤ nx' ∧ OutV Γ0 pg m o H' nx') fuel 0 ?_ ⟨rfl,Nat.zero_le _,Nat.le_refl _,.inl ⟨S,pg.fb,h,hr⟩⟩ ?_ ?_
 ·exact qI.of_list ⟨rfl,rfl,rfl,trivial⟩
 ·rintro μ k H1 nx1 ⟨rfl,hk,hnx,hi⟩
  rw [qda]
  unfold LRun
  rw [qS]; simp only [decide_eq_true_eq,decide_eq_false_iff_not]
  refine ⟨fun hlt => ⟨trivial,_,rfl,?_⟩,fun hge => ?_⟩
  ·have hlt' : k < fuel := by omega
   rcases hi with ⟨S1,fb,h1,r1⟩ | ⟨W,ho,h1⟩
   ·refine ⟨_,h1.ld_state,?_⟩
    rw [qS]; simp only [decide_eq_true_eq,decide_eq_false_iff_not]
    have ew : IntKind.i64.wrap ((k : Int) + 1) = ((k + 1 : Nat) : Int) := by rw [qP (by omega) (by omega)]; omega
    refine ⟨fun hs => ?_,fun hs => ?_⟩
    ·obtain ⟨n',hn'⟩ : ∃ n',fuel - k = n' + 1 := ⟨fuel - k - 1,by omega⟩
     have en : fuel - (k + 1) = n' := by omega
     rw [hn'] at r1
     cases r1 with
     | stop h =>
      rcases h with h | h
      ·omega
      ·exact absurd hs h
     | over f h0 hst =>
      refine W5 (pg := pg.at fb) hn f.fine h0 f.low f.st ⟨hpg.cells,hpg.small⟩ h1 hst (fun S' e fb2 v H2 nx2 l2 h2 => by cases e) (fun W e v H2 nx2 l2 h2 => ?_)
      rw [qd]
      refine ⟨_,rfl,by first | rfl | trivial,fuel - (k + 1),k + 1,by omega,qI.of_list ⟨?_,rfl,rfl,trivial⟩,by first | rfl | trivial,by omega,by omega,.inr ⟨W,e,h2⟩⟩
      rw [ew]; rfl
     | step f h0 hst tl =>
      refine W5 (pg := pg.at fb) hn f.fine h0 f.low f.st ⟨hpg.cells,hpg.small⟩ h1 hst (fun S' e fb2 v H2 nx2 l2 h2 => ?_) (fun W e v H2 nx2 l2 h2 => by cases e)
      cases e
      rw [qd]
      refine ⟨_,rfl,by first | rfl | trivial,fuel - (k + 1),k + 1,by omega,qI.of_list ⟨?_,rfl,rfl,trivial⟩,by first | rfl | trivial,by omega,by omega,.inl ⟨_,fb2,h2,by rw [en]; exact tl⟩⟩
      rw [ew]; rfl
    ·refine ⟨by first | rfl | trivial,k,qI.of_list ⟨rfl,trivial⟩,by first | rfl | trivial,hnx,?_⟩
     generalize fuel - k = q at r1
     cases r1 with
     | stop h => exact .inl ⟨_,fb,rfl,h1⟩
     | over f h0 hst => exact absurd h0 hs
     | step f h0 hst tl => exact absurd h0 hs
   ·refine ⟨_,h1.ld_state,?_⟩
    rw [qS]
    exact ⟨fun hs => by simp at hs,fun _ => ⟨by first | rfl | trivial,k,qI.of_list ⟨rfl,trivial⟩,by first | rfl | trivial,hnx,.inr ⟨W,ho,h1⟩⟩⟩
  ·have hz : fuel - k = 0 := by omega
   refine ⟨by first | rfl | trivial,k,qI.of_list ⟨rfl,trivial⟩,by first | rfl | trivial,hnx,?_⟩
   rcases hi with ⟨S1,fb,h1,r1⟩ | ⟨W,ho,h1⟩
   ·rw [hz] at r1
    cases r1 with
    | stop h => exact .inl ⟨_,fb,rfl,h1⟩
   ·exact .inr ⟨W,ho,h1⟩
 ·rintro id k H1 nx1 ⟨rfl,hnx,ho⟩
  rw [qcg]
  exact hK _ _ _ hnx ho
end Go.Vs
end
