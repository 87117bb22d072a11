/-
  Own work. Texts of a proof, laid together; no condition.
-/
import Derived.Test.YtljnoieepjeffaaPaa3
import Derived.Test.YtljnoieepjeffaaPaa2
set_option linter.unusedSectionVars false
set_option linter.unusedVariables false
set_option linter.unusedSimpArgs false
set_option maxRecDepth 1000000
section
namespace Go.Vs
open Go.Proofs
variable [GTab]
def SeH (call : CallP) (lp : Nat → LoopP) (N : KC) (X : Nat → KC) (R : KC) (Pn : List (AVal × Bool) → KC) (r : Nat) (b : Nat) (o : AVal) (put : Bool) (e : Bool) (i : Int) (H : Heap) (nx : Nat) : Prop :=
 true = true ∧ ∃ v0, some (AVal.ptr r 0) = some v0 ∧ ∃ v1, ld1 H v0 = some v1 ∧ ∃ i2, lenS v1 = some i2 ∧ ifB (decide (i < Int.ofNat i2)) (N (envL AVal.und [(0, AVal.ptr r 0), (3,
 AVal.ptr b 0), (4, o), (5, AVal.bool put), (6, AVal.bool e), (7, iv i)]) H nx [] none) (X 0 (envL AVal.und [(0, AVal.ptr r 0), (3, AVal.ptr b 0), (4, o), (5, AVal.bool put), (6,
 AVal.bool e), (7, iv i)]) H nx [] none)
theorem SeH_eq (call : CallP) (lp : Nat → LoopP) (N : KC) (X : Nat → KC) (R : KC) (Pn : List (AVal × Bool) → KC) (r : Nat) (b : Nat) (o : AVal) (put : Bool) (e : Bool) (i : Int) (H : Heap) (nx : Nat) : vK PG call (lp 98) 98 (subAt (codeOf PG 25) [1,1,1,1,0,1,0,0,0]) (envL .und [(0, AVal.ptr r 0), (3, AVal.ptr b 0), (4, o), (5, AVal.bool put), (6, AVal.bool e), (7, iv i)]) H nx [] none (trimK [0,3,4,5,6,7] (loopK N X R Pn)) = SeH call lp N X R Pn r b o put e i H nx := by kernel_rfl
def SeX (call : CallP) (lp : Nat → LoopP) (N : KC) (X : Nat → KC) (R : KC) (Pn : List (AVal × Bool) → KC) (r : Nat) (b : Nat) (o : AVal) (put : Bool) (e : Bool) (i : Int) (H : Heap) (nx : Nat) : Prop :=
 true = true ∧ ∃ v0, some (AVal.ptr r 0) = some v0 ∧ ∃ v1, ld1 H v0 = some v1 ∧ 0 ≤ i ∧ ∃ v2, idxS v1 i.toNat 5 = some v2 ∧ ∃ n3 n4 n5 n6 v7, ldN H 5 v2 = some (AVal.agg [iv n3, iv
 n4, iv n5, iv n6, v7]) ∧ ∃ H8, H8 = newB nx [iv 0, iv 0, iv 0, iv 0, AVal.nilSlice] H ∧ ∃ H9, stC H8 (AVal.ptr nx 0) [iv n3, iv n4, iv n5, iv n6, v7] = some H9 ∧ N (envL AVal.und
 [(0, AVal.ptr r 0), (3, AVal.ptr b 0), (4, o), (5, AVal.bool put), (6, AVal.bool e), (7, iv i), (8, AVal.ptr nx 0)]) H9 (nx + 1) [] none
theorem SeX_eq (call : CallP) (lp : Nat → LoopP) (N : KC) (X : Nat → KC) (R : KC) (Pn : List (AVal × Bool) → KC) (r : Nat) (b : Nat) (o : AVal) (put : Bool) (e : Bool) (i : Int) (H : Heap) (nx : Nat) : vK PG call (lp 98) 98 (subAt (codeOf PG 25) [1,1,1,1,0,1,0,0,1,0,0,0]) (envL .und [(0, AVal.ptr r 0), (3, AVal.ptr b 0), (4, o), (5, AVal.bool put), (6, AVal.bool e), (7, iv i)]) H nx [] none (trimK [0,3,4,5,6,7,8] (loopK N X R Pn)) = SeX call lp N X R Pn r b o put e i H nx := by kernel_rfl
def SeC (call : CallP) (lp : Nat → LoopP) (N : KC) (X : Nat → KC) (R : KC) (Pn : List (AVal × Bool) → KC) (r : Nat) (b : Nat) (c : Nat) (o : AVal) (put : Bool) (e : Bool) (i : Int) (H : Heap) (nx : Nat) : Prop :=
 ∃ v0, some (AVal.ptr c 0) = some v0 ∧ ∃ n1 : Int, ld1 H v0 = some (iv n1) ∧ ∃ v2, some (AVal.ptr b 0) = some v2 ∧ ∃ n3 : Int, ld1 H v2 = some (iv n3) ∧ ifB (decide (n1 = n3)) (∃ v4,
 some (AVal.ptr c 1) = some v4 ∧ ∃ n5 : Int, ld1 H v4 = some (iv n5) ∧ ∃ v6, some (AVal.ptr b 1) = some v6 ∧ ∃ n7 : Int, ld1 H v6 = some (iv n7) ∧ N (envL AVal.und [(0, AVal.ptr r
 0), (3, AVal.ptr b 0), (4, o), (5, AVal.bool put), (6, AVal.bool e), (7, iv i), (8, AVal.ptr c 0), (50, AVal.bool (decide (n5 = n7)))]) H nx [] none) (N (envL AVal.und [(0, AVal.ptr
 r 0), (3, AVal.ptr b 0), (4, o), (5, AVal.bool put), (6, AVal.bool e), (7, iv i), (8, AVal.ptr c 0), (50, AVal.bool false)]) H nx [] none)
theorem SeC_eq (call : CallP) (lp : Nat → LoopP) (N : KC) (X : Nat → KC) (R : KC) (Pn : List (AVal × Bool) → KC) (r : Nat) (b : Nat) (c : Nat) (o : AVal) (put : Bool) (e : Bool) (i : Int) (H : Heap) (nx : Nat) : vK PG call (lp 98) 98 (subAt (codeOf PG 25) [1,1,1,1,0,1,0,0,1,0,0,1,0,0]) (envL .und [(0, AVal.ptr r 0), (3, AVal.ptr b 0), (4, o), (5, AVal.bool put), (6, AVal.bool e), (7, iv i), (8, AVal.ptr c 0)]) H nx [] none (trimK [0,3,4,5,6,7,8,50] (loopK N X R Pn)) = SeC call lp N X R Pn r b c o put e i H nx := by kernel_rfl
def SeD (call : CallP) (lp : Nat → LoopP) (N : KC) (X : Nat → KC) (R : KC) (Pn : List (AVal × Bool) → KC) (r : Nat) (b : Nat) (c : Nat) (o : AVal) (put : Bool) (e : Bool) (i : Int) (H : Heap) (nx : Nat) : Prop :=
 ifB (!put) (∃ v0, some (AVal.ptr b 0) = some v0 ∧ ∃ n1 : Int, ld1 H v0 = some (iv n1) ∧ ∃ v2, some (AVal.ptr c 0) = some v2 ∧ ∃ n3 : Int, ld1 H v2 = some (iv n3) ∧ ifB (decide (n1 <
 n3)) (N (envL AVal.und [(0, AVal.ptr r 0), (3, AVal.ptr b 0), (4, o), (5, AVal.bool put), (6, AVal.bool e), (7, iv i), (8, AVal.ptr c 0), (73, AVal.bool true)]) H nx [] none) (∃ v4,
 some (AVal.ptr b 0) = some v4 ∧ ∃ n5 : Int, ld1 H v4 = some (iv n5) ∧ ∃ v6, some (AVal.ptr c 0) = some v6 ∧ ∃ n7 : Int, ld1 H v6 = some (iv n7) ∧ ifB (decide (n5 = n7)) (∃ v8, some
 (AVal.ptr b 1) = some v8 ∧ ∃ n9 : Int, ld1 H v8 = some (iv n9) ∧ ∃ v10, some (AVal.ptr c 1) = some v10 ∧ ∃ n11 : Int, ld1 H v10 = some (iv n11) ∧ N (envL AVal.und [(0, AVal.ptr r
 0), (3, AVal.ptr b 0), (4, o), (5, AVal.bool put), (6, AVal.bool e), (7, iv i), (8, AVal.ptr c 0), (73, AVal.bool (decide (n9 < n11)))]) H nx [] none) (N (envL AVal.und [(0,
 AVal.ptr r 0), (3, AVal.ptr b 0), (4, o), (5, AVal.bool put), (6, AVal.bool e), (7, iv i), (8, AVal.ptr c 0), (73, AVal.bool false)]) H nx [] none))) (N (envL AVal.und [(0, AVal.ptr
 r 0), (3, AVal.ptr b 0), (4, o), (5, AVal.bool put), (6, AVal.bool e), (7, iv i), (8, AVal.ptr c 0), (73, AVal.bool false)]) H nx [] none)
theorem SeD_eq (call : CallP) (lp : Nat → LoopP) (N : KC) (X : Nat → KC) (R : KC) (Pn : List (AVal × Bool) → KC) (r : Nat) (b : Nat) (c : Nat) (o : AVal) (put : Bool) (e : Bool) (i : Int) (H : Heap) (nx : Nat) : vK PG call (lp 98) 98 (subAt (codeOf PG 25) [1,1,1,1,0,1,0,0,1,0,0,1,1,0,0]) (envL .und [(0, AVal.ptr r 0), (3, AVal.ptr b 0), (4, o), (5, AVal.bool put), (6, AVal.bool e), (7, iv i), (8, AVal.ptr c 0)]) H nx [] none (trimK [0,3,4,5,6,7,8,73] (loopK N X R Pn)) = SeD call lp N X R Pn r b c o put e i H nx := by kernel_rfl
def SeE (call : CallP) (lp : Nat → LoopP) (N : KC) (X : Nat → KC) (R : KC) (Pn : List (AVal × Bool) → KC) (r : Nat) (b : Nat) (c : Nat) (o : AVal) (put : Bool) (e : Bool) (i : Int) (H : Heap) (nx : Nat) : Prop :=
 ifB (!e) (∃ n0 n1 n2 n3 v4, ldN H 5 (AVal.ptr b 0) = some (AVal.agg [iv n0, iv n1, iv n2, iv n3, v4]) ∧ ∃ H5, H5 = newB nx [iv n0, iv n1, iv n2, iv n3, v4] H ∧ ∃ i6 l7, aSrc 5 H5
 (AVal.slice nx 0 1 5 true) = some (i6, l7) ∧ allCell l7 = true ∧ ∃ v8 H9 i10, appC H5 (nx + 1) 5 56 o i6 l7 = some (v8, H9, i10) ∧ N (envL AVal.und [(0, AVal.ptr r 0), (3, AVal.ptr
 b 0), (4, v8), (5, AVal.bool true), (6, AVal.bool e), (7, iv i), (8, AVal.ptr c 0)]) H9 i10 [] none) (N (envL AVal.und [(0, AVal.ptr r 0), (3, AVal.ptr b 0), (4, o), (5, AVal.bool
 true), (6, AVal.bool e), (7, iv i), (8, AVal.ptr c 0)]) H nx [] none)
theorem SeE_eq (call : CallP) (lp : Nat → LoopP) (N : KC) (X : Nat → KC) (R : KC) (Pn : List (AVal × Bool) → KC) (r : Nat) (b : Nat) (c : Nat) (o : AVal) (put : Bool) (e : Bool) (i : Int) (H : Heap) (nx : Nat) : vK PG call (lp 98) 98 (subAt (codeOf PG 25) [1,1,1,1,0,1,0,0,1,0,0,1,1,0,1,0]) (envL .und [(0, AVal.ptr r 0), (3, AVal.ptr b 0), (4, o), (5, AVal.bool put), (6, AVal.bool e), (7, iv i), (8, AVal.ptr c 0)]) H nx [] none (trimK [0,3,4,5,6,7,8] (loopK N X R Pn)) = SeE call lp N X R Pn r b c o put e i H nx := by kernel_rfl
def SeF (call : CallP) (lp : Nat → LoopP) (N : KC) (X : Nat → KC) (R : KC) (Pn : List (AVal × Bool) → KC) (r : Nat) (b : Nat) (c : Nat) (o : AVal) (put : Bool) (e : Bool) (i : Int) (H : Heap) (nx : Nat) : Prop :=
 ∃ n0 n1 n2 n3 v4, ldN H 5 (AVal.ptr c 0) = some (AVal.agg [iv n0, iv n1, iv n2, iv n3, v4]) ∧ ∃ H5, H5 = newB nx [iv n0, iv n1, iv n2, iv n3, v4] H ∧ ∃ i6 l7, aSrc 5 H5 (AVal.slice
 nx 0 1 5 true) = some (i6, l7) ∧ allCell l7 = true ∧ ∃ v8 H9 i10, appC H5 (nx + 1) 5 56 o i6 l7 = some (v8, H9, i10) ∧ N (envL AVal.und [(0, AVal.ptr r 0), (3, AVal.ptr b 0), (4,
 v8), (5, AVal.bool put), (6, AVal.bool e), (7, iv i)]) H9 i10 [] none
theorem SeF_eq (call : CallP) (lp : Nat → LoopP) (N : KC) (X : Nat → KC) (R : KC) (Pn : List (AVal × Bool) → KC) (r : Nat) (b : Nat) (c : Nat) (o : AVal) (put : Bool) (e : Bool) (i : Int) (H : Heap) (nx : Nat) : vK PG call (lp 98) 98 (subAt (codeOf PG 25) [1,1,1,1,0,1,0,0,1,0,0,1,1,1]) (envL .und [(0, AVal.ptr r 0), (3, AVal.ptr b 0), (4, o), (5, AVal.bool put), (6, AVal.bool e), (7, iv i), (8, AVal.ptr c 0)]) H nx [] none (trimK [0,3,4,5,6,7] (loopK N X R Pn)) = SeF call lp N X R Pn r b c o put e i H nx := by kernel_rfl
def SeI (call : CallP) (lp : Nat → LoopP) (N : KC) (X : Nat → KC) (R : KC) (Pn : List (AVal × Bool) → KC) (r : Nat) (b : Nat) (o : AVal) (put : Bool) (e : Bool) (i : Int) (H : Heap) (nx : Nat) : Prop :=
 N (envL AVal.und [(0, AVal.ptr r 0), (3, AVal.ptr b 0), (4, o), (5, AVal.bool put), (6, AVal.bool e), (7, iv (IntKind.i64.wrap (i + 1)))]) H nx [] none
theorem SeI_eq (call : CallP) (lp : Nat → LoopP) (N : KC) (X : Nat → KC) (R : KC) (Pn : List (AVal × Bool) → KC) (r : Nat) (b : Nat) (o : AVal) (put : Bool) (e : Bool) (i : Int) (H : Heap) (nx : Nat) : vK PG call (lp 98) 98 (subAt (codeOf PG 25) [1,1,1,1,0,1,0,0,1,1]) (envL .und [(0, AVal.ptr r 0), (3, AVal.ptr b 0), (4, o), (5, AVal.bool put), (6, AVal.bool e), (7, iv i)]) H nx [] none (trimK [0,3,4,5,6,7] (loopK N X R Pn)) = SeI call lp N X R Pn r b o put e i H nx := by kernel_rfl
def AdL (call : CallP) (lp : Nat → LoopP) (N : KC) (X : Nat → KC) (R : KC) (Pn : List (AVal × Bool) → KC) (r : Nat) (b : Nat) (i : Int) (H : Heap) (nx : Nat) : Prop :=
 ∃ v0, some (AVal.ptr b 4) = some v0 ∧ ∃ v1, ld1 H v0 = some v1 ∧ ∃ i2, lenS v1 = some i2 ∧ ifB (decide (i < Int.ofNat i2)) (∃ v3, some (AVal.ptr b 4) = some v3 ∧ ∃ v4, ld1 H v3 =
 some v4 ∧ 0 ≤ i ∧ ∃ v5, idxS v4 i.toNat 2 = some v5 ∧ ∃ v6, addOff v5 0 = some v6 ∧ ∃ n7 : Int, ld1 H v6 = some (iv n7) ∧ ifB (decide (n7 < 0)) (R (envL AVal.und [(0, AVal.ptr r 0),
 (3, AVal.ptr b 0), (4, AVal.bool false), (5, iv i)]) H nx [] none) (∃ v8, some (AVal.ptr b 4) = some v8 ∧ ∃ v9, ld1 H v8 = some v9 ∧ 0 ≤ i ∧ ∃ v10, idxS v9 i.toNat 2 = some v10 ∧ ∃
 v11, addOff v10 0 = some v11 ∧ ∃ n12 : Int, ld1 H v11 = some (iv n12) ∧ ifB (decide (1073741824 < n12)) (R (envL AVal.und [(0, AVal.ptr r 0), (3, AVal.ptr b 0), (4, AVal.bool
 false), (5, iv i)]) H nx [] none) (∃ v13, some (AVal.ptr b 4) = some v13 ∧ ∃ v14, ld1 H v13 = some v14 ∧ 0 ≤ i ∧ ∃ v15, idxS v14 i.toNat 2 = some v15 ∧ ∃ v16, addOff v15 1 = some
 v16 ∧ ∃ n17 : Int, ld1 H v16 = some (iv n17) ∧ ifB (decide (n17 < 0)) (R (envL AVal.und [(0, AVal.ptr r 0), (3, AVal.ptr b 0), (4, AVal.bool false), (5, iv i)]) H nx [] none) (∃
 v18, some (AVal.ptr b 4) = some v18 ∧ ∃ v19, ld1 H v18 = some v19 ∧ 0 ≤ i ∧ ∃ v20, idxS v19 i.toNat 2 = some v20 ∧ ∃ v21, addOff v20 1 = some v21 ∧ ∃ n22 : Int, ld1 H v21 = some (iv
 n22) ∧ ifB (decide (1073741824 < n22)) (R (envL AVal.und [(0, AVal.ptr r 0), (3, AVal.ptr b 0), (4, AVal.bool false), (5, iv i)]) H nx [] none) (lp 118 (subAt (subAt (codeOf
 PG 11) [1, 1, 0, 1, 0, 0]) [1, 0, 0, 1, 1, 0, 0]) (envL AVal.und [(6, iv 0), (91, AVal.bool false), (91, AVal.bool (decide (1073741824 < n22))), (90, AVal.bool (decide
 (1073741824 < n22))), (83, AVal.bool false), (89, iv n22), (83, AVal.bool false), (88, v21), (83, AVal.bool false), (87, v20), (83, AVal.bool false), (86, iv i), (83, AVal.bool
 false), (85, v19), (83, AVal.bool false), (84, v18), (83, AVal.bool false), (83, AVal.bool (decide (n17 < 0))), (82, AVal.bool (decide (n17 < 0))), (81, AVal.bool (decide (n17 <
 0))), (74, AVal.bool false), (80, iv n17), (74, AVal.bool false), (79, v16), (74, AVal.bool false), (78, v15), (74, AVal.bool false), (77, iv i), (74, AVal.bool false), (76, v14),
 (74, AVal.bool false), (75, v13), (74, AVal.bool false), (74, AVal.bool (decide (1073741824 < n12))), (73, AVal.bool (decide (1073741824 < n12))), (72, AVal.bool (decide (1073741824
 < n12))), (65, AVal.bool false), (71, iv n12), (65, AVal.bool false), (70, v11), (65, AVal.bool false), (69, v10), (65, AVal.bool false), (68, iv i), (65, AVal.bool false), (67,
 v9), (65, AVal.bool false), (66, v8), (65, AVal.bool false), (65, AVal.bool (decide (n7 < 0))), (64, AVal.bool (decide (n7 < 0))), (63, iv n7), (62, v6), (61, v5), (60, iv i), (59,
 v4), (58, v3), (55, AVal.bool true), (55, AVal.bool (decide (i < Int.ofNat i2))), (54, iv (Int.ofNat i2)), (53, v1), (52, v0), (51, iv i), (0, AVal.ptr r 0), (3, AVal.ptr b 0), (4,
 AVal.bool false), (5, iv i)]) H nx [] none (contAt PG call (lp 118) 118 (subAt (codeOf PG 11) [1, 1, 0, 1, 0, 0]) [1, 0, 0, 1, 1, 0] (trimK [0, 3, 4, 5] (loopK N X R
 Pn)))))))) (X 0 (envL AVal.und [(0, AVal.ptr r 0), (3, AVal.ptr b 0), (4, AVal.bool false), (5, iv i)]) H nx [] none)
theorem AdL_eq (call : CallP) (lp : Nat → LoopP) (N : KC) (X : Nat → KC) (R : KC) (Pn : List (AVal × Bool) → KC) (r : Nat) (b : Nat) (i : Int) (H : Heap) (nx : Nat) : vK PG call (lp 118) 118 (subAt (codeOf PG 11) [1,1,0,1,0,0]) (envL .und [(0, AVal.ptr r 0), (3, AVal.ptr b 0), (4, AVal.bool false), (5, iv i)]) H nx [] none (trimK [0,3,4,5] (loopK N X R Pn)) = AdL call lp N X R Pn r b i H nx := by kernel_rfl
def AdJ (call : CallP) (lp : Nat → LoopP) (N : KC) (X : Nat → KC) (R : KC) (Pn : List (AVal × Bool) → KC) (r : Nat) (b : Nat) (i : Int) (k : Int) (H : Heap) (nx : Nat) : Prop :=
 ifB (decide (k < i)) (∃ v0, some (AVal.ptr b 4) = some v0 ∧ ∃ v1, ld1 H v0 = some v1 ∧ 0 ≤ i ∧ ∃ v2, idxS v1 i.toNat 2 = some v2 ∧ ∃ v3, addOff v2 0 = some v3 ∧ ∃ n4 : Int, ld1 H v3
 = some (iv n4) ∧ ∃ v5, some (AVal.ptr b 4) = some v5 ∧ ∃ v6, ld1 H v5 = some v6 ∧ 0 ≤ k ∧ ∃ v7, idxS v6 k.toNat 2 = some v7 ∧ ∃ v8, addOff v7 0 = some v8 ∧ ∃ n9 : Int, ld1 H v8 =
 some (iv n9) ∧ ((∃ v10, ld1 H v0 = some v10 ∧ v10 = v1) ∧ (∃ n11 : Int, ld1 H v3 = some (iv n11) ∧ iv n11 = iv n4) ∧ (∃ v12, ld1 H v5 = some v12 ∧ v12 = v6) ∧ (∃ n13 : Int, ld1 H v8
 = some (iv n13) ∧ iv n13 = iv n9) ∧ True) ∧ ifB (decide (n4 = n9)) (R (envL AVal.und [(0, AVal.ptr r 0), (3, AVal.ptr b 0), (4, AVal.bool false), (5, iv i), (6, iv k)]) H (nx + 13)
 [] none) (N (envL AVal.und [(0, AVal.ptr r 0), (3, AVal.ptr b 0), (4, AVal.bool false), (5, iv i), (6, iv (IntKind.i64.wrap (k + 1)))]) H (nx + 13) [] none)) (X 2 (envL AVal.und
 [(0, AVal.ptr r 0), (3, AVal.ptr b 0), (4, AVal.bool false), (5, iv i), (6, iv k)]) H nx [] none)
theorem AdJ_eq (call : CallP) (lp : Nat → LoopP) (N : KC) (X : Nat → KC) (R : KC) (Pn : List (AVal × Bool) → KC) (r : Nat) (b : Nat) (i : Int) (k : Int) (H : Heap) (nx : Nat) : vK PG call (lp 118) 118 (subAt (codeOf PG 11) [1,1,0,1,0,0,1,0,0,1,1,0,0]) (envL .und [(0, AVal.ptr r 0), (3, AVal.ptr b 0), (4, AVal.bool false), (5, iv i), (6, iv k)]) H nx [] none (trimK [0,3,4,5,6] (loopK N X R Pn)) = AdJ call lp N X R Pn r b i k H nx := by kernel_rfl
def AdA (call : CallP) (lp : Nat → LoopP) (lv : LeaveP) (lvc : LeaveC) (r : Nat) (b : Nat) (H : Heap) (nx : Nat) (K : EndP) : Prop :=
 ∃ H0, H0 = newB nx [] H ∧ ∃ v1, some (AVal.ptr b 4) = some v1 ∧ ∃ v2, ld1 H0 v1 = some v2 ∧ ∃ i3 l4, aSrc 2 H0 v2 = some (i3, l4) ∧ allCell l4 = true ∧ ∃ v5 H6 i7, appC H0 (nx + 1)
 2 16 (AVal.slice nx 0 0 2 true) i3 l4 = some (v5, H6, i7) ∧ ∃ v8, some (AVal.ptr b 4) = some v8 ∧ cellv v5 = true ∧ ∃ H9, stC H6 v8 [v5] = some H9 ∧ ∃ n10 n11 n12 n13 v14, ldN H9 5
 (AVal.ptr b 0) = some (AVal.agg [iv n10, iv n11, iv n12, iv n13, v14]) ∧ call f_r10p_set [AVal.ptr r 0, AVal.agg [iv n10, iv n11, iv n12, iv n13, v14]] H9 i7 fun e15 H16 i17 => onEnd e15
 (fun v18 => K (AEnd.ret (AVal.bool true)) H16 i17) fun l19 => K (AEnd.pan l19) H16 i17
theorem AdA_eq (call : CallP) (lp : Nat → LoopP) (lv : LeaveP) (lvc : LeaveC) (r : Nat) (b : Nat) (H : Heap) (nx : Nat) (K : EndP) : contAt PG call (lp 118) 118 (codeOf PG 11) [1,1,0,1,0] (endK PG lv lvc K (resOf PG 11)) (.exit 0) (envL .und [(0, AVal.ptr r 0), (3, AVal.ptr b 0)]) H nx [] none = AdA call lp lv lvc r b H nx K := by kernel_rfl
def HoH (call : CallP) (lp : Nat → LoopP) (N : KC) (X : Nat → KC) (R : KC) (Pn : List (AVal × Bool) → KC) (r : Nat) (n : Int) (o : AVal) (i : Int) (H : Heap) (nx : Nat) : Prop :=
 true = true ∧ ∃ v0, some (AVal.ptr r 0) = some v0 ∧ ∃ v1, ld1 H v0 = some v1 ∧ ∃ i2, lenS v1 = some i2 ∧ ifB (decide (i < Int.ofNat i2)) (N (envL AVal.und [(0, AVal.ptr r 0), (1, iv
 n), (5, o), (6, iv i)]) H nx [] none) (X 0 (envL AVal.und [(0, AVal.ptr r 0), (1, iv n), (5, o), (6, iv i)]) H nx [] none)
theorem HoH_eq (call : CallP) (lp : Nat → LoopP) (N : KC) (X : Nat → KC) (R : KC) (Pn : List (AVal × Bool) → KC) (r : Nat) (n : Int) (o : AVal) (i : Int) (H : Heap) (nx : Nat) : vK PG call (lp 86) 86 (subAt (codeOf PG 15) [1,1,0,1,0,0,0]) (envL .und [(0, AVal.ptr r 0), (1, iv n), (5, o), (6, iv i)]) H nx [] none (trimK [0,1,5,6] (loopK N X R Pn)) = HoH call lp N X R Pn r n o i H nx := by kernel_rfl
def HoC (call : CallP) (lp : Nat → LoopP) (N : KC) (X : Nat → KC) (R : KC) (Pn : List (AVal × Bool) → KC) (r : Nat) (n : Int) (o : AVal) (i : Int) (H : Heap) (nx : Nat) : Prop :=
 true = true ∧ ∃ v0, some (AVal.ptr r 0) = some v0 ∧ ∃ v1, ld1 H v0 = some v1 ∧ 0 ≤ i ∧ ∃ v2, idxS v1 i.toNat 5 = some v2 ∧ ∃ v3, addOff v2 2 = some v3 ∧ ∃ n4 : Int, ld1 H v3 = some
 (iv n4) ∧ N (envL AVal.und [(0, AVal.ptr r 0), (1, iv n), (5, o), (6, iv i), (27, AVal.bool (decide (n4 < n)))]) H nx [] none
theorem HoC_eq (call : CallP) (lp : Nat → LoopP) (N : KC) (X : Nat → KC) (R : KC) (Pn : List (AVal × Bool) → KC) (r : Nat) (n : Int) (o : AVal) (i : Int) (H : Heap) (nx : Nat) : vK PG call (lp 86) 86 (subAt (codeOf PG 15) [1,1,0,1,0,0,1,0,0,0,0]) (envL .und [(0, AVal.ptr r 0), (1, iv n), (5, o), (6, iv i)]) H nx [] none (trimK [0,1,5,6,27] (loopK N X R Pn)) = HoC call lp N X R Pn r n o i H nx := by kernel_rfl
def HoK (call : CallP) (lp : Nat → LoopP) (N : KC) (X : Nat → KC) (R : KC) (Pn : List (AVal × Bool) → KC) (r : Nat) (n : Int) (o : AVal) (i : Int) (H : Heap) (nx : Nat) : Prop :=
 ∃ i0, lenS o = some i0 ∧ N (envL AVal.und [(0, AVal.ptr r 0), (1, iv n), (5, o), (6, iv i), (7, iv (Int.ofNat i0))]) H nx [] none
theorem HoK_eq (call : CallP) (lp : Nat → LoopP) (N : KC) (X : Nat → KC) (R : KC) (Pn : List (AVal × Bool) → KC) (r : Nat) (n : Int) (o : AVal) (i : Int) (H : Heap) (nx : Nat) : vK PG call (lp 86) 86 (subAt (codeOf PG 15) [1,1,0,1,0,0,1,0,0,1,0]) (envL .und [(0, AVal.ptr r 0), (1, iv n), (5, o), (6, iv i)]) H nx [] none (trimK [0,1,5,6,7] (loopK N X R Pn)) = HoK call lp N X R Pn r n o i H nx := by kernel_rfl
def HoL (call : CallP) (lp : Nat → LoopP) (N : KC) (X : Nat → KC) (R : KC) (Pn : List (AVal × Bool) → KC) (r : Nat) (n : Int) (o : AVal) (i : Int) (k : Int) (H : Heap) (nx : Nat) : Prop :=
 ifB (decide (0 < k)) (0 ≤ IntKind.i64.wrap (k - 1) ∧ ∃ v0, idxS o (IntKind.i64.wrap (k - 1)).toNat 5 = some v0 ∧ ∃ v1, addOff v0 2 = some v1 ∧ ∃ n2 : Int, ld1 H v1 = some (iv n2) ∧
 true = true ∧ ∃ v3, some (AVal.ptr r 0) = some v3 ∧ ∃ v4, ld1 H v3 = some v4 ∧ 0 ≤ i ∧ ∃ v5, idxS v4 i.toNat 5 = some v5 ∧ ∃ v6, addOff v5 2 = some v6 ∧ ∃ n7 : Int, ld1 H v6 = some
 (iv n7) ∧ ((∃ n8 : Int, ld1 H v1 = some (iv n8) ∧ iv n8 = iv n2) ∧ (∃ v9, ld1 H v3 = some v9 ∧ v9 = v4) ∧ (∃ n10 : Int, ld1 H v6 = some (iv n10) ∧ iv n10 = iv n7) ∧ True) ∧ ifB
 (decide (n2 < n7)) (N (envL AVal.und [(0, AVal.ptr r 0), (1, iv n), (5, o), (6, iv i), (7, iv (IntKind.i64.wrap (k - 1)))]) H (nx + 19) [] none) (X 2 (envL AVal.und [(0, AVal.ptr r
 0), (1, iv n), (5, o), (6, iv i), (7, iv k)]) H (nx + 19) [] none)) ((AVal.tuple [] = AVal.tuple [] ∧ AVal.tuple [] = AVal.tuple [] ∧ AVal.tuple [] = AVal.tuple [] ∧ True) ∧ X 2
 (envL AVal.und [(0, AVal.ptr r 0), (1, iv n), (5, o), (6, iv i), (7, iv k)]) H (nx + 19) [] none)
theorem HoL_eq (call : CallP) (lp : Nat → LoopP) (N : KC) (X : Nat → KC) (R : KC) (Pn : List (AVal × Bool) → KC) (r : Nat) (n : Int) (o : AVal) (i : Int) (k : Int) (H : Heap) (nx : Nat) : vK PG call (lp 86) 86 (subAt (codeOf PG 15) [1,1,0,1,0,0,1,0,0,1,1,0,0,0]) (envL .und [(0, AVal.ptr r 0), (1, iv n), (5, o), (6, iv i), (7, iv k)]) H nx [] none (trimK [0,1,5,6,7] (loopK N X R Pn)) = HoL call lp N X R Pn r n o i k H nx := by kernel_rfl
def HoB (call : CallP) (lp : Nat → LoopP) (N : KC) (X : Nat → KC) (R : KC) (Pn : List (AVal × Bool) → KC) (r : Nat) (n : Int) (o : AVal) (i : Int) (k : Int) (H : Heap) (nx : Nat) : Prop :=
 ∃ H0, H0 = newB nx [iv 0, iv 0, iv 0, iv 0, AVal.nilSlice] H ∧ ∃ i1 l2, aSrc 5 H0 (AVal.slice nx 0 1 5 true) = some (i1, l2) ∧ allCell l2 = true ∧ ∃ v3 H4 i5, appC H0 (nx + 1) 5 56
 o i1 l2 = some (v3, H4, i5) ∧ N (envL AVal.und [(0, AVal.ptr r 0), (1, iv n), (5, v3), (6, iv i), (7, iv k)]) H4 i5 [] none
theorem HoB_eq (call : CallP) (lp : Nat → LoopP) (N : KC) (X : Nat → KC) (R : KC) (Pn : List (AVal × Bool) → KC) (r : Nat) (n : Int) (o : AVal) (i : Int) (k : Int) (H : Heap) (nx : Nat) : vK PG call (lp 86) 86 (subAt (codeOf PG 15) [1,1,0,1,0,0,1,0,0,1,1,1,0]) (envL .und [(0, AVal.ptr r 0), (1, iv n), (5, o), (6, iv i), (7, iv k)]) H nx [] none (trimK [0,1,5,6,7] (loopK N X R Pn)) = HoB call lp N X R Pn r n o i k H nx := by kernel_rfl
def HoM (call : CallP) (lp : Nat → LoopP) (N : KC) (X : Nat → KC) (R : KC) (Pn : List (AVal × Bool) → KC) (r : Nat) (n : Int) (o : AVal) (i : Int) (k : Int) (H : Heap) (nx : Nat) : Prop :=
 ∃ i0, lenS o = some i0 ∧ N (envL AVal.und [(0, AVal.ptr r 0), (1, iv n), (5, o), (6, iv i), (7, iv k), (8, iv (IntKind.i64.wrap (Int.ofNat i0 - 1)))]) H nx [] none
theorem HoM_eq (call : CallP) (lp : Nat → LoopP) (N : KC) (X : Nat → KC) (R : KC) (Pn : List (AVal × Bool) → KC) (r : Nat) (n : Int) (o : AVal) (i : Int) (k : Int) (H : Heap) (nx : Nat) : vK PG call (lp 86) 86 (subAt (codeOf PG 15) [1,1,0,1,0,0,1,0,0,1,1,1,1,0,0]) (envL .und [(0, AVal.ptr r 0), (1, iv n), (5, o), (6, iv i), (7, iv k)]) H nx [] none (trimK [0,1,5,6,7,8] (loopK N X R Pn)) = HoM call lp N X R Pn r n o i k H nx := by kernel_rfl
def HoS (call : CallP) (lp : Nat → LoopP) (N : KC) (X : Nat → KC) (R : KC) (Pn : List (AVal × Bool) → KC) (r : Nat) (n : Int) (o : AVal) (i : Int) (k : Int) (j : Int) (H : Heap) (nx : Nat) : Prop :=
 ifB (decide (k < j)) (0 ≤ IntKind.i64.wrap (j - 1) ∧ ∃ v0, idxS o (IntKind.i64.wrap (j - 1)).toNat 5 = some v0 ∧ ∃ n1 n2 n3 n4 v5, ldN H 5 v0 = some (AVal.agg [iv n1, iv n2, iv n3,
 iv n4, v5]) ∧ 0 ≤ j ∧ ∃ v6, idxS o j.toNat 5 = some v6 ∧ ∃ H7, stC H v6 [iv n1, iv n2, iv n3, iv n4, v5] = some H7 ∧ N (envL AVal.und [(0, AVal.ptr r 0), (1, iv n), (5, o), (6, iv
 i), (7, iv k), (8, iv (IntKind.i64.wrap (j - 1)))]) H7 nx [] none) (X 4 (envL AVal.und [(0, AVal.ptr r 0), (1, iv n), (5, o), (6, iv i), (7, iv k), (8, iv j)]) H nx [] none)
theorem HoS_eq (call : CallP) (lp : Nat → LoopP) (N : KC) (X : Nat → KC) (R : KC) (Pn : List (AVal × Bool) → KC) (r : Nat) (n : Int) (o : AVal) (i : Int) (k : Int) (j : Int) (H : Heap) (nx : Nat) : vK PG call (lp 86) 86 (subAt (codeOf PG 15) [1,1,0,1,0,0,1,0,0,1,1,1,1,0,1,0,0]) (envL .und [(0, AVal.ptr r 0), (1, iv n), (5, o), (6, iv i), (7, iv k), (8, iv j)]) H nx [] none (trimK [0,1,5,6,7,8] (loopK N X R Pn)) = HoS call lp N X R Pn r n o i k j H nx := by kernel_rfl
def HoP (call : CallP) (lp : Nat → LoopP) (N : KC) (X : Nat → KC) (R : KC) (Pn : List (AVal × Bool) → KC) (r : Nat) (n : Int) (o : AVal) (i : Int) (k : Int) (H : Heap) (nx : Nat) : Prop :=
 true = true ∧ ∃ v0, some (AVal.ptr r 0) = some v0 ∧ ∃ v1, ld1 H v0 = some v1 ∧ 0 ≤ i ∧ ∃ v2, idxS v1 i.toNat 5 = some v2 ∧ ∃ n3 n4 n5 n6 v7, ldN H 5 v2 = some (AVal.agg [iv n3, iv
 n4, iv n5, iv n6, v7]) ∧ 0 ≤ k ∧ ∃ v8, idxS o k.toNat 5 = some v8 ∧ ∃ H9, stC H v8 [iv n3, iv n4, iv n5, iv n6, v7] = some H9 ∧ N (envL AVal.und [(0, AVal.ptr r 0), (1, iv n), (5,
 o), (6, iv i)]) H9 nx [] none
theorem HoP_eq (call : CallP) (lp : Nat → LoopP) (N : KC) (X : Nat → KC) (R : KC) (Pn : List (AVal × Bool) → KC) (r : Nat) (n : Int) (o : AVal) (i : Int) (k : Int) (H : Heap) (nx : Nat) : vK PG call (lp 86) 86 (subAt (codeOf PG 15) [1,1,0,1,0,0,1,0,0,1,1,1,1,1]) (envL .und [(0, AVal.ptr r 0), (1, iv n), (5, o), (6, iv i), (7, iv k)]) H nx [] none (trimK [0,1,5,6] (loopK N X R Pn)) = HoP call lp N X R Pn r n o i k H nx := by kernel_rfl
def HoI (call : CallP) (lp : Nat → LoopP) (N : KC) (X : Nat → KC) (R : KC) (Pn : List (AVal × Bool) → KC) (r : Nat) (n : Int) (o : AVal) (i : Int) (H : Heap) (nx : Nat) : Prop :=
 N (envL AVal.und [(0, AVal.ptr r 0), (1, iv n), (5, o), (6, iv (IntKind.i64.wrap (i + 1)))]) H nx [] none
theorem HoI_eq (call : CallP) (lp : Nat → LoopP) (N : KC) (X : Nat → KC) (R : KC) (Pn : List (AVal × Bool) → KC) (r : Nat) (n : Int) (o : AVal) (i : Int) (H : Heap) (nx : Nat) : vK PG call (lp 86) 86 (subAt (codeOf PG 15) [1,1,0,1,0,0,1,1]) (envL .und [(0, AVal.ptr r 0), (1, iv n), (5, o), (6, iv i)]) H nx [] none (trimK [0,1,5,6] (loopK N X R Pn)) = HoI call lp N X R Pn r n o i H nx := by kernel_rfl
def HoA (call : CallP) (lp : Nat → LoopP) (lv : LeaveP) (lvc : LeaveC) (o : AVal) (H : Heap) (nx : Nat) (K : EndP) : Prop :=
 ∃ i0, lenS o = some i0 ∧ ∃ n1 : Int, some (Bool.rec (Bool.rec (Int.ofNat i0) 20 (ilt 20 (Int.ofNat i0))) (Bool.rec (Int.ofNat i0) 20 (ilt (Int.ofNat i0) 20)) false) = some n1 ∧ 0 ≤
 n1 ∧ ∃ v2, slcS o 5 0 (some n1.toNat) = some v2 ∧ K (AEnd.ret v2) H nx
theorem HoA_eq (call : CallP) (lp : Nat → LoopP) (lv : LeaveP) (lvc : LeaveC) (o : AVal) (H : Heap) (nx : Nat) (K : EndP) : contAt PG call (lp 86) 86 (codeOf PG 15) [1,1,0,1,0] (endK PG lv lvc K (resOf PG 15)) (.exit 0) (envL .und [(5, o)]) H nx [] none = HoA call lp lv lvc o H nx K := by kernel_rfl
def SaL (call : CallP) (lp : Nat → LoopP) (N : KC) (X : Nat → KC) (R : KC) (Pn : List (AVal × Bool) → KC) (r : Nat) (o : AVal) (i : Int) (H : Heap) (nx : Nat) : Prop :=
 ∃ i0, lenS o = some i0 ∧ ifB (decide (i < Int.ofNat i0)) (0 ≤ i ∧ ∃ v1, idxS o i.toNat 5 = some v1 ∧ ∃ n2 n3 n4 n5 v6, ldN H 5 v1 = some (AVal.agg [iv n2, iv n3, iv n4, iv n5, v6])
 ∧ true = true ∧ ∃ v7, some (AVal.ptr r 0) = some v7 ∧ ∃ v8, ld1 H v7 = some v8 ∧ 0 ≤ i ∧ ∃ v9, idxS v8 i.toNat 5 = some v9 ∧ ∃ n10 n11 n12 n13 v14, ldN H 5 v9 = some (AVal.agg [iv
 n10, iv n11, iv n12, iv n13, v14]) ∧ ((∃ n15 n16 n17 n18 v19, ldN H 5 v1 = some (AVal.agg [iv n15, iv n16, iv n17, iv n18, v19]) ∧ AVal.agg [iv n15, iv n16, iv n17, iv n18, v19] =
 AVal.agg [iv n2, iv n3, iv n4, iv n5, v6]) ∧ (∃ v20, ld1 H v7 = some v20 ∧ v20 = v8) ∧ (∃ n21 n22 n23 n24 v25, ldN H 5 v9 = some (AVal.agg [iv n21, iv n22, iv n23, iv n24, v25]) ∧
 AVal.agg [iv n21, iv n22, iv n23, iv n24, v25] = AVal.agg [iv n10, iv n11, iv n12, iv n13, v14]) ∧ True) ∧ call f_r10_SameCount [AVal.agg [iv n2, iv n3, iv n4, iv n5, v6], AVal.agg [iv n10, iv
 n11, iv n12, iv n13, v14]] H (nx + 13) fun e26 H27 i28 => onEnd e26 (fun v29 => ∃ b30, v29 = AVal.bool b30 ∧ True ∧ ifB (!b30) (R (envL AVal.und [(1, AVal.ptr r 0), (4, AVal.bool
 false), (5, o), (6, iv i)]) H27 i28 [] none) (N (envL AVal.und [(1, AVal.ptr r 0), (4, AVal.bool false), (5, o), (6, iv (IntKind.i64.wrap (i + 1)))]) H27 i28 [] none)) fun l31 => Pn
 l31 (envL AVal.und [(1, AVal.ptr r 0), (4, AVal.bool false), (5, o), (6, iv i)]) H27 i28 [] none) (X 0 (envL AVal.und [(1, AVal.ptr r 0), (4, AVal.bool false), (5, o), (6, iv i)]) H
 nx [] none)
theorem SaL_eq (call : CallP) (lp : Nat → LoopP) (N : KC) (X : Nat → KC) (R : KC) (Pn : List (AVal × Bool) → KC) (r : Nat) (o : AVal) (i : Int) (H : Heap) (nx : Nat) : vK PG call (lp 36) 36 (subAt (codeOf PG 16) [1,1,1,0,1,0,0]) (envL .und [(1, AVal.ptr r 0), (4, AVal.bool false), (5, o), (6, iv i)]) H nx [] none (trimK [1,4,5,6] (loopK N X R Pn)) = SaL call lp N X R Pn r o i H nx := by kernel_rfl
def SaA (call : CallP) (lp : Nat → LoopP) (lv : LeaveP) (lvc : LeaveC) (_u : Nat) (H : Heap) (nx : Nat) (K : EndP) : Prop :=
 K (AEnd.ret (AVal.bool true)) H nx
theorem SaA_eq (call : CallP) (lp : Nat → LoopP) (lv : LeaveP) (lvc : LeaveC) (_u : Nat) (H : Heap) (nx : Nat) (K : EndP) : contAt PG call (lp 36) 36 (codeOf PG 16) [1,1,1,0,1,0] (endK PG lv lvc K (resOf PG 16)) (.exit 0) (envL .und [(4, AVal.bool false)]) H nx [] none = SaA call lp lv lvc _u H nx K := by kernel_rfl
def PaH (call : CallP) (lp : Nat → LoopP) (N : KC) (X : Nat → KC) (R : KC) (Pn : List (AVal × Bool) → KC) (o : AVal) (near : Bool) (n : Int) (p : Nat) (r : Nat) (i : Int) (H : Heap) (nx : Nat) : Prop :=
 ∃ i0, lenS o = some i0 ∧ ifB (decide (i < Int.ofNat i0)) (ifB (decide (i < 60)) (N (envL AVal.und [(0, o), (1, AVal.bool near), (2, iv n), (6, AVal.bool false), (7, AVal.ptr p 0),
 (8, AVal.ptr r 0), (9, iv i)]) H nx [] none) (X 0 (envL AVal.und [(0, o), (1, AVal.bool near), (2, iv n), (6, AVal.bool false), (7, AVal.ptr p 0), (8, AVal.ptr r 0), (9, iv i)]) H
 nx [] none)) (X 0 (envL AVal.und [(0, o), (1, AVal.bool near), (2, iv n), (6, AVal.bool false), (7, AVal.ptr p 0), (8, AVal.ptr r 0), (9, iv i)]) H nx [] none)
theorem PaH_eq (call : CallP) (lp : Nat → LoopP) (N : KC) (X : Nat → KC) (R : KC) (Pn : List (AVal × Bool) → KC) (o : AVal) (near : Bool) (n : Int) (p : Nat) (r : Nat) (i : Int) (H : Heap) (nx : Nat) : vK PG call (lp 165) 165 (subAt (codeOf PG 4) [1,1,1,1,0,1,0,0,0]) (envL .und [(0, o), (1, AVal.bool near), (2, iv n), (6, AVal.bool false), (7, AVal.ptr p 0), (8, AVal.ptr r 0), (9, iv i)]) H nx [] none (trimK [0,1,2,6,7,8,9] (loopK N X R Pn)) = PaH call lp N X R Pn o near n p r i H nx := by kernel_rfl
def PaX (call : CallP) (lp : Nat → LoopP) (N : KC) (X : Nat → KC) (R : KC) (Pn : List (AVal × Bool) → KC) (o : AVal) (near : Bool) (n : Int) (p : Nat) (r : Nat) (i : Int) (H : Heap) (nx : Nat) : Prop :=
 0 ≤ i ∧ ∃ v0, idxS o i.toNat 5 = some v0 ∧ ∃ n1 n2 n3 n4 v5, ldN H 5 v0 = some (AVal.agg [iv n1, iv n2, iv n3, iv n4, v5]) ∧ ∃ H6, H6 = newB nx [iv 0, iv 0, iv 0, iv 0,
 AVal.nilSlice] H ∧ ∃ H7, stC H6 (AVal.ptr nx 0) [iv n1, iv n2, iv n3, iv n4, v5] = some H7 ∧ N (envL AVal.und [(0, o), (1, AVal.bool near), (2, iv n), (6, AVal.bool false), (7,
 AVal.ptr p 0), (8, AVal.ptr r 0), (9, iv i), (10, AVal.ptr nx 0)]) H7 (nx + 1) [] none
theorem PaX_eq (call : CallP) (lp : Nat → LoopP) (N : KC) (X : Nat → KC) (R : KC) (Pn : List (AVal × Bool) → KC) (o : AVal) (near : Bool) (n : Int) (p : Nat) (r : Nat) (i : Int) (H : Heap) (nx : Nat) : vK PG call (lp 165) 165 (subAt (codeOf PG 4) [1,1,1,1,0,1,0,0,1,0,0,0]) (envL .und [(0, o), (1, AVal.bool near), (2, iv n), (6, AVal.bool false), (7, AVal.ptr p 0), (8, AVal.ptr r 0), (9, iv i)]) H nx [] none (trimK [0,1,2,6,7,8,9,10] (loopK N X R Pn)) = PaX call lp N X R Pn o near n p r i H nx := by kernel_rfl
def PaT (call : CallP) (lp : Nat → LoopP) (N : KC) (X : Nat → KC) (R : KC) (Pn : List (AVal × Bool) → KC) (o : AVal) (near : Bool) (n : Int) (p : Nat) (r : Nat) (i : Int) (c : Nat) (H : Heap) (nx : Nat) : Prop :=
 N (envL AVal.und [(0, o), (1, AVal.bool near), (2, iv n), (6, AVal.bool false), (7, AVal.ptr p 0), (8, AVal.ptr r 0), (9, iv i), (10, AVal.ptr c 0), (42, AVal.bool near)]) H nx []
 none
theorem PaT_eq (call : CallP) (lp : Nat → LoopP) (N : KC) (X : Nat → KC) (R : KC) (Pn : List (AVal × Bool) → KC) (o : AVal) (near : Bool) (n : Int) (p : Nat) (r : Nat) (i : Int) (c : Nat) (H : Heap) (nx : Nat) : vK PG call (lp 165) 165 (subAt (codeOf PG 4) [1,1,1,1,0,1,0,0,1,0,0,1,0,0]) (envL .und [(0, o), (1, AVal.bool near), (2, iv n), (6, AVal.bool false), (7, AVal.ptr p 0), (8, AVal.ptr r 0), (9, iv i), (10, AVal.ptr c 0)]) H nx [] none (trimK [0,1,2,6,7,8,9,10,42] (loopK N X R Pn)) = PaT call lp N X R Pn o near n p r i c H nx := by kernel_rfl
def PaN1 (call : CallP) (lp : Nat → LoopP) (N : KC) (X : Nat → KC) (R : KC) (Pn : List (AVal × Bool) → KC) (o : AVal) (near : Bool) (n : Int) (p : Nat) (r : Nat) (i : Int) (c : Nat) (H : Heap) (nx : Nat) : Prop :=
 ∃ v0, some (AVal.ptr c 0) = some v0 ∧ ∃ n1 : Int, ld1 H v0 = some (iv n1) ∧ call f_h_Pick [iv n1, iv 3] H nx fun e2 H3 i4 => onEnd e2 (fun v5 => ∃ n6 : Int, v5 = iv n6 ∧ ∃ v7, some
 (AVal.ptr c 0) = some v7 ∧ true = true ∧ ∃ H8, stC H3 v7 [iv n6] = some H8 ∧ N (envL AVal.und [(0, o), (1, AVal.bool near), (2, iv n), (6, AVal.bool false), (7, AVal.ptr p 0), (8,
 AVal.ptr r 0), (9, iv i), (10, AVal.ptr c 0)]) H8 i4 [] none) fun l9 => Pn l9 (envL AVal.und [(0, o), (1, AVal.bool near), (2, iv n), (6, AVal.bool false), (7, AVal.ptr p 0), (8,
 AVal.ptr r 0), (9, iv i), (10, AVal.ptr c 0)]) H3 i4 [] none
theorem PaN1_eq (call : CallP) (lp : Nat → LoopP) (N : KC) (X : Nat → KC) (R : KC) (Pn : List (AVal × Bool) → KC) (o : AVal) (near : Bool) (n : Int) (p : Nat) (r : Nat) (i : Int) (c : Nat) (H : Heap) (nx : Nat) : vK PG call (lp 165) 165 (subAt (codeOf PG 4) [1,1,1,1,0,1,0,0,1,0,0,1,0,1,0,0]) (envL .und [(0, o), (1, AVal.bool near), (2, iv n), (6, AVal.bool false), (7, AVal.ptr p 0), (8, AVal.ptr r 0), (9, iv i), (10, AVal.ptr c 0)]) H nx [] none (trimK [0,1,2,6,7,8,9,10] (loopK N X R Pn)) = PaN1 call lp N X R Pn o near n p r i c H nx := by kernel_rfl
def PaN2 (call : CallP) (lp : Nat → LoopP) (N : KC) (X : Nat → KC) (R : KC) (Pn : List (AVal × Bool) → KC) (o : AVal) (near : Bool) (n : Int) (p : Nat) (r : Nat) (i : Int) (c : Nat) (H : Heap) (nx : Nat) : Prop :=
 ∃ v0, some (AVal.ptr c 1) = some v0 ∧ ∃ n1 : Int, ld1 H v0 = some (iv n1) ∧ call f_h_Pick [iv n1, iv 6] H nx fun e2 H3 i4 => onEnd e2 (fun v5 => ∃ n6 : Int, v5 = iv n6 ∧ ∃ v7, some
 (AVal.ptr c 1) = some v7 ∧ true = true ∧ ∃ H8, stC H3 v7 [iv n6] = some H8 ∧ N (envL AVal.und [(0, o), (1, AVal.bool near), (2, iv n), (6, AVal.bool false), (7, AVal.ptr p 0), (8,
 AVal.ptr r 0), (9, iv i), (10, AVal.ptr c 0)]) H8 i4 [] none) fun l9 => Pn l9 (envL AVal.und [(0, o), (1, AVal.bool near), (2, iv n), (6, AVal.bool false), (7, AVal.ptr p 0), (8,
 AVal.ptr r 0), (9, iv i), (10, AVal.ptr c 0)]) H3 i4 [] none
theorem PaN2_eq (call : CallP) (lp : Nat → LoopP) (N : KC) (X : Nat → KC) (R : KC) (Pn : List (AVal × Bool) → KC) (o : AVal) (near : Bool) (n : Int) (p : Nat) (r : Nat) (i : Int) (c : Nat) (H : Heap) (nx : Nat) : vK PG call (lp 165) 165 (subAt (codeOf PG 4) [1,1,1,1,0,1,0,0,1,0,0,1,0,1,0,1,0]) (envL .und [(0, o), (1, AVal.bool near), (2, iv n), (6, AVal.bool false), (7, AVal.ptr p 0), (8, AVal.ptr r 0), (9, iv i), (10, AVal.ptr c 0)]) H nx [] none (trimK [0,1,2,6,7,8,9,10] (loopK N X R Pn)) = PaN2 call lp N X R Pn o near n p r i c H nx := by kernel_rfl
def PaN3 (call : CallP) (lp : Nat → LoopP) (N : KC) (X : Nat → KC) (R : KC) (Pn : List (AVal × Bool) → KC) (o : AVal) (near : Bool) (n : Int) (p : Nat) (r : Nat) (i : Int) (c : Nat) (H : Heap) (nx : Nat) : Prop :=
 ∃ v0, some (AVal.ptr c 2) = some v0 ∧ ∃ n1 : Int, ld1 H v0 = some (iv n1) ∧ call f_h_Pick [iv n1, iv 9] H nx fun e2 H3 i4 => onEnd e2 (fun v5 => ∃ n6 : Int, v5 = iv n6 ∧ ∃ v7, some
 (AVal.ptr c 2) = some v7 ∧ true = true ∧ ∃ H8, stC H3 v7 [iv n6] = some H8 ∧ N (envL AVal.und [(0, o), (1, AVal.bool near), (2, iv n), (6, AVal.bool false), (7, AVal.ptr p 0), (8,
 AVal.ptr r 0), (9, iv i), (10, AVal.ptr c 0)]) H8 i4 [] none) fun l9 => Pn l9 (envL AVal.und [(0, o), (1, AVal.bool near), (2, iv n), (6, AVal.bool false), (7, AVal.ptr p 0), (8,
 AVal.ptr r 0), (9, iv i), (10, AVal.ptr c 0)]) H3 i4 [] none
theorem PaN3_eq (call : CallP) (lp : Nat → LoopP) (N : KC) (X : Nat → KC) (R : KC) (Pn : List (AVal × Bool) → KC) (o : AVal) (near : Bool) (n : Int) (p : Nat) (r : Nat) (i : Int) (c : Nat) (H : Heap) (nx : Nat) : vK PG call (lp 165) 165 (subAt (codeOf PG 4) [1,1,1,1,0,1,0,0,1,0,0,1,0,1,0,1,1,0]) (envL .und [(0, o), (1, AVal.bool near), (2, iv n), (6, AVal.bool false), (7, AVal.ptr p 0), (8, AVal.ptr r 0), (9, iv i), (10, AVal.ptr c 0)]) H nx [] none (trimK [0,1,2,6,7,8,9,10] (loopK N X R Pn)) = PaN3 call lp N X R Pn o near n p r i c H nx := by kernel_rfl
def PaN4 (call : CallP) (lp : Nat → LoopP) (N : KC) (X : Nat → KC) (R : KC) (Pn : List (AVal × Bool) → KC) (o : AVal) (near : Bool) (n : Int) (p : Nat) (r : Nat) (i : Int) (c : Nat) (H : Heap) (nx : Nat) : Prop :=
 ∃ v0, some (AVal.ptr c 3) = some v0 ∧ ∃ n1 : Int, ld1 H v0 = some (iv n1) ∧ call f_h_Pick [iv n1, iv 9] H nx fun e2 H3 i4 => onEnd e2 (fun v5 => ∃ n6 : Int, v5 = iv n6 ∧ ∃ v7, some
 (AVal.ptr c 3) = some v7 ∧ true = true ∧ ∃ H8, stC H3 v7 [iv n6] = some H8 ∧ N (envL AVal.und [(0, o), (1, AVal.bool near), (2, iv n), (6, AVal.bool false), (7, AVal.ptr p 0), (8,
 AVal.ptr r 0), (9, iv i), (10, AVal.ptr c 0)]) H8 i4 [] none) fun l9 => Pn l9 (envL AVal.und [(0, o), (1, AVal.bool near), (2, iv n), (6, AVal.bool false), (7, AVal.ptr p 0), (8,
 AVal.ptr r 0), (9, iv i), (10, AVal.ptr c 0)]) H3 i4 [] none
theorem PaN4_eq (call : CallP) (lp : Nat → LoopP) (N : KC) (X : Nat → KC) (R : KC) (Pn : List (AVal × Bool) → KC) (o : AVal) (near : Bool) (n : Int) (p : Nat) (r : Nat) (i : Int) (c : Nat) (H : Heap) (nx : Nat) : vK PG call (lp 165) 165 (subAt (codeOf PG 4) [1,1,1,1,0,1,0,0,1,0,0,1,0,1,0,1,1,1,0]) (envL .und [(0, o), (1, AVal.bool near), (2, iv n), (6, AVal.bool false), (7, AVal.ptr p 0), (8, AVal.ptr r 0), (9, iv i), (10, AVal.ptr c 0)]) H nx [] none (trimK [0,1,2,6,7,8,9,10] (loopK N X R Pn)) = PaN4 call lp N X R Pn o near n p r i c H nx := by kernel_rfl
def PaN5 (call : CallP) (lp : Nat → LoopP) (N : KC) (X : Nat → KC) (R : KC) (Pn : List (AVal × Bool) → KC) (o : AVal) (near : Bool) (n : Int) (p : Nat) (r : Nat) (i : Int) (c : Nat) (H : Heap) (nx : Nat) : Prop :=
 N (envL AVal.und [(0, o), (1, AVal.bool near), (2, iv n), (6, AVal.bool false), (7, AVal.ptr p 0), (8, AVal.ptr r 0), (9, iv i), (10, AVal.ptr c 0), (11, AVal.nilSlice)]) H nx []
 none
theorem PaN5_eq (call : CallP) (lp : Nat → LoopP) (N : KC) (X : Nat → KC) (R : KC) (Pn : List (AVal × Bool) → KC) (o : AVal) (near : Bool) (n : Int) (p : Nat) (r : Nat) (i : Int) (c : Nat) (H : Heap) (nx : Nat) : vK PG call (lp 165) 165 (subAt (codeOf PG 4) [1,1,1,1,0,1,0,0,1,0,0,1,0,1,0,1,1,1,1,0]) (envL .und [(0, o), (1, AVal.bool near), (2, iv n), (6, AVal.bool false), (7, AVal.ptr p 0), (8, AVal.ptr r 0), (9, iv i), (10, AVal.ptr c 0)]) H nx [] none (trimK [0,1,2,6,7,8,9,10,11] (loopK N X R Pn)) = PaN5 call lp N X R Pn o near n p r i c H nx := by kernel_rfl
def PaN6 (call : CallP) (lp : Nat → LoopP) (N : KC) (X : Nat → KC) (R : KC) (Pn : List (AVal × Bool) → KC) (o : AVal) (near : Bool) (n : Int) (p : Nat) (r : Nat) (i : Int) (c : Nat) (t : AVal) (H : Heap) (nx : Nat) : Prop :=
 N (envL AVal.und [(0, o), (1, AVal.bool near), (2, iv n), (6, AVal.bool false), (7, AVal.ptr p 0), (8, AVal.ptr r 0), (9, iv i), (10, AVal.ptr c 0), (11, t), (12, iv 0)]) H nx []
 none
theorem PaN6_eq (call : CallP) (lp : Nat → LoopP) (N : KC) (X : Nat → KC) (R : KC) (Pn : List (AVal × Bool) → KC) (o : AVal) (near : Bool) (n : Int) (p : Nat) (r : Nat) (i : Int) (c : Nat) (t : AVal) (H : Heap) (nx : Nat) : vK PG call (lp 165) 165 (subAt (codeOf PG 4) [1,1,1,1,0,1,0,0,1,0,0,1,0,1,0,1,1,1,1,1,0,0]) (envL .und [(0, o), (1, AVal.bool near), (2, iv n), (6, AVal.bool false), (7, AVal.ptr p 0), (8, AVal.ptr r 0), (9, iv i), (10, AVal.ptr c 0), (11, t)]) H nx [] none (trimK [0,1,2,6,7,8,9,10,11,12] (loopK N X R Pn)) = PaN6 call lp N X R Pn o near n p r i c t H nx := by kernel_rfl
def PaQ (call : CallP) (lp : Nat → LoopP) (N : KC) (X : Nat → KC) (R : KC) (Pn : List (AVal × Bool) → KC) (o : AVal) (near : Bool) (n : Int) (p : Nat) (r : Nat) (i : Int) (c : Nat) (t : AVal) (k : Int) (H : Heap) (nx : Nat) : Prop :=
 ∃ v0, some (AVal.ptr c 4) = some v0 ∧ ∃ v1, ld1 H v0 = some v1 ∧ ∃ i2, lenS v1 = some i2 ∧ ifB (decide (k < Int.ofNat i2)) (ifB (decide (k < 5)) (∃ v3, some (AVal.ptr c 4) = some v3
 ∧ ∃ v4, ld1 H v3 = some v4 ∧ 0 ≤ k ∧ ∃ v5, idxS v4 k.toNat 2 = some v5 ∧ ∃ v6, addOff v5 0 = some v6 ∧ ∃ n7 : Int, ld1 H v6 = some (iv n7) ∧ ∃ v8, some (AVal.ptr c 4) = some v8 ∧ ∃
 v9, ld1 H v8 = some v9 ∧ 0 ≤ k ∧ ∃ v10, idxS v9 k.toNat 2 = some v10 ∧ ∃ v11, addOff v10 1 = some v11 ∧ ∃ n12 : Int, ld1 H v11 = some (iv n12) ∧ ((∃ v13, ld1 H v3 = some v13 ∧ v13 =
 v4) ∧ (∃ n14 : Int, ld1 H v6 = some (iv n14) ∧ iv n14 = iv n7) ∧ (∃ v15, ld1 H v8 = some v15 ∧ v15 = v9) ∧ (∃ n16 : Int, ld1 H v11 = some (iv n16) ∧ iv n16 = iv n12) ∧ True) ∧ call
 7 [iv n7, iv 7] H (nx + 18) fun e17 H18 i19 => onEnd e17 (fun v20 => ∃ n21 : Int, v20 = iv n21 ∧ ((∃ v22, ld1 H18 v8 = some v22 ∧ v22 = v9) ∧ (∃ n23 : Int, ld1 H18 v11 = some (iv
 n23) ∧ iv n23 = iv n12) ∧ True) ∧ call f_h_Pick [iv n12, iv 9] H18 i19 fun e24 H25 i26 => onEnd e24 (fun v27 => ∃ n28 : Int, v27 = iv n28 ∧ true = true ∧ true = true ∧ ∃ H29, H29 = newB
 (nx + 16) [iv n21, iv n28] H25 ∧ True ∧ ∃ i30 l31, aSrc 2 H29 (AVal.slice (nx + 16) 0 1 2 true) = some (i30, l31) ∧ allCell l31 = true ∧ ∃ v32 H33 i34, appC H29 i26 2 16 t i30 l31 =
 some (v32, H33, i34) ∧ True ∧ N (envL AVal.und [(0, o), (1, AVal.bool near), (2, iv n), (6, AVal.bool false), (7, AVal.ptr p 0), (8, AVal.ptr r 0), (9, iv i), (10, AVal.ptr c 0),
 (11, v32), (12, iv (IntKind.i64.wrap (k + 1)))]) H33 i34 [] none) fun l35 => Pn l35 (envL AVal.und [(0, o), (1, AVal.bool near), (2, iv n), (6, AVal.bool false), (7, AVal.ptr p 0),
 (8, AVal.ptr r 0), (9, iv i), (10, AVal.ptr c 0), (11, t), (12, iv k)]) H25 i26 [] none) fun l36 => Pn l36 (envL AVal.und [(0, o), (1, AVal.bool near), (2, iv n), (6, AVal.bool
 false), (7, AVal.ptr p 0), (8, AVal.ptr r 0), (9, iv i), (10, AVal.ptr c 0), (11, t), (12, iv k)]) H18 i19 [] none) (X 2 (envL AVal.und [(0, o), (1, AVal.bool near), (2, iv n), (6,
 AVal.bool false), (7, AVal.ptr p 0), (8, AVal.ptr r 0), (9, iv i), (10, AVal.ptr c 0), (11, t), (12, iv k)]) H nx [] none)) (X 2 (envL AVal.und [(0, o), (1, AVal.bool near), (2, iv
 n), (6, AVal.bool false), (7, AVal.ptr p 0), (8, AVal.ptr r 0), (9, iv i), (10, AVal.ptr c 0), (11, t), (12, iv k)]) H nx [] none)
theorem PaQ_eq (call : CallP) (lp : Nat → LoopP) (N : KC) (X : Nat → KC) (R : KC) (Pn : List (AVal × Bool) → KC) (o : AVal) (near : Bool) (n : Int) (p : Nat) (r : Nat) (i : Int) (c : Nat) (t : AVal) (k : Int) (H : Heap) (nx : Nat) : vK PG call (lp 165) 165 (subAt (codeOf PG 4) [1,1,1,1,0,1,0,0,1,0,0,1,0,1,0,1,1,1,1,1,0,1,0,0]) (envL .und [(0, o), (1, AVal.bool near), (2, iv n), (6, AVal.bool false), (7, AVal.ptr p 0), (8, AVal.ptr r 0), (9, iv i), (10, AVal.ptr c 0), (11, t), (12, iv k)]) H nx [] none (trimK [0,1,2,6,7,8,9,10,11,12] (loopK N X R Pn)) = PaQ call lp N X R Pn o near n p r i c t k H nx := by kernel_rfl
def PaR (call : CallP) (lp : Nat → LoopP) (N : KC) (X : Nat → KC) (R : KC) (Pn : List (AVal × Bool) → KC) (o : AVal) (near : Bool) (n : Int) (p : Nat) (r : Nat) (i : Int) (c : Nat) (t : AVal) (H : Heap) (nx : Nat) : Prop :=
 ∃ v0, some (AVal.ptr c 4) = some v0 ∧ cellv t = true ∧ ∃ H1, stC H v0 [t] = some H1 ∧ N (envL AVal.und [(0, o), (1, AVal.bool near), (2, iv n), (6, AVal.bool false), (7, AVal.ptr p
 0), (8, AVal.ptr r 0), (9, iv i), (10, AVal.ptr c 0)]) H1 nx [] none
theorem PaR_eq (call : CallP) (lp : Nat → LoopP) (N : KC) (X : Nat → KC) (R : KC) (Pn : List (AVal × Bool) → KC) (o : AVal) (near : Bool) (n : Int) (p : Nat) (r : Nat) (i : Int) (c : Nat) (t : AVal) (H : Heap) (nx : Nat) : vK PG call (lp 165) 165 (subAt (codeOf PG 4) [1,1,1,1,0,1,0,0,1,0,0,1,0,1,0,1,1,1,1,1,1]) (envL .und [(0, o), (1, AVal.bool near), (2, iv n), (6, AVal.bool false), (7, AVal.ptr p 0), (8, AVal.ptr r 0), (9, iv i), (10, AVal.ptr c 0), (11, t)]) H nx [] none (trimK [0,1,2,6,7,8,9,10] (loopK N X R Pn)) = PaR call lp N X R Pn o near n p r i c t H nx := by kernel_rfl
def PaC (call : CallP) (lp : Nat → LoopP) (N : KC) (X : Nat → KC) (R : KC) (Pn : List (AVal × Bool) → KC) (o : AVal) (near : Bool) (n : Int) (p : Nat) (r : Nat) (i : Int) (c : Nat) (H : Heap) (nx : Nat) : Prop :=
 ∃ n0 n1 n2 n3 v4, ldN H 5 (AVal.ptr c 0) = some (AVal.agg [iv n0, iv n1, iv n2, iv n3, v4]) ∧ ∃ n5 n6 n7 n8 v9, ldN H 5 (AVal.ptr c 0) = some (AVal.agg [iv n5, iv n6, iv n7, iv n8,
 v9]) ∧ ((∃ n10 n11 n12 n13 v14, ldN H 5 (AVal.ptr c 0) = some (AVal.agg [iv n10, iv n11, iv n12, iv n13, v14]) ∧ AVal.agg [iv n10, iv n11, iv n12, iv n13, v14] = AVal.agg [iv n0, iv
 n1, iv n2, iv n3, v4]) ∧ (∃ n15 n16 n17 n18 v19, ldN H 5 (AVal.ptr c 0) = some (AVal.agg [iv n15, iv n16, iv n17, iv n18, v19]) ∧ AVal.agg [iv n15, iv n16, iv n17, iv n18, v19] =
 AVal.agg [iv n5, iv n6, iv n7, iv n8, v9]) ∧ True) ∧ call f_pf_Add [AVal.ptr p 0, AVal.agg [iv n0, iv n1, iv n2, iv n3, v4]] H (nx + 23) fun e20 H21 i22 => onEnd e20 (fun v23 => ∃ b24, v23
 = AVal.bool b24 ∧ ((∃ n25 n26 n27 n28 v29, ldN H21 5 (AVal.ptr c 0) = some (AVal.agg [iv n25, iv n26, iv n27, iv n28, v29]) ∧ AVal.agg [iv n25, iv n26, iv n27, iv n28, v29] =
 AVal.agg [iv n5, iv n6, iv n7, iv n8, v9]) ∧ True) ∧ call f_r10p_Add [AVal.ptr r 0, AVal.agg [iv n5, iv n6, iv n7, iv n8, v9]] H21 i22 fun e30 H31 i32 => onEnd e30 (fun v33 => ∃ b34, v33 =
 AVal.bool b34 ∧ ifB (!b24 == b34) ((AVal.tuple [] = AVal.tuple [] ∧ AVal.tuple [] = AVal.tuple [] ∧ AVal.tuple [] = AVal.tuple [] ∧ AVal.tuple [] = AVal.tuple [] ∧ True) ∧
 (AVal.tuple [] = AVal.tuple [] ∧ AVal.tuple [] = AVal.tuple [] ∧ True) ∧ True ∧ True ∧ N (envL AVal.und [(0, o), (1, AVal.bool near), (2, iv n), (6, AVal.bool false), (7, AVal.ptr p
 0), (8, AVal.ptr r 0), (9, iv i), (10, AVal.ptr c 0), (112, AVal.bool true)]) H31 i32 [] none) (∃ v35, some (AVal.ptr c 0) = some v35 ∧ ∃ n36 : Int, ld1 H31 v35 = some (iv n36) ∧ ∃
 v37, some (AVal.ptr c 1) = some v37 ∧ ∃ n38 : Int, ld1 H31 v37 = some (iv n38) ∧ ∃ v39, some (AVal.ptr c 0) = some v39 ∧ ∃ n40 : Int, ld1 H31 v39 = some (iv n40) ∧ ∃ v41, some
 (AVal.ptr c 1) = some v41 ∧ ∃ n42 : Int, ld1 H31 v41 = some (iv n42) ∧ ((∃ n43 : Int, ld1 H31 v35 = some (iv n43) ∧ iv n43 = iv n36) ∧ (∃ n44 : Int, ld1 H31 v37 = some (iv n44) ∧ iv
 n44 = iv n38) ∧ (∃ n45 : Int, ld1 H31 v39 = some (iv n45) ∧ iv n45 = iv n40) ∧ (∃ n46 : Int, ld1 H31 v41 = some (iv n46) ∧ iv n46 = iv n42) ∧ True) ∧ call f_pf_Of [AVal.ptr p 0, iv n36,
 iv n38] H31 i32 fun e47 H48 i49 => onEnd e47 (fun v50 => ∃ n51 n52 n53 n54 v55, v50 = AVal.agg [iv n51, iv n52, iv n53, iv n54, v55] ∧ ((∃ n56 : Int, ld1 H48 v39 = some (iv n56) ∧
 iv n56 = iv n40) ∧ (∃ n57 : Int, ld1 H48 v41 = some (iv n57) ∧ iv n57 = iv n42) ∧ True) ∧ call f_r10p_Of [AVal.ptr r 0, iv n40, iv n42] H48 i49 fun e58 H59 i60 => onEnd e58 (fun v61 => ∃
 n62 n63 n64 n65 v66, v61 = AVal.agg [iv n62, iv n63, iv n64, iv n65, v66] ∧ True ∧ call f_r10_SameCount [AVal.agg [iv n51, iv n52, iv n53, iv n54, v55], AVal.agg [iv n62, iv n63, iv n64, iv n65,
 v66]] H59 i60 fun e67 H68 i69 => onEnd e67 (fun v70 => ∃ b71, v70 = AVal.bool b71 ∧ True ∧ N (envL AVal.und [(0, o), (1, AVal.bool near), (2, iv n), (6, AVal.bool false), (7,
 AVal.ptr p 0), (8, AVal.ptr r 0), (9, iv i), (10, AVal.ptr c 0), (112, AVal.bool !b71)]) H68 i69 [] none) fun l72 => Pn l72 (envL AVal.und [(0, o), (1, AVal.bool near), (2, iv n),
 (6, AVal.bool false), (7, AVal.ptr p 0), (8, AVal.ptr r 0), (9, iv i), (10, AVal.ptr c 0), (112, AVal.und)]) H68 i69 [] none) fun l73 => Pn l73 (envL AVal.und [(0, o), (1, AVal.bool
 near), (2, iv n), (6, AVal.bool false), (7, AVal.ptr p 0), (8, AVal.ptr r 0), (9, iv i), (10, AVal.ptr c 0), (112, AVal.und)]) H59 i60 [] none) fun l74 => Pn l74 (envL AVal.und [(0,
 o), (1, AVal.bool near), (2, iv n), (6, AVal.bool false), (7, AVal.ptr p 0), (8, AVal.ptr r 0), (9, iv i), (10, AVal.ptr c 0), (112, AVal.und)]) H48 i49 [] none)) fun l75 => Pn l75
 (envL AVal.und [(0, o), (1, AVal.bool near), (2, iv n), (6, AVal.bool false), (7, AVal.ptr p 0), (8, AVal.ptr r 0), (9, iv i), (10, AVal.ptr c 0), (112, AVal.und)]) H31 i32 [] none)
 fun l76 => Pn l76 (envL AVal.und [(0, o), (1, AVal.bool near), (2, iv n), (6, AVal.bool false), (7, AVal.ptr p 0), (8, AVal.ptr r 0), (9, iv i), (10, AVal.ptr c 0), (112,
 AVal.und)]) H21 i22 [] none
theorem PaC_eq (call : CallP) (lp : Nat → LoopP) (N : KC) (X : Nat → KC) (R : KC) (Pn : List (AVal × Bool) → KC) (o : AVal) (near : Bool) (n : Int) (p : Nat) (r : Nat) (i : Int) (c : Nat) (H : Heap) (nx : Nat) : vK PG call (lp 165) 165 (subAt (codeOf PG 4) [1,1,1,1,0,1,0,0,1,0,0,1,1,0,0]) (envL .und [(0, o), (1, AVal.bool near), (2, iv n), (6, AVal.bool false), (7, AVal.ptr p 0), (8, AVal.ptr r 0), (9, iv i), (10, AVal.ptr c 0)]) H nx [] none (trimK [0,1,2,6,7,8,9,10,112] (loopK N X R Pn)) = PaC call lp N X R Pn o near n p r i c H nx := by kernel_rfl
def PaO (call : CallP) (lp : Nat → LoopP) (N : KC) (X : Nat → KC) (R : KC) (Pn : List (AVal × Bool) → KC) (o : AVal) (near : Bool) (n : Int) (p : Nat) (r : Nat) (i : Int) (c : Nat) (H : Heap) (nx : Nat) : Prop :=
 ∃ v0, some (AVal.ptr c 0) = some v0 ∧ ∃ n1 : Int, ld1 H v0 = some (iv n1) ∧ ∃ v2, some (AVal.ptr c 1) = some v2 ∧ ∃ n3 : Int, ld1 H v2 = some (iv n3) ∧ call f_pf_Of [AVal.ptr p 0, iv n1,
 iv n3] H nx fun e4 H5 i6 => onEnd e4 (fun v7 => ∃ n8 n9 n10 n11 v12, v7 = AVal.agg [iv n8, iv n9, iv n10, iv n11, v12] ∧ ∃ H13, H13 = newB i6 [iv 0, iv 0, iv 0, iv 0, AVal.nilSlice]
 H5 ∧ ∃ H14, stC H13 (AVal.ptr i6 0) [iv n8, iv n9, iv n10, iv n11, v12] = some H14 ∧ N (envL AVal.und [(0, o), (1, AVal.bool near), (2, iv n), (6, AVal.bool false), (7, AVal.ptr p
 0), (8, AVal.ptr r 0), (9, iv i), (13, AVal.ptr i6 0)]) H14 (i6 + 1) [] none) fun l15 => Pn l15 (envL AVal.und [(0, o), (1, AVal.bool near), (2, iv n), (6, AVal.bool false), (7,
 AVal.ptr p 0), (8, AVal.ptr r 0), (9, iv i), (13, AVal.und)]) H5 i6 [] none
theorem PaO_eq (call : CallP) (lp : Nat → LoopP) (N : KC) (X : Nat → KC) (R : KC) (Pn : List (AVal × Bool) → KC) (o : AVal) (near : Bool) (n : Int) (p : Nat) (r : Nat) (i : Int) (c : Nat) (H : Heap) (nx : Nat) : vK PG call (lp 165) 165 (subAt (codeOf PG 4) [1,1,1,1,0,1,0,0,1,0,0,1,1,1,0]) (envL .und [(0, o), (1, AVal.bool near), (2, iv n), (6, AVal.bool false), (7, AVal.ptr p 0), (8, AVal.ptr r 0), (9, iv i), (10, AVal.ptr c 0)]) H nx [] none (trimK [0,1,2,6,7,8,9,13] (loopK N X R Pn)) = PaO call lp N X R Pn o near n p r i c H nx := by kernel_rfl
def PaZ (call : CallP) (lp : Nat → LoopP) (N : KC) (X : Nat → KC) (R : KC) (Pn : List (AVal × Bool) → KC) (o : AVal) (near : Bool) (n : Int) (p : Nat) (r : Nat) (i : Int) (c : Nat) (H : Heap) (nx : Nat) : Prop :=
 N (envL AVal.und [(0, o), (1, AVal.bool near), (2, iv n), (6, AVal.bool false), (7, AVal.ptr p 0), (8, AVal.ptr r 0), (9, iv i), (13, AVal.ptr c 0), (14, iv 0)]) H nx [] none
theorem PaZ_eq (call : CallP) (lp : Nat → LoopP) (N : KC) (X : Nat → KC) (R : KC) (Pn : List (AVal × Bool) → KC) (o : AVal) (near : Bool) (n : Int) (p : Nat) (r : Nat) (i : Int) (c : Nat) (H : Heap) (nx : Nat) : vK PG call (lp 165) 165 (subAt (codeOf PG 4) [1,1,1,1,0,1,0,0,1,0,0,1,1,1,1,0]) (envL .und [(0, o), (1, AVal.bool near), (2, iv n), (6, AVal.bool false), (7, AVal.ptr p 0), (8, AVal.ptr r 0), (9, iv i), (13, AVal.ptr c 0)]) H nx [] none (trimK [0,1,2,6,7,8,9,13,14] (loopK N X R Pn)) = PaZ call lp N X R Pn o near n p r i c H nx := by kernel_rfl
def PaW (call : CallP) (lp : Nat → LoopP) (N : KC) (X : Nat → KC) (R : KC) (Pn : List (AVal × Bool) → KC) (o : AVal) (near : Bool) (n : Int) (p : Nat) (r : Nat) (i : Int) (c : Nat) (k : Int) (H : Heap) (nx : Nat) : Prop :=
 ∃ v0, some (AVal.ptr c 4) = some v0 ∧ ∃ v1, ld1 H v0 = some v1 ∧ ∃ i2, lenS v1 = some i2 ∧ ifB (decide (k < Int.ofNat i2)) (∃ v3, some (AVal.ptr c 4) = some v3 ∧ ∃ v4, ld1 H v3 =
 some v4 ∧ 0 ≤ k ∧ ∃ v5, idxS v4 k.toNat 2 = some v5 ∧ ∃ v6, addOff v5 1 = some v6 ∧ true = true ∧ ∃ H7, stC H v6 [iv 77] = some H7 ∧ N (envL AVal.und [(0, o), (1, AVal.bool near),
 (2, iv n), (6, AVal.bool false), (7, AVal.ptr p 0), (8, AVal.ptr r 0), (9, iv i), (13, AVal.ptr c 0), (14, iv (IntKind.i64.wrap (k + 1)))]) H7 nx [] none) (X 4 (envL AVal.und [(0,
 o), (1, AVal.bool near), (2, iv n), (6, AVal.bool false), (7, AVal.ptr p 0), (8, AVal.ptr r 0), (9, iv i), (13, AVal.ptr c 0), (14, iv k)]) H nx [] none)
theorem PaW_eq (call : CallP) (lp : Nat → LoopP) (N : KC) (X : Nat → KC) (R : KC) (Pn : List (AVal × Bool) → KC) (o : AVal) (near : Bool) (n : Int) (p : Nat) (r : Nat) (i : Int) (c : Nat) (k : Int) (H : Heap) (nx : Nat) : vK PG call (lp 165) 165 (subAt (codeOf PG 4) [1,1,1,1,0,1,0,0,1,0,0,1,1,1,1,1,0,0]) (envL .und [(0, o), (1, AVal.bool near), (2, iv n), (6, AVal.bool false), (7, AVal.ptr p 0), (8, AVal.ptr r 0), (9, iv i), (13, AVal.ptr c 0), (14, iv k)]) H nx [] none (trimK [0,1,2,6,7,8,9,13,14] (loopK N X R Pn)) = PaW call lp N X R Pn o near n p r i c k H nx := by kernel_rfl
def PaI (call : CallP) (lp : Nat → LoopP) (N : KC) (X : Nat → KC) (R : KC) (Pn : List (AVal × Bool) → KC) (o : AVal) (near : Bool) (n : Int) (p : Nat) (r : Nat) (i : Int) (H : Heap) (nx : Nat) : Prop :=
 N (envL AVal.und [(0, o), (1, AVal.bool near), (2, iv n), (6, AVal.bool false), (7, AVal.ptr p 0), (8, AVal.ptr r 0), (9, iv (IntKind.i64.wrap (i + 1)))]) H nx [] none
theorem PaI_eq (call : CallP) (lp : Nat → LoopP) (N : KC) (X : Nat → KC) (R : KC) (Pn : List (AVal × Bool) → KC) (o : AVal) (near : Bool) (n : Int) (p : Nat) (r : Nat) (i : Int) (H : Heap) (nx : Nat) : vK PG call (lp 165) 165 (subAt (codeOf PG 4) [1,1,1,1,0,1,0,0,1,1]) (envL .und [(0, o), (1, AVal.bool near), (2, iv n), (6, AVal.bool false), (7, AVal.ptr p 0), (8, AVal.ptr r 0), (9, iv i)]) H nx [] none (trimK [0,1,2,6,7,8,9] (loopK N X R Pn)) = PaI call lp N X R Pn o near n p r i H nx := by kernel_rfl
def PaV (call : CallP) (lp : Nat → LoopP) (lv : LeaveP) (lvc : LeaveC) (near : Bool) (n : Int) (p : Nat) (r : Nat) (H : Heap) (nx : Nat) (K : EndP) : Prop :=
 ifB near (call f_h_Pick [iv n, iv 9] H nx fun e0 H1 i2 => onEnd e0 (fun v3 => ∃ n4 : Int, v3 = iv n4 ∧ call f_pf_Hot [AVal.ptr p 0, iv n4] H1 i2 fun e5 H6 i7 => onEnd e5 (fun v8 => call 15
 [AVal.ptr r 0, iv n4] H6 i7 fun e9 H10 i11 => onEnd e9 (fun v12 => ∃ i13, lenS v8 = some i13 ∧ ∃ i14, lenS v12 = some i14 ∧ ifB (!decide (Int.ofNat i13 = Int.ofNat i14)) (K
 (AEnd.ret (AVal.bool false)) H10 i11) (lp 165 (subAt (codeOf PG 4) [1, 1, 1, 1, 1, 1, 1, 1, 1, 1, 0, 1, 0, 0]) (envL AVal.und [(18, iv 0), (145, AVal.bool false), (145,
 AVal.bool !decide (Int.ofNat i13 = Int.ofNat i14)), (144, iv (Int.ofNat i14)), (143, v12), (142, iv (Int.ofNat i13)), (141, v8), (17, v12), (140, v12), (139, iv n4), (138, AVal.ptr
 r 0), (16, v8), (137, v8), (136, iv n4), (135, AVal.ptr p 0), (15, iv n4), (134, iv n4), (133, iv n), (132, AVal.bool true), (132, AVal.bool near), (15, iv n), (131, iv n), (1,
 AVal.bool near), (2, iv n), (6, AVal.bool false), (7, AVal.ptr p 0), (8, AVal.ptr r 0)]) H10 i11 [] none (contAt PG call (lp 165) 165 (codeOf PG 4) [1, 1, 1, 1, 1, 1, 1,
 1, 1, 1, 0, 1, 0] (endK PG lv lvc K (resOf PG 4))))) fun l15 => K (AEnd.pan l15) H10 i11) fun l16 => K (AEnd.pan l16) H6 i7) fun l17 => K (AEnd.pan l17) H1 i2) (call 9
 [AVal.ptr p 0, iv n] H nx fun e18 H19 i20 => onEnd e18 (fun v21 => call f_r10p_Hot [AVal.ptr r 0, iv n] H19 i20 fun e22 H23 i24 => onEnd e22 (fun v25 => ∃ i26, lenS v21 = some i26 ∧ ∃ i27,
 lenS v25 = some i27 ∧ ifB (!decide (Int.ofNat i26 = Int.ofNat i27)) (K (AEnd.ret (AVal.bool false)) H23 i24) (lp 165 (subAt (codeOf PG 4) [1, 1, 1, 1, 1, 1, 1, 1, 1, 1, 0, 1,
 0, 0]) (envL AVal.und [(18, iv 0), (145, AVal.bool false), (145, AVal.bool !decide (Int.ofNat i26 = Int.ofNat i27)), (144, iv (Int.ofNat i27)), (143, v25), (142, iv (Int.ofNat
 i26)), (141, v21), (17, v25), (140, v25), (139, iv n), (138, AVal.ptr r 0), (16, v21), (137, v21), (136, iv n), (135, AVal.ptr p 0), (132, AVal.bool false), (132, AVal.bool near),
 (15, iv n), (131, iv n), (1, AVal.bool near), (2, iv n), (6, AVal.bool false), (7, AVal.ptr p 0), (8, AVal.ptr r 0)]) H23 i24 [] none (contAt PG call (lp 165) 165 (codeOf
 PG 4) [1, 1, 1, 1, 1, 1, 1, 1, 1, 1, 0, 1, 0] (endK PG lv lvc K (resOf PG 4))))) fun l28 => K (AEnd.pan l28) H23 i24) fun l29 => K (AEnd.pan l29) H19 i20)
theorem PaV_eq (call : CallP) (lp : Nat → LoopP) (lv : LeaveP) (lvc : LeaveC) (near : Bool) (n : Int) (p : Nat) (r : Nat) (H : Heap) (nx : Nat) (K : EndP) : contAt PG call (lp 165) 165 (codeOf PG 4) [1,1,1,1,0,1,0] (endK PG lv lvc K (resOf PG 4)) (.exit 0) (envL .und [(1, AVal.bool near), (2, iv n), (6, AVal.bool false), (7, AVal.ptr p 0), (8, AVal.ptr r 0)]) H nx [] none = PaV call lp lv lvc near n p r H nx K := by kernel_rfl
def PaS (call : CallP) (lp : Nat → LoopP) (N : KC) (X : Nat → KC) (R : KC) (Pn : List (AVal × Bool) → KC) (p : Nat) (r : Nat) (a : AVal) (b : AVal) (i : Int) (H : Heap) (nx : Nat) : Prop :=
 ∃ i0, lenS a = some i0 ∧ ifB (decide (i < Int.ofNat i0)) (0 ≤ i ∧ ∃ v1, idxS a i.toNat 5 = some v1 ∧ ∃ n2 n3 n4 n5 v6, ldN H 5 v1 = some (AVal.agg [iv n2, iv n3, iv n4, iv n5, v6])
 ∧ 0 ≤ i ∧ ∃ v7, idxS b i.toNat 5 = some v7 ∧ ∃ n8 n9 n10 n11 v12, ldN H 5 v7 = some (AVal.agg [iv n8, iv n9, iv n10, iv n11, v12]) ∧ ((∃ n13 n14 n15 n16 v17, ldN H 5 v1 = some
 (AVal.agg [iv n13, iv n14, iv n15, iv n16, v17]) ∧ AVal.agg [iv n13, iv n14, iv n15, iv n16, v17] = AVal.agg [iv n2, iv n3, iv n4, iv n5, v6]) ∧ (∃ n18 n19 n20 n21 v22, ldN H 5 v7 =
 some (AVal.agg [iv n18, iv n19, iv n20, iv n21, v22]) ∧ AVal.agg [iv n18, iv n19, iv n20, iv n21, v22] = AVal.agg [iv n8, iv n9, iv n10, iv n11, v12]) ∧ True) ∧ call f_r10_SameCount [AVal.agg
 [iv n2, iv n3, iv n4, iv n5, v6], AVal.agg [iv n8, iv n9, iv n10, iv n11, v12]] H (nx + 10) fun e23 H24 i25 => onEnd e23 (fun v26 => ∃ b27, v26 = AVal.bool b27 ∧ True ∧ ifB (!b27)
 (R (envL AVal.und [(6, AVal.bool false), (7, AVal.ptr p 0), (8, AVal.ptr r 0), (16, a), (17, b), (18, iv i)]) H24 i25 [] none) (N (envL AVal.und [(6, AVal.bool false), (7, AVal.ptr
 p 0), (8, AVal.ptr r 0), (16, a), (17, b), (18, iv (IntKind.i64.wrap (i + 1)))]) H24 i25 [] none)) fun l28 => Pn l28 (envL AVal.und [(6, AVal.bool false), (7, AVal.ptr p 0), (8,
 AVal.ptr r 0), (16, a), (17, b), (18, iv i)]) H24 i25 [] none) (X 6 (envL AVal.und [(6, AVal.bool false), (7, AVal.ptr p 0), (8, AVal.ptr r 0), (16, a), (17, b), (18, iv i)]) H nx
 [] none)
theorem PaS_eq (call : CallP) (lp : Nat → LoopP) (N : KC) (X : Nat → KC) (R : KC) (Pn : List (AVal × Bool) → KC) (p : Nat) (r : Nat) (a : AVal) (b : AVal) (i : Int) (H : Heap) (nx : Nat) : vK PG call (lp 165) 165 (subAt (codeOf PG 4) [1,1,1,1,1,1,1,1,1,1,0,1,0,0]) (envL .und [(6, AVal.bool false), (7, AVal.ptr p 0), (8, AVal.ptr r 0), (16, a), (17, b), (18, iv i)]) H nx [] none (trimK [6,7,8,16,17,18] (loopK N X R Pn)) = PaS call lp N X R Pn p r a b i H nx := by kernel_rfl
def PaE (call : CallP) (lp : Nat → LoopP) (lv : LeaveP) (lvc : LeaveC) (p : Nat) (r : Nat) (H : Heap) (nx : Nat) (K : EndP) : Prop :=
 call f_law13_same [AVal.ptr p 0, AVal.ptr r 0] H nx fun e0 H1 i2 => onEnd e0 (fun v3 => ∃ b4, v3 = AVal.bool b4 ∧ K (AEnd.ret (AVal.bool b4)) H1 i2) fun l5 => K (AEnd.pan l5) H1 i2
theorem PaE_eq (call : CallP) (lp : Nat → LoopP) (lv : LeaveP) (lvc : LeaveC) (p : Nat) (r : Nat) (H : Heap) (nx : Nat) (K : EndP) : contAt PG call (lp 165) 165 (codeOf PG 4) [1,1,1,1,1,1,1,1,1,1,0,1,0] (endK PG lv lvc K (resOf PG 4)) (.exit 6) (envL .und [(7, AVal.ptr p 0), (8, AVal.ptr r 0)]) H nx [] none = PaE call lp lv lvc p r H nx K := by kernel_rfl
end Go.Vs
end
section
namespace Go.Vs
open Go.Proofs Go.Sort Go.Hp
variable [GTab]
noncomputable section
section
variable {M : MM} {A A' : Owned} {F : Facts} {H : Heap} {nx : Nat} {K : EndP}
theorem ents_of {mb : Nat} {L : List (Nat × GRow)} (h : SM M A F H nx) (hm : M mb = some (.map (gents L) L.length)) : entsOf H (.map mb) = some (gents L) := by
 have := h.atM hm
 unfold entsOf
 simp only [this]
theorem of_ok {p mb : Nat} {L : List (Nat × GRow)} {f g : Int} (h : SM M A F H nx) (hp : RowF p [.map mb] ∈ F) (hm : M mb = some (.map (gents L) L.length)) (hL : EntF L ∈ F) (h4 : ∀ q ∈ L, q.2.2.ts.length ≤ 4)
  (hno : findL f g (cnts L) = none → ∀ H' nx', nx ≤ nx' → SM M A F H' nx' → K (.ret (.agg [iv f, iv g, iv 0, iv 0, .nilSlice])) H' nx')
  (hyes : ∀ x : Cnt, findL f g (cnts L) = some x → x.ts.length ≤ 4 → ∀ e full H' nx', nx ≤ nx' → SM M ((e, tcells x.ts) :: A) F H' nx' → K (.ret (.agg [iv x.a, iv x.b, iv x.c, iv x.d, .slice e 0 x.ts.length 2 full])) H' nx') :
  TriP PG f_pf_Of [.ptr p 0, iv f, iv g] H nx K := by
 refine TriP.of_body mixed ?_
 rw [Fpf_Of_eq]
 unfold Fpf_Of
 refine h.new (Nat.le_refl _) fun H0 p0 => ⟨rfl, _, rfl, _, p0.row1 hp 0, rfl, rfl, rfl, _, ents_of p0 hm, ?_⟩
 rcases find_ent 0 (.nilSlice, ⟨f, g, 0, 0, []⟩) L 0 0 with ⟨h1, _, _, h3⟩ | ⟨j, q, h1, h2, h3, _, _⟩
 ·refine ⟨none, h1, fun i v e => (by cases e), fun _ => ⟨rfl, rfl, p0.all .hd rfl rfl fun H1 p1 => ⟨_, _, _, _, _, p1.ldAll .hd rfl, hno h3 _ _ (by omega) p1.drop⟩⟩⟩
 ·refine ⟨some (0 + j, .ptr q.1 0), h1, fun i v e => ?_, fun e => by cases e⟩
  cases e
  have p1 := p0.add (P := TyR q.2.1 q.2.2.ts) fun Γ w => (w (EntF L) hL q h2).2
  have p2 := p1.add (P := RowF q.1 q.2.v.vals) fun Γ w => (w (EntF L) (.tail _ hL) q h2).1
  refine ⟨rfl, _, _, _, _, _, p2.rowAll (.head _) rfl, ?_⟩
  refine gcopied_ok (x := q.2) p2 (.tail _ (.head _)) (by have := h4 q h2; omega) fun e full H1 n1 g1 p3 => onEnd_ret.2 ⟨_, _, _, _, _, rfl, ?_⟩
  refine p3.all (.tl .hd) rfl rfl fun H2 p4 => ⟨_, _, _, _, _, p4.ldAll (.tl .hd) rfl, ?_⟩
  exact hyes _ h3 (h4 q h2) e full H2 n1 (by omega) (SM.sub (p4.sel (List.Sublist.cons_cons _ (List.Sublist.cons _ (List.Sublist.refl _)))) fun P hP => .tail _ (.tail _ hP))
theorem vals_cellG {v : VRow} (h : cellv v.t = true) : allCell v.vals = true := by unfold VRow.vals; simp only [allCell, h]; rfl
def LstF (o : AVal) (rows : List GRow) : GH → Prop := fun Γ => ((o = .nilSlice ∧ rows = []) ∨ ∃ b full tl, o = .slice b 0 rows.length 5 full ∧ Γ b = some ((vs rows).flatMap VRow.vals ++ tl)) ∧ ∀ x ∈ rows, TyR x.1 x.2.ts Γ
theorem LstF.nil (Γ : GH) : LstF .nilSlice [] Γ := ⟨.inl ⟨rfl, rfl⟩, by simp⟩
section
variable {o : AVal} {rows : List GRow}
theorem lst_len (h : SM M A F H nx) (ho : LstF o rows ∈ F) : lenS o = some rows.length := by
 obtain ⟨Γ, h1, h2, _⟩ := h.factG ho
 rcases h2 with ⟨rfl, rfl⟩ | ⟨b, full, tl, rfl, _⟩ <;> rfl
theorem lflat_at : ∀ {l : List VRow} {i : Nat} (hi : i < l.length), ((l.flatMap VRow.vals).drop (i * 5)).take 5 = (l[i]'hi).vals ∧ i * 5 + 5 ≤ (l.flatMap VRow.vals).length
 | x :: l, 0, _ => ⟨rfl, by rw [flat_len, List.length_cons]; omega⟩
 | x :: l, i + 1, hi => by
  have h := lflat_at (l := l) (i := i) (by simpa using hi)
  refine ⟨?_, by rw [flat_len]; simp at hi ⊢; omega⟩
  rw [List.flatMap_cons, show (i + 1) * 5 = x.vals.length + i * 5 by rw [vals_len]; omega, ← List.drop_drop, List.drop_left']
  ·exact h.1
  ·rfl
theorem lst_at (h : SM M A F H nx) (ho : LstF o rows ∈ F) {i : Nat} (hi : i < rows.length) :
  ∃ b, idxS o (i : Int).toNat 5 = some (.ptr b (i * 5)) ∧ ldN H 5 (.ptr b (i * 5)) = some (.agg (rows[i]'hi).v.vals) ∧ ∀ r : Nat, r < 5 → ld1 H (.ptr b (i * 5 + r)) = (rows[i]'hi).v.vals[r]? := by
 obtain ⟨Γ, h1, h2, _⟩ := h.factG ho
 rcases h2 with ⟨rfl, rfl⟩ | ⟨b, full, tl, rfl, hb⟩
 ·simp at hi
 ·have hi' : i < (vs rows).length := by simpa using hi
  obtain ⟨e1, e2⟩ := lflat_at hi'
  have e3 : (vs rows)[i]'hi' = (rows[i]'hi).v := by simp
  rw [e3] at e1
  rw [← List.take_append_of_le_length (l₂ := tl) (by rw [List.length_drop]; omega), ← List.drop_append_of_le_length (by omega)] at e1
  refine ⟨b, by rw [Int.toNat_natCast, idxS_slice hi, Nat.zero_add], by rw [h1.ldN hb (by rw [List.length_append]; omega), e1], fun r hr => ?_⟩
  rw [h1.ld1 hb, ← e1, List.getElem?_take_of_lt hr, List.getElem?_drop]
theorem lst_ty (h : SM M A F H nx) (ho : LstF o rows ∈ F) {i : Nat} (hi : i < rows.length) : SM M A (TyR (rows[i]'hi).1 (rows[i]'hi).2.ts :: F) H nx :=
 h.add fun Γ q => (q _ ho).2 _ (List.getElem_mem hi)
theorem RFnd_eq (call : CallP) (lp : LoopP) (lv : LeaveP) (lvc : LeaveC) (K : EndP) (r : Nat) (f g i : Int) (H : Heap) (nx : Nat) (rc : Option AMode) :
  contAt PG call lp 40 (codeOf PG 26) [1, 0, 1, 0] (endK PG lv lvc K (resOf PG 26)) .ret (envL .und [(0, .ptr r 0), (1, iv f), (2, iv g), (6, iv i), (7, iv i)]) H nx [] rc = K (.ret (iv i)) H nx := by kernel_rfl
theorem rfind_ok {r : Nat} {f g : Int} (h : SM M A F H nx) (hr : Own A r [o]) (ho : LstF o rows ∈ F) (hN : rows.length ≤ 4000)
  (hno : (∀ x ∈ rows, ¬ (x.2.a = f ∧ x.2.b = g)) → K (.ret (iv (-1))) H nx)
  (hyes : ∀ (i : Nat) (hi : i < rows.length), (rows[i]'hi).2.a = f ∧ (rows[i]'hi).2.b = g → K (.ret (iv (i : Int))) H nx) : TriP PG f_r10p_find [.ptr r 0, iv f, iv g] H nx K := by
 refine TriP.of_body mixed ?_
 rw [Fr10p_find_eq]
 unfold Fr10p_find
 refine loop_w (P := PG) (X := Nat) (Y := Unit) (fun i => envL .und [(0, .ptr r 0), (1, iv f), (2, iv g), (6, iv 0), (7, iv (i : Int))]) (fun _ => envL .und [(6, iv 0)])
  (fun m i H1 nx1 => H1 = H ∧ nx1 = nx ∧ m + i = rows.length ∧ ∀ x ∈ rows.take i, ¬ (x.2.a = f ∧ x.2.b = g))
  (fun id _ H1 nx1 => id = 0 ∧ H1 = H ∧ nx1 = nx ∧ ∀ x ∈ rows, ¬ (x.2.a = f ∧ x.2.b = g)) rows.length 0 (EnvLe.of_list (by exact ⟨rfl, rfl, rfl, rfl, rfl, trivial⟩)) ⟨rfl, rfl, rfl, by simp⟩ ?_ ?_
 ·rintro m i H1 nx1 ⟨rfl, rfl, hm, hno'⟩
  refine WpP.part (ts := [0, 1, 2, 6, 7]) mixed ?_
  rw [GFnd_eq]
  unfold GFnd
  refine ⟨rfl, _, rfl, _, h.ld1 hr 0, _, lst_len h ho, ifB_iff.2 ⟨fun hc => ?_, fun hc => ?_⟩⟩
  ·have hc : (i : Int) < Int.ofNat rows.length := of_decide_eq_true hc
   simp only [Int.ofNat_eq_natCast] at hc
   have hi : i < rows.length := by omega
   obtain ⟨b, e1, _, e2⟩ := lst_at h ho hi
   have e0 : IntKind.i64.wrap ((i : Int) + 1) = ((i + 1 : Nat) : Int) := by rw [wrap64_id (by omega) (by omega)]; omega
   have on : ¬ (rows[i].2.a = f ∧ rows[i].2.b = g) → ∀ x ∈ rows.take (i + 1), ¬ (x.2.a = f ∧ x.2.b = g) := fun hn x hx => by
    rw [List.take_add_one, List.getElem?_eq_getElem hi] at hx
    rcases List.mem_append.1 hx with hx | hx
    ·exact hno' x hx
    ·simp at hx; subst hx; exact hn
   rw [e0]
   refine ⟨rfl, _, rfl, _, h.ld1 hr 0, by omega, _, e1, _, rfl, _, e2 0 (by omega), ifB_iff.2 ⟨fun ha => ?_, fun ha => ?_⟩⟩
   ·have ha : rows[i].2.a = f := of_decide_eq_true ha
    refine ⟨rfl, _, rfl, _, h.ld1 hr 0, by omega, _, e1, _, rfl, _, e2 1 (by omega), ifB_iff.2 ⟨fun hb => ?_, fun hb => ?_⟩⟩
    ·show contAt PG _ _ 40 _ _ _ _ _ _ _ _ _
     rw [RFnd_eq]
     exact hyes i hi ⟨ha, of_decide_eq_true hb⟩
    ·have hb : ¬ rows[i].2.b = g := of_decide_eq_false hb
     exact ⟨rfl, m - 1, i + 1, by omega, EnvLe.of_list (by exact ⟨rfl, rfl, rfl, rfl, rfl, trivial⟩), rfl, rfl, by omega, on fun q => hb q.2⟩
   ·have ha : ¬ rows[i].2.a = f := of_decide_eq_false ha
    exact ⟨rfl, m - 1, i + 1, by omega, EnvLe.of_list (by exact ⟨rfl, rfl, rfl, rfl, rfl, trivial⟩), rfl, rfl, by omega, on fun q => ha q.1⟩
  ·have hc : ¬ (i : Int) < Int.ofNat rows.length := of_decide_eq_false hc
   simp only [Int.ofNat_eq_natCast] at hc
   refine ⟨rfl, (), EnvLe.of_list (by exact ⟨rfl, trivial⟩), rfl, rfl, rfl, ?_⟩
   rw [List.take_of_length_le (by omega)] at hno'
   exact hno'
 ·rintro id _ H1 nx1 ⟨rfl, rfl, rfl, hn⟩
  rw [GFndA_eq (_u := 0)]
  unfold GFndA
  exact hno hn
theorem rof_ok {r : Nat} {f g : Int} (h : SM M A F H nx) (hr : Own A r [o]) (ho : LstF o rows ∈ F) (hN : rows.length ≤ 4000)
  (hno : (∀ x ∈ rows, ¬ (x.2.a = f ∧ x.2.b = g)) → ∀ H' nx', nx ≤ nx' → SM M A F H' nx' → K (.ret (.agg [iv f, iv g, iv 0, iv 0, .nilSlice])) H' nx')
  (hyes : ∀ x ∈ rows, x.2.a = f ∧ x.2.b = g → ∀ H' nx', nx ≤ nx' → SM M A (TyR x.1 x.2.ts :: F) H' nx' → K (.ret (.agg [iv x.2.a, iv x.2.b, iv x.2.c, iv x.2.d, x.1])) H' nx') : TriP PG f_r10p_Of [.ptr r 0, iv f, iv g] H nx K := by
 refine TriP.of_body mixed ?_
 rw [Fr10p_Of_eq]
 unfold Fr10p_Of
 refine h.new (Nat.le_refl _) fun H0 p0 => ?_
 refine rfind_ok p0 (.tl hr) ho hN (fun hn => onEnd_ret.2 ⟨_, rfl, ifB_f rfl ?_⟩) fun i hi hx => onEnd_ret.2 ⟨_, rfl, ifB_t (decide_eq_true (by omega)) ?_⟩
 ·exact ⟨rfl, rfl, p0.all .hd rfl rfl fun H1 p1 => ⟨_, _, _, _, _, p1.ldAll .hd rfl, hno hn H1 _ (by omega) p1.drop⟩⟩
 ·obtain ⟨b, e1, e2, _⟩ := lst_at p0 ho hi
  have q := lst_ty p0 ho hi
  have hc := gty_cell q (.head _)
  refine ⟨rfl, _, rfl, _, p0.ld1 (.tl hr) 0, by omega, _, e1, _, _, _, _, _, e2, ?_⟩
  refine q.all .hd rfl (vals_cellG (v := rows[i].v) hc) fun H1 p1 => ⟨_, _, _, _, _, p1.ldAll .hd rfl, ?_⟩
  exact hyes _ (List.getElem_mem hi) hx H1 _ (by omega) p1.drop
end
end
end
end Go.Vs
end
section
namespace Go.Vs
open Go.Proofs Go.Sort Go.Hp
variable [GTab]
noncomputable section
section
variable {M : MM} {A : Owned} {F : Facts} {H : Heap} {nx : Nat} {K : EndP} {o : AVal} {rows : List GRow}
theorem set_code : subAt (codeOf PG 25) [1, 1, 1, 1, 0, 1, 0, 0] = .seq (subAt (codeOf PG 25) [1, 1, 1, 1, 0, 1, 0, 0, 0]) (.seq (.block 1 (.seq (subAt (codeOf PG 25) [1, 1, 1, 1, 0, 1, 0, 0, 1, 0, 0, 0])
  (.seq (.seq (subAt (codeOf PG 25) [1, 1, 1, 1, 0, 1, 0, 0, 1, 0, 0, 1, 0, 0]) (.cond (.tmp 50) (.exit 1) .skip)) (.seq (.seq (subAt (codeOf PG 25) [1, 1, 1, 1, 0, 1, 0, 0, 1, 0, 0, 1, 1, 0, 0])
   (.cond (.tmp 73) (subAt (codeOf PG 25) [1, 1, 1, 1, 0, 1, 0, 0, 1, 0, 0, 1, 1, 0, 1, 0]) .skip)) (subAt (codeOf PG 25) [1, 1, 1, 1, 0, 1, 0, 0, 1, 0, 0, 1, 1, 1])))))
  (subAt (codeOf PG 25) [1, 1, 1, 1, 0, 1, 0, 0, 1, 1])) := by kernel_rfl
theorem OutA.ownG {A0 : Owned} {o : AVal} {rows : List VRow} {b : Nat} {cs : List AVal} (h : OutA A A0 o rows) (w : Own A b cs) : Own A0 b cs := by
 rcases h with ⟨_, _, rfl⟩ | ⟨b', _, rfl⟩
 ·exact w
 ·exact .tl w
theorem app_row {A0 : Owned} {ov : AVal} {out : List GRow} {x : GRow} {c : Nat} {k : AVal → Heap → Nat → Prop} (ha : OutA A A0 ov (vs out)) (p : SM M A0 F H nx) (hc : ldN H 5 (.ptr c 0) = some (.agg x.v.vals)) (hx : TyR x.1 x.2.ts ∈ F) (hR : RowsF out ∈ F) (hN : out.length ≤ 4000)
  (hK : ∀ v A1 H', OutA A A1 v (vs (out ++ [x])) → SM M A1 (RowsF (out ++ [x]) :: F) H' (nx + 1 + 1) → k v H' (nx + 1 + 1)) :
  ∃ (n0 n1 n2 n3 : Int) (v4 : AVal), ldN H 5 (.ptr c 0) = some (.agg [iv n0, iv n1, iv n2, iv n3, v4]) ∧ ∃ H5, H5 = newB nx [iv n0, iv n1, iv n2, iv n3, v4] H ∧ ∃ i6 l7, aSrc 5 H5 (.slice nx 0 1 5 true) = some (i6, l7) ∧ allCell l7 = true ∧ ∃ v8 H9 i10, appC H5 (nx + 1) 5 56 ov i6 l7 = some (v8, H9, i10) ∧ k v8 H9 i10 := by
 have hcell := gty_cell p hx
 refine ⟨_, _, _, _, _, hc, p.newF (Nat.le_refl _) fun H1 p1 => ⟨1, _, p1.src (b := nx) (off := 0) (n := 1) (sz := 5) (e := 5) (full := true) (.head _) (by simp), vals_cellG (v := x.v) hcell, ?_⟩⟩
 obtain ⟨v, H3, e3, A3, a3, p3⟩ := ha.app (x := x.v) p1 (by simpa using hN)
 refine ⟨v, H3, _, e3, hK v A3 H3 (by unfold vs at *; rw [List.map_append]; exact a3) ?_⟩
 refine (p3.add (P := RowsF (out ++ [x])) fun Γ w y hy => ?_).sub fun P hP => ?_
 ·rcases List.mem_append.1 hy with hy | hy
  ·exact w (RowsF out) (.tail _ hR) y hy
  ·simp at hy; subst hy; exact w _ (.tail _ hx)
 ·rcases List.mem_cons.1 hP with rfl | hP
  ·exact .head _
  ·exact .tail _ (.tail _ hP)
theorem setL_cons (c x : Cnt) (put : Bool) (M : List Cnt) : setL c put (x :: M) = if c.at_ x = true then setL c put M else if put = false ∧ PlLt c x then (if c.empty = true then [] else [c]) ++ x :: setL c true M else x :: setL c put M := rfl
def SetStep (x y : Cnt) (put put' : Bool) (out out' : List Cnt) : Prop :=
 (put = false ∧ PlLt x y ∧ put' = true ∧ out' = out ++ ((if x.empty = true then [] else [x]) ++ [y]) ∧ out'.length ≤ out.length + 2) ∨ (¬ (put = false ∧ PlLt x y) ∧ put' = put ∧ out' = out ++ [y] ∧ out'.length ≤ out.length + 1)
theorem rset_round {r : Nat} {x y : GRow} {e put : Bool} {b : Nat} {i : Nat} {ov : AVal} {out : List GRow} {A0 A2 : Owned} {K0 : KP} (he0 : e = x.2.empty) (ha : OutA A2 A0 ov (vs out)) (hb : Own A2 b x.v.vals) (p : SM M A0 F H nx) (hr : Own A0 r [o])
  (hx : TyR x.1 x.2.ts ∈ F) (hR : RowsF out ∈ F) (hN : out.length ≤ 3999) (ho : LstF o rows ∈ F) (hi : i < rows.length) (hy : rows[i]'hi = y)
  (hsame : x.2.at_ y.2 = true → ∀ H' nx', nx ≤ nx' → SM M A0 F H' nx' → ∀ env, EnvLe (envL .und [(0, .ptr r 0), (3, .ptr b 0), (4, ov), (5, .bool put), (6, .bool e), (7, iv (i : Int))]) env → K0 .normal env H' nx' [] none)
  (hnew : x.2.at_ y.2 = false → ∀ put' ov' out' A1 H' nx', nx ≤ nx' → SetStep x.2 y.2 put put' (cs_ out) (cs_ out') → OutA A2 A1 ov' (vs out') → SM M A1 (RowsF out' :: F) H' nx' → ∀ env, EnvLe (envL .und [(0, .ptr r 0), (3, .ptr b 0), (4, ov'), (5, .bool put'), (6, .bool e), (7, iv (i : Int))]) env → K0 .normal env H' nx' [] none) :
  WpP PG 98 (.block 1 (.seq (subAt (codeOf PG 25) [1, 1, 1, 1, 0, 1, 0, 0, 1, 0, 0, 0])
  (.seq (.seq (subAt (codeOf PG 25) [1, 1, 1, 1, 0, 1, 0, 0, 1, 0, 0, 1, 0, 0]) (.cond (.tmp 50) (.exit 1) .skip)) (.seq (.seq (subAt (codeOf PG 25) [1, 1, 1, 1, 0, 1, 0, 0, 1, 0, 0, 1, 1, 0, 0])
   (.cond (.tmp 73) (subAt (codeOf PG 25) [1, 1, 1, 1, 0, 1, 0, 0, 1, 0, 0, 1, 1, 0, 1, 0]) .skip)) (subAt (codeOf PG 25) [1, 1, 1, 1, 0, 1, 0, 0, 1, 0, 0, 1, 1, 1])))))
   (envL .und [(0, .ptr r 0), (3, .ptr b 0), (4, ov), (5, .bool put), (6, .bool e), (7, iv (i : Int))]) H nx [] K0 := by
 have hlast : ∀ put' ov' out' A1 H2 nx2, nx ≤ nx2 → ((put = false ∧ PlLt x.2 y.2 ∧ put' = true ∧ cs_ out' = cs_ out ++ (if x.2.empty = true then [] else [x.2]) ∧ out'.length ≤ out.length + 1) ∨ (¬ (put = false ∧ PlLt x.2 y.2) ∧ put' = put ∧ out' = out)) →
   x.2.at_ y.2 = false → OutA A2 A1 ov' (vs out') → SM M A1 (RowF nx y.v.vals :: TyR y.1 y.2.ts :: RowsF out' :: F) H2 nx2 → ∀ env, EnvLe (envL .und [(0, .ptr r 0), (3, .ptr b 0), (4, ov'), (5, .bool put'), (6, .bool e), (7, iv (i : Int)), (8, .ptr nx 0)]) env →
   WpP PG 98 (subAt (codeOf PG 25) [1, 1, 1, 1, 0, 1, 0, 0, 1, 0, 0, 1, 1, 1]) env H2 nx2 [] (blockK 1 K0) := by
  intro put' ov' out' A1 H2 nx2 g2 hst hat ha' p' env hen
  have hlen : out'.length ≤ out.length + 1 := by
   rcases hst with ⟨_, _, _, _, h⟩ | ⟨_, _, rfl⟩ <;> omega
  refine WpP.weaken hen (WpP.part (ts := [0, 3, 4, 5, 6, 7]) mixed ?_)
  rw [SeF_eq]
  unfold SeF
  refine app_row (x := y) (out := out') ha' p' (p'.rowAll (.head _) rfl) (.tail _ (.head _)) (.tail _ (.tail _ (.head _))) (by omega) fun v A3 H3 ha3 p3 => ?_
  refine hnew hat put' v (out' ++ [y]) A3 H3 _ (by omega) ?_ ha3 (p3.sub fun P hP => ?_) _ (EnvLe.of_list (by exact ⟨rfl, rfl, rfl, rfl, rfl, rfl, trivial⟩))
  ·rcases hst with ⟨h1, h2, h3, h4, h5⟩ | ⟨h1, h2, rfl⟩
   ·refine .inl ⟨h1, h2, h3, ?_, ?_⟩
    ·have : cs_ (out' ++ [y]) = cs_ out' ++ [y.2] := by unfold cs_; rw [List.map_append]; rfl
     rw [this, h4, List.append_assoc]
    ·simp [cs_]; omega
   ·refine .inr ⟨h1, h2, ?_, ?_⟩
    ·unfold cs_; rw [List.map_append]; rfl
    ·simp [cs_]
  ·rcases List.mem_cons.1 hP with rfl | hP
   ·exact .head _
   ·exact .tail _ (.tail _ (.tail _ (.tail _ hP)))
 refine WpP.block (WpP.seq (WpP.part (ts := [0, 3, 4, 5, 6, 7, 8]) mixed ?_))
 rw [SeX_eq]
 unfold SeX
 obtain ⟨cb, i1, i2, _⟩ := lst_at p ho hi
 have q := lst_ty p ho hi
 rw [hy] at i2 q
 have hty := gty_cell q (.head _)
 refine ⟨rfl, _, rfl, _, p.ld1 hr 0, by omega, _, i1, _, _, _, _, _, i2, q.new (Nat.le_refl _) fun H2 p2 => p2.all .hd rfl (vals_cellG (v := y.v) hty) fun H3 p3 => ?_⟩
 have pf := p3.freeze
 have hb0 : Own A0 b x.v.vals := ha.ownG hb
 have c73 : x.2.at_ y.2 = false → ∀ env, EnvLe (envL .und [(0, .ptr r 0), (3, .ptr b 0), (4, ov), (5, .bool put), (6, .bool e), (7, iv (i : Int)), (8, .ptr nx 0)]) env →
   WpP PG 98 (.seq (.seq (subAt (codeOf PG 25) [1, 1, 1, 1, 0, 1, 0, 0, 1, 0, 0, 1, 1, 0, 0]) (.cond (.tmp 73) (subAt (codeOf PG 25) [1, 1, 1, 1, 0, 1, 0, 0, 1, 0, 0, 1, 1, 0, 1, 0]) .skip)) (subAt (codeOf PG 25) [1, 1, 1, 1, 0, 1, 0, 0, 1, 0, 0, 1, 1, 1])) env H3 (nx + 1) [] (blockK 1 K0) := by
  intro hat env hen
  refine WpP.weaken hen (WpP.seq (WpP.seq (WpP.part (ts := [0, 3, 4, 5, 6, 7, 8, 73]) mixed ?_)))
  rw [SeD_eq]
  unfold SeD
  have pr : SM M A0 (RowF nx y.v.vals :: TyR y.1 y.2.ts :: RowsF out :: F) H3 (nx + 1) := pf.sub fun P hP => by
   rcases List.mem_cons.1 hP with rfl | hP
   ·exact .head _
   ·rcases List.mem_cons.1 hP with rfl | hP
    ·exact .tail _ (.head _)
    ·rcases List.mem_cons.1 hP with rfl | hP
     ·exact .tail _ (.tail _ hR)
     ·exact .tail _ (.tail _ hP)
  have yes : put = false ∧ PlLt x.2 y.2 → ∀ env, EnvLe (envL .und [(0, .ptr r 0), (3, .ptr b 0), (4, ov), (5, .bool put), (6, .bool e), (7, iv (i : Int)), (8, .ptr nx 0), (73, .bool true)]) env →
    WpP PG 98 (.cond (.tmp 73) (subAt (codeOf PG 25) [1, 1, 1, 1, 0, 1, 0, 0, 1, 0, 0, 1, 1, 0, 1, 0]) .skip) env H3 (nx + 1) [] (thenK (fun env H nx dfs => WpP PG 98 (subAt (codeOf PG 25) [1, 1, 1, 1, 0, 1, 0, 0, 1, 0, 0, 1, 1, 1]) env H nx dfs (blockK 1 K0)) (blockK 1 K0)) := by
   intro hp env hen
   refine WpP.weaken hen (WpP.cond (p := true) rfl (WpP.weaken (e := envL .und [(0, .ptr r 0), (3, .ptr b 0), (4, ov), (5, .bool put), (6, .bool e), (7, iv (i : Int)), (8, .ptr nx 0)]) (EnvLe.of_list (by exact ⟨rfl, rfl, rfl, rfl, rfl, rfl, rfl, trivial⟩)) (WpP.part (ts := [0, 3, 4, 5, 6, 7, 8]) mixed ?_)))
   rw [SeE_eq]
   unfold SeE
   refine ifB_iff.2 ⟨fun hq => ?_, fun hq => ?_⟩
   ·have hq : x.2.empty = false := by rw [← he0]; simpa using hq
    refine app_row (x := x) (out := out) ha pr (pr.ldAll hb0 rfl) (.tail _ (.tail _ (.tail _ hx))) (.tail _ (.tail _ (.head _))) (by omega) fun v A3 H4 ha3 p4 => ?_
    refine hlast true v (out ++ [x]) A3 H4 _ (by omega) (.inl ⟨hp.1, hp.2, rfl, ?_, by simp⟩) hat ha3 (p4.sub fun P hP => ?_) _ (EnvLe.of_list (by exact ⟨rfl, rfl, rfl, rfl, rfl, rfl, rfl, trivial⟩))
    ·rw [if_neg (by rw [hq]; decide)]; unfold cs_; rw [List.map_append]; rfl
    ·rcases List.mem_cons.1 hP with rfl | hP
     ·exact .tail _ (.head _)
     ·rcases List.mem_cons.1 hP with rfl | hP
      ·exact .tail _ (.tail _ (.head _))
      ·rcases List.mem_cons.1 hP with rfl | hP
       ·exact .head _
       ·exact .tail _ (.tail _ (.tail _ (.tail _ hP)))
   ·have hq : x.2.empty = true := by rw [← he0]; simpa using hq
    exact hlast true ov out A0 H3 _ (by omega) (.inl ⟨hp.1, hp.2, rfl, by rw [if_pos hq]; simp, by omega⟩) hat ha pr _ (EnvLe.of_list (by exact ⟨rfl, rfl, rfl, rfl, rfl, rfl, rfl, trivial⟩))
  have no : ¬ (put = false ∧ PlLt x.2 y.2) → ∀ env, EnvLe (envL .und [(0, .ptr r 0), (3, .ptr b 0), (4, ov), (5, .bool put), (6, .bool e), (7, iv (i : Int)), (8, .ptr nx 0), (73, .bool false)]) env →
    WpP PG 98 (.cond (.tmp 73) (subAt (codeOf PG 25) [1, 1, 1, 1, 0, 1, 0, 0, 1, 0, 0, 1, 1, 0, 1, 0]) .skip) env H3 (nx + 1) [] (thenK (fun env H nx dfs => WpP PG 98 (subAt (codeOf PG 25) [1, 1, 1, 1, 0, 1, 0, 0, 1, 0, 0, 1, 1, 1]) env H nx dfs (blockK 1 K0)) (blockK 1 K0)) := by
   intro hp env hen
   refine WpP.weaken hen (WpP.cond (p := false) rfl (WpP.skip ?_))
   exact hlast put ov out A0 H3 _ (by omega) (.inr ⟨hp, rfl, rfl⟩) hat ha pr _ (EnvLe.of_list (by exact ⟨rfl, rfl, rfl, rfl, rfl, rfl, rfl, trivial⟩))
  have l0 : ∀ j, ld1 H3 (.ptr b j) = x.v.vals[j]? := fun j => pr.ld1 hb0 j
  have l1 : ∀ j, ld1 H3 (.ptr nx j) = y.v.vals[j]? := fun j => pr.row1 (.head _) j
  refine ifB_iff.2 ⟨fun hp => ?_, fun hp => no (fun q => by rw [q.1] at hp; simp at hp) _ (EnvLe.of_list (by exact ⟨rfl, rfl, rfl, rfl, rfl, rfl, rfl, rfl, trivial⟩))⟩
  have hp : put = false := by simpa using hp
  refine ⟨_, rfl, _, l0 0, _, rfl, _, l1 0, ifB_iff.2 ⟨fun hl => yes ⟨hp, .inl (of_decide_eq_true hl)⟩ _ (EnvLe.of_list (by exact ⟨rfl, rfl, rfl, rfl, rfl, rfl, rfl, rfl, trivial⟩)), fun hl => ?_⟩⟩
  have hl : ¬ x.2.a < y.2.a := of_decide_eq_false hl
  refine ⟨_, rfl, _, l0 0, _, rfl, _, l1 0, ifB_iff.2 ⟨fun hq => ?_, fun hq => no (fun q => ?_) _ (EnvLe.of_list (by exact ⟨rfl, rfl, rfl, rfl, rfl, rfl, rfl, rfl, trivial⟩))⟩⟩
  ·have hq : x.2.a = y.2.a := of_decide_eq_true hq
   refine ⟨_, rfl, _, l0 1, _, rfl, _, l1 1, ?_⟩
   by_cases hbl : x.2.b < y.2.b
   ·rw [show decide (x.v.b < y.v.b) = true from decide_eq_true hbl]
    exact yes ⟨hp, .inr ⟨hq, hbl⟩⟩ _ (EnvLe.of_list (by exact ⟨rfl, rfl, rfl, rfl, rfl, rfl, rfl, rfl, trivial⟩))
   ·rw [show decide (x.v.b < y.v.b) = false from decide_eq_false hbl]
    exact no (fun q => by unfold PlLt at q; omega) _ (EnvLe.of_list (by exact ⟨rfl, rfl, rfl, rfl, rfl, rfl, rfl, rfl, trivial⟩))
  ·have hq : ¬ x.2.a = y.2.a := of_decide_eq_false hq
   unfold PlLt at q; omega
 have c50 : ∀ t : Bool, t = x.2.at_ y.2 → ∀ env, EnvLe (envL .und [(0, .ptr r 0), (3, .ptr b 0), (4, ov), (5, .bool put), (6, .bool e), (7, iv (i : Int)), (8, .ptr nx 0), (50, .bool t)]) env →
   WpP PG 98 (.cond (.tmp 50) (.exit 1) .skip) env H3 (nx + 1) [] (thenK (fun env H nx dfs => WpP PG 98 (.seq (.seq (subAt (codeOf PG 25) [1, 1, 1, 1, 0, 1, 0, 0, 1, 0, 0, 1, 1, 0, 0]) (.cond (.tmp 73) (subAt (codeOf PG 25) [1, 1, 1, 1, 0, 1, 0, 0, 1, 0, 0, 1, 1, 0, 1, 0]) .skip)) (subAt (codeOf PG 25) [1, 1, 1, 1, 0, 1, 0, 0, 1, 0, 0, 1, 1, 1])) env H nx dfs (blockK 1 K0)) (blockK 1 K0)) := by
  intro t ht env hen
  cases t with
  | true =>
   refine WpP.weaken hen (WpP.cond (p := true) rfl (WpP.of_vK mixed ?_))
   exact hsame ht.symm H3 _ (by omega) (p3.drop.sub fun P hP => .tail _ hP) _ (EnvLe.of_list (by exact ⟨rfl, rfl, rfl, rfl, rfl, rfl, trivial⟩))
  | false =>
   refine WpP.weaken hen (WpP.cond (p := false) rfl (WpP.skip ?_))
   exact c73 ht.symm _ (EnvLe.of_list (by exact ⟨rfl, rfl, rfl, rfl, rfl, rfl, rfl, trivial⟩))
 refine WpP.seq (WpP.seq (WpP.part (ts := [0, 3, 4, 5, 6, 7, 8, 50]) mixed ?_))
 rw [SeC_eq]
 unfold SeC
 have l0 : ∀ j, ld1 H3 (.ptr b j) = x.v.vals[j]? := fun j => p3.ld1 (.tl hb0) j
 have l1 : ∀ j, ld1 H3 (.ptr nx j) = y.v.vals[j]? := fun j => p3.ld1 .hd j
 refine ⟨_, rfl, _, l1 0, _, rfl, _, l0 0, ifB_iff.2 ⟨fun hq => ?_, fun hq => ?_⟩⟩
 ·have hq : y.2.a = x.2.a := of_decide_eq_true hq
  refine ⟨_, rfl, _, l1 1, _, rfl, _, l0 1, c50 _ ?_ _ (EnvLe.of_list (by exact ⟨rfl, rfl, rfl, rfl, rfl, rfl, rfl, rfl, trivial⟩))⟩
  unfold Cnt.at_
  rw [decide_eq_true hq]; rfl
 ·have hq : ¬ y.2.a = x.2.a := of_decide_eq_false hq
  refine c50 false ?_ _ (EnvLe.of_list (by exact ⟨rfl, rfl, rfl, rfl, rfl, rfl, rfl, rfl, trivial⟩))
  unfold Cnt.at_
  rw [decide_eq_false hq]; rfl
theorem rset_loop {r : Nat} {x : GRow} {e : Bool} {b : Nat} {K0 : KP} (h : SM M ((b, x.v.vals) :: A) F H nx) (he0 : e = x.2.empty) (hr : Own A r [o]) (ho : LstF o rows ∈ F) (hx : TyR x.1 x.2.ts ∈ F) (hN : rows.length ≤ 3000)
  (hK : ∀ put ov out A0 H' nx', nx ≤ nx' → setL x.2 false (cs_ rows) = cs_ out ++ setL x.2 put [] → out.length ≤ 3001 → OutA ((b, x.v.vals) :: A) A0 ov (vs out) → SM M A0 (RowsF out :: F) H' nx' → K0 (.exit 0) (envL .und [(0, .ptr r 0), (3, .ptr b 0), (4, ov), (5, .bool put), (6, .bool e)]) H' nx' [] none)
  {env : Env} (he : EnvLe (envL .und [(0, .ptr r 0), (3, .ptr b 0), (4, .nilSlice), (5, .bool false), (6, .bool e), (7, iv 0)]) env) : LpP PG 98 (subAt (codeOf PG 25) [1, 1, 1, 1, 0, 1, 0, 0]) env H nx [] none K0 := by
 refine loop_w (P := PG) (X := AVal × Bool × Nat) (Y := AVal × Bool) (fun z => envL .und [(0, .ptr r 0), (3, .ptr b 0), (4, z.1), (5, .bool z.2.1), (6, .bool e), (7, iv (z.2.2 : Int))]) (fun z => envL .und [(0, .ptr r 0), (3, .ptr b 0), (4, z.1), (5, .bool z.2), (6, .bool e)])
  (fun m z H1 nx1 => nx ≤ nx1 ∧ m + z.2.2 = rows.length ∧ ∃ out A0, setL x.2 false (cs_ rows) = cs_ out ++ setL x.2 z.2.1 (cs_ (rows.drop z.2.2)) ∧ out.length ≤ z.2.2 + z.2.1.toNat ∧ OutA ((b, x.v.vals) :: A) A0 z.1 (vs out) ∧ SM M A0 (RowsF out :: F) H1 nx1)
  (fun id z H1 nx1 => id = 0 ∧ nx ≤ nx1 ∧ ∃ out A0, setL x.2 false (cs_ rows) = cs_ out ++ setL x.2 z.2 [] ∧ out.length ≤ 3001 ∧ OutA ((b, x.v.vals) :: A) A0 z.1 (vs out) ∧ SM M A0 (RowsF out :: F) H1 nx1) rows.length (.nilSlice, false, 0) he
  ⟨Nat.le_refl _, by simp, [], _, by simp [cs_], by simp, .inl ⟨rfl, rfl, rfl⟩, h.add fun Γ w y hy => by simp at hy⟩ ?_ ?_
 ·rintro m ⟨ov, put, i⟩ H1 nx1 ⟨g1, hm, out, A0, hs, hl, ha, p⟩
  dsimp only at hm hs hl ha ⊢
  have own0 : ∀ {b' cs}, Own ((b, x.v.vals) :: A) b' cs → Own A0 b' cs := fun w => ha.ownG w
  rw [set_code]
  refine WpP.seq (WpP.part (ts := [0, 3, 4, 5, 6, 7]) mixed ?_)
  rw [SeH_eq]
  unfold SeH
  refine ⟨rfl, _, rfl, _, p.ld1 (own0 (.tl hr)) 0, _, lst_len p (.tail _ ho), ifB_iff.2 ⟨fun hc => ?_, fun hc => ?_⟩⟩
  ·have hc : (i : Int) < Int.ofNat rows.length := of_decide_eq_true hc
   simp only [Int.ofNat_eq_natCast] at hc
   have hi : i < rows.length := by omega
   have hdr : cs_ (rows.drop i) = rows[i].2 :: cs_ (rows.drop (i + 1)) := by rw [List.drop_eq_getElem_cons hi]; rfl
   rw [hdr, setL_cons] at hs
   have e0 : IntKind.i64.wrap ((i : Int) + 1) = ((i + 1 : Nat) : Int) := by rw [wrap64_id (by omega) (by omega)]; omega
   have pn : put.toNat ≤ 1 := by cases put <;> decide
   show WpP PG 98 _ _ _ _ _ _
   refine WpP.seq (rset_round (rows := rows) (x := x) (y := rows[i]) he0 ha .hd p (own0 (.tl hr)) (.tail _ hx) (.head _) (by omega) (.tail _ ho) hi rfl (fun hat H2 n2 g2 p2 env hen => ?_) fun hat put' ov' out' A2 H2 n2 g2 hst ha2 p2 env hen => ?_)
   ·refine WpP.weaken hen (WpP.part (ts := [0, 3, 4, 5, 6, 7]) mixed ?_)
    rw [SeI_eq]
    unfold SeI
    rw [e0]
    rw [if_pos hat] at hs
    exact ⟨rfl, m - 1, (ov, put, i + 1), by omega, EnvLe.of_list (by exact ⟨rfl, rfl, rfl, rfl, rfl, rfl, trivial⟩), by omega, by show m - 1 + (i + 1) = _; omega, out, A0, hs, by show _ ≤ i + 1 + put.toNat; omega, ha, p2⟩
   ·refine WpP.weaken hen (WpP.part (ts := [0, 3, 4, 5, 6, 7]) mixed ?_)
    rw [SeI_eq]
    unfold SeI
    rw [e0]
    rw [if_neg (by rw [hat]; decide)] at hs
    have hlc : ∀ l : List GRow, (cs_ l).length = l.length := fun l => by simp [cs_]
    refine ⟨rfl, m - 1, (ov', put', i + 1), by omega, EnvLe.of_list (by exact ⟨rfl, rfl, rfl, rfl, rfl, rfl, trivial⟩), by omega, by show m - 1 + (i + 1) = _; omega, out', A2, ?_, ?_, ha2, p2.sub fun P hP => ?_⟩
    ·rcases hst with ⟨h1, h2, rfl, h4, _⟩ | ⟨h1, rfl, h4, _⟩
     ·rw [if_pos ⟨h1, h2⟩] at hs
      rw [hs, h4]; simp
     ·rw [if_neg h1] at hs
      rw [hs, h4]; simp
    ·show out'.length ≤ i + 1 + put'.toNat
     rcases hst with ⟨rfl, h2, rfl, h4, h5⟩ | ⟨h1, rfl, h4, h5⟩
     ·rw [hlc, hlc] at h5; simp at hl ⊢; omega
     ·rw [hlc, hlc] at h5; omega
    ·rcases List.mem_cons.1 hP with rfl | hP
     ·exact .head _
     ·exact .tail _ (.tail _ hP)
  ·have hc : ¬ (i : Int) < Int.ofNat rows.length := of_decide_eq_false hc
   simp only [Int.ofNat_eq_natCast] at hc
   have pn : put.toNat ≤ 1 := by cases put <;> decide
   refine ⟨rfl, (ov, put), EnvLe.of_list (by exact ⟨rfl, rfl, rfl, rfl, rfl, trivial⟩), rfl, g1, out, A0, ?_, by omega, ha, p⟩
   rw [List.drop_of_length_le (by omega)] at hs
   exact hs
 ·rintro id ⟨ov, put⟩ H1 nx1 ⟨rfl, g1, out, A0, hs, hl, ha, p⟩
  exact hK put ov out A0 H1 nx1 g1 hs hl ha p
theorem setL_nil (c : Cnt) (put : Bool) : setL c put [] = if put = false ∧ c.empty = false then [c] else [] := rfl
theorem OutA.fix {A0 A2 : Owned} {ov : AVal} {out : List GRow} (ha : OutA A2 A0 ov (vs out)) (p : SM M A0 F H nx) (hR : RowsF out ∈ F) : SM M A2 (LstF ov out :: F) H nx := by
 rcases ha with ⟨h0, rfl, rfl⟩ | ⟨b, rfl, rfl⟩
 ·have h0 : out = [] := by simpa using h0
  subst h0
  exact p.add fun Γ w => LstF.nil Γ
 ·have q := p.freeze
  refine (q.add (P := LstF (.slice b 0 (vs out).length 5 false) out) fun Γ w => ⟨.inr ⟨b, false, [], by simp, by rw [List.append_nil]; exact w _ (.head _)⟩, w (RowsF out) (.tail _ hR)⟩).sub fun P hP => ?_
  rcases List.mem_cons.1 hP with rfl | hP
  ·exact .head _
  ·exact .tail _ (.tail _ hP)
theorem rset_ok {r : Nat} {x : GRow} {A' : AVal → Owned} (h : SM M A F H nx) (hu : ∀ v, Upd A r [o] [v] (A' v)) (ho : LstF o rows ∈ F) (hx : TyR x.1 x.2.ts ∈ F) (hN : rows.length ≤ 3000)
  (hK : ∀ o' rows' H' nx', nx ≤ nx' → cs_ rows' = setL x.2 false (cs_ rows) → SM M (A' o') (LstF o' rows' :: F) H' nx' → K (.ret (.tuple [])) H' nx') :
  TriP PG f_r10p_set [.ptr r 0, .agg [iv x.2.a, iv x.2.b, iv x.2.c, iv x.2.d, x.1]] H nx K := by
 refine TriP.of_body mixed ?_
 rw [Fr10p_set_eq]
 unfold Fr10p_set
 refine h.newL (Nat.le_refl _) fun H0 p0 => ?_
 have hr : Own A r [o] := (hu o).at
 have fin : ∀ ov out A0 H' nx', nx ≤ nx' → cs_ out = setL x.2 false (cs_ rows) → OutA ((nx, x.v.vals) :: A) A0 ov (vs out) → SM M A0 (RowsF out :: F) H' nx' → ∃ v, some (AVal.ptr r 0) = some v ∧ cellv ov = true ∧ ∃ H1, stC H' v [ov] = some H1 ∧ K (.ret (.tuple [])) H1 nx' := by
  intro ov out A0 H' nx' g hs ha p
  have q := (ha.fix p (.head _)).drop
  refine ⟨_, rfl, ha.cell, q.one (hu ov) (by simp) ha.cell fun H1 p1 => hK ov out H1 nx' g hs (p1.sub fun P hP => ?_)⟩
  rcases List.mem_cons.1 hP with rfl | hP
  ·exact .head _
  ·exact .tail _ (.tail _ hP)
 have main : ∀ e : Bool, e = x.2.empty → ∀ env, EnvLe (envL .und [(0, .ptr r 0), (3, .ptr nx 0), (4, .nilSlice), (5, .bool false), (6, .bool e), (7, iv 0)]) env → LpP PG 98 (subAt (codeOf PG 25) [1, 1, 1, 1, 0, 1, 0, 0]) env H0 (nx + 1) [] none
   (contAt PG (TriP PG) (LpP PG 98) 98 (codeOf PG 25) [1, 1, 1, 1, 0, 1, 0] (endK PG (lvSem (TriDP PG)) (lvcSem PG (TriDP PG)) K (resOf PG 25))) := by
  intro e he0 env he
  refine rset_loop (rows := rows) (o := o) p0 he0 hr ho hx hN (fun put ov out A0 H' nx' g hs hl ha p => ?_) he
  rw [GSetA_eq]
  unfold GSetA
  rw [setL_nil] at hs
  refine ifB_iff.2 ⟨fun hp => ?_, fun hp => ?_⟩
  ·have hp : put = false := by simpa using hp
   refine ifB_iff.2 ⟨fun hq => ?_, fun hq => ?_⟩
   ·have hq : x.2.empty = false := by rw [← he0]; simpa using hq
    rw [if_pos ⟨hp, hq⟩] at hs
    refine app_row (x := x) (out := out) ha p (p.ldAll (ha.ownG .hd) rfl) (.tail _ hx) (.head _) (by omega) fun v A3 H3 ha3 p3 => ?_
    refine ⟨rfl, fin v (out ++ [x]) A3 H3 _ (by omega) ?_ ha3 (p3.sub fun P hP => ?_)⟩
    ·rw [hs]; unfold cs_; rw [List.map_append]; rfl
    ·rcases List.mem_cons.1 hP with rfl | hP
     ·exact .head _
     ·exact .tail _ (.tail _ hP)
   ·have hq : x.2.empty = true := by rw [← he0]; simpa using hq
    rw [if_neg (fun w => by rw [hq] at w; simp at w), List.append_nil] at hs
    exact ⟨rfl, fin ov out A0 H' nx' (by omega) hs.symm ha p⟩
  ·have hp : put = true := by simpa using hp
   rw [if_neg (fun w => by rw [hp] at w; simp at w), List.append_nil] at hs
   exact ⟨rfl, fin ov out A0 H' nx' (by omega) hs.symm ha p⟩
 refine ⟨_, rfl, _, p0.ld1 .hd 2, ifB_iff.2 ⟨fun h2 => ?_, fun h2 => ?_⟩⟩
 ·have h2 : x.2.c = 0 := of_decide_eq_true h2
  refine ⟨_, rfl, _, p0.ld1 .hd 3, ifB_iff.2 ⟨fun h3 => ?_, fun h3 => ?_⟩⟩
  ·have h3 : x.2.d = 0 := of_decide_eq_true h3
   refine ⟨_, rfl, _, p0.ld1 .hd 4, _, gty_len p0 hx, ?_⟩
   refine main (decide (Int.ofNat x.2.ts.length = 0)) ?_ _ (EnvLe.of_list (by exact ⟨rfl, rfl, rfl, rfl, rfl, rfl, trivial⟩))
   unfold Cnt.empty
   rw [h2, h3]
   cases x.2.ts <;> simp; omega
  ·have h3 : ¬ x.2.d = 0 := of_decide_eq_false h3
   refine main false ?_ _ (EnvLe.of_list (by exact ⟨rfl, rfl, rfl, rfl, rfl, rfl, trivial⟩))
   unfold Cnt.empty
   rw [decide_eq_false h3]; simp
 ·have h2 : ¬ x.2.c = 0 := of_decide_eq_false h2
  refine main false ?_ _ (EnvLe.of_list (by exact ⟨rfl, rfl, rfl, rfl, rfl, rfl, trivial⟩))
  unfold Cnt.empty
  rw [decide_eq_false h2]; simp
theorem ok_iff {c : Cnt} : c.ok = true ↔ (0 ≤ c.a ∧ c.a ≤ 1073741824) ∧ (0 ≤ c.b ∧ c.b ≤ 1073741824) ∧ (0 ≤ c.c ∧ c.c ≤ 1073741824) ∧ (0 ≤ c.d ∧ c.d ≤ 1073741824) ∧ c.ts.length ≤ 4 ∧ okTs [] c.ts = true := by
 unfold Cnt.ok
 simp only [Bool.and_eq_true, sm_iff, decide_eq_true_eq]
theorem not_ok {b : Bool} (h : b = true → False) : b = false := by cases b <;> simp at h ⊢
theorem gty_fld {t : AVal} {ts : Ts} (h : SM M A F H nx) (ht : TyR t ts ∈ F) {i : Nat} (hi : i < ts.length) : ∃ p p0 p1, idxS t i 2 = some p ∧ addOff p 0 = some p0 ∧ addOff p 1 = some p1 ∧ ld1 H p0 = some (iv (ts[i]'hi).1) ∧ ld1 H p1 = some (iv (ts[i]'hi).2) := by
 obtain ⟨Γ, h1, h2⟩ := h.factG ht
 rcases h2 with ⟨rfl, rfl⟩ | ⟨b, off, full, cs, rfl, hb, hc⟩ | ⟨g, off, cs, rfl, hg, hc⟩ | ⟨g, off, rfl, rfl⟩
 ·simp at hi
 ·refine ⟨.ptr b (off + i * 2), .ptr b (off + i * 2 + 0), .ptr b (off + i * 2 + 1), ?_, rfl, rfl, ?_, ?_⟩
  ·unfold idxS
   simp only [ble_le (show Nat.succ i ≤ ts.length from hi)]
   rfl
  ·rw [h1.ld1 hb, hc.one hi (by omega)]; rfl
  ·rw [h1.ld1 hb, hc.one hi (by omega)]; rfl
 ·refine ⟨.gptr g (off + i * 2), .gptr g (off + i * 2 + 0), .gptr g (off + i * 2 + 1), ?_, rfl, rfl, ?_, ?_⟩
  ·unfold idxS
   simp only [ble_le (show Nat.succ i ≤ ts.length from hi)]
   rfl
  ·unfold ld1; simp only [hg, hc.one hi (show 0 < 2 by omega)]; rfl
  ·unfold ld1; simp only [hg, hc.one hi (show 1 < 2 by omega)]; rfl
 ·simp at hi
theorem RAdL_eq (call : CallP) (lp : LoopP) (lv : LeaveP) (lvc : LeaveC) (K : EndP) (r b : Nat) (i : Int) (H : Heap) (nx : Nat) (rc : Option AMode) :
  contAt PG call lp 118 (codeOf PG 11) [1, 1, 0, 1, 0] (endK PG lv lvc K (resOf PG 11)) .ret (envL .und [(0, .ptr r 0), (3, .ptr b 0), (4, .bool false), (5, iv i)]) H nx [] rc = K (.ret (.bool false)) H nx := by kernel_rfl
end
end
end Go.Vs
end
section
namespace Go.Vs
open Go.Proofs Go.Sort Go.Hp
variable [GTab]
noncomputable section
theorem AdX_eq (call : CallP) (lp : LoopP) (N : KC) (X : Nat → KC) (R : KC) (Pn : List (AVal × Bool) → KC) (r b : Nat) (i : Int) (H : Heap) (nx : Nat) :
  contAt PG call lp 118 (subAt (codeOf PG 11) [1, 1, 0, 1, 0, 0]) [1, 0, 0, 1, 1, 0] (trimK [0, 3, 4, 5] (loopK N X R Pn)) (.exit 2) (envL .und [(0, .ptr r 0), (3, .ptr b 0), (4, .bool false), (5, iv i)]) H nx [] none =
   N (envL .und [(0, .ptr r 0), (3, .ptr b 0), (4, .bool false), (5, iv (IntKind.i64.wrap (i + 1)))]) H nx [] none := by kernel_rfl
theorem AdR_eq (call : CallP) (lp : LoopP) (N : KC) (X : Nat → KC) (R : KC) (Pn : List (AVal × Bool) → KC) (r b : Nat) (i k : Int) (H : Heap) (nx : Nat) :
  contAt PG call lp 118 (subAt (codeOf PG 11) [1, 1, 0, 1, 0, 0]) [1, 0, 0, 1, 1, 0] (trimK [0, 3, 4, 5] (loopK N X R Pn)) .ret (envL .und [(0, .ptr r 0), (3, .ptr b 0), (4, .bool false), (5, iv i), (6, iv k)]) H nx [] none =
   R (envL .und [(0, .ptr r 0), (3, .ptr b 0), (4, .bool false), (5, iv i)]) H nx [] none := by kernel_rfl
theorem AdJ_code : subAt (subAt (codeOf PG 11) [1, 1, 0, 1, 0, 0]) [1, 0, 0, 1, 1, 0, 0] = subAt (codeOf PG 11) [1, 1, 0, 1, 0, 0, 1, 0, 0, 1, 1, 0, 0] := by kernel_rfl
section
variable {M : MM} {A : Owned} {F : Facts} {H : Heap} {nx : Nat} {K : EndP} {o : AVal} {rows : List GRow}
theorem radd_ok {r : Nat} {x : GRow} {A' : AVal → Owned} (h : SM M A F H nx) (hu : ∀ v, Upd A r [o] [v] (A' v)) (ho : LstF o rows ∈ F) (hx : TyR x.1 x.2.ts ∈ F) (hN : rows.length ≤ 3000)
  (hno : x.2.ok = false → ∀ H' nx', nx ≤ nx' → SM M A F H' nx' → K (.ret (.bool false)) H' nx')
  (hyes : x.2.ok = true → ∀ o' rows' H' nx', nx ≤ nx' → cs_ rows' = setL x.2 false (cs_ rows) → SM M (A' o') (LstF o' rows' :: F) H' nx' → K (.ret (.bool true)) H' nx') :
  TriP PG f_r10p_Add [.ptr r 0, .agg [iv x.2.a, iv x.2.b, iv x.2.c, iv x.2.d, x.1]] H nx K := by
 refine TriP.of_body mixed ?_
 rw [Fr10p_Add_eq]
 unfold Fr10p_Add
 refine h.newL (Nat.le_refl _) fun H0 p0 => ?_
 have no0 : ¬ ((0 ≤ x.2.a ∧ x.2.a ≤ 1073741824) ∧ (0 ≤ x.2.b ∧ x.2.b ≤ 1073741824) ∧ (0 ≤ x.2.c ∧ x.2.c ≤ 1073741824) ∧ (0 ≤ x.2.d ∧ x.2.d ≤ 1073741824) ∧ x.2.ts.length ≤ 4) → K (.ret (.bool false)) H0 (nx + 1) := fun e => hno (not_ok fun q => by
  obtain ⟨q1, q2, q3, q4, q5, _⟩ := ok_iff.1 q
  exact e ⟨q1, q2, q3, q4, q5⟩) H0 _ (by omega) p0.drop
 refine ⟨_, rfl, _, p0.ld1 .hd 0, ifB_iff.2 ⟨fun e => no0 fun q => ?_, fun a0 => ?_⟩⟩
 ·have e : x.2.a < 0 := of_decide_eq_true e; omega
 refine ⟨_, rfl, _, p0.ld1 .hd 1, ifB_iff.2 ⟨fun e => no0 fun q => ?_, fun b0 => ?_⟩⟩
 ·have e : x.2.b < 0 := of_decide_eq_true e; omega
 refine ⟨_, rfl, _, p0.ld1 .hd 2, ifB_iff.2 ⟨fun e => no0 fun q => ?_, fun c0 => ?_⟩⟩
 ·have e : x.2.c < 0 := of_decide_eq_true e; omega
 refine ⟨_, rfl, _, p0.ld1 .hd 3, ifB_iff.2 ⟨fun e => no0 fun q => ?_, fun d0 => ?_⟩⟩
 ·have e : x.2.d < 0 := of_decide_eq_true e; omega
 refine ⟨_, rfl, _, p0.ld1 .hd 0, ifB_iff.2 ⟨fun e => no0 fun q => ?_, fun a1 => ?_⟩⟩
 ·have e : 1073741824 < x.2.a := of_decide_eq_true e; omega
 refine ⟨_, rfl, _, p0.ld1 .hd 1, ifB_iff.2 ⟨fun e => no0 fun q => ?_, fun b1 => ?_⟩⟩
 ·have e : 1073741824 < x.2.b := of_decide_eq_true e; omega
 refine ⟨_, rfl, _, p0.ld1 .hd 2, ifB_iff.2 ⟨fun e => no0 fun q => ?_, fun c1 => ?_⟩⟩
 ·have e : 1073741824 < x.2.c := of_decide_eq_true e; omega
 refine ⟨_, rfl, _, p0.ld1 .hd 3, ifB_iff.2 ⟨fun e => no0 fun q => ?_, fun d1 => ?_⟩⟩
 ·have e : 1073741824 < x.2.d := of_decide_eq_true e; omega
 refine ⟨_, rfl, _, p0.ld1 .hd 4, _, gty_len p0 hx, ifB_iff.2 ⟨fun e => no0 fun q => ?_, fun e => ?_⟩⟩
 ·have e : 4 < Int.ofNat x.2.ts.length := of_decide_eq_true e
  simp only [Int.ofNat_eq_natCast] at e; omega
 have a0 : ¬ x.2.a < 0 := of_decide_eq_false a0
 have b0 : ¬ x.2.b < 0 := of_decide_eq_false b0
 have c0 : ¬ x.2.c < 0 := of_decide_eq_false c0
 have d0 : ¬ x.2.d < 0 := of_decide_eq_false d0
 have a1 : ¬ 1073741824 < x.2.a := of_decide_eq_false a1
 have b1 : ¬ 1073741824 < x.2.b := of_decide_eq_false b1
 have c1 : ¬ 1073741824 < x.2.c := of_decide_eq_false c1
 have d1 : ¬ 1073741824 < x.2.d := of_decide_eq_false d1
 have e4 : x.2.ts.length ≤ 4 := by
  have e : ¬ 4 < Int.ofNat x.2.ts.length := of_decide_eq_false e
  simp only [Int.ofNat_eq_natCast] at e; omega
 have hok : x.2.ok = okTs [] x.2.ts := by
  cases hb : okTs [] x.2.ts with
  | true => exact ok_iff.2 ⟨by omega, by omega, by omega, by omega, e4, hb⟩
  | false => exact not_ok fun q => by rw [(ok_iff.1 q).2.2.2.2.2] at hb; cases hb
 refine loop_w (P := PG) (X := Nat) (Y := Unit) (fun i => envL .und [(0, .ptr r 0), (3, .ptr nx 0), (4, .bool false), (5, iv (i : Int))]) (fun _ => envL .und [(0, .ptr r 0), (3, .ptr nx 0)])
  (fun m i H1 nx1 => nx + 1 ≤ nx1 ∧ SM M ((nx, x.v.vals) :: A) F H1 nx1 ∧ m = x.2.ts.length - i ∧ i ≤ x.2.ts.length ∧ okTs [] x.2.ts = okTs (x.2.ts.take i) (x.2.ts.drop i))
  (fun id _ H1 nx1 => id = 0 ∧ nx + 1 ≤ nx1 ∧ SM M ((nx, x.v.vals) :: A) F H1 nx1 ∧ x.2.ok = true) x.2.ts.length 0 (EnvLe.of_list (by exact ⟨rfl, rfl, rfl, rfl, trivial⟩)) ⟨Nat.le_refl _, p0, rfl, Nat.zero_le _, by simp⟩ ?_ ?_
 ·rintro m i H1 nx1 ⟨g1, p1, rfl, hi, hto⟩
  refine WpP.part (ts := [0, 3, 4, 5]) mixed ?_
  rw [AdL_eq]
  unfold AdL
  refine ⟨_, rfl, _, p1.ld1 .hd 4, _, gty_len p1 hx, ifB_iff.2 ⟨fun hc => ?_, fun hc => ?_⟩⟩
  ·have hc : (i : Int) < Int.ofNat x.2.ts.length := of_decide_eq_true hc
   simp only [Int.ofNat_eq_natCast] at hc
   have hil : i < x.2.ts.length := by omega
   have hd : x.2.ts.drop i = x.2.ts[i] :: x.2.ts.drop (i + 1) := List.drop_eq_getElem_cons hil
   have htk : x.2.ts.take (i + 1) = x.2.ts.take i ++ [x.2.ts[i]] := by rw [List.take_add_one, List.getElem?_eq_getElem hil]; rfl
   rw [hd] at hto
   obtain ⟨v, v0, v1, i1, i2, i3, i4, i5⟩ := gty_fld p1 hx hil
   have no : x.2.ok = false → K (.ret (.bool false)) H1 nx1 := fun e => hno e H1 _ (by omega) p1.drop
   have unf : ∀ q : okTs [] x.2.ts = true, sm x.2.ts[i].1 = true ∧ sm x.2.ts[i].2 = true ∧ hasT (x.2.ts.take i) x.2.ts[i].1 = false := fun q => by
    rw [hto] at q
    unfold okTs at q
    simp only [Bool.and_eq_true, Bool.not_eq_true'] at q
    exact ⟨q.1, q.2.1, q.2.2.1⟩
   have no1 : ¬ ((0 ≤ x.2.ts[i].1 ∧ x.2.ts[i].1 ≤ 1073741824) ∧ 0 ≤ x.2.ts[i].2 ∧ x.2.ts[i].2 ≤ 1073741824) → x.2.ok = false := fun e => not_ok fun q => by
    rw [hok] at q
    obtain ⟨q1, q2, _⟩ := unf q
    exact e ⟨sm_iff.1 q1, sm_iff.1 q2⟩
   refine ⟨_, rfl, _, p1.ld1 .hd 4, by omega, _, i1, _, i2, _, i4, ifB_iff.2 ⟨fun e => ?_, fun t0 => ?_⟩⟩
   ·show contAt PG _ _ 118 _ _ _ _ _ _ _ _ _
    rw [RAdL_eq]
    have e : x.2.ts[i].1 < 0 := of_decide_eq_true e
    exact no (no1 fun q => by omega)
   refine ⟨_, rfl, _, p1.ld1 .hd 4, by omega, _, i1, _, i2, _, i4, ifB_iff.2 ⟨fun e => ?_, fun t1 => ?_⟩⟩
   ·show contAt PG _ _ 118 _ _ _ _ _ _ _ _ _
    rw [RAdL_eq]
    have e : 1073741824 < x.2.ts[i].1 := of_decide_eq_true e
    exact no (no1 fun q => by omega)
   refine ⟨_, rfl, _, p1.ld1 .hd 4, by omega, _, i1, _, i3, _, i5, ifB_iff.2 ⟨fun e => ?_, fun t2 => ?_⟩⟩
   ·show contAt PG _ _ 118 _ _ _ _ _ _ _ _ _
    rw [RAdL_eq]
    have e : x.2.ts[i].2 < 0 := of_decide_eq_true e
    exact no (no1 fun q => by omega)
   refine ⟨_, rfl, _, p1.ld1 .hd 4, by omega, _, i1, _, i3, _, i5, ifB_iff.2 ⟨fun e => ?_, fun t3 => ?_⟩⟩
   ·show contAt PG _ _ 118 _ _ _ _ _ _ _ _ _
    rw [RAdL_eq]
    have e : 1073741824 < x.2.ts[i].2 := of_decide_eq_true e
    exact no (no1 fun q => by omega)
   have t0 : ¬ x.2.ts[i].1 < 0 := of_decide_eq_false t0
   have t1 : ¬ 1073741824 < x.2.ts[i].1 := of_decide_eq_false t1
   have t2 : ¬ x.2.ts[i].2 < 0 := of_decide_eq_false t2
   have t3 : ¬ 1073741824 < x.2.ts[i].2 := of_decide_eq_false t3
   rw [AdJ_code]
   refine loop_w (P := PG) (X := Nat) (Y := Unit) (fun k => envL .und [(0, .ptr r 0), (3, .ptr nx 0), (4, .bool false), (5, iv (i : Int)), (6, iv (k : Int))]) (fun _ => envL .und [(0, .ptr r 0), (3, .ptr nx 0), (4, .bool false), (5, iv (i : Int))])
    (fun m k H2 nx2 => H2 = H1 ∧ nx1 ≤ nx2 ∧ m + k = i ∧ ∀ (j : Nat) (hl : j < x.2.ts.length), j < k → ¬ (x.2.ts[j]'hl).1 = x.2.ts[i].1)
    (fun id _ H2 nx2 => id = 2 ∧ H2 = H1 ∧ nx1 ≤ nx2 ∧ ∀ (j : Nat) (hl : j < x.2.ts.length), j < i → ¬ (x.2.ts[j]'hl).1 = x.2.ts[i].1) i 0 (EnvLe.of_list (by exact ⟨rfl, rfl, rfl, rfl, rfl, trivial⟩)) ⟨rfl, Nat.le_refl _, by omega, fun j hl hj => by omega⟩ ?_ ?_
   ·rintro m k H2 nx2 ⟨rfl, g2, hmk, hnk⟩
    refine WpP.part (ts := [0, 3, 4, 5, 6]) mixed ?_
    rw [AdJ_eq]
    unfold AdJ
    refine ifB_iff.2 ⟨fun hk => ?_, fun hk => ?_⟩
    ·have hk : (k : Int) < (i : Int) := of_decide_eq_true hk
     have hki : k < i := by omega
     obtain ⟨w, w0, w1, j1, j2, j3, j4, j5⟩ := gty_fld p1 hx (show k < x.2.ts.length by omega)
     refine ⟨_, rfl, _, p1.ld1 .hd 4, by omega, _, i1, _, i2, _, i4, _, rfl, _, p1.ld1 .hd 4, by omega, _, j1, _, j2, _, j4, ⟨⟨_, p1.ld1 .hd 4, rfl⟩, ⟨_, i4, rfl⟩, ⟨_, p1.ld1 .hd 4, rfl⟩, ⟨_, j4, rfl⟩, trivial⟩, ?_⟩
     have e0 : IntKind.i64.wrap ((k : Int) + 1) = ((k + 1 : Nat) : Int) := by rw [wrap64_id (by omega) (by omega)]; omega
     rw [e0]
     refine ifB_iff.2 ⟨fun hq => ?_, fun hq => ?_⟩
     ·have hq : x.2.ts[i].1 = (x.2.ts[k]'(by omega)).1 := of_decide_eq_true hq
      show contAt PG _ _ 118 _ _ _ _ _ _ _ _ _
      rw [AdR_eq]
      show contAt PG _ _ 118 _ _ _ _ _ _ _ _ _
      rw [RAdL_eq]
      refine hno (not_ok fun q => ?_) H2 _ (by omega) (p1.drop.more (by omega))
      rw [hok] at q
      have := (unf q).2.2
      unfold hasT at this
      rw [List.any_eq_false] at this
      refine this (x.2.ts[k]'(by omega)) ?_ (by simp [hq])
      rw [List.mem_take_iff_getElem]
      exact ⟨k, by omega, rfl⟩
     ·have hq : ¬ x.2.ts[i].1 = (x.2.ts[k]'(by omega)).1 := of_decide_eq_false hq
      refine ⟨rfl, m - 1, k + 1, by omega, EnvLe.of_list (by exact ⟨rfl, rfl, rfl, rfl, rfl, trivial⟩), rfl, by omega, by omega, fun j hl hj => ?_⟩
      by_cases hjk : j = k
      ·subst hjk; exact fun q => hq q.symm
      ·exact hnk j hl (by omega)
    ·have hk : ¬ (k : Int) < (i : Int) := of_decide_eq_false hk
     have hki : k = i := by omega
     subst hki
     exact ⟨rfl, (), EnvLe.of_list (by exact ⟨rfl, rfl, rfl, rfl, trivial⟩), rfl, rfl, g2, hnk⟩
   ·rintro id _ H2 nx2 ⟨rfl, rfl, g2, hnk⟩
    rw [AdX_eq]
    have e0 : IntKind.i64.wrap ((i : Int) + 1) = ((i + 1 : Nat) : Int) := by rw [wrap64_id (by omega) (by omega)]; omega
    rw [e0]
    refine ⟨rfl, x.2.ts.length - (i + 1), i + 1, by omega, EnvLe.of_list (by exact ⟨rfl, rfl, rfl, rfl, trivial⟩), by omega, p1.more (by omega), rfl, by omega, ?_⟩
    rw [hto, htk]
    conv => lhs; unfold okTs
    have h1 : sm x.2.ts[i].1 = true := sm_iff.2 (by omega)
    have h2 : sm x.2.ts[i].2 = true := sm_iff.2 (by omega)
    have h3 : hasT (x.2.ts.take i) x.2.ts[i].1 = false := by
     unfold hasT
     rw [List.any_eq_false]
     intro y hy
     obtain ⟨j, hj, rfl⟩ := List.mem_take_iff_getElem.1 hy
     simpa using hnk j (by omega) (by omega)
    rw [h1, h2, h3]; rfl
  ·have hc : ¬ (i : Int) < Int.ofNat x.2.ts.length := of_decide_eq_false hc
   simp only [Int.ofNat_eq_natCast] at hc
   refine ⟨rfl, (), EnvLe.of_list (by exact ⟨rfl, rfl, trivial⟩), rfl, g1, p1, ?_⟩
   rw [hok, hto, List.drop_of_length_le (by omega)]; rfl
 ·rintro id _ H1 nx1 ⟨rfl, g1, p1, hok1⟩
  rw [AdA_eq]
  unfold AdA
  have set : ∀ v5 full H6 i7, nx1 ≤ i7 → v5 = .slice nx1 0 0 2 true ∨ v5 = .slice (nx1 + 1) 0 x.2.ts.length 2 full → TyR v5 x.2.ts = TyR v5 x.2.ts → SM M ((nx, x.v.vals) :: A) (TyR v5 x.2.ts :: F) H6 i7 →
    ∃ v8, some (AVal.ptr nx 4) = some v8 ∧ cellv v5 = true ∧ ∃ H9, stC H6 v8 [v5] = some H9 ∧ ∃ (n10 n11 n12 n13 : Int) (v14 : AVal), ldN H9 5 (.ptr nx 0) = some (.agg [iv n10, iv n11, iv n12, iv n13, v14]) ∧ TriP PG f_r10p_set [.ptr r 0, .agg [iv n10, iv n11, iv n12, iv n13, v14]] H9 i7 fun e15 H16 i17 => onEnd e15 (fun v18 => K (.ret (.bool true)) H16 i17) fun l19 => K (.pan l19) H16 i17 := by
   intro v5 full H6 i7 g7 _ _ p6
   have hc5 := gty_cell p6 (.head _)
   refine ⟨_, rfl, hc5, p6.one (j := 4) .hd (by rw [vals_len]; omega) hc5 fun H9 p9 => ⟨_, _, _, _, _, p9.ldAll .hd rfl, ?_⟩⟩
   refine rset_ok (x := (v5, x.2)) (A' := fun v => (nx, x.v.vals.set 4 v5) :: A' v) p9 (fun v => .tl (hu v)) (.tail _ ho) (.head _) hN fun o' rows' H' nx' g hs p => onEnd_ret.2 ?_
   refine hyes hok1 o' rows' H' nx' (by omega) hs (p.drop.sub fun P hP => ?_)
   rcases List.mem_cons.1 hP with rfl | hP
   ·exact .head _
   ·exact .tail _ (.tail _ hP)
  by_cases hz : x.2.ts = []
  ·refine p1.newF (Nat.le_refl _) fun H2 p2 => ?_
   refine ⟨_, rfl, _, p2.ld1 .hd 4, _, _, gty_src p2 (.tail _ hx), tcells_cell _, .slice nx1 0 0 2 true, H2, _, by rw [hz]; rfl, ?_⟩
   refine set (.slice nx1 0 0 2 true) true H2 _ (by omega) (.inl rfl) rfl ((p2.add (P := TyR (.slice nx1 0 0 2 true) x.2.ts) fun Γ w => ?_).sub fun P hP => ?_)
   ·rw [hz]; exact TyR.row (ts := []) (w (RowF nx1 []) (.head _))
   ·rcases List.mem_cons.1 hP with rfl | hP
    ·exact .head _
    ·exact .tail _ (.tail _ hP)
  ·refine p1.newF (Nat.le_refl _) fun H2 p2 => ?_
   have h0 : 0 < x.2.ts.length := List.length_pos_iff.2 hz
   obtain ⟨H3, e3, p3⟩ := p2.appFull (b := nx1) (off := 0) (len := 0) (esz := 2) (ebytes := 16) (k := x.2.ts.length) (cs := []) (new := tcells x.2.ts) (.head _) (by simp) (tcells_len _) h0 (by omega) (by omega)
   refine ⟨_, rfl, _, p2.ld1 .hd 4, _, _, gty_src p2 (.tail _ hx), tcells_cell _, _, H3, _, e3, ?_⟩
   rw [Nat.zero_add]
   refine set _ false H3 _ (by omega) (.inr rfl) rfl ((p3.freeze.add (P := TyR (.slice (nx1 + 1) 0 x.2.ts.length 2 false) x.2.ts) fun Γ w => TyR.row (w (RowF (nx1 + 1) (tcells x.2.ts)) (.head _))).sub fun P hP => ?_)
   rcases List.mem_cons.1 hP with rfl | hP
   ·exact .head _
   ·exact .tail _ (.tail _ (.tail _ hP))
end
end
end Go.Vs
end
section
namespace Go.Vs
open Go.Proofs Go.Sort Go.Hp
variable [GTab]
noncomputable section
section
variable {M : MM} {A : Owned} {F : Facts} {H : Heap} {nx : Nat} {K : EndP}
theorem samecount_ok {x : Cnt} {t u : AVal} (h : SM M A F H nx) (ht : TyR t x.ts ∈ F) (hu : TyR u x.ts ∈ F) (hN : x.ts.length ≤ 1000) (hK : ∀ H' nx', nx ≤ nx' → SM M A F H' nx' → K (.ret (.bool true)) H' nx') :
  TriP PG f_r10_SameCount [.agg [iv x.a, iv x.b, iv x.c, iv x.d, t], .agg [iv x.a, iv x.b, iv x.c, iv x.d, u]] H nx K := by
 refine TriP.of_body mixed ?_
 rw [Fr10_SameCount_eq]
 unfold Fr10_SameCount
 have nn : ∀ n : Int, (!decide (n = n)) = false := fun n => by simp
 refine h.newL (Nat.le_refl _) fun H0 p0 => p0.newL (Nat.le_refl _) fun H1 p1 => ?_
 refine ⟨_, rfl, _, p1.ld1 (.tl .hd) 0, _, rfl, _, p1.ld1 .hd 0, ifB_f (nn _) ⟨_, rfl, _, p1.ld1 (.tl .hd) 1, _, rfl, _, p1.ld1 .hd 1, ifB_f (nn _) ⟨_, rfl, _, p1.ld1 (.tl .hd) 2, _, rfl, _, p1.ld1 .hd 2, ifB_f (nn _) ⟨_, rfl, _, p1.ld1 (.tl .hd) 3, _, rfl, _, p1.ld1 .hd 3, ifB_f (nn _) ?_⟩⟩⟩⟩
 refine ⟨_, rfl, _, p1.ld1 (.tl .hd) 4, _, gty_len p1 ht, _, rfl, _, p1.ld1 .hd 4, _, gty_len p1 hu, ifB_f (nn _) ?_⟩
 refine loop_w (P := PG) (X := Nat) (Y := Unit) (fun i => envL .und [(2, .ptr nx 0), (3, .ptr (nx + 1) 0), (4, .bool false), (5, iv (i : Int))]) (fun _ => envL .und [(4, .bool false)])
  (fun m i H2 nx2 => H2 = H1 ∧ nx + 1 + 1 ≤ nx2 ∧ m + i = x.ts.length) (fun id _ H2 nx2 => id = 0 ∧ H2 = H1 ∧ nx + 1 + 1 ≤ nx2) x.ts.length 0 (EnvLe.of_list (by exact ⟨rfl, rfl, rfl, rfl, trivial⟩)) ⟨rfl, Nat.le_refl _, rfl⟩ ?_ ?_
 ·rintro m i H2 nx2 ⟨rfl, g2, hm⟩
  refine WpP.part (ts := [2, 3, 4, 5]) mixed ?_
  rw [GSc_eq]
  unfold GSc
  refine ⟨_, rfl, _, p1.ld1 (.tl .hd) 4, _, gty_len p1 ht, ifB_iff.2 ⟨fun hc => ?_, fun hc => ?_⟩⟩
  ·have hc : (i : Int) < Int.ofNat x.ts.length := of_decide_eq_true hc
   simp only [Int.ofNat_eq_natCast] at hc
   have hi : i < x.ts.length := by omega
   obtain ⟨v, i1, i2⟩ := gty_idx p1 ht hi
   obtain ⟨w, j1, j2⟩ := gty_idx p1 hu hi
   have e0 : IntKind.i64.wrap ((i : Int) + 1) = ((i + 1 : Nat) : Int) := by rw [wrap64_id (by omega) (by omega)]; omega
   refine ⟨_, rfl, _, p1.ld1 (.tl .hd) 4, by omega, _, i1, _, _, i2, _, rfl, _, p1.ld1 .hd 4, by omega, _, j1, _, _, j2, rfl, ⟨⟨_, p1.ld1 (.tl .hd) 4, rfl⟩, ⟨_, _, i2, rfl⟩, ⟨_, p1.ld1 .hd 4, rfl⟩, ⟨_, _, j2, rfl⟩, trivial⟩, ifB_f (by simp) ?_⟩
   rw [e0]
   exact ⟨rfl, m - 1, i + 1, by omega, EnvLe.of_list (by exact ⟨rfl, rfl, rfl, rfl, trivial⟩), rfl, by omega, by omega⟩
  ·exact ⟨rfl, (), EnvLe.of_list (by exact ⟨rfl, trivial⟩), rfl, rfl, g2⟩
 ·rintro id _ H2 nx2 ⟨rfl, rfl, g2⟩
  rw [GScA_eq (_u := 0)]
  unfold GScA
  exact hK H2 nx2 (by omega) (p1.drop.drop.more (by omega))
theorem gsame_ok {p mb r : Nat} {L : List (Nat × GRow)} {o : AVal} {rows : List GRow} (h : SM M A F H nx) (hp : RowF p [.map mb] ∈ F) (hm : M mb = some (.map (gents L) L.length)) (hL : EntF L ∈ F) (h4 : ∀ q ∈ L, q.2.2.ts.length ≤ 4) (hN : L.length ≤ 3000)
  (hr : Own A r [o]) (ho : LstF o rows ∈ F) (hB : Both (cnts L) (cs_ rows)) (hK : ∀ H' nx', nx ≤ nx' → K (.ret (.bool true)) H' nx') : TriP PG f_law13_same [.ptr p 0, .ptr r 0] H nx K := by
 refine TriP.of_body mixed ?_
 rw [Flaw13_same_eq]
 unfold Flaw13_same
 refine gall_ok h hp hm hL h4 (by omega) fun oa ra A0 H1 n1 g1 hR hsl ha p1 => onEnd_ret.2 ?_
 have hcs := hR.same hB
 have p2 := ha.fix p1 (.head _)
 have hlen : ra.length = rows.length := by
  have := congrArg List.length hcs
  simpa [cs_] using this
 have hra : ra.length ≤ L.length := by
  have := hR.1.length_eq
  have h2 := List.length_filter_le (fun x : Cnt => !x.empty) (cnts L)
  simp [cnts, cs_] at this h2 ⊢
  omega
 refine ⟨_, lst_len p2 (.head _), rfl, _, rfl, _, p2.ld1 hr 0, _, lst_len p2 (.tail _ (.tail _ ho)), ifB_f (by rw [hlen]; simp) ?_⟩
 have hty : ∀ y ∈ cs_ rows, y.ts.length ≤ 4 := fun y hy => by
  have := (List.mem_filter.1 (hB.pm.mem_iff.1 hy)).1
  obtain ⟨q, hq, rfl⟩ := List.mem_map.1 this
  exact h4 q hq
 refine loop_w (P := PG) (X := Nat) (Y := Unit) (fun i => envL .und [(1, .ptr r 0), (4, .bool false), (5, oa), (6, iv (i : Int))]) (fun _ => envL .und [(4, .bool false)])
  (fun m i H2 nx2 => n1 ≤ nx2 ∧ SM M A (LstF oa ra :: RowsF ra :: F) H2 nx2 ∧ m + i = ra.length) (fun id _ H2 nx2 => id = 0 ∧ n1 ≤ nx2) ra.length 0 (EnvLe.of_list (by exact ⟨rfl, rfl, rfl, rfl, trivial⟩)) ⟨Nat.le_refl _, p2, rfl⟩ ?_ ?_
 ·rintro m i H2 nx2 ⟨g2, q, hm⟩
  refine WpP.part (ts := [1, 4, 5, 6]) mixed ?_
  rw [SaL_eq]
  unfold SaL
  refine ⟨_, lst_len q (.head _), ifB_iff.2 ⟨fun hc => ?_, fun hc => ?_⟩⟩
  ·have hc : (i : Int) < Int.ofNat ra.length := of_decide_eq_true hc
   simp only [Int.ofNat_eq_natCast] at hc
   have hi : i < ra.length := by omega
   have hi' : i < rows.length := by omega
   obtain ⟨b, i1, i2, _⟩ := lst_at q (.head _) hi
   obtain ⟨c, j1, j2, _⟩ := lst_at q (.tail _ (.tail _ ho)) hi'
   have e1 : ra[i].2 = rows[i].2 := by
    have h1 : (cs_ ra)[i]? = (cs_ rows)[i]? := by rw [hcs]
    simp only [cs_, List.getElem?_map, List.getElem?_eq_getElem hi, List.getElem?_eq_getElem hi', Option.map_some] at h1
    exact Option.some.inj h1
   have e0 : IntKind.i64.wrap ((i : Int) + 1) = ((i + 1 : Nat) : Int) := by rw [wrap64_id (by omega) (by omega)]; omega
   refine ⟨by omega, _, i1, _, _, _, _, _, i2, rfl, _, rfl, _, q.ld1 hr 0, by omega, _, j1, _, _, _, _, _, j2, ⟨⟨_, _, _, _, _, i2, rfl⟩, ⟨_, q.ld1 hr 0, rfl⟩, ⟨_, _, _, _, _, j2, rfl⟩, trivial⟩, ?_⟩
   have q2 := (lst_ty q (.head _) hi).add (P := TyR rows[i].1 rows[i].2.ts) fun Γ w => (w (LstF o rows) (.tail _ (.tail _ (.tail _ ho)))).2 _ (List.getElem_mem hi')
   have hl4 : rows[i].2.ts.length ≤ 4 := hty _ (List.mem_map_of_mem (List.getElem_mem hi'))
   rw [e1] at q2
   show TriP PG f_r10_SameCount [.agg [iv ra[i].2.a, iv ra[i].2.b, iv ra[i].2.c, iv ra[i].2.d, ra[i].1], .agg [iv rows[i].2.a, iv rows[i].2.b, iv rows[i].2.c, iv rows[i].2.d, rows[i].1]] _ _ _
   rw [e1]
   refine samecount_ok (x := rows[i].2) (q2.more (by omega : nx2 ≤ nx2 + 13)) (.tail _ (.head _)) (.head _) (by omega) fun H3 n3 g3 p3 => onEnd_ret.2 ⟨_, rfl, trivial, ifB_f rfl ?_⟩
   rw [e0]
   exact ⟨rfl, m - 1, i + 1, by omega, EnvLe.of_list (by exact ⟨rfl, rfl, rfl, rfl, trivial⟩), by omega, p3.sub fun P hP => .tail _ (.tail _ hP), by omega⟩
  ·exact ⟨rfl, (), EnvLe.of_list (by exact ⟨rfl, trivial⟩), rfl, g2⟩
 ·rintro id _ H2 nx2 ⟨rfl, g2⟩
  rw [SaA_eq (_u := 0)]
  unfold SaA
  exact hK H2 nx2 (by omega)
end
end
end Go.Vs
end
section
namespace Go.Vs
open Go.Proofs Go.Sort Go.Hp
variable [GTab]
noncomputable section
theorem ins_at {x : Cnt} : ∀ {l : List Cnt} {k : Nat}, k ≤ l.length → (∀ (j : Nat) (hj : j < l.length), j < k → x.c ≤ (l[j]'hj).c) → (∀ (j : Nat) (hj : j < l.length), k ≤ j → (l[j]'hj).c < x.c) → insH x l = l.take k ++ x :: l.drop k
 | [], k, _, _, _ => by simp [insH]
 | y :: l, 0, _, _, h => by
  have : y.c < x.c := h 0 (by simp) (Nat.le_refl _)
  unfold insH
  rw [if_pos this]; rfl
 | y :: l, k + 1, hk, h1, h2 => by
  have h0 : x.c ≤ y.c := h1 0 (by simp) (by omega)
  unfold insH
  rw [if_neg (by omega), ins_at (l := l) (k := k) (by simpa using hk) (fun j hj hjk => h1 (j + 1) (by simpa using hj) (by omega)) (fun j hj hjk => h2 (j + 1) (by simpa using hj) (by omega))]
  rfl
def Desc (l : List Cnt) : Prop := l.Pairwise fun y z => z.c ≤ y.c
theorem insH_desc {x : Cnt} : ∀ {l : List Cnt}, Desc l → Desc (insH x l)
 | [], _ => by simp [insH, Desc]
 | y :: l, h => by
  have h1 := List.pairwise_cons.1 h
  unfold insH
  split
  ·rename_i hc
   refine List.pairwise_cons.2 ⟨fun z hz => ?_, h⟩
   rcases List.mem_cons.1 hz with rfl | hz
   ·omega
   ·have := h1.1 z hz; omega
  ·rename_i hc
   refine List.pairwise_cons.2 ⟨fun z hz => ?_, insH_desc h1.2⟩
   rcases List.mem_cons.1 ((insH_perm x l).mem_iff.1 hz) with rfl | hz
   ·omega
   ·exact h1.1 z hz
section
variable {M : MM} {A : Owned} {F : Facts} {H : Heap} {nx : Nat} {K : EndP} {o : AVal} {rows : List GRow}
def gblank : GRow := (.nilSlice, ⟨0, 0, 0, 0, []⟩)
theorem rh_find {r i : Nat} {n : Int} {ov : AVal} {out : List GRow} {A0 : Owned} {x : GRow} {K0 : KP} (ha : OutA A A0 ov (vs out)) (p : SM M A0 F H nx) (hr : Own A r [o]) (ho : LstF o rows ∈ F) (hi : i < rows.length) (hx : rows[i]'hi = x) (hN : out.length ≤ 4000)
  (hK : ∀ (k : Nat) H' nx', nx ≤ nx' → k ≤ out.length → (∀ (j : Nat) (hj : j < out.length), k ≤ j → (out[j]'hj).2.c < x.2.c) → (∀ (hk : 0 < k) (hl : k - 1 < out.length), x.2.c ≤ (out[k - 1]'hl).2.c) → SM M A0 F H' nx' → K0 (.exit 2) (envL .und [(0, .ptr r 0), (1, iv n), (5, ov), (6, iv (i : Int)), (7, iv (k : Int))]) H' nx' [] none)
  {env : Env} (he : EnvLe (envL .und [(0, .ptr r 0), (1, iv n), (5, ov), (6, iv (i : Int)), (7, iv (out.length : Int))]) env) : LpP PG 86 (subAt (codeOf PG 15) [1, 1, 0, 1, 0, 0, 1, 0, 0, 1, 1, 0, 0, 0]) env H nx [] none K0 := by
 refine loop_w (P := PG) (X := Nat) (Y := Nat) (fun k => envL .und [(0, .ptr r 0), (1, iv n), (5, ov), (6, iv (i : Int)), (7, iv (k : Int))]) (fun k => envL .und [(0, .ptr r 0), (1, iv n), (5, ov), (6, iv (i : Int)), (7, iv (k : Int))])
  (fun m k H1 nx1 => H1 = H ∧ nx ≤ nx1 ∧ m = k ∧ k ≤ out.length ∧ ∀ (j : Nat) (hj : j < out.length), k ≤ j → (out[j]'hj).2.c < x.2.c)
  (fun id k H1 nx1 => id = 2 ∧ H1 = H ∧ nx ≤ nx1 ∧ k ≤ out.length ∧ (∀ (j : Nat) (hj : j < out.length), k ≤ j → (out[j]'hj).2.c < x.2.c) ∧ ∀ (hk : 0 < k) (hl : k - 1 < out.length), x.2.c ≤ (out[k - 1]'hl).2.c) out.length out.length he ⟨rfl, Nat.le_refl _, rfl, Nat.le_refl _, fun j hj h => by omega⟩ ?_ ?_
 ·rintro m k H1 nx1 ⟨rfl, g1, rfl, hkl, hlt⟩
  refine WpP.part (ts := [0, 1, 5, 6, 7]) mixed ?_
  rw [HoL_eq]
  unfold HoL
  refine ifB_iff.2 ⟨fun hk => ?_, fun hk => ?_⟩
  ·have hk : (0 : Int) < (m : Int) := of_decide_eq_true hk
   have e0 : IntKind.i64.wrap ((m : Int) - 1) = ((m - 1 : Nat) : Int) := by rw [wrap64_id (by omega) (by omega)]; omega
   rw [e0]
   have hl : m - 1 < out.length := by omega
   obtain ⟨b, i1, _, i3⟩ := ha.row (i := m - 1) (by simpa using hl) p fun _ _ w => w
   have e1 : (vs out)[m - 1]'(by simpa using hl) = (out[m - 1]'hl).v := by simp
   rw [e1] at i3
   obtain ⟨c, j1, _, j3⟩ := lst_at p ho hi
   rw [hx] at j3
   have q2 := i3 2 _ (by omega) rfl
   refine ⟨by omega, _, i1, _, rfl, _, q2, rfl, _, rfl, _, p.ld1 (ha.ownG hr) 0, by omega, _, j1, _, rfl, _, j3 2 (by omega), ⟨⟨_, q2, rfl⟩, ⟨_, p.ld1 (ha.ownG hr) 0, rfl⟩, ⟨_, j3 2 (by omega), rfl⟩, trivial⟩, ifB_iff.2 ⟨fun hc => ?_, fun hc => ?_⟩⟩
   ·have hc : (out[m - 1]'hl).2.c < x.2.c := of_decide_eq_true hc
    refine ⟨rfl, m - 1, m - 1, by omega, EnvLe.of_list (by exact ⟨rfl, rfl, rfl, rfl, rfl, trivial⟩), rfl, by omega, rfl, by omega, fun j hj hjk => ?_⟩
    by_cases hjm : j = m - 1
    ·subst hjm; exact hc
    ·exact hlt j hj (by omega)
   ·have hc : ¬ (out[m - 1]'hl).2.c < x.2.c := of_decide_eq_false hc
    exact ⟨rfl, m, EnvLe.of_list (by exact ⟨rfl, rfl, rfl, rfl, rfl, trivial⟩), rfl, rfl, by omega, hkl, hlt, fun _ _ => by omega⟩
  ·have hk : ¬ (0 : Int) < (m : Int) := of_decide_eq_false hk
   exact ⟨⟨rfl, rfl, rfl, trivial⟩, rfl, m, EnvLe.of_list (by exact ⟨rfl, rfl, rfl, rfl, rfl, trivial⟩), rfl, rfl, by omega, hkl, hlt, fun h _ => by omega⟩
 ·rintro id k H1 nx1 ⟨rfl, rfl, g1, hkl, hlt, hge⟩
  exact hK k H1 nx1 g1 hkl hlt hge (p.more g1)
def shiftW (out : List GRow) (j : Nat) : List GRow := (out ++ [gblank]).take (j + 1) ++ out.drop j
theorem shiftW_len {out : List GRow} {j : Nat} (h : j ≤ out.length) : (shiftW out j).length = out.length + 1 := by unfold shiftW; simp; omega
theorem shiftW_all (out : List GRow) : shiftW out out.length = out ++ [gblank] := by unfold shiftW; rw [List.take_of_length_le (by simp), List.drop_length, List.append_nil]
theorem shiftW_step {out : List GRow} {j : Nat} (h0 : 0 < j) (h : j ≤ out.length) : (shiftW out j).set j (out[j - 1]'(by omega)) = shiftW out (j - 1) ∧ (shiftW out j)[j - 1]? = some (out[j - 1]'(by omega)) := by
 have e1 : (out ++ [gblank]).take j = out.take j := by rw [List.take_append_of_le_length h]
 have hl : ((out ++ [gblank]).take (j + 1)).length = j + 1 := by simp; omega
 constructor
 ·unfold shiftW
  rw [show j - 1 + 1 = j by omega, e1, List.set_append, if_pos (by omega)]
  have e2 : (out ++ [gblank]).take (j + 1) = out.take j ++ [(out ++ [gblank])[j]'(by simp; omega)] := by
   rw [List.take_add_one, List.getElem?_eq_getElem (by simp; omega), e1]; rfl
  have e3 : out.drop (j - 1) = out[j - 1]'(by omega) :: out.drop j := by
   rw [List.drop_eq_getElem_cons (by omega), show j - 1 + 1 = j by omega]
  rw [e2, e3, List.set_append, if_neg (by simp; omega)]
  have e4 : (out.take j).length = j := by simp; omega
  rw [e4, Nat.sub_self]
  simp
 ·unfold shiftW
  rw [List.getElem?_append_left (by omega), List.getElem?_take_of_lt (by omega), List.getElem?_append_left (by omega), List.getElem?_eq_getElem (by omega)]
theorem shiftW_put {out : List GRow} {k : Nat} {x : GRow} (h : k ≤ out.length) : (shiftW out k).set k x = out.take k ++ x :: out.drop k := by
 have e1 : (out ++ [gblank]).take k = out.take k := by rw [List.take_append_of_le_length h]
 have e2 : (out ++ [gblank]).take (k + 1) = out.take k ++ [(out ++ [gblank])[k]'(by simp; omega)] := by
  rw [List.take_add_one, List.getElem?_eq_getElem (by simp; omega), e1]; rfl
 have e4 : (out.take k).length = k := by simp; omega
 unfold shiftW
 rw [e2, List.append_assoc, List.set_append, if_neg (by omega), e4, Nat.sub_self]
 rfl
theorem vs_set (w : List GRow) (j : Nat) (x : GRow) : (vs w).set j x.v = vs (w.set j x) := by unfold vs; rw [List.map_set]
theorem put_row {hb j : Nat} {w : List GRow} {x : GRow} {k : Heap → Prop} (p : SM M ((hb, (vs w).flatMap VRow.vals) :: A) F H nx) (hj : j < w.length) (hx : TyR x.1 x.2.ts ∈ F) (hR : RowsF w ∈ F)
  (hK : ∀ H', SM M ((hb, (vs (w.set j x)).flatMap VRow.vals) :: A) (RowsF (w.set j x) :: F) H' nx → k H') : ∃ v, idxS (.slice hb 0 w.length 5 false) (j : Int).toNat 5 = some v ∧ ∃ H1, stC H v [iv x.2.a, iv x.2.b, iv x.2.c, iv x.2.d, x.1] = some H1 ∧ k H1 := by
 have hc := gty_cell p hx
 obtain ⟨H1, e1, p1⟩ := p.st (b := hb) (off := 5 * j) (vs := x.v.vals) .hd (by rw [flat_len, vals_len]; simp; omega) (vals_cellG (v := x.v) hc)
 rw [flatL_set _ _ _ (by simpa using hj), vs_set] at p1
 refine ⟨_, by rw [idx5 hj], H1, e1, hK H1 (p1.add fun Γ q y hy => ?_)⟩
 rcases List.mem_or_eq_of_mem_set hy with hy | rfl
 ·exact q (RowsF w) hR y hy
 ·exact q _ hx
theorem rh_shift {r i hb k : Nat} {n : Int} {out : List GRow} {K0 : KP} (p : SM M ((hb, (vs (out ++ [gblank])).flatMap VRow.vals) :: A) F H nx) (hR : RowsF out ∈ F) (hk : k ≤ out.length) (hN : out.length ≤ 4000)
  (hK : ∀ H' nx', nx ≤ nx' → SM M ((hb, (vs (shiftW out k)).flatMap VRow.vals) :: A) (RowsF (shiftW out k) :: F) H' nx' → K0 (.exit 4) (envL .und [(0, .ptr r 0), (1, iv n), (5, .slice hb 0 (out.length + 1) 5 false), (6, iv (i : Int)), (7, iv (k : Int))]) H' nx' [] none)
  {env : Env} (he : EnvLe (envL .und [(0, .ptr r 0), (1, iv n), (5, .slice hb 0 (out.length + 1) 5 false), (6, iv (i : Int)), (7, iv (k : Int)), (8, iv (out.length : Int))]) env) : LpP PG 86 (subAt (codeOf PG 15) [1, 1, 0, 1, 0, 0, 1, 0, 0, 1, 1, 1, 1, 0, 1, 0, 0]) env H nx [] none K0 := by
 refine loop_w (P := PG) (X := Nat) (Y := Unit) (fun j => envL .und [(0, .ptr r 0), (1, iv n), (5, .slice hb 0 (out.length + 1) 5 false), (6, iv (i : Int)), (7, iv (k : Int)), (8, iv (j : Int))]) (fun _ => envL .und [(0, .ptr r 0), (1, iv n), (5, .slice hb 0 (out.length + 1) 5 false), (6, iv (i : Int)), (7, iv (k : Int))])
  (fun m j H1 nx1 => nx ≤ nx1 ∧ m = j ∧ k ≤ j ∧ j ≤ out.length ∧ SM M ((hb, (vs (shiftW out j)).flatMap VRow.vals) :: A) (RowsF (shiftW out j) :: F) H1 nx1)
  (fun id _ H1 nx1 => id = 4 ∧ nx ≤ nx1 ∧ SM M ((hb, (vs (shiftW out k)).flatMap VRow.vals) :: A) (RowsF (shiftW out k) :: F) H1 nx1) out.length out.length he ⟨Nat.le_refl _, rfl, hk, Nat.le_refl _, ?_⟩ ?_ ?_
 ·rw [shiftW_all]
  refine p.add fun Γ q y hy => ?_
  rcases List.mem_append.1 hy with hy | hy
  ·exact q (RowsF out) hR y hy
  ·simp at hy; subst hy; exact TyR.nil
 ·rintro m j H1 nx1 ⟨g1, rfl, hkj, hjl, q⟩
  refine WpP.part (ts := [0, 1, 5, 6, 7, 8]) mixed ?_
  rw [HoS_eq]
  unfold HoS
  refine ifB_iff.2 ⟨fun hc => ?_, fun hc => ?_⟩
  ·have hc : (k : Int) < (m : Int) := of_decide_eq_true hc
   have e0 : IntKind.i64.wrap ((m : Int) - 1) = ((m - 1 : Nat) : Int) := by rw [wrap64_id (by omega) (by omega)]; omega
   rw [e0]
   have hl : m - 1 < out.length := by omega
   obtain ⟨s1, s2⟩ := shiftW_step (out := out) (j := m) (by omega) hjl
   have hwl := shiftW_len hjl
   have hm1 : m - 1 < (shiftW out m).length := by omega
   have e2 : (shiftW out m)[m - 1]'hm1 = out[m - 1]'hl := Option.some.inj (by rw [← List.getElem?_eq_getElem hm1, s2])
   have rd : ldN H1 5 (.ptr hb (5 * (m - 1))) = some (.agg (out[m - 1]'hl).v.vals) := by
    obtain ⟨f1, f2⟩ := lflat_at (l := vs (shiftW out m)) (i := m - 1) (by simpa using hm1)
    have e3 : (vs (shiftW out m))[m - 1]'(by simpa using hm1) = (out[m - 1]'hl).v := by simp [e2]
    rw [e3, Nat.mul_comm] at f1
    rw [Nat.mul_comm] at f2
    rw [q.ldN .hd f2, f1]
   have q1 := q.add (P := TyR (out[m - 1]'hl).1 (out[m - 1]'hl).2.ts) fun Γ w => w (RowsF out) (.tail _ hR) _ (List.getElem_mem hl)
   refine ⟨by omega, _, idx5 (by omega : m - 1 < out.length + 1), _, _, _, _, _, rd, by omega, ?_⟩
   obtain ⟨v, i1, H2, e4, p2⟩ := put_row (x := out[m - 1]'hl) (j := m) (w := shiftW out m) (k := fun H' => SM M ((hb, (vs ((shiftW out m).set m (out[m - 1]'hl))).flatMap VRow.vals) :: A) (RowsF ((shiftW out m).set m (out[m - 1]'hl)) :: _) H' nx1) q1 (by omega) (.head _) (.tail _ (.head _)) fun H' h => h
   rw [hwl] at i1
   rw [s1] at p2
   refine ⟨v, i1, H2, e4, rfl, m - 1, m - 1, by omega, EnvLe.of_list (by exact ⟨rfl, rfl, rfl, rfl, rfl, rfl, trivial⟩), by omega, rfl, by omega, by omega, p2.sub fun P hP => ?_⟩
   rcases List.mem_cons.1 hP with rfl | hP
   ·exact .head _
   ·exact .tail _ (.tail _ (.tail _ hP))
  ·have hc : ¬ (k : Int) < (m : Int) := of_decide_eq_false hc
   have : m = k := by omega
   subst this
   exact ⟨rfl, (), EnvLe.of_list (by exact ⟨rfl, rfl, rfl, rfl, rfl, trivial⟩), rfl, g1, q⟩
 ·rintro id _ H1 nx1 ⟨rfl, g1, q⟩
  exact hK H1 nx1 g1 q
theorem blk_exit {i : Nat} {K : KP} {env : Env} {dfs : Dfs} {rc : Option AMode} (h : K .normal env H nx dfs rc) : blockK i K (.exit i) env H nx dfs rc := by
 show (if i = i then _ else _)
 rw [if_pos rfl]; exact h
theorem hot_codeR : subAt (codeOf PG 15) [1, 1, 0, 1, 0, 0] = .seq (subAt (codeOf PG 15) [1, 1, 0, 1, 0, 0, 0]) (.seq (.block 1 (.seq (.seq (subAt (codeOf PG 15) [1, 1, 0, 1, 0, 0, 1, 0, 0, 0, 0]) (.cond (.tmp 27) (.exit 1) .skip))
  (.seq (subAt (codeOf PG 15) [1, 1, 0, 1, 0, 0, 1, 0, 0, 1, 0]) (.seq (.block 2 (.loop (subAt (codeOf PG 15) [1, 1, 0, 1, 0, 0, 1, 0, 0, 1, 1, 0, 0, 0]))) (.seq (subAt (codeOf PG 15) [1, 1, 0, 1, 0, 0, 1, 0, 0, 1, 1, 1, 0])
   (.seq (.seq (subAt (codeOf PG 15) [1, 1, 0, 1, 0, 0, 1, 0, 0, 1, 1, 1, 1, 0, 0]) (.block 4 (.loop (subAt (codeOf PG 15) [1, 1, 0, 1, 0, 0, 1, 0, 0, 1, 1, 1, 1, 0, 1, 0, 0])))) (subAt (codeOf PG 15) [1, 1, 0, 1, 0, 0, 1, 0, 0, 1, 1, 1, 1, 1]))))))) (subAt (codeOf PG 15) [1, 1, 0, 1, 0, 0, 1, 1])) := by kernel_rfl
theorem rh_round {r i : Nat} {n : Int} {ov : AVal} {out : List GRow} {A0 : Owned} {x : GRow} {K0 : KP} (ha : OutA A A0 ov (vs out)) (p : SM M A0 F H nx) (hr : Own A r [o]) (ho : LstF o rows ∈ F) (hi : i < rows.length) (hx : rows[i]'hi = x) (hR : RowsF out ∈ F) (hD : Desc (cs_ out)) (hN : out.length ≤ 3900)
  (hlow : x.2.c < n → ∀ env, EnvLe (envL .und [(0, .ptr r 0), (1, iv n), (5, ov), (6, iv (i : Int))]) env → K0 .normal env H nx [] none)
  (hins : ¬ x.2.c < n → ∀ ov' out' A1 H' nx', nx ≤ nx' → cs_ out' = insH x.2 (cs_ out) → OutA A A1 ov' (vs out') → SM M A1 (RowsF out' :: F) H' nx' → ∀ env, EnvLe (envL .und [(0, .ptr r 0), (1, iv n), (5, ov'), (6, iv (i : Int))]) env → K0 .normal env H' nx' [] none) :
  WpP PG 86 (.block 1 (.seq (.seq (subAt (codeOf PG 15) [1, 1, 0, 1, 0, 0, 1, 0, 0, 0, 0]) (.cond (.tmp 27) (.exit 1) .skip))
  (.seq (subAt (codeOf PG 15) [1, 1, 0, 1, 0, 0, 1, 0, 0, 1, 0]) (.seq (.block 2 (.loop (subAt (codeOf PG 15) [1, 1, 0, 1, 0, 0, 1, 0, 0, 1, 1, 0, 0, 0]))) (.seq (subAt (codeOf PG 15) [1, 1, 0, 1, 0, 0, 1, 0, 0, 1, 1, 1, 0])
   (.seq (.seq (subAt (codeOf PG 15) [1, 1, 0, 1, 0, 0, 1, 0, 0, 1, 1, 1, 1, 0, 0]) (.block 4 (.loop (subAt (codeOf PG 15) [1, 1, 0, 1, 0, 0, 1, 0, 0, 1, 1, 1, 1, 0, 1, 0, 0])))) (subAt (codeOf PG 15) [1, 1, 0, 1, 0, 0, 1, 0, 0, 1, 1, 1, 1, 1])))))))
   (envL .und [(0, .ptr r 0), (1, iv n), (5, ov), (6, iv (i : Int))]) H nx [] K0 := by
 refine WpP.block (WpP.seq (WpP.seq (WpP.part (ts := [0, 1, 5, 6, 27]) mixed ?_)))
 rw [HoC_eq]
 unfold HoC
 obtain ⟨c, j1, _, j3⟩ := lst_at p ho hi
 rw [hx] at j3
 refine ⟨rfl, _, rfl, _, p.ld1 (ha.ownG hr) 0, by omega, _, j1, _, rfl, _, j3 2 (by omega), ?_⟩
 show WpP PG 86 _ _ _ _ _ _
 by_cases hlo : x.2.c < n
 ·rw [show decide (x.v.c < n) = true from decide_eq_true hlo]
  refine WpP.cond (p := true) rfl (WpP.of_vK mixed ?_)
  show blockK 1 K0 (.exit 1) _ _ _ _ _
  exact blk_exit (hlow hlo _ (EnvLe.of_list (by exact ⟨rfl, rfl, rfl, rfl, trivial⟩)))
 rw [show decide (x.v.c < n) = false from decide_eq_false hlo]
 refine WpP.cond (p := false) rfl (WpP.skip ?_)
 show WpP PG 86 _ _ _ _ _ _
 refine WpP.weaken (e := envL .und [(0, .ptr r 0), (1, iv n), (5, ov), (6, iv (i : Int))]) (EnvLe.of_list (by exact ⟨rfl, rfl, rfl, rfl, trivial⟩)) (WpP.seq (WpP.part (ts := [0, 1, 5, 6, 7]) mixed ?_))
 rw [HoK_eq]
 unfold HoK
 refine ⟨_, ha.len, ?_⟩
 show WpP PG 86 _ _ _ _ _ _
 refine WpP.seq (WpP.block (WpP.of_lp (rc := none) (rh_find (n := n) ha p hr ho hi hx (by omega) (fun k H1 nx1 g1 hk hlt hge p1 => blk_exit ?_) (EnvLe.of_list (by exact ⟨rfl, rfl, rfl, rfl, by show iv (Int.ofNat (vs out).length) = iv (out.length : Int); simp, trivial⟩)))))
 show WpP PG 86 _ _ _ _ _ _
 refine WpP.seq (WpP.part (ts := [0, 1, 5, 6, 7]) mixed ?_)
 rw [HoB_eq]
 unfold HoB
 refine p1.newF (Nat.le_refl _) fun H2 p2 => ⟨1, _, p2.src (b := nx1) (off := 0) (n := 1) (sz := 5) (e := 5) (full := true) (.head _) (by simp), rfl, ?_⟩
 obtain ⟨v, H3, e3, A3, a3, p3⟩ := ha.app (x := gblank.v) p2 (by simpa using (show out.length ≤ 4000 by omega))
 refine ⟨v, H3, _, e3, ?_⟩
 have e4 : vs out ++ [gblank.v] = vs (out ++ [gblank]) := by unfold vs; rw [List.map_append]; rfl
 rw [e4] at a3
 rcases a3 with ⟨h0, _⟩ | ⟨hb, rfl, rfl⟩
 ·simp at h0
 have hln : (vs (out ++ [gblank])).length = out.length + 1 := by simp
 rw [hln]
 show WpP PG 86 _ _ _ _ _ _
 refine WpP.seq (WpP.seq (WpP.part (ts := [0, 1, 5, 6, 7, 8]) mixed ?_))
 rw [HoM_eq]
 unfold HoM
 refine ⟨_, rfl, ?_⟩
 have e0 : IntKind.i64.wrap (Int.ofNat (out.length + 1) - 1) = (out.length : Int) := by rw [wrap64_id (by simp only [Int.ofNat_eq_natCast]; omega) (by simp only [Int.ofNat_eq_natCast]; omega)]; simp only [Int.ofNat_eq_natCast]; omega
 rw [e0]
 show WpP PG 86 _ _ _ _ _ _
 refine WpP.block (WpP.of_lp (rc := none) (rh_shift (n := n) (out := out) p3 (.tail _ hR) hk (by omega) (fun H4 nx4 g4 p4 => blk_exit ?_) (EnvLe.of_list (by exact ⟨rfl, rfl, rfl, rfl, rfl, rfl, trivial⟩))))
 show WpP PG 86 _ _ _ _ _ _
 refine WpP.part (ts := [0, 1, 5, 6]) mixed ?_
 rw [HoP_eq]
 unfold HoP
 obtain ⟨c, j1, j2, _⟩ := lst_at p4 (.tail _ (.tail _ ho)) hi
 rw [hx] at j2
 have q := lst_ty p4 (.tail _ (.tail _ ho)) hi
 rw [hx] at q
 refine ⟨rfl, _, rfl, _, p4.ld1 (.tl hr) 0, by omega, _, j1, _, _, _, _, _, j2, by omega, ?_⟩
 have hwl := shiftW_len hk
 obtain ⟨w, i1, H5, e5, p5⟩ := put_row (x := x) (j := k) (w := shiftW out k) (k := fun H' => SM M ((hb, (vs ((shiftW out k).set k x)).flatMap VRow.vals) :: A) (RowsF ((shiftW out k).set k x) :: _) H' nx4) q (show k < (shiftW out k).length by omega) (.head _) (.tail _ (.head _)) fun H' h => h
 rw [hwl] at i1
 rw [shiftW_put hk] at p5
 refine ⟨w, i1, H5, e5, ?_⟩
 have hcs : ∀ l : List GRow, (cs_ l).length = l.length := fun l => by simp [cs_]
 have hget : ∀ (j : Nat) (hj : j < (cs_ out).length), (cs_ out)[j]'hj = (out[j]'(by rw [hcs] at hj; exact hj)).2 := fun j hj => by simp [cs_]
 refine hins hlo _ (out.take k ++ x :: out.drop k) _ H5 nx4 (by omega) ?_ (.inr ⟨hb, ?_, rfl⟩) (p5.sub fun P hP => ?_) _ (EnvLe.of_list (by exact ⟨rfl, rfl, rfl, rfl, trivial⟩))
 ·rw [ins_at (l := cs_ out) (k := k) (by rw [hcs]; exact hk) (fun j hj hjk => ?_) fun j hj hjk => ?_]
  ·unfold cs_; rw [List.map_append, List.map_take, List.map_cons, List.map_drop]
  ·have hj' : j < out.length := by rw [hcs] at hj; exact hj
   have h1 := hge (by omega) (by omega)
   rw [hget]
   by_cases hjm : j = k - 1
   ·subst hjm; exact h1
   ·have h2 := List.pairwise_iff_getElem.1 hD j (k - 1) hj (by rw [hcs]; omega) (by omega)
    rw [hget, hget] at h2
    omega
  ·rw [hget]
   exact hlt j _ hjk
 ·rw [show (vs (out.take k ++ x :: out.drop k)).length = out.length + 1 by simp; omega]; rfl
 ·rcases List.mem_cons.1 hP with rfl | hP
  ·exact .head _
  ·exact .tail _ (.tail _ (.tail _ (.tail _ hP)))
theorem rhot_ok {r : Nat} {n : Int} (h : SM M A F H nx) (hr : Own A r [o]) (ho : LstF o rows ∈ F) (hN : rows.length ≤ 3000)
  (hK : ∀ o' out H' nx', nx ≤ nx' → cs_ out = (hotL n [] (cs_ rows)).take (min (hotL n [] (cs_ rows)).length 20) → SM M A (LstF o' out :: F) H' nx' → K (.ret o') H' nx') : TriP PG f_r10p_Hot [.ptr r 0, iv n] H nx K := by
 refine TriP.of_body mixed ?_
 rw [Fr10p_Hot_eq]
 unfold Fr10p_Hot
 refine loop_w (P := PG) (X := AVal × Nat) (Y := AVal) (fun z => envL .und [(0, .ptr r 0), (1, iv n), (5, z.1), (6, iv (z.2 : Int))]) (fun z => envL .und [(5, z)])
  (fun m z H1 nx1 => nx ≤ nx1 ∧ m + z.2 = rows.length ∧ ∃ out A0, hotL n [] (cs_ rows) = hotL n (cs_ out) (cs_ (rows.drop z.2)) ∧ Desc (cs_ out) ∧ out.length ≤ z.2 ∧ OutA A A0 z.1 (vs out) ∧ SM M A0 (RowsF out :: F) H1 nx1)
  (fun id z H1 nx1 => id = 0 ∧ nx ≤ nx1 ∧ ∃ out A0, hotL n [] (cs_ rows) = cs_ out ∧ out.length ≤ rows.length ∧ OutA A A0 z (vs out) ∧ SM M A0 (RowsF out :: F) H1 nx1) rows.length (.nilSlice, 0) (EnvLe.of_list (by exact ⟨rfl, rfl, rfl, rfl, trivial⟩))
  ⟨Nat.le_refl _, by simp, [], A, by simp [cs_], by simp [cs_, Desc], by simp, .inl ⟨rfl, rfl, rfl⟩, h.add fun Γ w y hy => by simp at hy⟩ ?_ ?_
 ·rintro m ⟨ov, i⟩ H1 nx1 ⟨g1, hm, out, A0, hs, hD, hl, ha, p⟩
  dsimp only at hm hs hl ha ⊢
  rw [hot_codeR]
  refine WpP.seq (WpP.part (ts := [0, 1, 5, 6]) mixed ?_)
  rw [HoH_eq]
  unfold HoH
  refine ⟨rfl, _, rfl, _, p.ld1 (ha.ownG hr) 0, _, lst_len p (.tail _ ho), ifB_iff.2 ⟨fun hc => ?_, fun hc => ?_⟩⟩
  ·have hc : (i : Int) < Int.ofNat rows.length := of_decide_eq_true hc
   simp only [Int.ofNat_eq_natCast] at hc
   have hi : i < rows.length := by omega
   have hdr : cs_ (rows.drop i) = rows[i].2 :: cs_ (rows.drop (i + 1)) := by rw [List.drop_eq_getElem_cons hi]; rfl
   rw [hdr] at hs
   have hs : hotL n [] (cs_ rows) = hotL n (if rows[i].2.c < n then cs_ out else insH rows[i].2 (cs_ out)) (cs_ (rows.drop (i + 1))) := hs
   have e0 : IntKind.i64.wrap ((i : Int) + 1) = ((i + 1 : Nat) : Int) := by rw [wrap64_id (by omega) (by omega)]; omega
   show WpP PG 86 _ _ _ _ _ _
   refine WpP.seq (rh_round (rows := rows) (x := rows[i]) ha p hr (.tail _ ho) hi rfl (.head _) hD (by omega) (fun hlo env hen => ?_) fun hlo ov' out' A1 H2 nx2 g2 hcs ha2 p2 env hen => ?_)
   ·refine WpP.weaken hen (WpP.part (ts := [0, 1, 5, 6]) mixed ?_)
    rw [HoI_eq]
    unfold HoI
    rw [e0]
    rw [if_pos hlo] at hs
    exact ⟨rfl, m - 1, (ov, i + 1), by omega, EnvLe.of_list (by exact ⟨rfl, rfl, rfl, rfl, trivial⟩), g1, by show m - 1 + (i + 1) = _; omega, out, A0, hs, hD, by show _ ≤ i + 1; omega, ha, p⟩
   ·refine WpP.weaken hen (WpP.part (ts := [0, 1, 5, 6]) mixed ?_)
    rw [HoI_eq]
    unfold HoI
    rw [e0]
    rw [if_neg hlo] at hs
    have hlen : out'.length = out.length + 1 := by
     have := congrArg List.length hcs
     rw [(insH_perm _ _).length_eq] at this
     simpa [cs_] using this
    refine ⟨rfl, m - 1, (ov', i + 1), by omega, EnvLe.of_list (by exact ⟨rfl, rfl, rfl, rfl, trivial⟩), by omega, by show m - 1 + (i + 1) = _; omega, out', A1, by show _ = hotL n (cs_ out') (cs_ (rows.drop (i + 1))); rw [hcs]; exact hs, by rw [hcs]; exact insH_desc hD, by show _ ≤ i + 1; omega, ha2, p2.sub fun P hP => ?_⟩
    rcases List.mem_cons.1 hP with rfl | hP
    ·exact .head _
    ·exact .tail _ (.tail _ hP)
  ·have hc : ¬ (i : Int) < Int.ofNat rows.length := of_decide_eq_false hc
   simp only [Int.ofNat_eq_natCast] at hc
   refine ⟨rfl, ov, EnvLe.of_list (by exact ⟨rfl, trivial⟩), rfl, g1, out, A0, ?_, by omega, ha, p⟩
   rw [List.drop_of_length_le (by omega)] at hs
   exact hs
 ·rintro id ov H1 nx1 ⟨rfl, g1, out, A0, hs, hl, ha, p⟩
  rw [HoA_eq]
  unfold HoA
  have q := ha.fix p (.head _)
  have hlo : (hotL n [] (cs_ rows)).length = out.length := by rw [hs]; simp [cs_]
  have emin : (Bool.rec (Bool.rec (Int.ofNat out.length) 20 (ilt 20 (Int.ofNat out.length))) (Bool.rec (Int.ofNat out.length) 20 (ilt (Int.ofNat out.length) 20)) false : Int) = ((min out.length 20 : Nat) : Int) := by
   show (Bool.rec (Int.ofNat out.length) 20 (ilt 20 (Int.ofNat out.length)) : Int) = _
   rw [ilt_eq]
   simp only [Int.ofNat_eq_natCast]
   by_cases hc : (20 : Int) < (out.length : Int)
   ·rw [decide_eq_true hc]; show (20 : Int) = _; omega
   ·rw [decide_eq_false hc]; show (out.length : Int) = _; omega
  refine ⟨_, lst_len q (.head _), _, rfl, ?_⟩
  rw [emin]
  rcases ha with ⟨h0, rfl, rfl⟩ | ⟨b, rfl, rfl⟩
  ·have h0 : out = [] := by simpa using h0
   subst h0
   exact ⟨by omega, .nilSlice, rfl, hK .nilSlice [] H1 nx1 (by omega) (by rw [hlo, hs]; rfl) (p.sub (fun P hP => .tail _ hP) |>.add fun Γ w => LstF.nil Γ)⟩
  ·have hmin : min out.length 20 ≤ (vs out).length := by simp; omega
   have hl5 : (vs (out.take (min out.length 20))).length = min out.length 20 := by simp
   refine ⟨by omega, .slice b 0 (min out.length 20) 5 (Bool.rec false false (Nat.beq (min out.length 20) (vs out).length)), ?_, ?_⟩
   ·unfold slcS
    simp only [Option.getD_some, Int.toNat_natCast, ble_le hmin, ble_le (Nat.zero_le (min out.length 20)), show Nat.beq 5 5 = true from rfl]
    show some (AVal.slice b (0 + 0 * 5) (min out.length 20 - 0) 5 _) = _
    rw [Nat.zero_mul, Nat.add_zero, Nat.sub_zero]
   ·have key : SM M A (LstF (.slice b 0 (min out.length 20) 5 (Bool.rec false false (Nat.beq (min out.length 20) (vs out).length))) (out.take (min out.length 20)) :: F) H1 nx1 := by
     have q1 := p.freeze
     refine SM.sub (SM.add q1 (P := LstF (.slice b 0 (min out.length 20) 5 (Bool.rec false false (Nat.beq (min out.length 20) (vs out).length))) (out.take (min out.length 20))) fun Γ w => ?_) fun P hP => ?_
     ·refine ⟨.inr ⟨b, Bool.rec false false (Nat.beq (min out.length 20) (vs out).length), (vs (out.drop (min out.length 20))).flatMap VRow.vals, ?_, ?_⟩, fun y hy => w (RowsF out) (.tail _ (.head _)) y (List.mem_of_mem_take hy)⟩
      ·rw [show (out.take (min out.length 20)).length = min out.length 20 by simp]
      ·have e9 : vs (out.take (min out.length 20)) ++ vs (out.drop (min out.length 20)) = vs out := by unfold vs; rw [← List.map_append, List.take_append_drop]
       rw [← List.flatMap_append, e9]; exact w _ (.head _)
     ·rcases List.mem_cons.1 hP with rfl | hP
      ·exact .head _
      ·exact .tail _ (.tail _ (.tail _ hP))
    exact hK _ (out.take (min out.length 20)) H1 nx1 (by omega) (by rw [hlo, hs]; unfold cs_; rw [List.map_take]) key
end
end
end Go.Vs
end
section
namespace Go.Vs
open Go.Proofs Go.Sort Go.Hp
variable [GTab]
noncomputable section
section
variable {M : MM} {A A' : Owned} {F : Facts} {H : Heap} {nx : Nat} {K : EndP}
theorem perm_two {x y : VRow} {l : List VRow} (h : l.Perm [x, y]) : l = [x, y] ∨ l = [y, x] := by
 have hl := h.length_eq
 match l, hl, h with
 | [u, v], _, h =>
  have hu : u ∈ [x, y] := h.mem_iff.1 (by simp)
  simp at hu
  rcases hu with rfl | rfl
  ·have := (List.perm_cons u).1 h
   have := List.perm_singleton.1 this
   cases this; exact .inl rfl
  ·have h2 : [u, v].Perm [u, x] := h.trans (List.Perm.swap _ _ _)
   have := List.perm_singleton.1 ((List.perm_cons u).1 h2)
   cases this; exact .inr rfl
theorem known_hot {c1 c2 e1 e2 : Nat} {rows out : List VRow}
  (hA : AllR [(c1, ⟨1, 5, 3, 0, .slice e1 0 0 2 true⟩), (c2, ⟨0, 2, 9, 0, .slice e2 0 0 2 true⟩)] rows) (hH : HotR 3 rows out) : ∃ u v, out = [u, v] ∧ u.c = 9 ∧ v.b = 5 := by
 have hp := hA.1
 have e : ((([(c1, ⟨1, 5, 3, 0, .slice e1 0 0 2 true⟩), (c2, ⟨0, 2, 9, 0, .slice e2 0 0 2 true⟩)] : List (Nat × VRow)).map (·.2)).filter keep).map strip = [⟨1, 5, 3, 0, .nilSlice⟩, ⟨0, 2, 9, 0, .nilSlice⟩] := by
  simp [keep, strip]
 rw [e] at hp
 have hc : ∀ x ∈ rows, 3 ≤ x.c := by
  intro x hx
  have : strip x ∈ rows.map strip := List.mem_map_of_mem hx
  have := hp.mem_iff.1 this
  have hs : (strip x).c = x.c := rfl
  simp only [List.mem_cons, List.not_mem_nil, or_false] at this
  rcases this with q | q <;> (rw [← hs, q]; decide)
 have hf : rows.filter (fun x => decide (3 ≤ x.c)) = rows := List.filter_eq_self.2 fun x hx => by simpa using hc x hx
 have hlen : rows.length = 2 := by have := hp.length_eq; simpa using this
 have hol := hH.len
 rw [List.countP_eq_length_filter, hf, hlen] at hol
 obtain ⟨rest, h1, h2, h3, h4, h5⟩ := hH
 have hr : rest = [] := by
  rcases h5 with h5 | h5
  ·rw [h5] at hol; exact absurd hol (by decide)
  ·exact h5
 subst hr
 rw [hf, List.append_nil] at h1
 have hq : (out.map strip).Perm [⟨1, 5, 3, 0, .nilSlice⟩, ⟨0, 2, 9, 0, .nilSlice⟩] := (h1.symm.map strip).trans hp
 have ho2 : out.length = 2 := by rw [hol]; decide
 match out, ho2, hq, h2 with
 | [u, v], _, hq, h2 =>
  have hord := h2 0 1 u v (by decide) rfl rfl
  rw [lessH_no] at hord
  refine ⟨u, v, rfl, ?_⟩
  rcases perm_two hq with q | q
  ·exfalso
   have e1 : strip u = ⟨1, 5, 3, 0, .nilSlice⟩ := (List.cons.inj q).1
   have e2 : strip v = ⟨0, 2, 9, 0, .nilSlice⟩ := (List.cons.inj (List.cons.inj q).2).1
   have c1 : u.c = 3 := congrArg VRow.c e1
   have c2 : v.c = 9 := congrArg VRow.c e2
   omega
  ·have e1 : strip u = ⟨0, 2, 9, 0, .nilSlice⟩ := (List.cons.inj q).1
   have e2 : strip v = ⟨1, 5, 3, 0, .nilSlice⟩ := (List.cons.inj (List.cons.inj q).2).1
   exact ⟨congrArg VRow.c e1, congrArg VRow.b e2⟩
theorem known_ok (h : SM M A F H nx) (hK : ∀ H' nx', nx ≤ nx' → SM M A F H' nx' → K (.ret (.bool true)) H' nx') : TriP PG f_law13_known [] H nx K := by
 refine TriP.of_body mixed ?_
 rw [Flaw13_known_eq (_u := 0)]
 unfold Flaw13_known
 have hlt : ∀ b o, M b = some o → b < nx := fun b o e => let ⟨Γ, g1, _⟩ := h; g1.ltM e
 refine new_ok h fun H1 n1 e1 p1 => onEnd_ret.2 ⟨false, rfl, ifB_f rfl ⟨rfl, rfl, rfl, ?_⟩⟩
 have p1' := p1.add (P := CntF []) fun Γ _ q hq => by simp at hq
 refine add_ok (p := nx + 1) (mb := nx) (L := []) (x := ⟨1, 5, 3, 0, .nilSlice⟩) p1' (.tail _ (.head _)) (mup_same _ _ _) (.head _) rfl (by decide) (by decide) (by decide) (by decide) (by simp) fun c1 t1 H2 n2 g2 p2 => onEnd_ret.2 ⟨true, rfl, ifB_f rfl ⟨rfl, rfl, rfl, ?_⟩⟩
 refine add_ok (p := nx + 1) (mb := nx) (L := [(c1, ⟨1, 5, 3, 0, .slice t1 0 0 2 true⟩)]) (x := ⟨0, 2, 9, 0, .nilSlice⟩) p2 (.tail _ (.tail _ (.head _))) (mup_same _ _ _) (.head _) rfl (by decide) (by decide) (by decide) (by decide) (by intro q hq; simp at hq; subst hq; simp) fun c2 t2 H3 n3 g3 p3 => onEnd_ret.2 ⟨true, rfl, ifB_f rfl ?_⟩
 refine hot_ok (p := nx + 1) (mb := nx) (L := [(c1, ⟨1, 5, 3, 0, .slice t1 0 0 2 true⟩), (c2, ⟨0, 2, 9, 0, .slice t2 0 0 2 true⟩)]) p3 (.tail _ (.tail _ (.tail _ (.head _)))) (mup_same _ _ _) (.head _) (by simp) fun o rows out A0 H4 n4 g4 hA hH ha p4 => onEnd_ret.2 ?_
 obtain ⟨u, v, rfl, hu, hv⟩ := known_hot hA hH
 obtain ⟨b, i1, i2, i3⟩ := ha.row (i := 0) (by simp) p4 fun b cs o => o
 obtain ⟨b', j1, j2, j3⟩ := ha.row (i := 1) (by simp) p4 fun b cs o => o
 refine ⟨2, ha.len, ifB_t rfl ⟨by decide, _, i1, _, rfl, _, i3 2 _ (by decide) rfl, ifB_t (decide_eq_true hu) ⟨by decide, _, j1, _, rfl, _, j3 1 _ (by decide) rfl, ?_⟩⟩⟩
 rw [show decide (([u, v] : List VRow)[1].b = 5) = true from decide_eq_true hv]
 refine hK H4 n4 (by omega) (((p4.sel ha.sub).sub fun P hP => ?_).subM fun b o e => ?_)
 ·simp [hP]
 ·have := hlt b o e
  rw [mup_ne (by omega), mup_ne (by omega), mup_ne (by omega)]; exact e
end
end
end Go.Vs
end
section
namespace Go.Vs
open Go.Proofs Go.Sort Go.Hp
variable [GTab]
noncomputable section
structure ArgC (o : AVal) (rows : List GRow) : Prop where
 len : lenS o = some rows.length
 at_ : ∀ i (hi : i < rows.length), ∃ p, idxS o i 5 = some p ∧ ∀ H, ldN H 5 p = some (.agg (rows[i]'hi).v.vals)
 ty : ∀ x ∈ rows, ∀ Γ, TyR x.1 x.2.ts Γ
structure Pr (M : MM) (mb : Nat) (L : List (Nat × GRow)) (o : AVal) (rows : List GRow) (F : Facts) (i : Nat) : Prop where
 hm : M mb = some (.map (gents L) L.length)
 hL : EntF L ∈ F
 ho : LstF o rows ∈ F
 both : Both (cnts L) (cs_ rows)
 h4 : ∀ q ∈ L, q.2.2.ts.length ≤ 4
 hl : L.length ≤ i
 hr : rows.length ≤ i
theorem Pr.mono {M : MM} {mb : Nat} {L : List (Nat × GRow)} {o : AVal} {rows : List GRow} {F G : Facts} {i j : Nat} (h : Pr M mb L o rows F i) (hs : F ⊆ G) (hi : i ≤ j) : Pr M mb L o rows G j := ⟨h.hm, hs h.hL, hs h.ho, h.both, h.h4, by have := h.hl; omega, by have := h.hr; omega⟩
abbrev EA (o : AVal) (near : Bool) (n : Int) (p r : Nat) (i : Int) : List (Nat × AVal) := [(0, o), (1, .bool near), (2, iv n), (6, .bool false), (7, .ptr p 0), (8, .ptr r 0), (9, iv i)]
section
variable {M : MM} {A : Owned} {F : Facts} {H : Heap} {nx : Nat} {K : EndP} {K0 : KP}
theorem ga_types {o : AVal} {near : Bool} {n : Int} {p r c : Nat} {i : Int} {x : GRow} (h : SM M ((c, x.v.vals) :: A) F H nx) (hx : TyR x.1 x.2.ts ∈ F)
  (hK : ∀ t ts A1 H' nx', nx ≤ nx' → SM M A1 F H' nx' → (t = .nilSlice ∧ ts = [] ∧ A1 = (c, x.v.vals) :: A ∨ ∃ b, t = .slice b 0 ts.length 2 false ∧ A1 = (b, tcells ts) :: (c, x.v.vals) :: A) → K0 (.exit 2) (envL .und (EA o near n p r i ++ [(10, .ptr c 0), (11, t)])) H' nx' [] none)
  {env : Env} (he : EnvLe (envL .und (EA o near n p r i ++ [(10, .ptr c 0), (11, .nilSlice), (12, iv 0)])) env) : LpP PG 165 (subAt (codeOf PG 4) [1, 1, 1, 1, 0, 1, 0, 0, 1, 0, 0, 1, 0, 1, 0, 1, 1, 1, 1, 1, 0, 1, 0, 0]) env H nx [] none K0 := by
 refine loop_w (P := PG) (X := AVal × Nat) (Y := AVal) (fun z => envL .und (EA o near n p r i ++ [(10, .ptr c 0), (11, z.1), (12, iv (z.2 : Int))])) (fun z => envL .und (EA o near n p r i ++ [(10, .ptr c 0), (11, z)]))
  (fun m z H1 nx1 => nx ≤ nx1 ∧ m + z.2 = 5 ∧ ∃ ts A1, ts.length = z.2 ∧ SM M A1 F H1 nx1 ∧ (z.1 = .nilSlice ∧ ts = [] ∧ A1 = (c, x.v.vals) :: A ∨ ∃ b, z.1 = .slice b 0 ts.length 2 false ∧ A1 = (b, tcells ts) :: (c, x.v.vals) :: A))
  (fun id z H1 nx1 => id = 2 ∧ nx ≤ nx1 ∧ ∃ ts A1, SM M A1 F H1 nx1 ∧ (z = .nilSlice ∧ ts = [] ∧ A1 = (c, x.v.vals) :: A ∨ ∃ b, z = .slice b 0 ts.length 2 false ∧ A1 = (b, tcells ts) :: (c, x.v.vals) :: A)) 5 (.nilSlice, 0) he
  ⟨Nat.le_refl _, rfl, [], _, rfl, h, .inl ⟨rfl, rfl, rfl⟩⟩ ?_ ?_
 ·rintro m ⟨t, k⟩ H1 nx1 ⟨g1, hm, ts, A1, hl, q, ht⟩
  dsimp only at hm hl ht ⊢
  refine WpP.part (ts := [0, 1, 2, 6, 7, 8, 9, 10, 11, 12]) mixed ?_
  refine Eq.mpr (PaQ_eq ..) ?_
  unfold PaQ
  have own : Own A1 c x.v.vals := by
   rcases ht with ⟨_, _, rfl⟩ | ⟨b, _, rfl⟩
   ·exact .hd
   ·exact .tl .hd
  have out : ∃ ts A1, SM M A1 F H1 nx1 ∧ (t = .nilSlice ∧ ts = [] ∧ A1 = (c, x.v.vals) :: A ∨ ∃ b, t = .slice b 0 ts.length 2 false ∧ A1 = (b, tcells ts) :: (c, x.v.vals) :: A) := ⟨ts, A1, q, ht⟩
  refine ⟨_, rfl, _, q.ld1 own 4, _, gty_len q hx, ifB_iff.2 ⟨fun hc => ifB_iff.2 ⟨fun h5 => ?_, fun h5 => ?_⟩, fun hc => ?_⟩⟩
  ·have hc : (k : Int) < Int.ofNat x.2.ts.length := of_decide_eq_true hc
   simp only [Int.ofNat_eq_natCast] at hc
   have h5 : (k : Int) < 5 := of_decide_eq_true h5
   have hi : k < x.2.ts.length := by omega
   obtain ⟨v, v0, v1, i1, i2, i3, i4, i5⟩ := gty_fld q hx hi
   refine ⟨_, rfl, _, q.ld1 own 4, by omega, _, i1, _, i2, _, i4, _, rfl, _, q.ld1 own 4, by omega, _, i1, _, i3, _, i5, ⟨⟨_, q.ld1 own 4, rfl⟩, ⟨_, i4, rfl⟩, ⟨_, q.ld1 own 4, rfl⟩, ⟨_, i5, rfl⟩, trivial⟩, ?_⟩
   refine pick_ok (m := 7) (by decide) (by decide) (onEnd_ret.2 ⟨_, rfl, ⟨⟨_, q.ld1 own 4, rfl⟩, ⟨_, i5, rfl⟩, trivial⟩, ?_⟩)
   refine pick_ok (m := 9) (by decide) (by decide) (onEnd_ret.2 ⟨_, rfl, rfl, rfl, ?_⟩)
   generalize (x.2.ts[k]'hi).1 % 7 = y1
   generalize (x.2.ts[k]'hi).2 % 9 = y2
   have q1 := ((q.newN (i := nx1 + 16) (nx' := nx1 + 18) (cs := [iv y1, iv y2]) (by omega) (by omega)).freeze)
   refine ⟨_, rfl, trivial, 1, _, q1.src (b := nx1 + 16) (off := 0) (n := 1) (sz := 2) (e := 2) (full := true) (.head _) (by simp), rfl, ?_⟩
   have e0 : IntKind.i64.wrap ((k : Int) + 1) = ((k + 1 : Nat) : Int) := by rw [wrap64_id (by omega) (by omega)]; omega
   rw [e0]
   have hts : tcells (ts ++ [(y1, y2)]) = tcells ts ++ [iv y1, iv y2] := by rw [tcells_app]; rfl
   rcases ht with ⟨rfl, rfl, rfl⟩ | ⟨b, rfl, rfl⟩
   ·obtain ⟨H2, e2, q2⟩ := q1.appNil (esz := 2) (ebytes := 16) (k := 1) (new := [iv y1, iv y2]) rfl (by omega) (by omega) (by omega)
    exact ⟨_, H2, _, e2, trivial, rfl, m - 1, (.slice (nx1 + 18) 0 1 2 false, k + 1), by omega, EnvLe.of_list (by exact ⟨rfl, rfl, rfl, rfl, rfl, rfl, rfl, rfl, rfl, rfl, trivial⟩), by omega, by show m - 1 + (k + 1) = 5; omega, [(y1, y2)], _, (by subst hl; rfl), q2.sub fun P hP => .tail _ hP, .inr ⟨nx1 + 18, rfl, rfl⟩⟩
   ·obtain ⟨H2, e2, q2⟩ := q1.app (len := ts.length) (esz := 2) (ebytes := 16) (k := 1) (new := [iv y1, iv y2]) (tcells_len _) rfl (by omega) (by omega) (by omega)
    rw [← hts] at q2
    exact ⟨_, H2, _, e2, trivial, rfl, m - 1, (.slice (nx1 + 18) 0 (ts.length + 1) 2 false, k + 1), by omega, EnvLe.of_list (by exact ⟨rfl, rfl, rfl, rfl, rfl, rfl, rfl, rfl, rfl, rfl, trivial⟩), by omega, by show m - 1 + (k + 1) = 5; omega, ts ++ [(y1, y2)], _, by simp [hl], q2.sub fun P hP => .tail _ hP, .inr ⟨nx1 + 18, by simp, rfl⟩⟩
  ·exact ⟨rfl, t, EnvLe.of_list (by exact ⟨rfl, rfl, rfl, rfl, rfl, rfl, rfl, rfl, rfl, trivial⟩), rfl, g1, out⟩
  ·exact ⟨rfl, t, EnvLe.of_list (by exact ⟨rfl, rfl, rfl, rfl, rfl, rfl, rfl, rfl, rfl, trivial⟩), rfl, g1, out⟩
 ·rintro id t H1 nx1 ⟨rfl, g1, ts, A1, q, ht⟩
  exact hK t ts A1 H1 nx1 g1 q ht
theorem blk_exitG {i : Nat} {K : KP} {env : Env} {dfs : Dfs} {rc : Option AMode} (h : K .normal env H nx dfs rc) : blockK i K (.exit i) env H nx dfs rc := blk_exit h
theorem pick_cell {c j : Nat} {x : GRow} {m y : Int} {k : Heap → Nat → Prop} (h : SM M ((c, x.v.vals) :: A) F H nx) (hj : x.v.vals[j]? = some (iv y)) (h0 : 0 < m) (h1 : m ≤ 4611686018427387904) {Kp : List (AVal × Bool) → Heap → Nat → Prop}
  (hK : ∀ H', SM M ((c, x.v.vals.set j (iv (y % m))) :: A) F H' nx → k H' nx) :
  ∃ v0, some (AVal.ptr c j) = some v0 ∧ ∃ n1 : Int, ld1 H v0 = some (iv n1) ∧ TriP PG f_h_Pick [iv n1, iv m] H nx fun e2 H3 i4 => onEnd e2 (fun v5 => ∃ n6 : Int, v5 = iv n6 ∧ ∃ v7, some (AVal.ptr c j) = some v7 ∧ true = true ∧ ∃ H8, stC H3 v7 [iv n6] = some H8 ∧ k H8 i4) fun l9 => Kp l9 H3 i4 := by
 have hjl : j < x.v.vals.length := by
  rcases Nat.lt_or_ge j x.v.vals.length with q | q
  ·exact q
  ·rw [List.getElem?_eq_none q] at hj; cases hj
 exact ⟨_, rfl, _, (h.ld1 .hd j).trans hj, pick_ok h0 h1 (onEnd_ret.2 ⟨_, rfl, _, rfl, rfl, h.one .hd hjl rfl fun H' h' => hK H' h'⟩)⟩
theorem ga_near {o : AVal} {near : Bool} {n : Int} {p r c : Nat} {i : Int} {x : GRow} (h : SM M ((c, x.v.vals) :: A) F H nx) (hx : TyR x.1 x.2.ts ∈ F)
  (hK : ∀ (y : GRow) H' nx', nx ≤ nx' → SM M ((c, y.v.vals) :: A) (TyR y.1 y.2.ts :: F) H' nx' → ∀ env, EnvLe (envL .und (EA o near n p r i ++ [(10, .ptr c 0)])) env → K0 .normal env H' nx' [] none)
  {env : Env} (he : EnvLe (envL .und (EA o near n p r i ++ [(10, .ptr c 0)])) env) :
  WpP PG 165 (.seq (subAt (codeOf PG 4) [1, 1, 1, 1, 0, 1, 0, 0, 1, 0, 0, 1, 0, 1, 0, 0]) (.seq (subAt (codeOf PG 4) [1, 1, 1, 1, 0, 1, 0, 0, 1, 0, 0, 1, 0, 1, 0, 1, 0]) (.seq (subAt (codeOf PG 4) [1, 1, 1, 1, 0, 1, 0, 0, 1, 0, 0, 1, 0, 1, 0, 1, 1, 0]) (.seq (subAt (codeOf PG 4) [1, 1, 1, 1, 0, 1, 0, 0, 1, 0, 0, 1, 0, 1, 0, 1, 1, 1, 0])
   (.seq (subAt (codeOf PG 4) [1, 1, 1, 1, 0, 1, 0, 0, 1, 0, 0, 1, 0, 1, 0, 1, 1, 1, 1, 0]) (.seq (.seq (subAt (codeOf PG 4) [1, 1, 1, 1, 0, 1, 0, 0, 1, 0, 0, 1, 0, 1, 0, 1, 1, 1, 1, 1, 0, 0]) (.block 2 (.loop (subAt (codeOf PG 4) [1, 1, 1, 1, 0, 1, 0, 0, 1, 0, 0, 1, 0, 1, 0, 1, 1, 1, 1, 1, 0, 1, 0, 0])))) (subAt (codeOf PG 4) [1, 1, 1, 1, 0, 1, 0, 0, 1, 0, 0, 1, 0, 1, 0, 1, 1, 1, 1, 1, 1])))))))
   env H nx [] K0 := by
 obtain ⟨t, a, b, cc, d, ts⟩ := x
 refine WpP.weaken he (WpP.seq (WpP.part (ts := [0, 1, 2, 6, 7, 8, 9, 10]) mixed ?_))
 refine Eq.mpr (PaN1_eq ..) ?_
 unfold PaN1
 refine pick_cell (x := (t, ⟨a, b, cc, d, ts⟩)) (y := a) h rfl (by decide) (by decide) fun H1 p1 => ?_
 show WpP PG 165 _ _ _ _ _ _
 refine WpP.seq (WpP.part (ts := [0, 1, 2, 6, 7, 8, 9, 10]) mixed ?_)
 refine Eq.mpr (PaN2_eq ..) ?_
 unfold PaN2
 refine pick_cell (x := (t, ⟨a % 3, b, cc, d, ts⟩)) (y := b) p1 rfl (by decide) (by decide) fun H2 p2 => ?_
 show WpP PG 165 _ _ _ _ _ _
 refine WpP.seq (WpP.part (ts := [0, 1, 2, 6, 7, 8, 9, 10]) mixed ?_)
 refine Eq.mpr (PaN3_eq ..) ?_
 unfold PaN3
 refine pick_cell (x := (t, ⟨a % 3, b % 6, cc, d, ts⟩)) (y := cc) p2 rfl (by decide) (by decide) fun H3 p3 => ?_
 show WpP PG 165 _ _ _ _ _ _
 refine WpP.seq (WpP.part (ts := [0, 1, 2, 6, 7, 8, 9, 10]) mixed ?_)
 refine Eq.mpr (PaN4_eq ..) ?_
 unfold PaN4
 refine pick_cell (x := (t, ⟨a % 3, b % 6, cc % 9, d, ts⟩)) (y := d) p3 rfl (by decide) (by decide) fun H4 p4 => ?_
 show WpP PG 165 _ _ _ _ _ _
 refine WpP.seq (WpP.part (ts := [0, 1, 2, 6, 7, 8, 9, 10, 11]) mixed ?_)
 refine Eq.mpr (PaN5_eq ..) ?_
 unfold PaN5
 show WpP PG 165 _ _ _ _ _ _
 refine WpP.seq (WpP.seq (WpP.part (ts := [0, 1, 2, 6, 7, 8, 9, 10, 11, 12]) mixed ?_))
 refine Eq.mpr (PaN6_eq ..) ?_
 unfold PaN6
 show WpP PG 165 _ _ _ _ _ _
 refine WpP.block (WpP.of_lp (rc := none) (ga_types (x := (t, ⟨a % 3, b % 6, cc % 9, d % 9, ts⟩)) p4 hx (fun t2 ts2 A1 H5 n5 g5 p5 ht2 => blk_exitG ?_) (EnvLe.of_list (by exact ⟨rfl, rfl, rfl, rfl, rfl, rfl, rfl, rfl, rfl, rfl, trivial⟩))))
 show WpP PG 165 _ _ _ _ _ _
 refine WpP.part (ts := [0, 1, 2, 6, 7, 8, 9, 10]) mixed ?_
 refine Eq.mpr (PaR_eq ..) ?_
 unfold PaR
 have fin : ∀ H6, SM M ((c, GRow.v (t2, ⟨a % 3, b % 6, cc % 9, d % 9, ts2⟩) |>.vals) :: A) (TyR t2 ts2 :: F) H6 n5 → _ := fun H6 q => hK (t2, ⟨a % 3, b % 6, cc % 9, d % 9, ts2⟩) H6 n5 g5 q (envL .und (EA o near n p r i ++ [(10, .ptr c 0)])) (EnvLe.of_list (by exact ⟨rfl, rfl, rfl, rfl, rfl, rfl, rfl, rfl, trivial⟩))
 rcases ht2 with ⟨rfl, rfl, rfl⟩ | ⟨b2, rfl, rfl⟩
 ·exact ⟨_, rfl, rfl, p5.one .hd (by simp [VRow.vals]) rfl fun H6 p6 => fin H6 (p6.add fun Γ w => TyR.nil)⟩
 ·have p6 := p5.freeze
  refine ⟨_, rfl, rfl, p6.one .hd (by simp [VRow.vals]) rfl fun H6 p7 => fin H6 ((p7.add (P := TyR (.slice b2 0 ts2.length 2 false) ts2) fun Γ w => TyR.row (w _ (.head _))).sub fun P hP => ?_)⟩
  rcases List.mem_cons.1 hP with rfl | hP
  ·exact .head _
  ·exact .tail _ (.tail _ hP)
theorem gadd2 {p mb : Nat} {L : List (Nat × GRow)} {x : GRow} (h : SM M A F H nx) (hp : RowF p [.map mb] ∈ F) (hm : M mb = some (.map (gents L) L.length)) (hL : EntF L ∈ F) (hx : TyR x.1 x.2.ts ∈ F)
  (hK : ∀ L' M' H' nx', nx ≤ nx' → cnts L' = (if x.2.ok = true then updL x.2 (cnts L) else cnts L) → M' mb = some (.map (gents L') L'.length) → SM M' A (EntF L' :: F) H' nx' → K (.ret (.bool x.2.ok)) H' nx') :
  TriP PG f_pf_Add [.ptr p 0, .agg [iv x.2.a, iv x.2.b, iv x.2.c, iv x.2.d, x.1]] H nx K := by
 refine gadd_ok h hp hm hL hx (fun e H' nx' g q => ?_) fun e L' M' H' nx' g hc hm' q => ?_
 ·have := hK L M H' nx' g (by rw [if_neg (by rw [e]; decide)]) hm (q.add fun Γ w => w _ hL)
  rw [e] at this; exact this
 ·have := hK L' M' H' nx' g (by rw [if_pos e]; exact hc) hm' q
  rw [e] at this; exact this
theorem radd2 {r : Nat} {x : GRow} {o : AVal} {rows : List GRow} {A' : AVal → Owned} (h : SM M A F H nx) (hu : ∀ v, Upd A r [o] [v] (A' v)) (hA : A' o = A) (ho : LstF o rows ∈ F) (hx : TyR x.1 x.2.ts ∈ F) (hN : rows.length ≤ 3000)
  (hK : ∀ o' rows' H' nx', nx ≤ nx' → cs_ rows' = (if x.2.ok = true then setL x.2 false (cs_ rows) else cs_ rows) → SM M (A' o') (LstF o' rows' :: F) H' nx' → K (.ret (.bool x.2.ok)) H' nx') :
  TriP PG f_r10p_Add [.ptr r 0, .agg [iv x.2.a, iv x.2.b, iv x.2.c, iv x.2.d, x.1]] H nx K := by
 refine radd_ok h hu ho hx hN (fun e H' nx' g q => ?_) fun e o' rows' H' nx' g hc q => ?_
 ·have := hK o rows H' nx' g (by rw [if_neg (by rw [e]; decide)]) (by rw [hA]; exact q.add fun Γ w => w _ ho)
  rw [e] at this; exact this
 ·have := hK o' rows' H' nx' g (by rw [if_pos e]; exact hc) q
  rw [e] at this; exact this
def getC (f g : Int) (L : List Cnt) : Cnt := (findL f g L).getD (blankC f g)
theorem of2 {p mb : Nat} {L : List (Nat × GRow)} {f g : Int} (h : SM M A F H nx) (hp : RowF p [.map mb] ∈ F) (hm : M mb = some (.map (gents L) L.length)) (hL : EntF L ∈ F) (h4 : ∀ q ∈ L, q.2.2.ts.length ≤ 4)
  (hK : ∀ t H' nx', nx ≤ nx' → (getC f g (cnts L)).ts.length ≤ 4 → SM M A (TyR t (getC f g (cnts L)).ts :: F) H' nx' → K (.ret (.agg [iv (getC f g (cnts L)).a, iv (getC f g (cnts L)).b, iv (getC f g (cnts L)).c, iv (getC f g (cnts L)).d, t])) H' nx') :
  TriP PG f_pf_Of [.ptr p 0, iv f, iv g] H nx K := by
 refine of_ok h hp hm hL h4 (fun e H' nx' g' q => ?_) fun x e hx u full H' nx' g' q => ?_
 ·have hg : getC f g (cnts L) = blankC f g := by unfold getC; rw [e]; rfl
  rw [hg] at hK
  exact hK .nilSlice H' nx' g' (by simp [blankC]) (q.add fun Γ w => TyR.nil)
 ·have hg : getC f g (cnts L) = x := by unfold getC; rw [e]; rfl
  rw [hg] at hK
  have q1 := q.freeze
  refine hK _ H' nx' g' hx ((q1.add (P := TyR (.slice u 0 x.ts.length 2 full) x.ts) fun Γ w => TyR.row (w _ (.head _))).sub fun P hP => ?_)
  rcases List.mem_cons.1 hP with rfl | hP
  ·exact .head _
  ·exact .tail _ (.tail _ hP)
theorem rof2 {r : Nat} {f g : Int} {o : AVal} {rows : List GRow} (h : SM M A F H nx) (hr : Own A r [o]) (ho : LstF o rows ∈ F) (hN : rows.length ≤ 4000) (hpl : Placed (cs_ rows))
  (hK : ∀ t H' nx', nx ≤ nx' → SM M A (TyR t (getC f g (cs_ rows)).ts :: F) H' nx' → K (.ret (.agg [iv (getC f g (cs_ rows)).a, iv (getC f g (cs_ rows)).b, iv (getC f g (cs_ rows)).c, iv (getC f g (cs_ rows)).d, t])) H' nx') :
  TriP PG f_r10p_Of [.ptr r 0, iv f, iv g] H nx K := by
 refine rof_ok h hr ho hN (fun e H' nx' g' q => ?_) fun x hx e H' nx' g' q => ?_
 ·have e1 : findL f g (cs_ rows) = none := by
   unfold findL
   rw [List.find?_eq_none]
   intro y hy
   obtain ⟨z, hz, rfl⟩ := List.mem_map.1 hy
   have := e z hz
   simpa using this
  have hg : getC f g (cs_ rows) = blankC f g := by unfold getC; rw [e1]; rfl
  rw [hg] at hK
  exact hK .nilSlice H' nx' g' (q.add fun Γ w => TyR.nil)
 ·have e1 : findL f g (cs_ rows) = some x.2 := find_uniq hpl (List.mem_map_of_mem hx) e
  have hg : getC f g (cs_ rows) = x.2 := by unfold getC; rw [e1]; rfl
  rw [hg] at hK
  exact hK _ H' nx' g' q
theorem Both.get {L N : List Cnt} (h : Both L N) (f g : Int) : getC f g L = getC f g N := by
 unfold getC
 rcases h.find f g with ⟨h1, h2⟩ | ⟨x, h1, h2, h3, h4 | ⟨h4, h5⟩⟩
 ·rw [h1, h2]
 ·rw [h1, h4]
 ·rw [h1, h5]
  have := empty_iff.1 h4
  obtain ⟨a, b, c, d, ts⟩ := x
  simp only at h2 h3 this
  obtain ⟨rfl, rfl, rfl⟩ := this
  subst h2; subst h3; rfl
theorem Pr.add {mb : Nat} {L L' : List (Nat × GRow)} {o o' : AVal} {rows rows' : List GRow} {i : Nat} {x : Cnt} {M' : MM} {G : Facts} (h : Pr M mb L o rows F i) (h1 : cnts L' = (if x.ok = true then updL x (cnts L) else cnts L)) (h2 : cs_ rows' = (if x.ok = true then setL x false (cs_ rows) else cs_ rows))
  (hm : M' mb = some (.map (gents L') L'.length)) (hL : EntF L' ∈ G) (ho : LstF o' rows' ∈ G) : Pr M' mb L' o' rows' G (i + 1) := by
 have lc : ∀ l : List (Nat × GRow), (cnts l).length = l.length := fun l => by simp [cnts]
 have lr : ∀ l : List GRow, (cs_ l).length = l.length := fun l => by simp [cs_]
 have hl := h.hl
 have hr := h.hr
 by_cases hk : x.ok = true
 ·rw [if_pos hk] at h1 h2
  refine ⟨hm, hL, ho, by rw [h1, h2]; exact h.both.set x, fun q hq => ?_, ?_, ?_⟩
  ·have : q.2.2 ∈ cnts L' := List.mem_map_of_mem hq
   rw [h1] at this
   rcases updL_mem this with e | e
   ·rw [e]; exact ok_len hk
   ·obtain ⟨q', hq', e⟩ := List.mem_map.1 e
    rw [← e]; exact h.h4 q' hq'
  ·have := updL_len x (cnts L)
   rw [← h1, lc, lc] at this
   omega
  ·have := (setL_perm x (cs_ rows)).length_eq
   rw [← h2, lr, List.length_append] at this
   have e1 := List.length_filter_le (fun y => !x.at_ y) (cs_ rows)
   rw [lr] at e1
   have e2 : (if x.empty = true then ([] : List Cnt) else [x]).length ≤ 1 := by split <;> simp
   omega
 ·rw [if_neg hk] at h1 h2
  refine ⟨hm, hL, ho, by rw [h1, h2]; exact h.both, fun q hq => ?_, ?_, ?_⟩
  ·have : q.2.2 ∈ cnts L' := List.mem_map_of_mem hq
   rw [h1] at this
   obtain ⟨q', hq', e⟩ := List.mem_map.1 this
   rw [← e]; exact h.h4 q' hq'
  ·have := congrArg List.length h1
   rw [lc, lc] at this; omega
  ·have := congrArg List.length h2
   rw [lr, lr] at this; omega
theorem ga_cmp {o : AVal} {near : Bool} {n : Int} {p r c mb : Nat} {i : Int} {x : GRow} {L : List (Nat × GRow)} {ro : AVal} {rr : List GRow} {j : Nat} (P : Pr M mb L ro rr F j) (hj : j ≤ 2000) (h : SM M ((c, x.v.vals) :: (r, [ro]) :: A) F H nx) (hp : RowF p [.map mb] ∈ F) (hx : TyR x.1 x.2.ts ∈ F)
  (hK : ∀ L' ro' rr' M' H' nx', nx ≤ nx' → Pr M' mb L' ro' rr' (LstF ro' rr' :: EntF L' :: F) (j + 1) → SM M' ((c, x.v.vals) :: (r, [ro']) :: A) (LstF ro' rr' :: EntF L' :: F) H' nx' → ∀ env, EnvLe (envL .und (EA o near n p r i ++ [(10, .ptr c 0), (112, .bool false)])) env → K0 .normal env H' nx' [] none)
  {env : Env} (he : EnvLe (envL .und (EA o near n p r i ++ [(10, .ptr c 0)])) env) : WpP PG 165 (subAt (codeOf PG 4) [1, 1, 1, 1, 0, 1, 0, 0, 1, 0, 0, 1, 1, 0, 0]) env H nx [] K0 := by
 refine WpP.weaken he (WpP.part (ts := [0, 1, 2, 6, 7, 8, 9, 10, 112]) mixed ?_)
 refine Eq.mpr (PaC_eq ..) ?_
 unfold PaC
 have ld : ∀ {M' : MM} {A' : Owned} {G : Facts} {H' : Heap} {n' : Nat}, SM M' ((c, x.v.vals) :: A') G H' n' → ldN H' 5 (.ptr c 0) = some (.agg [iv x.2.a, iv x.2.b, iv x.2.c, iv x.2.d, x.1]) := fun q => q.ldAll .hd rfl
 have l0 : ∀ {M' : MM} {A' : Owned} {G : Facts} {H' : Heap} {n' : Nat}, SM M' ((c, x.v.vals) :: A') G H' n' → ld1 H' (.ptr c 0) = some (iv x.2.a) := fun q => q.ld1 .hd 0
 have l1 : ∀ {M' : MM} {A' : Owned} {G : Facts} {H' : Heap} {n' : Nat}, SM M' ((c, x.v.vals) :: A') G H' n' → ld1 H' (.ptr c 1) = some (iv x.2.b) := fun q => q.ld1 .hd 1
 refine ⟨_, _, _, _, _, ld h, _, _, _, _, _, ld h, ⟨⟨_, _, _, _, _, ld h, rfl⟩, ⟨_, _, _, _, _, ld h, rfl⟩, trivial⟩, ?_⟩
 refine gadd2 (x := x) (h.more (by omega : nx ≤ nx + 23)) hp P.hm P.hL hx fun L' M' H1 n1 g1 hc1 hm1 q1 => onEnd_ret.2 ⟨_, rfl, ⟨⟨_, _, _, _, _, ld q1, rfl⟩, trivial⟩, ?_⟩
 refine radd2 (x := x) (A' := fun v => (c, x.v.vals) :: (r, [v]) :: A) q1 (fun v => .tl .hd) rfl (.tail _ P.ho) (.tail _ hx) (by have := P.hr; omega) fun ro' rr' H2 n2 g2 hc2 q2 => onEnd_ret.2 ⟨_, rfl, ?_⟩
 have P2 := P.add hc1 hc2 hm1 (G := LstF ro' rr' :: EntF L' :: F) (.tail _ (.head _)) (.head _)
 refine ifB_f (by simp) ?_
 refine ⟨_, rfl, _, l0 q2, _, rfl, _, l1 q2, _, rfl, _, l0 q2, _, rfl, _, l1 q2, ⟨⟨_, l0 q2, rfl⟩, ⟨_, l1 q2, rfl⟩, ⟨_, l0 q2, rfl⟩, ⟨_, l1 q2, rfl⟩, trivial⟩, ?_⟩
 refine of2 q2 (.tail _ (.tail _ hp)) P2.hm P2.hL P2.h4 fun t H3 n3 g3 h4 q3 => onEnd_ret.2 ⟨_, _, _, _, _, rfl, ⟨⟨_, l0 q3, rfl⟩, ⟨_, l1 q3, rfl⟩, trivial⟩, ?_⟩
 refine rof2 q3 (.tl .hd) (.tail _ P2.ho) (by have := P2.hr; omega) (sorted_placed P2.both.so) fun u H4 n4 g4 q4 => onEnd_ret.2 ⟨_, _, _, _, _, rfl, trivial, ?_⟩
 rw [← P2.both.get] at q4 ⊢
 refine samecount_ok q4 (.tail _ (.head _)) (.head _) (by omega) fun H5 n5 g5 q5 => onEnd_ret.2 ⟨_, rfl, trivial, ?_⟩
 exact hK L' ro' rr' M' H5 n5 (by omega) P2 (q5.sub fun P hP => .tail _ (.tail _ hP)) _ (EnvLe.of_list (by exact ⟨rfl, rfl, rfl, rfl, rfl, rfl, rfl, rfl, rfl, trivial⟩))
def Told1 (A B : Owned) (t : AVal) (n : Nat) : Prop := (t = .nilSlice ∧ n = 0 ∧ B = A) ∨ ∃ e full cs, t = .slice e 0 n 2 full ∧ cs.length = n * 2 ∧ B = (e, cs) :: A
theorem ga_wr {o : AVal} {near : Bool} {n : Int} {p r d : Nat} {i : Int} {y0 y1 y2 y3 : Int} {t : AVal} {m : Nat} {B : Owned} (hW : Told1 A B t m) (hm : m ≤ 1000) (h : SM M ((d, [iv y0, iv y1, iv y2, iv y3, t]) :: B) F H nx)
  (hK : ∀ H' nx', nx ≤ nx' → SM M A F H' nx' → K0 (.exit 4) (envL .und (EA o near n p r i)) H' nx' [] none)
  {env : Env} (he : EnvLe (envL .und (EA o near n p r i ++ [(13, .ptr d 0), (14, iv 0)])) env) : LpP PG 165 (subAt (codeOf PG 4) [1, 1, 1, 1, 0, 1, 0, 0, 1, 0, 0, 1, 1, 1, 1, 1, 0, 0]) env H nx [] none K0 := by
 refine loop_w (P := PG) (X := Nat) (Y := Unit) (fun k => envL .und (EA o near n p r i ++ [(13, .ptr d 0), (14, iv (k : Int))])) (fun _ => envL .und (EA o near n p r i))
  (fun l k H1 nx1 => nx ≤ nx1 ∧ l + k = m ∧ ∃ B, Told1 A B t m ∧ SM M ((d, [iv y0, iv y1, iv y2, iv y3, t]) :: B) F H1 nx1)
  (fun id _ H1 nx1 => id = 4 ∧ nx ≤ nx1 ∧ SM M A F H1 nx1) m 0 he ⟨Nat.le_refl _, rfl, B, hW, h⟩ ?_ ?_
 ·rintro l k H1 nx1 ⟨g1, hlk, B, hW, q⟩
  refine WpP.part (ts := [0, 1, 2, 6, 7, 8, 9, 13, 14]) mixed ?_
  refine Eq.mpr (PaW_eq ..) ?_
  unfold PaW
  have hlen : lenS t = some m := by
   rcases hW with ⟨rfl, rfl, _⟩ | ⟨e, full, cs, rfl, _⟩ <;> rfl
  refine ⟨_, rfl, _, q.ld1 .hd 4, _, hlen, ifB_iff.2 ⟨fun hc => ?_, fun hc => ?_⟩⟩
  ·have hc : (k : Int) < Int.ofNat m := of_decide_eq_true hc
   simp only [Int.ofNat_eq_natCast] at hc
   have hk : k < m := by omega
   rcases hW with ⟨rfl, rfl, _⟩ | ⟨e, full, cs, rfl, hl, rfl⟩
   ·omega
   ·have e0 : IntKind.i64.wrap ((k : Int) + 1) = ((k + 1 : Nat) : Int) := by rw [wrap64_id (by omega) (by omega)]; omega
    rw [e0]
    refine ⟨_, rfl, _, q.ld1 .hd 4, by omega, _, by rw [Int.toNat_natCast]; exact idxS_slice hk, _, rfl, rfl, q.one (b := e) (j := 0 + k * 2 + 1) (v := iv 77) (.tl .hd) (by omega) rfl fun H2 q2 => ?_⟩
    exact ⟨rfl, l - 1, k + 1, by omega, EnvLe.of_list (by exact ⟨rfl, rfl, rfl, rfl, rfl, rfl, rfl, rfl, rfl, trivial⟩), g1, by omega, _, .inr ⟨e, full, _, rfl, by rw [List.length_set]; exact hl, rfl⟩, q2⟩
  ·refine ⟨rfl, (), EnvLe.of_list (by exact ⟨rfl, rfl, rfl, rfl, rfl, rfl, rfl, trivial⟩), rfl, g1, ?_⟩
   rcases hW with ⟨_, _, rfl⟩ | ⟨e, full, cs, _, _, rfl⟩
   ·exact q.drop
   ·exact q.drop.drop
 ·rintro id _ H1 nx1 ⟨rfl, g1, q⟩
  exact hK H1 nx1 g1 q
theorem ga_own {o : AVal} {near : Bool} {n : Int} {p r c mb : Nat} {i : Int} {x : GRow} {L : List (Nat × GRow)} (hm : M mb = some (.map (gents L) L.length)) (hL : EntF L ∈ F) (h4 : ∀ q ∈ L, q.2.2.ts.length ≤ 4) (h : SM M ((c, x.v.vals) :: A) F H nx) (hp : RowF p [.map mb] ∈ F)
  (hK : ∀ H' nx', nx ≤ nx' → SM M ((c, x.v.vals) :: A) F H' nx' → ∀ env, EnvLe (envL .und (EA o near n p r i)) env → K0 .normal env H' nx' [] none)
  {env : Env} (he : EnvLe (envL .und (EA o near n p r i ++ [(10, .ptr c 0)])) env) :
  WpP PG 165 (.seq (subAt (codeOf PG 4) [1, 1, 1, 1, 0, 1, 0, 0, 1, 0, 0, 1, 1, 1, 0]) (.seq (subAt (codeOf PG 4) [1, 1, 1, 1, 0, 1, 0, 0, 1, 0, 0, 1, 1, 1, 1, 0]) (.block 4 (.loop (subAt (codeOf PG 4) [1, 1, 1, 1, 0, 1, 0, 0, 1, 0, 0, 1, 1, 1, 1, 1, 0, 0]))))) env H nx [] K0 := by
 refine WpP.weaken he (WpP.seq (WpP.part (ts := [0, 1, 2, 6, 7, 8, 9, 13]) mixed ?_))
 refine Eq.mpr (PaO_eq ..) ?_
 unfold PaO
 have rest : ∀ {y0 y1 y2 y3 : Int} {t : AVal} {m d : Nat} {B : Owned} {H2 : Heap} {n2 : Nat}, nx ≤ n2 → Told1 ((c, x.v.vals) :: A) B t m → m ≤ 1000 → SM M ((d, [iv y0, iv y1, iv y2, iv y3, t]) :: B) F H2 n2 → ∀ env, EnvLe (envL .und (EA o near n p r i ++ [(13, .ptr d 0)])) env →
   WpP PG 165 (.seq (subAt (codeOf PG 4) [1, 1, 1, 1, 0, 1, 0, 0, 1, 0, 0, 1, 1, 1, 1, 0]) (.block 4 (.loop (subAt (codeOf PG 4) [1, 1, 1, 1, 0, 1, 0, 0, 1, 0, 0, 1, 1, 1, 1, 1, 0, 0])))) env H2 n2 [] K0 := by
  intro y0 y1 y2 y3 t m d B H2 n2 g2 hW hm2 q env hen
  refine WpP.weaken hen (WpP.seq (WpP.part (ts := [0, 1, 2, 6, 7, 8, 9, 13, 14]) mixed ?_))
  refine Eq.mpr (PaZ_eq ..) ?_
  unfold PaZ
  show WpP PG 165 _ _ _ _ _ _
  refine WpP.block (WpP.of_lp (rc := none) (ga_wr hW hm2 q (fun H3 n3 g3 q3 => blk_exitG ?_) (EnvLe.of_list (by exact ⟨rfl, rfl, rfl, rfl, rfl, rfl, rfl, rfl, rfl, trivial⟩))))
  exact hK H3 n3 (by omega) q3 _ (EnvLe.of_list (by exact ⟨rfl, rfl, rfl, rfl, rfl, rfl, rfl, trivial⟩))
 refine ⟨_, rfl, _, h.ld1 .hd 0, _, rfl, _, h.ld1 .hd 1, ?_⟩
 refine of_ok h hp hm hL h4 (fun _ H1 n1 g1 q => onEnd_ret.2 ⟨_, _, _, _, _, rfl, q.new (Nat.le_refl _) fun H2 q2 => q2.all .hd rfl rfl fun H3 q3 => ?_⟩) fun z _ hz e full H1 n1 g1 q => onEnd_ret.2 ⟨_, _, _, _, _, rfl, q.new (Nat.le_refl _) fun H2 q2 => q2.all .hd rfl rfl fun H3 q3 => ?_⟩
 ·exact rest (m := 0) (by omega) (.inl ⟨rfl, rfl, rfl⟩) (by omega) q3 _ (EnvLe.of_list (by exact ⟨rfl, rfl, rfl, rfl, rfl, rfl, rfl, rfl, trivial⟩))
 ·exact rest (m := z.ts.length) (by omega) (.inr ⟨e, full, _, rfl, tcells_len _, rfl⟩) (by omega) q3 _ (EnvLe.of_list (by exact ⟨rfl, rfl, rfl, rfl, rfl, rfl, rfl, rfl, trivial⟩))
end
end
end Go.Vs
end
section
namespace Go.Vs
open Go.Proofs Go.Sort Go.Hp
variable [GTab]
noncomputable section
theorem adds_code : subAt (codeOf PG 4) [1, 1, 1, 1, 0, 1, 0, 0] = .seq (subAt (codeOf PG 4) [1, 1, 1, 1, 0, 1, 0, 0, 0]) (.seq (.block 1 (.seq (subAt (codeOf PG 4) [1, 1, 1, 1, 0, 1, 0, 0, 1, 0, 0, 0])
  (.seq (.seq (subAt (codeOf PG 4) [1, 1, 1, 1, 0, 1, 0, 0, 1, 0, 0, 1, 0, 0]) (.cond (.tmp 42)
   (.seq (subAt (codeOf PG 4) [1, 1, 1, 1, 0, 1, 0, 0, 1, 0, 0, 1, 0, 1, 0, 0]) (.seq (subAt (codeOf PG 4) [1, 1, 1, 1, 0, 1, 0, 0, 1, 0, 0, 1, 0, 1, 0, 1, 0]) (.seq (subAt (codeOf PG 4) [1, 1, 1, 1, 0, 1, 0, 0, 1, 0, 0, 1, 0, 1, 0, 1, 1, 0]) (.seq (subAt (codeOf PG 4) [1, 1, 1, 1, 0, 1, 0, 0, 1, 0, 0, 1, 0, 1, 0, 1, 1, 1, 0])
   (.seq (subAt (codeOf PG 4) [1, 1, 1, 1, 0, 1, 0, 0, 1, 0, 0, 1, 0, 1, 0, 1, 1, 1, 1, 0]) (.seq (.seq (subAt (codeOf PG 4) [1, 1, 1, 1, 0, 1, 0, 0, 1, 0, 0, 1, 0, 1, 0, 1, 1, 1, 1, 1, 0, 0]) (.block 2 (.loop (subAt (codeOf PG 4) [1, 1, 1, 1, 0, 1, 0, 0, 1, 0, 0, 1, 0, 1, 0, 1, 1, 1, 1, 1, 0, 1, 0, 0])))) (subAt (codeOf PG 4) [1, 1, 1, 1, 0, 1, 0, 0, 1, 0, 0, 1, 0, 1, 0, 1, 1, 1, 1, 1, 1]))))))) .skip))
  (.seq (.seq (subAt (codeOf PG 4) [1, 1, 1, 1, 0, 1, 0, 0, 1, 0, 0, 1, 1, 0, 0]) (.cond (.tmp 112) (subAt (codeOf PG 4) [1, 1, 1, 1, 0, 1, 0, 0, 1, 0, 0, 1, 1, 0, 1, 0]) .skip))
  (.seq (subAt (codeOf PG 4) [1, 1, 1, 1, 0, 1, 0, 0, 1, 0, 0, 1, 1, 1, 0]) (.seq (subAt (codeOf PG 4) [1, 1, 1, 1, 0, 1, 0, 0, 1, 0, 0, 1, 1, 1, 1, 0]) (.block 4 (.loop (subAt (codeOf PG 4) [1, 1, 1, 1, 0, 1, 0, 0, 1, 0, 0, 1, 1, 1, 1, 1, 0, 0]))))))))) (subAt (codeOf PG 4) [1, 1, 1, 1, 0, 1, 0, 0, 1, 1])) := by kernel_rfl
section
variable {M : MM} {A : Owned} {F : Facts} {H : Heap} {nx : Nat} {K : EndP} {K0 : KP}
theorem ga_round {o : AVal} {near : Bool} {n : Int} {p r mb i : Nat} {args : List GRow} {L : List (Nat × GRow)} {ro : AVal} {rr : List GRow} (Ha : ArgC o args) (hi : i < args.length) (hi6 : i < 60) (P : Pr M mb L ro rr F i) (q : SM M ((r, [ro]) :: A) F H nx) (hp : RowF p [.map mb] ∈ F)
  (hK : ∀ L' ro' rr' M' G H' nx', nx ≤ nx' → Pr M' mb L' ro' rr' G (i + 1) → RowF p [.map mb] ∈ G → SM M' ((r, [ro']) :: A) G H' nx' → ∀ env, EnvLe (envL .und (EA o near n p r (i : Int))) env → K0 .normal env H' nx' [] none) :
  WpP PG 165 (.block 1 (.seq (subAt (codeOf PG 4) [1, 1, 1, 1, 0, 1, 0, 0, 1, 0, 0, 0])
  (.seq (.seq (subAt (codeOf PG 4) [1, 1, 1, 1, 0, 1, 0, 0, 1, 0, 0, 1, 0, 0]) (.cond (.tmp 42)
   (.seq (subAt (codeOf PG 4) [1, 1, 1, 1, 0, 1, 0, 0, 1, 0, 0, 1, 0, 1, 0, 0]) (.seq (subAt (codeOf PG 4) [1, 1, 1, 1, 0, 1, 0, 0, 1, 0, 0, 1, 0, 1, 0, 1, 0]) (.seq (subAt (codeOf PG 4) [1, 1, 1, 1, 0, 1, 0, 0, 1, 0, 0, 1, 0, 1, 0, 1, 1, 0]) (.seq (subAt (codeOf PG 4) [1, 1, 1, 1, 0, 1, 0, 0, 1, 0, 0, 1, 0, 1, 0, 1, 1, 1, 0])
   (.seq (subAt (codeOf PG 4) [1, 1, 1, 1, 0, 1, 0, 0, 1, 0, 0, 1, 0, 1, 0, 1, 1, 1, 1, 0]) (.seq (.seq (subAt (codeOf PG 4) [1, 1, 1, 1, 0, 1, 0, 0, 1, 0, 0, 1, 0, 1, 0, 1, 1, 1, 1, 1, 0, 0]) (.block 2 (.loop (subAt (codeOf PG 4) [1, 1, 1, 1, 0, 1, 0, 0, 1, 0, 0, 1, 0, 1, 0, 1, 1, 1, 1, 1, 0, 1, 0, 0])))) (subAt (codeOf PG 4) [1, 1, 1, 1, 0, 1, 0, 0, 1, 0, 0, 1, 0, 1, 0, 1, 1, 1, 1, 1, 1]))))))) .skip))
  (.seq (.seq (subAt (codeOf PG 4) [1, 1, 1, 1, 0, 1, 0, 0, 1, 0, 0, 1, 1, 0, 0]) (.cond (.tmp 112) (subAt (codeOf PG 4) [1, 1, 1, 1, 0, 1, 0, 0, 1, 0, 0, 1, 1, 0, 1, 0]) .skip))
  (.seq (subAt (codeOf PG 4) [1, 1, 1, 1, 0, 1, 0, 0, 1, 0, 0, 1, 1, 1, 0]) (.seq (subAt (codeOf PG 4) [1, 1, 1, 1, 0, 1, 0, 0, 1, 0, 0, 1, 1, 1, 1, 0]) (.block 4 (.loop (subAt (codeOf PG 4) [1, 1, 1, 1, 0, 1, 0, 0, 1, 0, 0, 1, 1, 1, 1, 1, 0, 0]))))))))) (envL .und (EA o near n p r (i : Int))) H nx [] K0 := by
 obtain ⟨v, i1, i2⟩ := Ha.at_ i hi
 have hty := Ha.ty _ (List.getElem_mem hi)
 generalize args[i] = x at i2 hty
 refine WpP.block (WpP.seq (WpP.part (ts := [0, 1, 2, 6, 7, 8, 9, 10]) mixed ?_))
 refine Eq.mpr (PaX_eq ..) ?_
 unfold PaX
 refine ⟨by omega, _, by rw [Int.toNat_natCast]; exact i1, _, _, _, _, _, i2 _, q.new (Nat.le_refl _) fun H2 q2 => q2.all .hd rfl (vals_cellG (v := x.v) (hty fun _ => none).sl.2.1) fun H3 q3 => ?_⟩
 have q4 := q3.add (P := TyR x.1 x.2.ts) fun Γ _ => hty Γ
 show WpP PG 165 _ _ _ _ _ _
 have rest : ∀ (y : GRow) G2 H4 n4, nx + 1 ≤ n4 → F ⊆ G2 → SM M ((nx, y.v.vals) :: (r, [ro]) :: A) (TyR y.1 y.2.ts :: G2) H4 n4 → ∀ env, EnvLe (envL .und (EA o near n p r (i : Int) ++ [(10, .ptr nx 0)])) env →
   WpP PG 165 (.seq (.seq (subAt (codeOf PG 4) [1, 1, 1, 1, 0, 1, 0, 0, 1, 0, 0, 1, 1, 0, 0]) (.cond (.tmp 112) (subAt (codeOf PG 4) [1, 1, 1, 1, 0, 1, 0, 0, 1, 0, 0, 1, 1, 0, 1, 0]) .skip))
    (.seq (subAt (codeOf PG 4) [1, 1, 1, 1, 0, 1, 0, 0, 1, 0, 0, 1, 1, 1, 0]) (.seq (subAt (codeOf PG 4) [1, 1, 1, 1, 0, 1, 0, 0, 1, 0, 0, 1, 1, 1, 1, 0]) (.block 4 (.loop (subAt (codeOf PG 4) [1, 1, 1, 1, 0, 1, 0, 0, 1, 0, 0, 1, 1, 1, 1, 1, 0, 0])))))) env H4 n4 [] (blockK 1 K0) := by
  intro y G2 H4 n4 g4 hG q5 env hen
  have P2 := P.mono (G := TyR y.1 y.2.ts :: G2) (fun _ h => .tail _ (hG h)) (Nat.le_refl i)
  refine WpP.seq (WpP.seq (ga_cmp (o := o) (near := near) (n := n) (i := (i : Int)) (x := y) P2 (by omega) q5 (.tail _ (hG hp)) (.head _) (fun L3 ro3 rr3 M3 H5 n5 g5 P3 q6 env hen => ?_) hen))
  refine WpP.weaken hen (WpP.cond (p := false) rfl (WpP.skip ?_))
  show WpP PG 165 _ _ _ _ _ _
  refine ga_own (o := o) (near := near) (n := n) (i := (i : Int)) (x := y) P3.hm P3.hL P3.h4 q6 (.tail _ (.tail _ (.tail _ (hG hp)))) (fun H6 n6 g6 q7 env hen => ?_) (EnvLe.of_list (by exact ⟨rfl, rfl, rfl, rfl, rfl, rfl, rfl, rfl, trivial⟩))
  exact hK L3 ro3 rr3 M3 _ H6 n6 (by omega) P3 (.tail _ (.tail _ (.tail _ (hG hp)))) q7.drop env hen
 refine WpP.seq (WpP.seq (WpP.part (ts := [0, 1, 2, 6, 7, 8, 9, 10, 42]) mixed ?_))
 refine Eq.mpr (PaT_eq ..) ?_
 unfold PaT
 show WpP PG 165 _ _ _ _ _ _
 cases near with
 | true =>
  refine WpP.cond (p := true) rfl ?_
  refine ga_near (o := o) (near := true) (n := n) (i := (i : Int)) (x := x) q4 (.head _) (fun y H4 n4 g4 q5 env hen => ?_) (EnvLe.of_list (by exact ⟨rfl, rfl, rfl, rfl, rfl, rfl, rfl, rfl, trivial⟩))
  exact rest y _ H4 n4 g4 (fun _ h => .tail _ h) q5 env hen
 | false =>
  refine WpP.cond (p := false) rfl (WpP.skip ?_)
  exact rest x F H3 _ (Nat.le_refl _) (fun _ h => h) q4 _ (EnvLe.of_list (by exact ⟨rfl, rfl, rfl, rfl, rfl, rfl, rfl, rfl, trivial⟩))
theorem ga_loop {o : AVal} {near : Bool} {n : Int} {p r mb : Nat} {args : List GRow} {L : List (Nat × GRow)} {ro : AVal} {rr : List GRow} (Ha : ArgC o args) (P : Pr M mb L ro rr F 0) (h : SM M ((r, [ro]) :: A) F H nx) (hp : RowF p [.map mb] ∈ F)
  (hK : ∀ L' ro' rr' M' G H' nx', nx ≤ nx' → Pr M' mb L' ro' rr' G 60 → RowF p [.map mb] ∈ G → SM M' ((r, [ro']) :: A) G H' nx' → K0 (.exit 0) (envL .und [(1, .bool near), (2, iv n), (6, .bool false), (7, .ptr p 0), (8, .ptr r 0)]) H' nx' [] none)
  {env : Env} (he : EnvLe (envL .und (EA o near n p r 0)) env) : LpP PG 165 (subAt (codeOf PG 4) [1, 1, 1, 1, 0, 1, 0, 0]) env H nx [] none K0 := by
 refine loop_w (P := PG) (X := Nat) (Y := Unit) (fun i => envL .und (EA o near n p r (i : Int))) (fun _ => envL .und [(1, .bool near), (2, iv n), (6, .bool false), (7, .ptr p 0), (8, .ptr r 0)])
  (fun m i H1 nx1 => nx ≤ nx1 ∧ m + i = 60 ∧ ∃ L' ro' rr' M' G, Pr M' mb L' ro' rr' G i ∧ RowF p [.map mb] ∈ G ∧ SM M' ((r, [ro']) :: A) G H1 nx1)
  (fun id _ H1 nx1 => id = 0 ∧ nx ≤ nx1 ∧ ∃ L' ro' rr' M' G, Pr M' mb L' ro' rr' G 60 ∧ RowF p [.map mb] ∈ G ∧ SM M' ((r, [ro']) :: A) G H1 nx1) 60 0 he ⟨Nat.le_refl _, rfl, L, ro, rr, M, F, P, hp, h⟩ ?_ ?_
 ·rintro m i H1 nx1 ⟨g1, hm, L1, ro1, rr1, M1, G, P1, hp1, q⟩
  rw [adds_code]
  refine WpP.seq (WpP.part (ts := [0, 1, 2, 6, 7, 8, 9]) mixed ?_)
  refine Eq.mpr (PaH_eq ..) ?_
  unfold PaH
  have out : ∃ L' ro' rr' M' G, Pr M' mb L' ro' rr' G 60 ∧ RowF p [.map mb] ∈ G ∧ SM M' ((r, [ro']) :: A) G H1 nx1 := ⟨L1, ro1, rr1, M1, G, P1.mono (fun _ h => h) (by omega), hp1, q⟩
  refine ⟨_, Ha.len, ifB_iff.2 ⟨fun hc => ifB_iff.2 ⟨fun h6 => ?_, fun h6 => ?_⟩, fun hc => ?_⟩⟩
  ·have hc : (i : Int) < Int.ofNat args.length := of_decide_eq_true hc
   simp only [Int.ofNat_eq_natCast] at hc
   have h6 : (i : Int) < 60 := of_decide_eq_true h6
   have e0 : IntKind.i64.wrap ((i : Int) + 1) = ((i + 1 : Nat) : Int) := by rw [wrap64_id (by omega) (by omega)]; omega
   show WpP PG 165 _ _ _ _ _ _
   refine WpP.seq (ga_round Ha (by omega) (by omega) P1 q hp1 fun L3 ro3 rr3 M3 G3 H6 n6 g6 P3 hp3 q7 env hen => ?_)
   refine WpP.weaken hen (WpP.part (ts := [0, 1, 2, 6, 7, 8, 9]) mixed ?_)
   refine Eq.mpr (PaI_eq ..) ?_
   unfold PaI
   rw [e0]
   exact ⟨rfl, m - 1, i + 1, by omega, EnvLe.of_list (by exact ⟨rfl, rfl, rfl, rfl, rfl, rfl, rfl, trivial⟩), by omega, by omega, L3, ro3, rr3, M3, G3, P3, hp3, q7⟩
  ·exact ⟨rfl, (), EnvLe.of_list (by exact ⟨rfl, rfl, rfl, rfl, rfl, trivial⟩), rfl, g1, out⟩
  ·exact ⟨rfl, (), EnvLe.of_list (by exact ⟨rfl, rfl, rfl, rfl, rfl, trivial⟩), rfl, g1, out⟩
 ·rintro id _ H1 nx1 ⟨rfl, g1, L1, ro1, rr1, M1, G, P1, hp1, q⟩
  exact hK L1 ro1 rr1 M1 G H1 nx1 g1 P1 hp1 q
theorem ga_told {p r : Nat} {oa ob : AVal} {ra rb : List GRow} (h : SM M A F H nx) (ha : LstF oa ra ∈ F) (hb : LstF ob rb ∈ F) (he0 : cs_ ra = cs_ rb) (h4 : ∀ y ∈ cs_ ra, y.ts.length ≤ 4) (hN : ra.length ≤ 4000)
  (hK : ∀ H' nx', nx ≤ nx' → SM M A F H' nx' → K0 (.exit 6) (envL .und [(7, .ptr p 0), (8, .ptr r 0)]) H' nx' [] none)
  {env : Env} (he : EnvLe (envL .und [(6, .bool false), (7, .ptr p 0), (8, .ptr r 0), (16, oa), (17, ob), (18, iv 0)]) env) : LpP PG 165 (subAt (codeOf PG 4) [1, 1, 1, 1, 1, 1, 1, 1, 1, 1, 0, 1, 0, 0]) env H nx [] none K0 := by
 have hlen : ra.length = rb.length := by
  have := congrArg List.length he0
  simpa [cs_] using this
 refine loop_w (P := PG) (X := Nat) (Y := Unit) (fun i => envL .und [(6, .bool false), (7, .ptr p 0), (8, .ptr r 0), (16, oa), (17, ob), (18, iv (i : Int))]) (fun _ => envL .und [(7, .ptr p 0), (8, .ptr r 0)])
  (fun m i H1 nx1 => nx ≤ nx1 ∧ m + i = ra.length ∧ SM M A F H1 nx1) (fun id _ H1 nx1 => id = 6 ∧ nx ≤ nx1 ∧ SM M A F H1 nx1) ra.length 0 he ⟨Nat.le_refl _, rfl, h⟩ ?_ ?_
 ·rintro m i H1 nx1 ⟨g1, hm, q⟩
  refine WpP.part (ts := [6, 7, 8, 16, 17, 18]) mixed ?_
  refine Eq.mpr (PaS_eq ..) ?_
  unfold PaS
  refine ⟨_, lst_len q ha, ifB_iff.2 ⟨fun hc => ?_, fun hc => ?_⟩⟩
  ·have hc : (i : Int) < Int.ofNat ra.length := of_decide_eq_true hc
   simp only [Int.ofNat_eq_natCast] at hc
   have hi : i < ra.length := by omega
   have hi' : i < rb.length := by omega
   obtain ⟨b, i1, i2, _⟩ := lst_at q ha hi
   obtain ⟨c, j1, j2, _⟩ := lst_at q hb hi'
   have e1 : ra[i].2 = rb[i].2 := by
    have h1 : (cs_ ra)[i]? = (cs_ rb)[i]? := by rw [he0]
    simp only [cs_, List.getElem?_map, List.getElem?_eq_getElem hi, List.getElem?_eq_getElem hi', Option.map_some] at h1
    exact Option.some.inj h1
   have e0 : IntKind.i64.wrap ((i : Int) + 1) = ((i + 1 : Nat) : Int) := by rw [wrap64_id (by omega) (by omega)]; omega
   refine ⟨by omega, _, i1, _, _, _, _, _, i2, by omega, _, j1, _, _, _, _, _, j2, ⟨⟨_, _, _, _, _, i2, rfl⟩, ⟨_, _, _, _, _, j2, rfl⟩, trivial⟩, ?_⟩
   have q2 := (lst_ty q ha hi).add (P := TyR rb[i].1 rb[i].2.ts) fun Γ w => (w (LstF ob rb) (.tail _ hb)).2 _ (List.getElem_mem hi')
   have hl4 : rb[i].2.ts.length ≤ 4 := by rw [← e1]; exact h4 _ (List.mem_map_of_mem (List.getElem_mem hi))
   rw [e1] at q2
   show TriP PG f_r10_SameCount [.agg [iv ra[i].2.a, iv ra[i].2.b, iv ra[i].2.c, iv ra[i].2.d, ra[i].1], .agg [iv rb[i].2.a, iv rb[i].2.b, iv rb[i].2.c, iv rb[i].2.d, rb[i].1]] _ _ _
   rw [e1]
   refine samecount_ok (x := rb[i].2) (q2.more (by omega : nx1 ≤ nx1 + 10)) (.tail _ (.head _)) (.head _) (by omega) fun H3 n3 g3 p3 => onEnd_ret.2 ⟨_, rfl, trivial, ifB_f rfl ?_⟩
   rw [e0]
   exact ⟨rfl, m - 1, i + 1, by omega, EnvLe.of_list (by exact ⟨rfl, rfl, rfl, rfl, rfl, rfl, trivial⟩), by omega, by omega, p3.sub fun P hP => .tail _ (.tail _ hP)⟩
  ·exact ⟨rfl, (), EnvLe.of_list (by exact ⟨rfl, rfl, trivial⟩), rfl, g1, q⟩
 ·rintro id _ H1 nx1 ⟨rfl, g1, q⟩
  exact hK H1 nx1 g1 q
theorem ga_hots {p r mb : Nat} {n : Int} {L : List (Nat × GRow)} {ro : AVal} {rr : List GRow} {k : AVal → AVal → Heap → Nat → Prop} {Kp1 Kp2 : List (AVal × Bool) → Heap → Nat → Prop} (P : Pr M mb L ro rr F 60) (h : SM M ((r, [ro]) :: A) F H nx) (hp : RowF p [.map mb] ∈ F)
  (hK : ∀ oa ob ra rb G H' nx', nx ≤ nx' → F ⊆ G → LstF oa ra ∈ G → LstF ob rb ∈ G → cs_ ra = cs_ rb → (∀ y ∈ cs_ ra, y.ts.length ≤ 4) → ra.length ≤ 60 → SM M ((r, [ro]) :: A) G H' nx' → k oa ob H' nx') :
  TriP PG f_pf_Hot [.ptr p 0, iv n] H nx fun e5 H6 i7 => onEnd e5 (fun v8 => TriP PG f_r10p_Hot [.ptr r 0, iv n] H6 i7 fun e9 H10 i11 => onEnd e9 (fun v12 => k v8 v12 H10 i11) fun l => Kp1 l H10 i11) fun l => Kp2 l H6 i7 := by
 have hl := P.hl
 have hr := P.hr
 refine ghot_ok h hp P.hm P.hL P.h4 (by omega) fun oa rows out A1 H1 n1 g1 hAll hHot ha q => onEnd_ret.2 ?_
 have hcs := hAll.same P.both
 obtain ⟨og, e1, e2, e3⟩ := hotR_same hHot hcs P.both.so
 subst e1
 have q1 : SM M A1 (RowsF og :: F) H1 n1 := (q.add (P := RowsF og) fun Γ w x hx => w (RowsF rows) (.head _) x (e2 x hx)).sub fun P hP => by
  rcases List.mem_cons.1 hP with rfl | hP
  ·exact .head _
  ·exact .tail _ (.tail _ hP)
 have q2 := ha.fix q1 (.head _)
 refine rhot_ok q2 .hd (.tail _ (.tail _ P.ho)) (by omega) fun ob outb H2 n2 g2 eb q3 => onEnd_ret.2 ?_
 have h4 : ∀ y ∈ cs_ rr, y.ts.length ≤ 4 := fun y hy => by
  have := (List.mem_filter.1 (P.both.pm.mem_iff.1 hy)).1
  obtain ⟨z, hz, rfl⟩ := List.mem_map.1 this
  exact P.h4 z hz
 have hsub : ∀ y ∈ cs_ og, y ∈ cs_ rr := fun y hy => by
  rw [e3] at hy
  have := (hotL_perm n (cs_ rr) []).mem_iff.1 (List.mem_of_mem_take hy)
  rw [List.nil_append] at this
  exact (List.mem_filter.1 this).1
 refine hK oa ob og outb _ H2 n2 (by omega) (fun _ h => .tail _ (.tail _ (.tail _ h))) (.tail _ (.head _)) (.head _) (e3.trans eb.symm) (fun y hy => h4 y (hsub y hy)) ?_ q3
 have h1 := congrArg List.length e3
 have h2 := (hotL_perm n (cs_ rr) []).length_eq
 have h3 := List.length_filter_le (fun x : Cnt => decide (n ≤ x.c)) (cs_ rr)
 rw [List.nil_append] at h2
 simp only [List.length_take] at h1
 simp only [cs_, List.length_map] at h1 h2 h3
 omega
theorem profAdds_ok {o : AVal} {args : List GRow} {near : Bool} {n : Int} (Ha : ArgC o args) (h : SM M [] F H nx) (hK : ∀ H' nx', K (.ret (.bool true)) H' nx') : TriP PG f_law13_ProfAdds [o, .bool near, iv n] H nx K := by
 refine TriP.of_body mixed ?_
 refine Eq.mpr (Flaw13_ProfAdds_eq ..) ?_
 unfold Flaw13_ProfAdds
 refine new_ok h fun H1 n1 e1 p1 => onEnd_ret.2 (p1.new (Nat.le_refl _) fun H2 p2 => ?_)
 refine known_ok p2 fun H3 n3 g3 p3 => onEnd_ret.2 ⟨true, rfl, ifB_f rfl ⟨false, rfl, ifB_f rfl ?_⟩⟩
 have p4 := (p3.add (P := EntF []) fun Γ _ q hq => by simp at hq).add (P := LstF .nilSlice []) fun Γ _ => LstF.nil Γ
 have P0 : Pr (mup nx (.map [] 0) M) nx [] .nilSlice [] (LstF .nilSlice [] :: EntF [] :: RowF (nx + 1) [.map nx] :: F) 0 := ⟨mup_same _ _ _, .tail _ (.head _), .head _, Both.nil, by simp, by simp, by simp⟩
 refine ga_loop (p := nx + 1) (mb := nx) Ha P0 p4 (.tail _ (.tail _ (.head _))) (fun L ro rr M' G H4 n4 g4 P1 hp1 q => ?_) (EnvLe.of_list (by exact ⟨rfl, rfl, rfl, rfl, rfl, rfl, rfl, trivial⟩))
 refine Eq.mpr (PaV_eq ..) ?_
 unfold PaV
 have rest : ∀ oa ob ra rb G' H' nx', n4 ≤ nx' → G ⊆ G' → LstF oa ra ∈ G' → LstF ob rb ∈ G' → cs_ ra = cs_ rb → (∀ y ∈ cs_ ra, y.ts.length ≤ 4) → ra.length ≤ 60 → SM M' ((n1, [ro]) :: []) G' H' nx' → ∀ env, EnvLe (envL .und [(6, .bool false), (7, .ptr (nx + 1) 0), (8, .ptr n1 0), (16, oa), (17, ob), (18, iv 0)]) env →
   LpP PG 165 (subAt (codeOf PG 4) [1, 1, 1, 1, 1, 1, 1, 1, 1, 1, 0, 1, 0, 0]) env H' nx' [] none (contAt PG (TriP PG) (LpP PG 165) 165 (codeOf PG 4) [1, 1, 1, 1, 1, 1, 1, 1, 1, 1, 0, 1, 0] (endK PG (lvSem (TriDP PG)) (lvcSem PG (TriDP PG)) K (resOf PG 4))) := by
  intro oa ob ra rb G' H' nx' g hG ha hb hcs h4 hl q' env hen
  refine ga_told q' ha hb hcs h4 (by omega) (fun H5 n5 g5 q5 => ?_) hen
  refine Eq.mpr (PaE_eq ..) ?_
  unfold PaE
  have hl1 := P1.hl
  exact gsame_ok q5 (hG hp1) P1.hm (hG P1.hL) P1.h4 (by omega) .hd (hG P1.ho) P1.both fun H6 n6 g6 => onEnd_ret.2 ⟨_, rfl, hK H6 n6⟩
 have lens : ∀ {ra rb : List GRow}, cs_ ra = cs_ rb → (!decide (Int.ofNat ra.length = Int.ofNat rb.length)) = false := fun {ra rb} e => by
  have := congrArg List.length e
  simp only [cs_, List.length_map] at this
  rw [this]; simp
 refine ifB_iff.2 ⟨fun hn => ?_, fun hn => ?_⟩
 ·refine pick_ok (m := 9) (by decide) (by decide) (onEnd_ret.2 ⟨_, rfl, ?_⟩)
  refine ga_hots P1 q hp1 fun oa ob ra rb G' H' nx' g hG ha hb hcs h4 hl q' => ⟨_, lst_len q' ha, _, lst_len q' hb, ifB_f (lens hcs) (rest oa ob ra rb G' H' nx' g hG ha hb hcs h4 hl q' _ (EnvLe.of_list (by exact ⟨rfl, rfl, rfl, rfl, rfl, rfl, trivial⟩)))⟩
 ·refine ga_hots P1 q hp1 fun oa ob ra rb G' H' nx' g hG ha hb hcs h4 hl q' => ⟨_, lst_len q' ha, _, lst_len q' hb, ifB_f (lens hcs) (rest oa ob ra rb G' H' nx' g hG ha hb hcs h4 hl q' _ (EnvLe.of_list (by exact ⟨rfl, rfl, rfl, rfl, rfl, rfl, trivial⟩)))⟩
theorem profAdds_said {Z : Nat → Prop} {Γ : GH} {o : AVal} {args : List GRow} {near : Bool} {n : Int} (Ha : ArgC o args) (hk : HZ Z Γ H nx) (hK : ∀ H' nx', K (.ret (.bool true)) H' nx') : TriP PG f_law13_ProfAdds [o, .bool near, iv n] H nx K := by
 have h : SM (fun _ => none) [] [] H nx := ⟨fun _ => none, ⟨⟨fun b hb => (hb rfl).elim, fun b cs e => by cases e⟩, fun b o e => by cases e⟩, trivial, fun Γ' _ P hP => by cases hP⟩
 exact profAdds_ok Ha h hK
end
end
end Go.Vs
end
section
namespace Go.Vs
def absS : Value → AVal
 | .slice none len cap => if len = 0 ∧ cap = 0 then .nilSlice else .und
 | .slice (some ⟨b, off, s⟩) len cap => if len = 0 then .gslice b off 0 2 else match s with
  | none => if len ≤ cap then .gslice b off len 2 else .und
  | some _ => .und
 | v => absV v
def tabS (W : World) (g : Nat) : Option (List AVal) := match W.heap[g]? with
 | some (.cells c _ _) => some (c.toList.map absS)
 | _ => none
@[reducible] noncomputable def gtabS (W : World) : GTab := { tab := tabS W }
theorem absS_den (σ : Sg) (v : Value) : Den σ (absS v) v := by
 unfold absS
 split
 ·split
  ·rename_i h; obtain ⟨rfl, rfl⟩ := h; exact .nilSlice
  ·exact .und _
 ·split
  ·rename_i h; subst h; exact .gslice0
  ·split
   ·split
    ·exact .gslice ‹_›
    ·exact .und _
   ·exact .und _
 ·exact absV_den σ v
theorem glob_tabS (W : World) : @Glob (gtabS W) (fun _ => none) W := by
 refine @Glob.mk (gtabS W) _ _ (fun g l hg => ?_) fun b o' hb => by cases hb
 have hg : tabS W g = some l := hg
 unfold tabS at hg
 split at hg
 ·rename_i c t fr hb
  cases hg
  have hlt : g < W.heap.size := by
   rcases Nat.lt_or_ge g W.heap.size with h | h
   ·exact h
   ·rw [Array.getElem?_eq_none h] at hb; cases hb
  refine ⟨hlt, (fun _ _ e => by cases e), fun i v hv => ?_⟩
  rw [List.getElem?_map, Array.getElem?_toList] at hv
  cases hi : c[i]? with
  | none => rw [hi] at hv; cases hv
  | some u =>
   rw [hi] at hv; cases hv
   exact ⟨u, by simp [World.cell?, hb, hi], fun τ => absS_den τ u⟩
 ·cases hg
section
variable {H : Type} {enc : TypeId × Value → H} {P : Program} {W : World} {sp : Nat → Bool}
theorem sl_open {t e : TypeId} {fuel : Nat} {v : Value} {x : DataW H × List MemPlace} (ht : P.underlying t = some (.slice e)) (hsz : 0 < P.cellsOf e) (hf : DataW.trod enc P W 0 sp true fuel t [v] = some x) :
  v = .slice none 0 0 ∨ ∃ a len cap, v = .slice (some a) len cap ∧ (len = 0 ∨ ∃ b off c tt fr, a = ⟨b, off, none⟩ ∧ W.heap[b]? = some (.cells c tt fr) ∧ len ≤ cap ∧ len ≤ 9223372036854775807 ∧
   ∀ i, i < len → ∃ n cs y, cs.length = P.cellsOf e ∧ (∀ j, j < P.cellsOf e → c[off + i * P.cellsOf e + j]? = cs[j]?) ∧ DataW.trod enc P W 0 sp true n e cs = some y) := by
 rcases DataW.trod_slice ht hf with ⟨hcs, _⟩ | ⟨a, len, cap, elems, rest, n, rfl, hcs, hx, _, hle, hmax, hlen, hel, _, _⟩
 ·exact .inl (List.cons.inj hcs).1
 ·obtain rfl := (List.cons.inj hcs).1
  refine .inr ⟨a, len, cap, rfl, ?_⟩
  by_cases hz : len = 0
  ·exact .inl hz
  refine .inr ?_
  have hcell : ∀ i, i < len → ∃ cs y, cs.length = P.cellsOf e ∧ (∀ j, j < P.cellsOf e → W.cell? ((a.add (i * P.cellsOf e)).add j) = cs[j]?) ∧ DataW.trod enc P W 0 sp true n e cs = some y := by
   intro i hi
   have := hel i hi
   rw [List.getElem?_eq_getElem (show i < elems.length by omega), Option.bind_eq_some_iff] at this
   obtain ⟨cs, h1, h2⟩ := this
   obtain ⟨_, h3, h4⟩ := World.cells?_some h1
   exact ⟨cs, _, h3, h4, h2⟩
  obtain ⟨b, off, spot⟩ := a
  have hspot : spot = none := by
   obtain ⟨cs, y, h1, h2, _⟩ := hcell 0 (by omega)
   have h3 := h2 0 hsz
   rw [List.getElem?_eq_getElem (by omega)] at h3
   simpa [Addr.add] using World.cell?_spot h3
  subst hspot
  have hat : ∀ i, i < len → ∃ cs y, cs.length = P.cellsOf e ∧ (∀ j, j < P.cellsOf e → W.cell? ⟨b, off + i * P.cellsOf e + j, none⟩ = cs[j]?) ∧ DataW.trod enc P W 0 sp true n e cs = some y := fun i hi => by
   have := hcell i hi
   simpa only [Go.WideShapes.add_plain] using this
  obtain ⟨c, tt, fr, hb⟩ : ∃ c tt fr, W.heap[b]? = some (.cells c tt fr) := by
   obtain ⟨cs, y, h1, h2, _⟩ := hat 0 (by omega)
   have h3 := h2 0 hsz
   rw [List.getElem?_eq_getElem (by omega)] at h3
   unfold World.cell? at h3
   dsimp only at h3
   cases hq : W.heap[b]? with
   | none => rw [hq] at h3; cases h3
   | some o =>
    rw [hq] at h3
    cases o with
    | cells c t fr => exact ⟨c, t, fr, rfl⟩
    | _ => cases h3
  refine ⟨b, off, c, tt, fr, rfl, hb, hle, Nat.le_trans hle (Nat.le_trans hmax (by decide)), fun i hi => ?_⟩
  obtain ⟨cs, y, h1, h2, h3⟩ := hat i hi
  refine ⟨n, cs, y, h1, fun j hj => ?_, h3⟩
  have := h2 j hj
  simpa [World.cell?, hb] using this
theorem seg_one {cs : List Value} {k : Nat} {x : Value} (h : (cs.drop k).take 1 = [x]) : cs[k]? = some x := by
 have : ((cs.drop k).take 1)[0]? = some x := by rw [h]; rfl
 rw [List.getElem?_take_of_lt (by omega), List.getElem?_drop] at this
 simpa using this
theorem seen_open {t e k : TypeId} {f0 f1 : Field} {fuel : Nat} {v : Value} {x : DataW H × List MemPlace} (ht : P.underlying t = some (.slice e)) (hc : P.cellsOf e = 2) (he : P.underlying e = some (.struct #[f0, f1])) (h0 : f0.type = k ∧ f0.offset = 0) (h1 : f1.type = k ∧ f1.offset = 1) (hk : P.underlying k = some (.int .i64)) (hck : P.cellsOf k = 1)
  (hf : DataW.trod enc P W 0 sp true fuel t [v] = some x) : ∃ ts : Ts, ∀ Γ, @TyR (gtabS W) (absS v) ts Γ := by
 letI : GTab := gtabS W
 rcases sl_open ht (by omega) hf with rfl | ⟨⟨b, off, s⟩, len, cap, rfl, rfl | ⟨b, off, c, tt, fr, e1, hb, hle, hmax, hel⟩⟩
 ·exact ⟨[], fun Γ => .inl ⟨rfl, rfl⟩⟩
 ·exact ⟨[], fun Γ => .inr (.inr (.inr ⟨b, off, rfl, rfl⟩))⟩
 ·cases e1
  by_cases hz : len = 0
  ·subst hz; exact ⟨[], fun Γ => .inr (.inr (.inr ⟨b, off, rfl, rfl⟩))⟩
  rw [hc] at hel
  have ha : absS (.slice (some ⟨b, off, none⟩) len cap) = .gslice b off len 2 := by
   show (if len = 0 then AVal.gslice b off 0 2 else if len ≤ cap then AVal.gslice b off len 2 else .und) = _
   rw [if_neg hz, if_pos hle]
  have tab : (gtabS W).tab b = some (c.toList.map absS) := by show tabS W b = _; unfold tabS; rw [hb]
  have many : ∀ m, m ≤ len → ∃ ts : Ts, ts.length = m ∧ off + m * 2 ≤ off + m * 2 ∧ (m = 0 ∨ off + m * 2 ≤ c.toList.length) ∧ ((c.toList.map absS).drop off).take (m * 2) = tcells ts := by
   intro m
   induction m with
   | zero => exact fun _ => ⟨[], rfl, Nat.le_refl _, .inl rfl, by simp [tcells]⟩
   | succ m ih =>
    intro hm
    obtain ⟨ts, g1, _, g2, g3⟩ := ih (by omega)
    obtain ⟨n, cs, y, q1, q2, q3⟩ := hel m (by omega)
    obtain ⟨xs, n', rfl, _, _, hxl, hxs⟩ := DataW.trod_struct he q3
    have r0 := hxs 0 f0 rfl
    have r1 := hxs 1 f1 rfl
    rw [h0.1, h0.2, hck, List.getElem?_eq_getElem (by rw [hxl]; simp)] at r0
    rw [h1.1, h1.2, hck, List.getElem?_eq_getElem (by rw [hxl]; simp)] at r1
    obtain ⟨a0, s0, _⟩ := DataW.trod_int hk r0
    obtain ⟨a1, s1, _⟩ := DataW.trod_int hk r1
    have c0 := (q2 0 (by omega)).trans (seg_one s0)
    have c1 := (q2 1 (by omega)).trans (seg_one s1)
    have l1 := (Array.getElem?_eq_some_iff.1 c1).1
    have l1' : off + m * 2 + 1 < c.toList.length := by simpa using l1
    refine ⟨ts ++ [(a0, a1)], by simp [g1], Nat.le_refl _, .inr (by omega), ?_⟩
    rw [tcells_app, ← g3, show (m + 1) * 2 = m * 2 + 2 by omega, List.take_add]
    congr 1
    rw [List.drop_drop]
    have d0 : (c.toList.map absS)[off + m * 2]? = some (iv a0) := by rw [List.getElem?_map, Array.getElem?_toList, show c[off + m * 2]? = _ from c0]; rfl
    have d1 : (c.toList.map absS)[off + m * 2 + 1]? = some (iv a1) := by rw [List.getElem?_map, Array.getElem?_toList, c1]; rfl
    show List.take 2 (List.drop (off + m * 2) (c.toList.map absS)) = [iv a0, iv a1]
    refine List.ext_getElem? fun j => ?_
    match j with
    | 0 => rw [List.getElem?_take_of_lt (by omega), List.getElem?_drop, Nat.add_zero, d0]; rfl
    | 1 => rw [List.getElem?_take_of_lt (by omega), List.getElem?_drop, d1]; rfl
    | j + 2 => rw [List.getElem?_take, if_neg (by omega)]; rfl
  obtain ⟨ts, g1, _, g2, g3⟩ := many len (Nat.le_refl _)
  refine ⟨ts, fun Γ => .inr (.inr (.inl ⟨b, off, c.toList.map absS, by rw [ha, g1], tab, ?_, by rw [g1]; exact g3⟩))⟩
  rw [List.length_map, g1]
  rcases g2 with g2 | g2
  ·exact absurd g2 hz
  ·exact g2
theorem counts_open {t e k u ue : TypeId} {f0 f1 f2 f3 f4 g0 g1 : Field} {v : Value} {d : DataW H} {ps : List MemPlace} (ht : P.underlying t = some (.slice e)) (hc : P.cellsOf e = 5) (he : P.underlying e = some (.struct #[f0, f1, f2, f3, f4]))
  (h0 : f0.type = k ∧ f0.offset = 0) (h1 : f1.type = k ∧ f1.offset = 1) (h2 : f2.type = k ∧ f2.offset = 2) (h3 : f3.type = k ∧ f3.offset = 3) (h4 : f4.type = u ∧ f4.offset = 4) (hk : P.underlying k = some (.int .i64)) (hck : P.cellsOf k = 1)
  (hu : P.underlying u = some (.slice ue)) (hcu : P.cellsOf u = 1) (hce : P.cellsOf ue = 2) (hue : P.underlying ue = some (.struct #[g0, g1])) (i0 : g0.type = k ∧ g0.offset = 0) (i1 : g1.type = k ∧ g1.offset = 1)
  (hform : ∃ a len cap, v = .slice a len cap) (h : DataW.Trod enc P W 0 sp true t v d ps) :
  ∃ (o : AVal) (rows : List GRow), (∀ σ, Den σ o v) ∧ @ArgC (gtabS W) o rows := by
 letI : GTab := gtabS W
 obtain ⟨a0, len0, cap0, rfl⟩ := hform
 obtain ⟨fuel, hf⟩ := h
 have hf : DataW.trod enc P W 0 sp true fuel t [.slice a0 len0 cap0] = some (d, ps) := by simpa [Value.cells] using hf
 rcases sl_open ht (by omega) hf with e1 | ⟨a, len, cap, e1, rfl | ⟨b, off, c, tt, fr, rfl, hb, hle, hmax, hel⟩⟩
 ·cases e1
  exact ⟨.nilSlice, [], fun σ => .nilSlice, @ArgC.mk (gtabS W) _ _ rfl (fun i hi => by simp at hi) fun x hx => by simp at hx⟩
 ·cases e1
  exact ⟨.gslice a.block a.off 0 5, [], fun σ => .gslice0, @ArgC.mk (gtabS W) _ _ rfl (fun i hi => by simp at hi) fun x hx => by simp at hx⟩
 ·cases e1
  rw [hc] at hel
  have tab : tabS W b = some (c.toList.map absS) := by unfold tabS; rw [hb]
  have many : ∀ m, m ≤ len0 → ∃ rows : List GRow, rows.length = m ∧ (∀ i (hi : i < rows.length), off + i * 5 + 5 ≤ c.toList.length ∧ ((c.toList.map absS).drop (off + i * 5)).take 5 = (rows[i]'hi).v.vals) ∧ ∀ x ∈ rows, ∀ Γ, @TyR (gtabS W) x.1 x.2.ts Γ := by
   intro m
   induction m with
   | zero => exact fun _ => ⟨[], rfl, fun i hi => by simp at hi, fun x hx => by simp at hx⟩
   | succ m ih =>
    intro hm
    obtain ⟨rows, p1, p2, p3⟩ := ih (by omega)
    obtain ⟨n, cs, y, q1, q2, q3⟩ := hel m (by omega)
    obtain ⟨xs, n', rfl, _, _, hxl, hxs⟩ := DataW.trod_struct he q3
    have r0 := hxs 0 f0 rfl
    have r1 := hxs 1 f1 rfl
    have r2 := hxs 2 f2 rfl
    have r3 := hxs 3 f3 rfl
    have r4 := hxs 4 f4 rfl
    rw [h0.1, h0.2, hck, List.getElem?_eq_getElem (by rw [hxl]; simp)] at r0
    rw [h1.1, h1.2, hck, List.getElem?_eq_getElem (by rw [hxl]; simp)] at r1
    rw [h2.1, h2.2, hck, List.getElem?_eq_getElem (by rw [hxl]; simp)] at r2
    rw [h3.1, h3.2, hck, List.getElem?_eq_getElem (by rw [hxl]; simp)] at r3
    rw [h4.1, h4.2, hcu, List.getElem?_eq_getElem (by rw [hxl]; simp)] at r4
    obtain ⟨a0, s0, _⟩ := DataW.trod_int hk r0
    obtain ⟨a1, s1, _⟩ := DataW.trod_int hk r1
    obtain ⟨a2, s2, _⟩ := DataW.trod_int hk r2
    obtain ⟨a3, s3, _⟩ := DataW.trod_int hk r3
    obtain ⟨w, s4⟩ : ∃ w, (cs.drop 4).take 1 = [w] := by
     have hl : ((cs.drop 4).take 1).length = 1 := by rw [List.length_take, List.length_drop, q1]; rfl
     match hq : (cs.drop 4).take 1, hl with
     | [w], _ => exact ⟨w, rfl⟩
    rw [s4] at r4
    obtain ⟨ts, hts⟩ := seen_open (k := k) hu hce hue i0 i1 hk hck r4
    have c0 := (q2 0 (by omega)).trans (seg_one s0)
    have c1 := (q2 1 (by omega)).trans (seg_one s1)
    have c2 := (q2 2 (by omega)).trans (seg_one s2)
    have c3 := (q2 3 (by omega)).trans (seg_one s3)
    have c4 := (q2 4 (by omega)).trans (seg_one s4)
    have l4 := (Array.getElem?_eq_some_iff.1 c4).1
    have l4' : off + m * 5 + 4 < c.toList.length := by simpa using l4
    have d : ∀ j z, c[off + m * 5 + j]? = some z → (c.toList.map absS)[off + m * 5 + j]? = some (absS z) := fun j z hz => by rw [List.getElem?_map, Array.getElem?_toList, hz]; rfl
    refine ⟨rows ++ [(absS w, ⟨a0, a1, a2, a3, ts⟩)], by simp [p1], fun i hi => ?_, fun x hx Γ => ?_⟩
    ·by_cases him : i < rows.length
     ·rw [List.getElem_append_left him]; exact p2 i him
     ·have : i = m := by simp at hi; omega
      subst this
      rw [List.getElem_append_right (by omega)]
      refine ⟨by omega, ?_⟩
      simp only [p1, Nat.sub_self, List.getElem_cons_zero]
      refine List.ext_getElem? fun j => ?_
      match j with
      | 0 => rw [List.getElem?_take_of_lt (by omega), List.getElem?_drop, d 0 _ c0]; rfl
      | 1 => rw [List.getElem?_take_of_lt (by omega), List.getElem?_drop, d 1 _ c1]; rfl
      | 2 => rw [List.getElem?_take_of_lt (by omega), List.getElem?_drop, d 2 _ c2]; rfl
      | 3 => rw [List.getElem?_take_of_lt (by omega), List.getElem?_drop, d 3 _ c3]; rfl
      | 4 => rw [List.getElem?_take_of_lt (by omega), List.getElem?_drop, d 4 _ c4]; rfl
      | j + 5 => rw [List.getElem?_take, if_neg (by omega)]; rfl
    ·rcases List.mem_append.1 hx with hx | hx
     ·exact p3 x hx Γ
     ·simp at hx; subst hx; exact hts Γ
  obtain ⟨rows, p1, p2, p3⟩ := many len0 (Nat.le_refl _)
  refine ⟨.gslice b off len0 5, rows, fun σ => .gslice hle, @ArgC.mk (gtabS W) _ _ (by rw [p1]; rfl) (fun i hi => ?_) p3⟩
  obtain ⟨g1, g2⟩ := p2 i hi
  refine ⟨.gptr b (off + i * 5), ?_, fun H => ?_⟩
  ·unfold idxS
   simp only [Nat.ble_eq_true_of_le (show Nat.succ i ≤ len0 by omega)]
   rfl
  ·have tab' : (gtabS W).tab b = some (c.toList.map absS) := tab
   unfold ldN
   simp only [tab', Nat.ble_eq_true_of_le (show Nat.add (off + i * 5) 5 ≤ (c.toList.map absS).length by rw [List.length_map]; exact g1), g2]
end
end Go.Vs
end
