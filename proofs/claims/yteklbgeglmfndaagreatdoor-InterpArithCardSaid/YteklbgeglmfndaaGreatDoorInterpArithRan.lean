/-
  InterpArith: the runs, at two numbers that are not known: symbols, and what is known of them in each case. No condition.
-/
import Derived.Test.YteklbgeglmfndaaGreatDoorTarith
import Derived.Test.YteklbgeglmfndaaGreatDoorNum
import Derived.Test.YteklbgeglmfndaaGreatDoorRows
import Derived.MakeChecks
import Derived.Test.YteklbgeglmfndaaGreatDoorDig
import Derived.Test.YteklbgeglmfndaaGreatDoorEvSymTab
namespace Go.Proofs.YteklbgeglmfndaaGreatDoor.interpArith
open Go.Ev

theorem wrap_in {n : Int} (h0 : -9223372036854775808 ≤ n) (h1 : n ≤ 9223372036854775807) : IntKind.i64.wrap n = n := by
  rw [wrapI]
  split <;> omega

def vals (a b : Int) : List Int := [a, b, a + b, a - b, a * b, -a, Int.tdiv a b, Int.tmod a b, 0, -1, -9223372036854775808, 1]

theorem symC {s : Syms} {h : s.OK} {t : TypeId} {fz : Nat × Nat} : @SymC (s.tab h 0 (.cells powCells t fz)) Tryz.prog 206 29 :=
  @SymC.mk (s.tab h 0 (.cells powCells t fz)) _ _ _ (@SymOK.mk (s.tab h 0 (.cells powCells t fz)) _ _ _
    (fun n w h0 h1 hg => @fmt_ok (s.tab h 0 (.cells powCells t fz)) t fz Syms.blk n w h0 h1 hg) dig_ok (fun _ => rfl))

def symsZ (a b : Int) : Syms := { vals := vals a b, con := [(0, 8), (-1, 9), (-9223372036854775808, 10), (1, 11)], lit := [(8, 0)], add := [(0, 1, 2)], sub := [(0, 1, 3), (8, 0, 5)], mul := [(0, 1, 4)], quo := [], rem := [], eq := [(1, 8, true)] }

theorem okZ {a b : Int} (ha0 : -9223372036854775808 ≤ a) (ha1 : a ≤ 9223372036854775807) (hb0 : -9223372036854775808 ≤ b) (hb1 : b ≤ 9223372036854775807) (hz : b = 0) : (symsZ a b).OK := by
  have wa := wrap_in ha0 ha1
  have wb := wrap_in hb0 hb1
  constructor
  · intro t ht
    simp only [symsZ, List.mem_cons, List.not_mem_nil, or_false] at ht
    rcases ht with rfl | rfl | rfl | rfl
    · exact Same64.self _
    · exact Same64.self _
    · exact Same64.self _
    · exact Same64.self _
  · intro t ht
    simp only [symsZ, List.mem_cons, List.not_mem_nil, or_false] at ht
    subst ht
    exact Same64.self _
  · intro t ht
    simp only [symsZ, List.mem_cons, List.not_mem_nil, or_false] at ht
    subst ht
    exact Same64.self _
  · intro t ht
    simp only [symsZ, List.mem_cons, List.not_mem_nil, or_false] at ht
    rcases ht with rfl | rfl
    · exact Same64.self _
    · exact ⟨0, by show (0 : Int) - a = -a + 0 * _; omega⟩
  · intro t ht
    simp only [symsZ, List.mem_cons, List.not_mem_nil, or_false] at ht
    subst ht
    exact Same64.self _
  · intro t ht; cases ht
  · intro t ht; cases ht
  · intro t ht
    simp only [symsZ, List.mem_cons, List.not_mem_nil, or_false] at ht
    subst ht
    refine ⟨fun hh => (⟨0, by show (b : Int) = 0 + 0 * _; omega⟩), fun hh => (rfl)⟩
  · intro t ht; cases ht

set_option maxRecDepth 1000000 in
theorem ranZ (a b : Int) (h : (symsZ a b).OK) (o : Obj) : @runTW ((symsZ a b).tab h 0 o) Tryz.prog tarith 4 1000 [.anyInt .i64 65536 0, .anyInt .i64 65536 1] = true := by kernel_rfl

def symsM (a b : Int) : Syms := { vals := vals a b, con := [(0, 8), (-1, 9), (-9223372036854775808, 10), (1, 11)], lit := [(8, 0)], add := [(0, 1, 2)], sub := [(0, 1, 3), (8, 0, 5)], mul := [(0, 1, 4)], quo := [(0, 11, 5)], rem := [(0, 11, 8)], eq := [(1, 8, false), (1, 9, true), (0, 10, true)] }

theorem okM {a b : Int} (ha0 : -9223372036854775808 ≤ a) (ha1 : a ≤ 9223372036854775807) (hb0 : -9223372036854775808 ≤ b) (hb1 : b ≤ 9223372036854775807) (hz : b = -1) (hm : a = -9223372036854775808) : (symsM a b).OK := by
  have wa := wrap_in ha0 ha1
  have wb := wrap_in hb0 hb1
  constructor
  · intro t ht
    simp only [symsM, List.mem_cons, List.not_mem_nil, or_false] at ht
    rcases ht with rfl | rfl | rfl | rfl
    · exact Same64.self _
    · exact Same64.self _
    · exact Same64.self _
    · exact Same64.self _
  · intro t ht
    simp only [symsM, List.mem_cons, List.not_mem_nil, or_false] at ht
    subst ht
    exact Same64.self _
  · intro t ht
    simp only [symsM, List.mem_cons, List.not_mem_nil, or_false] at ht
    subst ht
    exact Same64.self _
  · intro t ht
    simp only [symsM, List.mem_cons, List.not_mem_nil, or_false] at ht
    rcases ht with rfl | rfl
    · exact Same64.self _
    · exact ⟨0, by show (0 : Int) - a = -a + 0 * _; omega⟩
  · intro t ht
    simp only [symsM, List.mem_cons, List.not_mem_nil, or_false] at ht
    subst ht
    exact Same64.self _
  · intro t ht
    simp only [symsM, List.mem_cons, List.not_mem_nil, or_false] at ht
    subst ht
    refine ⟨by show IntKind.i64.wrap 1 ≠ 0; decide, ?_⟩; show Same64 ((IntKind.i64.wrap a).tdiv (IntKind.i64.wrap 1)) (-a); rw [wa, show IntKind.i64.wrap 1 = 1 by decide, Int.tdiv_one]; exact ⟨-1, by omega⟩
  · intro t ht
    simp only [symsM, List.mem_cons, List.not_mem_nil, or_false] at ht
    subst ht
    refine ⟨by show IntKind.i64.wrap 1 ≠ 0; decide, ?_⟩; show Same64 ((IntKind.i64.wrap a).tmod (IntKind.i64.wrap 1)) 0; rw [wa, show IntKind.i64.wrap 1 = 1 by decide, Int.tmod_one]; exact Same64.self _
  · intro t ht
    simp only [symsM, List.mem_cons, List.not_mem_nil, or_false] at ht
    rcases ht with rfl | rfl | rfl
    · refine ⟨fun hh => (by cases hh), fun hh => (by obtain ⟨q, hq⟩ := hh; have hq' : (b : Int) = 0 + q * 18446744073709551616 := hq; omega)⟩
    · refine ⟨fun hh => (⟨0, by show (b : Int) = -1 + 0 * _; omega⟩), fun hh => (rfl)⟩
    · refine ⟨fun hh => (⟨0, by show (a : Int) = -9223372036854775808 + 0 * _; omega⟩), fun hh => (rfl)⟩
  · intro t ht; cases ht

set_option maxRecDepth 1000000 in
theorem ranM (a b : Int) (h : (symsM a b).OK) (o : Obj) : @runTW ((symsM a b).tab h 0 o) Tryz.prog tarith 4 1000 [.anyInt .i64 65536 0, .anyInt .i64 65536 1] = true := by kernel_rfl

def symsN (a b : Int) : Syms := { vals := vals a b, con := [(0, 8), (-1, 9), (-9223372036854775808, 10), (1, 11)], lit := [(8, 0)], add := [(0, 1, 2)], sub := [(0, 1, 3), (8, 0, 5)], mul := [(0, 1, 4)], quo := [(0, 1, 5)], rem := [(0, 1, 8)], eq := [(1, 8, false), (1, 9, true), (0, 10, false)] }

theorem okN {a b : Int} (ha0 : -9223372036854775808 ≤ a) (ha1 : a ≤ 9223372036854775807) (hb0 : -9223372036854775808 ≤ b) (hb1 : b ≤ 9223372036854775807) (hz : b = -1) (hm : a ≠ -9223372036854775808) : (symsN a b).OK := by
  have wa := wrap_in ha0 ha1
  have wb := wrap_in hb0 hb1
  constructor
  · intro t ht
    simp only [symsN, List.mem_cons, List.not_mem_nil, or_false] at ht
    rcases ht with rfl | rfl | rfl | rfl
    · exact Same64.self _
    · exact Same64.self _
    · exact Same64.self _
    · exact Same64.self _
  · intro t ht
    simp only [symsN, List.mem_cons, List.not_mem_nil, or_false] at ht
    subst ht
    exact Same64.self _
  · intro t ht
    simp only [symsN, List.mem_cons, List.not_mem_nil, or_false] at ht
    subst ht
    exact Same64.self _
  · intro t ht
    simp only [symsN, List.mem_cons, List.not_mem_nil, or_false] at ht
    rcases ht with rfl | rfl
    · exact Same64.self _
    · exact ⟨0, by show (0 : Int) - a = -a + 0 * _; omega⟩
  · intro t ht
    simp only [symsN, List.mem_cons, List.not_mem_nil, or_false] at ht
    subst ht
    exact Same64.self _
  · intro t ht
    simp only [symsN, List.mem_cons, List.not_mem_nil, or_false] at ht
    subst ht
    refine ⟨by show IntKind.i64.wrap b ≠ 0; rw [wb]; omega, ?_⟩; show Same64 ((IntKind.i64.wrap a).tdiv (IntKind.i64.wrap b)) _; rw [wa, wb]; subst hz; rw [show (-1 : Int) = -(1 : Int) from rfl, Int.tdiv_neg, Int.tdiv_one]; exact Same64.self _
  · intro t ht
    simp only [symsN, List.mem_cons, List.not_mem_nil, or_false] at ht
    subst ht
    refine ⟨by show IntKind.i64.wrap b ≠ 0; rw [wb]; omega, ?_⟩; show Same64 ((IntKind.i64.wrap a).tmod (IntKind.i64.wrap b)) _; rw [wa, wb]; subst hz; rw [show (-1 : Int) = -(1 : Int) from rfl, Int.tmod_neg, Int.tmod_one]; exact Same64.self _
  · intro t ht
    simp only [symsN, List.mem_cons, List.not_mem_nil, or_false] at ht
    rcases ht with rfl | rfl | rfl
    · refine ⟨fun hh => (by cases hh), fun hh => (by obtain ⟨q, hq⟩ := hh; have hq' : (b : Int) = 0 + q * 18446744073709551616 := hq; omega)⟩
    · refine ⟨fun hh => (⟨0, by show (b : Int) = -1 + 0 * _; omega⟩), fun hh => (rfl)⟩
    · refine ⟨fun hh => (by cases hh), fun hh => (by obtain ⟨q, hq⟩ := hh; have hq' : (a : Int) = -9223372036854775808 + q * 18446744073709551616 := hq; omega)⟩
  · intro t ht; cases ht

set_option maxRecDepth 1000000 in
theorem ranN (a b : Int) (h : (symsN a b).OK) (o : Obj) : @runTW ((symsN a b).tab h 0 o) Tryz.prog tarith 4 1000 [.anyInt .i64 65536 0, .anyInt .i64 65536 1] = true := by kernel_rfl

def symsO (a b : Int) : Syms := { vals := vals a b, con := [(0, 8), (-1, 9), (-9223372036854775808, 10), (1, 11)], lit := [(8, 0)], add := [(0, 1, 2)], sub := [(0, 1, 3), (8, 0, 5)], mul := [(0, 1, 4)], quo := [(0, 1, 6)], rem := [(0, 1, 7)], eq := [(1, 8, false), (1, 9, false), (0, 10, true)] }

theorem okO {a b : Int} (ha0 : -9223372036854775808 ≤ a) (ha1 : a ≤ 9223372036854775807) (hb0 : -9223372036854775808 ≤ b) (hb1 : b ≤ 9223372036854775807) (hz : b ≠ 0) (hn : b ≠ -1) (hm : a = -9223372036854775808) : (symsO a b).OK := by
  have wa := wrap_in ha0 ha1
  have wb := wrap_in hb0 hb1
  constructor
  · intro t ht
    simp only [symsO, List.mem_cons, List.not_mem_nil, or_false] at ht
    rcases ht with rfl | rfl | rfl | rfl
    · exact Same64.self _
    · exact Same64.self _
    · exact Same64.self _
    · exact Same64.self _
  · intro t ht
    simp only [symsO, List.mem_cons, List.not_mem_nil, or_false] at ht
    subst ht
    exact Same64.self _
  · intro t ht
    simp only [symsO, List.mem_cons, List.not_mem_nil, or_false] at ht
    subst ht
    exact Same64.self _
  · intro t ht
    simp only [symsO, List.mem_cons, List.not_mem_nil, or_false] at ht
    rcases ht with rfl | rfl
    · exact Same64.self _
    · exact ⟨0, by show (0 : Int) - a = -a + 0 * _; omega⟩
  · intro t ht
    simp only [symsO, List.mem_cons, List.not_mem_nil, or_false] at ht
    subst ht
    exact Same64.self _
  · intro t ht
    simp only [symsO, List.mem_cons, List.not_mem_nil, or_false] at ht
    subst ht
    refine ⟨by show IntKind.i64.wrap b ≠ 0; rw [wb]; omega, ?_⟩; show Same64 ((IntKind.i64.wrap a).tdiv (IntKind.i64.wrap b)) _; rw [wa, wb]; exact Same64.self _
  · intro t ht
    simp only [symsO, List.mem_cons, List.not_mem_nil, or_false] at ht
    subst ht
    refine ⟨by show IntKind.i64.wrap b ≠ 0; rw [wb]; omega, ?_⟩; show Same64 ((IntKind.i64.wrap a).tmod (IntKind.i64.wrap b)) _; rw [wa, wb]; exact Same64.self _
  · intro t ht
    simp only [symsO, List.mem_cons, List.not_mem_nil, or_false] at ht
    rcases ht with rfl | rfl | rfl
    · refine ⟨fun hh => (by cases hh), fun hh => (by obtain ⟨q, hq⟩ := hh; have hq' : (b : Int) = 0 + q * 18446744073709551616 := hq; omega)⟩
    · refine ⟨fun hh => (by cases hh), fun hh => (by obtain ⟨q, hq⟩ := hh; have hq' : (b : Int) = -1 + q * 18446744073709551616 := hq; omega)⟩
    · refine ⟨fun hh => (⟨0, by show (a : Int) = -9223372036854775808 + 0 * _; omega⟩), fun hh => (rfl)⟩
  · intro t ht; cases ht

set_option maxRecDepth 1000000 in
theorem ranO (a b : Int) (h : (symsO a b).OK) (o : Obj) : @runTW ((symsO a b).tab h 0 o) Tryz.prog tarith 4 1000 [.anyInt .i64 65536 0, .anyInt .i64 65536 1] = true := by kernel_rfl

def symsP (a b : Int) : Syms := { vals := vals a b, con := [(0, 8), (-1, 9), (-9223372036854775808, 10), (1, 11)], lit := [(8, 0)], add := [(0, 1, 2)], sub := [(0, 1, 3), (8, 0, 5)], mul := [(0, 1, 4)], quo := [(0, 1, 6)], rem := [(0, 1, 7)], eq := [(1, 8, false), (1, 9, false), (0, 10, false)] }

theorem okP {a b : Int} (ha0 : -9223372036854775808 ≤ a) (ha1 : a ≤ 9223372036854775807) (hb0 : -9223372036854775808 ≤ b) (hb1 : b ≤ 9223372036854775807) (hz : b ≠ 0) (hn : b ≠ -1) (hm : a ≠ -9223372036854775808) : (symsP a b).OK := by
  have wa := wrap_in ha0 ha1
  have wb := wrap_in hb0 hb1
  constructor
  · intro t ht
    simp only [symsP, List.mem_cons, List.not_mem_nil, or_false] at ht
    rcases ht with rfl | rfl | rfl | rfl
    · exact Same64.self _
    · exact Same64.self _
    · exact Same64.self _
    · exact Same64.self _
  · intro t ht
    simp only [symsP, List.mem_cons, List.not_mem_nil, or_false] at ht
    subst ht
    exact Same64.self _
  · intro t ht
    simp only [symsP, List.mem_cons, List.not_mem_nil, or_false] at ht
    subst ht
    exact Same64.self _
  · intro t ht
    simp only [symsP, List.mem_cons, List.not_mem_nil, or_false] at ht
    rcases ht with rfl | rfl
    · exact Same64.self _
    · exact ⟨0, by show (0 : Int) - a = -a + 0 * _; omega⟩
  · intro t ht
    simp only [symsP, List.mem_cons, List.not_mem_nil, or_false] at ht
    subst ht
    exact Same64.self _
  · intro t ht
    simp only [symsP, List.mem_cons, List.not_mem_nil, or_false] at ht
    subst ht
    refine ⟨by show IntKind.i64.wrap b ≠ 0; rw [wb]; omega, ?_⟩; show Same64 ((IntKind.i64.wrap a).tdiv (IntKind.i64.wrap b)) _; rw [wa, wb]; exact Same64.self _
  · intro t ht
    simp only [symsP, List.mem_cons, List.not_mem_nil, or_false] at ht
    subst ht
    refine ⟨by show IntKind.i64.wrap b ≠ 0; rw [wb]; omega, ?_⟩; show Same64 ((IntKind.i64.wrap a).tmod (IntKind.i64.wrap b)) _; rw [wa, wb]; exact Same64.self _
  · intro t ht
    simp only [symsP, List.mem_cons, List.not_mem_nil, or_false] at ht
    rcases ht with rfl | rfl | rfl
    · refine ⟨fun hh => (by cases hh), fun hh => (by obtain ⟨q, hq⟩ := hh; have hq' : (b : Int) = 0 + q * 18446744073709551616 := hq; omega)⟩
    · refine ⟨fun hh => (by cases hh), fun hh => (by obtain ⟨q, hq⟩ := hh; have hq' : (b : Int) = -1 + q * 18446744073709551616 := hq; omega)⟩
    · refine ⟨fun hh => (by cases hh), fun hh => (by obtain ⟨q, hq⟩ := hh; have hq' : (a : Int) = -9223372036854775808 + q * 18446744073709551616 := hq; omega)⟩
  · intro t ht; cases ht

set_option maxRecDepth 1000000 in
theorem ranP (a b : Int) (h : (symsP a b).OK) (o : Obj) : @runTW ((symsP a b).tab h 0 o) Tryz.prog tarith 4 1000 [.anyInt .i64 65536 0, .anyInt .i64 65536 1] = true := by kernel_rfl

theorem run {s : Syms} {h : s.OK} {t : TypeId} {fz : Nat × Nat} {a b : Int} (ha : IntKind.i64.wrap a = a) (hb : IntKind.i64.wrap b = b) (hv : s.vals = vals a b)
    (hr : @runTW (s.tab h 0 (.cells powCells t fz)) Tryz.prog tarith 4 1000 [.anyInt .i64 65536 0, .anyInt .i64 65536 1] = true) (w : World) (hw : TabAt w t fz) :
    Calls Tryz.prog 4 #[.int .i64 a, .int .i64 b] w fun e w' => e = .returned (.bool true) ∧ Kept w w' := by
  letI : GTab := s.tab h 0 (.cells powCells t fz)
  haveI : SymC Tryz.prog 206 29 := symC
  refine (runTW_ok mixed tarith_ok hr (Syms.glob hw) [.int .i64 a, .int .i64 b] (.cons (.anyInt _ _ _ _ ?_) (.cons (.anyInt _ _ _ _ ?_) .nil))).mono fun _ _ ⟨h1, _, h3⟩ => ⟨h1, h3⟩
  · unfold AnyOK
    rw [if_pos rfl]
    show a = IntKind.i64.wrap (s.vals.getD 0 0)
    rw [hv]; exact ha.symm
  · unfold AnyOK
    rw [if_pos rfl]
    show b = IntKind.i64.wrap (s.vals.getD 1 0)
    rw [hv]; exact hb.symm

theorem walk (a b : Int) (wa : (Lit.int .i64 a).wf = true) (wb : (Lit.int .i64 b).wf = true) (w : World) (hL : laidMetH Tryz.prog Rows.interpArithRow.laid w) :
    Calls Tryz.prog 4 #[.int .i64 a, .int .i64 b] w fun e w' => e = .returned (.bool true) ∧ Kept w w' := by
  have ra : -9223372036854775808 ≤ a ∧ a ≤ 9223372036854775807 := by simpa [Lit.wf, IntKind.min, IntKind.max, IntKind.signed, IntKind.bits] using wa
  have rb : -9223372036854775808 ≤ b ∧ b ≤ 9223372036854775807 := by simpa [Lit.wf, IntKind.min, IntKind.max, IntKind.signed, IntKind.bits] using wb
  obtain ⟨ha0, ha1⟩ := ra
  obtain ⟨hb0, hb1⟩ := rb
  rw [MakeChecks.laidMetH_plain _ _ _ (by kernel_rfl)] at hL
  obtain ⟨t, fz, hw⟩ := tab_laid hL
  have go : ∀ {s : Syms} (h : s.OK) (hv : s.vals = vals a b) (_ : @runTW (s.tab h 0 (.cells powCells t fz)) Tryz.prog tarith 4 1000 [.anyInt .i64 65536 0, .anyInt .i64 65536 1] = true),
      Calls Tryz.prog 4 #[.int .i64 a, .int .i64 b] w fun e w' => e = .returned (.bool true) ∧ Kept w w' :=
    fun h hv hr => run (wrap_in ha0 ha1) (wrap_in hb0 hb1) hv hr w hw
  by_cases hz : b = 0
  · exact go (okZ ha0 ha1 hb0 hb1 hz) rfl (ranZ a b _ _)
  · by_cases hn : b = -1
    · by_cases hm : a = -9223372036854775808
      · exact go (okM ha0 ha1 hb0 hb1 hn hm) rfl (ranM a b _ _)
      · exact go (okN ha0 ha1 hb0 hb1 hn hm) rfl (ranN a b _ _)
    · by_cases hm : a = -9223372036854775808
      · exact go (okO ha0 ha1 hb0 hb1 hz hn hm) rfl (ranO a b _ _)
      · exact go (okP ha0 ha1 hb0 hb1 hz hn hm) rfl (ranP a b _ _)

end Go.Proofs.YteklbgeglmfndaaGreatDoor.interpArith
