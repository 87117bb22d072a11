/-
  InterpLogic: the runs, at two numbers that are not known: symbols, and what is known of them in each case. No condition.
-/
import Derived.Test.YteklbgeglmfndaaGreatDoorTlogic
import Derived.Test.YteklbgeglmfndaaGreatDoorNum
import Derived.Test.YteklbgeglmfndaaGreatDoorRows
import Derived.MakeChecks
import Derived.Test.YteklbgeglmfndaaGreatDoorDig
import Derived.Test.YteklbgeglmfndaaGreatDoorEvSymTab
namespace Go.Proofs.YteklbgeglmfndaaGreatDoor.interpLogic
open Go.Ev

theorem wrap_in {n : Int} (h0 : -9223372036854775808 ≤ n) (h1 : n ≤ 9223372036854775807) : IntKind.i64.wrap n = n := by
  rw [wrapI]
  split <;> omega

def vals (a b : Int) : List Int := [a, b]

theorem symC {s : Syms} {h : s.OK} {t : TypeId} {fz : Nat × Nat} : @SymC (s.tab h 0 (.cells powCells t fz)) Tryz.prog 206 29 :=
  @SymC.mk (s.tab h 0 (.cells powCells t fz)) _ _ _ (@SymOK.mk (s.tab h 0 (.cells powCells t fz)) _ _ _
    (fun n w h0 h1 hg => @fmt_ok (s.tab h 0 (.cells powCells t fz)) t fz Syms.blk n w h0 h1 hg) dig_ok (fun _ => rfl))

def symsL (a b : Int) : Syms := { vals := vals a b, eq := [(0, 1, false), (1, 0, false)], lt := [(0, 1, true), (1, 0, false)] }

theorem okL {a b : Int} (ha0 : -9223372036854775808 ≤ a) (ha1 : a ≤ 9223372036854775807) (hb0 : -9223372036854775808 ≤ b) (hb1 : b ≤ 9223372036854775807) (hz : a < b) : (symsL a b).OK := by
  have wa := wrap_in ha0 ha1
  have wb := wrap_in hb0 hb1
  constructor
  · intro t ht; cases ht
  · intro t ht; cases ht
  · intro t ht; cases ht
  · intro t ht; cases ht
  · intro t ht; cases ht
  · intro t ht; cases ht
  · intro t ht; cases ht
  · intro t ht
    simp only [symsL, List.mem_cons, List.not_mem_nil, or_false] at ht
    rcases ht with rfl | rfl
    · refine ⟨fun hh => (by cases hh), fun hh => (by obtain ⟨q, hq⟩ := hh; have hq' : (a : Int) = b + q * 18446744073709551616 := hq; omega)⟩
    · refine ⟨fun hh => (by cases hh), fun hh => (by obtain ⟨q, hq⟩ := hh; have hq' : (b : Int) = a + q * 18446744073709551616 := hq; omega)⟩
  · intro t ht
    simp only [symsL, List.mem_cons, List.not_mem_nil, or_false] at ht
    rcases ht with rfl | rfl
    · show true = decide (IntKind.i64.wrap a < IntKind.i64.wrap b); rw [wa, wb]; simp; omega
    · show false = decide (IntKind.i64.wrap b < IntKind.i64.wrap a); rw [wb, wa]; simp; omega

set_option maxRecDepth 1000000 in
theorem ranL (a b : Int) (h : (symsL a b).OK) (o : Obj) : @runTW ((symsL a b).tab h 0 o) Tryz.prog tlogic 5 1000 [.anyInt .i64 65536 0, .anyInt .i64 65536 1] = true := by kernel_rfl

def symsE (a b : Int) : Syms := { vals := vals a b, eq := [(0, 1, true), (1, 0, true)], lt := [(0, 1, false), (1, 0, false)] }

theorem okE {a b : Int} (ha0 : -9223372036854775808 ≤ a) (ha1 : a ≤ 9223372036854775807) (hb0 : -9223372036854775808 ≤ b) (hb1 : b ≤ 9223372036854775807) (hz : a = b) : (symsE a b).OK := by
  have wa := wrap_in ha0 ha1
  have wb := wrap_in hb0 hb1
  constructor
  · intro t ht; cases ht
  · intro t ht; cases ht
  · intro t ht; cases ht
  · intro t ht; cases ht
  · intro t ht; cases ht
  · intro t ht; cases ht
  · intro t ht; cases ht
  · intro t ht
    simp only [symsE, List.mem_cons, List.not_mem_nil, or_false] at ht
    rcases ht with rfl | rfl
    · refine ⟨fun hh => (⟨0, by show (a : Int) = b + 0 * _; omega⟩), fun hh => (rfl)⟩
    · refine ⟨fun hh => (⟨0, by show (b : Int) = a + 0 * _; omega⟩), fun hh => (rfl)⟩
  · intro t ht
    simp only [symsE, List.mem_cons, List.not_mem_nil, or_false] at ht
    rcases ht with rfl | rfl
    · show false = decide (IntKind.i64.wrap a < IntKind.i64.wrap b); rw [wa, wb]; simp; omega
    · show false = decide (IntKind.i64.wrap b < IntKind.i64.wrap a); rw [wb, wa]; simp; omega

set_option maxRecDepth 1000000 in
theorem ranE (a b : Int) (h : (symsE a b).OK) (o : Obj) : @runTW ((symsE a b).tab h 0 o) Tryz.prog tlogic 5 1000 [.anyInt .i64 65536 0, .anyInt .i64 65536 1] = true := by kernel_rfl

def symsG (a b : Int) : Syms := { vals := vals a b, eq := [(0, 1, false), (1, 0, false)], lt := [(0, 1, false), (1, 0, true)] }

theorem okG {a b : Int} (ha0 : -9223372036854775808 ≤ a) (ha1 : a ≤ 9223372036854775807) (hb0 : -9223372036854775808 ≤ b) (hb1 : b ≤ 9223372036854775807) (hz : b < a) : (symsG a b).OK := by
  have wa := wrap_in ha0 ha1
  have wb := wrap_in hb0 hb1
  constructor
  · intro t ht; cases ht
  · intro t ht; cases ht
  · intro t ht; cases ht
  · intro t ht; cases ht
  · intro t ht; cases ht
  · intro t ht; cases ht
  · intro t ht; cases ht
  · intro t ht
    simp only [symsG, List.mem_cons, List.not_mem_nil, or_false] at ht
    rcases ht with rfl | rfl
    · refine ⟨fun hh => (by cases hh), fun hh => (by obtain ⟨q, hq⟩ := hh; have hq' : (a : Int) = b + q * 18446744073709551616 := hq; omega)⟩
    · refine ⟨fun hh => (by cases hh), fun hh => (by obtain ⟨q, hq⟩ := hh; have hq' : (b : Int) = a + q * 18446744073709551616 := hq; omega)⟩
  · intro t ht
    simp only [symsG, List.mem_cons, List.not_mem_nil, or_false] at ht
    rcases ht with rfl | rfl
    · show false = decide (IntKind.i64.wrap a < IntKind.i64.wrap b); rw [wa, wb]; simp; omega
    · show true = decide (IntKind.i64.wrap b < IntKind.i64.wrap a); rw [wb, wa]; simp; omega

set_option maxRecDepth 1000000 in
theorem ranG (a b : Int) (h : (symsG a b).OK) (o : Obj) : @runTW ((symsG a b).tab h 0 o) Tryz.prog tlogic 5 1000 [.anyInt .i64 65536 0, .anyInt .i64 65536 1] = true := by kernel_rfl

theorem run {s : Syms} {h : s.OK} {t : TypeId} {fz : Nat × Nat} {a b : Int} (ha : IntKind.i64.wrap a = a) (hb : IntKind.i64.wrap b = b) (hv : s.vals = vals a b)
    (hr : @runTW (s.tab h 0 (.cells powCells t fz)) Tryz.prog tlogic 5 1000 [.anyInt .i64 65536 0, .anyInt .i64 65536 1] = true) (w : World) (hw : TabAt w t fz) :
    Calls Tryz.prog 5 #[.int .i64 a, .int .i64 b] w fun e w' => e = .returned (.bool true) ∧ Kept w w' := by
  letI : GTab := s.tab h 0 (.cells powCells t fz)
  haveI : SymC Tryz.prog 206 29 := symC
  refine (runTW_ok mixed tlogic_ok hr (Syms.glob hw) [.int .i64 a, .int .i64 b] (.cons (.anyInt _ _ _ _ ?_) (.cons (.anyInt _ _ _ _ ?_) .nil))).mono fun _ _ ⟨h1, _, h3⟩ => ⟨h1, h3⟩
  · unfold AnyOK
    rw [if_pos rfl]
    show a = IntKind.i64.wrap (s.vals.getD 0 0)
    rw [hv]; exact ha.symm
  · unfold AnyOK
    rw [if_pos rfl]
    show b = IntKind.i64.wrap (s.vals.getD 1 0)
    rw [hv]; exact hb.symm

theorem walk (a b : Int) (wa : (Lit.int .i64 a).wf = true) (wb : (Lit.int .i64 b).wf = true) (w : World) (hL : laidMetH Tryz.prog Rows.interpLogicRow.laid w) :
    Calls Tryz.prog 5 #[.int .i64 a, .int .i64 b] w fun e w' => e = .returned (.bool true) ∧ Kept w w' := by
  have ra : -9223372036854775808 ≤ a ∧ a ≤ 9223372036854775807 := by simpa [Lit.wf, IntKind.min, IntKind.max, IntKind.signed, IntKind.bits] using wa
  have rb : -9223372036854775808 ≤ b ∧ b ≤ 9223372036854775807 := by simpa [Lit.wf, IntKind.min, IntKind.max, IntKind.signed, IntKind.bits] using wb
  obtain ⟨ha0, ha1⟩ := ra
  obtain ⟨hb0, hb1⟩ := rb
  rw [MakeChecks.laidMetH_plain _ _ _ (by kernel_rfl)] at hL
  obtain ⟨t, fz, hw⟩ := tab_laid hL
  have go : ∀ {s : Syms} (h : s.OK) (hv : s.vals = vals a b) (_ : @runTW (s.tab h 0 (.cells powCells t fz)) Tryz.prog tlogic 5 1000 [.anyInt .i64 65536 0, .anyInt .i64 65536 1] = true),
      Calls Tryz.prog 5 #[.int .i64 a, .int .i64 b] w fun e w' => e = .returned (.bool true) ∧ Kept w w' :=
    fun h hv hr => run (wrap_in ha0 ha1) (wrap_in hb0 hb1) hv hr w hw
  rcases Int.lt_trichotomy a b with hz | hz | hz
  · exact go (okL ha0 ha1 hb0 hb1 hz) rfl (ranL a b _ _)
  · exact go (okE ha0 ha1 hb0 hb1 hz) rfl (ranE a b _ _)
  · exact go (okG ha0 ha1 hb0 hb1 hz) rfl (ranG a b _ _)

end Go.Proofs.YteklbgeglmfndaaGreatDoor.interpLogic
