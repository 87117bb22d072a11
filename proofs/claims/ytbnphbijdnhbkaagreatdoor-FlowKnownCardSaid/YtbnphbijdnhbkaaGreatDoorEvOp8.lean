/-
  Own work. Operations on abstract values, part 8: calls through interfaces.
-/
import Derived.Test.YtbnphbijdnhbkaaGreatDoorEvOp7
namespace Go.Ev
variable [GTab]
set_option linter.unusedSectionVars false
noncomputable section

/-- The receiver of a method that stands in the type's own row, without a path. -/
def recvA (P : Program) (H : Heap) (t : TypeId) (v : AVal) (byPtr : Bool) : Option AVal :=
  match P.underlying t, byPtr with
  | some (.pointer _), true => some v
  | some (.pointer elem), false => aLoad P elem H v
  | some d, false => match d with
    | .pointer _ => none
    | _ => some v
  | _, _ => none

def methodA (P : Program) (t : TypeId) (name : String) : Option (FuncId × Bool) :=
  match P.info? t with
  | some i => match i.methods.find? (·.name == name) with
    | some m => match m.path.isEmpty, m.func with
      | true, some p => some p
      | _, _ => none
    | none => none
  | none => none

def opInvoke (P : Program) (r : Operand) (name : String) (args : Array Operand) (ρ : Operand → AVal) (H : Heap) (_nx : Nat) : Option ARes :=
  match ρ r with
  | .iface t v => match methodA P t name with
    | some (f, byPtr) => match hasBody P f, recvA P H t v byPtr with
      | true, some u => some (.call f (u :: args.toList.map ρ))
      | _, _ => none
    | none => none
  | _ => none

theorem recvA_ok {P : Program} {σ : Sg} {H : Heap} {nx : Nat} {w : World} {t : TypeId} {v u : AVal} {v' : Value} {byPtr : Bool} {name : String} (hr : Rel σ H nx w) (hv : Den σ v v') (h : recvA P H t v byPtr = some u) :
    ∃ u', Den σ u u' ∧ (receiverAt t (.val v') byPtr (some name)).run P w = .ok u' w := by
  unfold recvA at h
  split at h
  · rename_i hu
    cases h
    exact ⟨v', hv, by simp [receiverAt, run_underlying' hu, Place.get]⟩
  · rename_i elem hu
    obtain ⟨x', dx, hx⟩ := aLoad_ok (P := P) hr hv h
    refine ⟨x', dx, ?_⟩
    have isptr : ∃ ad, v' = .pointer (some ad) := by
      unfold aLoad at h
      split at h <;> first | (cases h; done) | skip
      all_goals
        cases hv
        exact ⟨_, rfl⟩
    obtain ⟨ad, rfl⟩ := isptr
    have hx' : (loadVar elem ad).run P w = .ok x' w := by simpa [Instr.loadAt, Instr.sureAddr] using hx
    have hck : (Builtin.ssaWrapNilChk_ #[t] t #[.pointer (some ad), strVal "", strVal name]).run P w = .ok (.pointer (some ad)) w := rfl
    have hgt : (Place.get t (.val (.pointer (some ad)))).run P w = .ok (.pointer (some ad)) w := rfl
    have had : (asAddr (.pointer (some ad))).run P w = .ok ad w := rfl
    simp only [receiverAt, Sem.run_bind, run_underlying' hu, Result.andThen_ok, hgt, hck, had, hx']
  · rename_i d hne hu
    split at h <;> first | (cases h; done) | skip
    rename_i hd
    cases h
    refine ⟨v', hv, ?_⟩
    simp only [receiverAt, Sem.run_bind, run_underlying' hu, Result.andThen_ok]
    cases d <;> first | exact absurd rfl (hd _) | rfl
  · cases h

theorem opInvoke_ok {P : Program} {o : Oper} {c : Call} {rcv : Operand} {name : String} {ρ : Operand → AVal} {H : Heap} {nx : Nat} {r : ARes} (ho : o.op = .call c) (hc : c.callee = .invoke rcv name)
    (h : opInvoke P rcv name c.args ρ H nx = some r) : OpOK P o ρ H nx r := by
  unfold opInvoke at h
  split at h <;> first | (cases h; done) | skip
  rename_i t v hx
  split at h <;> first | (cases h; done) | skip
  rename_i f byPtr hm
  split at h <;> first | (cases h; done) | skip
  rename_i u hb hu
  cases h
  unfold methodA at hm
  split at hm <;> first | (cases hm; done) | skip
  rename_i i hi
  split at hm <;> first | (cases hm; done) | skip
  rename_i m hf
  split at hm <;> first | (cases hm; done) | skip
  rename_i p hp hfun
  cases hm
  intro σ w ρ' hr hd
  have dx := hd rcv
  rw [hx] at dx
  cases e : ρ' rcv <;> rw [e] at dx <;> cases dx
  rename_i v' dv
  obtain ⟨u', du, hrun⟩ := recvA_ok (P := P) (name := (name.splitOn ".").getLastD name) hr dv hu
  refine ⟨u' :: c.args.toList.map ρ', .cons du (denL_map hd _), ?_⟩
  have hpath : m.path.toList = [] := by
    have : m.path = #[] := by simpa using hp
    rw [this]
  have hmeth : ∀ n, (method (n + 1) t v' name).run P w = .ok (f, u') w := by
    intro n
    unfold method
    simp only [Sem.run_bind, run_typeInfo' hi, Result.andThen_ok, hf, hpath, follow, Sem.run_pure, hfun, hp, if_true, hrun]
  have hfuel : ∃ n, P.types.size + Made.depth = n + 1 := ⟨P.types.size + Made.depth - 1, by
    have : 0 < Made.depth := by decide
    omega⟩
  obtain ⟨n, hn⟩ := hfuel
  have hcm : (callMethod (.iface t v') name (c.args.map ρ')).run P w = .ok (.enter f (#[u'] ++ c.args.map ρ')) w := by
    simp only [callMethod, Sem.run_bind, program, Sem.run, Result.andThen_ok, hn, hmeth, run_callFunc hb]
  have hex : ((#[Value.iface t v'] ++ c.args.map ρ').extract 1 (#[Value.iface t v'] ++ c.args.map ρ').size) = c.args.map ρ' := by
    apply Array.ext'
    simp
    rw [List.take_of_length_le (by simp)]
  simp only [execOp, ho, resolve, hc, e, Sem.run_bind, Sem.run_pure, Result.andThen_ok, invoke]
  have hg : (#[Value.iface t v'] ++ c.args.map ρ')[0]? = some (.iface t v') := by rw [Array.getElem?_append_left (by simp)]; rfl
  simp only [hg, hex, hcm]
  congr 2
  simp

end
end Go.Ev
