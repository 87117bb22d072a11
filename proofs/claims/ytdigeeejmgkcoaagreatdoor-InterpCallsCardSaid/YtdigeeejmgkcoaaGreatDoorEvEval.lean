/-
  Own work. The evaluator: operations, regions, code, calls. It answers true where all is known and comes out as asked.
-/
import Derived.Test.YtdigeeejmgkcoaaGreatDoorEvOp7
namespace Go.Ev
variable [GTab]
set_option linter.unusedSectionVars false
noncomputable section

/-! ### One operation -/
def opCall (P : Program) (c : Call) (ρ : Operand → AVal) (H : Heap) (nx : Nat) : Option ARes :=
  match c.callee with
  | .value f => opCallV P f c.args ρ H nx
  | .builtin .append => match c.argTypes.toList, c.args.toList with
    | [sT, xT], [s, x] => match P.underlying sT, P.underlying xT with
      | some (.slice elem), some d => match srcD d, P.info? elem with
        | true, some e => match aSrc e.size H (ρ x) with
          | some (_, l) => match allCell l with
            | true => aAppend P elem H nx (ρ s) (fun size => aSrc size H (ρ x))
            | false => none
          | none => none
        | false, some e => match isInt d, aZeros P elem e.size (ρ x) with
          | true, some (_, l) => match allCell l with
            | true => aAppend P elem H nx (ρ s) (fun size => aZeros P elem size (ρ x))
            | false => none
          | _, _ => none
        | _, _ => none
      | _, _ => none
    | _, _ => none
  | .builtin .copy => opCopy P c.argTypes c.args ρ H nx
  | .builtin b => opBuiltin0 P b c.argTypes c.args ρ H nx
  | .invoke r name => opInvoke P r name c.args ρ H nx

def opFail (_ρ : Operand → AVal) (_H : Heap) (_nx : Nat) : Option ARes := none

def opMadeOf (P : Program) (op : Op) (ρ : Operand → AVal) (H : Heap) (nx : Nat) : Option ARes :=
  match made P op ρ with
  | some m => opMade m H nx
  | none => none

def opDeferC (P : Program) (c : Call) (ρ : Operand → AVal) (H : Heap) (nx : Nat) : Option ARes :=
  match c.callee with
  | .value f => opDefer P f c.args ρ H nx
  | _ => none

def aop (P : Program) (o : Oper) : (Operand → AVal) → Heap → Nat → Option ARes :=
  match o.op with
  | .move x => opMove x
  | .assign x => opMove x
  | .pick c a b => opPick c a b
  | .load t a => opLoad P t a
  | .store t a x => opStore P t a x
  | .nilCheck x => opNilCheck x
  | .binOp op t x y _ => opBin P op t x y
  | .unOp op _ x => opUn op x
  | .convert s d x => opConv P s d x
  | .makeInterface t x => opMakeInterface P t x
  | .makeFunc fn a b => opMakeFunc fn a b
  | .slice t x lo hi mx => opSlice P t x lo hi mx
  | .fieldAddr s x f => opFieldAddr P s x f
  | .field t x f => opField P t x f
  | .indexAddr t x i => opIndexAddr P t x i
  | .index t x i => opIndex P t x i
  | .typeAssert x _ a ok => opAssert P x a ok
  | .extract t i => opExtract t i
  | .build t ps => opBuild P t ps
  | .alloc t => opMadeOf P (.alloc t)
  | .box t x => opMadeOf P (.box t x)
  | .buildSlice t n ps => opMadeOf P (.buildSlice t n ps)
  | .makeSlice t l c => opMadeOf P (.makeSlice t l c)
  | .call c => opCall P c
  | .defer c => opDeferC P c
  | .panic x => opPanic x
  | .lookup t x i ok => opLookup P t x i ok
  | .makeMap _ r => opMakeMap r
  | .mapUpdate t m k x => opMapUpdate P t m k x
  | .insert t m k x => opMapUpdate P t m k x
  | _ => opFail

/-! ### Temporaries -/
abbrev Env := T2 AVal

def aev (env : Env) (x : Operand) : AVal :=
  Operand.rec (motive := fun _ => Env → AVal) (fun t env => Bool.rec .und (get2 t env) (Nat.ble t 255)) (fun v _ => ofVal v) (fun g _ => .gptr g 0) (fun f _ => .func (.func f) [] []) x env

def put (d : Option Nat) (v : AVal) (env : Env) : Env := Option.rec (motive := fun _ => AVal → Env → Env) (fun _ env => env) (fun d v env => set2 d v env) d v env

/-- A result's place is among the temporaries. -/
def dstOK (nt : Nat) (d : Option Nat) : Bool := Option.rec (motive := fun _ => Bool) true (fun d => Nat.ble (Nat.succ d) nt) d

/-! ### Ways out -/
inductive AMode where
  | returning
  | panicking (l : List (AVal × Bool))

inductive AExit where
  | normal
  | exit (id : Nat)
  | ret
  | pan (l : List (AVal × Bool))

inductive AEnd where
  | ret (v : AVal)
  | pan (l : List (AVal × Bool))

/-- What is kept while code runs: deferred calls; the frame below, if this one is a deferred call. -/
abbrev Dfs := List (FuncId × List AVal)
abbrev Kont := AExit → Env → Heap → Nat → Dfs → Option AMode → Bool
abbrev KEnd := AEnd → Heap → Nat → Bool
abbrev CallK := FuncId → List AVal → Heap → Nat → KEnd → Bool

/-- Is the operation wanted? -/
def wantedA (ops : Array Oper) (g : Option (Nat × Bool)) (env : Env) : Option Bool :=
  match g with
  | none => some true
  | some (j, want) => match (ops[j]?).bind (·.dst) with
    | some t => match Nat.ble t 255 with
      | true => match get2 t env with
        | .bool b => some (Bool.rec (bnot want) want b)
        | .tuple [] => some false
        | _ => none
      | false => none
    | none => some false

/-- What an operation came to is taken on. -/
def takeK (call : CallK) (d : Option Nat) (r : ARes) (env : Env) (H : Heap) (nx : Nat) (dfs : Dfs) (rc : Option AMode) (k : Env → Heap → Nat → Dfs → Option AMode → Bool) (K : Kont) : Bool :=
  match r with
  | .val v H' nx' => k (put d v env) H' nx' dfs rc
  | .call f args => call f args H nx fun e H' nx' => match e with
    | .ret v => k (put d v env) H' nx' dfs rc
    | .pan l => K (.pan l) env H' nx' dfs rc
  | .dfr f args => k (put d (.tuple []) env) H nx ((f, args) :: dfs) rc
  | .pan v => K (.pan [(v, false)]) env H nx dfs rc
  | .rcv => match rc with
    | some (.panicking ((v, false) :: older)) => k (put d v env) H nx dfs (some (.panicking ((v, true) :: older)))
    | some .returning => k (put d .nilIface env) H nx dfs rc
    | _ => false

def opK (P : Program) (call : CallK) (nt : Nat) (ops : Array Oper) (o : Oper) (env : Env) (H : Heap) (nx : Nat) (dfs : Dfs) (rc : Option AMode) (k : Env → Heap → Nat → Dfs → Option AMode → Bool) (K : Kont) : Bool :=
  match dstOK nt o.dst, wantedA ops o.guard env with
  | true, some true => match aop P o (aev env) H nx with
    | some r => takeK call o.dst r env H nx dfs rc k K
    | none => false
  | true, some false => k (put o.dst (.tuple []) env) H nx dfs rc
  | _, _ => false

/-- Operations in the order of the text. -/
def opsK (P : Program) (call : CallK) (nt : Nat) (ops : Array Oper) (K : Kont) (l : List Oper) : Env → Heap → Nat → Dfs → Option AMode → Bool :=
  List.rec (motive := fun _ => Env → Heap → Nat → Dfs → Option AMode → Bool) (fun env H nx dfs rc => K .normal env H nx dfs rc)
    (fun o _ ih env H nx dfs rc => opK P call nt ops o env H nx dfs rc ih K) l

/-! ### Regions whose order is open -/
/-- 0: it touches nothing but its result (or it reads); 1: it makes a block; 2: it acts. -/
def cls : Op → Nat
  | .alloc _ | .box _ _ | .buildSlice _ _ _ | .makeSlice _ _ _ => 1
  | .store _ _ _ | .defer _ | .panic _ | .mapUpdate _ _ _ _ | .insert _ _ _ _ | .mapEntry _ _ _ | .entryStore _ _ _ _ | .next _ _ | .go _ | .send _ _ | .recv _ _ _ | .select _ _ | .ready _ | .range _ _ | .makeMap _ _ | .makeChan _ _ => 2
  | .call c => match c.callee with
    | .builtin .len | .builtin .max | .builtin .min => 0
    | _ => 2
  | _ => 0

/-- It reads memory. -/
def impure : Op → Bool
  | .load _ _ | .slice _ _ _ _ _ | .convert _ _ _ | .lookup _ _ _ _ => true
  | _ => false

/-- What an operation's edges put ahead of it, as bits. -/
def maskOf (as : List Nat) (es : List Edge) : Nat :=
  List.rec (motive := fun _ => Nat) 0 (fun e _ ih => Bool.rec ih (Nat.lor (Nat.lor (Nat.shiftLeft 1 e.on) (as.getD e.on 0)) ih) (Region.binds .any e)) es

/-- What stands ahead of each operation. -/
def aheadL : List Oper → List Nat → List Nat
  | [], acc => acc
  | o :: l, acc => aheadL l (acc ++ [maskOf acc o.after.toList])

def ahead (ops : Array Oper) : List Nat := aheadL ops.toList []

/-- The acting operations, in order. -/
def acts (l : List Oper) (i : Nat) : List Nat :=
  match l with
  | [] => []
  | o :: l => match Nat.beq (cls o.op) 2 with
    | true => i :: acts l (i + 1)
    | false => acts l (i + 1)

def bit (m j : Nat) : Bool := Nat.beq (Nat.mod (Nat.shiftRight m j) 2) 1

/-- How many of the acting ones stand ahead of an operation. -/
def level (m : Nat) (es : List Nat) : Nat := List.rec (motive := fun _ => Nat) 0 (fun e _ ih => Bool.rec ih (Nat.succ ih) (bit m e)) es

/-- The operations of a level, that do not act. -/
def floats (l : List Oper) (as : List Nat) (es : List Nat) (k i : Nat) : List Nat :=
  match l, as with
  | o :: l, m :: as => match Nat.beq (cls o.op) 2, Nat.beq (level m es) k with
    | false, true => i :: floats l as es k (i + 1)
    | _, _ => floats l as es k (i + 1)
  | _, _ => []

/-- Those up to a level, that only read, and may still be to come behind an acting operation. -/
def again (l : List Oper) (as : List Nat) (es : List Nat) (k me i : Nat) : List Nat :=
  match l, as with
  | o :: l, m :: as => match impure o.op, Nat.ble (level m es) k, bit me i with
    | true, true, false => i :: again l as es k me (i + 1)
    | _, _, _ => again l as es k me (i + 1)
  | _, _ => []

/-- The stages: an acting operation, what comes then, what is looked at again behind it. -/
def stages (l : List Oper) (as : List Nat) (all es : List Nat) (k : Nat) : List (Nat × List Nat × List Nat) :=
  match es with
  | [] => []
  | e :: es => (e, floats l as all k 0, again l as all k (as.getD e 0) 0) :: stages l as all es (k + 1)

/-- The temporaries that an operation looks at. -/
def looks (ops : Array Oper) (o : Oper) : List Nat :=
  (o.op.operands.toList.filterMap fun | .tmp t => some t | _ => none) ++ (match o.guard with | some (g, _) => ((ops[g]?).bind (·.dst)).toList | none => [])

/-- The operations that lay their result at t. -/
def owners (l : List Oper) (t i : Nat) : List Nat :=
  match l with
  | [] => []
  | o :: l => match o.dst with
    | some d => match Nat.beq d t with
      | true => i :: owners l t (i + 1)
      | false => owners l t (i + 1)
    | none => owners l t (i + 1)

def allL {α : Type} (p : α → Bool) (l : List α) : Bool := List.rec (motive := fun _ => Bool) true (fun x _ ih => Bool.rec false ih (p x)) l

/-- One operation of the region is of a form that is known. -/
def opOK (nt : Nat) (ops : Array Oper) (l : List Oper) (as : List Nat) (i : Nat) (o : Oper) : Bool :=
  match dstOK nt o.dst, Nat.beq (as.getD i 0) (maskOf as o.after.toList) with
  | true, true => match allL (fun e => Bool.rec true (Nat.ble (Nat.succ e.on) i) (Region.binds .any e)) o.after.toList, allL (fun t => allL (fun j => bit (as.getD i 0) j) (owners l t 0)) (looks ops o) with
    | true, true => match (match o.dst with | some t => allL (fun j => Nat.beq j i) (owners l t 0) | none => true) with
      | true => match o.guard with
        | some (g, _) => match (ops[g]?).bind (·.dst) with
          | some _ => true
          | none => false
        | none => true
      | _ => false
    | _, _ => false
  | _, _ => false

def opsOK (nt : Nat) (ops : Array Oper) (l : List Oper) (as : List Nat) : List Oper → Nat → Bool
  | [], _ => true
  | o :: r, i => match opOK nt ops l as i o with
    | true => opsOK nt ops l as r (i + 1)
    | false => false

def memN (i : Nat) (l : List Nat) : Bool := List.rec (motive := fun _ => Bool) false (fun j _ ih => Bool.rec ih true (Nat.beq j i)) l

/-- The operation is none of these, and lays nothing where they look. -/
def freshOf (ops : Array Oper) (past : List Nat) (i : Nat) (o : Oper) : Bool :=
  allL (fun p => match Nat.beq p i with
    | true => false
    | false => match o.dst, ops[p]? with
      | some d, some q => allL (fun t => bnot (Nat.beq t d)) (looks ops q)
      | none, some _ => true
      | _, none => false) past

def chkF (ops : Array Oper) : List Nat → List Nat → Option (List Nat)
  | [], past => some past
  | i :: l, past => match ops[i]? with
    | some o => match Nat.beq (cls o.op) 2, freshOf ops past i o with
      | false, true => chkF ops l (i :: past)
      | _, _ => none
    | none => none

def chkA (ops : Array Oper) (m : Nat) (A past : List Nat) : Bool :=
  allL (fun i => match ops[i]? with
    | some o => match impure o.op with
      | true => match memN i A with
        | true => true
        | false => bit m i
      | false => true
    | none => false) past

def chkS (ops : Array Oper) (as : List Nat) : List (Nat × List Nat × List Nat) → Option Nat → List Nat → Bool
  | [], _, _ => true
  | (e, F, A) :: rest, prev, past => match ops[e]?, (match prev with | some p => bit (as.getD e 0) p | none => true) with
    | some o, true => match freshOf ops past e o, allL (fun i => bit (as.getD i 0) e) F with
      | true, true => match chkF ops F past with
        | some past' => match chkA ops (as.getD e 0) A past' with
          | true => chkS ops as rest (some e) past'
          | false => false
        | none => false
      | _, _ => false
    | _, _ => false

def named (st : List (Nat × List Nat × List Nat)) : List Nat :=
  match st with
  | [] => []
  | (e, F, _) :: rest => e :: (F ++ named rest)

/-- The region is of a form that is known, and the stages fit it. -/
def plan0 (ops : Array Oper) : List Nat := floats ops.toList (ahead ops) (acts ops.toList 0) 0 0
def planA (ops : Array Oper) : List Nat := again ops.toList (ahead ops) (acts ops.toList 0) 0 0 0
def planS (ops : Array Oper) : List (Nat × List Nat × List Nat) := stages ops.toList (ahead ops) (acts ops.toList 0) (acts ops.toList 0) 1

def planOK (nt : Nat) (ops : Array Oper) : Bool :=
  match Nat.ble nt 256, opsOK nt ops ops.toList (ahead ops) ops.toList 0, chkF ops (plan0 ops) [] with
  | true, true, some past => match chkA ops 0 (planA ops) past, chkS ops (ahead ops) (planS ops) none past, allL (fun i => memN i (plan0 ops ++ named (planS ops))) (List.range ops.size) with
    | true, true, true => true
    | _, _, _ => false
  | _, _, _ => false

/-- Are two values the same? -/
def beqA : Nat → AVal → AVal → Bool
  | 0, _, _ => false
  | n + 1, a, b =>
    let beqL : List AVal → List AVal → Bool := fun l m => List.rec (motive := fun _ => List AVal → Bool) (fun m => List.rec (motive := fun _ => Bool) true (fun _ _ _ => false) m)
      (fun a _ ih m => List.rec (motive := fun _ => Bool) false (fun b t _ => Bool.rec false (ih t) (beqA n a b)) m) l m
    match a, b with
    | .und, .und => true
    | .bool x, .bool y => Bool.rec (bnot y) y x
    | .int k x, .int j y => match decide (k = j) with | true => ieq x y | false => false
    | .str x y, .str z w => match Nat.beq x z with | true => Nat.beq y w | false => false
    | .ptr x y, .ptr z w => match Nat.beq x z with | true => Nat.beq y w | false => false
    | .nilPtr, .nilPtr => true
    | .slice x y z u f, .slice x' y' z' u' f' => match Nat.beq x x', Nat.beq y y', Nat.beq z z', Nat.beq u u', (Bool.rec (bnot f') f' f : Bool) with
      | true, true, true, true, true => true
      | _, _, _, _, _ => false
    | .nilSlice, .nilSlice => true
    | .map x, .map y => Nat.beq x y
    | .nilMap, .nilMap => true
    | .func (.func f) l m, .func (.func g) l' m' => match Nat.beq f g, beqL l l' with | true, true => beqL m m' | _, _ => false
    | .nilFunc, .nilFunc => true
    | .iface t v, .iface u w => match Nat.beq t u with | true => beqA n v w | false => false
    | .nilIface, .nilIface => true
    | .agg l, .agg m => beqL l m
    | .tuple l, .tuple m => beqL l m
    | .anyInt k x y, .anyInt j z w => match decide (k = j), Nat.beq x z with | true, true => Nat.beq y w | _, _ => false
    | .anyBool, .anyBool => true
    | .gptr x y, .gptr z w => match Nat.beq x z with | true => Nat.beq y w | false => false
    | .anyStr x, .anyStr y => Nat.beq x y
    | _, _ => false

/-- One that does not act: its result, and the heap with the block that it makes, at the number kept for it. -/
def floatK (P : Program) (ops : Array Oper) (res : Nat) (o : Oper) (i : Nat) (env : Env) (H : Heap) (nx : Nat) (k : Env → Heap → Bool) : Bool :=
  match wantedA ops o.guard env with
  | some true => match Nat.beq (cls o.op) 1 with
    | true => match made P o.op (aev env) with
      | some m => match Nat.ble m.n 4096 with
        | true => forceN (Nat.add res i) fun b => k (put o.dst (m.v b) env) (set5 b (some (.cells m.n (CT.ofL m.n m.l) [] false)) H)
        | false => false
      | none => false
    | false => match aop P o (aev env) H nx with
      | some (.val v _ _) => k (put o.dst v env) H
      | _ => false
  | some false => k (put o.dst (.tuple []) env) H
  | none => false

def floatsK (P : Program) (ops : Array Oper) (res : Nat) (nx : Nat) (k : Env → Heap → Bool) (l : List Nat) : Env → Heap → Bool :=
  List.rec (motive := fun _ => Env → Heap → Bool) k (fun i _ ih env H => match ops[i]? with
    | some o => floatK P ops res o i env H nx ih
    | none => false) l

/-- What was read is read again, and is the same. -/
def again1 (P : Program) (ops : Array Oper) (env : Env) (H : Heap) (nx : Nat) (o : Oper) : Bool :=
  match wantedA ops o.guard env with
  | some true => match aop P o (aev env) H nx with
    | some (.val v _ _) => match o.dst with
      | some d => beqA 9 v (get2 d env)
      | none => true
    | _ => false
  | some false => match o.dst with
    | some d => match get2 d env with
      | .tuple [] => true
      | _ => false
    | none => true
  | none => false

def againK (P : Program) (ops : Array Oper) (env : Env) (H : Heap) (nx : Nat) (l : List Nat) : Bool :=
  allL (fun i => match ops[i]? with
    | some o => again1 P ops env H nx o
    | none => false) l

def actK (P : Program) (call : CallK) (ops : Array Oper) (o : Oper) (env : Env) (H : Heap) (nx : Nat) (dfs : Dfs) (rc : Option AMode) (k : Env → Heap → Nat → Bool) (K : Kont) (env0 : Env) : Bool :=
  match wantedA ops o.guard env with
  | some true => match aop P o (aev env) H nx with
    | some (.val v H' nx') => k (put o.dst v env) H' nx'
    | some (.call f args) => call f args H nx fun e H' nx' => match e with
      | .ret v => k (put o.dst v env) H' nx'
      | .pan l => K (.pan l) env0 H' nx' dfs rc
    | some (.pan v) => K (.pan [(v, false)]) env0 H nx dfs rc
    | _ => false
  | some false => k (put o.dst (.tuple []) env) H nx
  | none => false

def stagesK (P : Program) (call : CallK) (ops : Array Oper) (res : Nat) (dfs : Dfs) (rc : Option AMode) (K : Kont) (env0 : Env) (l : List (Nat × List Nat × List Nat)) : Env → Heap → Nat → Bool :=
  List.rec (motive := fun _ => Env → Heap → Nat → Bool) (fun env H nx => K .normal env H nx dfs rc)
    (fun s _ ih env H nx => match ops[s.1]? with
      | some o => actK P call ops o env H nx dfs rc (fun env' H' nx' => floatsK P ops res nx' (fun env'' H'' => match againK P ops env'' H'' nx' s.2.2 with
          | true => ih env'' H'' nx'
          | false => false) s.2.1 env' H') K env0
      | none => false) l

/-- All results of the region are not known. -/
def blank (l : List Oper) (env : Env) : Env := List.rec (motive := fun _ => Env → Env) (fun env => env) (fun o _ ih env => ih (put o.dst .und env)) l env

def drawnK (P : Program) (call : CallK) (nt : Nat) (ops : Array Oper) (env : Env) (H : Heap) (nx : Nat) (dfs : Dfs) (rc : Option AMode) (K : Kont) : Bool :=
  match planOK nt ops, Nat.ble (Nat.add nx ops.size) 1048576 with
  | true, true => forceN (Nat.add nx ops.size) fun nx' =>
      floatsK P ops nx nx' (fun env' H' => match againK P ops env' H' nx' (planA ops) with
          | true => stagesK P call ops nx dfs rc K (blank ops.toList env) (planS ops) env' H' nx'
          | false => false)
        (plan0 ops) env H
  | _, _ => false

/-! ### Code -/
def condK (b : AVal) (yes no : Bool) : Bool := match b with
  | .bool true => yes
  | .bool false => no
  | _ => false

def evK (P : Program) (call : CallK) (nt : Nat) (fuel : Nat) : Code → Env → Heap → Nat → Dfs → Option AMode → Kont → Bool :=
  Nat.rec (motive := fun _ => Code → Env → Heap → Nat → Dfs → Option AMode → Kont → Bool) (fun _ _ _ _ _ _ _ => false)
    (fun _ ih c => match c with
      | .skip => fun env H nx dfs rc K => K .normal env H nx dfs rc
      | .region _ ops false => fun env H nx dfs rc K => opsK P call nt ops K ops.toList env H nx dfs rc
      | .region _ ops true => fun env H nx dfs rc K => drawnK P call nt ops env H nx dfs rc K
      | .seq a b => fun env H nx dfs rc K => ih a env H nx dfs rc fun e env H nx dfs rc => match e with
        | .normal => ih b env H nx dfs rc K
        | e => K e env H nx dfs rc
      | .cond c a b => fun env H nx dfs rc K => condK (aev env c) (ih a env H nx dfs rc K) (ih b env H nx dfs rc K)
      | .block id a => fun env H nx dfs rc K => ih a env H nx dfs rc fun e env H nx dfs rc => match e with
        | .exit j => match Nat.beq j id with
          | true => K .normal env H nx dfs rc
          | false => K (.exit j) env H nx dfs rc
        | e => K e env H nx dfs rc
      | .loop a => fun env H nx dfs rc K => match rc with
        | none => ih a env H nx dfs none fun e env H nx dfs rc => match e with
          | .normal => ih (.loop a) env H nx dfs rc K
          | e => K e env H nx dfs rc
        | some _ => false
      | .exit id => fun env H nx dfs rc K => K (.exit id) env H nx dfs rc
      | .ret => fun env H nx dfs rc K => K .ret env H nx dfs rc
      | _ => fun _ _ _ _ _ _ => false) fuel

/-! ### Calls -/
def enterEnv (args : List AVal) : Nat → Env → Env := List.rec (motive := fun _ => Nat → Env → Env) (fun _ env => env) (fun v _ ih i env => ih (Nat.succ i) (set2 i v env)) args

def resultsA (P : Program) (env : Env) (H : Heap) : List ResultVar → Option (List AVal)
  | [] => some []
  | .tmp t :: l => match Nat.ble t 255, resultsA P env H l with
    | true, some vs => some (get2 t env :: vs)
    | _, _ => none
  | .cell a t :: l => match Nat.ble a 255, resultsA P env H l with
    | true, some vs => match aLoad P t H (get2 a env) with
      | some v => some (v :: vs)
      | none => none
    | _, _ => none

def oneOf (vs : List AVal) : AVal := match vs with
  | [v] => v
  | vs => .tuple vs

def settleA : AMode → AMode
  | .panicking ((_, true) :: _) => .returning
  | m => m

def raisedA (m : AMode) (l : List (AVal × Bool)) : AMode := match m with
  | .panicking old => .panicking (l ++ old)
  | .returning => .panicking l

/-- The deferred calls are made; then the function is left. -/
def leaveK (P : Program) (calld : FuncId → List AVal → AMode → Heap → Nat → (AEnd → AMode → Heap → Nat → Bool) → Bool) (rs : List ResultVar) (env : Env) (dfs : Dfs) : AMode → Heap → Nat → KEnd → Bool :=
  List.rec (motive := fun _ => AMode → Heap → Nat → KEnd → Bool)
    (fun m H nx K => match m with
      | .returning => match resultsA P env H rs with
        | some vs => K (.ret (oneOf vs)) H nx
        | none => false
      | .panicking l => K (.pan l) H nx)
    (fun d _ ih m H nx K => calld d.1 d.2 m H nx fun e m' H' nx' => match e with
      | .ret _ => ih (settleA m') H' nx' K
      | .pan l => ih (raisedA m' l) H' nx' K) dfs

def bodyK (P : Program) (calld : FuncId → List AVal → AMode → Heap → Nat → (AEnd → AMode → Heap → Nat → Bool) → Bool) (rs : List ResultVar) (K : KEnd) : Kont := fun e env H nx dfs _ =>
  match e with
  | .normal => leaveK P calld rs env dfs .returning H nx K
  | .ret => leaveK P calld rs env dfs .returning H nx K
  | .pan l => leaveK P calld rs env dfs (.panicking l) H nx K
  | .exit _ => false

def loopFuel : Nat := 1000000000

/-- Calls of all kinds, so deep at most: a pair: plain calls, deferred calls. -/
def callsK (P : Program) (n : Nat) : CallK × (FuncId → List AVal → AMode → Heap → Nat → (AEnd → AMode → Heap → Nat → Bool) → Bool) :=
  Nat.rec (motive := fun _ => CallK × (FuncId → List AVal → AMode → Heap → Nat → (AEnd → AMode → Heap → Nat → Bool) → Bool)) (fun _ _ _ _ _ => false, fun _ _ _ _ _ _ => false)
    (fun _ ih => (
      fun f args H nx K => match P.funcs[f]? with
        | some fn => match fn.body, Nat.ble fn.ntmps 256, Nat.ble args.length fn.ntmps with
          | some c, true, true => evK P ih.1 fn.ntmps loopFuel c (enterEnv args 0 (all2 (.tuple []))) H nx [] none (bodyK P ih.2 fn.results.toList K)
          | _, _, _ => false
        | none => false,
      fun f args m H nx K => match P.funcs[f]? with
        | some fn => match fn.body, Nat.ble fn.ntmps 256, Nat.ble args.length fn.ntmps, hasBody P f with
          | some c, true, true, true => evK P ih.1 fn.ntmps loopFuel c (enterEnv args 0 (all2 (.tuple []))) H nx [] (some m) fun e env H nx dfs rc => match e, dfs, rc with
            | .normal, [], some m' => match resultsA P env H fn.results.toList with
              | some vs => K (.ret (oneOf vs)) m' H nx
              | none => false
            | .ret, [], some m' => match resultsA P env H fn.results.toList with
              | some vs => K (.ret (oneOf vs)) m' H nx
              | none => false
            | .pan l, [], some m' => K (.pan l) m' H nx
            | _, _, _ => false
          | _, _, _, _ => false
        | none => false)) n

/-- A call from nothing, that returns this value. -/
def closedRun (P : Program) (f : FuncId) (depth : Nat) (ok : AVal → Bool) : Bool :=
  (callsK P depth).1 f [] (all5 none) 0 fun e _ _ => match e with
    | .ret v => ok v
    | _ => false

def isTrue : AVal → Bool
  | .bool true => true
  | _ => false

end
end Go.Ev
