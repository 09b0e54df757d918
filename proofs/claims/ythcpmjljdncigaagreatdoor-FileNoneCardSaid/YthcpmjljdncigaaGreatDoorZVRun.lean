/- How the interpreter runs a function's code. Definitions alone. -/
import Derived.Test.YthcpmjljdncigaaGreatDoorZVOps
namespace Go.V

/-- A program; how functions are called (0: on the caller's heap; 1: by value; 2: by value, with an answer that leads to no memory); what functions without a text of ours answer. -/
structure Cfg where
  P : Program
  vm : FuncId → Nat
  ext : FuncId → Option (List AV → Option AV)
  /-- Which temporaries are kept behind a region, and at a loop's head (by the first region in it); none: all. -/
  keep : Func → Nat → Option (List Nat) := fun _ _ => none
  keepL : Func → Nat → Option (List Nat) := fun _ _ => none

/-- An environment told by a list. -/
def E : List (Nat × AV) → Env
  | [], _ => .undef
  | (d, v) :: l, t => if t = d then v else E l t

/-- Some temporaries are kept, the others forgotten. -/
def restr (o : Option (List Nat)) (env : Env) : Env :=
  match o with
  | none => env
  | some l => E (l.map fun t => (t, env t))

def firstReg : Code → Option Nat
  | .region id _ _ => some id
  | .seq a _ => firstReg a
  | .block _ c => firstReg c
  | .loop c => firstReg c
  | _ => none

def firstRegK : List Item → Option Nat
  | .code c :: _ => firstReg c
  | .inLoop c :: _ => firstReg c
  | .inBlock _ :: K => firstRegK K
  | _ => none

def keepAt (C : Cfg) (fn : Func) (o : Option Nat) : Option (List Nat) := o.bind (C.keepL fn)

def initEnv (args : List AV) : Env := fun i => args.getD i (.tup [])

mutual
/-- A value that leads to no memory. -/
def AV.scalar : AV → Bool
  | .bool _ | .int .. | .str _ | .nilp | .nils | .nilm | .nilf | .nili => true
  | .agg cs => scalars cs
  | .tup cs => scalars cs
  | _ => false
def scalars : List AV → Bool
  | [] => true
  | v :: vs => v.scalar && scalars vs
end

/-- Whether an operation is wanted; none: that isn't known. -/
def guardV (ops : Array Oper) (env : Env) (g : Option (Nat × Bool)) : Option Bool :=
  match g with
  | none => some true
  | some (j, want) => match (ops[j]?).bind (·.dst) with
    | none => some false
    | some d => match env d with
      | .bool b => some (b == want)
      | .undef => none
      | _ => some false

/-- What is called: a function, or the next round of a loop over a function. -/
inductive Tgt where
  | fn (g : FuncId)
  | yld (i : Nat)

abbrev CallF := Tgt → List AV → Heap → Option (AV × Heap)

/-- The function that is called, and its arguments. -/
def targetV (env : Env) (c : Call) : Option (Tgt × List AV) :=
  match c.callee with
  | .value f => match evalV env f with
    | .fn g first caps => some (.fn g, first ++ c.args.toList.map (evalV env) ++ caps)
    | .yld i => some (.yld i, c.args.toList.map (evalV env))
    | _ => none
  | _ => none

def stepV (P : Program) (cf : CallF) (o : Op) (env : Env) (H : Heap) : Option (AV × Heap) :=
  match o with
  | .call c => match targetV env c with
    | some (g, args) => cf g args H
    | none => opV P (evalV env) o H
  | o => opV P (evalV env) o H

def opsRun (P : Program) (cf : CallF) (ops : Array Oper) : List Nat → Env → Heap → Option (Env × Heap)
  | [], env, H => some (env, H)
  | i :: rest, env, H => match ops[i]? with
    | none => opsRun P cf ops rest env H
    | some o => match guardV ops env o.guard with
      | none => none
      | some false => opsRun P cf ops rest (env.put o.dst (.tup [])) H
      | some true => match stepV P cf o.op env H with
        | none => none
        | some (v, H') => opsRun P cf ops rest (env.put o.dst v) H'

def resV (P : Program) (env : Env) (H : Heap) : ResultVar → Option AV
  | .tmp t => some (env t)
  | .cell a t => if known P t = true then loadV P t (env a) H else none

def ressV (P : Program) (env : Env) (H : Heap) : List ResultVar → Option (List AV)
  | [] => some []
  | r :: rs => match resV P env H r with
    | none => none
    | some v => match ressV P env H rs with
      | none => none
      | some vs => some (v :: vs)

def finishV (P : Program) (fn : Func) (env : Env) (H : Heap) : Option (AV × Heap) :=
  match ressV P env H fn.results.toList with
  | some [v] => some (v, H)
  | some vs => some (.tup vs, H)
  | none => none

/-- A call that was put off: 'delete' of a map; the mark of a loop over a function. -/
inductive DV where
  | del (t : TypeId) (m k : AV)
  | coll (i : Nat)

/-- In which round of a loop's; the function; what is to do; the temporaries; the calls that were put off; the heap. -/
abbrev RunF := Option Nat → Func → List Item → Env → List DV → Heap → Option (AV × Heap)

def deferV (P : Program) : List DV → Heap → Option Heap
  | [], H => some H
  | .del t m k :: ds, H => match deleteV P t m k H with
    | some H' => deferV P ds H'
    | none => none
  | .coll i :: ds, H => match H[i]? with
    | some .defs => deferV P ds (H.set i .dead)
    | _ => none

/-- An activation ends: off its end, by return, or (a round) by a jump out of the loop. -/
def leaveV (P : Program) (ro : Option Nat) (fn : Func) (jump : Option Code) (env : Env) (D : List DV) (H : Heap) : Option (AV × Heap) :=
  match ro with
  | none => match deferV P D H with
    | some H' => finishV P fn env H'
    | none => none
  | some i => match D, H[i]? with
    | [], some (.loop e ps a b _ _) => some (.bool jump.isNone, H.set i (.loop e ps a b (if jump.isNone then .ready else .done) jump))
    | _, _ => none

/-- A region whose last operation puts off a 'delete'. -/
def lastDefer (ops : Array Oper) (draw : Bool) : Option (TypeId × Operand × Operand) :=
  match draw, ops.back? with
  | false, some o => match o.dst, o.guard, o.op with
    | none, none, .defer c => match c.callee, c.args.toList, c.argTypes[0]? with
      | .builtin .delete, [m, k], some t => some (t, m, k)
      | _, _, _ => none
    | _, _, _ => none
  | _, _ => none

def putAll (env : Env) : List Tmp → List AV → Env
  | p :: ps, v :: vs => putAll (env.upd p v) ps vs
  | _, _ => env

/-- A call by value: the arguments told by what they hold, the callee on a heap of its own. -/
def valCall (pure : Bool) (rec : RunF) (fn : Func) (c : Code) (args : List AV) (H : Heap) : Option (AV × Heap) :=
  match freezes H args with
  | none => none
  | some (args', H') => match rec none fn [.code c] (initEnv args') [] [] with
    | none => none
    | some (r, H1) => match freeze H1 r with
      | none => none
      | some (r', _) => if pure then (if r'.scalar then some (r', H) else none) else some (r', H')

def callV (C : Cfg) (rec : RunF) : CallF := fun tg args H =>
  match tg with
  | .yld i => (match H[i]? with
    | some (.loop env ps asg body _ _) => if args.length = ps.size then rec (some i) default [.code asg, .beginRound, .code body] (putAll env ps.toList args) [] H else none
    | _ => none)
  | .fn g =>
  match C.ext g with
  | some e => match freezes H args with
    | none => none
    | some (args', _) => match e args' with
      | none => none
      | some r => if r.scalar then some (r, H) else none
  | none => match C.P.funcs[g]? with
    | none => none
    | some fn => match fn.body with
      | none => none
      | some c => if C.vm g = 0 then rec none fn [.code c] (initEnv args) [] H else valCall (C.vm g == 2) rec fn c args H

/-- The slots that an operation looks at. -/
def slotsOf (ops : Array Oper) (o : Oper) : List Tmp :=
  (o.op.operands.toList.filterMap fun | .tmp t => some t | _ => none) ++
  (match o.guard with
   | some (g, _) => ((ops[g]?).bind (·.dst)).toList
   | none => [])

/-- What an operation does to memory: 0 nothing, 1 it looks, 3 anything. -/
def opClass (C : Cfg) : Op → Nat
  | .move _ | .assign _ | .pick .. | .build .. | .nilCheck _ | .binOp .. | .unOp .. | .makeFunc .. | .fieldAddr .. | .field .. | .index .. | .extract .. => 0
  | .load .. | .indexAddr .. | .slice .. => 1
  | .convert _ d _ => (match C.P.underlying d with
    | some (.int _) => 0
    | _ => 3)
  | .call { callee := .builtin b, .. } => (match b with
    | .len | .min | .max | .cap => 1
    | _ => 3)
  | .call { callee := .value (.func g), .. } => if (C.ext g).isSome || C.vm g == 2 then 1 else 3
  | _ => 3

/-- Two operations that may change places. -/
def mayswap (C : Cfg) (ops : Array Oper) (x y : Oper) : Bool :=
  (match x.dst with
   | some d => !(slotsOf ops y).contains d && y.dst != some d
   | none => true) &&
  (match y.dst with
   | some d => !(slotsOf ops x).contains d
   | none => true) &&
  (opClass C x.op == 0 || opClass C y.op == 0 || opClass C x.op + opClass C y.op == 2)

/-- What must stand ahead of each operation, as bits. -/
def aheadOf (ops : List Oper) : List Nat :=
  ops.foldl (init := []) fun acc o => acc ++ [o.after.toList.foldl (fun s e => if Region.binds .any e then s ||| 2 ^ e.on ||| acc.getD e.on 0 else s) 0]

/-- Whether the order of a region's operations may be drawn: none of them leans on it. -/
def drawOk (C : Cfg) (ops : Array Oper) : Bool :=
  let ah := aheadOf ops.toList
  (List.range ops.size).all fun j =>
    ((ops.getD j default).after.all fun e => !Region.binds .any e || decide (e.on < j)) &&
    (List.range j).all fun i => if (ah.getD j 0).testBit i then (ops.getD j default).after.any fun e => Region.binds .any e && (e.on == i || (decide (i < e.on) && (ah.getD e.on 0).testBit i))
      else mayswap C ops (ops.getD i default) (ops.getD j default)

mutual
/-- Whether two values are the same. -/
def AV.eqv : AV → AV → Bool
  | .undef, .undef | .nilp, .nilp | .nils, .nils | .nilm, .nilm | .nilf, .nilf | .nili, .nili => true
  | .bool a, .bool b => a == b
  | .int k a, .int j b => decide (k = j) && decide (a = b)
  | .str a, .str b => a.data.toList == b.data.toList
  | .sl a, .sl b => eqvs a b
  | .ref i j k, .ref i' j' k' => i == i' && j == j' && k == k'
  | .ptr i j, .ptr i' j' => i == i' && j == j'
  | .eptr i j k, .eptr i' j' k' => i == i' && j == j' && k == k'
  | .raddr a, .raddr b => a.eqv b
  | .map i, .map j => i == j
  | .yld i, .yld j => i == j
  | .fn f a b, .fn f' a' b' => f == f' && eqvs a a' && eqvs b b'
  | .agg a, .agg b => eqvs a b
  | .tup a, .tup b => eqvs a b
  | _, _ => false
def eqvs : List AV → List AV → Bool
  | [], [] => true
  | x :: xs, y :: ys => x.eqv y && eqvs xs ys
  | _, _ => false
end

def isAlloc (o : Oper) : Bool :=
  match o.op with
  | .alloc _ => true
  | _ => false

def rankA (ops : Array Oper) (i : Nat) : Nat := ((ops.toList.take i).filter isAlloc).length

/-- An operation of a region that draws; 'sl': from where on its allocs have their places. -/
def actD (C : Cfg) (rec : RunF) (ops : Array Oper) (sl : Option Nat) (i : Nat) (env : Env) (H : Heap) : Option (AV × Heap) :=
  match ops[i]? with
  | none => none
  | some o => match guardV ops env o.guard with
    | none => none
    | some false => some (.tup [], H)
    | some true => match sl, o.op with
      | some base, .alloc t => (match H[base + rankA ops i]? with
        | some .hole => (zeroP C.P t).map fun z => (.ptr (base + rankA ops i) 0, H.set (base + rankA ops i) (.box z))
        | _ => none)
      | _, op => stepV C.P (callV C rec) op env H

def dstOf (ops : Array Oper) (i : Nat) : Option Nat := (ops[i]?).bind (·.dst)

/-- An operation as it came up: which one; the temporaries, its value, the heap ahead of it, and behind it. -/
structure Ann where
  i : Nat
  e : Env
  v : AV
  pre : Heap
  post : Heap

def traceD (C : Cfg) (rec : RunF) (ops : Array Oper) (sl : Option Nat) : List Nat → Env → Heap → Option (List Ann × Env × Heap)
  | [], env, H => some ([], env, H)
  | i :: l, env, H => match actD C rec ops sl i env H with
    | none => none
    | some (v, H') => match traceD C rec ops sl l (env.put (dstOf ops i) v) H' with
      | none => none
      | some (as, fin) => some (⟨i, env, v, H, H'⟩ :: as, fin)

/-- 0 nothing, 1 it looks, 2 an alloc that has its place, 3 anything. -/
def dclass (C : Cfg) (sl : Option Nat) (o : Oper) : Nat := if sl.isSome && isAlloc o then 2 else opClass C o.op

def clD (C : Cfg) (ops : Array Oper) (sl : Option Nat) (i : Nat) : Nat := dclass C sl (ops.getD i default)

def apartD (ops : Array Oper) (x y : Oper) : Bool :=
  (match x.dst with
   | some d => !(slotsOf ops y).contains d && y.dst != some d
   | none => true) &&
  (match y.dst with
   | some d => !(slotsOf ops x).contains d
   | none => true)

def sameAt (C : Cfg) (rec : RunF) (ops : Array Oper) (sl : Option Nat) (a : Ann) (H : Heap) : Bool :=
  match actD C rec ops sl a.i a.e H with
  | some (v, _) => v.eqv a.v
  | none => false

def simpleRead : Op → Bool
  | .load .. | .indexAddr .. => true
  | _ => false

/-- Whether two operations, the first ahead of the second by number, may come up in either order. -/
def pairD (C : Cfg) (rec : RunF) (ops : Array Oper) (sl : Option Nat) (Hs : Heap) (x y : Ann) : Bool :=
  apartD ops (ops.getD x.i default) (ops.getD y.i default) &&
  (match clD C ops sl x.i, clD C ops sl y.i with
  | 0, _ | _, 0 | 1, 1 | 2, 2 => true
  | 3, 1 => sameAt C rec ops sl y x.pre && sameAt C rec ops sl y x.post
  | 1, 3 => sameAt C rec ops sl x y.pre && sameAt C rec ops sl x y.post
  | 2, 1 => simpleRead (ops.getD y.i default).op && sameAt C rec ops sl y Hs
  | 1, 2 => simpleRead (ops.getD x.i default).op && sameAt C rec ops sl x Hs
  | _, _ => false)

def noAllocAfter (C : Cfg) (ops : Array Oper) (sl : Option Nat) : List Nat → Bool
  | [] => true
  | i :: l => (clD C ops sl i != 3 || l.all fun j => clD C ops sl j != 2) && noAllocAfter C ops sl l

def checkD (C : Cfg) (rec : RunF) (ops : Array Oper) (sl : Option Nat) (Hs : Heap) (as : List Ann) : Bool :=
  let ah := aheadOf ops.toList
  noAllocAfter C ops sl (List.range ops.size) &&
  as.all fun y =>
    ((ops.getD y.i default).after.all fun e => !Region.binds .any e || decide (e.on < y.i)) &&
    as.all fun x => !decide (x.i < y.i) || (if (ah.getD y.i 0).testBit x.i then (ops.getD y.i default).after.any fun e => Region.binds .any e && (e.on == x.i || (decide (x.i < e.on) && (ah.getD e.on 0).testBit x.i))
      else pairD C rec ops sl Hs x y)

/-- A region that draws, in its canonical order, if all orders come to the same. -/
def drawRun (C : Cfg) (rec : RunF) (ops : Array Oper) (env : Env) (H : Heap) : Option (Env × Heap) :=
  let na := (ops.toList.filter isAlloc).length
  let sl := if 2 ≤ na then some H.length else none
  let Hs := if 2 ≤ na then H ++ List.replicate na .hole else H
  match traceD C rec ops sl (List.range ops.size) env Hs with
  | none => none
  | some (as, fin) => if checkD C rec ops sl Hs as = true then some fin else none

def run (C : Cfg) : Nat → RunF
  | 0, _, _, _, _, _, _ => none
  | k + 1, ro, fn, K, env, D, H => match K with
    | [] => leaveV C.P ro fn none env D H
    | .code .ret :: _ => leaveV C.P ro fn (some .ret) env D H
    | .code .skip :: K => run C k ro fn K (restr (keepAt C fn (firstRegK K)) env) D H
    | .inBlock _ :: K => run C k ro fn K env D H
    | .code (.seq a b) :: K => run C k ro fn (.code a :: .code b :: K) env D H
    | .code (.cond c a b) :: K => match evalV env c with
      | .bool t => run C k ro fn (.code (if t then a else b) :: K) env D H
      | _ => none
    | .code (.block id c) :: K => run C k ro fn (.code c :: .inBlock id :: K) env D H
    | .code (.loop c) :: K => run C k ro fn (.code c :: .inLoop c :: K) (restr (keepAt C fn (firstReg c)) env) D H
    | .inLoop c :: K => run C k ro fn (.code c :: .inLoop c :: K) (restr (keepAt C fn (firstReg c)) env) D H
    | .code (.exit id) :: K => match exitTo id K with
      | some K' => run C k ro fn K' (restr (keepAt C fn (firstRegK K')) env) D H
      | none => match ro with
        | some _ => leaveV C.P ro fn (some (.exit id)) env D H
        | none => none
    | .code (.region id ops draw) :: K => match lastDefer ops draw with
      | some (t, x, y) => match ro, opsRun C.P (callV C (run C k)) ops (List.range (ops.size - 1)) env H with
        | none, some (env', H') => run C k ro fn K env' (.del t (evalV env' x) (evalV env' y) :: D) H'
        | _, _ => none
      | none => if (!draw || drawOk C ops) = true then
        (match opsRun C.P (callV C (run C k)) ops (List.range ops.size) env H with
        | some (env', H') => run C k ro fn K (restr (C.keep fn id) env') D H'
        | none => none) else
        (match drawRun C (run C k) ops env H with
        | some (env', H') => run C k ro fn K (restr (C.keep fn id) env') D H'
        | none => none)
    | .code (.rangeFunc f ps asg body) :: K => match ro, evalV env f with
      | none, .fn g first caps => match C.P.funcs[g]? with
        | none => none
        | some gf => match gf.body with
          | none => none
          | some gc => match run C k none gf [.code gc] (initEnv (first ++ [.yld (H.length + 1)] ++ caps)) [] (H ++ [.defs, .loop env ps asg body .ready none]) with
            | none => none
            | some (_, H1) => match H1[H.length + 1]? with
              | some (.loop _ _ _ _ .busy _) => none
              | some (.loop _ _ _ _ _ pend) => run C k none fn ((pend.map Item.code).toList ++ K) env (.coll H.length :: D) (H1.set (H.length + 1) .dead)
              | _ => none
      | _, _ => none
    | .beginRound :: K => match ro with
      | some i => match H[i]? with
        | some (.loop e ps a b .ready pend) => run C k ro fn K env D (H.set i (.loop e ps a b .busy pend))
        | _ => none
      | none => none
    | _ => none

end Go.V
