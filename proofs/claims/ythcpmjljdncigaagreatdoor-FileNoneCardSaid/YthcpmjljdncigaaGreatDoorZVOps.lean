/- What an operation of the model's code does in the interpreter. Definitions alone. -/
import Derived.Test.YthcpmjljdncigaaGreatDoorZVBase
namespace Go.V

/-- A value of the model without addresses. -/
def ofAtom : Value → Option AV
  | .bool b => some (.bool b)
  | .int k n => some (.int k n)
  | .string s => some (.str s)
  | .pointer none => some .nilp
  | .slice none 0 0 => some .nils
  | .map none => some .nilm
  | .nilFunc => some .nilf
  | .nilIface => some .nili
  | _ => none

def ofAtoms : List Value → Option (List AV)
  | [] => some []
  | v :: vs => match ofAtom v, ofAtoms vs with
    | some x, some xs => some (x :: xs)
    | _, _ => none

def evalV (env : Env) : Operand → AV
  | .tmp t => env t
  | .const v => (ofAtom v).getD .undef
  | .func f => .fn f [] []
  | .global _ => .undef

def isAggP (P : Program) (t : TypeId) : Bool :=
  match P.underlying t with
  | some (.struct _) | some (.array ..) => true
  | _ => false

/-- One cell of a store: no struct, and not unknown. -/
def AV.one : AV → Bool
  | .agg _ | .tup _ | .undef => false
  | _ => true

def zeroP (P : Program) (t : TypeId) : Option (List AV) :=
  match (P.info? t).bind (·.zero) with
  | some z => ofAtoms z.cells.toList
  | none => none

/-- Not unknown. -/
def AV.kn : AV → Bool
  | .undef => false
  | _ => true

/-- A value out of its cells. -/
def mkV (agg : Bool) (cs : List AV) : Option AV :=
  if agg then some (.agg cs) else
  match cs with
  | [v] => if v.one then some v else none
  | _ => none

abbrev Heap := List Ob

/-- The elements of a slice's array. -/
def rowOf (H : Heap) (i : Nat) : Option (Bool × Nat × List AV) :=
  match H[i]? with
  | some (.row cl sz es) => some (cl, sz, es)
  | some (.ro sz es) => some (true, sz, es)
  | _ => none

mutual
/-- A value told by what it holds; the arrays that it leads to are not written from then on. -/
def freeze (H : Heap) : AV → Option (AV × Heap)
  | .ref i off len =>
    match H[i]? with
    | some (.row true sz es) => if off + len ≤ es.length then some (.sl ((es.drop off).take len), H.set i (.ro sz es)) else none
    | some (.ro _ es) => if off + len ≤ es.length then some (.sl ((es.drop off).take len), H) else none
    | _ => none
  | .agg cs => match freezes H cs with
    | some (cs, H) => some (.agg cs, H)
    | none => none
  | .tup cs => match freezes H cs with
    | some (cs, H) => some (.tup cs, H)
    | none => none
  | .bool b => some (.bool b, H)
  | .int k n => some (.int k n, H)
  | .str s => some (.str s, H)
  | .nilp => some (.nilp, H)
  | .nils => some (.nils, H)
  | .nilm => some (.nilm, H)
  | .nilf => some (.nilf, H)
  | .nili => some (.nili, H)
  | .sl es => some (.sl es, H)
  | .raddr v => some (.raddr v, H)
  | .undef | .ptr .. | .eptr .. | .map _ | .yld _ | .fn .. => none
def freezes (H : Heap) : List AV → Option (List AV × Heap)
  | [] => some ([], H)
  | v :: vs => match freeze H v with
    | some (v, H) => match freezes H vs with
      | some (vs, H) => some (v :: vs, H)
      | none => none
    | none => none
end

def loadCs (P : Program) (t : TypeId) (cs : List AV) (off : Nat) : Option AV :=
  if isAggP P t then (if off + P.cellsOf t ≤ cs.length then some (.agg ((cs.drop off).take (P.cellsOf t))) else none) else cs[off]?

def loadV (P : Program) (t : TypeId) (a : AV) (H : Heap) : Option AV :=
  match a with
  | .ptr i off => match H[i]? with
    | some (.box cs) => loadCs P t cs off
    | _ => none
  | .eptr i idx off => match rowOf H i with
    | some (_, _, es) => match es[idx]? with
      | some e => loadCs P t e.cells off
      | none => none
    | none => none
  | .raddr v => if isAggP P t then (match v with
      | .agg cs => if cs.length = P.cellsOf t then some v else none
      | _ => none) else (if v.one then some v else none)
  | _ => none

def splice {α : Type} (cs : List α) (off : Nat) (xs : List α) : List α := cs.take off ++ xs ++ cs.drop (off + xs.length)

def storeV (P : Program) (t : TypeId) (a x : AV) (H : Heap) : Option Heap :=
  if x.cells.length = P.cellsOf t ∧ x.cells.all AV.one = true then
  match a with
  | .ptr i off => match H[i]? with
    | some (.box cs) => if off + x.cells.length ≤ cs.length then some (H.set i (.box (splice cs off x.cells))) else none
    | _ => none
  | .eptr i idx off => match H[i]? with
    | some (.row false sz es) => match es[idx]? with
      | some e => if off + x.cells.length ≤ e.cells.length then
          (match mkV (e matches .agg _) (splice e.cells off x.cells) with
          | some e' => some (H.set i (.row false sz (es.set idx e')))
          | none => none) else none
      | none => none
    | some (.row true _ _) => match freeze H x with
      | some (x', H') => match H'[i]? with
        | some (.row true sz es) => match es[idx]? with
          | some e => if off + x'.cells.length ≤ e.cells.length then
              (match mkV (e matches .agg _) (splice e.cells off x'.cells) with
              | some e' => if x'.cells.length = P.cellsOf t ∧ x'.cells.all AV.one = true then some (H'.set i (.row true sz (es.set idx e'))) else none
              | none => none) else none
          | none => none
        | _ => none
      | none => none
    | _ => none
  | _ => none
  else none

def intBin (op : BinOp) (k : IntKind) (x y : Int) : Option AV :=
  match op with
  | .add => some (.int k (k.wrap (x + y)))
  | .sub => some (.int k (k.wrap (x - y)))
  | .mul => some (.int k (k.wrap (x * y)))
  | .quo => if y = 0 then none else some (.int k (k.wrap (x.tdiv y)))
  | .rem => if y = 0 then none else some (.int k (x.tmod y))
  | .and => some (.int k (k.wrap (BitVec.ofInt k.bits x &&& BitVec.ofInt k.bits y).toNat))
  | .or => some (.int k (k.wrap (BitVec.ofInt k.bits x ||| BitVec.ofInt k.bits y).toNat))
  | .xor => some (.int k (k.wrap (BitVec.ofInt k.bits x ^^^ BitVec.ofInt k.bits y).toNat))
  | .andNot => some (.int k (k.wrap (BitVec.ofInt k.bits x &&& ~~~(BitVec.ofInt k.bits y)).toNat))
  | .eql => some (.bool (x == y))
  | .neq => some (.bool (x != y))
  | .lss => some (.bool (x < y))
  | .leq => some (.bool (x ≤ y))
  | .gtr => some (.bool (x > y))
  | .geq => some (.bool (x ≥ y))
  | .shl | .shr => none

def shiftV (op : BinOp) (k : IntKind) (x y : Int) : Option AV :=
  if y < 0 then none else
  match op with
  | .shl => some (.int k (k.wrap (x * 2 ^ (min y.toNat k.bits))))
  | .shr => some (.int k (x.fdiv (2 ^ (min y.toNat k.bits))))
  | _ => none

def strBin (op : BinOp) (x y : ByteArray) : Option AV :=
  match op with
  | .add => if ((x.size + y.size : Nat) : Int) > IntKind.i64.max then none else some (.str (x ++ y))
  | .eql => some (.bool (x.data.toList == y.data.toList))
  | .neq => some (.bool !(x.data.toList == y.data.toList))
  | .lss => some (.bool (Op.bytesLess x.data.toList y.data.toList))
  | .leq => some (.bool (Op.bytesLess x.data.toList y.data.toList || x.data.toList == y.data.toList))
  | .gtr => some (.bool !(Op.bytesLess x.data.toList y.data.toList || x.data.toList == y.data.toList))
  | .geq => some (.bool !(Op.bytesLess x.data.toList y.data.toList))
  | _ => none

/-- Whether two values are the same, of those kinds that are asked. -/
def eqAtom (d : TypeDesc) (x y : AV) : Option Bool :=
  match d, x, y with
  | .bool, .bool a, .bool b => some (a == b)
  | .pointer _, .nilp, .nilp => some true
  | .pointer _, .nilp, .ptr .. | .pointer _, .nilp, .eptr .. | .pointer _, .nilp, .raddr _ => some false
  | .pointer _, .ptr .., .nilp | .pointer _, .eptr .., .nilp | .pointer _, .raddr _, .nilp => some false
  | .slice _, .nils, .nils => some true
  | .slice _, .nils, .sl _ | .slice _, .nils, .ref .. => some false
  | .slice _, .sl _, .nils | .slice _, .ref .., .nils => some false
  | _, _, _ => none

def allInts : List AV → List AV → Option Bool
  | [], [] => some true
  | .int k a :: xs, .int k' b :: ys => if k = k' then (match allInts xs ys with
      | some r => some (a == b && r)
      | none => none) else none
  | _, _ => none

def eqP (P : Program) (t : TypeId) (x y : AV) : Option Bool :=
  match P.underlying t with
  | some d => eqAtom d x y
  | none => none

/-- Arrays of integers. -/
def eqAgg (P : Program) (t : TypeId) (xs ys : List AV) : Option Bool :=
  match P.underlying t with
  | some (.array n e) => match P.underlying e with
    | some (.int _) => if P.cellsOf e = 1 ∧ xs.length = n ∧ ys.length = n ∧ P.eqGuardType P.depth t = false then allInts xs ys else none
    | _ => none
  | _ => none

def binV (P : Program) (op : BinOp) (t : TypeId) (x y : AV) : Option AV :=
  match x, y with
  | .int k a, .int k' b => match op with
    | .shl | .shr => shiftV op k a b
    | _ => if k = k' then intBin op k a b else none
  | .str a, .str b => strBin op a b
  | .agg xs, .agg ys => match op with
    | .eql => (eqAgg P t xs ys).map .bool
    | .neq => (eqAgg P t xs ys).map fun b => .bool !b
    | _ => none
  | x, y => match op with
    | .eql => (eqP P t x y).map .bool
    | .neq => (eqP P t x y).map fun b => .bool !b
    | _ => none

def unV (op : UnOp) (x : AV) : Option AV :=
  match op, x with
  | .neg, .int k n => some (.int k (k.wrap (0 - n)))
  | .xor, .int k n => intBin .xor k (if k.signed then -1 else k.max) n
  | .not, .bool b => some (.bool !b)
  | _, _ => none

def fieldOf (P : Program) (t : TypeId) (f : Nat) : Option Field :=
  match P.underlying t with
  | some (.struct fs) => fs[f]?
  | _ => none

def partV (P : Program) (t : TypeId) (cs : List AV) (off : Nat) : Option AV :=
  if isAggP P t then (if off + P.cellsOf t ≤ cs.length then some (.agg ((cs.drop off).take (P.cellsOf t))) else none) else cs[off]?

def known (P : Program) (t : TypeId) : Bool := (P.underlying t).isSome

def raddrPart (P : Program) (t : TypeId) (cs : List AV) (off : Nat) : Option AV :=
  match partV P t cs off with
  | some x => if (isAggP P t || x.one) = true then some (.raddr x) else none
  | none => none

def fieldAddrV (P : Program) (t : TypeId) (a : AV) (f : Nat) : Option AV :=
  match fieldOf P t f with
  | some f => if P.cellsOf f.type ≠ 0 ∧ known P f.type = true then (match a with
    | .ptr i off => some (.ptr i (off + f.offset))
    | .eptr i idx off => some (.eptr i idx (off + f.offset))
    | .raddr (.agg cs) => raddrPart P f.type cs f.offset
    | _ => none) else none
  | none => none

def indexAddrV (P : Program) (t : TypeId) (x ix : AV) (H : Heap) : Option AV :=
  match ix with
  | .int _ i => match P.underlying t, x with
    | some (.slice e), .sl es => if 0 ≤ i ∧ i < es.length ∧ known P e = true then (match es[i.toNat]? with
        | some v => if v.cells.length = P.cellsOf e then some (.raddr v) else none
        | none => none) else none
    | some (.slice e), .ref r off len => if 0 ≤ i ∧ i < len ∧ known P e = true then (match rowOf H r with
        | some (_, sz, _) => if sz = P.cellsOf e then some (.eptr r (off + i.toNat) 0) else none
        | none => none) else none
    | some (.array n e), .ptr b off => if 0 ≤ i ∧ i < n ∧ known P e = true then some (.ptr b (off + i.toNat * P.cellsOf e)) else none
    | some (.array n e), .eptr b idx off => if 0 ≤ i ∧ i < n ∧ known P e = true then some (.eptr b idx (off + i.toNat * P.cellsOf e)) else none
    | some (.array n e), .raddr (.agg cs) => if 0 ≤ i ∧ i < n ∧ known P e = true then raddrPart P e cs (i.toNat * P.cellsOf e) else none
    | _, _ => none
  | _ => none

def indexV (P : Program) (t : TypeId) (x ix : AV) : Option AV :=
  match ix with
  | .int _ i => match P.underlying t, x with
    | some .string, .str s => if 0 ≤ i then (match s[i.toNat]? with
        | some b => some (.int .u8 b.toNat)
        | none => none) else none
    | some (.array n e), .agg cs => if 0 ≤ i ∧ i < n ∧ known P e = true then partV P e cs (i.toNat * P.cellsOf e) else none
    | _, _ => none
  | _ => none

def boundV (x : Option AV) (dflt : Nat) (top : Nat) : Option Nat :=
  match x with
  | none => some dflt
  | some (.int _ i) => if 0 ≤ i ∧ i ≤ top then some i.toNat else none
  | _ => none

/-- Whether each element has so many cells. -/
def sizedV (sz : Nat) (es : List AV) : Bool := es.all fun e => e.cells.length == sz

def boundsV (n : Nat) (lo hi mx : Option AV) : Option (Nat × Nat) :=
  match (if mx.isSome then (if hi.isSome then (boundV mx n n).bind fun m => boundV hi n m else none) else boundV hi n n) with
  | none => none
  | some h => match boundV lo 0 h with
    | none => none
    | some l => some (l, h)

def sliceV (P : Program) (t : TypeId) (x : AV) (lo hi mx : Option AV) (H : Heap) : Option AV :=
  match P.underlying t, x with
  | some .string, .str s => match boundsV s.size lo hi mx with
    | some (l, h) => if mx.isSome then none else some (.str (s.extract l h))
    | none => none
  | some (.slice e), .sl es => match boundsV es.length lo hi mx with
    | some (l, h) => if sizedV (P.cellsOf e) es = true ∧ known P e = true then some (.sl ((es.drop l).take (h - l))) else none
    | none => none
  | some (.slice e), .ref i off len => match boundsV len lo hi mx with
    | some (l, h) => if known P e = true then (match rowOf H i with
          | some (_, sz, _) => if sz = P.cellsOf e then some (.ref i (off + l) (h - l)) else none
          | none => none) else none
    | none => none
  | some (.slice e), .nils => match boundsV 0 lo hi mx with
    | some _ => if known P e = true then some .nils else none
    | none => none
  | _, _ => none

def bytesAV (s : ByteArray) : List AV := s.data.toList.map fun b => .int .u8 b.toNat

/-- The elements that a slice, or a string, has. -/
def elems (H : Heap) : AV → Option (Bool × List AV)
  | .nils => some (true, [])
  | .sl es => some (true, es)
  | .ref i off len => match rowOf H i with
    | some (cl, _, es) => if off + len ≤ es.length then some (cl, (es.drop off).take len) else none
    | none => none
  | .str s => some (true, bytesAV s)
  | _ => none

def roomV : Nat := 2 ^ 46

/-- Whether the zero value of a type has as many cells as the type. -/
def zsizeP (P : Program) (e : TypeId) : Bool :=
  match (P.info? e).bind (·.zero) with
  | some z => z.cells.size == P.cellsOf e
  | none => false

/-- Of a string whose bytes are appended: an element is a cell. -/
def strOk (P : Program) (e : TypeId) : AV → Bool
  | .str _ => P.cellsOf e == 1
  | _ => true

/-- What an append asks of its element type. -/
def appendType (P : Program) (e : TypeId) : Bool := known P e && zsizeP P e && decide (0 < P.bytesOf e) && decide (0 < P.cellsOf e)

def appendZeros (P : Program) (e : TypeId) (base x : AV) (H : Heap) : Option (AV × Heap) :=
  match base, x, zeroP P e with
  | .nils, .int _ n, some z => match mkV (isAggP P e) z with
    | some v => if 0 < n ∧ n * P.bytesOf e ≤ roomV ∧ v.cells.length = P.cellsOf e then some (.ref H.length 0 n.toNat, H ++ [.row true (P.cellsOf e) (List.replicate n.toNat v)]) else none
    | none => none
  | _, _, _ => none

def appendElems (P : Program) (e : TypeId) (cl : Bool) (xs : List AV) (base : AV) (H : Heap) : Option (AV × Heap) :=
  match base with
  | .nils => if xs = [] then some (.nils, H) else
      if xs.length * P.bytesOf e ≤ roomV then some (.ref H.length 0 xs.length, H ++ [.row cl (P.cellsOf e) xs]) else none
  | .ref i off len => match H[i]? with
    | some (.row cl' sz es) => if off + len ≤ es.length ∧ sz = P.cellsOf e ∧ (len + xs.length) * P.bytesOf e ≤ roomV ∧ (xs.flatMap AV.cells).all AV.one = true then
        some (.ref H.length 0 (len + xs.length), H.set i .dead ++ [.row (cl && cl') sz ((es.drop off).take len ++ xs)]) else none
    | _ => none
  | _ => none

def appendV (P : Program) (t : TypeId) (src : Option TypeId) (base x : AV) (H : Heap) : Option (AV × Heap) :=
  match P.underlying t with
  | some (.slice e) => if appendType P e = true ∧ (src.all fun s => known P s) = true then
      (match src.bind P.underlying with
      | some (.int _) => appendZeros P e base x H
      | _ => match elems H x with
        | some (cl, xs) => if sizedV (P.cellsOf e) xs = true ∧ strOk P e x = true then appendElems P e cl xs base H else none
        | none => none) else none
  | _ => none

def fillV (es : List AV) : List (Nat × AV) → Option (List AV)
  | [] => some es
  | (i, v) :: rest => if i < es.length then fillV (es.set i v) rest else none

def buildSliceV (P : Program) (t : TypeId) (n : Nat) (parts : List (Nat × AV)) (H : Heap) : Option (AV × Heap) :=
  match P.underlying t with
  | some (.slice e) => match zeroP P e with
    | some z => match mkV (isAggP P e) z with
      | some z => if n ≤ 2 ^ 16 ∧ n * P.cellsOf e ≤ 2 ^ 24 ∧ z.cells.length = P.cellsOf e ∧ known P e = true then
          match freezes H (parts.map (·.2)) with
          | some (vs, H') => if sizedV (P.cellsOf e) vs = true ∧ vs.all AV.kn = true then
              (match fillV (List.replicate n z) ((parts.map (·.1)).zip vs) with
              | some es => some (.ref H'.length 0 n, H' ++ [.row true (P.cellsOf e) es])
              | none => none) else none
          | none => if sizedV (P.cellsOf e) (parts.map (·.2)) = true ∧ (parts.map (·.2)).all AV.kn = true then
              (match fillV (List.replicate n z) parts with
              | some es => some (.ref H.length 0 n, H ++ [.row false (P.cellsOf e) es])
              | none => none) else none
          else none
      | none => none
    | none => none
  | _ => none

def placesP (P : Program) (fs : List Field) : List (Nat × Nat) := fs.map fun f => (f.offset, P.cellsOf f.type)

def fillCs (place : Nat → Option (Nat × Nat)) (cells : List AV) : List (Nat × AV) → Option (List AV)
  | [] => some cells
  | (i, v) :: rest => match place i with
    | none => none
    | some (off, size) => if v.cells.length = size ∧ off + size ≤ cells.length ∧ v.cells.all AV.one = true then fillCs place (splice cells off v.cells) rest else none

def buildV (P : Program) (t : TypeId) (parts : List (Nat × AV)) : Option AV :=
  match zeroP P t with
  | none => none
  | some z => match P.underlying t with
    | some (.struct fs) => if fs.toList.all (fun f => known P f.type) = true then (fillCs ((placesP P fs.toList)[·]?) z parts).map .agg else none
    | some (.array _ e) => if known P e = true then (fillCs (fun i => some (i * P.cellsOf e, P.cellsOf e)) z parts).map .agg else none
    | _ => none

def toBytes : List AV → Option (List UInt8)
  | [] => some []
  | .int .u8 n :: vs => if 0 ≤ n ∧ n < 256 then (match toBytes vs with
    | some bs => some (UInt8.ofNat n.toNat :: bs)
    | none => none) else none
  | _ => none

def isByteP (P : Program) (e : TypeId) : Bool :=
  match P.underlying e with
  | some (.int .u8) => true
  | _ => false

def convertV (P : Program) (s d : TypeId) (x : AV) (H : Heap) : Option (AV × Heap) :=
  match P.underlying s, P.underlying d, x with
  | some _, some (.int k), .int _ n => some (.int k (k.wrap n), H)
  | some _, some .string, .str b => some (.str b, H)
  | some .string, some (.slice e), .str b => if isByteP P e = true then some (.ref H.length 0 b.size, H ++ [.row true 1 (bytesAV b)]) else none
  | some (.slice e), some .string, x => if isByteP P e = true then
      (match x with
      | .str _ => none
      | x => match elems H x with
        | some (_, es) => if known P e = true then (toBytes es).map fun b => (.str ⟨b.toArray⟩, H) else none
        | none => none) else none
  | _, _, _ => none

def makeSliceV (P : Program) (t : TypeId) (l c : AV) (H : Heap) : Option (AV × Heap) :=
  match P.underlying t, l, c with
  | some (.slice e), .int _ l, .int _ c => match zeroP P e with
    | some z => match mkV (isAggP P e) z with
      | some z => if 0 ≤ l ∧ l ≤ c ∧ P.bytesOf e * c ≤ roomV ∧ c ≤ roomV ∧ z.cells.length = P.cellsOf e then
          some (.ref H.length 0 l.toNat, H ++ [.row true (P.cellsOf e) (List.replicate l.toNat z)]) else none
      | none => none
    | none => none
  | _, _, _ => none

def lenV (P : Program) (t : TypeId) (x : AV) (H : Heap) : Option AV :=
  match P.underlying t, x with
  | some .string, .str s => some (.int .i64 s.size)
  | some (.array n _), _ => some (.int .i64 n)
  | some (.slice _), .nils => some (.int .i64 0)
  | some (.slice _), .sl es => some (.int .i64 es.length)
  | some (.slice _), .ref _ _ n => some (.int .i64 n)
  | some (.map ..), .nilm => some (.int .i64 0)
  | some (.map ..), .map i => match H[i]? with
    | some (.map es) => some (.int .i64 es.length)
    | _ => none
  | _, _ => none

def minMaxV (mx : Bool) : AV → List AV → Option AV
  | .int k x, [] => some (.int k x)
  | .int k x, .int _ y :: r => minMaxV mx (.int k (if mx then (if y > x then y else x) else (if y < x then y else x))) r
  | _, _ => none

def sameKeyV (d : TypeDesc) (x y : AV) : Option Bool :=
  match d, x, y with
  | .int _, .int k a, .int k' b => if k = k' then some (a == b) else none
  | .string, .str a, .str b => some (a.data.toList == b.data.toList)
  | .bool, .bool a, .bool b => some (a == b)
  | _, _, _ => none

def keyFits (d : TypeDesc) (k : AV) : Bool :=
  match d, k with
  | .int _, .int .. | .string, .str _ | .bool, .bool _ => true
  | _, _ => false

def findV (d : TypeDesc) (k : AV) : List (AV × AV) → Nat → Option (Option (Nat × AV))
  | [], _ => some none
  | e :: es, i => match sameKeyV d k e.1 with
    | some true => some (some (i, e.2))
    | some false => findV d k es (i + 1)
    | none => none

def zeroV (P : Program) (t : TypeId) : Option AV :=
  match (P.info? t).bind (·.zero) with
  | some (.agg cs) => (ofAtoms cs.toList).map .agg
  | some v => ofAtom v
  | none => none

def entriesV (x : AV) (H : Heap) : Option (List (AV × AV)) :=
  match x with
  | .nilm => some []
  | .map i => match H[i]? with
    | some (.map es) => some es
    | _ => none
  | _ => none

def lookupV (P : Program) (t : TypeId) (x k : AV) (ok : Bool) (H : Heap) : Option AV :=
  match P.underlying t with
  | some (.map kt et) => match P.underlying kt, entriesV x H with
    | some d, some es => if keyFits d k = true then
        (match findV d k es 0 with
        | some (some (_, v)) => some (if ok then .tup [v, .bool true] else v)
        | some none => match zeroV P et with
          | some z => some (if ok then .tup [z, .bool false] else z)
          | none => none
        | none => none) else none
    | _, _ => none
  | _ => none

def mapUpdateV (P : Program) (t : TypeId) (m k x : AV) (H : Heap) : Option Heap :=
  match P.underlying t, m with
  | some (.map kt _), .map i => match P.underlying kt, freeze H x with
    | some d, some (x', H') => if keyFits d k = true then
        (match H'[i]? with
        | some (.map es) => match findV d k es 0 with
          | some (some (j, _)) => some (H'.set i (.map (es.set j (k, x'))))
          | some none => some (H'.set i (.map (es ++ [(k, x')])))
          | none => none
        | _ => none) else none
    | _, _ => none
  | _, _ => none

def deleteV (P : Program) (t : TypeId) (m k : AV) (H : Heap) : Option Heap :=
  match P.underlying t, m with
  | some (.map kt _), .map i => match P.underlying kt, H[i]? with
    | some d, some (.map es) => if keyFits d k = true then
        (match findV d k es 0 with
        | some (some (j, _)) => some (H.set i (.map (es.eraseIdx j)))
        | some none => some H
        | none => none) else none
    | _, _ => none
  | _, _ => none

def clearV (P : Program) (t : TypeId) (x : AV) (H : Heap) : Option Heap :=
  match P.underlying t, x with
  | some (.map _ _), .nilm => some H
  | some (.map _ _), .map i => match H[i]? with
    | some (.map _) => some (H.set i (.map []))
    | _ => none
  | some (.slice _), .nils => some H
  | _, _ => none

def builtinV (P : Program) (b : Builtin) (ts : Array TypeId) (args : List AV) (H : Heap) : Option (AV × Heap) :=
  match b, args with
  | .len, x :: _ => match ts[0]? with
    | some t => (lenV P t x H).map fun v => (v, H)
    | none => none
  | .cap, .nils :: _ => match ts[0]? with
    | some t => (match P.underlying t with
      | some (.slice _) => some (.int .i64 0, H)
      | _ => none)
    | none => none
  | .append, x :: y :: _ => match ts[0]? with
    | some t => appendV P t ts[1]? x y H
    | none => none
  | .min, x :: r => (minMaxV false x r).map fun v => (v, H)
  | .max, x :: r => (minMaxV true x r).map fun v => (v, H)
  | .clear, x :: _ => match ts[0]? with
    | some t => (clearV P t x H).map fun H => (.tup [], H)
    | none => none
  | _, _ => none

/-- An operation that is no call of a Go function. -/
def opV (P : Program) (ρ : Operand → AV) (o : Op) (H : Heap) : Option (AV × Heap) :=
  match o with
  | .move x | .assign x => some (ρ x, H)
  | .pick c a b => match ρ c with
    | .bool true => some (ρ a, H)
    | .bool false => some (ρ b, H)
    | _ => none
  | .alloc t => (zeroP P t).map fun z => (.ptr H.length 0, H ++ [.box z])
  | .box _ x => if (ρ x).cells.all AV.one = true then some (.ptr H.length 0, H ++ [.box (ρ x).cells]) else none
  | .build t ps => (buildV P t (ps.toList.map fun p => (p.1, ρ p.2))).map fun v => (v, H)
  | .buildSlice t n ps => buildSliceV P t n (ps.toList.map fun p => (p.1, ρ p.2)) H
  | .load t a => if known P t = true then (loadV P t (ρ a) H).map fun v => (v, H) else none
  | .store t a x => if known P t = true then (storeV P t (ρ a) (ρ x) H).map fun H => (.undef, H) else none
  | .nilCheck x => match ρ x with
    | .ptr i j => some (.ptr i j, H)
    | .eptr i j k => some (.eptr i j k, H)
    | .raddr v => some (.raddr v, H)
    | _ => none
  | .binOp op t x y _ => (binV P op t (ρ x) (ρ y)).map fun v => (v, H)
  | .unOp op _ x => (unV op (ρ x)).map fun v => (v, H)
  | .convert s d x => convertV P s d (ρ x) H
  | .makeFunc (.func f) first caps => some (.fn f (first.toList.map ρ) (caps.toList.map ρ), H)
  | .makeSlice t l c => makeSliceV P t (ρ l) (ρ c) H
  | .slice t x lo hi mx => (sliceV P t (ρ x) (lo.map ρ) (hi.map ρ) (mx.map ρ) H).map fun v => (v, H)
  | .fieldAddr t x f => (fieldAddrV P t (ρ x) f).map fun v => (v, H)
  | .field t x f => match ρ x, fieldOf P t f with
    | .agg cs, some f => if known P f.type = true then (partV P f.type cs f.offset).map fun v => (v, H) else none
    | _, _ => none
  | .indexAddr t x i => (indexAddrV P t (ρ x) (ρ i) H).map fun v => (v, H)
  | .index t x i => (indexV P t (ρ x) (ρ i)).map fun v => (v, H)
  | .extract x i => match ρ x with
    | .tup vs => vs[i]?.map fun v => (v, H)
    | _ => none
  | .call { callee := .builtin b, args, argTypes } => builtinV P b argTypes (args.toList.map ρ) H
  | .range t x => match P.underlying t, ρ x with
    | some .string, .str s => some (.ptr H.length 0, H ++ [.iter s 0])
    | _, _ => none
  | .next x true => match ρ x with
    | .ptr i 0 => match H[i]? with
      | some (.iter s pos) => if pos < s.size then some (.tup [.bool true, .int .i64 pos, .int .i32 (Utf8.decode s pos).1], H.set i (.iter s (pos + (Utf8.decode s pos).2))) else some (.tup [.bool false], H)
      | _ => none
    | _ => none
  | .makeMap _ none => some (.map H.length, H ++ [.map []])
  | .lookup t x k ok => (lookupV P t (ρ x) (ρ k) ok H).map fun v => (v, H)
  | .mapUpdate t m k x | .insert t m k x => (mapUpdateV P t (ρ m) (ρ k) (ρ x) H).map fun H => (.undef, H)
  | _ => none

end Go.V
