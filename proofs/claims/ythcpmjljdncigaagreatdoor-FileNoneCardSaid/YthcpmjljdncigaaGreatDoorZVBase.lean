/- What a value of the interpreter stands for: the relation between its values and objects and those of the model. No conditions. -/
import Derived.Calls
import Derived.Below
namespace Go.V

/-- Values. 'sl', 'raddr': memory that nobody writes any more, told by what it holds; 'ref', 'ptr', 'eptr', 'map': objects of the interpreter's heap. -/
inductive AV where
  | undef
  | bool (b : Bool)
  | int (k : IntKind) (n : Int)
  | str (s : ByteArray)
  | nilp | nils | nilm | nilf | nili
  | sl (es : List AV)
  | ref (i off len : Nat)
  | ptr (i off : Nat)
  | eptr (i idx off : Nat)
  | raddr (v : AV)
  | map (i : Nat)
  | yld (i : Nat)
  | fn (f : FuncId) (first caps : List AV)
  | agg (cs : List AV)
  | tup (vs : List AV)
  deriving Inhabited

/-- The cells of a value. -/
def AV.cells : AV → List AV
  | .agg cs => cs
  | v => [v]

/-- Objects. 'row closed size': a slice's array, of which 'closed' says that no element leads to an object, 'size' how many cells each has; 'ro': one that nobody writes any more; 'loop': what a loop over a function keeps; 'defs': its list of deferred calls, which is empty; 'iter': how far a loop over a string has come; 'hole': one that isn't there yet. -/
inductive Ob where
  | box (cs : List AV)
  | row (closed : Bool) (sz : Nat) (es : List AV)
  | ro (sz : Nat) (es : List AV)
  | map (es : List (AV × AV))
  | loop (env : Nat → AV) (ps : Array Tmp) (asg body : Code) (st : LoopState) (pend : Option Code)
  | defs
  | iter (s : ByteArray) (pos : Nat)
  | hole
  | dead
  deriving Inhabited

/-- The temporaries of a code lie below a bound. -/
def opsFit (n : Nat) (ops : Array Oper) : Bool := ops.all fun o => o.dst.all fun d => d < n

def codeFits (n : Nat) : Code → Bool
  | .region _ ops _ => opsFit n ops
  | .seq a b => codeFits n a && codeFits n b
  | .cond _ a b => codeFits n a && codeFits n b
  | .block _ c => codeFits n c
  | .loop c => codeFits n c
  | .rangeFunc _ ps a b => (ps.all fun d => d < n) && codeFits n a && codeFits n b
  | _ => true

/-- Where an object lies: its block, from which cell on, how many cells an element has, how many cells the block has. -/
structure Loc where
  b : Nat
  o : Nat
  sz : Nat
  tot : Nat

abbrev OM := Nat → Option Loc
abbrev FZ := Nat → Nat → Option Value
def OM.none : OM := fun _ => Option.none

inductive VR (Z : FZ) : OM → AV → Value → Prop where
  | undef {m v} : VR Z m .undef v
  | bool {m b} : VR Z m (.bool b) (.bool b)
  | int {m k n} : VR Z m (.int k n) (.int k n)
  | str {m s} : VR Z m (.str s) (.string s)
  | nilp {m} : VR Z m .nilp (.pointer none)
  | nils {m} : VR Z m .nils (.slice none 0 0)
  | nilm {m} : VR Z m .nilm (.map none)
  | nilf {m} : VR Z m .nilf .nilFunc
  | nili {m} : VR Z m .nili .nilIface
  | sl {m} {es : List AV} {b o cap sz : Nat} {sp : Option Nat} (vs : Nat → Nat → Value) (hcap : es.length ≤ cap)
      (hsz : ∀ k (h : k < es.length), (es[k]).cells.length = sz)
      (hz : ∀ k j, k < es.length → j < sz → Z b (o + k * sz + j) = some (vs k j))
      (hv : ∀ k (h : k < es.length) j (hj : j < (es[k]).cells.length), VR Z OM.none ((es[k]).cells[j]) (vs k j)) (hsp : es ≠ [] → sp = Option.none) :
      VR Z m (.sl es) (.slice (some ⟨b, o, sp⟩) es.length cap)
  | ref {m : OM} {i off len b o cap : Nat} (hcap : len ≤ cap)
      (h : 0 < cap → ∃ L, m i = some L ∧ b = L.b ∧ o = L.o + off * L.sz ∧ o + cap * L.sz ≤ L.tot) :
      VR Z m (.ref i off len) (.slice (some ⟨b, o, Option.none⟩) len cap)
  | ptr {m : OM} {i off : Nat} {L : Loc} (h : m i = some L) : VR Z m (.ptr i off) (.pointer (some ⟨L.b, L.o + off, Option.none⟩))
  | eptr {m : OM} {i idx off : Nat} {L : Loc} (h : m i = some L) : VR Z m (.eptr i idx off) (.pointer (some ⟨L.b, L.o + idx * L.sz + off, Option.none⟩))
  | raddr {m} {v : AV} {b o : Nat} (vs : Nat → Value) (hz : ∀ j, j < v.cells.length → Z b (o + j) = some (vs j))
      (hv : ∀ j (hj : j < v.cells.length), VR Z OM.none (v.cells[j]) (vs j)) : VR Z m (.raddr v) (.pointer (some ⟨b, o, Option.none⟩))
  | map {m : OM} {i : Nat} {L : Loc} (h : m i = some L) : VR Z m (.map i) (.map (some L.b))
  | yld {m : OM} {i : Nat} {L : Loc} (h : m i = some L) : VR Z m (.yld i) (.func (.yield L.b) #[] #[])
  | fn {m f} {as cs : List AV} {as' cs' : List Value} (ha : as.length = as'.length) (hc : cs.length = cs'.length)
      (hva : ∀ j (h : j < as.length) (h' : j < as'.length), VR Z m as[j] as'[j])
      (hvc : ∀ j (h : j < cs.length) (h' : j < cs'.length), VR Z m cs[j] cs'[j]) : VR Z m (.fn f as cs) (.func (.func f) as'.toArray cs'.toArray)
  | agg {m} {cs : List AV} {cs' : List Value} (hc : cs.length = cs'.length)
      (hv : ∀ j (h : j < cs.length) (h' : j < cs'.length), VR Z m cs[j] cs'[j]) : VR Z m (.agg cs) (.agg cs'.toArray)
  | tup {m} {cs : List AV} {cs' : List Value} (hc : cs.length = cs'.length)
      (hv : ∀ j (h : j < cs.length) (h' : j < cs'.length), VR Z m cs[j] cs'[j]) : VR Z m (.tup cs) (.tuple cs'.toArray)

/-- More objects, more frozen memory. -/
def OM.le (m m' : OM) : Prop := ∀ i L, m i = some L → m' i = some L
def FZ.le (Z Z' : FZ) : Prop := ∀ b o v, Z b o = some v → Z' b o = some v
theorem OM.le.refl (m : OM) : m.le m := fun _ _ h => h
theorem FZ.le.refl (Z : FZ) : Z.le Z := fun _ _ _ h => h
theorem OM.le.trans {a b c : OM} (h : a.le b) (k : b.le c) : a.le c := fun i L e => k i L (h i L e)
theorem FZ.le.trans {a b c : FZ} (h : a.le b) (k : b.le c) : a.le c := fun i j v e => k i j v (h i j v e)
theorem OM.none_le (m : OM) : OM.none.le m := fun _ _ h => by cases h

theorem VR.mono {Z Z' : FZ} {m m' : OM} {x : AV} {v : Value} (h : VR Z m x v) (hz : Z.le Z') (hm : m.le m') : VR Z' m' x v := by
  induction h generalizing m' with
  | undef => exact .undef
  | bool => exact .bool
  | int => exact .int
  | str => exact .str
  | nilp => exact .nilp
  | nils => exact .nils
  | nilm => exact .nilm
  | nilf => exact .nilf
  | nili => exact .nili
  | sl vs hcap hsz hz' hv hsp ih => exact .sl vs hcap hsz (fun k j h h' => hz _ _ _ (hz' k j h h')) (fun k h j hj => ih k h j hj (OM.le.refl _)) hsp
  | ref hcap h => exact .ref hcap fun hp => let ⟨L, e, r⟩ := h hp; ⟨L, hm _ _ e, r⟩
  | ptr h => exact .ptr (hm _ _ h)
  | eptr h => exact .eptr (hm _ _ h)
  | raddr vs hz' hv ih => exact .raddr vs (fun j h => hz _ _ _ (hz' j h)) (fun j hj => ih j hj (OM.le.refl _))
  | map h => exact .map (hm _ _ h)
  | yld h => exact .yld (hm _ _ h)
  | fn ha hc _ _ iha ihc => exact .fn ha hc (fun j h h' => iha j h h' hm) (fun j h h' => ihc j h h' hm)
  | agg hc _ ih => exact .agg hc (fun j h h' => ih j h h' hm)
  | tup hc _ ih => exact .tup hc (fun j h h' => ih j h h' hm)

/-- The cells of related values are related. -/
theorem VR.cells {Z : FZ} {m : OM} {x : AV} {v : Value} (h : VR Z m x v) (hu : x ≠ .undef) :
    x.cells.length = v.cells.size ∧ ∀ j (hj : j < x.cells.length) (hj' : j < v.cells.size), VR Z m x.cells[j] v.cells[j] := by
  have one : ∀ {x : AV} {v : Value}, VR Z m x v → x.cells = [x] → v.cells = #[v] →
      x.cells.length = v.cells.size ∧ ∀ j (hj : j < x.cells.length) (hj' : j < v.cells.size), VR Z m x.cells[j] v.cells[j] := by
    intro x v h hx hv
    refine ⟨by simp [hx, hv], fun j hj hj' => ?_⟩
    have h0 : j = 0 := by simp [hx] at hj; omega
    subst h0
    simp [hx, hv, h]
  cases h with
  | undef => exact absurd rfl hu
  | agg hc hv => exact ⟨by simpa [AV.cells, Value.cells] using hc, fun j hj hj' => hv j hj (by simpa [Value.cells] using hj')⟩
  | bool => exact one .bool rfl rfl
  | int => exact one .int rfl rfl
  | str => exact one .str rfl rfl
  | nilp => exact one .nilp rfl rfl
  | nils => exact one .nils rfl rfl
  | nilm => exact one .nilm rfl rfl
  | nilf => exact one .nilf rfl rfl
  | nili => exact one .nili rfl rfl
  | sl vs a b c d e => exact one (.sl vs a b c d e) rfl rfl
  | ref a b => exact one (.ref a b) rfl rfl
  | ptr a => exact one (.ptr a) rfl rfl
  | eptr a => exact one (.eptr a) rfl rfl
  | raddr vs a b => exact one (.raddr vs a b) rfl rfl
  | map a => exact one (.map a) rfl rfl
  | yld a => exact one (.yld a) rfl rfl
  | fn a b c d => exact one (.fn a b c d) rfl rfl
  | tup a b => exact one (.tup a b) rfl rfl

abbrev Env := Nat → AV
def Env.upd (env : Env) (d : Nat) (v : AV) : Env := fun i => if i = d then v else env i
def Env.put (env : Env) (d : Option Nat) (v : AV) : Env := match d with
  | some d => env.upd d v
  | none => env

def ER (Z : FZ) (m : OM) (env : Env) (tmps : Array Value) : Prop := ∀ i, VR Z m (env i) (tmps.getD i Go.undef)

theorem ER.mono {Z Z' : FZ} {m m' : OM} {env : Env} {t : Array Value} (h : ER Z m env t) (hz : Z.le Z') (hm : m.le m') : ER Z' m' env t :=
  fun i => (h i).mono hz hm

theorem ER.put {Z : FZ} {m : OM} {env : Env} {a : Act} {d : Option Nat} {x : AV} {v : Value} (h : ER Z m env a.tmps) (hv : VR Z m x v)
    (hd : ∀ d', d = some d' → d' < a.tmps.size) : ER Z m (env.put d x) (a.put d v).tmps := by
  cases d with
  | none => exact h
  | some d =>
    intro i
    have hlt := hd d rfl
    by_cases e : i = d
    · subst e
      have e2 : (a.tmps.setIfInBounds i v).getD i Go.undef = v := by simp [hlt]
      simp only [Env.put, Env.upd, Act.put, if_true, e2]
      exact hv
    · have e2 : (a.tmps.setIfInBounds d v).getD i Go.undef = a.tmps.getD i Go.undef := by
        simp [Array.getElem?_setIfInBounds_ne (Ne.symm e)]
      simp only [Env.put, Env.upd, Act.put, if_neg e, e2]
      exact h i

/-- What an object of the interpreter's heap is in the model's memory. -/
def CellsAt (Z : FZ) (m : OM) (W : World) (b o tot : Nat) (cs : List AV) : Prop :=
  ∃ c e fz, W.heap[b]? = some (.cells c e fz) ∧ c.size = tot ∧ o + cs.length ≤ tot ∧ (∀ j, j < tot → ¬ (fz.1 ≤ j ∧ j < fz.2)) ∧
    ∀ j (h : j < cs.length), ∃ v, c[o + j]? = some v ∧ VR Z m cs[j] v

def OR (Z : FZ) (m : OM) (W : World) (ob : Ob) (L : Loc) : Prop :=
  match ob with
  | .box cs => CellsAt Z m W L.b L.o L.tot cs
  | .row cl sz es => L.sz = sz ∧ (∀ k (h : k < es.length), (es[k]).cells.length = L.sz) ∧ CellsAt Z (if cl then OM.none else m) W L.b L.o L.tot (es.flatMap AV.cells)
  | .ro sz es => L.sz = sz ∧ (∀ k (h : k < es.length), (es[k]).cells.length = L.sz) ∧ L.o + es.length * L.sz ≤ L.tot ∧
      ∃ vs : Nat → Nat → Value, (∀ k j, k < es.length → j < L.sz → Z L.b (L.o + k * L.sz + j) = some (vs k j)) ∧
        ∀ k (h : k < es.length) j (hj : j < (es[k]).cells.length), VR Z OM.none ((es[k]).cells[j]) (vs k j)
  | .map es => ∃ es' clock, W.heap[L.b]? = some (.map es' clock) ∧ es.length = es'.size ∧
      ∀ j (h : j < es.length) (h' : j < es'.size), VR Z OM.none (es[j]).1 es'[j].key ∧ VR Z OM.none (es[j]).2 es'[j].val
  | .loop env ps asg body st pend => ∃ r : Loop, W.heap[L.b]? = some (.loop r) ∧ r.state = st ∧ r.pending = pend ∧ r.params = ps ∧ r.assign = asg ∧ r.body = body ∧
      (ps.all fun d => d < r.tmps.size) = true ∧ codeFits r.tmps.size asg = true ∧ codeFits r.tmps.size body = true ∧ (∀ c, pend = some c → c = .ret ∨ ∃ id, c = .exit id) ∧ ER Z m env r.tmps
  | .defs => W.heap[L.b]? = some (.deferred (some []))
  | .iter s pos => W.heap[L.b]? = some (.stringIter s pos) ∧ L.o = 0
  | .hole => True
  | .dead => True

def Ob.alive : Ob → Bool
  | .box _ | .row .. | .map _ | .loop .. | .defs | .iter .. => true
  | _ => false

structure WR (Z : FZ) (m : OM) (base : Nat) (W0 : World) (H : List Ob) (W : World) : Prop where
  hb : base ≤ W0.heap.size
  below : RowKit.Below base W0 W
  zok : ∀ b o v, Z b o = some v → W.cell? ⟨b, o, none⟩ = some v
  lim : ∀ i L, m i = some L → i < H.length
  obs : ∀ i ob, H[i]? = some ob → (ob ≠ .dead ∧ ob ≠ .hole) → ∃ L, m i = some L ∧ OR Z m W ob L
  inj : ∀ i j ob ob' L L', H[i]? = some ob → H[j]? = some ob' → ob.alive = true → ob'.alive = true → m i = some L → m j = some L' → L.b = L'.b → i = j
  sep : ∀ i ob L, H[i]? = some ob → ob.alive = true → m i = some L → base ≤ L.b ∧ ∀ o, Z L.b o = none
  hole : ∀ i, H[i]? = some .hole → m i = Option.none

theorem Ob.alive_ne {ob : Ob} (h : ob.alive = true) : ob ≠ .dead ∧ ob ≠ .hole := by
  constructor <;> (intro e; rw [e] at h; simp [Ob.alive] at h)

end Go.V
