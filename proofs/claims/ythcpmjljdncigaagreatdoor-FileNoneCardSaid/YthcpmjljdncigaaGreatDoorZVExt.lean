/- Functions of Go's library that the model answers by an entry: contracts for the interpreter. The conditions: what the program's text says of that function: its name, and that it has no body. -/
import Derived.Test.YthcpmjljdncigaaGreatDoorZVRunSound
import Derived.Lib.Bytealg
import Derived.KernelRfl
set_option linter.unusedSimpArgs false
set_option linter.unusedVariables false
namespace Go.V
open RowKit (Below)

def indexByteV : List AV → Option AV
  | [.str s, .int .u8 c] => some (.int .i64 (Lib.indexByte s.data.toList c.toNat.toUInt8))
  | _ => none

def countV : List AV → Option AV
  | [.str s, .int .u8 c] => some (.int .i64 (Lib.countByte s.data.toList c.toNat.toUInt8))
  | _ => none

/-- What 'Good' asks of a function that is answered from outside. -/
def ExtOk (P : Program) (g : FuncId) (e : List AV → Option AV) : Prop := ∀ args r, e args = some r → r.scalar = true → ∀ (Z : FZ) (W : World) (vs : List Value), (∀ b o v, Z b o = some v → W.cell? ⟨b, o, none⟩ = some v) → LVR Z OM.none args vs →
    (∃ v W', (callFunc g vs.toArray).run P W = .ok (.value v) W' ∧ Below W.heap.size W W' ∧ VR Z OM.none r v) ∨
    ((callFunc g vs.toArray).run P W = .ok (.enter g vs.toArray) W ∧ Calls P g vs.toArray W fun e W' => ∃ v, e = .returned v ∧ Below W.heap.size W W' ∧ VR Z OM.none r v)

theorem indexByte_ok {P : Program} {g : FuncId} {fn : Func} (hf : P.funcs[g]? = some fn) (hname : (fn.name == "runtime.NumGoroutine") = false) (hb : fn.body.isNone = true)
    (hn : (Extern.findNext fn).isNone = true) (he : Extern.find fn = some Extern.BytealgIndexByte.indexByte) : ExtOk P g indexByteV := by
  intro args r h hs Z W vs hz hl
  unfold indexByteV at h
  split at h
  · rename_i s c
    cases h
    obtain ⟨v, vs', rfl, hv, hl'⟩ := hl.cons
    obtain ⟨w, vs'', rfl, hw, hl''⟩ := hl'.cons
    have := hl''.nil
    subst this
    cases hv; cases hw
    refine .inl ⟨_, W, ?_, Below.refl _ _, .int⟩
    rw [run_callFunc_extern hf hname hb (by simpa using hn) he]
    rw [show ([Value.string s, Value.int .u8 c] : List Value).toArray = #[.string s, .int .u8 c] from rfl, Lib.run_indexByteString]
    rfl
  · cases h

theorem count_ok {P : Program} {g : FuncId} {fn : Func} (hf : P.funcs[g]? = some fn) (hname : (fn.name == "runtime.NumGoroutine") = false) (hb : fn.body.isNone = true)
    (hn : (Extern.findNext fn).isNone = true) (he : Extern.find fn = some Extern.BytealgCount.count) : ExtOk P g countV := by
  intro args r h hs Z W vs hz hl
  unfold countV at h
  split at h
  · rename_i s c
    cases h
    obtain ⟨v, vs', rfl, hv, hl'⟩ := hl.cons
    obtain ⟨w, vs'', rfl, hw, hl''⟩ := hl'.cons
    have := hl''.nil
    subst this
    cases hv; cases hw
    refine .inl ⟨_, W, ?_, Below.refl _ _, .int⟩
    rw [run_callFunc_extern hf hname hb (by simpa using hn) he]
    rw [show ([Value.string s, Value.int .u8 c] : List Value).toArray = #[.string s, .int .u8 c] from rfl, Lib.run_countString]
    rfl
  · cases h

/-- A call of a function that has a text. -/
theorem call_calls {C : Cfg} (hG : Good C) {rec : RunF} (hrec : RunOk C rec) {g : FuncId} {args : List AV} {r : AV} {H H' : Heap} {Z : FZ} {m : OM} {base : Nat} {W0 W : World} {vs : List Value} (hx : C.ext g = none)
    (h : callV C rec (.fn g) args H = some (r, H')) (hl : LVR Z m args vs) (hW : WR Z m base W0 H W) : Calls C.P g vs.toArray W fun e W' => ∃ v, e = .returned v ∧ Post Z m base W0 r H' v W' := by
  rcases call_sound hG hrec (.fn g) args H r H' h Z m base W0 W vs hl hW with ⟨v, W', hr, _⟩ | ⟨_, hc⟩
  · exfalso
    simp only [callV, hx] at h
    split at h
    · cases h
    · rename_i fn hf
      split at h
      · cases h
      · rename_i c hb
        have hok := good_func hG hf
        unfold funcOk at hok
        rw [hb] at hok
        simp only [Bool.and_eq_true, Bool.not_eq_true'] at hok
        rw [enter_run hf hb hok.2 _] at hr
        cases hr
  · exact hc

/-- No object, no frozen memory. -/
theorem bare (W : World) : WR (fun _ _ => none) OM.none W.heap.size W [] W :=
  ⟨Nat.le_refl _, Below.refl _ _, (fun b o v h => by cases h), (fun i L h => by cases h), (fun i ob h => by cases h), (fun i j ob ob' L L' h => by cases h), (fun i ob L h => by cases h), (fun i h => by cases h)⟩

end Go.V
