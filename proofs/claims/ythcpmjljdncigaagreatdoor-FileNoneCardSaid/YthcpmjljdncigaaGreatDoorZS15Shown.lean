/- shown(), at the head of each law of layer 15, answers true, whatever the memory. No conditions. -/
import Derived.Test.YthcpmjljdncigaaGreatDoorZVExt
import Derived.Test.YthcpmjljdncigaaGreatDoorProg
namespace Go.Proofs.YthcpmjljdncigaaGreatDoor
open Go.V
open RowKit (Below)

def ext0 (g : FuncId) : Option (List AV → Option AV) :=
  if g = 123 then some indexByteV else if g = 145 then some countV else none

noncomputable def C0 : Cfg := { P := Tryz.prog, vm := fun _ => 0, ext := ext0 }

theorem c0_funcs : Tryz.prog.funcs.all funcOk = true := by kernel_rfl
theorem c0_mixed : Tryz.prog.follows .mixedOrders = true := by kernel_rfl
theorem ext123 : ExtOk Tryz.prog 123 indexByteV := indexByte_ok (fn := Tryz.f123) (by kernel_rfl) (by kernel_rfl) (by kernel_rfl) (by kernel_rfl) (by kernel_rfl)
theorem ext145 : ExtOk Tryz.prog 145 countV := count_ok (fn := Tryz.f145) (by kernel_rfl) (by kernel_rfl) (by kernel_rfl) (by kernel_rfl) (by kernel_rfl)

theorem good0 : Good C0 := by
  refine ⟨c0_funcs, c0_mixed, ?_⟩
  intro g e he
  simp only [C0, ext0] at he
  split at he
  · rename_i hg; cases he; subst hg; exact ext123
  · split at he
    · rename_i hg; cases he; subst hg; exact ext145
    · cases he

/-- Whether an answer is that truth value. -/
def okB (r : Option (AV × Heap)) (b : Bool) : Bool := match r with
  | some (.bool c, _) => c == b
  | _ => false

theorem okB_spec {r : Option (AV × Heap)} {b : Bool} (h : okB r b = true) : ∃ H, r = some (.bool b, H) := by
  unfold okB at h
  split at h
  · rename_i c H; simp at h; subst h; exact ⟨H, rfl⟩
  · cases h

theorem shown_run : okB (callV C0 (run C0 100000) (.fn 7) [] []) true = true := by kernel_rfl

theorem shown_calls (W : World) : Calls Tryz.prog 7 #[] W fun e W' => e = .returned (.bool true) ∧ Below W.heap.size W W' := by
  obtain ⟨H, h⟩ := okB_spec shown_run
  refine (call_calls good0 (run_sound good0 100000) (g := 7) (vs := []) rfl h ⟨rfl, fun j h => absurd h (by simp)⟩ (bare W)).mono fun e W' ⟨v, he, Z', m', hx, hw, hv⟩ => ?_
  cases hv
  exact ⟨he, hw.below⟩

end Go.Proofs.YthcpmjljdncigaaGreatDoor
