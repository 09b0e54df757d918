/- FileNone answers true, whatever lists of bytes it is given, in whatever memory; what it is given reads behind the call as it did. No conditions beyond the given row's. -/
import Derived.Test.YthcpmjljdncigaaGreatDoorZTRead
import Derived.Test.YthcpmjljdncigaaGreatDoorZVBridge
import Derived.Test.YthcpmjljdncigaaGreatDoorCards
import Derived.Test.YthcpmjljdncigaaGreatDoorTie
import Derived.ProofKit
import Derived.OpenShut
import Derived.Lay
import Derived.SevenTiedAt
import Derived.Carry
set_option linter.unusedSimpArgs false
set_option linter.unusedVariables false
namespace Go.Proofs.YthcpmjljdncigaaGreatDoor
open Go Go.V Go.ChangeShapes Go.WideShapes Go.ChangeAt Go.RowKit

theorem c1_funcs : C1.P.funcs.all funcOk = true := by kernel_rfl
theorem c1_mixed : C1.P.follows .mixedOrders = true := by kernel_rfl
theorem shown_ok : ExtOk Tryz.prog 7 shownV := by
  intro args r h hs Z W vs hz hl
  unfold shownV at h
  split at h
  · cases h
    have := hl.nil
    subst this
    have hc := shown_calls W
    refine .inr ⟨?_, hc.mono fun e W' ⟨he, hb⟩ => ⟨.bool true, he, hb, .bool⟩⟩
    exact enter_run Tryz.func7 (c := Tryz.f7.body.getD .skip) (by kernel_rfl) (by kernel_rfl) _
  · cases h
theorem good1 : V.Good C1 := by
  refine ⟨c1_funcs, c1_mixed, ?_⟩
  intro g e he
  simp only [C1, ext1] at he
  split at he
  · rename_i hg; cases he; subst hg; exact ext123
  · split at he
    · rename_i hg; cases he; subst hg; exact ext145
    · split at he
      · rename_i hg; cases he; subst hg; exact shown_ok
      · cases he

theorem none_calls {W : World} {v : Value} {l : AV} {ls : List (List UInt8)} (hl : Lists l ls) (hv : VR (Zall W) OM.none l v) :
    Calls Tryz.prog 4 #[v] W fun e W' => e = .returned (.bool true) ∧ Below W.heap.size W W' := by
  obtain ⟨H', h⟩ := none_run (H := []) hl
  obtain ⟨k, hk⟩ := callL_iff.1 h
  refine (call_calls good1 (run_sound good1 k) (g := 4) (vs := [v]) rfl hk ⟨rfl, fun j h1 h2 => ?_⟩ (bareZ W)).mono fun e W' ⟨x, he, Z', m', hx, hw, hv⟩ => ?_
  · have : j = 0 := by simp at h1; omega
    subst this
    exact hv
  · cases hv
    exact ⟨he, hw.below⟩

theorem own : ownKnob Tryz.prog.godebug = none := by kernel_rfl
theorem laidOut : laidOutB Tryz.prog = true := by kernel_rfl
set_option maxRecDepth 100000 in
theorem none_lifted (os : Os) (started : os.Started) (H : Type) (enc : TypeId × Value → H) :
    ReturnsInHanded {} Tryz.checked os 4 .any (fun w args => (Rows.fileNoneSpec.pre enc Tryz.prog Tryz.f4 [] false w args ∧ laidMetH Tryz.prog Rows.fileNoneRow.laid w) ∧ sizedMet enc Tryz.prog Tryz.f4 (OpenSpec.ofChange Rows.fileNoneSpec) false w args)
      (Rows.fileNoneSpec.post enc Tryz.prog Tryz.f4 false true false false) := by
  refine returnsInHanded_of_change_and (C := Tryz.checked) (X := fun w _ => laidMetH Tryz.prog Rows.fileNoneRow.laid w) (fun _ _ _ hh h => h.of_heap hh) own started (by kernel_rfl) Tryz.func4
    (ChangeSpec.witness_shaped (enc := enc) (C := Tryz.checked) (os := os) (X := fun w _ => laidMetH Tryz.prog Rows.fileNoneRow.laid w) false (World.laidAll Tryz.prog os Rows.fileNoneRow.laid) #[.slice none 0 0] 8 (World.laidAll_os _ _ _)
      (World.shaped_of_ZipB (by kernel_rfl) (by kernel_rfl)) (by kernel_rfl) (by kernel_rfl) (by kernel_rfl)
      (by rw [MakeChecks.laidMetH_plain _ _ _ (by kernel_rfl)]; exact laidMet_laidAll _ (by kernel_rfl) (by kernel_rfl))) ?_
  intro W base args ds gs before hval0 hW _ hwt hL _
  have hW' := hW
  obtain ⟨p, q, hA0, hV, rfl, _, _⟩ := hW
  have hA : DataW.TrodAll enc Tryz.prog W 0 (fun _ => true) true Tryz.f4.params.toList args.toList ds p := hA0
  have hpar : Tryz.f4.params = #[45] := Tryz.params4
  rw [hpar] at hA
  obtain ⟨v0, d0, rfl, rfl, h0⟩ := trodAll_one hA
  obtain ⟨rfl, rfl⟩ := trodVars_none hV
  simp only [List.append_nil] at hW'
  have h0k := h0
  have hlt : ∀ x ∈ p, x.block < W.heap.size := fun x hx => by simpa using hW'.lt x hx
  have fin : ∀ W' : World, Below W.heap.size W W' → Rows.fileNoneSpec.post enc Tryz.prog Tryz.f4 false true false false W #[v0] (.bool true) W' := fun W' hb => by
    exact ⟨_, _, _, [], p, [], hW', trodAll_mk1 (shut_bool Tryz.underlying4 _), trodAll_mk1 (Below.trod laidOut (by kernel_rfl) (of_decide_eq_true (by kernel_rfl)) h0k hb hlt), rfl, hb.frame _, fun h => by cases h⟩
  obtain ⟨l, ls, hl, hvr⟩ : ∃ l ls, Lists l ls ∧ VR (Zall W) OM.none l v0 := by
    obtain ⟨fuel, hf⟩ := h0
    have hwt' : (DataW.weightsEach Tryz.prog [45] [d0]).all (· ≤ reachBytes) = true := hwt
    exact readLists (hval0 0 45 v0 (by rw [hpar]; rfl) rfl) hf hwt'
  exact (none_calls hl hvr).mono fun e W' ⟨he, hb⟩ => ⟨_, he, fin W' hb⟩

theorem fileNone_holds : Rows.FileNoneSaid :=
  OpenClaim.holds_of_wide 4 Tryz.f4 rfl rfl rfl rfl rfl rfl rfl ⟨rfl, rfl, rfl, rfl, rfl⟩ rfl rfl rfl rfl rfl (by kernel_rfl) Tryz.func4 (by kernel_rfl)
    (of_decide_eq_true (by kernel_rfl)) (by unfold Func.isWrapper; first | (rw [if_pos (by decide +kernel)]; kernel_rfl) | (rw [if_neg (by decide +kernel)]; exact ⟨rfl, rfl⟩))
    (fun os started H enc _ => none_lifted os started H enc)
theorem fileNone_card_holds : Rows.FileNoneCardSaid :=
  Claim7.holds_tied_plain_at .later [] [.data, .pinned] true (true, "d4376aaed4b4f1dc88947e66b8f572bb476402700523eb33f8d7fbdb373289d2") false fileNone_holds (fun _ h => by cases h) (by kernel_rfl) (fun _ h => by cases h) fileNone_row_tie rfl ⟨rfl, rfl⟩ (by kernel_rfl) rfl
    (fun f fn hf hfn => by
      obtain rfl : f = 4 := Option.some.inj ((show Tryz.prog.funcNamed "raddle/raddlelaw15.FileNone" = some 4 by kernel_rfl).symm.trans hf) |>.symm
      obtain rfl : fn = Tryz.f4 := (Option.some.inj (Tryz.func4.symm.trans hfn)).symm
      exact ⟨by kernel_rfl, fun j t ht => by
        rw [Tryz.params4] at ht
        have hm : t ∈ [45] := by simpa using Array.mem_of_getElem? ht
        have hall : ([45].all fun u => !Tryz.prog.wantsStandIn u) = true := by kernel_rfl
        exact (show Tryz.prog.wantsStandIn t = false by simpa using List.all_eq_true.1 hall t hm)⟩)
    (by kernel_rfl)
end Go.Proofs.YthcpmjljdncigaaGreatDoor
