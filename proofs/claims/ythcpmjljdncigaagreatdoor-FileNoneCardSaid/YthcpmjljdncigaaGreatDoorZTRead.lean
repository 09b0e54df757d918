/- Lists of bytes, as they are read. No conditions. -/
import Derived.Test.YthcpmjljdncigaaGreatDoorZTNone
import Derived.Test.YthcpmjljdncigaaGreatDoorZVBridge
import Derived.ProofKit
import Derived.OpenShut
set_option linter.unusedSimpArgs false
set_option linter.unusedVariables false
set_option maxRecDepth 100000
namespace Go.Proofs.YthcpmjljdncigaaGreatDoor
open Go Go.V Go.ChangeShapes Go.WideShapes Go.ChangeAt Go.RowKit
theorem byteV_of {n : Int} (h : (Lit.int .u8 n).wf = true) : AV.int .u8 n = byteV (UInt8.ofNat n.toNat) := by
  have hb : 0 ≤ n ∧ n ≤ 255 := by simpa [Lit.wf, IntKind.min, IntKind.max, IntKind.signed, IntKind.bits] using h
  have : ((UInt8.ofNat n.toNat).toNat : Int) = n := by
    rw [UInt8.toNat_ofNat']
    omega
  rw [byteV, this]

theorem readLists {H : Type} {enc : TypeId × Value → H} {W : World} {fuel : Nat} {v : Value} {d : DataW H} {p : List MemPlace} {base : Nat} (hok : Value.okWide Tryz.prog W .any base 45 v) (h : DataW.trod enc Tryz.prog W 0 (fun _ => true) true fuel 45 v.cells.toList = some (d, p))
    (hw : (DataW.weightsEach Tryz.prog [45] [d]).all (· ≤ reachBytes) = true) : ∃ l ls, Lists l ls ∧ VR (Zall W) OM.none l v := by
  obtain ⟨va, len, cap, rfl⟩ := okWide_sl Tryz.underlying45 hok
  rcases Deep.open_int_rows Tryz.underlying45 Tryz.underlying23 Tryz.underlying5 (by kernel_rfl) (by kernel_rfl) h with ⟨hc, hx⟩ | ⟨a, len', cap', A, L, C, Z, hc, _, hle, _, hx, hr⟩
  · simp [Value.cells] at hc
    obtain ⟨rfl, rfl, rfl⟩ := hc
    exact ⟨.nils, [], .nils, .nils⟩
  · simp [Value.cells] at hc
    obtain ⟨rfl, rfl, rfl⟩ := hc
    simp only [Prod.mk.injEq] at hx
    obtain ⟨rfl, _⟩ := hx
    have hreach := reachBytes_lt
    have b23 : Tryz.prog.bytesOf 23 = 24 := by kernel_rfl
    have b5 : Tryz.prog.bytesOf 5 = 1 := by kernel_rfl
    have hl : len < 2 ^ 47 := by
      have := sized_slice hw (j := 0) rfl rfl Tryz.underlying45
      rw [b23] at this
      simp at this
      omega
    have hrow : ∀ r, r < len → (Z r).length < 2 ^ 47 ∨ A r = none := fun r hr' => by
      cases hA : A r with
      | none => exact .inr rfl
      | some a' =>
        left
        have hm : ((((Z r).take (L r)).length + ((Z r).drop (L r)).length) * 1) ∈ DataW.weightsEach (H := H) Tryz.prog [45] [DataW.slice ((List.range len).map fun r => Deep.intRow .u8 (A r) (L r) (Z r)) ((List.range (cap - len)).map fun j => Deep.intRow .u8 (A (len + j)) (L (len + j)) (Z (len + j)))] := by
          refine DataW.weights_mem_each (j := 0) rfl rfl _ ?_
          simp only [DataW.weights, Tryz.underlying45]
          refine List.mem_cons.2 (.inr (List.mem_append.2 (.inl (weights_mem_all (List.mem_map.2 ⟨r, List.mem_range.2 hr', rfl⟩) ?_))))
          simp only [Deep.intRow, hA, DataW.weights, Tryz.underlying23, b5]
          refine List.mem_cons.2 (.inl ?_)
          simp [lits]
        have := List.all_eq_true.1 hw _ hm
        simp only [decide_eq_true_eq, List.length_take, List.length_drop] at this
        omega
    refine ⟨.sl ((List.range len).map fun r => byteRow (A r) (L r) (Z r)), (List.range len).map fun r => match A r with
      | none => []
      | some _ => ((Z r).take (L r)).map fun n => UInt8.ofNat n.toNat, .sl _ _ (by simp) (by simp; omega) ?_, ?_⟩
    · intro i v bs h1 h2
      simp only [List.getElem?_map, Option.map_eq_some_iff] at h1 h2
      obtain ⟨r, hr1, rfl⟩ := h1
      obtain ⟨r', hr2, rfl⟩ := h2
      rw [hr1] at hr2; cases hr2
      have hlt : r < len := by
        have := List.mem_range.1 (List.mem_of_getElem? hr1)
        exact this
      obtain ⟨_, k1, k2, k3, k4, k5, k6⟩ := hr r (by omega)
      cases hA : A r with
      | none => exact .nils
      | some a' =>
        simp only [byteRow]
        have e : ((Z r).take (L r)).map (fun n => AV.int .u8 n) = (((Z r).take (L r)).map fun n => UInt8.ofNat n.toNat).map byteV := by
          rw [List.map_map]
          exact List.map_congr_left fun n hn => byteV_of (k4 n (List.mem_of_mem_take hn))
        rw [e]
        refine .sl _ ?_
        rcases hrow r hlt with h | h
        · simp; omega
        · rw [hA] at h; cases h
    · have := vr_slice (W := W) (a := a) (cap := cap) (es := (List.range len).map fun r => byteRow (A r) (L r) (Z r)) (vs := fun r => .slice (A r) (L r) (C r)) (by simp; omega)
        (fun e he => by
          obtain ⟨r, _, rfl⟩ := List.mem_map.1 he
          unfold byteRow
          cases A r <;> rfl) (fun k hk => (hr k (by simp at hk; omega)).1) (fun k hk => by
          simp only [List.getElem_map, List.getElem_range]
          have hk' : k < len := by simpa using hk
          obtain ⟨_, k1, k2, k3, k4, k5, k6⟩ := hr k (by omega)
          exact vr_byteRow k1 k3 k5 fun a' ha c hc => (k6 a' ha).2 c hc)
      simpa using this

end Go.Proofs.YthcpmjljdncigaaGreatDoor
