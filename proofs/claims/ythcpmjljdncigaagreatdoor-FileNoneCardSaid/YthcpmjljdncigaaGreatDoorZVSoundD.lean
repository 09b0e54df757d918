/- New objects, stores: held against the model's memory. No conditions. -/
import Derived.Test.YthcpmjljdncigaaGreatDoorZVSoundC
set_option linter.unusedSimpArgs false
set_option linter.unusedVariables false
namespace Go.V
open RowKit (Below)
variable {P : Program} {Z : FZ} {m : OM} {base : Nat} {W0 : World} {H : Heap} {W : World}

theorem length_splice {α : Type} {xs ys : List α} {off : Nat} (h : off + ys.length ≤ xs.length) : (splice xs off ys).length = xs.length := by
  simp [splice]; omega

theorem getElem?_splice {α : Type} {xs ys : List α} {off : Nat} (h : off + ys.length ≤ xs.length) (j : Nat) :
    (splice xs off ys)[j]? = if off ≤ j ∧ j < off + ys.length then ys[j - off]? else xs[j]? := by
  unfold splice
  have hto : (xs.take off).length = off := by simp; omega
  by_cases h1 : j < off
  · rw [if_neg (by omega), List.append_assoc, List.getElem?_append_left (by omega), List.getElem?_take_of_lt h1]
  · by_cases h2 : j < off + ys.length
    · rw [if_pos ⟨by omega, h2⟩, List.append_assoc, List.getElem?_append_right (by omega), hto, List.getElem?_append_left (by omega)]
    · rw [if_neg (by omega), List.getElem?_append_right (by simp; omega)]
      simp only [List.length_append, hto, List.getElem?_drop]
      congr 1
      omega

theorem LVR.mono {Z' : FZ} {m' : OM} {xs : List AV} {vs : List Value} (h : LVR Z m xs vs) (hz : Z.le Z') (hm : m.le m') : LVR Z' m' xs vs :=
  ⟨h.1, fun j a b => (h.2 j a b).mono hz hm⟩

theorem LVR.get? {xs : List AV} {vs : List Value} (h : LVR Z m xs vs) {j : Nat} {x : AV} (hx : xs[j]? = some x) : ∃ v, vs[j]? = some v ∧ VR Z m x v := by
  have hlt : j < xs.length := (List.getElem?_eq_some_iff.1 hx).1
  have e := (List.getElem?_eq_some_iff.1 hx).2
  exact ⟨vs[j]'(by rw [← h.1]; exact hlt), List.getElem?_eq_getElem _, by rw [← e]; exact h.2 j hlt _⟩

theorem LVR.of_get? {xs : List AV} {vs : List Value} (hl : xs.length = vs.length) (h : ∀ (j : Nat) (x : AV) (v : Value), xs[j]? = some x → vs[j]? = some v → VR Z m x v) : LVR Z m xs vs :=
  ⟨hl, fun j a b => h j _ _ (List.getElem?_eq_getElem a) (List.getElem?_eq_getElem b)⟩

theorem LVR.splice {xs ys : List AV} {vs ws : List Value} {off : Nat} (h : LVR Z m xs vs) (k : LVR Z m ys ws) (hle : off + ys.length ≤ xs.length) :
    LVR Z m (splice xs off ys) (V.splice vs off ws) := by
  have hle' : off + ws.length ≤ vs.length := by rw [← h.1, ← k.1]; exact hle
  refine LVR.of_get? (by rw [length_splice hle, length_splice hle', h.1]) fun j x v hx hv => ?_
  rw [getElem?_splice hle] at hx
  rw [getElem?_splice hle', ← k.1] at hv
  split at hx
  · rename_i hc
    rw [if_pos hc] at hv
    obtain ⟨v', hv', hr⟩ := k.get? hx
    rw [hv] at hv'; cases hv'; exact hr
  · rename_i hc
    rw [if_neg hc] at hv
    obtain ⟨v', hv', hr⟩ := h.get? hx
    rw [hv] at hv'; cases hv'; exact hr

theorem LVR.append {xs ys : List AV} {vs ws : List Value} (h : LVR Z m xs vs) (k : LVR Z m ys ws) : LVR Z m (xs ++ ys) (vs ++ ws) := by
  refine LVR.of_get? (by simp [h.1, k.1]) fun j x v hx hv => ?_
  by_cases hj : j < xs.length
  · rw [List.getElem?_append_left hj] at hx
    rw [List.getElem?_append_left (by rw [← h.1]; exact hj)] at hv
    obtain ⟨v', hv', hr⟩ := h.get? hx
    rw [hv] at hv'; cases hv'; exact hr
  · rw [List.getElem?_append_right (by omega)] at hx
    rw [List.getElem?_append_right (by rw [← h.1]; omega), ← h.1] at hv
    obtain ⟨v', hv', hr⟩ := k.get? hx
    rw [hv] at hv'; cases hv'; exact hr

theorem LVR.take {xs : List AV} {vs : List Value} (h : LVR Z m xs vs) (n : Nat) : LVR Z m (xs.take n) (vs.take n) := by
  refine LVR.of_get? (by simp [h.1]) fun j x v hx hv => ?_
  rw [List.getElem?_take] at hx hv
  split at hx
  · rename_i hc; rw [if_pos hc] at hv
    obtain ⟨v', hv', hr⟩ := h.get? hx
    rw [hv] at hv'; cases hv'; exact hr
  · cases hx

theorem LVR.drop {xs : List AV} {vs : List Value} (h : LVR Z m xs vs) (n : Nat) : LVR Z m (xs.drop n) (vs.drop n) := by
  refine LVR.of_get? (by simp [h.1]) fun j x v hx hv => ?_
  rw [List.getElem?_drop] at hx hv
  obtain ⟨v', hv', hr⟩ := h.get? hx
  rw [hv] at hv'; cases hv'; exact hr

/-- The values of cells of a value that is known. -/
theorem VR.lvr {x : AV} {v : Value} (h : VR Z m x v) (hk : x ≠ .undef) : LVR Z m x.cells v.cells.toList := by
  obtain ⟨h1, h2⟩ := h.cells hk
  exact ⟨by simpa using h1, fun j a b => by have := h2 j a (by simpa using b); simpa using this⟩

theorem one_oneCell {x : AV} {v : Value} (h : VR Z m x v) (ho : x.one = true) : v.oneCell' = true := by
  cases h <;> first | rfl | simp [AV.one] at ho

theorem ne_undef_of_one {x : AV} (h : x.cells.all AV.one = true) : x ≠ .undef := by
  intro e; subst e; simp [AV.cells, AV.one] at h

/-! New objects. -/

theorem cells_of_LVR {b tot : Nat} {cs : List AV} {vs : List Value} {W : World} {e : TypeId} {c : Array Value} {fz : Nat × Nat} (h : W.heap[b]? = some (.cells c e fz))
    (hfz : ∀ j, j < c.size → ¬ (fz.1 ≤ j ∧ j < fz.2)) (htot : c.size = tot) {o : Nat} (ho : o + vs.length ≤ c.size) (hc : ∀ j v, vs[j]? = some v → c[o + j]? = some v) (hl : LVR Z m cs vs) : CellsAt Z m W b o tot cs := by
  refine ⟨c, e, fz, h, htot, by rw [hl.1]; omega, fun j hj => hfz j (by omega), fun j hj => ?_⟩
  obtain ⟨v, hv, hr⟩ := hl.get? (List.getElem?_eq_getElem hj)
  exact ⟨v, hc j v hv, hr⟩

theorem new_box (hW : WR Z m base W0 H W) (e : TypeId) {xs : List AV} {c : Array Value} (h : LVR Z m xs c.toList) :
    ∃ m', Ext base Z Z m m' ∧ WR Z m' base W0 (H ++ [.box xs]) (W.alloc (.cells c e)) ∧ VR Z m' (.ptr H.length 0) (.pointer (some ⟨W.heap.size, 0, none⟩)) := by
  let L : Loc := ⟨W.heap.size, 0, 1, c.size⟩
  have hle : m.le (m.ext H.length L) := OM.le_ext hW.m_none
  refine ⟨m.ext H.length L, Ext.of_m hle, hW.alloc _ _ L rfl ?_, VR.ptr (L := L) (OM.ext_at _ _ _)⟩
  refine cells_of_LVR (c := c) (e := e) (fz := (0, 0)) (vs := c.toList) ?_ (fun j _ => by simp) rfl (by simp [L]) ?_ (h.mono (FZ.le.refl _) hle)
  · exact Array.getElem?_push_size
  · intro j v hv; simpa [L] using hv

theorem new_row (hW : WR Z m base W0 H W) (e : TypeId) (cl : Bool) {es : List AV} {sz cap : Nat} {c : Array Value} (hs : ∀ k (h : k < es.length), (es[k]).cells.length = sz)
    (hc : cap * sz ≤ c.size) (hcap : es.length ≤ cap) (fz : Nat × Nat) (hfz : ∀ j, j < c.size → ¬ (fz.1 ≤ j ∧ j < fz.2))
    (h : LVR Z (if cl then OM.none else m) (es.flatMap AV.cells) (c.toList.take (es.length * sz))) :
    ∃ m', Ext base Z Z m m' ∧ WR Z m' base W0 (H ++ [.row cl sz es]) (W.alloc (.cells c e fz)) ∧ VR Z m' (.ref H.length 0 es.length) (.slice (some ⟨W.heap.size, 0, none⟩) es.length cap) := by
  let L : Loc := ⟨W.heap.size, 0, sz, c.size⟩
  have hle : m.le (m.ext H.length L) := OM.le_ext hW.m_none
  have hle2 : es.length * sz ≤ c.size := Nat.le_trans (Nat.mul_le_mul_right _ hcap) hc
  refine ⟨m.ext H.length L, Ext.of_m hle, hW.alloc _ _ L rfl ⟨rfl, hs, ?_⟩, ?_⟩
  · refine cells_of_LVR (c := c) (e := e) (fz := fz) (vs := c.toList.take (es.length * sz)) ?_ hfz rfl (by simp [L]; omega) ?_ ?_
    · exact Array.getElem?_push_size
    · intro j v hv
      rw [List.getElem?_take] at hv
      split at hv
      · simpa [L] using hv
      · cases hv
    · cases cl
      · exact h.mono (FZ.le.refl _) hle
      · exact h
  · refine .ref hcap fun hp => ⟨L, OM.ext_at _ _ _, rfl, by simp [L], by simpa [L] using hc⟩

theorem zeroP_run {t : TypeId} {z : List AV} (h : zeroP P t = some z) : ∃ v, (zeroValue t).run P W = .ok v W ∧ LVR Z m z v.cells.toList ∧ (P.info? t).bind (·.zero) = some v := by
  unfold zeroP at h
  split at h
  · rename_i v hv0
    have hv := hv0
    have hr : (zeroValue t).run P W = .ok v W := by
      cases hi : P.info? t with
      | none => simp [hi] at hv
      | some i => simp [hi] at hv; simp [zeroValue, typeInfo, hi, hv]
    exact ⟨v, hr, ofAtoms_VR h, hv0⟩
  · cases h

theorem alloc_sound (hW : WR Z m base W0 H W) {t : TypeId} {z : List AV} (h : zeroP P t = some z) :
    ∃ v W' m', (Instr.alloc t true (.tuple #[])).run P W = .ok v W' ∧ Ext base Z Z m m' ∧ WR Z m' base W0 (H ++ [.box z]) W' ∧ VR Z m' (.ptr H.length 0) v := by
  obtain ⟨zv, hr, hl, _⟩ := zeroP_run (Z := Z) (m := m) (W := W) h
  obtain ⟨m', h1, h2, h3⟩ := new_box hW t hl
  exact ⟨_, _, m', by simp only [Instr.alloc, hr, newVar, newRow, Sem.run_bind, Result.andThen_ok, run_newObj, Sem.run_pure]; rfl, h1, h2, h3⟩

/-- An alloc whose place is kept. -/
theorem alloc_fill (hW : WR Z m base W0 H W) {t : TypeId} {z : List AV} {s : Nat} (hs : H[s]? = some Ob.hole) (h : zeroP P t = some z) :
    ∃ v W' m', (Instr.alloc t true (.tuple #[])).run P W = .ok v W' ∧ Ext base Z Z m m' ∧ WR Z m' base W0 (H.set s (.box z)) W' ∧ VR Z m' (.ptr s 0) v := by
  obtain ⟨zv, hr, hl, _⟩ := zeroP_run (Z := Z) (m := m) (W := W) h
  let L : Loc := ⟨W.heap.size, 0, 1, zv.cells.size⟩
  have hle : m.le (m.ext s L) := OM.le_ext (hW.hole s hs)
  refine ⟨.pointer (some ⟨W.heap.size, 0, none⟩), W.alloc (.cells zv.cells t), m.ext s L, by simp only [Instr.alloc, hr, newVar, newRow, Sem.run_bind, Result.andThen_ok, run_newObj, Sem.run_pure]; rfl, Ext.of_m hle, hW.fill _ _ L hs rfl ?_, VR.ptr (L := L) (OM.ext_at _ _ _)⟩
  refine cells_of_LVR (c := zv.cells) (e := t) (fz := (0, 0)) (vs := zv.cells.toList) ?_ (fun j _ => by simp) rfl (by simp [L]) ?_ (hl.mono (FZ.le.refl _) hle)
  · exact Array.getElem?_push_size
  · intro j v hv; simpa [L] using hv

theorem box_sound (hW : WR Z m base W0 H W) {t : TypeId} {x : AV} {v : Value} (h : x.cells.all AV.one = true) (hv : VR Z m x v) :
    ∃ u W' m', (Instr.box t v).run P W = .ok u W' ∧ Ext base Z Z m m' ∧ WR Z m' base W0 (H ++ [.box x.cells]) W' ∧ VR Z m' (.ptr H.length 0) u := by
  obtain ⟨m', h1, h2, h3⟩ := new_box hW t (hv.lvr (ne_undef_of_one h))
  exact ⟨_, _, m', by simp only [Instr.box, newVar, newRow, Sem.run_bind, Result.andThen_ok, run_newObj, Sem.run_pure]; rfl, h1, h2, h3⟩

end Go.V
