/- The interpreter's operations that only look, held against the model's. No conditions. -/
import Derived.Test.YthcpmjljdncigaaGreatDoorZVOps
import Derived.Test.YthcpmjljdncigaaGreatDoorZVWorld
import Derived.Deep.MidRow
import Derived.ChangeKeysEq
set_option linter.unusedSimpArgs false
set_option linter.unusedVariables false
namespace Go.V
variable {P : Program} {Z : FZ} {m : OM} {base : Nat} {W0 : World} {H : Heap} {W : World}

theorem und_info {t : TypeId} {d : TypeDesc} (h : P.underlying t = some d) : ∃ i, P.info? t = some i := by
  unfold Program.underlying at h
  cases e : P.info? t with
  | none => simp [e] at h
  | some i => exact ⟨i, rfl⟩

theorem run_und {t : TypeId} {d : TypeDesc} (h : P.underlying t = some d) : (underlying t).run P W = .ok d W := run_underlying h W

theorem run_isAggP {t : TypeId} {d : TypeDesc} (h : P.underlying t = some d) : (isAgg t).run P W = .ok (isAggP P t) W := by
  unfold isAgg isAggP
  rw [Sem.run_bind, run_underlying h W, h]
  cases d <;> rfl

theorem run_size {t : TypeId} {d : TypeDesc} (h : P.underlying t = some d) : (sizeOf t).run P W = .ok (P.cellsOf t) W := by
  obtain ⟨i, hi⟩ := und_info h
  simp [sizeOf, typeInfo, hi, Program.cellsOf]

theorem info_size {t : TypeId} {d : TypeDesc} (h : P.underlying t = some d) : (P.info? t).map (·.size) = some (P.cellsOf t) := by
  obtain ⟨i, hi⟩ := und_info h
  simp [hi, Program.cellsOf]

theorem ofAtom_VR {v : Value} {x : AV} (h : ofAtom v = some x) : VR Z m x v := by
  unfold ofAtom at h
  split at h <;> first | (cases h; constructor) | cases h

theorem ofAtoms_VR : ∀ {vs : List Value} {xs : List AV}, ofAtoms vs = some xs → xs.length = vs.length ∧ ∀ j (h : j < xs.length) (h' : j < vs.length), VR Z m xs[j] vs[j]
  | [], xs, h => by cases h; exact ⟨rfl, fun j h => absurd h (by simp)⟩
  | v :: vs, xs, h => by
    unfold ofAtoms at h
    split at h
    · rename_i x ys hx hy
      cases h
      obtain ⟨hl, hv⟩ := ofAtoms_VR hy
      refine ⟨by simp [hl], fun j h h' => ?_⟩
      cases j with
      | zero => exact ofAtom_VR hx
      | succ j => exact hv j (by simpa using h) (by simpa using h')
    · cases h

theorem evalV_VR {env : Env} {a : Act} (h : ER Z m env a.tmps) (x : Operand) : VR Z m (evalV env x) (a.eval x) := by
  cases x with
  | tmp t => exact h t
  | const v =>
    simp only [evalV, Act.eval]
    cases e : ofAtom v with
    | none => exact .undef
    | some x => exact ofAtom_VR e
  | func f =>
    have := VR.fn (Z := Z) (m := m) (f := f) (as := []) (cs := []) (as' := []) (cs' := []) rfl rfl (fun j h => absurd h (by simp)) (fun j h => absurd h (by simp))
    simpa [evalV, Act.eval] using this
  | global g => exact .undef

/-- A list of cells, in memory. -/
def CellsR (Z : FZ) (m : OM) (W : World) (b o : Nat) (cs : List AV) : Prop := ∃ vs : List Value, vs.length = cs.length ∧ W.rangeAt b o vs ∧ ∀ j (h : j < cs.length) (h' : j < vs.length), VR Z m cs[j] vs[j]

theorem CellsR.mk {b o : Nat} {cs : List AV} (h : ∀ j (h : j < cs.length), ∃ v, W.cell? ⟨b, o + j, none⟩ = some v ∧ VR Z m cs[j] v) : CellsR Z m W b o cs := by
  let f : Nat → Value := fun j => if hj : j < cs.length then (h j hj).choose else Go.undef
  have hf : ∀ j (hj : j < cs.length), f j = (h j hj).choose := fun j hj => by simp [f, hj]
  refine ⟨(List.range cs.length).map f, by simp, ?_, ?_⟩
  · intro j v e
    have hj : j < cs.length := by
      have := (List.getElem?_eq_some_iff.1 e).1; simpa using this
    simp [hj] at e
    rw [← e, hf j hj]
    exact (h j hj).choose_spec.1
  · intro j hj hj'
    simp only [List.getElem_map, List.getElem_range, hf j hj]
    exact (h j hj).choose_spec.2

theorem CellsAt.toR {b o tot : Nat} {cs : List AV} (h : CellsAt Z m W b o tot cs) : CellsR Z m W b o cs := CellsR.mk fun j hj => h.get j hj

theorem CellsR.sub {b o off n : Nat} {cs : List AV} (h : CellsR Z m W b o cs) (hn : off + n ≤ cs.length) : CellsR Z m W b (o + off) ((cs.drop off).take n) := by
  obtain ⟨vs, hl, hr, hv⟩ := h
  refine ⟨(vs.drop off).take n, by simp [hl], ?_, ?_⟩
  · intro j v e
    have hj : j < n := by
      have := (List.getElem?_eq_some_iff.1 e).1; simp at this; omega
    rw [List.getElem?_take_of_lt hj, List.getElem?_drop] at e
    have := hr _ _ e
    rwa [show o + off + j = o + (off + j) by omega]
  · intro j hj hj'
    simp only [List.getElem_take, List.getElem_drop]
    simp at hj hj'
    exact hv _ _ _

theorem CellsR.mono {m' : OM} {b o : Nat} {cs : List AV} (h : CellsR Z m W b o cs) (hm : m.le m') : CellsR Z m' W b o cs := by
  obtain ⟨vs, hl, hr, hv⟩ := h
  exact ⟨vs, hl, hr, fun j a b => (hv j a b).mono (FZ.le.refl _) hm⟩

/-- A variable out of memory. -/
theorem load_agg {t : TypeId} {d : TypeDesc} {b o : Nat} {cs : List AV} (hu : P.underlying t = some d) (ha : isAggP P t = true) (hc : CellsR Z m W b o cs)
    (hn : cs.length = P.cellsOf t) : ∃ v, (loadVar t ⟨b, o, none⟩).run P W = .ok v W ∧ VR Z m (.agg cs) v := by
  obtain ⟨vs, hl, hr, hv⟩ := hc
  refine ⟨.agg vs.toArray, ?_, .agg hl.symm hv⟩
  refine run_loadVar_mid W b o t vs d hr hu ?_ (by rw [info_size hu, hl, hn])
  unfold isAggP at ha
  rw [hu] at ha
  cases d <;> simp_all [TypeDesc.isRow]

theorem load_one {t : TypeId} {d : TypeDesc} {a : Addr} {v : Value} (hu : P.underlying t = some d) (ha : isAggP P t = false) (hc : W.cell? a = some v) :
    (loadVar t a).run P W = .ok v W := by
  simp [loadVar, run_isAggP hu, ha, hc]

theorem loadCs_sound {t : TypeId} {b o off : Nat} {cs : List AV} {x : AV} (hu : (P.underlying t).isSome = true) (h : loadCs P t cs off = some x) (hc : CellsR Z m W b o cs) :
    ∃ v, (loadVar t ⟨b, o + off, none⟩).run P W = .ok v W ∧ VR Z m x v := by
  obtain ⟨d, hu⟩ := Option.isSome_iff_exists.1 hu
  unfold loadCs at h
  split at h
  · rename_i ha
    split at h
    · rename_i hle
      cases h
      refine load_agg hu ha (hc.sub hle) ?_
      simp; omega
    · cases h
  · rename_i ha
    have hlt : off < cs.length := (List.getElem?_eq_some_iff.1 h).1
    obtain ⟨vs, hl, hr, hv⟩ := hc
    have e := (List.getElem?_eq_some_iff.1 h).2
    refine ⟨vs[off]'(by omega), load_one hu (by simpa using ha) (hr off _ (List.getElem?_eq_getElem (by omega))), ?_⟩
    rw [← e]; exact hv off hlt (by omega)

/-- The elements of an array, each in its place. -/
theorem flatMap_cells_get {es : List AV} {sz : Nat} (hs : ∀ k (h : k < es.length), (es[k]).cells.length = sz) {k : Nat} (hk : k < es.length) :
    ((es.flatMap AV.cells).drop (k * sz)).take sz = (es[k]).cells := by
  induction es generalizing k with
  | nil => exact absurd hk (by simp)
  | cons e es ih =>
    have h0 : e.cells.length = sz := hs 0 (by simp)
    cases k with
    | zero => simp [← h0]
    | succ k =>
      have hk' : k < es.length := by simpa using hk
      have := ih (fun k h => hs (k + 1) (by simpa using h)) hk'
      simp only [List.flatMap_cons, List.getElem_cons_succ]
      rw [List.drop_append, h0, show (k + 1) * sz - sz = k * sz by rw [Nat.succ_mul]; omega]
      rw [List.drop_eq_nil_of_le (by rw [h0, Nat.succ_mul]; omega), List.nil_append]
      exact this

theorem flatMap_cells_length {es : List AV} {sz : Nat} (hs : ∀ k (h : k < es.length), (es[k]).cells.length = sz) : (es.flatMap AV.cells).length = es.length * sz := by
  induction es with
  | nil => simp
  | cons e es ih =>
    have h0 : e.cells.length = sz := hs 0 (by simp)
    simp only [List.flatMap_cons, List.length_append, List.length_cons, ih (fun k h => hs (k + 1) (by simpa using h)), h0]
    rw [Nat.succ_mul]; omega

/-- An array, as it lies. -/
theorem rowOf_loc (hW : WR Z m base W0 H W) {i sz : Nat} {cl : Bool} {es : List AV} (h : rowOf H i = some (cl, sz, es)) : ∃ L, m i = some L ∧ L.sz = sz := by
  unfold rowOf at h
  split at h
  · rename_i cl' sz' es' hi
    cases h
    obtain ⟨L, hL, ho⟩ := hW.obs i _ hi (by simp)
    exact ⟨L, hL, ho.1⟩
  · rename_i sz' es' hi
    cases h
    obtain ⟨L, hL, ho⟩ := hW.obs i _ hi (by simp)
    exact ⟨L, hL, ho.1⟩
  · cases h

/-- An element of a slice's array: its cells. -/
theorem rowOf_cells (hW : WR Z m base W0 H W) {i idx sz : Nat} {cl : Bool} {es : List AV} {e : AV} (h : rowOf H i = some (cl, sz, es)) (he : es[idx]? = some e) :
    ∃ L, m i = some L ∧ e.cells.length = L.sz ∧ ∃ vs : List Value, W.rangeAt L.b (L.o + idx * L.sz) vs ∧ vs.length = e.cells.length ∧
      ∀ j (h : j < e.cells.length) (h' : j < vs.length), VR Z (if cl then OM.none else m) e.cells[j] vs[j] := by
  have hlt : idx < es.length := (List.getElem?_eq_some_iff.1 he).1
  have hee : es[idx] = e := (List.getElem?_eq_some_iff.1 he).2
  unfold rowOf at h
  split at h
  · rename_i cl' sz' es' hi
    cases h
    obtain ⟨L, hL, ho⟩ := hW.obs i _ hi (by simp)
    obtain ⟨_, hs, hc⟩ := ho
    refine ⟨L, hL, by rw [← hee]; exact hs idx hlt, ?_⟩
    have hr := CellsAt.toR hc
    have := hr.sub (off := idx * L.sz) (n := L.sz) (by
      rw [flatMap_cells_length hs]
      calc idx * L.sz + L.sz = (idx + 1) * L.sz := by rw [Nat.succ_mul]
        _ ≤ es.length * L.sz := Nat.mul_le_mul_right _ hlt)
    rw [flatMap_cells_get hs hlt, hee] at this
    obtain ⟨vs, h1, h2, h3⟩ := this
    exact ⟨vs, h2, h1, h3⟩
  · rename_i sz' es' hi
    cases h
    obtain ⟨L, hL, ho⟩ := hW.obs i _ hi (by simp)
    obtain ⟨_, hs, hle, vs, hz, hv⟩ := ho
    refine ⟨L, hL, by rw [← hee]; exact hs idx hlt, ?_⟩
    have : CellsR Z OM.none W L.b (L.o + idx * L.sz) e.cells := CellsR.mk fun j hj => by
      have hj' : j < L.sz := by rw [← hs idx hlt, hee]; exact hj
      refine ⟨vs idx j, hW.zok _ _ _ (hz idx j hlt hj'), ?_⟩
      have := hv idx hlt j (by rw [hee]; exact hj)
      simpa only [hee] using this
    obtain ⟨vs, h1, h2, h3⟩ := this
    exact ⟨vs, h2, h1, h3⟩
  · cases h

theorem rowOf_cellsR (hW : WR Z m base W0 H W) {i idx sz : Nat} {cl : Bool} {es : List AV} {e : AV} (h : rowOf H i = some (cl, sz, es)) (he : es[idx]? = some e) :
    ∃ L, m i = some L ∧ e.cells.length = L.sz ∧ CellsR Z m W L.b (L.o + idx * L.sz) e.cells := by
  obtain ⟨L, hL, hs, vs, h1, h2, h3⟩ := rowOf_cells hW h he
  refine ⟨L, hL, hs, vs, h2, h1, fun j a b => ?_⟩
  cases cl
  · exact h3 j a b
  · exact (h3 j a b).mono (FZ.le.refl _) (OM.none_le m)

theorem load_sound (hW : WR Z m base W0 H W) {t : TypeId} {a x : AV} {v : Value} (hu : (P.underlying t).isSome = true) (h : loadV P t a H = some x) (hv : VR Z m a v) :
    ∃ w, (Instr.loadAt t v).run P W = .ok w W ∧ VR Z m x w := by
  unfold loadV at h
  split at h
  · rename_i i off
    split at h
    · rename_i cs hi
      cases hv with
      | ptr hL' =>
        rename_i L
        obtain ⟨L', hL, ho⟩ := hW.obs i _ hi (by simp)
        rw [hL'] at hL; cases hL
        obtain ⟨w, hr, hx⟩ := loadCs_sound (P := P) hu h (CellsAt.toR ho)
        exact ⟨w, by simp [Instr.loadAt, Instr.sureAddr, hr], hx⟩
    · cases h
  · rename_i i idx off
    split at h
    · rename_i cl sz es hr
      split at h
      · rename_i e he
        cases hv with
        | eptr hL' =>
          rename_i L
          obtain ⟨L', hL, _, hc⟩ := rowOf_cellsR hW hr he
          rw [hL'] at hL; cases hL
          obtain ⟨w, hr, hx⟩ := loadCs_sound (P := P) hu h hc
          exact ⟨w, by simp [Instr.loadAt, Instr.sureAddr, hr], hx⟩
      · cases h
    · cases h
  · rename_i u
    cases hv with
    | raddr vs hz hr =>
      rename_i b o
      have hc : CellsR Z m W b o u.cells := CellsR.mk fun j hj => ⟨vs j, hW.zok _ _ _ (hz j hj), (hr j hj).mono (FZ.le.refl _) (OM.none_le m)⟩
      obtain ⟨d, hd⟩ := Option.isSome_iff_exists.1 hu
      split at h
      · rename_i ha
        split at h
        · rename_i cs
          split at h
          · rename_i hn
            cases h
            obtain ⟨w, hr, hx⟩ := load_agg hd ha hc hn
            exact ⟨w, by simp [Instr.loadAt, Instr.sureAddr, hr], hx⟩
          · cases h
        · cases h
      · rename_i ha
        split at h
        · rename_i ho
          cases h
          have h1 : x.cells = [x] := by cases x <;> first | rfl | simp [AV.one] at ho
          obtain ⟨vs', hl, hr', hv'⟩ := hc
          rw [h1] at hl
          have hlt : 0 < vs'.length := by simp at hl; omega
          refine ⟨vs'[0], ?_, ?_⟩
          · have := load_one (P := P) (W := W) (a := ⟨b, o, none⟩) hd (by simpa using ha) (by simpa using hr' 0 _ (List.getElem?_eq_getElem hlt))
            simp [Instr.loadAt, Instr.sureAddr, this]
          · have := hv' 0 (by simp [h1]) hlt
            simpa [h1] using this
        · cases h
  · cases h

end Go.V
