/- Structs, arrays and slices that are built, and what is stored: held against the model's memory. No conditions. -/
import Derived.Test.YthcpmjljdncigaaGreatDoorZVSoundD
import Derived.Laws.Tables
set_option linter.unusedSimpArgs false
set_option linter.unusedVariables false
namespace Go.V
open RowKit (Below)
variable {P : Program} {Z : FZ} {m : OM} {base : Nat} {W0 : World} {H : Heap} {W : World}

theorem foldset : ∀ (l : List Value) (k off : Nat) (cs : Array Value), off + k + l.length ≤ cs.size →
    ((l.zipIdx k).foldl (fun cs (cj : Value × Nat) => cs.setIfInBounds (off + cj.2) cj.1) cs).toList = splice cs.toList (off + k) l
  | [], k, off, cs, h => by simp [splice]
  | v :: l, k, off, cs, h => by
    simp only [List.length_cons] at h
    have hk : off + k < cs.size := by omega
    simp only [List.zipIdx_cons, List.foldl_cons]
    rw [foldset l (k + 1) off _ (by simp; omega)]
    apply List.ext_getElem?
    intro j
    rw [getElem?_splice (by simp; omega), getElem?_splice (by simp; omega)]
    simp only [Array.toList_setIfInBounds, List.length_cons]
    by_cases h1 : off + k ≤ j ∧ j < off + k + (l.length + 1)
    · rw [if_pos h1]
      by_cases h2 : j = off + k
      · subst h2
        rw [if_neg (by omega)]
        simp [hk]
      · rw [if_pos (by omega)]
        have : j - (off + k) = (j - (off + (k + 1))) + 1 := by omega
        rw [this, List.getElem?_cons_succ]
    · rw [if_neg h1, if_neg (by omega), List.getElem?_set_ne (by omega)]

theorem fill_one (v : Value) (off : Nat) (cs : Array Value) (h : off + v.cells.size ≤ cs.size) :
    (v.cells.zipIdx.foldl (fun cs (c, j) => cs.setIfInBounds (off + j) c) cs).toList = splice cs.toList off v.cells.toList := by
  rw [← Array.foldl_toList, Array.toList_zipIdx]
  exact foldset v.cells.toList 0 off cs (by simpa using h)

/-- Parts that are laid into cells. -/
theorem fill_sound (place : Nat → Option (Nat × Nat)) : ∀ {parts : List (Nat × AV)} {parts' : List (Nat × Value)} {cs cs' : List AV} {vs : Array Value}, fillCs place cs parts = some cs' →
    LVR Z m cs vs.toList → parts.map (·.1) = parts'.map (·.1) → LVR Z m (parts.map (·.2)) (parts'.map (·.2)) →
    ∃ vs', Instr.fill place vs parts' = some vs' ∧ LVR Z m cs' vs'.toList
  | [], parts', cs, cs', vs, h, hl, hi, hp => by
    have : parts' = [] := by cases parts' with
      | nil => rfl
      | cons _ _ => simp at hi
    subst this
    simp [fillCs] at h; subst h
    exact ⟨vs, rfl, hl⟩
  | (i, x) :: parts, parts', cs, cs', vs, h, hl, hi, hp => by
    cases parts' with
    | nil => simp at hi
    | cons q parts' =>
      obtain ⟨i', v⟩ := q
      simp at hi
      obtain ⟨rfl, hi⟩ := hi
      obtain ⟨v', vs2, e1, hx, hp'⟩ := LVR.cons (by simpa using hp)
      cases e1
      unfold fillCs at h
      unfold Instr.fill
      split at h
      · cases h
      · rename_i off size hpl
        split at h
        · rename_i hc
          obtain ⟨h1, h2, h3⟩ := hc
          have hv := hx.lvr (ne_undef_of_one h3)
          have e1 : v.cells.size = size := by have := hv.1; simp at this; omega
          have e2 : vs.size = cs.length := by have := hl.1; simp at this; omega
          have hb : off + v.cells.size ≤ vs.size := by omega
          have hnew : LVR Z m (splice cs off x.cells) (v.cells.zipIdx.foldl (fun cs (c, j) => cs.setIfInBounds (off + j) c) vs).toList := by
            rw [fill_one v off vs hb]
            exact hl.splice hv (by omega)
          obtain ⟨vs', h4, h5⟩ := fill_sound place h hnew hi hp'
          refine ⟨vs', ?_, h5⟩
          simp only [hpl]
          rw [if_neg (by simp [e1]; omega)]
          exact h4
        · cases h

theorem places_of_known : ∀ (fs : List Field), fs.all (fun f => known P f.type) = true →
    fs.mapM (fun f => (P.info? f.type).map fun i => (f.offset, i.size)) = some (placesP P fs)
  | [], _ => by simp [placesP]
  | f :: fs, h => by
    simp at h
    obtain ⟨h1, h2⟩ := h
    obtain ⟨d, hd⟩ := known_und h1
    obtain ⟨i, hi⟩ := und_info hd
    have := places_of_known fs (by simpa using h2)
    simp [List.mapM_cons, hi, this, placesP, Program.cellsOf]

theorem build_sound {t : TypeId} {parts : List (Nat × AV)} {parts' : Array (Nat × Value)} {x : AV} (h : buildV P t parts = some x)
    (hi : parts.map (·.1) = parts'.toList.map (·.1)) (hp : LVR Z m (parts.map (·.2)) (parts'.toList.map (·.2))) :
    ∃ v, (Instr.build t parts').run P W = .ok v W ∧ VR Z m x v := by
  unfold buildV at h
  split at h
  · cases h
  · rename_i z hz
    obtain ⟨zv, _, hl, hzv⟩ := zeroP_run (Z := Z) (m := m) (W := W) hz
    obtain ⟨it, hit, hzero⟩ : ∃ it, P.info? t = some it ∧ it.zero = some zv := by
      cases e : P.info? t with
      | none => simp [e] at hzv
      | some it => simp [e] at hzv; exact ⟨it, rfl, hzv⟩
    split at h
    · rename_i fs hu
      split at h
      · rename_i hk
        cases hf : fillCs ((placesP P fs.toList)[·]?) z parts with
        | none => simp [hf] at h
        | some cs =>
          simp [hf] at h; subst h
          obtain ⟨vs, h1, h2⟩ := fill_sound _ hf hl hi hp
          refine ⟨.agg vs, run_build W t parts' vs ?_, by have := VR.agg h2.1 h2.2; simpa using this⟩
          unfold Program.built
          rw [hit, hu]
          simp only [hzero, places_of_known _ hk]
          simpa using h1
      · cases h
    · rename_i n e hu
      split at h
      · rename_i hk
        obtain ⟨d, hd⟩ := known_und hk
        obtain ⟨ie, hie⟩ := und_info hd
        cases hf : fillCs (fun i => some (i * P.cellsOf e, P.cellsOf e)) z parts with
        | none => simp [hf] at h
        | some cs =>
          simp [hf] at h; subst h
          obtain ⟨vs, h1, h2⟩ := fill_sound _ hf hl hi hp
          refine ⟨.agg vs, run_build W t parts' vs ?_, by have := VR.agg h2.1 h2.2; simpa using this⟩
          unfold Program.built
          rw [hit, hu]
          simp only [hzero, hie]
          simpa [Program.cellsOf, hie] using h1
      · cases h
    · cases h

/-! Stores. -/

theorem setCells_heap (b : Nat) : ∀ (vs : List Value) (o : Nat) (W : World) (c : Array Value) (e : TypeId) (fz : Nat × Nat), W.heap[b]? = some (.cells c e fz) → o + vs.length ≤ c.size →
    (W.setCells b o vs).heap[b]? = some (.cells (splice c.toList o vs).toArray e fz)
  | [], o, W, c, e, fz, h, hl => by simp [World.setCells, splice, h]
  | v :: vs, o, W, c, e, fz, h, hl => by
    simp only [List.length_cons] at hl
    have hlt : b < W.heap.size := (Array.getElem?_eq_some_iff.1 h).1
    have hv : W.heap[b] = .cells c e fz := (Array.getElem?_eq_some_iff.1 h).2
    have h1 : (W.setCell ⟨b, o, none⟩ v).heap[b]? = some (.cells (c.setIfInBounds o v) e fz) := by
      simp [World.setCell, Array.getElem?_modify, h]
    unfold World.setCells
    rw [setCells_heap b vs (o + 1) _ _ _ _ h1 (by simp; omega)]
    congr 3
    apply List.ext_getElem?
    intro j
    rw [getElem?_splice (by simp; omega), getElem?_splice (by simp; omega)]
    simp only [Array.toList_setIfInBounds, List.length_cons]
    by_cases h1 : o ≤ j ∧ j < o + (vs.length + 1)
    · rw [if_pos h1]
      by_cases h2 : j = o
      · subst h2
        rw [if_neg (by omega)]
        simp [show j < c.size by omega]
      · rw [if_pos (by omega)]
        have : j - o = (j - (o + 1)) + 1 := by omega
        rw [this, List.getElem?_cons_succ]
    · rw [if_neg h1, if_neg (by omega), List.getElem?_set_ne (by omega)]

theorem setCells_same (b : Nat) : ∀ (vs : List Value) (o : Nat) (W : World), (W.setCells b o vs).os = W.os ∧ (W.setCells b o vs).tape = W.tape ∧ (W.setCells b o vs).output = W.output ∧
    (W.setCells b o vs).heap.size = W.heap.size ∧ ∀ k, k ≠ b → (W.setCells b o vs).heap[k]? = W.heap[k]?
  | [], _, _ => ⟨rfl, rfl, rfl, rfl, fun _ _ => rfl⟩
  | v :: vs, o, W => by
    obtain ⟨h1, h2, h3, h4, h5⟩ := setCells_same b vs (o + 1) (W.setCell ⟨b, o, none⟩ v)
    unfold World.setCells
    refine ⟨h1, h2, h3, by rw [h4]; simp [World.setCell], fun k hk => ?_⟩
    rw [h5 k hk]
    simp [World.setCell, Array.getElem?_modify, Ne.symm hk]

/-- Cells that are overwritten in an object's memory. -/
theorem CellsAt.store {b o tot off : Nat} {cs ys : List AV} {vs : List Value} (h : CellsAt Z m W b o tot cs) (hy : LVR Z m ys vs) (hle : off + ys.length ≤ cs.length) :
    CellsAt Z m (W.setCells b (o + off) vs) b o tot (splice cs off ys) := by
  obtain ⟨c, e, fz, h1, h2, h3, h4, h5⟩ := h
  have hl : vs.length = ys.length := hy.1.symm
  refine ⟨(splice c.toList (o + off) vs).toArray, e, fz, setCells_heap b vs _ W c e fz h1 (by omega), ?_, ?_, h4, fun j hj => ?_⟩
  · simp [length_splice (xs := c.toList) (ys := vs) (off := o + off) (by simp; omega), h2]
  · rw [length_splice hle]; exact h3
  · have hj' : j < cs.length := by rw [length_splice hle] at hj; exact hj
    have e1 : (splice cs off ys)[j]? = Option.some ((splice cs off ys)[j]) := List.getElem?_eq_getElem hj
    rw [getElem?_splice hle] at e1
    simp only [List.getElem?_toArray]
    rw [getElem?_splice (by simp; omega)]
    split at e1
    · rename_i hc
      rw [if_pos (by omega)]
      obtain ⟨v, hv, hr⟩ := hy.get? e1
      exact ⟨v, by rw [← hv]; congr 1; omega, hr⟩
    · rename_i hc
      rw [if_neg (by omega)]
      rw [List.getElem?_eq_getElem hj'] at e1
      obtain ⟨v, hv, hr⟩ := h5 j hj'
      exact ⟨v, by simpa using hv, by rw [← Option.some.inj e1]; exact hr⟩

theorem storeVar_run {t : TypeId} {b o : Nat} {v : Value} {x : AV} (hv : VR Z m x v) (hone : x.cells.all AV.one = true) (hsz : x.cells.length = P.cellsOf t) (hi : ∃ i, P.info? t = some i)
    (hc : ∀ j, j < x.cells.length → (W.cell? ⟨b, o + j, none⟩).isSome = true ∧ W.frozen? ⟨b, o + j, none⟩ = false) :
    (storeVar t ⟨b, o, none⟩ v).run P W = .ok () (W.setCells b o v.cells.toList) := by
  obtain ⟨i, hi⟩ := hi
  have hl := hv.lvr (ne_undef_of_one hone)
  have h1 : v.cells.size = x.cells.length := by have := hl.1; simp at this; omega
  have h2 := run_storeCells_cells (P := P) b o v.cells.toList 0 W (fun j hj => by simpa using (hc j (by simpa [h1] using hj)).1) (fun j hj => by simpa using (hc j (by simpa [h1] using hj)).2)
    (fun u hu => by
      obtain ⟨j, hj, e⟩ := List.getElem_of_mem hu
      rw [← e]
      exact one_oneCell (hl.2 j (by rw [hl.1]; exact hj) hj) (by rw [List.all_eq_true] at hone; exact hone _ (List.getElem_mem _)))
  have h3 : v.cells.size = i.size := by rw [h1, hsz]; simp [Program.cellsOf, hi]
  simp only [Nat.add_zero] at h2
  simp [storeVar, sizeOf, typeInfo, hi, h3, h2]

theorem splice_flatMap {es : List AV} {sz k off : Nat} {e' : AV} {ys : List AV} (hs : ∀ k (h : k < es.length), (es[k]).cells.length = sz) (hk : k < es.length) (he : off + ys.length ≤ sz)
    (h : e'.cells = splice (es[k]).cells off ys) : (es.set k e').flatMap AV.cells = splice (es.flatMap AV.cells) (k * sz + off) ys := by
  induction es generalizing k with
  | nil => exact absurd hk (by simp)
  | cons e es ih =>
    have h0 : e.cells.length = sz := hs 0 (by simp)
    cases k with
    | zero =>
      simp only [List.getElem_cons_zero] at h
      simp only [List.set_cons_zero, List.flatMap_cons, h, Nat.zero_mul, Nat.zero_add]
      unfold splice
      rw [List.take_append_of_le_length (by omega), List.drop_append_of_le_length (by omega)]
      simp
    | succ k =>
      have := ih (k := k) (fun k h => hs (k + 1) (by simpa using h)) (by simpa using hk) (by simpa using h)
      simp only [List.set_cons_succ, List.flatMap_cons, this]
      unfold splice
      have e1 : (k + 1) * sz + off = e.cells.length + (k * sz + off) := by rw [Nat.succ_mul, h0]; omega
      rw [e1, List.take_length_add_append, show e.cells.length + (k * sz + off) + ys.length = e.cells.length + (k * sz + off + ys.length) by omega, List.drop_length_add_append]
      simp

theorem mkV_cells {b : Bool} {cs : List AV} {x : AV} (h : mkV b cs = some x) : x.cells = cs := by
  unfold mkV at h
  split at h
  · cases h; rfl
  · split at h
    · split at h
      · rename_i h1; cases h; exact AV.one_cells h1
      · cases h
    · cases h

theorem store_box (hW : WR Z m base W0 H W) {t : TypeId} {i off : Nat} {cs : List AV} {x : AV} {v w : Value} (hi : H[i]? = some (.box cs)) (hle : off + x.cells.length ≤ cs.length)
    (hsz : x.cells.length = P.cellsOf t) (hone : x.cells.all AV.one = true) (hk : known P t = true) (ha : VR Z m (.ptr i off) w) (hv : VR Z m x v) :
    ∃ W', (Instr.storeAt t w v).run P W = .ok () W' ∧ WR Z m base W0 (H.set i (.box (splice cs off x.cells))) W' := by
  obtain ⟨L, hL, ho⟩ := hW.obs i _ hi (by simp)
  cases ha with
  | ptr hL' =>
    rw [hL] at hL'; cases hL'
    obtain ⟨d, hd⟩ := known_und hk
    have hc : CellsAt Z m W L.b L.o L.tot cs := ho
    have hfit : L.o + cs.length ≤ L.tot := by obtain ⟨c, e, fz, h1, h2, h3, _⟩ := hc; exact h3
    have hr := storeVar_run (P := P) (t := t) (b := L.b) (o := L.o + off) (W := W) hv hone hsz (und_info hd) (fun j hj => by
      rw [Nat.add_assoc]
      obtain ⟨u, hu, _⟩ := hc.get (off + j) (by omega)
      exact ⟨by rw [hu]; rfl, hc.free _ (by omega)⟩)
    refine ⟨W.setCells L.b (L.o + off) v.cells.toList, by simp [Instr.storeAt, Instr.sureAddr, hr], ?_⟩
    obtain ⟨s1, s2, s3, s4, s5⟩ := setCells_same L.b v.cells.toList (L.o + off) W
    exact hW.change hi rfl hL s1 s2 s3 (by omega) (fun k _ hne => s5 k hne) (.inl ⟨rfl, hc.store (hv.lvr (ne_undef_of_one hone)) hle⟩)

theorem store_row (hW : WR Z m base W0 H W) {t : TypeId} {i idx off sz : Nat} {cl : Bool} {es : List AV} {e e' x : AV} {v w : Value} (hi : H[i]? = some (.row cl sz es)) (he : es[idx]? = some e)
    (hle : off + x.cells.length ≤ e.cells.length) (he' : e'.cells = splice e.cells off x.cells)
    (hsz : x.cells.length = P.cellsOf t) (hone : x.cells.all AV.one = true) (hk : known P t = true) (ha : VR Z m (.eptr i idx off) w) (hv : VR Z (if cl then OM.none else m) x v) :
    ∃ W', (Instr.storeAt t w v).run P W = .ok () W' ∧ WR Z m base W0 (H.set i (.row cl sz (es.set idx e'))) W' := by
  obtain ⟨L, hL, h00, hs, hc⟩ := hW.obs i _ hi (by simp)
  have hlt : idx < es.length := (List.getElem?_eq_some_iff.1 he).1
  have hee : es[idx] = e := (List.getElem?_eq_some_iff.1 he).2
  have hesz : e.cells.length = L.sz := by rw [← hee]; exact hs idx hlt
  cases ha with
  | eptr hL' =>
    rw [hL] at hL'; cases hL'
    obtain ⟨d, hd⟩ := known_und hk
    have hlen := flatMap_cells_length hs
    have hin : idx * L.sz + L.sz ≤ es.length * L.sz := by
      calc idx * L.sz + L.sz = (idx + 1) * L.sz := by rw [Nat.succ_mul]
        _ ≤ es.length * L.sz := Nat.mul_le_mul_right _ hlt
    have hfit : L.o + (es.flatMap AV.cells).length ≤ L.tot := by obtain ⟨c, e, fz, h1, h2, h3, _⟩ := hc; exact h3
    have hr := storeVar_run (P := P) (t := t) (b := L.b) (o := L.o + idx * L.sz + off) (W := W) hv hone hsz (und_info hd) (fun j hj => by
      rw [show L.o + idx * L.sz + off + j = L.o + (idx * L.sz + off + j) by omega]
      obtain ⟨u, hu, _⟩ := hc.get (idx * L.sz + off + j) (by omega)
      exact ⟨by rw [hu]; rfl, hc.free _ (by omega)⟩)
    refine ⟨W.setCells L.b (L.o + idx * L.sz + off) v.cells.toList, by simp [Instr.storeAt, Instr.sureAddr, hr], ?_⟩
    obtain ⟨s1, s2, s3, s4, s5⟩ := setCells_same L.b v.cells.toList (L.o + idx * L.sz + off) W
    refine hW.change hi rfl hL s1 s2 s3 (by omega) (fun k _ hne => s5 k hne) (.inl ⟨rfl, h00, ?_, ?_⟩)
    · intro k hk'
      rw [List.getElem_set]
      split
      · rw [he', length_splice hle, hesz]
      · exact hs _ _
    · rw [splice_flatMap (ys := x.cells) (off := off) hs hlt (by omega) (by rw [hee]; exact he')]
      have := hc.store (ys := x.cells) (off := idx * L.sz + off) (hv.lvr (ne_undef_of_one hone)) (by omega)
      rwa [show L.o + (idx * L.sz + off) = L.o + idx * L.sz + off by omega] at this

theorem store_sound (hW : WR Z m base W0 H W) {t : TypeId} {a x : AV} {v w : Value} {H' : Heap} (hk : known P t = true) (h : storeV P t a x H = some H') (ha : VR Z m a w) (hv : VR Z m x v) :
    ∃ W' Z', (Instr.storeAt t w v).run P W = .ok () W' ∧ Ext base Z Z' m m ∧ WR Z' m base W0 H' W' := by
  unfold storeV at h
  split at h
  · rename_i hc0
    obtain ⟨hsz, hone⟩ := hc0
    split at h
    · rename_i i off
      split at h
      · rename_i cs hi
        split at h
        · rename_i hle
          cases h
          obtain ⟨W', h1, h2⟩ := store_box hW hi hle hsz hone hk ha hv
          exact ⟨W', Z, h1, Ext.refl _ _ _, h2⟩
        · cases h
      · cases h
    · rename_i i idx off
      split at h
      · rename_i sz es hi
        split at h
        · rename_i e he
          split at h
          · rename_i hle
            split at h
            · rename_i e' hm
              cases h
              obtain ⟨W', h1, h2⟩ := store_row hW (cl := false) hi he hle (mkV_cells hm) hsz hone hk ha hv
              exact ⟨W', Z, h1, Ext.refl _ _ _, h2⟩
            · cases h
          · cases h
        · cases h
      · rename_i sz0 es0 hi
        split at h
        · rename_i x' H1 hf
          split at h
          · rename_i sz es hi1
            split at h
            · rename_i e he
              split at h
              · rename_i hle
                split at h
                · rename_i e' hm
                  split at h
                  · rename_i hc1
                    obtain ⟨hsz', hone'⟩ := hc1
                    cases h
                    obtain ⟨Z', hx, hW', hv'⟩ := freeze_sound hf hW hv
                    obtain ⟨W', h1, h2⟩ := store_row hW' (cl := true) hi1 he hle (mkV_cells hm) hsz' hone' hk (ha.mono hx.1 (OM.le.refl _)) hv'
                    exact ⟨W', Z', h1, hx, h2⟩
                  · cases h
                · cases h
              · cases h
            · cases h
          · cases h
        · cases h
      · cases h
    · cases h
  · cases h

end Go.V
