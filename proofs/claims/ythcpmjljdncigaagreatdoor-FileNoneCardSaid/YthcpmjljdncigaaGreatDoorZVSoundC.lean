/- Arrays that are frozen, and new objects: held against the model's memory. No conditions. -/
import Derived.Test.YthcpmjljdncigaaGreatDoorZVSoundB
import Derived.Laws.Append
import Derived.Laws.MakeOwn
import Derived.Laws.BytesString
import Derived.Laws.NewBlocks
set_option linter.unusedSimpArgs false
set_option linter.unusedVariables false
namespace Go.V
open RowKit (Below)
variable {P : Program} {Z : FZ} {m : OM} {base : Nat} {W0 : World} {H : Heap} {W : World}

def Ext (base : Nat) (Z Z' : FZ) (m m' : OM) : Prop := Z.le Z' ∧ m.le m' ∧ ∀ b o v, Z' b o = some v → Z b o = some v ∨ base ≤ b

theorem Ext.refl (base : Nat) (Z : FZ) (m : OM) : Ext base Z Z m m := ⟨FZ.le.refl _, OM.le.refl _, fun _ _ _ h => .inl h⟩
theorem Ext.trans {Z' Z'' : FZ} {m' m'' : OM} (h : Ext base Z Z' m m') (k : Ext base Z' Z'' m' m'') : Ext base Z Z'' m m'' :=
  ⟨h.1.trans k.1, h.2.1.trans k.2.1, fun b o v e => (k.2.2 b o v e).elim (fun e => h.2.2 b o v e) .inr⟩
theorem Ext.of_m {m' : OM} (h : m.le m') : Ext base Z Z m m' := ⟨FZ.le.refl _, h, fun _ _ _ h => .inl h⟩

/-- The array of an object is frozen. -/
theorem freeze_row (hW : WR Z m base W0 H W) {i sz : Nat} {es : List AV} (hi : H[i]? = some (.row true sz es)) :
    ∃ Z', Ext base Z Z' m m ∧ WR Z' m base W0 (H.set i (.ro sz es)) W := by
  obtain ⟨L, hL, h00, hs, hc⟩ := hW.obs i _ hi (by simp)
  simp only [if_true] at hc
  have hsep := hW.sep i _ L hi rfl hL
  have hlen := flatMap_cells_length hs
  let Z' : FZ := fun b o => if b = L.b ∧ L.o ≤ o ∧ o < L.o + es.length * L.sz then W.cell? ⟨b, o, none⟩ else Z b o
  have hzz : Z.le Z' := by
    intro b o v e
    have hne : b ≠ L.b := fun e' => by rw [e', hsep.2] at e; cases e
    simp [Z', hne, e]
  have hlt : i < H.length := (List.getElem?_eq_some_iff.1 hi).1
  have other : ∀ {j o}, (H.set i (.ro sz es))[j]? = some o → (j ≠ i ∧ H[j]? = some o) ∨ (j = i ∧ o = .ro sz es) := by
    intro j o e
    by_cases hj : j = i
    · subst hj; rw [List.getElem?_set_self hlt] at e; exact .inr ⟨rfl, (Option.some.inj e).symm⟩
    · rw [List.getElem?_set_ne (fun x => hj x.symm)] at e; exact .inl ⟨hj, e⟩
  refine ⟨Z', ⟨hzz, OM.le.refl _, ?_⟩, hW.hb, hW.below, ?_, ?_, ?_, ?_, ?_, ?_⟩
  rotate_left 6
  · intro j e
    rcases other e with ⟨_, hj⟩ | ⟨_, e2⟩
    · exact hW.hole j hj
    · cases e2
  · intro b o v e
    simp only [Z'] at e
    split at e
    · rename_i h; exact .inr (by rw [h.1]; exact hsep.1)
    · exact .inl e
  · intro b o v e
    simp only [Z'] at e
    split at e
    · exact e
    · exact hW.zok b o v e
  · intro j K e; have := hW.lim j K e; simpa using this
  · intro j o hj hd
    rcases other hj with ⟨hne, hj⟩ | ⟨rfl, rfl⟩
    · obtain ⟨K, hK, ho⟩ := hW.obs j o hj hd
      exact ⟨K, hK, ho.keep hzz (OM.le.refl _) fun _ => rfl⟩
    · refine ⟨L, hL, h00, hs, ?_, fun k q => (W.cell? ⟨L.b, L.o + k * L.sz + q, none⟩).getD Go.undef, ?_, ?_⟩
      · obtain ⟨c, e, fz, h1, h2, h3, h4, h5⟩ := hc; omega
      · intro k q hk hq
        have hq2 : k * L.sz + q < es.length * L.sz := by
          calc k * L.sz + q < k * L.sz + L.sz := by omega
            _ = (k + 1) * L.sz := by rw [Nat.succ_mul]
            _ ≤ es.length * L.sz := Nat.mul_le_mul_right _ hk
        obtain ⟨v, hv, _⟩ := hc.get (k * L.sz + q) (by omega)
        have e1 : L.o + (k * L.sz + q) = L.o + k * L.sz + q := by omega
        rw [e1] at hv
        simp only [Z']
        rw [if_pos ⟨trivial, by omega, by omega⟩, hv]; rfl
      · intro k hk q hq
        have hq' : q < L.sz := by rw [← hs k hk]; exact hq
        have hq2 : k * L.sz + q < es.length * L.sz := by
          calc k * L.sz + q < k * L.sz + L.sz := by omega
            _ = (k + 1) * L.sz := by rw [Nat.succ_mul]
            _ ≤ es.length * L.sz := Nat.mul_le_mul_right _ hk
        obtain ⟨v, hv, hr⟩ := hc.get (k * L.sz + q) (by omega)
        have e1 : L.o + (k * L.sz + q) = L.o + k * L.sz + q := by omega
        rw [e1] at hv
        simp only [hv, Option.getD_some]
        have e2 : (es.flatMap AV.cells)[k * L.sz + q]'(by omega) = (es[k]).cells[q] := by
          have h1 := flatMap_cells_get hs hk
          have h2 : ((es.flatMap AV.cells).drop (k * L.sz)).take L.sz = (es[k]).cells := h1
          have h3 : (((es.flatMap AV.cells).drop (k * L.sz)).take L.sz)[q]? = some ((es[k]).cells[q]) := by rw [h2]; exact List.getElem?_eq_getElem hq
          rw [List.getElem?_take_of_lt hq', List.getElem?_drop] at h3
          exact (List.getElem?_eq_some_iff.1 h3).2
        rw [e2] at hr
        exact hr.mono hzz (OM.le.refl _)
  · intro j k o1 o2 K K' hj hk h1 h2 hK hK' hbb
    rcases other hj with ⟨hne, hj1⟩ | ⟨e1, e2⟩
    · rcases other hk with ⟨hne', hk1⟩ | ⟨e3, e4⟩
      · exact hW.inj j k _ _ _ _ hj1 hk1 h1 h2 hK hK' hbb
      · rw [e4] at h2; simp [Ob.alive] at h2
    · rw [e2] at h1; simp [Ob.alive] at h1
  · intro j o K hj hao hK
    rcases other hj with ⟨hne, hj1⟩ | ⟨e1, e2⟩
    · refine ⟨(hW.sep j o K hj1 hao hK).1, fun x => ?_⟩
      have hne2 : K.b ≠ L.b := fun e => hne (hW.inj j i _ _ _ _ hj1 hi hao rfl hK hL e)
      simp [Z', hne2, (hW.sep j o K hj1 hao hK).2 x]
    · rw [e2] at hao; simp [Ob.alive] at hao

/-- A slice of an array that is frozen, told by what it holds. -/
theorem ro_slice (hW : WR Z m base W0 H W) {i off len sz : Nat} {es : List AV} (hi : H[i]? = some (.ro sz es)) (hle : off + len ≤ es.length) {v : Value}
    (hv : VR Z m (.ref i off len) v) : VR Z OM.none (.sl ((es.drop off).take len)) v := by
  cases hv with
  | ref hcap hloc =>
    rename_i b o cap
    have hlen : ((es.drop off).take len).length = len := by simp; omega
    by_cases hc : 0 < cap
    · obtain ⟨L, hL, rfl, rfl, hfit⟩ := hloc hc
      obtain ⟨L', hL', _, hs, hle2, vs, hz, hr⟩ := hW.obs i _ hi (by simp)
      rw [hL] at hL'; cases hL'
      have := VR.sl (Z := Z) (m := OM.none) (es := (es.drop off).take len) (b := L.b) (o := L.o + off * L.sz) (cap := cap) (sz := L.sz) (fun k j => vs (off + k) j) (by omega)
        (fun k hk => by simp only [List.getElem_take, List.getElem_drop]; simp at hk; exact hs _ (by omega))
        (fun k j hk hj => by
          simp at hk
          have := hz (off + k) j (by omega) hj
          rwa [show L.o + off * L.sz + k * L.sz + j = L.o + (off + k) * L.sz + j by rw [Nat.add_mul]; omega])
        (fun k hk j hj => by
          simp only [List.getElem_take, List.getElem_drop] at hj ⊢
          simp at hk
          exact hr (off + k) (by omega) j hj) (fun _ => rfl)
      rwa [hlen] at this
    · have h0 : len = 0 := by omega
      have := VR.sl (Z := Z) (m := OM.none) (es := (es.drop off).take len) (b := b) (o := o) (cap := cap) (sz := 0) (fun _ _ => Go.undef) (by omega)
        (fun k hk => absurd hk (by omega)) (fun k j hk => absurd hk (by omega)) (fun k hk => absurd hk (by omega)) (fun _ => rfl)
      rwa [hlen] at this

mutual
theorem freeze_sound : ∀ {x : AV} {Z : FZ} {H H' : Heap} {y : AV} {v : Value}, freeze H x = some (y, H') → WR Z m base W0 H W → VR Z m x v →
    ∃ Z', Ext base Z Z' m m ∧ WR Z' m base W0 H' W ∧ VR Z' OM.none y v
  | .ref i off len, Z, H, H', y, v, h, hW, hv => by
    unfold freeze at h
    split at h
    · rename_i sz es hi
      split at h
      · rename_i hle
        cases h
        obtain ⟨Z', hx, hW'⟩ := freeze_row hW hi
        have hlt : i < H.length := (List.getElem?_eq_some_iff.1 hi).1
        exact ⟨Z', hx, hW', ro_slice hW' (List.getElem?_set_self hlt) hle (hv.mono hx.1 (OM.le.refl _))⟩
      · cases h
    · rename_i sz es hi
      split at h
      · rename_i hle
        cases h
        exact ⟨Z, Ext.refl _ _ _, hW, ro_slice hW hi hle hv⟩
      · cases h
    · cases h
  | .agg cs, Z, H, H', y, v, h, hW, hv => by
    unfold freeze at h
    split at h
    · rename_i ys H1 hf
      cases h
      cases hv with
      | agg hl hr =>
        obtain ⟨Z', hx, hW', hl', hr'⟩ := freezes_sound hf hW ⟨hl, hr⟩
        exact ⟨Z', hx, hW', .agg hl' hr'⟩
    · cases h
  | .tup cs, Z, H, H', y, v, h, hW, hv => by
    unfold freeze at h
    split at h
    · rename_i ys H1 hf
      cases h
      cases hv with
      | tup hl hr =>
        obtain ⟨Z', hx, hW', hl', hr'⟩ := freezes_sound hf hW ⟨hl, hr⟩
        exact ⟨Z', hx, hW', .tup hl' hr'⟩
    · cases h
  | .bool b, Z, H, H', y, v, h, hW, hv => by
    simp [freeze] at h; obtain ⟨rfl, rfl⟩ := h; cases hv; exact ⟨Z, Ext.refl _ _ _, hW, .bool⟩
  | .int k n, Z, H, H', y, v, h, hW, hv => by
    simp [freeze] at h; obtain ⟨rfl, rfl⟩ := h; cases hv; exact ⟨Z, Ext.refl _ _ _, hW, .int⟩
  | .str s, Z, H, H', y, v, h, hW, hv => by
    simp [freeze] at h; obtain ⟨rfl, rfl⟩ := h; cases hv; exact ⟨Z, Ext.refl _ _ _, hW, .str⟩
  | .nilp, Z, H, H', y, v, h, hW, hv => by
    simp [freeze] at h; obtain ⟨rfl, rfl⟩ := h; cases hv; exact ⟨Z, Ext.refl _ _ _, hW, .nilp⟩
  | .nils, Z, H, H', y, v, h, hW, hv => by
    simp [freeze] at h; obtain ⟨rfl, rfl⟩ := h; cases hv; exact ⟨Z, Ext.refl _ _ _, hW, .nils⟩
  | .nilm, Z, H, H', y, v, h, hW, hv => by
    simp [freeze] at h; obtain ⟨rfl, rfl⟩ := h; cases hv; exact ⟨Z, Ext.refl _ _ _, hW, .nilm⟩
  | .nilf, Z, H, H', y, v, h, hW, hv => by
    simp [freeze] at h; obtain ⟨rfl, rfl⟩ := h; cases hv; exact ⟨Z, Ext.refl _ _ _, hW, .nilf⟩
  | .nili, Z, H, H', y, v, h, hW, hv => by
    simp [freeze] at h; obtain ⟨rfl, rfl⟩ := h; cases hv; exact ⟨Z, Ext.refl _ _ _, hW, .nili⟩
  | .sl es, Z, H, H', y, v, h, hW, hv => by
    simp [freeze] at h; obtain ⟨rfl, rfl⟩ := h; cases hv with
    | sl vs a b c d e => exact ⟨Z, Ext.refl _ _ _, hW, .sl vs a b c d e⟩
  | .raddr u, Z, H, H', y, v, h, hW, hv => by
    simp [freeze] at h; obtain ⟨rfl, rfl⟩ := h; cases hv with
    | raddr vs a b => exact ⟨Z, Ext.refl _ _ _, hW, .raddr vs a b⟩
  | .undef, Z, H, H', y, v, h, hW, hv => by simp [freeze] at h
  | .ptr .., Z, H, H', y, v, h, hW, hv => by simp [freeze] at h
  | .eptr .., Z, H, H', y, v, h, hW, hv => by simp [freeze] at h
  | .map _, Z, H, H', y, v, h, hW, hv => by simp [freeze] at h
  | .fn .., Z, H, H', y, v, h, hW, hv => by simp [freeze] at h
theorem freezes_sound : ∀ {xs : List AV} {Z : FZ} {H H' : Heap} {ys : List AV} {vs : List Value}, freezes H xs = some (ys, H') → WR Z m base W0 H W → LVR Z m xs vs →
    ∃ Z', Ext base Z Z' m m ∧ WR Z' m base W0 H' W ∧ LVR Z' OM.none ys vs
  | [], Z, H, H', ys, vs, h, hW, hv => by
    simp [freezes] at h; obtain ⟨rfl, rfl⟩ := h
    rw [hv.nil]
    exact ⟨Z, Ext.refl _ _ _, hW, rfl, fun j h => absurd h (by simp)⟩
  | x :: xs, Z, H, H', ys, vs, h, hW, hv => by
    obtain ⟨v, vs', rfl, hx, hxs⟩ := hv.cons
    unfold freezes at h
    split at h
    · rename_i y H1 hf
      split at h
      · rename_i ys' H2 hf2
        cases h
        obtain ⟨Z1, e1, w1, r1⟩ := freeze_sound hf hW hx
        obtain ⟨Z2, e2, w2, r2⟩ := freezes_sound hf2 w1 (show LVR Z1 m xs vs' from ⟨hxs.1, fun j a b => (hxs.2 j a b).mono e1.1 (OM.le.refl _)⟩)
        refine ⟨Z2, e1.trans e2, w2, by simp [r2.1], fun j a b => ?_⟩
        cases j with
        | zero => exact r1.mono e2.1 (OM.le.refl _)
        | succ j => exact r2.2 j (by simpa using a) (by simpa using b)
      · cases h
    · cases h
end

end Go.V
