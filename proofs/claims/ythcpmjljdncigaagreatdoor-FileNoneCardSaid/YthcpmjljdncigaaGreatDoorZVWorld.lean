/- How the interpreter's heap and the model's memory stay related when one of them changes. No conditions. -/
import Derived.Test.YthcpmjljdncigaaGreatDoorZVBase
import Derived.Laws.World
import Derived.Deep.Draws
namespace Go.V
open RowKit (Below)

def OM.ext (m : OM) (i : Nat) (L : Loc) : OM := fun j => if j = i then some L else m j
theorem OM.le_ext {m : OM} {i : Nat} {L : Loc} (h : m i = Option.none) : m.le (m.ext i L) := fun j K e => by
  unfold OM.ext
  split
  · rename_i hj; subst hj; rw [h] at e; cases e
  · exact e
theorem OM.ext_at (m : OM) (i : Nat) (L : Loc) : m.ext i L i = some L := by simp [OM.ext]

theorem VR.up {Z Z' : FZ} {m m' : OM} {x : AV} {v : Value} (cl : Bool) (hz : Z.le Z') (hm : m.le m') (h : VR Z (if cl then OM.none else m) x v) :
    VR Z' (if cl then OM.none else m') x v := by
  cases cl
  · exact h.mono hz hm
  · exact h.mono hz (OM.le.refl _)

theorem CellsAt.keep {Z Z' : FZ} {m m' : OM} {W W' : World} {b o tot : Nat} {cs : List AV} (cl : Bool) (h : CellsAt Z (if cl then OM.none else m) W b o tot cs)
    (hz : Z.le Z') (hm : m.le m') (hw : W'.heap[b]? = W.heap[b]?) : CellsAt Z' (if cl then OM.none else m') W' b o tot cs := by
  obtain ⟨c, e, fz, h1, h2, h3, h4, h5⟩ := h
  exact ⟨c, e, fz, hw.trans h1, h2, h3, h4, fun j hj => let ⟨v, a, r⟩ := h5 j hj; ⟨v, a, r.up cl hz hm⟩⟩

theorem OR.keep {Z Z' : FZ} {m m' : OM} {W W' : World} {ob : Ob} {L : Loc} (h : OR Z m W ob L) (hz : Z.le Z') (hm : m.le m')
    (hw : ob.alive = true → W'.heap[L.b]? = W.heap[L.b]?) : OR Z' m' W' ob L := by
  cases ob with
  | box cs => exact CellsAt.keep false h hz hm (hw rfl)
  | row cl sz es => exact ⟨h.1, h.2.1, CellsAt.keep cl h.2.2 hz hm (hw rfl)⟩
  | ro sz es =>
    obtain ⟨h0, h1, h2, vs, h3, h4⟩ := h
    exact ⟨h0, h1, h2, vs, fun k j hk hj => hz _ _ _ (h3 k j hk hj), fun k hk j hj => (h4 k hk j hj).mono hz (OM.le.refl _)⟩
  | map es =>
    obtain ⟨es', c, h1, h2, h3⟩ := h
    exact ⟨es', c, (hw rfl).trans h1, h2, fun j hj hj' => ⟨(h3 j hj hj').1.mono hz (OM.le.refl _), (h3 j hj hj').2.mono hz (OM.le.refl _)⟩⟩
  | loop env ps asg body st pend =>
    obtain ⟨r, h1, h2, h3, h4, h5, h6, h7, h8, h9, h10, h11⟩ := h
    exact ⟨r, (hw rfl).trans h1, h2, h3, h4, h5, h6, h7, h8, h9, h10, h11.mono hz hm⟩
  | defs => exact (hw rfl).trans h
  | iter s pos => exact ⟨(hw rfl).trans h.1, h.2⟩
  | hole => trivial
  | dead => trivial

theorem OR.block_lt {Z : FZ} {m : OM} {W : World} {ob : Ob} {L : Loc} (h : OR Z m W ob L) (ha : ob.alive = true) : L.b < W.heap.size := by
  have key : ∀ {o : Obj}, W.heap[L.b]? = some o → L.b < W.heap.size := fun e => (Array.getElem?_eq_some_iff.1 e).1
  cases ob with
  | box cs => obtain ⟨c, e, fz, h1, _⟩ := h; exact key h1
  | row cl sz es => obtain ⟨_, _, c, e, fz, h1, _⟩ := h; exact key h1
  | map es => obtain ⟨es', c, h1, _⟩ := h; exact key h1
  | loop env ps asg body st pend => obtain ⟨r, h1, _⟩ := h; exact key h1
  | defs => exact key h
  | iter s pos => exact key h.1
  | ro sz es => simp [Ob.alive] at ha
  | hole => simp [Ob.alive] at ha
  | dead => simp [Ob.alive] at ha

theorem cell_of_heap {W W' : World} {b o : Nat} (h : W'.heap[b]? = W.heap[b]?) : W'.cell? ⟨b, o, none⟩ = W.cell? ⟨b, o, none⟩ := by
  simp [World.cell?, h]

theorem WR.m_none {Z : FZ} {m : OM} {base : Nat} {W0 : World} {H : List Ob} {W : World} (h : WR Z m base W0 H W) : m H.length = none := by
  cases e : m H.length with
  | none => rfl
  | some L => exact absurd (h.lim _ _ e) (by simp)

theorem WR.z_new {Z : FZ} {m : OM} {base : Nat} {W0 : World} {H : List Ob} {W : World} (h : WR Z m base W0 H W) (b o : Nat) (hb : W.heap.size ≤ b) : Z b o = none := by
  cases e : Z b o with
  | none => rfl
  | some v =>
    have := h.zok _ _ _ e
    simp [World.cell?, Array.getElem?_eq_none hb] at this

/-- The memory grew, or a count of draws went on: all that was there stays. -/
theorem WR.grow {Z : FZ} {m : OM} {base : Nat} {W0 : World} {H : List Ob} {W W' : World} (h : WR Z m base W0 H W) (hw : Below W.heap.size W W') : WR Z m base W0 H W' := by
  refine ⟨h.hb, ?_, ?_, h.lim, ?_, h.inj, h.sep, h.hole⟩
  · exact h.below.trans (hw.mono (Nat.le_trans h.hb h.below.size))
  · intro b o v e
    have hc := h.zok b o v e
    have hlt : b < W.heap.size := World.block_lt_of_cell? W _ hc
    rw [cell_of_heap (hw.block b hlt)]; exact hc
  · intro i ob hi hd
    obtain ⟨L, hL, ho⟩ := h.obs i ob hi hd
    exact ⟨L, hL, ho.keep (FZ.le.refl _) (OM.le.refl _) fun ha => hw.block _ (ho.block_lt ha)⟩

/-- A new object, whose memory is there (in a new block, or in the block of an object that is dead). -/
theorem WR.push {Z : FZ} {m : OM} {base : Nat} {W0 : World} {H : List Ob} {W : World} (h : WR Z m base W0 H W) (ob : Ob) (L : Loc) (hbase : base ≤ L.b)
    (hor : OR Z (m.ext H.length L) W ob L) (hz : ∀ o, Z L.b o = none)
    (hfree : ∀ i ob' L', H[i]? = some ob' → ob'.alive = true → m i = some L' → L'.b ≠ L.b) (hnh : ob ≠ .hole := by simp) : WR Z (m.ext H.length L) base W0 (H ++ [ob]) W := by
  have hle : m.le (m.ext H.length L) := OM.le_ext h.m_none
  have old : ∀ {i ob'}, (H ++ [ob])[i]? = some ob' → (i < H.length ∧ H[i]? = some ob') ∨ (i = H.length ∧ ob' = ob) := by
    intro i ob' e
    by_cases hi : i < H.length
    · rw [List.getElem?_append_left hi] at e; exact .inl ⟨hi, e⟩
    · rw [List.getElem?_append_right (by omega)] at e
      have hlt : i - H.length < [ob].length := (List.getElem?_eq_some_iff.1 e).1
      have h0 : i - H.length = 0 := by simp at hlt; omega
      rw [h0] at e
      simp at e
      exact .inr ⟨by omega, e.symm⟩
  have ext_ne : ∀ {i : Nat}, i < H.length → m.ext H.length L i = m i := fun hi => by simp [OM.ext]; omega
  refine ⟨h.hb, h.below, h.zok, ?_, ?_, ?_, ?_, ?_⟩
  rotate_left 4
  · intro i e
    rcases old e with ⟨hl, hi⟩ | ⟨_, e2⟩
    · rw [ext_ne hl]; exact h.hole i hi
    · exact absurd e2.symm hnh
  · intro i K e
    simp only [OM.ext] at e
    split at e
    · subst_vars; simp
    · have := h.lim i K e; simp; omega
  · intro i ob' hi hd
    rcases old hi with ⟨hl, hi⟩ | ⟨rfl, rfl⟩
    · obtain ⟨K, hK, ho⟩ := h.obs i ob' hi hd
      exact ⟨K, hle _ _ hK, ho.keep (FZ.le.refl _) hle fun _ => rfl⟩
    · exact ⟨L, OM.ext_at _ _ _, hor⟩
  · intro i j o1 o2 K K' hi hj ha hb' hK hK' hbb
    rcases old hi with ⟨hl, hi1⟩ | ⟨e1, e2⟩ <;> rcases old hj with ⟨hl', hj1⟩ | ⟨e3, e4⟩
    · rw [ext_ne hl] at hK; rw [ext_ne hl'] at hK'
      exact h.inj i j _ _ _ _ hi1 hj1 ha hb' hK hK' hbb
    · rw [ext_ne hl] at hK; rw [e3, OM.ext_at] at hK'
      cases hK'
      exact absurd hbb (hfree i _ _ hi1 ha hK)
    · rw [ext_ne hl'] at hK'; rw [e1, OM.ext_at] at hK
      cases hK
      exact absurd hbb.symm (hfree j _ _ hj1 hb' hK')
    · rw [e1, e3]
  · intro i ob' K hi ha hK
    rcases old hi with ⟨hl, hi⟩ | ⟨rfl, rfl⟩
    · rw [ext_ne hl] at hK; exact h.sep i ob' K hi ha hK
    · rw [OM.ext_at] at hK; cases hK; exact ⟨hbase, hz⟩

/-- An object is changed, in the memory that it lies in; or it is dead from now on, whatever becomes of that memory. -/
theorem WR.change {Z : FZ} {m : OM} {base : Nat} {W0 : World} {H : List Ob} {W W' : World} (h : WR Z m base W0 H W) {i : Nat} {ob ob' : Ob} {L : Loc}
    (hi : H[i]? = some ob) (ha : ob.alive = true) (hL : m i = some L)
    (hos : W'.os = W.os) (htape : W'.tape = W.tape) (hout : W'.output = W.output) (hsize : W.heap.size ≤ W'.heap.size)
    (hblk : ∀ k, k < W.heap.size → k ≠ L.b → W'.heap[k]? = W.heap[k]?)
    (hob : (ob'.alive = true ∧ OR Z m W' ob' L) ∨ ob' = .dead) : WR Z m base W0 (H.set i ob') W' := by
  have hsep := h.sep i ob L hi ha hL
  have hlt : i < H.length := (List.getElem?_eq_some_iff.1 hi).1
  have other : ∀ {j o}, (H.set i ob')[j]? = some o → (j ≠ i ∧ H[j]? = some o) ∨ (j = i ∧ o = ob') := by
    intro j o e
    by_cases hj : j = i
    · subst hj
      rw [List.getElem?_set_self hlt] at e
      exact .inr ⟨rfl, (Option.some.inj e).symm⟩
    · rw [List.getElem?_set_ne (fun x => hj x.symm)] at e
      exact .inl ⟨hj, e⟩
  refine ⟨h.hb, ?_, ?_, ?_, ?_, ?_, ?_, ?_⟩
  rotate_left 6
  · intro j e
    rcases other e with ⟨_, hj⟩ | ⟨_, e2⟩
    · exact h.hole j hj
    · rcases hob with ⟨ha', _⟩ | rfl
      · rw [← e2] at ha'; simp [Ob.alive] at ha'
      · cases e2
  · refine h.below.trans ⟨hos, htape, hout, hsize, fun k hk => hblk k ?_ ?_⟩
    · exact Nat.lt_of_lt_of_le hk (Nat.le_trans h.hb h.below.size)
    · exact fun e => absurd hsep.1 (by omega)
  · intro b o v e
    have hne : b ≠ L.b := fun e' => by rw [e', hsep.2] at e; cases e
    have hc := h.zok b o v e
    rw [cell_of_heap (hblk b (World.block_lt_of_cell? W _ hc) hne)]; exact hc
  · intro j K e; have := h.lim j K e; simpa using this
  · intro j o hj hd
    rcases other hj with ⟨hne, hj⟩ | ⟨rfl, rfl⟩
    · obtain ⟨K, hK, ho⟩ := h.obs j o hj hd
      refine ⟨K, hK, ho.keep (FZ.le.refl _) (OM.le.refl _) fun hao => hblk _ (ho.block_lt hao) fun e => hne ?_⟩
      exact h.inj j i _ _ _ _ hj hi hao ha hK hL e
    · rcases hob with ⟨_, ho⟩ | rfl
      · exact ⟨L, hL, ho⟩
      · exact absurd rfl hd.1
  · intro j k o1 o2 K K' hj hk h1 h2 hK hK' hbb
    rcases other hj with ⟨hne, hj1⟩ | ⟨e1, e2⟩ <;> rcases other hk with ⟨hne', hk1⟩ | ⟨e3, e4⟩
    · exact h.inj j k _ _ _ _ hj1 hk1 h1 h2 hK hK' hbb
    · exact (h.inj j i _ _ _ _ hj1 hi h1 ha hK hL (by rw [e3, hL] at hK'; cases hK'; exact hbb)).trans e3.symm
    · exact e1.trans (h.inj i k _ _ _ _ hi hk1 ha h2 hL hK' (by rw [e1, hL] at hK; cases hK; exact hbb))
    · rw [e1, e3]
  · intro j o K hj hao hK
    rcases other hj with ⟨hne, hj⟩ | ⟨rfl, rfl⟩
    · exact h.sep j o K hj hao hK
    · exact h.sep j ob K hi ha hK

/-- A new block of cells for a new object. -/
theorem WR.alloc {Z : FZ} {m : OM} {base : Nat} {W0 : World} {H : List Ob} {W : World} (h : WR Z m base W0 H W) (o : Obj) (ob : Ob) (L : Loc) (hL : L.b = W.heap.size)
    (hor : OR Z (m.ext H.length L) (W.alloc o) ob L) (hnh : ob ≠ .hole := by simp) : WR Z (m.ext H.length L) base W0 (H ++ [ob]) (W.alloc o) := by
  have hg : WR Z m base W0 H (W.alloc o) := h.grow ((Below.refl _ W).alloc (Nat.le_refl _) o)
  refine hg.push ob L ?_ hor ?_ ?_ hnh
  · rw [hL]; exact Nat.le_trans h.hb h.below.size
  · intro j; exact h.z_new _ _ (by omega)
  · intro i ob' L' hi ha hm e
    obtain ⟨K, hK, ho⟩ := h.obs i ob' hi (Ob.alive_ne ha)
    rw [hm] at hK; cases hK
    have := ho.block_lt ha
    omega

/-- A new block of cells for an object that was to come. -/
theorem WR.fill {Z : FZ} {m : OM} {base : Nat} {W0 : World} {H : List Ob} {W : World} (h : WR Z m base W0 H W) (o : Obj) (ob : Ob) (L : Loc) {s : Nat} (hs : H[s]? = some .hole) (hL : L.b = W.heap.size)
    (hor : OR Z (m.ext s L) (W.alloc o) ob L) (hnh : ob ≠ .hole := by simp) : WR Z (m.ext s L) base W0 (H.set s ob) (W.alloc o) := by
  have hg : WR Z m base W0 H (W.alloc o) := h.grow ((Below.refl _ W).alloc (Nat.le_refl _) o)
  have hms : m s = Option.none := h.hole s hs
  have hle : m.le (m.ext s L) := OM.le_ext hms
  have hlt : s < H.length := (List.getElem?_eq_some_iff.1 hs).1
  have hbase : base ≤ L.b := by rw [hL]; exact Nat.le_trans h.hb h.below.size
  have hz : ∀ j, Z L.b j = Option.none := fun j => h.z_new _ _ (by omega)
  have hfree : ∀ i ob' L', H[i]? = some ob' → ob'.alive = true → m i = some L' → L'.b ≠ L.b := by
    intro i ob' L' hi ha hm e
    obtain ⟨K, hK, ho⟩ := h.obs i ob' hi (Ob.alive_ne ha)
    rw [hm] at hK; cases hK
    have := ho.block_lt ha
    omega
  have old : ∀ {i ob'}, (H.set s ob)[i]? = some ob' → (i ≠ s ∧ H[i]? = some ob') ∨ (i = s ∧ ob' = ob) := by
    intro i ob' e
    by_cases hi : i = s
    · subst hi; rw [List.getElem?_set_self hlt] at e; exact .inr ⟨rfl, (Option.some.inj e).symm⟩
    · rw [List.getElem?_set_ne (fun x => hi x.symm)] at e; exact .inl ⟨hi, e⟩
  have ext_ne : ∀ {i : Nat}, i ≠ s → m.ext s L i = m i := fun hi => by simp [OM.ext, hi]
  refine ⟨hg.hb, hg.below, hg.zok, ?_, ?_, ?_, ?_, ?_⟩
  · intro i K e
    simp only [OM.ext] at e
    split at e
    · subst_vars; simpa using hlt
    · have := h.lim i K e; simpa using this
  · intro i ob' hi hd
    rcases old hi with ⟨hl, hi⟩ | ⟨rfl, rfl⟩
    · obtain ⟨K, hK, ho⟩ := hg.obs i ob' hi hd
      exact ⟨K, hle _ _ hK, ho.keep (FZ.le.refl _) hle fun _ => rfl⟩
    · exact ⟨L, OM.ext_at _ _ _, hor⟩
  · intro i j o1 o2 K K' hi hj ha hb' hK hK' hbb
    rcases old hi with ⟨hl, hi1⟩ | ⟨e1, e2⟩ <;> rcases old hj with ⟨hl', hj1⟩ | ⟨e3, e4⟩
    · rw [ext_ne hl] at hK; rw [ext_ne hl'] at hK'
      exact h.inj i j _ _ _ _ hi1 hj1 ha hb' hK hK' hbb
    · rw [ext_ne hl] at hK; rw [e3, OM.ext_at] at hK'
      cases hK'
      exact absurd hbb (hfree i _ _ hi1 ha hK)
    · rw [ext_ne hl'] at hK'; rw [e1, OM.ext_at] at hK
      cases hK
      exact absurd hbb.symm (hfree j _ _ hj1 hb' hK')
    · rw [e1, e3]
  · intro i ob' K hi ha hK
    rcases old hi with ⟨hl, hi⟩ | ⟨rfl, rfl⟩
    · rw [ext_ne hl] at hK; exact h.sep i ob' K hi ha hK
    · rw [OM.ext_at] at hK; cases hK; exact ⟨hbase, hz⟩
  · intro i e
    rcases old e with ⟨hl, hi⟩ | ⟨_, e2⟩
    · rw [ext_ne hl]; exact h.hole i hi
    · exact absurd e2.symm hnh

/-- Places for objects to come. -/
theorem WR.room {Z : FZ} {m : OM} {base : Nat} {W0 : World} {H : List Ob} {W : World} (h : WR Z m base W0 H W) (n : Nat) : WR Z m base W0 (H ++ List.replicate n .hole) W := by
  have old : ∀ {i ob'}, (H ++ List.replicate n Ob.hole)[i]? = some ob' → H[i]? = some ob' ∨ (H.length ≤ i ∧ ob' = .hole) := by
    intro i ob' e
    by_cases hi : i < H.length
    · rw [List.getElem?_append_left hi] at e; exact .inl e
    · rw [List.getElem?_append_right (by omega), List.getElem?_replicate] at e
      split at e
      · cases e; exact .inr ⟨by omega, rfl⟩
      · cases e
  refine ⟨h.hb, h.below, h.zok, fun i L e => ?_, fun i ob hi hd => ?_, fun i j ob ob' L L' hi hj ha hb => ?_, fun i ob L hi ha hL => ?_, fun i e => ?_⟩
  · have := h.lim i L e; simp; omega
  · rcases old hi with hi | ⟨_, rfl⟩
    · exact h.obs i ob hi hd
    · exact absurd rfl hd.2
  · rcases old hi with hi | ⟨_, rfl⟩
    · rcases old hj with hj | ⟨_, rfl⟩
      · exact h.inj i j ob ob' L L' hi hj ha hb
      · simp [Ob.alive] at hb
    · simp [Ob.alive] at ha
  · rcases old hi with hi | ⟨_, rfl⟩
    · exact h.sep i ob L hi ha hL
    · simp [Ob.alive] at ha
  · rcases old e with hi | ⟨hle, _⟩
    · exact h.hole i hi
    · cases e : m i with
      | none => rfl
      | some L => have := h.lim i L e; omega

theorem cellsAt_new {Z : FZ} {m : OM} {W : World} {b : Nat} {c : Array Value} {e : TypeId} {cs : List AV} (hb : b = W.heap.size) (hl : cs.length ≤ c.size)
    (hv : ∀ j (h : j < cs.length), ∃ v, c[j]? = some v ∧ VR Z m cs[j] v) : CellsAt Z m (W.alloc (.cells c e)) b 0 c.size cs := by
  refine ⟨c, e, (0, 0), ?_, rfl, by omega, fun j _ => by simp, fun j hj => ?_⟩
  · subst hb; exact Array.getElem?_push_size
  · simpa using hv j hj

theorem WR.drewN {Z : FZ} {m : OM} {base : Nat} {W0 : World} {H : List Ob} {W : World} (h : WR Z m base W0 H W) (n : Nat) : WR Z m base W0 H { W with drawn := W.drawn + n } :=
  h.grow ⟨rfl, rfl, rfl, Nat.le_refl _, fun _ _ => rfl⟩

/-- A cell of an object that is written. -/
theorem CellsAt.get {Z : FZ} {m : OM} {W : World} {b o tot : Nat} {cs : List AV} (h : CellsAt Z m W b o tot cs) (j : Nat) (hj : j < cs.length) :
    ∃ v, W.cell? ⟨b, o + j, none⟩ = some v ∧ VR Z m cs[j] v := by
  obtain ⟨c, e, fz, h1, h2, h3, h4, h5⟩ := h
  obtain ⟨v, hv, hr⟩ := h5 j hj
  exact ⟨v, by simp [World.cell?, h1, hv], hr⟩

theorem CellsAt.free {Z : FZ} {m : OM} {W : World} {b o tot : Nat} {cs : List AV} (h : CellsAt Z m W b o tot cs) (j : Nat) (hj : j < tot) : W.frozen? ⟨b, j, none⟩ = false := by
  obtain ⟨c, e, fz, h1, h2, h3, h4, h5⟩ := h
  have := h4 j hj
  simp only [World.frozen?, h1]
  simp only [not_and, Nat.not_lt] at this
  by_cases h' : fz.1 ≤ j <;> simp [h']
  exact this h'

theorem CellsAt.some {Z : FZ} {m : OM} {W : World} {b o tot : Nat} {cs : List AV} (h : CellsAt Z m W b o tot cs) (j : Nat) (hj : j < tot) : ∃ v, W.cell? ⟨b, j, none⟩ = some v := by
  obtain ⟨c, e, fz, h1, h2, h3, h4, h5⟩ := h
  exact ⟨c[j], by simp [World.cell?, h1, h2, hj]⟩

end Go.V
