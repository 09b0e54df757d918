/- Literals of slices, make, conversions; each operation that is no call of a Go function: held against the model's. No conditions. -/
import Derived.Test.YthcpmjljdncigaaGreatDoorZVSoundM
import Derived.Laws.IdiomStrings
set_option linter.unusedSimpArgs false
set_option linter.unusedVariables false
namespace Go.V
open RowKit (Below)
variable {P : Program} {Z : FZ} {m : OM} {base : Nat} {W0 : World} {H : Heap} {W : World}

theorem kn_ne {x : AV} (h : x.kn = true) : x ≠ .undef := by intro e; subst e; simp [AV.kn] at h

theorem fillV_sound {sz : Nat} {mm : OM} : ∀ {ivs : List (Nat × AV)} {ivs' : List (Nat × Value)} {es es' : List AV} {cs : Array Value}, fillV es ivs = some es' →
    (∀ p ∈ ivs, p.2.cells.length = sz ∧ p.2.kn = true) → (∀ k (h : k < es.length), (es[k]).cells.length = sz) → LVR Z mm (es.flatMap AV.cells) cs.toList →
    ivs.map (·.1) = ivs'.map (·.1) → LVR Z mm (ivs.map (·.2)) (ivs'.map (·.2)) →
    ∃ cs', Instr.fill (fun i => some (i * sz, sz)) cs ivs' = some cs' ∧ LVR Z mm (es'.flatMap AV.cells) cs'.toList ∧ (∀ k (h : k < es'.length), (es'[k]).cells.length = sz) ∧ es'.length = es.length
  | [], ivs', es, es', cs, h, hk, hs, hl, hi, hp => by
    have : ivs' = [] := by cases ivs' with
      | nil => rfl
      | cons _ _ => simp at hi
    subst this
    simp [fillV] at h; subst h
    exact ⟨cs, rfl, hl, hs, rfl⟩
  | (i, x) :: ivs, ivs', es, es', cs, h, hk, hs, hl, hi, hp => by
    cases ivs' with
    | nil => simp at hi
    | cons q ivs' =>
      obtain ⟨i', v⟩ := q
      simp at hi
      obtain ⟨rfl, hi⟩ := hi
      obtain ⟨v', vs2, e1, hx, hp'⟩ := LVR.cons (by simpa using hp)
      cases e1
      unfold fillV at h
      split at h
      · rename_i hlt
        obtain ⟨hxs, hxk⟩ := hk (i, x) (by simp)
        simp only at hxs hxk
        have hv := hx.lvr (kn_ne hxk)
        have e1 : v.cells.size = sz := by have := hv.1; simp at this; omega
        have e2 : cs.size = es.length * sz := by have := hl.1; rw [flatMap_cells_length hs] at this; simp at this; omega
        have hin : i * sz + sz ≤ es.length * sz := by
          calc i * sz + sz = (i + 1) * sz := by rw [Nat.succ_mul]
            _ ≤ es.length * sz := Nat.mul_le_mul_right _ hlt
        have hset : (es.set i x).flatMap AV.cells = splice (es.flatMap AV.cells) (i * sz + 0) x.cells :=
          splice_flatMap (ys := x.cells) (off := 0) hs hlt (by omega) (by simp [splice, hxs, hs i hlt])
        have hnew : LVR Z mm ((es.set i x).flatMap AV.cells) (v.cells.zipIdx.foldl (fun cs (c, j) => cs.setIfInBounds (i * sz + j) c) cs).toList := by
          rw [fill_one v (i * sz) cs (by omega), hset, Nat.add_zero]
          exact hl.splice hv (by rw [flatMap_cells_length hs, hxs]; exact hin)
        have hs' : ∀ k (h : k < (es.set i x).length), ((es.set i x)[k]).cells.length = sz := by
          intro k hk'
          rw [List.getElem_set]
          split
          · exact hxs
          · exact hs _ _
        obtain ⟨cs', h4, h5, h6, h7⟩ := fillV_sound h (fun p hp => hk p (by simp [hp])) hs' hnew hi hp'
        refine ⟨cs', ?_, h5, h6, by rw [h7]; simp⟩
        unfold Instr.fill
        simp only []
        rw [if_neg (by simp [e1]; omega)]
        exact h4
      · cases h

theorem buildSlice_sound (hW : WR Z m base W0 H W) {t : TypeId} {n : Nat} {parts : List (Nat × AV)} {parts' : Array (Nat × Value)} {y : AV} {H' : Heap} (h : buildSliceV P t n parts H = some (y, H'))
    (hi : parts.map (·.1) = parts'.toList.map (·.1)) (hp : LVR Z m (parts.map (·.2)) (parts'.toList.map (·.2))) :
    ∃ v W' Z' m', (Instr.buildSlice t n parts').run P W = .ok v W' ∧ Ext base Z Z' m m' ∧ WR Z' m' base W0 H' W' ∧ VR Z' m' y v := by
  unfold buildSliceV at h
  split at h
  · rename_i e hu
    split at h
    · rename_i zc hzz
      split at h
      · rename_i z hm
        split at h
        · rename_i hc
          obtain ⟨hn, hcells, hzs, hk⟩ := hc
          obtain ⟨d, hd⟩ := known_und hk
          have hs0 : ∀ k (h : k < (List.replicate n z).length), ((List.replicate n z)[k]).cells.length = P.cellsOf e := fun k h => by simp [hzs]
          -- the array of zeros, whatever map
          have zeros : ∀ (ZZ : FZ) (mm : OM), ∃ zcells : Array Value, (∀ W1, (if n * P.cellsOf e = 0 then pure #[] else do pure (← zeroValue e).cells : Sem (Array Value)).run P W1 = .ok zcells W1) ∧
              LVR ZZ mm ((List.replicate n z).flatMap AV.cells) ((Array.range (n * P.cellsOf e)).map (zcells[· % zcells.size]!)).toList := by
            intro ZZ mm
            by_cases h0 : n * P.cellsOf e = 0
            · refine ⟨#[], fun W1 => by simp [h0], ?_⟩
              refine ⟨?_, fun j hj => ?_⟩
              · rw [flatMap_cells_length hs0]; simp [h0]
              · rw [flatMap_cells_length hs0] at hj; simp at hj; omega
            · obtain ⟨zv, _, hzl, hzv⟩ := zeroP_run (Z := ZZ) (m := mm) (W := W) hzz
              refine ⟨zv.cells, fun W1 => ?_, ?_⟩
              · obtain ⟨zv', hzr, _, hzv'⟩ := zeroP_run (Z := ZZ) (m := mm) (W := W1) hzz
                rw [hzv] at hzv'; cases hzv'
                simp [h0, hzr]
              · have hzsz : zv.cells.size = P.cellsOf e := by
                  have := hzl.1; rw [← mkV_cells hm, hzs] at this; simpa using this.symm
                exact zeros_lvr (e := e) hzl (mkV_cells hm) hzsz
          have run_of : ∀ (W1 : World) (zcells cells : Array Value), (if n * P.cellsOf e = 0 then pure #[] else do pure (← zeroValue e).cells : Sem (Array Value)).run P W1 = .ok zcells W1 →
              Instr.fill (fun i => some (i * P.cellsOf e, P.cellsOf e)) ((Array.range (n * P.cellsOf e)).map (zcells[· % zcells.size]!)) parts'.toList = some cells →
              (Instr.buildSlice t n parts').run P W1 = .ok (.slice (some ⟨W1.heap.size, 0, none⟩) n n) (W1.alloc (.cells cells e)) := by
            intro W1 zcells cells hz hf
            unfold Instr.buildSlice
            rw [Sem.run_bind, run_underlying hu, Result.andThen_ok]
            simp only []
            rw [Sem.run_bind, run_size hd, Result.andThen_ok]
            rw [if_neg (by omega)]
            by_cases h0 : n * P.cellsOf e = 0
            · simp only [h0, if_true] at hz ⊢
              simp only [Sem.run_pure, Result.ok.injEq] at hz
              obtain ⟨rfl, _⟩ := hz
              rw [h0] at hf
              simp only [Sem.run_bind, Sem.run_pure, Result.andThen_ok]
              rw [hf]
              simp only [newRow, Sem.run_bind, run_newObj, Sem.run_pure, Result.andThen_ok]
              rfl
            · simp only [h0, if_false] at hz ⊢
              rw [Sem.run_bind] at hz ⊢
              cases hzv : (zeroValue e).run P W1 with
              | halt hh ww => rw [hzv] at hz; simp at hz
              | ok zv w2 =>
                rw [hzv] at hz
                simp only [Result.andThen_ok, Sem.run_pure, Result.ok.injEq] at hz
                obtain ⟨rfl, rfl⟩ := hz
                simp only [Result.andThen_ok, Sem.run_bind, Sem.run_pure]
                rw [hf]
                simp only [newRow, Sem.run_bind, run_newObj, Sem.run_pure, Result.andThen_ok]
                rfl
          have finish : ∀ (Z1 : FZ) (H1 : Heap) (cl : Bool) (ivs : List (Nat × AV)) (es : List AV), Ext base Z Z1 m m → WR Z1 m base W0 H1 W → fillV (List.replicate n z) ivs = some es →
              (∀ p ∈ ivs, p.2.cells.length = P.cellsOf e ∧ p.2.kn = true) → ivs.map (·.1) = parts'.toList.map (·.1) → LVR Z1 (clM cl m) (ivs.map (·.2)) (parts'.toList.map (·.2)) →
              ∃ v W' Z' m', (Instr.buildSlice t n parts').run P W = .ok v W' ∧ Ext base Z Z' m m' ∧ WR Z' m' base W0 (H1 ++ [.row cl (P.cellsOf e) es]) W' ∧ VR Z' m' (.ref H1.length 0 n) v := by
            intro Z1 H1 cl ivs es hx hW1 hf hkk hi1 hp1
            obtain ⟨zcells, hzr, hzl⟩ := zeros Z1 (clM cl m)
            obtain ⟨cells, h1, h2, h3, h4⟩ := fillV_sound hf hkk hs0 hzl hi1 hp1
            have hlen : es.length = n := by simpa using h4
            have hsize : cells.size = n * P.cellsOf e := by have := h2.1; rw [flatMap_cells_length h3, hlen] at this; simpa using this.symm
            obtain ⟨m', g1, g2, g3⟩ := new_row hW1 e cl (es := es) (sz := P.cellsOf e) (cap := n) (c := cells) h3 (by omega) (by omega) (0, 0) (fun j _ => by simp)
              (by rw [hlen, List.take_of_length_le (by simp; omega)]; exact h2)
            rw [hlen] at g3
            exact ⟨_, _, Z1, m', run_of W zcells cells (hzr W) h1, hx.trans g1, g2, g3⟩
          split at h
          · rename_i vs H1 hfz
            split at h
            · rename_i hc2
              obtain ⟨hsv, hkv⟩ := hc2
              split at h
              · rename_i es hfill
                cases h
                obtain ⟨Z1, hx, hW1, hvl⟩ := freezes_sound hfz hW hp
                have hlen : vs.length = parts.length := by have := hvl.1; have := hp.1; simp at *; omega
                refine finish Z1 H1 true _ es hx hW1 hfill (fun p hp' => ?_) ?_ ?_
                · have hmem := List.of_mem_zip hp'
                  obtain ⟨k, hk1, hk2⟩ := List.getElem_of_mem hmem.2
                  refine ⟨by rw [← hk2]; exact sizedV_get hsv hk1, ?_⟩
                  rw [List.all_eq_true] at hkv; exact hkv _ hmem.2
                · rw [← hi, List.map_fst_zip (by simp [hlen])]
                · rw [List.map_snd_zip (by simp [hlen])]; exact hvl
              · cases h
            · cases h
          · split at h
            · rename_i hc2
              obtain ⟨hsv, hkv⟩ := hc2
              split at h
              · rename_i es hfill
                cases h
                refine finish Z H false parts es (Ext.refl _ _ _) hW hfill (fun p hp' => ?_) hi hp
                have hmem : p.2 ∈ parts.map (·.2) := List.mem_map_of_mem hp'
                obtain ⟨k, hk1, hk2⟩ := List.getElem_of_mem hmem
                refine ⟨by rw [← hk2]; exact sizedV_get hsv hk1, ?_⟩
                rw [List.all_eq_true] at hkv; exact hkv _ hmem
              · cases h
            · cases h
        · cases h
      · cases h
    · cases h
  · cases h

theorem makeSlice_sound (hW : WR Z m base W0 H W) {t : TypeId} {l c y : AV} {vl vc : Value} {H' : Heap} (h : makeSliceV P t l c H = some (y, H')) (hl : VR Z m l vl) (hc : VR Z m c vc) :
    ∃ v W' m', (Instr.makeSlice t vl vc).run P W = .ok v W' ∧ Ext base Z Z m m' ∧ WR Z m' base W0 H' W' ∧ VR Z m' y v := by
  unfold makeSliceV at h
  split at h
  · rename_i e kl l kc c hu
    split at h
    · rename_i zc hzz
      split at h
      · rename_i z hm
        split at h
        · rename_i hcc
          obtain ⟨h0, h1, h2, h3, h4⟩ := hcc
          cases h; cases hl; cases hc
          obtain ⟨zv, _, hzl, hzv⟩ := zeroP_run (Z := Z) (m := clM true m) (W := W) hzz
          obtain ⟨i, hi, hz0⟩ : ∃ i, P.info? e = some i ∧ i.zero = some zv := by
            cases hi : P.info? e with
            | none => simp [hi] at hzv
            | some i => simp [hi] at hzv; exact ⟨i, rfl, hzv⟩
          have hsz : i.size = P.cellsOf e := by simp [Program.cellsOf, hi]
          have hby : i.bytes = P.bytesOf e := by simp [Program.bytesOf, hi]
          have hzsz : zv.cells.size = P.cellsOf e := by
            have := hzl.1; rw [← mkV_cells hm, h4] at this; simpa using this.symm
          unfold roomV at h2 h3
          have hr := run_make (P := P) W t e i zv hu hi hz0 kl kc l c h0 h1 (by rw [hby]; omega) (by omega)
          have hs : ∀ k (h : k < (List.replicate l.toNat z).length), ((List.replicate l.toNat z)[k]).cells.length = P.cellsOf e := fun k h => by simp [h4]
          have hs2 : ∀ k (h : k < (List.replicate c.toNat z).length), ((List.replicate c.toNat z)[k]).cells.length = P.cellsOf e := fun k h => by simp [h4]
          have hle : l.toNat ≤ c.toNat := by omega
          have hlc : l.toNat * P.cellsOf e ≤ c.toNat * P.cellsOf e := Nat.mul_le_mul_right _ hle
          obtain ⟨m', g1, g2, g3⟩ := new_row hW e true (es := List.replicate l.toNat z) (sz := P.cellsOf e) (cap := c.toNat) (c := madeCells zv.cells (c.toNat * i.size)) hs
            (by rw [size_madeCells, hsz]; exact Nat.le_refl _) (by simpa using hle) (0, 0) (fun j _ => by simp) (by
              have hz1 := zeros_lvr (e := e) (n := c.toNat) (sz := P.cellsOf e) hzl (mkV_cells hm) hzsz
              have hz2 := hz1.take (l.toNat * P.cellsOf e)
              have e1 : ((List.replicate c.toNat z).flatMap AV.cells).take (l.toNat * P.cellsOf e) = (List.replicate l.toNat z).flatMap AV.cells := by
                apply List.ext_getElem?
                intro q
                rw [List.getElem?_take]
                split
                · rename_i hq
                  rw [flat_replicate h4 (by omega), flat_replicate h4 hq]
                · rename_i hq
                  rw [List.getElem?_eq_none (by rw [flatMap_cells_length hs]; simp; omega)]
              rw [e1] at hz2
              unfold madeCells
              rw [hsz]
              simpa [clM] using hz2)
          simp only [List.length_replicate] at g3
          exact ⟨_, _, m', hr, g1, g2, g3⟩
        · cases h
      · cases h
    · cases h
  · cases h

theorem toBytes_spec : ∀ {es : List AV} {bs : List UInt8}, toBytes es = some bs → ∃ ns : List Int, es = ns.map (AV.int .u8) ∧ ns.map (fun n => UInt8.ofNat n.toNat) = bs
  | [], bs, h => by simp [toBytes] at h; subst h; exact ⟨[], rfl, rfl⟩
  | e :: es, bs, h => by
    unfold toBytes at h
    split at h
    · rename_i e1; cases e1
    · rename_i n vs e1
      cases e1
      split at h
      · split at h
        · rename_i bs' hb
          cases h
          obtain ⟨ns, h1, h2⟩ := toBytes_spec hb
          exact ⟨n :: ns, by simp [h1], by simp [h2]⟩
        · cases h
      · cases h
    · cases h

theorem foldl_push_ints : ∀ (l : List Int) (r : ByteArray), l.foldl (fun r n => r.push (UInt8.ofNat n.toNat)) r = ⟨r.data ++ (l.map fun n => UInt8.ofNat n.toNat).toArray⟩
  | [], r => by simp
  | b :: l, r => by
    simp only [List.map_cons, List.foldl_cons]
    rw [foldl_push_ints l]
    simp [ByteArray.push]

theorem isByteP_und {e : TypeId} (h : isByteP P e = true) : P.underlying e = some (.int .u8) := by
  unfold isByteP at h
  split at h
  · assumption
  · cases h

theorem convert_sound (hW : WR Z m base W0 H W) {s d : TypeId} {x y : AV} {v : Value} {H' : Heap} (h : convertV P s d x H = some (y, H')) (hx : VR Z m x v) :
    ∃ u W' m', (convert s d v).run P W = .ok u W' ∧ Ext base Z Z m m' ∧ WR Z m' base W0 H' W' ∧ VR Z m' y u := by
  unfold convertV at h
  split at h
  · rename_i ds k k' n hs hd
    cases h; cases hx
    refine ⟨.int k (k.wrap n), W, m, ?_, Ext.refl _ _ _, hW, .int⟩
    simp only [convert, Sem.run_bind, run_und hs, run_und hd, Result.andThen_ok]
    rfl
  · rename_i ds b hs hd
    cases h; cases hx
    refine ⟨.string b, W, m, ?_, Ext.refl _ _ _, hW, .str⟩
    simp only [convert, Sem.run_bind, run_und hs, run_und hd, Result.andThen_ok]
    cases ds <;> rfl
  · rename_i e b hs hd
    split at h
    · rename_i hbyte
      have he := isByteP_und hbyte
      cases h; cases hx
      have hrun := run_bytes_of_string (P := P) W s d e b hs hd he
      have hge := grownCap_ge W b.size 0 e
      have hlen : (bytesAV b).length = b.size := by simp [bytesAV]
      have hs1 : ∀ k (h : k < (bytesAV b).length), ((bytesAV b)[k]).cells.length = 1 := fun k h => by simp [bytesAV, AV.cells]
      have hflat : (bytesAV b).flatMap AV.cells = bytesAV b := by
        simp only [bytesAV, List.flatMap_map]
        show List.flatMap (fun a : UInt8 => [AV.int .u8 a.toNat]) b.data.toList = _
        rw [List.map_eq_flatMap]
      have hrow : (bytesRow b (grownCap W b.size 0 e)).toList.take b.size = b.data.toList.map fun c => Value.int .u8 c.toNat := by
        unfold bytesRow
        simp only [Array.toList_append, Array.toList_map]
        rw [List.take_append_of_le_length (by simp)]
        exact List.take_of_length_le (by simp)
      have hrsz : (bytesRow b (grownCap W b.size 0 e)).size = grownCap W b.size 0 e := by
        unfold bytesRow; simp; omega
      obtain ⟨m', g1, g2, g3⟩ := new_row (hW.grow (W' := W.drew) ⟨rfl, rfl, rfl, Nat.le_refl _, fun _ _ => rfl⟩) e true (es := bytesAV b) (sz := 1) (cap := grownCap W b.size 0 e)
        (c := bytesRow b (grownCap W b.size 0 e)) hs1 (by omega) (by rw [hlen]; exact hge) ((bytesRow b (grownCap W b.size 0 e)).size, (bytesRow b (grownCap W b.size 0 e)).size + 1) (fun j hj => by simp; omega)
        (by
          rw [hlen, Nat.mul_one, hrow, hflat]
          refine LVR.of_get? (by simp [bytesAV]) fun j x v hx hv => ?_
          simp [bytesAV] at hx hv
          obtain ⟨a, ha, rfl⟩ := hx
          obtain ⟨c, hc, rfl⟩ := hv
          rw [ha] at hc; cases hc
          exact .int)
      rw [hlen] at g3
      exact ⟨_, _, m', hrun, g1, g2, g3⟩
    · cases h
  · rename_i e hs hd hne
    split at h
    · rename_i hbyte
      have he := isByteP_und hbyte
      split at h
      · cases h
      · split at h
        · rename_i cl es hel
          split at h
          · rename_i hk
            obtain ⟨de, hde⟩ := known_und hk
            cases hb : toBytes es with
            | none => simp [hb] at h
            | some bs =>
              simp [hb] at h
              obtain ⟨rfl, rfl⟩ := h
              obtain ⟨ns, h1, h2⟩ := toBytes_spec hb
              subst h1
              have hsz : sizedV 1 (ns.map (AV.int .u8)) = true := by simp [sizedV, AV.cells]
              obtain ⟨news, hln, hlen, hfirst⟩ := elems_sound (P := P) hW hel hsz hx (fun s _ => rfl)
              have hflat : (ns.map (AV.int .u8)).flatMap AV.cells = ns.map (AV.int .u8) := by
                simp only [List.flatMap_map]
                show List.flatMap (fun a : Int => [AV.int .u8 a]) ns = _
                rw [List.map_eq_flatMap]
              rw [hflat] at hln
              have hnews : news = ns.map (Value.int .u8) := by
                apply List.ext_getElem?
                intro j
                by_cases hj : j < ns.length
                · obtain ⟨v', hv', hr⟩ := hln.get? (show (ns.map (AV.int .u8))[j]? = some (.int .u8 ns[j]) by simp [hj])
                  cases hr
                  rw [hv']; simp [hj]
                · rw [List.getElem?_eq_none (by rw [← hln.1]; simp; omega), List.getElem?_eq_none (by simp; omega)]
              subst hnews
              have hf := hfirst W (fun _ => rfl)
              refine ⟨.string ⟨bs.toArray⟩, W, m, ?_, Ext.refl _ _ _, hW, .str⟩
              unfold elems at hel
              split at hel
              · cases hx
                simp at hel
                have : ns = [] := by simpa using hel.2.symm
                subst this
                simp at h2; subst h2
                simp [convert, run_und hs, run_und hd, run_und he, Conv.bytesToString]
                rfl
              · cases hx with
                | sl vs q1 q2 q3 q4 q5 =>
                  rename_i bb oo cap sz sp
                  rw [run_convert_bytes_string W s d e _ _ _ hs he hd]
                  simp only [Builtin.firstCells, List.length_map, Nat.mul_one] at hf
                  cases hel
                  simp only [List.length_map]
                  rw [run_bytesToString W _ _ _ _ hf, foldl_push_ints, h2]
                  simp [show ByteArray.empty.data = #[] from rfl]
              · cases hx with
                | ref hcap hloc =>
                  rename_i bb oo cap
                  rw [run_convert_bytes_string W s d e _ _ _ hs he hd]
                  simp only [Builtin.firstCells, List.length_map, Nat.mul_one] at hf
                  have hlen' := hlen W
                  simp only [Builtin.lenOf, Sem.run_pure, Result.ok.injEq, List.length_map, and_true] at hlen'
                  rw [← hlen'] at hf
                  rw [run_bytesToString W _ _ _ _ hf, foldl_push_ints, h2]
                  simp [show ByteArray.empty.data = #[] from rfl]
              · exact (hne _ rfl).elim
              · cases hel
          · cases h
        · cases h
    · cases h
  · cases h

theorem LVR.map {xs : List Operand} {f : Operand → AV} {g : Operand → Value} (h : ∀ x ∈ xs, VR Z m (f x) (g x)) : LVR Z m (xs.map f) (xs.map g) := by
  refine ⟨by simp, fun j a b => ?_⟩
  simp only [List.getElem_map]
  exact h _ (List.getElem_mem _)

theorem OVR.map {x : Option Operand} {f : Operand → AV} {g : Operand → Value} (h : ∀ y, VR Z m (f y) (g y)) : OVR Z m (x.map f) (x.map g) := by
  cases x with
  | none => trivial
  | some x => exact h x

theorem builtin_sound (hW : WR Z m base W0 H W) {b : Builtin} {ts : Array TypeId} {ty : TypeId} {consts : Array Bool} {xs : List AV} {vs : List Value} {y : AV} {H' : Heap} (h : builtinV P b ts xs H = some (y, H'))
    (hl : LVR Z m xs vs) : ∃ v W' m', (builtin b ts ty consts vs.toArray).run P W = .ok (.value v) W' ∧ Ext base Z Z m m' ∧ WR Z m' base W0 H' W' ∧ VR Z m' y v := by
  unfold builtinV at h
  split at h
  · rename_i x xs
    split at h
    · rename_i t ht
      cases hx : lenV P t x H with
      | none => simp [hx] at h
      | some z =>
        simp [hx] at h; obtain ⟨rfl, rfl⟩ := h
        obtain ⟨v, vs', rfl, hv, hl'⟩ := hl.cons
        obtain ⟨u, h1, h2⟩ := len_sound (P := P) (ty := ty) (args := (v :: vs').toArray) hW ht (by simp) hx hv
        exact ⟨u, W, m, by simp [builtin, h1], Ext.refl _ _ _, hW, h2⟩
    · cases h
  · rename_i xs
    split at h
    · rename_i t ht
      split at h
      · rename_i e hu
        cases h
        obtain ⟨v, vs', rfl, hv, hl'⟩ := hl.cons
        cases hv
        refine ⟨.int .i64 0, W, m, ?_, Ext.refl _ _ _, hW, .int⟩
        simp [builtin, Builtin.cap_, ht, run_und hu, goInt]
      · cases h
    · cases h
  · rename_i x y xs
    split at h
    · rename_i t ht
      obtain ⟨v, vs', rfl, hv, hl'⟩ := hl.cons
      obtain ⟨w, vs'', rfl, hw, hl''⟩ := hl'.cons
      obtain ⟨u, W', m', h1, h2, h3, h4⟩ := append_sound (P := P) (ty := ty) (rest := vs'') hW ht h hv hw
      exact ⟨u, W', m', by simp only [builtin, Sem.run_bind, h1, Result.andThen_ok, Sem.run_pure], h2, h3, h4⟩
    · cases h
  · rename_i x r
    cases hx : minMaxV false x r with
    | none => simp [hx] at h
    | some z =>
      simp [hx] at h; obtain ⟨rfl, rfl⟩ := h
      obtain ⟨v, vs', rfl, hv, hl'⟩ := hl.cons
      obtain ⟨u, h1, h2⟩ := minMax_sound (P := P) (W := W) hx hv hl'
      refine ⟨u, W, m, ?_, Ext.refl _ _ _, hW, h2⟩
      simp only [builtin, Builtin.min_, Sem.run_bind]
      simp only [Bool.false_eq_true, if_false] at h1
      rw [h1]; rfl
  · rename_i x r
    cases hx : minMaxV true x r with
    | none => simp [hx] at h
    | some z =>
      simp [hx] at h; obtain ⟨rfl, rfl⟩ := h
      obtain ⟨v, vs', rfl, hv, hl'⟩ := hl.cons
      obtain ⟨u, h1, h2⟩ := minMax_sound (P := P) (W := W) hx hv hl'
      refine ⟨u, W, m, ?_, Ext.refl _ _ _, hW, h2⟩
      simp only [builtin, Builtin.max_, Sem.run_bind]
      simp only [if_true] at h1
      rw [h1]; rfl
  · rename_i x r
    split at h
    · rename_i t ht
      cases hx : clearV P t x H with
      | none => simp [hx] at h
      | some H1 =>
        simp [hx] at h; obtain ⟨rfl, rfl⟩ := h
        obtain ⟨v, vs', rfl, hv, hl'⟩ := hl.cons
        obtain ⟨W', h1, h2⟩ := clear_sound (P := P) (ty := ty) (vs := vs') hW ht hx hv
        refine ⟨.tuple #[], W', m, ?_, Ext.refl _ _ _, h2, ?_⟩
        · simp only [builtin, Sem.run_bind, h1, Result.andThen_ok, Sem.run_pure]
        · have := VR.tup (Z := Z) (m := m) (cs := []) (cs' := []) rfl (fun j h => absurd h (by simp)); simpa using this
    · cases h
  · cases h

/-- THE OPERATION: what the interpreter makes of it is what the model makes of it. -/
theorem op_sound (hW : WR Z m base W0 H W) {env : Env} {a : Act} (hE : ER Z m env a.tmps) {o : Oper} {y : AV} {H' : Heap} (h : opV P (evalV env) o.op H = some (y, H')) :
    ∃ v W' Z' m', ((execOp a.eval o).run P W = .ok (.value v) W' ∨ ((execOp a.eval o).run P W = .ok .skip W' ∧ v = Go.undef)) ∧ Ext base Z Z' m m' ∧ WR Z' m' base W0 H' W' ∧ VR Z' m' y v := by
  have ev : ∀ x, VR Z m (evalV env x) (a.eval x) := fun x => evalV_VR hE x
  obtain ⟨dst, op, type, pos, after, guard⟩ := o
  -- what only looks
  have look : ∀ {s : Sem Value} {y : AV} {v : Value}, s.run P W = .ok v W → VR Z m y v → execOp a.eval ⟨dst, op, type, pos, after, guard⟩ = (do pure (.value (← s))) →
      ∃ v W' Z' m', ((execOp a.eval ⟨dst, op, type, pos, after, guard⟩).run P W = .ok (.value v) W' ∨ ((execOp a.eval ⟨dst, op, type, pos, after, guard⟩).run P W = .ok .skip W' ∧ v = Go.undef)) ∧ Ext base Z Z' m m' ∧ WR Z' m' base W0 H W' ∧ VR Z' m' y v := by
    intro s y v hr hv he
    refine ⟨v, W, Z, m, .inl ?_, Ext.refl _ _ _, hW, hv⟩
    rw [he]
    simp only [Sem.run_bind, hr, Result.andThen_ok, Sem.run_pure]
  have acts : ∀ {s : Sem Value} {y : AV} {v : Value} {W' : World} {Z' : FZ} {m' : OM}, s.run P W = .ok v W' → Ext base Z Z' m m' → WR Z' m' base W0 H' W' → VR Z' m' y v → execOp a.eval ⟨dst, op, type, pos, after, guard⟩ = (do pure (.value (← s))) →
      ∃ v W' Z' m', ((execOp a.eval ⟨dst, op, type, pos, after, guard⟩).run P W = .ok (.value v) W' ∨ ((execOp a.eval ⟨dst, op, type, pos, after, guard⟩).run P W = .ok .skip W' ∧ v = Go.undef)) ∧ Ext base Z Z' m m' ∧ WR Z' m' base W0 H' W' ∧ VR Z' m' y v := by
    intro s y v W' Z' m' hr hx hw hv he
    refine ⟨v, W', Z', m', .inl ?_, hx, hw, hv⟩
    rw [he]
    simp only [Sem.run_bind, hr, Result.andThen_ok, Sem.run_pure]
  unfold opV at h
  simp only at h
  split at h
  · cases h; exact ⟨_, W, Z, m, .inl rfl, Ext.refl _ _ _, hW, ev _⟩
  · cases h; exact ⟨_, W, Z, m, .inl rfl, Ext.refl _ _ _, hW, ev _⟩
  · rename_i c x z
    have hc := ev c
    split at h
    · rename_i hb; cases h
      rw [hb] at hc
      generalize hcv : a.eval c = cv at hc
      cases hc
      exact ⟨_, W, Z, m, .inl (by simp [execOp, hcv, asBool]), Ext.refl _ _ _, hW, ev _⟩
    · rename_i hb; cases h
      rw [hb] at hc
      generalize hcv : a.eval c = cv at hc
      cases hc
      exact ⟨_, W, Z, m, .inl (by simp [execOp, hcv, asBool]), Ext.refl _ _ _, hW, ev _⟩
    · cases h
  · rename_i t
    cases hz : zeroP P t with
    | none => simp [hz] at h
    | some z =>
      simp [hz] at h; obtain ⟨rfl, rfl⟩ := h
      obtain ⟨v, W', m', h1, h2, h3, h4⟩ := alloc_sound hW hz
      exact acts h1 h2 h3 h4 rfl
  · rename_i t x
    split at h
    · rename_i ho
      cases h
      obtain ⟨v, W', m', h1, h2, h3, h4⟩ := box_sound (P := P) hW (t := t) ho (ev x)
      exact acts h1 h2 h3 h4 rfl
    · cases h
  · rename_i t ps
    cases hz : buildV P t (ps.toList.map fun p => (p.1, evalV env p.2)) with
    | none => simp [hz] at h
    | some z =>
      simp [hz] at h; obtain ⟨rfl, rfl⟩ := h
      obtain ⟨v, h1, h2⟩ := build_sound (P := P) (Z := Z) (m := m) (W := W) (parts' := ps.map fun (i, x) => (i, a.eval x)) hz (by simp [List.map_map, Function.comp_def])
        (by
          simp only [List.map_map, Array.toList_map]
          have := LVR.map (xs := ps.toList.map (·.2)) (f := evalV env) (g := a.eval) (fun x _ => ev x)
          simpa [List.map_map, Function.comp_def] using this)
      exact look h1 h2 rfl
  · rename_i t n ps
    obtain ⟨v, W', Z', m', h1, h2, h3, h4⟩ := buildSlice_sound (P := P) hW (parts' := ps.map fun (i, x) => (i, a.eval x)) h (by simp [List.map_map, Function.comp_def])
        (by
          simp only [List.map_map, Array.toList_map]
          have := LVR.map (xs := ps.toList.map (·.2)) (f := evalV env) (g := a.eval) (fun x _ => ev x)
          simpa [List.map_map, Function.comp_def] using this)
    exact acts h1 h2 h3 h4 rfl
  · rename_i t x
    split at h
    · rename_i hk
      cases hz : loadV P t (evalV env x) H with
      | none => simp [hz] at h
      | some z =>
        simp [hz] at h; obtain ⟨rfl, rfl⟩ := h
        obtain ⟨v, h1, h2⟩ := load_sound hW hk hz (ev x)
        exact look h1 h2 rfl
    · cases h
  · rename_i t x z
    split at h
    · rename_i hk
      cases hz : storeV P t (evalV env x) (evalV env z) H with
      | none => simp [hz] at h
      | some H1 =>
        simp [hz] at h; obtain ⟨rfl, rfl⟩ := h
        obtain ⟨W', Z', h1, h2, h3⟩ := store_sound (P := P) hW hk hz (ev x) (ev z)
        exact ⟨Go.undef, W', Z', m, .inr ⟨by simp [execOp, h1], rfl⟩, h2, h3, .undef⟩
    · cases h
  · rename_i x
    have hx := ev x
    split at h
    · rename_i i j hb
      cases h; rw [hb] at hx
      generalize hcv : a.eval x = cv at hx
      cases hx with
      | ptr hL => exact ⟨_, W, Z, m, .inl (by simp [execOp, hcv]), Ext.refl _ _ _, hW, .ptr hL⟩
    · rename_i i j k hb
      cases h; rw [hb] at hx
      generalize hcv : a.eval x = cv at hx
      cases hx with
      | eptr hL => exact ⟨_, W, Z, m, .inl (by simp [execOp, hcv]), Ext.refl _ _ _, hW, .eptr hL⟩
    · rename_i u hb
      cases h; rw [hb] at hx
      generalize hcv : a.eval x = cv at hx
      cases hx with
      | raddr vs hz hr => exact ⟨_, W, Z, m, .inl (by simp [execOp, hcv]), Ext.refl _ _ _, hW, .raddr vs hz hr⟩
    · cases h
  · rename_i op t x z ty
    cases hz : binV P op t (evalV env x) (evalV env z) with
    | none => simp [hz] at h
    | some y' =>
      simp [hz] at h; obtain ⟨rfl, rfl⟩ := h
      obtain ⟨v, h1, h2⟩ := bin_sound (P := P) (W := W) hz (ev x) (ev z)
      have hg := eqGuard_sound (P := P) (W := W) x z hz (ev x) (ev z)
      exact look (s := do eqGuard op t x z (a.eval x) (a.eval z); binOp op t (a.eval x) (a.eval z)) (by simp only [Sem.run_bind, hg, Result.andThen_ok, h1]) h2 rfl
  · rename_i op t x
    cases hz : unV op (evalV env x) with
    | none => simp [hz] at h
    | some y' =>
      simp [hz] at h; obtain ⟨rfl, rfl⟩ := h
      obtain ⟨v, h1, h2⟩ := un_sound (P := P) (W := W) hz (ev x)
      exact look h1 h2 rfl
  · rename_i s d x
    obtain ⟨v, W', m', h1, h2, h3, h4⟩ := convert_sound (P := P) hW h (ev x)
    exact acts h1 h2 h3 h4 rfl
  · rename_i f first caps
    cases h
    refine look (s := Instr.makeFunc (.func f) (first.map a.eval) (caps.map a.eval)) (v := .func (.func f) (first.map a.eval) (caps.map a.eval)) rfl ?_ rfl
    have h1 := LVR.map (xs := first.toList) (f := evalV env) (g := a.eval) (fun x _ => ev x)
    have h2 := LVR.map (xs := caps.toList) (f := evalV env) (g := a.eval) (fun x _ => ev x)
    have := VR.fn (f := f) h1.1 h2.1 h1.2 h2.2
    have e1 : ∀ q : Array Operand, (q.toList.map a.eval).toArray = q.map a.eval := fun q => by apply Array.ext'; simp
    rwa [e1, e1] at this
  · rename_i t l c
    obtain ⟨v, W', m', h1, h2, h3, h4⟩ := makeSlice_sound (P := P) hW h (ev l) (ev c)
    exact acts h1 h2 h3 h4 rfl
  · rename_i t x lo hi mx
    cases hz : sliceV P t (evalV env x) (lo.map (evalV env)) (hi.map (evalV env)) (mx.map (evalV env)) H with
    | none => simp [hz] at h
    | some y' =>
      simp [hz] at h; obtain ⟨rfl, rfl⟩ := h
      obtain ⟨v, h1, h2⟩ := slice_sound (P := P) hW hz (ev x) (OVR.map ev) (OVR.map ev) (OVR.map ev)
      exact look h1 h2 rfl
  · rename_i t x f
    cases hz : fieldAddrV P t (evalV env x) f with
    | none => simp [hz] at h
    | some y' =>
      simp [hz] at h; obtain ⟨rfl, rfl⟩ := h
      obtain ⟨v, h1, h2⟩ := fieldAddr_sound (P := P) (W := W) hz (ev x)
      exact look h1 h2 rfl
  · rename_i t x f
    split at h
    · rename_i cs fd hx hf
      split at h
      · rename_i hk
        cases hz : partV P fd.type cs fd.offset with
        | none => simp [hz] at h
        | some y' =>
          simp [hz] at h; obtain ⟨rfl, rfl⟩ := h
          obtain ⟨v, h1, h2⟩ := field_sound (P := P) (W := W) hf hk hz (by have := ev x; rwa [hx] at this)
          exact look h1 h2 rfl
      · cases h
    · cases h
  · rename_i t x i
    cases hz : indexAddrV P t (evalV env x) (evalV env i) H with
    | none => simp [hz] at h
    | some y' =>
      simp [hz] at h; obtain ⟨rfl, rfl⟩ := h
      obtain ⟨v, h1, h2⟩ := indexAddr_sound (P := P) hW hz (ev x) (ev i)
      exact look h1 h2 rfl
  · rename_i t x i
    cases hz : indexV P t (evalV env x) (evalV env i) with
    | none => simp [hz] at h
    | some y' =>
      simp [hz] at h; obtain ⟨rfl, rfl⟩ := h
      obtain ⟨v, h1, h2⟩ := index_sound (P := P) (W := W) hz (ev x) (ev i)
      exact look h1 h2 rfl
  · rename_i x i
    split at h
    · rename_i vs hx
      cases hz : vs[i]? with
      | none => simp [hz] at h
      | some y' =>
        simp [hz] at h; obtain ⟨rfl, rfl⟩ := h
        obtain ⟨v, h1, h2⟩ := extract_sound (P := P) (W := W) hx hz (ev x)
        exact look h1 h2 rfl
    · cases h
  · rename_i b args ts
    obtain ⟨v, W', m', h1, h2, h3, h4⟩ := builtin_sound (P := P) (ty := type) (consts := args.map fun | .const _ => true | _ => false) hW h (LVR.map (xs := args.toList) (f := evalV env) (g := a.eval) (fun x _ => ev x))
    refine ⟨v, W', Z, m', .inl ?_, h2, h3, h4⟩
    have e1 : (args.toList.map a.eval).toArray = args.map a.eval := by apply Array.ext'; simp
    rw [e1] at h1
    simp only [execOp, resolve, Sem.run_bind, Sem.run_pure, Result.andThen_ok, invoke]
    exact h1
  · rename_i t x
    split at h
    · rename_i s hu hb
      cases h
      have hx := ev x
      rw [hb] at hx
      generalize hcv : a.eval x = cv at hx
      cases hx
      let L : Loc := ⟨W.heap.size, 0, 0, 0⟩
      refine acts (s := Instr.range t (a.eval x)) (v := .pointer (some ⟨W.heap.size, 0, none⟩)) (W' := W.alloc (.stringIter s 0)) (Z' := Z) (m' := m.ext H.length L) ?_ (Ext.of_m (OM.le_ext hW.m_none))
        (hW.alloc _ _ L rfl ⟨by show (W.heap.push _)[W.heap.size]? = _; simp, rfl⟩) (VR.ptr (L := L) (OM.ext_at _ _ _)) rfl
      rw [hcv]
      simp only [Instr.range, Sem.run_bind, run_und hu, Result.andThen_ok, Sem.run_pure, run_newObj]; rfl
    · cases h
  · rename_i x
    split at h
    · rename_i i hb
      have hx := ev x
      rw [hb] at hx
      generalize hcv : a.eval x = cv at hx
      cases hx with
      | ptr hL =>
        rename_i L
        split at h
        · rename_i s pos hi
          obtain ⟨L', hL', ho, hlo⟩ := hW.obs i _ hi (by simp)
          rw [hL] at hL'; cases hL'
          have hlt : L.b < W.heap.size := (Array.getElem?_eq_some_iff.1 ho).1
          rw [hlo] at hcv
          split at h
          · rename_i hpos
            cases h
            refine acts (s := Instr.next (a.eval x) true type) (v := .tuple #[.bool true, goInt pos, .int .i32 (Utf8.decode s pos).1]) (W' := { W with heap := W.heap.setIfInBounds L.b (.stringIter s (pos + (Utf8.decode s pos).2)) }) (Z' := Z) (m' := m) ?_ (Ext.refl _ _ _) ?_ ?_ rfl
            · rw [hcv]
              simp [Instr.next, getObj, setObj, Sem.run, ho, hpos]
            · refine hW.change hi rfl hL rfl rfl rfl (by simp) ?_ (.inl ⟨rfl, by simp [hlt], hlo⟩)
              intro k hk hne
              simp [Array.getElem?_setIfInBounds_ne (Ne.symm hne)]
            · exact VR.tup (cs := [.bool true, .int .i64 pos, .int .i32 (Utf8.decode s pos).1]) (cs' := [.bool true, goInt pos, .int .i32 (Utf8.decode s pos).1]) rfl (fun j h1 h2 => by
                match j, h1 with
                | 0, _ => exact .bool
                | 1, _ => exact .int
                | 2, _ => exact .int)
          · rename_i hpos
            cases h
            refine look (s := Instr.next (a.eval x) true type) (v := .tuple #[.bool false]) ?_ ?_ rfl
            · rw [hcv]
              simp [Instr.next, getObj, Sem.run, ho, hpos]
            · exact VR.tup (cs := [.bool false]) (cs' := [.bool false]) rfl (fun j h1 h2 => by
                match j, h1 with
                | 0, _ => exact .bool)
        · cases h
    · cases h
  · rename_i t
    cases h
    obtain ⟨v, W', m', h1, h2, h3, h4⟩ := makeMap_sound (P := P) hW t
    exact acts h1 h2 h3 h4 rfl
  · rename_i t x k ok
    cases hz : lookupV P t (evalV env x) (evalV env k) ok H with
    | none => simp [hz] at h
    | some y' =>
      simp [hz] at h; obtain ⟨rfl, rfl⟩ := h
      obtain ⟨v, h1, h2⟩ := lookup_sound (P := P) hW hz (ev x) (ev k)
      exact look h1 h2 rfl
  · rename_i t x k z
    cases hz : mapUpdateV P t (evalV env x) (evalV env k) (evalV env z) H with
    | none => simp [hz] at h
    | some H1 =>
      simp [hz] at h; obtain ⟨rfl, rfl⟩ := h
      obtain ⟨W', Z', h1, h2, h3⟩ := mapUpdate_sound (P := P) hW hz (ev x) (ev k) (ev z)
      exact ⟨Go.undef, W', Z', m, .inr ⟨by simp [execOp, h1], rfl⟩, h2, h3, .undef⟩
  · rename_i t x k z
    cases hz : mapUpdateV P t (evalV env x) (evalV env k) (evalV env z) H with
    | none => simp [hz] at h
    | some H1 =>
      simp [hz] at h; obtain ⟨rfl, rfl⟩ := h
      obtain ⟨W', Z', h1, h2, h3⟩ := mapUpdate_sound (P := P) hW hz (ev x) (ev k) (ev z)
      exact ⟨Go.undef, W', Z', m, .inr ⟨by simp [execOp, h1], rfl⟩, h2, h3, .undef⟩
  · cases h

end Go.V
