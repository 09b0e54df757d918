/- Maps: what the interpreter makes of them, held against the model's. No conditions. -/
import Derived.Test.YthcpmjljdncigaaGreatDoorZVSoundF
import Derived.MapKept
set_option linter.unusedSimpArgs false
set_option linter.unusedVariables false
namespace Go.V
open RowKit (Below)
variable {P : Program} {Z : FZ} {m : OM} {base : Nat} {W0 : World} {H : Heap} {W : World}

theorem beq_bytes (a b : ByteArray) : (a == b) = (a.data.toList == b.data.toList) := by
  obtain ⟨⟨x⟩⟩ := a
  obtain ⟨⟨y⟩⟩ := b
  show ((⟨x⟩ : Array UInt8) == ⟨y⟩) = (x == y)
  simp

theorem sameKey_sound {d : TypeDesc} {x y : AV} {v w : Value} {b : Bool} {Z' : FZ} {m' : OM} (h : sameKeyV d x y = some b) (hx : VR Z m x v) (hy : VR Z' m' y w) : Instr.sameNow d v w = some b := by
  unfold sameKeyV at h
  split at h
  · split at h
    · rename_i hk; cases h; cases hx; cases hy; simp [Instr.sameNow, hk]
    · cases h
  · cases h; cases hx; cases hy; simp only [Instr.sameNow, beq_bytes]
  · cases h; cases hx; cases hy; rfl
  · cases h

theorem sameKey_eq {d : TypeDesc} {x y : AV} {v w : Value} {Z' : FZ} {m' : OM} (h : sameKeyV d x y = some true) (hx : VR Z m x v) (hy : VR Z' m' y w) : v = w := by
  unfold sameKeyV at h
  split at h
  · split at h
    · rename_i hk; cases hx; cases hy; simp at h; simp [hk, h]
    · cases h
  · rename_i a b
    cases hx; cases hy
    simp only [Option.some.injEq] at h
    rw [← beq_bytes] at h
    obtain ⟨⟨a⟩⟩ := a; obtain ⟨⟨b⟩⟩ := b
    have : (⟨a⟩ : Array UInt8) == ⟨b⟩ := h
    simp at this; subst this; rfl
  · cases hx; cases hy; simp at h; simp [h]
  · cases h

/-- Entries, held against each other. -/
def EnR (Z : FZ) (es : List (AV × AV)) (es' : List MapEntry) : Prop :=
  es.length = es'.length ∧ ∀ j (h : j < es.length) (h' : j < es'.length), VR Z OM.none (es[j]).1 es'[j].key ∧ VR Z OM.none (es[j]).2 es'[j].val

theorem findV_sound {d : TypeDesc} {k : AV} {kv : Value} (hk : VR Z m k kv) : ∀ {es : List (AV × AV)} {es' : List MapEntry} {i : Nat} {r : Option (Nat × AV)}, findV d k es i = some r → EnR Z es es' →
    (r = none ∧ Instr.findNow d kv es' i = some none) ∨ ∃ j x e, r = some (i + j, x) ∧ es'[j]? = some e ∧ Instr.findNow d kv es' i = some (some (i + j, e.val)) ∧ VR Z OM.none x e.val ∧ e.key = kv
  | [], es', i, r, h, he => by
    have : es' = [] := List.length_eq_zero_iff.1 he.1.symm
    subst this
    simp [findV] at h; subst h
    exact .inl ⟨rfl, rfl⟩
  | e :: es, es', i, r, h, he => by
    match es', he with
    | [], he => exact absurd he.1 (by simp)
    | e' :: es', he =>
      have h0 := he.2 0 (by simp) (by simp)
      simp only [List.getElem_cons_zero] at h0
      have hrest : EnR Z es es' := ⟨by simpa using he.1, fun j a b => by
        have := he.2 (j + 1) (by simpa using a) (by simpa using b)
        simpa using this⟩
      unfold findV at h
      split at h
      · rename_i hs
        cases h
        refine .inr ⟨0, e.2, e', by simp, by simp, ?_, h0.2, (sameKey_eq hs hk h0.1).symm⟩
        simp [Instr.findNow, sameKey_sound hs hk h0.1]
      · rename_i hs
        rcases findV_sound hk h hrest with ⟨rfl, h1⟩ | ⟨j, x, e1, rfl, h2, h3, h4, h5⟩
        · exact .inl ⟨rfl, by simp [Instr.findNow, sameKey_sound hs hk h0.1, h1]⟩
        · refine .inr ⟨j + 1, x, e1, by simp; omega, by simpa using h2, ?_, h4, h5⟩
          simp only [Instr.findNow, sameKey_sound hs hk h0.1, h3]
          congr 3; omega
      · cases h

theorem find_run {kt : TypeId} {d : TypeDesc} {kv : Value} {es' : List MapEntry} {r : Option (Nat × Value)} (hu : P.underlying kt = some d) (h : Instr.findNow d kv es' 0 = some r) :
    (Instr.findKey kt kv es').run P W = .ok r W := by
  unfold Instr.findKey
  simp [run_und hu, h]

theorem check_run {kt : TypeId} {d : TypeDesc} {k : AV} {kv : Value} (hu : P.underlying kt = some d) (hk : keyFits d k = true) (hv : VR Z m k kv) (b : Bool) : (Instr.checkKey b 10000 kt kv).run P W = .ok () W := by
  unfold keyFits at hk
  split at hk
  · cases hv; rw [Instr.checkKey]; simp [run_und hu]
  · cases hv; rw [Instr.checkKey]; simp [run_und hu]
  · cases hv; rw [Instr.checkKey]; simp [run_und hu]
  · cases hk

theorem stays_run {d : TypeDesc} {k : AV} {kv : Value} (hk : keyFits d k = true) (hv : VR Z m k kv) : (Instr.keyThatStays kv kv).run P W = .ok kv W := by
  unfold keyFits at hk
  split at hk <;> first | (cases hk; done) | (cases hv; simp [Instr.keyThatStays, Instr.sameBits, beq_bytes])

theorem entries_sound (hW : WR Z m base W0 H W) {x : AV} {v : Value} {es : List (AV × AV)} (h : entriesV x H = some es) (hx : VR Z m x v) :
    ∃ es' : Array MapEntry, EnR Z es es'.toList ∧ ((v = .map none ∧ es' = #[]) ∨ ∃ b c, v = .map (some b) ∧ W.heap[b]? = some (.map es' c)) := by
  unfold entriesV at h
  split at h
  · cases h; cases hx
    exact ⟨#[], ⟨rfl, fun j h => absurd h (by simp)⟩, .inl ⟨rfl, rfl⟩⟩
  · rename_i i
    split at h
    · rename_i es1 hi
      cases h
      cases hx with
      | map hL =>
        obtain ⟨L', hL', es', c, h1, h2, h3⟩ := hW.obs i _ hi (by simp)
        rw [hL] at hL'; cases hL'
        exact ⟨es', ⟨by simpa using h2, fun j a b => by simpa using h3 j a (by simpa using b)⟩, .inr ⟨_, c, rfl, h1⟩⟩
    · cases h
  · cases h

theorem zeroV_run {t : TypeId} {z : AV} (h : zeroV P t = some z) : ∃ v, (zeroValue t).run P W = .ok v W ∧ VR Z m z v := by
  unfold zeroV at h
  cases hi : P.info? t with
  | none => simp [hi] at h
  | some i =>
    cases hz : i.zero with
    | none => simp [hi, hz] at h
    | some v =>
      refine ⟨v, by simp [zeroValue, typeInfo, hi, hz], ?_⟩
      simp only [hi, hz, Option.bind_some] at h
      split at h
      · rename_i cs heq
        cases heq
        cases hc : ofAtoms cs.toList with
        | none => simp [hc] at h
        | some xs =>
          simp [hc] at h; subst h
          obtain ⟨h1, h2⟩ := ofAtoms_VR (Z := Z) (m := m) hc
          have := VR.agg h1 h2
          simpa using this
      · rename_i u _ heq
        cases heq
        exact ofAtom_VR h
      · rename_i heq; cases heq

theorem pair_VR {x : AV} {v : Value} (h : VR Z m x v) (b : Bool) : VR Z m (.tup [x, .bool b]) (.tuple #[v, .bool b]) := by
  have := VR.tup (Z := Z) (m := m) (cs := [x, .bool b]) (cs' := [v, .bool b]) rfl (fun j h1 h2 => by
    match j, h1 with
    | 0, _ => exact h
    | 1, _ => exact .bool)
  exact this

theorem lookup_sound (hW : WR Z m base W0 H W) {t : TypeId} {x k y : AV} {v kv : Value} {ok : Bool} (h : lookupV P t x k ok H = some y) (hx : VR Z m x v) (hk : VR Z m k kv) :
    ∃ u, (Instr.lookup t v kv ok).run P W = .ok u W ∧ VR Z m y u := by
  unfold lookupV at h
  split at h
  · rename_i kt et ht
    split at h
    · rename_i d es hd hes
      split at h
      · rename_i hf
        obtain ⟨es', hen, hv⟩ := entries_sound hW hes hx
        split at h
        · rename_i i z hfind
          rcases findV_sound hk hfind hen with ⟨h1, _⟩ | ⟨j, x1, e, h1, h2, h3, h4, h5⟩
          · cases h1
          · cases h1
            cases h
            refine ⟨if ok then .tuple #[e.val, .bool true] else e.val, ?_, ?_⟩
            · rcases hv with ⟨rfl, rfl⟩ | ⟨b, c, rfl, hb⟩
              · simp at h2
              · simp [Instr.lookup, run_und ht, MapKept.run_getObj_map hb, check_run hd hf hk, find_run (P := P) (W := W) hd h3]
            · split
              · exact pair_VR (h4.mono (FZ.le.refl _) (OM.none_le _)) true
              · exact h4.mono (FZ.le.refl _) (OM.none_le _)
        · rename_i hfind
          rcases findV_sound hk hfind hen with ⟨_, h3⟩ | ⟨j, x1, e, h1, _⟩
          · split at h
            · rename_i z hz
              cases h
              obtain ⟨zv, hz1, hz2⟩ := zeroV_run (P := P) (W := W) (Z := Z) (m := m) hz
              refine ⟨if ok then .tuple #[zv, .bool false] else zv, ?_, ?_⟩
              · rcases hv with ⟨rfl, rfl⟩ | ⟨b, c, rfl, hb⟩
                · have h3' : Instr.findNow d kv [] 0 = some none := rfl
                  simp [Instr.lookup, run_und ht, check_run hd hf hk, find_run (P := P) (W := W) hd h3', hz1]
                · simp [Instr.lookup, run_und ht, MapKept.run_getObj_map hb, check_run hd hf hk, find_run (P := P) (W := W) hd h3, hz1]
              · split
                · exact pair_VR hz2 false
                · exact hz2
            · cases h
          · cases h1
        · cases h
      · cases h
    · cases h
  · cases h

/-- A map is written. -/
theorem map_set (hW : WR Z m base W0 H W) {i : Nat} {es es2 : List (AV × AV)} {L : Loc} {es' es2' : Array MapEntry} {c c2 : Nat} (hi : H[i]? = some (.map es)) (hL : m i = some L) (hb : W.heap[L.b]? = some (.map es' c))
    (hen : EnR Z es2 es2'.toList) : WR Z m base W0 (H.set i (.map es2)) { W with heap := W.heap.setIfInBounds L.b (.map es2' c2) } := by
  have hlt : L.b < W.heap.size := (Array.getElem?_eq_some_iff.1 hb).1
  refine hW.change hi rfl hL rfl rfl rfl (by simp) ?_ (.inl ⟨rfl, es2', c2, by simp [hlt], by simpa using hen.1, fun j a b => by have := hen.2 j a (by simpa using b); rwa [Array.getElem_toList] at this⟩)
  intro k hk hne
  simp [Array.getElem?_setIfInBounds_ne (Ne.symm hne)]

theorem mapUpdate_sound (hW : WR Z m base W0 H W) {t : TypeId} {x k z : AV} {v kv zv : Value} {H' : Heap} (h : mapUpdateV P t x k z H = some H') (hx : VR Z m x v) (hk : VR Z m k kv) (hz : VR Z m z zv) :
    ∃ W' Z', (Instr.mapUpdate t v kv zv).run P W = .ok () W' ∧ Ext base Z Z' m m ∧ WR Z' m base W0 H' W' := by
  unfold mapUpdateV at h
  split at h
  · rename_i kt et i ht
    split at h
    · rename_i d z' H1 hd hfz
      split at h
      · rename_i hf
        obtain ⟨Z1, hx1, hw1, hz1⟩ := freeze_sound hfz hW hz
        split at h
        · rename_i es hi
          cases hx with
          | map hL =>
            rename_i L
            obtain ⟨L', hL', es', c, h1, h2, h3⟩ := hw1.obs i _ hi (by simp)
            rw [hL] at hL'; cases hL'
            have hen : EnR Z1 es es'.toList := ⟨by simpa using h2, fun j a b => by simpa using h3 j a (by simpa using b)⟩
            have hk1 : VR Z1 m k kv := hk.mono hx1.1 (OM.le.refl _)
            have hkn : VR Z1 OM.none k kv := by
              unfold keyFits at hf
              split at hf
              · cases hk; exact .int
              · cases hk; exact .str
              · cases hk; exact .bool
              · cases hf
            split at h
            · rename_i j x0 hfind
              rcases findV_sound hk1 hfind hen with ⟨e1, _⟩ | ⟨j', x1, e, e1, e2, e3, e4, e5⟩
              · cases e1
              · simp only [Nat.zero_add, Option.some.injEq, Prod.mk.injEq] at e1 e3
                obtain ⟨rfl, rfl⟩ := e1
                cases h
                refine ⟨_, Z1, ?_, hx1, map_set hw1 hi hL h1 (es2' := es'.modify j fun e => { e with key := kv, val := zv }) (c2 := c) ?_⟩
                · have ej : es'[j]? = some e := by simpa using e2
                  unfold Instr.mapUpdate
                  simp [run_und ht, MapKept.run_getObj_map h1, check_run hd hf hk, find_run (P := P) (W := W) hd e3, ej, e5, stays_run (P := P) (W := W) hf hk, MapKept.run_setObj_map _ h1]
                · refine ⟨by simpa using hen.1, fun q a b => ?_⟩
                  simp only [List.length_set] at a
                  simp only [Array.length_toList, Array.size_modify] at b
                  have hq := hen.2 q a (by simpa using b)
                  simp only [Array.getElem_toList, Array.getElem_modify, List.getElem_set]
                  by_cases hqj : j = q
                  · simp only [hqj, if_true]; exact ⟨hkn, hz1⟩
                  · simp only [hqj, if_false]; simpa using hq
            · rename_i hfind
              rcases findV_sound hk1 hfind hen with ⟨_, e3⟩ | ⟨j', x1, e, e1, _⟩
              · cases h
                refine ⟨_, Z1, ?_, hx1, map_set hw1 hi hL h1 (es2' := es'.push { key := kv, val := zv, born := c }) (c2 := c + 1) ?_⟩
                · unfold Instr.mapUpdate
                  simp [run_und ht, MapKept.run_getObj_map h1, check_run hd hf hk, find_run (P := P) (W := W) hd e3, MapKept.run_setObj_map _ h1]
                · refine ⟨by simpa using hen.1, fun q a b => ?_⟩
                  by_cases hq : q < es.length
                  · have hq' : q < es'.size := by rw [← h2]; exact hq
                    have := hen.2 q hq (by simpa using hq')
                    simp only [Array.getElem_toList, Array.getElem_push, hq', dif_pos, List.getElem_append_left hq]
                    simpa using this
                  · have hq0 : q = es.length := by simp at a; omega
                    have hq' : ¬ q < es'.size := by rw [← h2]; exact hq
                    simp only [Array.getElem_toList, Array.getElem_push, hq', dif_neg, not_false_eq_true]
                    subst hq0
                    simp only [List.getElem_append_right (Nat.le_refl _), Nat.sub_self, List.getElem_cons_zero]
                    exact ⟨hkn, hz1⟩
              · cases e1
            · cases h
        · cases h
      · cases h
    · cases h
  · cases h

theorem delete_sound (hW : WR Z m base W0 H W) {t ty : TypeId} {ts : Array TypeId} {x k : AV} {v kv : Value} {H' : Heap} (ht0 : ts[0]? = some t) (h : deleteV P t x k H = some H') (hx : VR Z m x v) (hk : VR Z m k kv) :
    ∃ W', (Builtin.delete_ ts ty #[v, kv]).run P W = .ok (.tuple #[]) W' ∧ WR Z m base W0 H' W' := by
  unfold deleteV at h
  split at h
  · rename_i kt et i ht
    split at h
    · rename_i d es hd hi
      split at h
      · rename_i hf
        cases hx with
        | map hL =>
          rename_i L
          obtain ⟨L', hL', es', c, h1, h2, h3⟩ := hW.obs i _ hi (by simp)
          rw [hL] at hL'; cases hL'
          have hen : EnR Z es es'.toList := ⟨by simpa using h2, fun j a b => by simpa using h3 j a (by simpa using b)⟩
          split at h
          · rename_i j x0 hfind
            rcases findV_sound hk hfind hen with ⟨e1, _⟩ | ⟨j', x1, e, e1, e2, e3, e4, e5⟩
            · cases e1
            · simp only [Nat.zero_add, Option.some.injEq, Prod.mk.injEq] at e1 e3
              obtain ⟨rfl, rfl⟩ := e1
              cases h
              refine ⟨_, ?_, map_set hW hi hL h1 (es2' := es'.eraseIdxIfInBounds j) (c2 := c) ?_⟩
              · unfold Builtin.delete_
                simp [ht0, run_und ht, MapKept.run_getObj_map h1, check_run hd hf hk, find_run (P := P) (W := W) hd e3, MapKept.run_setObj_map _ h1]
              · have hj : j < es'.size := by
                  have := (List.getElem?_eq_some_iff.1 e2).1; simpa using this
                have el : (es'.eraseIdxIfInBounds j).toList = es'.toList.eraseIdx j := by simp [Array.eraseIdxIfInBounds, hj]
                rw [el]
                refine ⟨by simp [List.length_eraseIdx, h2], fun q a b => ?_⟩
                simp only [List.getElem_eraseIdx]
                split
                · exact hen.2 _ _ _
                · exact hen.2 _ _ _
          · rename_i hfind
            rcases findV_sound hk hfind hen with ⟨_, e3⟩ | ⟨j', x1, e, e1, _⟩
            · cases h
              have hset : H.set i (.map es) = H := by
                apply List.ext_getElem? ; intro q
                by_cases hq : i = q
                · subst hq; rw [hi]; simp [(List.getElem?_eq_some_iff.1 hi).1]
                · simp [List.getElem?_set_ne hq]
              refine ⟨_, ?_, hset ▸ map_set hW hi hL h1 (es2 := es) (es2' := es') (c2 := c) hen⟩
              unfold Builtin.delete_
              simp [ht0, run_und ht, MapKept.run_getObj_map h1, check_run hd hf hk, find_run (P := P) (W := W) hd e3, MapKept.run_setObj_map _ h1]
            · cases e1
          · cases h
      · cases h
    · cases h
  · cases h

theorem clear_sound (hW : WR Z m base W0 H W) {t ty : TypeId} {ts : Array TypeId} {x : AV} {v : Value} {vs : List Value} {H' : Heap} (ht0 : ts[0]? = some t) (h : clearV P t x H = some H') (hx : VR Z m x v) :
    ∃ W', (Builtin.clear_ ts ty (v :: vs).toArray).run P W = .ok (.tuple #[]) W' ∧ WR Z m base W0 H' W' := by
  unfold clearV at h
  split at h
  · rename_i ht
    cases h; cases hx
    exact ⟨W, by simp [Builtin.clear_, ht0, run_und ht], hW⟩
  · rename_i kt et i ht
    split at h
    · rename_i es hi
      cases h
      cases hx with
      | map hL =>
        obtain ⟨L', hL', es', c, h1, h2, h3⟩ := hW.obs i _ hi (by simp)
        rw [hL] at hL'; cases hL'
        refine ⟨_, ?_, map_set hW hi hL h1 (es2' := #[]) (c2 := c) ⟨rfl, fun j a => absurd a (by simp)⟩⟩
        simp [Builtin.clear_, ht0, run_und ht, MapKept.run_getObj_map h1, MapKept.run_setObj_map _ h1]
    · cases h
  · rename_i ht
    cases h; cases hx
    exact ⟨W, by simp [Builtin.clear_, ht0, run_und ht], hW⟩
  · cases h

theorem makeMap_sound (hW : WR Z m base W0 H W) (t : TypeId) : ∃ v W' m', (Instr.makeMap t none).run P W = .ok v W' ∧ Ext base Z Z m m' ∧ WR Z m' base W0 (H ++ [.map []]) W' ∧ VR Z m' (.map H.length) v := by
  let L : Loc := ⟨W.heap.size, 0, 0, 0⟩
  refine ⟨.map (some W.heap.size), W.alloc (.map #[] 0), m.ext H.length L, ?_, Ext.of_m (OM.le_ext hW.m_none), hW.alloc _ _ L rfl ⟨#[], 0, by show (W.heap.push _)[W.heap.size]? = _; simp, rfl, fun j a => absurd a (by simp)⟩, ?_⟩
  · simp only [Instr.makeMap, Sem.run_bind, run_newObj, Result.andThen_ok, Sem.run_pure]; rfl
  · exact VR.map (L := L) (OM.ext_at _ _ _)

end Go.V
