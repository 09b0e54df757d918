/- Slices that are made, appended to, converted: held against the model's memory. No conditions. -/
import Derived.Test.YthcpmjljdncigaaGreatDoorZVSoundE
set_option linter.unusedSimpArgs false
set_option linter.unusedVariables false
namespace Go.V
open RowKit (Below)
variable {P : Program} {Z : FZ} {m : OM} {base : Nat} {W0 : World} {H : Heap} {W : World}

def clM (cl : Bool) (m : OM) : OM := if cl then OM.none else m
theorem clM_le {cl : Bool} {m : OM} : (clM cl m).le m := by cases cl <;> first | exact OM.le.refl _ | exact OM.none_le _

/-- The cells of elements, one behind the other. -/
theorem flat_get {es : List AV} {sz : Nat} (hs : ∀ k (h : k < es.length), (es[k]).cells.length = sz) {k j : Nat} (hk : k < es.length) (hj : j < sz) :
    (es.flatMap AV.cells)[k * sz + j]? = (es[k]).cells[j]? := by
  have h := flatMap_cells_get hs hk
  have : (((es.flatMap AV.cells).drop (k * sz)).take sz)[j]? = (es[k]).cells[j]? := by rw [h]
  rwa [List.getElem?_take_of_lt hj, List.getElem?_drop] at this

theorem flat_lvr {mm : OM} {es : List AV} {sz : Nat} (hs : ∀ k (h : k < es.length), (es[k]).cells.length = sz) {vs : List Value} (hl : vs.length = es.length * sz)
    (h : ∀ k (hk : k < es.length) j (hj : j < (es[k]).cells.length) v, vs[k * sz + j]? = some v → VR Z mm (es[k]).cells[j] v) : LVR Z mm (es.flatMap AV.cells) vs := by
  refine LVR.of_get? (by rw [flatMap_cells_length hs, hl]) fun q x v hx hv => ?_
  have hq : q < es.length * sz := by rw [← hl]; exact (List.getElem?_eq_some_iff.1 hv).1
  have hsz : 0 < sz := by rcases Nat.eq_zero_or_pos sz with h0 | h0; · subst h0; simp at hq
                          · exact h0
  have hk : q / sz < es.length := (Nat.div_lt_iff_lt_mul hsz).2 hq
  have hj : q % sz < sz := Nat.mod_lt _ hsz
  have e : q = q / sz * sz + q % sz := by have := Nat.div_add_mod q sz; rw [Nat.mul_comm] at this; omega
  rw [e] at hx hv
  rw [flat_get hs hk hj] at hx
  have hj' : q % sz < (es[q / sz]).cells.length := by rw [hs]; exact hj
  rw [List.getElem?_eq_getElem hj'] at hx
  cases hx
  exact h _ hk _ hj' _ hv

theorem sub_range {b o off n sz : Nat} {es : List AV} (hs : ∀ k (h : k < es.length), (es[k]).cells.length = sz) (hle : off + n ≤ es.length) {mm : OM}
    (h : CellsR Z mm W b o (es.flatMap AV.cells)) : CellsR Z mm W b (o + off * sz) (((es.drop off).take n).flatMap AV.cells) := by
  have h1 := h.sub (off := off * sz) (n := n * sz) (by rw [flatMap_cells_length hs, ← Nat.add_mul]; exact Nat.mul_le_mul_right _ hle)
  have e : ((es.flatMap AV.cells).drop (off * sz)).take (n * sz) = ((es.drop off).take n).flatMap AV.cells := by
    clear h h1
    induction off generalizing es with
    | zero =>
      simp only [Nat.zero_mul, List.drop_zero]
      induction n generalizing es with
      | zero => simp
      | succ n ih =>
        cases es with
        | nil => simp
        | cons x xs =>
          have h0 : x.cells.length = sz := hs 0 (by simp)
          have := ih (es := xs) (fun k h => hs (k + 1) (by simpa using h)) (by simp at hle ⊢; omega)
          simp only [List.flatMap_cons, List.take_succ_cons]
          rw [Nat.succ_mul, List.take_append, h0, show n * sz + sz - sz = n * sz by omega, this, List.take_of_length_le (by omega)]
    | succ off ih =>
      cases es with
      | nil => simp
      | cons x xs =>
        have h0 : x.cells.length = sz := hs 0 (by simp)
        have := ih (es := xs) (fun k h => hs (k + 1) (by simpa using h)) (by simp at hle ⊢; omega)
        simp only [List.flatMap_cons, List.drop_succ_cons]
        rw [Nat.succ_mul, List.drop_append, h0, show off * sz + sz - sz = off * sz by omega, List.drop_eq_nil_of_le (by omega), List.nil_append]
        exact this
  rw [e] at h1
  exact h1

/-- The values of what a slice, or a string, holds. -/
theorem elems_sound (hW : WR Z m base W0 H W) {x : AV} {v : Value} {cl : Bool} {xs : List AV} {sz : Nat} (h : elems H x = some (cl, xs)) (hsz : sizedV sz xs = true) (hv : VR Z m x v)
    (hstr : ∀ s, x = .str s → sz = 1) :
    ∃ news : List Value, LVR Z (clM cl m) (xs.flatMap AV.cells) news ∧ (∀ W', (Builtin.lenOf v).run P W' = .ok xs.length W') ∧
      ∀ W' : World, (∀ a : Addr, W'.cell? a = W.cell? a) → (Builtin.firstCells sz xs.length v).run P W' = .ok news.toArray W' := by
  unfold elems at h
  split at h
  · cases h; cases hv
    exact ⟨[], ⟨rfl, fun j h => absurd h (by simp)⟩, fun W' => rfl, fun W' _ => rfl⟩
  · cases h
    cases hv with
    | sl vs hcap hs hz hr hsp =>
      rename_i b o cap sz' sp
      by_cases hxs : xs = []
      · subst hxs
        refine ⟨[], ⟨rfl, fun j h => absurd h (by simp)⟩, fun W' => rfl, fun W' hcell => ?_⟩
        exact run_firstCells_some (P := P) W' sz 0 ⟨b, o, sp⟩ _ _ [] (by simp) (fun j u hu => by simp at hu)
      have hsp' : sp = none := hsp hxs
      subst hsp'
      have hs' : ∀ k (h : k < xs.length), (xs[k]).cells.length = sz := fun k hk => sizedV_get hsz hk
      have hc : CellsR Z OM.none W b o (xs.flatMap AV.cells) := by
        refine CellsR.mk fun q hq => ?_
        rw [flatMap_cells_length hs'] at hq
        have h0 : 0 < sz := by rcases Nat.eq_zero_or_pos sz with h0 | h0; · subst h0; simp at hq
                               · exact h0
        have hk : q / sz < xs.length := (Nat.div_lt_iff_lt_mul h0).2 hq
        have hj : q % sz < sz := Nat.mod_lt _ h0
        have e : q = q / sz * sz + q % sz := by have := Nat.div_add_mod q sz; rw [Nat.mul_comm] at this; omega
        have e1 : sz' = sz := by rw [← hs _ hk, hs' _ hk]
        subst e1
        have hj' : q % sz' < (xs[q / sz']).cells.length := by rw [hs]; exact hj
        refine ⟨vs (q / sz') (q % sz'), ?_, ?_⟩
        · have := hW.zok _ _ _ (hz _ _ hk hj)
          rwa [show o + q / sz' * sz' + q % sz' = o + q by omega] at this
        · have e2 : (xs.flatMap AV.cells)[q]? = some ((xs[q / sz']).cells[q % sz']) := by
            have h9 := flat_get hs' hk hj
            rw [← e] at h9
            rw [h9]; exact List.getElem?_eq_getElem hj'
          have := (List.getElem?_eq_some_iff.1 e2).2
          rw [this]
          exact hr _ hk _ hj'
      obtain ⟨news, h1, h2, h3⟩ := hc
      refine ⟨news, ⟨h1.symm, h3⟩, fun W' => rfl, fun W' hcell => ?_⟩
      refine run_firstCells_some (P := P) W' sz xs.length ⟨b, o, none⟩ _ _ news (by rw [h1, flatMap_cells_length hs']) (fun j u hu => ?_)
      rw [hcell, Addr.add_mk]; exact h2 j u hu
  · rename_i i off len
    split at h
    · rename_i cl' sz' es hrow
      split at h
      · rename_i hle
        cases h
        have hxl : ((es.drop off).take len).length = len := by simp; omega
        have hs' : ∀ k (h : k < ((es.drop off).take len).length), (((es.drop off).take len)[k]).cells.length = sz := fun k hk => sizedV_get hsz hk
        cases hv with
        | ref hcap hloc =>
          rename_i b o cap
          by_cases hc0 : 0 < cap
          · obtain ⟨L, hL, rfl, rfl, hfit⟩ := hloc hc0
            have hc : CellsR Z (clM cl m) W L.b (L.o + off * L.sz) (((es.drop off).take len).flatMap AV.cells) := by
              unfold rowOf at hrow
              split at hrow
              · rename_i hi
                cases hrow
                obtain ⟨L', hL', _, hs, hc⟩ := hW.obs i _ hi (by simp)
                rw [hL] at hL'; cases hL'
                exact sub_range hs hle (CellsAt.toR hc)
              · rename_i hi
                cases hrow
                obtain ⟨L', hL', _, hs, hle2, vs, hz, hr⟩ := hW.obs i _ hi (by simp)
                rw [hL] at hL'; cases hL'
                refine sub_range hs hle (CellsR.mk fun q hq => ?_)
                rw [flatMap_cells_length hs] at hq
                have h0 : 0 < L.sz := by rcases Nat.eq_zero_or_pos L.sz with h0 | h0; · rw [h0] at hq; simp at hq
                                         · exact h0
                have hk : q / L.sz < es.length := (Nat.div_lt_iff_lt_mul h0).2 hq
                have hj : q % L.sz < L.sz := Nat.mod_lt _ h0
                have e : q = q / L.sz * L.sz + q % L.sz := by have := Nat.div_add_mod q L.sz; rw [Nat.mul_comm] at this; omega
                have hj' : q % L.sz < (es[q / L.sz]).cells.length := by rw [hs]; exact hj
                refine ⟨vs (q / L.sz) (q % L.sz), ?_, ?_⟩
                · have := hW.zok _ _ _ (hz _ _ hk hj)
                  rwa [show L.o + q / L.sz * L.sz + q % L.sz = L.o + q by omega] at this
                · have e2 : (es.flatMap AV.cells)[q]? = some ((es[q / L.sz]).cells[q % L.sz]) := by
                    have h9 := flat_get hs hk hj
                    rw [← e] at h9
                    rw [h9]; exact List.getElem?_eq_getElem hj'
                  have := (List.getElem?_eq_some_iff.1 e2).2
                  rw [this]
                  exact hr _ hk _ hj'
              · cases hrow
            obtain ⟨news, h1, h2, h3⟩ := hc
            refine ⟨news, ⟨h1.symm, h3⟩, fun W' => by rw [hxl]; rfl, fun W' hcell => ?_⟩
            rw [hxl]
            refine run_firstCells_some (P := P) W' sz len ⟨L.b, L.o + off * L.sz, none⟩ _ _ news (by rw [h1, flatMap_cells_length hs', hxl]) (fun j u hu => ?_)
            rw [hcell, Addr.add_mk]; exact h2 j u hu
          · have h0 : len = 0 := by omega
            subst h0
            exact ⟨[], ⟨by simp, fun j h => absurd h (by simp)⟩, fun W' => by simp [Builtin.lenOf], fun W' _ => by simp [Builtin.firstCells, loadCells, loadCellsFrom]⟩
      · cases h
    · cases h
  · rename_i s
    cases h; cases hv
    have hs1 := hstr s rfl
    subst hs1
    have hlen : (bytesAV s).length = s.size := by simp [bytesAV]
    refine ⟨s.data.toList.map fun b => .int .u8 b.toNat, ?_, fun W' => by rw [hlen]; rfl, fun W' _ => ?_⟩
    · have e : (bytesAV s).flatMap AV.cells = bytesAV s := by
        simp only [bytesAV, List.flatMap_map]
        show List.flatMap (fun a : UInt8 => [AV.int .u8 a.toNat]) s.data.toList = _
        rw [List.map_eq_flatMap]
      rw [e]
      refine LVR.of_get? (by simp [bytesAV]) fun j x v hx hv => ?_
      simp [bytesAV] at hx hv
      obtain ⟨a, ha, rfl⟩ := hx
      obtain ⟨c, hc, rfl⟩ := hv
      rw [ha] at hc; cases hc
      exact .int
    · rw [hlen]
      have e2 : (s.extract 0 s.size) = s := by simp [ByteArray.extract_zero_size]
      simp only [Builtin.firstCells, e2, Sem.run_pure]
      congr 1
      apply Array.ext'
      simp
  · cases h

/-! Appends. -/

theorem run_append_place (t ty e : TypeId) (i : TypeInfo) (ts : Array TypeId) (ht : P.underlying t = some (.slice e)) (hi : P.info? e = some i) (hts : ts[0]? = some t)
    (hz : ts[1]? = none ∨ ∃ xt d, ts[1]? = some xt ∧ P.underlying xt = some d ∧ ∀ k, d ≠ .int k)
    (a : Addr) (sLen sCap n : Nat) (x : Value) (rest : List Value) (news : List Value) (hn : (Builtin.lenOf x).run P W = .ok n W) (hf : (Builtin.firstCells i.size n x).run P W = .ok news.toArray W)
    (hroom : sLen + n ≤ sCap) (W' : World) (hst : (storeCells (a.add (sLen * i.size)) news).run P W = .ok () W') :
    (Builtin.append_ ts ty (Value.slice (some a) sLen sCap :: x :: rest).toArray).run P W = .ok (.slice (some a) (sLen + n) sCap) W' := by
  unfold Builtin.append_
  simp only [hts, List.getElem?_toArray, List.getElem?_cons_zero, List.getElem?_cons_succ]
  rw [Sem.run_bind, run_und ht, Result.andThen_ok]
  simp only []
  rw [Sem.run_bind]
  have hs : (sizeOf e).run P W = .ok i.size W := by simp [sizeOf, typeInfo, hi]
  rw [hs, Result.andThen_ok]
  rcases hz with hz | ⟨xt, d, hz, hzu, hd⟩
  · rw [hz]
    simp [hn, hroom, hf, hst]
  · rw [hz]
    simp only []
    rw [Sem.run_bind, run_und hzu, Result.andThen_ok]
    cases d <;> first | exact absurd rfl (hd _) | simp [hn, hroom, hf, hst]

theorem run_append_more (t ty e : TypeId) (i : TypeInfo) (z : Value) (ts : Array TypeId) (ht : P.underlying t = some (.slice e)) (hi : P.info? e = some i) (hz0 : i.zero = some z) (hts : ts[0]? = some t)
    (hz : ts[1]? = none ∨ ∃ xt d, ts[1]? = some xt ∧ P.underlying xt = some d ∧ ∀ k, d ≠ .int k)
    (bs : Option Addr) (sLen sCap n : Nat) (x : Value) (rest : List Value) (olds news : List Value) (hn : (Builtin.lenOf x).run P W = .ok n W) (hf : (Builtin.firstCells i.size n x).run P W.drew = .ok news.toArray W.drew)
    (ho : (Builtin.firstCells i.size sLen (.slice bs sLen sCap)).run P W.drew = .ok olds.toArray W.drew)
    (hroom : sCap < sLen + n) (h63 : ((sLen + n : Nat) : Int) ≤ 9223372036854775807) (hfit : Builtin.nextslicecap (sLen + n) sCap * i.bytes ≤ 281474976710656) :
    (Builtin.append_ ts ty (Value.slice bs sLen sCap :: x :: rest).toArray).run P W =
      .ok (.slice (some ⟨W.heap.size, 0, none⟩) (sLen + n) (grownCap W (sLen + n) sCap e))
        (W.drew.alloc (.cells (olds.toArray ++ news.toArray ++ Builtin.zeroCells z.cells (grownCap W (sLen + n) sCap e - (sLen + n))) e)) := by
  have hn' : ¬ (sLen + n ≤ sCap) := by omega
  have h63' : ¬ (9223372036854775807 < ((sLen : Int) + (n : Int))) := by omega
  have h48' : ¬ (281474976710656 < Builtin.nextslicecap (sLen + n) sCap * i.bytes) := by omega
  unfold Builtin.append_
  simp only [hts, List.getElem?_toArray, List.getElem?_cons_zero, List.getElem?_cons_succ]
  rw [Sem.run_bind, run_und ht, Result.andThen_ok]
  simp only []
  rw [Sem.run_bind]
  have hs : (sizeOf e).run P W = .ok i.size W := by simp [sizeOf, typeInfo, hi]
  rw [hs, Result.andThen_ok]
  have fin : (W.drew.alloc (.cells (olds.toArray ++ (news.toArray ++ Builtin.zeroCells z.cells (grownCap W (sLen + n) sCap e - (sLen + n)))) e)) =
      (W.drew.alloc (.cells (olds.toArray ++ news.toArray ++ Builtin.zeroCells z.cells (grownCap W (sLen + n) sCap e - (sLen + n))) e)) := by
    congr 2
    apply Array.ext'
    simp [List.append_assoc]
  rw [← fin]
  rcases hz with hz | ⟨xt, d, hz, hzu, hd⟩
  · rw [hz]
    simp [hn, hn', h63', h48', typeInfo, hi, zeroValue, hz0, Question.forced, ho, hf, newRow, grownCap]
  · rw [hz]
    simp only []
    rw [Sem.run_bind, run_und hzu, Result.andThen_ok]
    cases d <;> first | exact absurd rfl (hd _) | simp [hn, hn', h63', h48', typeInfo, hi, zeroValue, hz0, Question.forced, ho, hf, newRow, grownCap]

theorem run_append_zeros (t ty e : TypeId) (i : TypeInfo) (z : Value) (ts : Array TypeId) (ht : P.underlying t = some (.slice e)) (hi : P.info? e = some i) (hz0 : i.zero = some z) (hts : ts[0]? = some t)
    (xt : TypeId) (kk : IntKind) (hz : ts[1]? = some xt) (hzu : P.underlying xt = some (.int kk))
    (k : IntKind) (n : Nat) (rest : List Value) (hpos : 0 < n) (h0 : 0 < i.bytes) (hfit : n * i.bytes ≤ 140737488355328) (hsz : 0 < i.size) :
    (Builtin.append_ ts ty (Value.slice none 0 0 :: Value.int k n :: rest).toArray).run P W =
      .ok (.slice (some ⟨W.heap.size, 0, none⟩) n (grownCap W n 0 e))
        (W.drew.alloc (.cells (Builtin.zeroCells z.cells n ++ Builtin.zeroCells z.cells (grownCap W n 0 e - n)) e)) := by
  have hle : n ≤ n * i.bytes := Nat.le_mul_of_pos_right _ h0
  have hw : IntKind.i64.wrap (n : Int) = n := by rw [IntKind.wrap_i64]; omega
  have h48 : ¬ (281474976710656 < Builtin.nextslicecap n 0 * i.bytes) := by rw [nextslicecap_zero hpos]; omega
  have hb : ¬ (281474976710656 < (n : Int) * (i.bytes : Int)) := by
    have : ((n * i.bytes : Nat) : Int) ≤ 140737488355328 := by omega
    rw [Int.natCast_mul] at this; omega
  have hne : n ≠ 0 := by omega
  have hsz' : i.size ≠ 0 := by omega
  unfold Builtin.append_
  simp only [hts, List.getElem?_toArray, List.getElem?_cons_zero, List.getElem?_cons_succ]
  rw [Sem.run_bind, run_und ht, Result.andThen_ok]
  simp only []
  rw [Sem.run_bind]
  have hs : (sizeOf e).run P W = .ok i.size W := by simp [sizeOf, typeInfo, hi]
  rw [hs, Result.andThen_ok, hz]
  simp only []
  rw [Sem.run_bind, run_und hzu, Result.andThen_ok]
  have h63 : ¬ (9223372036854775807 < (n : Int)) := by omega
  have hneg : ¬ ((n : Int) < 0) := by omega
  have hns : n * i.size ≠ 0 := Nat.mul_ne_zero hne hsz'
  simp [asInt, asIntOf, hw, hneg, hb, typeInfo, hi, hne, h63, h48, zeroValue, hz0, hsz', Question.forced, Builtin.firstCells, newRow, grownCap]
  exact fun h => absurd h hns

theorem clM_and_left {a b : Bool} {m : OM} : (clM a m).le (clM (a && b) m) := by cases a <;> cases b <;> first | exact OM.le.refl _ | exact OM.none_le _
theorem clM_and_right {a b : Bool} {m : OM} : (clM b m).le (clM (a && b) m) := by cases a <;> cases b <;> first | exact OM.le.refl _ | exact OM.none_le _
theorem clM_ext {a : Bool} {m m' : OM} (h : m.le m') : (clM a m).le (clM a m') := by cases a <;> first | exact h | exact OM.le.refl _

theorem kill (hW : WR Z m base W0 H W) {i : Nat} {ob : Ob} (hi : H[i]? = some ob) (ha : ob.alive = true) : WR Z m base W0 (H.set i .dead) W := by
  obtain ⟨L, hL, _⟩ := hW.obs i ob hi (Ob.alive_ne ha)
  exact hW.change hi ha hL rfl rfl rfl (Nat.le_refl _) (fun _ _ _ => rfl) (.inr rfl)

/-- What an append says of its element type. -/
theorem append_type {e : TypeId} (hz : zsizeP P e = true) : ∃ i z, P.info? e = some i ∧ i.zero = some z ∧ i.size = P.cellsOf e ∧ i.bytes = P.bytesOf e ∧ z.cells.size = P.cellsOf e := by
  unfold zsizeP at hz
  cases hi : P.info? e with
  | none => simp [hi] at hz
  | some i =>
    cases hz0 : i.zero with
    | none => simp [hi, hz0] at hz
    | some z => simp [hi, hz0] at hz; exact ⟨i, z, rfl, hz0, by simp [Program.cellsOf, hi], by simp [Program.bytesOf, hi], hz⟩

/-- A new array behind an append. -/
theorem append_new (hW : WR Z m base W0 H W) {e : TypeId} {cl : Bool} {es : List AV} {olds news : List Value} {z : Value} {sz cap : Nat} (hs : ∀ k (h : k < es.length), (es[k]).cells.length = sz)
    (hz : z.cells.size = sz) (hcap : es.length ≤ cap) (hl : LVR Z (clM cl m) (es.flatMap AV.cells) (olds ++ news)) :
    ∃ m', Ext base Z Z m m' ∧ WR Z m' base W0 (H ++ [.row cl sz es]) (W.drew.alloc (.cells (olds.toArray ++ news.toArray ++ Builtin.zeroCells z.cells (cap - es.length)) e)) ∧
      VR Z m' (.ref H.length 0 es.length) (.slice (some ⟨W.heap.size, 0, none⟩) es.length cap) := by
  have hlen : (olds ++ news).length = es.length * sz := by rw [← hl.1, flatMap_cells_length hs]
  have hsize : (olds.toArray ++ news.toArray ++ Builtin.zeroCells z.cells (cap - es.length)).size = cap * sz := by
    simp only [Array.size_append, List.size_toArray, size_zeroCells, hz]
    rw [List.length_append] at hlen
    rw [hlen, ← Nat.add_mul]; congr 1; omega
  have := new_row (hW.grow (W' := W.drew) ⟨rfl, rfl, rfl, Nat.le_refl _, fun _ _ => rfl⟩) e cl (es := es) (sz := sz) (cap := cap)
    (c := olds.toArray ++ news.toArray ++ Builtin.zeroCells z.cells (cap - es.length)) hs (by rw [hsize]; exact Nat.le_refl _) hcap (0, 0) (fun j _ => by simp)
    (by
      have e1 : (olds.toArray ++ news.toArray ++ Builtin.zeroCells z.cells (cap - es.length)).toList.take (es.length * sz) = olds ++ news := by
        simp only [Array.toList_append]
        rw [← hlen, List.take_append_of_le_length (by simp)]
        exact List.take_of_length_le (by simp)
      rw [e1]; exact hl)
  exact this

theorem appendType_spec {e : TypeId} (h : appendType P e = true) : ∃ i z d, P.info? e = some i ∧ P.underlying e = some d ∧ i.zero = some z ∧ i.size = P.cellsOf e ∧ i.bytes = P.bytesOf e ∧ z.cells.size = P.cellsOf e ∧ 0 < P.bytesOf e ∧ 0 < P.cellsOf e := by
  unfold appendType at h
  simp only [Bool.and_eq_true, decide_eq_true_eq] at h
  obtain ⟨⟨⟨h1, h2⟩, h3⟩, h4⟩ := h
  obtain ⟨d, hd⟩ := known_und h1
  obtain ⟨i, z, a, b, c, f, g⟩ := append_type h2
  exact ⟨i, z, d, a, hd, b, c, f, g, h3, h4⟩

theorem flat_replicate {v : AV} {sz n : Nat} (hv : v.cells.length = sz) {q : Nat} (hq : q < n * sz) : ((List.replicate n v).flatMap AV.cells)[q]? = v.cells[q % sz]? := by
  have h0 : 0 < sz := by rcases Nat.eq_zero_or_pos sz with h0 | h0; · subst h0; simp at hq
                         · exact h0
  have hk : q / sz < (List.replicate n v).length := by simpa using (Nat.div_lt_iff_lt_mul h0).2 hq
  have hs : ∀ k (h : k < (List.replicate n v).length), ((List.replicate n v)[k]).cells.length = sz := fun k h => by simp [hv]
  have h9 := flat_get hs hk (Nat.mod_lt q h0)
  have e : q = q / sz * sz + q % sz := by have := Nat.div_add_mod q sz; rw [Nat.mul_comm] at this; omega
  rw [← e] at h9
  rw [h9]; simp

/-- Zero values, one behind the other. -/
theorem zeros_lvr {e : TypeId} {z : Value} {zc : List AV} {v : AV} {sz n : Nat} {mm : OM} (hl : LVR Z mm zc z.cells.toList) (hv : v.cells = zc) (hzs : z.cells.size = sz) :
    LVR Z mm ((List.replicate n v).flatMap AV.cells) ((Array.range (n * sz)).map (z.cells[· % z.cells.size]!)).toList := by
  have hvs : v.cells.length = sz := by rw [hv, hl.1]; simpa using hzs
  have hs : ∀ k (h : k < (List.replicate n v).length), ((List.replicate n v)[k]).cells.length = sz := fun k h => by simp [hvs]
  refine LVR.of_get? (by rw [flatMap_cells_length hs]; simp) fun q x w hx hw => ?_
  have hq : q < n * sz := by have := (List.getElem?_eq_some_iff.1 hw).1; simpa using this
  rw [flat_replicate hvs hq] at hx
  have h0 : 0 < sz := by rcases Nat.eq_zero_or_pos sz with h0 | h0; · subst h0; simp at hq
                         · exact h0
  have hm := Nat.mod_lt q h0
  rw [hv] at hx
  obtain ⟨w', hw', hr⟩ := hl.get? hx
  have e1 : ((Array.range (n * sz)).map (z.cells[· % z.cells.size]!)).toList[q]? = some (z.cells[q % z.cells.size]!) := by
    simp [List.getElem?_range, hq]
  rw [e1] at hw
  cases hw
  have e2 : z.cells[q % z.cells.size]! = w' := by
    rw [hzs]
    have h3 : z.cells[q % sz]? = some w' := by simpa using hw'
    simp [getElem!_def, h3]
  rw [e2]; exact hr

theorem appendZeros_sound (hW : WR Z m base W0 H W) {t ty e xt : TypeId} {kk : IntKind} {ts : Array TypeId} {b x y : AV} {vb vx : Value} {rest : List Value} {H' : Heap} (hts : ts[0]? = some t)
    (hu : P.underlying t = some (.slice e)) (het : appendType P e = true) (hxt : ts[1]? = some xt) (hxu : P.underlying xt = some (.int kk))
    (h : appendZeros P e b x H = some (y, H')) (hb : VR Z m b vb) (hx : VR Z m x vx) :
    ∃ v W' m', (Builtin.append_ ts ty (vb :: vx :: rest).toArray).run P W = .ok v W' ∧ Ext base Z Z m m' ∧ WR Z m' base W0 H' W' ∧ VR Z m' y v := by
  obtain ⟨i, z, d, hi, hd, hz0, hisz, hiby, hzc, hb0, hc0⟩ := appendType_spec het
  unfold appendZeros at h
  split at h
  · rename_i k n zc hzz
    split at h
    · rename_i v hm
      split at h
      · rename_i hc
        obtain ⟨hn0, hroom, hvs⟩ := hc
        cases h; cases hb; cases hx
        obtain ⟨n, rfl⟩ := Int.eq_ofNat_of_zero_le (show 0 ≤ n by omega)
        obtain ⟨zv, _, hzl, hzv⟩ := zeroP_run (Z := Z) (m := clM true m) (W := W) hzz
        have : zv = z := by simp [hi, hz0] at hzv; exact hzv.symm
        subst this
        have hroom' : n * i.bytes ≤ 140737488355328 := by
          rw [hiby]
          unfold roomV at hroom
          have : ((n * P.bytesOf e : Nat) : Int) ≤ 2 ^ 46 := by rw [Int.natCast_mul]; exact_mod_cast hroom
          omega
        have hr := run_append_zeros (P := P) (W := W) t ty e i zv ts hu hi hz0 hts xt kk hxt hxu k n rest (by omega) (by omega) hroom' (by omega)
        have hcap := grownCap_ge W n 0 e
        have := append_new hW (e := e) (cl := true) (es := List.replicate n v) (olds := (Builtin.zeroCells zv.cells n).toList) (news := []) (z := zv) (sz := P.cellsOf e) (cap := grownCap W n 0 e)
          (fun k h => by simp [hvs]) hzc (by simpa using hcap) (by
            have := zeros_lvr (e := e) (n := n) (sz := P.cellsOf e) hzl (mkV_cells hm) hzc
            rw [List.append_nil]
            unfold Builtin.zeroCells
            rw [hzc]
            rw [hzc] at this
            exact this)
        obtain ⟨m', h1, h2, h3⟩ := this
        simp only [List.length_replicate, Int.toNat_natCast] at h1 h2 h3 ⊢
        refine ⟨_, _, m', hr, h1, ?_, h3⟩
        have e1 : ((Builtin.zeroCells zv.cells n).toList.toArray ++ ([] : List Value).toArray ++ Builtin.zeroCells zv.cells (grownCap W n 0 e - n)) = Builtin.zeroCells zv.cells n ++ Builtin.zeroCells zv.cells (grownCap W n 0 e - n) := by
          apply Array.ext'; simp
        rw [e1] at h2
        exact h2
      · cases h
    · cases h
  · cases h

theorem appendElems_sound (hW : WR Z m base W0 H W) {t ty e : TypeId} {ts : Array TypeId} {b x y : AV} {cl : Bool} {xs : List AV} {vb vx : Value} {rest : List Value} {H' : Heap} (hts : ts[0]? = some t)
    (hu : P.underlying t = some (.slice e)) (het : appendType P e = true) (hz : ts[1]? = none ∨ ∃ xt d, ts[1]? = some xt ∧ P.underlying xt = some d ∧ ∀ k, d ≠ .int k)
    (hel : elems H x = some (cl, xs)) (hsz : sizedV (P.cellsOf e) xs = true) (hstr : strOk P e x = true)
    (h : appendElems P e cl xs b H = some (y, H')) (hb : VR Z m b vb) (hx : VR Z m x vx) :
    ∃ v W' m', (Builtin.append_ ts ty (vb :: vx :: rest).toArray).run P W = .ok v W' ∧ Ext base Z Z m m' ∧ WR Z m' base W0 H' W' ∧ VR Z m' y v := by
  obtain ⟨i, z, d, hi, hd, hz0, hisz, hiby, hzc, hb0, hc0⟩ := appendType_spec het
  obtain ⟨news, hln, hlen, hfirst⟩ := elems_sound (P := P) hW hel hsz hx (fun s hs => by subst hs; simpa [strOk] using hstr)
  have hs : ∀ k (h : k < xs.length), (xs[k]).cells.length = P.cellsOf e := fun k hk => sizedV_get hsz hk
  have hdrew : ∀ a : Addr, W.drew.cell? a = W.cell? a := fun a => rfl
  have hf0 := hfirst W (fun _ => rfl)
  have hf1 := hfirst W.drew hdrew
  rw [← hisz] at hf0 hf1
  have hnl : news.length = xs.length * P.cellsOf e := by rw [← hln.1, flatMap_cells_length hs]
  unfold appendElems at h
  split at h
  · cases hb
    split at h
    · rename_i hnil
      cases h
      subst hnil
      have hn0 : news = [] := List.eq_nil_of_length_eq_zero (by simpa using hnl)
      subst hn0
      refine ⟨.slice none 0 0, W, m, ?_, Ext.refl _ _ _, hW, .nils⟩
      unfold Builtin.append_
      simp only [hts, List.getElem?_toArray, List.getElem?_cons_zero, List.getElem?_cons_succ]
      rw [Sem.run_bind, run_und hu, Result.andThen_ok]
      simp only []
      rw [Sem.run_bind, run_size hd, Result.andThen_ok, ← hisz]
      rcases hz with hz | ⟨xt, dd, hz, hzu, hdd⟩
      · rw [hz]; simp at hf0; simp [hlen, hf0]
      · rw [hz]
        simp only []
        rw [Sem.run_bind, run_und hzu, Result.andThen_ok]
        simp at hf0
        cases dd <;> first | exact absurd rfl (hdd _) | simp [hlen, hf0]
    · rename_i hne
      split at h
      · rename_i hroom
        cases h
        have hpos : 0 < xs.length := List.length_pos_iff.2 hne
        unfold roomV at hroom
        have hge : xs.length ≤ xs.length * P.bytesOf e := Nat.le_mul_of_pos_right _ hb0
        have hr := run_append_more (P := P) (W := W) t ty e i z ts hu hi hz0 hts hz none 0 0 xs.length vx rest [] news (hlen W) hf1 (by simp [Builtin.firstCells]) (by omega) (by omega)
          (growslice_fits (by omega) (by rw [hiby, Nat.zero_add]; omega))
        obtain ⟨m', h1, h2, h3⟩ := append_new hW (e := e) (cl := cl) (es := xs) (olds := []) (news := news) (z := z) (sz := P.cellsOf e) (cap := grownCap W (0 + xs.length) 0 e) hs hzc
          (by have := grownCap_ge W (0 + xs.length) 0 e; omega) (by simpa using hln)
        simp only [Nat.zero_add] at hr h2 h3
        exact ⟨_, _, m', hr, h1, h2, h3⟩
      · cases h
  · rename_i i0 off len
    split at h
    · rename_i cl' sz es hrow
      split at h
      · rename_i hc
        obtain ⟨hle, hsze, hroom, hone⟩ := hc
        subst hsze
        cases h
        obtain ⟨L, hL, hLs, hss, hcell⟩ := hW.obs i0 _ hrow (by simp)
        have hsep := hW.sep i0 _ L hrow rfl hL
        have hkill := kill hW hrow rfl
        unfold roomV at hroom
        have hge : len + xs.length ≤ (len + xs.length) * P.bytesOf e := Nat.le_mul_of_pos_right _ hb0
        have hol : ((es.drop off).take len).length = len := by simp; omega
        rw [hLs] at hss
        have hns : ∀ k (h : k < ((es.drop off).take len ++ xs).length), (((es.drop off).take len ++ xs)[k]).cells.length = P.cellsOf e := by
          intro k hk
          rw [List.getElem_append]
          split
          · simp only [List.getElem_take, List.getElem_drop]; exact hss _ _
          · exact hs _ _
        have hnlen : ((es.drop off).take len ++ xs).length = len + xs.length := by simp; omega
        cases hb with
        | ref hcap hloc =>
          rename_i bb oo cap
          have holds : ∃ olds : List Value, LVR Z (clM cl' m) (((es.drop off).take len).flatMap AV.cells) olds ∧ olds.length = len * P.cellsOf e ∧
              ∀ j u, olds[j]? = some u → W.cell? ⟨bb, oo + j, none⟩ = some u := by
            by_cases hc0 : 0 < cap
            · obtain ⟨L', hL', rfl, rfl, hfit⟩ := hloc hc0
              rw [hL] at hL'; cases hL'
              obtain ⟨olds, h1, h2, h3⟩ := sub_range hss hle (CellsAt.toR hcell)
              refine ⟨olds, ⟨h1.symm, h3⟩, ?_, by rw [hLs]; exact h2⟩
              rw [h1, flatMap_cells_length (sz := P.cellsOf e) (fun k hk => by simp only [List.getElem_take, List.getElem_drop]; exact hss _ _), hol]
            · have h0 : len = 0 := by omega
              subst h0
              exact ⟨[], ⟨by simp, fun j h => absurd h (by simp)⟩, by simp, fun j u h => by simp at h⟩
          obtain ⟨olds, hlo, hlol, hloc2⟩ := holds
          have hall : LVR Z (clM (cl && cl') m) (((es.drop off).take len ++ xs).flatMap AV.cells) (olds ++ news) := by
            rw [List.flatMap_append]
            exact (hlo.mono (FZ.le.refl _) clM_and_right).append (hln.mono (FZ.le.refl _) clM_and_left)
          by_cases hfitcap : len + xs.length ≤ cap
          · -- in place
            by_cases hc0 : 0 < cap
            · obtain ⟨L', hL', rfl, rfl, hfit⟩ := hloc hc0
              rw [hL] at hL'; cases hL'
              rw [hLs] at hfit
              have hone' : ∀ u ∈ news, u.oneCell' = true := by
                intro u hu'
                obtain ⟨j, hj, ej⟩ := List.getElem_of_mem hu'
                rw [← ej]
                exact one_oneCell (hln.2 j (by rw [hln.1]; exact hj) hj) (by rw [List.all_eq_true] at hone; exact hone _ (List.getElem_mem _))
              have hcm : (len + xs.length) * P.cellsOf e ≤ cap * P.cellsOf e := Nat.mul_le_mul_right _ hfitcap
              rw [Nat.add_mul] at hcm
              have hst := run_storeCells_cells (P := P) L.b (L.o + off * P.cellsOf e + len * P.cellsOf e) news 0 W
                (fun j hj => by
                  obtain ⟨u, hu'⟩ := hcell.some (L.o + off * P.cellsOf e + len * P.cellsOf e + j) (by omega)
                  simp only [Nat.add_zero]
                  rw [hu']; rfl)
                (fun j hj => by simp only [Nat.add_zero]; exact hcell.free _ (by omega)) hone'
              simp only [Nat.add_zero] at hst
              have hr := run_append_place (P := P) (W := W) t ty e i ts hu hi hts hz ⟨L.b, L.o + off * L.sz, none⟩ len cap xs.length vx rest news (hlen W) hf0 hfitcap _
                (by rw [Addr.add_mk, hisz, hLs]; exact hst)
              obtain ⟨s1, s2, s3, s4, s5⟩ := setCells_same L.b news (L.o + off * P.cellsOf e + len * P.cellsOf e) W
              -- the old object is dead, its block changes
              have hW1 : WR Z m base W0 (H.set i0 .dead) (W.setCells L.b (L.o + off * P.cellsOf e + len * P.cellsOf e) news) :=
                hW.change hrow rfl hL s1 s2 s3 (by omega) (fun k _ hne => s5 k hne) (.inr rfl)
              let L2 : Loc := ⟨L.b, L.o + off * P.cellsOf e, P.cellsOf e, L.tot⟩
              have hext : m.le (m.ext (H.set i0 .dead).length L2) := OM.le_ext hW1.m_none
              have hW2 := hW1.push (.row (cl && cl') (P.cellsOf e) ((es.drop off).take len ++ xs)) L2 hsep.1 (by
                  refine ⟨rfl, hns, ?_⟩
                  obtain ⟨c, ee, fz, g1, g2, g3, g4, g5⟩ := hcell
                  have g6 := setCells_heap L.b news (L.o + off * P.cellsOf e + len * P.cellsOf e) W c ee fz g1 (by omega)
                  have g7 : (splice c.toList (L.o + off * P.cellsOf e + len * P.cellsOf e) news).toArray.size = L.tot := by
                    simp only [List.size_toArray]; rw [length_splice (by simp; omega)]; simpa using g2
                  refine cells_of_LVR g6 (fun j hj => g4 j (by rw [← g7]; exact hj)) g7 (o := L2.o) (vs := olds ++ news) ?_ ?_ (hall.mono (FZ.le.refl _) (clM_ext hext))
                  · rw [g7, List.length_append, hlol, hnl]; simp only [L2]; omega
                  · intro j u hju
                    simp only [List.getElem?_toArray, L2]
                    rw [getElem?_splice (by simp; omega)]
                    by_cases hj : j < olds.length
                    · rw [List.getElem?_append_left hj] at hju
                      rw [if_neg (by omega)]
                      have := hloc2 j u hju
                      rw [hLs] at this
                      simpa [World.cell?, g1] using this
                    · rw [List.getElem?_append_right (by omega)] at hju
                      have hj2 : j - olds.length < news.length := (List.getElem?_eq_some_iff.1 hju).1
                      rw [if_pos (by omega), ← hju]
                      congr 1; omega)
                hsep.2 (fun k ob' K hk ha hK hbb => by
                  have hne : k ≠ i0 := fun e => by
                    subst e
                    have hlt : k < H.length := (List.getElem?_eq_some_iff.1 hrow).1
                    rw [List.getElem?_set_self hlt] at hk
                    cases hk; simp [Ob.alive] at ha
                  rw [List.getElem?_set_ne (fun x => hne x.symm)] at hk
                  exact hne (hW.inj k i0 _ _ _ _ hk hrow ha rfl hK hL hbb))
              refine ⟨_, _, _, hr, Ext.of_m hext, hW2, ?_⟩
              rw [← List.length_set (as := H) (i := i0) (a := Ob.dead)]
              refine .ref hfitcap fun _ => ⟨L2, OM.ext_at _ _ _, rfl, ?_, ?_⟩
              · simp [L2, hLs]
              · simp only [L2, hLs]; exact hfit
            · -- no room, nothing appended
              have hl0 : len = 0 := by omega
              have hx0 : xs.length = 0 := by omega
              have hxs : xs = [] := List.eq_nil_of_length_eq_zero hx0
              subst hl0; subst hxs
              have hn0 : news = [] := List.eq_nil_of_length_eq_zero (by simpa using hnl)
              subst hn0
              have hr := run_append_place (P := P) (W := W) t ty e i ts hu hi hts hz ⟨bb, oo, none⟩ 0 cap 0 vx rest [] (by simpa using hlen W) (by simpa using hf0) (by omega) W (by simp [storeCells])
              let L2 : Loc := ⟨L.b, L.o, P.cellsOf e, L.tot⟩
              have hext : m.le (m.ext (H.set i0 .dead).length L2) := OM.le_ext hkill.m_none
              have hW2 := hkill.push (.row (cl && cl') (P.cellsOf e) ((es.drop off).take 0 ++ [])) L2 hsep.1 (by
                  refine ⟨rfl, fun k hk => absurd hk (by simp), ?_⟩
                  obtain ⟨c, ee, fz, g1, g2, g3, g4, g5⟩ := hcell
                  exact ⟨c, ee, fz, g1, g2, by simp [L2]; omega, g4, fun j hj => absurd hj (by simp)⟩)
                hsep.2 (fun k ob' K hk ha hK hbb => by
                  have hne : k ≠ i0 := fun e => by
                    subst e
                    have hlt : k < H.length := (List.getElem?_eq_some_iff.1 hrow).1
                    rw [List.getElem?_set_self hlt] at hk
                    cases hk; simp [Ob.alive] at ha
                  rw [List.getElem?_set_ne (fun x => hne x.symm)] at hk
                  exact hne (hW.inj k i0 _ _ _ _ hk hrow ha rfl hK hL hbb))
              refine ⟨_, _, _, hr, Ext.of_m hext, hW2, ?_⟩
              rw [← List.length_set (as := H) (i := i0) (a := Ob.dead)]
              exact .ref (by simp) fun hp => absurd hp (by omega)
          · -- a new array
            have hfo := run_firstCells_some (P := P) W.drew i.size len ⟨bb, oo, none⟩ len cap olds (by rw [hlol, hisz]) (fun j u hu' => by rw [hdrew, Addr.add_mk]; exact hloc2 j u hu')
            have hr := run_append_more (P := P) (W := W) t ty e i z ts hu hi hz0 hts hz (some ⟨bb, oo, none⟩) len cap xs.length vx rest olds news (hlen W) hf1 hfo (by omega) (by omega)
              (growslice_fits (by omega) (by rw [hiby]; omega))
            have := append_new hkill (e := e) (cl := cl && cl') (es := (es.drop off).take len ++ xs) (olds := olds) (news := news) (z := z) (sz := P.cellsOf e)
              (cap := grownCap W (len + xs.length) cap e) hns hzc (by rw [hnlen]; exact grownCap_ge _ _ _ _) hall
            obtain ⟨m', h1, h2, h3⟩ := this
            rw [hnlen] at h2 h3
            rw [List.length_set] at h3
            exact ⟨_, _, m', hr, h1, h2, h3⟩
      · cases h
    · cases h
  · cases h

theorem append_sound (hW : WR Z m base W0 H W) {t ty : TypeId} {ts : Array TypeId} {b x y : AV} {vb vx : Value} {rest : List Value} {H' : Heap} (hts : ts[0]? = some t)
    (h : appendV P t ts[1]? b x H = some (y, H')) (hb : VR Z m b vb) (hx : VR Z m x vx) :
    ∃ v W' m', (Builtin.append_ ts ty (vb :: vx :: rest).toArray).run P W = .ok v W' ∧ Ext base Z Z m m' ∧ WR Z m' base W0 H' W' ∧ VR Z m' y v := by
  unfold appendV at h
  split at h
  · rename_i e hu
    split at h
    · rename_i hc
      obtain ⟨het, hk⟩ := hc
      split at h
      · rename_i kk hsrc
        cases hxt : ts[1]? with
        | none => simp [hxt] at hsrc
        | some xt => simp [hxt] at hsrc; exact appendZeros_sound hW hts hu het hxt hsrc h hb hx
      · rename_i hsrc
        have hz : ts[1]? = none ∨ ∃ xt d, ts[1]? = some xt ∧ P.underlying xt = some d ∧ ∀ k, d ≠ .int k := by
          cases hxt : ts[1]? with
          | none => exact .inl rfl
          | some xt =>
            simp [hxt] at hk hsrc
            obtain ⟨d, hd⟩ := known_und hk
            exact .inr ⟨xt, d, rfl, hd, fun k e => hsrc k (by rw [hd, e])⟩
        split at h
        · rename_i cl xs hel
          split at h
          · rename_i hc2
            exact appendElems_sound hW hts hu het hz hel hc2.1 hc2.2 h hb hx
          · cases h
        · cases h
    · cases h
  · cases h

end Go.V
