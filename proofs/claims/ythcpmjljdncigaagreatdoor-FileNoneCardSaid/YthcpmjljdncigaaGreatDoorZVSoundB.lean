/- The interpreter's operations on values alone, held against the model's. No conditions. -/
import Derived.Test.YthcpmjljdncigaaGreatDoorZVSoundA
import Derived.Laws.StructEq
set_option linter.unusedSimpArgs false
set_option linter.unusedVariables false
namespace Go.V
variable {P : Program} {Z : FZ} {m : OM} {base : Nat} {W0 : World} {H : Heap} {W : World}

theorem part_sound {t : TypeId} {d : TypeDesc} {cs : List AV} {vs : List Value} {off : Nat} {x : AV} (hu : P.underlying t = some d) (h : partV P t cs off = some x)
    (hl : cs.length = vs.length) (hv : ∀ j (h : j < cs.length) (h' : j < vs.length), VR Z m cs[j] vs[j]) :
    ∃ v, (part t vs.toArray off).run P W = .ok v W ∧ VR Z m x v := by
  unfold partV at h
  unfold part
  rw [Sem.run_bind, run_isAggP hu, Result.andThen_ok]
  split at h
  · rename_i ha
    split at h
    · rename_i hle
      cases h
      simp only [ha, if_true, Sem.run_bind, run_size hu, Result.andThen_ok, Sem.run_pure]
      refine ⟨_, rfl, ?_⟩
      have e : vs.toArray.extract off (off + P.cellsOf t) = ((vs.drop off).take (P.cellsOf t)).toArray := by
        apply Array.ext'
        simp [List.extract_eq_take_drop]
      rw [e]
      refine .agg (by simp [hl]) fun j hj hj' => ?_
      simp only [List.getElem_take, List.getElem_drop]
      simp at hj hj'
      exact hv _ _ _
    · cases h
  · rename_i ha
    have hlt : off < cs.length := (List.getElem?_eq_some_iff.1 h).1
    have e := (List.getElem?_eq_some_iff.1 h).2
    have e2 : vs.toArray[off]? = some (vs[off]'(by omega)) := by simp [List.getElem?_eq_getElem (show off < vs.length by omega)]
    simp only [ha, if_false, Bool.false_eq_true, e2, Sem.run_pure]
    exact ⟨_, rfl, by rw [← e]; exact hv off hlt (by omega)⟩

theorem intBin_sound {op : BinOp} {k : IntKind} {a b : Int} {x : AV} (h : intBin op k a b = some x) (hs : op ≠ .shl ∧ op ≠ .shr) (t : TypeId) :
    ∃ v, (binOp op t (.int k a) (.int k b)).run P W = .ok v W ∧ VR Z m x v := by
  cases op <;> simp [intBin] at h hs <;> first
    | (subst h; exact ⟨_, rfl, by constructor⟩)
    | (obtain ⟨h0, h⟩ := h; subst h; refine ⟨_, ?_, VR.int⟩; simp [binOp, Op.intDiv, h0])
    | (subst h; refine ⟨_, ?_, VR.int⟩; simp [binOp, Op.intBits, Op.intArith, Op.intCmp]; done)
    | (subst h; refine ⟨_, ?_, VR.bool⟩; simp [binOp, Op.intBits, Op.intArith, Op.intCmp]; done)

theorem shift_sound {op : BinOp} {k yk : IntKind} {a b : Int} {x : AV} (h : shiftV op k a b = some x) (hs : op = .shl ∨ op = .shr) (t : TypeId) :
    ∃ v, (binOp op t (.int k a) (.int yk b)).run P W = .ok v W ∧ VR Z m x v := by
  unfold shiftV at h
  split at h
  · cases h
  · rename_i h0
    rcases hs with rfl | rfl <;> simp at h <;> subst h <;> refine ⟨_, ?_, VR.int⟩ <;> simp [binOp, Op.shift, h0]

theorem strBin_sound {op : BinOp} {a b : ByteArray} {x : AV} (h : strBin op a b = some x) (t : TypeId) :
    ∃ v, (binOp op t (.string a) (.string b)).run P W = .ok v W ∧ VR Z m x v := by
  have e : ∀ c : ByteArray, c.data.toList = c.toList := fun c => by rw [ByteArray.toList_eq]
  cases op <;> simp only [strBin, e] at h <;> first
    | (cases h; exact ⟨_, rfl, VR.bool⟩)
    | (cases h; done)
    | (split at h
       · cases h
       · rename_i h0; cases h; refine ⟨_, ?_, VR.str⟩; simp only [binOp, Op.stringOp, h0, if_false]; rfl)

theorem eqAtom_sound {t : TypeId} {d : TypeDesc} {x y : AV} {v w : Value} {r : Bool} (hu : P.underlying t = some d) (h : eqAtom d x y = some r) (hx : VR Z m x v) (hy : VR Z m y w) :
    (Op.equal t v w).run P W = .ok r W := by
  unfold eqAtom at h
  change (Op.equalIn (9999 + 1) t v w).run P W = _
  unfold Op.equalIn
  rw [Sem.run_bind, run_und hu, Result.andThen_ok]
  split at h <;> cases h <;> cases hx <;> cases hy <;> rfl

theorem allInts_get : ∀ {xs ys : List AV} {r : Bool}, allInts xs ys = some r → xs.length = ys.length
  | [], [], r, h => rfl
  | [], y :: ys, r, h => by simp [allInts] at h
  | x :: xs, [], r, h => by cases x <;> simp [allInts] at h
  | x :: xs, y :: ys, r, h => by
    unfold allInts at h
    split at h
    · rename_i h1 h2; cases h1
    · rename_i h1 h2
      cases h1; cases h2
      split at h
      · split at h
        · rename_i hr; simp [allInts_get hr]
        · cases h
      · cases h
    · cases h

/-- Arrays of integers, held against each other as the model does. -/
theorem eqInts_run {e : TypeId} {k : IntKind} (he : P.underlying e = some (.int k)) (hc : P.cellsOf e = 1) (d : Nat) (vs ws : Array Value) : ∀ (xs ys : List AV) (r : Bool) (i : Nat), allInts xs ys = some r →
    (∀ j (h : j < xs.length), ∃ v, vs[i + j]? = some v ∧ VR Z m xs[j] v) → (∀ j (h : j < ys.length), ∃ v, ws[i + j]? = some v ∧ VR Z m ys[j] v) →
    ∃ o : Option Bool, (forIn (List.range' i xs.length) ((none, ()) : Option Bool × Unit) (fun i _ => do
            let a ← part e vs (i * 1)
            let b ← part e ws (i * 1)
            let r ← Op.equalIn (d + 1) e a b
            if (!r) = true then pure (ForInStep.done (some false, ())) else pure (ForInStep.yield (none, ()))) : Sem (Option Bool × Unit)).run P W = .ok (o, ()) W ∧ o.getD true = r
  | [], [], r, i, h, _, _ => by simp [allInts] at h; subst h; exact ⟨none, by simp, rfl⟩
  | [], y :: ys, r, i, h, _, _ => by simp [allInts] at h
  | x :: xs, [], r, i, h, _, _ => by cases x <;> simp [allInts] at h
  | x :: xs, y :: ys, r, i, h, hx, hy => by
    unfold allInts at h
    split at h
    · rename_i h1 h2; cases h1
    · rename_i _ _ k1 a1 xs1 k2 b1 ys1 h1 h2
      cases h1; cases h2
      split at h
      · rename_i hk
        subst hk
        split at h
        · rename_i r' hr
          cases h
          obtain ⟨v, hv1, hv2⟩ := hx 0 (by simp)
          obtain ⟨w, hw1, hw2⟩ := hy 0 (by simp)
          simp only [Nat.add_zero, List.getElem_cons_zero] at hv1 hv2 hw1 hw2
          cases hv2; cases hw2
          have p1 : (part e vs (i * 1)).run P W = .ok (.int k1 a1) W := by
            rw [Nat.mul_one]; unfold part; rw [Sem.run_bind, run_isAggP he]; simp [isAggP, he, hv1]
          have p2 : (part e ws (i * 1)).run P W = .ok (.int k1 b1) W := by
            rw [Nat.mul_one]; unfold part; rw [Sem.run_bind, run_isAggP he]; simp [isAggP, he, hw1]
          have p3 := run_equalIn_int (P := P) W d e k1 k a1 b1 he
          obtain ⟨o, ih, ho⟩ := eqInts_run he hc d vs ws _ _ r' (i + 1) hr (fun j hj => by
            have := hx (j + 1) (by simpa using hj)
            simpa [Nat.add_assoc, Nat.add_comm 1 j] using this) (fun j hj => by
            have := hy (j + 1) (by simpa using hj)
            simpa [Nat.add_assoc, Nat.add_comm 1 j] using this)
          by_cases hab : a1 = b1
          · subst hab
            refine ⟨o, ?_, by simp [ho]⟩
            simp only [List.length_cons, List.range'_succ, List.forIn_cons, Sem.run_bind, p1, p2, p3, Result.andThen_ok, beq_self_eq_true, Bool.not_true, Bool.false_eq_true, if_false, Sem.run_pure]
            exact ih
          · have hab' : (a1 == b1) = false := by simpa using hab
            refine ⟨some false, ?_, by simp [hab']⟩
            simp only [List.length_cons, List.range'_succ, List.forIn_cons, Sem.run_bind, p1, p2, p3, Result.andThen_ok, hab', Bool.not_false, if_true, Sem.run_pure]
        · cases h
      · cases h
    · cases h

theorem eqAgg_sound {t : TypeId} {xs ys : List AV} {v w : Value} {r : Bool} (h : eqAgg P t xs ys = some r) (hx : VR Z m (.agg xs) v) (hy : VR Z m (.agg ys) w) :
    (Op.equal t v w).run P W = .ok r W ∧ P.eqGuardType P.depth t = false := by
  unfold eqAgg at h
  split at h
  · rename_i n e ht
    split at h
    · rename_i k he
      split at h
      · rename_i hc
        obtain ⟨hc1, hc2, hc3, hc4⟩ := hc
        refine ⟨?_, hc4⟩
        cases hx with
        | agg hl1 hr1 =>
          rename_i vs
          cases hy with
          | agg hl2 hr2 =>
            rename_i ws
            change (Op.equalIn (9999 + 1) t _ _).run P W = _
            obtain ⟨o, this, ho⟩ := eqInts_run (W := W) (Z := Z) (m := m) he hc1 9998 vs.toArray ws.toArray xs ys r 0 h (fun j hj => ⟨vs[j]'(by rw [← hl1]; exact hj), by simp [← hl1, hj], hr1 j hj _⟩) (fun j hj => ⟨ws[j]'(by rw [← hl2]; exact hj), by simp [← hl2, hj], hr2 j hj _⟩)
            rw [hc2] at this
            unfold Op.equalIn
            simp only [Sem.run_bind, run_und ht, Result.andThen_ok, run_size he, hc1, Std.Legacy.Range.forIn_eq_forIn_range', Std.Legacy.Range.size, Nat.sub_zero, Nat.add_one_sub_one, Nat.div_one, this]
            cases o with
            | none => simp at ho; subst ho; rfl
            | some b => simp at ho; subst ho; rfl
      · cases h
    · cases h
  · cases h

theorem bin_sound {op : BinOp} {t : TypeId} {x y z : AV} {v w : Value} (h : binV P op t x y = some z) (hx : VR Z m x v) (hy : VR Z m y w) :
    ∃ u, (binOp op t v w).run P W = .ok u W ∧ VR Z m z u := by
  unfold binV at h
  split at h
  · rename_i k a k' b
    cases hx; cases hy
    split at h
    · exact shift_sound h (.inl rfl) t
    · exact shift_sound h (.inr rfl) t
    · rename_i h1 h2
      split at h
      · rename_i hk
        subst hk
        exact intBin_sound h ⟨fun e => h1 e, fun e => h2 e⟩ t
      · cases h
  · cases hx; cases hy
    exact strBin_sound h t
  · rename_i xs ys
    have bo : ∀ op', op' = BinOp.eql ∨ op' = BinOp.neq → (binOp op' t v w).run P W = (do let r ← Op.equal t v w; pure (.bool (if op' = .eql then r else !r)) : Sem Value).run P W := by
      intro op' ho
      cases hx; cases hy; rcases ho with rfl | rfl <;> (simp only [binOp]; rfl)
    split at h
    · cases he : eqAgg P t xs ys with
      | none => simp [he] at h
      | some r =>
        simp [he] at h; subst h
        obtain ⟨h1, _⟩ := eqAgg_sound (W := W) he hx hy
        exact ⟨.bool r, by rw [bo .eql (.inl rfl)]; simp [h1], .bool⟩
    · cases he : eqAgg P t xs ys with
      | none => simp [he] at h
      | some r =>
        simp [he] at h; subst h
        obtain ⟨h1, _⟩ := eqAgg_sound (W := W) he hx hy
        exact ⟨.bool !r, by rw [bo .neq (.inr rfl)]; simp [h1], .bool⟩
    · cases h
  · have key : ∀ {r : Bool}, eqP P t x y = some r → (Op.equal t v w).run P W = .ok r W ∧
        (∀ op', op' = BinOp.eql ∨ op' = BinOp.neq → (binOp op' t v w).run P W = (do let r ← Op.equal t v w; pure (.bool (if op' = .eql then r else !r)) : Sem Value).run P W) := by
      intro r he
      unfold eqP at he
      split at he
      · rename_i d hd
        refine ⟨eqAtom_sound hd he hx hy, fun op' ho => ?_⟩
        unfold eqAtom at he
        split at he <;> cases hx <;> cases hy <;> rcases ho with rfl | rfl <;> first | (cases he; done) | (simp only [binOp]; rfl)
      · cases he
    split at h
    · cases he : eqP P t x y with
      | none => simp [he] at h
      | some r =>
        simp [he] at h; subst h
        obtain ⟨h1, h2⟩ := key he
        exact ⟨.bool r, by rw [h2 .eql (.inl rfl)]; simp [h1], .bool⟩
    · cases he : eqP P t x y with
      | none => simp [he] at h
      | some r =>
        simp [he] at h; subst h
        obtain ⟨h1, h2⟩ := key he
        exact ⟨.bool !r, by rw [h2 .neq (.inr rfl)]; simp [h1], .bool⟩
    · cases h

/-- The test ahead of '==' lets these pass. -/
theorem eqGuard_sound {op : BinOp} {t : TypeId} {x y : AV} {v w : Value} {z : AV} (a b : Operand) (h : binV P op t x y = some z) (hx : VR Z m x v) (hy : VR Z m y w) :
    (eqGuard op t a b v w).run P W = .ok () W := by
  unfold eqGuard
  unfold binV at h
  split at h
  · cases hx; cases hy; cases op <;> simp
  · cases hx; cases hy; cases op <;> simp
  · rename_i xs ys
    have key : ∀ {r : Bool}, eqAgg P t xs ys = some r → P.eqGuardType P.depth t = false := fun he => (eqAgg_sound (W := W) he hx hy).2
    split at h
    · cases he : eqAgg P t xs ys with
      | none => simp [he] at h
      | some r => have := key he; cases hx; cases hy; simp [this]
    · cases he : eqAgg P t xs ys with
      | none => simp [he] at h
      | some r => have := key he; cases hx; cases hy; simp [this]
    · cases h
  · split at h
    · cases he : eqP P t x y with
      | none => simp [he] at h
      | some r =>
        unfold eqP at he; split at he
        · unfold eqAtom at he
          split at he <;> cases he <;> cases hx <;> cases hy <;> simp
        · cases he
    · cases he : eqP P t x y with
      | none => simp [he] at h
      | some r =>
        unfold eqP at he; split at he
        · unfold eqAtom at he
          split at he <;> cases he <;> cases hx <;> cases hy <;> simp
        · cases he
    · cases h

theorem un_sound {op : UnOp} {x z : AV} {v : Value} (h : unV op x = some z) (hx : VR Z m x v) : ∃ u, (Op.unary op v).run P W = .ok u W ∧ VR Z m z u := by
  unfold unV at h
  split at h
  · cases h; cases hx; exact ⟨_, rfl, by simpa using VR.int⟩
  · cases hx
    simp [intBin] at h; subst h
    exact ⟨_, rfl, .int⟩
  · cases h; cases hx; exact ⟨_, rfl, .bool⟩
  · cases h

theorem fieldOf_und {t : TypeId} {f : Nat} {fd : Field} (h : fieldOf P t f = some fd) : ∃ fs, P.underlying t = some (.struct fs) ∧ fs[f]? = some fd := by
  unfold fieldOf at h
  split at h
  · rename_i fs hu; exact ⟨fs, hu, h⟩
  · cases h

theorem Addr.add_mk (b o j : Nat) : (⟨b, o, none⟩ : Addr).add j = ⟨b, o + j, none⟩ := Addr.add_mid b o j

theorem known_und {t : TypeId} (h : known P t = true) : ∃ d, P.underlying t = some d := Option.isSome_iff_exists.1 h

theorem AV.one_cells {x : AV} (h : x.one = true) : x.cells = [x] := by cases x <;> first | rfl | simp [AV.one] at h

theorem raddr_part {t : TypeId} {cs : List AV} {off b o : Nat} {x : AV} (h : raddrPart P t cs off = some x)
    (hv : VR Z m (.raddr (.agg cs)) (.pointer (some ⟨b, o, none⟩))) : VR Z m x (.pointer (some ⟨b, o + off, none⟩)) := by
  unfold raddrPart at h
  split at h
  · rename_i y hp
    split at h
    · rename_i hone
      cases h
      cases hv with
      | raddr vs hz hr =>
        simp only [AV.cells] at hz hr
        unfold partV at hp
        split at hp
        · split at hp
          · rename_i hle
            cases hp
            refine .raddr (fun j => vs (off + j)) (fun j hj => ?_) (fun j hj => ?_)
            · simp [AV.cells] at hj
              rw [show o + off + j = o + (off + j) by omega]
              exact hz _ (by omega)
            · simp only [AV.cells, List.getElem_take, List.getElem_drop]
              simp [AV.cells] at hj
              exact hr _ (by omega)
          · cases hp
        · rename_i ha
          have hlt : off < cs.length := (List.getElem?_eq_some_iff.1 hp).1
          have e := (List.getElem?_eq_some_iff.1 hp).2
          have hx1 : y.cells = [y] := AV.one_cells (by simpa [ha] using hone)
          refine .raddr (fun j => vs (off + j)) (fun j hj => ?_) (fun j hj => ?_)
          · simp [hx1] at hj; subst hj
            exact hz off hlt
          · have hj0 : j = 0 := by simp [hx1] at hj; omega
            subst hj0
            simp only [hx1, List.getElem_cons_zero]
            rw [← e]; exact hr off hlt
    · cases h
  · cases h

theorem fieldAddr_sound {t : TypeId} {f : Nat} {a x : AV} {v : Value} (h : fieldAddrV P t a f = some x) (hv : VR Z m a v) :
    ∃ u, (Instr.fieldAt t v f).run P W = .ok u W ∧ VR Z m x u := by
  unfold fieldAddrV at h
  split at h
  · rename_i fd hf
    obtain ⟨fs, hu, hfs⟩ := fieldOf_und hf
    split at h
    · rename_i h0
      obtain ⟨h0, hk⟩ := h0
      obtain ⟨d, hd⟩ := known_und hk
      have hp : ∀ b o, (Instr.fieldAt t (.pointer (some ⟨b, o, none⟩)) f).run P W = .ok (.pointer (some ⟨b, o + fd.offset, none⟩)) W := by
        intro b o
        simp [Instr.fieldAt, run_und hu, hfs, Instr.sureAddr, fieldPlace, run_size hd, h0, Addr.add_mk]
      split at h
      · cases h
        cases hv with
        | ptr hL => exact ⟨_, hp _ _, by rw [Nat.add_assoc]; exact VR.ptr hL⟩
      · cases h
        cases hv with
        | eptr hL => exact ⟨_, hp _ _, by rw [Nat.add_assoc (_ + _ * _)]; exact VR.eptr hL⟩
      · cases hv with
        | raddr vs hz hr => exact ⟨_, hp _ _, raddr_part h (.raddr vs hz hr)⟩
      · cases h
    · cases h
  · cases h

theorem field_sound {t : TypeId} {f : Nat} {fd : Field} {cs : List AV} {x : AV} {v : Value} (hf : fieldOf P t f = some fd) (hk : known P fd.type = true)
    (h : partV P fd.type cs fd.offset = some x) (hv : VR Z m (.agg cs) v) : ∃ u, (Instr.field t v f).run P W = .ok u W ∧ VR Z m x u := by
  obtain ⟨fs, hu, hfs⟩ := fieldOf_und hf
  obtain ⟨d, hd⟩ := known_und hk
  cases hv with
  | agg hl hr =>
    obtain ⟨u, h1, h2⟩ := part_sound (W := W) hd h hl hr
    exact ⟨u, by simp [Instr.field, run_und hu, hfs, asAgg, h1], h2⟩

theorem index_sound {t : TypeId} {x ix y : AV} {v vi : Value} (h : indexV P t x ix = some y) (hv : VR Z m x v) (hi : VR Z m ix vi) :
    ∃ u, (Instr.index t v vi).run P W = .ok u W ∧ VR Z m y u := by
  unfold indexV at h
  split at h
  · rename_i k i
    cases hi
    split at h
    · rename_i s hu
      cases hv
      split at h
      · rename_i h0
        split at h
        · rename_i b hb
          cases h
          exact ⟨.int .u8 b.toNat, by simp [Instr.index, asIntOf, run_und hu, h0, hb], .int⟩
        · cases h
      · cases h
    · rename_i n e cs hu
      split at h
      · rename_i h0
        obtain ⟨h1, h2, hk⟩ := h0
        obtain ⟨d, hd⟩ := known_und hk
        cases hv with
        | agg hl hr =>
          obtain ⟨u, h3, h4⟩ := part_sound (W := W) hd h hl hr
          exact ⟨u, by simp [Instr.index, asIntOf, run_und hu, h1, h2, run_size hd, h3], h4⟩
      · cases h
    · cases h
  · cases h

theorem indexAddr_sound (hW : WR Z m base W0 H W) {t : TypeId} {x ix y : AV} {v vi : Value} (h : indexAddrV P t x ix H = some y) (hv : VR Z m x v) (hi : VR Z m ix vi) :
    ∃ u, (Instr.indexAt t v vi).run P W = .ok u W ∧ VR Z m y u := by
  unfold indexAddrV at h
  split at h
  · rename_i k i
    cases hi
    split at h
    · rename_i e es hu
      split at h
      · rename_i h0
        obtain ⟨h1, h2, hk⟩ := h0
        obtain ⟨d, hd⟩ := known_und hk
        split at h
        · rename_i w hw
          split at h
          · rename_i hsz
            cases h
            have hlt : i.toNat < es.length := by omega
            have hww : es[i.toNat] = w := (List.getElem?_eq_some_iff.1 hw).2
            cases hv with
            | sl vs hcap hs hz hr hsp =>
              rename_i b o cap sz sp
              have hsp' : sp = none := hsp (by rintro rfl; simp at hlt)
              subst hsp'
              have e1 : sz = P.cellsOf e := by rw [← hsz, ← hww]; exact (hs _ hlt).symm
              refine ⟨.pointer (some ⟨b, o + i.toNat * P.cellsOf e, none⟩), ?_, ?_⟩
              · simp [Instr.indexAt, asIntOf, run_und hu, h1, h2, run_size hd, Addr.add_mk]
              · refine .raddr (fun j => vs i.toNat j) (fun j hj => ?_) (fun j hj => ?_)
                · rw [← e1]; exact hz _ _ hlt (by rw [e1, ← hsz]; exact hj)
                · have := hr i.toNat hlt j (by rw [hww]; exact hj)
                  simpa only [hww] using this
          · cases h
        · cases h
      · cases h
    · rename_i e r off len hu
      split at h
      · rename_i h0
        obtain ⟨h1, h2, hk⟩ := h0
        obtain ⟨d, hd⟩ := known_und hk
        split at h
        · rename_i cl sz es hr
          split at h
          · rename_i hsz
            cases h
            obtain ⟨L, hL, hLs⟩ := rowOf_loc hW hr
            cases hv with
            | ref hcap hloc =>
              obtain ⟨L', hL', rfl, rfl, hfit⟩ := hloc (by omega)
              rw [hL] at hL'; cases hL'
              refine ⟨.pointer (some ⟨L.b, L.o + (off + i.toNat) * L.sz + 0, none⟩), ?_, .eptr hL⟩
              have e1 : P.cellsOf e = L.sz := by rw [hLs, hsz]
              simp [Instr.indexAt, asIntOf, run_und hu, h1, h2, run_size hd, Addr.add_mk, e1, Nat.add_mul, Nat.add_assoc]
          · cases h
        · cases h
      · cases h
    · rename_i n e b off hu
      split at h
      · rename_i h0
        obtain ⟨h1, h2, hk⟩ := h0
        obtain ⟨d, hd⟩ := known_und hk
        cases h
        cases hv with
        | ptr hL =>
          rename_i L
          refine ⟨.pointer (some ⟨L.b, L.o + (off + i.toNat * P.cellsOf e), none⟩), ?_, .ptr hL⟩
          simp [Instr.indexAt, asIntOf, run_und hu, h1, h2, run_size hd, Addr.add_mk, Instr.sureAddr, Nat.add_assoc]
      · cases h
    · rename_i n e b idx off hu
      split at h
      · rename_i h0
        obtain ⟨h1, h2, hk⟩ := h0
        obtain ⟨d, hd⟩ := known_und hk
        cases h
        cases hv with
        | eptr hL =>
          rename_i L
          refine ⟨.pointer (some ⟨L.b, L.o + idx * L.sz + (off + i.toNat * P.cellsOf e), none⟩), ?_, .eptr hL⟩
          simp [Instr.indexAt, asIntOf, run_und hu, h1, h2, run_size hd, Addr.add_mk, Instr.sureAddr, Nat.add_assoc]
      · cases h
    · rename_i n e cs hu
      split at h
      · rename_i h0
        obtain ⟨h1, h2, hk⟩ := h0
        obtain ⟨d, hd⟩ := known_und hk
        cases hv with
        | raddr vs hz hr =>
          rename_i b o
          refine ⟨.pointer (some ⟨b, o + i.toNat * P.cellsOf e, none⟩), ?_, raddr_part h (.raddr vs hz hr)⟩
          simp [Instr.indexAt, asIntOf, run_und hu, h1, h2, run_size hd, Addr.add_mk, Instr.sureAddr]
      · cases h
    · cases h
  · cases h

/-- Of an array's element type all that is in a slice has the size. -/
theorem sizedV_get {sz : Nat} {es : List AV} (h : sizedV sz es = true) {k : Nat} (hk : k < es.length) : (es[k]).cells.length = sz := by
  unfold sizedV at h
  rw [List.all_eq_true] at h
  simpa using h _ (List.getElem_mem hk)

theorem boundV_sound {x : AV} {v : Value} {top n : Nat} {dflt : Nat} (c : BoundsCode) (h : boundV (some x) dflt top = some n) (hv : VR Z m x v) :
    (Instr.sliceBound v top c).run P W = .ok n W ∧ n ≤ top := by
  unfold boundV at h
  split at h
  · rename_i e; cases e
  · rename_i k i e
    cases e
    split at h
    · rename_i h0
      cases h; cases hv
      refine ⟨by simp [Instr.sliceBound, asIntOf, h0], by omega⟩
    · cases h
  · cases h

theorem boundV_le {x : Option AV} {top n dflt : Nat} (h : boundV x dflt top = some n) (hd : dflt ≤ top) : n ≤ top := by
  unfold boundV at h
  split at h
  · cases h; exact hd
  · split at h
    · cases h; omega
    · cases h
  · cases h

/-- Optional operands. -/
def OVR (Z : FZ) (m : OM) : Option AV → Option Value → Prop
  | none, none => True
  | some x, some v => VR Z m x v
  | _, _ => False

/-- The bounds of a slice expression: they are what the interpreter says, of whatever capacity. -/
theorem bounds_sound {lo hi mx : Option AV} {lo' hi' mx' : Option Value} {n cap l h : Nat} (hc : n ≤ cap) (isSlice : Bool)
    (hlo : OVR Z m lo lo') (hhi : OVR Z m hi hi') (hmx : OVR Z m mx mx')
    (hb : boundsV n lo hi mx = some (l, h)) :
    ∃ top, (Instr.sliceBounds isSlice n cap lo' hi' mx').run P W = .ok (l, h, top) W ∧ l ≤ h ∧ h ≤ n ∧ h ≤ top ∧ top ≤ cap := by
  obtain ⟨hhm, hh, hl⟩ : (mx.isSome = true → hi.isSome = true) ∧ (if mx.isSome then (boundV mx n n).bind fun m => boundV hi n m else boundV hi n n) = some h ∧ boundV lo 0 h = some l := by
    unfold boundsV at hb
    split at hb
    · cases hb
    · rename_i h' e
      split at hb
      · cases hb
      · rename_i l' e'
        cases hb
        cases mx with
        | none => simp at e; exact ⟨by simp, by simpa using e, e'⟩
        | some y => cases hi with
          | none => simp at e
          | some z => simp at e; exact ⟨by simp, by simpa using e, e'⟩
  have low : ∀ c, (match lo' with
      | some v => Instr.sliceBound v h c
      | none => pure 0 : Sem Nat).run P W = .ok l W ∧ l ≤ h := by
    intro c
    cases lo with
    | none => cases lo' with
      | none => simp [boundV] at hl; subst hl; exact ⟨rfl, Nat.zero_le _⟩
      | some v => exact hlo.elim
    | some x => cases lo' with
      | none => exact hlo.elim
      | some v => exact boundV_sound (P := P) (W := W) c hl hlo
  cases mx with
  | none =>
    cases mx' with
    | some v => exact hmx.elim
    | none =>
      simp at hh
      refine ⟨cap, ?_, (low .sliceB).2, boundV_le hh (Nat.le_refl _), Nat.le_trans (boundV_le hh (Nat.le_refl _)) hc, Nat.le_refl _⟩
      unfold Instr.sliceBounds
      cases hi with
      | none => cases hi' with
        | some v => exact hhi.elim
        | none =>
          simp [boundV] at hh; subst hh
          have := (low .sliceB).1
          cases lo' <;> simp_all
      | some x => cases hi' with
        | none => exact hhi.elim
        | some v =>
          have h1 : ∀ c, (Instr.sliceBound v cap c).run P W = .ok h W := by
            intro c
            unfold boundV at hh
            split at hh
            · rename_i e; cases e
            · rename_i k i e
              cases e
              split at hh
              · rename_i h0; cases hh; cases hhi
                simp [Instr.sliceBound, asIntOf, show 0 ≤ i ∧ i ≤ (cap : Int) by omega]
              · cases hh
            · cases hh
          have := (low .sliceB).1
          cases lo' <;> simp_all
  | some y =>
    cases mx' with
    | none => exact hmx.elim
    | some w =>
      simp at hh
      cases hm : boundV (some y) n n with
      | none => simp [hm] at hh
      | some t =>
        simp [hm] at hh
        have ht := boundV_le hm (Nat.le_refl _)
        cases hi with
        | none => simp at hhm
        | some x => cases hi' with
          | none => exact hhi.elim
          | some v =>
            have h1 : ∀ c, (Instr.sliceBound w cap c).run P W = .ok t W := by
              intro c
              unfold boundV at hm
              split at hm
              · rename_i e; cases e
              · rename_i k i e
                cases e
                split at hm
                · rename_i h0; cases hm; cases hmx
                  simp [Instr.sliceBound, asIntOf, show 0 ≤ i ∧ i ≤ (cap : Int) by omega]
                · cases hm
              · cases hm
            have h2 : ∀ c, (Instr.sliceBound v t c).run P W = .ok h W := fun c => (boundV_sound (P := P) (W := W) c hh hhi).1
            have h3 := (boundV_sound (P := P) (W := W) .index hh hhi).2
            refine ⟨t, ?_, (low .sliceB).2, by omega, h3, by omega⟩
            unfold Instr.sliceBounds
            have := (low .slice3C).1
            cases lo' <;> simp_all

theorem slice_sound (hW : WR Z m base W0 H W) {t : TypeId} {x y : AV} {v : Value} {lo hi mx : Option AV} {lo' hi' mx' : Option Value}
    (h : sliceV P t x lo hi mx H = some y) (hv : VR Z m x v) (hlo : OVR Z m lo lo') (hhi : OVR Z m hi hi') (hmx : OVR Z m mx mx') :
    ∃ u, (Instr.sliceAt t v lo' hi' mx').run P W = .ok u W ∧ VR Z m y u := by
  unfold sliceV at h
  split at h
  · rename_i s hu
    cases hv
    split at h
    · rename_i ll hh hb
      split at h
      · cases h
      · rename_i hmn
        cases h
        cases mx with
        | some _ => simp at hmn
        | none => cases mx' with
          | some _ => exact hmx.elim
          | none =>
            obtain ⟨top, hr, h1, h2, _⟩ := bounds_sound (P := P) (W := W) (Nat.le_refl s.size) false hlo hhi hmx hb
            exact ⟨.string (s.extract ll hh), by simp [Instr.sliceAt, Instr.slice, run_und hu, hr], .str⟩
    · cases h
  · rename_i e es hu
    split at h
    · rename_i ll hh hb
      split at h
      · rename_i hs
        obtain ⟨hs, hk⟩ := hs
        obtain ⟨d, hd⟩ := known_und hk
        cases h
        cases hv with
        | sl vs hcap hsz hz hr hsp =>
          rename_i b o cap sz sp
          obtain ⟨top, hr2, h1, h2, h3, h4⟩ := bounds_sound (P := P) (W := W) hcap true hlo hhi hmx hb
          have hlen : ((es.drop ll).take (hh - ll)).length = hh - ll := by simp; omega
          by_cases hes : es = []
          · subst hes
            have l0 : ll = 0 := by simp at *; omega
            have g0 : hh = 0 := by simp at *; omega
            subst l0 g0
            simp only [List.length_nil] at hr2
            refine ⟨.slice (some ⟨b, o, sp⟩) 0 top, by simp [Instr.sliceAt, Instr.slice, run_und hu, hr2, run_size hd, Addr.add], ?_⟩
            exact VR.sl (Z := Z) (m := m) (es := []) (b := b) (o := o) (cap := top) (sz := 0) (fun _ _ => Go.undef) (by simp)
              (fun k hk => absurd hk (by simp)) (fun k j hk => absurd hk (by simp)) (fun k hk => absurd hk (by simp)) (fun h => absurd rfl h)
          have hsp' : sp = none := hsp hes
          subst hsp'
          by_cases htl : top = ll
          · have h0 : hh - ll = 0 := by omega
            refine ⟨.slice (some ⟨b, o, none⟩) (hh - ll) (top - ll), by simp [Instr.sliceAt, Instr.slice, run_und hu, hr2, run_size hd, htl], ?_⟩
            have := VR.sl (Z := Z) (m := m) (es := (es.drop ll).take (hh - ll)) (b := b) (o := o) (cap := top - ll) (sz := 0) (fun _ _ => Go.undef) (by omega)
              (fun k hk => absurd hk (by omega)) (fun k j hk => absurd hk (by omega)) (fun k hk => absurd hk (by omega)) (fun _ => rfl)
            rwa [hlen] at this
          · refine ⟨.slice (some ⟨b, o + ll * P.cellsOf e, none⟩) (hh - ll) (top - ll), by simp [Instr.sliceAt, Instr.slice, run_und hu, hr2, run_size hd, htl, Addr.add_mk], ?_⟩
            have := VR.sl (Z := Z) (m := m) (es := (es.drop ll).take (hh - ll)) (b := b) (o := o + ll * P.cellsOf e) (cap := top - ll) (sz := P.cellsOf e)
              (fun k j => vs (ll + k) j) (by omega) (fun k hk => by simp only [List.getElem_take, List.getElem_drop]; exact sizedV_get hs _)
              (fun k j hk hj => by
                have hk' : ll + k < es.length := by simp at hk; omega
                have e1 : sz = P.cellsOf e := by rw [← hsz _ hk']; exact sizedV_get hs _
                have := hz (ll + k) j hk' (by omega)
                rw [e1] at this
                rwa [show o + ll * P.cellsOf e + k * P.cellsOf e + j = o + (ll + k) * P.cellsOf e + j by rw [Nat.add_mul]; omega])
              (fun k hk j hj => by
                simp only [List.getElem_take, List.getElem_drop] at hj ⊢
                simp at hk
                exact hr (ll + k) (by omega) j hj) (fun _ => rfl)
            rwa [hlen] at this
      · cases h
    · cases h
  · rename_i e i off len hu
    split at h
    · rename_i ll hh hb
      split at h
      · rename_i hk
        obtain ⟨d, hd⟩ := known_und hk
        split at h
        · rename_i cl sz es hrow
          split at h
          · rename_i hs
            cases h
            cases hv with
            | ref hcap hloc =>
              rename_i b o cap
              obtain ⟨top, hr2, h1, h2, h3, h4⟩ := bounds_sound (P := P) (W := W) hcap true hlo hhi hmx hb
              by_cases htl : top = ll
              · refine ⟨.slice (some ⟨b, o, none⟩) (hh - ll) (top - ll), by simp [Instr.sliceAt, Instr.slice, run_und hu, hr2, run_size hd, htl], ?_⟩
                exact .ref (by omega) (fun hp => absurd hp (by omega))
              · refine ⟨.slice (some ⟨b, o + ll * P.cellsOf e, none⟩) (hh - ll) (top - ll), by simp [Instr.sliceAt, Instr.slice, run_und hu, hr2, run_size hd, htl, Addr.add_mk], ?_⟩
                refine .ref (by omega) (fun hp => ?_)
                obtain ⟨L, hL, rfl, rfl, hfit⟩ := hloc (by omega)
                obtain ⟨L', hL', hLs⟩ := rowOf_loc hW hrow
                rw [hL] at hL'; cases hL'
                have e1 : ll * P.cellsOf e = ll * L.sz := by rw [hLs, hs]
                refine ⟨L, hL, rfl, by rw [e1, Nat.add_mul]; omega, ?_⟩
                rw [e1]
                have e2 := Nat.sub_mul top ll L.sz
                have e3 := Nat.mul_le_mul_right L.sz (show ll ≤ top by omega)
                have e4 := Nat.mul_le_mul_right L.sz h4
                omega
          · cases h
        · cases h
      · cases h
    · cases h
  · rename_i e hu
    split at h
    · rename_i q hb
      split at h
      · rename_i hk
        obtain ⟨d, hd⟩ := known_und hk
        cases h; cases hv
        obtain ⟨ll, hh⟩ := q
        obtain ⟨top, hr2, h1, h2, h3, h4⟩ := bounds_sound (P := P) (W := W) (n := 0) (cap := 0) (Nat.le_refl 0) true hlo hhi hmx hb
        have e1 : ll = 0 := by omega
        have e2 : hh = 0 := by omega
        have e3 : top = 0 := by omega
        subst e1; subst e2; subst e3
        exact ⟨.slice none 0 0, by simp [Instr.sliceAt, Instr.slice, run_und hu, hr2, run_size hd], .nils⟩
      · cases h
    · cases h
  · cases h

theorem extract_sound {x y : AV} {vs : List AV} {i : Nat} {v : Value} (he : x = .tup vs) (h : vs[i]? = some y) (hv : VR Z m x v) :
    ∃ u, (Instr.extract v i).run P W = .ok u W ∧ VR Z m y u := by
  subst he
  cases hv with
  | tup hl hr =>
    rename_i vs'
    have hlt : i < vs.length := (List.getElem?_eq_some_iff.1 h).1
    have e := (List.getElem?_eq_some_iff.1 h).2
    refine ⟨vs'[i]'(by omega), ?_, by rw [← e]; exact hr i hlt (by omega)⟩
    have : vs'.toArray[i]? = some (vs'[i]'(by omega)) := by simp [List.getElem?_eq_getElem (show i < vs'.length by omega)]
    simp only [Instr.extract, this, Sem.run_pure]

theorem len_sound (hW : WR Z m base W0 H W) {t ty : TypeId} {ts : Array TypeId} {x y : AV} {v : Value} {args : Array Value} (ht : ts[0]? = some t) (ha : args[0]? = some v)
    (h : lenV P t x H = some y) (hv : VR Z m x v) : ∃ u, (Builtin.len_ ts ty args).run P W = .ok u W ∧ VR Z m y u := by
  unfold lenV at h
  split at h
  · rename_i s hu; cases h; cases hv; exact ⟨.int .i64 s.size, by simp [Builtin.len_, ht, ha, run_und hu, goInt], .int⟩
  · rename_i n e hu; cases h; exact ⟨.int .i64 n, by simp [Builtin.len_, ht, ha, run_und hu, goInt], .int⟩
  · rename_i e hu; cases h; cases hv; exact ⟨.int .i64 (0 : Nat), by simp [Builtin.len_, ht, ha, run_und hu, goInt], .int⟩
  · rename_i e es hu; cases h; cases hv; exact ⟨.int .i64 es.length, by simp [Builtin.len_, ht, ha, run_und hu, goInt], .int⟩
  · rename_i e i off n hu; cases h; cases hv; exact ⟨.int .i64 n, by simp [Builtin.len_, ht, ha, run_und hu, goInt], .int⟩
  · rename_i k e hu; cases h; cases hv; exact ⟨.int .i64 0, by simp [Builtin.len_, ht, ha, run_und hu, goInt], .int⟩
  · rename_i k e i hu
    split at h
    · rename_i es hi
      cases h
      obtain ⟨L, hL, es', clock, h1, h2, h3⟩ := hW.obs i _ hi (by simp)
      cases hv with
      | map hL' =>
        rw [hL] at hL'; cases hL'
        refine ⟨.int .i64 es.length, ?_, .int⟩
        simp [Builtin.len_, ht, ha, run_und hu, goInt, getObj, Sem.run, h1, h2]
    · cases h
  · cases h

/-- Lists of related values. -/
def LVR (Z : FZ) (m : OM) (xs : List AV) (vs : List Value) : Prop := xs.length = vs.length ∧ ∀ j (h : j < xs.length) (h' : j < vs.length), VR Z m xs[j] vs[j]

theorem LVR.cons {x : AV} {xs : List AV} {vs : List Value} (h : LVR Z m (x :: xs) vs) : ∃ v vs', vs = v :: vs' ∧ VR Z m x v ∧ LVR Z m xs vs' := by
  obtain ⟨hl, hv⟩ := h
  cases vs with
  | nil => simp at hl
  | cons v vs => exact ⟨v, vs, rfl, hv 0 (by simp) (by simp), by simpa using hl, fun j h h' => hv (j + 1) (by simpa using h) (by simpa using h')⟩

theorem LVR.nil {vs : List Value} (h : LVR Z m [] vs) : vs = [] := by
  cases vs with
  | nil => rfl
  | cons v vs => simp [LVR] at h

theorem minMax_sound {mx : Bool} : ∀ {xs : List AV} {x y : AV} {v : Value} {vs : List Value}, minMaxV mx x xs = some y → VR Z m x v → LVR Z m xs vs →
    ∃ u, (vs.foldlM (if mx then Builtin.max2 else Builtin.min2) v : Sem Value).run P W = .ok u W ∧ VR Z m y u
  | [], x, y, v, vs, h, hx, hl => by
    rw [hl.nil]
    unfold minMaxV at h
    split at h
    · cases h; exact ⟨v, rfl, hx⟩
    · rename_i e; cases e
    · cases h
  | z :: xs, x, y, v, vs, h, hx, hl => by
    obtain ⟨w, vs', rfl, hw, hl'⟩ := hl.cons
    unfold minMaxV at h
    split at h
    · rename_i e; cases e
    · rename_i e
      cases e
      cases hx; cases hw
      obtain ⟨u, hu, hy⟩ := minMax_sound h (by constructor) hl'
      refine ⟨u, ?_, hy⟩
      cases mx <;> simpa [Builtin.max2, Builtin.min2] using hu
    · cases h

end Go.V
