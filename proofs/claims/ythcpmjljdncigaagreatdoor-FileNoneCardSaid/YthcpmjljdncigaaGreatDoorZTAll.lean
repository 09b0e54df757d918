/- parser.all: all lines of a file, by a contract of each. The condition: of the text's size. -/
import Derived.Test.YthcpmjljdncigaaGreatDoorZTLines
set_option linter.unusedSimpArgs false
set_option linter.unusedVariables false
set_option maxRecDepth 20000
namespace Go.Proofs.YthcpmjljdncigaaGreatDoor
open Go Go.V
/-- What a line's reading changes: the parser's box, rows; all else stays. -/
def Fr (p : Nat) (H H' : Heap) : Prop := H.length ≤ H'.length ∧ ∀ (i : Nat) (ob : Ob), i ≠ p → H[i]? = some ob → (∀ cl sz es, ob ≠ Ob.row cl sz es) → H'[i]? = some ob
/-- The parser's box and rows are the same. -/
def SameR (p m : Nat) (H H' : Heap) : Prop := (∀ (i : Nat) (ob : Ob), i < m → H[i]? = some ob → H'[i]? = some ob) ∧ H'[p]? = H[p]? ∧ ∀ (i : Nat) (cl : Bool) (sz : Nat) (es : List AV), H[i]? = some (Ob.row cl sz es) → H'[i]? = some (Ob.row cl sz es)
/-- How a file's lines are read, one by one. -/
structure LineOk (G : ByteArray → Prop) (p m : Nat) (τ : Type) (PInv : τ → Heap → Prop) (stepL : τ → Int → ByteArray → τ ⊕ (Int × Int)) (B : Int) : Prop where
  st : ∀ t H H', PInv t H → SameR p m H H' → PInv t H'
  line : ∀ t a x H, G x → PInv t H → 0 ≤ a → a + x.size ≤ B → ∃ H', Fr p H H' ∧ (match stepL t a x with
    | .inl t' => callL C1 (.fn 40) [.ptr p 0, .agg [.int .i64 a, .str x]] H = some (.nilp, H') ∧ PInv t' H'
    | .inr (e, b) => ∃ q, callL C1 (.fn 40) [.ptr p 0, .agg [.int .i64 a, .str x]] H = some (.ptr q 0, H') ∧ H'[q]? = some (.box [.int .i64 e, .int .i64 b]))

/-- What hangs on other memory alone. -/
def KeepQ (m p : Nat) (Q : Heap → Prop) : Prop := ∀ H H', Q H → (∀ (i : Nat) (ob : Ob), i < m → i ≠ p → H[i]? = some ob → (∀ cl sz es, ob ≠ Ob.row cl sz es) → H'[i]? = some ob) → Q H'

structure AllInv (p i2 i4 i5 j : Nat) (env : Env) {τ : Type} (PInv : τ → Heap → Prop) (Q : Heap → Prop) (B : Int) (st : τ × Int) (r : Int) (H : Heap) : Prop where
  q : Q H
  pinv : PInv st.1 H
  b2 : H[i2]? = some (.box [.ptr p 0])
  b4 : H[i4]? = some (.box [.nilp])
  b5 : H[i5]? = some (.box [.int .i64 st.2])
  loop : H[j]? = some (.loop env #[14] a21_0 l21_0 .ready none)
  defs : H[j - 1]? = some .defs
  lo : 0 ≤ st.2
  hi : st.2 + r ≤ B

structure Dist (m p i2 i4 i5 j isep is isave : Nat) : Prop where
  jp : p ≠ j
  j2 : i2 ≠ j
  j4 : i4 ≠ j
  j5 : i5 ≠ j
  j1 : j - 1 ≠ j
  js1 : isep ≠ j
  js2 : is ≠ j
  js3 : isave ≠ j
  p2 : i2 ≠ p
  p4 : i4 ≠ p
  p5 : i5 ≠ p
  p1 : j - 1 ≠ p
  ps1 : isep ≠ p
  ps2 : is ≠ p
  ps3 : isave ≠ p
  f2 : i2 ≠ i5
  f4 : i4 ≠ i5
  f1 : j - 1 ≠ i5
  fs1 : isep ≠ i5
  fs2 : is ≠ i5
  fs3 : isave ≠ i5
  g1 : j - 1 ≠ i4
  mj : m ≤ j
  m5 : m ≤ i5
  m4 : m ≤ i4

structure AllDone (i4 j : Nat) (env : Env) (Q : Heap → Prop) (r : Int × Int) (H : Heap) : Prop where
  q : Q H
  b4 : ∃ q, H[i4]? = some (.box [.ptr q 0]) ∧ H[q]? = some (.box [.int .i64 r.1, .int .i64 r.2])
  loop : H[j]? = some (.loop env #[14] a21_0 l21_0 .done (some .ret))
  defs : H[j - 1]? = some .defs

def stepAt {τ : Type} (stepL : τ → Int → ByteArray → τ ⊕ (Int × Int)) (st : τ × Int) (x : ByteArray) : (τ × Int) ⊕ (Int × Int) :=
  match stepL st.1 st.2 x with
  | .inl t' => .inl (t', st.2 + x.size + 1)
  | .inr r => .inr r

theorem all_round {m p i2 i4 i5 j isep is isave : Nat} {env : Env} {τ : Type} {PInv : τ → Heap → Prop} {stepL : τ → Int → ByteArray → τ ⊕ (Int × Int)} {B : Int} {G : ByteArray → Prop} (hB : B < 4611686018427387904) (hl : LineOk G p m τ PInv stepL B) {Q : Heap → Prop} (hQ : KeepQ m p Q)
    (e2 : env 2 = .ptr i2 0) (e4 : env 4 = .ptr i4 0) (e5 : env 5 = .ptr i5 0) (hd : Dist m p i2 i4 i5 j isep is isave)
    {st : τ × Int} {r : Int} {x : ByteArray} {H : Heap} {cs1 cs2 cs3 : List AV} (hG : G x) (hI : AllInv p i2 i4 i5 j env PInv Q B st r H) (hx : (x.size : Int) ≤ r) (hr : r < 4611686018427387904)
    (h1 : H[isep]? = some (.box cs1)) (h2 : H[is]? = some (.box cs2)) (h3 : H[isave]? = some (.box cs3)) :
    ∃ H', (match stepAt stepL st x with
      | .inl st' => callL C1 (.yld j) [.str x] H = some (.bool true, H') ∧ AllInv p i2 i4 i5 j env PInv Q B st' (r - x.size - 1) H' ∧ H'[isep]? = H[isep]? ∧ H'[is]? = H[is]? ∧ H'[isave]? = H[isave]?
      | .inr r => callL C1 (.yld j) [.str x] H = some (.bool false, H') ∧ AllDone i4 j env Q r H') := by
  obtain ⟨q0, pinv, b2, b4, b5, lp, df, lo, hi⟩ := hI
  obtain ⟨t, a⟩ := st
  simp only at pinv b5 lo hi
  have hjl : j < H.length := (List.getElem?_eq_some_iff.1 lp).1
  rw [callL_yld lp rfl]
  simp only [putAll]
  -- the loop is busy
  have lp2 : (H.set j (.loop env #[14] a21_0 l21_0 .busy none))[j]? = some (.loop env #[14] a21_0 l21_0 .busy none) := List.getElem?_set_self hjl
  have gg : ∀ i, i ≠ j → (H.set j (.loop env #[14] a21_0 l21_0 .busy none))[i]? = H[i]? := fun i hi => List.getElem?_set_ne (Ne.symm hi)
  have pinv2 : PInv t (H.set j (.loop env #[14] a21_0 l21_0 .busy none)) := hl.st _ _ _ pinv ⟨fun i ob hi h => by rw [gg _ (by have := hd.mj; omega)]; exact h, gg _ hd.jp, fun i cl sz es h => by
    rw [gg]
    · exact h
    · rintro rfl; rw [lp] at h; cases h⟩
  have q2 : Q (H.set j (.loop env #[14] a21_0 l21_0 .busy none)) := hQ _ _ q0 fun i ob hi _ h _ => by rw [gg _ (by have := hd.mj; omega)]; exact h
  generalize hH2 : H.set j (.loop env #[14] a21_0 l21_0 .busy none) = H2 at lp2 gg pinv2 q2
  have k2 : H2[i2]? = some (.box [.ptr p 0]) := by rw [gg _ hd.j2, b2]
  have k4 : H2[i4]? = some (.box [.nilp]) := by rw [gg _ hd.j4, b4]
  have k5 : H2[i5]? = some (.box [.int .i64 a]) := by rw [gg _ hd.j5, b5]
  have kd : H2[j - 1]? = some .defs := by rw [gg _ hd.j1, df]
  have ks1 : H2[isep]? = some (.box cs1) := by rw [gg _ hd.js1, h1]
  have ks2 : H2[is]? = some (.box cs2) := by rw [gg _ hd.js2, h2]
  have ks3 : H2[isave]? = some (.box cs3) := by rw [gg _ hd.js3, h3]
  obtain ⟨H3, ⟨hlen, hfr⟩, hst⟩ := hl.line t a x H2 hG pinv2 lo (by omega)
  have q3 : Q H3 := hQ _ _ q2 fun i ob _ hi h hr => hfr i ob hi h hr
  have m2 := hfr _ _ hd.p2 k2 (by intros; simp)
  have m4 := hfr _ _ hd.p4 k4 (by intros; simp)
  have m5 := hfr _ _ hd.p5 k5 (by intros; simp)
  have md := hfr _ _ hd.p1 kd (by intros; simp)
  have mj := hfr _ _ hd.jp.symm lp2 (by intros; simp)
  have ms1 := hfr _ _ hd.ps1 ks1 (by intros; simp)
  have ms2 := hfr _ _ hd.ps2 ks2 (by intros; simp)
  have ms3 := hfr _ _ hd.ps3 ks3 (by intros; simp)
  have hb := fun (K : List Item) (e : Env) => runL_beginRound (C := C1) (i := j) (fn := default) (K := K) (env := e) (D := []) lp
  rw [hH2] at hb
  have w1 : (x.size : Int) < 4611686018427387904 := by omega
  unfold stepAt
  simp only
  cases hs : stepL t a x with
  | inl t' =>
    rw [hs] at hst
    obtain ⟨hc, hp⟩ := hst
    refine ⟨(H3.set i5 (.box [.int .i64 (a + (x.size + 1))])).set j (.loop env #[14] a21_0 l21_0 .ready none), ?_, ?_⟩
    · have n5 := hd.j5
      simp (disch := first | assumption | omega | (simp only [one_int, one_bool, one_str, one_ptr, one_eptr, one_ref, one_sl, one_nils, one_nilp, one_nilm, one_map, one_fn, one_raddr, List.all_cons, List.all_nil, List.length_cons, List.length_nil, Bool.and_self, Bool.and_true]; done) | with_unfolding_all (refine @id _ ?_; rfl)) only [b21, Ua21_0, Ul21_0, R21_0, R21_1, R21_2, R21_3, R21_4, R21_5, R21_6, R21_7, R21_8, R21_9, R21_10, R21_11, R21_12, R21_13, R21_14, R21_15, LDP63, FIN21, AL63, AL3, STP3, LDP60, LDE60, LDR60, LDP3, LDE3, LDR3, CO3, CO9, BLD83_0_1, PNE63, PNN63, STP63, LEN9, FAP62_0, FAE62_0, FAR62_0, FAP32_2, FAE32_2, FAR32_2, LDP30, LDE30, LDR30, LEN30, LENN30, LENR30, IA30, IAR30, LDP42, LDE42, LDR42, AL42, STP42, FAP42_6, FAE42_6, FAR42_6, LDP24, LDE24, LDR24, FAP32_1, FAE32_1, FAR32_1, LDP29, LDE29, LDR29, FAP42_5, FAE42_5, FAR42_5, CO25, BLD66_0_1, KL21_0, KL21_1, KL21_2, KL21_8, KL21_9, KL21_10, KL21_11, KL21_12, KL21_13, KL21_14, KL21_15, FRC21_2, FRC21_3, FR21_1, LH21_1, e2, e4, e5, hb, k2, k4, k5, hc, m2, m4, m5, mj, runL_seq, runL_skip, runL_inBlock, runL_block, runL_ret, runL_nil, runL_br, kC_true, kC_false, brK_true, brK_false, brK_tup, gC_some, gC_none, pC_true, pC_false, exit_if, exit_inLoop, exit_code, leave_fin, slAddr_some, rowOb_row, rowOb_ro, refAddr_some, eltGet_some, eltGetA_some, Option.bind_some, Int.toNat_natCast, bin_sadd, set_app0, set_app, Nat.add_assoc, leave_coll, collEnd_defs, leave_round, roundEnd_none, roundEnd_some, get_set_self, get_set_ne, keepAt_none, keepAt_some, fr_region, fr_seq, fr_block, fr_loop, fr_cond, fr_ret, fr_skip, fr_exit, fr_rf, frk_code, frk_inLoop, frk_inBlock, frk_nil, restr_none, restr_keep, keepE_cons, keepE_nil, E_cons, E_nil, upd_app, put_app, put_app_none, ↓reduceIte, ini0, ini1, ini2, ini3, ini4, Int.cast_ofNat_Int, Int.natCast_one, Int.natCast_zero, Int.reduceEq, Int.reduceLT, Int.reduceLE, Int.reduceAdd, Int.reduceSub, Int.reduceNe, Int.reduceToNat, decide_true, decide_false, get_app_lt, get_app_ge, Nat.sub_self, Nat.add_sub_cancel_left, List.length_append, List.append_assoc, List.length_set, List.map_cons, List.map_nil, Option.map_some, Option.map_none, fk_pair, fk_val, finR_one, finR_two, finR_nil, res_nil, res_tmp, res_cell, consO_some, boxGet_box, boxGetA_box, boxSet_box, boxSetA_box, cells_agg, cells_int, cells_bool, cells_str, cells_ptr, cells_nilp, cells_nils, cells_ref, cells_sl, cells_map, cells_fn, Int.add_zero, Int.zero_add, List.getElem?_cons_zero, List.getElem?_cons_succ, List.length_cons, List.length_nil, Nat.zero_add, Nat.add_zero, Nat.reduceAdd, Nat.reduceLT, Nat.reduceLeDiff, List.cons_append, List.nil_append, List.set_cons_zero, List.set_cons_succ, List.take_succ_cons, List.take_zero, List.drop_succ_cons, List.drop_zero, splice, List.all_cons, List.all_nil, one_int, one_bool, one_str, one_ptr, one_eptr, one_ref, one_sl, one_nils, one_nilp, one_nilm, one_map, one_fn, one_raddr, Bool.and_self, Bool.and_true, Bool.true_and, Nat.lt_add_one, Nat.sub_zero, Nat.add_one_sub_one, evalV_tmp, evalV_bool, evalV_int, evalV_str, evalV_nilp, evalV_nils, evalV_nilm, evalV_nilf, evalV_func, andThen_none, bindV_none, fk_end, fk_callt, dynC_fn, dynC_yld, fk_ext, tupGet_tup, bindV_cV, bindV_cH, andThen_cVH, fk_guards, fk_no, setG_nil, setG_cons, gset_if, gres_tt, gres_tf, gres_ft, gres_ff, gset_none, gset_no, Option.some.injEq, reduceCtorEq, Nat.reduceEqDiff, beq_self_eq_true, Bool.not_true, Bool.not_false, Bool.false_eq_true, eq_self, decide_eq_true_eq, fk_move, fk_assign, fk_pick, fk_bin, fk_un, fk_index, fk_fieldAddr, fk_indexAddr, fk_slice, fk_lookup, fk_field, fk_load, fk_store, fk_nilCheck, fk_build, fk_buildSlice, fk_box, fk_convert, fk_makeFunc, fk_makeSlice, fk_makeMap, fk_mapUpdate, fk_builtin, fk_call, bin_add, bin_sub, bin_mul, bin_and, bin_or, bin_xor, bin_eql, bin_neq, bin_lss, bin_leq, bin_gtr, bin_geq, bin_seql, bin_sneq, un_not, un_neg, nc_ptr, nc_eptr, nc_raddr, min_b, max_b, C1_P, C1_keepL, KLD, IntWalk.i64_in, IntWalk.u8_in, IntWalk.u64_in, IntWalk.i32_in]
    · have n5 := hd.j5
      have l5 : i5 < H3.length := (List.getElem?_eq_some_iff.1 m5).1
      have lj : j < H3.length := (List.getElem?_eq_some_iff.1 mj).1
      have g : ∀ i, i ≠ j → i ≠ i5 → ((H3.set i5 (.box [.int .i64 (a + (x.size + 1))])).set j (.loop env #[14] a21_0 l21_0 .ready none))[i]? = H3[i]? := fun i h1 h2 => by
        rw [List.getElem?_set_ne (Ne.symm h1), List.getElem?_set_ne (Ne.symm h2)]
      refine ⟨⟨hQ _ _ q3 fun i ob hi _ h _ => by rw [g _ (by have := hd.mj; omega) (by have := hd.m5; omega)]; exact h, ?_, ?_, ?_, ?_, ?_, ?_, ?_, ?_⟩, ?_, ?_, ?_⟩
      · refine hl.st _ _ _ hp ⟨fun i ob hi h => by rw [g _ (by have := hd.mj; omega) (by have := hd.m5; omega)]; exact h, g _ hd.jp hd.p5.symm, fun i cl sz es h => ?_⟩
        rw [g]
        · exact h
        · rintro rfl; rw [mj] at h; cases h
        · rintro rfl; rw [m5] at h; cases h
      · rw [g _ hd.j2 hd.f2, m2]
      · rw [g _ hd.j4 hd.f4, m4]
      · rw [List.getElem?_set_ne hd.j5.symm, List.getElem?_set_self l5]
        simp only [Int.add_assoc]
      · rw [List.getElem?_set_self (by rw [List.length_set]; exact lj)]
      · rw [g _ hd.j1 hd.f1, md]
      · simp only; omega
      · simp only; omega
      · rw [g _ hd.js1 hd.fs1, ms1, h1]
      · rw [g _ hd.js2 hd.fs2, ms2, h2]
      · rw [g _ hd.js3 hd.fs3, ms3, h3]
  | inr r =>
    rw [hs] at hst
    obtain ⟨e, b⟩ := r
    obtain ⟨q, hc, hq⟩ := hst
    have n4 := hd.j4
    refine ⟨(H3.set i4 (.box [.ptr q 0])).set j (.loop env #[14] a21_0 l21_0 .done (some .ret)), ?_, ?_⟩
    · simp (disch := first | assumption | omega | (simp only [one_int, one_bool, one_str, one_ptr, one_eptr, one_ref, one_sl, one_nils, one_nilp, one_nilm, one_map, one_fn, one_raddr, List.all_cons, List.all_nil, List.length_cons, List.length_nil, Bool.and_self, Bool.and_true]; done) | with_unfolding_all (refine @id _ ?_; rfl)) only [b21, Ua21_0, Ul21_0, R21_0, R21_1, R21_2, R21_3, R21_4, R21_5, R21_6, R21_7, R21_8, R21_9, R21_10, R21_11, R21_12, R21_13, R21_14, R21_15, LDP63, FIN21, AL63, AL3, STP3, LDP60, LDE60, LDR60, LDP3, LDE3, LDR3, CO3, CO9, BLD83_0_1, PNE63, PNN63, STP63, LEN9, FAP62_0, FAE62_0, FAR62_0, FAP32_2, FAE32_2, FAR32_2, LDP30, LDE30, LDR30, LEN30, LENN30, LENR30, IA30, IAR30, LDP42, LDE42, LDR42, AL42, STP42, FAP42_6, FAE42_6, FAR42_6, LDP24, LDE24, LDR24, FAP32_1, FAE32_1, FAR32_1, LDP29, LDE29, LDR29, FAP42_5, FAE42_5, FAR42_5, CO25, BLD66_0_1, KL21_0, KL21_1, KL21_2, KL21_8, KL21_9, KL21_10, KL21_11, KL21_12, KL21_13, KL21_14, KL21_15, FRC21_2, FRC21_3, FR21_1, LH21_1, e2, e4, e5, hb, k2, k4, k5, hc, m2, m4, m5, mj, runL_seq, runL_skip, runL_inBlock, runL_block, runL_ret, runL_nil, runL_br, kC_true, kC_false, brK_true, brK_false, brK_tup, gC_some, gC_none, pC_true, pC_false, exit_if, exit_inLoop, exit_code, leave_fin, slAddr_some, rowOb_row, rowOb_ro, refAddr_some, eltGet_some, eltGetA_some, Option.bind_some, Int.toNat_natCast, bin_sadd, set_app0, set_app, Nat.add_assoc, leave_coll, collEnd_defs, leave_round, roundEnd_none, roundEnd_some, get_set_self, get_set_ne, keepAt_none, keepAt_some, fr_region, fr_seq, fr_block, fr_loop, fr_cond, fr_ret, fr_skip, fr_exit, fr_rf, frk_code, frk_inLoop, frk_inBlock, frk_nil, restr_none, restr_keep, keepE_cons, keepE_nil, E_cons, E_nil, upd_app, put_app, put_app_none, ↓reduceIte, ini0, ini1, ini2, ini3, ini4, Int.cast_ofNat_Int, Int.natCast_one, Int.natCast_zero, Int.reduceEq, Int.reduceLT, Int.reduceLE, Int.reduceAdd, Int.reduceSub, Int.reduceNe, Int.reduceToNat, decide_true, decide_false, get_app_lt, get_app_ge, Nat.sub_self, Nat.add_sub_cancel_left, List.length_append, List.append_assoc, List.length_set, List.map_cons, List.map_nil, Option.map_some, Option.map_none, fk_pair, fk_val, finR_one, finR_two, finR_nil, res_nil, res_tmp, res_cell, consO_some, boxGet_box, boxGetA_box, boxSet_box, boxSetA_box, cells_agg, cells_int, cells_bool, cells_str, cells_ptr, cells_nilp, cells_nils, cells_ref, cells_sl, cells_map, cells_fn, Int.add_zero, Int.zero_add, List.getElem?_cons_zero, List.getElem?_cons_succ, List.length_cons, List.length_nil, Nat.zero_add, Nat.add_zero, Nat.reduceAdd, Nat.reduceLT, Nat.reduceLeDiff, List.cons_append, List.nil_append, List.set_cons_zero, List.set_cons_succ, List.take_succ_cons, List.take_zero, List.drop_succ_cons, List.drop_zero, splice, List.all_cons, List.all_nil, one_int, one_bool, one_str, one_ptr, one_eptr, one_ref, one_sl, one_nils, one_nilp, one_nilm, one_map, one_fn, one_raddr, Bool.and_self, Bool.and_true, Bool.true_and, Nat.lt_add_one, Nat.sub_zero, Nat.add_one_sub_one, evalV_tmp, evalV_bool, evalV_int, evalV_str, evalV_nilp, evalV_nils, evalV_nilm, evalV_nilf, evalV_func, andThen_none, bindV_none, fk_end, fk_callt, dynC_fn, dynC_yld, fk_ext, tupGet_tup, bindV_cV, bindV_cH, andThen_cVH, fk_guards, fk_no, setG_nil, setG_cons, gset_if, gres_tt, gres_tf, gres_ft, gres_ff, gset_none, gset_no, Option.some.injEq, reduceCtorEq, Nat.reduceEqDiff, beq_self_eq_true, Bool.not_true, Bool.not_false, Bool.false_eq_true, eq_self, decide_eq_true_eq, fk_move, fk_assign, fk_pick, fk_bin, fk_un, fk_index, fk_fieldAddr, fk_indexAddr, fk_slice, fk_lookup, fk_field, fk_load, fk_store, fk_nilCheck, fk_build, fk_buildSlice, fk_box, fk_convert, fk_makeFunc, fk_makeSlice, fk_makeMap, fk_mapUpdate, fk_builtin, fk_call, bin_add, bin_sub, bin_mul, bin_and, bin_or, bin_xor, bin_eql, bin_neq, bin_lss, bin_leq, bin_gtr, bin_geq, bin_seql, bin_sneq, un_not, un_neg, nc_ptr, nc_eptr, nc_raddr, min_b, max_b, C1_P, C1_keepL, KLD, IntWalk.i64_in, IntWalk.u8_in, IntWalk.u64_in, IntWalk.i32_in]
    · have l4 : i4 < H3.length := (List.getElem?_eq_some_iff.1 m4).1
      have lj : j < H3.length := (List.getElem?_eq_some_iff.1 mj).1
      have g : ∀ i, i ≠ j → i ≠ i4 → ((H3.set i4 (.box [.ptr q 0])).set j (.loop env #[14] a21_0 l21_0 .done (some .ret)))[i]? = H3[i]? := fun i h1 h2 => by
        rw [List.getElem?_set_ne (Ne.symm h1), List.getElem?_set_ne (Ne.symm h2)]
      have qj : q ≠ j := by rintro rfl; rw [mj] at hq; cases hq
      have q4 : q ≠ i4 := by rintro rfl; rw [m4] at hq; simp at hq
      refine ⟨hQ _ _ q3 fun i ob hi _ h _ => by rw [g _ (by have := hd.mj; omega) (by have := hd.m4; omega)]; exact h, ⟨q, ?_, ?_⟩, ?_, ?_⟩
      · rw [List.getElem?_set_ne hd.j4.symm, List.getElem?_set_self l4]
      · rw [g _ qj q4, hq]
      · rw [List.getElem?_set_self (by rw [List.length_set]; exact lj)]
      · rw [g _ hd.j1 hd.g1, md]
end Go.Proofs.YthcpmjljdncigaaGreatDoor
