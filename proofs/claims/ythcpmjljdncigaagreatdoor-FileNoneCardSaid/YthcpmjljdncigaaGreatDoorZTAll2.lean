/- parser.all, where no rule comes of it. The condition: of the text's size. -/
import Derived.Test.YthcpmjljdncigaaGreatDoorZTAll
set_option linter.unusedSimpArgs false
set_option linter.unusedVariables false
set_option maxRecDepth 20000
namespace Go.Proofs.YthcpmjljdncigaaGreatDoor
open Go Go.V
theorem e10 : (⟨#[10]⟩ : ByteArray) = one 10 := rfl
theorem all_none {m p : Nat} {τ : Type} {PInv : τ → Heap → Prop} {stepL : τ → Int → ByteArray → τ ⊕ (Int × Int)} {B : Int} {G : ByteArray → Prop} (hB : B < 4611686018427387904) (hl : LineOk G p m τ PInv stepL B)
    {Q : Heap → Prop} (hQ : KeepQ m p Q) (hnil : ∀ t H, PInv t H → ∃ c d, H[p]? = some (.box [c, d, .nils])) {t : τ} {s : ByteArray} {H : Heap} (hm : m ≤ H.length) (hq : Q H) (hI : PInv t H) (hG : ∀ x ∈ linesOf s, G x) (hs : (s.size : Int) ≤ B) :
    ∃ H', (match stepAll (stepAt stepL) (t, 0) (linesOf s) with
      | .inl st' => callL C1 (.fn 21) [.ptr p 0, .str s] H = some (.nilp, H') ∧ PInv st'.1 H' ∧ Q H'
      | .inr (e, b) => ∃ q, callL C1 (.fn 21) [.ptr p 0, .str s] H = some (.ptr q 0, H') ∧ H'[q]? = some (.box [.int .i64 e, .int .i64 b]) ∧ Q H') := by
  have hp : p < H.length := by
    obtain ⟨c, d, h⟩ := hnil _ _ hI
    exact (List.getElem?_eq_some_iff.1 h).1
  rw [callL_heap (by kernel_rfl) Tryz.func21 f21_body (by kernel_rfl)]
  have hsz : s.size < 4611686018427387904 := by omega
  have hk : ∀ (r : Option (AV × Heap)) (x : AV × Heap), (runL C1 none Tryz.f21 [.code (.rangeFunc (.tmp 13) #[14] a21_0 l21_0), .inBlock 0, .code c21_3]
      (E [(2, .ptr H.length 0), (4, .ptr (H.length + 1) 0), (5, .ptr (H.length + 2) 0), (13, .fn 75 [] [.ptr (H.length + 4) 0, .ptr (H.length + 3) 0, .ptr (H.length + 5) 0])]) []
      (H ++ [.box [.ptr p 0], .box [.nilp], .box [.int .i64 0], .box [.str s], .box [.str (one 10)], .box [.int .i64 0]]) = r) →
      runL C1 none Tryz.f21 [.code b21] (initEnv [.ptr p 0, .str s]) [] H = r := by
    intro r x h
    simp (disch := first | assumption | omega | (simp only [one_int, one_bool, one_str, one_ptr, one_eptr, one_ref, one_sl, one_nils, one_nilp, one_nilm, one_map, one_fn, one_raddr, List.all_cons, List.all_nil, List.length_cons, List.length_nil, Bool.and_self, Bool.and_true]; done) | with_unfolding_all (refine @id _ ?_; rfl)) only [b21, Ua21_0, Ul21_0, R21_0, R21_1, R21_2, R21_3, R21_4, R21_5, R21_6, R21_7, R21_8, R21_9, R21_10, R21_11, R21_12, R21_13, R21_14, R21_15, LDP63, FIN21, AL63, AL3, STP3, LDP60, LDE60, LDR60, LDP3, LDE3, LDR3, CO3, CO9, BLD83_0_1, PNE63, PNN63, STP63, LEN9, FAP62_0, FAE62_0, FAR62_0, FAP32_2, FAE32_2, FAR32_2, LDP30, LDE30, LDR30, LEN30, LENN30, LENR30, IA30, IAR30, LDP42, LDE42, LDR42, AL42, STP42, FAP42_6, FAE42_6, FAR42_6, LDP24, LDE24, LDR24, FAP32_1, FAE32_1, FAR32_1, LDP29, LDE29, LDR29, FAP42_5, FAE42_5, FAR42_5, CO25, BLD66_0_1, KL21_0, KL21_1, KL21_2, KL21_8, KL21_9, KL21_10, KL21_11, KL21_12, KL21_13, KL21_14, KL21_15, FRC21_2, FRC21_3, FR21_1, LH21_1, splitSeq_c, e10, runL_seq, runL_skip, runL_inBlock, runL_block, runL_ret, runL_nil, runL_br, kC_true, kC_false, brK_true, brK_false, brK_tup, gC_some, gC_none, pC_true, pC_false, exit_if, exit_inLoop, exit_code, leave_fin, slAddr_some, rowOb_row, rowOb_ro, refAddr_some, eltGet_some, eltGetA_some, Option.bind_some, Int.toNat_natCast, bin_sadd, set_app0, set_app, Nat.add_assoc, leave_coll, collEnd_defs, leave_round, roundEnd_none, roundEnd_some, get_set_self, get_set_ne, keepAt_none, keepAt_some, fr_region, fr_seq, fr_block, fr_loop, fr_cond, fr_ret, fr_skip, fr_exit, fr_rf, frk_code, frk_inLoop, frk_inBlock, frk_nil, restr_none, restr_keep, keepE_cons, keepE_nil, E_cons, E_nil, upd_app, put_app, put_app_none, ↓reduceIte, ini0, ini1, ini2, ini3, ini4, Int.cast_ofNat_Int, Int.natCast_one, Int.natCast_zero, Int.reduceEq, Int.reduceLT, Int.reduceLE, Int.reduceAdd, Int.reduceSub, Int.reduceNe, Int.reduceToNat, decide_true, decide_false, get_app_lt, get_app_ge, Nat.sub_self, Nat.add_sub_cancel_left, List.length_append, List.append_assoc, List.length_set, List.map_cons, List.map_nil, Option.map_some, Option.map_none, fk_pair, fk_val, finR_one, finR_two, finR_nil, res_nil, res_tmp, res_cell, consO_some, boxGet_box, boxGetA_box, boxSet_box, boxSetA_box, cells_agg, cells_int, cells_bool, cells_str, cells_ptr, cells_nilp, cells_nils, cells_ref, cells_sl, cells_map, cells_fn, Int.add_zero, Int.zero_add, List.getElem?_cons_zero, List.getElem?_cons_succ, List.length_cons, List.length_nil, Nat.zero_add, Nat.add_zero, Nat.reduceAdd, Nat.reduceLT, Nat.reduceLeDiff, List.cons_append, List.nil_append, List.set_cons_zero, List.set_cons_succ, List.take_succ_cons, List.take_zero, List.drop_succ_cons, List.drop_zero, splice, List.all_cons, List.all_nil, one_int, one_bool, one_str, one_ptr, one_eptr, one_ref, one_sl, one_nils, one_nilp, one_nilm, one_map, one_fn, one_raddr, Bool.and_self, Bool.and_true, Bool.true_and, Nat.lt_add_one, Nat.sub_zero, Nat.add_one_sub_one, evalV_tmp, evalV_bool, evalV_int, evalV_str, evalV_nilp, evalV_nils, evalV_nilm, evalV_nilf, evalV_func, andThen_none, bindV_none, fk_end, fk_callt, dynC_fn, dynC_yld, fk_ext, tupGet_tup, bindV_cV, bindV_cH, andThen_cVH, fk_guards, fk_no, setG_nil, setG_cons, gset_if, gres_tt, gres_tf, gres_ft, gres_ff, gset_none, gset_no, Option.some.injEq, reduceCtorEq, Nat.reduceEqDiff, beq_self_eq_true, Bool.not_true, Bool.not_false, Bool.false_eq_true, eq_self, decide_eq_true_eq, fk_move, fk_assign, fk_pick, fk_bin, fk_un, fk_index, fk_fieldAddr, fk_indexAddr, fk_slice, fk_lookup, fk_field, fk_load, fk_store, fk_nilCheck, fk_build, fk_buildSlice, fk_box, fk_convert, fk_makeFunc, fk_makeSlice, fk_makeMap, fk_mapUpdate, fk_builtin, fk_call, bin_add, bin_sub, bin_mul, bin_and, bin_or, bin_xor, bin_eql, bin_neq, bin_lss, bin_leq, bin_gtr, bin_geq, bin_seql, bin_sneq, un_not, un_neg, nc_ptr, nc_eptr, nc_raddr, min_b, max_b, C1_P, C1_keepL, KLD, IntWalk.i64_in, IntWalk.u8_in, IntWalk.u64_in, IntWalk.i32_in]
    exact h
  obtain ⟨env, henv⟩ : ∃ env : Env, E [(2, .ptr H.length 0), (4, .ptr (H.length + 1) 0), (5, .ptr (H.length + 2) 0), (13, .fn 75 [] [.ptr (H.length + 4) 0, .ptr (H.length + 3) 0, .ptr (H.length + 5) 0])] = env := ⟨_, rfl⟩
  have v2 : env 2 = .ptr H.length 0 := by rw [← henv]; rfl
  have v4 : env 4 = .ptr (H.length + 1) 0 := by rw [← henv]; rfl
  have v5 : env 5 = .ptr (H.length + 2) 0 := by rw [← henv]; rfl
  have v13 : evalV env (.tmp 13) = .fn 75 [] [.ptr (H.length + 4) 0, .ptr (H.length + 3) 0, .ptr (H.length + 5) 0] := by rw [← henv]; rfl
  let H1 : Heap := H ++ [.box [.ptr p 0], .box [.nilp], .box [.int .i64 0], .box [.str s], .box [.str (one 10)], .box [.int .i64 0]]
  have hlen1 : H1.length = H.length + 6 := by simp [H1]
  let H2 : Heap := H1 ++ [.defs, .loop env #[14] a21_0 l21_0 .ready none]
  have hg : ∀ i, i < H.length → H2[i]? = H[i]? := fun i hi => by
    simp only [H2, H1]
    rw [List.getElem?_append_left (by simp; omega), List.getElem?_append_left hi]
  have hn : ∀ k, H2[H.length + k]? = ([.box [.ptr p 0], .box [.nilp], .box [.int .i64 0], .box [.str s], .box [.str (one 10)], .box [.int .i64 0], .defs, .loop env #[14] a21_0 l21_0 .ready none] : List Ob)[k]? := fun k => by
    simp only [H2, H1, List.append_assoc]
    rw [List.getElem?_append_right (by omega), Nat.add_sub_cancel_left]
    rfl
  have hd : Dist m p H.length (H.length + 1) (H.length + 2) (H.length + 7) (H.length + 4) (H.length + 3) (H.length + 5) := by
    constructor <;> omega
  have hI2 : AllInv p H.length (H.length + 1) (H.length + 2) (H.length + 7) env PInv Q B (t, 0) s.size H2 := by
    refine ⟨hQ _ _ hq fun i ob hi _ h _ => by rw [hg _ (by omega)]; exact h, hl.st _ _ _ hI ⟨fun i ob hi h => by rw [hg _ (by omega)]; exact h, hg _ hp, fun i cl sz es h => ?_⟩, hn 0, hn 1, hn 2, hn 7, ?_, ?_, ?_⟩
    · rw [hg _ (List.getElem?_eq_some_iff.1 h).1]; exact h
    · exact hn 6
    · simp
    · simp; omega
  obtain ⟨H3, hrun, hfin⟩ := iter_c (isep := H.length + 4) (is := H.length + 3) (isave := H.length + 5) (j := H.length + 7)
    (fun st r H' => AllInv p H.length (H.length + 1) (H.length + 2) (H.length + 7) env PInv Q B st r H' ∧ (∃ cs, H'[H.length + 4]? = some (.box cs)) ∧ (∃ cs, H'[H.length + 3]? = some (.box cs)) ∧ (∃ cs, H'[H.length + 5]? = some (.box cs)))
    (stepAt stepL) (AllDone (H.length + 1) (H.length + 7) env Q) (by omega) (by omega)
    (fun st r x H' hgx hI hx hr => by
      obtain ⟨hI, ⟨c1, h1⟩, ⟨c2, h2⟩, ⟨c3, h3⟩⟩ := hI
      obtain ⟨H4, h4⟩ := all_round hB hl hQ v2 v4 v5 hd hgx hI hx hr h1 h2 h3
      refine ⟨H4, ?_⟩
      cases hst : stepAt stepL st x with
      | inl st' =>
        rw [hst] at h4
        exact ⟨h4.1, ⟨h4.2.1, ⟨c1, h4.2.2.1.trans h1⟩, ⟨c2, h4.2.2.2.1.trans h2⟩, ⟨c3, h4.2.2.2.2.trans h3⟩⟩, h4.2.2⟩
      | inr r => rw [hst] at h4; exact h4)
    (fun st r H' x hI => by
      obtain ⟨⟨p0, p1, p2, p3, p4, p5, p6, p7, p8⟩, ⟨c1, h1⟩, ⟨c2, h2⟩, ⟨c3, h3⟩⟩ := hI
      have l3 : H.length + 3 < H'.length := (List.getElem?_eq_some_iff.1 h2).1
      have g : ∀ i, i ≠ H.length + 3 → (H'.set (H.length + 3) (.box [.str x]))[i]? = H'[i]? := fun i hi => List.getElem?_set_ne (Ne.symm hi)
      refine ⟨⟨hQ _ _ p0 fun i ob hi _ h _ => by rw [g _ (by omega)]; exact h, hl.st _ _ _ p1 ⟨fun i ob hi h => by rw [g _ (by omega)]; exact h, g _ (by omega), fun i cl sz es h => ?_⟩, ?_, ?_, ?_, ?_, ?_, p7, p8⟩, ⟨c1, ?_⟩, ⟨[.str x], ?_⟩, ⟨c3, ?_⟩⟩
      · rw [g]
        · exact h
        · rintro rfl; rw [h2] at h; cases h
      · rw [g _ (by omega)]; exact p2
      · rw [g _ (by omega)]; exact p3
      · rw [g _ (by omega)]; exact p4
      · rw [g _ (by omega)]; exact p5
      · rw [g _ (by omega)]; exact p6
      · rw [g _ (by omega)]; exact h1
      · exact List.getElem?_set_self l3
      · rw [g _ (by omega)]; exact h3)
    s.size s (t, 0) H2 (Nat.le_refl _) hsz ⟨hI2, ⟨_, hn 4⟩, ⟨_, hn 3⟩, ⟨_, hn 5⟩⟩ hG (hn 4) (hn 3) (hn 5)
  have hF : runL C1 none Tryz.f75 [.code b75] (initEnv ([] ++ [.yld (H1.length + 1)] ++ [.ptr (H.length + 4) 0, .ptr (H.length + 3) 0, .ptr (H.length + 5) 0])) [] H2 = some (.tup [], H3) := by
    have q4 := hn 4
    have o1 : (one 10).size = 1 := rfl
    simp only [List.getElem?_cons_succ, List.getElem?_cons_zero] at q4
    rw [hlen1]
    simp (disch := first | assumption | omega | (simp only [one_int, one_bool, one_str, one_ptr, one_eptr, one_ref, one_sl, one_nils, one_nilp, one_nilm, one_map, one_fn, one_raddr, List.all_cons, List.all_nil, List.length_cons, List.length_nil, Bool.and_self, Bool.and_true]; done) | with_unfolding_all (refine @id _ ?_; rfl)) only [b75, R75_0, R75_1, R75_2, R75_3, R75_4, R75_5, R75_6, R75_7, R75_8, R75_9, R75_10, FIN75, LDP9, LDE9, LDR9, LEN9, SLH9, SLL9, STP9, LDP3, LDE3, LDR3, KL75_0, KL75_1, KL75_2, KL75_3, KL75_4, KL75_5, KL75_6, KL75_7, KL75_8, KL75_9, KL75_10, FRC75_1, FRC75_3, FRC75_4, FR75_0, LH75_0, FR75_2, LH75_2, q4, o1, Uc75_4, runL_seq, runL_skip, runL_inBlock, runL_block, runL_ret, runL_nil, runL_br, kC_true, kC_false, brK_true, brK_false, brK_tup, gC_some, gC_none, pC_true, pC_false, exit_if, exit_inLoop, exit_code, leave_fin, slAddr_some, rowOb_row, rowOb_ro, refAddr_some, eltGet_some, eltGetA_some, Option.bind_some, Int.toNat_natCast, bin_sadd, set_app0, set_app, Nat.add_assoc, leave_coll, collEnd_defs, leave_round, roundEnd_none, roundEnd_some, get_set_self, get_set_ne, keepAt_none, keepAt_some, fr_region, fr_seq, fr_block, fr_loop, fr_cond, fr_ret, fr_skip, fr_exit, fr_rf, frk_code, frk_inLoop, frk_inBlock, frk_nil, restr_none, restr_keep, keepE_cons, keepE_nil, E_cons, E_nil, upd_app, put_app, put_app_none, ↓reduceIte, ini0, ini1, ini2, ini3, ini4, Int.cast_ofNat_Int, Int.natCast_one, Int.natCast_zero, Int.reduceEq, Int.reduceLT, Int.reduceLE, Int.reduceAdd, Int.reduceSub, Int.reduceNe, Int.reduceToNat, decide_true, decide_false, get_app_lt, get_app_ge, Nat.sub_self, Nat.add_sub_cancel_left, List.length_append, List.append_assoc, List.length_set, List.map_cons, List.map_nil, Option.map_some, Option.map_none, fk_pair, fk_val, finR_one, finR_two, finR_nil, res_nil, res_tmp, res_cell, consO_some, boxGet_box, boxGetA_box, boxSet_box, boxSetA_box, cells_agg, cells_int, cells_bool, cells_str, cells_ptr, cells_nilp, cells_nils, cells_ref, cells_sl, cells_map, cells_fn, Int.add_zero, Int.zero_add, List.getElem?_cons_zero, List.getElem?_cons_succ, List.length_cons, List.length_nil, Nat.zero_add, Nat.add_zero, Nat.reduceAdd, Nat.reduceLT, Nat.reduceLeDiff, List.cons_append, List.nil_append, List.set_cons_zero, List.set_cons_succ, List.take_succ_cons, List.take_zero, List.drop_succ_cons, List.drop_zero, splice, List.all_cons, List.all_nil, one_int, one_bool, one_str, one_ptr, one_eptr, one_ref, one_sl, one_nils, one_nilp, one_nilm, one_map, one_fn, one_raddr, Bool.and_self, Bool.and_true, Bool.true_and, Nat.lt_add_one, Nat.sub_zero, Nat.add_one_sub_one, evalV_tmp, evalV_bool, evalV_int, evalV_str, evalV_nilp, evalV_nils, evalV_nilm, evalV_nilf, evalV_func, andThen_none, bindV_none, fk_end, fk_callt, dynC_fn, dynC_yld, fk_ext, tupGet_tup, bindV_cV, bindV_cH, andThen_cVH, fk_guards, fk_no, setG_nil, setG_cons, gset_if, gres_tt, gres_tf, gres_ft, gres_ff, gset_none, gset_no, Option.some.injEq, reduceCtorEq, Nat.reduceEqDiff, beq_self_eq_true, Bool.not_true, Bool.not_false, Bool.false_eq_true, eq_self, decide_eq_true_eq, fk_move, fk_assign, fk_pick, fk_bin, fk_un, fk_index, fk_fieldAddr, fk_indexAddr, fk_slice, fk_lookup, fk_field, fk_load, fk_store, fk_nilCheck, fk_build, fk_buildSlice, fk_box, fk_convert, fk_makeFunc, fk_makeSlice, fk_makeMap, fk_mapUpdate, fk_builtin, fk_call, bin_add, bin_sub, bin_mul, bin_and, bin_or, bin_xor, bin_eql, bin_neq, bin_lss, bin_leq, bin_gtr, bin_geq, bin_seql, bin_sneq, un_not, un_neg, nc_ptr, nc_eptr, nc_raddr, min_b, max_b, C1_P, C1_keepL, KLD, IntWalk.i64_in, IntWalk.u8_in, IntWalk.u64_in, IntWalk.i32_in]
    exact hrun
  have hR : runL C1 none Tryz.f21 [.code (.rangeFunc (.tmp 13) #[14] a21_0 l21_0), .inBlock 0, .code c21_3] env [] H1 = _ := runL_rangeFunc v13 Tryz.func75 f75_body
  rw [show H1 ++ [.defs, .loop env #[14] a21_0 l21_0 .ready none] = H2 from rfl, hF] at hR
  simp only [Option.bind_some, hlen1] at hR
  rw [henv] at hk
  cases hst : stepAll (stepAt stepL) (t, 0) (linesOf s) with
  | inl st' =>
    rw [hst] at hfin
    obtain ⟨⟨p0, p1, p2, p3, p4, p5, p6, p7, p8⟩, _⟩ := hfin
    obtain ⟨c, d, hpx⟩ := hnil _ _ p1
    rw [p5] at hR
    have q6 : H3[H.length + 6]? = some .defs := p6
    refine ⟨(((H3.set (H.length + 7) .dead).set (H.length + 1) (.box [.nilp])).set (H.length + 6) .dead), ?_, ?_, ?_⟩
    · refine hk _ (.nilp, H) (hR.trans ?_)
      simp (disch := first | assumption | omega | (simp only [one_int, one_bool, one_str, one_ptr, one_eptr, one_ref, one_sl, one_nils, one_nilp, one_nilm, one_map, one_fn, one_raddr, List.all_cons, List.all_nil, List.length_cons, List.length_nil, Bool.and_self, Bool.and_true]; done) | with_unfolding_all (refine @id _ ?_; rfl)) only [b21, Ua21_0, Ul21_0, R21_0, R21_1, R21_2, R21_3, R21_4, R21_5, R21_6, R21_7, R21_8, R21_9, R21_10, R21_11, R21_12, R21_13, R21_14, R21_15, LDP63, FIN21, AL63, AL3, STP3, LDP60, LDE60, LDR60, LDP3, LDE3, LDR3, CO3, CO9, BLD83_0_1, PNE63, PNN63, STP63, LEN9, FAP62_0, FAE62_0, FAR62_0, FAP32_2, FAE32_2, FAR32_2, LDP30, LDE30, LDR30, LEN30, LENN30, LENR30, IA30, IAR30, LDP42, LDE42, LDR42, AL42, STP42, FAP42_6, FAE42_6, FAR42_6, LDP24, LDE24, LDR24, FAP32_1, FAE32_1, FAR32_1, LDP29, LDE29, LDR29, FAP42_5, FAE42_5, FAR42_5, CO25, BLD66_0_1, KL21_0, KL21_1, KL21_2, KL21_8, KL21_9, KL21_10, KL21_11, KL21_12, KL21_13, KL21_14, KL21_15, FRC21_2, FRC21_3, FR21_1, LH21_1, v2, v4, v5, p2, p3, p4, q6, hpx, Uc21_3, Uc21_2, LI21_1, Option.map_none, Option.toList_none, List.nil_append, runL_seq, runL_skip, runL_inBlock, runL_block, runL_ret, runL_nil, runL_br, kC_true, kC_false, brK_true, brK_false, brK_tup, gC_some, gC_none, pC_true, pC_false, exit_if, exit_inLoop, exit_code, leave_fin, slAddr_some, rowOb_row, rowOb_ro, refAddr_some, eltGet_some, eltGetA_some, Option.bind_some, Int.toNat_natCast, bin_sadd, set_app0, set_app, Nat.add_assoc, leave_coll, collEnd_defs, leave_round, roundEnd_none, roundEnd_some, get_set_self, get_set_ne, keepAt_none, keepAt_some, fr_region, fr_seq, fr_block, fr_loop, fr_cond, fr_ret, fr_skip, fr_exit, fr_rf, frk_code, frk_inLoop, frk_inBlock, frk_nil, restr_none, restr_keep, keepE_cons, keepE_nil, E_cons, E_nil, upd_app, put_app, put_app_none, ↓reduceIte, ini0, ini1, ini2, ini3, ini4, Int.cast_ofNat_Int, Int.natCast_one, Int.natCast_zero, Int.reduceEq, Int.reduceLT, Int.reduceLE, Int.reduceAdd, Int.reduceSub, Int.reduceNe, Int.reduceToNat, decide_true, decide_false, get_app_lt, get_app_ge, Nat.sub_self, Nat.add_sub_cancel_left, List.length_append, List.append_assoc, List.length_set, List.map_cons, List.map_nil, Option.map_some, Option.map_none, fk_pair, fk_val, finR_one, finR_two, finR_nil, res_nil, res_tmp, res_cell, consO_some, boxGet_box, boxGetA_box, boxSet_box, boxSetA_box, cells_agg, cells_int, cells_bool, cells_str, cells_ptr, cells_nilp, cells_nils, cells_ref, cells_sl, cells_map, cells_fn, Int.add_zero, Int.zero_add, List.getElem?_cons_zero, List.getElem?_cons_succ, List.length_cons, List.length_nil, Nat.zero_add, Nat.add_zero, Nat.reduceAdd, Nat.reduceLT, Nat.reduceLeDiff, List.cons_append, List.nil_append, List.set_cons_zero, List.set_cons_succ, List.take_succ_cons, List.take_zero, List.drop_succ_cons, List.drop_zero, splice, List.all_cons, List.all_nil, one_int, one_bool, one_str, one_ptr, one_eptr, one_ref, one_sl, one_nils, one_nilp, one_nilm, one_map, one_fn, one_raddr, Bool.and_self, Bool.and_true, Bool.true_and, Nat.lt_add_one, Nat.sub_zero, Nat.add_one_sub_one, evalV_tmp, evalV_bool, evalV_int, evalV_str, evalV_nilp, evalV_nils, evalV_nilm, evalV_nilf, evalV_func, andThen_none, bindV_none, fk_end, fk_callt, dynC_fn, dynC_yld, fk_ext, tupGet_tup, bindV_cV, bindV_cH, andThen_cVH, fk_guards, fk_no, setG_nil, setG_cons, gset_if, gres_tt, gres_tf, gres_ft, gres_ff, gset_none, gset_no, Option.some.injEq, reduceCtorEq, Nat.reduceEqDiff, beq_self_eq_true, Bool.not_true, Bool.not_false, Bool.false_eq_true, eq_self, decide_eq_true_eq, fk_move, fk_assign, fk_pick, fk_bin, fk_un, fk_index, fk_fieldAddr, fk_indexAddr, fk_slice, fk_lookup, fk_field, fk_load, fk_store, fk_nilCheck, fk_build, fk_buildSlice, fk_box, fk_convert, fk_makeFunc, fk_makeSlice, fk_makeMap, fk_mapUpdate, fk_builtin, fk_call, bin_add, bin_sub, bin_mul, bin_and, bin_or, bin_xor, bin_eql, bin_neq, bin_lss, bin_leq, bin_gtr, bin_geq, bin_seql, bin_sneq, un_not, un_neg, nc_ptr, nc_eptr, nc_raddr, min_b, max_b, C1_P, C1_keepL, KLD, IntWalk.i64_in, IntWalk.u8_in, IntWalk.u64_in, IntWalk.i32_in]
    · have g : ∀ i, i ≠ H.length + 7 → i ≠ H.length + 1 → i ≠ H.length + 6 → (((H3.set (H.length + 7) .dead).set (H.length + 1) (.box [.nilp])).set (H.length + 6) .dead)[i]? = H3[i]? := fun i h1 h2 h3 => by
        rw [List.getElem?_set_ne (Ne.symm h3), List.getElem?_set_ne (Ne.symm h2), List.getElem?_set_ne (Ne.symm h1)]
      refine hl.st _ _ _ p1 ⟨fun i ob hi h => by rw [g _ (by omega) (by omega) (by omega)]; exact h, g _ (by omega) (by omega) (by omega), fun i cl sz es h => ?_⟩
      rw [g]
      · exact h
      · rintro rfl; rw [p5] at h; cases h
      · rintro rfl; rw [p3] at h; cases h
      · rintro rfl; rw [q6] at h; cases h
    · exact hQ _ _ p0 fun i ob hi _ h _ => by rw [List.getElem?_set_ne (by omega), List.getElem?_set_ne (by omega), List.getElem?_set_ne (by omega)]; exact h
  | inr r =>
    rw [hst] at hfin
    obtain ⟨p0, ⟨q, k1, k2⟩, k3, k4⟩ := hfin
    rw [k3] at hR
    have q6 : H3[H.length + 6]? = some .defs := k4
    have hq7 : q ≠ H.length + 7 := by rintro rfl; rw [k3] at k2; cases k2
    have hq6 : q ≠ H.length + 6 := by rintro rfl; rw [q6] at k2; cases k2
    refine ⟨(H3.set (H.length + 7) .dead).set (H.length + 6) .dead, q, ?_, ?_, ?_⟩
    · refine hk _ (.nilp, H) (hR.trans ?_)
      simp (disch := first | assumption | omega | (simp only [one_int, one_bool, one_str, one_ptr, one_eptr, one_ref, one_sl, one_nils, one_nilp, one_nilm, one_map, one_fn, one_raddr, List.all_cons, List.all_nil, List.length_cons, List.length_nil, Bool.and_self, Bool.and_true]; done) | with_unfolding_all (refine @id _ ?_; rfl)) only [b21, Ua21_0, Ul21_0, R21_0, R21_1, R21_2, R21_3, R21_4, R21_5, R21_6, R21_7, R21_8, R21_9, R21_10, R21_11, R21_12, R21_13, R21_14, R21_15, LDP63, FIN21, AL63, AL3, STP3, LDP60, LDE60, LDR60, LDP3, LDE3, LDR3, CO3, CO9, BLD83_0_1, PNE63, PNN63, STP63, LEN9, FAP62_0, FAE62_0, FAR62_0, FAP32_2, FAE32_2, FAR32_2, LDP30, LDE30, LDR30, LEN30, LENN30, LENR30, IA30, IAR30, LDP42, LDE42, LDR42, AL42, STP42, FAP42_6, FAE42_6, FAR42_6, LDP24, LDE24, LDR24, FAP32_1, FAE32_1, FAR32_1, LDP29, LDE29, LDR29, FAP42_5, FAE42_5, FAR42_5, CO25, BLD66_0_1, KL21_0, KL21_1, KL21_2, KL21_8, KL21_9, KL21_10, KL21_11, KL21_12, KL21_13, KL21_14, KL21_15, FRC21_2, FRC21_3, FR21_1, LH21_1, v2, v4, v5, k1, q6, Option.map_some, Option.toList_some, List.cons_append, runL_seq, runL_skip, runL_inBlock, runL_block, runL_ret, runL_nil, runL_br, kC_true, kC_false, brK_true, brK_false, brK_tup, gC_some, gC_none, pC_true, pC_false, exit_if, exit_inLoop, exit_code, leave_fin, slAddr_some, rowOb_row, rowOb_ro, refAddr_some, eltGet_some, eltGetA_some, Option.bind_some, Int.toNat_natCast, bin_sadd, set_app0, set_app, Nat.add_assoc, leave_coll, collEnd_defs, leave_round, roundEnd_none, roundEnd_some, get_set_self, get_set_ne, keepAt_none, keepAt_some, fr_region, fr_seq, fr_block, fr_loop, fr_cond, fr_ret, fr_skip, fr_exit, fr_rf, frk_code, frk_inLoop, frk_inBlock, frk_nil, restr_none, restr_keep, keepE_cons, keepE_nil, E_cons, E_nil, upd_app, put_app, put_app_none, ↓reduceIte, ini0, ini1, ini2, ini3, ini4, Int.cast_ofNat_Int, Int.natCast_one, Int.natCast_zero, Int.reduceEq, Int.reduceLT, Int.reduceLE, Int.reduceAdd, Int.reduceSub, Int.reduceNe, Int.reduceToNat, decide_true, decide_false, get_app_lt, get_app_ge, Nat.sub_self, Nat.add_sub_cancel_left, List.length_append, List.append_assoc, List.length_set, List.map_cons, List.map_nil, Option.map_some, Option.map_none, fk_pair, fk_val, finR_one, finR_two, finR_nil, res_nil, res_tmp, res_cell, consO_some, boxGet_box, boxGetA_box, boxSet_box, boxSetA_box, cells_agg, cells_int, cells_bool, cells_str, cells_ptr, cells_nilp, cells_nils, cells_ref, cells_sl, cells_map, cells_fn, Int.add_zero, Int.zero_add, List.getElem?_cons_zero, List.getElem?_cons_succ, List.length_cons, List.length_nil, Nat.zero_add, Nat.add_zero, Nat.reduceAdd, Nat.reduceLT, Nat.reduceLeDiff, List.cons_append, List.nil_append, List.set_cons_zero, List.set_cons_succ, List.take_succ_cons, List.take_zero, List.drop_succ_cons, List.drop_zero, splice, List.all_cons, List.all_nil, one_int, one_bool, one_str, one_ptr, one_eptr, one_ref, one_sl, one_nils, one_nilp, one_nilm, one_map, one_fn, one_raddr, Bool.and_self, Bool.and_true, Bool.true_and, Nat.lt_add_one, Nat.sub_zero, Nat.add_one_sub_one, evalV_tmp, evalV_bool, evalV_int, evalV_str, evalV_nilp, evalV_nils, evalV_nilm, evalV_nilf, evalV_func, andThen_none, bindV_none, fk_end, fk_callt, dynC_fn, dynC_yld, fk_ext, tupGet_tup, bindV_cV, bindV_cH, andThen_cVH, fk_guards, fk_no, setG_nil, setG_cons, gset_if, gres_tt, gres_tf, gres_ft, gres_ff, gset_none, gset_no, Option.some.injEq, reduceCtorEq, Nat.reduceEqDiff, beq_self_eq_true, Bool.not_true, Bool.not_false, Bool.false_eq_true, eq_self, decide_eq_true_eq, fk_move, fk_assign, fk_pick, fk_bin, fk_un, fk_index, fk_fieldAddr, fk_indexAddr, fk_slice, fk_lookup, fk_field, fk_load, fk_store, fk_nilCheck, fk_build, fk_buildSlice, fk_box, fk_convert, fk_makeFunc, fk_makeSlice, fk_makeMap, fk_mapUpdate, fk_builtin, fk_call, bin_add, bin_sub, bin_mul, bin_and, bin_or, bin_xor, bin_eql, bin_neq, bin_lss, bin_leq, bin_gtr, bin_geq, bin_seql, bin_sneq, un_not, un_neg, nc_ptr, nc_eptr, nc_raddr, min_b, max_b, C1_P, C1_keepL, KLD, IntWalk.i64_in, IntWalk.u8_in, IntWalk.u64_in, IntWalk.i32_in]
    · rw [List.getElem?_set_ne (Ne.symm hq6), List.getElem?_set_ne (Ne.symm hq7), k2]
    · exact hQ _ _ p0 fun i ob hi _ h _ => by rw [List.getElem?_set_ne (by omega), List.getElem?_set_ne (by omega)]; exact h
theorem all_ok {m p : Nat} {τ : Type} {PInv : τ → Heap → Prop} {stepL : τ → Int → ByteArray → τ ⊕ (Int × Int)} {B : Int} {G : ByteArray → Prop} (hB : B < 4611686018427387904) (hl : LineOk G p m τ PInv stepL B)
    {Q : Heap → Prop} (hQ : KeepQ m p Q) (hnil : ∀ t H, PInv t H → ∃ c d, H[p]? = some (.box [c, d, .nils])) {t : τ} {s : ByteArray} {H : Heap} (hm : m ≤ H.length) (hq : Q H) (hI : PInv t H) (hG : ∀ x ∈ linesOf s, G x) (hs : (s.size : Int) ≤ B)
    {st' : τ × Int} (hst : stepAll (stepAt stepL) (t, 0) (linesOf s) = .inl st') : ∃ H', callL C1 (.fn 21) [.ptr p 0, .str s] H = some (.nilp, H') ∧ PInv st'.1 H' ∧ Q H' := by
  obtain ⟨H', h⟩ := all_none hB hl hQ hnil hm hq hI hG hs
  rw [hst] at h
  exact ⟨H', h⟩
theorem all_bad {m p : Nat} {τ : Type} {PInv : τ → Heap → Prop} {stepL : τ → Int → ByteArray → τ ⊕ (Int × Int)} {B : Int} {G : ByteArray → Prop} (hB : B < 4611686018427387904) (hl : LineOk G p m τ PInv stepL B)
    {Q : Heap → Prop} (hQ : KeepQ m p Q) (hnil : ∀ t H, PInv t H → ∃ c d, H[p]? = some (.box [c, d, .nils])) {t : τ} {s : ByteArray} {H : Heap} (hm : m ≤ H.length) (hq : Q H) (hI : PInv t H) (hG : ∀ x ∈ linesOf s, G x) (hs : (s.size : Int) ≤ B)
    {e b : Int} (hst : stepAll (stepAt stepL) (t, 0) (linesOf s) = .inr (e, b)) : ∃ H' q, callL C1 (.fn 21) [.ptr p 0, .str s] H = some (.ptr q 0, H') ∧ H'[q]? = some (.box [.int .i64 e, .int .i64 b]) ∧ Q H' := by
  obtain ⟨H', h⟩ := all_none hB hl hQ hnil hm hq hI hG hs
  rw [hst] at h
  exact ⟨H', h⟩
end Go.Proofs.YthcpmjljdncigaaGreatDoor
