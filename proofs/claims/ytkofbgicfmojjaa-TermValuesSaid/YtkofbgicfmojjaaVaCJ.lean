/- Contracts: a node's value. -/
import Derived.Test.YtkofbgicfmojjaaVaCI
set_option linter.unusedSimpArgs false
set_option linter.unusedVariables false
set_option linter.unusedSectionVars false
namespace Go.Va
open Go.Proofs

def Nd.ok (n : Nd) : Prop := 0 ≤ n.k ∧ n.k < 4294967296 ∧ -9223372036854775808 ≤ n.op ∧ n.op < 9223372036854775808
def valN (n : Nd) (done rc : Nat → Nat) : Nat :=
  if n.op = 1 then n.k.toNat else if n.op = 2 then rc n.k.toNat else (aluN (n.op - 256) (done n.a.toNat) (done n.b.toNat)).1

theorem may_alu {n : Nd} {i : Nat} (h : mayB n i = true) (h1 : ¬ n.op = 1) (h2 : ¬ n.op = 2) : n.op ∈ alus ∧ n.k = 0 ∧ 0 ≤ n.a ∧ n.a < i ∧ 0 ≤ n.b ∧ n.b < i := by
  unfold mayB at h
  rw [if_neg h1, if_neg h2] at h
  split at h
  · cases h
  · rename_i h3
    have h4 : n.op ∈ alus := by
      by_cases h4 : n.op ∈ alus
      · exact h4
      · exact absurd (.inl h4) h3
    refine ⟨h4, by omega, by omega, by omega, ?_⟩
    split at h
    · have := of_decide_eq_true h; omega
    · have := of_decide_eq_true h; omega
theorem may_word {n : Nd} {i : Nat} (h : mayB n i = true) (h2 : n.op = 2) : n.k < 16 := by
  unfold mayB at h
  rw [if_neg (by omega), if_pos h2] at h
  have := of_decide_eq_true h; omega

theorem nval_spec (n : Nd) (i : Nat) (done rc : Nat → Nat) (w : AV) (L : List (List AV)) (rid born : Nat) (rcs : List AV) (e : TypeId) (ro : Bool) (H : Heap) (hn : n.ok) (hm : mayB n i = true) (hd : ∀ j, done j < 4294967296)
    (hS : Shows H w 1 L) (hL : ∀ j, j < i → L[j]? = some [.int .u32 (done j : Nat)]) (hr : H[rid]? = some (.cells rcs e born ro)) (hb : born ≤ 16) (hrl : rcs.length = 16) (hrc : ∀ j, j < 16 → rcs[j]? = some (.int .u32 (rc j : Nat))) :
    F X 34 [n.v, w, .ptr rid 0 16] H (fun r H' => r = .int .u32 (valN n done rc : Nat) ∧ Ext H H') := by
  refine F_slim S34_eq rfl fun ρ hρ => ?_
  simp only [AGs] at hρ
  obtain ⟨h0, h1, h2, -⟩ := hρ
  obtain ⟨k1, k2, -, -⟩ := hn
  have hr' : ∀ l : Heap, (H ++ l)[rid]? = some (.cells rcs e born ro) := fun l => (Ext.refl.app (l := l)) _ _ hr
  simp -implicitDefEqProofs only [↓WS_skip, ↓WS_reg, ↓WS_regL, ↓WS_seq, ↓WS_cond, ↓WS_block, ↓WS_exit, ↓WS_ret, ↓UN_WL, ↓UN_Z, ↓UN_S, XB_eq, ↓wpo_nil, ↓wpo_guard, upO_some, upO_none, up_get, ope_tmp, ope_const, ope_func, ofV_int, ofV_bool, ofV_nilsl, ofV_nilp, ofV_nilm, ofV_agg, ofV1_int, ofV1_bool, ↓wp_call, ↓wp_move, ↓wp_assign, ↓wp_pick, pick_true, pick_false, pick_bool, ↓wp_load, ↓wp_store, ↓wp_nilCheck, nilCk_ptr, ↓wp_extract, extr0, extr1, extr2, ↓wp_alloc, ↓wp_box, alloc_some, ↓wp_build, ↓wp_buildSlice, ↓wp_binOp, ↓wp_unOp, ↓wp_convert, ↓wp_makeMap, ↓wp_makeSlice, ↓wp_slice, ↓wp_fieldAddr, ↓wp_field, ↓wp_indexAddr, ↓wp_index, ↓wp_lookup, ↓wp_mapUpdate, ↓wp_insert, ↓wp_len, ↓wp_append, ↓wp_min, PS_some, ES_some, HS_some, Br_true, Br_false, Br_not, BrV_bool, Gd_bool_true, Gd_bool_false, Gd_tup, bin_add, bin_sub, bin_mul, bin_and, bin_or, bin_xor, bin_eql, bin_neq, bin_lss, bin_leq, bin_gtr, bin_geq, un_not, un_neg, conv_int, loadP_ptr, storeP_ptr, fieldAddr_ptr, indexAddr_eq, hp_get, hp_get0, hp_set, hp_set0, cells_agg, cells_int, cells_bool, cells_nilsl, putAll_nil, putAll_cons, one_int, one_bool, dead_agg, dead_int, List.append_assoc, List.cons_append, List.nil_append, List.length_append, List.length_cons, List.length_nil, Nat.zero_add, Nat.add_zero, Nat.reduceAdd, Nat.reduceEqDiff, ↓reduceIte, Option.map_some, Option.some.injEq, List.map_cons, List.map_nil, List.getElem?_cons_zero, List.getElem?_cons_succ, decide_not, decide_true, decide_false, Bool.not_true, Bool.not_false, Bool.false_eq_true, Fin1, Fin2, Fin3, FinC, FinC2, GotV_some, box_agg, box_int, box_bool, Nat.reduceLT, Nat.reduceLeDiff, Nat.zero_le, stO_cells, List.all_cons, List.all_nil, Bool.and_self, Bool.and_true, List.set_cons_zero, List.set_cons_succ, List.drop_zero, List.drop_succ_cons, List.take_succ_cons, List.take_zero, List.take_nil, Int.reduceEq, Nat.le_refl, X_P, shape_3, shape_4, shape_22, shape_23, shape_25, shape_47, shape_56, shape_80, tSz_3, tSz_4, tSz_22, tSz_23, tSz_25, tSz_32, tSz_45, tSz_47, tSz_50, tSz_52, tSz_56, tSz_80, fOff_56_0, fOff_56_1, fOff_56_2, fOff_56_3, fOff_82_0, fOff_82_1, ixK_22, ixK_25, ixK_32, ixK_45, ixK_50, ixK_52, isSl_22, isSl_32, isSl_45, isSl_50, isSl_52, slT_22, slT_32, slT_45, slT_50, slT_52, zeroA_25, zeroA_56, cvK_3_23, cvK_23_47, cvK_47_3, cvK_47_23, ldO_1, ldO_ag, S34, h0, h1, h2, Nd.v]
  refine Br_dec (fun g1 => ?_) (fun g1 => ?_) <;> simp -implicitDefEqProofs only [↓WS_skip, ↓WS_reg, ↓WS_regL, ↓WS_seq, ↓WS_cond, ↓WS_block, ↓WS_exit, ↓WS_ret, ↓UN_WL, ↓UN_Z, ↓UN_S, XB_eq, ↓wpo_nil, ↓wpo_guard, upO_some, upO_none, up_get, ope_tmp, ope_const, ope_func, ofV_int, ofV_bool, ofV_nilsl, ofV_nilp, ofV_nilm, ofV_agg, ofV1_int, ofV1_bool, ↓wp_call, ↓wp_move, ↓wp_assign, ↓wp_pick, pick_true, pick_false, pick_bool, ↓wp_load, ↓wp_store, ↓wp_nilCheck, nilCk_ptr, ↓wp_extract, extr0, extr1, extr2, ↓wp_alloc, ↓wp_box, alloc_some, ↓wp_build, ↓wp_buildSlice, ↓wp_binOp, ↓wp_unOp, ↓wp_convert, ↓wp_makeMap, ↓wp_makeSlice, ↓wp_slice, ↓wp_fieldAddr, ↓wp_field, ↓wp_indexAddr, ↓wp_index, ↓wp_lookup, ↓wp_mapUpdate, ↓wp_insert, ↓wp_len, ↓wp_append, ↓wp_min, PS_some, ES_some, HS_some, Br_true, Br_false, Br_not, BrV_bool, Gd_bool_true, Gd_bool_false, Gd_tup, bin_add, bin_sub, bin_mul, bin_and, bin_or, bin_xor, bin_eql, bin_neq, bin_lss, bin_leq, bin_gtr, bin_geq, un_not, un_neg, conv_int, loadP_ptr, storeP_ptr, fieldAddr_ptr, indexAddr_eq, hp_get, hp_get0, hp_set, hp_set0, cells_agg, cells_int, cells_bool, cells_nilsl, putAll_nil, putAll_cons, one_int, one_bool, dead_agg, dead_int, List.append_assoc, List.cons_append, List.nil_append, List.length_append, List.length_cons, List.length_nil, Nat.zero_add, Nat.add_zero, Nat.reduceAdd, Nat.reduceEqDiff, ↓reduceIte, Option.map_some, Option.some.injEq, List.map_cons, List.map_nil, List.getElem?_cons_zero, List.getElem?_cons_succ, decide_not, decide_true, decide_false, Bool.not_true, Bool.not_false, Bool.false_eq_true, Fin1, Fin2, Fin3, FinC, FinC2, GotV_some, box_agg, box_int, box_bool, Nat.reduceLT, Nat.reduceLeDiff, Nat.zero_le, stO_cells, List.all_cons, List.all_nil, Bool.and_self, Bool.and_true, List.set_cons_zero, List.set_cons_succ, List.drop_zero, List.drop_succ_cons, List.take_succ_cons, List.take_zero, List.take_nil, Int.reduceEq, Nat.le_refl, X_P, shape_3, shape_4, shape_22, shape_23, shape_25, shape_47, shape_56, shape_80, tSz_3, tSz_4, tSz_22, tSz_23, tSz_25, tSz_32, tSz_45, tSz_47, tSz_50, tSz_52, tSz_56, tSz_80, fOff_56_0, fOff_56_1, fOff_56_2, fOff_56_3, fOff_82_0, fOff_82_1, ixK_22, ixK_25, ixK_32, ixK_45, ixK_50, ixK_52, isSl_22, isSl_32, isSl_45, isSl_50, isSl_52, slT_22, slT_32, slT_45, slT_50, slT_52, zeroA_25, zeroA_56, cvK_3_23, cvK_23_47, cvK_47_3, cvK_47_23, ldO_1, ldO_ag, h0, h1, h2, g1]
  · refine ⟨?_, Ext.refl.app⟩
    simp only [valN, g1, if_true]
    rw [Int.toNat_of_nonneg k1]
  · refine Br_dec (fun g2 => ?_) (fun g2 => ?_)
    · have k3 := may_word hm g2
      have kn : n.k = ((n.k.toNat : Nat) : Int) := (Int.toNat_of_nonneg k1).symm
      have k4 : n.k.toNat < 16 := by omega
      have hix : ixO (some (false, 16, 1)) (.ptr rid 0 16) (.int .u32 n.k) = some (.ptr rid n.k.toNat 16) := by
        rw [ixO_arr k1 (by omega)]; simp
      have hg := hrc _ k4
      have hle : 16 ≤ rcs.length := by omega
      simp -implicitDefEqProofs only [↓WS_skip, ↓WS_reg, ↓WS_regL, ↓WS_seq, ↓WS_cond, ↓WS_block, ↓WS_exit, ↓WS_ret, ↓UN_WL, ↓UN_Z, ↓UN_S, XB_eq, ↓wpo_nil, ↓wpo_guard, upO_some, upO_none, up_get, ope_tmp, ope_const, ope_func, ofV_int, ofV_bool, ofV_nilsl, ofV_nilp, ofV_nilm, ofV_agg, ofV1_int, ofV1_bool, ↓wp_call, ↓wp_move, ↓wp_assign, ↓wp_pick, pick_true, pick_false, pick_bool, ↓wp_load, ↓wp_store, ↓wp_nilCheck, nilCk_ptr, ↓wp_extract, extr0, extr1, extr2, ↓wp_alloc, ↓wp_box, alloc_some, ↓wp_build, ↓wp_buildSlice, ↓wp_binOp, ↓wp_unOp, ↓wp_convert, ↓wp_makeMap, ↓wp_makeSlice, ↓wp_slice, ↓wp_fieldAddr, ↓wp_field, ↓wp_indexAddr, ↓wp_index, ↓wp_lookup, ↓wp_mapUpdate, ↓wp_insert, ↓wp_len, ↓wp_append, ↓wp_min, PS_some, ES_some, HS_some, Br_true, Br_false, Br_not, BrV_bool, Gd_bool_true, Gd_bool_false, Gd_tup, bin_add, bin_sub, bin_mul, bin_and, bin_or, bin_xor, bin_eql, bin_neq, bin_lss, bin_leq, bin_gtr, bin_geq, un_not, un_neg, conv_int, loadP_ptr, storeP_ptr, fieldAddr_ptr, indexAddr_eq, hp_get, hp_get0, hp_set, hp_set0, cells_agg, cells_int, cells_bool, cells_nilsl, putAll_nil, putAll_cons, one_int, one_bool, dead_agg, dead_int, List.append_assoc, List.cons_append, List.nil_append, List.length_append, List.length_cons, List.length_nil, Nat.zero_add, Nat.add_zero, Nat.reduceAdd, Nat.reduceEqDiff, ↓reduceIte, Option.map_some, Option.some.injEq, List.map_cons, List.map_nil, List.getElem?_cons_zero, List.getElem?_cons_succ, decide_not, decide_true, decide_false, Bool.not_true, Bool.not_false, Bool.false_eq_true, Fin1, Fin2, Fin3, FinC, FinC2, GotV_some, box_agg, box_int, box_bool, Nat.reduceLT, Nat.reduceLeDiff, Nat.zero_le, stO_cells, List.all_cons, List.all_nil, Bool.and_self, Bool.and_true, List.set_cons_zero, List.set_cons_succ, List.drop_zero, List.drop_succ_cons, List.take_succ_cons, List.take_zero, List.take_nil, Int.reduceEq, Nat.le_refl, X_P, shape_3, shape_4, shape_22, shape_23, shape_25, shape_47, shape_56, shape_80, tSz_3, tSz_4, tSz_22, tSz_23, tSz_25, tSz_32, tSz_45, tSz_47, tSz_50, tSz_52, tSz_56, tSz_80, fOff_56_0, fOff_56_1, fOff_56_2, fOff_56_3, fOff_82_0, fOff_82_1, ixK_22, ixK_25, ixK_32, ixK_45, ixK_50, ixK_52, isSl_22, isSl_32, isSl_45, isSl_50, isSl_52, slT_22, slT_32, slT_45, slT_50, slT_52, zeroA_25, zeroA_56, cvK_3_23, cvK_23_47, cvK_47_3, cvK_47_23, ldO_1, ldO_ag, h0, h1, h2, g1, g2, hix, hr', hb, hle, k4, hg]
      refine ⟨?_, Ext.refl.app⟩
      simp only [valN, g1, g2, if_true, if_false]
      rfl
    · obtain ⟨m1, m2, m3, m4, m5, m6⟩ := may_alu hm g1 g2
      have an : n.a = ((n.a.toNat : Nat) : Int) := (Int.toNat_of_nonneg m3).symm
      have bn : n.b = ((n.b.toNat : Nat) : Int) := (Int.toNat_of_nonneg m5).symm
      have hla := hL n.a.toNat (by omega)
      have hlb := hL n.b.toNat (by omega)
      have lta : n.a.toNat < L.length := by rw [List.getElem?_eq_some_iff] at hla; exact hla.1
      have ltb : n.b.toNat < L.length := by rw [List.getElem?_eq_some_iff] at hlb; exact hlb.1
      have ixa := hS.ix (m := 0) (k := .i64) lta
      have ixb := hS.ix (m := 0) (k := .i64) ltb
      rw [← an] at ixa
      rw [← bn] at ixb
      have lda := fun l => hS.ld1 (H' := H ++ l) Ext.refl.app shape_23 hla
      have ldb := fun l => hS.ld1 (H' := H ++ l) Ext.refl.app shape_23 hlb
      have hop : IntKind.i64.wrap (n.op - 256) = n.op - 256 := by
        simp [alus] at m1
        rw [wrap64 (by omega) (by omega)]
      simp -implicitDefEqProofs only [↓WS_skip, ↓WS_reg, ↓WS_regL, ↓WS_seq, ↓WS_cond, ↓WS_block, ↓WS_exit, ↓WS_ret, ↓UN_WL, ↓UN_Z, ↓UN_S, XB_eq, ↓wpo_nil, ↓wpo_guard, upO_some, upO_none, up_get, ope_tmp, ope_const, ope_func, ofV_int, ofV_bool, ofV_nilsl, ofV_nilp, ofV_nilm, ofV_agg, ofV1_int, ofV1_bool, ↓wp_call, ↓wp_move, ↓wp_assign, ↓wp_pick, pick_true, pick_false, pick_bool, ↓wp_load, ↓wp_store, ↓wp_nilCheck, nilCk_ptr, ↓wp_extract, extr0, extr1, extr2, ↓wp_alloc, ↓wp_box, alloc_some, ↓wp_build, ↓wp_buildSlice, ↓wp_binOp, ↓wp_unOp, ↓wp_convert, ↓wp_makeMap, ↓wp_makeSlice, ↓wp_slice, ↓wp_fieldAddr, ↓wp_field, ↓wp_indexAddr, ↓wp_index, ↓wp_lookup, ↓wp_mapUpdate, ↓wp_insert, ↓wp_len, ↓wp_append, ↓wp_min, PS_some, ES_some, HS_some, Br_true, Br_false, Br_not, BrV_bool, Gd_bool_true, Gd_bool_false, Gd_tup, bin_add, bin_sub, bin_mul, bin_and, bin_or, bin_xor, bin_eql, bin_neq, bin_lss, bin_leq, bin_gtr, bin_geq, un_not, un_neg, conv_int, loadP_ptr, storeP_ptr, fieldAddr_ptr, indexAddr_eq, hp_get, hp_get0, hp_set, hp_set0, cells_agg, cells_int, cells_bool, cells_nilsl, putAll_nil, putAll_cons, one_int, one_bool, dead_agg, dead_int, List.append_assoc, List.cons_append, List.nil_append, List.length_append, List.length_cons, List.length_nil, Nat.zero_add, Nat.add_zero, Nat.reduceAdd, Nat.reduceEqDiff, ↓reduceIte, Option.map_some, Option.some.injEq, List.map_cons, List.map_nil, List.getElem?_cons_zero, List.getElem?_cons_succ, decide_not, decide_true, decide_false, Bool.not_true, Bool.not_false, Bool.false_eq_true, Fin1, Fin2, Fin3, FinC, FinC2, GotV_some, box_agg, box_int, box_bool, Nat.reduceLT, Nat.reduceLeDiff, Nat.zero_le, stO_cells, List.all_cons, List.all_nil, Bool.and_self, Bool.and_true, List.set_cons_zero, List.set_cons_succ, List.drop_zero, List.drop_succ_cons, List.take_succ_cons, List.take_zero, List.take_nil, Int.reduceEq, Nat.le_refl, X_P, shape_3, shape_4, shape_22, shape_23, shape_25, shape_47, shape_56, shape_80, tSz_3, tSz_4, tSz_22, tSz_23, tSz_25, tSz_32, tSz_45, tSz_47, tSz_50, tSz_52, tSz_56, tSz_80, fOff_56_0, fOff_56_1, fOff_56_2, fOff_56_3, fOff_82_0, fOff_82_1, ixK_22, ixK_25, ixK_32, ixK_45, ixK_50, ixK_52, isSl_22, isSl_32, isSl_45, isSl_50, isSl_52, slT_22, slT_32, slT_45, slT_50, slT_52, zeroA_25, zeroA_56, cvK_3_23, cvK_23_47, cvK_47_3, cvK_47_23, ldO_1, ldO_ag, h0, h1, h2, g1, g2, ixa, ixb, lda, ldb, hop]
      refine CS_fn (alu_spec _ _ _ _ (hd _) (hd _)) ?_
      rintro _ H2 ⟨rfl, rfl⟩
      simp -implicitDefEqProofs only [↓WS_skip, ↓WS_reg, ↓WS_regL, ↓WS_seq, ↓WS_cond, ↓WS_block, ↓WS_exit, ↓WS_ret, ↓UN_WL, ↓UN_Z, ↓UN_S, XB_eq, ↓wpo_nil, ↓wpo_guard, upO_some, upO_none, up_get, ope_tmp, ope_const, ope_func, ofV_int, ofV_bool, ofV_nilsl, ofV_nilp, ofV_nilm, ofV_agg, ofV1_int, ofV1_bool, ↓wp_call, ↓wp_move, ↓wp_assign, ↓wp_pick, pick_true, pick_false, pick_bool, ↓wp_load, ↓wp_store, ↓wp_nilCheck, nilCk_ptr, ↓wp_extract, extr0, extr1, extr2, ↓wp_alloc, ↓wp_box, alloc_some, ↓wp_build, ↓wp_buildSlice, ↓wp_binOp, ↓wp_unOp, ↓wp_convert, ↓wp_makeMap, ↓wp_makeSlice, ↓wp_slice, ↓wp_fieldAddr, ↓wp_field, ↓wp_indexAddr, ↓wp_index, ↓wp_lookup, ↓wp_mapUpdate, ↓wp_insert, ↓wp_len, ↓wp_append, ↓wp_min, PS_some, ES_some, HS_some, Br_true, Br_false, Br_not, BrV_bool, Gd_bool_true, Gd_bool_false, Gd_tup, bin_add, bin_sub, bin_mul, bin_and, bin_or, bin_xor, bin_eql, bin_neq, bin_lss, bin_leq, bin_gtr, bin_geq, un_not, un_neg, conv_int, loadP_ptr, storeP_ptr, fieldAddr_ptr, indexAddr_eq, hp_get, hp_get0, hp_set, hp_set0, cells_agg, cells_int, cells_bool, cells_nilsl, putAll_nil, putAll_cons, one_int, one_bool, dead_agg, dead_int, List.append_assoc, List.cons_append, List.nil_append, List.length_append, List.length_cons, List.length_nil, Nat.zero_add, Nat.add_zero, Nat.reduceAdd, Nat.reduceEqDiff, ↓reduceIte, Option.map_some, Option.some.injEq, List.map_cons, List.map_nil, List.getElem?_cons_zero, List.getElem?_cons_succ, decide_not, decide_true, decide_false, Bool.not_true, Bool.not_false, Bool.false_eq_true, Fin1, Fin2, Fin3, FinC, FinC2, GotV_some, box_agg, box_int, box_bool, Nat.reduceLT, Nat.reduceLeDiff, Nat.zero_le, stO_cells, List.all_cons, List.all_nil, Bool.and_self, Bool.and_true, List.set_cons_zero, List.set_cons_succ, List.drop_zero, List.drop_succ_cons, List.take_succ_cons, List.take_zero, List.take_nil, Int.reduceEq, Nat.le_refl, X_P, shape_3, shape_4, shape_22, shape_23, shape_25, shape_47, shape_56, shape_80, tSz_3, tSz_4, tSz_22, tSz_23, tSz_25, tSz_32, tSz_45, tSz_47, tSz_50, tSz_52, tSz_56, tSz_80, fOff_56_0, fOff_56_1, fOff_56_2, fOff_56_3, fOff_82_0, fOff_82_1, ixK_22, ixK_25, ixK_32, ixK_45, ixK_50, ixK_52, isSl_22, isSl_32, isSl_45, isSl_50, isSl_52, slT_22, slT_32, slT_45, slT_50, slT_52, zeroA_25, zeroA_56, cvK_3_23, cvK_23_47, cvK_47_3, cvK_47_23, ldO_1, ldO_ag]
      refine ⟨?_, Ext.refl.app⟩
      simp only [valN, g1, g2, if_false]
end Go.Va
