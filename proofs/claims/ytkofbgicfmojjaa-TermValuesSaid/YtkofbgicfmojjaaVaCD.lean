/- Contracts: reckoning with words. -/
import Derived.Test.YtkofbgicfmojjaaVaCC
set_option linter.unusedSimpArgs false
set_option linter.unusedVariables false
set_option linter.unusedSectionVars false
namespace Go.Va
open Go.Proofs

def aluN (op : Int) (a b : Nat) : Nat × Bool :=
  if op = 0 then ((a + b) % 4294967296, true)
  else if op = 16 then ((a + 4294967296 - b) % 4294967296, true)
  else if op = 32 then ((a * b) % 4294967296, true)
  else if op = 48 then (if b = 0 then (0, false) else (a / b, true))
  else if op = 64 then (a ||| b, true)
  else if op = 80 then (a &&& b, true)
  else if op = 96 then ((a * 2 ^ (b % 32)) % 4294967296, true)
  else if op = 112 then (a / 2 ^ (b % 32), true)
  else if op = 128 then ((4294967296 - a) % 4294967296, true)
  else if op = 160 then (a ^^^ b, true)
  else (0, false)

theorem u32w (n : Int) : IntKind.u32.wrap n = n % 4294967296 := IntKind.wrap_u32 n
theorem u32_ofInt {a : Nat} (h : a < 4294967296) : (BitVec.ofInt IntKind.u32.bits (a : Int)).toNat = a := by
  show (BitVec.ofInt 32 (a : Int)).toNat = a
  rw [BitVec.ofInt_natCast, BitVec.toNat_ofNat]
  exact Nat.mod_eq_of_lt h
theorem u32_or {a b : Nat} (ha : a < 4294967296) (hb : b < 4294967296) : IntKind.u32.wrap ((BitVec.ofInt IntKind.u32.bits (a : Int) ||| BitVec.ofInt IntKind.u32.bits (b : Int)).toNat : Nat) = ((a ||| b : Nat) : Int) := by
  rw [u32w, BitVec.toNat_or, u32_ofInt ha, u32_ofInt hb]
  have : a ||| b < 2 ^ 32 := Nat.or_lt_two_pow ha hb
  omega
theorem u32_and {a b : Nat} (ha : a < 4294967296) (hb : b < 4294967296) : IntKind.u32.wrap ((BitVec.ofInt IntKind.u32.bits (a : Int) &&& BitVec.ofInt IntKind.u32.bits (b : Int)).toNat : Nat) = ((a &&& b : Nat) : Int) := by
  rw [u32w, BitVec.toNat_and, u32_ofInt ha, u32_ofInt hb]
  have : a &&& b < 2 ^ 32 := Nat.and_lt_two_pow _ hb
  omega
theorem u32_xor {a b : Nat} (ha : a < 4294967296) (hb : b < 4294967296) : IntKind.u32.wrap ((BitVec.ofInt IntKind.u32.bits (a : Int) ^^^ BitVec.ofInt IntKind.u32.bits (b : Int)).toNat : Nat) = ((a ^^^ b : Nat) : Int) := by
  rw [u32w, BitVec.toNat_xor, u32_ofInt ha, u32_ofInt hb]
  have : a ^^^ b < 2 ^ 32 := Nat.xor_lt_two_pow ha hb
  omega
theorem u32_and31 {b : Nat} (hb : b < 4294967296) : IntKind.u32.wrap ((BitVec.ofInt IntKind.u32.bits (b : Int) &&& BitVec.ofInt IntKind.u32.bits 31).toNat : Nat) = ((b % 32 : Nat) : Int) := by
  have h := u32_and hb (b := 31) (by decide)
  have e : b &&& 31 = b % 32 := Nat.and_two_pow_sub_one_eq_mod b 5
  rw [e] at h; exact h

theorem u32_add {a b : Nat} : IntKind.u32.wrap ((a : Int) + b) = ((a + b) % 4294967296 : Nat) := by rw [u32w]; omega
theorem u32_sub {a b : Nat} (hb : b < 4294967296) : IntKind.u32.wrap ((a : Int) - b) = ((a + 4294967296 - b) % 4294967296 : Nat) := by rw [u32w]; omega
theorem u32_mul {a b : Nat} : IntKind.u32.wrap ((a : Int) * b) = ((a * b) % 4294967296 : Nat) := by
  rw [u32w, ← Int.natCast_mul]; omega
theorem u32_quo {a b : Nat} (ha : a < 4294967296) : IntKind.u32.wrap ((a : Int).tdiv b) = (a / b : Nat) := by
  rw [u32w, ← Int.ofNat_tdiv]
  have := Nat.div_le_self a b
  obtain ⟨q, hq⟩ : ∃ q, q = a / b := ⟨_, rfl⟩
  rw [← hq] at this ⊢
  omega
theorem min32 {b : Nat} : min ((b % 32 : Nat) : Int).toNat IntKind.u32.bits = b % 32 := by
  rw [Int.toNat_natCast]
  show min (b % 32) 32 = b % 32
  omega
theorem u32_shl {a b : Nat} : IntKind.u32.wrap ((a : Int) * 2 ^ (b % 32)) = ((a * 2 ^ (b % 32)) % 4294967296 : Nat) := by
  rw [u32w]
  have : (a : Int) * 2 ^ (b % 32) = ((a * 2 ^ (b % 32) : Nat) : Int) := by rw [Int.natCast_mul, Int.natCast_pow]; rfl
  rw [this]; omega
theorem nat_shr {a n : Nat} : (a : Int).fdiv (2 ^ n) = (a / 2 ^ n : Nat) := by
  have : (2 : Int) ^ n = ((2 ^ n : Nat) : Int) := by rw [Int.natCast_pow]; rfl
  rw [this, Int.fdiv_eq_ediv_of_nonneg _ (Int.natCast_nonneg _)]; rfl
theorem u32_neg {a : Nat} (ha : a < 4294967296) : IntKind.u32.wrap (0 - (a : Int)) = ((4294967296 - a) % 4294967296 : Nat) := by rw [u32w]; omega

theorem alu_spec (op : Int) (a b : Nat) (H : Heap) (ha : a < 4294967296) (hb : b < 4294967296) : F X 43 [.int .i64 op, .int .u32 a, .int .u32 b] H (fun r H' => r = .tup [.int .u32 (aluN op a b).1, .bool (aluN op a b).2] ∧ H' = H) := by
  refine F_slim S43_eq rfl fun ρ hρ => ?_
  simp only [AGs] at hρ
  obtain ⟨h0, h1, h2, -⟩ := hρ
  simp -implicitDefEqProofs only [↓WS_skip, ↓WS_reg, ↓WS_regL, ↓WS_seq, ↓WS_cond, ↓WS_block, ↓WS_exit, ↓WS_ret, ↓UN_WL, ↓UN_Z, ↓UN_S, XB_eq, ↓wpo_nil, ↓wpo_guard, upO_some, upO_none, up_get, ope_tmp, ope_const, ope_func, ofV_int, ofV_bool, ofV_nilsl, ofV_nilp, ofV_nilm, ofV_agg, ofV1_int, ofV1_bool, ↓wp_call, ↓wp_move, ↓wp_assign, ↓wp_pick, pick_true, pick_false, pick_bool, ↓wp_load, ↓wp_store, ↓wp_nilCheck, nilCk_ptr, ↓wp_extract, extr0, extr1, extr2, ↓wp_alloc, ↓wp_box, alloc_some, ↓wp_build, ↓wp_buildSlice, ↓wp_binOp, ↓wp_unOp, ↓wp_convert, ↓wp_makeMap, ↓wp_makeSlice, ↓wp_slice, ↓wp_fieldAddr, ↓wp_field, ↓wp_indexAddr, ↓wp_index, ↓wp_lookup, ↓wp_mapUpdate, ↓wp_insert, ↓wp_len, ↓wp_append, ↓wp_min, PS_some, ES_some, HS_some, Br_true, Br_false, Br_not, BrV_bool, Gd_bool_true, Gd_bool_false, Gd_tup, bin_add, bin_sub, bin_mul, bin_and, bin_or, bin_xor, bin_eql, bin_neq, bin_lss, bin_leq, bin_gtr, bin_geq, un_not, un_neg, conv_int, loadP_ptr, storeP_ptr, fieldAddr_ptr, indexAddr_eq, hp_get, hp_get0, hp_set, hp_set0, cells_agg, cells_int, cells_bool, cells_nilsl, putAll_nil, putAll_cons, one_int, one_bool, dead_agg, dead_int, List.append_assoc, List.cons_append, List.nil_append, List.length_append, List.length_cons, List.length_nil, Nat.zero_add, Nat.add_zero, Nat.reduceAdd, Nat.reduceEqDiff, ↓reduceIte, Option.map_some, Option.some.injEq, List.map_cons, List.map_nil, List.getElem?_cons_zero, List.getElem?_cons_succ, decide_not, decide_true, decide_false, Bool.not_true, Bool.not_false, Bool.false_eq_true, Fin1, Fin2, Fin3, FinC, FinC2, GotV_some, box_agg, box_int, box_bool, Nat.reduceLT, Nat.reduceLeDiff, Nat.zero_le, stO_cells, List.all_cons, List.all_nil, Bool.and_self, Bool.and_true, List.set_cons_zero, List.set_cons_succ, List.drop_zero, List.drop_succ_cons, List.take_succ_cons, List.take_zero, List.take_nil, Int.reduceEq, Nat.le_refl, X_P, shape_3, shape_4, shape_22, shape_23, shape_25, shape_47, shape_56, shape_80, tSz_3, tSz_4, tSz_22, tSz_23, tSz_25, tSz_32, tSz_45, tSz_47, tSz_50, tSz_52, tSz_56, tSz_80, fOff_56_0, fOff_56_1, fOff_56_2, fOff_56_3, fOff_82_0, fOff_82_1, ixK_22, ixK_25, ixK_32, ixK_45, ixK_50, ixK_52, isSl_22, isSl_32, isSl_45, isSl_50, isSl_52, slT_22, slT_32, slT_45, slT_50, slT_52, zeroA_25, zeroA_56, cvK_3_23, cvK_23_47, cvK_47_3, cvK_47_23, ldO_1, ldO_ag, S43, h0, h1, h2]
  iterate 12 (all_goals (try (refine Br_dec (fun h => ?_) (fun h => ?_) <;> simp -implicitDefEqProofs only [↓WS_skip, ↓WS_reg, ↓WS_regL, ↓WS_seq, ↓WS_cond, ↓WS_block, ↓WS_exit, ↓WS_ret, ↓UN_WL, ↓UN_Z, ↓UN_S, XB_eq, ↓wpo_nil, ↓wpo_guard, upO_some, upO_none, up_get, ope_tmp, ope_const, ope_func, ofV_int, ofV_bool, ofV_nilsl, ofV_nilp, ofV_nilm, ofV_agg, ofV1_int, ofV1_bool, ↓wp_call, ↓wp_move, ↓wp_assign, ↓wp_pick, pick_true, pick_false, pick_bool, ↓wp_load, ↓wp_store, ↓wp_nilCheck, nilCk_ptr, ↓wp_extract, extr0, extr1, extr2, ↓wp_alloc, ↓wp_box, alloc_some, ↓wp_build, ↓wp_buildSlice, ↓wp_binOp, ↓wp_unOp, ↓wp_convert, ↓wp_makeMap, ↓wp_makeSlice, ↓wp_slice, ↓wp_fieldAddr, ↓wp_field, ↓wp_indexAddr, ↓wp_index, ↓wp_lookup, ↓wp_mapUpdate, ↓wp_insert, ↓wp_len, ↓wp_append, ↓wp_min, PS_some, ES_some, HS_some, Br_true, Br_false, Br_not, BrV_bool, Gd_bool_true, Gd_bool_false, Gd_tup, bin_add, bin_sub, bin_mul, bin_and, bin_or, bin_xor, bin_eql, bin_neq, bin_lss, bin_leq, bin_gtr, bin_geq, un_not, un_neg, conv_int, loadP_ptr, storeP_ptr, fieldAddr_ptr, indexAddr_eq, hp_get, hp_get0, hp_set, hp_set0, cells_agg, cells_int, cells_bool, cells_nilsl, putAll_nil, putAll_cons, one_int, one_bool, dead_agg, dead_int, List.append_assoc, List.cons_append, List.nil_append, List.length_append, List.length_cons, List.length_nil, Nat.zero_add, Nat.add_zero, Nat.reduceAdd, Nat.reduceEqDiff, ↓reduceIte, Option.map_some, Option.some.injEq, List.map_cons, List.map_nil, List.getElem?_cons_zero, List.getElem?_cons_succ, decide_not, decide_true, decide_false, Bool.not_true, Bool.not_false, Bool.false_eq_true, Fin1, Fin2, Fin3, FinC, FinC2, GotV_some, box_agg, box_int, box_bool, Nat.reduceLT, Nat.reduceLeDiff, Nat.zero_le, stO_cells, List.all_cons, List.all_nil, Bool.and_self, Bool.and_true, List.set_cons_zero, List.set_cons_succ, List.drop_zero, List.drop_succ_cons, List.take_succ_cons, List.take_zero, List.take_nil, Int.reduceEq, Nat.le_refl, X_P, shape_3, shape_4, shape_22, shape_23, shape_25, shape_47, shape_56, shape_80, tSz_3, tSz_4, tSz_22, tSz_23, tSz_25, tSz_32, tSz_45, tSz_47, tSz_50, tSz_52, tSz_56, tSz_80, fOff_56_0, fOff_56_1, fOff_56_2, fOff_56_3, fOff_82_0, fOff_82_1, ixK_22, ixK_25, ixK_32, ixK_45, ixK_50, ixK_52, isSl_22, isSl_32, isSl_45, isSl_50, isSl_52, slT_22, slT_32, slT_45, slT_50, slT_52, zeroA_25, zeroA_56, cvK_3_23, cvK_23_47, cvK_47_3, cvK_47_23, ldO_1, ldO_ag, h0, h1, h2, h, bin_quo, bin_shl, bin_shr, u32_or ha hb, u32_and ha hb, u32_xor ha hb, u32_and31 hb, Int.natCast_nonneg, u32_add, u32_sub hb, u32_mul, u32_quo ha, min32, u32_shl, nat_shr, u32_neg ha, ne_eq, not_false_eq_true])))
  all_goals (refine ⟨?_, trivial⟩)
  all_goals (first | (simp [aluN, *]; done) | (have h' : b = 0 := by omega
                                               simp [aluN, h']; done) | (have h' : ¬ b = 0 := by omega
                                                                         simp [aluN, h']; done))
end Go.Va
