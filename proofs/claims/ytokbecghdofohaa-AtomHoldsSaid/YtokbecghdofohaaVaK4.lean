/- Part 4 of the proof: TY XD XB CA AW CB CC CD CE CF CG CH CI CJ CK CL CM CN CO CP CQ CR CS CT CU CV CW CX CY CZ PA CZa PB PI PC. -/
import Derived.KernelRfl
import Derived.Test.YtokbecghdofohaaProg
import Derived.Laws.BitsLemmas
import Derived.Test.YtokbecghdofohaaVaK3
section
namespace Go.Va
open Go.Proofs

theorem shape_3 : shape Try.prog 3 = some (false, 1) := by kernel_rfl
theorem shape_4 : shape Try.prog 4 = some (false, 1) := by kernel_rfl
theorem shape_22 : shape Try.prog 22 = some (false, 1) := by kernel_rfl
theorem shape_24 : shape Try.prog 24 = some (true, 4) := by kernel_rfl
theorem shape_25 : shape Try.prog 25 = some (false, 1) := by kernel_rfl
theorem shape_27 : shape Try.prog 27 = some (true, 16) := by kernel_rfl
theorem shape_30 : shape Try.prog 30 = some (false, 1) := by kernel_rfl
theorem shape_40 : shape Try.prog 40 = some (false, 1) := by kernel_rfl
theorem shape_47 : shape Try.prog 47 = some (true, 2) := by kernel_rfl
theorem shape_52 : shape Try.prog 52 = some (true, 4) := by kernel_rfl
theorem shape_82 : shape Try.prog 82 = some (false, 1) := by kernel_rfl
theorem shape_101 : shape Try.prog 101 = some (true, 4) := by kernel_rfl
theorem shape_116 : shape Try.prog 116 = some (false, 1) := by kernel_rfl
theorem tSz_3 : tSz Try.prog 3 = some 1 := by kernel_rfl
theorem tSz_4 : tSz Try.prog 4 = some 1 := by kernel_rfl
theorem tSz_22 : tSz Try.prog 22 = some 1 := by kernel_rfl
theorem tSz_24 : tSz Try.prog 24 = some 4 := by kernel_rfl
theorem tSz_25 : tSz Try.prog 25 = some 1 := by kernel_rfl
theorem tSz_27 : tSz Try.prog 27 = some 16 := by kernel_rfl
theorem tSz_30 : tSz Try.prog 30 = some 1 := by kernel_rfl
theorem tSz_37 : tSz Try.prog 37 = some 1 := by kernel_rfl
theorem tSz_52 : tSz Try.prog 52 = some 4 := by kernel_rfl
theorem tSz_69 : tSz Try.prog 69 = some 1 := by kernel_rfl
theorem tSz_74 : tSz Try.prog 74 = some 1 := by kernel_rfl
theorem tSz_82 : tSz Try.prog 82 = some 1 := by kernel_rfl
theorem tSz_101 : tSz Try.prog 101 = some 4 := by kernel_rfl
theorem tSz_116 : tSz Try.prog 116 = some 1 := by kernel_rfl
theorem fOff_24_0 : fOff Try.prog 24 0 = some 0 := by kernel_rfl
theorem fOff_24_1 : fOff Try.prog 24 1 = some 1 := by kernel_rfl
theorem fOff_24_2 : fOff Try.prog 24 2 = some 2 := by kernel_rfl
theorem fOff_24_3 : fOff Try.prog 24 3 = some 3 := by kernel_rfl
theorem fOff_52_0 : fOff Try.prog 52 0 = some 0 := by kernel_rfl
theorem fOff_52_1 : fOff Try.prog 52 1 = some 1 := by kernel_rfl
theorem fOff_52_2 : fOff Try.prog 52 2 = some 2 := by kernel_rfl
theorem fOff_52_3 : fOff Try.prog 52 3 = some 3 := by kernel_rfl
theorem fOff_57_0 : fOff Try.prog 57 0 = some 0 := by kernel_rfl
theorem fOff_57_1 : fOff Try.prog 57 1 = some 1 := by kernel_rfl
theorem fOff_57_2 : fOff Try.prog 57 2 = some 2 := by kernel_rfl
theorem fOff_57_3 : fOff Try.prog 57 3 = some 3 := by kernel_rfl
theorem fOff_99_0 : fOff Try.prog 99 0 = some 0 := by kernel_rfl
theorem fOff_99_1 : fOff Try.prog 99 1 = some 1 := by kernel_rfl
theorem fOff_101_0 : fOff Try.prog 101 0 = some 0 := by kernel_rfl
theorem fOff_101_1 : fOff Try.prog 101 1 = some 1 := by kernel_rfl
theorem fOff_101_2 : fOff Try.prog 101 2 = some 2 := by kernel_rfl
theorem fOff_101_3 : fOff Try.prog 101 3 = some 3 := by kernel_rfl
theorem fOff_110_0 : fOff Try.prog 110 0 = some 0 := by kernel_rfl
theorem fOff_110_1 : fOff Try.prog 110 1 = some 1 := by kernel_rfl
theorem fOff_118_0 : fOff Try.prog 118 0 = some 0 := by kernel_rfl
theorem fOff_118_1 : fOff Try.prog 118 1 = some 1 := by kernel_rfl
theorem ixK_22 : ixK Try.prog 22 = some (true, 0, 4) := by kernel_rfl
theorem ixK_27 : ixK Try.prog 27 = some (false, 16, 1) := by kernel_rfl
theorem ixK_37 : ixK Try.prog 37 = some (true, 0, 1) := by kernel_rfl
theorem ixK_47 : ixK Try.prog 47 = some (false, 2, 1) := by kernel_rfl
theorem ixK_69 : ixK Try.prog 69 = some (true, 0, 1) := by kernel_rfl
theorem ixK_74 : ixK Try.prog 74 = some (true, 0, 1) := by kernel_rfl
theorem ixK_80 : ixK Try.prog 80 = some (true, 0, 1) := by kernel_rfl
theorem isSl_22 : isSl Try.prog 22 = true := by kernel_rfl
theorem isSl_37 : isSl Try.prog 37 = true := by kernel_rfl
theorem isSl_69 : isSl Try.prog 69 = true := by kernel_rfl
theorem isSl_74 : isSl Try.prog 74 = true := by kernel_rfl
theorem isSl_80 : isSl Try.prog 80 = true := by kernel_rfl
theorem slT_22 : slT Try.prog 22 = some (52, 4, 32, [.int .i64 0, .int .i64 0, .int .i64 0, .int .u32 0]) := by kernel_rfl
theorem slT_37 : slT Try.prog 37 = some (3, 1, 8, [.int .i64 0]) := by kernel_rfl
theorem slT_69 : slT Try.prog 69 = some (25, 1, 4, [.int .u32 0]) := by kernel_rfl
theorem slT_74 : slT Try.prog 74 = some (4, 1, 1, [.bool false]) := by kernel_rfl
theorem slT_80 : slT Try.prog 80 = some (82, 1, 8, [.int .u64 0]) := by kernel_rfl
theorem zeroA_24 : zeroA Try.prog 24 = some (.agg [.int .i64 0, .int .i64 0, .int .i64 0, .bool false]) := by kernel_rfl
theorem zeroA_27 : zeroA Try.prog 27 = some (.agg [.int .u32 0, .int .u32 0, .int .u32 0, .int .u32 0, .int .u32 0, .int .u32 0, .int .u32 0, .int .u32 0, .int .u32 0, .int .u32 0, .int .u32 0, .int .u32 0, .int .u32 0, .int .u32 0, .int .u32 0, .int .u32 0]) := by kernel_rfl
theorem zeroA_52 : zeroA Try.prog 52 = some (.agg [.int .i64 0, .int .i64 0, .int .i64 0, .int .u32 0]) := by kernel_rfl
theorem zeroA_101 : zeroA Try.prog 101 = some (.agg [.int .i64 0, .int .i64 0, .int .i64 0, .bool false]) := by kernel_rfl
theorem cvK_3_25 : cvK Try.prog 3 25 = some .u32 := by kernel_rfl
theorem cvK_25_82 : cvK Try.prog 25 82 = some .u64 := by kernel_rfl
theorem cvK_82_3 : cvK Try.prog 82 3 = some .i64 := by kernel_rfl
theorem cvK_82_25 : cvK Try.prog 82 25 = some .u32 := by kernel_rfl

end Go.Va
end

section
set_option linter.unusedSimpArgs false
set_option linter.unusedVariables false
set_option linter.unusedSectionVars false
namespace Go.Va
open Go.Proofs
noncomputable def X : Ctx := ⟨Try.prog, [(52, [true, true, true, true]), (24, [true, true, true, false])], [31, 17]⟩
theorem X_P : X.P = Try.prog := rfl
end Go.Va
end

section
namespace Go.Va
open Go.Proofs
set_option maxRecDepth 10000
theorem gP : (((((type_of% @WS_skip) ∧ (type_of% @WS_reg)) ∧ ((type_of% @WS_regL) ∧ ((type_of% @WS_seq) ∧ (type_of% @WS_cond)))) ∧ (((type_of% @WS_block) ∧ (type_of% @WS_exit)) ∧ ((type_of% @WS_ret) ∧ ((type_of% @UN_WL) ∧ (type_of% @UN_Z))))) ∧ ((((type_of% @UN_S) ∧ (type_of% @wpo_nil)) ∧ ((type_of% @wpo_guard) ∧ ((type_of% @wp_call) ∧ (type_of% @wp_move)))) ∧ (((type_of% @wp_assign) ∧ (type_of% @wp_pick)) ∧ ((type_of% @wp_load) ∧ ((type_of% @wp_store) ∧ (type_of% @wp_nilCheck)))))) ∧ (((((type_of% @wp_extract) ∧ (type_of% @wp_alloc)) ∧ ((type_of% @wp_box) ∧ ((type_of% @wp_build) ∧ (type_of% @wp_buildSlice)))) ∧ (((type_of% @wp_binOp) ∧ (type_of% @wp_unOp)) ∧ ((type_of% @wp_convert) ∧ ((type_of% @wp_makeMap) ∧ (type_of% @wp_makeSlice))))) ∧ ((((type_of% @wp_slice) ∧ (type_of% @wp_fieldAddr)) ∧ ((type_of% @wp_field) ∧ ((type_of% @wp_indexAddr) ∧ (type_of% @wp_index)))) ∧ (((type_of% @wp_lookup) ∧ ((type_of% @wp_mapUpdate) ∧ (type_of% @wp_insert))) ∧ ((type_of% @wp_len) ∧ ((type_of% @wp_append) ∧ (type_of% @wp_min)))))) := ⟨⟨⟨⟨⟨@WS_skip, @WS_reg⟩, ⟨@WS_regL, ⟨@WS_seq, @WS_cond⟩⟩⟩, ⟨⟨@WS_block, @WS_exit⟩, ⟨@WS_ret, ⟨@UN_WL, @UN_Z⟩⟩⟩⟩, ⟨⟨⟨@UN_S, @wpo_nil⟩, ⟨@wpo_guard, ⟨@wp_call, @wp_move⟩⟩⟩, ⟨⟨@wp_assign, @wp_pick⟩, ⟨@wp_load, ⟨@wp_store, @wp_nilCheck⟩⟩⟩⟩⟩, ⟨⟨⟨⟨@wp_extract, @wp_alloc⟩, ⟨@wp_box, ⟨@wp_build, @wp_buildSlice⟩⟩⟩, ⟨⟨@wp_binOp, @wp_unOp⟩, ⟨@wp_convert, ⟨@wp_makeMap, @wp_makeSlice⟩⟩⟩⟩, ⟨⟨⟨@wp_slice, @wp_fieldAddr⟩, ⟨@wp_field, ⟨@wp_indexAddr, @wp_index⟩⟩⟩, ⟨⟨@wp_lookup, ⟨@wp_mapUpdate, @wp_insert⟩⟩, ⟨@wp_len, ⟨@wp_append, @wp_min⟩⟩⟩⟩⟩⟩
theorem gQ : (((((((type_of% @XB_eq) ∧ (type_of% @upO_some)) ∧ ((type_of% @upO_none) ∧ ((type_of% @up_get) ∧ (type_of% @ope_tmp)))) ∧ (((type_of% @ope_const) ∧ ((type_of% @ope_func) ∧ (type_of% @ofV_int))) ∧ ((type_of% @ofV_bool) ∧ ((type_of% @ofV_nilsl) ∧ (type_of% @ofV_nilp))))) ∧ ((((type_of% @ofV_nilm) ∧ ((type_of% @ofV_agg) ∧ (type_of% @ofV1_int))) ∧ ((type_of% @ofV1_bool) ∧ ((type_of% @pick_true) ∧ (type_of% @pick_false)))) ∧ (((type_of% @pick_bool) ∧ ((type_of% @nilCk_ptr) ∧ (type_of% @extr0))) ∧ ((type_of% @extr1) ∧ ((type_of% @extr2) ∧ (type_of% @alloc_some)))))) ∧ (((((type_of% @PS_some) ∧ (type_of% @ES_some)) ∧ ((type_of% @HS_some) ∧ ((type_of% @Br_true) ∧ (type_of% @Br_false)))) ∧ (((type_of% @Br_not) ∧ ((type_of% @BrV_bool) ∧ (type_of% @Gd_bool_true))) ∧ ((type_of% @Gd_bool_false) ∧ ((type_of% @Gd_tup) ∧ (type_of% @bin_add))))) ∧ ((((type_of% @bin_sub) ∧ ((type_of% @bin_mul) ∧ (type_of% @bin_and))) ∧ ((type_of% @bin_or) ∧ ((type_of% @bin_xor) ∧ (type_of% @bin_eql)))) ∧ (((type_of% @bin_neq) ∧ ((type_of% @bin_lss) ∧ (type_of% @bin_leq))) ∧ ((type_of% @bin_gtr) ∧ ((type_of% @bin_geq) ∧ (type_of% @un_not))))))) ∧ ((((((type_of% @un_neg) ∧ (type_of% @conv_int)) ∧ ((type_of% @loadP_ptr) ∧ ((type_of% @storeP_ptr) ∧ (type_of% @fieldAddr_ptr)))) ∧ (((type_of% @indexAddr_eq) ∧ ((type_of% @hp_get) ∧ (type_of% @hp_get0))) ∧ ((type_of% @hp_set) ∧ ((type_of% @hp_set0) ∧ (type_of% @cells_agg))))) ∧ ((((type_of% @cells_int) ∧ ((type_of% @cells_bool) ∧ (type_of% @cells_nilsl))) ∧ ((type_of% @putAll_nil) ∧ ((type_of% @putAll_cons) ∧ (type_of% @one_int)))) ∧ (((type_of% @one_bool) ∧ ((type_of% @dead_agg) ∧ (type_of% @dead_int))) ∧ ((type_of% @List.append_assoc.{0}) ∧ ((type_of% @List.cons_append.{0}) ∧ (type_of% @List.nil_append.{0})))))) ∧ (((((type_of% @List.length_append.{0}) ∧ ((type_of% @List.length_cons.{0}) ∧ (type_of% @List.length_nil.{0}))) ∧ ((type_of% @Nat.zero_add) ∧ ((type_of% @Nat.add_zero) ∧ (type_of% @Option.map_some.{0,0})))) ∧ (((type_of% @Option.some.injEq.{0}) ∧ ((type_of% @List.map_cons.{0,0}) ∧ (type_of% @List.map_nil.{0,0}))) ∧ ((type_of% @List.getElem?_cons_zero.{0}) ∧ ((type_of% @List.getElem?_cons_succ.{0}) ∧ (type_of% @decide_not))))) ∧ ((((type_of% @decide_true) ∧ ((type_of% @decide_false) ∧ (type_of% @Bool.not_true))) ∧ ((type_of% @Bool.not_false) ∧ ((type_of% @Bool.false_eq_true) ∧ (type_of% @Fin1)))) ∧ (((type_of% @Fin2) ∧ ((type_of% @Fin3) ∧ (type_of% @FinC))) ∧ ((type_of% @FinC2) ∧ ((type_of% @GotV_some) ∧ (type_of% @box_agg)))))))) ∧ (((((((type_of% @box_int) ∧ (type_of% @box_bool)) ∧ ((type_of% @Nat.zero_le) ∧ ((type_of% @stO_cells) ∧ (type_of% @List.all_cons.{0})))) ∧ (((type_of% @List.all_nil.{0}) ∧ ((type_of% @Bool.and_self) ∧ (type_of% @Bool.and_true))) ∧ ((type_of% @List.set_cons_zero.{0}) ∧ ((type_of% @List.set_cons_succ.{0}) ∧ (type_of% @List.drop_zero.{0}))))) ∧ ((((type_of% @List.drop_succ_cons.{0}) ∧ ((type_of% @List.take_succ_cons.{0}) ∧ (type_of% @List.take_zero.{0}))) ∧ ((type_of% @List.take_nil.{0}) ∧ ((type_of% @Nat.le_refl) ∧ (type_of% @X_P)))) ∧ (((type_of% @shape_3) ∧ ((type_of% @shape_4) ∧ (type_of% @shape_22))) ∧ ((type_of% @shape_24) ∧ ((type_of% @shape_25) ∧ (type_of% @shape_27)))))) ∧ (((((type_of% @shape_30) ∧ (type_of% @shape_40)) ∧ ((type_of% @shape_47) ∧ ((type_of% @shape_52) ∧ (type_of% @shape_82)))) ∧ (((type_of% @shape_101) ∧ ((type_of% @shape_116) ∧ (type_of% @tSz_3))) ∧ ((type_of% @tSz_4) ∧ ((type_of% @tSz_22) ∧ (type_of% @tSz_24))))) ∧ ((((type_of% @tSz_25) ∧ ((type_of% @tSz_27) ∧ (type_of% @tSz_30))) ∧ ((type_of% @tSz_37) ∧ ((type_of% @tSz_52) ∧ (type_of% @tSz_69)))) ∧ (((type_of% @tSz_74) ∧ ((type_of% @tSz_82) ∧ (type_of% @tSz_101))) ∧ ((type_of% @tSz_116) ∧ ((type_of% @fOff_24_0) ∧ (type_of% @fOff_24_1))))))) ∧ ((((((type_of% @fOff_24_2) ∧ (type_of% @fOff_24_3)) ∧ ((type_of% @fOff_52_0) ∧ ((type_of% @fOff_52_1) ∧ (type_of% @fOff_52_2)))) ∧ (((type_of% @fOff_52_3) ∧ ((type_of% @fOff_57_0) ∧ (type_of% @fOff_57_1))) ∧ ((type_of% @fOff_57_2) ∧ ((type_of% @fOff_57_3) ∧ (type_of% @fOff_99_0))))) ∧ ((((type_of% @fOff_99_1) ∧ ((type_of% @fOff_101_0) ∧ (type_of% @fOff_101_1))) ∧ ((type_of% @fOff_101_2) ∧ ((type_of% @fOff_101_3) ∧ (type_of% @fOff_110_0)))) ∧ (((type_of% @fOff_110_1) ∧ ((type_of% @fOff_118_0) ∧ (type_of% @fOff_118_1))) ∧ ((type_of% @ixK_22) ∧ ((type_of% @ixK_27) ∧ (type_of% @ixK_37)))))) ∧ (((((type_of% @ixK_47) ∧ ((type_of% @ixK_69) ∧ (type_of% @ixK_74))) ∧ ((type_of% @ixK_80) ∧ ((type_of% @isSl_22) ∧ (type_of% @isSl_37)))) ∧ (((type_of% @isSl_69) ∧ ((type_of% @isSl_74) ∧ (type_of% @isSl_80))) ∧ ((type_of% @slT_22) ∧ ((type_of% @slT_37) ∧ (type_of% @slT_69))))) ∧ ((((type_of% @slT_74) ∧ ((type_of% @slT_80) ∧ (type_of% @zeroA_24))) ∧ ((type_of% @zeroA_27) ∧ ((type_of% @zeroA_52) ∧ (type_of% @zeroA_101)))) ∧ (((type_of% @cvK_3_25) ∧ ((type_of% @cvK_25_82) ∧ (type_of% @cvK_82_3))) ∧ ((type_of% @cvK_82_25) ∧ ((type_of% @ldO_1) ∧ (type_of% @ldO_ag)))))))) := ⟨⟨⟨⟨⟨⟨⟨@XB_eq, @upO_some⟩, ⟨@upO_none, ⟨@up_get, @ope_tmp⟩⟩⟩, ⟨⟨@ope_const, ⟨@ope_func, @ofV_int⟩⟩, ⟨@ofV_bool, ⟨@ofV_nilsl, @ofV_nilp⟩⟩⟩⟩, ⟨⟨⟨@ofV_nilm, ⟨@ofV_agg, @ofV1_int⟩⟩, ⟨@ofV1_bool, ⟨@pick_true, @pick_false⟩⟩⟩, ⟨⟨@pick_bool, ⟨@nilCk_ptr, @extr0⟩⟩, ⟨@extr1, ⟨@extr2, @alloc_some⟩⟩⟩⟩⟩, ⟨⟨⟨⟨@PS_some, @ES_some⟩, ⟨@HS_some, ⟨@Br_true, @Br_false⟩⟩⟩, ⟨⟨@Br_not, ⟨@BrV_bool, @Gd_bool_true⟩⟩, ⟨@Gd_bool_false, ⟨@Gd_tup, @bin_add⟩⟩⟩⟩, ⟨⟨⟨@bin_sub, ⟨@bin_mul, @bin_and⟩⟩, ⟨@bin_or, ⟨@bin_xor, @bin_eql⟩⟩⟩, ⟨⟨@bin_neq, ⟨@bin_lss, @bin_leq⟩⟩, ⟨@bin_gtr, ⟨@bin_geq, @un_not⟩⟩⟩⟩⟩⟩, ⟨⟨⟨⟨⟨@un_neg, @conv_int⟩, ⟨@loadP_ptr, ⟨@storeP_ptr, @fieldAddr_ptr⟩⟩⟩, ⟨⟨@indexAddr_eq, ⟨@hp_get, @hp_get0⟩⟩, ⟨@hp_set, ⟨@hp_set0, @cells_agg⟩⟩⟩⟩, ⟨⟨⟨@cells_int, ⟨@cells_bool, @cells_nilsl⟩⟩, ⟨@putAll_nil, ⟨@putAll_cons, @one_int⟩⟩⟩, ⟨⟨@one_bool, ⟨@dead_agg, @dead_int⟩⟩, ⟨@List.append_assoc.{0}, ⟨@List.cons_append.{0}, @List.nil_append.{0}⟩⟩⟩⟩⟩, ⟨⟨⟨⟨@List.length_append.{0}, ⟨@List.length_cons.{0}, @List.length_nil.{0}⟩⟩, ⟨@Nat.zero_add, ⟨@Nat.add_zero, @Option.map_some.{0,0}⟩⟩⟩, ⟨⟨@Option.some.injEq.{0}, ⟨@List.map_cons.{0,0}, @List.map_nil.{0,0}⟩⟩, ⟨@List.getElem?_cons_zero.{0}, ⟨@List.getElem?_cons_succ.{0}, @decide_not⟩⟩⟩⟩, ⟨⟨⟨@decide_true, ⟨@decide_false, @Bool.not_true⟩⟩, ⟨@Bool.not_false, ⟨@Bool.false_eq_true, @Fin1⟩⟩⟩, ⟨⟨@Fin2, ⟨@Fin3, @FinC⟩⟩, ⟨@FinC2, ⟨@GotV_some, @box_agg⟩⟩⟩⟩⟩⟩⟩, ⟨⟨⟨⟨⟨⟨@box_int, @box_bool⟩, ⟨@Nat.zero_le, ⟨@stO_cells, @List.all_cons.{0}⟩⟩⟩, ⟨⟨@List.all_nil.{0}, ⟨@Bool.and_self, @Bool.and_true⟩⟩, ⟨@List.set_cons_zero.{0}, ⟨@List.set_cons_succ.{0}, @List.drop_zero.{0}⟩⟩⟩⟩, ⟨⟨⟨@List.drop_succ_cons.{0}, ⟨@List.take_succ_cons.{0}, @List.take_zero.{0}⟩⟩, ⟨@List.take_nil.{0}, ⟨@Nat.le_refl, @X_P⟩⟩⟩, ⟨⟨@shape_3, ⟨@shape_4, @shape_22⟩⟩, ⟨@shape_24, ⟨@shape_25, @shape_27⟩⟩⟩⟩⟩, ⟨⟨⟨⟨@shape_30, @shape_40⟩, ⟨@shape_47, ⟨@shape_52, @shape_82⟩⟩⟩, ⟨⟨@shape_101, ⟨@shape_116, @tSz_3⟩⟩, ⟨@tSz_4, ⟨@tSz_22, @tSz_24⟩⟩⟩⟩, ⟨⟨⟨@tSz_25, ⟨@tSz_27, @tSz_30⟩⟩, ⟨@tSz_37, ⟨@tSz_52, @tSz_69⟩⟩⟩, ⟨⟨@tSz_74, ⟨@tSz_82, @tSz_101⟩⟩, ⟨@tSz_116, ⟨@fOff_24_0, @fOff_24_1⟩⟩⟩⟩⟩⟩, ⟨⟨⟨⟨⟨@fOff_24_2, @fOff_24_3⟩, ⟨@fOff_52_0, ⟨@fOff_52_1, @fOff_52_2⟩⟩⟩, ⟨⟨@fOff_52_3, ⟨@fOff_57_0, @fOff_57_1⟩⟩, ⟨@fOff_57_2, ⟨@fOff_57_3, @fOff_99_0⟩⟩⟩⟩, ⟨⟨⟨@fOff_99_1, ⟨@fOff_101_0, @fOff_101_1⟩⟩, ⟨@fOff_101_2, ⟨@fOff_101_3, @fOff_110_0⟩⟩⟩, ⟨⟨@fOff_110_1, ⟨@fOff_118_0, @fOff_118_1⟩⟩, ⟨@ixK_22, ⟨@ixK_27, @ixK_37⟩⟩⟩⟩⟩, ⟨⟨⟨⟨@ixK_47, ⟨@ixK_69, @ixK_74⟩⟩, ⟨@ixK_80, ⟨@isSl_22, @isSl_37⟩⟩⟩, ⟨⟨@isSl_69, ⟨@isSl_74, @isSl_80⟩⟩, ⟨@slT_22, ⟨@slT_37, @slT_69⟩⟩⟩⟩, ⟨⟨⟨@slT_74, ⟨@slT_80, @zeroA_24⟩⟩, ⟨@zeroA_27, ⟨@zeroA_52, @zeroA_101⟩⟩⟩, ⟨⟨@cvK_3_25, ⟨@cvK_25_82, @cvK_82_3⟩⟩, ⟨@cvK_82_25, ⟨@ldO_1, @ldO_ag⟩⟩⟩⟩⟩⟩⟩⟩
theorem gL : (((((type_of% @wpoL_nil) ∧ (type_of% @UN_ZL)) ∧ ((type_of% @UN_SL) ∧ (type_of% @wpoL_guard))) ∧ (((type_of% @wpL_call) ∧ (type_of% @wpL_move)) ∧ ((type_of% @wpL_assign) ∧ (type_of% @wpL_pick)))) ∧ ((((type_of% @wpL_load) ∧ (type_of% @wpL_store)) ∧ ((type_of% @wpL_nilCheck) ∧ (type_of% @wpL_extract))) ∧ (((type_of% @wpL_alloc) ∧ (type_of% @wpL_box)) ∧ ((type_of% @wpL_build) ∧ (type_of% @wpL_buildSlice))))) ∧ (((((type_of% @wpL_binOp) ∧ (type_of% @wpL_unOp)) ∧ ((type_of% @wpL_convert) ∧ (type_of% @wpL_makeMap))) ∧ (((type_of% @wpL_makeSlice) ∧ (type_of% @wpL_slice)) ∧ ((type_of% @wpL_fieldAddr) ∧ (type_of% @wpL_field)))) ∧ ((((type_of% @wpL_indexAddr) ∧ (type_of% @wpL_index)) ∧ ((type_of% @wpL_lookup) ∧ (type_of% @wpL_mapUpdate))) ∧ (((type_of% @wpL_insert) ∧ (type_of% @wpL_len)) ∧ ((type_of% @wpL_append) ∧ (type_of% @wpL_min))))) := ⟨⟨⟨⟨⟨@wpoL_nil, @UN_ZL⟩, ⟨@UN_SL, @wpoL_guard⟩⟩, ⟨⟨@wpL_call, @wpL_move⟩, ⟨@wpL_assign, @wpL_pick⟩⟩⟩, ⟨⟨⟨@wpL_load, @wpL_store⟩, ⟨@wpL_nilCheck, @wpL_extract⟩⟩, ⟨⟨@wpL_alloc, @wpL_box⟩, ⟨@wpL_build, @wpL_buildSlice⟩⟩⟩⟩, ⟨⟨⟨⟨@wpL_binOp, @wpL_unOp⟩, ⟨@wpL_convert, @wpL_makeMap⟩⟩, ⟨⟨@wpL_makeSlice, @wpL_slice⟩, ⟨@wpL_fieldAddr, @wpL_field⟩⟩⟩, ⟨⟨⟨@wpL_indexAddr, @wpL_index⟩, ⟨@wpL_lookup, @wpL_mapUpdate⟩⟩, ⟨⟨@wpL_insert, @wpL_len⟩, ⟨@wpL_append, @wpL_min⟩⟩⟩⟩⟩
theorem gM : (type_of% @PSL_some) ∧ ((type_of% @ESL_some) ∧ (type_of% @HSL_some)) := ⟨@PSL_some, ⟨@ESL_some, @HSL_some⟩⟩
end Go.Va
end

section
set_option linter.unusedSimpArgs false
set_option linter.unusedVariables false
set_option linter.unusedSectionVars false
namespace Go.Va
open Go.Proofs
def alus : List Int := [256, 272, 288, 304, 320, 336, 352, 368, 384, 416]

theorem reckons_spec (op : Int) (H : Heap) : F X 95 [.int .i64 op] H (fun v H' => v = .bool (decide (op ∈ alus)) ∧ H' = H) := by
  refine F_slim S95_eq rfl fun ρ hρ => ?_
  simp only [AGs] at hρ
  obtain ⟨h0, -⟩ := hρ
  simp -implicitDefEqProofs only [↓gP, gQ, ↓reduceIte, Nat.reduceAdd, Nat.reduceEqDiff, Nat.reduceLT, Nat.reduceLeDiff, Int.reduceEq, S95, h0]
  iterate 12 (all_goals (try (refine Br_dec (fun h => ?_) (fun h => ?_) <;> simp -implicitDefEqProofs only [↓gP, gQ, ↓reduceIte, Nat.reduceAdd, Nat.reduceEqDiff, Nat.reduceLT, Nat.reduceLeDiff, Int.reduceEq, h])))
  all_goals simp [alus, *]

structure Nd where
  op : Int
  a : Int
  b : Int
  k : Int
  deriving DecidableEq
def Nd.v (n : Nd) : AV := .agg [.int .i64 n.op, .int .i64 n.a, .int .i64 n.b, .int .u32 n.k]
def mayB (n : Nd) (at' : Int) : Bool :=
  if n.op = 1 then decide (n.a = 0 ∧ n.b = 0)
  else if n.op = 2 then decide (n.a = 0 ∧ n.b = 0 ∧ n.k < 16)
  else if n.op ∉ alus ∨ n.k ≠ 0 ∨ n.a < 0 ∨ at' ≤ n.a then false
  else if n.op = 384 then decide (n.b = 0)
  else decide (0 ≤ n.b ∧ n.b < at')

theorem may_spec (n : Nd) (at' : Int) (H : Heap) : F X 76 [n.v, .int .i64 at'] H (fun v H' => v = .bool (mayB n at') ∧ Ext H H') := by
  refine F_slim S76_eq rfl fun ρ hρ => ?_
  simp only [AGs] at hρ
  obtain ⟨h0, h1, -⟩ := hρ
  simp -implicitDefEqProofs only [↓gP, gQ, ↓reduceIte, Nat.reduceAdd, Nat.reduceEqDiff, Nat.reduceLT, Nat.reduceLeDiff, Int.reduceEq, S76, h0, h1, Nd.v]
  iterate 12 (all_goals (try (first
    | (refine Br_dec (fun h => ?_) (fun h => ?_) <;> simp -implicitDefEqProofs only [↓gP, gQ, ↓reduceIte, Nat.reduceAdd, Nat.reduceEqDiff, Nat.reduceLT, Nat.reduceLeDiff, Int.reduceEq, h0, h1, h])
    | (refine CS_fn (reckons_spec _ _) ?_; rintro _ _ ⟨rfl, rfl⟩; simp -implicitDefEqProofs only [↓gP, gQ, ↓reduceIte, Nat.reduceAdd, Nat.reduceEqDiff, Nat.reduceLT, Nat.reduceLeDiff, Int.reduceEq, h0, h1]))))
  all_goals (refine ⟨?_, Ext.refl.app⟩)
  all_goals (congr 1; unfold mayB)
  all_goals (first | (simp [*]; done) | (simp [alus, *]; done) | (simp [*]; omega) | (simp [alus, *]; omega))

theorem rmay_spec (n : Nd) (at' : Int) (H : Heap) : F X 77 [n.v, .int .i64 at'] H (fun v H' => v = .bool (mayB n at') ∧ Ext H H') := by
  refine F_slim S77_eq rfl fun ρ hρ => ?_
  simp only [AGs] at hρ
  obtain ⟨h0, h1, -⟩ := hρ
  simp -implicitDefEqProofs only [↓gP, gQ, ↓reduceIte, Nat.reduceAdd, Nat.reduceEqDiff, Nat.reduceLT, Nat.reduceLeDiff, Int.reduceEq, S77, h0, h1, Nd.v]
  iterate 20 (all_goals (try (refine Br_dec (fun h => ?_) (fun h => ?_) <;> simp -implicitDefEqProofs only [↓gP, gQ, ↓reduceIte, Nat.reduceAdd, Nat.reduceEqDiff, Nat.reduceLT, Nat.reduceLeDiff, Int.reduceEq, h0, h1, h])))
  all_goals (refine ⟨?_, Ext.refl.app⟩)
  all_goals (congr 1; unfold mayB)
  all_goals (first | (simp [alus, *]; done) | (simp [alus, *]; omega))

end Go.Va
end

section
set_option linter.unusedSimpArgs false
set_option linter.unusedVariables false
set_option linter.unusedSectionVars false
namespace Go.Va
open Go.Proofs
noncomputable def X0 : Ctx := { X with T := [] }
theorem X0_ok : X0.ok := ok_of (by kernel_rfl) (by kernel_rfl) (fun f h => by simp [X0] at h)
theorem awake_true1 : Truth X0.P 31 := truth_of X0_ok (n := 60) (by kernel_rfl)
theorem awake_true2 : Truth X0.P 17 := truth_of X0_ok (n := 60) (by kernel_rfl)
theorem X_ok : X.ok := ok_of (by kernel_rfl) (by kernel_rfl) (fun f h => by
  simp [X] at h
  rcases h with h | h
  · subst h; exact awake_true1
  · subst h; exact awake_true2)
end Go.Va
end

section
set_option linter.unusedSimpArgs false
set_option linter.unusedVariables false
set_option linter.unusedSectionVars false
namespace Go.Va
open Go.Proofs

def Nd.c (n : Nd) : List AV := [.int .i64 n.op, .int .i64 n.a, .int .i64 n.b, .int .u32 n.k]
theorem Nd.v_eq (n : Nd) : n.v = .agg n.c := rfl
theorem Nd.c_len (n : Nd) : n.c.length = 4 := rfl

def firstBad : List Nd → Nat → Option Nat
  | [], _ => none
  | n :: l, i => if mayB n i = true then firstBad l (i + 1) else some i
def checkP (l : List Nd) : Int × Int :=
  if 65536 < l.length then (0, 5) else match firstBad l 0 with
    | some i => (i, 3)
    | none => (0, 0)

theorem wrap64 {n : Int} (h1 : -9223372036854775808 ≤ n) (h2 : n < 9223372036854775808) : IntKind.i64.wrap n = n := by
  rw [IntKind.wrap_i64]; omega

theorem check_spec (l : List Nd) (v : AV) (H : Heap) (hS : Shows H v 4 (l.map Nd.c)) : F X 52 [v] H (fun r H' => r = .tup [.int .i64 (checkP l).1, .int .i64 (checkP l).2] ∧ Ext H H') := by
  refine F_slim S52_eq rfl fun ρ hρ => ?_
  simp only [AGs] at hρ
  obtain ⟨h0, -⟩ := hρ
  have hlen := hS.lenA isSl_22
  rw [List.length_map] at hlen
  simp -implicitDefEqProofs only [↓gP, gQ, ↓reduceIte, Nat.reduceAdd, Nat.reduceEqDiff, Nat.reduceLT, Nat.reduceLeDiff, Int.reduceEq, S52, h0, hlen]
  refine Br_dec (fun h => ?_) (fun h => ?_) <;> simp -implicitDefEqProofs only [↓gP, gQ, ↓reduceIte, Nat.reduceAdd, Nat.reduceEqDiff, Nat.reduceLT, Nat.reduceLeDiff, Int.reduceEq, h0, hlen]
  · refine ⟨?_, Ext.refl⟩
    have : 65536 < l.length := by omega
    simp [checkP, this]
  · refine loop_rule (fun k ρ' H' D' => ∃ i, k = l.length - i ∧ i ≤ l.length ∧ firstBad l 0 = firstBad (l.drop i) i ∧ ρ' 11 = .int .i64 i ∧ ρ' 10 = .int .i64 l.length ∧ ρ' 9 = v ∧ Ext H H' ∧ D' = []) l.length ⟨0, by simp, by simp, by simp, by simp only [up_get]; rfl, by simp only [up_get]; rfl, by simp only [up_get]; rfl, Ext.refl, rfl⟩ ?_
    rintro k ρ' H' D' ⟨i, hk, hi, hb, e11, e10, e9, hE, rfl⟩
    simp -implicitDefEqProofs only [↓gP, gQ, ↓reduceIte, Nat.reduceAdd, Nat.reduceEqDiff, Nat.reduceLT, Nat.reduceLeDiff, Int.reduceEq, S52L1, e11, e10, e9]
    refine Br_dec (fun h => ?_) (fun h => ?_)
    · have hi' : i < l.length := by omega
      have hx := hS.ix (m := 0) (k := .i64) (i := i) (by rw [List.length_map]; exact hi')
      have hl := hS.ld hE shape_52 (i := i) (by rw [List.length_map]; exact hi')
      rw [List.getElem_map] at hl
      simp -implicitDefEqProofs only [↓gP, gQ, ↓reduceIte, Nat.reduceAdd, Nat.reduceEqDiff, Nat.reduceLT, Nat.reduceLeDiff, Int.reduceEq, e11, e10, e9, hx, hl, Nd.c]
      refine CS_fn (may_spec l[i] i _) ?_
      rintro _ H2 ⟨rfl, hE2⟩
      simp -implicitDefEqProofs only [↓gP, gQ, ↓reduceIte, Nat.reduceAdd, Nat.reduceEqDiff, Nat.reduceLT, Nat.reduceLeDiff, Int.reduceEq, e11, e10, e9]
      have hE3 : Ext H H2 := hE.app.trans hE2
      have hd : firstBad (l.drop i) i = if mayB l[i] i = true then firstBad (l.drop (i + 1)) (i + 1) else some i := by
        rw [List.drop_eq_getElem_cons hi']; rfl
      refine Br_bool (fun hm => ?_) (fun hm => ?_)
      · simp -implicitDefEqProofs only [↓gP, gQ, ↓reduceIte, Nat.reduceAdd, Nat.reduceEqDiff, Nat.reduceLT, Nat.reduceLeDiff, Int.reduceEq, e11, e10, e9, hm]
        refine ⟨l.length - (i + 1), by omega, i + 1, rfl, hi', by rw [hb, hd, if_pos hm], ?_, by trivial, by trivial, hE3, by trivial⟩
        rw [wrap64 (by omega) (by omega)]; rfl
      · simp -implicitDefEqProofs only [↓gP, gQ, ↓reduceIte, Nat.reduceAdd, Nat.reduceEqDiff, Nat.reduceLT, Nat.reduceLeDiff, Int.reduceEq, e11, e10, e9, hm]
        refine ⟨?_, hE3⟩
        have : ¬ 65536 < l.length := by omega
        simp [checkP, this, hb, hd, hm]
    · simp -implicitDefEqProofs only [↓gP, gQ, ↓reduceIte, Nat.reduceAdd, Nat.reduceEqDiff, Nat.reduceLT, Nat.reduceLeDiff, Int.reduceEq, e11, e10, e9]
      refine ⟨?_, hE⟩
      have : i = l.length := by omega
      subst this
      have h' : ¬ 65536 < l.length := by omega
      simp [checkP, h', hb, firstBad]
end Go.Va
end

section
set_option linter.unusedSimpArgs false
set_option linter.unusedVariables false
set_option linter.unusedSectionVars false
namespace Go.Va
open Go.Proofs

theorem rcheck_spec (l : List Nd) (v : AV) (H : Heap) (hS : Shows H v 4 (l.map Nd.c)) : F X 55 [v] H (fun r H' => r = .tup [.int .i64 (checkP l).1, .int .i64 (checkP l).2] ∧ Ext H H') := by
  refine F_slim S55_eq rfl fun ρ hρ => ?_
  simp only [AGs] at hρ
  obtain ⟨h0, -⟩ := hρ
  have hlen := hS.lenA isSl_22
  rw [List.length_map] at hlen
  simp -implicitDefEqProofs only [↓gP, gQ, ↓reduceIte, Nat.reduceAdd, Nat.reduceEqDiff, Nat.reduceLT, Nat.reduceLeDiff, Int.reduceEq, S55, h0, hlen]
  refine Br_dec (fun h => ?_) (fun h => ?_) <;> simp -implicitDefEqProofs only [↓gP, gQ, ↓reduceIte, Nat.reduceAdd, Nat.reduceEqDiff, Nat.reduceLT, Nat.reduceLeDiff, Int.reduceEq, h0, hlen]
  · refine ⟨?_, Ext.refl⟩
    have : 65536 < l.length := by omega
    simp [checkP, this]
  · refine loop_rule (fun k ρ' H' D' => ∃ i, k = l.length - i ∧ i ≤ l.length ∧ firstBad l 0 = firstBad (l.drop i) i ∧ ρ' 4 = .int .i64 i ∧ ρ' 0 = v ∧ Ext H H' ∧ D' = []) l.length ⟨0, by simp, by simp, by simp, by simp only [up_get]; rfl, by simp only [up_get]; exact h0, Ext.refl, rfl⟩ ?_
    rintro k ρ' H' D' ⟨i, hk, hi, hb, e4, e0, hE, rfl⟩
    simp -implicitDefEqProofs only [↓gP, gQ, ↓reduceIte, Nat.reduceAdd, Nat.reduceEqDiff, Nat.reduceLT, Nat.reduceLeDiff, Int.reduceEq, S55L1, e4, e0, hlen]
    refine Br_dec (fun h => ?_) (fun h => ?_)
    · have hi' : i < l.length := by omega
      have hx := hS.ix (m := 0) (k := .i64) (i := i) (by rw [List.length_map]; exact hi')
      have hl := hS.ld hE shape_52 (i := i) (by rw [List.length_map]; exact hi')
      rw [List.getElem_map] at hl
      simp -implicitDefEqProofs only [↓gP, gQ, ↓reduceIte, Nat.reduceAdd, Nat.reduceEqDiff, Nat.reduceLT, Nat.reduceLeDiff, Int.reduceEq, e4, e0, hx, hl]
      refine CS_fn (rmay_spec l[i] i _) ?_
      rintro _ H2 ⟨rfl, hE2⟩
      simp -implicitDefEqProofs only [↓gP, gQ, ↓reduceIte, Nat.reduceAdd, Nat.reduceEqDiff, Nat.reduceLT, Nat.reduceLeDiff, Int.reduceEq, e4, e0]
      have hE3 : Ext H H2 := hE.trans hE2
      have hd : firstBad (l.drop i) i = if mayB l[i] i = true then firstBad (l.drop (i + 1)) (i + 1) else some i := by
        rw [List.drop_eq_getElem_cons hi']; rfl
      refine Br_bool (fun hm => ?_) (fun hm => ?_)
      · simp -implicitDefEqProofs only [↓gP, gQ, ↓reduceIte, Nat.reduceAdd, Nat.reduceEqDiff, Nat.reduceLT, Nat.reduceLeDiff, Int.reduceEq, e4, e0, hm]
        refine ⟨l.length - (i + 1), by omega, i + 1, rfl, hi', by rw [hb, hd, if_pos hm], ?_, by trivial, hE3, by trivial⟩
        rw [wrap64 (by omega) (by omega)]; rfl
      · simp -implicitDefEqProofs only [↓gP, gQ, ↓reduceIte, Nat.reduceAdd, Nat.reduceEqDiff, Nat.reduceLT, Nat.reduceLeDiff, Int.reduceEq, e4, e0, hm]
        refine ⟨?_, hE3⟩
        have : ¬ 65536 < l.length := by omega
        simp [checkP, this, hb, hd, hm]
    · simp -implicitDefEqProofs only [↓gP, gQ, ↓reduceIte, Nat.reduceAdd, Nat.reduceEqDiff, Nat.reduceLT, Nat.reduceLeDiff, Int.reduceEq, e4, e0]
      refine ⟨?_, hE⟩
      have : i = l.length := by omega
      subst this
      have h' : ¬ 65536 < l.length := by omega
      simp [checkP, h', hb, firstBad]

def rightB (l : List Nd) : Bool := decide ((checkP l).2 = 0)
theorem right_spec (l : List Nd) (v : AV) (H : Heap) (hS : Shows H v 4 (l.map Nd.c)) : F X 23 [v] H (fun r H' => r = .bool (rightB l) ∧ Ext H H') := by
  refine F_slim S23_eq rfl fun ρ hρ => ?_
  simp only [AGs] at hρ
  obtain ⟨h0, -⟩ := hρ
  simp -implicitDefEqProofs only [↓gP, gQ, ↓reduceIte, Nat.reduceAdd, Nat.reduceEqDiff, Nat.reduceLT, Nat.reduceLeDiff, Int.reduceEq, S23, h0]
  refine CS_fn (rcheck_spec l v H hS) ?_
  rintro _ H2 ⟨rfl, hE⟩
  simp -implicitDefEqProofs only [↓gP, gQ, ↓reduceIte, Nat.reduceAdd, Nat.reduceEqDiff, Nat.reduceLT, Nat.reduceLeDiff, Int.reduceEq]
  exact ⟨rfl, hE⟩

def askP (l : List Nd) (ps : List Int) : Int :=
  if (checkP l).2 ≠ 0 then 3 else if ps.any (fun p => decide (p < 0) || decide ((l.length : Int) ≤ p)) = true then 2 else 0
def I1 (k : IntKind) (ps : List Int) : List (List AV) := ps.map fun p => [.int k p]
theorem I1_len {k : IntKind} {ps : List Int} : (I1 k ps).length = ps.length := by simp [I1]
theorem I1_get {k : IntKind} {ps : List Int} {i : Nat} (h : i < ps.length) : (I1 k ps)[i]? = some [.int k ps[i]] := by simp [I1, h]

theorem asked_spec (l : List Nd) (ps : List Int) (v w : AV) (H : Heap) (hS : Shows H v 4 (l.map Nd.c)) (hP : Shows H w 1 (I1 .i64 ps)) (hp : ps.length < 9223372036854775807) :
    F X 74 [v, w] H (fun r H' => r = .int .i64 (askP l ps) ∧ Ext H H') := by
  refine F_slim S74_eq rfl fun ρ hρ => ?_
  simp only [AGs] at hρ
  obtain ⟨h0, h1, -⟩ := hρ
  have hlen := hS.lenA isSl_22
  rw [List.length_map] at hlen
  have hlenp := hP.lenA isSl_37
  rw [I1_len] at hlenp
  simp -implicitDefEqProofs only [↓gP, gQ, ↓reduceIte, Nat.reduceAdd, Nat.reduceEqDiff, Nat.reduceLT, Nat.reduceLeDiff, Int.reduceEq, S74, h0, h1]
  refine CS_fn (check_spec l v H hS) ?_
  rintro _ H2 ⟨rfl, hE⟩
  simp -implicitDefEqProofs only [↓gP, gQ, ↓reduceIte, Nat.reduceAdd, Nat.reduceEqDiff, Nat.reduceLT, Nat.reduceLeDiff, Int.reduceEq, h0, h1, hlenp]
  refine Br_dec (fun h => ?_) (fun h => ?_) <;> simp -implicitDefEqProofs only [↓gP, gQ, ↓reduceIte, Nat.reduceAdd, Nat.reduceEqDiff, Nat.reduceLT, Nat.reduceLeDiff, Int.reduceEq, h0, h1, hlenp]
  · have hany : askP l ps = if ps.any (fun p => decide (p < 0) || decide ((l.length : Int) ≤ p)) = true then 2 else 0 := by simp [askP, h]
    refine loop_rule (fun k ρ' H' D' => ∃ i, k = ps.length - i ∧ i ≤ ps.length ∧ ps.any (fun p => decide (p < 0) || decide ((l.length : Int) ≤ p)) = (ps.drop i).any (fun p => decide (p < 0) || decide ((l.length : Int) ≤ p)) ∧ ρ' 18 = .int .i64 i ∧ ρ' 17 = .int .i64 ps.length ∧ ρ' 16 = w ∧ ρ' 0 = v ∧ Ext H H' ∧ D' = []) ps.length
      ⟨0, by simp, by simp, by simp, by simp only [up_get]; rfl, by simp only [up_get]; rfl, by simp only [up_get]; rfl, by simp only [up_get]; exact h0, hE, rfl⟩ ?_
    rintro k ρ' H' D' ⟨i, hk, hi, hb, e18, e17, e16, e0, hE', rfl⟩
    simp -implicitDefEqProofs only [↓gP, gQ, ↓reduceIte, Nat.reduceAdd, Nat.reduceEqDiff, Nat.reduceLT, Nat.reduceLeDiff, Int.reduceEq, S74L1, e18, e17, e16, e0, hlen]
    refine Br_dec (fun h => ?_) (fun h => ?_)
    · have hi' : i < ps.length := by omega
      have hx := hP.ix (m := 0) (k := .i64) (i := i) (by rw [I1_len]; exact hi')
      have hl := hP.ld1 hE' shape_3 (I1_get (k := .i64) hi')
      simp -implicitDefEqProofs only [↓gP, gQ, ↓reduceIte, Nat.reduceAdd, Nat.reduceEqDiff, Nat.reduceLT, Nat.reduceLeDiff, Int.reduceEq, e18, e17, e16, e0, hlen, hx, hl]
      have hd := List.drop_eq_getElem_cons hi'
      refine Br_dec (fun h1 => ?_) (fun h1 => ?_) <;> simp -implicitDefEqProofs only [↓gP, gQ, ↓reduceIte, Nat.reduceAdd, Nat.reduceEqDiff, Nat.reduceLT, Nat.reduceLeDiff, Int.reduceEq, e18, e17, e16, e0, hlen, h1]
      · refine ⟨?_, hE'⟩
        rw [hany, hb, hd, List.any_cons]; simp [h1]
      · refine Br_dec (fun h2 => ?_) (fun h2 => ?_) <;> simp -implicitDefEqProofs only [↓gP, gQ, ↓reduceIte, Nat.reduceAdd, Nat.reduceEqDiff, Nat.reduceLT, Nat.reduceLeDiff, Int.reduceEq, e18, e17, e16, e0, hlen, h1, h2]
        · refine ⟨?_, hE'⟩
          rw [hany, hb, hd, List.any_cons]; simp [h2]
        · refine ⟨ps.length - (i + 1), by omega, i + 1, rfl, hi', ?_, ?_, by trivial, by trivial, by trivial, hE', by trivial⟩
          · rw [hb, hd, List.any_cons]; simp [h1, h2]
          · rw [wrap64 (by omega) (by omega)]; rfl
    · simp -implicitDefEqProofs only [↓gP, gQ, ↓reduceIte, Nat.reduceAdd, Nat.reduceEqDiff, Nat.reduceLT, Nat.reduceLeDiff, Int.reduceEq, e18, e17, e16, e0, hlen]
      refine ⟨?_, hE'⟩
      have : i = ps.length := by omega
      subst this
      rw [hany, hb]; simp
  · refine ⟨?_, hE⟩
    simp [askP, h]
end Go.Va
end

section
set_option linter.unusedSimpArgs false
set_option linter.unusedVariables false
set_option linter.unusedSectionVars false
namespace Go.Va
open Go.Proofs

def aluN (op : Int) (a b : Nat) : Nat × Bool :=
  if op = 0 then ((a + b) % 4294967296, true)
  else if op = 16 then ((a + 4294967296 - b) % 4294967296, true)
  else if op = 32 then ((a * b) % 4294967296, true)
  else if op = 48 then (if b = 0 then (0, false) else (a / b, true))
  else if op = 64 then (a ||| b, true)
  else if op = 80 then (a &&& b, true)
  else if op = 96 then ((a * 2 ^ (b % 32)) % 4294967296, true)
  else if op = 112 then (a / 2 ^ (b % 32), true)
  else if op = 128 then ((4294967296 - a) % 4294967296, true)
  else if op = 160 then (a ^^^ b, true)
  else (0, false)

theorem u32w (n : Int) : IntKind.u32.wrap n = n % 4294967296 := IntKind.wrap_u32 n
theorem u32_ofInt {a : Nat} (h : a < 4294967296) : (BitVec.ofInt IntKind.u32.bits (a : Int)).toNat = a := by
  show (BitVec.ofInt 32 (a : Int)).toNat = a
  rw [BitVec.ofInt_natCast, BitVec.toNat_ofNat]
  exact Nat.mod_eq_of_lt h
theorem u32_or {a b : Nat} (ha : a < 4294967296) (hb : b < 4294967296) : IntKind.u32.wrap ((BitVec.ofInt IntKind.u32.bits (a : Int) ||| BitVec.ofInt IntKind.u32.bits (b : Int)).toNat : Nat) = ((a ||| b : Nat) : Int) := by
  rw [u32w, BitVec.toNat_or, u32_ofInt ha, u32_ofInt hb]
  have : a ||| b < 2 ^ 32 := Nat.or_lt_two_pow ha hb
  omega
theorem u32_and {a b : Nat} (ha : a < 4294967296) (hb : b < 4294967296) : IntKind.u32.wrap ((BitVec.ofInt IntKind.u32.bits (a : Int) &&& BitVec.ofInt IntKind.u32.bits (b : Int)).toNat : Nat) = ((a &&& b : Nat) : Int) := by
  rw [u32w, BitVec.toNat_and, u32_ofInt ha, u32_ofInt hb]
  have : a &&& b < 2 ^ 32 := Nat.and_lt_two_pow _ hb
  omega
theorem u32_xor {a b : Nat} (ha : a < 4294967296) (hb : b < 4294967296) : IntKind.u32.wrap ((BitVec.ofInt IntKind.u32.bits (a : Int) ^^^ BitVec.ofInt IntKind.u32.bits (b : Int)).toNat : Nat) = ((a ^^^ b : Nat) : Int) := by
  rw [u32w, BitVec.toNat_xor, u32_ofInt ha, u32_ofInt hb]
  have : a ^^^ b < 2 ^ 32 := Nat.xor_lt_two_pow ha hb
  omega
theorem u32_and31 {b : Nat} (hb : b < 4294967296) : IntKind.u32.wrap ((BitVec.ofInt IntKind.u32.bits (b : Int) &&& BitVec.ofInt IntKind.u32.bits 31).toNat : Nat) = ((b % 32 : Nat) : Int) := by
  have h := u32_and hb (b := 31) (by decide)
  have e : b &&& 31 = b % 32 := Nat.and_two_pow_sub_one_eq_mod b 5
  rw [e] at h; exact h

theorem u32_add {a b : Nat} : IntKind.u32.wrap ((a : Int) + b) = ((a + b) % 4294967296 : Nat) := by rw [u32w]; omega
theorem u32_sub {a b : Nat} (hb : b < 4294967296) : IntKind.u32.wrap ((a : Int) - b) = ((a + 4294967296 - b) % 4294967296 : Nat) := by rw [u32w]; omega
theorem u32_mul {a b : Nat} : IntKind.u32.wrap ((a : Int) * b) = ((a * b) % 4294967296 : Nat) := by
  rw [u32w, ← Int.natCast_mul]; omega
theorem u32_quo {a b : Nat} (ha : a < 4294967296) : IntKind.u32.wrap ((a : Int).tdiv b) = (a / b : Nat) := by
  rw [u32w, ← Int.ofNat_tdiv]
  have := Nat.div_le_self a b
  obtain ⟨q, hq⟩ : ∃ q, q = a / b := ⟨_, rfl⟩
  rw [← hq] at this ⊢
  omega
theorem min32 {b : Nat} : min ((b % 32 : Nat) : Int).toNat IntKind.u32.bits = b % 32 := by
  rw [Int.toNat_natCast]
  show min (b % 32) 32 = b % 32
  omega
theorem u32_shl {a b : Nat} : IntKind.u32.wrap ((a : Int) * 2 ^ (b % 32)) = ((a * 2 ^ (b % 32)) % 4294967296 : Nat) := by
  rw [u32w]
  have : (a : Int) * 2 ^ (b % 32) = ((a * 2 ^ (b % 32) : Nat) : Int) := by rw [Int.natCast_mul, Int.natCast_pow]; rfl
  rw [this]; omega
theorem nat_shr {a n : Nat} : (a : Int).fdiv (2 ^ n) = (a / 2 ^ n : Nat) := by
  have : (2 : Int) ^ n = ((2 ^ n : Nat) : Int) := by rw [Int.natCast_pow]; rfl
  rw [this, Int.fdiv_eq_ediv_of_nonneg _ (Int.natCast_nonneg _)]; rfl
theorem u32_neg {a : Nat} (ha : a < 4294967296) : IntKind.u32.wrap (0 - (a : Int)) = ((4294967296 - a) % 4294967296 : Nat) := by rw [u32w]; omega

theorem alu_spec (op : Int) (a b : Nat) (H : Heap) (ha : a < 4294967296) (hb : b < 4294967296) : F X 94 [.int .i64 op, .int .u32 a, .int .u32 b] H (fun r H' => r = .tup [.int .u32 (aluN op a b).1, .bool (aluN op a b).2] ∧ H' = H) := by
  refine F_slim S94_eq rfl fun ρ hρ => ?_
  simp only [AGs] at hρ
  obtain ⟨h0, h1, h2, -⟩ := hρ
  simp -implicitDefEqProofs only [↓gP, gQ, ↓reduceIte, Nat.reduceAdd, Nat.reduceEqDiff, Nat.reduceLT, Nat.reduceLeDiff, Int.reduceEq, S94, h0, h1, h2]
  iterate 12 (all_goals (try (refine Br_dec (fun h => ?_) (fun h => ?_) <;> simp -implicitDefEqProofs only [↓gP, gQ, ↓reduceIte, Nat.reduceAdd, Nat.reduceEqDiff, Nat.reduceLT, Nat.reduceLeDiff, Int.reduceEq, h0, h1, h2, h, bin_quo, bin_shl, bin_shr, u32_or ha hb, u32_and ha hb, u32_xor ha hb, u32_and31 hb, Int.natCast_nonneg, u32_add, u32_sub hb, u32_mul, u32_quo ha, min32, u32_shl, nat_shr, u32_neg ha, ne_eq, not_false_eq_true])))
  all_goals (refine ⟨?_, trivial⟩)
  all_goals (first | (simp [aluN, *]; done) | (have h' : b = 0 := by omega
                                               simp [aluN, h']; done) | (have h' : ¬ b = 0 := by omega
                                                                         simp [aluN, h']; done))
end Go.Va
end

section
set_option linter.unusedSimpArgs false
set_option linter.unusedVariables false
set_option linter.unusedSectionVars false
namespace Go.Va
open Go.Proofs

theorem bld_int (x : Int) (H : Heap) : buildSliceA Try.prog 37 1 [(0, .int .i64 x)] H = some (.sl H.length 0 1 1 1, H ++ [.cells [.int .i64 x] 3 0 false]) :=
  bldSl1 slT_37 rfl (by decide) (by decide) rfl rfl

def bitI (n i : Nat) : Int := (n / 2 ^ i % 2 : Nat)
def bitsL (n : Nat) (m : Nat) : List AV := (List.range m).map fun i => .int .i64 (bitI n i)
theorem bitsL_succ {n m : Nat} : bitsL n (m + 1) = bitsL n m ++ [.int .i64 (bitI n m)] := by simp [bitsL, List.range_succ]

theorem bit_val {n i : Nat} (hi : i < 64) : IntKind.i64.wrap (((n : Int).fdiv (2 ^ min ((i : Int).toNat) IntKind.u64.bits)).tmod 2) = bitI n i := by
  have : min ((i : Int).toNat) IntKind.u64.bits = i := by
    rw [Int.toNat_natCast]; show min i 64 = i; omega
  rw [this, nat_shr]
  have h2 : ((n / 2 ^ i : Nat) : Int).tmod 2 = ((n / 2 ^ i % 2 : Nat) : Int) := by
    rw [Int.tmod_eq_emod_of_nonneg (Int.natCast_nonneg _)]; rfl
  rw [h2, wrap64 (by omega) (by omega)]; rfl

theorem bits_spec (n : Nat) (H : Heap) : F X 84 [.int .u64 n] H (fun r H' => OwnV H.length H' r 3 1 64 (bitsL n 64) ∧ Ext H H') := by
  refine F_slim S84_eq rfl fun ρ hρ => ?_
  simp only [AGs] at hρ
  obtain ⟨h0, -⟩ := hρ
  simp -implicitDefEqProofs only [↓gP, gQ, ↓reduceIte, Nat.reduceAdd, Nat.reduceEqDiff, Nat.reduceLT, Nat.reduceLeDiff, Int.reduceEq, S84, h0]
  refine loop_rule (fun k ρ' H' D' => ∃ i, k = 64 - i ∧ i ≤ 64 ∧ ρ' 4 = .int .i64 i ∧ ρ' 0 = .int .u64 n ∧ OwnV H.length H' (ρ' 3) 3 1 i (bitsL n i) ∧ Ext H H' ∧ H.length ≤ H'.length ∧ D' = []) 64
    ⟨0, by simp, by simp, by simp only [up_get]; rfl, by simp only [up_get]; exact h0, by simp only [up_get]; exact OwnV.nil, Ext.refl, Nat.le_refl _, rfl⟩ ?_
  rintro k ρ' H' D' ⟨i, hk, hi, e4, e0, hO, hE, hH, rfl⟩
  generalize e3 : ρ' 3 = s at hO
  simp -implicitDefEqProofs only [↓gP, gQ, ↓reduceIte, Nat.reduceAdd, Nat.reduceEqDiff, Nat.reduceLT, Nat.reduceLeDiff, Int.reduceEq, S84L1, e4, e0, e3]
  refine Br_dec (fun h => ?_) (fun h => ?_)
  · have hi' : i < 64 := by omega
    obtain ⟨v', H'', ha, hO', hE', hl⟩ := hO.push (xs := [.int .i64 (bitI n i)]) slT_37 rfl (by decide) rfl rfl (by omega) (by omega) hE (Nat.le_refl _) hH
    simp -implicitDefEqProofs only [↓gP, gQ, ↓reduceIte, Nat.reduceAdd, Nat.reduceEqDiff, Nat.reduceLT, Nat.reduceLeDiff, Int.reduceEq, e4, e0, e3, bin_shr, Int.natCast_nonneg, bin_rem (b := 2) (by decide), bit_val hi', bld_int, ha]
    refine ⟨64 - (i + 1), by omega, i + 1, rfl, hi', ?_, by trivial, by rw [bitsL_succ]; exact hO', hE', by omega, by trivial⟩
    rw [wrap64 (by omega) (by omega)]; rfl
  · have : i = 64 := by omega
    subst this
    simp -implicitDefEqProofs only [↓gP, gQ, ↓reduceIte, Nat.reduceAdd, Nat.reduceEqDiff, Nat.reduceLT, Nat.reduceLeDiff, Int.reduceEq, e4, e0, e3]
    exact ⟨hO, hE⟩
end Go.Va
end

section
set_option linter.unusedSimpArgs false
set_option linter.unusedVariables false
set_option linter.unusedSectionVars false
namespace Go.Va
open Go.Proofs

/-- k bits, the highest first. -/
def hor (f : Nat → Nat) : Nat → Nat
  | 0 => 0
  | k + 1 => 2 * hor f k + f (31 - k)

theorem hor_lt {f : Nat → Nat} (hf : ∀ i, f i < 2) : ∀ k, hor f k < 2 ^ k
  | 0 => by simp [hor]
  | k + 1 => by
    have h1 := hor_lt hf k
    have h2 := hf (31 - k)
    simp only [hor, Nat.pow_succ]; omega

theorem hor_step {f : Nat → Nat} (hf : ∀ i, f i < 2) {k : Nat} (hk : k < 32) : IntKind.u32.wrap (IntKind.u32.wrap (2 * (hor f k : Int)) + IntKind.u32.wrap (f (31 - k) : Int)) = (hor f (k + 1) : Nat) := by
  have h1 := hor_lt hf k
  have h2 := hf (31 - k)
  have h3 : 2 ^ k ≤ 2 ^ 31 := Nat.pow_le_pow_right (by decide) (by omega)
  rw [u32w, u32w, u32w]
  simp only [hor]
  omega

theorem value_spec (f : Nat → Nat) (hf : ∀ i, f i < 2) (v : AV) (L : List (List AV)) (H : Heap) (hS : Shows H v 1 L) (hL : ∀ i, i < 32 → L[i]? = some [.int .i64 (f i : Nat)]) :
    F X 85 [v] H (fun r H' => r = .int .u32 (hor f 32 : Nat) ∧ H' = H) := by
  refine F_slim S85_eq rfl fun ρ hρ => ?_
  simp only [AGs] at hρ
  obtain ⟨h0, -⟩ := hρ
  simp -implicitDefEqProofs only [↓gP, gQ, ↓reduceIte, Nat.reduceAdd, Nat.reduceEqDiff, Nat.reduceLT, Nat.reduceLeDiff, Int.reduceEq, S85, h0]
  refine loop_rule (fun k ρ' H' D' => ∃ i, k = 32 - i ∧ i ≤ 32 ∧ ρ' 4 = .int .i64 (31 - (i : Int)) ∧ ρ' 0 = v ∧ ρ' 3 = .int .u32 (hor f i : Nat) ∧ H' = H ∧ D' = []) 32
    ⟨0, by simp, by simp, by simp only [up_get]; rfl, by simp only [up_get]; exact h0, by simp only [up_get]; rfl, rfl, rfl⟩ ?_
  rintro k ρ' H' D' ⟨i, hk, hi, e4, e0, e3, rfl, rfl⟩
  rcases Nat.lt_or_ge i 32 with hi' | hi'
  · have e : (31 - (i : Int)) = ((31 - i : Nat) : Int) := by omega
    rw [e] at e4
    have hlen : 31 - i < L.length := by
      have := hL (31 - i) (by omega)
      rw [List.getElem?_eq_some_iff] at this; exact this.1
    have hx := hS.ix (m := 0) (k := .i64) hlen
    have hl := hS.ld1 Ext.refl shape_3 (hL (31 - i) (by omega))
    simp -implicitDefEqProofs only [↓gP, gQ, ↓reduceIte, Nat.reduceAdd, Nat.reduceEqDiff, Nat.reduceLT, Nat.reduceLeDiff, Int.reduceEq, S85L1, e4, e0, e3, hx, hl]
    refine Br_dec (fun h => ?_) (fun h => ?_)
    · simp -implicitDefEqProofs only [↓gP, gQ, ↓reduceIte, Nat.reduceAdd, Nat.reduceEqDiff, Nat.reduceLT, Nat.reduceLeDiff, Int.reduceEq, e4, e0, e3, hx, hl, hor_step hf hi']
      refine ⟨32 - (i + 1), by omega, i + 1, rfl, hi', ?_, by trivial, by trivial, by trivial, by trivial⟩
      rw [wrap64 (by omega) (by omega)]
      congr 1; omega
    · exact absurd (Int.natCast_nonneg _) h
  · have : i = 32 := by omega
    subst this
    simp -implicitDefEqProofs only [↓gP, gQ, ↓reduceIte, Nat.reduceAdd, Nat.reduceEqDiff, Nat.reduceLT, Nat.reduceLeDiff, Int.reduceEq, S85L1, e4, e0, e3]
    refine Br_dec (fun h => ?_) (fun h => ?_)
    · exact absurd h (by decide)
    · simp -implicitDefEqProofs only [↓gP, gQ, ↓reduceIte, Nat.reduceAdd, Nat.reduceEqDiff, Nat.reduceLT, Nat.reduceLeDiff, Int.reduceEq, e4, e0, e3]
      exact ⟨trivial, trivial⟩
end Go.Va
end

section
set_option linter.unusedSimpArgs false
set_option linter.unusedVariables false
set_option linter.unusedSectionVars false
namespace Go.Va
open Go.Proofs

def bitN (n i : Nat) : Nat := n / 2 ^ i % 2
theorem bitI_eq {n i : Nat} : bitI n i = (bitN n i : Nat) := rfl
/-- By what a sum of two bits comes to. -/
def sumP (a b z o t : Nat) (i : Nat) : Nat := if bitN a i + bitN b i = 0 then z else if bitN a i + bitN b i = 1 then o else t
def outL (g : Nat → Nat) (i : Nat) : List AV := (List.range 32).map fun j => .int .i64 ((if j < i then g j else 0 : Nat) : Int)
theorem outL_len {g : Nat → Nat} {i : Nat} : (outL g i).length = 32 := by simp [outL]
theorem outL_set {g : Nat → Nat} {i : Nat} (hi : i < 32) : (outL g i).set i (.int .i64 (g i : Nat)) = outL g (i + 1) := by
  apply List.ext_getElem
  · simp [outL]
  · intro j h1 h2
    rw [List.getElem_set]
    simp only [outL, List.getElem_map, List.getElem_range]
    split
    · rename_i h; subst h; simp
    · rename_i h
      have : (j < i) = (j < i + 1) := by apply propext; omega
      simp only [this]
theorem outL_zero {g : Nat → Nat} : zeros [AV.int .i64 0] 32 = outL g 0 := by
  simp [zeros, outL, List.range, List.range.loop, List.replicate]

theorem both_spec (a b z o t : Nat) (H : Heap) (ha : a < 4294967296) (hb : b < 4294967296) (hz : z < 2) (ho : o < 2) (ht : t < 2) :
    F X 62 [.int .u32 a, .int .u32 b, .int .i64 z, .int .i64 o, .int .i64 t] H (fun r H' => r = .int .u32 (hor (sumP a b z o t) 32 : Nat) ∧ Ext H H') := by
  refine F_slim S62_eq rfl fun ρ hρ => ?_
  simp only [AGs] at hρ
  obtain ⟨h0, h1, h2, h3, h4, -⟩ := hρ
  simp -implicitDefEqProofs only [↓gP, gQ, ↓reduceIte, Nat.reduceAdd, Nat.reduceEqDiff, Nat.reduceLT, Nat.reduceLeDiff, Int.reduceEq, S62, h0, h1]
  have w64 : ∀ n : Nat, n < 4294967296 → IntKind.u64.wrap (n : Int) = n := fun n hn => by simp [IntKind.wrap, IntKind.bits, IntKind.signed]; omega
  rw [w64 a ha]
  refine CS_fn (bits_spec a _) ?_
  rintro x H1 ⟨hX, hE1⟩
  simp -implicitDefEqProofs only [↓gP, gQ, ↓reduceIte, Nat.reduceAdd, Nat.reduceEqDiff, Nat.reduceLT, Nat.reduceLeDiff, Int.reduceEq, h0, h1, w64 b hb]
  refine CS_fn (bits_spec b _) ?_
  rintro y H2 ⟨hY, hE2⟩
  have hX2 := hX.ext hE2
  have hmk : ∀ H, makeSliceA Try.prog 37 (.int .i64 32) (.int .i64 32) H = some (.sl H.length 0 32 32 1, H ++ [.cells (outL (sumP a b z o t) 0) 3 0 false]) := fun H => by
    have := mkSl (H := H) (k := .i64) (k' := .i64) (n := 32) slT_37 (by omega) (by omega) rfl (by omega)
    rw [outL_zero] at this
    exact this
  simp -implicitDefEqProofs only [↓gP, gQ, ↓reduceIte, Nat.reduceAdd, Nat.reduceEqDiff, Nat.reduceLT, Nat.reduceLeDiff, Int.reduceEq, h0, h1, hmk]
  have hSx := hX2.shows1
  have hSy := hY.shows1
  have hE12 : Ext H H2 := hE1.trans hE2
  have hbit : ∀ n i : Nat, i < 32 → ((bitsL n 64).map fun x => [x])[i]? = some [.int .i64 (bitN n i : Nat)] := fun n i hi => by
    simp [bitsL, List.getElem?_map, List.getElem?_range (show i < 64 by omega), bitI_eq]
  refine loop_rule (fun k ρ' H' D' => ∃ i born, k = 32 - i ∧ i ≤ 32 ∧ ρ' 14 = .int .i64 (i : Nat) ∧ ρ' 11 = x ∧ ρ' 12 = y ∧ ρ' 13 = .sl H2.length 0 32 32 1 ∧ ρ' 2 = .int .i64 (z : Nat) ∧ ρ' 3 = .int .i64 (o : Nat) ∧ ρ' 4 = .int .i64 (t : Nat) ∧
      Ext H2 H' ∧ born ≤ 32 ∧ H'[H2.length]? = some (.cells (outL (sumP a b z o t) i) 3 born false) ∧ D' = []) 32
    ⟨0, 0, by simp, by simp, by simp only [up_get]; rfl, by simp only [up_get]; rfl, by simp only [up_get]; rfl, by simp only [up_get]; rfl, by simp only [up_get]; exact h2, by simp only [up_get]; exact h3, by simp only [up_get]; exact h4,
      Ext.refl.app, by omega, hp_get0, rfl⟩ ?_
  rintro k ρ' H' D' ⟨i, born, hk, hi, e14, e11, e12, e13, e2, e3, e4, hE, hborn, hobj, rfl⟩
  have hid : H2.length < H'.length := by rw [List.getElem?_eq_some_iff] at hobj; exact hobj.1
  simp -implicitDefEqProofs only [↓gP, gQ, ↓reduceIte, Nat.reduceAdd, Nat.reduceEqDiff, Nat.reduceLT, Nat.reduceLeDiff, Int.reduceEq, S62L1, e14, e11, e12, e13, e2, e3, e4]
  refine Br_dec (fun h => ?_) (fun h => ?_)
  · have hi' : i < 32 := by omega
    have hxi := hSx.ix (m := 0) (k := .i64) (i := i) (by simp [bitsL]; omega)
    have hyi := hSy.ix (m := 0) (k := .i64) (i := i) (by simp [bitsL]; omega)
    have hxl := hSx.ld1 hE shape_3 (hbit a i hi')
    have hyl := hSy.ld1 hE shape_3 (hbit b i hi')
    have ba : bitN a i < 2 := Nat.mod_lt _ (by decide)
    have bb : bitN b i < 2 := Nat.mod_lt _ (by decide)
    have hw : IntKind.i64.wrap ((bitN a i : Nat) + (bitN b i : Nat) : Int) = ((bitN a i + bitN b i : Nat) : Int) := by rw [wrap64 (by omega) (by omega)]; omega
    have hi1 : i + 1 ≤ 32 := hi'
    have done : ∀ g : Nat, sumP a b z o t i = g → ∀ H'', H'' = H'.set H2.length (.cells ((outL (sumP a b z o t) i).set i (.int .i64 (g : Nat))) 3 32 false) →
        Ext H2 H'' ∧ H''[H2.length]? = some (.cells (outL (sumP a b z o t) (i + 1)) 3 32 false) := by
      rintro g rfl H'' rfl
      rw [outL_set hi']
      exact ⟨hE.set (Nat.le_refl _), by rw [List.getElem?_set_self hid]⟩
    simp -implicitDefEqProofs only [↓gP, gQ, ↓reduceIte, Nat.reduceAdd, Nat.reduceEqDiff, Nat.reduceLT, Nat.reduceLeDiff, Int.reduceEq, e14, e11, e12, e13, e2, e3, e4, hxi, hyi, hxl, hyl, hw]
    refine Br_dec (fun h1 => ?_) (fun h1 => ?_) <;> simp -implicitDefEqProofs only [↓gP, gQ, ↓reduceIte, Nat.reduceAdd, Nat.reduceEqDiff, Nat.reduceLT, Nat.reduceLeDiff, Int.reduceEq, e14, e11, e12, e13, e2, e3, e4, h1, ix_own1 hi', hobj, outL_len, hborn, hi1]
    · have hg : sumP a b z o t i = z := by unfold sumP; rw [if_pos (by omega)]
      obtain ⟨d1, d2⟩ := done z hg _ rfl
      refine ⟨32 - (i + 1), by omega, i + 1, 32, rfl, hi', ?_, by trivial, by trivial, by trivial, by trivial, by trivial, by trivial, d1, by omega, d2, by trivial⟩
      rw [wrap64 (by omega) (by omega)]; rfl
    · refine Br_dec (fun h2 => ?_) (fun h2 => ?_) <;> simp -implicitDefEqProofs only [↓gP, gQ, ↓reduceIte, Nat.reduceAdd, Nat.reduceEqDiff, Nat.reduceLT, Nat.reduceLeDiff, Int.reduceEq, e14, e11, e12, e13, e2, e3, e4, h1, h2, ix_own1 hi', hobj, outL_len, hborn, hi1]
      · have hg : sumP a b z o t i = o := by unfold sumP; rw [if_neg (by omega), if_pos (by omega)]
        obtain ⟨d1, d2⟩ := done o hg _ rfl
        refine ⟨32 - (i + 1), by omega, i + 1, 32, rfl, hi', ?_, by trivial, by trivial, by trivial, by trivial, by trivial, by trivial, d1, by omega, d2, by trivial⟩
        rw [wrap64 (by omega) (by omega)]; rfl
      · have hg : sumP a b z o t i = t := by unfold sumP; rw [if_neg (by omega), if_neg (by omega)]
        obtain ⟨d1, d2⟩ := done t hg _ rfl
        refine ⟨32 - (i + 1), by omega, i + 1, 32, rfl, hi', ?_, by trivial, by trivial, by trivial, by trivial, by trivial, by trivial, d1, by omega, d2, by trivial⟩
        rw [wrap64 (by omega) (by omega)]; rfl
  · have : i = 32 := by omega
    subst this
    simp -implicitDefEqProofs only [↓gP, gQ, ↓reduceIte, Nat.reduceAdd, Nat.reduceEqDiff, Nat.reduceLT, Nat.reduceLeDiff, Int.reduceEq, e14, e11, e12, e13, e2, e3, e4]
    have hsum : ∀ i, sumP a b z o t i < 2 := fun i => by unfold sumP; split <;> (try split) <;> assumption
    refine CS_fn (value_spec (sumP a b z o t) hsum _ _ _ (shows_own hobj (by rw [outL_len]; exact hborn) outL_len) ?_) ?_
    · intro j hj
      simp [outL, List.getElem?_map, List.getElem?_range hj, hj]
    · rintro _ _ ⟨rfl, rfl⟩
      simp -implicitDefEqProofs only [↓gP, gQ, ↓reduceIte, Nat.reduceAdd, Nat.reduceEqDiff, Nat.reduceLT, Nat.reduceLeDiff, Int.reduceEq]
      exact ⟨trivial, hE12.trans hE⟩
end Go.Va
end

section
set_option linter.unusedSimpArgs false
set_option linter.unusedVariables false
set_option linter.unusedSectionVars false
namespace Go.Va

theorem bitN_test {n i : Nat} : bitN n i = (n.testBit i).toNat := by
  unfold bitN
  rw [Nat.testBit_eq_decide_div_mod_eq]
  have := Nat.mod_lt (n / 2 ^ i) (show 0 < 2 by decide)
  by_cases h : n / 2 ^ i % 2 = 1
  · simp [h]
  · have : n / 2 ^ i % 2 = 0 := by omega
    simp [this]

theorem hor_bits {n : Nat} (hn : n < 4294967296) : ∀ k, k ≤ 32 → hor (bitN n) k = n / 2 ^ (32 - k)
  | 0, _ => by
    simp only [hor]
    exact (Nat.div_eq_of_lt hn).symm
  | k + 1, h => by
    have ih := hor_bits hn k (by omega)
    have e : 32 - k = (31 - k) + 1 := by omega
    have e2 : 32 - (k + 1) = 31 - k := by omega
    simp only [hor, ih, bitN, e2]
    rw [e, Nat.pow_succ, ← Nat.div_div_eq_div_mul]
    omega

theorem hor_congr {f g : Nat → Nat} (h : ∀ i, i < 32 → f i = g i) : ∀ k, hor f k = hor g k
  | 0 => rfl
  | k + 1 => by simp only [hor, hor_congr h k, h (31 - k) (by omega)]

theorem hor_word {f : Nat → Nat} {n : Nat} (hn : n < 4294967296) (h : ∀ i, i < 32 → f i = bitN n i) : hor f 32 = n := by
  rw [hor_congr h, hor_bits hn 32 (Nat.le_refl _)]; simp

theorem both_or {a b : Nat} (ha : a < 4294967296) (hb : b < 4294967296) : hor (sumP a b 0 1 1) 32 = a ||| b :=
  hor_word (Nat.or_lt_two_pow (n := 32) ha hb) fun i _ => by
    unfold sumP
    rw [bitN_test, bitN_test, bitN_test, Nat.testBit_or]
    cases a.testBit i <;> cases b.testBit i <;> rfl
theorem both_and {a b : Nat} (ha : a < 4294967296) (hb : b < 4294967296) : hor (sumP a b 0 0 1) 32 = a &&& b :=
  hor_word (Nat.and_lt_two_pow (n := 32) a hb) fun i _ => by
    unfold sumP
    rw [bitN_test, bitN_test, bitN_test, Nat.testBit_and]
    cases a.testBit i <;> cases b.testBit i <;> rfl
theorem both_xor {a b : Nat} (ha : a < 4294967296) (hb : b < 4294967296) : hor (sumP a b 0 1 0) 32 = a ^^^ b :=
  hor_word (Nat.xor_lt_two_pow (n := 32) ha hb) fun i _ => by
    unfold sumP
    rw [bitN_test, bitN_test, bitN_test, Nat.testBit_xor]
    cases a.testBit i <;> cases b.testBit i <;> rfl

end Go.Va
end

section
set_option linter.unusedSimpArgs false
set_option linter.unusedVariables false
set_option linter.unusedSectionVars false
namespace Go.Va
open Go.Proofs

theorem u64n {n : Nat} (h : n < 18446744073709551616) : IntKind.u64.wrap (n : Int) = n := by
  simp [IntKind.wrap, IntKind.bits, IntKind.signed]; omega
theorem u64w (n : Int) : IntKind.u64.wrap n = n % 18446744073709551616 := by simp [IntKind.wrap, IntKind.bits, IntKind.signed]
theorem tmodn {x : Int} (h : 0 ≤ x) : x.tmod 4294967296 = x % 4294967296 := Int.tmod_eq_emod_of_nonneg h
theorem tmod_bin {C : Ctx} {t : TypeId} {k : IntKind} {a : Int} : binA C .rem t (.int k a) (.int k 4294967296) = some (.int k (a.tmod 4294967296)) := bin_rem (by decide)
theorem tmod_bin32 {C : Ctx} {t : TypeId} {k : IntKind} {a : Int} : binA C .rem t (.int k a) (.int k 32) = some (.int k (a.tmod 32)) := bin_rem (by decide)

section
variable {a b : Nat}
theorem r_add (ha : a < 4294967296) (hb : b < 4294967296) : IntKind.u32.wrap ((IntKind.u64.wrap (IntKind.u64.wrap (a : Int) + IntKind.u64.wrap (b : Int))).tmod 4294967296) = ((a + b) % 4294967296 : Nat) := by
  rw [u64n (by omega), u64n (by omega), u64w, tmodn (by omega), u32w]; omega
theorem r_sub (ha : a < 4294967296) (hb : b < 4294967296) : IntKind.u32.wrap ((IntKind.u64.wrap (IntKind.u64.wrap (IntKind.u64.wrap (a : Int) + 4294967296) - IntKind.u64.wrap (b : Int))).tmod 4294967296) = ((a + 4294967296 - b) % 4294967296 : Nat) := by
  rw [u64n (n := a) (by omega), u64n (n := b) (by omega), u64w, u64w, tmodn (by omega), u32w]; omega
theorem r_mul (ha : a < 4294967296) (hb : b < 4294967296) : IntKind.u32.wrap ((IntKind.u64.wrap (IntKind.u64.wrap (a : Int) * IntKind.u64.wrap (b : Int))).tmod 4294967296) = ((a * b) % 4294967296 : Nat) := by
  have h : a * b ≤ 4294967295 * 4294967295 := Nat.mul_le_mul (by omega) (by omega)
  rw [u64n (n := a) (by omega), u64n (n := b) (by omega), ← Int.natCast_mul, u64n (by omega), tmodn (by omega), u32w]; omega
theorem r_quo (ha : a < 4294967296) (hb : b < 4294967296) : IntKind.u32.wrap (IntKind.u64.wrap ((IntKind.u64.wrap (a : Int)).tdiv (IntKind.u64.wrap (b : Int)))) = (a / b : Nat) := by
  have := Nat.div_le_self a b
  rw [u64n (n := a) (by omega), u64n (n := b) (by omega), ← Int.ofNat_tdiv]
  obtain ⟨q, hq⟩ : ∃ q, q = a / b := ⟨_, rfl⟩
  rw [← hq] at this ⊢
  rw [u64n (by omega), u32w]; omega
theorem r_neg (ha : a < 4294967296) : IntKind.u32.wrap ((IntKind.u64.wrap (4294967296 - IntKind.u64.wrap (a : Int))).tmod 4294967296) = ((4294967296 - a) % 4294967296 : Nat) := by
  rw [u64n (n := a) (by omega), u64w, tmodn (by omega), u32w]; omega
theorem r_b0 (hb : b < 4294967296) : (IntKind.u64.wrap (b : Int) = 0) = (b = 0) := by rw [u64n (by omega)]; apply propext; omega
end

theorem ralu_spec (op : Int) (a b : Nat) (H : Heap) (ha : a < 4294967296) (hb : b < 4294967296) : F X 30 [.int .i64 op, .int .u32 a, .int .u32 b] H (fun r H' => r = .tup [.int .u32 (aluN op a b).1, .bool (aluN op a b).2] ∧ Ext H H') := by
  refine F_slim S30_eq rfl fun ρ hρ => ?_
  simp only [AGs] at hρ
  obtain ⟨h0, h1, h2, -⟩ := hρ
  by_cases e0 : op = 0
  · subst e0
    simp -implicitDefEqProofs only [↓gP, gQ, ↓reduceIte, Nat.reduceAdd, Nat.reduceEqDiff, Nat.reduceLT, Nat.reduceLeDiff, Int.reduceEq, S30, h0, h1, h2, tmod_bin, r_add ha hb]
    exact ⟨by simp [aluN], Ext.refl⟩
  by_cases e16 : op = 16
  · subst e16
    simp -implicitDefEqProofs only [↓gP, gQ, ↓reduceIte, Nat.reduceAdd, Nat.reduceEqDiff, Nat.reduceLT, Nat.reduceLeDiff, Int.reduceEq, S30, h0, h1, h2, tmod_bin, r_sub ha hb]
    exact ⟨by simp [aluN], Ext.refl⟩
  by_cases e32 : op = 32
  · subst e32
    simp -implicitDefEqProofs only [↓gP, gQ, ↓reduceIte, Nat.reduceAdd, Nat.reduceEqDiff, Nat.reduceLT, Nat.reduceLeDiff, Int.reduceEq, S30, h0, h1, h2, tmod_bin, r_mul ha hb]
    exact ⟨by simp [aluN], Ext.refl⟩
  by_cases e48 : op = 48
  · subst e48
    by_cases hb0 : b = 0
    · subst hb0
      simp -implicitDefEqProofs only [↓gP, gQ, ↓reduceIte, Nat.reduceAdd, Nat.reduceEqDiff, Nat.reduceLT, Nat.reduceLeDiff, Int.reduceEq, S30, h0, h1, h2, Int.natCast_zero, Int.cast_ofNat_Int]
      exact ⟨by simp [aluN], Ext.refl⟩
    · have hb1 : ¬ (b : Int) = 0 := by omega
      have hb2 : ¬ IntKind.u64.wrap (b : Int) = 0 := by rw [r_b0 hb]; exact hb0
      simp -implicitDefEqProofs only [↓gP, gQ, ↓reduceIte, Nat.reduceAdd, Nat.reduceEqDiff, Nat.reduceLT, Nat.reduceLeDiff, Int.reduceEq, S30, h0, h1, h2, hb1, hb2, bin_quo, ne_eq, not_false_eq_true, r_quo ha hb]
      exact ⟨by simp [aluN, hb0], Ext.refl⟩
  by_cases e64 : op = 64
  · subst e64
    simp -implicitDefEqProofs only [↓gP, gQ, ↓reduceIte, Nat.reduceAdd, Nat.reduceEqDiff, Nat.reduceLT, Nat.reduceLeDiff, Int.reduceEq, S30, h0, h1, h2, tmod_bin]
    refine CS_fn (both_spec a b 0 1 1 _ ha hb (by decide) (by decide) (by decide)) ?_
    rintro _ H2 ⟨rfl, hE⟩
    simp -implicitDefEqProofs only [↓gP, gQ, ↓reduceIte, Nat.reduceAdd, Nat.reduceEqDiff, Nat.reduceLT, Nat.reduceLeDiff, Int.reduceEq, both_or ha hb]
    exact ⟨by simp [aluN], hE⟩
  by_cases e80 : op = 80
  · subst e80
    simp -implicitDefEqProofs only [↓gP, gQ, ↓reduceIte, Nat.reduceAdd, Nat.reduceEqDiff, Nat.reduceLT, Nat.reduceLeDiff, Int.reduceEq, S30, h0, h1, h2, tmod_bin]
    refine CS_fn (both_spec a b 0 0 1 _ ha hb (by decide) (by decide) (by decide)) ?_
    rintro _ H2 ⟨rfl, hE⟩
    simp -implicitDefEqProofs only [↓gP, gQ, ↓reduceIte, Nat.reduceAdd, Nat.reduceEqDiff, Nat.reduceLT, Nat.reduceLeDiff, Int.reduceEq, both_and ha hb]
    exact ⟨by simp [aluN], hE⟩
  by_cases e96 : op = 96
  · subst e96
    simp -implicitDefEqProofs only [↓gP, gQ, ↓reduceIte, Nat.reduceAdd, Nat.reduceEqDiff, Nat.reduceLT, Nat.reduceLeDiff, Int.reduceEq, S30, h0, h1, h2, tmod_bin, u64n (show a < 18446744073709551616 by omega)]
    refine loop_rule (fun k ρ' H' D' => ∃ i, k = 32 - i ∧ i ≤ b % 32 ∧ ρ' 10 = .int .u32 (i : Nat) ∧ ρ' 2 = .int .u32 (b : Nat) ∧ ρ' 8 = .int .u64 4294967296 ∧ ρ' 9 = .int .u64 ((a * 2 ^ i % 4294967296 : Nat) : Int) ∧ H' = H ∧ D' = []) 32
      ⟨0, by simp, by simp, by simp only [up_get]; rfl, by simp only [up_get]; exact h2, by simp only [up_get]; rfl, by simp only [up_get]; simp [Nat.mod_eq_of_lt ha], rfl, rfl⟩ ?_
    rintro k ρ' H' D' ⟨i, hk, hi, e10, e2, e8, e9, rfl, rfl⟩
    simp -implicitDefEqProofs only [↓gP, gQ, ↓reduceIte, Nat.reduceAdd, Nat.reduceEqDiff, Nat.reduceLT, Nat.reduceLeDiff, Int.reduceEq, S30L1, e10, e2, e8, e9, tmod_bin, tmod_bin32]
    have h32 : (b : Int).tmod 32 = ((b % 32 : Nat) : Int) := by rw [Int.tmod_eq_emod_of_nonneg (Int.natCast_nonneg _)]; rfl
    rw [h32]
    refine Br_dec (fun h => ?_) (fun h => ?_)
    · have hm : (IntKind.u64.wrap (2 * ((a * 2 ^ i % 4294967296 : Nat) : Int))).tmod 4294967296 = ((a * 2 ^ (i + 1) % 4294967296 : Nat) : Int) := by
        have e : a * 2 ^ (i + 1) = 2 * (a * 2 ^ i) := by rw [Nat.pow_succ]; ac_rfl
        rw [e, u64w, tmodn (by omega)]; omega
      simp -implicitDefEqProofs only [↓gP, gQ, ↓reduceIte, Nat.reduceAdd, Nat.reduceEqDiff, Nat.reduceLT, Nat.reduceLeDiff, Int.reduceEq, e10, e2, e8, e9, tmod_bin, hm]
      refine ⟨32 - (i + 1), by omega, i + 1, rfl, by omega, ?_, by trivial, by trivial, by trivial, by trivial, by trivial⟩
      rw [u32w]; congr 1; omega
    · have : i = b % 32 := by omega
      subst this
      simp -implicitDefEqProofs only [↓gP, gQ, ↓reduceIte, Nat.reduceAdd, Nat.reduceEqDiff, Nat.reduceLT, Nat.reduceLeDiff, Int.reduceEq, e10, e2, e8, e9]
      refine ⟨?_, Ext.refl⟩
      have hw : IntKind.u32.wrap ((a * 2 ^ (b % 32) % 4294967296 : Nat) : Int) = ((a * 2 ^ (b % 32) % 4294967296 : Nat) : Int) := by rw [u32w]; omega
      rw [hw]; simp [aluN]
  by_cases e112 : op = 112
  · subst e112
    simp -implicitDefEqProofs only [↓gP, gQ, ↓reduceIte, Nat.reduceAdd, Nat.reduceEqDiff, Nat.reduceLT, Nat.reduceLeDiff, Int.reduceEq, S30, h0, h1, h2, tmod_bin, u64n (show a < 18446744073709551616 by omega)]
    refine loop_rule (fun k ρ' H' D' => ∃ i, k = 32 - i ∧ i ≤ b % 32 ∧ ρ' 12 = .int .u32 (i : Nat) ∧ ρ' 2 = .int .u32 (b : Nat) ∧ ρ' 11 = .int .u64 ((a / 2 ^ i : Nat) : Int) ∧ H' = H ∧ D' = []) 32
      ⟨0, by simp, by simp, by simp only [up_get]; rfl, by simp only [up_get]; exact h2, by simp only [up_get]; simp, rfl, rfl⟩ ?_
    rintro k ρ' H' D' ⟨i, hk, hi, e12, e2, e11, rfl, rfl⟩
    have hle := Nat.div_le_self a (2 ^ i)
    simp -implicitDefEqProofs only [↓gP, gQ, ↓reduceIte, Nat.reduceAdd, Nat.reduceEqDiff, Nat.reduceLT, Nat.reduceLeDiff, Int.reduceEq, S30L2, e12, e2, e11, tmod_bin32]
    have h32 : (b : Int).tmod 32 = ((b % 32 : Nat) : Int) := by rw [Int.tmod_eq_emod_of_nonneg (Int.natCast_nonneg _)]; rfl
    rw [h32]
    refine Br_dec (fun h => ?_) (fun h => ?_)
    · have hm : IntKind.u64.wrap (((a / 2 ^ i : Nat) : Int).tdiv 2) = ((a / 2 ^ (i + 1) : Nat) : Int) := by
        have e : a / 2 ^ (i + 1) = a / 2 ^ i / 2 := by rw [Nat.pow_succ, Nat.div_div_eq_div_mul]
        rw [e]
        obtain ⟨q, hq⟩ : ∃ q, q = a / 2 ^ i := ⟨_, rfl⟩
        rw [← hq] at hle ⊢
        rw [Int.tdiv_eq_ediv_of_nonneg (Int.natCast_nonneg _), u64w]; omega
      simp -implicitDefEqProofs only [↓gP, gQ, ↓reduceIte, Nat.reduceAdd, Nat.reduceEqDiff, Nat.reduceLT, Nat.reduceLeDiff, Int.reduceEq, e12, e2, e11, bin_quo (b := 2) (by decide), hm]
      refine ⟨32 - (i + 1), by omega, i + 1, rfl, by omega, ?_, by trivial, by trivial, by trivial, by trivial⟩
      rw [u32w]; congr 1; omega
    · have : i = b % 32 := by omega
      subst this
      simp -implicitDefEqProofs only [↓gP, gQ, ↓reduceIte, Nat.reduceAdd, Nat.reduceEqDiff, Nat.reduceLT, Nat.reduceLeDiff, Int.reduceEq, e12, e2, e11]
      refine ⟨?_, Ext.refl⟩
      have hw : IntKind.u32.wrap ((a / 2 ^ (b % 32) : Nat) : Int) = ((a / 2 ^ (b % 32) : Nat) : Int) := by
        obtain ⟨q, hq⟩ : ∃ q, q = a / 2 ^ (b % 32) := ⟨_, rfl⟩
        rw [← hq] at hle ⊢
        rw [u32w]; omega
      rw [hw]; simp [aluN]
  by_cases e128 : op = 128
  · subst e128
    simp -implicitDefEqProofs only [↓gP, gQ, ↓reduceIte, Nat.reduceAdd, Nat.reduceEqDiff, Nat.reduceLT, Nat.reduceLeDiff, Int.reduceEq, S30, h0, h1, h2, tmod_bin, r_neg ha]
    exact ⟨by simp [aluN], Ext.refl⟩
  by_cases e160 : op = 160
  · subst e160
    simp -implicitDefEqProofs only [↓gP, gQ, ↓reduceIte, Nat.reduceAdd, Nat.reduceEqDiff, Nat.reduceLT, Nat.reduceLeDiff, Int.reduceEq, S30, h0, h1, h2, tmod_bin]
    refine CS_fn (both_spec a b 0 1 0 _ ha hb (by decide) (by decide) (by decide)) ?_
    rintro _ H2 ⟨rfl, hE⟩
    simp -implicitDefEqProofs only [↓gP, gQ, ↓reduceIte, Nat.reduceAdd, Nat.reduceEqDiff, Nat.reduceLT, Nat.reduceLeDiff, Int.reduceEq, both_xor ha hb]
    exact ⟨by simp [aluN], hE⟩
  simp -implicitDefEqProofs only [↓gP, gQ, ↓reduceIte, Nat.reduceAdd, Nat.reduceEqDiff, Nat.reduceLT, Nat.reduceLeDiff, Int.reduceEq, S30, h0, h1, h2, e0, e16, e32, e48, e64, e80, e96, e112, e128, e160]
  exact ⟨by simp [aluN, *], Ext.refl⟩
end Go.Va
end

section
set_option linter.unusedSimpArgs false
set_option linter.unusedVariables false
set_option linter.unusedSectionVars false
namespace Go.Va
open Go.Proofs

def Nd.ok (n : Nd) : Prop := 0 ≤ n.k ∧ n.k < 4294967296 ∧ -9223372036854775808 ≤ n.op ∧ n.op < 9223372036854775808
def valN (n : Nd) (done rc : Nat → Nat) : Nat :=
  if n.op = 1 then n.k.toNat else if n.op = 2 then rc n.k.toNat else (aluN (n.op - 256) (done n.a.toNat) (done n.b.toNat)).1

theorem may_alu {n : Nd} {i : Nat} (h : mayB n i = true) (h1 : ¬ n.op = 1) (h2 : ¬ n.op = 2) : n.op ∈ alus ∧ n.k = 0 ∧ 0 ≤ n.a ∧ n.a < i ∧ 0 ≤ n.b ∧ n.b < i := by
  unfold mayB at h
  rw [if_neg h1, if_neg h2] at h
  split at h
  · cases h
  · rename_i h3
    have h4 : n.op ∈ alus := by
      by_cases h4 : n.op ∈ alus
      · exact h4
      · exact absurd (.inl h4) h3
    refine ⟨h4, by omega, by omega, by omega, ?_⟩
    split at h
    · have := of_decide_eq_true h; omega
    · have := of_decide_eq_true h; omega
theorem may_word {n : Nd} {i : Nat} (h : mayB n i = true) (h2 : n.op = 2) : n.k < 16 := by
  unfold mayB at h
  rw [if_neg (by omega), if_pos h2] at h
  have := of_decide_eq_true h; omega

theorem nval_spec (n : Nd) (i : Nat) (done rc : Nat → Nat) (w : AV) (L : List (List AV)) (rid born : Nat) (rcs : List AV) (e : TypeId) (ro : Bool) (H : Heap) (hn : n.ok) (hm : mayB n i = true) (hd : ∀ j, done j < 4294967296)
    (hS : Shows H w 1 L) (hL : ∀ j, j < i → L[j]? = some [.int .u32 (done j : Nat)]) (hr : H[rid]? = some (.cells rcs e born ro)) (hb : born ≤ 16) (hrl : rcs.length = 16) (hrc : ∀ j, j < 16 → rcs[j]? = some (.int .u32 (rc j : Nat))) :
    F X 75 [n.v, w, .ptr rid 0 16] H (fun r H' => r = .int .u32 (valN n done rc : Nat) ∧ Ext H H') := by
  refine F_slim S75_eq rfl fun ρ hρ => ?_
  simp only [AGs] at hρ
  obtain ⟨h0, h1, h2, -⟩ := hρ
  obtain ⟨k1, k2, -, -⟩ := hn
  have hr' : ∀ l : Heap, (H ++ l)[rid]? = some (.cells rcs e born ro) := fun l => (Ext.refl.app (l := l)) _ _ hr
  simp -implicitDefEqProofs only [↓gP, gQ, ↓reduceIte, Nat.reduceAdd, Nat.reduceEqDiff, Nat.reduceLT, Nat.reduceLeDiff, Int.reduceEq, S75, h0, h1, h2, Nd.v]
  refine Br_dec (fun g1 => ?_) (fun g1 => ?_) <;> simp -implicitDefEqProofs only [↓gP, gQ, ↓reduceIte, Nat.reduceAdd, Nat.reduceEqDiff, Nat.reduceLT, Nat.reduceLeDiff, Int.reduceEq, h0, h1, h2, g1]
  · refine ⟨?_, Ext.refl.app⟩
    simp only [valN, g1, if_true]
    rw [Int.toNat_of_nonneg k1]
  · refine Br_dec (fun g2 => ?_) (fun g2 => ?_)
    · have k3 := may_word hm g2
      have kn : n.k = ((n.k.toNat : Nat) : Int) := (Int.toNat_of_nonneg k1).symm
      have k4 : n.k.toNat < 16 := by omega
      have hix : ixO (some (false, 16, 1)) (.ptr rid 0 16) (.int .u32 n.k) = some (.ptr rid n.k.toNat 16) := by
        rw [ixO_arr k1 (by omega)]; simp
      have hg := hrc _ k4
      have hle : 16 ≤ rcs.length := by omega
      simp -implicitDefEqProofs only [↓gP, gQ, ↓reduceIte, Nat.reduceAdd, Nat.reduceEqDiff, Nat.reduceLT, Nat.reduceLeDiff, Int.reduceEq, h0, h1, h2, g1, g2, hix, hr', hb, hle, k4, hg]
      refine ⟨?_, Ext.refl.app⟩
      simp only [valN, g1, g2, if_true, if_false]
      rfl
    · obtain ⟨m1, m2, m3, m4, m5, m6⟩ := may_alu hm g1 g2
      have an : n.a = ((n.a.toNat : Nat) : Int) := (Int.toNat_of_nonneg m3).symm
      have bn : n.b = ((n.b.toNat : Nat) : Int) := (Int.toNat_of_nonneg m5).symm
      have hla := hL n.a.toNat (by omega)
      have hlb := hL n.b.toNat (by omega)
      have lta : n.a.toNat < L.length := by rw [List.getElem?_eq_some_iff] at hla; exact hla.1
      have ltb : n.b.toNat < L.length := by rw [List.getElem?_eq_some_iff] at hlb; exact hlb.1
      have ixa := hS.ix (m := 0) (k := .i64) lta
      have ixb := hS.ix (m := 0) (k := .i64) ltb
      rw [← an] at ixa
      rw [← bn] at ixb
      have lda := fun l => hS.ld1 (H' := H ++ l) Ext.refl.app shape_25 hla
      have ldb := fun l => hS.ld1 (H' := H ++ l) Ext.refl.app shape_25 hlb
      have hop : IntKind.i64.wrap (n.op - 256) = n.op - 256 := by
        simp [alus] at m1
        rw [wrap64 (by omega) (by omega)]
      simp -implicitDefEqProofs only [↓gP, gQ, ↓reduceIte, Nat.reduceAdd, Nat.reduceEqDiff, Nat.reduceLT, Nat.reduceLeDiff, Int.reduceEq, h0, h1, h2, g1, g2, ixa, ixb, lda, ldb, hop]
      refine CS_fn (alu_spec _ _ _ _ (hd _) (hd _)) ?_
      rintro _ H2 ⟨rfl, rfl⟩
      simp -implicitDefEqProofs only [↓gP, gQ, ↓reduceIte, Nat.reduceAdd, Nat.reduceEqDiff, Nat.reduceLT, Nat.reduceLeDiff, Int.reduceEq]
      refine ⟨?_, Ext.refl.app⟩
      simp only [valN, g1, g2, if_false]
end Go.Va
end

section
set_option linter.unusedSimpArgs false
set_option linter.unusedVariables false
set_option linter.unusedSectionVars false
namespace Go.Va
open Go.Proofs

/-- The values of a row, the first m of them. -/
def valsL (l : List Nd) (rc : Nat → Nat) : Nat → List Nat
  | 0 => []
  | m + 1 => valsL l rc m ++ [match l[m]? with
    | some n => valN n (fun j => (valsL l rc m).getD j 0) rc
    | none => 0]
theorem valsL_len {l : List Nd} {rc : Nat → Nat} : ∀ m, (valsL l rc m).length = m
  | 0 => rfl
  | m + 1 => by simp [valsL, valsL_len m]
def W32 (l : List Nat) : List AV := l.map fun x => .int .u32 (x : Nat)
theorem W32_len {l : List Nat} : (W32 l).length = l.length := by simp [W32]

theorem aluN_lt {op : Int} {a b : Nat} (ha : a < 4294967296) (hb : b < 4294967296) : (aluN op a b).1 < 4294967296 := by
  have h1 := Nat.div_le_self a b
  have h2 := Nat.div_le_self a (2 ^ (b % 32))
  have h3 : a ||| b < 2 ^ 32 := Nat.or_lt_two_pow ha hb
  have h4 : a &&& b < 2 ^ 32 := Nat.and_lt_two_pow _ hb
  have h5 : a ^^^ b < 2 ^ 32 := Nat.xor_lt_two_pow ha hb
  unfold aluN
  repeat' split
  all_goals simp only
  all_goals first | omega | exact Nat.mod_lt _ (by decide)
theorem valN_lt {n : Nd} {done rc : Nat → Nat} (hn : n.ok) (hd : ∀ j, done j < 4294967296) (hr : ∀ j, rc j < 4294967296) : valN n done rc < 4294967296 := by
  obtain ⟨k1, k2, -, -⟩ := hn
  unfold valN
  split
  · omega
  · split
    · exact hr _
    · exact aluN_lt (hd _) (hd _)
theorem valsL_lt {l : List Nd} {rc : Nat → Nat} (hl : ∀ n ∈ l, n.ok) (hr : ∀ j, rc j < 4294967296) : ∀ m j, (valsL l rc m).getD j 0 < 4294967296
  | 0, j => by simp [valsL]
  | m + 1, j => by
    have ih := valsL_lt hl hr m
    simp only [valsL, List.getD_eq_getElem?_getD]
    rw [List.getElem?_append]
    split
    · have := ih j; rwa [List.getD_eq_getElem?_getD] at this
    · cases hj : j - (valsL l rc m).length with
      | zero =>
        simp only [List.getElem?_cons_zero, Option.getD_some]
        cases hm : l[m]? with
        | none => simp
        | some n => exact valN_lt (hl n (List.mem_of_getElem? hm)) ih hr
      | succ k => simp
end Go.Va
end

section
set_option linter.unusedSimpArgs false
set_option linter.unusedVariables false
set_option linter.unusedSectionVars false
namespace Go.Va
open Go.Proofs

def rowI (vs : List Nat) (n : Nat) : List AV := W32 vs ++ List.replicate (n - vs.length) (.int .u32 0)
theorem rowI_len {vs : List Nat} {n : Nat} (h : vs.length ≤ n) : (rowI vs n).length = n := by simp [rowI, W32_len]; omega
theorem rowI_get {vs : List Nat} {n j : Nat} (h : j < vs.length) : (rowI vs n)[j]? = some (.int .u32 (vs.getD j 0 : Nat)) := by
  unfold rowI
  rw [List.getElem?_append_left (by rw [W32_len]; exact h)]
  simp [W32, List.getElem?_eq_getElem h]
theorem rowI_set {vs : List Nat} {n x : Nat} (h : vs.length < n) : (rowI vs n).set vs.length (.int .u32 (x : Nat)) = rowI (vs ++ [x]) n := by
  unfold rowI
  rw [List.set_append_right _ _ (by rw [W32_len]; exact Nat.le_refl _), W32_len, Nat.sub_self]
  have e : n - vs.length = (n - (vs ++ [x]).length) + 1 := by simp; omega
  rw [e, List.replicate_succ, List.set_cons_zero]
  simp [W32]
theorem rowI_full {vs : List Nat} : rowI vs vs.length = W32 vs := by simp [rowI]
theorem rowI_zero {n : Nat} : zeros [AV.int .u32 0] n = rowI [] n := by
  simp only [rowI, zeros, W32]
  induction n with
  | zero => rfl
  | succ n ih => simp only [List.replicate_succ, List.flatten_cons]; simp [ih, List.replicate_succ]

/-- A record's cells. -/
def RecOk (rcs : List AV) (rc : Nat → Nat) : Prop := rcs.length = 16 ∧ ∀ j, j < 16 → rcs[j]? = some (.int .u32 (rc j : Nat))

theorem firstBad_none {l : List Nd} : ∀ {k : Nat}, firstBad l k = none → ∀ i (h : i < l.length), mayB l[i] (k + i : Nat) = true := by
  induction l with
  | nil => intro k _ i h; simp at h
  | cons n l ih =>
    intro k hk i h
    simp only [firstBad] at hk
    split at hk
    · rename_i hm
      cases i with
      | zero => exact hm
      | succ i =>
        have := ih hk i (by simpa using h)
        rw [show k + (i + 1) = k + 1 + i by omega]; exact this
    · cases hk
theorem checkP_ok {l : List Nd} (h : (checkP l).2 = 0) : l.length ≤ 65536 ∧ ∀ i (h : i < l.length), mayB l[i] i = true := by
  unfold checkP at h
  split at h
  · cases h
  · rename_i h1
    split at h
    · cases h
    · rename_i h2
      refine ⟨by omega, fun i hi => ?_⟩
      have := firstBad_none h2 i hi
      rwa [Nat.zero_add] at this

theorem values_spec (l : List Nd) (v : AV) (rcs : List AV) (rc : Nat → Nat) (H : Heap) (hl : ∀ n ∈ l, n.ok) (hrc : ∀ j, rc j < 4294967296) (hS : Shows H v 4 (l.map Nd.c)) (hr : RecOk rcs rc) :
    F X 50 [v, .agg rcs] H (fun r H' => Ext H H' ∧ if (checkP l).2 ≠ 0 then r = .tup [.nilsl, .int .i64 3] else
      ∃ id born, H.length ≤ id ∧ r = .tup [.sl id 0 l.length l.length 1, .int .i64 0] ∧ born ≤ l.length ∧ H'[id]? = some (.cells (W32 (valsL l rc l.length)) 25 born false)) := by
  refine F_slim S50_eq rfl fun ρ hρ => ?_
  simp only [AGs] at hρ
  obtain ⟨h0, h1, -⟩ := hρ
  have hlen := hS.lenA isSl_22
  rw [List.length_map] at hlen
  simp -implicitDefEqProofs only [↓gP, gQ, ↓reduceIte, Nat.reduceAdd, Nat.reduceEqDiff, Nat.reduceLT, Nat.reduceLeDiff, Int.reduceEq, S50, h0, h1]
  refine CS_fn (asked_spec l [] v .nilsl _ (hS.ext Ext.refl.app) ⟨by simp [I1], rfl⟩ (by decide)) ?_
  rintro _ H1 ⟨rfl, hE1⟩
  have hrec : H1[H.length]? = some (.cells rcs 27 0 false) := hE1 _ _ hp_get0
  have hE0 : Ext H H1 := Ext.refl.app.trans hE1
  simp -implicitDefEqProofs only [↓gP, gQ, ↓reduceIte, Nat.reduceAdd, Nat.reduceEqDiff, Nat.reduceLT, Nat.reduceLeDiff, Int.reduceEq, h0, h1]
  refine Br_dec (fun h => ?_) (fun h => ?_)
  · have hc : (checkP l).2 = 0 := by
      unfold askP at h; split at h
      · cases h
      · rename_i hh; simpa using hh
    simp -implicitDefEqProofs only [↓gP, gQ, ↓reduceIte, Nat.reduceAdd, Nat.reduceEqDiff, Nat.reduceLT, Nat.reduceLeDiff, Int.reduceEq, h0, h1, hlen]
    obtain ⟨hn, hmay⟩ := checkP_ok hc
    have hmk := mkSl (H := H1) (k := .i64) (k' := .i64) (n := l.length) slT_69 (by omega) (by omega) rfl (by omega)
    rw [rowI_zero, Nat.mul_one] at hmk
    simp -implicitDefEqProofs only [↓gP, gQ, ↓reduceIte, Nat.reduceAdd, Nat.reduceEqDiff, Nat.reduceLT, Nat.reduceLeDiff, Int.reduceEq, h0, h1, hlen, hmk]
    refine loop_rule (fun k ρ' H' D' => ∃ i born, k = l.length - i ∧ i ≤ l.length ∧ ρ' 20 = .int .i64 (i : Nat) ∧ ρ' 19 = .int .i64 (l.length : Nat) ∧ ρ' 18 = v ∧ ρ' 7 = .sl H1.length 0 l.length l.length 1 ∧ ρ' 3 = .ptr H.length 0 16 ∧
        Ext H1 H' ∧ born ≤ l.length ∧ H'[H1.length]? = some (.cells (rowI (valsL l rc i) l.length) 25 born false) ∧ D' = []) l.length
      ⟨0, 0, by simp, by simp, by simp only [up_get]; rfl, by simp only [up_get]; rfl, by simp only [up_get]; rfl, by simp only [up_get]; rfl, by simp only [up_get]; rw [hr.1]; rfl,
        Ext.refl.app, by omega, hp_get0, rfl⟩ ?_
    rintro k ρ' H' D' ⟨i, born, hk, hi, e20, e19, e18, e7, e3, hE, hborn, hobj, rfl⟩
    have hid : H1.length < H'.length := by rw [List.getElem?_eq_some_iff] at hobj; exact hobj.1
    simp -implicitDefEqProofs only [↓gP, gQ, ↓reduceIte, Nat.reduceAdd, Nat.reduceEqDiff, Nat.reduceLT, Nat.reduceLeDiff, Int.reduceEq, S50L1, e20, e19, e18, e7, e3]
    refine Br_dec (fun g => ?_) (fun g => ?_)
    · have hi' : i < l.length := by omega
      have hi1 : i + 1 ≤ l.length := hi'
      have hEn : Ext H H' := hE0.trans hE
      have hx := hS.ix (m := 0) (k := .i64) (i := i) (by rw [List.length_map]; exact hi')
      have hld := hS.ld hEn shape_52 (i := i) (by rw [List.length_map]; exact hi')
      rw [List.getElem_map] at hld
      simp -implicitDefEqProofs only [↓gP, gQ, ↓reduceIte, Nat.reduceAdd, Nat.reduceEqDiff, Nat.reduceLT, Nat.reduceLeDiff, Int.reduceEq, e20, e19, e18, e7, e3, hx, hld, Nd.c]
      have hvl : (valsL l rc i).length = i := valsL_len i
      have hrl : (rowI (valsL l rc i) l.length).length = l.length := rowI_len (by omega)
      have hE' : Ext H' (H' ++ [AObj.cells [AV.int .i64 l[i].op, AV.int .i64 l[i].a, AV.int .i64 l[i].b, AV.int .u32 l[i].k] 52 4 false]) := Ext.refl.app
      refine CS_fn (nval_spec l[i] i (fun j => (valsL l rc i).getD j 0) rc _ _ H.length 0 rcs _ _ _ (hl _ (List.getElem_mem hi')) (hmay i hi') (valsL_lt hl hrc i)
        ((shows_own hobj (by rw [hrl]; exact hborn) hrl).ext hE') ?_ (hE' _ _ (hE _ _ hrec)) (by omega) hr.1 hr.2) ?_
      · intro j hj
        rw [List.getElem?_map, rowI_get (by omega)]; rfl
      rintro _ H2 ⟨rfl, hE2⟩
      have hobj2 := hE2 _ _ (hE' _ _ hobj)
      have hid2 : H1.length < H2.length := by rw [List.getElem?_eq_some_iff] at hobj2; exact hobj2.1
      simp -implicitDefEqProofs only [↓gP, gQ, ↓reduceIte, Nat.reduceAdd, Nat.reduceEqDiff, Nat.reduceLT, Nat.reduceLeDiff, Int.reduceEq, e20, e19, e18, e7, e3, ix_own1 hi', hobj2, hrl, hborn, hi1]
      have hset : (rowI (valsL l rc i) l.length).set i (.int .u32 (valN l[i] (fun j => (valsL l rc i).getD j 0) rc : Nat)) = rowI (valsL l rc (i + 1)) l.length := by
        have := rowI_set (vs := valsL l rc i) (n := l.length) (x := valN l[i] (fun j => (valsL l rc i).getD j 0) rc) (by omega)
        rw [hvl] at this
        rw [this]
        simp only [valsL, List.getElem?_eq_getElem hi']
      rw [hset]
      refine ⟨l.length - (i + 1), by omega, i + 1, l.length, rfl, hi', ?_, by trivial, by trivial, by trivial, by trivial, ((hE.trans hE').trans hE2).set (Nat.le_refl _), Nat.le_refl _, by rw [List.getElem?_set_self hid2], by trivial⟩
      rw [wrap64 (by omega) (by omega)]; rfl
    · have : i = l.length := by omega
      subst this
      simp -implicitDefEqProofs only [↓gP, gQ, ↓reduceIte, Nat.reduceAdd, Nat.reduceEqDiff, Nat.reduceLT, Nat.reduceLeDiff, Int.reduceEq, e20, e19, e18, e7, e3]
      refine ⟨hE0.trans hE, ?_⟩
      rw [if_neg (by simpa using hc)]
      refine ⟨H1.length, born, ?_, rfl, hborn, ?_⟩
      · exact hE0.len
      · have := rowI_full (vs := valsL l rc l.length)
        rw [valsL_len] at this
        rw [← this]; exact hobj
  · have hc : ¬ (checkP l).2 = 0 := by
      intro hc; apply h; simp [askP, hc]
    simp -implicitDefEqProofs only [↓gP, gQ, ↓reduceIte, Nat.reduceAdd, Nat.reduceEqDiff, Nat.reduceLT, Nat.reduceLeDiff, Int.reduceEq, h0, h1]
    refine ⟨hE0, ?_⟩
    rw [if_pos hc]
    simp [askP, hc]
end Go.Va
end

section
set_option linter.unusedSimpArgs false
set_option linter.unusedVariables false
set_option linter.unusedSectionVars false
namespace Go.Va
open Go.Proofs

/-- The address of a field of a slice's element. -/
def elemF (v : AV) (i o : Nat) : AV := match elemP v i with
  | .ptr id off ver => .ptr id (off + o) ver
  | _ => .dead
theorem elemP_fa {P : Program} {s : TypeId} {v : AV} {i f : Nat} {H : Heap} {sz : Nat} {L : List (List AV)} (h : Shows H v sz L) (hi : i < L.length) : fieldAddrA P s (elemP v i) f = (fOff P s f).map (elemF v i) := by
  have := h.2
  cases v <;> try exact this.elim
  · have e : L = [] := this
    subst e; simp at hi
  · have e : L = [] := this
    subst e; simp at hi
  · simp only [elemP, fieldAddr_ptr, elemF]
    cases fOff P s f <;> rfl
theorem Shows.ldf {P : Program} {t : TypeId} {H H' : Heap} {v : AV} {sz n : Nat} {L : List (List AV)} {i o : Nat} {x : AV} (h : Shows H v sz L) (he : Ext H H') (ht : shape P t = some (false, n)) (hi : i < L.length) (ho : L[i][o]? = some x) :
    loadP P t H' (elemF v i o) = some x := by
  have := (h.ext he).2
  have hlen := h.1 _ (List.getElem_mem hi)
  have hos : o < sz := by have hh := ho; rw [List.getElem?_eq_some_iff] at hh; have := hh.1; omega
  cases v <;> try exact this.elim
  · have e : L = [] := this
    subst e; simp at hi
  · have e : L = [] := this
    subst e; simp at hi
  · obtain ⟨h1, h2, c, e, born, ro, h3, h4, h5, h6, h7⟩ := this
    simp only [elemF, elemP]
    rw [loadP_ptr, ht, h3]
    rename_i id off len ver z
    subst h1
    have hle : (off + i) * z + z ≤ (off + len) * z := by
      rw [← Nat.succ_mul]; exact Nat.mul_le_mul_right _ (by omega)
    rw [ldO_1 h4 h5 (by omega)]
    have h8 := h7 i hi
    rw [← h8, List.getElem?_take_of_lt hos, List.getElem?_drop] at ho
    exact ho

theorem rowI_pad {vs : List Nat} {n : Nat} (h : vs.length < n) : rowI (vs ++ [0]) n = rowI vs n := by
  unfold rowI
  have e : n - vs.length = (n - (vs ++ [0]).length) + 1 := by simp; omega
  rw [e, List.replicate_succ]
  simp [W32]
theorem alu_neg0 {a b : Nat} : aluN 128 a b = aluN 128 a 0 := by simp [aluN]
theorem alu_no {op : Int} {a b : Nat} (h : (aluN op a b).2 = false) : (aluN op a b).1 = 0 := by
  unfold aluN at h ⊢
  repeat' split at h
  all_goals first | (cases h; done) | (simp_all; done)

theorem rvalues_spec (l : List Nd) (v : AV) (rcs : List AV) (rc : Nat → Nat) (H : Heap) (hl : ∀ n ∈ l, n.ok) (hrc : ∀ j, rc j < 4294967296) (hS : Shows H v 4 (l.map Nd.c)) (hr : RecOk rcs rc) (hc : (checkP l).2 = 0) :
    F X 38 [v, .agg rcs] H (fun r H' => Ext H H' ∧
      ∃ id born, H.length ≤ id ∧ r = .sl id 0 l.length l.length 1 ∧ born ≤ l.length ∧ H'[id]? = some (.cells (W32 (valsL l rc l.length)) 25 born false)) := by
  refine F_slim S38_eq rfl fun ρ hρ => ?_
  simp only [AGs] at hρ
  obtain ⟨h0, h1, -⟩ := hρ
  have hlen := hS.lenA isSl_22
  rw [List.length_map] at hlen
  obtain ⟨hn, hmay⟩ := checkP_ok hc
  have hmk : ∀ H1 : Heap, _ := fun H1 => mkSl (H := H1) (k := .i64) (k' := .i64) (n := l.length) slT_69 (by omega) (by omega) rfl (by omega)
  simp only [rowI_zero, Nat.mul_one] at hmk
  simp -implicitDefEqProofs only [↓gP, gQ, ↓reduceIte, Nat.reduceAdd, Nat.reduceEqDiff, Nat.reduceLT, Nat.reduceLeDiff, Int.reduceEq, S38, h0, h1, hlen, hmk]
  have hout : (H ++ [AObj.cells rcs 27 0 false, AObj.cells (rowI [] l.length) 25 0 false])[H.length + 1]? = some (.cells (rowI [] l.length) 25 0 false) := hp_get
  refine loop_rule (fun k ρ' H' D' => ∃ i born, k = l.length - i ∧ i ≤ l.length ∧ ρ' 6 = .int .i64 (i : Nat) ∧ ρ' 0 = v ∧ ρ' 5 = .sl (H.length + 1) 0 l.length l.length 1 ∧ ρ' 3 = .ptr H.length 0 16 ∧
      Ext (H ++ [.cells rcs 27 0 false]) H' ∧ born ≤ l.length ∧ H'[H.length + 1]? = some (.cells (rowI (valsL l rc i) l.length) 25 born false) ∧ D' = []) l.length
    ⟨0, 0, by simp, by simp, by simp only [up_get]; rfl, by simp only [up_get]; exact h0, by simp only [up_get]; rfl, by simp only [up_get]; rw [hr.1]; rfl, ?_, by omega, hout, rfl⟩ ?_
  · have := (Ext.refl (H := H ++ [AObj.cells rcs 27 0 false])).app (l := [AObj.cells (rowI [] l.length) 25 0 false])
    simpa using this
  rintro k ρ' H' D' ⟨i, born, hk, hi, e6, e0, e5, e3, hE, hborn, hobj, rfl⟩
  have hrec : H'[H.length]? = some (.cells rcs 27 0 false) := hE _ _ hp_get0
  have hE0 : Ext H H' := Ext.refl.app.trans hE
  have hid : H.length + 1 < H'.length := by rw [List.getElem?_eq_some_iff] at hobj; exact hobj.1
  simp -implicitDefEqProofs only [↓gP, gQ, ↓reduceIte, Nat.reduceAdd, Nat.reduceEqDiff, Nat.reduceLT, Nat.reduceLeDiff, Int.reduceEq, S38L1, e6, e0, e5, e3, hlen]
  refine Br_dec (fun g => ?_) (fun g => ?_)
  · have hi' : i < l.length := by omega
    have hi1 : i + 1 ≤ l.length := hi'
    have hiL : i < (l.map Nd.c).length := by rw [List.length_map]; exact hi'
    have hx := hS.ix (m := 0) (k := .i64) (i := i) hiL
    have hfa := fun f => elemP_fa (P := Try.prog) (s := 52) (f := f) hS hiL
    have hop := hS.ldf hE0 shape_3 hiL (o := 0) (x := .int .i64 l[i].op) (by rw [List.getElem_map]; rfl)
    have hpa := hS.ldf hE0 shape_3 hiL (o := 1) (x := .int .i64 l[i].a) (by rw [List.getElem_map]; rfl)
    have hpb := hS.ldf hE0 shape_3 hiL (o := 2) (x := .int .i64 l[i].b) (by rw [List.getElem_map]; rfl)
    have hpk := hS.ldf hE0 shape_25 hiL (o := 3) (x := .int .u32 l[i].k) (by rw [List.getElem_map]; rfl)
    have hvl : (valsL l rc i).length = i := valsL_len i
    have hrl : (rowI (valsL l rc i) l.length).length = l.length := rowI_len (by omega)
    obtain ⟨k1, k2, -, -⟩ := hl _ (List.getElem_mem hi')
    have hm := hmay i hi'
    have hdl := valsL_lt hl hrc i
    have fin : ∀ (x : Nat) (H2 : Heap), Ext H' H2 → x = valN l[i] (fun j => (valsL l rc i).getD j 0) rc → ∀ H3, H3 = H2.set (H.length + 1) (.cells ((rowI (valsL l rc i) l.length).set i (.int .u32 (x : Nat))) 25 l.length false) →
        Ext (H ++ [.cells rcs 27 0 false]) H3 ∧ H3[H.length + 1]? = some (.cells (rowI (valsL l rc (i + 1)) l.length) 25 l.length false) := by
      rintro x H2 hE2 rfl H3 rfl
      have hobj2 := hE2 _ _ hobj
      have hid2 : H.length + 1 < H2.length := by rw [List.getElem?_eq_some_iff] at hobj2; exact hobj2.1
      refine ⟨(hE.trans hE2).set (by simp), ?_⟩
      rw [List.getElem?_set_self hid2]
      have := rowI_set (vs := valsL l rc i) (n := l.length) (x := valN l[i] (fun j => (valsL l rc i).getD j 0) rc) (by omega)
      rw [hvl] at this
      rw [this]
      simp only [valsL, List.getElem?_eq_getElem hi']
    simp -implicitDefEqProofs only [↓gP, gQ, ↓reduceIte, Nat.reduceAdd, Nat.reduceEqDiff, Nat.reduceLT, Nat.reduceLeDiff, Int.reduceEq, e6, e0, e5, e3, hx, hfa, hop]
    have hpk' : loadP Try.prog 25 H' (elemF v i 3) = some (.int .u32 ((l[i].k.toNat : Nat) : Int)) := by rw [Int.toNat_of_nonneg k1]; exact hpk
    refine Br_dec (fun g1 => ?_) (fun g1 => ?_) <;> simp -implicitDefEqProofs only [↓gP, gQ, ↓reduceIte, Nat.reduceAdd, Nat.reduceEqDiff, Nat.reduceLT, Nat.reduceLeDiff, Int.reduceEq, e6, e0, e5, e3, hx, hfa, hop, hpk', ix_own1 hi', hobj, hrl, hborn, hi1, g1]
    · obtain ⟨d1, d2⟩ := fin l[i].k.toNat H' Ext.refl (by simp only [valN, g1, if_true]) _ rfl
      refine ⟨l.length - (i + 1), by omega, i + 1, l.length, rfl, hi', ?_, by trivial, by trivial, by trivial, d1, Nat.le_refl _, d2, by trivial⟩
      rw [wrap64 (by omega) (by omega)]; rfl
    · refine Br_dec (fun g2 => ?_) (fun g2 => ?_)
      · have k3 := may_word hm g2
        have k4 : l[i].k.toNat < 16 := by omega
        have hix : ixO (some (false, 16, 1)) (.ptr H.length 0 16) (.int .u32 ((l[i].k.toNat : Nat) : Int)) = some (.ptr H.length l[i].k.toNat 16) := by
          rw [ixO_arr (by omega) (by omega)]; simp only [Int.toNat_natCast, Nat.mul_one, Nat.zero_add]
        have hg := hr.2 _ k4
        have hle : 16 ≤ rcs.length := by rw [hr.1]; exact Nat.le_refl _
        simp -implicitDefEqProofs only [↓gP, gQ, ↓reduceIte, Nat.reduceAdd, Nat.reduceEqDiff, Nat.reduceLT, Nat.reduceLeDiff, Int.reduceEq, e6, e0, e5, e3, hx, hfa, hop, hpk', ix_own1 hi', hobj, hrl, hborn, hi1, g1, g2, hix, hrec, hle, k4, hg]
        obtain ⟨d1, d2⟩ := fin (rc l[i].k.toNat) H' Ext.refl (by simp only [valN, g1, g2, if_true, if_false]; rfl) _ rfl
        refine ⟨l.length - (i + 1), by omega, i + 1, l.length, rfl, hi', ?_, by trivial, by trivial, by trivial, d1, Nat.le_refl _, d2, by trivial⟩
        rw [wrap64 (by omega) (by omega)]; rfl
      · obtain ⟨m1, m2, m3, m4, m5, m6⟩ := may_alu hm g1 g2
        have an : l[i].a = ((l[i].a.toNat : Nat) : Int) := (Int.toNat_of_nonneg m3).symm
        have bn : l[i].b = ((l[i].b.toNat : Nat) : Int) := (Int.toNat_of_nonneg m5).symm
        have hop' : IntKind.i64.wrap (l[i].op - 256) = l[i].op - 256 := by
          simp [alus] at m1
          rw [wrap64 (by omega) (by omega)]
        have hpa' : loadP Try.prog 3 H' (elemF v i 1) = some (.int .i64 ((l[i].a.toNat : Nat) : Int)) := by rw [← an]; exact hpa
        have hpb' : loadP Try.prog 3 H' (elemF v i 2) = some (.int .i64 ((l[i].b.toNat : Nat) : Int)) := by rw [← bn]; exact hpb
        have ha1 : l[i].a.toNat < l.length := by omega
        have hb1 : l[i].b.toNat < l.length := by omega
        have hga := rowI_get (vs := valsL l rc i) (n := l.length) (j := l[i].a.toNat) (by omega)
        have hgb := rowI_get (vs := valsL l rc i) (n := l.length) (j := l[i].b.toNat) (by omega)
        have hv : valN l[i] (fun j => (valsL l rc i).getD j 0) rc = (aluN (l[i].op - 256) ((valsL l rc i).getD l[i].a.toNat 0) ((valsL l rc i).getD l[i].b.toNat 0)).1 := by simp only [valN, g1, g2, if_false]
        simp -implicitDefEqProofs only [↓gP, gQ, ↓reduceIte, Nat.reduceAdd, Nat.reduceEqDiff, Nat.reduceLT, Nat.reduceLeDiff, Int.reduceEq, e6, e0, e5, e3, hx, hfa, hop, hpa', hpb', ix_own1 hi', ix_own1 ha1, ix_own1 hb1, hobj, hrl, hborn, hi1, ha1, hb1, hga, hgb, g1, g2, hop']
        refine Br_dec (fun g3 => ?_) (fun g3 => ?_) <;> simp -implicitDefEqProofs only [↓gP, gQ, ↓reduceIte, Nat.reduceAdd, Nat.reduceEqDiff, Nat.reduceLT, Nat.reduceLeDiff, Int.reduceEq, e6, e0, e5, e3, hx, hfa, hop, hpa', hpb', ix_own1 hi', ix_own1 ha1, ix_own1 hb1, hobj, hrl, hborn, hi1, ha1, hb1, hga, hgb, g1, g2, hop', g3]
        · refine CS_fn (ralu_spec 128 _ 0 _ (hdl l[i].a.toNat) (by decide)) ?_
          rintro _ H2 ⟨rfl, hE2⟩
          have hobj2 := hE2 _ _ hobj
          simp -implicitDefEqProofs only [↓gP, gQ, ↓reduceIte, Nat.reduceAdd, Nat.reduceEqDiff, Nat.reduceLT, Nat.reduceLeDiff, Int.reduceEq, e6, e0, e5, e3, hx, hfa, hop, hpa', hpb', ix_own1 hi', ix_own1 ha1, ix_own1 hb1, hobj, hrl, hborn, hi1, ha1, hb1, hga, hgb, g1, g2, hop', g3, hobj2]
          obtain ⟨d1, d2⟩ := fin (aluN 128 ((valsL l rc i).getD l[i].a.toNat 0) 0).1 H2 hE2 (by rw [hv, g3]; exact (congrArg Prod.fst alu_neg0).symm) _ rfl
          refine ⟨l.length - (i + 1), by omega, i + 1, l.length, rfl, hi', ?_, by trivial, by trivial, by trivial, d1, Nat.le_refl _, d2, by trivial⟩
          rw [wrap64 (by omega) (by omega)]; rfl
        · refine CS_fn (ralu_spec _ _ _ _ (hdl l[i].a.toNat) (hdl l[i].b.toNat)) ?_
          rintro _ H2 ⟨rfl, hE2⟩
          have hobj2 := hE2 _ _ hobj
          simp -implicitDefEqProofs only [↓gP, gQ, ↓reduceIte, Nat.reduceAdd, Nat.reduceEqDiff, Nat.reduceLT, Nat.reduceLeDiff, Int.reduceEq, e6, e0, e5, e3, hx, hfa, hop, hpa', hpb', ix_own1 hi', ix_own1 ha1, ix_own1 hb1, hobj, hrl, hborn, hi1, ha1, hb1, hga, hgb, g1, g2, hop', g3, hobj2]
          refine Br_bool (fun g4 => ?_) (fun g4 => ?_) <;> simp -implicitDefEqProofs only [↓gP, gQ, ↓reduceIte, Nat.reduceAdd, Nat.reduceEqDiff, Nat.reduceLT, Nat.reduceLeDiff, Int.reduceEq, e6, e0, e5, e3, hx, hfa, hop, hpa', hpb', ix_own1 hi', ix_own1 ha1, ix_own1 hb1, hobj, hrl, hborn, hi1, ha1, hb1, hga, hgb, g1, g2, hop', g3, hobj2, g4]
          · obtain ⟨d1, d2⟩ := fin _ H2 hE2 hv.symm _ rfl
            refine ⟨l.length - (i + 1), by omega, i + 1, l.length, rfl, hi', ?_, by trivial, by trivial, by trivial, d1, Nat.le_refl _, d2, by trivial⟩
            rw [wrap64 (by omega) (by omega)]; rfl
          · have hz : valsL l rc (i + 1) = valsL l rc i ++ [0] := by
              simp only [valsL, List.getElem?_eq_getElem hi']
              rw [hv, alu_no g4]
            refine ⟨l.length - (i + 1), by omega, i + 1, born, rfl, hi', ?_, by trivial, by trivial, by trivial, hE.trans hE2, hborn, ?_, by trivial⟩
            · rw [wrap64 (by omega) (by omega)]; rfl
            · rw [hz, rowI_pad (by omega)]
  · have : i = l.length := by omega
    subst this
    simp -implicitDefEqProofs only [↓gP, gQ, ↓reduceIte, Nat.reduceAdd, Nat.reduceEqDiff, Nat.reduceLT, Nat.reduceLeDiff, Int.reduceEq, e6, e0, e5, e3]
    refine ⟨hE0, H.length + 1, born, by omega, rfl, hborn, ?_⟩
    have := rowI_full (vs := valsL l rc l.length)
    rw [valsL_len] at this
    rw [← this]; exact hobj

end Go.Va
end

section
set_option linter.unusedSimpArgs false
set_option linter.unusedVariables false
set_option linter.unusedSectionVars false
namespace Go.Va
open Go.Proofs

theorem Shows.pre {P : Program} {t e : TypeId} {bytes : Nat} {z : List AV} {H : Heap} {v : AV} {sz n : Nat} {k : IntKind} {L : List (List AV)} (h : Shows H v sz L) (hT : slT P t = some (e, sz, bytes, z)) (hn : n ≤ L.length) :
    ∃ v', sliceA P t v none (some (.int k (n : Int))) = some v' ∧ Shows H v' sz (L.take n) := by
  obtain ⟨hu, i, zz, hi, hz, h1, h2, h3⟩ := slT_inv hT
  have := h.2
  have hm : ∀ x ∈ L.take n, x.length = sz := fun x hx => h.1 x (List.mem_of_mem_take hx)
  unfold sliceA
  rw [hu]
  cases v <;> try exact this.elim
  · have e : L = [] := this
    subst e
    have : n = 0 := by simpa using hn
    subst this
    exact ⟨.nilsl, by simp [boundA, hi], hm, by simp⟩
  · have e : L = [] := this
    subst e
    have : n = 0 := by simpa using hn
    subst this
    exact ⟨.esl, by simp [boundA, hi], hm, by simp⟩
  · obtain ⟨g1, g2, c, e', born, ro, g3, g4, g5, g6, g7⟩ := this
    rename_i id off len ver z'
    subst g1
    refine ⟨.sl id off n ver z', ?_, hm, rfl, by rw [List.length_take]; omega, c, e', born, ro, g3, g4, g5, ?_, ?_⟩
    · simp only [boundA, hi]
      rw [if_pos (by omega)]
      simp only [Int.toNat_natCast]
      rw [if_pos ⟨by omega, by omega, h1⟩]
      simp
    · have : (off + n) * z' ≤ (off + len) * z' := Nat.mul_le_mul_right _ (by omega)
      omega
    · intro j hj
      rw [List.length_take] at hj
      rw [List.getElem_take]
      exact g7 j (by omega)

theorem firstBad_of {l : List Nd} : ∀ {k : Nat}, (∀ i (h : i < l.length), mayB l[i] (k + i : Nat) = true) → firstBad l k = none := by
  induction l with
  | nil => intro k _; rfl
  | cons n l ih =>
    intro k h
    simp only [firstBad]
    have h00 : mayB n (k : Nat) = true := h 0 (by simp)
    rw [if_pos h00]
    refine ih fun i hi => ?_
    have := h (i + 1) (by simpa using hi)
    rw [show k + 1 + i = k + (i + 1) by omega]; exact this
theorem checkP_of {l : List Nd} (h1 : l.length ≤ 65536) (h2 : ∀ i (h : i < l.length), mayB l[i] i = true) : (checkP l).2 = 0 := by
  have : firstBad l 0 = none := firstBad_of fun i h => by rw [Nat.zero_add]; exact h2 i h
  unfold checkP
  rw [if_neg (by omega), this]
theorem checkP_take {l : List Nd} (n : Nat) (h : (checkP l).2 = 0) : (checkP (l.take n)).2 = 0 := by
  obtain ⟨h1, h2⟩ := checkP_ok h
  refine checkP_of (by rw [List.length_take]; omega) fun i hi => ?_
  rw [List.getElem_take]
  exact h2 i (by rw [List.length_take] at hi; omega)
theorem valsL_take {l : List Nd} {rc : Nat → Nat} {n : Nat} : ∀ m, m ≤ n → valsL (l.take n) rc m = valsL l rc m
  | 0, _ => rfl
  | m + 1, h => by
    have ih := valsL_take (l := l) (rc := rc) (n := n) m (by omega)
    simp only [valsL]
    rw [ih, List.getElem?_take_of_lt (show m < n by omega)]
end Go.Va
end

section
set_option linter.unusedSimpArgs false
set_option linter.unusedVariables false
set_option linter.unusedSectionVars false
namespace Go.Va
open Go.Proofs

theorem ldO_rec {rcs : List AV} {e : TypeId} {born : Nat} {ro : Bool} (h : rcs.length = 16) (hb : born ≤ 16) : ldO (some (true, 16)) (some (.cells rcs e born ro)) 0 16 = some (.agg rcs) := by
  rw [ldO_ag hb (by omega) (by omega), List.drop_zero, List.take_of_length_le (by omega)]

theorem askP_ok1 {l : List Nd} {p : Int} (h : askP l [p] = 0) : (checkP l).2 = 0 ∧ 0 ≤ p ∧ p < l.length := by
  unfold askP at h
  split at h
  · cases h
  · rename_i h1
    split at h
    · cases h
    · rename_i h2
      simp at h1 h2
      exact ⟨h1, by omega, by omega⟩

theorem valsL_get {l : List Nd} {rc : Nat → Nat} {m j : Nat} (hj : j < m) : ∀ {M : Nat}, m ≤ M → (valsL l rc M).getD j 0 = (valsL l rc m).getD j 0
  | 0, h => by omega
  | M + 1, h => by
    rcases Nat.eq_or_lt_of_le h with h' | h'
    · rw [h']
    · rw [← valsL_get hj (M := M) (by omega)]
      simp only [valsL, List.getD_eq_getElem?_getD]
      rw [List.getElem?_append_left (by rw [valsL_len]; omega)]

end Go.Va
end

section
set_option linter.unusedSimpArgs false
set_option linter.unusedVariables false
set_option linter.unusedSectionVars false
namespace Go.Va
open Go.Proofs

theorem Shows.nodes {H : Heap} {v : AV} {l : List Nd} (h : Shows H v 4 (l.map Nd.c)) :
    (∀ m k (i : Nat), i < l.length → ixO (some (true, m, 4)) v (.int k (i : Nat)) = some (elemP v i)) ∧
    (∀ f (i : Nat), i < l.length → fieldAddrA Try.prog 52 (elemP v i) f = (fOff Try.prog 52 f).map (elemF v i)) ∧
    (∀ H' (i : Nat) (hi : i < l.length), Ext H H' → loadP Try.prog 3 H' (elemF v i 0) = some (.int .i64 l[i].op)) ∧
    (∀ H' (i : Nat) (hi : i < l.length), Ext H H' → loadP Try.prog 3 H' (elemF v i 1) = some (.int .i64 l[i].a)) ∧
    (∀ H' (i : Nat) (hi : i < l.length), Ext H H' → loadP Try.prog 3 H' (elemF v i 2) = some (.int .i64 l[i].b)) ∧
    (∀ H' (i : Nat) (hi : i < l.length), Ext H H' → loadP Try.prog 25 H' (elemF v i 3) = some (.int .u32 l[i].k)) ∧
    (∀ H' (i : Nat) (hi : i < l.length), Ext H H' → loadP Try.prog 52 H' (elemP v i) = some (.agg [.int .i64 l[i].op, .int .i64 l[i].a, .int .i64 l[i].b, .int .u32 l[i].k])) := by
  have hL : ∀ i, i < l.length → i < (l.map Nd.c).length := fun i hi => by rw [List.length_map]; exact hi
  refine ⟨fun m k i hi => h.ix (hL i hi), fun f i hi => elemP_fa h (hL i hi), fun H' i hi hE => h.ldf hE shape_3 (hL i hi) (o := 0) (by rw [List.getElem_map]; rfl), fun H' i hi hE => h.ldf hE shape_3 (hL i hi) (o := 1) (by rw [List.getElem_map]; rfl),
    fun H' i hi hE => h.ldf hE shape_3 (hL i hi) (o := 2) (by rw [List.getElem_map]; rfl), fun H' i hi hE => h.ldf hE shape_25 (hL i hi) (o := 3) (by rw [List.getElem_map]; rfl), fun H' i hi hE => ?_⟩
  have := h.ld hE shape_52 (hL i hi)
  rw [List.getElem_map] at this
  exact this

theorem Shows.ints {H : Heap} {v : AV} {l : List Int} (h : Shows H v 1 (I1 .i64 l)) :
    (∀ m k (i : Nat), i < l.length → ixO (some (true, m, 1)) v (.int k (i : Nat)) = some (elemP v i)) ∧
    (∀ H' (i : Nat) (hi : i < l.length), Ext H H' → loadP Try.prog 3 H' (elemP v i) = some (.int .i64 l[i])) :=
  ⟨fun m k i hi => h.ix (by rw [I1_len]; exact hi), fun H' i hi hE => h.ld1 hE shape_3 (I1_get hi)⟩

/-- A slice of an object from b on, or of none. -/
def Off (b : Nat) : AV → Prop
  | .sl id _ _ _ _ => b ≤ id
  | _ => True
theorem Shows.set_ne {H : Heap} {v : AV} {sz : Nat} {L : List (List AV)} {j : Nat} {o : AObj} (h : Shows H v sz L) (hj : Off (j + 1) v) : Shows (H.set j o) v sz L := by
  refine ⟨h.1, ?_⟩
  have := h.2
  cases v <;> try exact this
  obtain ⟨h1, h2, c, e, born, ro, h3, h4⟩ := this
  have hj' : j + 1 ≤ _ := hj
  exact ⟨h1, h2, c, e, born, ro, by rw [List.getElem?_set_ne (by omega)]; exact h3, h4⟩
theorem Off.mono {a b : Nat} {v : AV} (h : Off b v) (hab : a ≤ b) : Off a v := by
  cases v <;> first | trivial | exact Nat.le_trans hab h

theorem bldSl2 (x y : Int) (H : Heap) : buildSliceA Try.prog 37 2 [(0, .int .i64 x), (1, .int .i64 y)] H = some (.sl H.length 0 2 2 1, H ++ [.cells [.int .i64 x, .int .i64 y] 3 0 false]) := by
  obtain ⟨hu, i, zz, hi, hz, h1, h2, h3⟩ := slT_inv slT_37
  unfold buildSliceA
  rw [hu]
  simp only [hi, hz, h1, h3]
  simp [fillA, zeros, putAll, AV.isDead, AV.cells]

/-- Of what is a node made, by what stands in it. -/
def partsZ (n : Nd) : List Int := if n.op = 1 ∨ n.op = 2 then [] else if n.op = 384 then [n.a] else [n.a, n.b]

theorem shows_lit {H : Heap} {c : List Int} {e : TypeId} {id : Nat} {ro : Bool} (h : H[id]? = some (.cells (c.map (AV.int .i64)) e 0 ro)) : Shows H (.sl id 0 c.length c.length 1) 1 (I1 .i64 c) := by
  have := shows_own (n := c.length) h (Nat.zero_le _) (by simp)
  rw [List.map_map] at this
  exact this

theorem parts_spec (n : Nd) (H : Heap) : F X 99 [n.v] H fun r H' => Ext H H' ∧ Off H.length r ∧ Shows H' r 1 (I1 .i64 (partsZ n)) := by
  refine F_slim S99_eq rfl fun ρ hρ => ?_
  simp only [AGs] at hρ
  obtain ⟨h0, -⟩ := hρ
  simp -implicitDefEqProofs only [↓gP, gQ, ↓reduceIte, Nat.reduceAdd, Nat.reduceEqDiff, Nat.reduceLT, Nat.reduceLeDiff, Int.reduceEq, S99, h0, Nd.v]
  have nil : ∀ H : Heap, Shows H .nilsl 1 (I1 .i64 []) := fun H => ⟨by simp [I1], rfl⟩
  refine Br_dec (fun g1 => ?_) (fun g1 => ?_) <;> simp -implicitDefEqProofs only [↓gP, gQ, ↓reduceIte, Nat.reduceAdd, Nat.reduceEqDiff, Nat.reduceLT, Nat.reduceLeDiff, Int.reduceEq, h0, g1, bld_int]
  · refine ⟨Ext.refl.app, by simp [Off], ?_⟩
    simp only [partsZ, g1, true_or, if_true]; exact nil _
  · refine Br_dec (fun g2 => ?_) (fun g2 => ?_) <;> simp -implicitDefEqProofs only [↓gP, gQ, ↓reduceIte, Nat.reduceAdd, Nat.reduceEqDiff, Nat.reduceLT, Nat.reduceLeDiff, Int.reduceEq, h0, g1, g2, bld_int]
    · refine ⟨Ext.refl.app, by simp [Off], ?_⟩
      simp only [partsZ, g2, or_true, if_true]; exact nil _
    · refine Br_dec (fun g3 => ?_) (fun g3 => ?_) <;> simp -implicitDefEqProofs only [↓gP, gQ, ↓reduceIte, Nat.reduceAdd, Nat.reduceEqDiff, Nat.reduceLT, Nat.reduceLeDiff, Int.reduceEq, h0, g1, g2, g3, bld_int, bldSl2]
      · refine ⟨Ext.refl.app, by simp [Off], ?_⟩
        simp only [partsZ, g3, if_true]
        exact shows_lit (c := [n.a]) hp_get
      · refine ⟨Ext.refl.app, by simp [Off], ?_⟩
        simp only [partsZ, g1, g2, g3, or_self, if_false]
        exact shows_lit (c := [n.a, n.b]) hp_get

theorem rparts_spec (n : Nd) (H : Heap) (hn : 0 < n.op) : F X 72 [n.v] H fun r H' => Ext H H' ∧ Off H.length r ∧ Shows H' r 1 (I1 .i64 (partsZ n)) := by
  refine F_slim S72_eq rfl fun ρ hρ => ?_
  simp only [AGs] at hρ
  obtain ⟨h0, -⟩ := hρ
  simp -implicitDefEqProofs only [↓gP, gQ, ↓reduceIte, Nat.reduceAdd, Nat.reduceEqDiff, Nat.reduceLT, Nat.reduceLeDiff, Int.reduceEq, S72, h0, Nd.v]
  have nil : ∀ H : Heap, Shows H .nilsl 1 (I1 .i64 []) := fun H => ⟨by simp [I1], rfl⟩
  refine Br_dec (fun g1 => ?_) (fun g1 => ?_) <;> simp -implicitDefEqProofs only [↓gP, gQ, ↓reduceIte, Nat.reduceAdd, Nat.reduceEqDiff, Nat.reduceLT, Nat.reduceLeDiff, Int.reduceEq, h0, g1, bld_int]
  · refine ⟨Ext.refl.app, by simp [Off], ?_⟩
    have : n.op = 1 ∨ n.op = 2 := by omega
    simp only [partsZ, this, if_true]; exact nil _
  · have g2 : ¬ (n.op = 1 ∨ n.op = 2) := by omega
    refine Br_dec (fun g3 => ?_) (fun g3 => ?_) <;> simp -implicitDefEqProofs only [↓gP, gQ, ↓reduceIte, Nat.reduceAdd, Nat.reduceEqDiff, Nat.reduceLT, Nat.reduceLeDiff, Int.reduceEq, h0, g1, g3, bld_int, bldSl2]
    · refine ⟨Ext.refl.app, by simp [Off], ?_⟩
      simp only [partsZ, g3, if_true]
      exact shows_lit (c := [n.a]) hp_get
    · refine ⟨Ext.refl.app, by simp [Off], ?_⟩
      simp only [partsZ, g2, g3, if_false]
      exact shows_lit (c := [n.a, n.b]) hp_get
end Go.Va
end

section
set_option linter.unusedSimpArgs false
set_option linter.unusedVariables false
set_option linter.unusedSectionVars false
namespace Go.Va
open Go.Proofs

def B (L : List Bool) : List AV := L.map AV.bool
theorem B_len {L : List Bool} : (B L).length = L.length := by simp [B]
theorem B_set {L : List Bool} {p : Nat} {b : Bool} : (B L).set p (.bool b) = B (L.set p b) := by simp [B, List.map_set]
theorem B_get {L : List Bool} {p : Nat} (h : p < L.length) : (B L)[p]? = some (.bool L[p]) := by simp [B, h]
theorem B_zero {n : Nat} : zeros [AV.bool false] n = B (List.replicate n false) := by
  induction n with
  | zero => rfl
  | succ n ih =>
    have : zeros [AV.bool false] (n + 1) = .bool false :: zeros [AV.bool false] n := by simp [zeros, List.replicate_succ]
    rw [this, ih]; rfl
theorem ix_ownZ {id n ver m : Nat} {k : IntKind} {p : Int} (h0 : 0 ≤ p) (h1 : p < n) : ixO (some (true, m, 1)) (.sl id 0 n ver 1) (.int k p) = some (.ptr id p.toNat ver) := by
  have := ix_own1 (id := id) (n := n) (ver := ver) (m := m) (k := k) (i := p.toNat) (by omega)
  rwa [Int.toNat_of_nonneg h0] at this
theorem own_set {H0 H' : Heap} {id : Nat} {o o' : AObj} (hE : Ext H0 H') (hid : H0.length ≤ id) (ho : H'[id]? = some o) : Ext H0 (H'.set id o') ∧ (H'.set id o')[id]? = some o' := by
  refine ⟨hE.set hid, ?_⟩
  rw [List.getElem?_set_self]
  rw [List.getElem?_eq_some_iff] at ho; exact ho.1

def markZ (L : List Bool) (ps : List Int) : List Bool := ps.foldl (fun L p => L.set p.toNat true) L
theorem markZ_len {ps : List Int} : ∀ {L : List Bool}, (markZ L ps).length = L.length := by
  induction ps with
  | nil => intro L; rfl
  | cons p ps ih => intro L; simp only [markZ, List.foldl_cons] at ih ⊢; rw [ih, List.length_set]
theorem markZ_step {L : List Bool} {ps : List Int} {i : Nat} (h : i < ps.length) : (markZ L (ps.take i)).set ps[i].toNat true = markZ L (ps.take (i + 1)) := by
  rw [List.take_succ_eq_append_getElem h]
  simp only [markZ, List.foldl_append, List.foldl_cons, List.foldl_nil]

def reachP (l : List Nd) : Nat → List Bool → List Bool
  | 0, L => L
  | k + 1, L => reachP l k (if L.getD k false = true then (match l[k]? with
    | some n => markZ L (partsZ n)
    | none => L) else L)
theorem reachP_len {l : List Nd} : ∀ {k : Nat} {L : List Bool}, (reachP l k L).length = L.length
  | 0, _ => rfl
  | k + 1, L => by
    simp only [reachP]
    rw [reachP_len]
    split
    · split
      · exact markZ_len
      · rfl
    · rfl

theorem partsZ_lt {n : Nd} {i : Nat} (h : mayB n i = true) : ∀ p ∈ partsZ n, 0 ≤ p ∧ p < i := by
  intro p hp
  unfold partsZ at hp
  split at hp
  · simp at hp
  · rename_i h1
    have := may_alu h (by omega) (by omega)
    split at hp
    · simp at hp; omega
    · simp at hp; omega


theorem reach_spec (l : List Nd) (roots : List Int) (v w : AV) (H : Heap) (hS : Shows H v 4 (l.map Nd.c)) (hP : Shows H w 1 (I1 .i64 roots)) (hmay : ∀ i (h : i < l.length), mayB l[i] i = true) (hr : ∀ p ∈ roots, 0 ≤ p ∧ p < l.length) (hn : l.length ≤ 65536) (hp : roots.length < 9223372036854775807) :
    F X 92 [v, w] H fun r H' => Ext H H' ∧ ∃ id born, H.length ≤ id ∧ r = .sl id 0 l.length l.length 1 ∧ born ≤ l.length ∧ H'[id]? = some (.cells (B (reachP l l.length (markZ (List.replicate l.length false) roots))) 4 born false) := by
  refine F_slim S92_eq rfl fun ρ hρ => ?_
  simp only [AGs] at hρ
  obtain ⟨h0, h1, -⟩ := hρ
  have hlen := hS.lenA isSl_22
  rw [List.length_map] at hlen
  have hlenp := hP.lenA isSl_37
  rw [I1_len] at hlenp
  obtain ⟨nx, -, -, -, -, -, nld⟩ := hS.nodes
  obtain ⟨px, pld⟩ := hP.ints
  have hmk := mkSl (H := H) (k := .i64) (k' := .i64) (n := l.length) slT_74 (by omega) (by omega) rfl (by omega)
  rw [B_zero, Nat.mul_one] at hmk
  simp -implicitDefEqProofs only [↓gP, gQ, ↓reduceIte, Nat.reduceAdd, Nat.reduceEqDiff, Nat.reduceLT, Nat.reduceLeDiff, Int.reduceEq, S92, h0, h1, hlen, hlenp, hmk]
  refine loop_rule (fun k ρ' H' D' => ∃ i born, k = roots.length - i ∧ i ≤ roots.length ∧ ρ' 16 = .int .i64 (i : Nat) ∧ ρ' 15 = .int .i64 (roots.length : Nat) ∧ ρ' 14 = w ∧ ρ' 5 = .sl H.length 0 l.length l.length 1 ∧ ρ' 0 = v ∧
      Ext H H' ∧ born ≤ l.length ∧ H'[H.length]? = some (.cells (B (markZ (List.replicate l.length false) (roots.take i))) 4 born false) ∧ D' = []) roots.length
    ⟨0, 0, by simp, by simp, by simp only [up_get]; rfl, by simp only [up_get]; rfl, by simp only [up_get]; rfl, by simp only [up_get]; rfl, by simp only [up_get]; exact h0, Ext.refl.app, by omega, hp_get0, rfl⟩ ?_
  rintro k ρ' H' D' ⟨i, born, hk, hi, e16, e15, e14, e5, e0, hE, hborn, hobj, rfl⟩
  simp -implicitDefEqProofs only [↓gP, gQ, ↓reduceIte, Nat.reduceAdd, Nat.reduceEqDiff, Nat.reduceLT, Nat.reduceLeDiff, Int.reduceEq, S92L1, e16, e15, e14, e5, e0]
  have hml : ∀ j, (B (markZ (List.replicate l.length false) (roots.take j))).length = l.length := fun j => by rw [B_len, markZ_len, List.length_replicate]
  refine Br_dec (fun g => ?_) (fun g => ?_)
  · have hi' : i < roots.length := by omega
    obtain ⟨r1, r2⟩ := hr _ (List.getElem_mem hi')
    have r3 : roots[i].toNat + 1 ≤ l.length := by omega
    simp -implicitDefEqProofs only [↓gP, gQ, ↓reduceIte, Nat.reduceAdd, Nat.reduceEqDiff, Nat.reduceLT, Nat.reduceLeDiff, Int.reduceEq, e16, e15, e14, e5, e0, px, pld, hi', hE, ix_ownZ r1 r2, hobj, hml, hborn, r3]
    obtain ⟨d1, d2⟩ := own_set hE (Nat.le_refl _) hobj (o' := .cells ((B (markZ (List.replicate l.length false) (roots.take i))).set roots[i].toNat (.bool true)) 4 l.length false)
    rw [B_set, markZ_step hi'] at d1 d2
    rw [B_set, markZ_step hi']
    refine ⟨roots.length - (i + 1), by omega, i + 1, l.length, rfl, hi', ?_, by trivial, by trivial, by trivial, by trivial, d1, Nat.le_refl _, d2, by trivial⟩
    rw [wrap64 (by omega) (by omega)]; rfl
  · have : i = roots.length := by omega
    subst this
    rw [List.take_length] at hobj
    simp -implicitDefEqProofs only [↓gP, gQ, ↓reduceIte, Nat.reduceAdd, Nat.reduceEqDiff, Nat.reduceLT, Nat.reduceLeDiff, Int.reduceEq, e16, e15, e14, e5, e0, hlen]
    clear e16 e15 e14 hml
    refine loop_rule (fun k ρ' H' D' => ∃ L born, k ≤ l.length ∧ L.length = l.length ∧ reachP l l.length (markZ (List.replicate l.length false) roots) = reachP l k L ∧ ρ' 8 = .int .i64 ((k : Int) - 1) ∧ ρ' 5 = .sl H.length 0 l.length l.length 1 ∧ ρ' 0 = v ∧
        Ext H H' ∧ born ≤ l.length ∧ H'[H.length]? = some (.cells (B L) 4 born false) ∧ D' = []) l.length
      ⟨_, born, Nat.le_refl _, by rw [markZ_len, List.length_replicate], rfl, by simp only [up_get]; rw [wrap64 (by omega) (by omega)]; rfl, by simp only [up_get]; exact e5, by simp only [up_get]; exact e0, hE, hborn, hobj, rfl⟩ ?_
    clear hE hborn hobj e5 e0
    rintro k ρ' H' D' ⟨L, born, hk, hL, hrp, e8, e5, e0, hE, hborn, hobj, rfl⟩
    simp -implicitDefEqProofs only [↓gP, gQ, ↓reduceIte, Nat.reduceAdd, Nat.reduceEqDiff, Nat.reduceLT, Nat.reduceLeDiff, Int.reduceEq, S92L2, e8, e5, e0]
    have hBl : (B L).length = l.length := by rw [B_len, hL]
    cases k with
    | zero =>
      refine Br_dec (fun g => ?_) (fun g => ?_)
      · exact absurd g (by decide)
      · simp -implicitDefEqProofs only [↓gP, gQ, ↓reduceIte, Nat.reduceAdd, Nat.reduceEqDiff, Nat.reduceLT, Nat.reduceLeDiff, Int.reduceEq, e8, e5, e0]
        exact ⟨hE, H.length, born, Nat.le_refl _, rfl, hborn, by rw [hrp]; exact hobj⟩
    | succ m =>
      have em : (((m + 1 : Nat) : Int) - 1) = (m : Nat) := by omega
      rw [em] at e8
      have hm' : m < l.length := hk
      have hmL : m < L.length := by omega
      have hm1 : (0 : Int) ≤ (m : Nat) := by omega
      refine Br_dec (fun g => ?_) (fun g => absurd hm1 (by first | exact g | (rw [em] at g; exact g)))
      have nxt : ∀ L', reachP l (m + 1) L = reachP l m L' → ∃ k' < m + 1, reachP l l.length (markZ (List.replicate l.length false) roots) = reachP l k' L' ∧ k' = m := fun L' h => ⟨m, by omega, by rw [hrp, h], rfl⟩
      simp -implicitDefEqProofs only [↓gP, gQ, ↓reduceIte, Nat.reduceAdd, Nat.reduceEqDiff, Nat.reduceLT, Nat.reduceLeDiff, Int.reduceEq, e8, e5, e0, nx, nld, hm', hmL, hE, ix_own1 hm', hobj, hBl, hborn, B_get hmL]
      refine Br_bool (fun g1 => ?_) (fun g1 => ?_)
      · have hgd : L.getD m false = true := by simp [List.getD_eq_getElem?_getD, hmL, g1]
        simp -implicitDefEqProofs only [↓gP, gQ, ↓reduceIte, Nat.reduceAdd, Nat.reduceEqDiff, Nat.reduceLT, Nat.reduceLeDiff, Int.reduceEq, e8, e5, e0, nx, nld, hm', hmL, hE, ix_own1 hm', hobj, hBl, hborn]
        refine CS_fn (parts_spec l[m] _) ?_
        rintro r H2 ⟨hE2, hOr, hSr⟩
        have hlt : H.length < H'.length := by rw [List.getElem?_eq_some_iff] at hobj; exact hobj.1
        have hO : Off (H.length + 1) r := hOr.mono hlt
        have hlenr := hSr.lenA isSl_37
        rw [I1_len] at hlenr
        have hpl := partsZ_lt (hmay m hm')
        have hpn : (partsZ l[m]).length ≤ 2 := by unfold partsZ; split <;> (try split) <;> simp
        have hmk : reachP l (m + 1) L = reachP l m (markZ L (partsZ l[m])) := by
          simp only [reachP, hgd, if_true, List.getElem?_eq_getElem hm']
        simp -implicitDefEqProofs only [↓gP, gQ, ↓reduceIte, Nat.reduceAdd, Nat.reduceEqDiff, Nat.reduceLT, Nat.reduceLeDiff, Int.reduceEq, e8, e5, e0, hlenr]
        refine loop_rule (fun k ρ' H' D' => ∃ i born, k = (partsZ l[m]).length - i ∧ i ≤ (partsZ l[m]).length ∧ ρ' 42 = .int .i64 (i : Nat) ∧ ρ' 41 = .int .i64 ((partsZ l[m]).length : Nat) ∧ ρ' 40 = r ∧ ρ' 8 = .int .i64 (m : Nat) ∧ ρ' 5 = .sl H.length 0 l.length l.length 1 ∧ ρ' 0 = v ∧
            Ext H H' ∧ Shows H' r 1 (I1 .i64 (partsZ l[m])) ∧ born ≤ l.length ∧ H'[H.length]? = some (.cells (B (markZ L ((partsZ l[m]).take i))) 4 born false) ∧ D' = []) (partsZ l[m]).length
          ⟨0, born, by simp, by simp, by simp only [up_get]; rfl, by simp only [up_get]; rfl, by simp only [up_get]; rfl, by simp only [up_get]; exact e8, by simp only [up_get]; exact e5, by simp only [up_get]; exact e0, hE.trans hE2, hSr, hborn, hE2 _ _ hobj, rfl⟩ ?_
        clear hE hborn hobj hSr hE2 hOr e8 e5 e0 hBl
        rintro k ρ' H' D' ⟨i, born, hk, hi, e42, e41, e40, e8, e5, e0, hE, hSr, hborn, hobj, rfl⟩
        obtain ⟨rx, rld⟩ := hSr.ints
        simp -implicitDefEqProofs only [↓gP, gQ, ↓reduceIte, Nat.reduceAdd, Nat.reduceEqDiff, Nat.reduceLT, Nat.reduceLeDiff, Int.reduceEq, S92L3, e42, e41, e40, e8, e5, e0]
        have hml : ∀ j, (B (markZ L ((partsZ l[m]).take j))).length = l.length := fun j => by rw [B_len, markZ_len, hL]
        refine Br_dec (fun g => ?_) (fun g => ?_)
        · have hi' : i < (partsZ l[m]).length := by omega
          obtain ⟨r1, r2⟩ := hpl _ (List.getElem_mem hi')
          have r3 : (partsZ l[m])[i].toNat + 1 ≤ l.length := by omega
          have r4 : (partsZ l[m])[i] < (l.length : Nat) := by omega
          simp -implicitDefEqProofs only [↓gP, gQ, ↓reduceIte, Nat.reduceAdd, Nat.reduceEqDiff, Nat.reduceLT, Nat.reduceLeDiff, Int.reduceEq, e42, e41, e40, e8, e5, e0, rx, rld _ _ hi' Ext.refl, hi', ix_ownZ r1 r4, hobj, hml, hborn, r3]
          obtain ⟨d1, d2⟩ := own_set hE (Nat.le_refl _) hobj (o' := .cells ((B (markZ L ((partsZ l[m]).take i))).set (partsZ l[m])[i].toNat (.bool true)) 4 l.length false)
          rw [B_set, markZ_step hi'] at d1 d2
          rw [B_set, markZ_step hi']
          refine ⟨(partsZ l[m]).length - (i + 1), by omega, i + 1, l.length, rfl, hi', ?_, by trivial, by trivial, by trivial, by trivial, by trivial, d1, hSr.set_ne hO, Nat.le_refl _, d2, by trivial⟩
          rw [wrap64 (by omega) (by omega)]; rfl
        · have : i = (partsZ l[m]).length := by omega
          subst this
          rw [List.take_length] at hobj
          simp -implicitDefEqProofs only [↓gP, gQ, ↓reduceIte, Nat.reduceAdd, Nat.reduceEqDiff, Nat.reduceLT, Nat.reduceLeDiff, Int.reduceEq, e42, e41, e40, e8, e5, e0]
          refine ⟨m, by omega, _, born, by omega, by rw [markZ_len, hL], by rw [hrp, hmk], ?_, by trivial, by trivial, hE, hborn, hobj, by trivial⟩
          rw [wrap64 (by omega) (by omega)]
      · have hgd : L.getD m false = false := by simp [List.getD_eq_getElem?_getD, hmL, g1]
        have hmk : reachP l (m + 1) L = reachP l m L := by simp only [reachP, hgd]; rfl
        simp -implicitDefEqProofs only [↓gP, gQ, ↓reduceIte, Nat.reduceAdd, Nat.reduceEqDiff, Nat.reduceLT, Nat.reduceLeDiff, Int.reduceEq, e8, e5, e0]
        refine ⟨m, by omega, L, born, by omega, hL, by rw [hrp, hmk], ?_, by trivial, by trivial, hE, hborn, hobj, by trivial⟩
        rw [wrap64 (by omega) (by omega)]
end Go.Va
end

section
set_option linter.unusedSimpArgs false
set_option linter.unusedVariables false
set_option linter.unusedSectionVars false
namespace Go.Va
open Go.Proofs

theorem may_pos {n : Nd} {i : Nat} (h : mayB n i = true) : 0 < n.op := by
  by_cases h1 : n.op = 1
  · omega
  · by_cases h2 : n.op = 2
    · omega
    · have := (may_alu h h1 h2).1
      simp [alus] at this
      omega


theorem rin_spec (l : List Nd) (at' : Nat) (v : AV) (H : Heap) (hS : Shows H v 4 (l.map Nd.c)) (hmay : ∀ i (h : i < l.length), mayB l[i] i = true) (hr : at' < l.length) (hn : l.length ≤ 65536) :
    F X 42 [v, .int .i64 (at' : Nat)] H fun r H' => Ext H H' ∧ ∃ id born, H.length ≤ id ∧ r = .sl id 0 l.length l.length 1 ∧ born ≤ l.length ∧ H'[id]? = some (.cells (B (reachP l l.length (markZ (List.replicate l.length false) [(at' : Int)]))) 4 born false) := by
  refine F_slim S42_eq rfl fun ρ hρ => ?_
  simp only [AGs] at hρ
  obtain ⟨h0, h1, -⟩ := hρ
  have hlen := hS.lenA isSl_22
  rw [List.length_map] at hlen
  obtain ⟨nx, -, -, -, -, -, nld⟩ := hS.nodes
  have hmk := mkSl (H := H) (k := .i64) (k' := .i64) (n := l.length) slT_74 (by omega) (by omega) rfl (by omega)
  rw [B_zero, Nat.mul_one] at hmk
  have hBr : (B (List.replicate l.length false)).length = l.length := by rw [B_len, List.length_replicate]
  have hr1 : at' + 1 ≤ l.length := hr
  simp -implicitDefEqProofs only [↓gP, gQ, ↓reduceIte, Nat.reduceAdd, Nat.reduceEqDiff, Nat.reduceLT, Nat.reduceLeDiff, Int.reduceEq, S42, h0, h1, hlen, hmk, ix_own1 hr, hBr, hr1]
  have hst : (B (List.replicate l.length false)).set at' (.bool true) = B (markZ (List.replicate l.length false) [(at' : Int)]) := by rw [B_set]; rfl
  rw [hst]
  refine loop_rule (fun k ρ' H' D' => ∃ L born, k ≤ l.length ∧ L.length = l.length ∧ reachP l l.length (markZ (List.replicate l.length false) [(at' : Int)]) = reachP l k L ∧ ρ' 6 = .int .i64 ((k : Int) - 1) ∧ ρ' 5 = .sl H.length 0 l.length l.length 1 ∧ ρ' 0 = v ∧
      Ext H H' ∧ born ≤ l.length ∧ H'[H.length]? = some (.cells (B L) 4 born false) ∧ D' = []) l.length
    ⟨_, l.length, Nat.le_refl _, by rw [markZ_len, List.length_replicate], rfl, by simp only [up_get]; rw [wrap64 (by omega) (by omega)]; rfl, by simp only [up_get]; rfl, by simp only [up_get]; exact h0, Ext.refl.app, Nat.le_refl _, hp_get0, rfl⟩ ?_
  rintro k ρ' H' D' ⟨L, born, hk, hL, hrp, e6, e5, e0, hE, hborn, hobj, rfl⟩
  simp -implicitDefEqProofs only [↓gP, gQ, ↓reduceIte, Nat.reduceAdd, Nat.reduceEqDiff, Nat.reduceLT, Nat.reduceLeDiff, Int.reduceEq, S42L1, e6, e5, e0]
  have hBl : (B L).length = l.length := by rw [B_len, hL]
  cases k with
  | zero =>
    refine Br_dec (fun g => ?_) (fun g => ?_)
    · exact absurd g (by decide)
    · simp -implicitDefEqProofs only [↓gP, gQ, ↓reduceIte, Nat.reduceAdd, Nat.reduceEqDiff, Nat.reduceLT, Nat.reduceLeDiff, Int.reduceEq, e6, e5, e0]
      exact ⟨hE, H.length, born, Nat.le_refl _, rfl, hborn, by rw [hrp]; exact hobj⟩
  | succ m =>
    have em : (((m + 1 : Nat) : Int) - 1) = (m : Nat) := by omega
    rw [em] at e6
    have hm' : m < l.length := hk
    have hmL : m < L.length := by omega
    have hm1 : (0 : Int) ≤ (m : Nat) := by omega
    refine Br_dec (fun g => ?_) (fun g => absurd hm1 (by first | exact g | (rw [em] at g; exact g)))
    simp -implicitDefEqProofs only [↓gP, gQ, ↓reduceIte, Nat.reduceAdd, Nat.reduceEqDiff, Nat.reduceLT, Nat.reduceLeDiff, Int.reduceEq, e6, e5, e0, nx, nld, hm', hmL, hE, ix_own1 hm', hobj, hBl, hborn, B_get hmL]
    refine Br_bool (fun g1 => ?_) (fun g1 => ?_)
    · have hgd : L.getD m false = true := by simp [List.getD_eq_getElem?_getD, hmL, g1]
      simp -implicitDefEqProofs only [↓gP, gQ, ↓reduceIte, Nat.reduceAdd, Nat.reduceEqDiff, Nat.reduceLT, Nat.reduceLeDiff, Int.reduceEq, e6, e5, e0, nx, nld, hm', hmL, hE, ix_own1 hm', hobj, hBl, hborn]
      refine CS_fn (rparts_spec l[m] _ (may_pos (hmay m hm'))) ?_
      rintro r H2 ⟨hE2, hOr, hSr⟩
      have hlt : H.length < H'.length := by rw [List.getElem?_eq_some_iff] at hobj; exact hobj.1
      have hO : Off (H.length + 1) r := hOr.mono hlt
      have hlenr := hSr.lenA isSl_37
      rw [I1_len] at hlenr
      have hpl := partsZ_lt (hmay m hm')
      have hpn : (partsZ l[m]).length ≤ 2 := by unfold partsZ; split <;> (try split) <;> simp
      have hmk : reachP l (m + 1) L = reachP l m (markZ L (partsZ l[m])) := by
        simp only [reachP, hgd, if_true, List.getElem?_eq_getElem hm']
      simp -implicitDefEqProofs only [↓gP, gQ, ↓reduceIte, Nat.reduceAdd, Nat.reduceEqDiff, Nat.reduceLT, Nat.reduceLeDiff, Int.reduceEq, e6, e5, e0, hlenr]
      refine loop_rule (fun k ρ' H' D' => ∃ i born, k = (partsZ l[m]).length - i ∧ i ≤ (partsZ l[m]).length ∧ ρ' 8 = .int .i64 (i : Nat) ∧ ρ' 7 = r ∧ ρ' 6 = .int .i64 (m : Nat) ∧ ρ' 5 = .sl H.length 0 l.length l.length 1 ∧ ρ' 0 = v ∧
          Ext H H' ∧ Shows H' r 1 (I1 .i64 (partsZ l[m])) ∧ born ≤ l.length ∧ H'[H.length]? = some (.cells (B (markZ L ((partsZ l[m]).take i))) 4 born false) ∧ D' = []) (partsZ l[m]).length
        ⟨0, born, by simp, by simp, by simp only [up_get]; rfl, by simp only [up_get]; rfl, by simp only [up_get]; exact e6, by simp only [up_get]; exact e5, by simp only [up_get]; exact e0, hE.trans hE2, hSr, hborn, hE2 _ _ hobj, rfl⟩ ?_
      clear hE hborn hobj hSr hE2 hOr e6 e5 e0 hBl
      rintro k ρ' H' D' ⟨i, born, hk, hi, e8, e7, e6, e5, e0, hE, hSr, hborn, hobj, rfl⟩
      obtain ⟨rx, rld⟩ := hSr.ints
      simp -implicitDefEqProofs only [↓gP, gQ, ↓reduceIte, Nat.reduceAdd, Nat.reduceEqDiff, Nat.reduceLT, Nat.reduceLeDiff, Int.reduceEq, S42L2, e8, e7, e6, e5, e0, hlenr]
      have hml : ∀ j, (B (markZ L ((partsZ l[m]).take j))).length = l.length := fun j => by rw [B_len, markZ_len, hL]
      refine Br_dec (fun g => ?_) (fun g => ?_)
      · have hi' : i < (partsZ l[m]).length := by omega
        obtain ⟨r1, r2⟩ := hpl _ (List.getElem_mem hi')
        have r3 : (partsZ l[m])[i].toNat + 1 ≤ l.length := by omega
        have r4 : (partsZ l[m])[i] < (l.length : Nat) := by omega
        simp -implicitDefEqProofs only [↓gP, gQ, ↓reduceIte, Nat.reduceAdd, Nat.reduceEqDiff, Nat.reduceLT, Nat.reduceLeDiff, Int.reduceEq, e8, e7, e6, e5, e0, rx, rld _ _ hi' Ext.refl, hi', ix_ownZ r1 r4, hobj, hml, hborn, r3]
        obtain ⟨d1, d2⟩ := own_set hE (Nat.le_refl _) hobj (o' := .cells ((B (markZ L ((partsZ l[m]).take i))).set (partsZ l[m])[i].toNat (.bool true)) 4 l.length false)
        rw [B_set, markZ_step hi'] at d1 d2
        rw [B_set, markZ_step hi']
        refine ⟨(partsZ l[m]).length - (i + 1), by omega, i + 1, l.length, rfl, hi', ?_, by trivial, by trivial, by trivial, by trivial, d1, hSr.set_ne hO, Nat.le_refl _, d2, by trivial⟩
        rw [wrap64 (by omega) (by omega)]; rfl
      · have : i = (partsZ l[m]).length := by omega
        subst this
        rw [List.take_length] at hobj
        simp -implicitDefEqProofs only [↓gP, gQ, ↓reduceIte, Nat.reduceAdd, Nat.reduceEqDiff, Nat.reduceLT, Nat.reduceLeDiff, Int.reduceEq, e8, e7, e6, e5, e0]
        refine ⟨m, by omega, _, born, by omega, by rw [markZ_len, hL], by rw [hrp, hmk], ?_, by trivial, by trivial, hE, hborn, hobj, by trivial⟩
        rw [wrap64 (by omega) (by omega)]
    · have hgd : L.getD m false = false := by simp [List.getD_eq_getElem?_getD, hmL, g1]
      have hmk : reachP l (m + 1) L = reachP l m L := by simp only [reachP, hgd]; rfl
      simp -implicitDefEqProofs only [↓gP, gQ, ↓reduceIte, Nat.reduceAdd, Nat.reduceEqDiff, Nat.reduceLT, Nat.reduceLeDiff, Int.reduceEq, e6, e5, e0]
      refine ⟨m, by omega, L, born, by omega, hL, by rw [hrp, hmk], ?_, by trivial, by trivial, hE, hborn, hobj, by trivial⟩
      rw [wrap64 (by omega) (by omega)]
end Go.Va
end

section
set_option linter.unusedSimpArgs false
set_option linter.unusedVariables false
set_option linter.unusedSectionVars false
namespace Go.Va
open Go.Proofs

theorem u16w (n : Int) : IntKind.u16.wrap n = n % 65536 := by simp [IntKind.wrap, IntKind.bits, IntKind.signed]
theorem u16_ofInt {a : Nat} (h : a < 65536) : (BitVec.ofInt IntKind.u16.bits (a : Int)).toNat = a := by
  rw [BitVec.toNat_ofInt]; simp [IntKind.bits]; omega
theorem u16_or {a b : Nat} (ha : a < 65536) (hb : b < 65536) : IntKind.u16.wrap ((BitVec.ofInt IntKind.u16.bits (a : Int) ||| BitVec.ofInt IntKind.u16.bits (b : Int)).toNat : Nat) = ((a ||| b : Nat) : Int) := by
  rw [BitVec.toNat_or, u16_ofInt ha, u16_ofInt hb, u16w]
  have := Nat.or_lt_two_pow (n := 16) ha hb
  omega
theorem u16_shl1 {k : Int} (h0 : 0 ≤ k) (h : k < 16) : IntKind.u16.wrap (1 * 2 ^ (min k.toNat IntKind.u16.bits)) = ((2 ^ k.toNat : Nat) : Int) := by
  have h1 : min k.toNat IntKind.u16.bits = k.toNat := by simp [IntKind.bits]; omega
  rw [h1, u16w, Int.one_mul]
  have : 2 ^ k.toNat < 65536 := Nat.pow_lt_pow_right (n := 16) (by decide) (by omega)
  have e : ((2 ^ k.toNat : Nat) : Int) = (2 : Int) ^ k.toNat := by push_cast; rfl
  rw [← e]; clear e; generalize 2 ^ k.toNat = z at this ⊢; omega

def usesP (l : List Nd) (L : List Bool) : Nat → Nat
  | 0 => 0
  | m + 1 => match l[m]? with
    | some n => if L.getD m false = true ∧ n.op = 2 then usesP l L m ||| 2 ^ n.k.toNat else usesP l L m
    | none => usesP l L m
theorem usesP_lt {l : List Nd} {L : List Bool} (hmay : ∀ i (h : i < l.length), mayB l[i] i = true) : ∀ m, usesP l L m < 65536
  | 0 => by simp [usesP]
  | m + 1 => by
    have ih := usesP_lt (L := L) hmay m
    simp only [usesP]
    split
    · rename_i n hn
      split
      · rename_i h
        obtain ⟨hi, rfl⟩ := List.getElem?_eq_some_iff.1 hn
        have hk := may_word (hmay m hi) h.2
        exact Nat.or_lt_two_pow (n := 16) ih (Nat.pow_lt_pow_right (by decide) (by omega))
      · exact ih
    · exact ih

theorem ruses_spec (l : List Nd) (at' : Nat) (v : AV) (H : Heap) (hl : ∀ n ∈ l, n.ok) (hS : Shows H v 4 (l.map Nd.c)) (hc : (checkP l).2 = 0) (ha : at' < l.length) :
    F X 44 [v, .int .i64 (at' : Nat)] H fun r H' => Ext H H' ∧ r = .int .u16 (usesP l (reachP l l.length (markZ (List.replicate l.length false) [(at' : Int)])) l.length : Nat) := by
  refine F_slim S44_eq rfl fun ρ hρ => ?_
  simp only [AGs] at hρ
  obtain ⟨h0, h1, -⟩ := hρ
  have hlen := hS.lenA isSl_22
  rw [List.length_map] at hlen
  obtain ⟨hn, hmay⟩ := checkP_ok hc
  simp -implicitDefEqProofs only [↓gP, gQ, ↓reduceIte, Nat.reduceAdd, Nat.reduceEqDiff, Nat.reduceLT, Nat.reduceLeDiff, Int.reduceEq, S44, h0, h1]
  refine CS_fn (rin_spec l at' v _ hS hmay ha hn) ?_
  rintro _ H2 ⟨hE02, id, born, hid, rfl, hborn, hobj⟩
  generalize hL : reachP l l.length (markZ (List.replicate l.length false) [(at' : Int)]) = L at hobj
  have hLl : L.length = l.length := by rw [← hL, reachP_len, markZ_len, List.length_replicate]
  have hBl : (B L).length = l.length := by rw [B_len, hLl]
  obtain ⟨nx, nf, nop, -, -, nk, -⟩ := hS.nodes
  simp -implicitDefEqProofs only [↓gP, gQ, ↓reduceIte, Nat.reduceAdd, Nat.reduceEqDiff, Nat.reduceLT, Nat.reduceLeDiff, Int.reduceEq, h0, h1]
  refine loop_rule (fun k ρ' H' D' => ∃ i, k = l.length - i ∧ i ≤ l.length ∧ ρ' 7 = .int .i64 (i : Nat) ∧ ρ' 6 = .sl id 0 l.length l.length 1 ∧ ρ' 5 = .int .u16 (usesP l L i : Nat) ∧ ρ' 0 = v ∧ H' = H2 ∧ D' = []) l.length
    ⟨0, by simp, by simp, by simp only [up_get]; rfl, by simp only [up_get]; rfl, by simp only [up_get]; rfl, by simp only [up_get]; exact h0, rfl, rfl⟩ ?_
  rintro k ρ' H' D' ⟨i, hk, hi, e7, e6, e5, e0, rfl, rfl⟩
  simp -implicitDefEqProofs only [↓gP, gQ, ↓reduceIte, Nat.reduceAdd, Nat.reduceEqDiff, Nat.reduceLT, Nat.reduceLeDiff, Int.reduceEq, S44L1, e7, e6, e5, e0, hlen]
  refine Br_dec (fun g => ?_) (fun g => ?_)
  · have hi' : i < l.length := by omega
    have hiL : i < L.length := by omega
    have hw : IntKind.i64.wrap ((i : Int) + 1) = ((i + 1 : Nat) : Int) := by rw [wrap64 (by omega) (by omega)]; rfl
    simp -implicitDefEqProofs only [↓gP, gQ, ↓reduceIte, Nat.reduceAdd, Nat.reduceEqDiff, Nat.reduceLT, Nat.reduceLeDiff, Int.reduceEq, e7, e6, e5, e0, ix_own1 hi', hobj, hBl, hborn, hi', B_get hiL]
    have hgd : L.getD i false = L[i] := by simp [List.getD_eq_getElem?_getD, hiL]
    refine Br_bool (fun g1 => ?_) (fun g1 => ?_)
    · simp -implicitDefEqProofs only [↓gP, gQ, ↓reduceIte, Nat.reduceAdd, Nat.reduceEqDiff, Nat.reduceLT, Nat.reduceLeDiff, Int.reduceEq, e7, e6, e5, e0, g1, nx, nf, nop, hi', hE02]
      refine Br_dec (fun g2 => ?_) (fun g2 => ?_)
      · have hk := may_word (hmay i hi') g2
        obtain ⟨k0, -⟩ := hl _ (List.getElem_mem hi')
        have hu := usesP_lt (L := L) hmay i
        have hk' : 2 ^ l[i].k.toNat < 65536 := Nat.pow_lt_pow_right (n := 16) (by decide) (by omega)
        simp -implicitDefEqProofs only [↓gP, gQ, ↓reduceIte, Nat.reduceAdd, Nat.reduceEqDiff, Nat.reduceLT, Nat.reduceLeDiff, Int.reduceEq, e7, e6, e5, e0, g1, g2, nx, nf, nk, hi', hE02, bin_shl k0, u16_shl1 k0 hk, u16_or hu hk', hw]
        refine ⟨l.length - (i + 1), by omega, i + 1, rfl, hi', by first | exact True.intro | rfl | trivial, by first | exact True.intro | rfl | trivial, ?_, by first | exact True.intro | rfl | trivial, by first | exact True.intro | rfl | trivial, by first | exact True.intro | rfl | trivial⟩
        simp only [usesP, List.getElem?_eq_getElem hi', hgd, g1, g2, and_self, if_true]
      · simp -implicitDefEqProofs only [↓gP, gQ, ↓reduceIte, Nat.reduceAdd, Nat.reduceEqDiff, Nat.reduceLT, Nat.reduceLeDiff, Int.reduceEq, e7, e6, e5, e0, g1, g2, hw]
        refine ⟨l.length - (i + 1), by omega, i + 1, rfl, hi', by first | exact True.intro | rfl | trivial, by first | exact True.intro | rfl | trivial, ?_, by first | exact True.intro | rfl | trivial, by first | exact True.intro | rfl | trivial, by first | exact True.intro | rfl | trivial⟩
        simp only [usesP, List.getElem?_eq_getElem hi', g2, and_false, if_false]
    · simp -implicitDefEqProofs only [↓gP, gQ, ↓reduceIte, Nat.reduceAdd, Nat.reduceEqDiff, Nat.reduceLT, Nat.reduceLeDiff, Int.reduceEq, e7, e6, e5, e0, g1, hw]
      refine ⟨l.length - (i + 1), by omega, i + 1, rfl, hi', by first | exact True.intro | rfl | trivial, by first | exact True.intro | rfl | trivial, ?_, by first | exact True.intro | rfl | trivial, by first | exact True.intro | rfl | trivial, by first | exact True.intro | rfl | trivial⟩
      simp only [usesP, List.getElem?_eq_getElem hi', hgd, g1, Bool.false_eq_true, false_and, if_false]
  · have : i = l.length := by omega
    subst this
    simp -implicitDefEqProofs only [↓gP, gQ, ↓reduceIte, Nat.reduceAdd, Nat.reduceEqDiff, Nat.reduceLT, Nat.reduceLeDiff, Int.reduceEq, e7, e6, e5, e0]
    exact ⟨hE02, trivial⟩
end Go.Va
end

section
set_option linter.unusedSimpArgs false
set_option linter.unusedVariables false
set_option linter.unusedSectionVars false
namespace Go.Va
open Go.Proofs

def WK (k : IntKind) (l : List Nat) : List AV := l.map fun x => .int k (x : Nat)
theorem WK_len {k : IntKind} {l : List Nat} : (WK k l).length = l.length := by simp [WK]
def rowK (k : IntKind) (vs : List Nat) (n : Nat) : List AV := WK k vs ++ List.replicate (n - vs.length) (.int k 0)
section
variable {k : IntKind} {vs : List Nat} {n : Nat}
theorem rowK_len (h : vs.length ≤ n) : (rowK k vs n).length = n := by simp [rowK, WK_len]; omega
theorem rowK_get {j : Nat} (h : j < vs.length) : (rowK k vs n)[j]? = some (.int k (vs.getD j 0 : Nat)) := by
  unfold rowK
  rw [List.getElem?_append_left (by rw [WK_len]; exact h)]
  simp [WK, List.getElem?_eq_getElem h]
theorem rowK_set {x : Nat} (h : vs.length < n) : (rowK k vs n).set vs.length (.int k (x : Nat)) = rowK k (vs ++ [x]) n := by
  unfold rowK
  rw [List.set_append_right _ _ (by rw [WK_len]; exact Nat.le_refl _), WK_len, Nat.sub_self]
  have e : n - vs.length = (n - (vs ++ [x]).length) + 1 := by simp; omega
  rw [e, List.replicate_succ, List.set_cons_zero]
  simp [WK]
theorem rowK_upd {x y : Nat} : (rowK k (vs ++ [x]) n).set vs.length (.int k (y : Nat)) = rowK k (vs ++ [y]) n := by
  unfold rowK
  have e1 : WK k (vs ++ [x]) = WK k vs ++ [.int k (x : Nat)] := by simp [WK]
  have e2 : WK k (vs ++ [y]) = WK k vs ++ [.int k (y : Nat)] := by simp [WK]
  rw [e1, e2, List.append_assoc, List.append_assoc, List.set_append_right _ _ (by rw [WK_len]; exact Nat.le_refl _), WK_len, Nat.sub_self]
  simp
theorem rowK_full : rowK k vs vs.length = WK k vs := by simp [rowK]
theorem rowK_zero : zeros [AV.int k 0] n = rowK k [] n := by
  simp only [rowK, zeros, WK]
  induction n with
  | zero => rfl
  | succ n ih => simp only [List.replicate_succ, List.flatten_cons]; simp [ih, List.replicate_succ]
end

def mostN : Nat := 1125899906842624
def szF (S : List Nat) (ps : List Int) : Nat := ps.foldl (fun x p => min (x + S.getD p.toNat 0) mostN) 1
def szG (S : List Nat) (ps : List Int) : Nat := ps.foldl (fun x p => x + S.getD p.toNat 0) 1
theorem szF_le {S : List Nat} {ps : List Int} : 1 ≤ szF S ps ∧ szF S ps ≤ mostN := by
  have gen : ∀ x, 1 ≤ x → x ≤ mostN → 1 ≤ ps.foldl (fun x p => min (x + S.getD p.toNat 0) mostN) x ∧ ps.foldl (fun x p => min (x + S.getD p.toNat 0) mostN) x ≤ mostN := by
    induction ps with
    | nil => intro x h1 h2; exact ⟨h1, h2⟩
    | cons p ps ih => intro x h1 h2; exact ih _ (by simp only [mostN]; omega) (Nat.min_le_right _ _)
  exact gen 1 (Nat.le_refl _) (by decide)
theorem szG_min {S : List Nat} {ps : List Int} : min (szG S ps) mostN = szF S ps := by
  have gen : ∀ x, min (ps.foldl (fun x p => x + S.getD p.toNat 0) x) mostN = ps.foldl (fun x p => min (x + S.getD p.toNat 0) mostN) (min x mostN) := by
    induction ps with
    | nil => intro x; rfl
    | cons p ps ih =>
      intro x
      simp only [List.foldl_cons]
      rw [ih]; congr 1
      simp only [mostN]; omega
  exact gen 1
theorem szF_step {S : List Nat} {ps : List Int} {i : Nat} (h : i < ps.length) : min (szF S (ps.take i) + S.getD ps[i].toNat 0) mostN = szF S (ps.take (i + 1)) := by
  rw [List.take_succ_eq_append_getElem h]
  simp only [szF, List.foldl_append, List.foldl_cons, List.foldl_nil]
theorem szG_step {S : List Nat} {ps : List Int} {i : Nat} (h : i < ps.length) : szG S (ps.take i) + S.getD ps[i].toNat 0 = szG S (ps.take (i + 1)) := by
  rw [List.take_succ_eq_append_getElem h]
  simp only [szG, List.foldl_append, List.foldl_cons, List.foldl_nil]

/-- The sizes of a row, the first m of them. -/
def sizesL (l : List Nd) : Nat → List Nat
  | 0 => []
  | m + 1 => sizesL l m ++ [match l[m]? with
    | some n => szF (sizesL l m) (partsZ n)
    | none => 1]
theorem sizesL_len {l : List Nd} : ∀ m, (sizesL l m).length = m
  | 0 => rfl
  | m + 1 => by simp [sizesL, sizesL_len m]
theorem sizesL_le {l : List Nd} : ∀ m j, (sizesL l m).getD j 0 ≤ mostN
  | 0, j => by simp [sizesL]
  | m + 1, j => by
    have ih := sizesL_le (l := l) m
    simp only [sizesL, List.getD_eq_getElem?_getD]
    rw [List.getElem?_append]
    split
    · have := ih j; rwa [List.getD_eq_getElem?_getD] at this
    · cases hj : j - (sizesL l m).length with
      | zero =>
        simp only [List.getElem?_cons_zero, Option.getD_some]
        cases hm : l[m]? with
        | none => simp [mostN]
        | some n => exact szF_le.2
      | succ k => simp
theorem sizesL_get {l : List Nd} {m j : Nat} (hj : j < m) : ∀ {M : Nat}, m ≤ M → (sizesL l M).getD j 0 = (sizesL l m).getD j 0
  | 0, h => by omega
  | M + 1, h => by
    rcases Nat.eq_or_lt_of_le h with h' | h'
    · rw [h']
    · rw [← sizesL_get hj (M := M) (by omega)]
      simp only [sizesL, List.getD_eq_getElem?_getD]
      rw [List.getElem?_append_left (by rw [sizesL_len]; omega)]
theorem u64s {n : Nat} (h : n < 18446744073709551616) : IntKind.u64.wrap (n : Int) = n := u64n h
theorem getD_app {S : List Nat} {x j : Nat} (h : j < S.length) : (S ++ [x]).getD j 0 = S.getD j 0 := by
  simp only [List.getD_eq_getElem?_getD]; rw [List.getElem?_append_left h]
theorem getD_last {S : List Nat} {x : Nat} : (S ++ [x]).getD S.length 0 = x := by
  simp only [List.getD_eq_getElem?_getD]; rw [List.getElem?_append_right (Nat.le_refl _)]; simp
theorem min_most {a : Nat} : minA (.int .u64 (a : Int)) (.int .u64 1125899906842624) = some (.int .u64 ((min a mostN : Nat) : Int)) := by
  unfold minA mostN
  simp only [if_true]
  congr 2; omega

end Go.Va
end

section
set_option linter.unusedSimpArgs false
set_option linter.unusedVariables false
set_option linter.unusedSectionVars false
namespace Go.Va
open Go.Proofs

theorem rsizes_spec (l : List Nd) (v : AV) (H : Heap) (hS : Shows H v 4 (l.map Nd.c)) (hc : (checkP l).2 = 0) :
    F X 45 [v] H fun r H' => Ext H H' ∧ ∃ id born, H.length ≤ id ∧ r = .sl id 0 l.length l.length 1 ∧ born ≤ l.length ∧ H'[id]? = some (.cells (WK .u64 (sizesL l l.length)) 82 born false) := by
  refine F_slim S45_eq rfl fun ρ hρ => ?_
  simp only [AGs] at hρ
  obtain ⟨h0, -⟩ := hρ
  have hlen := hS.lenA isSl_22
  rw [List.length_map] at hlen
  obtain ⟨hn, hmay⟩ := checkP_ok hc
  obtain ⟨nx, -, -, -, -, -, nld⟩ := hS.nodes
  have hmk := mkSl (H := H) (k := .i64) (k' := .i64) (n := l.length) slT_80 (by omega) (by omega) rfl (by omega)
  rw [rowK_zero, Nat.mul_one] at hmk
  simp -implicitDefEqProofs only [↓gP, gQ, ↓reduceIte, Nat.reduceAdd, Nat.reduceEqDiff, Nat.reduceLT, Nat.reduceLeDiff, Int.reduceEq, S45, h0, hlen, hmk]
  refine loop_rule (fun k ρ' H' D' => ∃ i born, k = l.length - i ∧ i ≤ l.length ∧ ρ' 4 = .int .i64 (i : Nat) ∧ ρ' 3 = .sl H.length 0 l.length l.length 1 ∧ ρ' 0 = v ∧
      Ext H H' ∧ born ≤ l.length ∧ H'[H.length]? = some (.cells (rowK .u64 (sizesL l i) l.length) 82 born false) ∧ D' = []) l.length
    ⟨0, 0, by simp, by simp, by simp only [up_get]; rfl, by simp only [up_get]; rfl, by simp only [up_get]; exact h0, Ext.refl.app, by omega, hp_get0, rfl⟩ ?_
  rintro k ρ' H' D' ⟨i, born, hk, hi, e4, e3, e0, hE, hborn, hobj, rfl⟩
  simp -implicitDefEqProofs only [↓gP, gQ, ↓reduceIte, Nat.reduceAdd, Nat.reduceEqDiff, Nat.reduceLT, Nat.reduceLeDiff, Int.reduceEq, S45L1, e4, e3, e0, hlen]
  refine Br_dec (fun g => ?_) (fun g => ?_)
  · have hil : i < l.length := by omega
    have hi1 : i + 1 ≤ l.length := hil
    have hsl := sizesL_len (l := l) i
    have hrl : (rowK .u64 (sizesL l i) l.length).length = l.length := rowK_len (by omega)
    simp -implicitDefEqProofs only [↓gP, gQ, ↓reduceIte, Nat.reduceAdd, Nat.reduceEqDiff, Nat.reduceLT, Nat.reduceLeDiff, Int.reduceEq, e4, e3, e0, nx, nld _ _ hil hE, hil]
    refine CS_fn (rparts_spec l[i] _ (may_pos (hmay i hil))) ?_
    rintro r H2 ⟨hE2, hOr, hSr⟩
    have hlt : H.length < H'.length := by rw [List.getElem?_eq_some_iff] at hobj; exact hobj.1
    have hO : Off (H.length + 1) r := hOr.mono hlt
    have hlenr := hSr.lenA isSl_37
    rw [I1_len] at hlenr
    have hpl := partsZ_lt (hmay i hil)
    have hpn : (partsZ l[i]).length ≤ 2 := by unfold partsZ; split <;> (try split) <;> simp
    have hS1 : sizesL l (i + 1) = sizesL l i ++ [szF (sizesL l i) (partsZ l[i])] := by simp only [sizesL, List.getElem?_eq_getElem hil]
    have hobj2 := hE2 _ _ hobj
    have hE3 := hE.trans hE2
    clear hobj hE hE2
    simp -implicitDefEqProofs only [↓gP, gQ, ↓reduceIte, Nat.reduceAdd, Nat.reduceEqDiff, Nat.reduceLT, Nat.reduceLeDiff, Int.reduceEq, e4, e3, e0]
    refine loop_rule (fun k ρ' H' D' => ∃ j, k = (partsZ l[i]).length - j ∧ j ≤ (partsZ l[i]).length ∧ szG (sizesL l i) ((partsZ l[i]).take j) ≤ 1 + j * mostN ∧ ρ' 7 = .int .i64 (j : Nat) ∧ ρ' 6 = r ∧ ρ' 5 = .int .u64 (szG (sizesL l i) ((partsZ l[i]).take j) : Nat) ∧ ρ' 4 = .int .i64 (i : Nat) ∧ ρ' 3 = .sl H.length 0 l.length l.length 1 ∧ ρ' 0 = v ∧
        H' = H2 ∧ D' = []) (partsZ l[i]).length
      ⟨0, by simp, by simp, by simp [szG], by simp only [up_get]; rfl, by simp only [up_get]; rfl, by simp only [up_get]; rfl, by simp only [up_get]; exact e4, by simp only [up_get]; exact e3, by simp only [up_get]; exact e0, rfl, rfl⟩ ?_
    clear e4 e3 e0
    rintro k ρ' H' D' ⟨j, hk, hj, hle, e7, e6, e5, e4, e3, e0, rfl, rfl⟩
    obtain ⟨rx, rld⟩ := hSr.ints
    simp -implicitDefEqProofs only [↓gP, gQ, ↓reduceIte, Nat.reduceAdd, Nat.reduceEqDiff, Nat.reduceLT, Nat.reduceLeDiff, Int.reduceEq, S45L2, e7, e6, e5, e4, e3, e0, hlenr]
    refine Br_dec (fun g => ?_) (fun g => ?_)
    · have hj' : j < (partsZ l[i]).length := by omega
      obtain ⟨r1, r2⟩ := hpl _ (List.getElem_mem hj')
      have r4 : (partsZ l[i])[j] < ((l.length : Nat) : Int) := by omega
      have r5 : (partsZ l[i])[j].toNat < l.length := by omega
      have hy := sizesL_le (l := l) i (partsZ l[i])[j].toNat
      have hstep := szG_step (S := sizesL l i) hj'
      have hgp : (rowK .u64 (sizesL l i) l.length)[(partsZ l[i])[j].toNat]? = some (.int .u64 ((sizesL l i).getD (partsZ l[i])[j].toNat 0 : Nat)) := by
        rw [rowK_get (by omega)]
      have hwr : IntKind.u64.wrap ((szG (sizesL l i) ((partsZ l[i]).take j) : Nat) + ((sizesL l i).getD (partsZ l[i])[j].toNat 0 : Nat) : Int) = (szG (sizesL l i) ((partsZ l[i]).take (j + 1)) : Nat) := by
        rw [← hstep]
        have h2 : j * mostN ≤ 2 * mostN := Nat.mul_le_mul_right _ (by omega)
        have := u64s (n := szG (sizesL l i) ((partsZ l[i]).take j) + (sizesL l i).getD (partsZ l[i])[j].toNat 0) (by simp only [mostN] at hle hy h2; omega)
        rw [← this]; push_cast; rfl
      simp -implicitDefEqProofs only [↓gP, gQ, ↓reduceIte, Nat.reduceAdd, Nat.reduceEqDiff, Nat.reduceLT, Nat.reduceLeDiff, Int.reduceEq, e7, e6, e5, e4, e3, e0, rx, rld _ _ hj' Ext.refl, hj', ix_ownZ r1 r4, hobj2, hrl, hborn, r5, hgp, hwr]
      refine ⟨(partsZ l[i]).length - (j + 1), by omega, j + 1, rfl, hj', ?_, ?_, by first | exact True.intro | rfl | trivial, by first | exact True.intro | rfl | trivial, by first | exact True.intro | rfl | trivial, by first | exact True.intro | rfl | trivial, by first | exact True.intro | rfl | trivial, by first | exact True.intro | rfl | trivial, by first | exact True.intro | rfl | trivial⟩
      · rw [← hstep, Nat.succ_mul]; omega
      · rw [wrap64 (by omega) (by omega)]; rfl
    · have : j = (partsZ l[i]).length := by omega
      subst this
      rw [List.take_length] at e5
      have hst := rowK_set (k := .u64) (vs := sizesL l i) (n := l.length) (x := szF (sizesL l i) (partsZ l[i])) (by omega)
      rw [hsl, ← hS1] at hst
      obtain ⟨d1, d2⟩ := own_set hE3 (Nat.le_refl _) hobj2 (o' := .cells (rowK .u64 (sizesL l (i + 1)) l.length) 82 l.length false)
      simp -implicitDefEqProofs only [↓gP, gQ, ↓reduceIte, Nat.reduceAdd, Nat.reduceEqDiff, Nat.reduceLT, Nat.reduceLeDiff, Int.reduceEq, e7, e6, e5, e4, e3, e0, min_most, szG_min, ix_own1 hil, hobj2, hrl, hborn, hi1, hst]
      refine ⟨l.length - (i + 1), by omega, i + 1, l.length, rfl, hil, ?_, by first | exact True.intro | rfl | trivial, by first | exact True.intro | rfl | trivial, d1, Nat.le_refl _, d2, by first | exact True.intro | rfl | trivial⟩
      rw [wrap64 (by omega) (by omega)]; rfl
  · have : i = l.length := by omega
    subst this
    simp -implicitDefEqProofs only [↓gP, gQ, ↓reduceIte, Nat.reduceAdd, Nat.reduceEqDiff, Nat.reduceLT, Nat.reduceLeDiff, Int.reduceEq, e4, e3, e0]
    refine ⟨hE, H.length, born, Nat.le_refl _, rfl, hborn, ?_⟩
    have := rowK_full (k := .u64) (vs := sizesL l l.length)
    rw [sizesL_len] at this
    rw [← this]; exact hobj
end Go.Va
end

section
set_option linter.unusedSimpArgs false
set_option linter.unusedVariables false
set_option linter.unusedSectionVars false
namespace Go.Va
open Go.Proofs

theorem eqCells_nd (n m : Nd) : eqCells [true, true, true, true] n.c m.c = some (decide (n = m)) := by
  obtain ⟨a, b, c, d⟩ := n
  obtain ⟨a', b', c', d'⟩ := m
  simp only [Nd.c, eqCells, if_true, Option.map_some, Option.some.injEq]
  rw [Bool.eq_iff_iff]
  simp only [Bool.and_eq_true, beq_iff_eq, Nd.mk.injEq, decide_eq_true_eq, and_true]
theorem kinds_nd : X.kinds 52 = some [true, true, true, true] := by kernel_rfl
theorem und_ndB : (match X.P.underlying 52 with | some (.struct _) => true | _ => false) = true := by kernel_rfl
theorem und_nd : ∃ fs, X.P.underlying 52 = some (.struct fs) := by
  have h := und_ndB
  split at h
  · rename_i fs hf; exact ⟨fs, hf⟩
  · cases h
theorem und_map : X.P.underlying 116 = some (.map 52 3) := by kernel_rfl
theorem zero_int : zeroA X.P 3 = some (.int .i64 0) := by kernel_rfl
theorem bin_eql_nd {n m : Nd} : binA X .eql 52 (.agg [.int .i64 n.op, .int .i64 n.a, .int .i64 n.b, .int .u32 n.k]) (.agg [.int .i64 m.op, .int .i64 m.a, .int .i64 m.b, .int .u32 m.k]) = some (.bool (decide (n = m))) := by
  have h : eqA X 52 (.agg n.c) (.agg m.c) = some (decide (n = m)) := by
    simp only [eqA, kinds_nd, Option.bind_some]; exact eqCells_nd n m
  simp only [binA]
  have h' : eqA X 52 (.agg [.int .i64 n.op, .int .i64 n.a, .int .i64 n.b, .int .u32 n.k]) (.agg [.int .i64 m.op, .int .i64 m.a, .int .i64 m.b, .int .u32 m.k]) = some (decide (n = m)) := h
  rw [h']; rfl
theorem bin_neq_nd {n m : Nd} : binA X .neq 52 (.agg [.int .i64 n.op, .int .i64 n.a, .int .i64 n.b, .int .u32 n.k]) (.agg [.int .i64 m.op, .int .i64 m.a, .int .i64 m.b, .int .u32 m.k]) = some (.bool (!decide (n = m))) := by
  have h : eqA X 52 (.agg n.c) (.agg m.c) = some (decide (n = m)) := by
    simp only [eqA, kinds_nd, Option.bind_some]; exact eqCells_nd n m
  simp only [binA]
  have h' : eqA X 52 (.agg [.int .i64 n.op, .int .i64 n.a, .int .i64 n.b, .int .u32 n.k]) (.agg [.int .i64 m.op, .int .i64 m.a, .int .i64 m.b, .int .u32 m.k]) = some (decide (n = m)) := h
  rw [h']; rfl
theorem keyEq_nd {n m : Nd} : keyEqA X 52 n.v m.v = some (decide (n = m)) := by
  obtain ⟨fs, hu⟩ := und_nd
  simp only [keyEqA, hu, Nd.v_eq, kinds_nd, Option.bind_some]; exact eqCells_nd n m

/-- A row's nodes and their places, as a map has them. -/
def mapOf (l : List Nd) (k : Nat) : List (AV × AV) := match l with
  | [] => []
  | n :: l => (n.v, .int .i64 (k : Nat)) :: mapOf l (k + 1)
theorem mapOf_app {l : List Nd} {n : Nd} : ∀ {k : Nat}, mapOf (l ++ [n]) k = mapOf l k ++ [(n.v, .int .i64 ((k + l.length : Nat) : Int))] := by
  induction l with
  | nil => intro k; simp [mapOf]
  | cons m l ih => intro k; simp only [List.cons_append, mapOf, ih, List.length_cons]; rw [Nat.add_comm l.length 1, Nat.add_assoc]
theorem find_map {n : Nd} {l : List Nd} : ∀ {k i : Nat}, findA X 52 n.v (mapOf l k) i = some (if n ∈ l then some (i + l.idxOf n, .int .i64 ((k + l.idxOf n : Nat) : Int)) else none) := by
  induction l with
  | nil => intro k i; simp [mapOf, findA]
  | cons m l ih =>
    intro k i
    simp only [mapOf, findA, keyEq_nd]
    by_cases h : n = m
    · subst h; simp
    · rw [decide_eq_false h]
      simp only [ih, List.mem_cons, h, false_or]
      have : List.idxOf n (m :: l) = l.idxOf n + 1 := by
        rw [List.idxOf_cons, show (m == n) = false from by simpa using Ne.symm h]; rfl
      rw [this]
      by_cases hm : n ∈ l
      · rw [if_pos hm, if_pos hm]; congr 3
        · omega
        · congr 1; omega
      · rw [if_neg hm, if_neg hm]
theorem keyOk_nd {n : Nd} : keyOkA X 52 n.v = true := by simp only [keyOkA, keyEq_nd]; rfl
theorem lookup_map {n : Nd} {l : List Nd} {id : Nat} {H : Heap} (h : H[id]? = some (.map (mapOf l 0))) :
    lookupA X 116 (.map id) (.agg [.int .i64 n.op, .int .i64 n.a, .int .i64 n.b, .int .u32 n.k]) true H = some (if n ∈ l then .tup [.int .i64 (l.idxOf n : Nat), .bool true] else .tup [.int .i64 0, .bool false]) := by
  have hf := find_map (n := n) (l := l) (k := 0) (i := 0)
  have hk := keyOk_nd (n := n)
  simp only [Nd.v] at hf hk
  unfold lookupA
  rw [und_map]
  simp only [h, zero_int, hk, hf, if_true]
  by_cases hm : n ∈ l
  · simp only [hm, if_true, Nat.zero_add]
  · simp only [hm, if_false]
theorem update_map {n : Nd} {l : List Nd} {id : Nat} {H : Heap} (h : H[id]? = some (.map (mapOf l 0))) (hm : n ∉ l) :
    mapUpdateA X 116 (.map id) (.agg [.int .i64 n.op, .int .i64 n.a, .int .i64 n.b, .int .u32 n.k]) (.int .i64 (l.length : Nat)) H = some (H.set id (.map (mapOf (l ++ [n]) 0))) := by
  have hf := find_map (n := n) (l := l) (k := 0) (i := 0)
  have hk := keyOk_nd (n := n)
  simp only [Nd.v] at hf hk
  unfold mapUpdateA
  rw [und_map]
  simp only [h, hk, hf, hm, if_true, if_false]
  rw [mapOf_app, Nat.zero_add]; rfl

theorem eql_pool {a b c : Nat} : binA X .eql 40 (.ptr a b c) .nilp = some (.bool false) := by kernel_rfl
theorem eql_map {a : Nat} : binA X .eql 116 (.map a) .nilm = some (.bool false) := by kernel_rfl
theorem eql_sl {a b c d e : Nat} : binA X .eql 22 (.sl a b c d e) .nilsl = some (.bool false) := by kernel_rfl
theorem eql_esl : binA X .eql 22 .esl .nilsl = some (.bool false) := by kernel_rfl
theorem nds_one' {l : List Nd} : (l.map Nd.c).flatten.all AV.one = true := by
  induction l with
  | nil => rfl
  | cons n l ih => rw [List.map_cons, List.flatten_cons, List.all_append, ih]; rfl
theorem eql_nilsl : binA X .eql 22 .nilsl .nilsl = some (.bool true) := by kernel_rfl
theorem bldPool (m : Nat) : buildA Try.prog 118 [(1, .map m)] = some (.agg [.nilsl, .map m]) := by kernel_rfl
theorem bldNode : buildA Try.prog 52 [] = some (.agg [.int .i64 0, .int .i64 0, .int .i64 0, .int .u32 0]) := by kernel_rfl
theorem cells_map {m : Nat} : (AV.map m).cells = [.map m] := rfl
theorem one_map {m : Nat} : (AV.map m).one = true := rfl
theorem one_nilsl : AV.nilsl.one = true := rfl
theorem one_sl {a b c d e : Nat} : (AV.sl a b c d e).one = true := rfl
theorem cells_sl {a b c d e : Nat} : (AV.sl a b c d e).cells = [.sl a b c d e] := rfl

def slId : AV → Option Nat
  | .sl id _ _ _ _ => some id
  | _ => none
/-- Places of the heap that a pool owns. -/
def Foot (pid mid : Nat) (nv : AV) (i : Nat) : Prop := i = pid ∨ i = mid ∨ slId nv = some i
/-- All but some places stay as they are. -/
def Keep (S : Nat → Prop) (H H' : Heap) : Prop := H.length ≤ H'.length ∧ ∀ (i : Nat) (o : AObj), ¬ S i → H[i]? = some o → H'[i]? = some o
theorem Ext.keep {S : Nat → Prop} {H H' : Heap} (h : Ext H H') : Keep S H H' := ⟨h.len, fun i o _ e => h i o e⟩
theorem Keep.trans {S : Nat → Prop} {H H' H'' : Heap} (h : Keep S H H') (g : Keep S H' H'') : Keep S H H'' := ⟨Nat.le_trans h.1 g.1, fun i o n e => g.2 i o n (h.2 i o n e)⟩

structure PoolAt (H : Heap) (pid mid : Nat) (nv : AV) (l : List Nd) : Prop where
  obj : ∃ b, b ≤ 2 ∧ H[pid]? = some (.cells [nv, .map mid] 118 b false)
  map : H[mid]? = some (.map (mapOf l 0))
  nodes : OwnV 0 H nv 52 4 l.length (l.map Nd.c).flatten
  ne : pid ≠ mid ∧ slId nv ≠ some pid ∧ slId nv ≠ some mid
theorem PoolAt.keep {H H' : Heap} {pid mid : Nat} {nv : AV} {l : List Nd} (h : PoolAt H pid mid nv l) (k : ∀ i o, Foot pid mid nv i → H[i]? = some o → H'[i]? = some o) : PoolAt H' pid mid nv l := by
  obtain ⟨⟨b, hb, h1⟩, h2, ⟨h3, h4⟩, h5⟩ := h
  refine ⟨⟨b, hb, k _ _ (.inl rfl) h1⟩, k _ _ (.inr (.inl rfl)) h2, ⟨h3, ?_⟩, h5⟩
  rcases h4 with h4 | ⟨id, born, g1, g2, g3, g4⟩
  · exact .inl h4
  · exact .inr ⟨id, born, g1, g2, g3, k _ _ (.inr (.inr (by rw [g2]; rfl))) g4⟩
theorem PoolAt.ext {H H' : Heap} {pid mid : Nat} {nv : AV} {l : List Nd} (h : PoolAt H pid mid nv l) (k : Ext H H') : PoolAt H' pid mid nv l := h.keep fun i o _ e => k i o e
theorem nd_rows {l : List Nd} : ∀ x ∈ l.map Nd.c, x.length = 4 := by
  intro x hx
  simp only [List.mem_map] at hx
  obtain ⟨n, -, rfl⟩ := hx
  rfl
theorem PoolAt.shows {H : Heap} {pid mid : Nat} {nv : AV} {l : List Nd} (h : PoolAt H pid mid nv l) : Shows H nv 4 (l.map Nd.c) := h.nodes.shows nd_rows (by decide)
theorem PoolAt.lt {H : Heap} {pid mid : Nat} {nv : AV} {l : List Nd} (h : PoolAt H pid mid nv l) {i : Nat} (hi : Foot pid mid nv i) : i < H.length := by
  have aux : ∀ {j : Nat} {o : AObj}, H[j]? = some o → j < H.length := fun h => by rw [List.getElem?_eq_some_iff] at h; exact h.1
  rcases hi with rfl | rfl | hi
  · obtain ⟨b, -, h⟩ := h.obj; exact aux h
  · exact aux h.map
  · rcases h.nodes.2 with ⟨rfl, -⟩ | ⟨id, born, -, rfl, -, g⟩
    · cases hi
    · cases hi; exact aux g

def putP (l : List Nd) (n : Nd) : List Nd := if n ∈ l then l else l ++ [n]
theorem idx_put {l : List Nd} {n : Nd} : (putP l n).idxOf n = if n ∈ l then l.idxOf n else l.length := by
  unfold putP
  split
  · rfl
  · rename_i h
    rw [List.idxOf_append, if_neg h]; simp

theorem OwnV.push' {P : Program} {t e : TypeId} {sz bytes n : Nat} {z c xs : List AV} {v : AV} {H : Heap} (h : OwnV 0 H v e sz n c) (hT : slT P t = some (e, sz, bytes, z)) (h3 : z.length = sz) (h4 : 0 < sz) (hx : xs.length = sz) (ho : xs.all AV.one = true)
    (hbd : (n + 1) * bytes ≤ 140737488355328) (hbd' : n + 1 ≤ 140737488355328) :
    ∃ v' H', appendA P t t v (.sl H.length 0 1 sz sz) (H ++ [.cells xs e 0 false]) = some (v', H') ∧ OwnV 0 H' v' e sz (n + 1) (c ++ xs) ∧ Keep (fun i => slId v = some i) H H' ∧ (slId v' = slId v ∨ ∃ id, slId v' = some id ∧ H.length ≤ id) ∧ v'.cells = [v'] ∧ v'.one = true ∧
      ∀ id c0 e0 born ro, slId v = some id → H[id]? = some (.cells c0 e0 born ro) → ∃ d, H'[id]? = some (.cells (c0 ++ d) e0 born ro) := by
  have hy : (H ++ [AObj.cells xs e 0 false])[H.length]? = some (.cells xs e 0 false) := hp_get0
  have hys : slCells (H ++ [AObj.cells xs e 0 false]) (.sl H.length 0 1 sz sz) = some xs := by
    have := slCells_own (n := 1) (sz := sz) hy (Nat.zero_le _) (by rw [hx, Nat.one_mul])
    rwa [Nat.one_mul] at this
  obtain ⟨hc, hv⟩ := h
  have hcl : (c ++ xs).length = (n + 1) * sz := by rw [List.length_append, hc, hx, Nat.add_mul, Nat.one_mul]
  rcases hv with ⟨rfl, rfl⟩ | ⟨id, born, hid1, rfl, hborn, hid2⟩
  · refine ⟨_, _, app_nil (m := 1) hT h3 h4 hys rfl (by omega) (by rw [hx, Nat.one_mul]) ho (by omega) (by omega), ⟨hcl, .inr ⟨(H ++ [AObj.cells xs e 0 false]).length, 0, Nat.zero_le _, rfl, Nat.zero_le _, ?_⟩⟩, Ext.refl.app.app.keep, .inr ⟨_, rfl, by simp⟩, rfl, rfl, fun _ _ _ _ _ h => by cases h⟩
    have : c = [] := by cases c with
      | nil => rfl
      | cons a l => simp at hc
    subst this
    exact hp_get0
  · have hlt : id < H.length := by rw [List.getElem?_eq_some_iff] at hid2; exact hid2.1
    refine ⟨_, _, app_own (m := 1) hT h3 h4 (Ext.refl.app _ _ hid2) hc hborn hys rfl (by omega) (by rw [hx, Nat.one_mul]) ho hbd hbd', ⟨hcl, .inr ⟨id, born, hid1, rfl, by rw [List.length_append]; omega, ?_⟩⟩, ⟨by simp, fun i o hn hi => ?_⟩, .inl rfl, rfl, rfl, fun id' c0 e0 b0 ro h hc0 => ?_⟩
    rotate_left 2
    · cases h
      rw [hid2] at hc0; cases hc0
      exact ⟨xs, by rw [List.getElem?_set_self (by simp; omega)]⟩
    · rw [List.getElem?_set_self (by simp; omega)]
    · rw [List.getElem?_set_ne (by intro e; apply hn; rw [← e]; rfl)]
      exact Ext.refl.app _ _ hi

theorem new_spec (H : Heap) : F X 47 [] H fun r H' => r = .ptr (H.length + 1) 0 2 ∧ PoolAt H' (H.length + 1) H.length .nilsl [] ∧ Ext H H' := by
  refine F_slim S47_eq rfl fun ρ hρ => ?_
  simp -implicitDefEqProofs only [↓gP, gQ, ↓reduceIte, Nat.reduceAdd, Nat.reduceEqDiff, Nat.reduceLT, Nat.reduceLeDiff, Int.reduceEq, S47, bldPool]
  refine ⟨trivial, ⟨⟨0, by decide, hp_get⟩, hp_get0, OwnV.nil, by omega, by simp [slId], by simp [slId]⟩, Ext.refl.app⟩

theorem put_spec (n : Nd) (l : List Nd) (pid mid : Nat) (nv : AV) (H : Heap) (hP : PoolAt H pid mid nv l) (hl : l.length ≤ 65536) :
    F X 78 [.ptr pid 0 2, n.v] H fun r H' => r = .int .i64 ((putP l n).idxOf n : Nat) ∧ ∃ nv', PoolAt H' pid mid nv' (putP l n) ∧ Keep (Foot pid mid nv) H H' ∧ ∀ i, Foot pid mid nv' i → Foot pid mid nv i ∨ H.length ≤ i := by
  refine F_slim S78_eq rfl fun ρ hρ => ?_
  simp only [AGs] at hρ
  obtain ⟨h0, h1, -⟩ := hρ
  obtain ⟨b, hb, hobj⟩ := hP.obj
  have hmap := hP.map
  have hap : ∀ {j : Nat} {o : AObj} (l' : Heap), H[j]? = some o → (H ++ l')[j]? = some o := fun l' h => Ext.refl.app _ _ h
  have hmap1 := hap [AObj.cells [AV.int .i64 n.op, AV.int .i64 n.a, AV.int .i64 n.b, AV.int .u32 n.k] 52 0 false] hmap
  have hobj1 := hap [AObj.cells [AV.int .i64 n.op, AV.int .i64 n.a, AV.int .i64 n.b, AV.int .u32 n.k] 52 0 false] hobj
  simp -implicitDefEqProofs only [↓gP, gQ, ↓reduceIte, Nat.reduceAdd, Nat.reduceEqDiff, Nat.reduceLT, Nat.reduceLeDiff, Int.reduceEq, S78, h0, h1, Nd.v, hobj1, hb, lookup_map hmap1]
  by_cases hm : n ∈ l
  · simp -implicitDefEqProofs only [↓gP, gQ, ↓reduceIte, Nat.reduceAdd, Nat.reduceEqDiff, Nat.reduceLT, Nat.reduceLeDiff, Int.reduceEq, h0, h1, hm]
    refine ⟨?_, nv, ?_, Ext.refl.app.keep, fun i h => .inl h⟩
    · rw [idx_put, if_pos hm]
    · rw [putP, if_pos hm]; exact hP.ext Ext.refl.app
  · have hlen := (hP.shows.ext (Ext.refl.app (l := [AObj.cells [AV.int .i64 n.op, AV.int .i64 n.a, AV.int .i64 n.b, AV.int .u32 n.k] 52 0 false]))).lenA isSl_22
    rw [List.length_map] at hlen
    simp -implicitDefEqProofs only [↓gP, gQ, ↓reduceIte, Nat.reduceAdd, Nat.reduceEqDiff, Nat.reduceLT, Nat.reduceLeDiff, Int.reduceEq, h0, h1, hm, hobj1, hb, hlen, update_map hmap1 hm]
    have hmidlt : mid < (H ++ [AObj.cells [AV.int .i64 n.op, AV.int .i64 n.a, AV.int .i64 n.b, AV.int .u32 n.k] 52 0 false]).length := by rw [List.getElem?_eq_some_iff] at hmap1; exact hmap1.1
    have hboxne : mid ≠ H.length := by
      have := hP.lt (.inr (.inl rfl)); omega
    have hpidne : pid < H.length := hP.lt (.inl rfl)
    have hbox1 : (H ++ [AObj.cells [AV.int .i64 n.op, AV.int .i64 n.a, AV.int .i64 n.b, AV.int .u32 n.k] 52 0 false])[H.length]? = some (.cells [AV.int .i64 n.op, AV.int .i64 n.a, AV.int .i64 n.b, AV.int .u32 n.k] 52 0 false) := hp_get0
    have hK1 : Keep (Foot pid mid nv) H ((H ++ [AObj.cells [AV.int .i64 n.op, AV.int .i64 n.a, AV.int .i64 n.b, AV.int .u32 n.k] 52 0 false]).set mid (.map (mapOf (l ++ [n]) 0))) := by
      refine ⟨by simp, fun i o hn hi => ?_⟩
      rw [List.getElem?_set_ne (by intro e; exact hn (.inr (.inl e.symm)))]
      exact hap _ hi
    have hmap2 : ((H ++ [AObj.cells [AV.int .i64 n.op, AV.int .i64 n.a, AV.int .i64 n.b, AV.int .u32 n.k] 52 0 false]).set mid (.map (mapOf (l ++ [n]) 0)))[mid]? = some (.map (mapOf (l ++ [n]) 0)) := by
      rw [List.getElem?_set_self hmidlt]
    have hobj2 : ((H ++ [AObj.cells [AV.int .i64 n.op, AV.int .i64 n.a, AV.int .i64 n.b, AV.int .u32 n.k] 52 0 false]).set mid (.map (mapOf (l ++ [n]) 0)))[pid]? = some (.cells [nv, .map mid] 118 b false) := by
      rw [List.getElem?_set_ne hP.ne.1.symm]; exact hobj1
    have hbox2 : ((H ++ [AObj.cells [AV.int .i64 n.op, AV.int .i64 n.a, AV.int .i64 n.b, AV.int .u32 n.k] 52 0 false]).set mid (.map (mapOf (l ++ [n]) 0)))[H.length]? = some (.cells [AV.int .i64 n.op, AV.int .i64 n.a, AV.int .i64 n.b, AV.int .u32 n.k] 52 0 false) := by
      rw [List.getElem?_set_ne hboxne]; exact hbox1
    have hnod2 : OwnV 0 ((H ++ [AObj.cells [AV.int .i64 n.op, AV.int .i64 n.a, AV.int .i64 n.b, AV.int .u32 n.k] 52 0 false]).set mid (.map (mapOf (l ++ [n]) 0))) nv 52 4 l.length (l.map Nd.c).flatten := by
      obtain ⟨g1, g2⟩ := hP.nodes
      refine ⟨g1, ?_⟩
      rcases g2 with g2 | ⟨id, born, k1, k2, k3, k4⟩
      · exact .inl g2
      · refine .inr ⟨id, born, k1, k2, k3, ?_⟩
        have := hP.ne.2.2
        rw [k2] at this
        rw [List.getElem?_set_ne (by intro e; apply this; rw [e]; rfl)]
        exact hap _ k4
    generalize hH2 : (H ++ [AObj.cells [AV.int .i64 n.op, AV.int .i64 n.a, AV.int .i64 n.b, AV.int .u32 n.k] 52 0 false]).set mid (.map (mapOf (l ++ [n]) 0)) = H2 at hK1 hmap2 hobj2 hbox2 hnod2
    obtain ⟨v', H3, ap, hO3, hK3, hid3, hc3, ho3, -⟩ := hnod2.push' (t := 22) (xs := n.c) slT_22 rfl (by decide) rfl rfl (by omega) (by omega)
    have hbl : ∀ H : Heap, buildSliceA Try.prog 22 1 [(0, .agg [AV.int .i64 n.op, AV.int .i64 n.a, AV.int .i64 n.b, AV.int .u32 n.k])] H = some (.sl H.length 0 1 4 4, H ++ [.cells n.c 52 0 false]) := fun H => bldSl1 slT_22 rfl (by decide) (by decide) rfl rfl
    have hobj3 : H3[pid]? = some (.cells [nv, .map mid] 118 b false) := hK3.2 _ _ hP.ne.2.1 hobj2
    have hmap3 : H3[mid]? = some (.map (mapOf (l ++ [n]) 0)) := hK3.2 _ _ hP.ne.2.2 hmap2
    have h20 : (2 : Nat) ≤ 2 := Nat.le_refl _
    simp -implicitDefEqProofs only [↓gP, gQ, ↓gL, gM, ↓reduceIte, Nat.reduceAdd, Nat.reduceEqDiff, Nat.reduceLT, Nat.reduceLeDiff, Int.reduceEq, h0, h1, hobj2, hb, hbox2, hbl, ap, hobj3, hc3, ho3]
    rw [thenL_eq]
    refine ⟨?_, ?_⟩
    · intro q hq
      simp only [List.mem_singleton] at hq
      subst hq
      refine same_load (v := nv) rfl rfl rfl ?_ ?_
      · simp -implicitDefEqProofs only [↓gP, gQ, ↓reduceIte, Nat.reduceAdd, Nat.reduceEqDiff, Nat.reduceLT, Nat.reduceLeDiff, Int.reduceEq, hobj2, hb]
      · have : (H2 ++ [AObj.cells n.c 52 0 false])[pid]? = some (.cells [nv, .map mid] 118 b false) := Ext.refl.app _ _ hobj2
        simp -implicitDefEqProofs only [↓gP, gQ, ↓reduceIte, Nat.reduceAdd, Nat.reduceEqDiff, Nat.reduceLT, Nat.reduceLeDiff, Int.reduceEq, this, hb]
    · simp -implicitDefEqProofs only [↓gP, gQ, ↓reduceIte, Nat.reduceAdd, Nat.reduceEqDiff, Nat.reduceLT, Nat.reduceLeDiff, Int.reduceEq, h0, h1, hm]
      have hv'p : slId v' ≠ some pid := by
        rcases hid3 with e | ⟨id, e, hge⟩
        · rw [e]; exact hP.ne.2.1
        · rw [e]; intro h'; cases h'; have := hK1.1; omega
      have hv'm : slId v' ≠ some mid := by
        rcases hid3 with e | ⟨id, e, hge⟩
        · rw [e]; exact hP.ne.2.2
        · rw [e]; intro h'; cases h'; have := hK1.1; have := hP.lt (.inr (.inl rfl)); omega
      have hp3 : pid < H3.length := by rw [List.getElem?_eq_some_iff] at hobj3; exact hobj3.1
      refine ⟨?_, v', ⟨⟨2, Nat.le_refl _, ?_⟩, ?_, ?_, hP.ne.1, hv'p, hv'm⟩, ⟨?_, fun i o hn hi => ?_⟩, fun i hi => ?_⟩
      · rw [idx_put, if_neg hm]
      · rw [List.getElem?_set_self hp3]
      · rw [List.getElem?_set_ne hP.ne.1, putP, if_neg hm]; exact hmap3
      · obtain ⟨g1, g2⟩ := hO3
        have e1 : ((putP l n).map Nd.c).flatten = (l.map Nd.c).flatten ++ n.c := by rw [putP, if_neg hm]; simp
        have e2 : (putP l n).length = l.length + 1 := by rw [putP, if_neg hm]; simp
        rw [e1, e2]
        refine ⟨g1, ?_⟩
        rcases g2 with ⟨k1, k2⟩ | ⟨id, born, k1, k2, k3, k4⟩
        · exact .inl ⟨k1, k2⟩
        · refine .inr ⟨id, born, k1, k2, k3, ?_⟩
          rw [List.getElem?_set_ne (by intro e; apply hv'p; rw [k2, e]; rfl)]
          exact k4
      · rw [List.length_set]; exact Nat.le_trans hK1.1 hK3.1
      · rw [List.getElem?_set_ne (by intro e; exact hn (.inl e.symm))]
        exact hK3.2 _ _ (fun h' => hn (.inr (.inr h'))) (hK1.2 _ _ hn hi)
      · rcases hi with rfl | rfl | hi
        · exact .inl (.inl rfl)
        · exact .inl (.inr (.inl rfl))
        · rcases hid3 with e | ⟨id, e, hge⟩
          · rw [e] at hi; exact .inl (.inr (.inr hi))
          · rw [e] at hi; cases hi; right; exact Nat.le_trans hK1.1 hge

/-- The node at a place. -/
theorem at_spec (i : Int) (l : List Nd) (pid mid : Nat) (nv : AV) (H : Heap) (hP : PoolAt H pid mid nv l) :
    F X 49 [.ptr pid 0 2, .int .i64 i] H fun r H' => Ext H H' ∧ (if h : 0 ≤ i ∧ i < l.length then r = .tup [(l[i.toNat]'(by omega)).v, .bool true] else r = .tup [.agg [.int .i64 0, .int .i64 0, .int .i64 0, .int .u32 0], .bool false]) := by
  refine F_slim S49_eq rfl fun ρ hρ => ?_
  simp only [AGs] at hρ
  obtain ⟨h0, h1, -⟩ := hρ
  obtain ⟨b, hb, hobj⟩ := hP.obj
  have hlen := hP.shows.lenA isSl_22
  rw [List.length_map] at hlen
  obtain ⟨nx, -, -, -, -, -, nld⟩ := hP.shows.nodes
  have hap : ∀ {j : Nat} {o : AObj} (l' : Heap), H[j]? = some o → (H ++ l')[j]? = some o := fun l' h => Ext.refl.app _ _ h
  have hobj' := fun l' => hap l' hobj
  simp -implicitDefEqProofs only [↓gP, gQ, ↓reduceIte, Nat.reduceAdd, Nat.reduceEqDiff, Nat.reduceLT, Nat.reduceLeDiff, Int.reduceEq, S49, h0, h1, eql_pool, hobj', hb, hlen]
  refine Br_dec (fun g1 => ?_) (fun g1 => ?_) <;> simp -implicitDefEqProofs only [↓gP, gQ, ↓reduceIte, Nat.reduceAdd, Nat.reduceEqDiff, Nat.reduceLT, Nat.reduceLeDiff, Int.reduceEq, h0, h1, g1, hobj', hb, hlen, bldNode, FinC2]
  · refine ⟨Ext.refl.app, ?_⟩
    rw [dif_neg (by omega)]; trivial
  · refine Br_dec (fun g2 => ?_) (fun g2 => ?_)
    · simp -implicitDefEqProofs only [↓gP, gQ, ↓reduceIte, Nat.reduceAdd, Nat.reduceEqDiff, Nat.reduceLT, Nat.reduceLeDiff, Int.reduceEq, h0, h1, g1, g2, hobj', hb, hlen, bldNode, FinC2]
      refine ⟨Ext.refl.app, ?_⟩
      rw [dif_neg (by omega)]; trivial
    · obtain ⟨k, rfl⟩ : ∃ k : Nat, i = k := ⟨i.toNat, (Int.toNat_of_nonneg (by omega)).symm⟩
      have hk : k < l.length := by omega
      have hE : ∀ l', Ext H (H ++ l') := fun l' => Ext.refl.app
      simp -implicitDefEqProofs only [↓gP, gQ, ↓reduceIte, Nat.reduceAdd, Nat.reduceEqDiff, Nat.reduceLT, Nat.reduceLeDiff, Int.reduceEq, h0, h1, g1, g2, hobj', hb, hlen, nx, hk, nld, hE, FinC2]
      refine ⟨trivial, ?_⟩
      rw [dif_pos ⟨by omega, by omega⟩]
      simp only [Int.toNat_natCast]; rfl

/-- A copy of a row of nodes. -/
theorem clone_spec (l : List Nd) (v : AV) (H : Heap) (hS : Shows H v 4 (l.map Nd.c)) (hn : l.length ≤ 1000000) : F X 69 [v] H fun r H' => Ext H H' ∧ OwnV H.length H' r 52 4 l.length (l.map Nd.c).flatten := by
  refine F_slim S69_eq rfl fun ρ hρ => ?_
  simp only [AGs] at hρ
  obtain ⟨h0, -⟩ := hρ
  obtain ⟨v', H', e2, hO2, hE2, -⟩ := copySl (H := H) slT_22 rfl (by decide) hS nds_one' (by rw [List.length_map]; omega) (by rw [List.length_map]; omega)
  rw [List.length_map] at hO2
  have h := hS.2
  have go : ∀ b, binA X .eql 22 v .nilsl = some (.bool b) → (b = true → v = .nilsl) → WS X S69 (Fin X.P [.tmp 2] fun r H' => Ext H H' ∧ OwnV H.length H' r 52 4 l.length (l.map Nd.c).flatten) (fun _ _ _ _ => False) (Fin X.P [.tmp 2] fun r H' => Ext H H' ∧ OwnV H.length H' r 52 4 l.length (l.map Nd.c).flatten) ρ H [] := by
    intro b hb hv
    simp -implicitDefEqProofs only [↓gP, gQ, ↓reduceIte, Nat.reduceAdd, Nat.reduceEqDiff, Nat.reduceLT, Nat.reduceLeDiff, Int.reduceEq, S69, h0, hb]
    refine Br_bool (fun g => ?_) (fun g => ?_)
    · simp -implicitDefEqProofs only [↓gP, gQ, ↓reduceIte, Nat.reduceAdd, Nat.reduceEqDiff, Nat.reduceLT, Nat.reduceLeDiff, Int.reduceEq, h0]
      refine ⟨Ext.refl, ?_⟩
      have hv' := hv g
      subst hv'
      have hl : l.map Nd.c = [] := h
      have : l = [] := by simpa using hl
      subst this
      exact OwnV.nil
    · simp -implicitDefEqProofs only [↓gP, gQ, ↓reduceIte, Nat.reduceAdd, Nat.reduceEqDiff, Nat.reduceLT, Nat.reduceLeDiff, Int.reduceEq, h0, bldSl0 (k := 0) slT_22 rfl (by decide), e2]
      exact ⟨hE2, hO2⟩
  cases v <;> try exact h.elim
  · exact go true eql_nilsl (fun _ => rfl)
  · exact go false eql_esl (fun h => by cases h)
  · exact go false eql_sl (fun h => by cases h)

theorem nodes_spec (l : List Nd) (pid mid : Nat) (nv : AV) (H : Heap) (hP : PoolAt H pid mid nv l) (hn : l.length ≤ 1000000) :
    F X 36 [.ptr pid 0 2] H fun r H' => Ext H H' ∧ OwnV H.length H' r 52 4 l.length (l.map Nd.c).flatten := by
  refine F_slim S36_eq rfl fun ρ hρ => ?_
  simp only [AGs] at hρ
  obtain ⟨h0, -⟩ := hρ
  obtain ⟨b, hb, hobj⟩ := hP.obj
  simp -implicitDefEqProofs only [↓gP, gQ, ↓reduceIte, Nat.reduceAdd, Nat.reduceEqDiff, Nat.reduceLT, Nat.reduceLeDiff, Int.reduceEq, S36, h0, eql_pool, hobj, hb]
  refine CS_fn (clone_spec l _ _ hP.shows hn) ?_
  rintro r H' ⟨hE, hO⟩
  simp -implicitDefEqProofs only [↓gP, gQ, ↓reduceIte, Nat.reduceAdd, Nat.reduceEqDiff, Nat.reduceLT, Nat.reduceLeDiff, Int.reduceEq, h0]
  exact ⟨hE, hO⟩

/-- What a node may be, and whether there is room. -/
def putE (n : Nd) (l : List Nd) : Int := if mayB n l.length = false then 3 else if n ∈ l then 0 else if 65536 ≤ l.length then 5 else 0
theorem Put_spec (n : Nd) (l : List Nd) (pid mid : Nat) (nv : AV) (H : Heap) (hP : PoolAt H pid mid nv l) (hl : l.length ≤ 65536) :
    F X 57 [.ptr pid 0 2, n.v] H fun r H' => ∃ nv', PoolAt H' pid mid nv' (if putE n l = 0 then putP l n else l) ∧ Keep (Foot pid mid nv) H H' ∧ (∀ i, Foot pid mid nv' i → Foot pid mid nv i ∨ H.length ≤ i) ∧
      r = .tup [.int .i64 (if putE n l = 0 then ((putP l n).idxOf n : Nat) else 0 : Int), .int .i64 (putE n l)] := by
  refine F_slim S57_eq rfl fun ρ hρ => ?_
  simp only [AGs] at hρ
  obtain ⟨h0, h1, -⟩ := hρ
  obtain ⟨b, hb, hobj⟩ := hP.obj
  have hmap := hP.map
  have hlen := hP.shows.lenA isSl_22
  rw [List.length_map] at hlen
  simp -implicitDefEqProofs only [↓gP, gQ, ↓reduceIte, Nat.reduceAdd, Nat.reduceEqDiff, Nat.reduceLT, Nat.reduceLeDiff, Int.reduceEq, S57, h0, h1, Nd.v, eql_pool]
  generalize hH1 : H ++ [AObj.cells [AV.int .i64 n.op, AV.int .i64 n.a, AV.int .i64 n.b, AV.int .u32 n.k] 52 0 false] = H1
  have hE1 : Ext H H1 := by rw [← hH1]; exact Ext.refl.app
  have hbox : H1[H.length]? = some (.cells [AV.int .i64 n.op, AV.int .i64 n.a, AV.int .i64 n.b, AV.int .u32 n.k] 52 0 false) := by rw [← hH1]; exact hp_get0
  have h4 : (4 : Nat) ≤ 4 := Nat.le_refl _
  simp -implicitDefEqProofs only [↓gP, gQ, ↓reduceIte, Nat.reduceAdd, Nat.reduceEqDiff, Nat.reduceLT, Nat.reduceLeDiff, Int.reduceEq, h0, h1, hbox, hE1 _ _ hobj, hb, hlen]
  refine CS_fn (may_spec n _ _) ?_
  rintro _ H2 ⟨rfl, hE2⟩
  have hE02 := hE1.trans hE2
  simp -implicitDefEqProofs only [↓gP, gQ, ↓reduceIte, Nat.reduceAdd, Nat.reduceEqDiff, Nat.reduceLT, Nat.reduceLeDiff, Int.reduceEq, h0, h1]
  refine Br_bool (fun g1 => ?_) (fun g1 => ?_)
  · simp -implicitDefEqProofs only [↓gP, gQ, ↓reduceIte, Nat.reduceAdd, Nat.reduceEqDiff, Nat.reduceLT, Nat.reduceLeDiff, Int.reduceEq, h0, h1, hE02 _ _ hobj, hb, eql_map, hE2 _ _ hbox, lookup_map (hE02 _ _ hmap)]
    by_cases hm : n ∈ l
    · have he : putE n l = 0 := by simp [putE, g1, hm]
      simp -implicitDefEqProofs only [↓gP, gQ, ↓reduceIte, Nat.reduceAdd, Nat.reduceEqDiff, Nat.reduceLT, Nat.reduceLeDiff, Int.reduceEq, h0, h1, hm]
      rw [he]
      refine ⟨nv, ?_, hE02.keep, fun i h => .inl h, ?_⟩
      · simp only [if_true, putP, if_pos hm]; exact hP.ext hE02
      · simp only [if_true, idx_put, if_pos hm]
    · simp -implicitDefEqProofs only [↓gP, gQ, ↓reduceIte, Nat.reduceAdd, Nat.reduceEqDiff, Nat.reduceLT, Nat.reduceLeDiff, Int.reduceEq, h0, h1, hm, hE02 _ _ hobj, hb, hlen]
      refine Br_dec (fun g2 => ?_) (fun g2 => ?_)
      · have he : putE n l = 5 := by
          have : 65536 ≤ l.length := by omega
          simp [putE, g1, hm, this]
        simp -implicitDefEqProofs only [↓gP, gQ, ↓reduceIte, Nat.reduceAdd, Nat.reduceEqDiff, Nat.reduceLT, Nat.reduceLeDiff, Int.reduceEq, h0, h1]
        rw [he]
        refine ⟨nv, ?_, hE02.keep, fun i h => .inl h, ?_⟩
        · rw [if_neg (by decide)]; exact hP.ext hE02
        · rw [if_neg (by decide)]
      · have he : putE n l = 0 := by
          have : ¬ 65536 ≤ l.length := by omega
          simp [putE, g1, hm, this]
        simp -implicitDefEqProofs only [↓gP, gQ, ↓reduceIte, Nat.reduceAdd, Nat.reduceEqDiff, Nat.reduceLT, Nat.reduceLeDiff, Int.reduceEq, h0, h1, hE2 _ _ hbox]
        refine CS_fn (put_spec n l pid mid nv _ (hP.ext hE02) hl) ?_
        rintro _ H3 ⟨rfl, nv', hP3, hK3, hF3⟩
        simp -implicitDefEqProofs only [↓gP, gQ, ↓reduceIte, Nat.reduceAdd, Nat.reduceEqDiff, Nat.reduceLT, Nat.reduceLeDiff, Int.reduceEq, h0, h1]
        rw [he]
        refine ⟨nv', ?_, hE02.keep.trans hK3, fun i h => ?_, ?_⟩
        · simp only [if_true]; exact hP3
        · rcases hF3 i h with h | h
          · exact .inl h
          · exact .inr (Nat.le_trans hE02.len h)
        · simp only [if_true]
  · simp -implicitDefEqProofs only [↓gP, gQ, ↓reduceIte, Nat.reduceAdd, Nat.reduceEqDiff, Nat.reduceLT, Nat.reduceLeDiff, Int.reduceEq, h0, h1]
    have he : putE n l = 3 := by simp [putE, g1]
    rw [he]
    refine ⟨nv, ?_, hE02.keep, fun i h => .inl h, ?_⟩
    · rw [if_neg (by decide)]; exact hP.ext hE02
    · rw [if_neg (by decide)]
end Go.Va
end

section
set_option linter.unusedSimpArgs false
set_option linter.unusedVariables false
set_option linter.unusedSectionVars false
namespace Go.Va
open Go.Proofs

/-- A node whose parts stand elsewhere. -/
def renum (n : Nd) (out : Nat → Nat) : Nd :=
  if n.op = 1 ∨ n.op = 2 then n else if n.op = 384 then { n with a := out n.a.toNat } else { n with a := out n.a.toNat, b := out n.b.toNat }

theorem moved_spec (n : Nd) (i : Nat) (out : Nat → Nat) (w : AV) (L : List (List AV)) (H : Heap) (hm : mayB n i = true) (hS : Shows H w 1 L) (hL : ∀ j, j < i → L[j]? = some [.int .i64 (out j : Nat)]) :
    F X 93 [n.v, w] H fun r H' => Ext H H' ∧ r = (renum n out).v := by
  refine F_slim S93_eq rfl fun ρ hρ => ?_
  simp only [AGs] at hρ
  obtain ⟨h0, h1, -⟩ := hρ
  simp -implicitDefEqProofs only [↓gP, gQ, ↓reduceIte, Nat.reduceAdd, Nat.reduceEqDiff, Nat.reduceLT, Nat.reduceLeDiff, Int.reduceEq, S93, h0, h1, Nd.v]
  refine CS_fn (parts_spec n _) ?_
  rintro r H1 ⟨hE1, hOr, hSr⟩
  have hlenr := hSr.lenA isSl_37
  rw [I1_len] at hlenr
  have hE01 : Ext H H1 := Ext.refl.app.trans hE1
  have hS1 := hS.ext hE01
  have hbox : H1[H.length]? = some (.cells [AV.int .i64 n.op, AV.int .i64 n.a, AV.int .i64 n.b, AV.int .u32 n.k] 52 0 false) := hE1 _ _ hp_get0
  have hres : H1[H.length + 1]? = some (.cells [AV.int .i64 0, AV.int .i64 0, AV.int .i64 0, AV.int .u32 0] 52 0 false) := hE1 _ _ hp_get
  have hlt : H.length + 1 < H1.length := by rw [List.getElem?_eq_some_iff] at hres; exact hres.1
  have hlt0 : H.length < H1.length := by omega
  have hpn : (partsZ n).length = if n.op = 1 ∨ n.op = 2 then 0 else if n.op = 384 then 1 else 2 := by unfold partsZ; split <;> (try split) <;> rfl
  have ne1 : ¬ (H.length + 1 = H.length) := by omega
  have ne2 : ¬ (H.length = H.length + 1) := by omega
  have st : ∀ (o o' : AObj), Ext H ((H1.set H.length o).set (H.length + 1) o') ∧ Ext H (H1.set (H.length + 1) o') := fun o o' => ⟨(hE01.set (Nat.le_refl _)).set (by omega), hE01.set (by omega)⟩
  simp -implicitDefEqProofs only [↓gP, gQ, ↓reduceIte, Nat.reduceAdd, Nat.reduceEqDiff, Nat.reduceLT, Nat.reduceLeDiff, Int.reduceEq, h0, h1, hlenr]
  by_cases h12 : n.op = 1 ∨ n.op = 2
  · rw [if_pos h12] at hpn
    rw [hpn]
    simp -implicitDefEqProofs only [↓gP, gQ, ↓reduceIte, Nat.reduceAdd, Nat.reduceEqDiff, Nat.reduceLT, Nat.reduceLeDiff, Int.reduceEq, h0, h1, hlenr, hbox, hres, Int.natCast_zero, Int.lt_irrefl, hpn, Int.reduceLT, List.getElem?_set_self hlt]
    refine ⟨(st (.map []) _).2, ?_⟩
    rw [renum, if_pos h12]
  · rw [if_neg h12] at hpn
    obtain ⟨m1, m2, m3, m4, m5, m6⟩ := may_alu hm (fun h => h12 (.inl h)) (fun h => h12 (.inr h))
    have an : n.a = ((n.a.toNat : Nat) : Int) := (Int.toNat_of_nonneg m3).symm
    have bn : n.b = ((n.b.toNat : Nat) : Int) := (Int.toNat_of_nonneg m5).symm
    have la := hL n.a.toNat (by omega)
    have lb := hL n.b.toNat (by omega)
    have lta : n.a.toNat < L.length := by rw [List.getElem?_eq_some_iff] at la; exact la.1
    have ltb : n.b.toNat < L.length := by rw [List.getElem?_eq_some_iff] at lb; exact lb.1
    have ixa := hS.ix (m := 0) (k := .i64) lta
    have ixb := hS.ix (m := 0) (k := .i64) ltb
    rw [← an] at ixa
    rw [← bn] at ixb
    have lda := fun H' (hE : Ext H H') => hS.ld1 hE shape_3 la
    have ldb := fun H' (hE : Ext H H') => hS.ld1 hE shape_3 lb
    by_cases h3 : n.op = 384
    · rw [if_pos h3] at hpn
      rw [hpn]
      simp -implicitDefEqProofs only [↓gP, gQ, ↓reduceIte, Nat.reduceAdd, Nat.reduceEqDiff, Nat.reduceLT, Nat.reduceLeDiff, Int.reduceEq, h0, h1, hlenr, hbox, hpn, Int.reduceLT, Int.ofNat_eq_natCast, Int.natCast_one, ixa, lda _ hE01]
      have p01 : (0 : Int) < ((1 : Nat) : Int) := by decide
      have p11 : ¬ (1 : Int) < ((1 : Nat) : Int) := by decide
      have set1 : ∀ o : AObj, (H1.set H.length o)[H.length]? = some o := fun o => List.getElem?_set_self hlt0
      have set2 : ∀ o : AObj, (H1.set H.length o)[H.length + 1]? = some (.cells [AV.int .i64 0, AV.int .i64 0, AV.int .i64 0, AV.int .u32 0] 52 0 false) := fun o => by rw [List.getElem?_set_ne ne2]; exact hres
      have set3 : ∀ o o' : AObj, ((H1.set H.length o).set (H.length + 1) o')[H.length + 1]? = some o' := fun o o' => List.getElem?_set_self (by rw [List.length_set]; exact hlt)
      simp -implicitDefEqProofs only [↓gP, gQ, ↓reduceIte, Nat.reduceAdd, Nat.reduceEqDiff, Nat.reduceLT, Nat.reduceLeDiff, Int.reduceEq, h0, h1, hlenr, hbox, hpn, p01, p11, ixa, lda _ hE01, set1, set2, set3]
      refine ⟨(st _ _).1, ?_⟩
      rw [renum, if_neg h12, if_pos h3]
    · rw [if_neg h3] at hpn
      rw [hpn]
      have p01 : (0 : Int) < ((2 : Nat) : Int) := by decide
      have p11 : (1 : Int) < ((2 : Nat) : Int) := by decide
      have set1 : ∀ o : AObj, (H1.set H.length o)[H.length]? = some o := fun o => List.getElem?_set_self hlt0
      have set4 : ∀ o o' : AObj, ((H1.set H.length o).set H.length o')[H.length]? = some o' := fun o o' => List.getElem?_set_self (by rw [List.length_set]; exact hlt0)
      have set5 : ∀ o o' : AObj, ((H1.set H.length o).set H.length o')[H.length + 1]? = some (.cells [AV.int .i64 0, AV.int .i64 0, AV.int .i64 0, AV.int .u32 0] 52 0 false) := fun o o' => by rw [List.getElem?_set_ne ne2, List.getElem?_set_ne ne2]; exact hres
      have set3 : ∀ o o' o'' : AObj, (((H1.set H.length o).set H.length o').set (H.length + 1) o'')[H.length + 1]? = some o'' := fun o o' o'' => List.getElem?_set_self (by rw [List.length_set, List.length_set]; exact hlt)
      have e2 : ∀ o : AObj, Ext H (H1.set H.length o) := fun o => hE01.set (Nat.le_refl _)
      simp -implicitDefEqProofs only [↓gP, gQ, ↓reduceIte, Nat.reduceAdd, Nat.reduceEqDiff, Nat.reduceLT, Nat.reduceLeDiff, Int.reduceEq, h0, h1, hlenr, hbox, hpn, p01, p11, ixa, ixb, lda _ hE01, ldb _ (e2 _), set1, set3, set4, set5]
      refine ⟨((e2 _).set (Nat.le_refl _)).set (by omega), ?_⟩
      rw [renum, if_neg h12, if_neg h3]
end Go.Va
end

section
set_option linter.unusedSimpArgs false
set_option linter.unusedVariables false
set_option linter.unusedSectionVars false
namespace Go.Va
open Go.Proofs

theorem Shows.grow {H H' : Heap} {v : AV} {sz : Nat} {L : List (List AV)} (h : Shows H v sz L) (hg : ∀ id c e born ro, slId v = some id → H[id]? = some (.cells c e born ro) → ∃ d, H'[id]? = some (.cells (c ++ d) e born ro)) : Shows H' v sz L := by
  refine ⟨h.1, ?_⟩
  have := h.2
  cases v <;> try exact this
  obtain ⟨h1, h2, c, e, born, ro, h3, h4, h5, h6, h7⟩ := this
  obtain ⟨d, hd⟩ := hg _ c e born ro rfl h3
  subst h1
  refine ⟨rfl, h2, c ++ d, e, born, ro, hd, h4, by rw [List.length_append]; omega, h6, fun i hi => ?_⟩
  rw [← h7 i hi]
  rename_i id off len ver z
  have hle : (off + i) * z + z ≤ (off + len) * z := by
    rw [← Nat.succ_mul]; exact Nat.mul_le_mul_right _ (by omega)
  rw [List.drop_append_of_le_length (by omega), List.take_append_of_le_length (by rw [List.length_drop]; omega)]

/-- A row of nodes that a function may append to. -/
def RowAt (H : Heap) (v : AV) (l : List Nd) : Prop := OwnV 0 H v 52 4 l.length (l.map Nd.c).flatten
theorem RowAt.shows {H : Heap} {v : AV} {l : List Nd} (h : RowAt H v l) : Shows H v 4 (l.map Nd.c) := OwnV.shows h nd_rows (by decide)
theorem RowAt.ext {H H' : Heap} {v : AV} {l : List Nd} (h : RowAt H v l) (k : Ext H H') : RowAt H' v l := OwnV.ext h k
theorem RowAt.keep {H H' : Heap} {v : AV} {l : List Nd} (h : RowAt H v l) (k : ∀ i o, slId v = some i → H[i]? = some o → H'[i]? = some o) : RowAt H' v l := by
  obtain ⟨h1, h2⟩ := h
  refine ⟨h1, ?_⟩
  rcases h2 with h2 | ⟨id, born, g1, g2, g3, g4⟩
  · exact .inl h2
  · exact .inr ⟨id, born, g1, g2, g3, k _ _ (by rw [g2]; rfl) g4⟩
/-- What appending to a row leaves: all else; what the row was still shows; and the row is in the same place, or in a new one. -/
structure Grown (H H' : Heap) (v v' : AV) (l : List Nd) : Prop where
  keep : Keep (fun i => slId v = some i) H H'
  old : Shows H' v 4 (l.map Nd.c)
  place : slId v' = slId v ∨ ∃ id, slId v' = some id ∧ H.length ≤ id
theorem Grown.refl {H H' : Heap} {v : AV} {l : List Nd} (h : RowAt H v l) (k : Ext H H') : Grown H H' v v l := ⟨k.keep, h.shows.ext k, .inl rfl⟩
theorem Grown.trans {H H' H'' : Heap} {v v' v'' : AV} {l l' : List Nd} (h : Grown H H' v v' l) (g : Grown H' H'' v' v'' l') (hg : ∀ id c e born ro, slId v = some id → H'[id]? = some (.cells c e born ro) → ∃ d, H''[id]? = some (.cells (c ++ d) e born ro)) : Grown H H'' v v'' l := by
  refine ⟨⟨Nat.le_trans h.keep.1 g.keep.1, fun i o hn hi => g.keep.2 i o ?_ (h.keep.2 i o hn hi)⟩, h.old.grow hg, ?_⟩
  · intro e
    rcases h.place with p | ⟨id, p, q⟩
    · rw [p] at e; exact hn e
    · rw [p] at e; cases e
      rw [List.getElem?_eq_some_iff] at hi; have := hi.1; omega
  · rcases g.place with p | ⟨id, p, q⟩
    · rw [p]; exact h.place
    · exact .inr ⟨id, p, Nat.le_trans h.keep.1 q⟩

theorem rput_spec (n : Nd) (l : List Nd) (v : AV) (H : Heap) (hO : RowAt H v l) (hl : l.length ≤ 1000000) :
    F X 56 [v, n.v] H fun r H' => ∃ v', r = .tup [v', .int .i64 ((putP l n).idxOf n : Nat)] ∧ RowAt H' v' (putP l n) ∧ Grown H H' v v' l ∧ ∀ id c e born ro, slId v = some id → H[id]? = some (.cells c e born ro) → ∃ d, H'[id]? = some (.cells (c ++ d) e born ro) := by
  refine F_slim S56_eq rfl fun ρ hρ => ?_
  simp only [AGs] at hρ
  obtain ⟨h0, h1, -⟩ := hρ
  have hlen := hO.shows.lenA isSl_22
  rw [List.length_map] at hlen
  obtain ⟨nx, -, -, -, -, -, nld⟩ := hO.shows.nodes
  simp -implicitDefEqProofs only [↓gP, gQ, ↓reduceIte, Nat.reduceAdd, Nat.reduceEqDiff, Nat.reduceLT, Nat.reduceLeDiff, Int.reduceEq, S56, h0, h1, Nd.v]
  have hE : Ext H (H ++ [AObj.cells [AV.int .i64 n.op, AV.int .i64 n.a, AV.int .i64 n.b, AV.int .u32 n.k] 52 0 false]) := Ext.refl.app
  have hbox : (H ++ [AObj.cells [AV.int .i64 n.op, AV.int .i64 n.a, AV.int .i64 n.b, AV.int .u32 n.k] 52 0 false])[H.length]? = some (.cells [AV.int .i64 n.op, AV.int .i64 n.a, AV.int .i64 n.b, AV.int .u32 n.k] 52 0 false) := hp_get0
  generalize hH1 : H ++ [AObj.cells [AV.int .i64 n.op, AV.int .i64 n.a, AV.int .i64 n.b, AV.int .u32 n.k] 52 0 false] = H1 at hE hbox
  refine loop_rule (fun k ρ' H' D' => ∃ i, k = l.length - i ∧ i ≤ l.length ∧ n ∉ l.take i ∧ ρ' 6 = .int .i64 (i : Nat) ∧ ρ' 3 = .ptr H.length 0 4 ∧ ρ' 0 = v ∧ H' = H1 ∧ D' = []) l.length
    ⟨0, by simp, by simp, by simp, by simp only [up_get]; rfl, by simp only [up_get]; rfl, by simp only [up_get]; exact h0, rfl, rfl⟩ ?_
  rintro k ρ' H' D' ⟨i, hk, hi, hni, e6, e3, e0, rfl, rfl⟩
  have h4 : (4 : Nat) ≤ 4 := Nat.le_refl _
  simp -implicitDefEqProofs only [↓gP, gQ, ↓reduceIte, Nat.reduceAdd, Nat.reduceEqDiff, Nat.reduceLT, Nat.reduceLeDiff, Int.reduceEq, S56L1, e6, e3, e0, hlen]
  refine Br_dec (fun g => ?_) (fun g => ?_)
  · have hi' : i < l.length := by omega
    simp -implicitDefEqProofs only [↓gP, gQ, ↓reduceIte, Nat.reduceAdd, Nat.reduceEqDiff, Nat.reduceLT, Nat.reduceLeDiff, Int.reduceEq, e6, e3, e0, nx, nld, hE, hi', hbox, bin_eql_nd]
    refine Br_dec (fun g1 => ?_) (fun g1 => ?_)
    · have hm : n ∈ l := by rw [← g1]; exact List.getElem_mem hi'
      have hix : l.idxOf n = i := by
        have hlt : l.idxOf n < l.length := List.idxOf_lt_length_of_mem hm
        have hle : l.idxOf n ≤ i := by
          rcases Nat.lt_or_ge i (l.idxOf n) with h | h
          · have hne := List.not_of_lt_findIdx (p := (· == n)) h
            simp [g1] at hne
          · exact h
        rcases Nat.eq_or_lt_of_le hle with h | h
        · exact h
        · exfalso; apply hni
          rw [List.mem_take_iff_getElem]
          exact ⟨l.idxOf n, by omega, List.getElem_idxOf hlt⟩
      simp -implicitDefEqProofs only [↓gP, gQ, ↓reduceIte, Nat.reduceAdd, Nat.reduceEqDiff, Nat.reduceLT, Nat.reduceLeDiff, Int.reduceEq, e6, e3, e0]
      refine ⟨v, ?_, ?_, Grown.refl hO hE, fun id c e born ro _ h => ⟨[], by rw [List.append_nil]; exact hE _ _ h⟩⟩
      · rw [idx_put, if_pos hm, hix]
      · rw [putP, if_pos hm]; exact hO.ext hE
    · have hw : IntKind.i64.wrap ((i : Int) + 1) = ((i + 1 : Nat) : Int) := by rw [wrap64 (by omega) (by omega)]; rfl
      simp -implicitDefEqProofs only [↓gP, gQ, ↓reduceIte, Nat.reduceAdd, Nat.reduceEqDiff, Nat.reduceLT, Nat.reduceLeDiff, Int.reduceEq, e6, e3, e0, hw]
      refine ⟨l.length - (i + 1), by omega, i + 1, rfl, hi', ?_, by first | exact True.intro | rfl | trivial, by first | exact True.intro | rfl | trivial, by first | exact True.intro | rfl | trivial, by first | exact True.intro | rfl | trivial, by first | exact True.intro | rfl | trivial⟩
      rw [List.take_succ_eq_append_getElem hi', List.mem_append]
      rintro (h | h)
      · exact hni h
      · simp at h; exact g1 h.symm
  · have : i = l.length := by omega
    subst this
    rw [List.take_length] at hni
    have hbl : ∀ H : Heap, buildSliceA Try.prog 22 1 [(0, .agg [AV.int .i64 n.op, AV.int .i64 n.a, AV.int .i64 n.b, AV.int .u32 n.k])] H = some (.sl H.length 0 1 4 4, H ++ [.cells n.c 52 0 false]) := fun H => bldSl1 slT_22 rfl (by decide) (by decide) rfl rfl
    obtain ⟨v', H3, ap, hO3, hK3, hid3, hc3, ho3, hgr⟩ := OwnV.push' (OwnV.ext hO hE) (t := 22) (xs := n.c) slT_22 rfl (by decide) rfl rfl (by omega) (by omega)
    have grow : ∀ id c e born ro, slId v = some id → H[id]? = some (.cells c e born ro) → ∃ d, H3[id]? = some (.cells (c ++ d) e born ro) := by
      intro id c e born ro hv hc
      exact hgr id c e born ro hv (hE _ _ hc)
    simp -implicitDefEqProofs only [↓gP, gQ, ↓reduceIte, Nat.reduceAdd, Nat.reduceEqDiff, Nat.reduceLT, Nat.reduceLeDiff, Int.reduceEq, e6, e3, e0, hbox, hlen, hbl, ap]
    refine ⟨v', ?_, ?_, ⟨hE.keep.trans hK3, OwnV.shows hO nd_rows (by decide) |>.grow grow, ?_⟩, grow⟩
    · rw [idx_put, if_neg hni]
    · have e1 : ((putP l n).map Nd.c).flatten = (l.map Nd.c).flatten ++ n.c := by rw [putP, if_neg hni]; simp
      have e2 : (putP l n).length = l.length + 1 := by rw [putP, if_neg hni]; simp
      unfold RowAt
      rw [e1, e2]; exact hO3
    · rcases hid3 with h | ⟨id, h1, h2⟩
      · exact .inl h
      · exact .inr ⟨id, h1, Nat.le_trans hE.len h2⟩
end Go.Va
end

section
set_option linter.unusedSimpArgs false
set_option linter.unusedVariables false
set_option linter.unusedSectionVars false
namespace Go.Va
open Go.Proofs

def intoP (P0 l : List Nd) : Nat → List Nd × List Nat
  | 0 => (P0, [])
  | m + 1 => match l[m]? with
    | some n => (putP (intoP P0 l m).1 (renum n fun j => (intoP P0 l m).2.getD j 0), (intoP P0 l m).2 ++ [(putP (intoP P0 l m).1 (renum n fun j => (intoP P0 l m).2.getD j 0)).idxOf (renum n fun j => (intoP P0 l m).2.getD j 0)])
    | none => intoP P0 l m
theorem putP_len {l : List Nd} {n : Nd} : (putP l n).length ≤ l.length + 1 := by unfold putP; split <;> simp
theorem putP_mem {l : List Nd} {n : Nd} : n ∈ putP l n := by unfold putP; split <;> simp_all
theorem putP_idx {l : List Nd} {n : Nd} : (putP l n).idxOf n < (putP l n).length := List.idxOf_lt_length_of_mem putP_mem
theorem intoP_succ {P0 l : List Nd} {m : Nat} (h : m < l.length) : intoP P0 l (m + 1) = (putP (intoP P0 l m).1 (renum l[m] fun j => (intoP P0 l m).2.getD j 0), (intoP P0 l m).2 ++ [(putP (intoP P0 l m).1 (renum l[m] fun j => (intoP P0 l m).2.getD j 0)).idxOf (renum l[m] fun j => (intoP P0 l m).2.getD j 0)]) := by
  simp only [intoP, List.getElem?_eq_getElem h]
theorem intoP_len {P0 l : List Nd} : ∀ {m : Nat}, m ≤ l.length → (intoP P0 l m).2.length = m ∧ (intoP P0 l m).1.length ≤ P0.length + m
  | 0, _ => ⟨rfl, Nat.le_refl _⟩
  | m + 1, h => by
    obtain ⟨h1, h2⟩ := intoP_len (P0 := P0) (l := l) (m := m) (by omega)
    rw [intoP_succ h]
    exact ⟨by simp [h1], Nat.le_trans putP_len (by omega)⟩

theorem Shows.keep {S : Nat → Prop} {H H' : Heap} {v : AV} {sz : Nat} {L : List (List AV)} (h : Shows H v sz L) (hk : Keep S H H') (hn : ∀ i, slId v = some i → ¬ S i) : Shows H' v sz L := by
  refine ⟨h.1, ?_⟩
  have := h.2
  cases v <;> try exact this
  obtain ⟨h1, h2, c, e, born, ro, h3, h4⟩ := this
  exact ⟨h1, h2, c, e, born, ro, hk.2 _ _ (hn _ rfl) h3, h4⟩

theorem into_spec (P0 l : List Nd) (v w : AV) (H : Heap) (hO : RowAt H v P0) (hS : Shows H w 4 (l.map Nd.c)) (hc : (checkP l).2 = 0) (hvw : ∀ i, slId w = some i → slId v ≠ some i) (hn : P0.length + l.length ≤ 1000000) :
    F X 24 [v, w] H fun r H' => ∃ v' born, r = .tup [v', .sl H.length 0 l.length l.length 1] ∧ RowAt H' v' (intoP P0 l l.length).1 ∧ born ≤ l.length ∧ H'[H.length]? = some (.cells (WK .i64 (intoP P0 l l.length).2) 3 born false) ∧ slId v' ≠ some H.length ∧ Grown H H' v v' P0 := by
  refine F_slim S24_eq rfl fun ρ hρ => ?_
  simp only [AGs] at hρ
  obtain ⟨h0, h1, -⟩ := hρ
  have hlen := hS.lenA isSl_22
  rw [List.length_map] at hlen
  obtain ⟨-, hmay⟩ := checkP_ok hc
  have hmk := mkSl (H := H) (k := .i64) (k' := .i64) (n := l.length) slT_37 (by omega) (by omega) rfl (by omega)
  rw [rowK_zero, Nat.mul_one] at hmk
  have hv0 : slId v ≠ some H.length := by
    intro e
    rcases hO.2 with ⟨rfl, -⟩ | ⟨id, b, -, rfl, -, g⟩
    · cases e
    · cases e
      rw [List.getElem?_eq_some_iff] at g; have := g.1; omega
  simp -implicitDefEqProofs only [↓gP, gQ, ↓reduceIte, Nat.reduceAdd, Nat.reduceEqDiff, Nat.reduceLT, Nat.reduceLeDiff, Int.reduceEq, S24, h0, h1, hlen, hmk]
  refine loop_rule (fun k ρ' H' D' => ∃ i v' born, k = l.length - i ∧ i ≤ l.length ∧ ρ' 7 = .int .i64 (i : Nat) ∧ ρ' 6 = .sl H.length 0 l.length l.length 1 ∧ ρ' 0 = v' ∧ ρ' 1 = w ∧ RowAt H' v' (intoP P0 l i).1 ∧ born ≤ l.length ∧ H'[H.length]? = some (.cells (rowK .i64 (intoP P0 l i).2 l.length) 3 born false) ∧
      slId v' ≠ some H.length ∧ Grown H H' v v' P0 ∧ (∀ id c e born ro, slId v = some id → H[id]? = some (.cells c e born ro) → ∃ d, H'[id]? = some (.cells (c ++ d) e born ro)) ∧ D' = []) l.length
    ⟨0, v, 0, by simp, by simp, by simp only [up_get]; rfl, by simp only [up_get]; rfl, by simp only [up_get]; exact h0, by simp only [up_get]; exact h1, hO.ext Ext.refl.app, by omega, hp_get0, hv0, Grown.refl hO Ext.refl.app, fun id c e born ro _ h => ⟨[], by rw [List.append_nil]; exact Ext.refl.app _ _ h⟩, rfl⟩ ?_
  rintro k ρ' H' D' ⟨i, v', born, hk, hi, e7, e6, e0, e1, hO', hborn, hobj, hne, hG, hgr, rfl⟩
  simp -implicitDefEqProofs only [↓gP, gQ, ↓reduceIte, Nat.reduceAdd, Nat.reduceEqDiff, Nat.reduceLT, Nat.reduceLeDiff, Int.reduceEq, S24L1, e7, e6, e0, e1, hlen]
  refine Br_dec (fun g => ?_) (fun g => ?_)
  · have hil : i < l.length := by omega
    have hi1 : i + 1 ≤ l.length := hil
    obtain ⟨hl2, hl1⟩ := intoP_len (P0 := P0) (l := l) (m := i) hi
    have hrl : (rowK .i64 (intoP P0 l i).2 l.length).length = l.length := rowK_len (by omega)
    have hS' : Shows H' w 4 (l.map Nd.c) := hS.keep hG.keep (fun j e => hvw j e)
    obtain ⟨nx, -, -, -, -, -, nld⟩ := hS'.nodes
    have hE1 : ∀ l', Ext H' (H' ++ l') := fun l' => Ext.refl.app
    have hout : ∀ l', (H' ++ l')[H.length]? = some (.cells (rowK .i64 (intoP P0 l i).2 l.length) 3 born false) := fun l' => Ext.refl.app _ _ hobj
    have h4 : (4 : Nat) ≤ 4 := Nat.le_refl _
    have hm := hmay i hil
    generalize hmm : renum l[i] (fun j => (intoP P0 l i).2.getD j 0) = m
    have hsucc := intoP_succ (P0 := P0) hil
    rw [hmm] at hsucc
    have hbd : (intoP P0 l i).1.length ≤ 1000000 := by omega
    have hHl : H.length < H'.length := by rw [List.getElem?_eq_some_iff] at hobj; exact hobj.1
    have hset := rowK_set (k := .i64) (vs := (intoP P0 l i).2) (n := l.length) (x := (putP (intoP P0 l i).1 m).idxOf m) (by omega)
    rw [hl2] at hset
    have hw : IntKind.i64.wrap ((i : Int) + 1) = ((i + 1 : Nat) : Int) := by rw [wrap64 (by omega) (by omega)]; rfl
    have fin : ∀ (H2 H3 : Heap) (v'' : AV), Ext H' H2 → RowAt H3 v'' (putP (intoP P0 l i).1 m) → Grown H2 H3 v' v'' (intoP P0 l i).1 → (∀ id c e born ro, slId v' = some id → H2[id]? = some (.cells c e born ro) → ∃ d, H3[id]? = some (.cells (c ++ d) e born ro)) →
        H3[H.length]? = some (.cells (rowK .i64 (intoP P0 l i).2 l.length) 3 born false) ∧ ∀ H4, H4 = H3.set H.length (.cells (rowK .i64 ((intoP P0 l i).2 ++ [(putP (intoP P0 l i).1 m).idxOf m]) l.length) 3 l.length false) →
          RowAt H4 v'' (intoP P0 l (i + 1)).1 ∧ H4[H.length]? = some (.cells (rowK .i64 (intoP P0 l (i + 1)).2 l.length) 3 l.length false) ∧ slId v'' ≠ some H.length ∧ Grown H H4 v v'' P0 ∧ (∀ id c e born ro, slId v = some id → H[id]? = some (.cells c e born ro) → ∃ d, H4[id]? = some (.cells (c ++ d) e born ro)) := by
      intro H2 H3 v'' hE2 hO3 hG3 hg3
      have k1 : H3[H.length]? = some (.cells (rowK .i64 (intoP P0 l i).2 l.length) 3 born false) := hG3.keep.2 _ _ hne (hE2 _ _ hobj)
      have k2 : slId v'' ≠ some H.length := by
        rcases hG3.place with p | ⟨id, p, q⟩
        · rw [p]; exact hne
        · rw [p]; intro e; cases e; have := hE2.len; omega
      have hlt3 : H.length < H3.length := by rw [List.getElem?_eq_some_iff] at k1; exact k1.1
      refine ⟨k1, ?_⟩
      rintro H4 rfl
      have gr : ∀ id c e born ro, slId v = some id → H[id]? = some (.cells c e born ro) → ∃ d, (H3.set H.length (.cells (rowK .i64 ((intoP P0 l i).2 ++ [(putP (intoP P0 l i).1 m).idxOf m]) l.length) 3 l.length false))[id]? = some (.cells (c ++ d) e born ro) := by
        intro id c e b ro hv hc
        have hidlt : id < H.length := by rw [List.getElem?_eq_some_iff] at hc; exact hc.1
        obtain ⟨d, hd⟩ := hgr id c e b ro hv hc
        rw [List.getElem?_set_ne (by omega)]
        by_cases hvi : slId v' = some id
        · obtain ⟨d2, hd2⟩ := hg3 id _ e b ro hvi (hE2 _ _ hd)
          exact ⟨d ++ d2, by rw [← List.append_assoc]; exact hd2⟩
        · exact ⟨d, hG3.keep.2 _ _ hvi (hE2 _ _ hd)⟩
      refine ⟨?_, ?_, k2, ⟨⟨?_, fun j o hn hj => ?_⟩, ?_, ?_⟩, gr⟩
      · rw [hsucc]
        refine hO3.keep fun j o hv hj => ?_
        rw [List.getElem?_set_ne (by intro e; apply k2; rw [hv, e])]
        exact hj
      · rw [hsucc, List.getElem?_set_self hlt3]
      · rw [List.length_set]; have := hG.keep.1; have := hE2.len; have := hG3.keep.1; omega
      · have hj' : j < H.length := by rw [List.getElem?_eq_some_iff] at hj; exact hj.1
        rw [List.getElem?_set_ne (by omega)]
        refine hG3.keep.2 _ _ ?_ (hE2 _ _ (hG.keep.2 _ _ hn hj))
        intro e
        rcases hG.place with p | ⟨id, p, q⟩
        · rw [p] at e; exact hn e
        · rw [p] at e; cases e; omega
      · exact (hO.shows).grow gr
      · rcases hG3.place with p | ⟨id, p, q⟩
        · rw [p]; exact hG.place
        · exact .inr ⟨id, p, by have := hE2.len; omega⟩
    simp -implicitDefEqProofs only [↓gP, gQ, ↓reduceIte, Nat.reduceAdd, Nat.reduceEqDiff, Nat.reduceLT, Nat.reduceLeDiff, Int.reduceEq, e7, e6, e0, e1, nx, nld _ _ hil Ext.refl, hil, bldNode]
    have hop : (2 < l[i].op) = ¬ (l[i].op = 1 ∨ l[i].op = 2) := by
      have := may_pos hm; apply propext; omega
    simp only [hop]
    refine Br_dec (fun g1 => ?_) (fun g1 => ?_)
    · obtain ⟨m1, m2, m3, m4, m5, m6⟩ := may_alu hm (fun h => g1 (.inl h)) (fun h => g1 (.inr h))
      have ra1 : l[i].a < (l.length : Nat) := by omega
      have rb1 : l[i].b < (l.length : Nat) := by omega
      have ra2 : l[i].a.toNat < l.length := by omega
      have rb2 : l[i].b.toNat < l.length := by omega
      have hga := rowK_get (k := .i64) (vs := (intoP P0 l i).2) (n := l.length) (j := l[i].a.toNat) (by omega)
      have hgb := rowK_get (k := .i64) (vs := (intoP P0 l i).2) (n := l.length) (j := l[i].b.toNat) (by omega)
      simp -implicitDefEqProofs only [↓gP, gQ, ↓reduceIte, Nat.reduceAdd, Nat.reduceEqDiff, Nat.reduceLT, Nat.reduceLeDiff, Int.reduceEq, e7, e6, e0, e1, ix_ownZ m3 ra1, ix_ownZ m5 rb1, hout, hrl, hborn, ra2, rb2, hga, hgb]
      refine Br_dec (fun g2 => ?_) (fun g2 => ?_)
      · have e : m = ⟨l[i].op, ((intoP P0 l i).2.getD l[i].a.toNat 0 : Nat), l[i].b, l[i].k⟩ := by rw [← hmm, renum, if_neg g1, if_pos g2]
        simp -implicitDefEqProofs only [↓gP, gQ, ↓reduceIte, Nat.reduceAdd, Nat.reduceEqDiff, Nat.reduceLT, Nat.reduceLeDiff, Int.reduceEq, e7, e6, e0, e1, ix_ownZ m3 ra1, ix_ownZ m5 rb1, hout, hrl, hborn, ra2, rb2, hga, hgb]
        refine CS_fn (rput_spec ⟨l[i].op, ((intoP P0 l i).2.getD l[i].a.toNat 0 : Nat), l[i].b, l[i].k⟩ _ v' _ (hO'.ext Ext.refl.app) hbd) ?_
        rw [← e]
        rintro r H3 ⟨v'', rfl, hO3, hG3, hg3⟩
        obtain ⟨f1, f2⟩ := fin _ H3 v'' Ext.refl.app hO3 hG3 hg3
        obtain ⟨f3, f4, f5, f6, f7⟩ := f2 _ rfl
        simp -implicitDefEqProofs only [↓gP, gQ, ↓reduceIte, Nat.reduceAdd, Nat.reduceEqDiff, Nat.reduceLT, Nat.reduceLeDiff, Int.reduceEq, e7, e6, e0, e1, ix_own1 hil, f1, hrl, hborn, hi1, hset, hw]
        exact ⟨l.length - (i + 1), by omega, i + 1, v'', l.length, rfl, hil, by first | exact True.intro | rfl | trivial, by first | exact True.intro | rfl | trivial, by first | exact True.intro | rfl | trivial, by first | exact True.intro | rfl | trivial, f3, Nat.le_refl _, f4, f5, f6, f7, by first | exact True.intro | rfl | trivial⟩
      · have e : m = ⟨l[i].op, ((intoP P0 l i).2.getD l[i].a.toNat 0 : Nat), ((intoP P0 l i).2.getD l[i].b.toNat 0 : Nat), l[i].k⟩ := by rw [← hmm, renum, if_neg g1, if_neg g2]
        simp -implicitDefEqProofs only [↓gP, gQ, ↓reduceIte, Nat.reduceAdd, Nat.reduceEqDiff, Nat.reduceLT, Nat.reduceLeDiff, Int.reduceEq, e7, e6, e0, e1, ix_ownZ m3 ra1, ix_ownZ m5 rb1, hout, hrl, hborn, ra2, rb2, hga, hgb]
        refine CS_fn (rput_spec ⟨l[i].op, ((intoP P0 l i).2.getD l[i].a.toNat 0 : Nat), ((intoP P0 l i).2.getD l[i].b.toNat 0 : Nat), l[i].k⟩ _ v' _ (hO'.ext Ext.refl.app) hbd) ?_
        rw [← e]
        rintro r H3 ⟨v'', rfl, hO3, hG3, hg3⟩
        obtain ⟨f1, f2⟩ := fin _ H3 v'' Ext.refl.app hO3 hG3 hg3
        obtain ⟨f3, f4, f5, f6, f7⟩ := f2 _ rfl
        simp -implicitDefEqProofs only [↓gP, gQ, ↓reduceIte, Nat.reduceAdd, Nat.reduceEqDiff, Nat.reduceLT, Nat.reduceLeDiff, Int.reduceEq, e7, e6, e0, e1, ix_own1 hil, f1, hrl, hborn, hi1, hset, hw]
        exact ⟨l.length - (i + 1), by omega, i + 1, v'', l.length, rfl, hil, by first | exact True.intro | rfl | trivial, by first | exact True.intro | rfl | trivial, by first | exact True.intro | rfl | trivial, by first | exact True.intro | rfl | trivial, f3, Nat.le_refl _, f4, f5, f6, f7, by first | exact True.intro | rfl | trivial⟩
    · have g1' : l[i].op = 1 ∨ l[i].op = 2 := Classical.byContradiction g1
      have e : m = l[i] := by rw [← hmm, renum, if_pos g1']
      simp -implicitDefEqProofs only [↓gP, gQ, ↓reduceIte, Nat.reduceAdd, Nat.reduceEqDiff, Nat.reduceLT, Nat.reduceLeDiff, Int.reduceEq, e7, e6, e0, e1]
      refine CS_fn (rput_spec l[i] _ v' _ (hO'.ext Ext.refl.app) hbd) ?_
      rw [← e]
      rintro r H3 ⟨v'', rfl, hO3, hG3, hg3⟩
      obtain ⟨f1, f2⟩ := fin _ H3 v'' Ext.refl.app hO3 hG3 hg3
      obtain ⟨f3, f4, f5, f6, f7⟩ := f2 _ rfl
      simp -implicitDefEqProofs only [↓gP, gQ, ↓reduceIte, Nat.reduceAdd, Nat.reduceEqDiff, Nat.reduceLT, Nat.reduceLeDiff, Int.reduceEq, e7, e6, e0, e1, ix_own1 hil, f1, hrl, hborn, hi1, hset, hw]
      exact ⟨l.length - (i + 1), by omega, i + 1, v'', l.length, rfl, hil, by first | exact True.intro | rfl | trivial, by first | exact True.intro | rfl | trivial, by first | exact True.intro | rfl | trivial, by first | exact True.intro | rfl | trivial, f3, Nat.le_refl _, f4, f5, f6, f7, by first | exact True.intro | rfl | trivial⟩
  · have : i = l.length := by omega
    subst this
    simp -implicitDefEqProofs only [↓gP, gQ, ↓reduceIte, Nat.reduceAdd, Nat.reduceEqDiff, Nat.reduceLT, Nat.reduceLeDiff, Int.reduceEq, e7, e6, e0, e1]
    refine ⟨v', born, rfl, hO', hborn, ?_, hne, hG⟩
    have := rowK_full (k := .i64) (vs := (intoP P0 l l.length).2)
    rw [(intoP_len (P0 := P0) (Nat.le_refl _)).1] at this
    rw [← this]; exact hobj
end Go.Va
end

section
set_option linter.unusedSimpArgs false
set_option linter.unusedVariables false
set_option linter.unusedSectionVars false
namespace Go.Va
open Go.Proofs

theorem rsame_spec (a b : List Nd) (v w : AV) (H : Heap) (hS : Shows H v 4 (a.map Nd.c)) (hT : Shows H w 4 (b.map Nd.c)) (hn : a.length < 9223372036854775807) :
    F X 37 [v, w] H fun r H' => r = .bool (decide (a = b)) ∧ H = H' := by
  refine F_slim S37_eq rfl fun ρ hρ => ?_
  simp only [AGs] at hρ
  obtain ⟨h0, h1, -⟩ := hρ
  have hla := hS.lenA isSl_22
  have hlb := hT.lenA isSl_22
  rw [List.length_map] at hla hlb
  obtain ⟨ax, -, -, -, -, -, ald⟩ := hS.nodes
  obtain ⟨bx, -, -, -, -, -, bld⟩ := hT.nodes
  simp -implicitDefEqProofs only [↓gP, gQ, ↓reduceIte, Nat.reduceAdd, Nat.reduceEqDiff, Nat.reduceLT, Nat.reduceLeDiff, Int.reduceEq, S37, h0, h1, hla, hlb]
  refine Br_dec (fun g => ?_) (fun g => ?_)
  · have hl : a.length = b.length := by omega
    simp -implicitDefEqProofs only [↓gP, gQ, ↓reduceIte, Nat.reduceAdd, Nat.reduceEqDiff, Nat.reduceLT, Nat.reduceLeDiff, Int.reduceEq, h0, h1, hla, hlb]
    refine loop_rule (fun k ρ' H' D' => ∃ i, k = a.length - i ∧ i ≤ a.length ∧ a.take i = b.take i ∧ ρ' 5 = .int .i64 (i : Nat) ∧ ρ' 0 = v ∧ ρ' 1 = w ∧ H' = H ∧ D' = []) a.length
      ⟨0, by simp, by simp, by simp, by simp only [up_get]; rfl, by simp only [up_get]; exact h0, by simp only [up_get]; exact h1, rfl, rfl⟩ ?_
    rintro k ρ' H' D' ⟨i, hk, hi, he, e5, e0, e1, rfl, rfl⟩
    simp -implicitDefEqProofs only [↓gP, gQ, ↓reduceIte, Nat.reduceAdd, Nat.reduceEqDiff, Nat.reduceLT, Nat.reduceLeDiff, Int.reduceEq, S37L1, e5, e0, e1, hla]
    refine Br_dec (fun g1 => ?_) (fun g1 => ?_)
    · have hia : i < a.length := by omega
      have hib : i < b.length := by omega
      have hw : IntKind.i64.wrap ((i : Int) + 1) = ((i + 1 : Nat) : Int) := by rw [wrap64 (by omega) (by omega)]; rfl
      simp -implicitDefEqProofs only [↓gP, gQ, ↓reduceIte, Nat.reduceAdd, Nat.reduceEqDiff, Nat.reduceLT, Nat.reduceLeDiff, Int.reduceEq, e5, e0, e1, ax, bx, ald _ _ hia Ext.refl, bld _ _ hib Ext.refl, hia, hib, bin_neq_nd]
      refine Br_dec (fun g2 => ?_) (fun g2 => ?_)
      · simp -implicitDefEqProofs only [↓gP, gQ, ↓reduceIte, Nat.reduceAdd, Nat.reduceEqDiff, Nat.reduceLT, Nat.reduceLeDiff, Int.reduceEq, e5, e0, e1, hw]
        exact ⟨a.length - (i + 1), by omega, i + 1, rfl, hia, by rw [List.take_succ_eq_append_getElem hia, List.take_succ_eq_append_getElem hib, he, g2], by first | exact True.intro | rfl | trivial, by first | exact True.intro | rfl | trivial, by first | exact True.intro | rfl | trivial, by first | exact True.intro | rfl | trivial, by first | exact True.intro | rfl | trivial⟩
      · simp -implicitDefEqProofs only [↓gP, gQ, ↓reduceIte, Nat.reduceAdd, Nat.reduceEqDiff, Nat.reduceLT, Nat.reduceLeDiff, Int.reduceEq, e5, e0, e1]
        have : ¬ a = b := fun h => g2 (by subst h; rfl)
        simp [this]
    · have : i = a.length := by omega
      subst this
      rw [List.take_length, hl, List.take_length] at he
      simp -implicitDefEqProofs only [↓gP, gQ, ↓reduceIte, Nat.reduceAdd, Nat.reduceEqDiff, Nat.reduceLT, Nat.reduceLeDiff, Int.reduceEq, e5, e0, e1]
      simp [he]
  · have : ¬ a = b := fun h => g (by rw [h])
    simp -implicitDefEqProofs only [↓gP, gQ, ↓reduceIte, Nat.reduceAdd, Nat.reduceEqDiff, Nat.reduceLT, Nat.reduceLeDiff, Int.reduceEq, h0, h1]
    simp [this]

theorem askP_ok {l : List Nd} {ps : List Int} (h : askP l ps = 0) : (checkP l).2 = 0 ∧ ∀ p ∈ ps, 0 ≤ p ∧ p < l.length := by
  unfold askP at h
  split at h
  · cases h
  · rename_i h1
    split at h
    · cases h
    · rename_i h2
      refine ⟨by simpa using h1, fun p hp => ?_⟩
      rw [List.any_eq_true] at h2
      have := fun h' => h2 ⟨p, hp, h'⟩
      simp at this
      omega

end Go.Va
end

section
set_option linter.unusedSimpArgs false
set_option linter.unusedVariables false
set_option linter.unusedSectionVars false
namespace Go.Va

/-- A place is in the tree of another one. -/
inductive Tr (l : List Nd) : Nat → Nat → Prop
  | refl (a : Nat) : Tr l a a
  | step {a i : Nat} {n : Nd} {p : Int} (h : l[a]? = some n) (hp : p ∈ partsZ n) (g : Tr l p.toNat i) : Tr l a i

theorem markZ_iff {ps : List Int} : ∀ {L : List Bool} {x : Nat}, (markZ L ps).getD x false = true ↔ L.getD x false = true ∨ (x < L.length ∧ ∃ p ∈ ps, p.toNat = x) := by
  induction ps with
  | nil => intro L x; simp [markZ]
  | cons p ps ih =>
    intro L x
    have : markZ L (p :: ps) = markZ (L.set p.toNat true) ps := rfl
    rw [this, ih, List.length_set]
    simp only [List.getD_eq_getElem?_getD, List.getElem?_set]
    constructor
    · rintro (h | ⟨h1, q, h2, h3⟩)
      · split at h
        · rename_i e
          split at h
          · exact .inr ⟨by omega, p, by simp, e⟩
          · simp at h
        · exact .inl h
      · exact .inr ⟨h1, q, by simp [h2], h3⟩
    · rintro (h | ⟨h1, q, h2, h3⟩)
      · left
        split
        · split
          · rfl
          · rename_i e h'
            rw [List.getElem?_eq_none (by omega)] at h
            simp at h
        · exact h
      · rcases List.mem_cons.1 h2 with rfl | h2
        · left; rw [if_pos h3, if_pos (by omega)]; rfl
        · exact .inr ⟨h1, q, h2, h3⟩

theorem reach_iff {l : List Nd} (hmay : ∀ i (h : i < l.length), mayB l[i] i = true) : ∀ {k : Nat} {L : List Bool} {i : Nat}, k ≤ l.length → L.length = l.length →
    ((reachP l k L).getD i false = true ↔ L.getD i false = true ∨ ∃ r, r < k ∧ L.getD r false = true ∧ Tr l r i)
  | 0, L, i, _, _ => by simp [reachP]
  | k + 1, L, i, hk, hL => by
    have hk' : k < l.length := hk
    have hpl := partsZ_lt (hmay k hk')
    have hg : l[k]? = some l[k] := List.getElem?_eq_getElem hk'
    simp only [reachP, hg]
    have key : ∀ x, (if L.getD k false = true then markZ L (partsZ l[k]) else L).getD x false = true ↔ L.getD x false = true ∨ (L.getD k false = true ∧ ∃ p ∈ partsZ l[k], p.toNat = x) := by
      intro x
      split
      · rename_i h
        rw [markZ_iff]
        constructor
        · rintro (h1 | ⟨_, h1⟩)
          · exact .inl h1
          · exact .inr ⟨h, h1⟩
        · rintro (h1 | ⟨_, p, hp, e⟩)
          · exact .inl h1
          · have := hpl p hp
            exact .inr ⟨by omega, p, hp, e⟩
      · rename_i h
        constructor
        · exact .inl
        · rintro (h1 | ⟨h1, _⟩)
          · exact h1
          · exact absurd h1 h
    have hlen : (if L.getD k false = true then markZ L (partsZ l[k]) else L).length = l.length := by
      split
      · rw [markZ_len, hL]
      · exact hL
    rw [reach_iff hmay (by omega) hlen]
    constructor
    · rintro (h | ⟨r, hr, h1, h2⟩)
      · rcases (key i).1 h with h | ⟨h3, p, hp, rfl⟩
        · exact .inl h
        · exact .inr ⟨k, by omega, h3, .step hg hp (.refl _)⟩
      · rcases (key r).1 h1 with h | ⟨h3, p, hp, rfl⟩
        · exact .inr ⟨r, by omega, h, h2⟩
        · exact .inr ⟨k, by omega, h3, .step hg hp h2⟩
    · rintro (h | ⟨r, hr, h1, h2⟩)
      · exact .inl ((key i).2 (.inl h))
      · rcases Nat.lt_or_ge r k with hrk | hrk
        · exact .inr ⟨r, hrk, (key r).2 (.inl h1), h2⟩
        · have : r = k := by omega
          subst this
          cases h2 with
          | refl => exact .inl ((key _).2 (.inl h1))
          | step h3 hp g =>
            rw [hg] at h3; cases h3
            have := hpl _ hp
            exact .inr ⟨_, by omega, (key _).2 (.inr ⟨h1, _, hp, rfl⟩), g⟩

/-- The places in the trees of some. -/
def inL (l : List Nd) (roots : List Int) : List Bool := reachP l l.length (markZ (List.replicate l.length false) roots)
theorem inL_len {l : List Nd} {roots : List Int} : (inL l roots).length = l.length := by rw [inL, reachP_len, markZ_len, List.length_replicate]
theorem inL_iff {l : List Nd} {roots : List Int} (hmay : ∀ i (h : i < l.length), mayB l[i] i = true) (hr : ∀ p ∈ roots, 0 ≤ p ∧ p < l.length) {i : Nat} : (inL l roots).getD i false = true ↔ ∃ p ∈ roots, Tr l p.toNat i := by
  have hm : ∀ x, (markZ (List.replicate l.length false) roots).getD x false = true ↔ ∃ p ∈ roots, p.toNat = x := by
    intro x
    rw [markZ_iff]
    constructor
    · rintro (h | ⟨_, h⟩)
      · simp only [List.getD_eq_getElem?_getD, List.getElem?_replicate] at h
        split at h <;> simp at h
      · exact h
    · rintro ⟨p, hp, e⟩
      have := hr p hp
      exact .inr ⟨by rw [List.length_replicate]; omega, p, hp, e⟩
  rw [inL, reach_iff hmay (Nat.le_refl _) (by rw [markZ_len, List.length_replicate])]
  constructor
  · rintro (h | ⟨r, hr, h1, h2⟩)
    · obtain ⟨p, hp, rfl⟩ := (hm i).1 h
      exact ⟨p, hp, .refl _⟩
    · obtain ⟨p, hp, rfl⟩ := (hm r).1 h1
      exact ⟨p, hp, h2⟩
  · rintro ⟨p, hp, h⟩
    have := hr p hp
    exact .inr ⟨p.toNat, by omega, (hm _).2 ⟨p, hp, rfl⟩, h⟩

/-- How many are true. -/
def cnt (L : List Bool) : Nat := L.count true
theorem cnt_or {A B : List Bool} : ∀ {R : List Bool}, A.length = R.length → B.length = R.length → (∀ i, R.getD i false = true → A.getD i false = true ∨ B.getD i false = true) → cnt R ≤ cnt A + cnt B := by
  intro R
  induction R generalizing A B with
  | nil => intro _ _ _; simp [cnt]
  | cons r R ih =>
    intro hA hB h
    match A, B, hA, hB with
    | a :: A, b :: B, hA, hB =>
      have h0 := h 0
      have h1 := ih (A := A) (B := B) (by simpa using hA) (by simpa using hB) (fun i hi => by
        have := h (i + 1)
        simp only [List.getD_eq_getElem?_getD, List.getElem?_cons_succ] at this ⊢
        exact this (by simpa [List.getD_eq_getElem?_getD] using hi))
      simp only [List.getD_eq_getElem?_getD, List.getElem?_cons_zero, Option.getD_some] at h0
      simp only [cnt, List.count_cons] at h1 ⊢
      cases r <;> cases a <;> cases b <;> simp at h0 ⊢ <;> omega
theorem cnt_le {L : List Bool} : cnt L ≤ L.length := List.count_le_length
theorem cnt_one {n a : Nat} : cnt ((List.replicate n false).set a true) ≤ 1 := by
  rcases Nat.lt_or_ge a n with h | h
  · simp [cnt, List.count_set, h, List.count_replicate]
  · rw [List.set_eq_of_length_le (by simpa using h)]; simp [cnt, List.count_replicate]
theorem cnt_none {L : List Bool} (h : ∀ i, L.getD i false = true → False) : cnt L = 0 := by
  unfold cnt
  rw [List.count_eq_zero]
  intro hm
  obtain ⟨i, hi, e⟩ := List.getElem_of_mem hm
  exact h i (by simp [List.getD_eq_getElem?_getD, hi, e])

theorem Tr.lt {l : List Nd} (hmay : ∀ i (h : i < l.length), mayB l[i] i = true) {a i : Nat} (h : Tr l a i) : i ≤ a := by
  induction h with
  | refl => exact Nat.le_refl _
  | step h hp g ih =>
    obtain ⟨hi, rfl⟩ := List.getElem?_eq_some_iff.1 h
    have := partsZ_lt (hmay _ hi) _ hp
    omega

/-- A tree has no fewer nodes than unlike ones are in it. -/
theorem cnt_size {l : List Nd} (hmay : ∀ i (h : i < l.length), mayB l[i] i = true) (hn : l.length ≤ mostN) : ∀ a, a < l.length → cnt (inL l [(a : Int)]) ≤ (sizesL l l.length).getD a 0 := by
  intro a
  induction a using Nat.strongRecOn with
  | ind a ih =>
    intro ha
    have hg : l[a]? = some l[a] := List.getElem?_eq_getElem ha
    have hpl := partsZ_lt (hmay a ha)
    have hsz : (sizesL l l.length).getD a 0 = szF (sizesL l a) (partsZ l[a]) := by
      rw [sizesL_get (Nat.lt_succ_self a) (show a + 1 ≤ l.length by omega)]
      simp only [sizesL, hg]
      have := getD_last (S := sizesL l a) (x := szF (sizesL l a) (partsZ l[a]))
      rw [sizesL_len] at this; exact this
    have hle : cnt (inL l [(a : Int)]) ≤ mostN := Nat.le_trans (cnt_le) (by rw [inL_len]; exact hn)
    have hin : ∀ {b i : Nat}, b < l.length → ((inL l [(b : Int)]).getD i false = true ↔ Tr l b i) := by
      intro b i hb
      rw [inL_iff hmay (by simp; omega)]
      simp
    have hs : ∀ p ∈ partsZ l[a], cnt (inL l [p]) ≤ (sizesL l a).getD p.toNat 0 := by
      intro p hp
      obtain ⟨p0, p1⟩ := hpl p hp
      have h1 := ih p.toNat (by omega) (by omega)
      rw [Int.toNat_of_nonneg p0] at h1
      rw [sizesL_get (m := a) (by omega) (by omega)] at h1
      exact h1
    have one : ∀ i, (List.replicate l.length false |>.set a true).getD i false = true ↔ i = a := by
      intro i
      simp only [List.getD_eq_getElem?_getD, List.getElem?_set, List.length_replicate]
      constructor
      · intro h
        split at h
        · rename_i e; exact e.symm
        · rw [List.getElem?_replicate] at h; split at h <;> simp at h
      · rintro rfl; simp [ha]
    rw [hsz]
    generalize hP : partsZ l[a] = ps at hs hpl
    have hTr : ∀ i, Tr l a i → i = a ∨ ∃ p ∈ ps, Tr l p.toNat i := by
      intro i h
      cases h with
      | refl => exact .inl rfl
      | step h3 hp g => rw [hg] at h3; cases h3; rw [hP] at hp; exact .inr ⟨_, hp, g⟩
    have two : ps = [] ∨ (∃ p, ps = [p]) ∨ ∃ p q, ps = [p, q] := by
      rw [← hP]; unfold partsZ
      split
      · exact .inl rfl
      · split
        · exact .inr (.inl ⟨_, rfl⟩)
        · exact .inr (.inr ⟨_, _, rfl⟩)
    have inN : ∀ p ∈ ps, ∀ i, (inL l [p]).getD i false = true ↔ Tr l p.toNat i := by
      intro p hp i
      obtain ⟨p0, p1⟩ := hpl p hp
      rw [inL_iff hmay (by simp; omega)]
      simp
    have c1 := cnt_one (n := l.length) (a := a)
    rcases two with rfl | ⟨p, rfl⟩ | ⟨p, q, rfl⟩
    · have := cnt_or (R := inL l [(a : Int)]) (A := (List.replicate l.length false).set a true) (B := (List.replicate l.length false).set a true) (by simp [inL_len]) (by simp [inL_len]) (fun i hi => by
        rcases hTr i ((hin ha).1 hi) with rfl | ⟨p, hp, _⟩
        · exact .inl ((one _).2 rfl)
        · simp at hp)
      have h2 : cnt (inL l [(a : Int)]) ≤ 1 := by
        refine Nat.le_trans ?_ c1
        have := cnt_or (R := inL l [(a : Int)]) (A := (List.replicate l.length false).set a true) (B := List.replicate l.length false) (by simp [inL_len]) (by simp [inL_len]) (fun i hi => by
          rcases hTr i ((hin ha).1 hi) with rfl | ⟨p, hp, _⟩
          · exact .inl ((one _).2 rfl)
          · simp at hp)
        have h0 : cnt (List.replicate l.length false) = 0 := by simp [cnt, List.count_replicate]
        omega
      simpa [szF] using h2
    · have := cnt_or (R := inL l [(a : Int)]) (A := (List.replicate l.length false).set a true) (B := inL l [p]) (by simp [inL_len]) (by simp [inL_len]) (fun i hi => by
        rcases hTr i ((hin ha).1 hi) with rfl | ⟨q, hq, hqi⟩
        · exact .inl ((one _).2 rfl)
        · exact .inr ((inN p (by simp) i).2 (by simp at hq; subst hq; exact hqi)))
      have hsp := hs p (by simp)
      simp only [szF, List.foldl_cons, List.foldl_nil]
      omega
    · have hB : ∃ Bm : List Bool, Bm.length = l.length ∧ ∀ i, Bm.getD i false = true ↔ (i = a ∨ (inL l [p]).getD i false = true) := by
        refine ⟨(inL l [p]).set a true, by simp [inL_len], fun i => ?_⟩
        simp only [List.getD_eq_getElem?_getD, List.getElem?_set, inL_len]
        by_cases e : a = i
        · subst e; simp [ha]
        · rw [if_neg e]
          constructor
          · exact .inr
          · rintro (rfl | h)
            · exact absurd rfl e
            · exact h
      obtain ⟨Bm, hBl, hBi⟩ := hB
      have k1 := cnt_or (R := Bm) (A := (List.replicate l.length false).set a true) (B := inL l [p]) (by simp [hBl]) (by simp [inL_len, hBl]) (fun i hi => by
        rcases (hBi i).1 hi with rfl | h
        · exact .inl ((one _).2 rfl)
        · exact .inr h)
      have k2 := cnt_or (R := inL l [(a : Int)]) (A := Bm) (B := inL l [q]) (by simp [hBl, inL_len]) (by simp [inL_len]) (fun i hi => by
        rcases hTr i ((hin ha).1 hi) with rfl | ⟨r, hr, hri⟩
        · exact .inl ((hBi _).2 (.inl rfl))
        · simp at hr
          rcases hr with rfl | rfl
          · exact .inl ((hBi _).2 (.inr ((inN _ (by simp) i).2 hri)))
          · exact .inr ((inN _ (by simp) i).2 hri))
      have hsp := hs p (by simp)
      have hsq := hs q (by simp)
      simp only [szF, List.foldl_cons, List.foldl_nil]
      omega

theorem cnt_take {L : List Bool} {j : Nat} (h : j < L.length) : cnt (L.take (j + 1)) = cnt (L.take j) + (if L[j] = true then 1 else 0) := by
  rw [List.take_succ_eq_append_getElem h]
  simp only [cnt, List.count_append, List.count_cons, List.count_nil]
  cases L[j] <;> simp
end Go.Va
end

section
set_option linter.unusedSimpArgs false
set_option linter.unusedVariables false
set_option linter.unusedSectionVars false
namespace Go.Va
open Go.Proofs

/-- The row and the places behind the first m nodes. -/
def onlyP (l : List Nd) (L : List Bool) : Nat → List Nd × List Nat
  | 0 => ([], [])
  | m + 1 => match l[m]? with
    | some n => if L.getD m false = true then ((onlyP l L m).1 ++ [renum n fun j => (onlyP l L m).2.getD j 0], (onlyP l L m).2 ++ [(onlyP l L m).1.length]) else ((onlyP l L m).1, (onlyP l L m).2 ++ [0])
    | none => onlyP l L m
theorem onlyP_len {l : List Nd} {L : List Bool} : ∀ {m : Nat}, m ≤ l.length → (onlyP l L m).2.length = m ∧ (onlyP l L m).1.length ≤ m
  | 0, _ => ⟨rfl, Nat.le_refl _⟩
  | m + 1, h => by
    obtain ⟨h1, h2⟩ := onlyP_len (l := l) (L := L) (m := m) (by omega)
    simp only [onlyP, List.getElem?_eq_getElem (show m < l.length from h)]
    split
    · exact ⟨by simp [h1], by simp; omega⟩
    · exact ⟨by simp [h1], by simp; omega⟩

theorem I1_of {xs : List Int} {f : Int → Nat} : I1 .i64 (xs.map fun p => ((f p : Nat) : Int)) = (WK .i64 (xs.map f)).map fun x => [x] := by simp [I1, WK]

theorem only_spec (l : List Nd) (roots : List Int) (v w : AV) (H : Heap) (hS : Shows H v 4 (l.map Nd.c)) (hP : Shows H w 1 (I1 .i64 roots)) (hr : roots.length ≤ 1000000) :
    F X 71 [v, w] H fun r H' => Ext H H' ∧ if askP l roots ≠ 0 then r = .tup [.nilsl, .nilsl, .int .i64 (askP l roots)] else
      ∃ v' w', r = .tup [v', w', .int .i64 0] ∧ Shows H' v' 4 ((onlyP l (inL l roots) l.length).1.map Nd.c) ∧ Shows H' w' 1 (I1 .i64 (roots.map fun p => ((onlyP l (inL l roots) l.length).2.getD p.toNat 0 : Nat))) := by
  refine F_slim S71_eq rfl fun ρ hρ => ?_
  simp only [AGs] at hρ
  obtain ⟨h0, h1, -⟩ := hρ
  have hlen := hS.lenA isSl_22
  rw [List.length_map] at hlen
  have hlenp := hP.lenA isSl_37
  rw [I1_len] at hlenp
  simp -implicitDefEqProofs only [↓gP, gQ, ↓reduceIte, Nat.reduceAdd, Nat.reduceEqDiff, Nat.reduceLT, Nat.reduceLeDiff, Int.reduceEq, S71, h0, h1]
  refine CS_fn (asked_spec l roots v _ _ hS hP (by omega)) ?_
  rintro _ H1 ⟨rfl, hE1⟩
  simp -implicitDefEqProofs only [↓gP, gQ, ↓reduceIte, Nat.reduceAdd, Nat.reduceEqDiff, Nat.reduceLT, Nat.reduceLeDiff, Int.reduceEq, h0, h1]
  refine Br_dec (fun h => ?_) (fun h => ?_)
  · obtain ⟨hc, hp⟩ := askP_ok h
    obtain ⟨hn, hmay⟩ := checkP_ok hc
    have hmk := mkSl (H := H1) (k := .i64) (k' := .i64) (n := l.length) slT_37 (by omega) (by omega) rfl (by omega)
    rw [rowK_zero, Nat.mul_one] at hmk
    simp -implicitDefEqProofs only [↓gP, gQ, ↓reduceIte, Nat.reduceAdd, Nat.reduceEqDiff, Nat.reduceLT, Nat.reduceLeDiff, Int.reduceEq, h0, h1, hlen, hmk]
    refine CS_fn (reach_spec l roots v w _ ((hS.ext hE1).ext Ext.refl.app) ((hP.ext hE1).ext Ext.refl.app) hmay hp hn (by omega)) ?_
    rintro _ H2 ⟨hE2, id, bornL, hid, rfl, hbornL, hobjL⟩
    have hto : H2[H1.length]? = some (.cells (rowK .i64 [] l.length) 3 0 false) := hE2 _ _ hp_get0
    have hE12 : Ext H1 H2 := Ext.refl.app.trans hE2
    have hidne : H1.length < id := by simp at hid; omega
    generalize hL : reachP l l.length (markZ (List.replicate l.length false) roots) = L at hobjL
    have hLl : L.length = l.length := by rw [← hL, reachP_len, markZ_len, List.length_replicate]
    have hBl : (B L).length = l.length := by rw [B_len, hLl]
    have hlenB := (shows_own hobjL (by rw [hBl]; exact hbornL) hBl).lenA isSl_74
    rw [List.length_map, hBl] at hlenB
    have hinL : inL l roots = L := hL
    rw [hinL]
    have hlid : id < H2.length := by rw [List.getElem?_eq_some_iff] at hobjL; exact hobjL.1
    have hlt2 : H1.length < H2.length := by rw [List.getElem?_eq_some_iff] at hto; exact hto.1
    simp -implicitDefEqProofs only [↓gP, gQ, ↓reduceIte, Nat.reduceAdd, Nat.reduceEqDiff, Nat.reduceLT, Nat.reduceLeDiff, Int.reduceEq, h0, h1, hlenB]
    refine loop_rule (fun k ρ' H' D' => ∃ i nv born, k = l.length - i ∧ i ≤ l.length ∧ ρ' 26 = .int .i64 (i : Nat) ∧ ρ' 25 = .int .i64 (l.length : Nat) ∧ ρ' 24 = .sl id 0 l.length l.length 1 ∧ ρ' 8 = .sl H1.length 0 l.length l.length 1 ∧ ρ' 4 = nv ∧ ρ' 5 = .nilsl ∧ ρ' 0 = v ∧ ρ' 1 = w ∧ RowAt H' nv (onlyP l L i).1 ∧ born ≤ l.length ∧
        H'[H1.length]? = some (.cells (rowK .i64 (onlyP l L i).2 l.length) 3 born false) ∧ H'[id]? = some (.cells (B L) 4 bornL false) ∧ (∀ j, slId nv = some j → H2.length ≤ j) ∧ Ext H1 H' ∧ H2.length ≤ H'.length ∧ D' = []) l.length
      ⟨0, .nilsl, 0, by simp, by simp, by simp only [up_get]; rfl, by simp only [up_get]; rfl, by simp only [up_get]; rfl, by simp only [up_get]; rfl, by simp only [up_get]; rfl, by simp only [up_get]; rfl, by simp only [up_get]; exact h0, by simp only [up_get]; exact h1, OwnV.nil, by omega, hto, hobjL, (fun j e => by cases e), hE12, Nat.le_refl _, rfl⟩ ?_
    rintro k ρ' H' D' ⟨i, nv, born, hk, hi, e26, e25, e24, e8, e4, e5, e0, e1, hO, hborn, hobj, hobjL, hge, hEx, hlt, rfl⟩
    have hEx0 := hE1.trans hEx
    obtain ⟨hl2, hl1⟩ := onlyP_len (l := l) (L := L) (m := i) hi
    have hrl : (rowK .i64 (onlyP l L i).2 l.length).length = l.length := rowK_len (by omega)
    simp -implicitDefEqProofs only [↓gP, gQ, ↓reduceIte, Nat.reduceAdd, Nat.reduceEqDiff, Nat.reduceLT, Nat.reduceLeDiff, Int.reduceEq, S71L1, e26, e25, e24, e8, e4, e5, e0, e1]
    refine Br_dec (fun g => ?_) (fun g => ?_)
    · have hil : i < l.length := by omega
      have hi1 : i + 1 ≤ l.length := hil
      have hiL : i < L.length := by omega
      have hw : IntKind.i64.wrap ((i : Int) + 1) = ((i + 1 : Nat) : Int) := by rw [wrap64 (by omega) (by omega)]; rfl
      have hgd : L.getD i false = L[i] := by simp [List.getD_eq_getElem?_getD, hiL]
      simp -implicitDefEqProofs only [↓gP, gQ, ↓reduceIte, Nat.reduceAdd, Nat.reduceEqDiff, Nat.reduceLT, Nat.reduceLeDiff, Int.reduceEq, e26, e25, e24, e8, e4, e5, e0, e1, ix_own1 hil, hobjL, hBl, hbornL, hil, B_get hiL]
      refine Br_bool (fun g1 => ?_) (fun g1 => ?_)
      · have hsucc : onlyP l L (i + 1) = ((onlyP l L i).1 ++ [renum l[i] fun j => (onlyP l L i).2.getD j 0], (onlyP l L i).2 ++ [(onlyP l L i).1.length]) := by
          simp only [onlyP, List.getElem?_eq_getElem hil, hgd, g1, if_true]
        have hset := rowK_set (k := .i64) (vs := (onlyP l L i).2) (n := l.length) (x := (onlyP l L i).1.length) (by omega)
        rw [hl2] at hset
        have hlen4 := hO.shows.lenA isSl_22
        rw [List.length_map] at hlen4
        have hltH : H1.length < H'.length := by omega
        have hne : ∀ j, slId nv = some j → j ≠ H1.length := fun j e => by have := hge j e; omega
        obtain ⟨d1, d2⟩ := own_set hEx (Nat.le_refl _) hobj (o' := .cells (rowK .i64 ((onlyP l L i).2 ++ [(onlyP l L i).1.length]) l.length) 3 l.length false)
        have dL : (H'.set H1.length (.cells (rowK .i64 ((onlyP l L i).2 ++ [(onlyP l L i).1.length]) l.length) 3 l.length false))[id]? = some (.cells (B L) 4 bornL false) := by
          rw [List.getElem?_set_ne (by omega)]; exact hobjL
        have dO : RowAt (H'.set H1.length (.cells (rowK .i64 ((onlyP l L i).2 ++ [(onlyP l L i).1.length]) l.length) 3 l.length false)) nv (onlyP l L i).1 := hO.keep fun j o e hj => by
          rw [List.getElem?_set_ne (hne j e).symm]; exact hj
        simp -implicitDefEqProofs only [↓gP, gQ, ↓reduceIte, Nat.reduceAdd, Nat.reduceEqDiff, Nat.reduceLT, Nat.reduceLeDiff, Int.reduceEq, e26, e25, e24, e8, e4, e5, e0, e1, g1, hlen4, ix_own1 hil, hobj, hrl, hborn, hi1, hset]
        have dlen : (H'.set H1.length (.cells (rowK .i64 ((onlyP l L i).2 ++ [(onlyP l L i).1.length]) l.length) 3 l.length false)).length = H'.length := List.length_set
        generalize H'.set H1.length (.cells (rowK .i64 ((onlyP l L i).2 ++ [(onlyP l L i).1.length]) l.length) 3 l.length false) = H3 at d1 d2 dL dO dlen
        obtain ⟨nx, -, -, -, -, -, nld⟩ := (hS.ext (hE1.trans d1)).nodes
        simp -implicitDefEqProofs only [↓gP, gQ, ↓reduceIte, Nat.reduceAdd, Nat.reduceEqDiff, Nat.reduceLT, Nat.reduceLeDiff, Int.reduceEq, e26, e25, e24, e8, e4, e5, e0, e1, nx, nld _ _ hil Ext.refl, hil]
        have hrl3 : (rowK .i64 ((onlyP l L i).2 ++ [(onlyP l L i).1.length]) l.length).length = l.length := rowK_len (by simp; omega)
        refine CS_fn (moved_spec l[i] i (fun j => (onlyP l L i).2.getD j 0) _ _ _ (hmay i hil) (shows_own d2 (by rw [hrl3]; exact Nat.le_refl _) hrl3) ?_) ?_
        · intro j hj
          rw [List.getElem?_map, rowK_get (by simp; omega), getD_app (by omega)]; rfl
        rintro _ H4 ⟨hE4, rfl⟩
        generalize renum l[i] (fun j => (onlyP l L i).2.getD j 0) = m at hsucc
        obtain ⟨v', H5, ap, hO5, hK5, hid5, -, -, hgr⟩ := OwnV.push' (OwnV.ext dO hE4) (t := 22) (xs := m.c) slT_22 rfl (by decide) rfl rfl (by omega) (by omega)
        have hbl : buildSliceA Try.prog 22 1 [(0, m.v)] H4 = some (.sl H4.length 0 1 4 4, H4 ++ [.cells m.c 52 0 false]) := bldSl1 slT_22 rfl (by decide) (by decide) rfl rfl
        have hk5 : ∀ j o, j < H2.length → H3[j]? = some o → H5[j]? = some o := fun j o hj ho => hK5.2 _ _ (fun e => by have := hge j e; omega) (hE4 _ _ ho)
        simp -implicitDefEqProofs only [↓gP, gQ, ↓reduceIte, Nat.reduceAdd, Nat.reduceEqDiff, Nat.reduceLT, Nat.reduceLeDiff, Int.reduceEq, e26, e25, e24, e8, e4, e5, e0, e1, hbl, ap, hw]
        have hlt5 : H2.length ≤ H5.length := by have := hE4.len; have := hK5.1; omega
        refine ⟨l.length - (i + 1), by omega, i + 1, v', l.length, rfl, hil, by first | exact True.intro | rfl | trivial, by first | exact True.intro | rfl | trivial, by first | exact True.intro | rfl | trivial, by first | exact True.intro | rfl | trivial, by first | exact True.intro | rfl | trivial, by first | exact True.intro | rfl | trivial, by first | exact True.intro | rfl | trivial, by first | exact True.intro | rfl | trivial, ?_, Nat.le_refl _, ?_, ?_, ?_, ?_, hlt5, by first | exact True.intro | rfl | trivial⟩
        · rw [hsucc]
          have e1 : (((onlyP l L i).1 ++ [m]).map Nd.c).flatten = ((onlyP l L i).1.map Nd.c).flatten ++ m.c := by simp
          have e2 : ((onlyP l L i).1 ++ [m]).length = (onlyP l L i).1.length + 1 := by simp
          unfold RowAt
          rw [e1, e2]; exact hO5
        · rw [hsucc]; exact hk5 _ _ hlt2 d2
        · exact hk5 _ _ hlid dL
        · intro j e
          rcases hid5 with p | ⟨x, p, q⟩
          · rw [p] at e; exact hge j e
          · rw [p] at e; cases e; have := hE4.len; omega
        · intro j o ho
          have hj : j < H1.length := by rw [List.getElem?_eq_some_iff] at ho; exact ho.1
          exact hk5 _ _ (by omega) (d1 _ _ ho)
      · have hsucc : onlyP l L (i + 1) = ((onlyP l L i).1, (onlyP l L i).2 ++ [0]) := by
          simp only [onlyP, List.getElem?_eq_getElem hil, hgd, g1]; rfl
        simp -implicitDefEqProofs only [↓gP, gQ, ↓reduceIte, Nat.reduceAdd, Nat.reduceEqDiff, Nat.reduceLT, Nat.reduceLeDiff, Int.reduceEq, e26, e25, e24, e8, e4, e5, e0, e1, g1, hw]
        refine ⟨l.length - (i + 1), by omega, i + 1, nv, born, rfl, hil, by first | exact True.intro | rfl | trivial, by first | exact True.intro | rfl | trivial, by first | exact True.intro | rfl | trivial, by first | exact True.intro | rfl | trivial, by first | exact True.intro | rfl | trivial, by first | exact True.intro | rfl | trivial, by first | exact True.intro | rfl | trivial, by first | exact True.intro | rfl | trivial, by rw [hsucc]; exact hO, hborn, ?_, hobjL, hge, hEx, hlt, by first | exact True.intro | rfl | trivial⟩
        rw [hsucc]
        have : rowK .i64 ((onlyP l L i).2 ++ [0]) l.length = rowK .i64 (onlyP l L i).2 l.length := by
          unfold rowK
          have e : l.length - (onlyP l L i).2.length = (l.length - ((onlyP l L i).2 ++ [0]).length) + 1 := by simp; omega
          rw [e, List.replicate_succ]
          simp [WK]
        rw [this]; exact hobj
    · have : i = l.length := by omega
      subst this
      simp -implicitDefEqProofs only [↓gP, gQ, ↓reduceIte, Nat.reduceAdd, Nat.reduceEqDiff, Nat.reduceLT, Nat.reduceLeDiff, Int.reduceEq, e26, e25, e24, e8, e4, e5, e0, e1, hlenp]
      have hobj' := hobj
      have hPx := hP.ext hEx0
      obtain ⟨px, pld⟩ := hPx.ints
      refine loop_rule (fun k ρ' H'' D' => ∃ j pv, k = roots.length - j ∧ j ≤ roots.length ∧ ρ' 49 = .int .i64 (j : Nat) ∧ ρ' 48 = .int .i64 (roots.length : Nat) ∧ ρ' 47 = w ∧ ρ' 8 = .sl H1.length 0 l.length l.length 1 ∧ ρ' 5 = pv ∧ ρ' 4 = nv ∧
          OwnV H'.length H'' pv 3 1 j (WK .i64 ((roots.take j).map fun p => (onlyP l L l.length).2.getD p.toNat 0)) ∧ Ext H' H'' ∧ H'.length ≤ H''.length ∧ D' = []) roots.length
        ⟨0, .nilsl, by simp, by simp, by simp only [up_get]; rfl, by simp only [up_get]; rfl, by simp only [up_get]; rfl, by simp only [up_get]; exact e8, by simp only [up_get]; exact e5, by simp only [up_get]; exact e4, by simpa [WK] using OwnV.nil, Ext.refl, Nat.le_refl _, rfl⟩ ?_
      clear e26 e25 e24 e8 e4 e5 e0 e1
      rintro k ρ' H'' D' ⟨j, pv, hk, hj, e49, e48, e47, e8, e5, e4, hOp, hEp, hlp, rfl⟩
      simp -implicitDefEqProofs only [↓gP, gQ, ↓reduceIte, Nat.reduceAdd, Nat.reduceEqDiff, Nat.reduceLT, Nat.reduceLeDiff, Int.reduceEq, S71L2, e49, e48, e47, e8, e5, e4]
      refine Br_dec (fun g2 => ?_) (fun g2 => ?_)
      · have hj' : j < roots.length := by omega
        obtain ⟨p0, p1⟩ := hp _ (List.getElem_mem hj')
        have hw : IntKind.i64.wrap ((j : Int) + 1) = ((j + 1 : Nat) : Int) := by rw [wrap64 (by omega) (by omega)]; rfl
        have rp : roots[j].toNat < l.length := by omega
        have gp := rowK_get (k := .i64) (vs := (onlyP l L l.length).2) (n := l.length) (j := roots[j].toNat) (by omega)
        obtain ⟨v', H5, ap, hO5, hE5, hl5⟩ := hOp.push (t := 37) (xs := [AV.int .i64 ((onlyP l L l.length).2.getD roots[j].toNat 0 : Nat)]) slT_37 rfl (by decide) rfl rfl (by omega) (by omega) hEp (Nat.le_refl _) hlp
        simp -implicitDefEqProofs only [↓gP, gQ, ↓reduceIte, Nat.reduceAdd, Nat.reduceEqDiff, Nat.reduceLT, Nat.reduceLeDiff, Int.reduceEq, e49, e48, e47, e8, e5, e4, px, pld _ _ hj' hEp, hj', ix_ownZ p0 p1, hEp _ _ hobj', hrl, hborn, rp, gp, bld_int, ap, hw]
        refine ⟨roots.length - (j + 1), by omega, j + 1, v', rfl, hj', by first | exact True.intro | rfl | trivial, by first | exact True.intro | rfl | trivial, by first | exact True.intro | rfl | trivial, by first | exact True.intro | rfl | trivial, by first | exact True.intro | rfl | trivial, by first | exact True.intro | rfl | trivial, ?_, hE5, by omega, by first | exact True.intro | rfl | trivial⟩
        rw [List.take_succ_eq_append_getElem hj', List.map_append]
        have : WK .i64 ((roots.take j).map (fun p => (onlyP l L l.length).2.getD p.toNat 0) ++ [roots[j]].map (fun p => (onlyP l L l.length).2.getD p.toNat 0)) = WK .i64 ((roots.take j).map fun p => (onlyP l L l.length).2.getD p.toNat 0) ++ [AV.int .i64 ((onlyP l L l.length).2.getD roots[j].toNat 0 : Nat)] := by simp [WK]
        rw [this]; exact hO5
      · have : j = roots.length := by omega
        subst this
        rw [List.take_length] at hOp
        simp -implicitDefEqProofs only [↓gP, gQ, ↓reduceIte, Nat.reduceAdd, Nat.reduceEqDiff, Nat.reduceLT, Nat.reduceLeDiff, Int.reduceEq, e49, e48, e47, e8, e5, e4]
        refine ⟨hEx0.trans hEp, ?_⟩
        rw [if_neg (by simpa using h)]
        refine ⟨nv, pv, rfl, hO.shows.ext hEp, ?_⟩
        have := hOp.shows1
        rwa [← I1_of] at this
  · simp -implicitDefEqProofs only [↓gP, gQ, ↓reduceIte, Nat.reduceAdd, Nat.reduceEqDiff, Nat.reduceLT, Nat.reduceLeDiff, Int.reduceEq, h0, h1]
    refine ⟨hE1, ?_⟩
    rw [if_pos h]; trivial
end Go.Va
end

section
set_option linter.unusedSimpArgs false
set_option linter.unusedVariables false
set_option linter.unusedSectionVars false
namespace Go.Va

/-- A call that is known to come to true. -/
theorem F_tru {C : Ctx} {f : FuncId} {H : Heap} (h : C.T.contains f = true) : F C f [] H fun v H' => v = .bool true ∧ H = H' :=
  (F_true h).mono fun _ _ h => ⟨h.1, h.2.symm⟩

theorem valsL_at {l : List Nd} {rc : Nat → Nat} {a N : Nat} (ha : a < l.length) (haN : a < N) : (valsL l rc N).getD a 0 = valN l[a] (fun j => (valsL l rc a).getD j 0) rc := by
  rw [valsL_get (Nat.lt_succ_self a) (show a + 1 ≤ N by omega)]
  simp only [valsL, List.getElem?_eq_getElem ha, List.getD_eq_getElem?_getD]
  rw [List.getElem?_append_right (by rw [valsL_len]; exact Nat.le_refl _), valsL_len, Nat.sub_self]; rfl

theorem partsZ_a {n : Nd} {i : Nat} (h : mayB n i = true) (h1 : ¬ n.op = 1) (h2 : ¬ n.op = 2) : n.a ∈ partsZ n := by
  unfold partsZ
  rw [if_neg (by omega)]
  split <;> simp
theorem partsZ_b {n : Nd} {i : Nat} (h : mayB n i = true) (h1 : ¬ n.op = 1) (h2 : ¬ n.op = 2) (h3 : ¬ n.op = 384) : n.b ∈ partsZ n := by
  unfold partsZ
  rw [if_neg (by omega), if_neg h3]
  simp

theorem valN_congr {n : Nd} {i : Nat} {d d' rc rc' : Nat → Nat} (h : mayB n i = true) (hp : ∀ p ∈ partsZ n, d p.toNat = d' p.toNat) (hw : n.op = 2 → rc n.k.toNat = rc' n.k.toNat) : valN n d rc = valN n d' rc' := by
  unfold valN
  split
  · rfl
  · rename_i h1
    split
    · rename_i h2; exact hw h2
    · rename_i h2
      rw [hp _ (partsZ_a h h1 h2)]
      by_cases h3 : n.op = 384
      · rw [h3]
        have e := fun b => congrArg Prod.fst (alu_neg0 (a := d' n.a.toNat) (b := b))
        show (aluN 128 _ _).1 = (aluN 128 _ _).1
        rw [e, e (d' n.b.toNat)]
      · rw [hp _ (partsZ_b h h1 h2 h3)]

theorem vals_dep {l : List Nd} (hmay : ∀ i (h : i < l.length), mayB l[i] i = true) {rc rc' : Nat → Nat} {N : Nat} (hN : N ≤ l.length) : ∀ a, a < N → (∀ i n, Tr l a i → l[i]? = some n → n.op = 2 → rc n.k.toNat = rc' n.k.toNat) → (valsL l rc N).getD a 0 = (valsL l rc' N).getD a 0 := by
  intro a
  induction a using Nat.strongRecOn with
  | ind a ih =>
    intro ha h
    have hal : a < l.length := by omega
    rw [valsL_at hal ha, valsL_at hal ha]
    refine valN_congr (hmay a hal) (fun p hp => ?_) (h a _ (.refl a) (List.getElem?_eq_getElem hal))
    have hpl := partsZ_lt (hmay a hal) p hp
    have := ih p.toNat (by omega) (by omega) (fun i n ht => h i n (.step (List.getElem?_eq_getElem hal) hp ht))
    rw [valsL_get (rc := rc) (m := a) (by omega) (by omega), valsL_get (rc := rc') (m := a) (by omega) (by omega)] at this
    exact this

theorem uses_bit {l : List Nd} {L : List Bool} {w : Nat} : ∀ {m : Nat}, (usesP l L m).testBit w = true ↔ ∃ i n, i < m ∧ l[i]? = some n ∧ L.getD i false = true ∧ n.op = 2 ∧ n.k.toNat = w
  | 0 => by simp [usesP]
  | m + 1 => by
    have ih := uses_bit (l := l) (L := L) (w := w) (m := m)
    simp only [usesP]
    cases hm : l[m]? with
    | none =>
      simp only
      rw [ih]
      constructor
      · rintro ⟨i, n, h1, h2⟩; exact ⟨i, n, by omega, h2⟩
      · rintro ⟨i, n, h1, h2, h3⟩
        rcases Nat.eq_or_lt_of_le (Nat.le_of_lt_succ h1) with rfl | h
        · rw [hm] at h2; cases h2
        · exact ⟨i, n, h, h2, h3⟩
    | some n =>
      simp only
      split
      · rename_i hc
        rw [Nat.testBit_or, Bool.or_eq_true, ih, Nat.testBit_two_pow, decide_eq_true_eq]
        constructor
        · rintro (⟨i, n, h1, h2⟩ | h)
          · exact ⟨i, n, by omega, h2⟩
          · exact ⟨m, n, by omega, hm, hc.1, hc.2, h⟩
        · rintro ⟨i, n', h1, h2, h3, h4, h5⟩
          rcases Nat.eq_or_lt_of_le (Nat.le_of_lt_succ h1) with rfl | h
          · rw [hm] at h2; cases h2; exact .inr h5
          · exact .inl ⟨i, n', h, h2, h3, h4, h5⟩
      · rename_i hc
        rw [ih]
        constructor
        · rintro ⟨i, n, h1, h2⟩; exact ⟨i, n, by omega, h2⟩
        · rintro ⟨i, n', h1, h2, h3, h4, h5⟩
          rcases Nat.eq_or_lt_of_le (Nat.le_of_lt_succ h1) with rfl | h
          · rw [hm] at h2; cases h2; exact absurd ⟨h3, h4⟩ hc
          · exact ⟨i, n', h, h2, h3, h4, h5⟩

theorem RecOk.one {rcs : List AV} {rc : Nat → Nat} (h : RecOk rcs rc) : rcs.all AV.one = true := by
  rw [List.all_eq_true]
  intro x hx
  obtain ⟨i, hi, rfl⟩ := List.getElem_of_mem hx
  have := h.2 i (by rw [← h.1]; exact hi)
  rw [List.getElem?_eq_getElem hi] at this
  rw [Option.some.inj this]; rfl

/-- The words of one record at some places, of another one elsewhere. -/
def mixR (rc oc : Nat → Nat) (u : Nat) (j : Nat) (x : Nat) : Nat := if x < j ∧ u.testBit x = true then rc x else oc x
def mixC (rc oc : Nat → Nat) (u j : Nat) : List AV := (List.range 16).map fun x => .int .u32 (mixR rc oc u j x : Nat)
theorem mixC_len {rc oc : Nat → Nat} {u j : Nat} : (mixC rc oc u j).length = 16 := by simp [mixC]
theorem mixC_ok {rc oc : Nat → Nat} {u j : Nat} : RecOk (mixC rc oc u j) (mixR rc oc u j) := ⟨mixC_len, fun j hj => by simp [mixC, List.getElem?_map, List.getElem?_range hj]⟩
theorem mixC_zero {rc oc : Nat → Nat} {ocs : List AV} {u : Nat} (h : RecOk ocs oc) : ocs = mixC rc oc u 0 := by
  apply List.ext_getElem?
  intro i
  rcases Nat.lt_or_ge i 16 with hi | hi
  · rw [h.2 i hi, mixC_ok.2 i hi]; simp [mixR]
  · rw [List.getElem?_eq_none (by rw [h.1]; exact hi), List.getElem?_eq_none (by rw [mixC_len]; exact hi)]
theorem mixC_set {rc oc : Nat → Nat} {u j : Nat} (hj : j < 16) (hb : u.testBit j = true) : (mixC rc oc u j).set j (.int .u32 (rc j : Nat)) = mixC rc oc u (j + 1) := by
  apply List.ext_getElem?
  intro i
  rw [List.getElem?_set]
  rcases Nat.lt_or_ge i 16 with hi | hi
  · rw [mixC_ok.2 i hi, mixC_ok.2 i hi]
    split
    · rename_i e; subst e
      rw [if_pos (by rw [mixC_len]; exact hi)]
      simp [mixR, hb]
    · rename_i e
      have : (i < j) = (i < j + 1) := by apply propext; omega
      simp only [mixR, this]
  · rw [if_neg (by omega), List.getElem?_eq_none (by rw [mixC_len]; exact hi), List.getElem?_eq_none (by rw [mixC_len]; exact hi)]
theorem mixC_keep {rc oc : Nat → Nat} {u j : Nat} (hb : u.testBit j = false) : mixC rc oc u j = mixC rc oc u (j + 1) := by
  unfold mixC mixR
  apply List.map_congr_left
  intro x hx
  have : (x < j ∧ u.testBit x = true) = (x < j + 1 ∧ u.testBit x = true) := by
    apply propext
    constructor
    · rintro ⟨h1, h2⟩; exact ⟨by omega, h2⟩
    · rintro ⟨h1, h2⟩
      refine ⟨?_, h2⟩
      rcases Nat.eq_or_lt_of_le (Nat.le_of_lt_succ h1) with rfl | h
      · rw [hb] at h2; cases h2
      · exact h
  simp only [this]

theorem putAll_full {c vs : List AV} (h : vs.length = c.length) : putAll c 0 vs = vs := by
  have gen : ∀ (vs pre c : List AV), vs.length = c.length → putAll (pre ++ c) pre.length vs = pre ++ vs := by
    intro vs
    induction vs with
    | nil => intro pre c h; cases c with
      | nil => rfl
      | cons => simp at h
    | cons x xs ih => intro pre c h; cases c with
      | nil => simp at h
      | cons y ys =>
        rw [putAll_cons, List.set_append_right _ _ (Nat.le_refl _), Nat.sub_self, List.set_cons_zero]
        have := ih (pre ++ [x]) ys (by simpa using h)
        simpa using this
  exact gen vs [] c h
theorem u16_and1 {a : Nat} (ha : a < 65536) : IntKind.u16.wrap ((BitVec.ofInt IntKind.u16.bits (a : Int) &&& BitVec.ofInt IntKind.u16.bits 1).toNat : Nat) = ((a % 2 : Nat) : Int) := by
  have h1 : (BitVec.ofInt IntKind.u16.bits 1).toNat = 1 := by decide
  rw [BitVec.toNat_and, u16_ofInt ha, h1, Nat.and_one_is_mod, u16w]
  omega
end Go.Va
end

section
set_option linter.unusedSimpArgs false
set_option linter.unusedVariables false
set_option linter.unusedSectionVars false
namespace Go.Va

theorem getD_pre {xs ys : List Nat} {j : Nat} (h : j < xs.length) : (xs ++ ys).getD j 0 = xs.getD j 0 := by
  simp only [List.getD_eq_getElem?_getD]; rw [List.getElem?_append_left h]
theorem intoP_get {P0 l : List Nd} {m j : Nat} (hj : j < m) : ∀ {M : Nat}, m ≤ M → M ≤ l.length → (intoP P0 l M).2.getD j 0 = (intoP P0 l m).2.getD j 0
  | 0, h, _ => by omega
  | M + 1, h, hM => by
    rcases Nat.eq_or_lt_of_le h with h' | h'
    · rw [h']
    · rw [← intoP_get hj (M := M) (by omega) (by omega), intoP_succ (show M < l.length by omega)]
      exact getD_pre (by rw [(intoP_len (P0 := P0) (l := l) (m := M) (by omega)).1]; omega)
theorem intoP_at {P0 l : List Nd} {m : Nat} (hm : m < l.length) : (intoP P0 l (m + 1)).2.getD m 0 = (putP (intoP P0 l m).1 (renum l[m] fun j => (intoP P0 l m).2.getD j 0)).idxOf (renum l[m] fun j => (intoP P0 l m).2.getD j 0) := by
  rw [intoP_succ hm]
  have h := (intoP_len (P0 := P0) (l := l) (m := m) (by omega)).1
  have := getD_last (S := (intoP P0 l m).2) (x := (putP (intoP P0 l m).1 (renum l[m] fun j => (intoP P0 l m).2.getD j 0)).idxOf (renum l[m] fun j => (intoP P0 l m).2.getD j 0))
  rw [h] at this; exact this
theorem putP_pre {l : List Nd} {n : Nd} : l.length ≤ (putP l n).length := by unfold putP; split <;> simp
theorem intoP_lt {P0 l : List Nd} : ∀ {m : Nat}, m ≤ l.length → ∀ j, j < m → (intoP P0 l m).2.getD j 0 < (intoP P0 l m).1.length
  | 0, _, j, h => by omega
  | m + 1, hm, j, h => by
    have ih := intoP_lt (P0 := P0) (l := l) (m := m) (by omega)
    have hm' : m < l.length := hm
    rcases Nat.eq_or_lt_of_le (Nat.le_of_lt_succ h) with rfl | h'
    · rw [intoP_at hm', intoP_succ hm']; exact putP_idx
    · rw [intoP_get h' (M := m + 1) (by omega) hm, intoP_succ hm']
      exact Nat.lt_of_lt_of_le (ih j h') putP_pre
theorem renum_congr {n : Nd} {i : Nat} {f g : Nat → Nat} (hm : mayB n i = true) (h : ∀ j, j < i → f j = g j) : renum n f = renum n g := by
  unfold renum
  split
  · rfl
  · rename_i h12
    obtain ⟨m1, m2, m3, m4, m5, m6⟩ := may_alu hm (fun h => h12 (.inl h)) (fun h => h12 (.inr h))
    rw [h n.a.toNat (by omega), h n.b.toNat (by omega)]
theorem renum_may {n : Nd} {i N : Nat} {f : Nat → Nat} (hm : mayB n i = true) (h : ∀ j, j < i → f j < N) : mayB (renum n f) N = true := by
  unfold renum
  split
  · rename_i h12
    unfold mayB at hm ⊢
    rcases h12 with h | h
    · rw [if_pos h] at hm ⊢; exact hm
    · rw [if_neg (by omega), if_pos h] at hm ⊢; exact hm
  · rename_i h12
    obtain ⟨m1, m2, m3, m4, m5, m6⟩ := may_alu hm (fun h => h12 (.inl h)) (fun h => h12 (.inr h))
    have ha := h n.a.toNat (by omega)
    have hb := h n.b.toNat (by omega)
    have n1 : ¬ n.op = 1 := fun h => h12 (.inl h)
    have n2 : ¬ n.op = 2 := fun h => h12 (.inr h)
    have h0 : ¬ (n.op ∉ alus ∨ n.k ≠ 0 ∨ ((f n.a.toNat : Nat) : Int) < 0 ∨ (N : Int) ≤ ((f n.a.toNat : Nat) : Int)) := by
      rintro (h | h | h | h)
      · exact h m1
      · exact h m2
      · omega
      · omega
    split
    · rename_i h3
      unfold mayB at hm ⊢
      rw [if_neg n1, if_neg n2, if_neg (by rintro (h | h | h | h); exact h m1; exact h m2; omega; omega), if_pos h3] at hm
      simp only
      rw [if_neg n1, if_neg n2, if_neg h0, if_pos h3]; exact hm
    · rename_i h3
      unfold mayB
      simp only
      rw [if_neg n1, if_neg n2, if_neg h0, if_neg h3]
      simp; omega

end Go.Va
end

section
set_option linter.unusedSimpArgs false
set_option linter.unusedVariables false
set_option linter.unusedSectionVars false
namespace Go.Va

theorem Tr.app {l : List Nd} {a b : Nat} (h : Tr l a b) {n : Nd} {p : Int} (hb : l[b]? = some n) (hp : p ∈ partsZ n) : Tr l a p.toNat := by
  induction h with
  | refl => exact .step hb hp (.refl _)
  | step h1 h2 _ ih => exact .step h1 h2 (ih hb)

theorem renum_congr' {n : Nd} {i : Nat} {f g : Nat → Nat} (hm : mayB n i = true) (h : ∀ p ∈ partsZ n, f p.toNat = g p.toNat) : renum n f = renum n g := by
  unfold renum
  split
  · rfl
  · rename_i h12
    have ha := h _ (partsZ_a hm (fun h => h12 (.inl h)) (fun h => h12 (.inr h)))
    split
    · rw [ha]
    · rename_i h3
      rw [ha, h _ (partsZ_b hm (fun h => h12 (.inl h)) (fun h => h12 (.inr h)) h3)]
theorem renum_may' {n : Nd} {i N : Nat} {f : Nat → Nat} (hm : mayB n i = true) (h : ∀ p ∈ partsZ n, f p.toNat < N) : mayB (renum n f) N = true := by
  have e : renum n f = renum n (fun j => if f j < N then f j else 0) := renum_congr' hm fun p hp => by simp [h p hp]
  by_cases hN : 0 < N
  · rw [e]
    exact renum_may hm fun j _ => by
      split
      · assumption
      · exact hN
  · have h0 : partsZ n = [] := by
      cases hp : partsZ n with
      | nil => rfl
      | cons p ps => have := h p (by rw [hp]; simp); omega
    have h12 : n.op = 1 ∨ n.op = 2 := by
      unfold partsZ at h0
      split at h0
      · assumption
      · split at h0 <;> simp at h0
    unfold renum
    rw [if_pos h12]
    unfold mayB at hm ⊢
    rcases h12 with h | h
    · rw [if_pos h] at hm ⊢; exact hm
    · rw [if_neg (by omega), if_pos h] at hm ⊢; exact hm
theorem renum_op {n : Nd} {f : Nat → Nat} : (renum n f).op = n.op ∧ (renum n f).k = n.k := by
  unfold renum; split
  · exact ⟨rfl, rfl⟩
  · split <;> exact ⟨rfl, rfl⟩
theorem renum_ok {n : Nd} {f : Nat → Nat} (h : n.ok) : (renum n f).ok := by
  obtain ⟨h1, h2, h3, h4⟩ := h
  obtain ⟨e1, e2⟩ := renum_op (n := n) (f := f)
  unfold Nd.ok; rw [e1, e2]; exact ⟨h1, h2, h3, h4⟩

section
variable {l : List Nd} {L : List Bool}
theorem only_in {i : Nat} (hi : i < l.length) (hL : L.getD i false = true) : onlyP l L (i + 1) = ((onlyP l L i).1 ++ [renum l[i] fun j => (onlyP l L i).2.getD j 0], (onlyP l L i).2 ++ [(onlyP l L i).1.length]) := by
  simp only [onlyP, List.getElem?_eq_getElem hi, hL, if_true]
theorem only_out {i : Nat} (hi : i < l.length) (hL : L.getD i false = false) : onlyP l L (i + 1) = ((onlyP l L i).1, (onlyP l L i).2 ++ [0]) := by
  simp only [onlyP, List.getElem?_eq_getElem hi, hL]; rfl
theorem only_pre {i : Nat} : ∀ {m : Nat}, i ≤ m → m ≤ l.length → (∃ r, (onlyP l L m).1 = (onlyP l L i).1 ++ r) ∧ ∃ r, (onlyP l L m).2 = (onlyP l L i).2 ++ r
  | 0, h, _ => by
    obtain rfl : i = 0 := by omega
    exact ⟨⟨[], by simp⟩, ⟨[], by simp⟩⟩
  | m + 1, h, hm => by
    rcases Nat.eq_or_lt_of_le h with rfl | h'
    · exact ⟨⟨[], by simp⟩, ⟨[], by simp⟩⟩
    · obtain ⟨⟨r, h1⟩, ⟨s, h2⟩⟩ := only_pre (i := i) (m := m) (by omega) (by omega)
      cases hL : L.getD m false with
      | true => rw [only_in (show m < l.length by omega) hL, h1, h2]; exact ⟨⟨_, List.append_assoc _ _ _⟩, ⟨_, List.append_assoc _ _ _⟩⟩
      | false => rw [only_out (show m < l.length by omega) hL, h1, h2]; exact ⟨⟨r, rfl⟩, ⟨_, List.append_assoc _ _ _⟩⟩
theorem only_to {i m : Nat} (hi : i < m) (hm : m ≤ l.length) (hL : L.getD i false = true) : (onlyP l L m).2.getD i 0 = (onlyP l L i).1.length := by
  obtain ⟨-, r, h⟩ := only_pre (l := l) (L := L) (i := i + 1) (m := m) hi hm
  obtain ⟨hl, -⟩ := onlyP_len (l := l) (L := L) (m := i) (by omega)
  rw [h, getD_pre (by rw [(onlyP_len (l := l) (L := L) (m := i + 1) (by omega)).1]; omega), only_in (show i < l.length by omega) hL]
  have := getD_last (S := (onlyP l L i).2) (x := (onlyP l L i).1.length)
  rw [hl] at this; exact this
theorem only_get {i : Nat} {m : Nat} (hi : i < m) (hm : m ≤ l.length) (hil : i < l.length) (hL : L.getD i false = true) : (onlyP l L m).1[(onlyP l L i).1.length]? = some (renum l[i] fun j => (onlyP l L i).2.getD j 0) := by
  obtain ⟨⟨r, h⟩, -⟩ := only_pre (l := l) (L := L) (i := i + 1) (m := m) hi hm
  rw [h, only_in hil hL, List.append_assoc, List.getElem?_append_right (Nat.le_refl _), Nat.sub_self]; rfl
theorem only_lt {i m : Nat} (hi : i < m) (hm : m ≤ l.length) (hL : L.getD i false = true) : (onlyP l L i).1.length < (onlyP l L m).1.length := by
  obtain ⟨⟨r, h⟩, -⟩ := only_pre (l := l) (L := L) (i := i + 1) (m := m) hi hm
  rw [h, only_in (show i < l.length by omega) hL]
  simp only [List.length_append, List.length_cons, List.length_nil]; omega
theorem only_from : ∀ {m k : Nat}, m ≤ l.length → k < (onlyP l L m).1.length → ∃ i, i < m ∧ L.getD i false = true ∧ k = (onlyP l L i).1.length
  | 0, k, _, h => by simp [onlyP] at h
  | m + 1, k, hm, h => by
    cases hL : L.getD m false with
    | true =>
      rw [only_in (show m < l.length by omega) hL] at h
      simp only [List.length_append, List.length_cons, List.length_nil] at h
      rcases Nat.eq_or_lt_of_le (Nat.le_of_lt_succ h) with e | h'
      · exact ⟨m, by omega, hL, e⟩
      · obtain ⟨i, h1, h2, h3⟩ := only_from (m := m) (by omega) h'
        exact ⟨i, by omega, h2, h3⟩
    | false =>
      rw [only_out (show m < l.length by omega) hL] at h
      obtain ⟨i, h1, h2, h3⟩ := only_from (m := m) (by omega) h
      exact ⟨i, by omega, h2, h3⟩

variable (hmay : ∀ i (h : i < l.length), mayB l[i] i = true) (hcl : ∀ i n, L.getD i false = true → l[i]? = some n → ∀ p ∈ partsZ n, L.getD p.toNat false = true)
include hmay hcl

theorem only_may {i : Nat} (hi : i < l.length) (hL : L.getD i false = true) : mayB (renum l[i] fun j => (onlyP l L i).2.getD j 0) (onlyP l L i).1.length = true := by
  refine renum_may' (hmay i hi) fun p hp => ?_
  have hpl := partsZ_lt (hmay i hi) p hp
  have hLp := hcl i _ hL (List.getElem?_eq_getElem hi) p hp
  rw [only_to (by omega) (by omega) hLp]
  exact only_lt (by omega) (by omega) hLp

theorem only_right (hn : l.length ≤ 65536) : (checkP (onlyP l L l.length).1).2 = 0 := by
  refine checkP_of (Nat.le_trans (onlyP_len (Nat.le_refl _)).2 hn) fun k hk => ?_
  obtain ⟨i, hi, hL, e⟩ := only_from (Nat.le_refl _) hk
  have := only_get hi (Nat.le_refl _) hi hL
  rw [← e, List.getElem?_eq_getElem hk] at this
  rw [Option.some.inj this, e]
  exact only_may hmay hcl hi hL

theorem only_vals {rc : Nat → Nat} : ∀ i, i < l.length → L.getD i false = true → (valsL (onlyP l L l.length).1 rc (onlyP l L l.length).1.length).getD (onlyP l L i).1.length 0 = (valsL l rc l.length).getD i 0 := by
  intro i
  induction i using Nat.strongRecOn with
  | ind i ih =>
    intro hi hL
    have hk := only_lt hi (Nat.le_refl _) hL
    have hg := only_get hi (Nat.le_refl _) hi hL
    rw [List.getElem?_eq_getElem hk] at hg
    have hg' := Option.some.inj hg
    rw [valsL_at hk hk, valsL_at hi hi, hg']
    obtain ⟨e1, e2⟩ := renum_op (n := l[i]) (f := fun j => (onlyP l L i).2.getD j 0)
    have key : ∀ p ∈ partsZ l[i], (valsL (onlyP l L l.length).1 rc (onlyP l L i).1.length).getD ((onlyP l L i).2.getD p.toNat 0) 0 = (valsL l rc i).getD p.toNat 0 := by
      intro p hp
      have hpl := partsZ_lt (hmay i hi) p hp
      have hLp := hcl i _ hL (List.getElem?_eq_getElem hi) p hp
      have := ih p.toNat (by omega) (by omega) hLp
      rw [only_to (by omega) (by omega) hLp]
      rw [valsL_get (l := (onlyP l L l.length).1) (m := (onlyP l L i).1.length) (only_lt (by omega) (by omega) hLp) (by omega), valsL_get (l := l) (m := i) (by omega) (by omega)] at this
      exact this
    by_cases h1 : l[i].op = 1
    · simp only [valN, e1, h1, if_true, e2]
    · by_cases h2 : l[i].op = 2
      · simp only [valN, e1, h1, h2, if_true, if_false, e2]
      · simp only [valN, e1, h1, h2, if_false]
        have ka := key _ (partsZ_a (hmay i hi) h1 h2)
        by_cases h3 : l[i].op = 384
        · have ea : (renum l[i] fun j => (onlyP l L i).2.getD j 0).a.toNat = (onlyP l L i).2.getD l[i].a.toNat 0 := by
            unfold renum; rw [if_neg (by omega), if_pos h3]; simp
          rw [ea, ka, h3]
          have e := fun b => congrArg Prod.fst (alu_neg0 (a := (valsL l rc i).getD l[i].a.toNat 0) (b := b))
          show (aluN 128 _ _).1 = (aluN 128 _ _).1
          rw [e, e ((valsL l rc i).getD l[i].b.toNat 0)]
        · have ea : (renum l[i] fun j => (onlyP l L i).2.getD j 0).a.toNat = (onlyP l L i).2.getD l[i].a.toNat 0 := by
            unfold renum; rw [if_neg (by omega), if_neg h3]; simp
          have eb : (renum l[i] fun j => (onlyP l L i).2.getD j 0).b.toNat = (onlyP l L i).2.getD l[i].b.toNat 0 := by
            unfold renum; rw [if_neg (by omega), if_neg h3]; simp
          rw [ea, eb, ka, key _ (partsZ_b (hmay i hi) h1 h2 h3)]
end
end Go.Va
end
