/- The evaluator, as one set of rules. -/
import Derived.Test.YtmmipinjkbkkmaaPmSpec
import Derived.Test.YtmmipinjkbkkmaaPmSimp
set_option linter.unusedSimpArgs false
set_option linter.unusedVariables false
set_option linter.unusedSectionVars false
set_option linter.unnecessarySimpa false
namespace Go.PM
attribute [go_sem] wpC_skip wpC_region wpC_draw wpC_seq wpC_block wpC_exit wpC_scope wpC_label wpC_ret Post.reg_at Post.draw_at Post.seq_normal
attribute [go_sem] Post.seq_exit Post.seq_ret Post.blk_exit Post.blk_normal Post.blk_ret Post.round_normal Post.round_exit Post.round_ret Post.scope_normal Post.scope_exit Post.scope_ret wpC_cond
attribute [go_sem] ops_nil ops_cons ops_guard d_move d_assign d_pick d_alloc d_box d_load d_store d_nil d_bin
attribute [go_sem] d_un d_conv d_fieldAddr d_field d_indexAddr d_extract d_build d_buildSlice d_makeSlice d_makeFunc d_slice d_builtin
attribute [go_sem] d_call ev_tmp ev_int ev_bool ev_slice ev_string ev_agg litP_mk ev_func slot_mk at_mk lookS_cons
attribute [go_sem] lookS_hit lookS_nil lookM_cons lookM_nil app_some app_none acc_mk set_mk skipped_some skipped_none live_nil live_cons
attribute [go_sem] prune_none prune_some keep_mk key_beq renOk_mk nodupB_nil nodupB_cons renI_nil renI_cons keepM_nil keepM_cons keepC_0
attribute [go_sem] keepC_succ keepE_none keepE_some keepP_nil keepP_cons keepN_nil keepN_cons nilP_some nilP_none nilN_some nilN_none ids_nil
attribute [go_sem] ids_some ids_none isNil_nil isNil_z isNil_own isNil_ro ren_undef ren_c ren_roptr ren_agg ren_tup ren_clo
attribute [go_sem] ren_own ren_bsl ren_ptr ren_eptr rnL_nil rnL_cons orU_some orU_none mren_cell mren_vec ofO_some ofO_none
attribute [go_sem] asBool_lit pick_mk get_cons elemTI_mk k_fields k_elem k_int agg_strct agg_int agg_leaf agg_slice agg_arr
attribute [go_sem] fp_ptr fp_eptr fp_roptr fa_mk part_agg part_leaf lc_ptr lc_roptr lc_eptr bc_0 bc_succ vc_mk
attribute [go_sem] asCell_mk asVec_mk kb_0 kb_succ rdC_ptr rdC_eptr rdC_roptr load_mk one_mk bin_int bin_bool bin_agg
attribute [go_sem] bin_i bin_b k_bool agg_bool ir_add ir_sub ir_mul ir_quo ir_rem ir_eql ir_neq ir_lss
attribute [go_sem] ir_leq ir_gtr ir_geq br_eql br_neq ar_eql ar_neq eqc_int eqcs_nil eqcs_cons un_not un_neg
attribute [go_sem] conv_int cells_agg cells_c cells_own cells_ptr cells_undef cells_clo boxr_mk ok_int ok_bool ok_slice ok_string
attribute [go_sem] ok_ro ok_z ok_own ok_ptr ok_clo wb_nil wb_cons store_ptr store_eptr nil_ptr nil_eptr mo_nil
attribute [go_sem] mo_cons asC_c natOf_int nato_lit len_own len_bsl len_ro len_z len_nil rows_own rows_ro rows_z
attribute [go_sem] rows_nil ap_mk ap_own ap_z ap_nil cp_mk cp_own rdL_own rdL_bsl rdL_c rdV_agg rdV_c
attribute [go_sem] rdV_own rdV_bsl vl_own vl_bsl vl_c vw_agg vw_c vw_own vw_bsl rdO_own rdO_c rdO_ptr
attribute [go_sem] rdO_bsl ix_sl ix_arr is_own is_bsl is_ro ia_ptr sl_sl sl_arr bo_none bo_some cut_own
attribute [go_sem] cut_ro cut_z cut_nil cut_arr ext_tup best_int bi_len bi_min bi_max bi_append bi_copy fb_nil
attribute [go_sem] fb_cons fe_nil fe_cons built_mk made_mk call_mk func_nil func_cons ce_mk lvF_tup lvF_agg lvF_c
attribute [go_sem] lvF_fresh lv_agg lv_c lv_own lv_bsl lv_fresh pl_lit pl_ro pl_z pl_fresh fr_fresh fr_c
attribute [go_sem] bl_bsl bl_own bl_c ol_own ol_bsl ol_c of_tup of_agg of_c of_fresh ov_agg ov_c
attribute [go_sem] ov_fresh oL_c oL_fresh fid_mk clean_mk cs_nil cs_cons cm_nil cm_cons mr_cell mr_vec mr_none
attribute [go_sem] refs_c refs_undef refs_agg refs_tup refs_clo refs_own refs_bsl refs_ptr refs_eptr refs_roptr rL_nil rL_cons
attribute [go_sem] put_mk room_mk List.cons_append List.nil_append List.append_nil List.all_nil List.all_cons List.map_cons List.map_nil List.getElem?_cons_zero List.getElem?_cons_succ List.flatMap_cons
attribute [go_sem] List.flatMap_nil List.length_cons List.length_nil List.drop_zero List.drop_succ_cons List.take_succ_cons List.take_zero List.drop_nil List.take_nil List.isEmpty_nil List.isEmpty_cons List.replicate_succ
attribute [go_sem] List.replicate_zero List.set_cons_zero List.set_cons_succ Option.map_some Option.map_none Option.getD_some Option.getD_none List.contains_nil List.contains_cons Nat.add_zero Nat.zero_add Nat.zero_le
attribute [go_sem] and_true true_and and_false false_and and_self or_false or_self false_or or_true true_or Bool.not_false Bool.not_true
attribute [go_sem] Bool.and_true Bool.true_and Bool.false_and Bool.and_false Bool.or_false Bool.false_or Bool.or_true Bool.true_or Bool.and_self bne Bool.false_eq_true Bool.true_eq_false
attribute [go_sem] eq_self beq_self_eq_true Nat.le_refl ne_eq not_false_eq_true not_true_eq_false gt_iff_lt Nat.succ_ne_self asRow_mk rc_mk fz_mk isPtr_mk
attribute [go_sem] ret_normal ret_ret resP_tmp resP_cell nt_c nt_own nt_agg pack_one pack_more Nat.lt_add_one decide_true decide_false
attribute [go_sem] decide_eq_true_eq List.length_map List.length_append bin_e bin_ro nile_mk len_e rows_e ok_e isInt_int isInt_sl apn_mk
attribute [go_sem] u8_mk k_elem_int isU8_int isU8_i64 cr_own Option.any_some Option.any_none
attribute [go_sem ↓] cnd_true cnd_false opsE_some opsG_tup opsG_tt opsG_ff opsG_tf opsG_ft onO_some onO_none
end Go.PM
