/- A walk of functions that the law reaches: what each call comes to. -/
import Derived.Test.YtldlldamnliejaaU17a
set_option linter.unusedSimpArgs false
set_option maxRecDepth 100000
namespace Go.Bw
open Go Go.Proofs
attribute [local go_sem] W_seq W_block W_skip W_exit W_ret W_cond WC_true WC_false kont_nil kont_seq kont_seq_ret kont_seq_exit kont_block kont_block_ret kont_block_exit kont_loop kont_loop_ret kont_loop_exit WG_tt WG_ff WG_tf WG_ft r_move r_assign r_pick r_extract r_makeFunc r_fieldAddr r_load r_store r_box r_alloc r_indexAddr r_binOp r_unOp r_call r_len r_max r_min r_append r_build r_buildSlice r_makeSlice e_tmp e_int e_bool e_string e_nil e_func l_pick_t l_pick_f l_pick l_field_ref l_field_fptr l_load_ref l_loadR l_loadP pack_t pack_f obAt_some l_store l_storeO l_storeR l_index_sl l_index_rsl l_indexF l_indexR l_indexO l_len_sl l_len_rsl l_len_str l_bin_i l_bin_s l_bin_b l_not l_neg l_add l_sub l_mul l_quo l_rem l_eql l_neq l_lss l_leq l_gtr l_geq l_seql l_sneq l_slss l_sleq l_sgtr l_sgeq l_beql l_bneq l_extract c_agg c_val c_sl c_rsl c_ref c_clo o_int o_string o_bool o_sl o_rsl o_ref o_fptr o_clo get_cons' get_nil hget_cons gc_nil gc_cons put_some put_none gAV_def l_max l_min fillA_nil fillA_cons fillR_some place_eq placeR_some l_build l_buildR l_buildSlice l_buildSliceR l_make l_append l_appendP l_appendS_sl l_appendS_rsl l_appendO slV_sl slV_rsl slVR_some slIds_sl slIds_rsl chunks_zero chunks_one chunks_two rep0_one rep0_two WG_undef l_load_fptr W_region_t W_region_f WO_nil WO_none WO_some KO_eq foot_t WS_nil WS_none WS_some WSG_tt WSG_ff WSG_tf WSG_ft WSG_undef KS_eq set_some set_none KD_eq q_move q_assign q_pick q_extract q_makeFunc q_fieldAddr q_load q_store q_box q_alloc q_indexAddr q_unOp q_bi_len q_bi_max q_bi_min q_bi_append q_bi_copy q_bi_clear q_bi_delete q_build q_buildSlice q_makeSlice q_index q_convert q_nilCheck q_slice q_range q_next q_entry q_field q_makeMap q_lookup q_mapUpdate q_mapEntry q_entryStore q_makeInterface q_typeAssert q_bin_t q_bin_g q_bin_f q_bin_i q_bin_s q_bin_b q_bin_p q_bin_n q_bin_ni q_bin_m q_call q_nil q_cap n_int n_str n_bool n_ref_eql n_ref_neq n_fptr_eql n_fptr_neq n_nilp_eql n_nilp_neq n_clo_eql n_clo_neq n_nilf_eql n_nilf_neq b_ref b_fptr b_clo b_nilp b_nilf e_ptr e_nilf l_indexS l_conv_i l_conv_s ok_ref ok_fptr ok_clo io_none io_some l_slice_sl l_slice_rsl l_slice_str l_sliceS l_sliceS3 l_sliceR r_index r_convert r_nilCheck r_slice allSz_eq l_buildX0 sNil_cons_eql sNil_cons_neq sNil_nil sNil_nil_neq l_buildXs c_clo2 c_fptr c_mp c_it c_ifc o_mp o_it o_ifc o_nilf o_nilp

theorem splice_all {cs new : List AV} (h : cs.length = new.length) : splice cs 0 new = new := by
  simp [splice, ← h]

theorem reverse_v (id : Nat) (es : List (List AV)) (nx : Nat) (hid : id < nx) (hk : ∀ x ∈ es, x.length = 4 ∧ x.all AV.one = true) (hn : es.length < 281474976710656) :
    CallV Try.prog (.clo (.func 23) [] []) [.rsl id 0 es.length] [(id, some (.cells false es))] nx (fun out h' _ => out = .tup [] ∧ h' = [(id, some (.cells false es.reverse))]) := by
  refine CallV.walk (fn := Try.f23) [0, 2, 3] [] (by kernel_rfl) (by kernel_rfl) (by kernel_rfl) (by kernel_rfl) (by kernel_rfl) (by simp [Try.f23]) ?_
  intro _
  simp only [body, Option.getD_some, enter, List.nil_append, List.append_nil, List.cons_append, List.zipIdx_cons, List.zipIdx_nil, List.map_cons, List.map_nil, Nat.reduceAdd, Nat.zero_add, Try.f23]
  have hw0 : IntKind.i64.wrap (es.length - 1) = es.length - 1 := wrap_id (by omega) (by omega)
  simp only [go_sem, ti3, zk3, ti4, zk4, ti5, zk5, ti9, zk9, ti22, zk22, ti23, zk23, ti25, zk25, ti32, zk32, ti33, zk33, ti35, zk35, ti37, zk37, ti39, zk39, ti40, zk40, ti44, zk44, ti50, zk50, ti58, zk58, ti60, zk60, ti61, zk61, ti68, zk68, ti74, zk74, ti75, zk75, ti76, zk76, ti78, zk78, ↓reduceIte, or_false, false_or, Nat.reduceEqDiff, Nat.reduceBNe, Nat.reduceBEq, Bool.false_eq_true, Nat.reduceAdd, Nat.zero_add, Nat.add_zero, List.contains_cons, List.contains_nil, Bool.or_false, Bool.or_true, Bool.false_or, Bool.true_or, List.getElem?_cons_zero, List.getElem?_cons_succ, List.all_cons, List.all_nil, Bool.and_true, Bool.and_self, true_and, and_true, List.cons_append, List.nil_append, obAtR_some, List.length_cons, List.length_nil, List.drop_zero, List.drop_succ_cons, List.take_succ_cons, List.take_zero, Nat.reduceLeDiff, decide_true, decide_false, Bool.not_true, Bool.not_false, gdst, List.getElem?_toArray, Option.bind_some, List.map_cons, List.map_nil, List.length_map, reduceCtorEq, Nat.reduceLT, Nat.reduceMul, Nat.zero_mul, List.append_nil, List.getD_cons_zero, List.getD_cons_succ, ne_eq, not_false_eq_true, hw0]
  refine W_loopH (fun (p : Nat × Int × List (List AV)) => [(3, avI p.2.1), (2, avI p.1)]) (fun p => [(id, some (.cells false p.2.2))]) (fun _ => nx)
    (fun k p => p.1 + p.2.1 = es.length - 1 ∧ -1 ≤ p.2.1 ∧ k = es.length - p.1 ∧ p.2.2.length = es.length ∧ (∀ x ∈ p.2.2, x.length = 4 ∧ x.all AV.one = true) ∧
      ∀ t, t < es.length → p.2.2[t]? = if t < p.1 ∨ p.2.1 < t then es[es.length - 1 - t]? else es[t]?)
    es.length (0, es.length - 1, es) ⟨by simp, by dsimp only; omega, by simp, rfl, hk, fun t ht => by dsimp only; rw [if_neg (by omega)]⟩ (by simp [OnT, gc, get, hget, inDom, avI, avS, avB, slI, slS]) (by simp [OnT, gc, get, hget, inDom, avI, avS, avB, slI, slS]) (Nat.le_refl _) ?_
  rintro k ⟨i, j, es'⟩ ⟨hij, hj, hkk, hl, hk', hes⟩
  dsimp only at hij hj hkk hl hk' hes
  simp only [go_sem, ti3, zk3, ti4, zk4, ti5, zk5, ti9, zk9, ti22, zk22, ti23, zk23, ti25, zk25, ti32, zk32, ti33, zk33, ti35, zk35, ti37, zk37, ti39, zk39, ti40, zk40, ti44, zk44, ti50, zk50, ti58, zk58, ti60, zk60, ti61, zk61, ti68, zk68, ti74, zk74, ti75, zk75, ti76, zk76, ti78, zk78, ↓reduceIte, or_false, false_or, Nat.reduceEqDiff, Nat.reduceBNe, Nat.reduceBEq, Bool.false_eq_true, Nat.reduceAdd, Nat.zero_add, Nat.add_zero, List.contains_cons, List.contains_nil, Bool.or_false, Bool.or_true, Bool.false_or, Bool.true_or, List.getElem?_cons_zero, List.getElem?_cons_succ, List.all_cons, List.all_nil, Bool.and_true, Bool.and_self, true_and, and_true, List.cons_append, List.nil_append, obAtR_some, List.length_cons, List.length_nil, List.drop_zero, List.drop_succ_cons, List.take_succ_cons, List.take_zero, Nat.reduceLeDiff, decide_true, decide_false, Bool.not_true, Bool.not_false, gdst, List.getElem?_toArray, Option.bind_some, List.map_cons, List.map_nil, List.length_map, reduceCtorEq, Nat.reduceLT, Nat.reduceMul, Nat.zero_mul, List.append_nil, List.getD_cons_zero, List.getD_cons_succ, ne_eq, not_false_eq_true, avI]
  by_cases h : (i : Int) < j
  · obtain ⟨j, rfl⟩ : ∃ j' : Nat, j = j' := ⟨j.toNat, by omega⟩
    obtain ⟨x, hx⟩ : ∃ x, es'[i]? = some x := ⟨es'[i]'(by omega), List.getElem?_eq_getElem (by omega)⟩
    obtain ⟨y, hy⟩ : ∃ y, es'[j]? = some y := ⟨es'[j]'(by omega), List.getElem?_eq_getElem (by omega)⟩
    have hxm := List.mem_of_getElem? hx
    have hym := List.mem_of_getElem? hy
    have hwi : IntKind.i64.wrap ((i : Int) + 1) = i + 1 := wrap_id (by omega) (by omega)
    have hwj : IntKind.i64.wrap ((j : Int) - 1) = j - 1 := wrap_id (by omega) (by omega)
    have h1 : (j : Int) < es.length := by omega
    have h2 : (i : Int) < es.length := by omega
    have tx : x.take 4 = x := List.take_of_length_le (by rw [(hk' x hxm).1]; omega)
    have ty : y.take 4 = y := List.take_of_length_le (by rw [(hk' y hym).1]; omega)
    have hij' : i ≠ j := by omega
    have h0 : (0 : Int) ≤ i := by omega
    have h0' : (0 : Int) ≤ j := by omega
    have sx : splice x 0 y = y := splice_all (by rw [(hk' x hxm).1, (hk' y hym).1])
    have sy : splice y 0 x = x := splice_all (by rw [(hk' x hxm).1, (hk' y hym).1])
    have hset : (es'.set i y)[j]? = some y := by rw [List.getElem?_set_ne hij']; exact hy
    simp only [go_sem, ti3, zk3, ti4, zk4, ti5, zk5, ti9, zk9, ti22, zk22, ti23, zk23, ti25, zk25, ti32, zk32, ti33, zk33, ti35, zk35, ti37, zk37, ti39, zk39, ti40, zk40, ti44, zk44, ti50, zk50, ti58, zk58, ti60, zk60, ti61, zk61, ti68, zk68, ti74, zk74, ti75, zk75, ti76, zk76, ti78, zk78, ↓reduceIte, or_false, false_or, Nat.reduceEqDiff, Nat.reduceBNe, Nat.reduceBEq, Bool.false_eq_true, Nat.reduceAdd, Nat.zero_add, Nat.add_zero, List.contains_cons, List.contains_nil, Bool.or_false, Bool.or_true, Bool.false_or, Bool.true_or, List.getElem?_cons_zero, List.getElem?_cons_succ, List.all_cons, List.all_nil, Bool.and_true, Bool.and_self, true_and, and_true, List.cons_append, List.nil_append, obAtR_some, List.length_cons, List.length_nil, List.drop_zero, List.drop_succ_cons, List.take_succ_cons, List.take_zero, Nat.reduceLeDiff, decide_true, decide_false, Bool.not_true, Bool.not_false, gdst, List.getElem?_toArray, Option.bind_some, List.map_cons, List.map_nil, List.length_map, reduceCtorEq, Nat.reduceLT, Nat.reduceMul, Nat.zero_mul, List.append_nil, List.getD_cons_zero, List.getD_cons_succ, ne_eq, not_false_eq_true, h, h1, h2, Int.toNat_natCast, hx, hy, (hk' x hxm).1, (hk' y hym).1, (hk' x hxm).2, (hk' y hym).2, tx, ty, h0, h0', hwi, hwj, Nat.lt_irrefl, Nat.le_refl, sx, sy, hset]
    refine ⟨⟨rfl, by kernel_rfl⟩, nxtH (es.length - (i + 1)) (i + 1, (j : Int) - 1, (es'.set i y).set j x) (by omega) ⟨by dsimp only; omega, by dsimp only; omega, rfl, by simpa using hl, fun z hz => ?_, fun t ht => ?_⟩ (by simp [OnT, gc, get, hget, inDom, avI, avS, avB, slI, slS]) (by simp [OnT, gc, get, hget, inDom, avI, avS, avB, slI, slS]) (Nat.le_refl _)⟩
    · rcases List.mem_or_eq_of_mem_set hz with h | rfl
      · rcases List.mem_or_eq_of_mem_set h with h | rfl
        · exact hk' z h
        · exact hk' _ hym
      · exact hk' _ hxm
    · have e1 := hes t ht
      have e2 := hes i (by omega)
      have e3 := hes j (by omega)
      rw [if_neg (by omega)] at e2 e3
      dsimp only
      by_cases htj : t = j
      · subst htj
        rw [List.getElem?_set_self (by simp; omega), if_pos (by omega), show es.length - 1 - t = i by omega, ← e2, hx]
      · rw [List.getElem?_set_ne (by omega)]
        by_cases hti : t = i
        · subst hti
          rw [List.getElem?_set_self (by omega), if_pos (by omega), show es.length - 1 - t = j by omega, ← e3, hy]
        · rw [List.getElem?_set_ne (by omega), e1]
          by_cases h3 : t < i ∨ (j : Int) < t
          · rw [if_pos h3, if_pos (by omega)]
          · rw [if_neg h3, if_neg (by omega)]
  · simp only [go_sem, ti3, zk3, ti4, zk4, ti5, zk5, ti9, zk9, ti22, zk22, ti23, zk23, ti25, zk25, ti32, zk32, ti33, zk33, ti35, zk35, ti37, zk37, ti39, zk39, ti40, zk40, ti44, zk44, ti50, zk50, ti58, zk58, ti60, zk60, ti61, zk61, ti68, zk68, ti74, zk74, ti75, zk75, ti76, zk76, ti78, zk78, ↓reduceIte, or_false, false_or, Nat.reduceEqDiff, Nat.reduceBNe, Nat.reduceBEq, Bool.false_eq_true, Nat.reduceAdd, Nat.zero_add, Nat.add_zero, List.contains_cons, List.contains_nil, Bool.or_false, Bool.or_true, Bool.false_or, Bool.true_or, List.getElem?_cons_zero, List.getElem?_cons_succ, List.all_cons, List.all_nil, Bool.and_true, Bool.and_self, true_and, and_true, List.cons_append, List.nil_append, obAtR_some, List.length_cons, List.length_nil, List.drop_zero, List.drop_succ_cons, List.take_succ_cons, List.take_zero, Nat.reduceLeDiff, decide_true, decide_false, Bool.not_true, Bool.not_false, gdst, List.getElem?_toArray, Option.bind_some, List.map_cons, List.map_nil, List.length_map, reduceCtorEq, Nat.reduceLT, Nat.reduceMul, Nat.zero_mul, List.append_nil, List.getD_cons_zero, List.getD_cons_succ, ne_eq, not_false_eq_true, h]
    refine retW_same (.inr rfl) (out := .tup []) (by simp [retAV]) ⟨rfl, ?_⟩
    have hrev : es' = es.reverse := List.ext_getElem? fun t => by
      by_cases ht : t < es.length
      · rw [hes t ht, List.getElem?_reverse ht]
        split
        · rfl
        · congr 1; omega
      · rw [List.getElem?_eq_none (by omega), List.getElem?_eq_none (by simp; omega)]
    rw [hrev]
end Go.Bw
