/- A walk of functions that the law reaches: what each call comes to. -/
import Derived.Test.YtldlldamnliejaaU17f
set_option linter.unusedSimpArgs false
set_option maxRecDepth 100000
namespace Go.Bw
open Go Go.Proofs
attribute [local go_sem] W_seq W_block W_skip W_exit W_ret W_cond WC_true WC_false kont_nil kont_seq kont_seq_ret kont_seq_exit kont_block kont_block_ret kont_block_exit kont_loop kont_loop_ret kont_loop_exit WG_tt WG_ff WG_tf WG_ft r_move r_assign r_pick r_extract r_makeFunc r_fieldAddr r_load r_store r_box r_alloc r_indexAddr r_binOp r_unOp r_call r_len r_max r_min r_append r_build r_buildSlice r_makeSlice e_tmp e_int e_bool e_string e_nil e_func l_pick_t l_pick_f l_pick l_field_ref l_field_fptr l_load_ref l_loadR l_loadP pack_t pack_f obAt_some l_store l_storeO l_storeR l_index_sl l_index_rsl l_indexF l_indexR l_indexO l_len_sl l_len_rsl l_len_str l_bin_i l_bin_s l_bin_b l_not l_neg l_add l_sub l_mul l_quo l_rem l_eql l_neq l_lss l_leq l_gtr l_geq l_seql l_sneq l_slss l_sleq l_sgtr l_sgeq l_beql l_bneq l_extract c_agg c_val c_sl c_rsl c_ref c_clo o_int o_string o_bool o_sl o_rsl o_ref o_fptr o_clo get_cons' get_nil hget_cons gc_nil gc_cons put_some put_none gAV_def l_max l_min fillA_nil fillA_cons fillR_some place_eq placeR_some l_build l_buildR l_buildSlice l_buildSliceR l_make l_append l_appendP l_appendS_sl l_appendS_rsl l_appendO slV_sl slV_rsl slVR_some slIds_sl slIds_rsl chunks_zero chunks_one chunks_two rep0_one rep0_two WG_undef l_load_fptr W_region_t W_region_f WO_nil WO_none WO_some KO_eq foot_t WS_nil WS_none WS_some WSG_tt WSG_ff WSG_tf WSG_ft WSG_undef KS_eq set_some set_none KD_eq q_move q_assign q_pick q_extract q_makeFunc q_fieldAddr q_load q_store q_box q_alloc q_indexAddr q_unOp q_bi_len q_bi_max q_bi_min q_bi_append q_bi_copy q_bi_clear q_bi_delete q_build q_buildSlice q_makeSlice q_index q_convert q_nilCheck q_slice q_range q_next q_entry q_field q_makeMap q_lookup q_mapUpdate q_mapEntry q_entryStore q_makeInterface q_typeAssert q_bin_t q_bin_g q_bin_f q_bin_i q_bin_s q_bin_b q_bin_p q_bin_n q_bin_ni q_bin_m q_call q_nil q_cap n_int n_str n_bool n_ref_eql n_ref_neq n_fptr_eql n_fptr_neq n_nilp_eql n_nilp_neq n_clo_eql n_clo_neq n_nilf_eql n_nilf_neq b_ref b_fptr b_clo b_nilp b_nilf e_ptr e_nilf l_indexS l_conv_i l_conv_s ok_ref ok_fptr ok_clo io_none io_some l_slice_sl l_slice_rsl l_slice_str l_sliceS l_sliceS3 l_sliceR r_index r_convert r_nilCheck r_slice allSz_eq l_buildX0 sNil_cons_eql sNil_cons_neq sNil_nil sNil_nil_neq l_buildXs c_clo2 c_fptr c_mp c_it c_ifc o_mp o_it o_ifc o_nilf o_nilp

theorem encB_encP (l : List (ByteArray × Int)) : l.map encB = (l.map fun p => (p.1, Term.mk ⟨#[]⟩ p.2 [])).map encP := by
  rw [List.map_map]; rfl
theorem cmpT_leaf (u : Int) : cmpT (.mk ⟨#[]⟩ u []) (.mk ⟨#[]⟩ u []) = 0 := by simp [cmpT, cmpTs]
theorem sameB_leaf (l : List (ByteArray × Int)) : sameB (l.map fun p => (p.1, Term.mk ⟨#[]⟩ p.2 [])) (l.map fun p => (p.1, Term.mk ⟨#[]⟩ p.2 [])) = true := by
  induction l with
  | nil => rfl
  | cons p l ih => simp [sameB, cmpT_leaf, ih]

/-- What a way is: the binds, and whether there is one. -/
theorem wayOut_eq (us : List Int) (vs : List ByteArray) (k : Int) : ∃ (f : Bool) (l : List (ByteArray × Int)) (b : Bool), wayOut us vs k = .tup [.sl f (l.map encB) [], .val (.bool b)] ∧ l.length ≤ vs.length := by
  unfold wayOut
  split
  · exact ⟨true, [], false, rfl, by simp⟩
  · exact ⟨false, _, true, rfl, by have := wayA_len us vs vs.length k []; simpa using this⟩

theorem same_leaf (f g : Bool) (l : List (ByteArray × Int)) (hl : l.length ≤ 281474976710656) : Fn Try.prog 11 [.sl f (l.map encB) [], .sl g (l.map encB) []] (.val (.bool true)) := by
  have hs : ∀ p ∈ l.map (fun p => (p.1, Term.mk ⟨#[]⟩ p.2 [])), p.2.size < 281474976710656 := by
    intro p hp
    obtain ⟨q, _, rfl⟩ := List.mem_map.1 hp
    simp [Term.size, sizes]
  have := same07_fn (l.map fun p => (p.1, Term.mk ⟨#[]⟩ p.2 [])) (l.map fun p => (p.1, Term.mk ⟨#[]⟩ p.2 [])) (by simpa using hl) hs hs f g
  rw [sameB_leaf, ← encB_encP] at this
  exact this

theorem nat2 : ((2 : Nat) : Int) = 2 := (rfl)
theorem head_way : wayOut [1, 5] [⟨#[88]⟩, ⟨#[89]⟩] 5 = .tup [.sl false [encB (⟨#[88]⟩, 1), encB (⟨#[89]⟩, 5)] [], .val (.bool true)] := by
  rfl
theorem head_many : manyP 2 2 1 100 = 9 := by decide

theorem head_fn : Fn Try.prog 8 [] (.val (.bool true)) := by
  refine Fn.walk (fn := Try.f8) [0, 1, 2] [.tmp 0] (by kernel_rfl) (by kernel_rfl) (by kernel_rfl) (by kernel_rfl) (by kernel_rfl) (by simp [Try.f8]) (by simp) ?_
  simp only [body, Option.getD_some, enter, List.nil_append, List.append_nil, List.cons_append, List.zipIdx_cons, List.zipIdx_nil, List.map_cons, List.map_nil, Nat.reduceAdd, Nat.zero_add, Try.f8]
  simp only [go_sem, ti3, zk3, ti4, zk4, ti5, zk5, ti9, zk9, ti22, zk22, ti23, zk23, ti25, zk25, ti32, zk32, ti33, zk33, ti35, zk35, ti37, zk37, ti39, zk39, ti40, zk40, ti44, zk44, ti50, zk50, ti58, zk58, ti60, zk60, ti61, zk61, ti68, zk68, ti74, zk74, ti75, zk75, ti76, zk76, ti78, zk78, ↓reduceIte, or_false, false_or, Nat.reduceEqDiff, Nat.reduceBNe, Nat.reduceBEq, Bool.false_eq_true, Nat.reduceAdd, Nat.zero_add, Nat.add_zero, List.contains_cons, List.contains_nil, Bool.or_false, Bool.or_true, Bool.false_or, Bool.true_or, List.getElem?_cons_zero, List.getElem?_cons_succ, List.all_cons, List.all_nil, Bool.and_true, Bool.and_self, true_and, and_true, List.cons_append, List.nil_append, obAtR_some, List.length_cons, List.length_nil, List.drop_zero, List.drop_succ_cons, List.take_succ_cons, List.take_zero, Nat.reduceLeDiff, decide_true, decide_false, Bool.not_true, Bool.not_false, gdst, List.getElem?_toArray, Option.bind_some, List.map_cons, List.map_nil, List.length_map, reduceCtorEq, Nat.reduceLT, Nat.reduceMul, Nat.zero_mul, List.append_nil, List.getD_cons_zero, List.getD_cons_succ, ne_eq, not_false_eq_true, splice]
  refine sCall_gf [0, 1] [slI [1, 5], slS [⟨#[88]⟩, ⟨#[89]⟩], avI 5] (by rfl) (way_fn [1, 5] [⟨#[88]⟩, ⟨#[89]⟩] 5 (by simp) (by simp) (by omega)) ?_
  rw [head_way]
  simp only [encB, avI, avS, hz]
  simp only [go_sem, ti3, zk3, ti4, zk4, ti5, zk5, ti9, zk9, ti22, zk22, ti23, zk23, ti25, zk25, ti32, zk32, ti33, zk33, ti35, zk35, ti37, zk37, ti39, zk39, ti40, zk40, ti44, zk44, ti50, zk50, ti58, zk58, ti60, zk60, ti61, zk61, ti68, zk68, ti74, zk74, ti75, zk75, ti76, zk76, ti78, zk78, ↓reduceIte, or_false, false_or, Nat.reduceEqDiff, Nat.reduceBNe, Nat.reduceBEq, Bool.false_eq_true, Nat.reduceAdd, Nat.zero_add, Nat.add_zero, List.contains_cons, List.contains_nil, Bool.or_false, Bool.or_true, Bool.false_or, Bool.true_or, List.getElem?_cons_zero, List.getElem?_cons_succ, List.all_cons, List.all_nil, Bool.and_true, Bool.and_self, true_and, and_true, List.cons_append, List.nil_append, obAtR_some, List.length_cons, List.length_nil, List.drop_zero, List.drop_succ_cons, List.take_succ_cons, List.take_zero, Nat.reduceLeDiff, decide_true, decide_false, Bool.not_true, Bool.not_false, gdst, List.getElem?_toArray, Option.bind_some, List.map_cons, List.map_nil, List.length_map, reduceCtorEq, Nat.reduceLT, Nat.reduceMul, Nat.zero_mul, List.append_nil, List.getD_cons_zero, List.getD_cons_succ, ne_eq, not_false_eq_true, keys, nat2, splice, Int.reduceLE, Int.reduceToNat]
  refine sCall_b [slI [1, 5], slS [⟨#[88]⟩, ⟨#[89]⟩], avI 100] (by rfl) (many_fn [1, 5] [⟨#[88]⟩, ⟨#[89]⟩] 100 (by simp) (by simp) (by omega)) (flat_val _) ?_
  have : manyP [(1 : Int), 5].length [(⟨#[88]⟩ : ByteArray), ⟨#[89]⟩].length 1 100 = 9 := head_many
  rw [this]
  simp only [avI]
  simp only [go_sem, ti3, zk3, ti4, zk4, ti5, zk5, ti9, zk9, ti22, zk22, ti23, zk23, ti25, zk25, ti32, zk32, ti33, zk33, ti35, zk35, ti37, zk37, ti39, zk39, ti40, zk40, ti44, zk44, ti50, zk50, ti58, zk58, ti60, zk60, ti61, zk61, ti68, zk68, ti74, zk74, ti75, zk75, ti76, zk76, ti78, zk78, ↓reduceIte, or_false, false_or, Nat.reduceEqDiff, Nat.reduceBNe, Nat.reduceBEq, Bool.false_eq_true, Nat.reduceAdd, Nat.zero_add, Nat.add_zero, List.contains_cons, List.contains_nil, Bool.or_false, Bool.or_true, Bool.false_or, Bool.true_or, List.getElem?_cons_zero, List.getElem?_cons_succ, List.all_cons, List.all_nil, Bool.and_true, Bool.and_self, true_and, and_true, List.cons_append, List.nil_append, obAtR_some, List.length_cons, List.length_nil, List.drop_zero, List.drop_succ_cons, List.take_succ_cons, List.take_zero, Nat.reduceLeDiff, decide_true, decide_false, Bool.not_true, Bool.not_false, gdst, List.getElem?_toArray, Option.bind_some, List.map_cons, List.map_nil, List.length_map, reduceCtorEq, Nat.reduceLT, Nat.reduceMul, Nat.zero_mul, List.append_nil, List.getD_cons_zero, List.getD_cons_succ, ne_eq, not_false_eq_true, nat2]
  exact ret_same (.inl rfl) (by simp [retAV, resAV, get]) (free_val _)
end Go.Bw
