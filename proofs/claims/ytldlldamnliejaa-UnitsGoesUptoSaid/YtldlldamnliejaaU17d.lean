/- A walk of functions that the law reaches: what each call comes to. -/
import Derived.Test.YtldlldamnliejaaU17c
set_option linter.unusedSimpArgs false
set_option maxRecDepth 100000
namespace Go.Bw
open Go Go.Proofs
attribute [local go_sem] W_seq W_block W_skip W_exit W_ret W_cond WC_true WC_false kont_nil kont_seq kont_seq_ret kont_seq_exit kont_block kont_block_ret kont_block_exit kont_loop kont_loop_ret kont_loop_exit WG_tt WG_ff WG_tf WG_ft r_move r_assign r_pick r_extract r_makeFunc r_fieldAddr r_load r_store r_box r_alloc r_indexAddr r_binOp r_unOp r_call r_len r_max r_min r_append r_build r_buildSlice r_makeSlice e_tmp e_int e_bool e_string e_nil e_func l_pick_t l_pick_f l_pick l_field_ref l_field_fptr l_load_ref l_loadR l_loadP pack_t pack_f obAt_some l_store l_storeO l_storeR l_index_sl l_index_rsl l_indexF l_indexR l_indexO l_len_sl l_len_rsl l_len_str l_bin_i l_bin_s l_bin_b l_not l_neg l_add l_sub l_mul l_quo l_rem l_eql l_neq l_lss l_leq l_gtr l_geq l_seql l_sneq l_slss l_sleq l_sgtr l_sgeq l_beql l_bneq l_extract c_agg c_val c_sl c_rsl c_ref c_clo o_int o_string o_bool o_sl o_rsl o_ref o_fptr o_clo get_cons' get_nil hget_cons gc_nil gc_cons put_some put_none gAV_def l_max l_min fillA_nil fillA_cons fillR_some place_eq placeR_some l_build l_buildR l_buildSlice l_buildSliceR l_make l_append l_appendP l_appendS_sl l_appendS_rsl l_appendO slV_sl slV_rsl slVR_some slIds_sl slIds_rsl chunks_zero chunks_one chunks_two rep0_one rep0_two WG_undef l_load_fptr W_region_t W_region_f WO_nil WO_none WO_some KO_eq foot_t WS_nil WS_none WS_some WSG_tt WSG_ff WSG_tf WSG_ft WSG_undef KS_eq set_some set_none KD_eq q_move q_assign q_pick q_extract q_makeFunc q_fieldAddr q_load q_store q_box q_alloc q_indexAddr q_unOp q_bi_len q_bi_max q_bi_min q_bi_append q_bi_copy q_bi_clear q_bi_delete q_build q_buildSlice q_makeSlice q_index q_convert q_nilCheck q_slice q_range q_next q_entry q_field q_makeMap q_lookup q_mapUpdate q_mapEntry q_entryStore q_makeInterface q_typeAssert q_bin_t q_bin_g q_bin_f q_bin_i q_bin_s q_bin_b q_bin_p q_bin_n q_bin_ni q_bin_m q_call q_nil q_cap n_int n_str n_bool n_ref_eql n_ref_neq n_fptr_eql n_fptr_neq n_nilp_eql n_nilp_neq n_clo_eql n_clo_neq n_nilf_eql n_nilf_neq b_ref b_fptr b_clo b_nilp b_nilf e_ptr e_nilf l_indexS l_conv_i l_conv_s ok_ref ok_fptr ok_clo io_none io_some l_slice_sl l_slice_rsl l_slice_str l_sliceS l_sliceS3 l_sliceR r_index r_convert r_nilCheck r_slice allSz_eq l_buildX0 sNil_cons_eql sNil_cons_neq sNil_nil sNil_nil_neq l_buildXs c_clo2 c_fptr c_mp c_it c_ifc o_mp o_it o_ifc o_nilf o_nilp

theorem manyP_zero (n : Nat) : ∀ (c : Nat) (acc most : Int), 0 ≤ acc → most < 1 → manyP n c acc most = max most 0 := by
  intro c
  cases c with
  | zero => intro acc most h1 h2; rw [manyP]; omega
  | succ c => intro acc most h1 h2; rw [manyP, if_pos (.inl h2)]

theorem manyR_fn (us : List Int) (vs : List ByteArray) (most : Int) (hu : us.length ≤ 1048576) (hv : vs.length ≤ 1048576) (hm : -9223372036854775808 ≤ most ∧ most ≤ 9223372036854775807) :
    Fn Try.prog 13 [slI us, slS vs, avI most] (avI (manyP us.length vs.length 1 most)) := by
  refine Fn.walk (fn := Try.f13) [0, 1, 2, 6, 7, 8] [.tmp 6] (by kernel_rfl) (by kernel_rfl) (by kernel_rfl) (by kernel_rfl) (by kernel_rfl) (by simp [Try.f13]) (by simp [free_slI, free_slS, free_avI]) ?_
  simp only [body, Option.getD_some, enter, List.nil_append, List.append_nil, List.cons_append, List.zipIdx_cons, List.zipIdx_nil, List.map_cons, List.map_nil, Nat.reduceAdd, Nat.zero_add, Try.f13, slI, slS, avI]
  by_cases hm0 : most < 0
  · rw [manyP_zero _ _ _ _ (by omega) (by omega)]
    simp only [go_sem, ti3, zk3, ti4, zk4, ti5, zk5, ti9, zk9, ti22, zk22, ti23, zk23, ti25, zk25, ti32, zk32, ti33, zk33, ti35, zk35, ti37, zk37, ti39, zk39, ti40, zk40, ti44, zk44, ti50, zk50, ti58, zk58, ti60, zk60, ti61, zk61, ti68, zk68, ti74, zk74, ti75, zk75, ti76, zk76, ti78, zk78, ↓reduceIte, or_false, false_or, Nat.reduceEqDiff, Nat.reduceBNe, Nat.reduceBEq, Bool.false_eq_true, Nat.reduceAdd, Nat.zero_add, Nat.add_zero, List.contains_cons, List.contains_nil, Bool.or_false, Bool.or_true, Bool.false_or, Bool.true_or, List.getElem?_cons_zero, List.getElem?_cons_succ, List.all_cons, List.all_nil, Bool.and_true, Bool.and_self, true_and, and_true, List.cons_append, List.nil_append, obAtR_some, List.length_cons, List.length_nil, List.drop_zero, List.drop_succ_cons, List.take_succ_cons, List.take_zero, Nat.reduceLeDiff, decide_true, decide_false, Bool.not_true, Bool.not_false, gdst, List.getElem?_toArray, Option.bind_some, List.map_cons, List.map_nil, List.length_map, reduceCtorEq, Nat.reduceLT, Nat.reduceMul, Nat.zero_mul, List.append_nil, List.getD_cons_zero, List.getD_cons_succ, ne_eq, not_false_eq_true, hm0]
    refine ret_same (.inl rfl) ?_ (free_val _)
    simp only [retAV, resAV, get, ↓reduceIte]
    congr 3; omega
  simp only [go_sem, ti3, zk3, ti4, zk4, ti5, zk5, ti9, zk9, ti22, zk22, ti23, zk23, ti25, zk25, ti32, zk32, ti33, zk33, ti35, zk35, ti37, zk37, ti39, zk39, ti40, zk40, ti44, zk44, ti50, zk50, ti58, zk58, ti60, zk60, ti61, zk61, ti68, zk68, ti74, zk74, ti75, zk75, ti76, zk76, ti78, zk78, ↓reduceIte, or_false, false_or, Nat.reduceEqDiff, Nat.reduceBNe, Nat.reduceBEq, Bool.false_eq_true, Nat.reduceAdd, Nat.zero_add, Nat.add_zero, List.contains_cons, List.contains_nil, Bool.or_false, Bool.or_true, Bool.false_or, Bool.true_or, List.getElem?_cons_zero, List.getElem?_cons_succ, List.all_cons, List.all_nil, Bool.and_true, Bool.and_self, true_and, and_true, List.cons_append, List.nil_append, obAtR_some, List.length_cons, List.length_nil, List.drop_zero, List.drop_succ_cons, List.take_succ_cons, List.take_zero, Nat.reduceLeDiff, decide_true, decide_false, Bool.not_true, Bool.not_false, gdst, List.getElem?_toArray, Option.bind_some, List.map_cons, List.map_nil, List.length_map, reduceCtorEq, Nat.reduceLT, Nat.reduceMul, Nat.zero_mul, List.append_nil, List.getD_cons_zero, List.getD_cons_succ, ne_eq, not_false_eq_true, hm0]
  refine W_loop (fun k S => ∃ i acc : Int, S = ⟨[(8, avI i), (7, avI acc), (2, avI most), (1, slS vs), (0, slI us)], [], 0⟩ ∧
      0 ≤ i ∧ i + k = vs.length ∧ 0 ≤ acc ∧ acc ≤ 9223372036854775807 ∧ manyP us.length k acc most = manyP us.length vs.length 1 most)
    vs.length _ (Le.tmps _ 0 (Nat.le_refl _) (by simp [get, slI, slS, avI, avS])) ⟨0, 1, rfl, by omega, by omega, by omega, by omega, rfl⟩ ?_
  rintro k S ⟨i, acc, rfl, h0, hk, ha0, ha1, hmany⟩
  have hw : IntKind.i64.wrap (us.length + 1) = us.length + 1 := wrap_id (by omega) (by omega)
  have hne : ¬ (us.length : Int) + 1 = 0 := by omega
  simp only [slI, slS, avI]
  simp only [go_sem, ti3, zk3, ti4, zk4, ti5, zk5, ti9, zk9, ti22, zk22, ti23, zk23, ti25, zk25, ti32, zk32, ti33, zk33, ti35, zk35, ti37, zk37, ti39, zk39, ti40, zk40, ti44, zk44, ti50, zk50, ti58, zk58, ti60, zk60, ti61, zk61, ti68, zk68, ti74, zk74, ti75, zk75, ti76, zk76, ti78, zk78, ↓reduceIte, or_false, false_or, Nat.reduceEqDiff, Nat.reduceBNe, Nat.reduceBEq, Bool.false_eq_true, Nat.reduceAdd, Nat.zero_add, Nat.add_zero, List.contains_cons, List.contains_nil, Bool.or_false, Bool.or_true, Bool.false_or, Bool.true_or, List.getElem?_cons_zero, List.getElem?_cons_succ, List.all_cons, List.all_nil, Bool.and_true, Bool.and_self, true_and, and_true, List.cons_append, List.nil_append, obAtR_some, List.length_cons, List.length_nil, List.drop_zero, List.drop_succ_cons, List.take_succ_cons, List.take_zero, Nat.reduceLeDiff, decide_true, decide_false, Bool.not_true, Bool.not_false, gdst, List.getElem?_toArray, Option.bind_some, List.map_cons, List.map_nil, List.length_map, reduceCtorEq, Nat.reduceLT, Nat.reduceMul, Nat.zero_mul, List.append_nil, List.getD_cons_zero, List.getD_cons_succ, ne_eq, not_false_eq_true]
  by_cases hik : i < vs.length
  · obtain ⟨k, rfl⟩ : ∃ k', k = k' + 1 := ⟨k - 1, by omega⟩
    have hwi : IntKind.i64.wrap (i + 1) = i + 1 := wrap_id (by omega) (by omega)
    by_cases hu0 : 0 < us.length
    · have hu0' : (us.length : Int) > 0 := by omega
      have hb := tdiv_bd (a := most) (b := us.length + 1) (by omega) (by omega)
      have hwq : IntKind.i64.wrap (most.tdiv (us.length + 1)) = most.tdiv (us.length + 1) := wrap_id (by omega) (by omega)
      by_cases hlt : most.tdiv (us.length + 1) < acc
      · rw [manyP, if_pos (.inr ⟨hu0, hlt⟩)] at hmany
        have hlt' : acc > most.tdiv (us.length + 1) := hlt
        simp only [go_sem, ti3, zk3, ti4, zk4, ti5, zk5, ti9, zk9, ti22, zk22, ti23, zk23, ti25, zk25, ti32, zk32, ti33, zk33, ti35, zk35, ti37, zk37, ti39, zk39, ti40, zk40, ti44, zk44, ti50, zk50, ti58, zk58, ti60, zk60, ti61, zk61, ti68, zk68, ti74, zk74, ti75, zk75, ti76, zk76, ti78, zk78, ↓reduceIte, or_false, false_or, Nat.reduceEqDiff, Nat.reduceBNe, Nat.reduceBEq, Bool.false_eq_true, Nat.reduceAdd, Nat.zero_add, Nat.add_zero, List.contains_cons, List.contains_nil, Bool.or_false, Bool.or_true, Bool.false_or, Bool.true_or, List.getElem?_cons_zero, List.getElem?_cons_succ, List.all_cons, List.all_nil, Bool.and_true, Bool.and_self, true_and, and_true, List.cons_append, List.nil_append, obAtR_some, List.length_cons, List.length_nil, List.drop_zero, List.drop_succ_cons, List.take_succ_cons, List.take_zero, Nat.reduceLeDiff, decide_true, decide_false, Bool.not_true, Bool.not_false, gdst, List.getElem?_toArray, Option.bind_some, List.map_cons, List.map_nil, List.length_map, reduceCtorEq, Nat.reduceLT, Nat.reduceMul, Nat.zero_mul, List.append_nil, List.getD_cons_zero, List.getD_cons_succ, ne_eq, not_false_eq_true, hik, hu0', hw, hne, hwq, hlt']
        refine ret_same (.inl rfl) ?_ (free_val _)
        simp only [← hmany, retAV, resAV, get, ↓reduceIte]
        congr 3; omega
      · have hlt' : ¬ acc > most.tdiv (us.length + 1) := by omega
        have hmul := mul_of_le_tdiv (m := most) (n := us.length + 1) (by omega) (by omega) hlt
        have h0' : 0 ≤ acc * (us.length + 1) := Int.mul_nonneg ha0 (by omega)
        have hwm : IntKind.i64.wrap (acc * (us.length + 1)) = acc * (us.length + 1) := wrap_id (by omega) (by omega)
        have hnext : manyP us.length k (acc * (us.length + 1)) most = manyP us.length vs.length 1 most := by
          by_cases h1 : most < 1
          · rw [manyP_zero _ _ _ _ (by omega) h1] at hmany ⊢; exact hmany
          · rw [manyP, if_neg (by omega)] at hmany; exact hmany
        simp only [go_sem, ti3, zk3, ti4, zk4, ti5, zk5, ti9, zk9, ti22, zk22, ti23, zk23, ti25, zk25, ti32, zk32, ti33, zk33, ti35, zk35, ti37, zk37, ti39, zk39, ti40, zk40, ti44, zk44, ti50, zk50, ti58, zk58, ti60, zk60, ti61, zk61, ti68, zk68, ti74, zk74, ti75, zk75, ti76, zk76, ti78, zk78, ↓reduceIte, or_false, false_or, Nat.reduceEqDiff, Nat.reduceBNe, Nat.reduceBEq, Bool.false_eq_true, Nat.reduceAdd, Nat.zero_add, Nat.add_zero, List.contains_cons, List.contains_nil, Bool.or_false, Bool.or_true, Bool.false_or, Bool.true_or, List.getElem?_cons_zero, List.getElem?_cons_succ, List.all_cons, List.all_nil, Bool.and_true, Bool.and_self, true_and, and_true, List.cons_append, List.nil_append, obAtR_some, List.length_cons, List.length_nil, List.drop_zero, List.drop_succ_cons, List.take_succ_cons, List.take_zero, Nat.reduceLeDiff, decide_true, decide_false, Bool.not_true, Bool.not_false, gdst, List.getElem?_toArray, Option.bind_some, List.map_cons, List.map_nil, List.length_map, reduceCtorEq, Nat.reduceLT, Nat.reduceMul, Nat.zero_mul, List.append_nil, List.getD_cons_zero, List.getD_cons_succ, ne_eq, not_false_eq_true, hik, hu0', hw, hne, hwq, hlt', hwm, hwi]
        exact nxt_tmps _ (Nat.lt_succ_self _) (by simp [get, slI, slS, avI, avS]) ⟨i + 1, acc * (us.length + 1), rfl, by omega, by omega, by omega, by omega, hnext⟩
    · have hu0' : ¬ (us.length : Int) > 0 := by omega
      have e : acc * ((us.length : Int) + 1) = acc := by rw [show (us.length : Int) = 0 by omega]; simp
      have hwm : IntKind.i64.wrap (acc * (us.length + 1)) = acc := by rw [e]; exact wrap_id (by omega) (by omega)
      have hnext : manyP us.length k acc most = manyP us.length vs.length 1 most := by
        by_cases h1 : most < 1
        · rw [manyP_zero _ _ _ _ (by omega) h1] at hmany ⊢; exact hmany
        · rw [manyP, if_neg (by omega), e] at hmany; exact hmany
      simp only [go_sem, ti3, zk3, ti4, zk4, ti5, zk5, ti9, zk9, ti22, zk22, ti23, zk23, ti25, zk25, ti32, zk32, ti33, zk33, ti35, zk35, ti37, zk37, ti39, zk39, ti40, zk40, ti44, zk44, ti50, zk50, ti58, zk58, ti60, zk60, ti61, zk61, ti68, zk68, ti74, zk74, ti75, zk75, ti76, zk76, ti78, zk78, ↓reduceIte, or_false, false_or, Nat.reduceEqDiff, Nat.reduceBNe, Nat.reduceBEq, Bool.false_eq_true, Nat.reduceAdd, Nat.zero_add, Nat.add_zero, List.contains_cons, List.contains_nil, Bool.or_false, Bool.or_true, Bool.false_or, Bool.true_or, List.getElem?_cons_zero, List.getElem?_cons_succ, List.all_cons, List.all_nil, Bool.and_true, Bool.and_self, true_and, and_true, List.cons_append, List.nil_append, obAtR_some, List.length_cons, List.length_nil, List.drop_zero, List.drop_succ_cons, List.take_succ_cons, List.take_zero, Nat.reduceLeDiff, decide_true, decide_false, Bool.not_true, Bool.not_false, gdst, List.getElem?_toArray, Option.bind_some, List.map_cons, List.map_nil, List.length_map, reduceCtorEq, Nat.reduceLT, Nat.reduceMul, Nat.zero_mul, List.append_nil, List.getD_cons_zero, List.getD_cons_succ, ne_eq, not_false_eq_true, hik, hu0', hw, hne, hwm, hwi]
      exact nxt_tmps _ (Nat.lt_succ_self _) (by simp [get, slI, slS, avI, avS]) ⟨i + 1, acc, rfl, by omega, by omega, by omega, by omega, hnext⟩
  · obtain rfl : k = 0 := by omega
    rw [manyP] at hmany
    simp only [go_sem, ti3, zk3, ti4, zk4, ti5, zk5, ti9, zk9, ti22, zk22, ti23, zk23, ti25, zk25, ti32, zk32, ti33, zk33, ti35, zk35, ti37, zk37, ti39, zk39, ti40, zk40, ti44, zk44, ti50, zk50, ti58, zk58, ti60, zk60, ti61, zk61, ti68, zk68, ti74, zk74, ti75, zk75, ti76, zk76, ti78, zk78, ↓reduceIte, or_false, false_or, Nat.reduceEqDiff, Nat.reduceBNe, Nat.reduceBEq, Bool.false_eq_true, Nat.reduceAdd, Nat.zero_add, Nat.add_zero, List.contains_cons, List.contains_nil, Bool.or_false, Bool.or_true, Bool.false_or, Bool.true_or, List.getElem?_cons_zero, List.getElem?_cons_succ, List.all_cons, List.all_nil, Bool.and_true, Bool.and_self, true_and, and_true, List.cons_append, List.nil_append, obAtR_some, List.length_cons, List.length_nil, List.drop_zero, List.drop_succ_cons, List.take_succ_cons, List.take_zero, Nat.reduceLeDiff, decide_true, decide_false, Bool.not_true, Bool.not_false, gdst, List.getElem?_toArray, Option.bind_some, List.map_cons, List.map_nil, List.length_map, reduceCtorEq, Nat.reduceLT, Nat.reduceMul, Nat.zero_mul, List.append_nil, List.getD_cons_zero, List.getD_cons_succ, ne_eq, not_false_eq_true, hik]
    refine ret_same (.inl rfl) ?_ (free_val _)
    simp only [← hmany, retAV, resAV, get, ↓reduceIte]
    congr 3; omega

/-- The digits, each by itself: the c digits before, those that are made. -/
def digits (n : Nat) : Nat → Int → List Int → List Int
  | 0, _, ds => ds
  | c + 1, k, ds => digits n c (k.tdiv (n + 1)) (k.tmod (n + 1) :: ds)
def restK (n : Nat) : Nat → Int → Int
  | 0, k => k
  | c + 1, k => restK n c (k.tdiv (n + 1))
/-- What the digits bind, from name i on. -/
def bindsD (us : List Int) : List ByteArray → List Int → List (ByteArray × Int)
  | v :: vs, d :: ds => (if 0 < d then [(v, us.getD (d - 1).toNat 0)] else []) ++ bindsD us vs ds
  | _, _ => []

theorem bindsD_append (us : List Int) : ∀ (vs vs' : List ByteArray) (ds ds' : List Int), vs.length = ds.length → bindsD us (vs ++ vs') (ds ++ ds') = bindsD us vs ds ++ bindsD us vs' ds' := by
  intro vs
  induction vs with
  | nil => intro vs' ds ds' h; cases ds with | nil => rfl | cons d ds => simp at h
  | cons v vs ih =>
    intro vs' ds ds' h
    cases ds with
    | nil => simp at h
    | cons d ds => simp only [List.cons_append, bindsD, ih vs' ds ds' (by simpa using h), List.append_assoc]

/-- Both ways of the binds are one. -/
theorem wayA_digits (us : List Int) (vs : List ByteArray) : ∀ (c : Nat) (k : Int) (l : List (ByteArray × Int)) (ds : List Int), c ≤ vs.length → ds.length = vs.length - c → l.reverse = bindsD us (vs.drop c) ds →
    (wayA us vs c k l).2 = restK us.length c k ∧ (wayA us vs c k l).1.reverse = bindsD us vs (digits us.length c k ds) := by
  intro c
  induction c with
  | zero => intro k l ds _ _ h; exact ⟨rfl, by simpa [wayA, digits] using h⟩
  | succ c ih =>
    intro k l ds hc hl h
    rw [wayA, restK, digits]
    refine ih _ _ _ (by omega) (by simp [hl]; omega) ?_
    have e : vs.drop c = vs.getD c ⟨#[]⟩ :: vs.drop (c + 1) := by
      rw [List.drop_eq_getElem_cons (by omega), List.getD_eq_getElem?_getD, List.getElem?_eq_getElem (by omega)]; rfl
    rw [e, bindsD, ← h]
    split <;> simp
end Go.Bw
