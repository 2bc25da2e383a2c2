/- A walk of functions that the law reaches: what each call comes to. -/
import Derived.Test.YtldlldamnliejaaC03
set_option linter.unusedSimpArgs false
set_option maxRecDepth 100000
namespace Go.Bw
open Go Go.Proofs
attribute [local go_sem] W_seq W_block W_skip W_exit W_ret W_cond WC_true WC_false kont_nil kont_seq kont_seq_ret kont_seq_exit kont_block kont_block_ret kont_block_exit kont_loop kont_loop_ret kont_loop_exit WG_tt WG_ff WG_tf WG_ft r_move r_assign r_pick r_extract r_makeFunc r_fieldAddr r_load r_store r_box r_alloc r_indexAddr r_binOp r_unOp r_call r_len r_max r_min r_append r_build r_buildSlice r_makeSlice e_tmp e_int e_bool e_string e_nil e_func l_pick_t l_pick_f l_pick l_field_ref l_field_fptr l_load_ref l_loadR l_loadP pack_t pack_f obAt_some l_store l_storeO l_storeR l_index_sl l_index_rsl l_indexF l_indexR l_indexO l_len_sl l_len_rsl l_len_str l_bin_i l_bin_s l_bin_b l_not l_neg l_add l_sub l_mul l_quo l_rem l_eql l_neq l_lss l_leq l_gtr l_geq l_seql l_sneq l_slss l_sleq l_sgtr l_sgeq l_beql l_bneq l_extract c_agg c_val c_sl c_rsl c_ref c_clo o_int o_string o_bool o_sl o_rsl o_ref o_fptr o_clo get_cons' get_nil hget_cons gc_nil gc_cons put_some put_none gAV_def l_max l_min fillA_nil fillA_cons fillR_some place_eq placeR_some l_build l_buildR l_buildSlice l_buildSliceR l_make l_append l_appendP l_appendS_sl l_appendS_rsl l_appendO slV_sl slV_rsl slVR_some slIds_sl slIds_rsl chunks_zero chunks_one chunks_two rep0_one rep0_two WG_undef l_load_fptr W_region_t W_region_f WO_nil WO_none WO_some KO_eq foot_t WS_nil WS_none WS_some WSG_tt WSG_ff WSG_tf WSG_ft WSG_undef KS_eq set_some set_none KD_eq q_move q_assign q_pick q_extract q_makeFunc q_fieldAddr q_load q_store q_box q_alloc q_indexAddr q_unOp q_bi_len q_bi_max q_bi_min q_bi_append q_bi_copy q_bi_clear q_bi_delete q_build q_buildSlice q_makeSlice q_index q_convert q_nilCheck q_slice q_range q_next q_entry q_field q_makeMap q_lookup q_mapUpdate q_mapEntry q_entryStore q_makeInterface q_typeAssert q_bin_t q_bin_g q_bin_f q_bin_i q_bin_s q_bin_b q_bin_p q_bin_n q_bin_ni q_bin_m q_call q_nil q_cap n_int n_str n_bool n_ref_eql n_ref_neq n_fptr_eql n_fptr_neq n_nilp_eql n_nilp_neq n_clo_eql n_clo_neq n_nilf_eql n_nilf_neq b_ref b_fptr b_clo b_nilp b_nilf e_ptr e_nilf l_indexS l_conv_i l_conv_s ok_ref ok_fptr ok_clo io_none io_some l_slice_sl l_slice_rsl l_slice_str l_sliceS l_sliceS3 l_sliceR r_index r_convert r_nilCheck r_slice allSz_eq l_buildX0 sNil_cons_eql sNil_cons_neq sNil_nil sNil_nil_neq l_buildXs c_clo2 c_fptr c_mp c_it c_ifc o_mp o_it o_ifc o_nilf o_nilp

/-- Binds, as values. -/
def encP (p : ByteArray × Term) : List AV := avS p.1 :: p.2.enc
def sameB : List (ByteArray × Term) → List (ByteArray × Term) → Bool
  | [], [] => true
  | (v, t) :: a, (u, r) :: b => decide (cmpT t r = 0) && decide (v = u) && sameB a b
  | _, _ => false
theorem encP_len (p : ByteArray × Term) : (encP p).length = 4 := by simp [encP, enc_len]
theorem free_encP (p : ByteArray × Term) : ∀ y ∈ encP p, Free y := by
  simp only [encP, List.mem_cons]
  rintro y (rfl | h)
  · exact free_val _
  · exact free_enc _ y h
theorem sameB_len : ∀ (xs ys : List (ByteArray × Term)), sameB xs ys = true → xs.length = ys.length := by
  intro xs
  induction xs with
  | nil => intro ys h; cases ys with | nil => rfl | cons y ys => simp [sameB] at h
  | cons x xs ih =>
    intro ys h
    cases ys with
    | nil => simp [sameB] at h
    | cons y ys => simp only [sameB, Bool.and_eq_true] at h; simp [ih ys h.2]

theorem same07_fn (xs ys : List (ByteArray × Term)) (hx : xs.length ≤ 281474976710656) (h1 : ∀ p ∈ xs, p.2.size < 281474976710656) (h2 : ∀ p ∈ ys, p.2.size < 281474976710656) (f g : Bool) :
    Fn Try.prog 11 [.sl f (xs.map encP) [], .sl g (ys.map encP) []] (.val (.bool (sameB xs ys))) := by
  refine Fn.walk (fn := Try.f11) [0, 1, 4, 5, 6] [.tmp 4] (by kernel_rfl) (by kernel_rfl) (by kernel_rfl) (by kernel_rfl) (by kernel_rfl) (by simp [Try.f11]) (fun x hx => ?_) ?_
  · have : ∀ (f : Bool) (l : List (ByteArray × Term)), Free (.sl f (l.map encP) []) := fun f l => free_sl (by simp only [List.append_nil, List.mem_map]; rintro e ⟨p, _, rfl⟩; exact free_encP p)
    simp only [List.mem_cons, List.not_mem_nil, or_false] at hx
    rcases hx with rfl | rfl
    · exact this _ _
    · exact this _ _
  simp only [body, Option.getD_some, enter, List.nil_append, List.append_nil, List.cons_append, List.zipIdx_cons, List.zipIdx_nil, List.map_cons, List.map_nil, Nat.reduceAdd, Nat.zero_add, Try.f11]
  by_cases hl : (xs.length : Int) = ys.length
  · simp only [go_sem, ti3, zk3, ti4, zk4, ti5, zk5, ti9, zk9, ti22, zk22, ti23, zk23, ti25, zk25, ti32, zk32, ti33, zk33, ti35, zk35, ti37, zk37, ti39, zk39, ti40, zk40, ti44, zk44, ti50, zk50, ti58, zk58, ti60, zk60, ti61, zk61, ti68, zk68, ti74, zk74, ti75, zk75, ti76, zk76, ti78, zk78, ↓reduceIte, or_false, false_or, Nat.reduceEqDiff, Nat.reduceBNe, Nat.reduceBEq, Bool.false_eq_true, Nat.reduceAdd, Nat.zero_add, Nat.add_zero, List.contains_cons, List.contains_nil, Bool.or_false, Bool.or_true, Bool.false_or, Bool.true_or, List.getElem?_cons_zero, List.getElem?_cons_succ, List.all_cons, List.all_nil, Bool.and_true, Bool.and_self, true_and, and_true, List.cons_append, List.nil_append, obAtR_some, List.length_cons, List.length_nil, List.drop_zero, List.drop_succ_cons, List.take_succ_cons, List.take_zero, Nat.reduceLeDiff, decide_true, decide_false, Bool.not_true, Bool.not_false, gdst, List.getElem?_toArray, Option.bind_some, List.map_cons, List.map_nil, List.length_map, reduceCtorEq, Nat.reduceLT, Nat.reduceMul, Nat.zero_mul, List.append_nil, List.getD_cons_zero, List.getD_cons_succ, ne_eq, not_false_eq_true, hl]
    refine W_loop (fun k S => ∃ i : Nat, S = ⟨[(5, avI i), (1, .sl g (ys.map encP) []), (0, .sl f (xs.map encP) [])], [], 0⟩ ∧ i + k = xs.length ∧ sameB (xs.drop i) (ys.drop i) = sameB xs ys) xs.length _
      (Le.tmps _ 0 (Nat.le_refl _) (by simp [get, avI])) ⟨0, rfl, by omega, rfl⟩ ?_
    rintro k S ⟨i, rfl, hi, hc⟩
    simp only [avI]
    simp only [go_sem, ti3, zk3, ti4, zk4, ti5, zk5, ti9, zk9, ti22, zk22, ti23, zk23, ti25, zk25, ti32, zk32, ti33, zk33, ti35, zk35, ti37, zk37, ti39, zk39, ti40, zk40, ti44, zk44, ti50, zk50, ti58, zk58, ti60, zk60, ti61, zk61, ti68, zk68, ti74, zk74, ti75, zk75, ti76, zk76, ti78, zk78, ↓reduceIte, or_false, false_or, Nat.reduceEqDiff, Nat.reduceBNe, Nat.reduceBEq, Bool.false_eq_true, Nat.reduceAdd, Nat.zero_add, Nat.add_zero, List.contains_cons, List.contains_nil, Bool.or_false, Bool.or_true, Bool.false_or, Bool.true_or, List.getElem?_cons_zero, List.getElem?_cons_succ, List.all_cons, List.all_nil, Bool.and_true, Bool.and_self, true_and, and_true, List.cons_append, List.nil_append, obAtR_some, List.length_cons, List.length_nil, List.drop_zero, List.drop_succ_cons, List.take_succ_cons, List.take_zero, Nat.reduceLeDiff, decide_true, decide_false, Bool.not_true, Bool.not_false, gdst, List.getElem?_toArray, Option.bind_some, List.map_cons, List.map_nil, List.length_map, reduceCtorEq, Nat.reduceLT, Nat.reduceMul, Nat.zero_mul, List.append_nil, List.getD_cons_zero, List.getD_cons_succ, ne_eq, not_false_eq_true]
    by_cases hin : (i : Int) < xs.length
    · obtain ⟨k, rfl⟩ : ∃ k', k = k' + 1 := ⟨k - 1, by omega⟩
      have hix : i < xs.length := by omega
      have hiy : i < ys.length := by omega
      obtain ⟨⟨v, t⟩, hx1⟩ : ∃ p, xs[i] = p := ⟨_, rfl⟩
      obtain ⟨⟨u, r⟩, hy1⟩ : ∃ p, ys[i] = p := ⟨_, rfl⟩
      rw [drop_len hix, drop_len hiy, hx1, hy1, sameB] at hc
      have hxi : xs[i]? = some (v, t) := by rw [List.getElem?_eq_getElem hix, hx1]
      have hyi : ys[i]? = some (u, r) := by rw [List.getElem?_eq_getElem hiy, hy1]
      have hi0 : (0 : Int) ≤ i := by omega
      have w5 : IntKind.i64.wrap ((i : Int) + 1) = ((i + 1 : Nat) : Int) := by rw [wrap_id (by omega) (by omega)]; omega
      have tx : t.enc.take 3 = t.enc := List.take_of_length_le (by rw [enc_len]; omega)
      have ty : r.enc.take 3 = r.enc := List.take_of_length_le (by rw [enc_len]; omega)
      have st := h1 _ (List.mem_of_getElem? hxi)
      have sr := h2 _ (List.mem_of_getElem? hyi)
      simp only [go_sem, ti3, zk3, ti4, zk4, ti5, zk5, ti9, zk9, ti22, zk22, ti23, zk23, ti25, zk25, ti32, zk32, ti33, zk33, ti35, zk35, ti37, zk37, ti39, zk39, ti40, zk40, ti44, zk44, ti50, zk50, ti58, zk58, ti60, zk60, ti61, zk61, ti68, zk68, ti74, zk74, ti75, zk75, ti76, zk76, ti78, zk78, ↓reduceIte, or_false, false_or, Nat.reduceEqDiff, Nat.reduceBNe, Nat.reduceBEq, Bool.false_eq_true, Nat.reduceAdd, Nat.zero_add, Nat.add_zero, List.contains_cons, List.contains_nil, Bool.or_false, Bool.or_true, Bool.false_or, Bool.true_or, List.getElem?_cons_zero, List.getElem?_cons_succ, List.all_cons, List.all_nil, Bool.and_true, Bool.and_self, true_and, and_true, List.cons_append, List.nil_append, obAtR_some, List.length_cons, List.length_nil, List.drop_zero, List.drop_succ_cons, List.take_succ_cons, List.take_zero, Nat.reduceLeDiff, decide_true, decide_false, Bool.not_true, Bool.not_false, gdst, List.getElem?_toArray, Option.bind_some, List.map_cons, List.map_nil, List.length_map, reduceCtorEq, Nat.reduceLT, Nat.reduceMul, Nat.zero_mul, List.append_nil, List.getD_cons_zero, List.getD_cons_succ, ne_eq, not_false_eq_true, hin, hi0, hxi, hyi, Int.toNat_natCast, List.getElem?_map, Option.map_some, encP, avS, enc_len, tx, ty, Nat.le_refl]
      first | refine sCall_f (same_fn t r st sr) ?_ | refine aCall_f (same_fn t r st sr) ?_
      by_cases hcmp : cmpT t r = 0
      · by_cases hvu : v = u
        · rw [decide_eq_true hcmp, decide_eq_true hvu, Bool.true_and, Bool.true_and] at hc
          simp only [go_sem, ti3, zk3, ti4, zk4, ti5, zk5, ti9, zk9, ti22, zk22, ti23, zk23, ti25, zk25, ti32, zk32, ti33, zk33, ti35, zk35, ti37, zk37, ti39, zk39, ti40, zk40, ti44, zk44, ti50, zk50, ti58, zk58, ti60, zk60, ti61, zk61, ti68, zk68, ti74, zk74, ti75, zk75, ti76, zk76, ti78, zk78, ↓reduceIte, or_false, false_or, Nat.reduceEqDiff, Nat.reduceBNe, Nat.reduceBEq, Bool.false_eq_true, Nat.reduceAdd, Nat.zero_add, Nat.add_zero, List.contains_cons, List.contains_nil, Bool.or_false, Bool.or_true, Bool.false_or, Bool.true_or, List.getElem?_cons_zero, List.getElem?_cons_succ, List.all_cons, List.all_nil, Bool.and_true, Bool.and_self, true_and, and_true, List.cons_append, List.nil_append, obAtR_some, List.length_cons, List.length_nil, List.drop_zero, List.drop_succ_cons, List.take_succ_cons, List.take_zero, Nat.reduceLeDiff, decide_true, decide_false, Bool.not_true, Bool.not_false, gdst, List.getElem?_toArray, Option.bind_some, List.map_cons, List.map_nil, List.length_map, reduceCtorEq, Nat.reduceLT, Nat.reduceMul, Nat.zero_mul, List.append_nil, List.getD_cons_zero, List.getD_cons_succ, ne_eq, not_false_eq_true, hcmp, hvu, w5, hi0, hxi, hyi, Int.toNat_natCast, List.getElem?_map, Option.map_some, encP, avS, enc_len]
          exact ⟨⟨by kernel_rfl, by kernel_rfl⟩, ⟨by kernel_rfl, by kernel_rfl⟩, nxt_tmps _ (Nat.lt_succ_self _) (by simp [get, avI]) ⟨i + 1, rfl, by omega, hc⟩⟩
        · rw [decide_eq_false hvu, Bool.and_false, Bool.false_and] at hc
          simp only [go_sem, ti3, zk3, ti4, zk4, ti5, zk5, ti9, zk9, ti22, zk22, ti23, zk23, ti25, zk25, ti32, zk32, ti33, zk33, ti35, zk35, ti37, zk37, ti39, zk39, ti40, zk40, ti44, zk44, ti50, zk50, ti58, zk58, ti60, zk60, ti61, zk61, ti68, zk68, ti74, zk74, ti75, zk75, ti76, zk76, ti78, zk78, ↓reduceIte, or_false, false_or, Nat.reduceEqDiff, Nat.reduceBNe, Nat.reduceBEq, Bool.false_eq_true, Nat.reduceAdd, Nat.zero_add, Nat.add_zero, List.contains_cons, List.contains_nil, Bool.or_false, Bool.or_true, Bool.false_or, Bool.true_or, List.getElem?_cons_zero, List.getElem?_cons_succ, List.all_cons, List.all_nil, Bool.and_true, Bool.and_self, true_and, and_true, List.cons_append, List.nil_append, obAtR_some, List.length_cons, List.length_nil, List.drop_zero, List.drop_succ_cons, List.take_succ_cons, List.take_zero, Nat.reduceLeDiff, decide_true, decide_false, Bool.not_true, Bool.not_false, gdst, List.getElem?_toArray, Option.bind_some, List.map_cons, List.map_nil, List.length_map, reduceCtorEq, Nat.reduceLT, Nat.reduceMul, Nat.zero_mul, List.append_nil, List.getD_cons_zero, List.getD_cons_succ, ne_eq, not_false_eq_true, hcmp, hvu, w5, hi0, hxi, hyi, Int.toNat_natCast, List.getElem?_map, Option.map_some, encP, avS, enc_len]
          exact ⟨⟨by kernel_rfl, by kernel_rfl⟩, ⟨by kernel_rfl, by kernel_rfl⟩, ret_same (.inl rfl) (by simp [retAV, resAV, get, ← hc]) (free_val _)⟩
      · rw [decide_eq_false hcmp, Bool.false_and, Bool.false_and] at hc
        simp only [go_sem, ti3, zk3, ti4, zk4, ti5, zk5, ti9, zk9, ti22, zk22, ti23, zk23, ti25, zk25, ti32, zk32, ti33, zk33, ti35, zk35, ti37, zk37, ti39, zk39, ti40, zk40, ti44, zk44, ti50, zk50, ti58, zk58, ti60, zk60, ti61, zk61, ti68, zk68, ti74, zk74, ti75, zk75, ti76, zk76, ti78, zk78, ↓reduceIte, or_false, false_or, Nat.reduceEqDiff, Nat.reduceBNe, Nat.reduceBEq, Bool.false_eq_true, Nat.reduceAdd, Nat.zero_add, Nat.add_zero, List.contains_cons, List.contains_nil, Bool.or_false, Bool.or_true, Bool.false_or, Bool.true_or, List.getElem?_cons_zero, List.getElem?_cons_succ, List.all_cons, List.all_nil, Bool.and_true, Bool.and_self, true_and, and_true, List.cons_append, List.nil_append, obAtR_some, List.length_cons, List.length_nil, List.drop_zero, List.drop_succ_cons, List.take_succ_cons, List.take_zero, Nat.reduceLeDiff, decide_true, decide_false, Bool.not_true, Bool.not_false, gdst, List.getElem?_toArray, Option.bind_some, List.map_cons, List.map_nil, List.length_map, reduceCtorEq, Nat.reduceLT, Nat.reduceMul, Nat.zero_mul, List.append_nil, List.getD_cons_zero, List.getD_cons_succ, ne_eq, not_false_eq_true, hcmp, w5, hi0, hxi, hyi, Int.toNat_natCast, List.getElem?_map, Option.map_some, encP, avS, enc_len]
        exact ⟨⟨by kernel_rfl, by kernel_rfl⟩, ⟨by kernel_rfl, by kernel_rfl⟩, ret_same (.inl rfl) (by simp [retAV, resAV, get, ← hc]) (free_val _)⟩
    · rw [List.drop_of_length_le (by omega), List.drop_of_length_le (by omega), sameB] at hc
      simp only [go_sem, ti3, zk3, ti4, zk4, ti5, zk5, ti9, zk9, ti22, zk22, ti23, zk23, ti25, zk25, ti32, zk32, ti33, zk33, ti35, zk35, ti37, zk37, ti39, zk39, ti40, zk40, ti44, zk44, ti50, zk50, ti58, zk58, ti60, zk60, ti61, zk61, ti68, zk68, ti74, zk74, ti75, zk75, ti76, zk76, ti78, zk78, ↓reduceIte, or_false, false_or, Nat.reduceEqDiff, Nat.reduceBNe, Nat.reduceBEq, Bool.false_eq_true, Nat.reduceAdd, Nat.zero_add, Nat.add_zero, List.contains_cons, List.contains_nil, Bool.or_false, Bool.or_true, Bool.false_or, Bool.true_or, List.getElem?_cons_zero, List.getElem?_cons_succ, List.all_cons, List.all_nil, Bool.and_true, Bool.and_self, true_and, and_true, List.cons_append, List.nil_append, obAtR_some, List.length_cons, List.length_nil, List.drop_zero, List.drop_succ_cons, List.take_succ_cons, List.take_zero, Nat.reduceLeDiff, decide_true, decide_false, Bool.not_true, Bool.not_false, gdst, List.getElem?_toArray, Option.bind_some, List.map_cons, List.map_nil, List.length_map, reduceCtorEq, Nat.reduceLT, Nat.reduceMul, Nat.zero_mul, List.append_nil, List.getD_cons_zero, List.getD_cons_succ, ne_eq, not_false_eq_true, hin]
      exact ret_same (.inl rfl) (by simp [retAV, resAV, get, ← hc]) (free_val _)
  · have : sameB xs ys = false := by
      cases h : sameB xs ys
      · rfl
      · exact absurd (sameB_len _ _ h) (by omega)
    rw [this]
    simp only [go_sem, ti3, zk3, ti4, zk4, ti5, zk5, ti9, zk9, ti22, zk22, ti23, zk23, ti25, zk25, ti32, zk32, ti33, zk33, ti35, zk35, ti37, zk37, ti39, zk39, ti40, zk40, ti44, zk44, ti50, zk50, ti58, zk58, ti60, zk60, ti61, zk61, ti68, zk68, ti74, zk74, ti75, zk75, ti76, zk76, ti78, zk78, ↓reduceIte, or_false, false_or, Nat.reduceEqDiff, Nat.reduceBNe, Nat.reduceBEq, Bool.false_eq_true, Nat.reduceAdd, Nat.zero_add, Nat.add_zero, List.contains_cons, List.contains_nil, Bool.or_false, Bool.or_true, Bool.false_or, Bool.true_or, List.getElem?_cons_zero, List.getElem?_cons_succ, List.all_cons, List.all_nil, Bool.and_true, Bool.and_self, true_and, and_true, List.cons_append, List.nil_append, obAtR_some, List.length_cons, List.length_nil, List.drop_zero, List.drop_succ_cons, List.take_succ_cons, List.take_zero, Nat.reduceLeDiff, decide_true, decide_false, Bool.not_true, Bool.not_false, gdst, List.getElem?_toArray, Option.bind_some, List.map_cons, List.map_nil, List.length_map, reduceCtorEq, Nat.reduceLT, Nat.reduceMul, Nat.zero_mul, List.append_nil, List.getD_cons_zero, List.getD_cons_succ, ne_eq, not_false_eq_true, hl]
    exact ret_same (.inl rfl) (by simp [retAV, resAV, get]) (free_val _)
end Go.Bw
