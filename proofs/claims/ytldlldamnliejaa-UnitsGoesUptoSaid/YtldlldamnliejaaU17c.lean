/- A walk of functions that the law reaches: what each call comes to. -/
import Derived.Test.YtldlldamnliejaaU17b
set_option linter.unusedSimpArgs false
set_option maxRecDepth 100000
namespace Go.Bw
open Go Go.Proofs
attribute [local go_sem] W_seq W_block W_skip W_exit W_ret W_cond WC_true WC_false kont_nil kont_seq kont_seq_ret kont_seq_exit kont_block kont_block_ret kont_block_exit kont_loop kont_loop_ret kont_loop_exit WG_tt WG_ff WG_tf WG_ft r_move r_assign r_pick r_extract r_makeFunc r_fieldAddr r_load r_store r_box r_alloc r_indexAddr r_binOp r_unOp r_call r_len r_max r_min r_append r_build r_buildSlice r_makeSlice e_tmp e_int e_bool e_string e_nil e_func l_pick_t l_pick_f l_pick l_field_ref l_field_fptr l_load_ref l_loadR l_loadP pack_t pack_f obAt_some l_store l_storeO l_storeR l_index_sl l_index_rsl l_indexF l_indexR l_indexO l_len_sl l_len_rsl l_len_str l_bin_i l_bin_s l_bin_b l_not l_neg l_add l_sub l_mul l_quo l_rem l_eql l_neq l_lss l_leq l_gtr l_geq l_seql l_sneq l_slss l_sleq l_sgtr l_sgeq l_beql l_bneq l_extract c_agg c_val c_sl c_rsl c_ref c_clo o_int o_string o_bool o_sl o_rsl o_ref o_fptr o_clo get_cons' get_nil hget_cons gc_nil gc_cons put_some put_none gAV_def l_max l_min fillA_nil fillA_cons fillR_some place_eq placeR_some l_build l_buildR l_buildSlice l_buildSliceR l_make l_append l_appendP l_appendS_sl l_appendS_rsl l_appendO slV_sl slV_rsl slVR_some slIds_sl slIds_rsl chunks_zero chunks_one chunks_two rep0_one rep0_two WG_undef l_load_fptr W_region_t W_region_f WO_nil WO_none WO_some KO_eq foot_t WS_nil WS_none WS_some WSG_tt WSG_ff WSG_tf WSG_ft WSG_undef KS_eq set_some set_none KD_eq q_move q_assign q_pick q_extract q_makeFunc q_fieldAddr q_load q_store q_box q_alloc q_indexAddr q_unOp q_bi_len q_bi_max q_bi_min q_bi_append q_bi_copy q_bi_clear q_bi_delete q_build q_buildSlice q_makeSlice q_index q_convert q_nilCheck q_slice q_range q_next q_entry q_field q_makeMap q_lookup q_mapUpdate q_mapEntry q_entryStore q_makeInterface q_typeAssert q_bin_t q_bin_g q_bin_f q_bin_i q_bin_s q_bin_b q_bin_p q_bin_n q_bin_ni q_bin_m q_call q_nil q_cap n_int n_str n_bool n_ref_eql n_ref_neq n_fptr_eql n_fptr_neq n_nilp_eql n_nilp_neq n_clo_eql n_clo_neq n_nilf_eql n_nilf_neq b_ref b_fptr b_clo b_nilp b_nilf e_ptr e_nilf l_indexS l_conv_i l_conv_s ok_ref ok_fptr ok_clo io_none io_some l_slice_sl l_slice_rsl l_slice_str l_sliceS l_sliceS3 l_sliceR r_index r_convert r_nilCheck r_slice allSz_eq l_buildX0 sNil_cons_eql sNil_cons_neq sNil_nil sNil_nil_neq l_buildXs c_clo2 c_fptr c_mp c_it c_ifc o_mp o_it o_ifc o_nilf o_nilp

/-- The digits of k, from the last of the first c names to the first: what is bound, what is left of k. -/
def wayA (us : List Int) (vs : List ByteArray) : Nat → Int → List (ByteArray × Int) → List (ByteArray × Int) × Int
  | 0, k, l => (l, k)
  | c + 1, k, l => wayA us vs c (k.tdiv (us.length + 1)) (if 0 < k.tmod (us.length + 1) then l ++ [(vs.getD c ⟨#[]⟩, us.getD (k.tmod (us.length + 1) - 1).toNat 0)] else l)
def encB1 (p : ByteArray × Int) : List AV := [avS p.1, avS ⟨#[]⟩, avI p.2, .sl true [] []]
/-- What Way answers, in memory of the caller's own. -/
def wayPost (us : List Int) (vs : List ByteArray) (k : Int) (nx : Nat) (out : AV) (h : Heap) (nx' : Nat) : Prop :=
  if k < 0 ∨ 0 < (wayA us vs vs.length k []).2 then out = .tup [.sl true [] [], avB false] ∧ h = []
  else ∃ id, nx ≤ id ∧ id < nx' ∧ out = .tup [.rsl id 0 (wayA us vs vs.length k []).1.length, avB true] ∧ h = [(id, some (.cells false ((wayA us vs vs.length k []).1.reverse.map encB1)))]

theorem wayA_len (us : List Int) (vs : List ByteArray) : ∀ (c : Nat) (k : Int) (l : List (ByteArray × Int)), (wayA us vs c k l).1.length ≤ l.length + c := by
  intro c
  induction c with
  | zero => intro k l; simp [wayA]
  | succ c ih =>
    intro k l
    rw [wayA]
    refine Nat.le_trans (ih _ _) ?_
    split <;> simp <;> omega
theorem free_encB1 (p : ByteArray × Int) : ∀ y ∈ encB1 p, Free y := by
  simp only [encB1, List.mem_cons, List.not_mem_nil, or_false]
  rintro y (rfl | rfl | rfl | rfl)
  · exact free_val _
  · exact free_val _
  · exact free_val _
  · exact free_sl (by simp)

theorem way_v (us : List Int) (vs : List ByteArray) (k : Int) (nx : Nat) (hu : us.length ≤ 1048576) (hv : vs.length ≤ 1048576) (hk : -9223372036854775808 ≤ k ∧ k ≤ 9223372036854775807) :
    CallV Try.prog (.clo (.func 9) [] []) [slI us, slS vs, avI k] [] nx (wayPost us vs k nx) := by
  refine CallV.walk (fn := Try.f9) [0, 1, 2, 6, 7, 8, 9, 10, 11, 15, 16] [.tmp 6, .tmp 7] (by kernel_rfl) (by kernel_rfl) (by kernel_rfl) (by kernel_rfl) (by kernel_rfl) (by simp [Try.f9]) ?_
  intro _
  simp only [body, Option.getD_some, enter, List.nil_append, List.append_nil, List.cons_append, List.zipIdx_cons, List.zipIdx_nil, List.map_cons, List.map_nil, Nat.reduceAdd, Nat.zero_add, Try.f9, slI, slS, avI]
  by_cases hk0 : k < 0
  · simp only [go_sem, ti3, zk3, ti4, zk4, ti5, zk5, ti9, zk9, ti22, zk22, ti23, zk23, ti25, zk25, ti32, zk32, ti33, zk33, ti35, zk35, ti37, zk37, ti39, zk39, ti40, zk40, ti44, zk44, ti50, zk50, ti58, zk58, ti60, zk60, ti61, zk61, ti68, zk68, ti74, zk74, ti75, zk75, ti76, zk76, ti78, zk78, ↓reduceIte, or_false, false_or, Nat.reduceEqDiff, Nat.reduceBNe, Nat.reduceBEq, Bool.false_eq_true, Nat.reduceAdd, Nat.zero_add, Nat.add_zero, List.contains_cons, List.contains_nil, Bool.or_false, Bool.or_true, Bool.false_or, Bool.true_or, List.getElem?_cons_zero, List.getElem?_cons_succ, List.all_cons, List.all_nil, Bool.and_true, Bool.and_self, true_and, and_true, List.cons_append, List.nil_append, obAtR_some, List.length_cons, List.length_nil, List.drop_zero, List.drop_succ_cons, List.take_succ_cons, List.take_zero, Nat.reduceLeDiff, decide_true, decide_false, Bool.not_true, Bool.not_false, gdst, List.getElem?_toArray, Option.bind_some, List.map_cons, List.map_nil, List.length_map, reduceCtorEq, Nat.reduceLT, Nat.reduceMul, Nat.zero_mul, List.append_nil, List.getD_cons_zero, List.getD_cons_succ, ne_eq, not_false_eq_true, hk0]
    exact retW_same (.inl rfl) (out := .tup [.sl true [] [], avB false]) (by simp [retAV, resAV, get, avB]) (by simp [wayPost, hk0])
  simp only [go_sem, ti3, zk3, ti4, zk4, ti5, zk5, ti9, zk9, ti22, zk22, ti23, zk23, ti25, zk25, ti32, zk32, ti33, zk33, ti35, zk35, ti37, zk37, ti39, zk39, ti40, zk40, ti44, zk44, ti50, zk50, ti58, zk58, ti60, zk60, ti61, zk61, ti68, zk68, ti74, zk74, ti75, zk75, ti76, zk76, ti78, zk78, ↓reduceIte, or_false, false_or, Nat.reduceEqDiff, Nat.reduceBNe, Nat.reduceBEq, Bool.false_eq_true, Nat.reduceAdd, Nat.zero_add, Nat.add_zero, List.contains_cons, List.contains_nil, Bool.or_false, Bool.or_true, Bool.false_or, Bool.true_or, List.getElem?_cons_zero, List.getElem?_cons_succ, List.all_cons, List.all_nil, Bool.and_true, Bool.and_self, true_and, and_true, List.cons_append, List.nil_append, obAtR_some, List.length_cons, List.length_nil, List.drop_zero, List.drop_succ_cons, List.take_succ_cons, List.take_zero, Nat.reduceLeDiff, decide_true, decide_false, Bool.not_true, Bool.not_false, gdst, List.getElem?_toArray, Option.bind_some, List.map_cons, List.map_nil, List.length_map, reduceCtorEq, Nat.reduceLT, Nat.reduceMul, Nat.zero_mul, List.append_nil, List.getD_cons_zero, List.getD_cons_succ, ne_eq, not_false_eq_true, hk0]
  refine W_loop (fun c S => ∃ (i : Nat) (k' : Int) (l : List (ByteArray × Int)) (id m : Nat), S = ⟨[(16, avI i), (15, avI vs.length), (8, .rsl id 0 l.length), (2, avI k'), (1, slS vs), (0, slI us)], [(id, some (.cells false (l.map encB1)))], m⟩ ∧
      i + c = vs.length ∧ 0 ≤ k' ∧ k' ≤ k ∧ nx ≤ id ∧ id < m ∧ l.length ≤ i ∧ wayA us vs c k' l = wayA us vs vs.length k [])
    vs.length _ (Le.nilOb [(16, avI 0), (15, avI vs.length), (8, .rsl nx 0 0), (2, avI k), (1, slS vs), (0, slI us)] (by simp [get, slI, slS, avI, avS])) ⟨0, k, [], nx, nx + 1, rfl, by omega, by omega, by omega, by omega, by omega, by simp, rfl⟩ ?_
  rintro c S ⟨i, k', l, id, m, rfl, hi, hk1, hk2, hid0, hid, hll, hw⟩
  simp only [slI, slS, avI]
  simp only [go_sem, ti3, zk3, ti4, zk4, ti5, zk5, ti9, zk9, ti22, zk22, ti23, zk23, ti25, zk25, ti32, zk32, ti33, zk33, ti35, zk35, ti37, zk37, ti39, zk39, ti40, zk40, ti44, zk44, ti50, zk50, ti58, zk58, ti60, zk60, ti61, zk61, ti68, zk68, ti74, zk74, ti75, zk75, ti76, zk76, ti78, zk78, ↓reduceIte, or_false, false_or, Nat.reduceEqDiff, Nat.reduceBNe, Nat.reduceBEq, Bool.false_eq_true, Nat.reduceAdd, Nat.zero_add, Nat.add_zero, List.contains_cons, List.contains_nil, Bool.or_false, Bool.or_true, Bool.false_or, Bool.true_or, List.getElem?_cons_zero, List.getElem?_cons_succ, List.all_cons, List.all_nil, Bool.and_true, Bool.and_self, true_and, and_true, List.cons_append, List.nil_append, obAtR_some, List.length_cons, List.length_nil, List.drop_zero, List.drop_succ_cons, List.take_succ_cons, List.take_zero, Nat.reduceLeDiff, decide_true, decide_false, Bool.not_true, Bool.not_false, gdst, List.getElem?_toArray, Option.bind_some, List.map_cons, List.map_nil, List.length_map, reduceCtorEq, Nat.reduceLT, Nat.reduceMul, Nat.zero_mul, List.append_nil, List.getD_cons_zero, List.getD_cons_succ, ne_eq, not_false_eq_true]
  by_cases hin : (i : Int) < vs.length
  · obtain ⟨c, rfl⟩ : ∃ c', c = c' + 1 := ⟨c - 1, by omega⟩
    rw [wayA] at hw
    have hcv : vs[c]? = some (vs.getD c ⟨#[]⟩) := by rw [List.getD_eq_getElem?_getD, List.getElem?_eq_getElem (by omega)]; rfl
    have w1 : IntKind.i64.wrap (vs.length - 1) = vs.length - 1 := wrap_id (by omega) (by omega)
    have w2 : IntKind.i64.wrap ((vs.length : Int) - 1 - i) = (c : Int) := by rw [wrap_id (by omega) (by omega)]; omega
    have w3 : IntKind.i64.wrap (us.length + 1) = us.length + 1 := wrap_id (by omega) (by omega)
    have n3 : ¬ (us.length : Int) + 1 = 0 := by omega
    have hq := tdiv_bd (a := k') (b := us.length + 1) hk1 (by omega)
    have w4 : IntKind.i64.wrap (k'.tdiv (us.length + 1)) = k'.tdiv (us.length + 1) := wrap_id (by omega) (by omega)
    have w5 : IntKind.i64.wrap ((i : Int) + 1) = ((i + 1 : Nat) : Int) := by rw [wrap_id (by omega) (by omega)]; omega
    have hc0 : (0 : Int) ≤ c := by omega
    have hidne : ¬ id = m := by omega
    have hm0 := Int.tmod_nonneg (us.length + 1) hk1
    have hm1 := Int.tmod_lt_of_pos k' (b := us.length + 1) (by omega)
    by_cases hd : 0 < k'.tmod (us.length + 1)
    · rw [if_pos hd] at hw
      have hd' : k'.tmod (us.length + 1) > 0 := hd
      have w6 : IntKind.i64.wrap (k'.tmod (us.length + 1) - 1) = k'.tmod (us.length + 1) - 1 := wrap_id (by omega) (by omega)
      have hd0 : 0 ≤ k'.tmod (us.length + 1) - 1 := by omega
      have hcu : us[(k'.tmod (us.length + 1) - 1).toNat]? = some (us.getD (k'.tmod (us.length + 1) - 1).toNat 0) := by rw [List.getD_eq_getElem?_getD, List.getElem?_eq_getElem (by omega)]; rfl
      simp only [go_sem, ti3, zk3, ti4, zk4, ti5, zk5, ti9, zk9, ti22, zk22, ti23, zk23, ti25, zk25, ti32, zk32, ti33, zk33, ti35, zk35, ti37, zk37, ti39, zk39, ti40, zk40, ti44, zk44, ti50, zk50, ti58, zk58, ti60, zk60, ti61, zk61, ti68, zk68, ti74, zk74, ti75, zk75, ti76, zk76, ti78, zk78, ↓reduceIte, or_false, false_or, Nat.reduceEqDiff, Nat.reduceBNe, Nat.reduceBEq, Bool.false_eq_true, Nat.reduceAdd, Nat.zero_add, Nat.add_zero, List.contains_cons, List.contains_nil, Bool.or_false, Bool.or_true, Bool.false_or, Bool.true_or, List.getElem?_cons_zero, List.getElem?_cons_succ, List.all_cons, List.all_nil, Bool.and_true, Bool.and_self, true_and, and_true, List.cons_append, List.nil_append, obAtR_some, List.length_cons, List.length_nil, List.drop_zero, List.drop_succ_cons, List.take_succ_cons, List.take_zero, Nat.reduceLeDiff, decide_true, decide_false, Bool.not_true, Bool.not_false, gdst, List.getElem?_toArray, Option.bind_some, List.map_cons, List.map_nil, List.length_map, reduceCtorEq, Nat.reduceLT, Nat.reduceMul, Nat.zero_mul, List.append_nil, List.getD_cons_zero, List.getD_cons_succ, ne_eq, not_false_eq_true, hin, w1, w2, w3, w4, w5, w6, n3, hcv, hcu, hd', hd0, hc0, Int.toNat_natCast, List.getElem?_map, Option.map_some, splice, avS, avI, hidne, List.mem_cons, List.not_mem_nil, or_false, forall_eq]
      refine ⟨by simp, fun x hx => by obtain ⟨p, _, rfl⟩ := List.mem_map.1 hx; rfl, fun h => by simp at h, by omega, ?_⟩
      exact ⟨c, _, by omega, Le.th [(16, avI (i + 1 : Nat)), (15, avI vs.length), (8, .rsl (m + 1) 0 (l ++ [(vs.getD c ⟨#[]⟩, us.getD (k'.tmod (us.length + 1) - 1).toNat 0)]).length), (2, avI (k'.tdiv (us.length + 1))), (1, slS vs), (0, slI us)]
          [(m + 1, some (.cells false ((l ++ [(vs.getD c ⟨#[]⟩, us.getD (k'.tmod (us.length + 1) - 1).toNat 0)]).map encB1)))] (m + 2) (Nat.le_refl _) (by simp [get, slI, slS, avI, avS]) (by simp [hget, encB1, avI, avS, List.take_of_length_le]),
        i + 1, _, _, m + 1, m + 2, rfl, by omega, hq.1, by omega, by omega, by omega, by simp; omega, hw⟩
    · rw [if_neg hd] at hw
      have hd' : ¬ k'.tmod (us.length + 1) > 0 := hd
      simp only [go_sem, ti3, zk3, ti4, zk4, ti5, zk5, ti9, zk9, ti22, zk22, ti23, zk23, ti25, zk25, ti32, zk32, ti33, zk33, ti35, zk35, ti37, zk37, ti39, zk39, ti40, zk40, ti44, zk44, ti50, zk50, ti58, zk58, ti60, zk60, ti61, zk61, ti68, zk68, ti74, zk74, ti75, zk75, ti76, zk76, ti78, zk78, ↓reduceIte, or_false, false_or, Nat.reduceEqDiff, Nat.reduceBNe, Nat.reduceBEq, Bool.false_eq_true, Nat.reduceAdd, Nat.zero_add, Nat.add_zero, List.contains_cons, List.contains_nil, Bool.or_false, Bool.or_true, Bool.false_or, Bool.true_or, List.getElem?_cons_zero, List.getElem?_cons_succ, List.all_cons, List.all_nil, Bool.and_true, Bool.and_self, true_and, and_true, List.cons_append, List.nil_append, obAtR_some, List.length_cons, List.length_nil, List.drop_zero, List.drop_succ_cons, List.take_succ_cons, List.take_zero, Nat.reduceLeDiff, decide_true, decide_false, Bool.not_true, Bool.not_false, gdst, List.getElem?_toArray, Option.bind_some, List.map_cons, List.map_nil, List.length_map, reduceCtorEq, Nat.reduceLT, Nat.reduceMul, Nat.zero_mul, List.append_nil, List.getD_cons_zero, List.getD_cons_succ, ne_eq, not_false_eq_true, hin, w1, w2, w3, w4, w5, n3, hcv, hd', hc0, Int.toNat_natCast, List.getElem?_map, Option.map_some]
      exact ⟨c, _, by omega, Le.th [(16, avI (i + 1 : Nat)), (15, avI vs.length), (8, .rsl id 0 l.length), (2, avI (k'.tdiv (us.length + 1))), (1, slS vs), (0, slI us)] [(id, some (.cells false (l.map encB1)))] m (Nat.le_refl _) (by simp [get, slI, slS, avI, avS]) (by simp [hget]),
        i + 1, _, l, id, m, rfl, by omega, hq.1, by omega, hid0, hid, by omega, hw⟩
  · obtain rfl : c = 0 := by omega
    rw [wayA] at hw
    by_cases hk3 : k' > 0
    · simp only [go_sem, ti3, zk3, ti4, zk4, ti5, zk5, ti9, zk9, ti22, zk22, ti23, zk23, ti25, zk25, ti32, zk32, ti33, zk33, ti35, zk35, ti37, zk37, ti39, zk39, ti40, zk40, ti44, zk44, ti50, zk50, ti58, zk58, ti60, zk60, ti61, zk61, ti68, zk68, ti74, zk74, ti75, zk75, ti76, zk76, ti78, zk78, ↓reduceIte, or_false, false_or, Nat.reduceEqDiff, Nat.reduceBNe, Nat.reduceBEq, Bool.false_eq_true, Nat.reduceAdd, Nat.zero_add, Nat.add_zero, List.contains_cons, List.contains_nil, Bool.or_false, Bool.or_true, Bool.false_or, Bool.true_or, List.getElem?_cons_zero, List.getElem?_cons_succ, List.all_cons, List.all_nil, Bool.and_true, Bool.and_self, true_and, and_true, List.cons_append, List.nil_append, obAtR_some, List.length_cons, List.length_nil, List.drop_zero, List.drop_succ_cons, List.take_succ_cons, List.take_zero, Nat.reduceLeDiff, decide_true, decide_false, Bool.not_true, Bool.not_false, gdst, List.getElem?_toArray, Option.bind_some, List.map_cons, List.map_nil, List.length_map, reduceCtorEq, Nat.reduceLT, Nat.reduceMul, Nat.zero_mul, List.append_nil, List.getD_cons_zero, List.getD_cons_succ, ne_eq, not_false_eq_true, hin, hk3]
      exact retW_drop (.inl rfl) (out := .tup [.sl true [] [], avB false]) (by simp [retAV, resAV, get, avB]) (by rw [wayPost, ← hw, if_pos (.inr hk3)]; exact ⟨rfl, rfl⟩)
    · simp only [go_sem, ti3, zk3, ti4, zk4, ti5, zk5, ti9, zk9, ti22, zk22, ti23, zk23, ti25, zk25, ti32, zk32, ti33, zk33, ti35, zk35, ti37, zk37, ti39, zk39, ti40, zk40, ti44, zk44, ti50, zk50, ti58, zk58, ti60, zk60, ti61, zk61, ti68, zk68, ti74, zk74, ti75, zk75, ti76, zk76, ti78, zk78, ↓reduceIte, or_false, false_or, Nat.reduceEqDiff, Nat.reduceBNe, Nat.reduceBEq, Bool.false_eq_true, Nat.reduceAdd, Nat.zero_add, Nat.add_zero, List.contains_cons, List.contains_nil, Bool.or_false, Bool.or_true, Bool.false_or, Bool.true_or, List.getElem?_cons_zero, List.getElem?_cons_succ, List.all_cons, List.all_nil, Bool.and_true, Bool.and_self, true_and, and_true, List.cons_append, List.nil_append, obAtR_some, List.length_cons, List.length_nil, List.drop_zero, List.drop_succ_cons, List.take_succ_cons, List.take_zero, Nat.reduceLeDiff, decide_true, decide_false, Bool.not_true, Bool.not_false, gdst, List.getElem?_toArray, Option.bind_some, List.map_cons, List.map_nil, List.length_map, reduceCtorEq, Nat.reduceLT, Nat.reduceMul, Nat.zero_mul, List.append_nil, List.getD_cons_zero, List.getD_cons_succ, ne_eq, not_false_eq_true, hin, hk3]
      have hr := reverse_v id (l.map encB1) m hid (fun x hx => by obtain ⟨p, _, rfl⟩ := List.mem_map.1 hx; exact ⟨rfl, rfl⟩) (by simp; omega)
      rw [List.length_map] at hr
      refine sCall_v [] _ rfl (by simp [keys]) hr ?_
      rintro _ _ m' hm' _ ⟨rfl, rfl⟩
      dsimp only at hm'
      rw [← List.map_reverse]
      simp only [go_sem, ti3, zk3, ti4, zk4, ti5, zk5, ti9, zk9, ti22, zk22, ti23, zk23, ti25, zk25, ti32, zk32, ti33, zk33, ti35, zk35, ti37, zk37, ti39, zk39, ti40, zk40, ti44, zk44, ti50, zk50, ti58, zk58, ti60, zk60, ti61, zk61, ti68, zk68, ti74, zk74, ti75, zk75, ti76, zk76, ti78, zk78, ↓reduceIte, or_false, false_or, Nat.reduceEqDiff, Nat.reduceBNe, Nat.reduceBEq, Bool.false_eq_true, Nat.reduceAdd, Nat.zero_add, Nat.add_zero, List.contains_cons, List.contains_nil, Bool.or_false, Bool.or_true, Bool.false_or, Bool.true_or, List.getElem?_cons_zero, List.getElem?_cons_succ, List.all_cons, List.all_nil, Bool.and_true, Bool.and_self, true_and, and_true, List.cons_append, List.nil_append, obAtR_some, List.length_cons, List.length_nil, List.drop_zero, List.drop_succ_cons, List.take_succ_cons, List.take_zero, Nat.reduceLeDiff, decide_true, decide_false, Bool.not_true, Bool.not_false, gdst, List.getElem?_toArray, Option.bind_some, List.map_cons, List.map_nil, List.length_map, reduceCtorEq, Nat.reduceLT, Nat.reduceMul, Nat.zero_mul, List.append_nil, List.getD_cons_zero, List.getD_cons_succ, ne_eq, not_false_eq_true]
      refine retW_same (.inl rfl) (out := .tup [.rsl id 0 l.length, avB true]) (by simp [retAV, resAV, get, avB]) ?_
      rw [wayPost, ← hw, if_neg (by simp only; omega)]
      exact ⟨id, hid0, by dsimp only; omega, rfl, rfl⟩

def encB (p : ByteArray × Int) : List AV := [avS p.1, avS ⟨#[]⟩, avI p.2, .sl false [] []]
def wayOut (us : List Int) (vs : List ByteArray) (k : Int) : AV :=
  if k < 0 ∨ 0 < (wayA us vs vs.length k []).2 then .tup [.sl true [] [], .val (.bool false)]
  else .tup [.sl false ((wayA us vs vs.length k []).1.reverse.map encB) [], .val (.bool true)]
theorem free_encB (p : ByteArray × Int) : ∀ y ∈ encB p, Free y := by
  simp only [encB, List.mem_cons, List.not_mem_nil, or_false]
  rintro y (rfl | rfl | rfl | rfl)
  · exact free_val _
  · exact free_val _
  · exact free_val _
  · exact free_sl (by simp)
theorem free_tf : Free (.tup [.sl true [] [], .val (.bool false)]) := free_tup (by
  simp only [List.mem_cons, List.not_mem_nil, or_false]
  rintro c (rfl | rfl)
  · exact free_sl (by simp)
  · exact free_val _)
theorem free_tb (l : List (ByteArray × Int)) : Free (.tup [.sl false (l.map encB) [], .val (.bool true)]) := free_tup (by
  simp only [List.mem_cons, List.not_mem_nil, or_false]
  rintro c (rfl | rfl)
  · exact free_sl (by simp only [List.append_nil, List.mem_map]; rintro e ⟨p, _, rfl⟩; exact free_encB p)
  · exact free_val _)
/-- Binds that nobody writes any more. -/
theorem vw_binds {F : Nat → Prop} {H : Nat → Option Ob} {id n : Nat} {f : Bool} {l : List (ByteArray × Int)} (hF : f = false → F id) (hid : H id = some (.cells f (l.map encB1))) (hn : n = l.length) : Vw F H (.rsl id 0 n) (.sl false (l.map encB) []) := by
  subst hn
  refine vw_rsl' hF hid (by simp) (by simp) (fun t h => by simp [encB, encB1]) fun t h j hj => ?_
  have hj' : j < 4 := by simpa [encB] using hj
  simp only [List.getElem_map, Nat.zero_add, encB, encB1]
  match j, hj' with
  | 0, _ => exact vw_refl _
  | 1, _ => exact vw_refl _
  | 2, _ => exact vw_refl _
  | 3, _ => exact vw_room
theorem way_fn (us : List Int) (vs : List ByteArray) (k : Int) (hu : us.length ≤ 1048576) (hv : vs.length ≤ 1048576) (hk : -9223372036854775808 ≤ k ∧ k ≤ 9223372036854775807) :
    Fn Try.prog 9 [slI us, slS vs, avI k] (wayOut us vs k) := by
  have hs : ∃ c, (Try.f9).body = some c := Option.isSome_iff_exists.1 (by kernel_rfl)
  obtain ⟨c, hc⟩ := hs
  refine Fn.of_callV (enters_of' (fn := Try.f9) (by kernel_rfl) (by kernel_rfl) hc) (by simp [free_slI, free_slS, free_avI]) (by unfold wayOut; split; exact free_tf; exact free_tb _) ((way_v us vs k 0 hu hv hk).mono ?_)
  intro o h nx' _ hp
  unfold wayPost at hp
  unfold wayOut
  split at hp
  · rename_i hc; rw [if_pos hc, hp.1]; exact vw_refl _
  · rename_i hc
    obtain ⟨id, _, _, rfl, rfl⟩ := hp
    rw [if_neg hc]
    refine vw_tup rfl fun j h1 h2 => ?_
    have hj : j = 0 ∨ j = 1 := by simp at h1; omega
    rcases hj with rfl | rfl
    · exact vw_binds (f := false) (fun _ => trivial) (by simp [hget]) (by simp)
    · exact vw_refl _
end Go.Bw
