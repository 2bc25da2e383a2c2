/- A walk of functions that the law reaches: what each call comes to. -/
import Derived.Test.YtldlldamnliejaaU17i
set_option linter.unusedSimpArgs false
set_option maxRecDepth 100000
namespace Go.Bw
open Go Go.Proofs
attribute [local go_sem] W_seq W_block W_skip W_exit W_ret W_cond WC_true WC_false kont_nil kont_seq kont_seq_ret kont_seq_exit kont_block kont_block_ret kont_block_exit kont_loop kont_loop_ret kont_loop_exit WG_tt WG_ff WG_tf WG_ft r_move r_assign r_pick r_extract r_makeFunc r_fieldAddr r_load r_store r_box r_alloc r_indexAddr r_binOp r_unOp r_call r_len r_max r_min r_append r_build r_buildSlice r_makeSlice e_tmp e_int e_bool e_string e_nil e_func l_pick_t l_pick_f l_pick l_field_ref l_field_fptr l_load_ref l_loadR l_loadP pack_t pack_f obAt_some l_store l_storeO l_storeR l_index_sl l_index_rsl l_indexF l_indexR l_indexO l_len_sl l_len_rsl l_len_str l_bin_i l_bin_s l_bin_b l_not l_neg l_add l_sub l_mul l_quo l_rem l_eql l_neq l_lss l_leq l_gtr l_geq l_seql l_sneq l_slss l_sleq l_sgtr l_sgeq l_beql l_bneq l_extract c_agg c_val c_sl c_rsl c_ref c_clo o_int o_string o_bool o_sl o_rsl o_ref o_fptr o_clo get_cons' get_nil hget_cons gc_nil gc_cons put_some put_none gAV_def l_max l_min fillA_nil fillA_cons fillR_some place_eq placeR_some l_build l_buildR l_buildSlice l_buildSliceR l_make l_append l_appendP l_appendS_sl l_appendS_rsl l_appendO slV_sl slV_rsl slVR_some slIds_sl slIds_rsl chunks_zero chunks_one chunks_two rep0_one rep0_two WG_undef l_load_fptr W_region_t W_region_f WO_nil WO_none WO_some KO_eq foot_t WS_nil WS_none WS_some WSG_tt WSG_ff WSG_tf WSG_ft WSG_undef KS_eq set_some set_none KD_eq q_move q_assign q_pick q_extract q_makeFunc q_fieldAddr q_load q_store q_box q_alloc q_indexAddr q_unOp q_bi_len q_bi_max q_bi_min q_bi_append q_bi_copy q_bi_clear q_bi_delete q_build q_buildSlice q_makeSlice q_index q_convert q_nilCheck q_slice q_range q_next q_entry q_field q_makeMap q_lookup q_mapUpdate q_mapEntry q_entryStore q_makeInterface q_typeAssert q_bin_t q_bin_g q_bin_f q_bin_i q_bin_s q_bin_b q_bin_p q_bin_n q_bin_ni q_bin_m q_call q_nil q_cap n_int n_str n_bool n_ref_eql n_ref_neq n_fptr_eql n_fptr_neq n_nilp_eql n_nilp_neq n_clo_eql n_clo_neq n_nilf_eql n_nilf_neq b_ref b_fptr b_clo b_nilp b_nilf e_ptr e_nilf l_indexS l_conv_i l_conv_s ok_ref ok_fptr ok_clo io_none io_some l_slice_sl l_slice_rsl l_slice_str l_sliceS l_sliceS3 l_sliceR r_index r_convert r_nilCheck r_slice allSz_eq l_buildX0 sNil_cons_eql sNil_cons_neq sNil_nil sNil_nil_neq l_buildXs c_clo2 c_fptr c_mp c_it c_ifc o_mp o_it o_ifc o_nilf o_nilp

theorem restK_pos (n : Nat) : ∀ (c : Nat) (k : Int), 0 ≤ k → (0 < restK n c k ↔ ((n : Int) + 1) ^ c ≤ k) := by
  intro c
  induction c with
  | zero => intro k hk; simp only [restK, Int.pow_zero]; omega
  | succ c ih =>
    intro k hk
    rw [restK, ih _ (Int.tdiv_nonneg hk (by omega)), Int.tdiv_eq_ediv_of_nonneg hk, Int.le_ediv_iff_mul_le (by omega), Int.pow_succ]
theorem pow_one_le (n c : Nat) : (1 : Int) ≤ ((n : Int) + 1) ^ c := by
  have : (0 : Int) < ((n : Int) + 1) ^ c := Int.pow_pos (by omega)
  omega
theorem manyP_eq (n : Nat) (most : Int) (hm : 1 ≤ most) : ∀ (c : Nat) (acc : Int), 1 ≤ acc → manyP n c acc most = min (acc * ((n : Int) + 1) ^ c) most := by
  intro c
  induction c with
  | zero => intro acc h; simp only [manyP, Int.pow_zero, Int.mul_one]; omega
  | succ c ih =>
    intro acc h
    rw [manyP]
    have hp := pow_one_le n c
    have e : acc * ((n : Int) + 1) ^ (c + 1) = acc * (n + 1) * ((n : Int) + 1) ^ c := by rw [Int.pow_succ, Int.mul_assoc, Int.mul_comm ((n : Int) + 1)]
    have hmul : acc * (n + 1) * 1 ≤ acc * (n + 1) * ((n : Int) + 1) ^ c := Int.mul_le_mul_of_nonneg_left hp (Int.mul_nonneg (by omega) (by omega))
    split
    · rename_i hc
      have h2 : most.tdiv (n + 1) < acc := by omega
      rw [Int.tdiv_eq_ediv_of_nonneg (by omega), Int.ediv_lt_iff_lt_mul (by omega)] at h2
      rw [e]
      omega
    · rw [ih _ (by have := Int.mul_le_mul_of_nonneg_left (show (1 : Int) ≤ n + 1 by omega) (show 0 ≤ acc by omega); omega), e]
/-- How many ways there are. -/
def total (us : List Int) (vs : List ByteArray) : Int := ((us.length : Int) + 1) ^ vs.length
theorem total_pos (us : List Int) (vs : List ByteArray) : 1 ≤ total us vs := pow_one_le _ _
theorem way_iff (us : List Int) (vs : List ByteArray) (i : Nat) : 0 < (wayA us vs vs.length i []).2 ↔ total us vs ≤ i := by
  rw [(wayA_digits us vs vs.length i [] [] (by omega) (by simp) (by simp [bindsD])).1, restK_pos _ _ _ (by omega)]; rfl
theorem way_zero (us : List Int) (vs : List ByteArray) : ∀ c, (wayA us vs c 0 []).1 = [] := by
  intro c
  induction c with
  | zero => rfl
  | succ c ih => rw [wayA]; simpa using ih

def goesH (us : List Int) (vs : List ByteArray) (most i : Int) : Heap := [(5, some (.cells false [[avI i]])), (4, some (.cells false [[.clo (.func 27) [] [.fptr [slI us], .fptr [slS vs]]]])), (2, some (.cells false [[avI most]])), (1, some (.cells false [[slS vs]])), (0, some (.cells false [[slI us]])), (3, some (.cells false [[avB false]]))]

def goesT (us : List Int) (vs : List ByteArray) : List (Nat × AV) := [(27, .clo (.func 27) [] [.fptr [slI us], .fptr [slS vs]]), (9, .ref 5 0 0), (8, .ref 4 0 0), (7, avB true), (6, .ref 3 0 0), (5, .ref 2 0 0), (4, .ref 1 0 0), (3, .ref 0 0 0)]

def goesT2 : List (Nat × AV) := [(9, .ref 5 0 0), (8, .ref 4 0 0), (7, avB true), (6, .ref 3 0 0), (5, .ref 2 0 0), (4, .ref 1 0 0), (3, .ref 0 0 0)]
theorem allG_some {us : List Int} {vs : List ByteArray} {i : Nat} {D : Give} {xs : List AV} {g : Heap} {m m' : Nat} (hD : allG us vs i = some D) (hx : D xs g m m') :
    ∃ id, m ≤ id ∧ id < m' ∧ xs = [.rsl id 0 (wayA us vs vs.length i []).1.length] ∧ g = [(id, some (.cells false ((wayA us vs vs.length i []).1.reverse.map encB1)))] := by
  unfold allG at hD
  split at hD
  · cases hD
  cases hD
  exact hx
theorem allG_len (us : List Int) (vs : List ByteArray) : ∀ i D xs g m m', allG us vs i = some D → D xs g m m' → xs.length = 1 ∧ ∀ id ∈ keys g, m ≤ id := by
  rintro i D xs g m m' hD hx
  obtain ⟨id, h1, h2, rfl, rfl⟩ := allG_some hD hx
  exact ⟨rfl, by simpa [keys] using h1⟩

theorem goes_fn (us : List Int) (vs : List ByteArray) (most : Int) (hu : us.length ≤ 1048576) (hv : vs.length ≤ 1048576) (hm : -9223372036854775808 ≤ most ∧ most ≤ 9223372036854775807) :
    Fn Try.prog 5 [slI us, slS vs, avI most] (avB true) := by
  refine Fn.walk (fn := Try.f5) [0, 1, 2, 3, 4, 5, 6, 7, 8, 9, 10, 11, 12, 13, 14, 28, 57] [.cell 6 4] (by kernel_rfl) (by kernel_rfl) (by kernel_rfl) (by kernel_rfl) (by kernel_rfl) (by simp [Try.f5]) (by simp [free_slI, free_slS, free_avI]) ?_
  simp only [body, Option.getD_some, enter, List.nil_append, List.append_nil, List.cons_append, List.zipIdx_cons, List.zipIdx_nil, List.map_cons, List.map_nil, Nat.reduceAdd, Nat.zero_add, Try.f5, slI, slS, avI, avB]
  simp only [go_sem, ti3, zk3, ti4, zk4, ti5, zk5, ti9, zk9, ti22, zk22, ti23, zk23, ti25, zk25, ti32, zk32, ti33, zk33, ti35, zk35, ti37, zk37, ti39, zk39, ti40, zk40, ti44, zk44, ti50, zk50, ti58, zk58, ti60, zk60, ti61, zk61, ti68, zk68, ti74, zk74, ti75, zk75, ti76, zk76, ti78, zk78, ↓reduceIte, or_false, false_or, Nat.reduceEqDiff, Nat.reduceBNe, Nat.reduceBEq, Bool.false_eq_true, Nat.reduceAdd, Nat.zero_add, Nat.add_zero, List.contains_cons, List.contains_nil, Bool.or_false, Bool.or_true, Bool.false_or, Bool.true_or, List.getElem?_cons_zero, List.getElem?_cons_succ, List.all_cons, List.all_nil, Bool.and_true, Bool.and_self, true_and, and_true, List.cons_append, List.nil_append, obAtR_some, List.length_cons, List.length_nil, List.drop_zero, List.drop_succ_cons, List.take_succ_cons, List.take_zero, Nat.reduceLeDiff, decide_true, decide_false, Bool.not_true, Bool.not_false, gdst, List.getElem?_toArray, Option.bind_some, List.map_cons, List.map_nil, List.length_map, reduceCtorEq, Nat.reduceLT, Nat.reduceMul, Nat.zero_mul, List.append_nil, List.getD_cons_zero, List.getD_cons_succ, ne_eq, not_false_eq_true]
  first | refine sCall_f (head_fn) ?_ | refine aCall_f (head_fn) ?_
  simp only [go_sem, ti3, zk3, ti4, zk4, ti5, zk5, ti9, zk9, ti22, zk22, ti23, zk23, ti25, zk25, ti32, zk32, ti33, zk33, ti35, zk35, ti37, zk37, ti39, zk39, ti40, zk40, ti44, zk44, ti50, zk50, ti58, zk58, ti60, zk60, ti61, zk61, ti68, zk68, ti74, zk74, ti75, zk75, ti76, zk76, ti78, zk78, ↓reduceIte, or_false, false_or, Nat.reduceEqDiff, Nat.reduceBNe, Nat.reduceBEq, Bool.false_eq_true, Nat.reduceAdd, Nat.zero_add, Nat.add_zero, List.contains_cons, List.contains_nil, Bool.or_false, Bool.or_true, Bool.false_or, Bool.true_or, List.getElem?_cons_zero, List.getElem?_cons_succ, List.all_cons, List.all_nil, Bool.and_true, Bool.and_self, true_and, and_true, List.cons_append, List.nil_append, obAtR_some, List.length_cons, List.length_nil, List.drop_zero, List.drop_succ_cons, List.take_succ_cons, List.take_zero, Nat.reduceLeDiff, decide_true, decide_false, Bool.not_true, Bool.not_false, gdst, List.getElem?_toArray, Option.bind_some, List.map_cons, List.map_nil, List.length_map, reduceCtorEq, Nat.reduceLT, Nat.reduceMul, Nat.zero_mul, List.append_nil, List.getD_cons_zero, List.getD_cons_succ, ne_eq, not_false_eq_true]
  refine Decidable.byCases (p := most < 1) (fun c1 => ?g1) (fun c1 => Decidable.byCases (p := most > 200) (fun c2 => ?g2) (fun c2 => ?g3))
  case' g1 => simp only [go_sem, ti3, zk3, ti4, zk4, ti5, zk5, ti9, zk9, ti22, zk22, ti23, zk23, ti25, zk25, ti32, zk32, ti33, zk33, ti35, zk35, ti37, zk37, ti39, zk39, ti40, zk40, ti44, zk44, ti50, zk50, ti58, zk58, ti60, zk60, ti61, zk61, ti68, zk68, ti74, zk74, ti75, zk75, ti76, zk76, ti78, zk78, ↓reduceIte, or_false, false_or, Nat.reduceEqDiff, Nat.reduceBNe, Nat.reduceBEq, Bool.false_eq_true, Nat.reduceAdd, Nat.zero_add, Nat.add_zero, List.contains_cons, List.contains_nil, Bool.or_false, Bool.or_true, Bool.false_or, Bool.true_or, List.getElem?_cons_zero, List.getElem?_cons_succ, List.all_cons, List.all_nil, Bool.and_true, Bool.and_self, true_and, and_true, List.cons_append, List.nil_append, obAtR_some, List.length_cons, List.length_nil, List.drop_zero, List.drop_succ_cons, List.take_succ_cons, List.take_zero, Nat.reduceLeDiff, decide_true, decide_false, Bool.not_true, Bool.not_false, gdst, List.getElem?_toArray, Option.bind_some, List.map_cons, List.map_nil, List.length_map, reduceCtorEq, Nat.reduceLT, Nat.reduceMul, Nat.zero_mul, List.append_nil, List.getD_cons_zero, List.getD_cons_succ, ne_eq, not_false_eq_true, c1]; generalize hM : (200 : Int) = mst; have hm1 : 1 ≤ mst ∧ mst ≤ 200 := ⟨by omega, by omega⟩
  case' g2 => simp only [go_sem, ti3, zk3, ti4, zk4, ti5, zk5, ti9, zk9, ti22, zk22, ti23, zk23, ti25, zk25, ti32, zk32, ti33, zk33, ti35, zk35, ti37, zk37, ti39, zk39, ti40, zk40, ti44, zk44, ti50, zk50, ti58, zk58, ti60, zk60, ti61, zk61, ti68, zk68, ti74, zk74, ti75, zk75, ti76, zk76, ti78, zk78, ↓reduceIte, or_false, false_or, Nat.reduceEqDiff, Nat.reduceBNe, Nat.reduceBEq, Bool.false_eq_true, Nat.reduceAdd, Nat.zero_add, Nat.add_zero, List.contains_cons, List.contains_nil, Bool.or_false, Bool.or_true, Bool.false_or, Bool.true_or, List.getElem?_cons_zero, List.getElem?_cons_succ, List.all_cons, List.all_nil, Bool.and_true, Bool.and_self, true_and, and_true, List.cons_append, List.nil_append, obAtR_some, List.length_cons, List.length_nil, List.drop_zero, List.drop_succ_cons, List.take_succ_cons, List.take_zero, Nat.reduceLeDiff, decide_true, decide_false, Bool.not_true, Bool.not_false, gdst, List.getElem?_toArray, Option.bind_some, List.map_cons, List.map_nil, List.length_map, reduceCtorEq, Nat.reduceLT, Nat.reduceMul, Nat.zero_mul, List.append_nil, List.getD_cons_zero, List.getD_cons_succ, ne_eq, not_false_eq_true, c1, c2]; generalize hM : (200 : Int) = mst; have hm1 : 1 ≤ mst ∧ mst ≤ 200 := ⟨by omega, by omega⟩
  case' g3 => simp only [go_sem, ti3, zk3, ti4, zk4, ti5, zk5, ti9, zk9, ti22, zk22, ti23, zk23, ti25, zk25, ti32, zk32, ti33, zk33, ti35, zk35, ti37, zk37, ti39, zk39, ti40, zk40, ti44, zk44, ti50, zk50, ti58, zk58, ti60, zk60, ti61, zk61, ti68, zk68, ti74, zk74, ti75, zk75, ti76, zk76, ti78, zk78, ↓reduceIte, or_false, false_or, Nat.reduceEqDiff, Nat.reduceBNe, Nat.reduceBEq, Bool.false_eq_true, Nat.reduceAdd, Nat.zero_add, Nat.add_zero, List.contains_cons, List.contains_nil, Bool.or_false, Bool.or_true, Bool.false_or, Bool.true_or, List.getElem?_cons_zero, List.getElem?_cons_succ, List.all_cons, List.all_nil, Bool.and_true, Bool.and_self, true_and, and_true, List.cons_append, List.nil_append, obAtR_some, List.length_cons, List.length_nil, List.drop_zero, List.drop_succ_cons, List.take_succ_cons, List.take_zero, Nat.reduceLeDiff, decide_true, decide_false, Bool.not_true, Bool.not_false, gdst, List.getElem?_toArray, Option.bind_some, List.map_cons, List.map_nil, List.length_map, reduceCtorEq, Nat.reduceLT, Nat.reduceMul, Nat.zero_mul, List.append_nil, List.getD_cons_zero, List.getD_cons_succ, ne_eq, not_false_eq_true, c1, c2]; generalize hM : most = mst; have hm1 : 1 ≤ mst ∧ mst ≤ 200 := ⟨by omega, by omega⟩
  all_goals
    clear hM
    refine sCall_f (all_fn us vs hu hv) ?_
    simp only [slI, slS, avI]
    simp only [go_sem, ti3, zk3, ti4, zk4, ti5, zk5, ti9, zk9, ti22, zk22, ti23, zk23, ti25, zk25, ti32, zk32, ti33, zk33, ti35, zk35, ti37, zk37, ti39, zk39, ti40, zk40, ti44, zk44, ti50, zk50, ti58, zk58, ti60, zk60, ti61, zk61, ti68, zk68, ti74, zk74, ti75, zk75, ti76, zk76, ti78, zk78, ↓reduceIte, or_false, false_or, Nat.reduceEqDiff, Nat.reduceBNe, Nat.reduceBEq, Bool.false_eq_true, Nat.reduceAdd, Nat.zero_add, Nat.add_zero, List.contains_cons, List.contains_nil, Bool.or_false, Bool.or_true, Bool.false_or, Bool.true_or, List.getElem?_cons_zero, List.getElem?_cons_succ, List.all_cons, List.all_nil, Bool.and_true, Bool.and_self, true_and, and_true, List.cons_append, List.nil_append, obAtR_some, List.length_cons, List.length_nil, List.drop_zero, List.drop_succ_cons, List.take_succ_cons, List.take_zero, Nat.reduceLeDiff, decide_true, decide_false, Bool.not_true, Bool.not_false, gdst, List.getElem?_toArray, Option.bind_some, List.map_cons, List.map_nil, List.length_map, reduceCtorEq, Nat.reduceLT, Nat.reduceMul, Nat.zero_mul, List.append_nil, List.getD_cons_zero, List.getD_cons_succ, ne_eq, not_false_eq_true, splice, List.set_cons_zero]
    have hallG : ∀ i : Nat, allG us vs i = none ∨ allG us vs i = some _ := fun i => by unfold allG; split; exact .inl rfl; exact .inr rfl
    refine W_range (gn := Try.f27) ⟨goesT us vs, goesH us vs mst 0, 6⟩ (Le.th _ _ _ (Nat.le_refl _) (by simp [goesT, get, slI, slS, avI, avS, avB]) (by simp [goesH, hget, slI, slS, avI, avS, avB])) (all_seq us vs hu hv) rfl rfl (by kernel_rfl) (by kernel_rfl) (by kernel_rfl) 201
      (fun i h m => h = goesH us vs mst i ∧ 6 ≤ m ∧ (i : Int) < mst ∧ (i : Int) ≤ total us vs) (fun _ _ => False) (fun id h m => id = 0 ∧ h = goesH us vs mst mst ∧ 6 ≤ m ∧ mst ≤ total us vs) (by decide) ?_ ?_ ?_ ?_ ?_ ?_ ?_ ?_ ?_
    · rintro i _ m ⟨rfl, _, h, _⟩
      omega
    · rintro i hh m m' ⟨rfl, h1, h2⟩ hle
      exact ⟨rfl, by omega, h2⟩
    · rintro i hh m ⟨rfl, h1, h2⟩ id hp
      simp only [goesH, keys, List.map_cons, List.map_nil, List.mem_cons, List.not_mem_nil, or_false] at hp
      omega
    · intro _
      have := total_pos us vs
      exact ⟨rfl, by dsimp only; omega, by omega, by omega⟩
    · exact allG_len us vs
    · rintro M i hh m D xs g m' ⟨rfl, h1, h2, h3⟩ hD hle hx hnone hlt
      unfold allG at hD
      split at hD
      · cases hD
      rename_i hlt2
      cases hD
      obtain ⟨id, hid1, hid2, rfl, rfl⟩ := hx
      simp only [goesT, goesH, slI, slS, avI, avB, roundT, List.zip_cons_cons, List.zip_nil_right, List.reverse_cons, List.reverse_nil]
      dsimp only at hlt
      have n0 : ¬ 0 = id := by omega
      have n1 : ¬ 1 = id := by omega
      have n2 : ¬ 2 = id := by omega
      have n3 : ¬ 3 = id := by omega
      have n4 : ¬ 4 = id := by omega
      have n5 : ¬ 5 = id := by omega
      simp only [go_sem, ti3, zk3, ti4, zk4, ti5, zk5, ti9, zk9, ti22, zk22, ti23, zk23, ti25, zk25, ti32, zk32, ti33, zk33, ti35, zk35, ti37, zk37, ti39, zk39, ti40, zk40, ti44, zk44, ti50, zk50, ti58, zk58, ti60, zk60, ti61, zk61, ti68, zk68, ti74, zk74, ti75, zk75, ti76, zk76, ti78, zk78, ↓reduceIte, or_false, false_or, Nat.reduceEqDiff, Nat.reduceBNe, Nat.reduceBEq, Bool.false_eq_true, Nat.reduceAdd, Nat.zero_add, Nat.add_zero, List.contains_cons, List.contains_nil, Bool.or_false, Bool.or_true, Bool.false_or, Bool.true_or, List.getElem?_cons_zero, List.getElem?_cons_succ, List.all_cons, List.all_nil, Bool.and_true, Bool.and_self, true_and, and_true, List.cons_append, List.nil_append, obAtR_some, List.length_cons, List.length_nil, List.drop_zero, List.drop_succ_cons, List.take_succ_cons, List.take_zero, Nat.reduceLeDiff, decide_true, decide_false, Bool.not_true, Bool.not_false, gdst, List.getElem?_toArray, Option.bind_some, List.map_cons, List.map_nil, List.length_map, reduceCtorEq, Nat.reduceLT, Nat.reduceMul, Nat.zero_mul, List.append_nil, List.getD_cons_zero, List.getD_cons_succ, ne_eq, not_false_eq_true, n0, n1, n2, n3, n4, n5]
      refine sCall_f (wayR_fn us vs i hu hv ⟨by omega, by omega⟩) ?_
      rw [wayOut, if_neg (by omega)]
      generalize hl : (wayA us vs vs.length i []).1.reverse = l at *
      have hln : (wayA us vs vs.length i []).1.length = l.length := by rw [← hl, List.length_reverse]
      have hlen : l.length ≤ 1048576 := by rw [← hln]; have := wayA_len us vs vs.length i []; simp only [List.length_nil] at this; omega
      rw [hln]
      simp only [go_sem, ti3, zk3, ti4, zk4, ti5, zk5, ti9, zk9, ti22, zk22, ti23, zk23, ti25, zk25, ti32, zk32, ti33, zk33, ti35, zk35, ti37, zk37, ti39, zk39, ti40, zk40, ti44, zk44, ti50, zk50, ti58, zk58, ti60, zk60, ti61, zk61, ti68, zk68, ti74, zk74, ti75, zk75, ti76, zk76, ti78, zk78, ↓reduceIte, or_false, false_or, Nat.reduceEqDiff, Nat.reduceBNe, Nat.reduceBEq, Bool.false_eq_true, Nat.reduceAdd, Nat.zero_add, Nat.add_zero, List.contains_cons, List.contains_nil, Bool.or_false, Bool.or_true, Bool.false_or, Bool.true_or, List.getElem?_cons_zero, List.getElem?_cons_succ, List.all_cons, List.all_nil, Bool.and_true, Bool.and_self, true_and, and_true, List.cons_append, List.nil_append, obAtR_some, List.length_cons, List.length_nil, List.drop_zero, List.drop_succ_cons, List.take_succ_cons, List.take_zero, Nat.reduceLeDiff, decide_true, decide_false, Bool.not_true, Bool.not_false, gdst, List.getElem?_toArray, Option.bind_some, List.map_cons, List.map_nil, List.length_map, reduceCtorEq, Nat.reduceLT, Nat.reduceMul, Nat.zero_mul, List.append_nil, List.getD_cons_zero, List.getD_cons_succ, ne_eq, not_false_eq_true]
      refine sCall_bv [.sl false (l.map encB) [], .sl false (l.map encB) []] rfl (fun j h1 h2 => ?_) (same_leaf false false l (by omega)) (flat_val _) ?_
      · have hj : j = 0 ∨ j = 1 := by simp at h2; omega
        rcases hj with rfl | rfl
        · exact vw_binds (f := false) (fun _ => trivial) (by simp [hget]) rfl
        · exact vw_refl _
      simp only [go_sem, ti3, zk3, ti4, zk4, ti5, zk5, ti9, zk9, ti22, zk22, ti23, zk23, ti25, zk25, ti32, zk32, ti33, zk33, ti35, zk35, ti37, zk37, ti39, zk39, ti40, zk40, ti44, zk44, ti50, zk50, ti58, zk58, ti60, zk60, ti61, zk61, ti68, zk68, ti74, zk74, ti75, zk75, ti76, zk76, ti78, zk78, ↓reduceIte, or_false, false_or, Nat.reduceEqDiff, Nat.reduceBNe, Nat.reduceBEq, Bool.false_eq_true, Nat.reduceAdd, Nat.zero_add, Nat.add_zero, List.contains_cons, List.contains_nil, Bool.or_false, Bool.or_true, Bool.false_or, Bool.true_or, List.getElem?_cons_zero, List.getElem?_cons_succ, List.all_cons, List.all_nil, Bool.and_true, Bool.and_self, true_and, and_true, List.cons_append, List.nil_append, obAtR_some, List.length_cons, List.length_nil, List.drop_zero, List.drop_succ_cons, List.take_succ_cons, List.take_zero, Nat.reduceLeDiff, decide_true, decide_false, Bool.not_true, Bool.not_false, gdst, List.getElem?_toArray, Option.bind_some, List.map_cons, List.map_nil, List.length_map, reduceCtorEq, Nat.reduceLT, Nat.reduceMul, Nat.zero_mul, List.append_nil, List.getD_cons_zero, List.getD_cons_succ, ne_eq, not_false_eq_true]
      refine W_loopH (fun (p : Nat × List (List AV)) => [(13, avI p.1)]) (fun p => (id, some (.cells false p.2)) :: goesH us vs mst i) (fun _ => m')
        (fun n p => p.1 + n = l.length ∧ p.2.length = l.length ∧ ∀ x ∈ p.2, x.length = 4 ∧ x.all AV.one = true) l.length (0, l.map encB1) ⟨by simp, by simp, fun x hx => by obtain ⟨q, _, rfl⟩ := List.mem_map.1 hx; exact ⟨rfl, rfl⟩⟩ (by simp [OnT, gc, get, hget, inDom, avI, avS, avB, slI, slS]) (by simp [goesH, hget, n0, n1, n2, n3, n4, n5, slI, slS, avI, avS, avB]) (Nat.le_refl _) ?_
      rintro n ⟨k, es⟩ ⟨hk, hel, hes⟩
      dsimp only at hk hel hes
      simp only [goesH, slI, slS, avI, avS, avB]
      simp only [go_sem, ti3, zk3, ti4, zk4, ti5, zk5, ti9, zk9, ti22, zk22, ti23, zk23, ti25, zk25, ti32, zk32, ti33, zk33, ti35, zk35, ti37, zk37, ti39, zk39, ti40, zk40, ti44, zk44, ti50, zk50, ti58, zk58, ti60, zk60, ti61, zk61, ti68, zk68, ti74, zk74, ti75, zk75, ti76, zk76, ti78, zk78, ↓reduceIte, or_false, false_or, Nat.reduceEqDiff, Nat.reduceBNe, Nat.reduceBEq, Bool.false_eq_true, Nat.reduceAdd, Nat.zero_add, Nat.add_zero, List.contains_cons, List.contains_nil, Bool.or_false, Bool.or_true, Bool.false_or, Bool.true_or, List.getElem?_cons_zero, List.getElem?_cons_succ, List.all_cons, List.all_nil, Bool.and_true, Bool.and_self, true_and, and_true, List.cons_append, List.nil_append, obAtR_some, List.length_cons, List.length_nil, List.drop_zero, List.drop_succ_cons, List.take_succ_cons, List.take_zero, Nat.reduceLeDiff, decide_true, decide_false, Bool.not_true, Bool.not_false, gdst, List.getElem?_toArray, Option.bind_some, List.map_cons, List.map_nil, List.length_map, reduceCtorEq, Nat.reduceLT, Nat.reduceMul, Nat.zero_mul, List.append_nil, List.getD_cons_zero, List.getD_cons_succ, ne_eq, not_false_eq_true]
      by_cases hkl : (k : Int) < l.length
      · obtain ⟨x, hx⟩ : ∃ x, es[k]? = some x := ⟨es[k]'(by omega), List.getElem?_eq_getElem (by omega)⟩
        have hxm := List.mem_of_getElem? hx
        obtain ⟨x0, x1, x2, x3, rfl⟩ : ∃ a b c d, x = [a, b, c, d] := by
          have := (hes x hxm).1
          match x, this with
          | [a, b, c, d], _ => exact ⟨a, b, c, d, rfl⟩
        have wk : IntKind.i64.wrap ((k : Int) + 1) = ((k + 1 : Nat) : Int) := by rw [wrap_id (by omega) (by omega)]; omega
        have hkn : (0 : Int) ≤ k := by omega
        simp only [go_sem, ti3, zk3, ti4, zk4, ti5, zk5, ti9, zk9, ti22, zk22, ti23, zk23, ti25, zk25, ti32, zk32, ti33, zk33, ti35, zk35, ti37, zk37, ti39, zk39, ti40, zk40, ti44, zk44, ti50, zk50, ti58, zk58, ti60, zk60, ti61, zk61, ti68, zk68, ti74, zk74, ti75, zk75, ti76, zk76, ti78, zk78, ↓reduceIte, or_false, false_or, Nat.reduceEqDiff, Nat.reduceBNe, Nat.reduceBEq, Bool.false_eq_true, Nat.reduceAdd, Nat.zero_add, Nat.add_zero, List.contains_cons, List.contains_nil, Bool.or_false, Bool.or_true, Bool.false_or, Bool.true_or, List.getElem?_cons_zero, List.getElem?_cons_succ, List.all_cons, List.all_nil, Bool.and_true, Bool.and_self, true_and, and_true, List.cons_append, List.nil_append, obAtR_some, List.length_cons, List.length_nil, List.drop_zero, List.drop_succ_cons, List.take_succ_cons, List.take_zero, Nat.reduceLeDiff, decide_true, decide_false, Bool.not_true, Bool.not_false, gdst, List.getElem?_toArray, Option.bind_some, List.map_cons, List.map_nil, List.length_map, reduceCtorEq, Nat.reduceLT, Nat.reduceMul, Nat.zero_mul, List.append_nil, List.getD_cons_zero, List.getD_cons_succ, ne_eq, not_false_eq_true, hkl, hx, wk, hkn, Int.toNat_natCast, splice]
        have hx4 := (hes _ hxm).2
        simp only [List.all_cons, Bool.and_eq_true] at hx4
        exact nxtH (l.length - (k + 1)) (k + 1, es.set k [avS ⟨#[83, 112, 111, 105, 108, 116]⟩, x1, x2, x3]) (by omega) ⟨by dsimp only; omega, by simpa using hel, fun z hz => by
          rcases List.mem_or_eq_of_mem_set hz with h | rfl
          · exact hes z h
          · exact ⟨rfl, by simp only [List.all_cons, hx4, Bool.and_true]; rfl⟩⟩ (by simp [OnT, gc, get, hget, inDom, avI, avS, avB, slI, slS]) (by simp [hget, n0, n1, n2, n3, n4, n5, slI, slS, avI, avS, avB]) (Nat.le_refl _)
      · have wi : IntKind.i64.wrap ((i : Int) + 1) = ((i + 1 : Nat) : Int) := by rw [wrap_id (by omega) (by omega)]; omega
        have htot : ((i + 1 : Nat) : Int) ≤ total us vs := by rw [way_iff] at hlt2; omega
        by_cases hi0 : i = 0
        · subst hi0
          have e0 : ((0 : Nat) : Int) = 0 := rfl
          simp only [go_sem, ti3, zk3, ti4, zk4, ti5, zk5, ti9, zk9, ti22, zk22, ti23, zk23, ti25, zk25, ti32, zk32, ti33, zk33, ti35, zk35, ti37, zk37, ti39, zk39, ti40, zk40, ti44, zk44, ti50, zk50, ti58, zk58, ti60, zk60, ti61, zk61, ti68, zk68, ti74, zk74, ti75, zk75, ti76, zk76, ti78, zk78, ↓reduceIte, or_false, false_or, Nat.reduceEqDiff, Nat.reduceBNe, Nat.reduceBEq, Bool.false_eq_true, Nat.reduceAdd, Nat.zero_add, Nat.add_zero, List.contains_cons, List.contains_nil, Bool.or_false, Bool.or_true, Bool.false_or, Bool.true_or, List.getElem?_cons_zero, List.getElem?_cons_succ, List.all_cons, List.all_nil, Bool.and_true, Bool.and_self, true_and, and_true, List.cons_append, List.nil_append, obAtR_some, List.length_cons, List.length_nil, List.drop_zero, List.drop_succ_cons, List.take_succ_cons, List.take_zero, Nat.reduceLeDiff, decide_true, decide_false, Bool.not_true, Bool.not_false, gdst, List.getElem?_toArray, Option.bind_some, List.map_cons, List.map_nil, List.length_map, reduceCtorEq, Nat.reduceLT, Nat.reduceMul, Nat.zero_mul, List.append_nil, List.getD_cons_zero, List.getD_cons_succ, ne_eq, not_false_eq_true, hkl, e0, n0, n1, n2, n3, n4, n5]
          refine W_range (gn := Try.f27) ⟨(56, .clo (.func 27) [] [.fptr [slI us], .fptr [slS vs]]) :: goesT2, goesH us vs mst 0, m'⟩ (Le.th _ _ _ (Nat.le_refl _) (by simp [goesT2, get, slI, slS, avI, avS, avB]) (by simp [goesH, hget, n0, n1, n2, n3, n4, n5, slI, slS, avI, avS, avB])) (all_seq us vs hu hv) rfl rfl (by kernel_rfl) (by kernel_rfl) (by kernel_rfl) 201
            (fun i h m => i = 0 ∧ h = goesH us vs mst 0 ∧ 7 ≤ m) (fun _ _ => False) (fun id h m => id = 4 ∧ h = goesH us vs mst 0 ∧ 7 ≤ m) (by decide) ?_ ?_ ?_ ?_ ?_ ?_ ?_ ?_ ?_
          · rintro i _ m ⟨rfl, _⟩; omega
          · rintro i hh m m' ⟨rfl, rfl, h1⟩ hle
            exact ⟨rfl, rfl, by omega⟩
          · rintro i hh m ⟨rfl, rfl, h1⟩ id hp
            simp only [goesH, keys, List.map_cons, List.map_nil, List.mem_cons, List.not_mem_nil, or_false] at hp
            omega
          · intro _
            exact ⟨rfl, rfl, by dsimp only; omega⟩
          · exact allG_len us vs
          · rintro mst' i hh m3 D xs g m4 ⟨rfl, rfl, h7⟩ hD hle hx hnone2 hlt3
            obtain ⟨id2, hid3, hid4, rfl, rfl⟩ := allG_some hD hx
            rw [show (((0 : Nat) : Int)) = 0 from rfl, way_zero]
            simp only [goesT2, goesH, slI, slS, avI, avB, roundT, List.zip_cons_cons, List.zip_nil_right, List.reverse_cons, List.reverse_nil, List.length_nil, List.map_nil]
            have z0 : ¬ ((0 : Nat) : Int) > 0 := by omega
            simp only [go_sem, ti3, zk3, ti4, zk4, ti5, zk5, ti9, zk9, ti22, zk22, ti23, zk23, ti25, zk25, ti32, zk32, ti33, zk33, ti35, zk35, ti37, zk37, ti39, zk39, ti40, zk40, ti44, zk44, ti50, zk50, ti58, zk58, ti60, zk60, ti61, zk61, ti68, zk68, ti74, zk74, ti75, zk75, ti76, zk76, ti78, zk78, ↓reduceIte, or_false, false_or, Nat.reduceEqDiff, Nat.reduceBNe, Nat.reduceBEq, Bool.false_eq_true, Nat.reduceAdd, Nat.zero_add, Nat.add_zero, List.contains_cons, List.contains_nil, Bool.or_false, Bool.or_true, Bool.false_or, Bool.true_or, List.getElem?_cons_zero, List.getElem?_cons_succ, List.all_cons, List.all_nil, Bool.and_true, Bool.and_self, true_and, and_true, List.cons_append, List.nil_append, obAtR_some, List.length_cons, List.length_nil, List.drop_zero, List.drop_succ_cons, List.take_succ_cons, List.take_zero, Nat.reduceLeDiff, decide_true, decide_false, Bool.not_true, Bool.not_false, gdst, List.getElem?_toArray, Option.bind_some, List.map_cons, List.map_nil, List.length_map, reduceCtorEq, Nat.reduceLT, Nat.reduceMul, Nat.zero_mul, List.append_nil, List.getD_cons_zero, List.getD_cons_succ, ne_eq, not_false_eq_true, z0]
            refine RQ.exit 4 ⟨[], goesH us vs mst 0, m4⟩ (Le.th _ _ _ (Nat.le_refl _) (by simp) (by
              have k0 : ¬ 0 = id2 := by omega
              have k1 : ¬ 1 = id2 := by omega
              have k2 : ¬ 2 = id2 := by omega
              have k3 : ¬ 3 = id2 := by omega
              have k4 : ¬ 4 = id2 := by omega
              have k5 : ¬ 5 = id2 := by omega
              simp [goesH, hget, k0, k1, k2, k3, k4, k5, slI, slS, avI, avS, avB])) fun _ _ => ?_
            exact ⟨rfl, rfl, by dsimp only at *; omega⟩
          · rintro n hh m3 hn ⟨rfl, _⟩
            have := total_pos us vs
            unfold allG at hn
            split at hn
            · rename_i h; rw [way_iff] at h; omega
            · cases hn
          · rintro _ _ ⟨⟩
          · rintro id' hh m3 ⟨rfl, rfl, h7⟩
            simp only [goesT2, goesH, slI, slS, avI, avB]
            have w1 : IntKind.i64.wrap ((0 : Int) + 1) = 1 := by decide
            by_cases him : (1 : Int) = mst
            · subst him
              simp only [go_sem, ti3, zk3, ti4, zk4, ti5, zk5, ti9, zk9, ti22, zk22, ti23, zk23, ti25, zk25, ti32, zk32, ti33, zk33, ti35, zk35, ti37, zk37, ti39, zk39, ti40, zk40, ti44, zk44, ti50, zk50, ti58, zk58, ti60, zk60, ti61, zk61, ti68, zk68, ti74, zk74, ti75, zk75, ti76, zk76, ti78, zk78, ↓reduceIte, or_false, false_or, Nat.reduceEqDiff, Nat.reduceBNe, Nat.reduceBEq, Bool.false_eq_true, Nat.reduceAdd, Nat.zero_add, Nat.add_zero, List.contains_cons, List.contains_nil, Bool.or_false, Bool.or_true, Bool.false_or, Bool.true_or, List.getElem?_cons_zero, List.getElem?_cons_succ, List.all_cons, List.all_nil, Bool.and_true, Bool.and_self, true_and, and_true, List.cons_append, List.nil_append, obAtR_some, List.length_cons, List.length_nil, List.drop_zero, List.drop_succ_cons, List.take_succ_cons, List.take_zero, Nat.reduceLeDiff, decide_true, decide_false, Bool.not_true, Bool.not_false, gdst, List.getElem?_toArray, Option.bind_some, List.map_cons, List.map_nil, List.length_map, reduceCtorEq, Nat.reduceLT, Nat.reduceMul, Nat.zero_mul, List.append_nil, List.getD_cons_zero, List.getD_cons_succ, ne_eq, not_false_eq_true, w1, splice, List.set_cons_zero]
              refine RQ.exit 0 ⟨[], goesH us vs 1 1, m3⟩ (Le.th _ _ _ (Nat.le_refl _) (by simp) (by simp [goesH, hget, slI, slS, avI, avS, avB])) fun _ _ => ?_
              exact ⟨rfl, rfl, by dsimp only at *; omega, htot⟩
            · simp only [go_sem, ti3, zk3, ti4, zk4, ti5, zk5, ti9, zk9, ti22, zk22, ti23, zk23, ti25, zk25, ti32, zk32, ti33, zk33, ti35, zk35, ti37, zk37, ti39, zk39, ti40, zk40, ti44, zk44, ti50, zk50, ti58, zk58, ti60, zk60, ti61, zk61, ti68, zk68, ti74, zk74, ti75, zk75, ti76, zk76, ti78, zk78, ↓reduceIte, or_false, false_or, Nat.reduceEqDiff, Nat.reduceBNe, Nat.reduceBEq, Bool.false_eq_true, Nat.reduceAdd, Nat.zero_add, Nat.add_zero, List.contains_cons, List.contains_nil, Bool.or_false, Bool.or_true, Bool.false_or, Bool.true_or, List.getElem?_cons_zero, List.getElem?_cons_succ, List.all_cons, List.all_nil, Bool.and_true, Bool.and_self, true_and, and_true, List.cons_append, List.nil_append, obAtR_some, List.length_cons, List.length_nil, List.drop_zero, List.drop_succ_cons, List.take_succ_cons, List.take_zero, Nat.reduceLeDiff, decide_true, decide_false, Bool.not_true, Bool.not_false, gdst, List.getElem?_toArray, Option.bind_some, List.map_cons, List.map_nil, List.length_map, reduceCtorEq, Nat.reduceLT, Nat.reduceMul, Nat.zero_mul, List.append_nil, List.getD_cons_zero, List.getD_cons_succ, ne_eq, not_false_eq_true, w1, splice, List.set_cons_zero, him]
              refine RQ.normal ⟨[], goesH us vs mst (0 + 1 : Nat), m3⟩ (Le.th _ _ _ (Nat.le_refl _) (by simp) (by simp [goesH, hget, slI, slS, avI, avS, avB])) fun _ _ => ?_
              exact ⟨rfl, by dsimp only at *; omega, by omega, htot⟩
        · have hi1 : ¬ (i : Int) = 0 := by omega
          by_cases him : ((i + 1 : Nat) : Int) = mst
          · simp only [go_sem, ti3, zk3, ti4, zk4, ti5, zk5, ti9, zk9, ti22, zk22, ti23, zk23, ti25, zk25, ti32, zk32, ti33, zk33, ti35, zk35, ti37, zk37, ti39, zk39, ti40, zk40, ti44, zk44, ti50, zk50, ti58, zk58, ti60, zk60, ti61, zk61, ti68, zk68, ti74, zk74, ti75, zk75, ti76, zk76, ti78, zk78, ↓reduceIte, or_false, false_or, Nat.reduceEqDiff, Nat.reduceBNe, Nat.reduceBEq, Bool.false_eq_true, Nat.reduceAdd, Nat.zero_add, Nat.add_zero, List.contains_cons, List.contains_nil, Bool.or_false, Bool.or_true, Bool.false_or, Bool.true_or, List.getElem?_cons_zero, List.getElem?_cons_succ, List.all_cons, List.all_nil, Bool.and_true, Bool.and_self, true_and, and_true, List.cons_append, List.nil_append, obAtR_some, List.length_cons, List.length_nil, List.drop_zero, List.drop_succ_cons, List.take_succ_cons, List.take_zero, Nat.reduceLeDiff, decide_true, decide_false, Bool.not_true, Bool.not_false, gdst, List.getElem?_toArray, Option.bind_some, List.map_cons, List.map_nil, List.length_map, reduceCtorEq, Nat.reduceLT, Nat.reduceMul, Nat.zero_mul, List.append_nil, List.getD_cons_zero, List.getD_cons_succ, ne_eq, not_false_eq_true, hkl, hi1, wi, splice, List.set_cons_zero, him, n0, n1, n2, n3, n4, n5]
            refine RQ.exit 0 ⟨[], goesH us vs mst mst, m'⟩ (Le.th _ _ _ (Nat.le_refl _) (by simp) (by simp [goesH, hget, n0, n1, n2, n3, n4, n5, slI, slS, avI, avS, avB, ← him])) fun _ _ => ?_
            exact ⟨rfl, rfl, by dsimp only at *; omega, by rw [← him]; exact htot⟩
          · simp only [go_sem, ti3, zk3, ti4, zk4, ti5, zk5, ti9, zk9, ti22, zk22, ti23, zk23, ti25, zk25, ti32, zk32, ti33, zk33, ti35, zk35, ti37, zk37, ti39, zk39, ti40, zk40, ti44, zk44, ti50, zk50, ti58, zk58, ti60, zk60, ti61, zk61, ti68, zk68, ti74, zk74, ti75, zk75, ti76, zk76, ti78, zk78, ↓reduceIte, or_false, false_or, Nat.reduceEqDiff, Nat.reduceBNe, Nat.reduceBEq, Bool.false_eq_true, Nat.reduceAdd, Nat.zero_add, Nat.add_zero, List.contains_cons, List.contains_nil, Bool.or_false, Bool.or_true, Bool.false_or, Bool.true_or, List.getElem?_cons_zero, List.getElem?_cons_succ, List.all_cons, List.all_nil, Bool.and_true, Bool.and_self, true_and, and_true, List.cons_append, List.nil_append, obAtR_some, List.length_cons, List.length_nil, List.drop_zero, List.drop_succ_cons, List.take_succ_cons, List.take_zero, Nat.reduceLeDiff, decide_true, decide_false, Bool.not_true, Bool.not_false, gdst, List.getElem?_toArray, Option.bind_some, List.map_cons, List.map_nil, List.length_map, reduceCtorEq, Nat.reduceLT, Nat.reduceMul, Nat.zero_mul, List.append_nil, List.getD_cons_zero, List.getD_cons_succ, ne_eq, not_false_eq_true, hkl, hi1, wi, splice, List.set_cons_zero, him, n0, n1, n2, n3, n4, n5]
            refine RQ.normal ⟨[], goesH us vs mst (i + 1 : Nat), m'⟩ (Le.th _ _ _ (Nat.le_refl _) (by simp) (by simp [goesH, hget, n0, n1, n2, n3, n4, n5, slI, slS, avI, avS, avB])) fun _ _ => ?_
            exact ⟨rfl, by dsimp only at *; omega, by omega, htot⟩
    · rintro n hh m3 hn ⟨rfl, h6, h1, h2⟩
      have htot : total us vs = n := by
        unfold allG at hn
        split at hn
        · rename_i h; rw [way_iff] at h; omega
        · cases hn
      have hmany : manyP us.length vs.length 1 mst = n := by rw [manyP_eq _ _ (by omega) _ _ (by omega), Int.one_mul, show ((us.length : Int) + 1) ^ vs.length = total us vs from rfl, htot]; omega
      simp only [goesT, goesH, slI, slS, avI, avB]
      simp only [go_sem, ti3, zk3, ti4, zk4, ti5, zk5, ti9, zk9, ti22, zk22, ti23, zk23, ti25, zk25, ti32, zk32, ti33, zk33, ti35, zk35, ti37, zk37, ti39, zk39, ti40, zk40, ti44, zk44, ti50, zk50, ti58, zk58, ti60, zk60, ti61, zk61, ti68, zk68, ti74, zk74, ti75, zk75, ti76, zk76, ti78, zk78, ↓reduceIte, or_false, false_or, Nat.reduceEqDiff, Nat.reduceBNe, Nat.reduceBEq, Bool.false_eq_true, Nat.reduceAdd, Nat.zero_add, Nat.add_zero, List.contains_cons, List.contains_nil, Bool.or_false, Bool.or_true, Bool.false_or, Bool.true_or, List.getElem?_cons_zero, List.getElem?_cons_succ, List.all_cons, List.all_nil, Bool.and_true, Bool.and_self, true_and, and_true, List.cons_append, List.nil_append, obAtR_some, List.length_cons, List.length_nil, List.drop_zero, List.drop_succ_cons, List.take_succ_cons, List.take_zero, Nat.reduceLeDiff, decide_true, decide_false, Bool.not_true, Bool.not_false, gdst, List.getElem?_toArray, Option.bind_some, List.map_cons, List.map_nil, List.length_map, reduceCtorEq, Nat.reduceLT, Nat.reduceMul, Nat.zero_mul, List.append_nil, List.getD_cons_zero, List.getD_cons_succ, ne_eq, not_false_eq_true]
      refine aCall_f (manyR_fn us vs mst hu hv ⟨by omega, by omega⟩) ?_
      simp only [hmany, avI]
      simp only [go_sem, ti3, zk3, ti4, zk4, ti5, zk5, ti9, zk9, ti22, zk22, ti23, zk23, ti25, zk25, ti32, zk32, ti33, zk33, ti35, zk35, ti37, zk37, ti39, zk39, ti40, zk40, ti44, zk44, ti50, zk50, ti58, zk58, ti60, zk60, ti61, zk61, ti68, zk68, ti74, zk74, ti75, zk75, ti76, zk76, ti78, zk78, ↓reduceIte, or_false, false_or, Nat.reduceEqDiff, Nat.reduceBNe, Nat.reduceBEq, Bool.false_eq_true, Nat.reduceAdd, Nat.zero_add, Nat.add_zero, List.contains_cons, List.contains_nil, Bool.or_false, Bool.or_true, Bool.false_or, Bool.true_or, List.getElem?_cons_zero, List.getElem?_cons_succ, List.all_cons, List.all_nil, Bool.and_true, Bool.and_self, true_and, and_true, List.cons_append, List.nil_append, obAtR_some, List.length_cons, List.length_nil, List.drop_zero, List.drop_succ_cons, List.take_succ_cons, List.take_zero, Nat.reduceLeDiff, decide_true, decide_false, Bool.not_true, Bool.not_false, gdst, List.getElem?_toArray, Option.bind_some, List.map_cons, List.map_nil, List.length_map, reduceCtorEq, Nat.reduceLT, Nat.reduceMul, Nat.zero_mul, List.append_nil, List.getD_cons_zero, List.getD_cons_succ, ne_eq, not_false_eq_true, splice, List.set_cons_zero, decide_true]
      exact ⟨⟨by kernel_rfl, by kernel_rfl⟩, ret_same (.inl rfl) (by simp [retAV, resAV, get, hget, obAt, pack, avB, avI, avS, ti3, ti4, ti5, ti9, ti22, ti23, ti25, ti32, ti33, ti35, ti37, ti39, ti40, ti44, ti50, ti58, ti60, ti61, ti68, ti74, ti75, ti76, ti78]) (free_val _)⟩
    · rintro _ _ ⟨⟩
    · rintro id hh m3 ⟨rfl, rfl, h6, h2⟩
      have hmany : manyP us.length vs.length 1 mst = mst := by rw [manyP_eq _ _ (by omega) _ _ (by omega), Int.one_mul, show ((us.length : Int) + 1) ^ vs.length = total us vs from rfl]; omega
      simp only [goesT, goesH, slI, slS, avI, avB]
      simp only [go_sem, ti3, zk3, ti4, zk4, ti5, zk5, ti9, zk9, ti22, zk22, ti23, zk23, ti25, zk25, ti32, zk32, ti33, zk33, ti35, zk35, ti37, zk37, ti39, zk39, ti40, zk40, ti44, zk44, ti50, zk50, ti58, zk58, ti60, zk60, ti61, zk61, ti68, zk68, ti74, zk74, ti75, zk75, ti76, zk76, ti78, zk78, ↓reduceIte, or_false, false_or, Nat.reduceEqDiff, Nat.reduceBNe, Nat.reduceBEq, Bool.false_eq_true, Nat.reduceAdd, Nat.zero_add, Nat.add_zero, List.contains_cons, List.contains_nil, Bool.or_false, Bool.or_true, Bool.false_or, Bool.true_or, List.getElem?_cons_zero, List.getElem?_cons_succ, List.all_cons, List.all_nil, Bool.and_true, Bool.and_self, true_and, and_true, List.cons_append, List.nil_append, obAtR_some, List.length_cons, List.length_nil, List.drop_zero, List.drop_succ_cons, List.take_succ_cons, List.take_zero, Nat.reduceLeDiff, decide_true, decide_false, Bool.not_true, Bool.not_false, gdst, List.getElem?_toArray, Option.bind_some, List.map_cons, List.map_nil, List.length_map, reduceCtorEq, Nat.reduceLT, Nat.reduceMul, Nat.zero_mul, List.append_nil, List.getD_cons_zero, List.getD_cons_succ, ne_eq, not_false_eq_true]
      refine aCall_f (manyR_fn us vs mst hu hv ⟨by omega, by omega⟩) ?_
      simp only [hmany, avI]
      simp only [go_sem, ti3, zk3, ti4, zk4, ti5, zk5, ti9, zk9, ti22, zk22, ti23, zk23, ti25, zk25, ti32, zk32, ti33, zk33, ti35, zk35, ti37, zk37, ti39, zk39, ti40, zk40, ti44, zk44, ti50, zk50, ti58, zk58, ti60, zk60, ti61, zk61, ti68, zk68, ti74, zk74, ti75, zk75, ti76, zk76, ti78, zk78, ↓reduceIte, or_false, false_or, Nat.reduceEqDiff, Nat.reduceBNe, Nat.reduceBEq, Bool.false_eq_true, Nat.reduceAdd, Nat.zero_add, Nat.add_zero, List.contains_cons, List.contains_nil, Bool.or_false, Bool.or_true, Bool.false_or, Bool.true_or, List.getElem?_cons_zero, List.getElem?_cons_succ, List.all_cons, List.all_nil, Bool.and_true, Bool.and_self, true_and, and_true, List.cons_append, List.nil_append, obAtR_some, List.length_cons, List.length_nil, List.drop_zero, List.drop_succ_cons, List.take_succ_cons, List.take_zero, Nat.reduceLeDiff, decide_true, decide_false, Bool.not_true, Bool.not_false, gdst, List.getElem?_toArray, Option.bind_some, List.map_cons, List.map_nil, List.length_map, reduceCtorEq, Nat.reduceLT, Nat.reduceMul, Nat.zero_mul, List.append_nil, List.getD_cons_zero, List.getD_cons_succ, ne_eq, not_false_eq_true, splice, List.set_cons_zero, decide_true]
      exact ⟨⟨by kernel_rfl, by kernel_rfl⟩, ret_same (.inl rfl) (by simp [retAV, resAV, get, hget, obAt, pack, avB, avI, avS, ti3, ti4, ti5, ti9, ti22, ti23, ti25, ti32, ti33, ti35, ti37, ti39, ti40, ti44, ti50, ti58, ti60, ti61, ti68, ti74, ti75, ti76, ti78]) (free_val _)⟩
end Go.Bw
