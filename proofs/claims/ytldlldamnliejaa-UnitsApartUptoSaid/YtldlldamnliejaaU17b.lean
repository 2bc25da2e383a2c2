/- A walk of functions that the law reaches: what each call comes to. -/
import Derived.Test.YtldlldamnliejaaU17a
set_option linter.unusedSimpArgs false
set_option maxRecDepth 100000
namespace Go.Aw
open Go Go.Proofs
attribute [local go_sem] W_seq W_block W_region W_skip W_exit W_ret W_cond WC_true WC_false kont_nil kont_seq kont_seq_ret kont_seq_exit kont_block kont_block_ret kont_block_exit kont_loop kont_loop_ret kont_loop_exit WO_nil WO_nil_dr WO_none WO_some WG_tt WG_ff WG_tf WG_ft WG_u KO_eq foot_f foot_t r_move r_assign r_pick r_extract r_makeFunc r_fieldAddr r_load r_store r_box r_alloc r_indexAddr r_binOp r_unOp r_call r_len r_max r_min r_append r_build r_buildSlice r_makeSlice e_tmp e_int e_bool e_string e_nil e_func l_pick_t l_pick_f l_pick l_field_ref l_field_fptr l_load_ref l_loadR l_loadP pack_t pack_f obAt_some l_store l_storeO l_storeR l_index_sl l_index_rsl l_indexF l_indexR l_indexO l_len_sl l_len_rsl l_len_str l_bin_i l_bin_s l_bin_b l_not l_neg l_add l_sub l_mul l_quo l_rem l_eql l_neq l_lss l_leq l_gtr l_geq l_seql l_sneq l_slss l_sleq l_sgtr l_sgeq l_beql l_bneq l_extract c_agg c_val c_sl c_rsl c_ref c_clo o_int o_string o_bool o_sl o_rsl o_ref o_fptr o_clo get_cons' get_nil hget_cons gc_nil gc_cons put_some put_none gAV_def l_max l_min fillA_nil fillA_cons fillR_some place_eq placeR_some l_build l_buildR l_buildSlice l_buildSliceR l_make l_append l_appendP l_appendS_sl l_appendS_rsl l_appendO slV_sl slV_rsl slVR_some slIds_sl slIds_rsl chunks_zero chunks_one chunks_two rep0_one rep0_two WG_undef l_load_fptr

theorem splice_all {cs new : List AV} (h : cs.length = new.length) : splice cs 0 new = new := by
  simp [splice, ← h]

theorem reverse_fnH (id : Nat) (es : List (List AV)) (H : Nat → Option Ob) (nx : Nat) (hid : H id = some (false, es)) (hlt : id < nx) (hne : es ≠ []) (hk : ∀ x ∈ es, x.length = 4 ∧ x.all AV.one = true) (hf : ∀ x ∈ es, ∀ y ∈ x, Free y)
    (hn : es.length < 281474976710656) : FnH Try.prog 23 [.rsl id 0 es.length] H [id] (frs nx 0) (.tup []) [(id, some (false, es.reverse))] := by
  refine FnH.walk (fn := Try.f23) (H0 := [(id, some (false, es))]) (n0 := nx) [0, 2, 3] (by kernel_rfl) (by kernel_rfl) (by kernel_rfl) (by kernel_rfl) (by simp [Try.f23])
    (by simp only [List.mem_singleton, forall_eq]; exact only_rsl (by simp [keys])) (fun i hi => ?_) (by simp [keys]) (by simp [frs]) (by simp [keys]) ?_
  · obtain rfl : i = id := by simpa [keys] using hi
    exact ⟨by simp [hget, hid], hlt, es, by simp [hget], hne, fun x hx y hy => only_free (hf x hx y hy)⟩
  have hpos : 0 < es.length := List.length_pos_iff.2 hne
  simp only [body, Option.getD_some, enter, List.zipIdx_cons, List.zipIdx_nil, List.map_cons, List.map_nil, Nat.reduceAdd, Nat.zero_add, Try.f23]
  have hw0 : IntKind.i64.wrap (es.length - 1) = es.length - 1 := wrap_id (by omega) (by omega)
  simp only [go_sem, ti3, zk3, ti4, zk4, ti9, zk9, ti22, zk22, ti23, zk23, ti25, zk25, ti32, zk32, ti33, zk33, ti35, zk35, ti37, zk37, ↓reduceIte, Nat.reduceEqDiff, Nat.reduceBNe, Nat.reduceBEq, Bool.false_eq_true, Nat.reduceAdd, Nat.zero_add, Nat.add_zero, List.contains_cons, List.contains_nil, Bool.or_false, Bool.or_true, Bool.false_or, Bool.true_or, List.getElem?_cons_zero, List.getElem?_cons_succ, List.all_cons, List.all_nil, Bool.and_true, Bool.and_self, true_and, and_true, List.cons_append, List.nil_append, obAtR_some, List.length_cons, List.length_nil, List.drop_zero, List.drop_succ_cons, List.take_succ_cons, List.take_zero, Nat.reduceLeDiff, decide_true, decide_false, Bool.not_true, Bool.not_false, gdst, List.getElem?_toArray, Option.bind_some, List.map_cons, List.map_nil, List.length_map, reduceCtorEq, Nat.reduceLT, Nat.reduceMul, Nat.zero_mul, List.append_nil, List.getD_cons_zero, List.getD_cons_succ, ne_eq, not_false_eq_true, hw0]
  refine W_loop (fun k S => ∃ (i : Nat) (j : Int) (es' : List (List AV)), S = ⟨[(3, .val (.int .i64 j)), (2, .val (.int .i64 i)), (0, .rsl id 0 es.length)], [(id, some (false, es'))], nx⟩ ∧
      i + j = es.length - 1 ∧ -1 ≤ j ∧ k = es.length - i ∧ es'.length = es.length ∧ (∀ x ∈ es', x.length = 4 ∧ x.all AV.one = true) ∧ (∀ x ∈ es', ∀ y ∈ x, Free y) ∧
      ∀ t, t < es.length → es'[t]? = if t < i ∨ j < t then es[es.length - 1 - t]? else es[t]?)
    es.length _ (Le.tmpsH _ (by simp [get])) ⟨0, es.length - 1, es, rfl, by omega, by omega, by omega, rfl, hk, hf, fun t ht => by rw [if_neg (by omega)]⟩ ?_
  rintro k S ⟨i, j, es', rfl, hij, hj, rfl, hl, hk', hf', hes⟩
  simp only [go_sem, ti3, zk3, ti4, zk4, ti9, zk9, ti22, zk22, ti23, zk23, ti25, zk25, ti32, zk32, ti33, zk33, ti35, zk35, ti37, zk37, ↓reduceIte, Nat.reduceEqDiff, Nat.reduceBNe, Nat.reduceBEq, Bool.false_eq_true, Nat.reduceAdd, Nat.zero_add, Nat.add_zero, List.contains_cons, List.contains_nil, Bool.or_false, Bool.or_true, Bool.false_or, Bool.true_or, List.getElem?_cons_zero, List.getElem?_cons_succ, List.all_cons, List.all_nil, Bool.and_true, Bool.and_self, true_and, and_true, List.cons_append, List.nil_append, obAtR_some, List.length_cons, List.length_nil, List.drop_zero, List.drop_succ_cons, List.take_succ_cons, List.take_zero, Nat.reduceLeDiff, decide_true, decide_false, Bool.not_true, Bool.not_false, gdst, List.getElem?_toArray, Option.bind_some, List.map_cons, List.map_nil, List.length_map, reduceCtorEq, Nat.reduceLT, Nat.reduceMul, Nat.zero_mul, List.append_nil, List.getD_cons_zero, List.getD_cons_succ, ne_eq, not_false_eq_true]
  by_cases h : (i : Int) < j
  · obtain ⟨j, rfl⟩ : ∃ j' : Nat, j = j' := ⟨j.toNat, by omega⟩
    obtain ⟨x, hx⟩ : ∃ x, es'[i]? = some x := ⟨es'[i]'(by omega), List.getElem?_eq_getElem (by omega)⟩
    obtain ⟨y, hy⟩ : ∃ y, es'[j]? = some y := ⟨es'[j]'(by omega), List.getElem?_eq_getElem (by omega)⟩
    have hxm := List.mem_of_getElem? hx
    have hym := List.mem_of_getElem? hy
    have hwi : IntKind.i64.wrap ((i : Int) + 1) = i + 1 := wrap_id (by omega) (by omega)
    have hwj : IntKind.i64.wrap ((j : Int) - 1) = j - 1 := wrap_id (by omega) (by omega)
    have h1 : (j : Int) < es.length := by omega
    have h2 : (i : Int) < es.length := by omega
    have tx : x.take 4 = x := List.take_of_length_le (by rw [(hk' x hxm).1]; omega)
    have ty : y.take 4 = y := List.take_of_length_le (by rw [(hk' y hym).1]; omega)
    have hij' : i ≠ j := by omega
    have h0 : (0 : Int) ≤ i := by omega
    have h0' : (0 : Int) ≤ j := by omega
    have sx : splice x 0 y = y := splice_all (by rw [(hk' x hxm).1, (hk' y hym).1])
    have sy : splice y 0 x = x := splice_all (by rw [(hk' x hxm).1, (hk' y hym).1])
    have hset : (es'.set i y)[j]? = some y := by rw [List.getElem?_set_ne hij']; exact hy
    simp only [go_sem, ti3, zk3, ti4, zk4, ti9, zk9, ti22, zk22, ti23, zk23, ti25, zk25, ti32, zk32, ti33, zk33, ti35, zk35, ti37, zk37, ↓reduceIte, Nat.reduceEqDiff, Nat.reduceBNe, Nat.reduceBEq, Bool.false_eq_true, Nat.reduceAdd, Nat.zero_add, Nat.add_zero, List.contains_cons, List.contains_nil, Bool.or_false, Bool.or_true, Bool.false_or, Bool.true_or, List.getElem?_cons_zero, List.getElem?_cons_succ, List.all_cons, List.all_nil, Bool.and_true, Bool.and_self, true_and, and_true, List.cons_append, List.nil_append, obAtR_some, List.length_cons, List.length_nil, List.drop_zero, List.drop_succ_cons, List.take_succ_cons, List.take_zero, Nat.reduceLeDiff, decide_true, decide_false, Bool.not_true, Bool.not_false, gdst, List.getElem?_toArray, Option.bind_some, List.map_cons, List.map_nil, List.length_map, reduceCtorEq, Nat.reduceLT, Nat.reduceMul, Nat.zero_mul, List.append_nil, List.getD_cons_zero, List.getD_cons_succ, ne_eq, not_false_eq_true, h, h1, h2, Int.toNat_natCast, hx, hy, (hk' x hxm).1, (hk' y hym).1, (hk' x hxm).2, (hk' y hym).2, tx, ty, h0, h0', hwi, hwj, Nat.lt_irrefl, Nat.le_refl, sx, sy, hset]
    refine ⟨⟨rfl, by kernel_rfl⟩, ⟨es.length - (i + 1), _, by omega, Le.th [(3, .val (.int .i64 (j - 1))), (2, .val (.int .i64 ((i + 1 : Nat) : Int))), (0, .rsl id 0 es.length)] [(id, some (false, (es'.set i y).set j x))] nx (Nat.le_refl _) (by simp [get]) (by simp [hget]), i + 1, j - 1, (es'.set i y).set j x, rfl, by omega, by omega, rfl, by simpa using hl, fun z hz => ?_, fun z hz => ?_, fun t ht => ?_⟩⟩
    · rcases List.mem_or_eq_of_mem_set hz with h | rfl
      · rcases List.mem_or_eq_of_mem_set h with h | rfl
        · exact hk' z h
        · exact hk' _ hym
      · exact hk' _ hxm
    · rcases List.mem_or_eq_of_mem_set hz with h | rfl
      · rcases List.mem_or_eq_of_mem_set h with h | rfl
        · exact hf' z h
        · exact hf' _ hym
      · exact hf' _ hxm
    · have e1 := hes t ht
      have e2 := hes i (by omega)
      have e3 := hes j (by omega)
      rw [if_neg (by omega)] at e2 e3
      by_cases htj : t = j
      · subst htj
        rw [List.getElem?_set_self (by simp; omega), if_pos (by omega), show es.length - 1 - t = i by omega, ← e2, hx]
      · rw [List.getElem?_set_ne (by omega)]
        by_cases hti : t = i
        · subst hti
          rw [List.getElem?_set_self (by omega), if_pos (by omega), show es.length - 1 - t = j by omega, ← e3, hy]
        · rw [List.getElem?_set_ne (by omega), e1]
          by_cases h3 : t < i ∨ (j : Int) < t
          · rw [if_pos h3, if_pos (by omega)]
          · rw [if_neg h3, if_neg (by omega)]
  · simp only [go_sem, ti3, zk3, ti4, zk4, ti9, zk9, ti22, zk22, ti23, zk23, ti25, zk25, ti32, zk32, ti33, zk33, ti35, zk35, ti37, zk37, ↓reduceIte, Nat.reduceEqDiff, Nat.reduceBNe, Nat.reduceBEq, Bool.false_eq_true, Nat.reduceAdd, Nat.zero_add, Nat.add_zero, List.contains_cons, List.contains_nil, Bool.or_false, Bool.or_true, Bool.false_or, Bool.true_or, List.getElem?_cons_zero, List.getElem?_cons_succ, List.all_cons, List.all_nil, Bool.and_true, Bool.and_self, true_and, and_true, List.cons_append, List.nil_append, obAtR_some, List.length_cons, List.length_nil, List.drop_zero, List.drop_succ_cons, List.take_succ_cons, List.take_zero, Nat.reduceLeDiff, decide_true, decide_false, Bool.not_true, Bool.not_false, gdst, List.getElem?_toArray, Option.bind_some, List.map_cons, List.map_nil, List.length_map, reduceCtorEq, Nat.reduceLT, Nat.reduceMul, Nat.zero_mul, List.append_nil, List.getD_cons_zero, List.getD_cons_succ, ne_eq, not_false_eq_true, h]
    refine ⟨.inr rfl, _, Le.refl _ _, by simp [retAV, Try.f23], only_tup (by simp), fun i' c hc => ?_⟩
    have hrev : es' = es.reverse := List.ext_getElem? fun t => by
      by_cases ht : t < es.length
      · rw [hes t ht, List.getElem?_reverse ht]
        split
        · rfl
        · congr 1; omega
      · rw [List.getElem?_eq_none (by omega), List.getElem?_eq_none (by simp; omega)]
    subst hrev
    simp only [Aw.hl] at hc
    split at hc
    · rename_i e; subst e
      cases hc
      exact ⟨by simp [hget], fun x hx y hy => only_free (hf' x hx y hy)⟩
    · cases hc
theorem reverse_nil : Fn Try.prog 23 [.sl false [] []] (.tup []) := by
  refine Fn.walk (fn := Try.f23) [0, 2, 3] (by kernel_rfl) (by kernel_rfl) (by kernel_rfl) (by kernel_rfl) (by simp [Try.f23]) (by simp only [List.mem_singleton, forall_eq]; exact free_sl (by simp)) ?_
  have hw : IntKind.i64.wrap (((0 : Nat) : Int) - 1) = -1 := wrap_id (by omega) (by omega)
  have hlt : ¬ (0 : Int) < -1 := by omega
  simp only [body, Option.getD_some, enter, List.zipIdx_cons, List.zipIdx_nil, List.map_cons, List.map_nil, Nat.reduceAdd, Nat.zero_add, Try.f23]
  simp only [go_sem, ti3, zk3, ti4, zk4, ti9, zk9, ti22, zk22, ti23, zk23, ti25, zk25, ti32, zk32, ti33, zk33, ti35, zk35, ti37, zk37, ↓reduceIte, Nat.reduceEqDiff, Nat.reduceBNe, Nat.reduceBEq, Bool.false_eq_true, Nat.reduceAdd, Nat.zero_add, Nat.add_zero, List.contains_cons, List.contains_nil, Bool.or_false, Bool.or_true, Bool.false_or, Bool.true_or, List.getElem?_cons_zero, List.getElem?_cons_succ, List.all_cons, List.all_nil, Bool.and_true, Bool.and_self, true_and, and_true, List.cons_append, List.nil_append, obAtR_some, List.length_cons, List.length_nil, List.drop_zero, List.drop_succ_cons, List.take_succ_cons, List.take_zero, Nat.reduceLeDiff, decide_true, decide_false, Bool.not_true, Bool.not_false, gdst, List.getElem?_toArray, Option.bind_some, List.map_cons, List.map_nil, List.length_map, reduceCtorEq, Nat.reduceLT, Nat.reduceMul, Nat.zero_mul, List.append_nil, List.getD_cons_zero, List.getD_cons_succ, ne_eq, not_false_eq_true, hw]
  refine W_loop (fun k S => S = ⟨[(3, .val (.int .i64 (-1))), (2, .val (.int .i64 0)), (0, .sl false [] [])], [], 0⟩) 0 _ (Le.tmpsH _ (by simp [get])) rfl ?_
  rintro k S rfl
  simp only [go_sem, ti3, zk3, ti4, zk4, ti9, zk9, ti22, zk22, ti23, zk23, ti25, zk25, ti32, zk32, ti33, zk33, ti35, zk35, ti37, zk37, ↓reduceIte, Nat.reduceEqDiff, Nat.reduceBNe, Nat.reduceBEq, Bool.false_eq_true, Nat.reduceAdd, Nat.zero_add, Nat.add_zero, List.contains_cons, List.contains_nil, Bool.or_false, Bool.or_true, Bool.false_or, Bool.true_or, List.getElem?_cons_zero, List.getElem?_cons_succ, List.all_cons, List.all_nil, Bool.and_true, Bool.and_self, true_and, and_true, List.cons_append, List.nil_append, obAtR_some, List.length_cons, List.length_nil, List.drop_zero, List.drop_succ_cons, List.take_succ_cons, List.take_zero, Nat.reduceLeDiff, decide_true, decide_false, Bool.not_true, Bool.not_false, gdst, List.getElem?_toArray, Option.bind_some, List.map_cons, List.map_nil, List.length_map, reduceCtorEq, Nat.reduceLT, Nat.reduceMul, Nat.zero_mul, List.append_nil, List.getD_cons_zero, List.getD_cons_succ, ne_eq, not_false_eq_true, hlt]
  exact ret_same (.inr rfl) (by simp [retAV]) (free_tup (by simp))

theorem reverse_call (id n : Nat) (es : List (List AV)) (S : St) (K : OK) (hid : hget S.h id = some (false, es)) (hlt : id < S.nx) (hk : ∀ x ∈ es, x.length = 4 ∧ x.all AV.one = true) (hf : ∀ x ∈ es, ∀ y ∈ x, Free y)
    (hn : es.length < 281474976710656) (he : n = es.length) (hK : K [id] 0 (.tup []) [(id, some (false, es.reverse))]) : aCall Try.prog (.clo (.func 23) [] []) [.rsl id 0 n] S K := by
  subst he
  refine aCall_H (rd := [id]) (n := 0) (ch := [(id, some (false, es.reverse))]) ?_ hK
  by_cases hne : es = []
  · subst hne; exact FnH.of_nil reverse_nil hid
  · exact reverse_fnH id es _ S.nx hid hlt hne hk hf hn
end Go.Aw
