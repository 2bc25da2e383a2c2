/- A walk of functions that the law reaches: what each call comes to. -/
import Derived.Test.YtldlldamnliejaaU17f
set_option linter.unusedSimpArgs false
set_option maxRecDepth 100000
namespace Go.Aw
open Go Go.Proofs
attribute [local go_sem] W_seq W_block W_region W_skip W_exit W_ret W_cond WC_true WC_false kont_nil kont_seq kont_seq_ret kont_seq_exit kont_block kont_block_ret kont_block_exit kont_loop kont_loop_ret kont_loop_exit WO_nil WO_nil_dr WO_none WO_some WG_tt WG_ff WG_tf WG_ft WG_u KO_eq foot_f foot_t r_move r_assign r_pick r_extract r_makeFunc r_fieldAddr r_load r_store r_box r_alloc r_indexAddr r_binOp r_unOp r_call r_len r_max r_min r_append r_build r_buildSlice r_makeSlice e_tmp e_int e_bool e_string e_nil e_func l_pick_t l_pick_f l_pick l_field_ref l_field_fptr l_load_ref l_loadR l_loadP pack_t pack_f obAt_some l_store l_storeO l_storeR l_index_sl l_index_rsl l_indexF l_indexR l_indexO l_len_sl l_len_rsl l_len_str l_bin_i l_bin_s l_bin_b l_not l_neg l_add l_sub l_mul l_quo l_rem l_eql l_neq l_lss l_leq l_gtr l_geq l_seql l_sneq l_slss l_sleq l_sgtr l_sgeq l_beql l_bneq l_extract c_agg c_val c_sl c_rsl c_ref c_clo o_int o_string o_bool o_sl o_rsl o_ref o_fptr o_clo get_cons' get_nil hget_cons gc_nil gc_cons put_some put_none gAV_def l_max l_min fillA_nil fillA_cons fillR_some place_eq placeR_some l_build l_buildR l_buildSlice l_buildSliceR l_make l_append l_appendP l_appendS_sl l_appendS_rsl l_appendO slV_sl slV_rsl slVR_some slIds_sl slIds_rsl chunks_zero chunks_one chunks_two rep0_one rep0_two WG_undef l_load_fptr

theorem encB_encP (l : List (ByteArray × Int)) : l.map encB = (l.map fun p => (p.1, Term.mk ⟨#[]⟩ p.2 [])).map encP := by
  rw [List.map_map]; rfl
theorem cmpT_leaf (u : Int) : cmpT (.mk ⟨#[]⟩ u []) (.mk ⟨#[]⟩ u []) = 0 := by simp [cmpT, cmpTs]
theorem sameB_leaf (l : List (ByteArray × Int)) : sameB (l.map fun p => (p.1, Term.mk ⟨#[]⟩ p.2 [])) (l.map fun p => (p.1, Term.mk ⟨#[]⟩ p.2 [])) = true := by
  induction l with
  | nil => rfl
  | cons p l ih => simp [sameB, cmpT_leaf, ih]

/-- What a way is: the binds, and whether there is one. -/
theorem wayOut_eq (us : List Int) (vs : List ByteArray) (k : Int) : ∃ (f : Bool) (l : List (ByteArray × Int)) (b : Bool), wayOut us vs k = .tup [.sl f (l.map encB) [], .val (.bool b)] ∧ l.length ≤ vs.length := by
  unfold wayOut
  split
  · exact ⟨true, [], false, rfl, by simp⟩
  · exact ⟨false, _, true, rfl, by have := wayA_len us vs vs.length k []; simpa using this⟩

theorem same_leaf (f g : Bool) (l : List (ByteArray × Int)) (hl : l.length ≤ 281474976710656) : Fn Try.prog 11 [.sl f (l.map encB) [], .sl g (l.map encB) []] (.val (.bool true)) := by
  have hs : ∀ p ∈ l.map (fun p => (p.1, Term.mk ⟨#[]⟩ p.2 [])), p.2.size < 281474976710656 := by
    intro p hp
    obtain ⟨q, _, rfl⟩ := List.mem_map.1 hp
    simp [Term.size, sizes]
  have := same07_fn (l.map fun p => (p.1, Term.mk ⟨#[]⟩ p.2 [])) (l.map fun p => (p.1, Term.mk ⟨#[]⟩ p.2 [])) (by simpa using hl) hs hs f g
  rw [sameB_leaf, ← encB_encP] at this
  exact this

theorem nat2 : ((2 : Nat) : Int) = 2 := (rfl)
theorem head_way : wayOut [1, 5] [⟨#[88]⟩, ⟨#[89]⟩] 5 = .tup [.sl false [encB (⟨#[88]⟩, 1), encB (⟨#[89]⟩, 5)] [], .val (.bool true)] := by
  rfl
theorem head_many : manyP 2 2 1 100 = 9 := by decide

theorem head_fn : Fn Try.prog 8 [] (.val (.bool true)) := by
  refine Fn.walk (fn := Try.f8) [0, 1, 2] (by kernel_rfl) (by kernel_rfl) (by kernel_rfl) (by kernel_rfl) (by simp [Try.f8]) (by simp) ?_
  simp only [body, Option.getD_some, enter, List.zipIdx_cons, List.zipIdx_nil, List.map_cons, List.map_nil, Nat.reduceAdd, Nat.zero_add, Try.f8]
  simp only [go_sem, ti3, zk3, ti4, zk4, ti9, zk9, ti22, zk22, ti23, zk23, ti25, zk25, ti32, zk32, ti33, zk33, ti35, zk35, ti37, zk37, ↓reduceIte, Nat.reduceEqDiff, Nat.reduceBNe, Nat.reduceBEq, Bool.false_eq_true, Nat.reduceAdd, Nat.zero_add, Nat.add_zero, List.contains_cons, List.contains_nil, Bool.or_false, Bool.or_true, Bool.false_or, Bool.true_or, List.getElem?_cons_zero, List.getElem?_cons_succ, List.all_cons, List.all_nil, Bool.and_true, Bool.and_self, true_and, and_true, List.cons_append, List.nil_append, obAtR_some, List.length_cons, List.length_nil, List.drop_zero, List.drop_succ_cons, List.take_succ_cons, List.take_zero, Nat.reduceLeDiff, decide_true, decide_false, Bool.not_true, Bool.not_false, gdst, List.getElem?_toArray, Option.bind_some, List.map_cons, List.map_nil, List.length_map, reduceCtorEq, Nat.reduceLT, Nat.reduceMul, Nat.zero_mul, List.append_nil, List.getD_cons_zero, List.getD_cons_succ, ne_eq, not_false_eq_true, splice]
  refine aCall_give [(0, some (true, [[avI 1], [avI 5]])), (1, some (true, [[avS ⟨#[88]⟩], [avS ⟨#[89]⟩]]))] (way_fn [1, 5] [⟨#[88]⟩, ⟨#[89]⟩] 5 (by simp) (by simp) (by omega)) ?_ (by simp) ?_ ?_
  · intro id hid
    have : id = 0 ∨ id = 1 := by simpa [keys] using hid
    rcases this with rfl | rfl
    · exact ⟨[[avI 1], [avI 5]], rfl, fun c hc => by simpa [hl, eq_comm] using hc⟩
    · exact ⟨[[avS ⟨#[88]⟩], [avS ⟨#[89]⟩]], rfl, fun c hc => by simpa [hl, eq_comm] using hc⟩
  · intro j h1 h2
    have : j = 0 ∨ j = 1 ∨ j = 2 := by simp at h1; omega
    rcases this with rfl | rfl | rfl
    · exact vw_rsl (f := false) (es := [[avI 1], [avI 5]]) (fun _ => trivial) rfl (by simp) rfl
    · exact vw_rsl (f := false) (es := [[avS ⟨#[88]⟩], [avS ⟨#[89]⟩]]) (fun _ => trivial) rfl (by simp) rfl
    · exact vw_refl _
  · rw [head_way]
    simp only [encB, avI, avS]
    simp only [go_sem, ti3, zk3, ti4, zk4, ti9, zk9, ti22, zk22, ti23, zk23, ti25, zk25, ti32, zk32, ti33, zk33, ti35, zk35, ti37, zk37, ↓reduceIte, Nat.reduceEqDiff, Nat.reduceBNe, Nat.reduceBEq, Bool.false_eq_true, Nat.reduceAdd, Nat.zero_add, Nat.add_zero, List.contains_cons, List.contains_nil, Bool.or_false, Bool.or_true, Bool.false_or, Bool.true_or, List.getElem?_cons_zero, List.getElem?_cons_succ, List.all_cons, List.all_nil, Bool.and_true, Bool.and_self, true_and, and_true, List.cons_append, List.nil_append, obAtR_some, List.length_cons, List.length_nil, List.drop_zero, List.drop_succ_cons, List.take_succ_cons, List.take_zero, Nat.reduceLeDiff, decide_true, decide_false, Bool.not_true, Bool.not_false, gdst, List.getElem?_toArray, Option.bind_some, List.map_cons, List.map_nil, List.length_map, reduceCtorEq, Nat.reduceLT, Nat.reduceMul, Nat.zero_mul, List.append_nil, List.getD_cons_zero, List.getD_cons_succ, ne_eq, not_false_eq_true, keys, nat2, splice, Int.reduceLE, Int.reduceToNat]
    refine aCall_borrow (vs := [slI [1, 5], slS [⟨#[88]⟩, ⟨#[89]⟩], avI 100]) [2, 3] (many_fn [1, 5] [⟨#[88]⟩, ⟨#[89]⟩] 100 (by simp) (by simp) (by omega)) rfl ?_ (flat_val _) ?_
    · intro j h1 h2
      have : j = 0 ∨ j = 1 ∨ j = 2 := by simp at h1; omega
      rcases this with rfl | rfl | rfl
      · exact vw_rsl (f := false) (es := [[avI 1], [avI 5]]) (fun _ => trivial) rfl (by simp) rfl
      · exact vw_rsl (f := false) (es := [[avS ⟨#[88]⟩], [avS ⟨#[89]⟩]]) (fun _ => trivial) rfl (by simp) rfl
      · exact vw_refl _
    · have : manyP [(1 : Int), 5].length [(⟨#[88]⟩ : ByteArray), ⟨#[89]⟩].length 1 100 = 9 := head_many
      rw [this]
      simp only [avI]
      simp only [go_sem, ti3, zk3, ti4, zk4, ti9, zk9, ti22, zk22, ti23, zk23, ti25, zk25, ti32, zk32, ti33, zk33, ti35, zk35, ti37, zk37, ↓reduceIte, Nat.reduceEqDiff, Nat.reduceBNe, Nat.reduceBEq, Bool.false_eq_true, Nat.reduceAdd, Nat.zero_add, Nat.add_zero, List.contains_cons, List.contains_nil, Bool.or_false, Bool.or_true, Bool.false_or, Bool.true_or, List.getElem?_cons_zero, List.getElem?_cons_succ, List.all_cons, List.all_nil, Bool.and_true, Bool.and_self, true_and, and_true, List.cons_append, List.nil_append, obAtR_some, List.length_cons, List.length_nil, List.drop_zero, List.drop_succ_cons, List.take_succ_cons, List.take_zero, Nat.reduceLeDiff, decide_true, decide_false, Bool.not_true, Bool.not_false, gdst, List.getElem?_toArray, Option.bind_some, List.map_cons, List.map_nil, List.length_map, reduceCtorEq, Nat.reduceLT, Nat.reduceMul, Nat.zero_mul, List.append_nil, List.getD_cons_zero, List.getD_cons_succ, ne_eq, not_false_eq_true, nat2]
      exact ret_same (.inl rfl) (by simp [retAV, resAV, get]) (free_val _)

theorem unitsWays_fn (us : List Int) (vs : List ByteArray) (ls : List Int) (hu : us.length ≤ 1048576) (hv : vs.length ≤ 1048576) (hl : ls.length ≤ 1048576) (hk : ∀ k ∈ ls, -9223372036854775808 ≤ k ∧ k ≤ 9223372036854775807) :
    Fn Try.prog 3 [slI us, slS vs, slI ls] (.val (.bool true)) := by
  refine Fn.walk (fn := Try.f3) [0, 1, 2, 6, 7, 8, 9, 10, 11, 12] (by kernel_rfl) (by kernel_rfl) (by kernel_rfl) (by kernel_rfl) (by simp [Try.f3]) (by simp [free_slI, free_slS]) ?_
  simp only [body, Option.getD_some, enter, List.zipIdx_cons, List.zipIdx_nil, List.map_cons, List.map_nil, Nat.reduceAdd, Nat.zero_add, Try.f3, slI, slS, avI]
  simp only [go_sem, ti3, zk3, ti4, zk4, ti9, zk9, ti22, zk22, ti23, zk23, ti25, zk25, ti32, zk32, ti33, zk33, ti35, zk35, ti37, zk37, ↓reduceIte, Nat.reduceEqDiff, Nat.reduceBNe, Nat.reduceBEq, Bool.false_eq_true, Nat.reduceAdd, Nat.zero_add, Nat.add_zero, List.contains_cons, List.contains_nil, Bool.or_false, Bool.or_true, Bool.false_or, Bool.true_or, List.getElem?_cons_zero, List.getElem?_cons_succ, List.all_cons, List.all_nil, Bool.and_true, Bool.and_self, true_and, and_true, List.cons_append, List.nil_append, obAtR_some, List.length_cons, List.length_nil, List.drop_zero, List.drop_succ_cons, List.take_succ_cons, List.take_zero, Nat.reduceLeDiff, decide_true, decide_false, Bool.not_true, Bool.not_false, gdst, List.getElem?_toArray, Option.bind_some, List.map_cons, List.map_nil, List.length_map, reduceCtorEq, Nat.reduceLT, Nat.reduceMul, Nat.zero_mul, List.append_nil, List.getD_cons_zero, List.getD_cons_succ, ne_eq, not_false_eq_true]
  refine aCall_f head_fn ?_
  simp only [go_sem, ti3, zk3, ti4, zk4, ti9, zk9, ti22, zk22, ti23, zk23, ti25, zk25, ti32, zk32, ti33, zk33, ti35, zk35, ti37, zk37, ↓reduceIte, Nat.reduceEqDiff, Nat.reduceBNe, Nat.reduceBEq, Bool.false_eq_true, Nat.reduceAdd, Nat.zero_add, Nat.add_zero, List.contains_cons, List.contains_nil, Bool.or_false, Bool.or_true, Bool.false_or, Bool.true_or, List.getElem?_cons_zero, List.getElem?_cons_succ, List.all_cons, List.all_nil, Bool.and_true, Bool.and_self, true_and, and_true, List.cons_append, List.nil_append, obAtR_some, List.length_cons, List.length_nil, List.drop_zero, List.drop_succ_cons, List.take_succ_cons, List.take_zero, Nat.reduceLeDiff, decide_true, decide_false, Bool.not_true, Bool.not_false, gdst, List.getElem?_toArray, Option.bind_some, List.map_cons, List.map_nil, List.length_map, reduceCtorEq, Nat.reduceLT, Nat.reduceMul, Nat.zero_mul, List.append_nil, List.getD_cons_zero, List.getD_cons_succ, ne_eq, not_false_eq_true]
  refine W_loop (fun c S => ∃ i : Nat, S = ⟨[(8, avI i), (7, .val (.bool true)), (2, slI ls), (1, slS vs), (0, slI us)], [], 0⟩ ∧ i + c = ls.length) ls.length _
    (Le.tmps _ 0 (Nat.le_refl _) (by simp [get, slI, slS, avI, avS])) ⟨0, rfl, by omega⟩ ?_
  rintro c S ⟨i, rfl, hi⟩
  simp only [slI, slS, avI]
  simp only [go_sem, ti3, zk3, ti4, zk4, ti9, zk9, ti22, zk22, ti23, zk23, ti25, zk25, ti32, zk32, ti33, zk33, ti35, zk35, ti37, zk37, ↓reduceIte, Nat.reduceEqDiff, Nat.reduceBNe, Nat.reduceBEq, Bool.false_eq_true, Nat.reduceAdd, Nat.zero_add, Nat.add_zero, List.contains_cons, List.contains_nil, Bool.or_false, Bool.or_true, Bool.false_or, Bool.true_or, List.getElem?_cons_zero, List.getElem?_cons_succ, List.all_cons, List.all_nil, Bool.and_true, Bool.and_self, true_and, and_true, List.cons_append, List.nil_append, obAtR_some, List.length_cons, List.length_nil, List.drop_zero, List.drop_succ_cons, List.take_succ_cons, List.take_zero, Nat.reduceLeDiff, decide_true, decide_false, Bool.not_true, Bool.not_false, gdst, List.getElem?_toArray, Option.bind_some, List.map_cons, List.map_nil, List.length_map, reduceCtorEq, Nat.reduceLT, Nat.reduceMul, Nat.zero_mul, List.append_nil, List.getD_cons_zero, List.getD_cons_succ, ne_eq, not_false_eq_true]
  by_cases hin : (i : Int) < ls.length
  · obtain ⟨c, rfl⟩ : ∃ c', c = c' + 1 := ⟨c - 1, by omega⟩
    have hli : ls[i]? = some (ls.getD i 0) := get?_getD _ _ _ (by omega)
    have hkr := hk _ (List.mem_of_getElem? hli)
    have hi0 : (0 : Int) ≤ i := by omega
    have w5 : IntKind.i64.wrap ((i : Int) + 1) = ((i + 1 : Nat) : Int) := by rw [wrap_id (by omega) (by omega)]; omega
    obtain ⟨f, l, b, hw, hll⟩ := wayOut_eq us vs (ls.getD i 0)
    have w1 := way_fn us vs (ls.getD i 0) hu hv hkr
    have w2 := wayR_fn us vs (ls.getD i 0) hu hv hkr
    have w3 := many_fn us vs (ls.getD i 0) (by omega) (by omega) hkr
    have w4 := manyR_fn us vs (ls.getD i 0) hu hv hkr
    rw [hw] at w1 w2
    generalize manyP us.length vs.length 1 (ls.getD i 0) = mm at w3 w4
    simp only [slI, slS, avI] at w1 w2 w3 w4
    simp only [go_sem, ti3, zk3, ti4, zk4, ti9, zk9, ti22, zk22, ti23, zk23, ti25, zk25, ti32, zk32, ti33, zk33, ti35, zk35, ti37, zk37, ↓reduceIte, Nat.reduceEqDiff, Nat.reduceBNe, Nat.reduceBEq, Bool.false_eq_true, Nat.reduceAdd, Nat.zero_add, Nat.add_zero, List.contains_cons, List.contains_nil, Bool.or_false, Bool.or_true, Bool.false_or, Bool.true_or, List.getElem?_cons_zero, List.getElem?_cons_succ, List.all_cons, List.all_nil, Bool.and_true, Bool.and_self, true_and, and_true, List.cons_append, List.nil_append, obAtR_some, List.length_cons, List.length_nil, List.drop_zero, List.drop_succ_cons, List.take_succ_cons, List.take_zero, Nat.reduceLeDiff, decide_true, decide_false, Bool.not_true, Bool.not_false, gdst, List.getElem?_toArray, Option.bind_some, List.map_cons, List.map_nil, List.length_map, reduceCtorEq, Nat.reduceLT, Nat.reduceMul, Nat.zero_mul, List.append_nil, List.getD_cons_zero, List.getD_cons_succ, ne_eq, not_false_eq_true, hin, hi0, hli, Int.toNat_natCast, List.getElem?_map, Option.map_some, avI]
    refine aCall_f w1 ?_
    simp only [go_sem, ti3, zk3, ti4, zk4, ti9, zk9, ti22, zk22, ti23, zk23, ti25, zk25, ti32, zk32, ti33, zk33, ti35, zk35, ti37, zk37, ↓reduceIte, Nat.reduceEqDiff, Nat.reduceBNe, Nat.reduceBEq, Bool.false_eq_true, Nat.reduceAdd, Nat.zero_add, Nat.add_zero, List.contains_cons, List.contains_nil, Bool.or_false, Bool.or_true, Bool.false_or, Bool.true_or, List.getElem?_cons_zero, List.getElem?_cons_succ, List.all_cons, List.all_nil, Bool.and_true, Bool.and_self, true_and, and_true, List.cons_append, List.nil_append, obAtR_some, List.length_cons, List.length_nil, List.drop_zero, List.drop_succ_cons, List.take_succ_cons, List.take_zero, Nat.reduceLeDiff, decide_true, decide_false, Bool.not_true, Bool.not_false, gdst, List.getElem?_toArray, Option.bind_some, List.map_cons, List.map_nil, List.length_map, reduceCtorEq, Nat.reduceLT, Nat.reduceMul, Nat.zero_mul, List.append_nil, List.getD_cons_zero, List.getD_cons_succ, ne_eq, not_false_eq_true, hin, hi0, hli, Int.toNat_natCast, List.getElem?_map, Option.map_some, avI]
    refine aCall_f w2 ?_
    simp only [go_sem, ti3, zk3, ti4, zk4, ti9, zk9, ti22, zk22, ti23, zk23, ti25, zk25, ti32, zk32, ti33, zk33, ti35, zk35, ti37, zk37, ↓reduceIte, Nat.reduceEqDiff, Nat.reduceBNe, Nat.reduceBEq, Bool.false_eq_true, Nat.reduceAdd, Nat.zero_add, Nat.add_zero, List.contains_cons, List.contains_nil, Bool.or_false, Bool.or_true, Bool.false_or, Bool.true_or, List.getElem?_cons_zero, List.getElem?_cons_succ, List.all_cons, List.all_nil, Bool.and_true, Bool.and_self, true_and, and_true, List.cons_append, List.nil_append, obAtR_some, List.length_cons, List.length_nil, List.drop_zero, List.drop_succ_cons, List.take_succ_cons, List.take_zero, Nat.reduceLeDiff, decide_true, decide_false, Bool.not_true, Bool.not_false, gdst, List.getElem?_toArray, Option.bind_some, List.map_cons, List.map_nil, List.length_map, reduceCtorEq, Nat.reduceLT, Nat.reduceMul, Nat.zero_mul, List.append_nil, List.getD_cons_zero, List.getD_cons_succ, ne_eq, not_false_eq_true, hin, hi0, hli, Int.toNat_natCast, List.getElem?_map, Option.map_some, avI, beq_self_eq_true]
    refine aCall_f (same_leaf f f l (by omega)) ?_
    simp only [go_sem, ti3, zk3, ti4, zk4, ti9, zk9, ti22, zk22, ti23, zk23, ti25, zk25, ti32, zk32, ti33, zk33, ti35, zk35, ti37, zk37, ↓reduceIte, Nat.reduceEqDiff, Nat.reduceBNe, Nat.reduceBEq, Bool.false_eq_true, Nat.reduceAdd, Nat.zero_add, Nat.add_zero, List.contains_cons, List.contains_nil, Bool.or_false, Bool.or_true, Bool.false_or, Bool.true_or, List.getElem?_cons_zero, List.getElem?_cons_succ, List.all_cons, List.all_nil, Bool.and_true, Bool.and_self, true_and, and_true, List.cons_append, List.nil_append, obAtR_some, List.length_cons, List.length_nil, List.drop_zero, List.drop_succ_cons, List.take_succ_cons, List.take_zero, Nat.reduceLeDiff, decide_true, decide_false, Bool.not_true, Bool.not_false, gdst, List.getElem?_toArray, Option.bind_some, List.map_cons, List.map_nil, List.length_map, reduceCtorEq, Nat.reduceLT, Nat.reduceMul, Nat.zero_mul, List.append_nil, List.getD_cons_zero, List.getD_cons_succ, ne_eq, not_false_eq_true, hin, hi0, hli, Int.toNat_natCast, List.getElem?_map, Option.map_some, avI, beq_self_eq_true]
    refine aCall_f w3 ?_
    simp only [go_sem, ti3, zk3, ti4, zk4, ti9, zk9, ti22, zk22, ti23, zk23, ti25, zk25, ti32, zk32, ti33, zk33, ti35, zk35, ti37, zk37, ↓reduceIte, Nat.reduceEqDiff, Nat.reduceBNe, Nat.reduceBEq, Bool.false_eq_true, Nat.reduceAdd, Nat.zero_add, Nat.add_zero, List.contains_cons, List.contains_nil, Bool.or_false, Bool.or_true, Bool.false_or, Bool.true_or, List.getElem?_cons_zero, List.getElem?_cons_succ, List.all_cons, List.all_nil, Bool.and_true, Bool.and_self, true_and, and_true, List.cons_append, List.nil_append, obAtR_some, List.length_cons, List.length_nil, List.drop_zero, List.drop_succ_cons, List.take_succ_cons, List.take_zero, Nat.reduceLeDiff, decide_true, decide_false, Bool.not_true, Bool.not_false, gdst, List.getElem?_toArray, Option.bind_some, List.map_cons, List.map_nil, List.length_map, reduceCtorEq, Nat.reduceLT, Nat.reduceMul, Nat.zero_mul, List.append_nil, List.getD_cons_zero, List.getD_cons_succ, ne_eq, not_false_eq_true, hin, hi0, hli, Int.toNat_natCast, List.getElem?_map, Option.map_some, avI, beq_self_eq_true]
    refine aCall_f w4 ?_
    simp only [go_sem, ti3, zk3, ti4, zk4, ti9, zk9, ti22, zk22, ti23, zk23, ti25, zk25, ti32, zk32, ti33, zk33, ti35, zk35, ti37, zk37, ↓reduceIte, Nat.reduceEqDiff, Nat.reduceBNe, Nat.reduceBEq, Bool.false_eq_true, Nat.reduceAdd, Nat.zero_add, Nat.add_zero, List.contains_cons, List.contains_nil, Bool.or_false, Bool.or_true, Bool.false_or, Bool.true_or, List.getElem?_cons_zero, List.getElem?_cons_succ, List.all_cons, List.all_nil, Bool.and_true, Bool.and_self, true_and, and_true, List.cons_append, List.nil_append, obAtR_some, List.length_cons, List.length_nil, List.drop_zero, List.drop_succ_cons, List.take_succ_cons, List.take_zero, Nat.reduceLeDiff, decide_true, decide_false, Bool.not_true, Bool.not_false, gdst, List.getElem?_toArray, Option.bind_some, List.map_cons, List.map_nil, List.length_map, reduceCtorEq, Nat.reduceLT, Nat.reduceMul, Nat.zero_mul, List.append_nil, List.getD_cons_zero, List.getD_cons_succ, ne_eq, not_false_eq_true, hin, hi0, hli, w5, Int.toNat_natCast, List.getElem?_map, Option.map_some, avI, beq_self_eq_true]
    exact ⟨⟨by kernel_rfl, by kernel_rfl⟩, nxt_tmps _ (Nat.lt_succ_self _) (by simp [get, slI, slS, avI, avS]) ⟨i + 1, rfl, by omega⟩⟩
  · simp only [go_sem, ti3, zk3, ti4, zk4, ti9, zk9, ti22, zk22, ti23, zk23, ti25, zk25, ti32, zk32, ti33, zk33, ti35, zk35, ti37, zk37, ↓reduceIte, Nat.reduceEqDiff, Nat.reduceBNe, Nat.reduceBEq, Bool.false_eq_true, Nat.reduceAdd, Nat.zero_add, Nat.add_zero, List.contains_cons, List.contains_nil, Bool.or_false, Bool.or_true, Bool.false_or, Bool.true_or, List.getElem?_cons_zero, List.getElem?_cons_succ, List.all_cons, List.all_nil, Bool.and_true, Bool.and_self, true_and, and_true, List.cons_append, List.nil_append, obAtR_some, List.length_cons, List.length_nil, List.drop_zero, List.drop_succ_cons, List.take_succ_cons, List.take_zero, Nat.reduceLeDiff, decide_true, decide_false, Bool.not_true, Bool.not_false, gdst, List.getElem?_toArray, Option.bind_some, List.map_cons, List.map_nil, List.length_map, reduceCtorEq, Nat.reduceLT, Nat.reduceMul, Nat.zero_mul, List.append_nil, List.getD_cons_zero, List.getD_cons_succ, ne_eq, not_false_eq_true, hin]
    exact ret_same (.inl rfl) (by simp [retAV, resAV, get]) (free_val _)
end Go.Aw
