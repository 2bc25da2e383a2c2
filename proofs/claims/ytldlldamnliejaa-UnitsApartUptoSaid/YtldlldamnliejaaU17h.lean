/- A walk of functions that the law reaches: what each call comes to. -/
import Derived.Test.YtldlldamnliejaaU17g
import Derived.Sort.Walk0
set_option linter.unusedSimpArgs false
set_option maxRecDepth 100000
namespace Go.Aw
open Go Go.Proofs

/-! Plain laws: ways are unlike. -/
theorem digits_inj (n : Nat) : ∀ (c : Nat) (a b : Int) (ds ds' : List Int), ds.length = ds'.length → digits n c a ds = digits n c b ds' → restK n c a = restK n c b → a = b ∧ ds = ds' := by
  intro c
  induction c with
  | zero => intro a b ds ds' _ h1 h2; exact ⟨h2, h1⟩
  | succ c ih =>
    intro a b ds ds' hl h1 h2
    obtain ⟨h3, h4⟩ := ih _ _ _ _ (by simp [hl]) h1 h2
    obtain ⟨h5, h6⟩ := List.cons.inj h4
    refine ⟨?_, h6⟩
    rw [← Int.mul_tdiv_add_tmod a (n + 1), ← Int.mul_tdiv_add_tmod b (n + 1), h3, h5]

theorem binds_names (us : List Int) : ∀ (vs : List ByteArray) (ds : List Int), ((bindsD us vs ds).map (·.1)).Sublist vs := by
  intro vs
  induction vs with
  | nil => intro ds; simp [bindsD]
  | cons v vs ih =>
    intro ds
    cases ds with
    | nil => simp [bindsD]
    | cons d ds =>
      simp only [bindsD]
      split
      · simpa using ih ds
      · simpa using (ih ds).cons v

theorem binds_syms (us : List Int) : ∀ (vs : List ByteArray) (ds : List Int), (∀ d ∈ ds, 0 ≤ d ∧ d < us.length + 1) → ∀ p ∈ bindsD us vs ds, p.2 ∈ us := by
  intro vs
  induction vs with
  | nil => intro ds _ p hp; simp [bindsD] at hp
  | cons v vs ih =>
    intro ds hd p hp
    cases ds with
    | nil => simp [bindsD] at hp
    | cons d ds =>
      simp only [bindsD, List.mem_append] at hp
      rcases hp with hp | hp
      · split at hp
        · obtain rfl : p = _ := by simpa using hp
          have := hd d (by simp)
          dsimp only
          rw [List.getElem?_eq_getElem (by omega)]
          simp
        · simp at hp
      · exact ih ds (fun d h => hd d (by simp [h])) p hp

theorem binds_inj (us : List Int) (hu : ∀ i j, i < us.length → j < us.length → us.getD i 0 = us.getD j 0 → i = j) : ∀ (vs : List ByteArray) (ds ds' : List Int), vs.Nodup → ds.length = vs.length → ds'.length = vs.length →
    (∀ d ∈ ds, 0 ≤ d ∧ d < us.length + 1) → (∀ d ∈ ds', 0 ≤ d ∧ d < us.length + 1) → bindsD us vs ds = bindsD us vs ds' → ds = ds' := by
  intro vs
  induction vs with
  | nil =>
    intro ds ds' _ h1 h2
    intros
    rw [List.length_eq_zero_iff.1 h1, List.length_eq_zero_iff.1 h2]
  | cons v vs ih =>
    intro ds ds' hn h1 h2 hd hd' h
    obtain ⟨hv, hn⟩ := List.nodup_cons.1 hn
    match ds, ds', h1, h2 with
    | d :: ds, d' :: ds', h1, h2 =>
      have a1 := hd d (by simp)
      have a2 := hd' d' (by simp)
      have not_in : ∀ (es : List Int) (u : Int) (r : List (ByteArray × Int)), (v, u) :: r ≠ bindsD us vs es := fun es u r e => by
        have : v ∈ (bindsD us vs es).map (·.1) := by rw [← e]; simp
        exact hv ((binds_names us vs es).subset this)
      simp only [bindsD] at h
      by_cases p1 : 0 < d
      · by_cases p2 : 0 < d'
        · rw [if_pos p1, if_pos p2] at h
          simp only [List.cons_append, List.nil_append, List.cons.injEq, Prod.mk.injEq, true_and] at h
          have e := hu _ _ (by omega) (by omega) h.1
          rw [ih ds ds' hn (by simpa using h1) (by simpa using h2) (fun d h => hd d (by simp [h])) (fun d h => hd' d (by simp [h])) h.2]
          congr 1; omega
        · rw [if_pos p1, if_neg p2] at h
          exact absurd h (not_in _ _ _)
      · by_cases p2 : 0 < d'
        · rw [if_neg p1, if_pos p2] at h
          exact absurd h.symm (not_in _ _ _)
        · rw [if_neg p1, if_neg p2] at h
          rw [ih ds ds' hn (by simpa using h1) (by simpa using h2) (fun d h => hd d (by simp [h])) (fun d h => hd' d (by simp [h])) h]
          congr 1; omega

theorem cmpT_leaf_iff (u v : Int) : cmpT (.mk ⟨#[]⟩ u []) (.mk ⟨#[]⟩ v []) = 0 ↔ u = v := by
  simp only [cmpT, cmpTs]
  by_cases h : u = v
  · simp [h]
  · by_cases h2 : u < v <;> simp [h, h2]
theorem sameB_iff (xs ys : List (ByteArray × Int)) : sameB (xs.map fun p => (p.1, Term.mk ⟨#[]⟩ p.2 [])) (ys.map fun p => (p.1, Term.mk ⟨#[]⟩ p.2 [])) = true ↔ xs = ys := by
  induction xs generalizing ys with
  | nil => cases ys <;> simp [sameB]
  | cons x xs ih =>
    obtain ⟨v, u⟩ := x
    cases ys with
    | nil => simp [sameB]
    | cons y ys =>
      obtain ⟨v', u'⟩ := y
      simp only [List.map_cons, sameB, Bool.and_eq_true, decide_eq_true_eq, cmpT_leaf_iff, ih, List.cons.injEq, Prod.mk.injEq]
      constructor
      · rintro ⟨⟨rfl, rfl⟩, rfl⟩; exact ⟨⟨rfl, rfl⟩, rfl⟩
      · rintro ⟨⟨rfl, rfl⟩, rfl⟩; exact ⟨⟨rfl, rfl⟩, rfl⟩
theorem strLt_trans {a b c : ByteArray} (h1 : strLt a b = true) (h2 : strLt b c = true) : strLt a c = true := by
  simp only [strLt, bytesLess_eq, decide_eq_true_eq] at *
  exact List.lt_trans h1 h2
theorem strLt_ne {a b : ByteArray} (h1 : strLt a b = true) : a ≠ b := by
  rintro rfl
  simp only [strLt, bytesLess_eq, decide_eq_true_eq] at h1
  exact List.lt_irrefl _ h1
/-- Names that rise. -/
theorem rise_pair : ∀ (vs : List ByteArray), (∀ i, i + 1 < vs.length → strLt (vs.getD i ⟨#[]⟩) (vs.getD (i + 1) ⟨#[]⟩) = true) → vs.Pairwise fun a b => strLt a b = true := by
  intro vs
  induction vs with
  | nil => intro _; exact .nil
  | cons v vs ih =>
    intro h
    have h2 := ih fun i hi => h (i + 1) (by simpa using hi)
    refine .cons (fun b hb => ?_) h2
    cases vs with
    | nil => cases hb
    | cons w vs =>
      have h0 : strLt v w = true := h 0 (by simp)
      rcases List.mem_cons.1 hb with rfl | hb
      · exact h0
      · exact strLt_trans h0 ((List.pairwise_cons.1 h2).1 b hb)
end Go.Aw
