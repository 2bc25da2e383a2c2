/- Terms, as the program's values hold them; the reference's order of them. -/
import Derived.Test.YtldlldamnliejaaBw23
namespace Go.Bw
open Go

inductive Term where
  | mk (var : ByteArray) (sym : Int) (args : List Term)
deriving Inhabited

mutual
def Term.enc : Term → List AV
  | .mk v s xs => [.val (.string v), .val (.int .i64 s), .sl false (encs xs) []]
def encs : List Term → List (List AV)
  | [] => []
  | a :: xs => a.enc :: encs xs
end
theorem encs_map (l : List Term) : encs l = l.map Term.enc := by
  induction l with
  | nil => rfl
  | cons a l ih => simp [encs, ih]

mutual
def Term.size : Term → Nat
  | .mk _ _ xs => 1 + sizes xs
def sizes : List Term → Nat
  | [] => 0
  | a :: xs => a.size + sizes xs
end
theorem size_mem {l : List Term} {t : Term} (h : t ∈ l) : t.size ≤ sizes l := by
  induction l with
  | nil => cases h
  | cons a l ih =>
    simp only [sizes]
    rcases List.mem_cons.1 h with rfl | h
    · omega
    · have := ih h; omega
theorem size_pos (t : Term) : 0 < t.size := by cases t; simp only [Term.size]; omega
theorem len_sizes (l : List Term) : l.length ≤ sizes l := by
  induction l with
  | nil => simp
  | cons a l ih => have := size_pos a; simp only [sizes, List.length_cons]; omega

mutual
def cmpT : Term → Term → Int
  | .mk v s xs, .mk u r ys =>
    if v = ⟨#[]⟩ ∧ u = ⟨#[]⟩ then
      if s ≠ r then (if s < r then -1 else 1)
      else if xs.length ≠ ys.length then (if xs.length < ys.length then -1 else 1) else cmpTs xs ys
    else if u = ⟨#[]⟩ then -1 else if v = ⟨#[]⟩ then 1 else if strLt v u then -1 else if strLt v u || decide (v = u) then 0 else 1
def cmpTs : List Term → List Term → Int
  | a :: xs, b :: ys => if cmpT a b ≠ 0 then cmpT a b else cmpTs xs ys
  | _, _ => 0
end

theorem free_encs {l : List Term} (h : ∀ t ∈ l, ∀ y ∈ t.enc, Free y) : Free (.sl false (encs l) []) := by
  refine free_sl fun e he c hc => ?_
  rw [List.append_nil, encs_map, List.mem_map] at he
  obtain ⟨t, ht, rfl⟩ := he
  exact h t ht c hc
theorem free_cells : ∀ (n : Nat) (t : Term), t.size ≤ n → ∀ y ∈ t.enc, Free y := by
  intro n
  induction n with
  | zero => intro t h; have := size_pos t; omega
  | succ n ih =>
    intro t h y hy
    obtain ⟨v, s, xs⟩ := t
    simp only [Term.enc, List.mem_cons, List.not_mem_nil, or_false] at hy
    rcases hy with rfl | rfl | rfl
    · exact free_val _
    · exact free_val _
    · refine free_encs fun t ht => ih t ?_
      have := size_mem ht
      simp only [Term.size] at h
      omega
theorem free_enc (t : Term) : ∀ y ∈ t.enc, Free y := free_cells t.size t (Nat.le_refl _)
theorem free_term (t : Term) : Free (.agg t.enc) := free_agg (free_enc t)
theorem enc_len (t : Term) : t.enc.length = 3 := by cases t; rfl
theorem enc_one (t : Term) : t.enc.all AV.one = true := by cases t; rfl

end Go.Bw
