/- A walk of functions that the law reaches: what each call comes to. -/
import Derived.Test.YtldlldamnliejaaAw23
import Derived.Test.YtldlldamnliejaaRows
import Derived.JoinedCond
set_option linter.unusedVariables false
namespace Go.Proofs.Ytldlldamnliejaa.bulk
theorem one_le {H : Type} (d : DataW H) : 1 ≤ Rows.uptoBulk d := by
  cases d with
  | lit l => cases l <;> simp [Rows.uptoBulk]
  | nil => simp [Rows.uptoBulk]
  | ptr d => simp [Rows.uptoBulk]
  | slice elems spare => simp [Rows.uptoBulk]
  | agg parts => simp [Rows.uptoBulk]
  | iface t d => simp [Rows.uptoBulk]
  | map entries => simp [Rows.uptoBulk]
  | held h => simp [Rows.uptoBulk]
theorem length_le {H : Type} (l : List (DataW H)) : l.length ≤ Rows.uptoBulkAll l := by
  induction l with
  | nil => simp [Rows.uptoBulkAll]
  | cons x r ih => have := one_le x; simp only [Rows.uptoBulkAll, List.length_cons]; omega
theorem len {H : Type} {α : Type} {us : List α} {d : DataW H} {B : Nat} (h : us = [] ∨ ∃ ds sp, d = .slice ds sp ∧ us.length = ds.length) (hb : Rows.uptoBulk d ≤ B) : us.length ≤ B := by
  rcases h with rfl | ⟨ds, sp, rfl, e⟩
  · simp
  · have := length_le ds
    simp only [Rows.uptoBulk] at hb
    omega
end Go.Proofs.Ytldlldamnliejaa.bulk

