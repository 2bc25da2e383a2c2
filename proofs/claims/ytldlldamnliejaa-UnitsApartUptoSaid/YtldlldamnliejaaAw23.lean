/- A law's arguments, opened: whole numbers, strings, slices of them. -/
import Derived.Test.YtldlldamnliejaaAw22
import Derived.WalkKit
import Derived.ProofKit
import Derived.OpenShut
import Derived.Carry
set_option linter.unusedVariables false
set_option maxRecDepth 100000
namespace Go.Aw
open Go Go.Deep Go.RowKit Go.ChangeShapes Go.WideShapes Go.ChangeAt

theorem int_range {n : Int} (h : (Lit.int .i64 n).wf = true) : -9223372036854775808 ≤ n ∧ n ≤ 9223372036854775807 := by
  simpa [Lit.wf, IntKind.min, IntKind.max, IntKind.signed, IntKind.bits] using h

theorem open_slI {H : Type} {enc : TypeId × Value → H} {P : Program} {w : World} {sp : Nat → Bool} {held : Bool} {t e : Nat} {v : Value} {d : DataW H} {p : List MemPlace} (ht : P.underlying t = some (.slice e)) (he : P.underlying e = some (.int .i64))
    (hk : P.cellsOf e = 1) (hv : v.cells = #[v]) (h : DataW.Trod enc P w 0 sp held t v d p) :
    ∃ us : List Int, Rep w (fun b => b < w.heap.size) (fun _ => none) (slI us) v ∧ (∀ k ∈ us, -9223372036854775808 ≤ k ∧ k ≤ 9223372036854775807) ∧ (us = [] ∨ ∃ ds sp, d = .slice ds sp ∧ us.length = ds.length) := by
  obtain ⟨fuel, hf⟩ := h
  obtain ⟨v', l, ds, sp', h1, _, h2, h3, h4, h5⟩ := rep_slice (α := Int) (fun a => [avI a]) (fun a _ => -9223372036854775808 ≤ a ∧ a ≤ 9223372036854775807) ht hf hk (by omega) (fun n cs' d' ps' _ _ h _ => by
    obtain ⟨n', rfl, _, hw⟩ := DataW.trod_int he h
    exact ⟨n', crep_one rfl (.val _), int_range hw⟩)
  rw [hv] at h1
  obtain rfl : v = v' := by simpa using h1
  refine ⟨l, h2, fun k hk => ?_, h3.imp (fun h => h.2.1) fun h => ⟨ds, sp', h, h4⟩⟩
  obtain ⟨i, hi, rfl⟩ := List.mem_iff_getElem.1 hk
  exact h5 i hi (h4 ▸ hi)

theorem open_slS {H : Type} {enc : TypeId × Value → H} {P : Program} {w : World} {sp : Nat → Bool} {held : Bool} {t e : Nat} {v : Value} {d : DataW H} {p : List MemPlace} (ht : P.underlying t = some (.slice e)) (he : P.underlying e = some .string)
    (hk : P.cellsOf e = 1) (hv : v.cells = #[v]) (h : DataW.Trod enc P w 0 sp held t v d p) :
    ∃ us : List ByteArray, Rep w (fun b => b < w.heap.size) (fun _ => none) (slS us) v ∧ (us = [] ∨ ∃ ds sp, d = .slice ds sp ∧ us.length = ds.length) := by
  obtain ⟨fuel, hf⟩ := h
  obtain ⟨v', l, ds, sp', h1, _, h2, h3, h4, h5⟩ := rep_slice (α := ByteArray) (fun a => [avS a]) (fun a _ => True) ht hf hk (by omega) (fun n cs' d' ps' _ _ h _ => by
    have : ∃ s, cs' = [.string s] := by
      cases n with
      | zero => simp [DataW.trod] at h
      | succ n =>
        unfold DataW.trod at h
        rw [he] at h
        split at h <;> simp_all
    obtain ⟨s, rfl⟩ := this
    exact ⟨s, crep_one rfl (.val _), trivial⟩)
  rw [hv] at h1
  obtain rfl : v = v' := by simpa using h1
  exact ⟨l, h2, h3.imp (fun h => h.2.1) fun h => ⟨ds, sp', h, h4⟩⟩
end Go.Aw

