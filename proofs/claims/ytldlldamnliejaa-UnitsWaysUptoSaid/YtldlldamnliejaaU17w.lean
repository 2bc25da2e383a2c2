/- amalgamlaw17.UnitsWays returns true, and its arguments read as before, for all arguments of bulk at most 1048576 (the second form). -/
import Derived.Test.YtldlldamnliejaaU17g
import Derived.Test.YtldlldamnliejaaAw22
import Derived.Test.YtldlldamnliejaaRows
import Derived.WalkKit
import Derived.ProofKit
import Derived.OpenShut
import Derived.JoinedCond
import Derived.Carry
set_option linter.unusedVariables false
set_option maxRecDepth 100000
namespace Go.Aw
open Go Go.Deep Go.RowKit Go.ChangeShapes Go.WideShapes Go.ChangeAt

theorem int_range {n : Int} (h : (Lit.int .i64 n).wf = true) : -9223372036854775808 ≤ n ∧ n ≤ 9223372036854775807 := by
  simpa [Lit.wf, IntKind.min, IntKind.max, IntKind.signed, IntKind.bits] using h

theorem open_slI {H : Type} {enc : TypeId × Value → H} {P : Program} {w : World} {sp : Nat → Bool} {held : Bool} {t e : Nat} {v : Value} {d : DataW H} {p : List MemPlace} (ht : P.underlying t = some (.slice e)) (he : P.underlying e = some (.int .i64))
    (hk : P.cellsOf e = 1) (hv : v.cells = #[v]) (h : DataW.Trod enc P w 0 sp held t v d p) :
    ∃ us : List Int, Rep w (fun b => b < w.heap.size) (fun _ => none) (slI us) v ∧ (∀ k ∈ us, -9223372036854775808 ≤ k ∧ k ≤ 9223372036854775807) ∧ (us = [] ∨ ∃ ds sp, d = .slice ds sp ∧ us.length = ds.length) := by
  obtain ⟨fuel, hf⟩ := h
  obtain ⟨v', l, ds, sp', h1, _, h2, h3, h4, h5⟩ := rep_slice (α := Int) (fun a => [avI a]) (fun a _ => -9223372036854775808 ≤ a ∧ a ≤ 9223372036854775807) ht hf hk (by omega) (fun n cs' d' ps' _ _ h _ => by
    obtain ⟨n', rfl, _, hw⟩ := DataW.trod_int he h
    exact ⟨n', crep_one rfl (.val _), int_range hw⟩)
  rw [hv] at h1
  obtain rfl : v = v' := by simpa using h1
  refine ⟨l, h2, fun k hk => ?_, h3.imp (fun h => h.2.1) fun h => ⟨ds, sp', h, h4⟩⟩
  obtain ⟨i, hi, rfl⟩ := List.mem_iff_getElem.1 hk
  exact h5 i hi (h4 ▸ hi)

theorem open_slS {H : Type} {enc : TypeId × Value → H} {P : Program} {w : World} {sp : Nat → Bool} {held : Bool} {t e : Nat} {v : Value} {d : DataW H} {p : List MemPlace} (ht : P.underlying t = some (.slice e)) (he : P.underlying e = some .string)
    (hk : P.cellsOf e = 1) (hv : v.cells = #[v]) (h : DataW.Trod enc P w 0 sp held t v d p) :
    ∃ us : List ByteArray, Rep w (fun b => b < w.heap.size) (fun _ => none) (slS us) v ∧ (us = [] ∨ ∃ ds sp, d = .slice ds sp ∧ us.length = ds.length) := by
  obtain ⟨fuel, hf⟩ := h
  obtain ⟨v', l, ds, sp', h1, _, h2, h3, h4, h5⟩ := rep_slice (α := ByteArray) (fun a => [avS a]) (fun a _ => True) ht hf hk (by omega) (fun n cs' d' ps' _ _ h _ => by
    have : ∃ s, cs' = [.string s] := by
      cases n with
      | zero => simp [DataW.trod] at h
      | succ n =>
        unfold DataW.trod at h
        rw [he] at h
        split at h <;> simp_all
    obtain ⟨s, rfl⟩ := this
    exact ⟨s, crep_one rfl (.val _), trivial⟩)
  rw [hv] at h1
  obtain rfl : v = v' := by simpa using h1
  exact ⟨l, h2, h3.imp (fun h => h.2.1) fun h => ⟨ds, sp', h, h4⟩⟩
end Go.Aw

namespace Go.Proofs.Ytldlldamnliejaa.bulk
theorem one_le {H : Type} (d : DataW H) : 1 ≤ Rows.uptoBulk d := by
  cases d with
  | lit l => cases l <;> simp [Rows.uptoBulk]
  | nil => simp [Rows.uptoBulk]
  | ptr d => simp [Rows.uptoBulk]
  | slice elems spare => simp [Rows.uptoBulk]
  | agg parts => simp [Rows.uptoBulk]
  | iface t d => simp [Rows.uptoBulk]
  | map entries => simp [Rows.uptoBulk]
  | held h => simp [Rows.uptoBulk]
theorem length_le {H : Type} (l : List (DataW H)) : l.length ≤ Rows.uptoBulkAll l := by
  induction l with
  | nil => simp [Rows.uptoBulkAll]
  | cons x r ih => have := one_le x; simp only [Rows.uptoBulkAll, List.length_cons]; omega
theorem len {H : Type} {α : Type} {us : List α} {d : DataW H} {B : Nat} (h : us = [] ∨ ∃ ds sp, d = .slice ds sp ∧ us.length = ds.length) (hb : Rows.uptoBulk d ≤ B) : us.length ≤ B := by
  rcases h with rfl | ⟨ds, sp, rfl, e⟩
  · simp
  · have := length_le ds
    simp only [Rows.uptoBulk] at hb
    omega
end Go.Proofs.Ytldlldamnliejaa.bulk

namespace Go.Proofs.Ytldlldamnliejaa.unitsWays
open Go.ChangeShapes Go.WideShapes Go.ChangeAt Go.RowKit Go.Aw

theorem own : ownKnob Try.prog.godebug = none := by kernel_rfl
theorem laidOut : laidOutB Try.prog = true := by kernel_rfl

theorem contract (H : Type) (enc : TypeId × Value → H) (W : World) (base : Nat) (args : Array Value) (ds gs : List (DataW H)) (before : List MemPlace)
    (hval : ∀ (j : Nat) t v, Try.f3.params[j]? = some t → args[j]? = some v → Value.okWide Try.prog W .any base t v)
    (hW : DataW.Whole enc Try.prog Try.f3.params.toList Rows.unitsWaysSpec.vars false W args.toList ds gs before) (hk : Rows.uptoSmall H (ds ++ gs) = true) :
    Calls Try.prog 3 args W fun e W' => ∃ v, e = .returned v ∧ Rows.unitsWaysSpec.post enc Try.prog Try.f3 false true false false W args v W' := by
  have hW' := hW
  obtain ⟨p, q, hA0, hV, rfl, hfz, hnd⟩ := hW
  have hA : DataW.TrodAll enc Try.prog W 0 (fun _ => true) true Try.f3.params.toList args.toList ds p := hA0
  rw [Try.params3] at hA hval
  obtain ⟨v0, vs0, d0, ds0, p0, q0, hargs, rfl, rfl, h0, r0⟩ := trodAll_cons hA
  obtain ⟨v1, vs1, d1, ds1, p1, q1, rfl, rfl, rfl, h1, r1⟩ := trodAll_cons r0
  obtain ⟨v2, vs2, d2, ds2, p2, q2, rfl, rfl, rfl, h2, r2⟩ := trodAll_cons r1
  obtain ⟨rfl, rfl, rfl⟩ := trodAll_nil r2
  obtain rfl : args = #[v0, v1, v2] := by cases args; simp_all
  obtain ⟨rfl, rfl⟩ := trodVars_none hV
  have c0 : v0.cells = #[v0] := by obtain ⟨a, l, c, rfl⟩ := okWide_slice Try.underlying22 (hval 0 22 v0 rfl rfl); rfl
  have c1 : v1.cells = #[v1] := by obtain ⟨a, l, c, rfl⟩ := okWide_slice Try.underlying23 (hval 1 23 v1 rfl rfl); rfl
  have c2 : v2.cells = #[v2] := by obtain ⟨a, l, c, rfl⟩ := okWide_slice Try.underlying22 (hval 2 22 v2 rfl rfl); rfl
  obtain ⟨us, ru, _, lu⟩ := open_slI Try.underlying22 Try.underlying3 (by kernel_rfl) c0 h0
  obtain ⟨vs, rv, lv⟩ := open_slS Try.underlying23 Try.underlying9 (by kernel_rfl) c1 h1
  obtain ⟨ls, rl, kl, ll⟩ := open_slI Try.underlying22 Try.underlying3 (by kernel_rfl) c2 h2
  have hb : Rows.uptoBulkAll ([d0, d1, d2] ++ []) ≤ 1048576 := of_decide_eq_true hk
  simp only [List.append_nil, Rows.uptoBulkAll] at hb
  have walk := Fn.law (W := W) (vs := #[v0, v1, v2]) (unitsWays_fn us vs ls (bulk.len lu (by omega)) (bulk.len lv (by omega)) (bulk.len ll (by omega)) kl) rfl (fun j hj => by
    have : j = 0 ∨ j = 1 ∨ j = 2 := by simp at hj; omega
    rcases this with rfl | rfl | rfl
    · exact ru
    · exact rv
    · exact rl)
  have lt : ∀ x ∈ p0 ++ (p1 ++ (p2 ++ [])), x.block < W.heap.size := fun x hx => hW'.lt x (by simpa using hx)
  refine walk.mono fun e W' ⟨he, bel⟩ => ?_
  subst he
  exact ⟨_, rfl, _, _, _, [], _, [], hW', trodAll_mk1 (shut_bool Try.underlying4 _),
    (trodAll_cons_mk (Below.trod laidOut (by kernel_rfl) (of_decide_eq_true (by kernel_rfl)) h0 bel fun x hx => lt x (by simp [hx])) (trodAll_cons_mk (Below.trod laidOut (by kernel_rfl) (of_decide_eq_true (by kernel_rfl)) h1 bel fun x hx => lt x (by simp [hx]))
      (trodAll_cons_mk (Below.trod laidOut (by kernel_rfl) (of_decide_eq_true (by kernel_rfl)) h2 bel fun x hx => lt x (by simp [hx])) trodAll_mk0))), rfl, bel.frame _, fun h => by cases h⟩

set_option maxRecDepth 100000 in
theorem lifted (os : Os) (started : os.Started) (H : Type) (enc : TypeId × Value → H) (F : Stop.Interp) :
    ReturnsInHanded {} Try.checked os 3 .any ((Rows.OpenSpec.upto Rows.unitsWaysSpec).pre6 enc Try.prog Try.f3 Rows.unitsWaysUptoRow.domain false) (((Rows.OpenSpec.upto Rows.unitsWaysSpec).at F).post enc Try.prog Try.f3 false true false false) := by
  refine returnsInHanded_of_cond (C := Try.checked) (s := Rows.OpenSpec.upto Rows.unitsWaysSpec) (k := Rows.uptoSmall) rfl own started (by kernel_rfl) Try.func3
    (OpenSpec.witness (enc := enc) (C := Try.checked) (s := Rows.OpenSpec.upto Rows.unitsWaysSpec) (k := Rows.uptoSmall) rfl false ⟨#[], #[.slice none 0 0, .slice none 0 0, .slice none 0 0], []⟩ 8 (by kernel_rfl) (by kernel_rfl) (by kernel_rfl)
      (x := ([.nil, .nil, .nil], [], [])) (by kernel_rfl) rfl (by kernel_rfl)) ?_
  intro W base args ds gs before hval hW _ hk _
  exact contract H enc W base args ds gs before hval hW hk

theorem proved : Rows.UnitsWaysUptoSaid :=
  OpenClaim.holds_of_cond 3 Try.f3 rfl rfl rfl rfl rfl rfl rfl ⟨rfl, rfl, rfl, rfl, rfl⟩ rfl rfl rfl rfl rfl (by kernel_rfl) Try.func3 (by kernel_rfl)
    (of_decide_eq_true (by kernel_rfl)) (by unfold Func.isWrapper; first | (rw [if_pos (by decide +kernel)]; kernel_rfl) | (rw [if_neg (by decide +kernel)]; exact ⟨rfl, rfl⟩))
    (fun os started H enc _ F => lifted os started H enc F)
end Go.Proofs.Ytldlldamnliejaa.unitsWays
namespace Go.Proofs.Ytldlldamnliejaa
theorem unitsWays_holds : Rows.UnitsWaysUptoSaid := unitsWays.proved
end Go.Proofs.Ytldlldamnliejaa
