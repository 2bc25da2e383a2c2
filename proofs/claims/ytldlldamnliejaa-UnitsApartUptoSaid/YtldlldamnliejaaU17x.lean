/- amalgamlaw17.UnitsApart returns true, and its argument reads as before, for all arguments of bulk at most 1048576 (the second form). -/
import Derived.Test.YtldlldamnliejaaU17i
import Derived.Test.YtldlldamnliejaaB17
import Derived.Lib.SmallJoins
set_option linter.unusedVariables false
set_option maxRecDepth 100000
namespace Go.Aw
open Go Go.Deep Go.RowKit Go.ChangeShapes Go.WideShapes Go.ChangeAt

theorem take_one {α : Type} {l : List α} {i : Nat} {v : α} (h : (l.drop i).take 1 = [v]) : l[i]? = some v := by
  have := congrArg (fun x => x[0]?) h
  simpa using this
theorem four {α : Type} {l : List α} {a b c d : α} (hl : l.length = 4) (h0 : l[0]? = some a) (h1 : l[1]? = some b) (h2 : l[2]? = some c) (h3 : l[3]? = some d) : l = [a, b, c, d] := by
  match l, hl with
  | [x, y, z, w], _ => simp at h0 h1 h2 h3; simp [h0, h1, h2, h3]
end Go.Aw
namespace Go.Proofs.Ytldlldamnliejaa.unitsApart
open Go.ChangeShapes Go.WideShapes Go.ChangeAt Go.RowKit Go.Aw Go.Joins Go.Deep

theorem own : ownKnob Try.prog.godebug = none := by kernel_rfl
theorem laidOut : laidOutB Try.prog = true := by kernel_rfl

theorem opened {H : Type} {enc : TypeId × Value → H} {W : World} {v : Value} {d : DataW H} {p : List MemPlace} {cs : Array Value} (hv : v = .agg cs) (h : DataW.Trod enc Try.prog W 0 (fun _ => true) true 32 v d p) (hb : Rows.uptoBulk d ≤ 1048576) :
    ∃ (us : List Int) (vs : List ByteArray) (a b : Int), Rep W (fun b => b < W.heap.size) (fun _ => none) (.agg (encW us vs a b)) v ∧ us.length ≤ 1048576 ∧ vs.length ≤ 1048576 ∧
      (-9223372036854775808 ≤ a ∧ a ≤ 9223372036854775807) ∧ (-9223372036854775808 ≤ b ∧ b ≤ 9223372036854775807) := by
  obtain ⟨fuel, hf⟩ := h
  obtain ⟨y0, y1, y2, y3, n, e, hl, h0, h1, h2, h3⟩ := trod_struct4 Try.underlying32 hf
  subst hv
  have k1 : Try.prog.cellsOf 22 = 1 := by kernel_rfl
  have k2 : Try.prog.cellsOf 23 = 1 := by kernel_rfl
  have k3 : Try.prog.cellsOf 3 = 1 := by kernel_rfl
  have k9 : Try.prog.cellsOf 9 = 1 := by kernel_rfl
  have k4 : Try.prog.cellsOf 32 = 4 := by kernel_rfl
  dsimp only at h0 h1 h2 h3
  rw [k1] at h0
  rw [k2] at h1
  rw [k3] at h2 h3
  rw [k4] at hl
  cases e
  obtain ⟨v0, us, ds0, sp0, c0, _, ru, du, lu, _⟩ := rep_slice (α := Int) (fun a => [avI a]) (fun _ _ => True) Try.underlying22 (d := y0.1) (ps := y0.2) h0 k3 (by omega) (fun n cs' d' ps' _ _ h _ => by
    obtain ⟨n', rfl, _, hw⟩ := DataW.trod_int Try.underlying3 h
    exact ⟨n', crep_one rfl (.val _), trivial⟩)
  obtain ⟨v1, vs, ds1, sp1, c1, _, rv, dv, lv, _⟩ := rep_slice (α := ByteArray) (fun a => [avS a]) (fun _ _ => True) Try.underlying23 (d := y1.1) (ps := y1.2) h1 k9 (by omega) (fun n cs' d' ps' _ _ h _ => by
    have : ∃ s, cs' = [.string s] := by
      cases n with
      | zero => simp [DataW.trod] at h
      | succ n =>
        unfold DataW.trod at h
        rw [Try.underlying9] at h
        split at h <;> simp_all
    obtain ⟨s, rfl⟩ := this
    exact ⟨s, crep_one rfl (.val _), trivial⟩)
  obtain ⟨a, c2, _, ha⟩ := DataW.trod_int Try.underlying3 h2
  obtain ⟨b, c3, _, hb2⟩ := DataW.trod_int Try.underlying3 h3
  have hcs := four (by simpa [Value.cells] using hl) (take_one c0) (take_one c1) (take_one c2) (take_one c3)
  simp only [Value.cells] at hcs
  simp only [Rows.uptoBulk, Rows.uptoBulkAll] at hb
  refine ⟨us, vs, a, b, ?_, bulk.len (d := y0.1) (du.imp (fun h => h.2.1) fun h => ⟨ds0, sp0, h, lu⟩) (by omega), bulk.len (d := y1.1) (dv.imp (fun h => h.2.1) fun h => ⟨ds1, sp1, h, lv⟩) (by omega), int_range ha, int_range hb2⟩
  obtain rfl : cs = #[v0, v1, .int .i64 a, .int .i64 b] := by rw [← hcs]
  refine .agg _ _ rfl fun j hj => ?_
  have : j = 0 ∨ j = 1 ∨ j = 2 ∨ j = 3 := by simp [encW] at hj; omega
  rcases this with rfl | rfl | rfl | rfl
  · exact ru
  · exact rv
  · exact .val _
  · exact .val _

theorem contract (H : Type) (enc : TypeId × Value → H) (W : World) (base : Nat) (args : Array Value) (ds gs : List (DataW H)) (before : List MemPlace)
    (hval : ∀ (j : Nat) t v, Try.f4.params[j]? = some t → args[j]? = some v → Value.okWide Try.prog W .any base t v)
    (hW : DataW.Whole enc Try.prog Try.f4.params.toList Rows.unitsApartSpec.vars false W args.toList ds gs before) (hk : Rows.uptoSmall H (ds ++ gs) = true) :
    Calls Try.prog 4 args W fun e W' => ∃ v, e = .returned v ∧ Rows.unitsApartSpec.post enc Try.prog Try.f4 false true false false W args v W' := by
  have hW' := hW
  obtain ⟨p, q, hA0, hV, rfl, hfz, hnd⟩ := hW
  have hA : DataW.TrodAll enc Try.prog W 0 (fun _ => true) true Try.f4.params.toList args.toList ds p := hA0
  rw [Try.params4] at hA hval
  obtain ⟨v0, vs0, d0, ds0, p0, q0, hargs, rfl, rfl, h0, r0⟩ := trodAll_cons hA
  obtain ⟨rfl, rfl, rfl⟩ := trodAll_nil r0
  obtain rfl : args = #[v0] := by cases args; simp_all
  obtain ⟨rfl, rfl⟩ := trodVars_none hV
  obtain ⟨cs, hcs, _⟩ := okWide_struct Try.underlying32 (hval 0 32 v0 rfl rfl)
  have hb : Rows.uptoBulkAll ([d0] ++ []) ≤ 1048576 := of_decide_eq_true hk
  simp only [List.append_nil, Rows.uptoBulkAll] at hb
  obtain ⟨us, vs, a, b, hr, lu, lv, ha, hb2⟩ := opened hcs h0 (by omega)
  have walk := Fn.law (W := W) (vs := #[v0]) (apart_fn us vs a b lu lv ha hb2) rfl (fun j hj => by
    obtain rfl : j = 0 := by simpa using hj
    exact hr)
  have lt : ∀ x ∈ p0 ++ [], x.block < W.heap.size := fun x hx => hW'.lt x (by simpa using hx)
  refine walk.mono fun e W' ⟨he, bel⟩ => ?_
  subst he
  exact ⟨_, rfl, _, _, _, [], _, [], hW', trodAll_mk1 (shut_bool Try.underlying4 _),
    (trodAll_cons_mk (Below.trod laidOut (by kernel_rfl) (of_decide_eq_true (by kernel_rfl)) h0 bel fun x hx => lt x (by simp [hx])) trodAll_mk0), rfl, bel.frame _, fun h => by cases h⟩

theorem lifted (os : Os) (started : os.Started) (H : Type) (enc : TypeId × Value → H) (F : Stop.Interp) :
    ReturnsInHanded {} Try.checked os 4 .any ((Rows.OpenSpec.upto Rows.unitsApartSpec).pre6 enc Try.prog Try.f4 Rows.unitsApartUptoRow.domain false) (((Rows.OpenSpec.upto Rows.unitsApartSpec).at F).post enc Try.prog Try.f4 false true false false) := by
  refine returnsInHanded_of_cond (C := Try.checked) (s := Rows.OpenSpec.upto Rows.unitsApartSpec) (k := Rows.uptoSmall) rfl own started (by kernel_rfl) Try.func4
    (OpenSpec.witness (enc := enc) (C := Try.checked) (s := Rows.OpenSpec.upto Rows.unitsApartSpec) (k := Rows.uptoSmall) rfl false ⟨#[], #[.agg #[.slice none 0 0, .slice none 0 0, .int .i64 0, .int .i64 0]], []⟩ 8 (by kernel_rfl) (by kernel_rfl) (by kernel_rfl)
      (x := ([.agg [.nil, .nil, .lit (.int .i64 0), .lit (.int .i64 0)]], [], [])) (by kernel_rfl) rfl (by kernel_rfl)) ?_
  intro W base args ds gs before hval hW _ hk _
  exact contract H enc W base args ds gs before hval hW hk

theorem proved : Rows.UnitsApartUptoSaid :=
  OpenClaim.holds_of_cond 4 Try.f4 rfl rfl rfl rfl rfl rfl rfl ⟨rfl, rfl, rfl, rfl, rfl⟩ rfl rfl rfl rfl rfl (by kernel_rfl) Try.func4 (by kernel_rfl)
    (of_decide_eq_true (by kernel_rfl)) (by unfold Func.isWrapper; first | (rw [if_pos (by decide +kernel)]; kernel_rfl) | (rw [if_neg (by decide +kernel)]; exact ⟨rfl, rfl⟩))
    (fun os started H enc _ F => lifted os started H enc F)
end Go.Proofs.Ytldlldamnliejaa.unitsApart
namespace Go.Proofs.Ytldlldamnliejaa
theorem unitsApart_holds : Rows.UnitsApartUptoSaid := unitsApart.proved
end Go.Proofs.Ytldlldamnliejaa
