/- What a law is handed: readings turned into abstract values; what its walk gives. -/
import Derived.Test.YtldlldamnliejaaBw23
import Derived.Deep.Slices
import Derived.Deep.Strs
import Derived.Below
import Derived.WalkKit
import Derived.ProofKit
import Derived.OpenShut
import Derived.Carry
namespace Go.Bw
open Go Go.Deep Go.RowKit

/-- What cells stand for. -/
def CRep (w : World) (es : List AV) (cs : List Value) : Prop := es.length = cs.length ∧ ∀ j (hj : j < es.length), (cs.getD j undef).oneCell' = true ∧ Rep w (fun b => b < w.heap.size) (fun _ => none) es[j] (cs.getD j undef)

theorem crep_one {w : World} {x : AV} {v : Value} (h1 : v.oneCell' = true) (h : Rep w (fun b => b < w.heap.size) (fun _ => none) x v) : CRep w [x] [v] := ⟨rfl, fun j hj => by
  obtain rfl : j = 0 := by simpa using hj
  exact ⟨h1, h⟩⟩

theorem crep_append {w : World} {es es' : List AV} {cs cs' : List Value} (h : CRep w es cs) (h' : CRep w es' cs') : CRep w (es ++ es') (cs ++ cs') := by
  refine ⟨by simp [h.1, h'.1], fun j hj => ?_⟩
  by_cases hl : j < es.length
  · have e : (cs ++ cs').getD j undef = cs.getD j undef := by rw [List.getD_eq_getElem?_getD, List.getD_eq_getElem?_getD, List.getElem?_append_left (by rw [← h.1]; exact hl)]
    rw [e, List.getElem_append_left hl]
    exact h.2 j hl
  · have e : (cs ++ cs').getD j undef = cs'.getD (j - es.length) undef := by rw [List.getD_eq_getElem?_getD, List.getD_eq_getElem?_getD, List.getElem?_append_right (by rw [← h.1]; omega), h.1]
    have hj' : j - es.length < es'.length := by simp only [List.length_append] at hj; omega
    rw [e, List.getElem_append_right (by omega)]
    exact h'.2 _ hj'

theorem rep_slice {H : Type} {enc : TypeId × Value → H} {P : Program} {w : World} {sp : Nat → Bool} {held : Bool} {α : Type} [Inhabited α] (f : α → List AV) (Q : α → DataW H → Prop) {t e fuel k : Nat} {cs : List Value} {d : DataW H} {ps : List MemPlace}
    (ht : P.underlying t = some (.slice e)) (h : DataW.trod enc P w 0 sp held fuel t cs = some (d, ps)) (hk : P.cellsOf e = k) (hpos : 0 < k)
    (hf : ∀ n cs' d' ps', (∀ ds sp, d = .slice ds sp → d' ∈ ds ∨ d' ∈ sp) → d ≠ .nil → DataW.trod enc P w 0 sp held n e cs' = some (d', ps') → cs'.length = k → ∃ x, CRep w (f x) cs' ∧ Q x d') :
    ∃ (v : Value) (l : List α) (ds sp' : List (DataW H)), cs = [v] ∧ v.oneCell' = true ∧ Rep w (fun b => b < w.heap.size) (fun _ => none) (.sl false (l.map f) []) v ∧ (d = .nil ∧ l = [] ∧ ds = [] ∨ d = .slice ds sp') ∧ l.length = ds.length ∧
      ∀ i (h : i < l.length) (h' : i < ds.length), Q l[i] ds[i] := by
  rcases open_slice ht h with ⟨rfl, e⟩ | ⟨a, len, cap, m, n, D, Pl, rfl, hb, hlc, hcm, hm, e, hel⟩
  · cases e
    exact ⟨_, [], [], [], rfl, rfl, .slnil false, .inl ⟨rfl, rfl, rfl⟩, rfl, fun i h => by simp at h⟩
  · cases e
    have hlm : len ≤ m := by rw [hm]; split <;> omega
    have hx : ∀ i, i < len → ∃ x, ∃ cs', w.cells? 0 (a.add (i * P.cellsOf e)) (P.cellsOf e) = some cs' ∧ CRep w (f x) cs' ∧ Q x (D i) := fun i hi => by
      obtain ⟨cs', h1, h2⟩ := hel i (by omega)
      obtain ⟨x, h3, h4⟩ := hf n cs' (D i) (Pl i) (fun ds sp e => by cases e; exact .inl (List.mem_map.2 ⟨i, List.mem_range.2 hi, rfl⟩)) (by simp) h2 (by rw [← hk]; exact (World.cells?_some h1).2.1)
      exact ⟨x, cs', h1, h3, h4⟩
    obtain ⟨X, hX⟩ := choose_lt hx
    refine ⟨_, (List.range len).map X, (List.range len).map D, _, rfl, rfl, ?_, .inr rfl, by simp, fun i h1 h2 => ?_⟩
    · by_cases h0 : len = 0
      · subst h0; exact .slnone false a cap (by simp)
      · have hcell : ∀ i, i < len → ∀ j (hj : j < (f (X i)).length), ∃ v, w.cell? ⟨a.block, a.off + i * k + j, none⟩ = some v ∧ v.oneCell' = true ∧ Rep w (fun b => b < w.heap.size) (fun _ => none) ((f (X i))[j]) v := fun i hi j hj => by
          obtain ⟨cs', h1, h2, _⟩ := hX i hi
          have h3 := World.cells?_some h1
          have hjc : j < cs'.length := by rw [← h2.1]; exact hj
          have h4 := h3.2.2 j (by rw [← h3.2.1]; exact hjc)
          obtain ⟨h5, h6⟩ := h2.2 j hj
          rw [List.getElem?_eq_getElem hjc] at h4
          have e : cs'.getD j undef = cs'[j] := by simp [List.getD_eq_getElem?_getD, hjc]
          rw [e] at h5 h6
          refine ⟨_, ?_, h5, h6⟩
          rw [← h4, add_add, hk]
          unfold Addr.add
          split
          · rename_i e0
            have hsp : a.spot = none := by
              rw [add_add, hk] at h4
              unfold Addr.add at h4
              rw [if_pos e0] at h4
              simp only [World.cell?] at h4
              split at h4
              · cases hs : a.spot with
                | none => rfl
                | some z => rw [hs] at h4; simp at h4
              · cases h4
            obtain ⟨b, o, s⟩ := a
            dsimp only at hsp; subst hsp
            congr 2; dsimp only; omega
          · congr 2; omega
        have hspot : a.spot = none := by
          obtain ⟨cs', h1, h2, _⟩ := hX 0 (by omega)
          have h3 := World.cells?_some h1
          have h4 := h3.2.2 0 (by rw [hk]; exact hpos)
          rw [List.getElem?_eq_getElem (by rw [h3.2.1, hk]; exact hpos)] at h4
          simp only [Nat.zero_mul, Addr.add, if_true, World.cell?] at h4
          split at h4
          · cases hs : a.spot with
            | none => rfl
            | some z => rw [hs] at h4; simp at h4
          · cases h4
        have hlt : a.block < w.heap.size := by
          obtain ⟨cs', h1, h2, _⟩ := hX 0 (by omega)
          have := World.cells?_block h1 (by rw [hk]; exact hpos)
          simpa [Addr.add] using this
        have hlen : ∀ i, i < len → (f (X i)).length = k := fun i hi => by
          obtain ⟨cs', h1, h2, _⟩ := hX i hi
          rw [h2.1, ← hk]; exact (World.cells?_some h1).2.1
        obtain ⟨b, o, s⟩ := a
        dsimp only at hspot hlt hcell; subst hspot
        have := Rep.sl (w := w) (G := fun b => b < w.heap.size) (m := fun _ => none) false (((List.range len).map X).map f) [] b o cap k (fun i j => (w.cell? ⟨b, o + i * k + j, none⟩).getD undef) hlt (by simpa using hlc) (by simp)
          (fun i hi => by
            have hi' : i < len := by simpa using hi
            simpa using hlen i hi')
          (fun i hi j hj => by
            have hi' : i < len := by simpa using hi
            obtain ⟨v, e1, _⟩ := hcell i hi' j (by simpa using hj)
            rw [e1]; rfl)
          (fun i hi j hj => by
            have hi' : i < len := by simpa using hi
            obtain ⟨v, e1, e2, _⟩ := hcell i hi' j (by simpa using hj)
            rw [e1]; exact e2)
          (fun i hi j hj => by
            have hi' : i < len := by simpa using hi
            obtain ⟨v, e1, _, e3⟩ := hcell i hi' j (by simpa using hj)
            rw [e1]
            simpa using e3)
        simpa using this
    · have hi : i < len := by simpa using h1
      obtain ⟨_, _, _, h3⟩ := hX i hi
      simpa using h3

/-- What a law's walk gives. -/
theorem Fn.law {P : Program} {f : FuncId} {args : List AV} (h : Fn P f args (.val (.bool true))) {W : World} {vs : Array Value} (hl : args.length = vs.size) (hr : ∀ j (hj : j < args.length), Rep W (fun b => b < W.heap.size) (fun _ => none) args[j] (vs.getD j undef)) :
    Calls P f vs W fun e W' => e = .returned (.bool true) ∧ Below W.heap.size W W' := by
  refine Calls.mono (h.run W (fun b => b < W.heap.size) (fun _ => none) vs (fun _ h => h) hl hr ⟨fun id x hx => by simp [restr] at hx, fun i j es es' x y hi => by simp [restr] at hi⟩ (by simp)) ?_
  rintro e w' ⟨v, G', m', rfl, hres⟩
  have ev := hres.ev
  have hv := hres.rep
  cases hv
  exact ⟨rfl, ev.os, ev.tape, ev.output, ev.size, fun b hb => ev.blk b hb (by simp [keys])⟩


open Go.ChangeShapes Go.WideShapes Go.ChangeAt

theorem int_range {n : Int} (h : (Lit.int .i64 n).wf = true) : -9223372036854775808 ≤ n ∧ n ≤ 9223372036854775807 := by
  simpa [Lit.wf, IntKind.min, IntKind.max, IntKind.signed, IntKind.bits] using h

theorem open_slI {H : Type} {enc : TypeId × Value → H} {P : Program} {w : World} {sp : Nat → Bool} {held : Bool} {t e : Nat} {v : Value} {d : DataW H} {p : List MemPlace} (ht : P.underlying t = some (.slice e)) (he : P.underlying e = some (.int .i64))
    (hk : P.cellsOf e = 1) (hv : v.cells = #[v]) (h : DataW.Trod enc P w 0 sp held t v d p) :
    ∃ us : List Int, Rep w (fun b => b < w.heap.size) (fun _ => none) (slI us) v ∧ (∀ k ∈ us, -9223372036854775808 ≤ k ∧ k ≤ 9223372036854775807) ∧ (us = [] ∨ ∃ ds sp, d = .slice ds sp ∧ us.length = ds.length) := by
  obtain ⟨fuel, hf⟩ := h
  obtain ⟨v', l, ds, sp', h1, _, h2, h3, h4, h5⟩ := rep_slice (α := Int) (fun a => [avI a]) (fun a _ => -9223372036854775808 ≤ a ∧ a ≤ 9223372036854775807) ht hf hk (by omega) (fun n cs' d' ps' _ _ h _ => by
    obtain ⟨n', rfl, _, hw⟩ := DataW.trod_int he h
    exact ⟨n', crep_one rfl (.val _), int_range hw⟩)
  rw [hv] at h1
  obtain rfl : v = v' := by simpa using h1
  refine ⟨l, h2, fun k hk => ?_, h3.imp (fun h => h.2.1) fun h => ⟨ds, sp', h, h4⟩⟩
  obtain ⟨i, hi, rfl⟩ := List.mem_iff_getElem.1 hk
  exact h5 i hi (h4 ▸ hi)

theorem open_int {H : Type} {enc : TypeId × Value → H} {P : Program} {w : World} {sp : Nat → Bool} {held : Bool} {t : Nat} {n : Int} {d : DataW H} {p : List MemPlace} (ht : P.underlying t = some (.int .i64)) (h : DataW.Trod enc P w 0 sp held t (.int .i64 n) d p) :
    -9223372036854775808 ≤ n ∧ n ≤ 9223372036854775807 := by
  obtain ⟨_, hf⟩ := h
  obtain ⟨y, e, _, hw⟩ := DataW.trod_int ht hf
  obtain rfl : n = y := by simpa [Value.cells] using e
  exact int_range hw
theorem open_slS {H : Type} {enc : TypeId × Value → H} {P : Program} {w : World} {sp : Nat → Bool} {held : Bool} {t e : Nat} {v : Value} {d : DataW H} {p : List MemPlace} (ht : P.underlying t = some (.slice e)) (he : P.underlying e = some .string)
    (hk : P.cellsOf e = 1) (hv : v.cells = #[v]) (h : DataW.Trod enc P w 0 sp held t v d p) :
    ∃ us : List ByteArray, Rep w (fun b => b < w.heap.size) (fun _ => none) (slS us) v ∧ (us = [] ∨ ∃ ds sp, d = .slice ds sp ∧ us.length = ds.length) := by
  obtain ⟨fuel, hf⟩ := h
  obtain ⟨v', l, ds, sp', h1, _, h2, h3, h4, h5⟩ := rep_slice (α := ByteArray) (fun a => [avS a]) (fun a _ => True) ht hf hk (by omega) (fun n cs' d' ps' _ _ h _ => by
    have : ∃ s, cs' = [.string s] := by
      cases n with
      | zero => simp [DataW.trod] at h
      | succ n =>
        unfold DataW.trod at h
        rw [he] at h
        split at h <;> simp_all
    obtain ⟨s, rfl⟩ := this
    exact ⟨s, crep_one rfl (.val _), trivial⟩)
  rw [hv] at h1
  obtain rfl : v = v' := by simpa using h1
  exact ⟨l, h2, h3.imp (fun h => h.2.1) fun h => ⟨ds, sp', h, h4⟩⟩
end Go.Bw

