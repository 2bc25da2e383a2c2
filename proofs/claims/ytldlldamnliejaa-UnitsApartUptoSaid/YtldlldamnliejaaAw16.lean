/- Own objects given up: frozen, and seen as values from then on; a nil slice as an object without elements; calls of functions that borrow objects, and of functions that work upon them. -/
import Derived.Test.YtldlldamnliejaaAw15
namespace Go.Aw
open Go

theorem Rep.monoG {w : World} {G G' : Nat → Prop} {m : Where} (hG : ∀ b, G b → G' b) {x : AV} {v : Value} (h : Rep w G m x v) : Rep w G' m x v := by
  induction h with
  | val v => exact .val v
  | any v => exact .any v
  | slnil f => exact .slnil f
  | slnone f a cap hf => exact .slnone f a cap hf
  | sl f es sp b o cap k vs hb hcap hf hk hc h1 _ ih => exact .sl f es sp b o cap k vs (hG b hb) hcap hf hk hc h1 ih
  | fptr cs b o vs hb hc h1 _ ih => exact .fptr cs b o vs (hG b hb) hc h1 ih
  | ref id i off b o k hmm => exact .ref id i off b o k hmm
  | rsl id i len cap b o k e n hmm hlen hsh hin => exact .rsl id i len cap b o k e n hmm hlen hsh hin
  | rslz id i a => exact .rslz id i a
  | clo fn fs cs vf vc hf hc _ _ ih1 ih2 => exact .clo fn fs cs vf vc hf hc ih1 ih2
  | agg cs vs hl _ ih => exact .agg cs vs hl ih
  | tup cs vs hl _ ih => exact .tup cs vs hl ih
  | ifc t x v _ ih => exact .ifc t x v ih

/-- The blocks of the call's own objects F. -/
def blkOf (F : Nat → Prop) (m : Where) (H : Nat → Option Ob) (b : Nat) : Prop := ∃ id es x, F id ∧ H id = some (false, es) ∧ m id = some x ∧ x.1 = b

/-- What x is, once nobody writes the objects F any more. -/
def Vw (F : Nat → Prop) (H : Nat → Option Ob) (x y : AV) : Prop := ∀ (w : World) (G : Nat → Prop) (m : Where) (v : Value), HeapOk w G m H → Rep w G m x v → Rep w (fun b => G b ∨ blkOf F m H b) m y v

section
variable {F : Nat → Prop} {H : Nat → Option Ob}
theorem vw_refl (x : AV) : Vw F H x x := fun _ _ _ _ _ h => h.monoG fun _ hb => .inl hb
theorem vw_any (x : AV) : Vw F H x .any := fun _ _ _ v _ _ => .any v
theorem vw_agg {cs ds : List AV} (hl : cs.length = ds.length) (h : ∀ j (h1 : j < cs.length) (h2 : j < ds.length), Vw F H cs[j] ds[j]) : Vw F H (.agg cs) (.agg ds) := fun w G m v hH hr => by
  cases hr with
  | agg _ vs hl' hr => exact .agg _ vs (hl ▸ hl') fun j hj => h j (hl ▸ hj) hj w G m _ hH (hr j (hl ▸ hj))
theorem vw_tup {cs ds : List AV} (hl : cs.length = ds.length) (h : ∀ j (h1 : j < cs.length) (h2 : j < ds.length), Vw F H cs[j] ds[j]) : Vw F H (.tup cs) (.tup ds) := fun w G m v hH hr => by
  cases hr with
  | tup _ vs hl' hr => exact .tup _ vs (hl ▸ hl') fun j hj => h j (hl ▸ hj) hj w G m _ hH (hr j (hl ▸ hj))

theorem vw_rsl' {id i n : Nat} {f : Bool} {es es' : List (List AV)} (hF : f = false → F id) (hid : H id = some (f, es)) (hin : i + n ≤ es.length) (hn : es'.length = n)
    (hk : ∀ t (h : t < es'.length), (es'[t]).length = (es[i + t]'(by omega)).length)
    (hc : ∀ t (h : t < es'.length) j (hj : j < (es'[t]).length), Vw F H ((es[i + t]'(by omega))[j]'(by rw [← hk t h]; exact hj)) ((es'[t])[j])) :
    Vw F H (.rsl id i n) (.sl false es' []) := fun w G m v hH hr => by
  cases hr with
  | rslz _ _ a =>
    have : es' = [] := List.length_eq_zero_iff.1 hn
    subst this
    cases a with
    | none => exact .slnil false
    | some ad => exact .slnone false ad 0 (by simp)
  | rsl _ _ _ cap b o k e sz hm hlen hsh hin2 =>
    subst hn
    by_cases h0 : es'.length = 0
    · have : es' = [] := List.length_eq_zero_iff.1 h0
      subst this
      exact .slnone false _ cap (by simp)
    have hob := hH.obj id _ hid
    obtain ⟨h1, _⟩ | ⟨hne, b', o', k', hm', hg, _, hkk, hcells⟩ := hob.out
    · dsimp only at h1; subst h1; simp only [List.length_nil] at hin; omega
    rw [hm] at hm'; cases hm'
    have hb : G b ∨ blkOf F m H b := by
      cases f with
      | true => exact .inl (hg rfl)
      | false => exact .inr ⟨id, es, _, hF rfl, hid, hm, rfl⟩
    have hcell : ∀ t (h : t < es'.length) j (hj : j < (es'[t]).length), ∃ v, w.cell? ⟨b, o + i * k + t * k + j, none⟩ = some v ∧ v.oneCell' = true ∧ Rep w (fun b => G b ∨ blkOf F m H b) m ((es'[t])[j]) v := fun t h j hj => by
      obtain ⟨v, e1, e2, e3⟩ := hcells (i + t) (by dsimp only; omega) j (by rw [← hk t h]; exact hj)
      refine ⟨v, ?_, e2, hc t h j hj w G m v hH e3⟩
      rw [← e1, Nat.add_mul]
      congr 2; omega
    have := Rep.sl (w := w) (G := fun b => G b ∨ blkOf F m H b) (m := m) false es' [] b (o + i * k) cap k (fun t j => (w.cell? ⟨b, o + i * k + t * k + j, none⟩).getD undef) hb (by simpa using hlen) (by simp)
      (fun t ht => by
        rw [List.getElem_append_left (by simpa using ht), hk t (by simpa using ht)]
        exact hkk (i + t) (by simp at ht; dsimp only; omega))
      (fun t ht j hj => by
        have ht' : t < es'.length := by simpa using ht
        have hj' : j < (es'[t]).length := by simpa [List.getElem_append_left ht'] using hj
        obtain ⟨v, e1, e2, e3⟩ := hcell t ht' j hj'
        rw [e1]; rfl)
      (fun t ht j hj => by
        have ht' : t < es'.length := by simpa using ht
        have hj' : j < (es'[t]).length := by simpa [List.getElem_append_left ht'] using hj
        obtain ⟨v, e1, e2, e3⟩ := hcell t ht' j hj'
        rw [e1]; exact e2)
      (fun t ht j hj => by
        have ht' : t < es'.length := by simpa using ht
        have hj' : j < (es'[t]).length := by simpa [List.getElem_append_left ht'] using hj
        obtain ⟨v, e1, e2, e3⟩ := hcell t ht' j hj'
        rw [e1]
        simpa [List.getElem_append_left ht'] using e3)
    exact this

theorem vw_rsl {id i n : Nat} {f : Bool} {es es' : List (List AV)} (hF : f = false → F id) (hid : H id = some (f, es)) (hin : i + n ≤ es.length) (he : es' = (es.drop i).take n) : Vw F H (.rsl id i n) (.sl false es' []) := by
  have hl : es'.length = n := by rw [he]; simp; omega
  have hg : ∀ t (h : t < es'.length), es'[t] = es[i + t]'(by omega) := fun t h => by subst he; simp
  refine vw_rsl' hF hid hin hl (fun t h => by rw [hg t h]) fun t h j hj => ?_
  have : (es'[t])[j] = (es[i + t]'(by omega))[j]'(by rw [← hg t h]; exact hj) := by simp only [hg t h]
  rw [this]; exact vw_refl _

theorem vw_ref {id i off : Nat} {f : Bool} {es : List (List AV)} {cs : List AV} (hF : f = false → F id) (hid : H id = some (f, es)) (hi : es[i]? = some cs) : Vw F H (.ref id i off) (.fptr (cs.drop off)) := fun w G m v hH hr => by
  cases hr with
  | ref _ _ _ b o k hm =>
    have hob := hH.obj id _ hid
    obtain ⟨hi', hcs⟩ := List.getElem?_eq_some_iff.1 hi
    obtain ⟨h1, _⟩ | ⟨hne, b', o', k', hm', hg, _, hkk, hcells⟩ := hob.out
    · dsimp only at h1; subst h1; simp at hi
    rw [hm] at hm'; cases hm'
    have hb : G b ∨ blkOf F m H b := by
      cases f with
      | true => exact .inl (hg rfl)
      | false => exact .inr ⟨id, es, _, hF rfl, hid, hm, rfl⟩
    have hcell : ∀ j (hj : j < (cs.drop off).length), ∃ v, w.cell? ⟨b, o + i * k + off + j, none⟩ = some v ∧ v.oneCell' = true ∧ Rep w (fun b => G b ∨ blkOf F m H b) m ((cs.drop off)[j]) v := fun j hj => by
      simp only [List.length_drop] at hj
      obtain ⟨v, e1, e2, e3⟩ := hcells i hi' (off + j) (by dsimp only; rw [hcs]; omega)
      refine ⟨v, by rw [← e1]; congr 2; omega, e2, ?_⟩
      have := e3.monoG (G' := fun b => G b ∨ blkOf F m H b) fun _ hb => .inl hb
      simpa [hcs] using this
    exact .fptr _ b _ (fun j => (w.cell? ⟨b, o + i * k + off + j, none⟩).getD undef) hb (fun j hj => by obtain ⟨v, e1, _⟩ := hcell j hj; rw [e1]; rfl)
      (fun j hj => by obtain ⟨v, e1, e2, _⟩ := hcell j hj; rw [e1]; exact e2) (fun j hj => by obtain ⟨v, e1, _, e3⟩ := hcell j hj; rw [e1]; exact e3)
end

/-- The objects F are not written any more. -/
theorem Le.freeze {n0 : Nat} {S : St} (F : Nat → Prop) (t : List (Nat × AV)) (h : Heap) (hn : ∀ id x, hget h id = some x → hget S.h id = some x ∧ ¬ F id ∧ x.1 = false)
    (ht : ∀ p ∈ t, Vw F (hget S.h) (get S.t p.1) p.2) : Le n0 S ⟨t, h, S.nx⟩ := by
  intro N w0 G0 m0 mu0 a w G m _ hI
  have hlt : ∀ b, blkOf F m (hget S.h) b → b < w.heap.size := by
    rintro b ⟨id, es, x, _, h1, h2, rfl⟩
    exact (hI.heap.obj id _ h1).lt h2
  refine ⟨fun b => G b ∨ blkOf F m (hget S.h) b, m, hI.tmps, hI.dfr, fun b hb => hb.elim (hI.g b) (hlt b), fun x => ?_, ⟨fun id y hy => ?_, fun i j es es' x y hi hj => hI.heap.apart i j es es' x y (hn _ _ hi).1 (hn _ _ hj).1⟩, ?_, fun id es x he => hI.own id es x (hn _ _ he).1, hI.ids⟩
  · dsimp only
    induction t with
    | nil => exact .any _
    | cons p r ih =>
      obtain ⟨i, v⟩ := p
      simp only [get]
      split
      · rename_i e; subst e; exact ht (x, v) (by simp) w G m _ hI.heap (hI.rep x)
      · exact ih (fun q hq => ht q (by simp [hq]))
  · obtain ⟨h1, h2, h3⟩ := hn id y hy
    obtain ⟨f, es⟩ := y
    dsimp only at h3; subst h3
    have hob := hI.heap.obj id _ h1
    obtain ⟨e1, e2⟩ | ⟨hne, b, o, k, hm, hg, hng, hk, hc⟩ := hob.out
    · exact ⟨.inl ⟨e1, e2⟩⟩
    refine ⟨.inr ⟨hne, b, o, k, hm, (fun h => by cases h), fun _ => ⟨fun hb => ?_, (hng rfl).2⟩, hk, fun i hi j hj => ?_⟩⟩
    · rcases hb with hb | ⟨id', es', x', hF', hh', hm', he'⟩
      · exact (hng rfl).1 hb
      · exact hI.heap.apart id' id es' es x' _ hh' h1 (fun e => h2 (e ▸ hF')) hm' hm he'
    · obtain ⟨v, e1, e2, e3⟩ := hc i hi j hj
      exact ⟨v, e1, e2, e3.monoG fun _ hb => .inl hb⟩
  · have ev := hI.ev
    refine ⟨ev.os, ev.tape, ev.output, ev.size, ev.blk, ev.shp, fun b hb => .inl (ev.sub b hb), fun b hb => ?_, fun hl b hb => hb.elim (ev.lt hl b) (hlt b), ev.ext⟩
    rcases hb with hb | ⟨id, es, x, _, h1, h2, rfl⟩
    · exact ev.new b hb
    · exact (hI.own id es x h1 h2).elim (fun h => .inr (.inr h)) (fun h => .inr (.inl h))

/-- Nothing is written any more. -/
theorem Le.freezeAll {n0 : Nat} {S : St} (t : List (Nat × AV)) (ht : ∀ p ∈ t, Vw (fun _ => True) (hget S.h) (get S.t p.1) p.2) : Le n0 S ⟨t, [], S.nx⟩ :=
  Le.freeze _ t [] (fun id x hx => by simp [hget] at hx) ht

/-- A nil slice is an object without elements. -/
theorem Le.nilOb {n0 : Nat} {S : St} (t : List (Nat × AV)) (ht : ∀ p ∈ t, get S.t p.1 = p.2 ∨ get S.t p.1 = .sl true [] [] ∧ p.2 = .rsl S.nx 0 0) : Le n0 S ⟨t, (S.nx, some (false, [])) :: S.h, S.nx + 1⟩ := by
  intro N w0 G0 m0 mu0 a w G m _ hI
  have hm : m S.nx = none := by
    cases h : m S.nx with
    | none => rfl
    | some x => exact absurd (hI.ids _ x h) (Nat.lt_irrefl _)
  have hs : ∀ id x, hget ((S.nx, some (false, [])) :: S.h) id = some x → (id = S.nx ∧ x = (false, [])) ∨ hget S.h id = some x := fun id x hx => by
    simp only [hget] at hx
    split at hx
    · cases hx; exact .inl ⟨by assumption, rfl⟩
    · exact .inr hx
  refine ⟨G, m, hI.tmps, hI.dfr, hI.g, fun x => ?_, ⟨fun id y hy => ?_, fun i j es es' x y hi hj hne hx hy => ?_⟩, hI.ev, fun id es x he hx => ?_, fun id x hx => Nat.lt_succ_of_lt (hI.ids id x hx)⟩
  · dsimp only
    induction t with
    | nil => exact .any _
    | cons p r ih =>
      obtain ⟨i, v⟩ := p
      simp only [get]
      split
      · rename_i e; subst e
        rcases ht (x, v) (by simp) with e | ⟨e, e'⟩
        · dsimp only at e; rw [← e]; exact hI.rep x
        · dsimp only at e e'; subst e'
          have := hI.rep x; rw [e] at this
          generalize a.tmps.getD x undef = u at this
          cases this with
          | slnil => exact .rslz _ _ _
          | slnone _ ad cap hf => have := hf rfl; subst this; exact .rslz _ _ _
          | sl _ _ _ b o cap k vs hG hcap hf =>
            have := hf rfl; simp only [List.length_nil, Nat.add_zero] at this; subst this; exact .rslz _ _ _
      · exact ih (fun q hq => ht q (by simp [hq]))
  · rcases hs id y hy with ⟨rfl, rfl⟩ | h1
    · exact ⟨.inl ⟨rfl, hm⟩⟩
    · exact hI.heap.obj id y h1
  · rcases hs i _ hi with ⟨rfl, _⟩ | h1
    · rw [hm] at hx; cases hx
    · rcases hs j _ hj with ⟨rfl, _⟩ | h2
      · rw [hm] at hy; cases hy
      · exact hI.heap.apart i j es es' x y h1 h2 hne hx hy
  · rcases hs id _ he with ⟨rfl, _⟩ | h1
    · rw [hm] at hx; cases hx
    · exact hI.own id es x h1 hx

/-! ### calls that borrow -/
/-- A value in which no memory is. -/
def Flat (x : AV) : Prop := ∀ (w : World) (G : Nat → Prop) (m : Where) (v : Value), Rep w G m x v → ∀ (w' : World) (G' : Nat → Prop) (m' : Where), Rep w' G' m' x v
theorem flat_val (v : Value) : Flat (.val v) := fun _ _ _ _ h _ _ _ => by cases h; exact .val v
theorem flat_tup {cs : List AV} (h : ∀ c ∈ cs, Flat c) : Flat (.tup cs) := fun w G m v hr w' G' m' => by
  cases hr with
  | tup _ vs hl hr => exact .tup _ vs hl fun j hj => h _ (List.getElem_mem hj) w G m _ (hr j hj) w' G' m'
theorem flat_agg {cs : List AV} (h : ∀ c ∈ cs, Flat c) : Flat (.agg cs) := fun w G m v hr w' G' m' => by
  cases hr with
  | agg _ vs hl hr => exact .agg _ vs hl fun j hj => h _ (List.getElem_mem hj) w G m _ (hr j hj) w' G' m'

theorem aCall_borrow {P : Program} {f : FuncId} {fs args cs vs : List AV} {S : St} {K : OK} {out : AV} (rd : List Nat) (h : Fn P f vs out)
    (hl : (fs ++ args ++ cs).length = vs.length) (hv : ∀ j (h1 : j < (fs ++ args ++ cs).length) (h2 : j < vs.length), Vw (fun _ => True) (restr rd (hget S.h)) (fs ++ args ++ cs)[j] vs[j])
    (hflat : Flat out) (hK : K rd 0 out []) : aCall P (.clo (.func f) fs cs) args S K := by
  refine ⟨rd, 0, out, [], ⟨h.enters, by simp [keys], by simp [frs], fun w G m us hg hlen hr hH _ => ?_⟩, hK⟩
  have hlt : ∀ b, G b ∨ blkOf (fun _ => True) m (restr rd (hget S.h)) b → b < w.heap.size := by
    rintro b (hb | ⟨id, es, x, _, h1, h2, rfl⟩)
    · exact hg b hb
    · exact (hH.obj id _ h1).lt h2
  have := h.run w (fun b => G b ∨ blkOf (fun _ => True) m (restr rd (hget S.h)) b) m us hlt (by rw [← hl]; exact hlen) (fun j hj => hv j (hl ▸ hj) hj w G m _ hH (hr j (hl ▸ hj)))
    ⟨fun id x hx => by simp [restr] at hx, fun i j es es' x y hi => by simp [restr] at hi⟩ (by simp)
  refine Calls.mono this ?_
  rintro e w' ⟨v, G', m', rfl, hres⟩
  have ev := hres.ev
  exact ⟨v, G, m, rfl, ⟨⟨ev.os, ev.tape, ev.output, ev.size, ev.blk, ev.shp, fun _ h => h, fun _ h => .inl h, fun hl b hb => Nat.lt_of_lt_of_le (hl b hb) ev.size, fun _ _ h => h⟩,
    hflat _ _ _ _ hres.rep _ _ _, by simp [Aw.hl], by simp [Aw.hl], by simp [Aw.hl], fun _ _ => rfl⟩⟩

end Go.Aw
